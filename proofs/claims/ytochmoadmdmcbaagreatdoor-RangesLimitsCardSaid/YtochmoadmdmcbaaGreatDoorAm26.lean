/- Answers that stand for functions of the library: slices.Sort and slices.Compact at whole numbers. -/
import Derived.Test.YtochmoadmdmcbaaGreatDoorAm25
import Derived.Lib.SlicesCompact
import Derived.Lib.RowBridge
namespace Go.Am
set_option linter.unusedSimpArgs false
set_option linter.unusedVariables false
open Go Go.RowKit Go.Proofs Go.Sort Go.Shelf

def int1 : V → Option Int
  | .int .i64 a => some a
  | _ => none
theorem int1_eq {x : V} {a : Int} (h : int1 x = some a) : x = .int .i64 a := by
  unfold int1 at h
  split at h
  · simp only [Option.some.injEq] at h
    subst h
    rfl
  · cases h
def ints : List V → Option (List Int)
  | [] => some []
  | x :: r => (int1 x).bind fun a => (ints r).bind fun l => some (a :: l)
theorem ints_of : ∀ l : List Int, ints (l.map (V.int .i64)) = some l
  | [] => rfl
  | a :: r => by
    show (int1 (.int .i64 a)).bind (fun a => (ints (r.map (V.int .i64))).bind fun l => some (a :: l)) = _
    rw [ints_of r]
    rfl
theorem ints_eq : ∀ {cs : List V} {l : List Int}, ints cs = some l → cs = l.map (V.int .i64)
  | [], l, h => by
    simp only [ints, Option.some.injEq] at h
    subst h
    rfl
  | x :: r, l, h => by
    simp only [ints, Option.bind_eq_some_iff, Option.some.injEq] at h
    obtain ⟨a, ha, l', hl, rfl⟩ := h
    rw [int1_eq ha, ints_eq hl]
    rfl

def sortI (l : List Int) : List Int := l.mergeSort fun x y => decide (x ≤ y)

def orcSortI (ro : Nat) (args : List V) (h : Hp) : Option (V × Hp) :=
  match args with
  | [.nsl] => some (.tup [], h)
  | [.esl] => some (.tup [], h)
  | [.sl b o n _] => if n = 0 then some (.tup [], h) else if ro ≤ b ∧ n ≤ 1000000 then
      match h.get b with
      | some (.cells z L) => if z = 1 then (loadN L o n).bind fun cs => (ints cs).bind fun l => (setN L o ((sortI l).map (V.int .i64))).bind fun L' => some (.tup [], h.set b (.cells z L')) else none
      | _ => none
    else none
  | _ => none

def cmpI (l : List Int) : List Int := Lib.compact l ++ List.replicate (l.length - (Lib.compact l).length) 0

def orcCmp (ro : Nat) (args : List V) (h : Hp) : Option (V × Hp) :=
  match args with
  | [.nsl] => some (.nsl, h)
  | [.esl] => some (.esl, h)
  | [.sl b o n 0] => if n = 0 then some (.sl b o 0 0, h) else if ro ≤ b ∧ n ≤ 1000000 then
      match h.get b with
      | some (.cells z L) => if z = 1 then (loadN L o n).bind fun cs => (ints cs).bind fun l => (setN L o ((cmpI l).map (V.int .i64))).bind fun L' => some (.sl b o (Lib.compact l).length 0, h.set b (.cells z L')) else none
      | _ => none
    else none
  | _ => none

theorem ints_rel {ρ : Nat → Pl} {nx : Nat} : ∀ l : List Int, VRs ρ nx (l.map (V.int .i64)) (l.map (Value.int .i64))
  | [] => VRs.nil
  | a :: r => by
    show VRs ρ nx (.int .i64 a :: r.map (V.int .i64)) (.int .i64 a :: r.map (Value.int .i64))
    exact VRs.cons (by simp only [VR]) (ints_rel r)

/-- A run of stores into an array. -/
def setA (d : Array Int) : Nat → List Int → Array Int
  | _, [] => d
  | s, v :: r => setA (d.setIfInBounds s v) (s + 1) r
theorem setA_size : ∀ (vs : List Int) (s : Nat) (d : Array Int), (setA d s vs).size = d.size
  | [], _, _ => rfl
  | v :: r, s, d => by rw [setA, setA_size r]; simp
theorem setA_get : ∀ (vs : List Int) (s : Nat) (d : Array Int) (t : Nat), s + vs.length ≤ d.size → (setA d s vs)[t]? = if s ≤ t ∧ t < s + vs.length then vs[t - s]? else d[t]?
  | [], s, d, t, _ => by simp [setA]; omega
  | v :: r, s, d, t, h => by
    simp only [List.length_cons] at h
    rw [setA, setA_get r (s + 1) _ t (by simp; omega)]
    by_cases h1 : s + 1 ≤ t ∧ t < s + 1 + r.length
    · rw [if_pos h1, if_pos (by simp; omega)]
      obtain ⟨u, rfl⟩ : ∃ u, t = s + 1 + u := ⟨t - (s + 1), by omega⟩
      simp [show s + 1 + u - s = u + 1 by omega]
    · rw [if_neg h1]
      by_cases h2 : s = t
      · subst h2
        have : s < d.size := by omega
        rw [if_pos (by simp), Array.getElem?_setIfInBounds, if_pos rfl]
        simp [this]
      · rw [if_neg (by simp; omega), Array.getElem?_setIfInBounds_ne h2]
theorem setA_all {vs : List Int} {d : Array Int} (h : vs.length = d.size) : setA d 0 vs = vs.toArray := by
  apply Array.ext_getElem?
  intro t
  rw [setA_get vs 0 d t (by omega)]
  split
  · simp
  · rw [Array.getElem?_eq_none (by omega)]
    simp
    omega

theorem setCells_putA (w : World) (blk off : Nat) : ∀ (vs : List Int) (s : Nat) (d : Array Int), s + vs.length ≤ d.size →
    (putRow (Value.int .i64) w blk off d).setCells blk (off + s) (vs.map (Value.int .i64)) = putRow (Value.int .i64) w blk off (setA d s vs)
  | [], _, _, _ => rfl
  | v :: r, s, d, h => by
    simp only [List.length_cons] at h
    rw [List.map_cons, World.setCells, putRow_set (Value.int .i64) w blk off d s v (by omega), Nat.add_assoc, setCells_putA w blk off r (s + 1) _ (by simp; omega)]
    rfl

theorem putRow_eq {w : World} {blk off : Nat} {d l : List Int} (hl : l.length = d.length) (hH : Holds (Value.int .i64) w blk off d.toArray) :
    putRow (Value.int .i64) w blk off l.toArray = w.setCells blk off (l.map (Value.int .i64)) := by
  have h1 := setCells_putA w blk off l 0 d.toArray (by simp; omega)
  rw [Nat.add_zero, putRow_self (Value.int .i64) w blk off d.toArray hH, setA_all (by simpa using hl)] at h1
  exact h1.symm

/-- What is known of a slice of whole numbers of one's own. -/
theorem own_ints [Dr] {B : Nat} {w0 w : World} {ro : Nat} {ρ : Nat → Pl} {h : Hp} {b o n : Nat} {L : List V} {l : List Int} (hr : Rel B w0 ro ρ h w) (hg : h.get b = some (.cells 1 L)) (hro : ro ≤ b) (hle : o + n ≤ L.length) (hcs : (L.drop o).take n = l.map (V.int .i64)) :
    l.length = n ∧ (∀ j, j < n → w.cell? ⟨(ρ b).blk, (ρ b).sh + o + j, none⟩ = some (.int .i64 (l.getD j 0)) ∧ w.frozen? ⟨(ρ b).blk, (ρ b).sh + o + j, none⟩ = false) := by
  have hl : l.length = n := by
    have := congrArg List.length hcs
    simp at this
    omega
  obtain ⟨_, _, _, hown, hcell⟩ := hr.blk b _ hg
  refine ⟨hl, fun j hj => ?_⟩
  have hLj : L[o + j]? = some (.int .i64 (l.getD j 0)) := by
    have : ((L.drop o).take n)[j]? = (l.map (V.int .i64))[j]? := by rw [hcs]
    have hjl : l[j]? = some l[j] := List.getElem?_eq_getElem (by omega)
    rw [List.getElem?_take, if_pos hj, List.getElem?_drop, List.getElem?_map, hjl] at this
    rw [this, List.getD_eq_getElem?_getD, hjl]
    rfl
  obtain ⟨u, hu, hv⟩ := hcell (o + j) _ hLj
  simp only [VR] at hv
  subst hv
  rw [← Nat.add_assoc] at hu
  exact ⟨hu, (hown hro).unfrozen _ (by rw [hu]; rfl)⟩

theorem holds_ints {w : World} {blk off n : Nat} {l : List Int} (hl : l.length = n) (h : ∀ j, j < n → w.cell? ⟨blk, off + j, none⟩ = some (.int .i64 (l.getD j 0)) ∧ w.frozen? ⟨blk, off + j, none⟩ = false) : Holds (Value.int .i64) w blk off l.toArray := fun j hj => by
  have hj' : j < n := by simpa [hl] using hj
  obtain ⟨h1, h2⟩ := h j hj'
  refine ⟨?_, h2⟩
  rw [h1]
  have : l.toArray[j]! = l.getD j 0 := by
    simp [List.getD_eq_getElem?_getD, show j < l.length by omega]
  rw [this]

theorem Bel.grown' [Dr] {w : World} {m : Nat} {os : Array Obj} : Bel w.heap.size w (grow (Sort.ahead w m) os) := Bel.grown

theorem orcSortI_ok [Dr] {P : Program} {f : Nat} (he : Enters P f)
    (hnone : ∀ (p : Option Addr) (cap : Nat) (w : World), Calls P f #[.slice p 0 cap] w fun e w' => e = .returned (.tuple #[]) ∧ w' = w)
    (hsort : ∀ (blk off cap : Nat) (zs : List Int) (w : World), Holds (Value.int .i64) w blk off zs.toArray → blk < w.heap.size → zs.length < 4611686018427387904 →
      Calls P f #[.slice (some ⟨blk, off, none⟩) zs.length cap] w fun e w' => e = .returned (.tuple #[]) ∧ ∃ n os, w' = grow (putRow (Value.int .i64) (Sort.ahead w n) blk off (sortI zs).toArray) os) : OrcOk P f orcSortI where
  enters := he
  ext := fun {ro args h r h'} H => by
    unfold orcSortI at H
    split at H
    · simp only [Option.some.injEq, Prod.mk.injEq] at H
      obtain ⟨_, rfl⟩ := H
      exact Ext.refl _ _
    · simp only [Option.some.injEq, Prod.mk.injEq] at H
      obtain ⟨_, rfl⟩ := H
      exact Ext.refl _ _
    · split at H
      · simp only [Option.some.injEq, Prod.mk.injEq] at H
        obtain ⟨_, rfl⟩ := H
        exact Ext.refl _ _
      · split at H
        · rename_i hc
          split at H
          · rename_i z L hg
            split at H
            · simp only [Option.bind_eq_some_iff, Option.some.injEq, Prod.mk.injEq] at H
              obtain ⟨cs, _, l, _, L', _, _, rfl⟩ := H
              exact Ext.set hc.1 hg _
            · cases H
          · cases H
        · cases H
    · cases H
  calls := fun {ro args h r h'} H {B w0 ρ w args'} hg hr ha => by
    have nil : ∀ (p : Option Addr) (cap : Nat), Calls P f #[.slice p 0 cap] w (Post B w0 ro ρ h.nx (.tup []) h) := fun p cap =>
      (hnone p cap w).mono fun e w' ⟨he, hw⟩ => by
        subst hw
        exact ⟨_, ρ, he, fun _ _ => rfl, Nat.le_refl _, by simp only [VR]; exact ⟨#[], rfl, VRs.nil⟩, hr⟩
    unfold orcSortI at H
    split at H
    · simp only [Option.some.injEq, Prod.mk.injEq] at H
      obtain ⟨rfl, rfl⟩ := H
      simp only [VRs, VR] at ha
      obtain ⟨u0, us, rfl, rfl, rfl⟩ := ha
      exact nil _ _
    · simp only [Option.some.injEq, Prod.mk.injEq] at H
      obtain ⟨rfl, rfl⟩ := H
      simp only [VRs, VR] at ha
      obtain ⟨u0, us, rfl, ⟨a, c', rfl⟩, rfl⟩ := ha
      exact nil _ _
    · rename_i b o n c
      simp only [VRs, VR] at ha
      obtain ⟨u0, us, rfl, ⟨hb, c', rfl, hn, _, _⟩, rfl⟩ := ha
      split at H
      · rename_i hn0
        subst hn0
        simp only [Option.some.injEq, Prod.mk.injEq] at H
        obtain ⟨rfl, rfl⟩ := H
        exact nil _ _
      · split at H
        · rename_i hc
          obtain ⟨hro, hnM⟩ := hc
          split at H
          · rename_i z L hgt
            split at H
            · rename_i hz
              subst hz
              simp only [Option.bind_eq_some_iff, Option.some.injEq, Prod.mk.injEq] at H
              obtain ⟨cs, hcs, l, hl, L', hL', rfl, rfl⟩ := H
              obtain ⟨hle, rfl⟩ := loadN_eq hcs
              obtain ⟨hle2, rfl⟩ := setN_eq hL'
              obtain ⟨hll, hcell⟩ := own_ints hr hgt hro hle (ints_eq hl)
              have hH := holds_ints hll hcell
              have key := hsort (ρ b).blk ((ρ b).sh + o) c' l w hH (hr.pos b _ hgt).1 (by omega)
              rw [hll] at key
              refine key.mono fun e w' ⟨he, m, os, hw⟩ => ?_
              have hw2 : w' = grow (Sort.ahead (w.setCells (ρ b).blk ((ρ b).sh + o) ((sortI l).map (Value.int .i64))) m) os := by
                rw [hw, putRow_ahead, putRow_eq (d := l) (by simp [sortI]) hH]
              subst hw2
              exact ⟨_, ρ, he, fun _ _ => rfl, Nat.le_refl _, by simp only [VR]; exact ⟨#[], rfl, VRs.nil⟩, (hr.store hgt hro (o := o) hle2 (ints_rel _)).same Bel.grown⟩
            · cases H
          · cases H
        · cases H
    · cases H

theorem orcCmp_ok [Dr] {P : Program} {f : Nat} (he : Enters P f)
    (hnone : ∀ (p : Option Addr) (cap : Nat) (w : World), Calls P f #[.slice p 0 cap] w fun e w' => e = .returned (.slice p 0 cap) ∧ w' = w)
    (hcmp : ∀ (b off n c : Nat) (zs : List Int) (w : World), n ≤ zs.length → n ≤ 9223372036854775807 → n ≤ c → (∀ j, j < zs.length → w.cell? ⟨b, off + j, none⟩ = some (.int .i64 (zs.getD j 0))) → (∀ j, j < n → w.frozen? ⟨b, off + j, none⟩ = false) →
      Calls P f #[.slice (some ⟨b, off, none⟩) n c] w fun e w' => e = .returned (.slice (some ⟨b, off, none⟩) (Lib.compact (zs.take n)).length c) ∧ ∃ q, w' = (w.drewN q).setCells b off ((Lib.compact (zs.take n) ++ List.replicate (n - (Lib.compact (zs.take n)).length) 0).map (Value.int .i64))) : OrcOk P f orcCmp where
  enters := he
  ext := fun {ro args h r h'} H => by
    unfold orcCmp at H
    split at H
    · simp only [Option.some.injEq, Prod.mk.injEq] at H
      obtain ⟨_, rfl⟩ := H
      exact Ext.refl _ _
    · simp only [Option.some.injEq, Prod.mk.injEq] at H
      obtain ⟨_, rfl⟩ := H
      exact Ext.refl _ _
    · split at H
      · simp only [Option.some.injEq, Prod.mk.injEq] at H
        obtain ⟨_, rfl⟩ := H
        exact Ext.refl _ _
      · split at H
        · rename_i hc
          split at H
          · rename_i z L hg
            split at H
            · simp only [Option.bind_eq_some_iff, Option.some.injEq, Prod.mk.injEq] at H
              obtain ⟨cs, _, l, _, L', _, _, rfl⟩ := H
              exact Ext.set hc.1 hg _
            · cases H
          · cases H
        · cases H
    · cases H
  calls := fun {ro args h r h'} H {B w0 ρ w args'} hg hr ha => by
    unfold orcCmp at H
    split at H
    · simp only [Option.some.injEq, Prod.mk.injEq] at H
      obtain ⟨rfl, rfl⟩ := H
      simp only [VRs, VR] at ha
      obtain ⟨u0, us, rfl, rfl, rfl⟩ := ha
      refine (hnone _ _ w).mono fun e w' ⟨he, hw⟩ => ?_
      subst hw
      exact ⟨_, ρ, he, fun _ _ => rfl, Nat.le_refl _, by simp only [VR], hr⟩
    · simp only [Option.some.injEq, Prod.mk.injEq] at H
      obtain ⟨rfl, rfl⟩ := H
      simp only [VRs, VR] at ha
      obtain ⟨u0, us, rfl, ⟨a, c', rfl⟩, rfl⟩ := ha
      refine (hnone _ _ w).mono fun e w' ⟨he, hw⟩ => ?_
      subst hw
      exact ⟨_, ρ, he, fun _ _ => rfl, Nat.le_refl _, by simp only [VR]; exact ⟨a, c', rfl⟩, hr⟩
    · rename_i b o n
      simp only [VRs, VR] at ha
      obtain ⟨u0, us, rfl, ⟨hb, c', rfl, hn, hc1, hc2⟩, rfl⟩ := ha
      split at H
      · rename_i hn0
        subst hn0
        simp only [Option.some.injEq, Prod.mk.injEq] at H
        obtain ⟨rfl, rfl⟩ := H
        refine (hnone _ _ w).mono fun e w' ⟨he, hw⟩ => ?_
        subst hw
        exact ⟨_, ρ, he, fun _ _ => rfl, Nat.le_refl _, by simp only [VR]; exact ⟨hb, c', rfl, hn, hc1, hc2⟩, hr⟩
      · split at H
        · rename_i hc
          obtain ⟨hro, hnM⟩ := hc
          split at H
          · rename_i z L hgt
            split at H
            · rename_i hz
              subst hz
              simp only [Option.bind_eq_some_iff, Option.some.injEq, Prod.mk.injEq] at H
              obtain ⟨cs, hcs, l, hl, L', hL', rfl, rfl⟩ := H
              obtain ⟨hle, rfl⟩ := loadN_eq hcs
              obtain ⟨hle2, rfl⟩ := setN_eq hL'
              obtain ⟨hll, hcell⟩ := own_ints hr hgt hro hle (ints_eq hl)
              have key := hcmp (ρ b).blk ((ρ b).sh + o) n c' l w (by omega) (by omega) hn (fun j hj => (hcell j (by omega)).1) (fun j hj => (hcell j hj).2)
              rw [List.take_of_length_le (by omega)] at key
              refine key.mono fun e w' ⟨he, q, hw⟩ => ?_
              have hcl := Lib.compact_length_le l
              have hw2 : w' = (w.drewN q).setCells (ρ b).blk ((ρ b).sh + o) ((cmpI l).map (Value.int .i64)) := by
                rw [hw, ← hll]
                rfl
              subst hw2
              have hr2 : Rel B w0 ro ρ h (w.drewN q) := hr.same ⟨rfl, rfl, rfl, Nat.le_refl _, fun _ _ => rfl, fun _ => Nat.le_add_right _ _⟩
              refine ⟨_, ρ, he, fun _ _ => rfl, Nat.le_refl _, ?_, hr2.store hgt hro (o := o) hle2 (ints_rel _)⟩
              simp only [VR]
              exact ⟨hb, c', rfl, by omega, hc1, by omega⟩
            · cases H
          · cases H
        · cases H
    · cases H
end Go.Am
