/- Answers that stand for functions of the library: slices.SortFunc at pairs of whole numbers. -/
import Derived.Test.YtochmoadmdmcbaaGreatDoorAm23
import Derived.Shelf.SlSortCmp.NoneTotal
namespace Go.Am
set_option linter.unusedSimpArgs false
set_option linter.unusedVariables false
open Go Go.RowKit Go.Proofs Go.Sort Go.Shelf

def rg2 : V → V → Option (Int × Int)
  | .int .i64 a, .int .i64 b => some (a, b)
  | _, _ => none
theorem rg2_eq {x y : V} {p : Int × Int} (h : rg2 x y = some p) : x = .int .i64 p.1 ∧ y = .int .i64 p.2 := by
  unfold rg2 at h
  split at h
  · simp only [Option.some.injEq] at h
    subst h
    exact ⟨rfl, rfl⟩
  · cases h

def rgs : List V → Option (List (Int × Int))
  | [] => some []
  | [_] => none
  | x :: y :: r => (rg2 x y).bind fun p => (rgs r).bind fun l => some (p :: l)
theorem rgs_flat : ∀ l : List (Int × Int), rgs (flat l) = some l
  | [] => rfl
  | (a, b) :: r => by
    show (rg2 (.int .i64 a) (.int .i64 b)).bind (fun p => (rgs (flat r)).bind fun l => some (p :: l)) = _
    rw [rgs_flat r]
    rfl
theorem rgs_eq : ∀ {cs : List V} {l : List (Int × Int)}, rgs cs = some l → cs = flat l
  | [], l, h => by
    simp only [rgs, Option.some.injEq] at h
    subst h
    rfl
  | [_], l, h => by simp [rgs] at h
  | x :: y :: r, l, h => by
    simp only [rgs, Option.bind_eq_some_iff, Option.some.injEq] at h
    obtain ⟨p, hp, l', hl, rfl⟩ := h
    obtain ⟨rfl, rfl⟩ := rg2_eq hp
    rw [rgs_eq hl]
    rfl

/-- How two ranges compare: by their beginnings, then by their ends. -/
def cfR (x y : Int × Int) : Int := if Lib.compareInt x.1 y.1 = 0 then Lib.compareInt x.2 y.2 else Lib.compareInt x.1 y.1
def leR (x y : Int × Int) : Bool := !(ltOf cfR) y x
def sortR (l : List (Int × Int)) : List (Int × Int) := l.mergeSort leR

theorem cmp_lt (x y : Int) : Lib.compareInt x y < 0 ↔ x < y := by
  unfold Lib.compareInt
  split
  · simp_all
  · split <;> simp_all
theorem cmp_eq (x y : Int) : Lib.compareInt x y = 0 ↔ x = y := by
  unfold Lib.compareInt
  split
  · simp; omega
  · split
    · simp; omega
    · simp; omega
theorem lt_iff (x y : Int × Int) : ltOf cfR x y = true ↔ x.1 < y.1 ∨ (x.1 = y.1 ∧ x.2 < y.2) := by
  unfold ltOf cfR
  split
  · rename_i h
    have := (cmp_eq _ _).1 h
    simp only [decide_eq_true_eq, cmp_lt]
    omega
  · rename_i h
    have h2 : x.1 ≠ y.1 := fun e => h ((cmp_eq _ _).2 e)
    simp only [decide_eq_true_eq, cmp_lt]
    omega
theorem lt_false (x y : Int × Int) : ltOf cfR x y = false ↔ ¬ (x.1 < y.1 ∨ (x.1 = y.1 ∧ x.2 < y.2)) := by
  rw [← lt_iff, Bool.not_eq_true]
theorem swoR : Sort.SWO (ltOf cfR) where
  irrefl x := by rw [lt_false]; omega
  trans x y z h1 h2 := by rw [lt_iff] at *; omega
  ntrans x y z h1 h2 := by rw [lt_false] at *; omega
theorem totR (x y : Int × Int) (h1 : ltOf cfR x y = false) (h2 : ltOf cfR y x = false) : x = y := by
  rw [lt_false] at h1 h2
  exact Prod.ext (by omega) (by omega)
theorem leR_iff (x y : Int × Int) : leR x y = true ↔ x.1 < y.1 ∨ (x.1 = y.1 ∧ x.2 ≤ y.2) := by
  unfold leR
  rw [Bool.not_eq_true', lt_false]
  omega

theorem sortR_len (l : List (Int × Int)) : (sortR l).length = l.length := List.length_mergeSort _
theorem sortR_mem (l : List (Int × Int)) (p : Int × Int) : p ∈ sortR l ↔ p ∈ l := (List.mergeSort_perm l leR).mem_iff
theorem sortR_sorted (l : List (Int × Int)) : (sortR l).Pairwise fun p q => p.1 ≤ q.1 := by
  have h : (sortR l).Pairwise fun a b => leR a b = true := List.pairwise_mergeSort (fun a b c h1 h2 => by rw [leR_iff] at *; omega) (fun a b => by
    rw [Bool.or_eq_true, leR_iff, leR_iff]
    omega) l
  exact h.imp fun {a b} h => by
    rw [leR_iff] at h
    omega

def orcSort (g : Nat) (ro : Nat) (args : List V) (h : Hp) : Option (V × Hp) :=
  match args with
  | [.nsl, _] => some (.tup [], h)
  | [.esl, _] => some (.tup [], h)
  | [.sl b o n _, .fn (.func f) [] []] => if n = 0 then some (.tup [], h) else if f = g ∧ ro ≤ b ∧ n ≤ 1000000 then
      match h.get b with
      | some (.cells z L) => if z = 2 then (loadN L o (n * 2)).bind fun cs => (rgs cs).bind fun l => (setN L o (flat (sortR l))).bind fun L' => some (.tup [], h.set b (.cells z L')) else none
      | _ => none
    else none
  | _ => none

theorem flat_int {v : V} : ∀ {l : List (Int × Int)}, v ∈ flat l → ∃ n, v = .int .i64 n
  | (a, b) :: r, h => by
    simp only [flat, List.mem_cons] at h
    rcases h with rfl | rfl | h
    · exact ⟨_, rfl⟩
    · exact ⟨_, rfl⟩
    · exact flat_int h

/-- A range's two cells. -/
def encR (x : Int × Int) : List Value := [.int .i64 x.1, .int .i64 x.2]
def valsR : List (Int × Int) → List Value
  | [] => []
  | (a, b) :: r => .int .i64 a :: .int .i64 b :: valsR r
theorem valsR_len : ∀ l, (valsR l).length = l.length * 2
  | [] => rfl
  | (a, b) :: r => by simp only [valsR, List.length_cons, valsR_len r]; omega
theorem valsR_rel {ρ : Nat → Pl} {nx : Nat} : ∀ l, VRs ρ nx (flat l) (valsR l)
  | [] => VRs.nil
  | (a, b) :: r => by
    show VRs ρ nx (.int .i64 a :: .int .i64 b :: flat r) (.int .i64 a :: .int .i64 b :: valsR r)
    exact VRs.cons (by simp only [VR]) (VRs.cons (by simp only [VR]) (valsR_rel r))
theorem valsR_get : ∀ (l : List (Int × Int)) (t : Nat), t < l.length * 2 → (valsR l)[t]! = (encR (l.toArray)[t / 2]!)[t % 2]!
  | (a, b) :: r, 0, _ => by simp [valsR, encR]
  | (a, b) :: r, 1, _ => by simp [valsR, encR]
  | (a, b) :: r, t + 2, h => by
    have ih := valsR_get r t (by simp only [List.length_cons] at h; omega)
    have h1 : (t + 2) / 2 = t / 2 + 1 := by omega
    have h2 : (t + 2) % 2 = t % 2 := by omega
    rw [h1, h2]
    simpa [valsR] using ih

theorem valsR_flatK (d l : List (Int × Int)) (hl : l.length = d.length) : setMany (flatK encR 2 d.toArray) 0 (valsR l) = flatK encR 2 l.toArray := by
  refine ext_get! (by simp [hl]) fun t ht => ?_
  have ht' : t < d.length * 2 := by simpa using ht
  rw [get_setMany _ _ _ t (by simpa using ht'), if_pos (by rw [valsR_len, hl]; omega), Nat.sub_zero, valsR_get l t (by omega), get_flatK _ _ l.toArray t (by simpa [hl] using ht')]

theorem sortWorld_eq {w : World} {blk off m : Nat} {d l : List (Int × Int)} {os : Array Obj} (hl : l.length = d.length) (hH : HoldsK encR 2 w blk off d.toArray) :
    sortWorldK encR 2 w blk off m l.toArray os = grow (Sort.ahead (w.setCells blk off (valsR l)) m) os := by
  have h1 := setCells_putRow w blk off (valsR l) 0 (flatK encR 2 d.toArray) (by rw [valsR_len]; simp [hl])
  have h2 := putRowK_self (enc := encR) (k := 2) w blk off d.toArray hH
  rw [Nat.add_zero] at h1
  unfold putRowK at h2
  rw [h2, valsR_flatK d l hl] at h1
  rw [h1]
  rfl

theorem Bel.grown [Dr] {w : World} {m : Nat} {os : Array Obj} : Bel w.heap.size w (grow (Sort.ahead w m) os) :=
  ⟨rfl, rfl, rfl, by simp [grow, Sort.ahead], fun k hk => by
    simp only [grow, Sort.ahead]
    rw [Array.getElem?_append_left hk], fun _ => by simp only [grow, Sort.ahead]; omega⟩

theorem orcSort_ok [Dr] {P : Program} {f g : Nat} (he : Enters P f)
    (hnone : ∀ (p : Option Addr) (cap : Nat) (fv : Value) (w : World), Calls P f #[.slice p 0 cap, fv] w fun e w' => e = .returned (.tuple #[]) ∧ w' = w)
    (hsort : ∀ (blk off cap : Nat) (d : Array (Int × Int)) (w : World), HoldsK encR 2 w blk off d → blk < w.heap.size → d.size < 4611686018427387904 →
      Calls P f #[.slice (some ⟨blk, off, none⟩) d.size cap, .func (.func g) #[] #[]] w fun e w' => e = .returned (.tuple #[]) ∧ ∃ n os, w' = sortWorldK encR 2 w blk off n (d.toList.mergeSort fun x y => !(ltOf cfR) y x).toArray os) :
    OrcOk P f (orcSort g) where
  enters := he
  ext := fun {ro args h r h'} H => by
    unfold orcSort at H
    split at H
    · simp only [Option.some.injEq, Prod.mk.injEq] at H
      obtain ⟨_, rfl⟩ := H
      exact Ext.refl _ _
    · simp only [Option.some.injEq, Prod.mk.injEq] at H
      obtain ⟨_, rfl⟩ := H
      exact Ext.refl _ _
    · split at H
      · simp only [Option.some.injEq, Prod.mk.injEq] at H
        obtain ⟨_, rfl⟩ := H
        exact Ext.refl _ _
      · split at H
        · rename_i hc
          split at H
          · rename_i z L hg
            split at H
            · simp only [Option.bind_eq_some_iff, Option.some.injEq, Prod.mk.injEq] at H
              obtain ⟨cs, _, l, _, L', _, _, rfl⟩ := H
              exact Ext.set hc.2.1 hg _
            · cases H
          · cases H
        · cases H
    · cases H
  calls := fun {ro args h r h'} H {B w0 ρ w args'} hg hr ha => by
    have nil : ∀ (p : Option Addr) (cap : Nat) (fv : Value), Calls P f #[.slice p 0 cap, fv] w (Post B w0 ro ρ h.nx (.tup []) h) := fun p cap fv =>
      (hnone p cap fv w).mono fun e w' ⟨he, hw⟩ => by
        subst hw
        exact ⟨_, ρ, he, fun _ _ => rfl, Nat.le_refl _, by simp only [VR]; exact ⟨#[], rfl, VRs.nil⟩, hr⟩
    unfold orcSort at H
    split at H
    · simp only [Option.some.injEq, Prod.mk.injEq] at H
      obtain ⟨rfl, rfl⟩ := H
      simp only [VRs, VR] at ha
      obtain ⟨u0, us, rfl, rfl, u1, us', rfl, _, rfl⟩ := ha
      exact nil _ _ _
    · simp only [Option.some.injEq, Prod.mk.injEq] at H
      obtain ⟨rfl, rfl⟩ := H
      simp only [VRs, VR] at ha
      obtain ⟨u0, us, rfl, ⟨a, c', rfl⟩, u1, us', rfl, _, rfl⟩ := ha
      exact nil _ _ _
    · rename_i b o n c fx
      simp only [VRs, VR] at ha
      obtain ⟨u0, us, rfl, ⟨hb, c', rfl, hn, _, _⟩, u1, us', rfl, ⟨xs, ys, rfl, hx, hy⟩, rfl⟩ := ha
      split at H
      · rename_i hn0
        subst hn0
        simp only [Option.some.injEq, Prod.mk.injEq] at H
        obtain ⟨rfl, rfl⟩ := H
        exact nil _ _ _
      · split at H
        · rename_i hc
          obtain ⟨rfl, hro, hnM⟩ := hc
          split at H
          · rename_i z L hgt
            split at H
            · rename_i hz
              subst hz
              simp only [Option.bind_eq_some_iff, Option.some.injEq, Prod.mk.injEq] at H
              obtain ⟨cs, hcs, l, hl, L', hL', rfl, rfl⟩ := H
              obtain ⟨hle, rfl⟩ := loadN_eq hcs
              have hfl := rgs_eq hl
              have hll : l.length = n := by
                have := congrArg List.length hfl
                rw [flat_len, List.length_take, List.length_drop] at this
                omega
              obtain ⟨hle2, rfl⟩ := setN_eq hL'
              obtain ⟨_, hle3, hsome, hown, hcell⟩ := hr.blk b _ hgt
              have hp := hr.pos b _ hgt
              have hH : HoldsK encR 2 w (ρ b).blk ((ρ b).sh + o) l.toArray := fun j hj => by
                have hj' : j < l.length * 2 := by simpa using hj
                have hLj : L[o + j]? = (flat l)[j]? := by
                  rw [← hfl, List.getElem?_take, if_pos (by omega), List.getElem?_drop]
                obtain ⟨v, hv⟩ : ∃ v, (flat l)[j]? = some v := ⟨_, List.getElem?_eq_getElem (by rw [flat_len]; exact hj')⟩
                obtain ⟨u, hu, hvr⟩ := hcell (o + j) v (by rw [hLj, hv])
                obtain ⟨u2, hu2, hvr2⟩ := (valsR_rel (ρ := ρ) (nx := h.nx) l).get j v hv
                obtain ⟨k, rfl⟩ := flat_int (List.mem_of_getElem? hv)
                simp only [VR] at hvr hvr2
                subst hvr hvr2
                have hval : (valsR l)[j]! = .int .i64 k := by rw [List.getElem!_eq_getElem?_getD, hu2]; rfl
                rw [← Nat.add_assoc] at hu
                refine ⟨?_, (hown hro).unfrozen _ (by rw [hu]; rfl)⟩
                rw [hu, get_flatK _ _ _ j (by simpa using hj'), ← valsR_get l j hj', hval]
                rfl
              have key := hsort (ρ b).blk ((ρ b).sh + o) c' l.toArray w hH hp.1 (by simp; omega)
              obtain rfl : xs = #[] := by
                apply Array.ext'
                exact hx
              obtain rfl : ys = #[] := by
                apply Array.ext'
                exact hy
              rw [show l.toArray.size = n by simpa using hll] at key
              refine key.mono fun e w' ⟨he, m, os, hw⟩ => ?_
              have hw2 : w' = grow (Sort.ahead (w.setCells (ρ b).blk ((ρ b).sh + o) (valsR (sortR l))) m) os := by
                rw [hw]
                exact sortWorld_eq (sortR_len l) hH
              subst hw2
              exact ⟨_, ρ, he, fun _ _ => rfl, Nat.le_refl _, by simp only [VR]; exact ⟨#[], rfl, VRs.nil⟩, (hr.store hgt hro (o := o) (vs := flat (sortR l)) hle2 (valsR_rel _)).same Bel.grown⟩
            · cases H
          · cases H
        · cases H
    · cases H
end Go.Am
