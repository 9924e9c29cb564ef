/- Answers that stand for functions of the library: strings.Join. -/
import Derived.Test.YtochmoadmdmcbaaGreatDoorAm18
import Derived.Lib.Join
namespace Go.Am
set_option linter.unusedSimpArgs false
set_option linter.unusedVariables false
open Go Go.RowKit

def strsOf : List V → Option (List (List UInt8))
  | [] => some []
  | .str s :: r => (strsOf r).bind fun l => some (s :: l)
  | _ => none

theorem strsOf_get : ∀ {l : List V} {xs : List (List UInt8)}, strsOf l = some xs → l.length = xs.length ∧ ∀ (j : Nat) (x : List UInt8), xs[j]? = some x → l[j]? = some (V.str x)
  | [], xs, h => by simp only [strsOf, Option.some.injEq] at h; subst h; exact ⟨rfl, fun j x hx => by simp at hx⟩
  | .str s :: r, xs, h => by
    simp only [strsOf, Option.bind_eq_some_iff, Option.some.injEq] at h
    obtain ⟨l, hl, rfl⟩ := h
    obtain ⟨h1, h2⟩ := strsOf_get hl
    refine ⟨by simp [h1], fun j x hx => ?_⟩
    cases j with
    | zero => simpa using hx
    | succ j => simpa using h2 j x (by simpa using hx)
  | .int _ _ :: _, _, h => by simp [strsOf] at h
  | .bool _ :: _, _, h => by simp [strsOf] at h
  | .ptr _ _ :: _, _, h => by simp [strsOf] at h
  | .nptr :: _, _, h => by simp [strsOf] at h
  | .sl _ _ _ _ :: _, _, h => by simp [strsOf] at h
  | .nsl :: _, _, h => by simp [strsOf] at h
  | .esl :: _, _, h => by simp [strsOf] at h
  | .mp _ :: _, _, h => by simp [strsOf] at h
  | .nmp :: _, _, h => by simp [strsOf] at h
  | .fn _ _ _ :: _, _, h => by simp [strsOf] at h
  | .nfn :: _, _, h => by simp [strsOf] at h
  | .ifc _ _ :: _, _, h => by simp [strsOf] at h
  | .nifc :: _, _, h => by simp [strsOf] at h
  | .agg _ :: _, _, h => by simp [strsOf] at h
  | .tup _ :: _, _, h => by simp [strsOf] at h

def orcJoin (_ : Nat) (args : List V) (h : Hp) : Option (V × Hp) :=
  match args with
  | [.sl b o n _, .str sep] => (shown h 1 b o n).bind fun l => (strsOf l).bind fun xs =>
    if xs.length ≤ 140737488355328 ∧ (Lib.join xs sep).length ≤ 140737488355328 then some (.str (Lib.join xs sep), h) else none
  | [.nsl, .str _] => some (.str [], h)
  | [.esl, .str _] => some (.str [], h)
  | _ => none

theorem orcJoin_ok [Dr] {P : Program} {f : Nat} (he : Enters P f)
    (hnone : ∀ (a : Option Addr) (c : Nat) (sep : ByteArray) (w : World), Calls P f #[.slice a 0 c, .string sep] w fun e w' => e = .returned (.string ⟨#[]⟩) ∧ w' = w)
    (hjoin : ∀ (bk o c : Nat) (xs : List ByteArray) (sep : ByteArray) (w : World) (_hcells : ∀ (j : Nat) x, xs[j]? = some x → w.cell? ⟨bk, o + j, none⟩ = some (.string x)) (_hbk : bk < w.heap.size) (_hN : xs.length ≤ 140737488355328) (_hcap : xs.length ≤ c) (_hlen : (Lib.join (xs.map (·.data.toList)) sep.data.toList).length ≤ 140737488355328),
      Calls P f #[.slice (some ⟨bk, o, none⟩) xs.length c, .string sep] w fun e w' => e = .returned (.string ⟨(Lib.join (xs.map (·.data.toList)) sep.data.toList).toArray⟩) ∧ Below w.heap.size w w') (hoff : Dr.on = false := by rfl) : OrcOk P f orcJoin where
  enters := he
  ext := fun {ro args h r h'} H => by
    unfold orcJoin at H
    split at H
    · simp only [Option.bind_eq_some_iff] at H
      obtain ⟨l, _, xs, _, H⟩ := H
      split at H
      · simp only [Option.some.injEq, Prod.mk.injEq] at H
        obtain ⟨_, rfl⟩ := H
        exact Ext.refl _ _
      · cases H
    · simp only [Option.some.injEq, Prod.mk.injEq] at H
      obtain ⟨_, rfl⟩ := H
      exact Ext.refl _ _
    · simp only [Option.some.injEq, Prod.mk.injEq] at H
      obtain ⟨_, rfl⟩ := H
      exact Ext.refl _ _
    · cases H
  calls := fun {ro args h r h'} H {B w0 ρ w args'} hg hr ha => by
    unfold orcJoin at H
    split at H
    · rename_i b o n c sep
      simp only [Option.bind_eq_some_iff] at H
      obtain ⟨l, hl, xs, hxs, H⟩ := H
      split at H
      case isFalse => cases H
      rename_i hc
      simp only [Option.some.injEq, Prod.mk.injEq] at H
      obtain ⟨rfl, rfl⟩ := H
      simp only [VRs, VR] at ha
      obtain ⟨u0, us, rfl, ⟨hb, c', rfl, hn, _, _⟩, u1, us', rfl, rfl, rfl⟩ := ha
      obtain ⟨hl1, hl2⟩ := strsOf_get hxs
      obtain ⟨L, hgt, hL, hnl⟩ : ∃ L, h.get b = some (.cells 1 L) ∧ (∀ j v, l[j]? = some v → L[o + j]? = some v) ∧ l.length = n := by
        unfold shown at hl
        split at hl
        · rename_i z L hgt
          split at hl
          · rename_i hz
            subst hz
            unfold loadN at hl
            cases hb2 : Nat.ble (o + n * 1) L.length with
            | false => rw [hb2] at hl; cases hl
            | true =>
              rw [hb2] at hl
              simp only [cond_true, Option.some.injEq] at hl
              have hle := Nat.le_of_ble_eq_true hb2
              subst hl
              refine ⟨L, hgt, fun j v hj => ?_, by simp; omega⟩
              rw [List.getElem?_take] at hj
              split at hj
              · simpa using hj
              · cases hj
          · cases hl
        · cases hl
      have hbr := hr.blk b _ hgt
      obtain ⟨_, _, _, _, hcell⟩ := hbr
      have hn' : n = xs.length := by omega
      have hlen : (xs.map fun l => (⟨l.toArray⟩ : ByteArray)).length = n := by simp [hn']
      have hmap : (xs.map fun l => (⟨l.toArray⟩ : ByteArray)).map (fun a => a.data.toList) = xs := by
        rw [List.map_map]
        conv => rhs; rw [← List.map_id xs]
        exact List.map_congr_left fun a _ => by simp
      have key := hjoin (ρ b).blk ((ρ b).sh + o) c' (xs.map fun l => (⟨l.toArray⟩ : ByteArray)) ⟨sep.toArray⟩ w (fun j x hx => by
        rw [List.getElem?_map] at hx
        cases hj : xs[j]? with
        | none => rw [hj] at hx; cases hx
        | some s =>
          rw [hj] at hx
          simp only [Option.map_some, Option.some.injEq] at hx
          subst hx
          obtain ⟨u, hu, hv⟩ := hcell (o + j) _ (hL j _ (hl2 j s hj))
          simp only [VR] at hv
          subst hv
          rw [Nat.add_assoc]
          exact hu) (hr.pos b _ hgt).1 (by rw [hlen]; omega) (by rw [hlen]; exact hn) (by rw [hmap]; simpa using hc.2)
      rw [hlen, hmap] at key
      refine key.mono fun e w' ⟨he, hbel⟩ => ?_
      exact ⟨_, ρ, he, fun _ _ => rfl, Nat.le_refl _, rfl, hr.same (.of hbel fun q => by rw [hoff] at q; cases q)⟩
    · simp only [Option.some.injEq, Prod.mk.injEq] at H
      obtain ⟨rfl, rfl⟩ := H
      simp only [VRs, VR] at ha
      obtain ⟨u0, us, rfl, rfl, u1, us', rfl, rfl, rfl⟩ := ha
      refine (hnone _ _ _ w).mono fun e w' ⟨he, hw⟩ => ?_
      subst hw
      exact ⟨_, ρ, he, fun _ _ => rfl, Nat.le_refl _, rfl, hr⟩
    · simp only [Option.some.injEq, Prod.mk.injEq] at H
      obtain ⟨rfl, rfl⟩ := H
      simp only [VRs, VR] at ha
      obtain ⟨u0, us, rfl, ⟨a, c', rfl⟩, u1, us', rfl, rfl, rfl⟩ := ha
      refine (hnone _ _ _ w).mono fun e w' ⟨he, hw⟩ => ?_
      subst hw
      exact ⟨_, ρ, he, fun _ _ => rfl, Nat.le_refl _, rfl, hr⟩
    · cases H
end Go.Am
