/- The blocks that a set meets. Plain Lean, no program in sight. -/
import Derived.Test.YtochmoadmdmcbaaDoorAmP1
namespace Go.Am.S7
open Go

def runI (f : Int) (k : Nat) : List Int := (List.range k).map fun (j : Nat) => f + (j : Int)
def fromI (out : List Int) (a : Int) : Int := if out.getLast? = some a then a + 1 else a
def cntI (out : List Int) (a b : Int) : Nat := (b - fromI out a + 1).toNat
def stepB (size : Int) (o : Option (List Int)) (r : Rg) : Option (List Int) :=
  o.bind fun out => if out.length + cntI out (r.1 / size) ((r.2 - 1) / size) > 100000 then none else some (out ++ runI (fromI out (r.1 / size)) (cntI out (r.1 / size) ((r.2 - 1) / size)))
def blkL (size : Int) (L : List Rg) : Option (List Int) := L.foldl (stepB size) (some [])

theorem runI_succ (f : Int) (k : Nat) : runI f (k + 1) = runI f k ++ [f + (k : Int)] := by simp [runI, List.range_succ]
theorem runI_len (f : Int) (k : Nat) : (runI f k).length = k := by simp [runI]
theorem runI_mem {f x : Int} {k : Nat} : x ∈ runI f k ↔ f ≤ x ∧ x < f + k := by
  simp only [runI, List.mem_map, List.mem_range]
  constructor
  · rintro ⟨j, hj, rfl⟩; omega
  · rintro ⟨h1, h2⟩; exact ⟨(x - f).toNat, by omega, by omega⟩

theorem fold_none (size : Int) : ∀ L : List Rg, L.foldl (stepB size) none = none
  | [] => rfl
  | _ :: L => by rw [List.foldl_cons]; exact fold_none size L

theorem blkL_succ {size : Int} {L : List Rg} {i : Nat} (hi : i < L.length) : blkL size (L.take (i + 1)) = stepB size (blkL size (L.take i)) L[i] := by
  unfold blkL
  rw [List.take_succ_eq_append_getElem hi, List.foldl_append]
  rfl

theorem blkL_none {size : Int} {L : List Rg} {i : Nat} (h : blkL size (L.take i) = none) : blkL size L = none := by
  unfold blkL at h ⊢
  rw [← List.take_append_drop i L, List.foldl_append, h]
  exact fold_none size _

theorem from_le {out : List Int} {a b : Int} (hab : a ≤ b) : a ≤ fromI out a ∧ fromI out a ≤ b + 1 := by
  unfold fromI
  split <;> omega

theorem cnt_eq {out : List Int} {a b : Int} (hab : a ≤ b) : (cntI out a b : Int) = b - fromI out a + 1 := by
  have := (from_le (out := out) hab).2
  unfold cntI
  omega

theorem div_mono {size x y : Int} (hs : 0 < size) (h : x ≤ y) : x / size ≤ y / size := Int.ediv_le_ediv hs h

theorem last_inv {size : Int} {L : List Rg} (hs : 0 < size) (hn : Norm L) (h0 : ∀ p ∈ L, 0 ≤ p.1) : ∀ (i : Nat), i ≤ L.length → ∀ out, blkL size (L.take i) = some out →
    out = [] ∨ ∃ x, out.getLast? = some x ∧ 0 ≤ x ∧ ∀ (j : Nat) (r : Rg), i ≤ j → L[j]? = some r → x ≤ r.1 / size
  | 0, _, out, h => by
    simp [blkL] at h
    exact .inl h
  | i + 1, hi, out, h => by
    have hi' : i < L.length := by omega
    rw [blkL_succ hi'] at h
    cases hb : blkL size (L.take i) with
    | none => rw [hb] at h; cases h
    | some o =>
      rw [hb] at h
      simp only [stepB, Option.bind_some] at h
      split at h
      · cases h
      · simp only [Option.some.injEq] at h
        subst h
        have ih := last_inv hs hn h0 i (by omega) o hb
        have hpos := hn.1 L[i] (List.getElem_mem hi')
        have hab : L[i].1 / size ≤ (L[i].2 - 1) / size := div_mono hs (by omega)
        cases hc : cntI o (L[i].1 / size) ((L[i].2 - 1) / size) with
        | zero =>
          rw [runI, List.range_zero, List.map_nil, List.append_nil]
          rcases ih with ih | ⟨x, h1, h2, h3⟩
          · exact .inl ih
          · exact .inr ⟨x, h1, h2, fun j r hj hr => h3 j r (by omega) hr⟩
        | succ k =>
          right
          have hce := cnt_eq (out := o) hab
          rw [hc] at hce
          have hfl := from_le (out := o) hab
          refine ⟨(L[i].2 - 1) / size, ?_, ?_, fun j r hj hr => ?_⟩
          · rw [runI_succ, ← List.append_assoc, List.getLast?_append]
            simp
            omega
          · have := Int.ediv_nonneg (a := L[i].1) (b := size) (h0 _ (List.getElem_mem hi')) (by omega)
            omega
          · refine div_mono hs ?_
            obtain ⟨hj2, rfl⟩ := List.getElem?_eq_some_iff.1 hr
            have := List.pairwise_iff_getElem.1 hn.2 i j hi' hj2 (by omega)
            omega

theorem blk_has {size : Int} {L : List Rg} (hs : 0 < size) (hn : Norm L) : ∀ (i : Nat), i ≤ L.length → ∀ out, blkL size (L.take i) = some out → ∀ x, Mem (L.take i) x → x / size ∈ out
  | 0, _, out, _, x, hx => by
    simp at hx
    exact (Mem_nil hx).elim
  | i + 1, hi, out, h, x, hx => by
    have hi' : i < L.length := by omega
    rw [blkL_succ hi'] at h
    rw [List.take_succ_eq_append_getElem hi', Mem_append, Mem_one] at hx
    cases hb : blkL size (L.take i) with
    | none => rw [hb] at h; cases h
    | some o =>
      rw [hb] at h
      simp only [stepB, Option.bind_some] at h
      split at h
      · cases h
      · simp only [Option.some.injEq] at h
        subst h
        rw [List.mem_append]
        rcases hx with hx | hx
        · exact .inl (blk_has hs hn i (by omega) o hb x hx)
        · have hpos := hn.1 L[i] (List.getElem_mem hi')
          have hab : L[i].1 / size ≤ (L[i].2 - 1) / size := div_mono hs (by omega)
          have hce := cnt_eq (out := o) hab
          have h1 : L[i].1 / size ≤ x / size := div_mono hs hx.1
          have h2 : x / size ≤ (L[i].2 - 1) / size := div_mono hs (by omega)
          by_cases h3 : fromI o (L[i].1 / size) ≤ x / size
          · exact .inr (runI_mem.2 ⟨h3, by omega⟩)
          · left
            unfold fromI at h3
            split at h3
            · rename_i hl
              have : x / size = L[i].1 / size := by omega
              rw [this]
              exact List.mem_of_getLast? hl
            · omega

theorem blkL_le {size : Int} {L : List Rg} : ∀ (i : Nat), i ≤ L.length → ∀ out, blkL size (L.take i) = some out → out.length ≤ 100000
  | 0, _, out, h => by
    simp [blkL] at h
    subst h
    simp
  | i + 1, hi, out, h => by
    rw [blkL_succ (by omega : i < L.length)] at h
    cases hb : blkL size (L.take i) with
    | none => rw [hb] at h; cases h
    | some o =>
      rw [hb] at h
      simp only [stepB, Option.bind_some] at h
      split at h
      · cases h
      · simp only [Option.some.injEq] at h
        subst h
        rw [List.length_append, runI_len]
        omega

theorem any_mem {L : List Rg} {x : Int} : L.any (fun p => decide (p.1 ≤ x) && decide (x < p.2)) = true ↔ Mem L x := by
  simp [Mem]
end Go.Am.S7
