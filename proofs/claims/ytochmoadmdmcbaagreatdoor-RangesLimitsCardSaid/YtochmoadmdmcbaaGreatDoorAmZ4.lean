/- Functions of ranges, stepped through at the great seat: combine, Union. -/
import Derived.Test.YtochmoadmdmcbaaGreatDoorAmZ3
import Derived.Test.YtochmoadmdmcbaaGreatDoorAm26
namespace Go.Am.SZ
set_option linter.unusedSimpArgs false
set_option linter.unusedVariables false
open Go Go.RowKit

def runI (f : Int) (k : Nat) : List Int := (List.range k).map fun (j : Nat) => f + (j : Int)
def fromI (out : List Int) (a : Int) : Int := if out.getLast? = some a then a + 1 else a
def cntI (out : List Int) (a b : Int) : Nat := (b - fromI out a + 1).toNat
def stepB (size : Int) (o : Option (List Int)) (r : Rg) : Option (List Int) :=
  o.bind fun out => if out.length + cntI out (r.1 / size) ((r.2 - 1) / size) > 100000 then none else some (out ++ runI (fromI out (r.1 / size)) (cntI out (r.1 / size) ((r.2 - 1) / size)))
def blkL (size : Int) (L : List Rg) : Option (List Int) := L.foldl (stepB size) (some [])

theorem runI_succ (f : Int) (k : Nat) : runI f (k + 1) = runI f k ++ [f + (k : Int)] := by simp [runI, List.range_succ]
theorem runI_len (f : Int) (k : Nat) : (runI f k).length = k := by simp [runI]
theorem runI_mem {f x : Int} {k : Nat} : x ∈ runI f k ↔ f ≤ x ∧ x < f + k := by
  simp only [runI, List.mem_map, List.mem_range]
  constructor
  · rintro ⟨j, hj, rfl⟩; omega
  · rintro ⟨h1, h2⟩; exact ⟨(x - f).toNat, by omega, by omega⟩

theorem fold_none (size : Int) : ∀ L : List Rg, L.foldl (stepB size) none = none
  | [] => rfl
  | _ :: L => by rw [List.foldl_cons]; exact fold_none size L

theorem blkL_succ {size : Int} {L : List Rg} {i : Nat} (hi : i < L.length) : blkL size (L.take (i + 1)) = stepB size (blkL size (L.take i)) L[i] := by
  unfold blkL
  rw [List.take_succ_eq_append_getElem hi, List.foldl_append]
  rfl

theorem blkL_none {size : Int} {L : List Rg} {i : Nat} (h : blkL size (L.take i) = none) : blkL size L = none := by
  unfold blkL at h ⊢
  rw [← List.take_append_drop i L, List.foldl_append, h]
  exact fold_none size _

theorem from_le {out : List Int} {a b : Int} (hab : a ≤ b) : a ≤ fromI out a ∧ fromI out a ≤ b + 1 := by
  unfold fromI
  split <;> omega

theorem cnt_eq {out : List Int} {a b : Int} (hab : a ≤ b) : (cntI out a b : Int) = b - fromI out a + 1 := by
  have := (from_le (out := out) hab).2
  unfold cntI
  omega

theorem div_mono {size x y : Int} (hs : 0 < size) (h : x ≤ y) : x / size ≤ y / size := Int.ediv_le_ediv hs h

theorem last_inv {size : Int} {L : List Rg} (hs : 0 < size) (hn : Norm L) (h0 : ∀ p ∈ L, 0 ≤ p.1) : ∀ (i : Nat), i ≤ L.length → ∀ out, blkL size (L.take i) = some out →
    out = [] ∨ ∃ x, out.getLast? = some x ∧ 0 ≤ x ∧ ∀ (j : Nat) (r : Rg), i ≤ j → L[j]? = some r → x ≤ r.1 / size
  | 0, _, out, h => by
    simp [blkL] at h
    exact .inl h
  | i + 1, hi, out, h => by
    have hi' : i < L.length := by omega
    rw [blkL_succ hi'] at h
    cases hb : blkL size (L.take i) with
    | none => rw [hb] at h; cases h
    | some o =>
      rw [hb] at h
      simp only [stepB, Option.bind_some] at h
      split at h
      · cases h
      · simp only [Option.some.injEq] at h
        subst h
        have ih := last_inv hs hn h0 i (by omega) o hb
        have hpos := hn.1 L[i] (List.getElem_mem hi')
        have hab : L[i].1 / size ≤ (L[i].2 - 1) / size := div_mono hs (by omega)
        cases hc : cntI o (L[i].1 / size) ((L[i].2 - 1) / size) with
        | zero =>
          rw [runI, List.range_zero, List.map_nil, List.append_nil]
          rcases ih with ih | ⟨x, h1, h2, h3⟩
          · exact .inl ih
          · exact .inr ⟨x, h1, h2, fun j r hj hr => h3 j r (by omega) hr⟩
        | succ k =>
          right
          have hce := cnt_eq (out := o) hab
          rw [hc] at hce
          have hfl := from_le (out := o) hab
          refine ⟨(L[i].2 - 1) / size, ?_, ?_, fun j r hj hr => ?_⟩
          · rw [runI_succ, ← List.append_assoc, List.getLast?_append]
            simp
            omega
          · have := Int.ediv_nonneg (a := L[i].1) (b := size) (h0 _ (List.getElem_mem hi')) (by omega)
            omega
          · refine div_mono hs ?_
            obtain ⟨hj2, rfl⟩ := List.getElem?_eq_some_iff.1 hr
            have := List.pairwise_iff_getElem.1 hn.2 i j hi' hj2 (by omega)
            omega

theorem blk_has {size : Int} {L : List Rg} (hs : 0 < size) (hn : Norm L) : ∀ (i : Nat), i ≤ L.length → ∀ out, blkL size (L.take i) = some out → ∀ x, Mem (L.take i) x → x / size ∈ out
  | 0, _, out, _, x, hx => by
    simp at hx
    exact (Mem_nil hx).elim
  | i + 1, hi, out, h, x, hx => by
    have hi' : i < L.length := by omega
    rw [blkL_succ hi'] at h
    rw [List.take_succ_eq_append_getElem hi', Mem_append, Mem_one] at hx
    cases hb : blkL size (L.take i) with
    | none => rw [hb] at h; cases h
    | some o =>
      rw [hb] at h
      simp only [stepB, Option.bind_some] at h
      split at h
      · cases h
      · simp only [Option.some.injEq] at h
        subst h
        rw [List.mem_append]
        rcases hx with hx | hx
        · exact .inl (blk_has hs hn i (by omega) o hb x hx)
        · have hpos := hn.1 L[i] (List.getElem_mem hi')
          have hab : L[i].1 / size ≤ (L[i].2 - 1) / size := div_mono hs (by omega)
          have hce := cnt_eq (out := o) hab
          have h1 : L[i].1 / size ≤ x / size := div_mono hs hx.1
          have h2 : x / size ≤ (L[i].2 - 1) / size := div_mono hs (by omega)
          by_cases h3 : fromI o (L[i].1 / size) ≤ x / size
          · exact .inr (runI_mem.2 ⟨h3, by omega⟩)
          · left
            unfold fromI at h3
            split at h3
            · rename_i hl
              have : x / size = L[i].1 / size := by omega
              rw [this]
              exact List.mem_of_getLast? hl
            · omega

theorem blkL_le {size : Int} {L : List Rg} : ∀ (i : Nat), i ≤ L.length → ∀ out, blkL size (L.take i) = some out → out.length ≤ 100000
  | 0, _, out, h => by
    simp [blkL] at h
    subst h
    simp
  | i + 1, hi, out, h => by
    rw [blkL_succ (by omega : i < L.length)] at h
    cases hb : blkL size (L.take i) with
    | none => rw [hb] at h; cases h
    | some o =>
      rw [hb] at h
      simp only [stepB, Option.bind_some] at h
      split at h
      · cases h
      · simp only [Option.some.injEq] at h
        subst h
        rw [List.length_append, runI_len]
        omega

theorem any_mem {L : List Rg} {x : Int} : L.any (fun p => decide (p.1 ≤ x) && decide (x < p.2)) = true ↔ Mem L x := by
  simp [Mem]
open Go Go.RowKit

def inS (a : List Rg) (x : Int) : Bool := a.any fun p => decide (p.1 ≤ x) && decide (x < p.2)
theorem inS_iff {a : List Rg} {x : Int} : inS a x = true ↔ Mem a x := by simp [inS, Mem]

def ends : List Rg → List Int
  | [] => []
  | p :: r => p.1 :: p.2 :: ends r
theorem ends_mem {e : Int} : ∀ {l : List Rg}, e ∈ ends l ↔ ∃ p ∈ l, e = p.1 ∨ e = p.2
  | [] => by simp [ends]
  | q :: r => by
    simp only [ends, List.mem_cons, ends_mem (l := r)]
    constructor
    · rintro (h | h | ⟨p, hp, h⟩)
      · exact ⟨q, .inl rfl, .inl h⟩
      · exact ⟨q, .inl rfl, .inr h⟩
      · exact ⟨p, .inr hp, h⟩
    · rintro ⟨p, rfl | hp, h⟩
      · rcases h with h | h
        · exact .inl h
        · exact .inr (.inl h)
      · exact .inr (.inr ⟨p, hp, h⟩)
theorem ends_append : ∀ {a b : List Rg}, ends (a ++ b) = ends a ++ ends b
  | [], _ => rfl
  | p :: a, b => by simp [ends, ends_append (a := a)]
theorem ends_len : ∀ l : List Rg, (ends l).length = l.length * 2
  | [] => rfl
  | _ :: r => by simp only [ends, List.length_cons, ends_len r]; omega

def SInc (l : List Int) : Prop := l.Pairwise (· < ·)

theorem sinc_unique : ∀ {a b : List Int}, SInc a → SInc b → (∀ x, x ∈ a ↔ x ∈ b) → a = b
  | [], [], _, _, _ => rfl
  | [], y :: b, _, _, h => by have := (h y).2 (by simp); cases this
  | x :: a, [], _, _, h => by have := (h x).1 (by simp); cases this
  | x :: a, y :: b, ha, hb, h => by
    obtain ⟨ha1, ha2⟩ := List.pairwise_cons.1 ha
    obtain ⟨hb1, hb2⟩ := List.pairwise_cons.1 hb
    have e : x = y := by
      have h1 := (h x).1 (by simp)
      have h2 := (h y).2 (by simp)
      rcases List.mem_cons.1 h1 with h1 | h1
      · exact h1
      · rcases List.mem_cons.1 h2 with h2 | h2
        · exact h2.symm
        · have := ha1 y h2
          have := hb1 x h1
          omega
    subst e
    rw [sinc_unique ha2 hb2 fun z => ?_]
    constructor
    · intro hz
      rcases List.mem_cons.1 ((h z).1 (by simp [hz])) with h1 | h1
      · have := ha1 z hz
        omega
      · exact h1
    · intro hz
      rcases List.mem_cons.1 ((h z).2 (by simp [hz])) with h1 | h1
      · have := hb1 z hz
        omega
      · exact h1

/-- The insertion of one number, unless it is there. -/
def insI (l : List Int) (n : Int) : List Int :=
  if (l.dropWhile fun x => decide (x < n)).head? = some n then l else l.takeWhile (fun x => decide (x < n)) ++ n :: l.dropWhile (fun x => decide (x < n))

theorem twI_lt {a : Int} : ∀ {s : List Int}, ∀ p ∈ s.takeWhile (fun p => decide (p < a)), p < a
  | q :: s, p, hp => by
    rw [List.takeWhile_cons] at hp
    split at hp
    · rename_i h
      rcases List.mem_cons.1 hp with rfl | hp
      · simpa using h
      · exact twI_lt p hp
    · cases hp
theorem dwI_ge {a : Int} : ∀ {s : List Int}, SInc s → ∀ p ∈ s.dropWhile (fun p => decide (p < a)), a ≤ p
  | q :: s, hs, p, hp => by
    rw [List.dropWhile_cons] at hp
    obtain ⟨h1, h2⟩ := List.pairwise_cons.1 hs
    split at hp
    · exact dwI_ge h2 p hp
    · rename_i h
      have hq : a ≤ q := by simpa using h
      rcases List.mem_cons.1 hp with rfl | hp
      · exact hq
      · have := h1 p hp
        omega

theorem insI_spec {l : List Int} {n : Int} (hl : SInc l) : SInc (insI l n) ∧ (∀ x, x ∈ insI l n ↔ x = n ∨ x ∈ l) ∧ (insI l n).length ≤ l.length + 1 := by
  have hsplit : l.takeWhile (fun x => decide (x < n)) ++ l.dropWhile (fun x => decide (x < n)) = l := List.takeWhile_append_dropWhile
  have hmem : ∀ x, x ∈ l ↔ x ∈ l.takeWhile (fun x => decide (x < n)) ∨ x ∈ l.dropWhile (fun x => decide (x < n)) := fun x => by rw [← List.mem_append, hsplit]
  have hlen : (l.takeWhile (fun x => decide (x < n))).length + (l.dropWhile (fun x => decide (x < n))).length = l.length := by rw [← List.length_append, hsplit]
  have hpw : SInc (l.takeWhile (fun x => decide (x < n)) ++ l.dropWhile (fun x => decide (x < n))) := by rw [hsplit]; exact hl
  obtain ⟨h1, h2, h3⟩ := List.pairwise_append.1 hpw
  unfold insI
  split
  · rename_i h
    refine ⟨hl, fun x => ⟨.inr, fun hx => ?_⟩, by omega⟩
    rcases hx with rfl | hx
    · exact (hmem x).2 (.inr (List.mem_of_mem_head? h))
    · exact hx
  · rename_i h
    have hgt : ∀ p ∈ l.dropWhile (fun x => decide (x < n)), n < p := by
      cases hd : l.dropWhile (fun x => decide (x < n)) with
      | nil => intro p hp; cases hp
      | cons q r =>
        rw [hd] at h h2
        have hq := dwI_ge (a := n) hl q (by rw [hd]; simp)
        have hqn : q ≠ n := fun e => h (by rw [e]; rfl)
        intro p hp
        rcases List.mem_cons.1 hp with rfl | hp
        · omega
        · have := (List.pairwise_cons.1 h2).1 p hp
          omega
    refine ⟨List.pairwise_append.2 ⟨h1, List.pairwise_cons.2 ⟨hgt, h2⟩, fun p hp q hq => ?_⟩, fun x => ?_, ?_⟩
    · have := twI_lt p hp
      rcases List.mem_cons.1 hq with rfl | hq
      · exact this
      · exact h3 p hp q hq
    · rw [hmem x]
      simp only [List.mem_append, List.mem_cons]
      constructor
      · rintro (g | g | g)
        · exact .inr (.inl g)
        · exact .inl g
        · exact .inr (.inr g)
      · rintro (g | g | g)
        · exact .inr (.inl g)
        · exact .inl g
        · exact .inr (.inr g)
    · simp only [List.length_append, List.length_cons]
      omega

theorem insIs_spec : ∀ {es l : List Int}, SInc l → SInc (es.foldl insI l) ∧ (∀ x, x ∈ es.foldl insI l ↔ x ∈ l ∨ x ∈ es) ∧ (es.foldl insI l).length ≤ l.length + es.length
  | [], l, hl => ⟨hl, fun x => by simp, by simp⟩
  | e :: es, l, hl => by
    obtain ⟨h1, h2, h3⟩ := insI_spec (n := e) hl
    obtain ⟨g1, g2, g3⟩ := insIs_spec (es := es) h1
    refine ⟨g1, fun x => (g2 x).trans ?_, by simp only [List.foldl_cons, List.length_cons]; omega⟩
    rw [h2 x, List.mem_cons]
    constructor
    · rintro ((h | h) | h)
      · exact .inr (.inl h)
      · exact .inl h
      · exact .inr (.inr h)
    · rintro (h | h | h)
      · exact .inl (.inr h)
      · exact .inl (.inl h)
      · exact .inr h

/-- All places where two sets begin or end, in order. -/
def cutsL (a b : List Rg) : List Int := (ends b).foldl insI ((ends a).foldl insI [])

theorem cutsL_spec (a b : List Rg) : SInc (cutsL a b) ∧ (∀ x, x ∈ cutsL a b ↔ x ∈ ends a ∨ x ∈ ends b) ∧ (cutsL a b).length ≤ a.length * 2 + b.length * 2 := by
  obtain ⟨h1, h2, h3⟩ := insIs_spec (es := ends a) (l := []) List.Pairwise.nil
  obtain ⟨g1, g2, g3⟩ := insIs_spec (es := ends b) h1
  refine ⟨g1, fun x => (g2 x).trans ?_, ?_⟩
  · rw [h2 x]; simp
  · unfold cutsL
    rw [ends_len] at h3 g3
    simp at h3
    omega

/-- The pieces between the places that are wanted. -/
def segs (f : Bool → Bool → Bool) (a b : List Rg) : List Int → List Rg
  | p :: q :: r => (if f (inS a p) (inS b p) = true then [(p, q)] else []) ++ segs f a b (q :: r)
  | _ => []

theorem segs_len (f : Bool → Bool → Bool) (a b : List Rg) : ∀ c : List Int, (segs f a b c).length ≤ c.length
  | [] => by simp [segs]
  | [_] => by simp [segs]
  | p :: q :: r => by
    have := segs_len f a b (q :: r)
    simp only [segs, List.length_append, List.length_cons] at this ⊢
    split <;> simp <;> omega

theorem segs_from (f : Bool → Bool → Bool) (a b : List Rg) : ∀ (c : List Int), SInc c → ∀ s ∈ segs f a b c, s.1 < s.2 ∧ s.1 ∈ c
  | [], _, s, hs => by simp [segs] at hs
  | [_], _, s, hs => by simp [segs] at hs
  | p :: q :: r, hc, s, hs => by
    obtain ⟨h1, h2⟩ := List.pairwise_cons.1 hc
    simp only [segs, List.mem_append] at hs
    rcases hs with hs | hs
    · split at hs
      · simp at hs
        subst hs
        exact ⟨h1 q (by simp), by simp⟩
      · cases hs
    · obtain ⟨g1, g2⟩ := segs_from f a b (q :: r) h2 s hs
      exact ⟨g1, List.mem_cons_of_mem _ g2⟩

theorem segs_sorted (f : Bool → Bool → Bool) (a b : List Rg) : ∀ (c : List Int), SInc c → Sorted (segs f a b c)
  | [], _ => List.Pairwise.nil
  | [_], _ => List.Pairwise.nil
  | p :: q :: r, hc => by
    obtain ⟨h1, h2⟩ := List.pairwise_cons.1 hc
    refine List.pairwise_append.2 ⟨?_, segs_sorted f a b (q :: r) h2, fun s hs t ht => ?_⟩
    · split
      · simp
      · exact List.Pairwise.nil
    · split at hs
      · simp at hs
        subst hs
        have := h1 _ (segs_from f a b (q :: r) h2 t ht).2
        simp only
        omega
      · cases hs

/-- Between two neighbouring places nothing begins or ends. -/
theorem inS_same {a : List Rg} {p q x : Int} (hx : p ≤ x ∧ x < q) (h : ∀ e ∈ ends a, e ≤ p ∨ q ≤ e) : inS a x = inS a p := by
  unfold inS
  rw [Bool.eq_iff_iff, List.any_eq_true, List.any_eq_true]
  constructor
  · rintro ⟨r, hr, hb⟩
    simp only [Bool.and_eq_true, decide_eq_true_eq] at hb
    have h1 := h r.1 (ends_mem.2 ⟨r, hr, .inl rfl⟩)
    have h2 := h r.2 (ends_mem.2 ⟨r, hr, .inr rfl⟩)
    exact ⟨r, hr, by simp only [Bool.and_eq_true, decide_eq_true_eq]; omega⟩
  · rintro ⟨r, hr, hb⟩
    simp only [Bool.and_eq_true, decide_eq_true_eq] at hb
    have h1 := h r.1 (ends_mem.2 ⟨r, hr, .inl rfl⟩)
    have h2 := h r.2 (ends_mem.2 ⟨r, hr, .inr rfl⟩)
    exact ⟨r, hr, by simp only [Bool.and_eq_true, decide_eq_true_eq]; omega⟩

theorem inS_out {a : List Rg} {x : Int} (h : (∀ e ∈ ends a, e ≤ x) ∨ ∀ e ∈ ends a, x < e) : inS a x = false := by
  cases hi : inS a x with
  | false => rfl
  | true =>
    obtain ⟨r, hr, h1, h2⟩ := inS_iff.1 hi
    rcases h with h | h
    · have := h r.2 (ends_mem.2 ⟨r, hr, .inr rfl⟩)
      omega
    · have := h r.1 (ends_mem.2 ⟨r, hr, .inl rfl⟩)
      omega

theorem segs_go {f : Bool → Bool → Bool} (hf : f false false = false) (a b : List Rg) : ∀ (c : List Int) (p : Int), SInc (p :: c) → (∀ e, e ∈ ends a ∨ e ∈ ends b → e ∈ p :: c ∨ e < p) → ∀ x, Mem (segs f a b (p :: c)) x ↔ p ≤ x ∧ f (inS a x) (inS b x) = true
  | [], p, _, he, x => by
    simp only [segs]
    refine ⟨fun h => (Mem_nil h).elim, fun ⟨h1, h2⟩ => ?_⟩
    have ha : inS a x = false := inS_out (.inl fun e hm => by
      rcases he e (.inl hm) with h | h
      · simp at h; omega
      · omega)
    have hb : inS b x = false := inS_out (.inl fun e hm => by
      rcases he e (.inr hm) with h | h
      · simp at h; omega
      · omega)
    rw [ha, hb, hf] at h2
    cases h2
  | q :: c, p, hc, he, x => by
    obtain ⟨h1, h2⟩ := List.pairwise_cons.1 hc
    have hpq := h1 q (by simp)
    have hge : ∀ e ∈ q :: c, q ≤ e := fun e hm => by
      rcases List.mem_cons.1 hm with rfl | hm
      · exact Int.le_refl _
      · have := (List.pairwise_cons.1 h2).1 e hm
        omega
    have ih := segs_go hf a b c q h2 (fun e hm => by
      rcases he e hm with h | h
      · rcases List.mem_cons.1 h with rfl | h
        · exact .inr hpq
        · exact .inl h
      · exact .inr (by omega)) x
    have hno : ∀ e, e ∈ ends a ∨ e ∈ ends b → e ≤ p ∨ q ≤ e := fun e hm => by
      rcases he e hm with h | h
      · rcases List.mem_cons.1 h with rfl | h
        · exact .inl (Int.le_refl _)
        · exact .inr (hge e h)
      · exact .inl (by omega)
    simp only [segs]
    rw [Mem_append, ih]
    by_cases hx : p ≤ x ∧ x < q
    · have ea := inS_same (a := a) hx fun e hm => hno e (.inl hm)
      have eb := inS_same (a := b) hx fun e hm => hno e (.inr hm)
      rw [ea, eb]
      constructor
      · rintro (h | h)
        · split at h
          · rename_i hw
            exact ⟨hx.1, hw⟩
          · exact (Mem_nil h).elim
        · omega
      · rintro ⟨_, hw⟩
        left
        rw [if_pos hw, Mem_one]
        exact hx
    · constructor
      · rintro (h | h)
        · split at h
          · rw [Mem_one] at h
            exact absurd h hx
          · exact (Mem_nil h).elim
        · exact ⟨by omega, h.2⟩
      · rintro ⟨hp, hw⟩
        exact .inr ⟨by omega, hw⟩

theorem segs_mem {f : Bool → Bool → Bool} (hf : f false false = false) (a b : List Rg) (x : Int) : Mem (segs f a b (cutsL a b)) x ↔ f (inS a x) (inS b x) = true := by
  obtain ⟨h1, h2, _⟩ := cutsL_spec a b
  cases hc : cutsL a b with
  | nil =>
    rw [hc] at h2
    have ha : inS a x = false := inS_out (.inl fun e hm => by have := (h2 e).2 (.inl hm); cases this)
    have hb : inS b x = false := inS_out (.inl fun e hm => by have := (h2 e).2 (.inr hm); cases this)
    rw [ha, hb, hf]
    simp only [segs]
    exact ⟨fun h => (Mem_nil h).elim, fun h => by cases h⟩
  | cons p c =>
    rw [hc] at h1 h2
    rw [segs_go hf a b c p h1 (fun e hm => .inl ((h2 e).2 hm)) x]
    refine ⟨fun h => h.2, fun h => ⟨?_, h⟩⟩
    rcases Int.lt_or_le x p with hxp | hxp
    · exfalso
      have hge : ∀ e ∈ p :: c, p ≤ e := fun e hm => by
        rcases List.mem_cons.1 hm with rfl | hm
        · exact Int.le_refl _
        · have := (List.pairwise_cons.1 h1).1 e hm
          omega
      have ha : inS a x = false := inS_out (.inr fun e hm => by have := hge e ((h2 e).2 (.inl hm)); omega)
      have hb : inS b x = false := inS_out (.inr fun e hm => by have := hge e ((h2 e).2 (.inr hm)); omega)
      rw [ha, hb, hf] at h
      cases h
    · exact hxp

/-- Two sets combined. -/
def combL (f : Bool → Bool → Bool) (a b : List Rg) : List Rg := mrgs (segs f a b (cutsL a b))

theorem combL_spec {f : Bool → Bool → Bool} (hf : f false false = false) (a b : List Rg) : Norm (combL f a b) ∧ ∀ x, Mem (combL f a b) x ↔ f (inS a x) (inS b x) = true := by
  obtain ⟨h1, h2⟩ := mrgs_spec (segs_sorted f a b (cutsL a b) (cutsL_spec a b).1)
  exact ⟨h1, fun x => (h2 x).trans (segs_mem hf a b x)⟩

theorem combL_canon (f : Bool → Bool → Bool) (a b : List Rg) : canon (segs f a b (cutsL a b)) = combL f a b :=
  (mrgs_canon (fun p hp => by have := (segs_from f a b _ (cutsL_spec a b).1 p hp).1; omega) (segs_sorted f a b _ (cutsL_spec a b).1) fun _ => Iff.rfl).symm
open Go Go.RowKit

theorem compact_go {zs : List Int} (hs : zs.Pairwise (· ≤ ·)) : ∀ m, m ≤ zs.length → SInc (Lib.compactUpTo zs.toArray m) ∧ ∀ x, x ∈ Lib.compactUpTo zs.toArray m ↔ ∃ j, j < m ∧ zs[j]? = some x
  | 0, _ => ⟨by simp [Lib.compactUpTo, SInc], fun x => by simp [Lib.compactUpTo]⟩
  | m + 1, hm => by
    obtain ⟨h1, h2⟩ := compact_go hs m (by omega)
    have hm' : m < zs.length := by omega
    have hg : ∀ j (hj : j < zs.length), zs.toArray[j]! = zs[j] := fun j hj => by simp [hj]
    rw [Lib.compactUpTo_succ, hg m hm']
    have hle : ∀ x ∈ Lib.compactUpTo zs.toArray m, ∀ (h0 : 0 < m), x ≤ zs[m - 1] := fun x hx h0 => by
      obtain ⟨j, hj, hjx⟩ := (h2 x).1 hx
      obtain ⟨hj2, rfl⟩ := List.getElem?_eq_some_iff.1 hjx
      rcases Nat.lt_or_ge j (m - 1) with h3 | h3
      · exact List.pairwise_iff_getElem.1 hs j (m - 1) hj2 (by omega) h3
      · have : j = m - 1 := by omega
        subst this
        exact Int.le_refl _
    have hstep : ∀ x, (∃ j, j < m + 1 ∧ zs[j]? = some x) ↔ (∃ j, j < m ∧ zs[j]? = some x) ∨ x = zs[m] := fun x => by
      constructor
      · rintro ⟨j, hj, hjx⟩
        rcases Nat.lt_or_ge j m with h3 | h3
        · exact .inl ⟨j, h3, hjx⟩
        · have : j = m := by omega
          subst this
          rw [List.getElem?_eq_getElem hm'] at hjx
          exact .inr (by simpa using hjx.symm)
      · rintro (⟨j, hj, hjx⟩ | rfl)
        · exact ⟨j, by omega, hjx⟩
        · exact ⟨m, by omega, List.getElem?_eq_getElem hm'⟩
    by_cases hk : m = 0 ∨ zs[m] ≠ zs[m - 1]
    · have hkk : Lib.keeps zs.toArray m = true := by
        unfold Lib.keeps
        rw [decide_eq_true_eq]
        rcases hk with hk | hk
        · exact .inl hk
        · right
          rw [hg m hm', hg (m - 1) (by omega)]
          exact hk
      rw [if_pos hkk]
      refine ⟨List.pairwise_append.2 ⟨h1, by simp, fun x hx y hy => ?_⟩, fun x => ?_⟩
      · simp at hy
        subst hy
        have h0 : 0 < m := by
          obtain ⟨j, hj, _⟩ := (h2 x).1 hx
          omega
        have h3 := hle x hx h0
        have h4 := List.pairwise_iff_getElem.1 hs (m - 1) m (by omega) hm' (by omega)
        have h5 : zs[m] ≠ zs[m - 1] := by
          rcases hk with hk | hk
          · omega
          · exact hk
        omega
      · rw [List.mem_append, h2 x, hstep x]
        simp
    · have hk1 : m ≠ 0 := fun h => hk (.inl h)
      have hk2 : zs[m] = zs[m - 1] := by
        by_cases h : zs[m] = zs[m - 1]
        · exact h
        · exact absurd (.inr h) hk
      have hkk : Lib.keeps zs.toArray m = false := by
        unfold Lib.keeps
        rw [decide_eq_false_iff_not, hg m hm', hg (m - 1) (by omega)]
        exact hk
      rw [hkk]
      simp only [Bool.false_eq_true, if_false, List.append_nil]
      refine ⟨h1, fun x => ?_⟩
      rw [h2 x, hstep x]
      constructor
      · exact .inl
      · rintro (h | rfl)
        · exact h
        · exact ⟨m - 1, by omega, by rw [hk2]; exact List.getElem?_eq_getElem (by omega)⟩

theorem compact_spec {zs : List Int} (hs : zs.Pairwise (· ≤ ·)) : SInc (Lib.compact zs) ∧ ∀ x, x ∈ Lib.compact zs ↔ x ∈ zs := by
  obtain ⟨h1, h2⟩ := compact_go hs zs.length (Nat.le_refl _)
  refine ⟨h1, fun x => (h2 x).trans ?_⟩
  rw [List.mem_iff_getElem?]
  constructor
  · rintro ⟨j, _, h⟩; exact ⟨j, h⟩
  · rintro ⟨j, h⟩; exact ⟨j, (List.getElem?_eq_some_iff.1 h).1, h⟩

theorem sortI_spec (l : List Int) : (sortI l).Pairwise (· ≤ ·) ∧ ∀ x, x ∈ sortI l ↔ x ∈ l := by
  refine ⟨?_, fun x => (List.mergeSort_perm l _).mem_iff⟩
  have h := List.pairwise_mergeSort (le := fun x y : Int => decide (x ≤ y)) (fun a b c h1 h2 => by simp at *; omega) (fun a b => by simp; omega) l
  exact h.imp fun {a b} h => by simpa using h

theorem borders (a b : List Rg) : Lib.compact (sortI (ends (a ++ b))) = cutsL a b := by
  obtain ⟨h1, h2⟩ := sortI_spec (ends (a ++ b))
  obtain ⟨h3, h4⟩ := compact_spec h1
  obtain ⟨g1, g2, _⟩ := cutsL_spec a b
  refine sinc_unique h3 g1 fun x => ?_
  rw [h4, h2, g2, ends_append, List.mem_append]
open Go Go.RowKit
set_option maxRecDepth 100000
set_option linter.unusedSimpArgs false
set_option linter.unusedVariables false
variable {fs : Nat → Option D} {ro : Nat} {h : Hp} {e : Env}

/-- A slice of ints. -/
def SlJ (h : Hp) (v : V) (l : List Int) : Prop := Sl h 1 v l.length (intsV .i64 l)

theorem SlJ.at {h : Hp} {v : V} {l : List Int} (hv : SlJ h v l) {i : Nat} (hi : i < l.length) :
    ∃ b o c L, v = .sl b o l.length c ∧ h.get b = some (.cells 1 L) ∧ L[o + i]? = some (.int .i64 l[i]) :=
  Sl.at hv (by simp [intsV, List.getElem?_map, List.getElem?_eq_getElem hi])

theorem app_intJ {h0 h2 : Hp} {out : List Int} {x : Int} {vo : V} (hw0 : ∀ b x, h0.get b = some x → b < h0.nx) (hro : ro ≤ h0.nx) (hfr : Fr h0 h2) (hvo : SlJ h2 vo out) (hown : Own h0.nx vo) (hlen : out.length ≤ 1000000) :
    ∃ v' h', app ro (h2.new (.cells 1 [V.int .i64 x])) 1 8 vo 1 [V.int .i64 x] = some (v', h') ∧ SlJ h' v' (out ++ [x]) ∧ Own h0.nx v' ∧ Fr h0 h' ∧
      shown (h2.new (.cells 1 [V.int .i64 x])) 1 h2.nx 0 1 = some [V.int .i64 x] := by
  have hfr3 : Fr h0 (h2.new (.cells 1 [V.int .i64 x])) := hfr.new _
  have hvo3 : SlJ (h2.new (.cells 1 [V.int .i64 x])) vo out := Sl.fr ((Fr.refl hfr.wf).new _) hvo
  obtain ⟨v', h', ha, hs, ho, hf⟩ := app_sl (bytes := 8) (m := 1) (news := [V.int .i64 x]) hfr3 hw0 hro hvo3 hown (by omega) rfl (by unfold roomMax; omega) (by unfold roomMax; omega)
  refine ⟨v', h', ha, ?_, ho, hf, ?_⟩
  · unfold SlJ
    rw [intsV, List.map_append, List.length_append]
    exact hs
  · exact (Sl.ofNew (h := h2) (sz := 1) (n := 1) (c := 2) (l := [V.int .i64 x]) rfl).2

def blkE (size : Int) (L : List Rg) : Int := if size < 1 ∨ 1099511627776 < size then 2 else match blkL size L with
  | none => 9
  | some _ => 0
def blkV (size : Int) (L : List Rg) : List Int := if size < 1 ∨ 1099511627776 < size then [] else (blkL size L).getD []

theorem div_bd {a size : Int} (h0 : 0 ≤ a) (h1 : a ≤ 1099511627776) (hs : 1 ≤ size) : 0 ≤ a / size ∧ a / size ≤ 1099511627776 ∧ a.tdiv size = a / size := by
  have h2 := Int.ediv_nonneg (a := a) (b := size) h0 (by omega)
  have h3 : a / size ≤ a := Int.ediv_le_self _ h0
  exact ⟨h2, by omega, Int.tdiv_eq_ediv_of_nonneg h0⟩

theorem binInt_quo {k : IntKind} {a b : Int} (hb : b ≠ 0) : binInt .quo k a b = some (.int k (k.wrap (a.tdiv b))) := by simp [binInt, hb]

set_option maxHeartbeats 2000000 in
theorem ev16 {v : V} {l : List Rg} {size : Int} (hf : fs 22 = some (.code F22)) (hv : SlG h v l) (hv1 : v.cells = [v]) (hn : l.length ≤ 1000) (hN : Norm l) (hF : Fine l) (hw : ∀ b x, h.get b = some x → b < h.nx) (hro : ro ≤ h.nx) {Q : V → Hp → Prop}
    (hq : ∀ x h', SlJ h' x (blkV size l) → Own h.nx x → Fr h h' → Q (.tup [x, .int .i64 (blkE size l)]) h') : Ev fs ro 22 [.agg [v], .int .i64 size] h Q := by
  refine Ev_fn hf rfl rfl rfl rfl ?_
  have hf1 : Fr h (h.new (.cells 0 [v])) := (Fr.refl hw).new _
  have hg1 : (h.new (.cells 0 [v])).get h.nx = some (.cells 0 [v]) := Hp.get_new_same
  refine WP_seq ?_
  refine WP_reg ?_
  refine WPO_op rfl ?_
  simp [V.cells]
  refine WPO_op rfl ?_
  simp
  refine WPO_op rfl ?_
  simp
  refine WPO_nil ?_
  simp
  have hnx1 : h.nx < (h.new (.cells 0 [v])).nx := by simp
  generalize (h.new (.cells 0 [v])) = h1 at *
  have hv2 : SlG h1 v l := Sl.fr hf1 hv
  have hlen := hv2.lenV
  refine WP_seq ?_
  refine WP_mid (fun e2 h2 => h1 = h2 ∧ e2 = [(1, .int .i64 size), (2, .ptr h.nx 0), (18, .bool (decide (size < 1 ∨ 1099511627776 < size)))]) ?_ ?_
  · refine WP_reg ?_
    by_cases c1 : size < 1 <;> by_cases c2 : 1099511627776 < size <;>
      repeat (first | (refine WPO_op rfl ?_; simp [c1, c2]; done) | (refine WPO_op rfl ?_; simp [c1, c2]) | (refine WPO_gop rfl ?_; simp [c1, c2]) | (refine WPO_nil ?_; simp [c1, c2]))
  rintro e2 h2 ⟨rfl, rfl⟩
  refine WP_cond rfl ⟨fun hd => ?_, fun hd => ?_⟩
  · have hbad : size < 1 ∨ 1099511627776 < size := by simpa using hd
    repeat (first | refine WP_seq ?_ | refine WP_reg ?_ | (refine WPO_op rfl ?_; simp) | (refine WPO_nil ?_; simp))
    simp [WP_ret, F22]
    have := hq .nsl h1 (by simp only [blkV, hbad, if_true]; exact ⟨rfl, rfl⟩) (.inl rfl) hf1
    simpa [blkE, hbad, pack] using this
  have hgood : ¬ (size < 1 ∨ 1099511627776 < size) := by simpa using hd
  have hs1 : 1 ≤ size := by omega
  have hs2 : size ≤ 1099511627776 := by omega
  have hne : size ≠ 0 := by omega
  have hE : blkE size l = match blkL size l with | none => 9 | some _ => 0 := by unfold blkE; rw [if_neg hgood]
  have hV : blkV size l = (blkL size l).getD [] := by unfold blkV; rw [if_neg hgood]
  simp only [WP_skip, nrmOr_nrm]
  refine WP_seq ?_
  refine WP_reg ?_
  refine WPO_op rfl ?_
  simp
  refine WPO_nil ?_
  simp
  refine WP_seq ?_
  refine WP_seq ?_
  refine WP_reg ?_
  refine WPO_op rfl ?_
  simp
  refine WPO_op rfl ?_
  simp [loadV_ptr hg1]
  refine WPO_op rfl ?_
  simp [hlen]
  refine WPO_op rfl ?_
  simp
  refine WPO_nil ?_
  simp
  refine WP_block ?_
  refine WP_loop (fun m e h2 => ∃ i out vo, m = l.length - i ∧ i ≤ l.length ∧ blkL size (l.take i) = some out ∧ SlJ h2 vo out ∧ Own h1.nx vo ∧ Fr h1 h2 ∧ e = [(1, .int .i64 size), (6, vo), (20, v), (21, .int .i64 (l.length : Nat)), (22, .int .i64 (i : Nat))]) l.length ⟨0, [], .nsl, by omega, by omega, rfl, ⟨rfl, rfl⟩, .inl rfl, Fr.refl hf1.wf, rfl⟩ ?_
  rintro m e h2 ⟨i, out, vo, rfl, hi, hout, hvo, hown, hfr, rfl⟩
  refine WP_seq ?_
  refine WP_reg ?_
  repeat (first | (refine WPO_op rfl ?_; simp) | (refine WPO_nil ?_; simp))
  refine WP_seq ?_
  refine WP_cond rfl ⟨fun ht => ?_, fun ht => ?_⟩
  · have hi' : i < l.length := by simpa using ht
    obtain ⟨b0, o0, c0, L, rfl, hg, q1, q2⟩ := SlG.at (h := h2) (l := l) (Sl.fr hfr hv2) (List.getElem?_eq_getElem hi')
    have hwr : IntKind.wrap .i64 ((i : Int) + 1) = ((i + 1 : Nat) : Int) := by rw [wrap_i64 (by omega) (by omega)]; omega
    have hr := hF l[i] (List.getElem_mem hi')
    have hrp := hN.1 l[i] (List.getElem_mem hi')
    have hol := blkL_le i hi out hout
    have hsucc := blkL_succ (size := size) hi'
    rw [hout] at hsucc
    generalize l[i] = r at *
    obtain ⟨d1, d2, d3⟩ := div_bd (a := r.1) (size := size) hr.1 (by omega) hs1
    obtain ⟨d4, d5, d6⟩ := div_bd (a := r.2 - 1) (size := size) (by omega) (by omega) hs1
    have hab : r.1 / size ≤ (r.2 - 1) / size := div_mono (by omega) (by omega)
    have w1 : IntKind.wrap .i64 (r.1.tdiv size) = r.1 / size := by rw [d3]; exact wrap_i64 (by omega) (by omega)
    have w2 : IntKind.wrap .i64 (r.2 - 1) = r.2 - 1 := wrap_i64 (by omega) (by omega)
    have w3 : IntKind.wrap .i64 ((r.2 - 1).tdiv size) = (r.2 - 1) / size := by rw [d6]; exact wrap_i64 (by omega) (by omega)
    simp only [stepB, Option.bind_some] at hsucc
    generalize hA : r.1 / size = A at *
    generalize hB : (r.2 - 1) / size = B at *
    have hce := cnt_eq (out := out) hab
    have hfl := from_le (out := out) hab
    simp only [WP_skip, nrmOr_nrm]
    refine WP_mid (fun e' h' => ∃ out' vo', blkL size (l.take (i + 1)) = some out' ∧ SlJ h' vo' out' ∧ Own h1.nx vo' ∧ Fr h1 h' ∧ e'.get 1 = some (.int .i64 size) ∧ e'.get 6 = some vo' ∧ e'.get 20 = some (.sl b0 o0 l.length c0) ∧ e'.get 21 = some (.int .i64 (l.length : Nat)) ∧ e'.get 22 = some (.int .i64 (i : Nat))) ?_ ?_
    rotate_left
    · rintro e' h' ⟨out', vo', g0, g1, g2, g3, e1, e6, e20, e21, e22⟩
      repeat (first | refine WP_reg ?_ | (refine WPO_op rfl ?_; simp [e22]) | (refine WPO_nil ?_; simp [e1, e6, e20, e21, e22]))
      refine ⟨l.length - (i + 1), by omega, i + 1, rfl, by omega, out', g0, vo', g1, g2, g3, rfl, ?_⟩
      rw [hwr]
    refine WP_block ?_
    refine WP_seq ?_
    refine WP_reg ?_
    refine WPO_op rfl ?_
    simp [hi']
    refine WPO_op rfl ?_
    simp [loadV_ptr hg, loadN_two q1 q2]
    refine WPO_op rfl ?_
    simp
    have hgr : (h2.new (.cells 0 [.int .i64 0, .int .i64 0])).get h2.nx = some (.cells 0 [.int .i64 0, .int .i64 0]) := Hp.get_new_same
    have hfn : Fr h2 ((h2.new (.cells 0 [.int .i64 0, .int .i64 0])).set h2.nx (.cells 0 [V.int .i64 r.1, V.int .i64 r.2])) := ((Fr.refl hfr.wf).new _).set hfr.wf (Nat.le_refl _) hgr _
    have hg2 : ((h2.new (.cells 0 [.int .i64 0, .int .i64 0])).set h2.nx (.cells 0 [V.int .i64 r.1, V.int .i64 r.2])).get h2.nx = some (.cells 0 [V.int .i64 r.1, V.int .i64 r.2]) := Hp.get_set_same hgr
    refine WPO_op rfl ?_
    refine OB_store (b := h2.nx) (o := 0) (v := V.agg [V.int .i64 r.1, V.int .i64 r.2]) (l' := [V.int .i64 r.1, V.int .i64 r.2]) rfl rfl (by have := hfr.nx; omega) rfl rfl hgr rfl ?_
    generalize ((h2.new (.cells 0 [.int .i64 0, .int .i64 0])).set h2.nx (.cells 0 [V.int .i64 r.1, V.int .i64 r.2])) = h3 at *
    have hfr3 := hfr.trans hfn
    have hvo3 : SlJ h3 vo out := Sl.fr hfn hvo
    have hlo := hvo3.lenV
    simp
    refine WPO_nil ?_
    simp
    refine WP_seq ?_
    refine WP_reg ?_
    repeat (first | (refine WPO_op rfl ?_; simp [loadV_ptr hg2, binInt_quo hne, w1, w2, w3]; done) | (refine WPO_op rfl ?_; simp [loadV_ptr hg2, binInt_quo hne, w1, w2, w3]) | (refine WPO_nil ?_; simp))
    refine WP_mid (fun e' h' => h3 = h' ∧ e'.get 1 = some (.int .i64 size) ∧ e'.get 6 = some vo ∧ e'.get 9 = some (.int .i64 (fromI out A)) ∧ e'.get 10 = some (.int .i64 B) ∧ e'.get 20 = some (.sl b0 o0 l.length c0) ∧ e'.get 21 = some (.int .i64 (l.length : Nat)) ∧ e'.get 22 = some (.int .i64 (i : Nat))) ?_ ?_
    · refine WP_seq ?_
      refine WP_reg ?_
      repeat (first | (refine WPO_op rfl ?_; simp [hlo]; done) | (refine WPO_op rfl ?_; simp [hlo]) | (refine WPO_nil ?_; simp))
      refine WP_mid (fun e2 h' => h3 = h' ∧ e2 = [(1, .int .i64 size), (6, vo), (9, .int .i64 A), (10, .int .i64 B), (20, .sl b0 o0 l.length c0), (21, .int .i64 (l.length : Nat)), (22, .int .i64 (i : Nat)), (47, .bool (decide (out.getLast? = some A)))]) ?_ ?_
      · refine WP_reg ?_
        rcases List.eq_nil_or_concat out with rfl | ⟨init, x, rfl⟩
        · repeat (first | (refine WPO_op rfl ?_; simp; done) | (refine WPO_op rfl ?_; simp) | (refine WPO_gop rfl ?_; simp) | (refine WPO_nil ?_; simp))
        · rw [List.concat_eq_append] at *
          have hll : init.length < (init ++ [x]).length := by simp
          obtain ⟨bo, oo, co, Lo, ee, hgo, w4⟩ := SlJ.at hvo3 hll
          subst ee
          have hx : (init ++ [x])[init.length] = x := by simp
          rw [hx] at w4
          have hil : init.length ≤ 1000000 := by simp at hol; omega
          have hwr2 : IntKind.wrap .i64 (init.length : Int) = init.length := wrap_i64 (by omega) (by omega)
          have hlt : (init.length : Int) < init.length + 1 := by omega
          repeat (first | (refine WPO_op rfl ?_; simp; done) | (refine WPO_op rfl ?_; simp) | (refine WPO_gop rfl ?_; simp [loadV_ptr hgo, hwr2, hlt, w4]) | (refine WPO_nil ?_; simp))
          all_goals (by_cases hxa : x = A <;> simp [hxa])
      rintro e2 h' ⟨rfl, rfl⟩
      refine WP_cond rfl ⟨fun hd => ?_, fun hd => ?_⟩
      · have hl : out.getLast? = some A := by simpa using hd
        have hfe : fromI out A = A + 1 := by unfold fromI; rw [if_pos hl]
        have w5 : IntKind.wrap .i64 (A + 1) = A + 1 := wrap_i64 (by omega) (by omega)
        repeat (first | refine WP_reg ?_ | (refine WPO_op rfl ?_; simp [w5]; done) | (refine WPO_op rfl ?_; simp [w5]) | (refine WPO_nil ?_; simp [hfe]))
      · have hl : ¬ out.getLast? = some A := by simpa using hd
        have hfe : fromI out A = A := by unfold fromI; rw [if_neg hl]
        simp [WP_skip, hfe]
    rintro e' h' ⟨rfl, e1, e6, e9, e10, e20, e21, e22⟩
    generalize hfr0 : fromI out A = f at *
    have x1 : IntKind.wrap .i64 ((out.length : Int) + B) = out.length + B := wrap_i64 (by omega) (by omega)
    have x2 : IntKind.wrap .i64 ((out.length : Int) + B - f) = out.length + B - f := wrap_i64 (by omega) (by omega)
    have x3 : IntKind.wrap .i64 ((out.length : Int) + B - f + 1) = out.length + B - f + 1 := wrap_i64 (by omega) (by omega)
    refine WP_seq ?_
    refine WP_seq ?_
    refine WP_reg ?_
    repeat (first | (refine WPO_op rfl ?_; simp [e6, e9, e10, hlo, x1, x2, x3]; done) | (refine WPO_op rfl ?_; simp [e6, e9, e10, hlo, x1, x2, x3]) | (refine WPO_nil ?_; simp [e1, e6, e9, e10, e20, e21, e22]))
    refine WP_cond rfl ⟨fun hd => ?_, fun hd => ?_⟩
    · have hbig : out.length + cntI out A B > 100000 := by
        have : (100000 : Int) < out.length + B - f + 1 := by simpa using hd
        omega
      rw [if_pos hbig] at hsucc
      have hnone := blkL_none hsucc
      repeat (first | refine WP_seq ?_ | refine WP_reg ?_ | (refine WPO_op rfl ?_; simp) | (refine WPO_nil ?_; simp))
      simp [WP_ret, F22]
      have := hq .nsl h3 (by rw [hV, hnone]; exact ⟨rfl, rfl⟩) (.inl rfl) (hf1.trans hfr3)
      rw [hE, hnone] at this
      simpa [pack] using this
    have hsmall : ¬ (out.length + cntI out A B > 100000) := by
      have : ¬ ((100000 : Int) < out.length + B - f + 1) := by simpa using hd
      omega
    rw [if_neg hsmall] at hsucc
    simp only [WP_skip, nrmOr_nrm]
    refine WP_seq ?_
    refine WP_reg ?_
    repeat (first | (refine WPO_op rfl ?_; simp) | (refine WPO_nil ?_; simp))
    generalize cntI out A B = k at *
    refine WP_block ?_
    refine WP_loop (fun m e h4 => ∃ j vo', m = k - j ∧ j ≤ k ∧ SlJ h4 vo' (out ++ runI f j) ∧ Own h1.nx vo' ∧ Fr h1 h4 ∧ e = [(1, .int .i64 size), (6, vo'), (10, .int .i64 B), (12, .int .i64 (f + (j : Nat))), (20, .sl b0 o0 l.length c0), (21, .int .i64 (l.length : Nat)), (22, .int .i64 (i : Nat))]) k ⟨0, vo, by omega, by omega, by simpa [runI] using hvo3, hown, hfr3, by simp⟩ ?_
    rintro m e h4 ⟨j, vo', rfl, hj, hvj, hoj, hfj, rfl⟩
    refine WP_seq ?_
    refine WP_seq ?_
    refine WP_reg ?_
    repeat (first | (refine WPO_op rfl ?_; simp; done) | (refine WPO_op rfl ?_; simp) | (refine WPO_nil ?_; simp))
    refine WP_cond rfl ⟨fun hd => ?_, fun hd => ?_⟩
    · have hjk : j < k := by
        have : f + (j : Int) ≤ B := by simpa using hd
        omega
      have w6 : IntKind.wrap .i64 (f + (j : Int) + 1) = f + ((j + 1 : Nat) : Int) := by rw [wrap_i64 (by omega) (by omega)]; omega
      simp only [WP_skip, nrmOr_nrm]
      refine WP_seq ?_
      refine WP_block ?_
      obtain ⟨v', h', ha, hs, ho, hfa, hsh⟩ := app_intJ (ro := ro) (x := f + (j : Int)) hf1.wf (by omega) hfj hvj hoj (by rw [List.length_append, runI_len]; omega)
      refine WP_reg ?_
      refine WPO_op rfl ?_
      simp
      refine WPO_op rfl ?_
      simp
      refine WPO_op rfl ?_
      simp [evParts, zeros, fill, V.cells, setN]
      refine WPO_op rfl ?_
      rw [op1_app (v := vo') (b := h4.nx) (o := 0) (m := 1) (c := 2) (h' := h') rfl rfl hsh rfl ha]
      simp
      refine WPO_op rfl ?_
      simp
      refine WPO_nil ?_
      simp
      repeat (first | refine WP_reg ?_ | (refine WPO_op rfl ?_; simp; done) | (refine WPO_op rfl ?_; simp) | (refine WPO_nil ?_; simp))
      refine ⟨k - (j + 1), by omega, j + 1, rfl, by omega, v', ?_, ho, hfa, rfl, ?_⟩
      · rw [runI_succ, ← List.append_assoc]
        exact hs
      · rw [w6]
    · have hjk : j = k := by
        have : ¬ (f + (j : Int) ≤ B) := by simpa using hd
        omega
      subst hjk
      simp only [WP_exit, nrmOr_exit, blkQ_exit, if_pos, nrmOr_nrm, blkQ_nrm]
      exact ⟨_, hsucc, vo', hvj, hoj, hfj, rfl, rfl, rfl, rfl, rfl⟩
  · have hi' : i = l.length := by
      have : ¬ (i < l.length) := by simpa using ht
      omega
    subst hi'
    rw [List.take_length] at hout
    simp only [WP_exit, nrmOr_exit, blkQ_exit, if_pos, nrmOr_nrm, blkQ_nrm]
    repeat (first | refine WP_seq ?_ | refine WP_reg ?_ | (refine WPO_op rfl ?_; simp) | (refine WPO_nil ?_; simp))
    simp [WP_ret, F22]
    have := hq vo h2 (by rw [hV, hout]; exact hvo) (hown.mono (by omega)) (hf1.trans hfr)
    rw [hE, hout] at this
    simpa [pack] using this
open Go Go.RowKit
set_option maxRecDepth 100000
set_option linter.unusedSimpArgs false
set_option linter.unusedVariables false
variable {fs : Nat → Option D} {ro : Nat} {h : Hp} {e : Env}

theorem ints_take (l : List Int) (k : Nat) : intsV .i64 (l.take k) = (intsV .i64 l).take (k * 1) := by simp [intsV, List.map_take]
theorem ints_drop (l : List Int) (k : Nat) : intsV .i64 (l.drop k) = (intsV .i64 l).drop (k * 1) := by simp [intsV, List.map_drop]
theorem ints_len (l : List Int) : (intsV .i64 l).length = l.length * 1 := by simp [intsV]
theorem ints_append (a b : List Int) : intsV .i64 (a ++ b) = intsV .i64 a ++ intsV .i64 b := by simp [intsV]
theorem ints_one (l : List Int) : (intsV .i64 l).all V.one = true := by simp [intsV, V.one]

/-- The first ranges of a slice. -/
theorem sl_preJ {v : V} {l : List Int} {k : Nat} {x y : A} (hv : SlJ h v l) (hs : Shape v) (hk : k ≤ l.length) (hx : x.ev e = some v) (hy : y.ev e = some (.int .i64 (k : Int))) :
    ∃ u, op1 ro e h (.slSl 1 x none (some y) none) = some (u, h) ∧ SlJ h u (l.take k) ∧ Shape u := by
  have hkt : (l.take k).length = k := by simp; omega
  rcases hs with rfl | rfl | ⟨b, o, n, rfl⟩
  · obtain ⟨hl, _⟩ := hv
    have hl' : l = [] := List.eq_nil_of_length_eq_zero hl
    subst hl'
    have : k = 0 := by simpa using hk
    subst this
    exact ⟨.nsl, by simp [op1, hx, hy, evO, bound], ⟨rfl, rfl⟩, .inl rfl⟩
  · obtain ⟨hl, _⟩ := hv
    have hl' : l = [] := List.eq_nil_of_length_eq_zero hl
    subst hl'
    have : k = 0 := by simpa using hk
    subst this
    exact ⟨.esl, by simp [op1, hx, hy, evO, bound], ⟨rfl, rfl⟩, .inr (.inl rfl)⟩
  · obtain ⟨rfl, hsh⟩ := hv
    obtain ⟨L, hg, hle, hfl⟩ := shown_spec hsh
    have hz : zIs h b 1 = true := by simp [zIs, hg]
    by_cases h0 : 0 < l.length
    · refine ⟨.sl b o k 0, ?_, ⟨hkt.symm, ?_⟩, .inr (.inr ⟨_, _, _, rfl⟩)⟩
      · simp [op1, hx, hy, evO, bound, hz, hk, h0]
      · rw [hkt, shown_mk hg (by omega), ints_take, hfl, List.take_take]
        congr 2
        omega
    · have hl' : l = [] := List.eq_nil_of_length_eq_zero (by omega)
      subst hl'
      have : k = 0 := by simpa using hk
      subst this
      exact ⟨.esl, by simp [op1, hx, hy, evO, bound, hz], ⟨rfl, rfl⟩, .inr (.inl rfl)⟩

/-- The last ranges of a slice. -/
theorem sl_sufJ {v : V} {l : List Int} {k : Nat} {x y : A} (hv : SlJ h v l) (hs : Shape v) (hk : k ≤ l.length) (hx : x.ev e = some v) (hy : y.ev e = some (.int .i64 (k : Int))) :
    ∃ u, op1 ro e h (.slSl 1 x (some y) none none) = some (u, h) ∧ SlJ h u (l.drop k) ∧ Shape u := by
  have hkt : (l.drop k).length = l.length - k := by simp
  rcases hs with rfl | rfl | ⟨b, o, n, rfl⟩
  · obtain ⟨hl, _⟩ := hv
    have hl' : l = [] := List.eq_nil_of_length_eq_zero hl
    subst hl'
    have : k = 0 := by simpa using hk
    subst this
    exact ⟨.nsl, by simp [op1, hx, hy, evO, bound], ⟨rfl, rfl⟩, .inl rfl⟩
  · obtain ⟨hl, _⟩ := hv
    have hl' : l = [] := List.eq_nil_of_length_eq_zero hl
    subst hl'
    have : k = 0 := by simpa using hk
    subst this
    exact ⟨.esl, by simp [op1, hx, hy, evO, bound], ⟨rfl, rfl⟩, .inr (.inl rfl)⟩
  · obtain ⟨rfl, hsh⟩ := hv
    obtain ⟨L, hg, hle, hfl⟩ := shown_spec hsh
    have hz : zIs h b 1 = true := by simp [zIs, hg]
    by_cases h0 : k < l.length
    · refine ⟨.sl b (o + k * 1) (l.length - k) 0, ?_, ⟨hkt.symm, ?_⟩, .inr (.inr ⟨_, _, _, rfl⟩)⟩
      · simp [op1, hx, hy, evO, bound, hz, hk, h0]
      · rw [hkt, shown_mk hg (by omega), ints_drop, hfl, List.drop_take, List.drop_drop]
        congr 2
        omega
    · have hkl : k = l.length := by omega
      subst hkl
      refine ⟨.esl, ?_, by rw [List.drop_length]; exact ⟨rfl, rfl⟩, .inr (.inl rfl)⟩
      simp [op1, hx, hy, evO, bound, hz]

/-- append, whatever the slice that is appended. -/
theorem op1_appJ {s x : A} {v y v' : V} {t : List Int} {h' : Hp} (hs : s.ev e = some v) (hx : x.ev e = some y) (hy : SlJ h y t) (ha : app ro h 1 8 v t.length (intsV .i64 t) = some (v', h')) : op1 ro e h (.app 1 8 s x) = some (v', h') := by
  cases y <;> simp only [SlJ, Sl] at hy
  · obtain ⟨rfl, hsh⟩ := hy
    exact op1_app hs hx hsh (ints_one t) ha
  · obtain ⟨hl, _⟩ := hy
    have hl' : t = [] := List.eq_nil_of_length_eq_zero hl
    subst hl'
    simpa [op1, hs, hx, intsV] using ha
  · obtain ⟨hl, _⟩ := hy
    have hl' : t = [] := List.eq_nil_of_length_eq_zero hl
    subst hl'
    simpa [op1, hs, hx, intsV] using ha

theorem OB_preJ {v : V} {l : List Int} {k : Nat} {x y : A} {Q : V × Hp → Prop} (hv : SlJ h v l) (hs : Shape v) (hk : k ≤ l.length) (hx : x.ev e = some v) (hy : y.ev e = some (.int .i64 (k : Int)))
    (H : ∀ u, SlJ h u (l.take k) → Shape u → Q (u, h)) : OB (op1 ro e h (.slSl 1 x none (some y) none)) Q := by
  obtain ⟨u, h1, h2, h3⟩ := sl_preJ (ro := ro) hv hs hk hx hy
  rw [h1, OB_some]
  exact H u h2 h3
theorem OB_sufJ {v : V} {l : List Int} {k : Nat} {x y : A} {Q : V × Hp → Prop} (hv : SlJ h v l) (hs : Shape v) (hk : k ≤ l.length) (hx : x.ev e = some v) (hy : y.ev e = some (.int .i64 (k : Int)))
    (H : ∀ u, SlJ h u (l.drop k) → Shape u → Q (u, h)) : OB (op1 ro e h (.slSl 1 x (some y) none none)) Q := by
  obtain ⟨u, h1, h2, h3⟩ := sl_sufJ (ro := ro) hv hs hk hx hy
  rw [h1, OB_some]
  exact H u h2 h3
theorem OB_appJ {s x : A} {v y v' : V} {t : List Int} {h' : Hp} {Q : V × Hp → Prop} (hs : s.ev e = some v) (hx : x.ev e = some y) (hy : SlJ h y t) (ha : app ro h 1 8 v t.length (intsV .i64 t) = some (v', h')) (H : Q (v', h')) : OB (op1 ro e h (.app 1 8 s x)) Q := by
  rw [op1_appJ hs hx hy ha, OB_some]
  exact H

/-- What is appended to: a row of one's own, or the empty row. -/
def NxJ (lo : Nat) (v : V) (t : List Int) : Prop := Own lo v ∨ ∃ b, v = .sl b 0 0 1 ∧ t = []

theorem app_baseJ {h0 h2 : Hp} {b : Nat} {t : List Int} (hf : Fr h0 h2) (hs : shown h2 1 b 0 0 = some []) (ht : t.length ≤ 1000000) :
    ∃ v' h', app ro h2 1 8 (.sl b 0 0 1) t.length (intsV .i64 t) = some (v', h') ∧ SlJ h' v' t ∧ NxJ h0.nx v' t ∧ Fr h0 h' := by
  by_cases h0' : t.length = 0
  · have ht' : t = [] := List.eq_nil_of_length_eq_zero h0'
    subst ht'
    exact ⟨.sl b 0 0 1, h2, by simp [app], ⟨rfl, hs⟩, .inr ⟨b, rfl, rfl⟩, hf⟩
  · refine ⟨.sl h2.nx 0 t.length 0, h2.new (.cells 1 (intsV .i64 t)), ?_, Sl.ofNew (ints_len t), .inl (.inr ⟨_, _, _, rfl, hf.nx⟩), hf.new _⟩
    simp only [app]
    rw [if_neg h0', if_pos (by unfold roomMax; omega), if_neg (by omega), if_neg (by omega), hs]
    simp

theorem app_oneJ {h0 h2 : Hp} {t : List Int} {p : Int} {vn : V} (hw0 : ∀ b x, h0.get b = some x → b < h0.nx) (hro : ro ≤ h0.nx) (hf : Fr h0 h2) (hv : SlJ h2 vn t) (hN : NxJ h0.nx vn t) (ht : t.length ≤ 1000000) :
    ∃ v' h', app ro (h2.new (.cells 1 [V.int .i64 p])) 1 8 vn 1 [V.int .i64 p] = some (v', h') ∧ SlJ h' v' (t ++ [p]) ∧ Own h0.nx v' ∧ Fr h0 h' := by
  rcases hN with ho | ⟨b, rfl, rfl⟩
  · obtain ⟨v', h', h1, h2, h3, h4, _⟩ := app_intJ (x := p) hw0 hro hf hv ho ht
    exact ⟨v', h', h1, h2, h3, h4⟩
  · have hs := shown_fr ((Fr.refl hf.wf).new (.cells 1 [V.int .i64 p])) hv.2
    obtain ⟨v', h', h1, h2, h3, h4⟩ := app_baseJ (ro := ro) (t := [p]) (hf.new (.cells 1 [V.int .i64 p])) hs (by simp)
    refine ⟨v', h', h1, h2, ?_, h4⟩
    rcases h3 with h3 | ⟨_, _, h3⟩
    · exact h3
    · cases h3

theorem app_manyJ {h0 h2 : Hp} {a t : List Int} {v : V} (hw0 : ∀ b x, h0.get b = some x → b < h0.nx) (hro : ro ≤ h0.nx) (hf : Fr h0 h2) (hv : SlJ h2 v a) (ho : Own h0.nx v) (hl : a.length + t.length ≤ 1000000) :
    ∃ v' h', app ro h2 1 8 v t.length (intsV .i64 t) = some (v', h') ∧ SlJ h' v' (a ++ t) ∧ Own h0.nx v' ∧ Fr h0 h' := by
  by_cases h0' : t.length = 0
  · have ht' : t = [] := List.eq_nil_of_length_eq_zero h0'
    subst ht'
    rw [List.append_nil]
    refine ⟨v, h2, ?_, hv, ho, hf⟩
    rcases ho with rfl | ⟨b, o, n, rfl, _⟩
    · simp [app]
    · simp [app]
  · obtain ⟨v', h', h1, h2, h3, h4⟩ := app_sl (bytes := 8) (m := t.length) (news := intsV .i64 t) hf hw0 hro hv ho (by omega) (ints_len t) (by unfold roomMax; omega) (by unfold roomMax; omega)
    refine ⟨v', h', h1, ?_, h3, h4⟩
    unfold SlJ
    rw [ints_append, List.length_append]
    exact h2


theorem tw_splitI {a : Int} : ∀ (s : List Int) (k : Nat), k ≤ s.length → (∀ p ∈ s.take k, p < a) → (∀ p, s[k]? = some p → ¬ p < a) →
    s.take k = s.takeWhile (fun p => decide (p < a)) ∧ s.drop k = s.dropWhile (fun p => decide (p < a))
  | [], k, _, _, _ => by simp
  | q :: s, 0, _, _, h2 => by
    have := h2 q rfl
    simp [this]
  | q :: s, k + 1, hk, h1, h2 => by
    have hq := h1 q (by simp)
    obtain ⟨g1, g2⟩ := tw_splitI s k (by simp at hk; omega) (fun p hp => h1 p (by simp [hp])) (fun p hp => h2 p (by simpa using hp))
    simp [hq, g1, g2]

open Go Go.RowKit
set_option maxRecDepth 100000
set_option linter.unusedSimpArgs false
set_option linter.unusedVariables false
variable {fs : Nat → Option D} {ro : Nat} {h : Hp} {e : Env}

theorem aftJ1 {h h2 : Hp} {x : V} {l : List Int} {lo : Nat} (hw : ∀ b x, h.get b = some x → b < h.nx) (hs : SlJ h2 x l) (ho : Own lo x) (hf : Fr h h2) :
    SlJ (if ground x = true then h else h2) x l ∧ Fr h (if ground x = true then h else h2) := by
  rcases ho with rfl | ⟨b, o, n, rfl, hb⟩
  · have hl := List.eq_nil_of_length_eq_zero hs.1
    rw [hl]
    exact ⟨⟨rfl, rfl⟩, Fr.refl hw⟩
  · exact ⟨hs, hf⟩

theorem ends_snoc (l : List Rg) (p : Rg) : ends (l ++ [p]) = ends l ++ [p.1, p.2] := by rw [ends_append]; rfl

open Go Go.RowKit
set_option maxRecDepth 100000
set_option linter.unusedSimpArgs false
set_option linter.unusedVariables false
variable {fs : Nat → Option D} {ro : Nat} {h : Hp} {e : Env}

@[simp] theorem wantV_undone3 {w : Bool} : wantV w (.tup []) = some false := rfl

def kf (k : Int) (x y : Bool) : Bool := if k = 0 then x || y else if k = 1 then x && !y else x && y
theorem kf_ff (k : Int) : kf k false false = false := by simp [kf]

theorem segs_snoc (f : Bool → Bool → Bool) (a b : List Rg) : ∀ (c : List Int) (p q : Int), segs f a b (c ++ [p] ++ [q]) = segs f a b (c ++ [p]) ++ (if f (inS a p) (inS b p) = true then [(p, q)] else [])
  | [], p, q => by simp [segs]
  | [x], p, q => by simp [segs]
  | x :: y :: c, p, q => by
    have := segs_snoc f a b (y :: c) p q
    simp only [List.cons_append] at this ⊢
    simp only [segs]
    rw [this, List.append_assoc]

theorem segs_take (f : Bool → Bool → Bool) (a b : List Rg) {c : List Int} {i : Nat} (hi : i + 1 < c.length) : segs f a b (c.take (i + 1 + 1)) = segs f a b (c.take (i + 1)) ++ (if f (inS a c[i]) (inS b c[i]) = true then [(c[i], c[i + 1])] else []) := by
  rw [List.take_succ_eq_append_getElem hi, List.take_succ_eq_append_getElem (by omega : i < c.length)]
  exact segs_snoc f a b _ _ _

theorem inS_hasP (a : List Rg) (x : Int) : a.any (hasP x) = inS a x := rfl

open Go Go.RowKit
set_option maxRecDepth 100000
set_option linter.unusedSimpArgs false
set_option linter.unusedVariables false
variable {fs : Nat → Option D} {ro : Nat} {h : Hp} {e : Env}

theorem ev45n {v : V} {l : List (Int × Int)} (hf : fs 34 = some (.code F34)) (hv : SlG h v l) (hw : ∀ b x, h.get b = some x → b < h.nx) (hn : l.length ≤ 1000000) {Q : V → Hp → Prop}
    (hq : ∀ x h', SlG h' x l → (x = .nsl ∧ l = [] ∨ ground x = false) → Fr h h' → Nx h.nx x l → Q x h') : Ev fs ro 34 [v] h Q := by
  refine Ev_fn hf rfl rfl rfl rfl ?_
  have hnew : Fr h (h.new (.cells 2 [])) := (Fr.refl hw).new _
  have hsn : shown (h.new (.cells 2 [])) 2 h.nx 0 0 = some [] := (Sl.ofNew (h := h) (sz := 2) (n := 0) (c := 1) (l := []) rfl).2
  cases v <;> simp only [SlG, Sl] at hv
  case nsl =>
    obtain ⟨hv1, hv2⟩ := hv
    have hl : l = [] := List.eq_nil_of_length_eq_zero hv1
    subst hl
    repeat (first | refine WP_seq ?_ | refine WP_reg ?_ | (refine WPO_op rfl ?_; simp) | (refine WPO_nil ?_; simp))
    refine WP_cond rfl ⟨fun hd => ?_, fun hd => (by cases hd)⟩
    repeat (first | refine WP_seq ?_ | refine WP_reg ?_ | (refine WPO_op rfl ?_; simp) | (refine WPO_nil ?_; simp))
    simp [WP_ret, F34]
    exact hq .nsl h ⟨rfl, rfl⟩ (.inl ⟨rfl, rfl⟩) (Fr.refl hw) (.inl (.inl rfl))
  case esl =>
    obtain ⟨hv1, hv2⟩ := hv
    have hl : l = [] := List.eq_nil_of_length_eq_zero hv1
    subst hl
    repeat (first | refine WP_seq ?_ | refine WP_reg ?_ | (refine WPO_op rfl ?_; simp) | (refine WPO_nil ?_; simp))
    refine WP_cond rfl ⟨fun hd => (by cases hd), fun hd => ?_⟩
    simp only [WP_skip, nrmOr_nrm]
    refine WP_seq ?_
    refine WP_reg ?_
    refine WPO_op rfl ?_
    simp [evParts, zeros, fill]
    refine WPO_op rfl ?_
    simp
    refine WPO_op rfl ?_
    simp [op1, app]
    refine WPO_op rfl ?_
    simp
    refine WPO_nil ?_
    simp [WP_ret, F34]
    exact hq _ _ ⟨rfl, hsn⟩ (.inr rfl) hnew (.inr ⟨_, rfl, rfl⟩)
  case sl b o n c =>
    obtain ⟨rfl, hs⟩ := hv
    repeat (first | refine WP_seq ?_ | refine WP_reg ?_ | (refine WPO_op rfl ?_; simp) | (refine WPO_nil ?_; simp))
    refine WP_cond rfl ⟨fun hd => (by cases hd), fun hd => ?_⟩
    simp only [WP_skip, nrmOr_nrm]
    have hs2 := shown_fr hnew hs
    refine WP_seq ?_
    refine WP_reg ?_
    refine WPO_op rfl ?_
    simp [evParts, zeros, fill]
    refine WPO_op rfl ?_
    simp
    refine WPO_op rfl ?_
    by_cases hl : l.length = 0
    · have hl' : l = [] := List.eq_nil_of_length_eq_zero hl
      subst hl'
      rw [op1_app (v := .sl h.nx 0 0 1) (b := b) (o := o) (m := 0) (c := c) (v' := .sl h.nx 0 0 1) (h' := h.new (.cells 2 [])) rfl rfl hs2 rfl (by simp [app])]
      simp
      refine WPO_op rfl ?_
      simp
      refine WPO_nil ?_
      simp [WP_ret, F34]
      exact hq _ _ ⟨rfl, hsn⟩ (.inr rfl) hnew (.inr ⟨_, rfl, rfl⟩)
    · have happ : app ro (h.new (.cells 2 [])) 2 16 (.sl h.nx 0 0 1) l.length (flat l) = some (.sl (h.new (.cells 2 [])).nx 0 l.length 0, (h.new (.cells 2 [])).new (.cells 2 (flat l))) := by
        simp only [app]
        rw [if_neg hl, if_pos (by unfold roomMax; omega), if_neg (by omega), if_neg (by omega), hsn]
        simp
      rw [op1_app (v := .sl h.nx 0 0 1) (b := b) (o := o) (m := l.length) (c := c) rfl rfl hs2 (flat_one l) happ]
      simp
      refine WPO_op rfl ?_
      simp
      refine WPO_nil ?_
      simp [WP_ret, F34]
      refine hq _ _ ?_ (.inr rfl) (hnew.new _) (.inl (.inr ⟨_, _, _, rfl, by simp⟩))
      exact Sl.ofNew (h := h.new (.cells 2 [])) (flat_len l)



theorem app_nx {h0 h2 : Hp} {a t : List Rg} {v : V} (hw0 : ∀ b x, h0.get b = some x → b < h0.nx) (hro : ro ≤ h0.nx) (hf : Fr h0 h2) (hv : SlG h2 v a) (ho : Nx h0.nx v a) (hl : a.length + t.length ≤ 1000000) :
    ∃ v' h', app ro h2 2 16 v t.length (flat t) = some (v', h') ∧ SlG h' v' (a ++ t) ∧ Fr h0 h' := by
  rcases ho with ho | ⟨b, rfl, rfl⟩
  · obtain ⟨v', h', h1, h2, _, h4⟩ := app_many (ro := ro) hw0 hro hf hv ho hl
    exact ⟨v', h', h1, h2, h4⟩
  · obtain ⟨v', h', h1, h2, _, h4⟩ := app_base (ro := ro) (t := t) hf hv.2 (by omega)
    exact ⟨v', h', h1, h2, h4⟩

theorem ev39 {x y : Bool} (hf : fs 41 = some (.code F41)) {Q : V → Hp → Prop} (hq : ∀ h', Q (.bool (x || y)) h') : Ev fs ro 41 [.bool x, .bool y] h Q := by
  refine Ev_fn hf rfl rfl rfl rfl ?_
  refine WP_seq ?_
  refine WP_reg ?_
  repeat (first | (refine WPO_op rfl ?_; simp) | (refine WPO_nil ?_; simp))
  refine WP_seq ?_
  refine WP_reg ?_
  have := hq h
  cases x <;> cases y <;>
    (repeat (first | (refine WPO_op rfl ?_; simp; done) | (refine WPO_op rfl ?_; simp) | (refine WPO_gop rfl ?_; simp) | (refine WPO_nil ?_; simp))
     simp [WP_ret, F41]
     exact this)
theorem sort_slJ {x : V} {l : List Int} {h0 h2 : Hp} (hf : Fr h0 h2) (hw0 : ∀ b x, h0.get b = some x → b < h0.nx) (hro : ro ≤ h0.nx) (hn : l.length ≤ 1000000) (hs : SlJ h2 x l) (hx : Own h0.nx x) :
    ∃ hS, orcSortI ro [x] h2 = some (.tup [], hS) ∧ SlJ hS x (sortI l) ∧ Fr h0 hS := by
  have hsl : (sortI l).length = l.length := by simp [sortI]
  rcases hx with rfl | ⟨b, o, n, rfl, hb⟩
  · have hl := List.eq_nil_of_length_eq_zero hs.1
    subst hl
    have e : sortI ([] : List Int) = [] := List.eq_nil_of_length_eq_zero hsl
    rw [e]
    exact ⟨h2, rfl, ⟨rfl, rfl⟩, hf⟩
  obtain ⟨rfl, hsh⟩ := hs
  by_cases hl : l.length = 0
  · have hl' := List.eq_nil_of_length_eq_zero hl
    subst hl'
    refine ⟨h2, rfl, ?_, hf⟩
    have : sortI ([] : List Int) = [] := List.eq_nil_of_length_eq_zero hsl
    rw [this]
    exact ⟨rfl, hsh⟩
  obtain ⟨L, hg, hle, hfl⟩ := shown_spec hsh
  have hload : loadN L o l.length = some (l.map (V.int .i64)) := by
    unfold loadN
    have : Nat.ble (o + l.length) L.length = true := Nat.ble_eq_true_of_le (by omega)
    rw [this]
    simp only [cond_true, Option.some.injEq]
    rw [Nat.mul_one] at hfl
    exact hfl.symm
  have hset : setN L o ((sortI l).map (V.int .i64)) = some (L.take o ++ ((sortI l).map (V.int .i64) ++ L.drop (o + ((sortI l).map (V.int .i64)).length))) := by
    unfold setN
    have : Nat.ble (o + ((sortI l).map (V.int .i64)).length) L.length = true := Nat.ble_eq_true_of_le (by rw [List.length_map, hsl]; omega)
    rw [this]
    rfl
  refine ⟨h2.set b (.cells 1 (L.take o ++ ((sortI l).map (V.int .i64) ++ L.drop (o + ((sortI l).map (V.int .i64)).length)))), ?_, ?_, hf.set hw0 hb hg _⟩
  · simp only [orcSortI]
    rw [if_neg hl, if_pos ⟨by omega, hn⟩, hg]
    simp [hload, ints_of, hset]
  · refine ⟨hsl.symm, ?_⟩
    have hml : ((sortI l).map (V.int .i64)).length = l.length := by rw [List.length_map, hsl]
    rw [hsl, shown_mk (Hp.get_set_same hg) (by simp only [List.length_append, List.length_take, List.length_drop]; omega)]
    congr 1
    rw [List.drop_append_of_le_length (by simp; omega), List.drop_of_length_le (by simp; omega), List.nil_append, List.take_append_of_le_length (by omega), List.take_of_length_le (by omega)]
    rfl

theorem cmp_slJ {x : V} {l : List Int} {h0 h2 : Hp} (hf : Fr h0 h2) (hw0 : ∀ b x, h0.get b = some x → b < h0.nx) (hro : ro ≤ h0.nx) (hn : l.length ≤ 1000000) (hs : SlJ h2 x l) (hx : Own h0.nx x) :
    ∃ y hS, orcCmp ro [x] h2 = some (y, hS) ∧ SlJ hS y (Lib.compact l) ∧ Own h0.nx y ∧ Fr h0 hS := by
  have hcl := Lib.compact_length_le l
  have hml : (cmpI l).length = l.length := by simp only [cmpI, List.length_append, List.length_replicate]; omega
  rcases hx with rfl | ⟨b, o, n, rfl, hb⟩
  · have hl := List.eq_nil_of_length_eq_zero hs.1
    subst hl
    exact ⟨.nsl, h2, rfl, ⟨rfl, rfl⟩, .inl rfl, hf⟩
  obtain ⟨rfl, hsh⟩ := hs
  by_cases hl : l.length = 0
  · have hl' := List.eq_nil_of_length_eq_zero hl
    subst hl'
    refine ⟨.sl b o 0 0, h2, rfl, ?_, .inr ⟨_, _, _, rfl, hb⟩, hf⟩
    have : Lib.compact ([] : List Int) = [] := List.eq_nil_of_length_eq_zero (by simpa using hcl)
    rw [this]
    exact ⟨rfl, hsh⟩
  obtain ⟨L, hg, hle, hfl⟩ := shown_spec hsh
  have hload : loadN L o l.length = some (l.map (V.int .i64)) := by
    unfold loadN
    have : Nat.ble (o + l.length) L.length = true := Nat.ble_eq_true_of_le (by omega)
    rw [this]
    simp only [cond_true, Option.some.injEq]
    rw [Nat.mul_one] at hfl
    exact hfl.symm
  have hset : setN L o ((cmpI l).map (V.int .i64)) = some (L.take o ++ ((cmpI l).map (V.int .i64) ++ L.drop (o + ((cmpI l).map (V.int .i64)).length))) := by
    unfold setN
    have : Nat.ble (o + ((cmpI l).map (V.int .i64)).length) L.length = true := Nat.ble_eq_true_of_le (by rw [List.length_map, hml]; omega)
    rw [this]
    rfl
  refine ⟨.sl b o (Lib.compact l).length 0, h2.set b (.cells 1 (L.take o ++ ((cmpI l).map (V.int .i64) ++ L.drop (o + ((cmpI l).map (V.int .i64)).length)))), ?_, ?_, .inr ⟨_, _, _, rfl, hb⟩, hf.set hw0 hb hg _⟩
  · simp only [orcCmp]
    rw [if_neg hl, if_pos ⟨by omega, hn⟩, hg]
    simp [hload, ints_of, hset]
  · refine ⟨rfl, ?_⟩
    have hml2 : ((cmpI l).map (V.int .i64)).length = l.length := by rw [List.length_map, hml]
    rw [shown_mk (Hp.get_set_same hg) (by simp only [List.length_append, List.length_take, List.length_drop]; omega)]
    congr 1
    rw [List.drop_append_of_le_length (by simp; omega), List.drop_of_length_le (by simp; omega), List.nil_append, List.take_append_of_le_length (by omega)]
    rw [← List.map_take]
    congr 1
    simp [cmpI]

/-- Where the first range stands that ends behind a place. -/
theorem in_ptr {a : List Rg} (hn : Norm a) {i : Nat} {x : Int} (h1 : ∀ p ∈ a.take i, p.2 ≤ x) (h2 : ∀ p, a[i]? = some p → x < p.2) : inS a x = (match a[i]? with | some p => decide (p.1 ≤ x) | none => false) := by
  have hsp : a.take i ++ a.drop i = a := List.take_append_drop i a
  cases hi : a[i]? with
  | none =>
    have hlen : a.length ≤ i := List.getElem?_eq_none_iff.1 hi
    rw [List.take_of_length_le hlen] at h1
    cases hs : inS a x with
    | false => rfl
    | true =>
      obtain ⟨p, hp, g1, g2⟩ := inS_iff.1 hs
      have := h1 p hp
      omega
  | some p =>
    obtain ⟨hi2, rfl⟩ := List.getElem?_eq_some_iff.1 hi
    have hx := h2 _ hi
    simp only
    rw [Bool.eq_iff_iff, decide_eq_true_eq, inS_iff]
    constructor
    · rintro ⟨q, hq, g1, g2⟩
      obtain ⟨j, hj⟩ := List.getElem?_of_mem hq
      obtain ⟨hj2, rfl⟩ := List.getElem?_eq_some_iff.1 hj
      rcases Nat.lt_trichotomy j i with h3 | h3 | h3
      · have := h1 a[j] (List.mem_iff_getElem?.2 ⟨j, by rw [List.getElem?_take, if_pos h3]; exact hj⟩)
        omega
      · subst h3; exact g1
      · have := List.pairwise_iff_getElem.1 hn.2 i j hi2 hj2 h3
        omega
    · intro g
      exact ⟨a[i], List.getElem_mem hi2, g, hx⟩
open Go Go.RowKit
set_option maxRecDepth 100000
set_option linter.unusedSimpArgs false
set_option linter.unusedVariables false
variable {fs : Nat → Option D} {ro : Nat} {h : Hp} {e : Env}

/-- The slots of the great loop. -/
def GE (e : Env) (g p3 p4 : Nat) (y vo : V) (i k n : Nat) (x : Int) : Prop :=
  e.get 2 = some (.fn (.func g) [] []) ∧ e.get 3 = some (.ptr p3 0) ∧ e.get 4 = some (.ptr p4 0) ∧ e.get 7 = some y ∧ e.get 10 = some vo ∧ e.get 11 = some (.int .i64 (i : Nat)) ∧ e.get 12 = some (.int .i64 (k : Nat)) ∧ e.get 13 = some (.int .i64 (n : Nat)) ∧ e.get 14 = some (.int .i64 x)

theorem ptrA {a : List Rg} {v y vo : V} {p3 p4 g i k n : Nat} {x : Int} {h1 : Hp} (hv : SlG h1 v a) (hg3 : h1.get p3 = some (.cells 0 [v])) (hna : a.length ≤ 2000) (hi : i ≤ a.length) (hp : ∀ p ∈ a.take i, p.2 ≤ x) (he : GE e g p3 p4 y vo i k n x) {Q : X → Env → Hp → Prop}
    (hq : ∀ i' e', i' ≤ a.length → (∀ p ∈ a.take i', p.2 ≤ x) → (∀ p, a[i']? = some p → x < p.2) → GE e' g p3 p4 y vo i' k n x → Q .nrm e' h1) :
    WP fs ro (.block 4 (.loop (.seq (.seq (.reg .false (some [2, 3, 4, 7, 10, 11, 12, 13, 14, 63]) [⟨(some 49), none, (.mov (.t 11))⟩, ⟨(some 50), none, (.fldA 0 (.t 3))⟩, ⟨(some 51), none, (.load none (.t 50))⟩, ⟨(some 52), none, (.lenSl (.t 51))⟩, ⟨(some 53), none, (.bin .lss (.t 49) (.t 52))⟩, ⟨(some 54), none, (.mov (.t 53))⟩, ⟨(some 55), (some (54, .true)), (.fldA 0 (.t 3))⟩, ⟨(some 56), (some (54, .true)), (.load none (.t 55))⟩, ⟨(some 57), (some (54, .true)), (.mov (.t 11))⟩, ⟨(some 58), (some (54, .true)), (.idxA 2 (.t 56) (.t 57))⟩, ⟨(some 59), (some (54, .true)), (.fldA 1 (.t 58))⟩, ⟨(some 60), (some (54, .true)), (.load none (.t 59))⟩, ⟨(some 61), (some (54, .true)), (.mov (.t 14))⟩, ⟨(some 62), (some (54, .true)), (.bin .leq (.t 60) (.t 61))⟩, ⟨(some 63), none, (.pick (.t 54) (.t 62) (.c (.bool .false)))⟩]) (.cond (.t 63) .skip (.exit 4))) (.block 5 (.reg .false (some [2, 3, 4, 7, 10, 11, 12, 13, 14]) [⟨(some 64), none, (.mov (.t 11))⟩, ⟨(some 65), none, (.bin .add (.t 64) (.c (.int .i64 1)))⟩, ⟨(some 11), none, (.mov (.t 65))⟩]))))) e h1 Q := by
  have hlv := hv.lenV
  refine WP_block ?_
  refine WP_loop (fun m e h2 => ∃ i', m = a.length - i' ∧ i' ≤ a.length ∧ (∀ p ∈ a.take i', p.2 ≤ x) ∧ h1 = h2 ∧ GE e g p3 p4 y vo i' k n x) (a.length - i) ⟨i, rfl, hi, hp, rfl, he⟩ ?_
  rintro m e h2 ⟨i', rfl, hi', hp', rfl, g2, g3, g4, g7, g10, g11, g12, g13, g14⟩
  refine WP_seq ?_
  refine WP_mid (fun e2 h2 => h1 = h2 ∧ GE e2 g p3 p4 y vo i' k n x ∧ e2.get 63 = some (.bool (match a[i']? with | some p => decide (p.2 ≤ x) | none => false))) ?_ ?_
  · refine WP_reg ?_
    by_cases c1 : i' < a.length
    · have hsk : a[i']? = some a[i'] := List.getElem?_eq_getElem c1
      obtain ⟨b2, o2, c2, L2, rfl, hg2, w1, w2⟩ := SlG.at hv hsk
      rw [hsk]
      repeat (first | (refine WPO_op rfl ?_; simp [g2, g3, g4, g7, g10, g11, g12, g13, g14, c1, loadV_ptr hg3, loadV_ptr hg2, w2]; done) | (refine WPO_op rfl ?_; simp [g2, g3, g4, g7, g10, g11, g12, g13, g14, c1, loadV_ptr hg3, loadV_ptr hg2, w2]) | (refine WPO_gop rfl ?_; simp [g2, g3, g4, g7, g10, g11, g12, g13, g14, c1, loadV_ptr hg3, loadV_ptr hg2, w2]) | (refine WPO_nil ?_; simp [GE, g2, g3, g4, g7, g10, g11, g12, g13, g14, c1]))
    · have hsk : a[i']? = none := List.getElem?_eq_none (by omega)
      rw [hsk]
      repeat (first | (refine WPO_op rfl ?_; simp [g2, g3, g4, g7, g10, g11, g12, g13, g14, c1, loadV_ptr hg3, hlv]; done) | (refine WPO_op rfl ?_; simp [g2, g3, g4, g7, g10, g11, g12, g13, g14, c1, loadV_ptr hg3, hlv]) | (refine WPO_gop rfl ?_; simp [c1]) | (refine WPO_nil ?_; simp [GE, g2, g3, g4, g7, g10, g11, g12, g13, g14, c1]))
  rintro e2 h2 ⟨rfl, hG, e63⟩
  refine WP_cond (by simp [e63]; rfl) ⟨fun ht => ?_, fun ht => ?_⟩
  · have hc1 : i' < a.length := by
      rcases Nat.lt_or_ge i' a.length with h3 | h3
      · exact h3
      · rw [List.getElem?_eq_none h3] at ht
        cases ht
    rw [List.getElem?_eq_getElem hc1] at ht
    have hlt2 : a[i'].2 ≤ x := by simpa using ht
    have hwr : IntKind.wrap .i64 ((i' : Int) + 1) = ((i' + 1 : Nat) : Int) := by rw [wrap_i64 (by omega) (by omega)]; omega
    obtain ⟨q2, q3, q4, q7, q10, q11, q12, q13, q14⟩ := hG
    simp only [WP_skip, nrmOr_nrm]
    refine WP_block ?_
    repeat (first | refine WP_reg ?_ | (refine WPO_op rfl ?_; simp [q2, q3, q4, q7, q10, q11, q12, q13, q14]) | (refine WPO_nil ?_; simp [q2, q3, q4, q7, q10, q11, q12, q13, q14]))
    refine ⟨a.length - (i' + 1), by omega, i' + 1, rfl, by omega, fun p1 p2 hp => ?_, ?_⟩
    · rw [List.take_succ_eq_append_getElem hc1] at hp
      rcases List.mem_append.1 hp with hp | hp
      · exact hp' _ hp
      · simp at hp
        rw [← hp] at hlt2
        exact hlt2
    · refine ⟨rfl, rfl, rfl, rfl, rfl, ?_, rfl, rfl, rfl⟩
      rw [← hwr]
      rfl
  · simp only [WP_exit, nrmOr_exit, blkQ_exit, if_pos, nrmOr_nrm, blkQ_nrm]
    refine hq i' _ hi' hp' (fun p hp => ?_) hG
    rw [hp] at ht
    simpa using ht

theorem ptrB {a : List Rg} {v y vo : V} {p3 p4 g i k n : Nat} {x : Int} {h1 : Hp} (hv : SlG h1 v a) (hg3 : h1.get p4 = some (.cells 0 [v])) (hna : a.length ≤ 2000) (hi : i ≤ a.length) (hp : ∀ p ∈ a.take i, p.2 ≤ x) (he : GE e g p3 p4 y vo k i n x) {Q : X → Env → Hp → Prop}
    (hq : ∀ i' e', i' ≤ a.length → (∀ p ∈ a.take i', p.2 ≤ x) → (∀ p, a[i']? = some p → x < p.2) → GE e' g p3 p4 y vo k i' n x → Q .nrm e' h1) :
    WP fs ro (.block 6 (.loop (.seq (.seq (.reg .false (some [2, 3, 4, 7, 10, 11, 12, 13, 14, 80]) [⟨(some 66), none, (.mov (.t 12))⟩, ⟨(some 67), none, (.fldA 0 (.t 4))⟩, ⟨(some 68), none, (.load none (.t 67))⟩, ⟨(some 69), none, (.lenSl (.t 68))⟩, ⟨(some 70), none, (.bin .lss (.t 66) (.t 69))⟩, ⟨(some 71), none, (.mov (.t 70))⟩, ⟨(some 72), (some (71, .true)), (.fldA 0 (.t 4))⟩, ⟨(some 73), (some (71, .true)), (.load none (.t 72))⟩, ⟨(some 74), (some (71, .true)), (.mov (.t 12))⟩, ⟨(some 75), (some (71, .true)), (.idxA 2 (.t 73) (.t 74))⟩, ⟨(some 76), (some (71, .true)), (.fldA 1 (.t 75))⟩, ⟨(some 77), (some (71, .true)), (.load none (.t 76))⟩, ⟨(some 78), (some (71, .true)), (.mov (.t 14))⟩, ⟨(some 79), (some (71, .true)), (.bin .leq (.t 77) (.t 78))⟩, ⟨(some 80), none, (.pick (.t 71) (.t 79) (.c (.bool .false)))⟩]) (.cond (.t 80) .skip (.exit 6))) (.block 7 (.reg .false (some [2, 3, 4, 7, 10, 11, 12, 13, 14]) [⟨(some 81), none, (.mov (.t 12))⟩, ⟨(some 82), none, (.bin .add (.t 81) (.c (.int .i64 1)))⟩, ⟨(some 12), none, (.mov (.t 82))⟩]))))) e h1 Q := by
  have hlv := hv.lenV
  refine WP_block ?_
  refine WP_loop (fun m e h2 => ∃ i', m = a.length - i' ∧ i' ≤ a.length ∧ (∀ p ∈ a.take i', p.2 ≤ x) ∧ h1 = h2 ∧ GE e g p3 p4 y vo k i' n x) (a.length - i) ⟨i, rfl, hi, hp, rfl, he⟩ ?_
  rintro m e h2 ⟨i', rfl, hi', hp', rfl, g2, g3, g4, g7, g10, g11, g12, g13, g14⟩
  refine WP_seq ?_
  refine WP_mid (fun e2 h2 => h1 = h2 ∧ GE e2 g p3 p4 y vo k i' n x ∧ e2.get 80 = some (.bool (match a[i']? with | some p => decide (p.2 ≤ x) | none => false))) ?_ ?_
  · refine WP_reg ?_
    by_cases c1 : i' < a.length
    · have hsk : a[i']? = some a[i'] := List.getElem?_eq_getElem c1
      obtain ⟨b2, o2, c2, L2, rfl, hg2, w1, w2⟩ := SlG.at hv hsk
      rw [hsk]
      repeat (first | (refine WPO_op rfl ?_; simp [g2, g3, g4, g7, g10, g11, g12, g13, g14, c1, loadV_ptr hg3, loadV_ptr hg2, w2]; done) | (refine WPO_op rfl ?_; simp [g2, g3, g4, g7, g10, g11, g12, g13, g14, c1, loadV_ptr hg3, loadV_ptr hg2, w2]) | (refine WPO_gop rfl ?_; simp [g2, g3, g4, g7, g10, g11, g12, g13, g14, c1, loadV_ptr hg3, loadV_ptr hg2, w2]) | (refine WPO_nil ?_; simp [GE, g2, g3, g4, g7, g10, g11, g12, g13, g14, c1]))
    · have hsk : a[i']? = none := List.getElem?_eq_none (by omega)
      rw [hsk]
      repeat (first | (refine WPO_op rfl ?_; simp [g2, g3, g4, g7, g10, g11, g12, g13, g14, c1, loadV_ptr hg3, hlv]; done) | (refine WPO_op rfl ?_; simp [g2, g3, g4, g7, g10, g11, g12, g13, g14, c1, loadV_ptr hg3, hlv]) | (refine WPO_gop rfl ?_; simp [c1]) | (refine WPO_nil ?_; simp [GE, g2, g3, g4, g7, g10, g11, g12, g13, g14, c1]))
  rintro e2 h2 ⟨rfl, hG, e80⟩
  refine WP_cond (by simp [e80]; rfl) ⟨fun ht => ?_, fun ht => ?_⟩
  · have hc1 : i' < a.length := by
      rcases Nat.lt_or_ge i' a.length with h3 | h3
      · exact h3
      · rw [List.getElem?_eq_none h3] at ht
        cases ht
    rw [List.getElem?_eq_getElem hc1] at ht
    have hlt2 : a[i'].2 ≤ x := by simpa using ht
    have hwr : IntKind.wrap .i64 ((i' : Int) + 1) = ((i' + 1 : Nat) : Int) := by rw [wrap_i64 (by omega) (by omega)]; omega
    obtain ⟨q2, q3, q4, q7, q10, q11, q12, q13, q14⟩ := hG
    simp only [WP_skip, nrmOr_nrm]
    refine WP_block ?_
    repeat (first | refine WP_reg ?_ | (refine WPO_op rfl ?_; simp [q2, q3, q4, q7, q10, q11, q12, q13, q14]) | (refine WPO_nil ?_; simp [q2, q3, q4, q7, q10, q11, q12, q13, q14]))
    refine ⟨a.length - (i' + 1), by omega, i' + 1, rfl, by omega, fun p1 p2 hp => ?_, ?_⟩
    · rw [List.take_succ_eq_append_getElem hc1] at hp
      rcases List.mem_append.1 hp with hp | hp
      · exact hp' _ hp
      · simp at hp
        rw [← hp] at hlt2
        exact hlt2
    · refine ⟨rfl, rfl, rfl, rfl, rfl, rfl, ?_, rfl, rfl⟩
      rw [← hwr]
      rfl
  · simp only [WP_exit, nrmOr_exit, blkQ_exit, if_pos, nrmOr_nrm, blkQ_nrm]
    refine hq i' _ hi' hp' (fun p hp => ?_) hG
    rw [hp] at ht
    simpa using ht

open Go Go.RowKit
set_option maxRecDepth 100000
set_option linter.unusedSimpArgs false
set_option linter.unusedVariables false
variable {fs : Nat → Option D} {ro : Nat} {h : Hp} {e : Env}

/-- What a pointer into a set stands behind. -/
def Past (a : List Rg) (c : List Int) (i n : Nat) : Prop := i ≤ a.length ∧ ∀ p ∈ a.take i, ∀ (j : Nat) (x : Int), n ≤ j → c[j]? = some x → p.2 ≤ x

set_option maxHeartbeats 4000000 in
theorem ev38 {v w : V} {a b : List Rg} {g : Nat} {f : Bool → Bool → Bool} (hf : fs 40 = some (.code F40)) (hf45 : fs 34 = some (.code F34)) (hf54 : fs 55 = some (.orc orcSortI)) (hf55 : fs 56 = some (.orc orcCmp))
    (hcl : ∀ {x y : Bool} {h : Hp} {Q : V → Hp → Prop}, (∀ h', Q (.bool (f x y)) h') → Ev fs h.nx g [.bool x, .bool y] h Q) (hff : f false false = false)
    (hv : SlG h v a) (hw' : SlG h w b) (hv1 : v.cells = [v]) (hw1 : w.cells = [w]) (hNa : Norm a) (hNb : Norm b) (hna : a.length ≤ 2000) (hnb : b.length ≤ 2000)
    (hw : ∀ b x, h.get b = some x → b < h.nx) (hro : ro ≤ h.nx) {Q : V → Hp → Prop} (hq : ∀ x h', SlG h' x (segs f a b (cutsL a b)) → Own h.nx x → Fr h h' → Q x h') : Ev fs ro 40 [.agg [v], .agg [w], .fn (.func g) [] []] h Q := by
  refine Ev_fn hf rfl rfl rfl rfl ?_
  refine WP_seq ?_
  refine WP_reg ?_
  refine WPO_op rfl ?_
  simp [V.cells]
  refine WPO_op rfl ?_
  simp [V.cells]
  refine WPO_op rfl ?_
  simp
  refine WPO_nil ?_
  simp
  have hf2 : Fr h ((h.new (.cells 0 [v])).new (.cells 0 [w])) := ((Fr.refl hw).new _).new _
  have hg3 : ((h.new (.cells 0 [v])).new (.cells 0 [w])).get h.nx = some (.cells 0 [v]) := by rw [Hp.get_new_ne (by simp)]; exact Hp.get_new_same
  have hg4 : ((h.new (.cells 0 [v])).new (.cells 0 [w])).get (h.nx + 1) = some (.cells 0 [w]) := Hp.get_new_same (h := h.new (.cells 0 [v]))
  have hnx2 : ((h.new (.cells 0 [v])).new (.cells 0 [w])).nx = h.nx + 2 := by simp
  generalize ((h.new (.cells 0 [v])).new (.cells 0 [w])) = h2 at *
  have hv2 : SlG h2 v a := Sl.fr hf2 hv
  have hw2 : SlG h2 w b := Sl.fr hf2 hw'
  have hro2 : ro ≤ h2.nx := by omega
  refine WP_seq ?_
  refine WP_reg ?_
  refine WPO_op rfl ?_
  simp
  refine WPO_nil ?_
  simp
  -- the places where they begin or end
  refine WP_mid (fun e' h' => ∃ vo, SlJ h' vo (ends (a ++ b)) ∧ Own h2.nx vo ∧ Fr h2 h' ∧ e'.get 2 = some (.fn (.func g) [] []) ∧ e'.get 3 = some (.ptr h.nx 0) ∧ e'.get 4 = some (.ptr (h.nx + 1) 0) ∧ e'.get 7 = some vo) ?_ ?_
  · refine WP_seq ?_
    refine WP_reg ?_
    repeat (first | (refine WPO_op rfl ?_; simp [loadV_ptr hg3, loadV_ptr hg4]; done) | (refine WPO_op rfl ?_; simp [loadV_ptr hg3, loadV_ptr hg4]))
    refine WPO_call (g := 34) (a := []) (b := []) (args := [v]) rfl rfl ?_
    simp
    refine ev45n hf45 hv2 hf2.wf (by omega) fun x h3 hsx hgx hfx hnx => ?_
    obtain ⟨hsR, hfR⟩ : SlG (if ground x = true then h2 else h3) x a ∧ Fr h2 (if ground x = true then h2 else h3) := by
      rcases hgx with ⟨rfl, rfl⟩ | hgx
      · exact ⟨⟨rfl, rfl⟩, Fr.refl hf2.wf⟩
      · rw [hgx]
        exact ⟨hsx, hfx⟩
    generalize (if ground x = true then h2 else h3) = hR at *
    have hwR : SlG hR w b := Sl.fr hfR hw2
    obtain ⟨u, hU, hau, hsu, hfU⟩ := app_nx (ro := ro) (t := b) hf2.wf hro2 hfR hsR hnx (by omega)
    have hlu := hsu.lenV
    refine WPO_op rfl ?_
    refine OB_appG (v := x) (y := w) (t := b) rfl rfl hwR hau ?_
    simp
    refine WPO_op rfl ?_
    simp [hlu]
    refine WPO_nil ?_
    simp
    have hab : (a ++ b).length ≤ 4000 := by rw [List.length_append]; omega
    have hin : ((a.length : Int) + (b.length : Int)) = ((a ++ b).length : Nat) := by rw [List.length_append]; omega
    generalize hAB : a ++ b = ab at *
    refine WP_block ?_
    refine WP_loop (fun m e h1 => ∃ i vo, m = ab.length - i ∧ i ≤ ab.length ∧ SlJ h1 vo (ends (ab.take i)) ∧ Own hU.nx vo ∧ Fr hU h1 ∧ e = [(2, .fn (.func g) [] []), (3, .ptr h.nx 0), (4, .ptr (h.nx + 1) 0), (7, vo), (20, u), (21, .int .i64 (ab.length : Nat)), (22, .int .i64 (i : Nat))]) ab.length ⟨0, .nsl, by omega, by omega, ⟨by simp [ends], by simp [ends, intsV]⟩, .inl rfl, Fr.refl hfU.wf, by simp [hin]⟩ ?_
    rintro m e h1 ⟨i, vo, rfl, hi, hvo, hown, hfr, rfl⟩
    refine WP_seq ?_
    refine WP_reg ?_
    repeat (first | (refine WPO_op rfl ?_; simp; done) | (refine WPO_op rfl ?_; simp) | (refine WPO_nil ?_; simp))
    refine WP_seq ?_
    refine WP_cond rfl ⟨fun ht => ?_, fun ht => ?_⟩
    · have hi' : i < ab.length := by simpa using ht
      obtain ⟨b0, o0, c0, L, rfl, hg, q1, q2⟩ := SlG.at (h := h1) (l := ab) (Sl.fr hfr hsu) (List.getElem?_eq_getElem hi')
      have hwr : IntKind.wrap .i64 ((i : Int) + 1) = ((i + 1 : Nat) : Int) := by rw [wrap_i64 (by omega) (by omega)]; omega
      have hsn : ends (ab.take (i + 1)) = ends (ab.take i) ++ [ab[i].1, ab[i].2] := by rw [List.take_succ_eq_append_getElem hi', ends_snoc]
      have hel : (ends (ab.take i)).length ≤ 8000 := by rw [ends_len, List.length_take]; omega
      generalize ab[i] = r at *
      simp only [WP_skip, nrmOr_nrm]
      refine WP_seq ?_
      refine WP_block ?_
      refine WP_seq ?_
      refine WP_reg ?_
      refine WPO_op rfl ?_
      simp [hi']
      refine WPO_op rfl ?_
      simp [loadV_ptr hg, loadN_two q1 q2]
      refine WPO_op rfl ?_
      simp
      have hgr : (h1.new (.cells 0 [.int .i64 0, .int .i64 0])).get h1.nx = some (.cells 0 [.int .i64 0, .int .i64 0]) := Hp.get_new_same
      have hfn : Fr h1 ((h1.new (.cells 0 [.int .i64 0, .int .i64 0])).set h1.nx (.cells 0 [V.int .i64 r.1, V.int .i64 r.2])) := ((Fr.refl hfr.wf).new _).set hfr.wf (Nat.le_refl _) hgr _
      have hg2 : ((h1.new (.cells 0 [.int .i64 0, .int .i64 0])).set h1.nx (.cells 0 [V.int .i64 r.1, V.int .i64 r.2])).get h1.nx = some (.cells 0 [V.int .i64 r.1, V.int .i64 r.2]) := Hp.get_set_same hgr
      have hroU : ro ≤ hU.nx := by have := hfU.nx; omega
      refine WPO_op rfl ?_
      refine OB_store (b := h1.nx) (o := 0) (v := V.agg [V.int .i64 r.1, V.int .i64 r.2]) (l' := [V.int .i64 r.1, V.int .i64 r.2]) rfl rfl (by have := hfr.nx; omega) rfl rfl hgr rfl ?_
      generalize ((h1.new (.cells 0 [.int .i64 0, .int .i64 0])).set h1.nx (.cells 0 [V.int .i64 r.1, V.int .i64 r.2])) = h5 at *
      have hfr5 := hfr.trans hfn
      have hvo5 : SlJ h5 vo (ends (ab.take i)) := Sl.fr hfn hvo
      simp
      refine WPO_nil ?_
      simp
      refine WP_reg ?_
      repeat (first | (refine WPO_op rfl ?_; simp [loadV_ptr hg2]; done) | (refine WPO_op rfl ?_; simp [loadV_ptr hg2]))
      simp [evParts, zeros, fill, V.cells, setN]
      have hf6 := hfr5.new (.cells 1 [V.int .i64 r.1, V.int .i64 r.2])
      have hvo6 : SlJ (h5.new (.cells 1 [V.int .i64 r.1, V.int .i64 r.2])) vo (ends (ab.take i)) := Sl.fr ((Fr.refl hfr5.wf).new _) hvo5
      obtain ⟨v', h', ha, hs, ho, hfa⟩ := app_manyJ (ro := ro) (t := [r.1, r.2]) hfU.wf hroU hf6 hvo6 hown (by simp; omega)
      refine WPO_op rfl ?_
      refine OB_appJ (v := vo) (y := .sl h5.nx 0 2 3) (t := [r.1, r.2]) rfl rfl (Sl.ofNew (h := h5) (sz := 1) (n := 2) (c := 3) (l := [V.int .i64 r.1, V.int .i64 r.2]) rfl) ha ?_
      simp
      refine WPO_op rfl ?_
      simp
      refine WPO_nil ?_
      simp
      repeat (first | refine WP_reg ?_ | (refine WPO_op rfl ?_; simp; done) | (refine WPO_op rfl ?_; simp) | (refine WPO_nil ?_; simp))
      refine ⟨ab.length - (i + 1), by omega, i + 1, rfl, by omega, v', ?_, ho, hfa, rfl, ?_⟩
      · rw [hsn]; exact hs
      · rw [hwr]
    · have hi' : i = ab.length := by
        have : ¬ (i < ab.length) := by simpa using ht
        omega
      subst hi'
      rw [List.take_length] at hvo
      simp only [WP_exit, nrmOr_exit, blkQ_exit, if_pos, nrmOr_nrm, blkQ_nrm]
      exact ⟨vo, hvo, hown.mono hfU.nx, hfU.trans hfr, rfl, rfl, rfl, rfl⟩
  rintro e1 h3 ⟨vo, hvo, hown, hfr, e2, e3, e4, e7⟩
  have hel : (ends (a ++ b)).length ≤ 8000 := by rw [ends_len, List.length_append]; omega
  obtain ⟨hS, hrun, hsS, hfS⟩ := sort_slJ (ro := ro) hfr hf2.wf hro2 (by omega) hvo hown
  refine WP_seq ?_
  refine WP_reg ?_
  refine WPO_op rfl ?_
  simp [e7]
  refine WPO_call (g := 55) (a := []) (b := []) (args := [vo]) rfl (by simp) ?_
  simp
  refine Ev_orc hf54 (r := .tup []) (h' := hS) hrun ?_
  refine WPO_nil ?_
  simp [e2, e3, e4, e7]
  have hsl : (sortI (ends (a ++ b))).length ≤ 8000 := by simp only [sortI, List.length_mergeSort]; omega
  obtain ⟨y, hK, hrun2, hsK, hoK, hfK⟩ := cmp_slJ (ro := ro) hfS hf2.wf hro2 (by omega) hsS hown
  rw [borders] at hsK
  refine WP_seq ?_
  refine WP_reg ?_
  refine WPO_op rfl ?_
  simp
  refine WPO_call (g := 56) (a := []) (b := []) (args := [vo]) rfl rfl ?_
  simp
  refine Ev_orc hf55 (r := y) (h' := hK) hrun2 ?_
  refine WPO_op rfl ?_
  simp
  refine WPO_nil ?_
  simp
  have hcs := (cutsL_spec a b).1
  have hcn := (cutsL_spec a b).2.2
  generalize hC : cutsL a b = cl at *
  have hlc := hsK.lenV
  have hgK3 := hfK.sub _ _ hg3
  have hgK4 := hfK.sub _ _ hg4
  have hvK : SlG hK v a := Sl.fr hfK hv2
  have hwK : SlG hK w b := Sl.fr hfK hw2
  have hlv := hvK.lenV
  have hlw := hwK.lenV
  repeat (first | refine WP_seq ?_ | refine WP_reg ?_ | (refine WPO_op rfl ?_; simp; done) | (refine WPO_op rfl ?_; simp) | (refine WPO_nil ?_; simp))
  refine WP_block ?_
  refine WP_loop (fun m e h1 => ∃ n i k vo, m = cl.length + 1 - n ∧ n ≤ cl.length ∧ Past a cl i n ∧ Past b cl k n ∧ SlG h1 vo (segs f a b (cl.take (n + 1))) ∧ Own hK.nx vo ∧ Fr hK h1 ∧ e = [(2, .fn (.func g) [] []), (3, .ptr h.nx 0), (4, .ptr (h.nx + 1) 0), (7, y), (10, vo), (11, .int .i64 (i : Nat)), (12, .int .i64 (k : Nat)), (13, .int .i64 (n : Nat))]) (cl.length + 1) ⟨0, 0, 0, .nsl, by omega, by omega, ⟨by omega, fun p hp => by simp at hp⟩, ⟨by omega, fun p hp => by simp at hp⟩, ?_, .inl rfl, Fr.refl hfK.wf, by simp⟩ ?_
  · have : segs f a b (cl.take (0 + 1)) = [] := by cases cl <;> simp [segs]
    rw [this]
    exact ⟨rfl, rfl⟩
  rintro m e h1 ⟨n, i, k, vo2, rfl, hn, hPa, hPb, hvo2, hown2, hfr2, rfl⟩
  have w1 : IntKind.wrap .i64 ((n : Int) + 1) = ((n + 1 : Nat) : Int) := by rw [wrap_i64 (by omega) (by omega)]; omega
  refine WP_seq ?_
  refine WP_seq ?_
  refine WP_reg ?_
  repeat (first | (refine WPO_op rfl ?_; simp [hlc, w1]; done) | (refine WPO_op rfl ?_; simp [hlc, w1]) | (refine WPO_nil ?_; simp))
  refine WP_cond rfl ⟨fun ht => ?_, fun ht => ?_⟩
  · have hn1 : n + 1 < cl.length := by
      have : ((n : Int) + 1) < cl.length := by simpa using ht
      omega
    have hn0 : n < cl.length := by omega
    have hst := segs_take f a b hn1
    have hsl := segs_len f a b (cl.take (n + 1))
    simp only [List.length_take] at hsl
    obtain ⟨b0, o0, c0, L, rfl, hg, u1⟩ := SlJ.at (h := h1) (l := cl) (Sl.fr hfr2 hsK) hn1
    obtain ⟨b0', o0', c0', L', ee, hg', u0⟩ := SlJ.at (h := h1) (l := cl) (Sl.fr hfr2 hsK) hn0
    cases ee
    rw [hg] at hg'
    simp only [Option.some.injEq, Blk.cells.injEq, true_and] at hg'
    subst hg'
    have hcn0 : cl[n]? = some cl[n] := List.getElem?_eq_getElem hn0
    have hmon : ∀ (j : Nat) (x : Int), n + 1 ≤ j → cl[j]? = some x → cl[n] ≤ x := fun j x hj hx => by
      obtain ⟨hj2, rfl⟩ := List.getElem?_eq_some_iff.1 hx
      have := List.pairwise_iff_getElem.1 hcs n j hn0 hj2 (by omega)
      omega
    have hpa : ∀ p ∈ a.take i, p.2 ≤ cl[n] := fun p hp => hPa.2 p hp n _ (Nat.le_refl _) hcn0
    have hpb : ∀ p ∈ b.take k, p.2 ≤ cl[n] := fun p hp => hPb.2 p hp n _ (Nat.le_refl _) hcn0
    have c1 : (n : Int) < (cl.length : Int) := by omega
    have c2 : (n : Int) + 1 < (cl.length : Int) := by omega
    have c3 : (0 : Int) ≤ (n : Int) + 1 := by omega
    have n1 : ((n : Int) + 1).toNat = n + 1 := by omega
    have hv1' : SlG h1 v a := Sl.fr hfr2 hvK
    have hw1' : SlG h1 w b := Sl.fr hfr2 hwK
    have hg31 := hfr2.sub _ _ hgK3
    have hg41 := hfr2.sub _ _ hgK4
    generalize cl[n] = at' at *
    generalize hq1 : cl[n + 1] = nx' at *
    simp only [WP_skip, nrmOr_nrm]
    refine WP_mid (fun e' h' => ∃ i' k' vo', Past a cl i' (n + 1) ∧ Past b cl k' (n + 1) ∧ SlG h' vo' (segs f a b (cl.take (n + 1 + 1))) ∧ Own hK.nx vo' ∧ Fr hK h' ∧ e'.get 2 = some (.fn (.func g) [] []) ∧ e'.get 3 = some (.ptr h.nx 0) ∧ e'.get 4 = some (.ptr (h.nx + 1) 0) ∧ e'.get 7 = some (.sl b0 o0 cl.length c0) ∧ e'.get 10 = some vo' ∧ e'.get 11 = some (.int .i64 (i' : Nat)) ∧ e'.get 12 = some (.int .i64 (k' : Nat)) ∧ e'.get 13 = some (.int .i64 (n : Nat))) ?_ ?_
    rotate_left
    · rintro e' h' ⟨i', k', vo', p1, p2, g1, g2, g3, q2, q3, q4, q7, q10, q11, q12, q13⟩
      repeat (first | refine WP_reg ?_ | (refine WPO_op rfl ?_; simp [q13]) | (refine WPO_nil ?_; simp [q2, q3, q4, q7, q10, q11, q12, q13]))
      refine ⟨cl.length + 1 - (n + 1), by omega, n + 1, rfl, by omega, i', p1, k', p2, vo', g1, g2, g3, rfl, rfl, rfl, ?_⟩
      rw [w1]
    refine WP_block ?_
    refine WP_seq ?_
    refine WP_reg ?_
    repeat (first | (refine WPO_op rfl ?_; simp [c1, loadV_ptr hg, u0]; done) | (refine WPO_op rfl ?_; simp [c1, loadV_ptr hg, u0]) | (refine WPO_nil ?_; simp))
    refine WP_seq ?_
    refine ptrA (n := n) (k := k) (y := .sl b0 o0 cl.length c0) (vo := vo2) (g := g) (p4 := h.nx + 1) hv1' hg31 hna hPa.1 hpa ⟨rfl, rfl, rfl, rfl, rfl, rfl, rfl, rfl, rfl⟩ fun i' e1 hi1 hi2 hi3 hG1 => ?_
    simp only [nrmOr_nrm]
    refine WP_seq ?_
    refine ptrB (p3 := h.nx) hw1' hg41 hnb hPb.1 hpb hG1 fun k' e2 hk1 hk2 hk3 hG2 => ?_
    simp only [nrmOr_nrm]
    have hA := in_ptr hNa hi2 hi3
    have hB := in_ptr hNb hk2 hk3
    refine WP_mid (fun e3 h' => h1 = h' ∧ GE e3 g h.nx (h.nx + 1) (.sl b0 o0 cl.length c0) vo2 i' k' n at' ∧ e3.get 114 = some (.bool (f (inS a at') (inS b at')))) ?_ ?_
    · obtain ⟨q2, q3, q4, q7, q10, q11, q12, q13, q14⟩ := hG2
      refine WP_reg ?_
      by_cases d1 : i' < a.length <;> by_cases d2 : k' < b.length
      · have ha := List.getElem?_eq_getElem d1
        rw [ha] at hA
        simp only at hA
        obtain ⟨bA, oA, cA, LA, rfl, hgA, uA, _⟩ := SlG.at hv1' ha
        have hb := List.getElem?_eq_getElem d2
        rw [hb] at hB
        simp only at hB
        obtain ⟨bB, oB, cB, LB, rfl, hgB, uB, _⟩ := SlG.at hw1' hb
        rw [hA, hB]
        repeat (first | (refine WPO_op rfl ?_; simp [q2, q3, q4, q7, q10, q11, q12, q13, q14, d1, d2, loadV_ptr hg31, loadV_ptr hg41, loadV_ptr hgA, uA, loadV_ptr hgB, uB]; done) | (refine WPO_op rfl ?_; simp [q2, q3, q4, q7, q10, q11, q12, q13, q14, d1, d2, loadV_ptr hg31, loadV_ptr hg41, loadV_ptr hgA, uA, loadV_ptr hgB, uB]) | (refine WPO_gop rfl ?_; simp [q2, q3, q4, q7, q10, q11, q12, q13, q14, d1, d2, loadV_ptr hg31, loadV_ptr hg41, loadV_ptr hgA, uA, loadV_ptr hgB, uB]))
        refine WPO_call (g := g) (a := []) (b := []) (args := [.bool (decide (a[i'].1 ≤ at')), .bool (decide (b[k'].1 ≤ at'))]) (by simp) (by simp) ?_
        simp
        refine hcl fun h9 => ?_
        simp
        refine WPO_nil ?_
        simp [GE, q2, q3, q4, q7, q10, q11, q12, q13, q14]
      · have ha := List.getElem?_eq_getElem d1
        rw [ha] at hA
        simp only at hA
        obtain ⟨bA, oA, cA, LA, rfl, hgA, uA, _⟩ := SlG.at hv1' ha
        have hb : b[k']? = none := List.getElem?_eq_none (by omega)
        rw [hb] at hB
        simp only at hB
        rw [hA, hB]
        repeat (first | (refine WPO_op rfl ?_; simp [q2, q3, q4, q7, q10, q11, q12, q13, q14, d1, d2, loadV_ptr hg31, loadV_ptr hg41, loadV_ptr hgA, uA, hlw]; done) | (refine WPO_op rfl ?_; simp [q2, q3, q4, q7, q10, q11, q12, q13, q14, d1, d2, loadV_ptr hg31, loadV_ptr hg41, loadV_ptr hgA, uA, hlw]) | (refine WPO_gop rfl ?_; simp [q2, q3, q4, q7, q10, q11, q12, q13, q14, d1, d2, loadV_ptr hg31, loadV_ptr hg41, loadV_ptr hgA, uA, hlw]))
        refine WPO_call (g := g) (a := []) (b := []) (args := [.bool (decide (a[i'].1 ≤ at')), .bool false]) (by simp) (by simp) ?_
        simp
        refine hcl fun h9 => ?_
        simp
        refine WPO_nil ?_
        simp [GE, q2, q3, q4, q7, q10, q11, q12, q13, q14]
      · have ha : a[i']? = none := List.getElem?_eq_none (by omega)
        rw [ha] at hA
        simp only at hA
        have hb := List.getElem?_eq_getElem d2
        rw [hb] at hB
        simp only at hB
        obtain ⟨bB, oB, cB, LB, rfl, hgB, uB, _⟩ := SlG.at hw1' hb
        rw [hA, hB]
        repeat (first | (refine WPO_op rfl ?_; simp [q2, q3, q4, q7, q10, q11, q12, q13, q14, d1, d2, loadV_ptr hg31, loadV_ptr hg41, hlv, loadV_ptr hgB, uB]; done) | (refine WPO_op rfl ?_; simp [q2, q3, q4, q7, q10, q11, q12, q13, q14, d1, d2, loadV_ptr hg31, loadV_ptr hg41, hlv, loadV_ptr hgB, uB]) | (refine WPO_gop rfl ?_; simp [q2, q3, q4, q7, q10, q11, q12, q13, q14, d1, d2, loadV_ptr hg31, loadV_ptr hg41, hlv, loadV_ptr hgB, uB]))
        refine WPO_call (g := g) (a := []) (b := []) (args := [.bool false, .bool (decide (b[k'].1 ≤ at'))]) (by simp) (by simp) ?_
        simp
        refine hcl fun h9 => ?_
        simp
        refine WPO_nil ?_
        simp [GE, q2, q3, q4, q7, q10, q11, q12, q13, q14]
      · have ha : a[i']? = none := List.getElem?_eq_none (by omega)
        rw [ha] at hA
        simp only at hA
        have hb : b[k']? = none := List.getElem?_eq_none (by omega)
        rw [hb] at hB
        simp only at hB
        rw [hA, hB]
        repeat (first | (refine WPO_op rfl ?_; simp [q2, q3, q4, q7, q10, q11, q12, q13, q14, d1, d2, loadV_ptr hg31, loadV_ptr hg41, hlv, hlw]; done) | (refine WPO_op rfl ?_; simp [q2, q3, q4, q7, q10, q11, q12, q13, q14, d1, d2, loadV_ptr hg31, loadV_ptr hg41, hlv, hlw]) | (refine WPO_gop rfl ?_; simp [q2, q3, q4, q7, q10, q11, q12, q13, q14, d1, d2, loadV_ptr hg31, loadV_ptr hg41, hlv, hlw]))
        refine WPO_call (g := g) (a := []) (b := []) (args := [.bool false, .bool false]) (by simp) (by simp) ?_
        simp
        refine hcl fun h9 => ?_
        simp
        refine WPO_nil ?_
        simp [GE, q2, q3, q4, q7, q10, q11, q12, q13, q14]
    rintro e3 h' ⟨rfl, hG3, e114⟩
    obtain ⟨q2, q3, q4, q7, q10, q11, q12, q13, q14⟩ := hG3
    have hPa' : Past a cl i' (n + 1) := ⟨hi1, fun p hp j x hj hx => by have := hi2 p hp; have := hmon j x hj hx; omega⟩
    have hPb' : Past b cl k' (n + 1) := ⟨hk1, fun p hp j x hj hx => by have := hk2 p hp; have := hmon j x hj hx; omega⟩
    refine WP_cond (by simp [e114]; rfl) ⟨fun hd => ?_, fun hd => ?_⟩
    · have hd' : f (inS a at') (inS b at') = true := by simpa using hd
      rw [if_pos hd'] at hst
      obtain ⟨v', h', ha, hs, ho, hfa, hsh⟩ := app_range (ro := ro) (p := (at', nx')) hfK.wf (by have := hfK.nx; omega) hfr2 hvo2 hown2 (by omega)
      refine WP_reg ?_
      repeat (first | (refine WPO_op rfl ?_; simp [q2, q3, q4, q7, q10, q11, q12, q13, q14, w1, c2, loadV_ptr hg, u1, c3, n1]; done) | (refine WPO_op rfl ?_; simp [q2, q3, q4, q7, q10, q11, q12, q13, q14, w1, c2, loadV_ptr hg, u1, c3, n1]))
      simp [evParts, fill, V.cells, setN]
      refine WPO_op rfl ?_
      simp [evParts, zeros, fill, V.cells, setN]
      refine WPO_op rfl ?_
      refine OB_appG (v := vo2) (y := .sl h1.nx 0 1 2) (t := [(at', nx')]) (by simp) (by simp) (Sl.ofNew (h := h1) (sz := 2) (n := 1) (c := 2) (l := [V.int .i64 at', V.int .i64 nx']) rfl) ha ?_
      simp
      refine WPO_op rfl ?_
      simp
      refine WPO_nil ?_
      simp [q2, q3, q4, q7, q11, q12, q13]
      refine ⟨i', hPa', k', hPb', v', ?_, ho, hfa, rfl, rfl, rfl⟩
      rw [hst]
      exact hs
    · have hd' : ¬ (f (inS a at') (inS b at') = true) := by simpa using hd
      rw [if_neg hd', List.append_nil] at hst
      simp only [WP_skip, nrmOr_nrm, blkQ_nrm]
      exact ⟨i', hPa', k', hPb', vo2, by rw [hst]; exact hvo2, hown2, hfr2, q2, q3, q4, q7, q10, q11, q12, q13⟩
  · have hn1 : cl.length ≤ n + 1 := by
      have : ¬ ((n : Int) + 1 < cl.length) := by simpa using ht
      omega
    rw [List.take_of_length_le hn1] at hvo2
    simp only [WP_exit, nrmOr_exit, blkQ_exit, if_pos, nrmOr_nrm, blkQ_nrm]
    repeat (first | refine WP_seq ?_ | refine WP_reg ?_ | (refine WPO_op rfl ?_; simp) | (refine WPO_nil ?_; simp))
    simp [WP_ret, F40]
    exact hq vo2 h1 hvo2 (hown2.mono (by have := hfK.nx; omega)) ((hf2.trans hfK).trans hfr2)
open Go Go.RowKit
set_option maxRecDepth 100000
set_option linter.unusedSimpArgs false
set_option linter.unusedVariables false
variable {fs : Nat → Option D} {ro : Nat} {h : Hp} {e : Env}

theorem ev19 {v w : V} {a b : List Rg} (hf : fs 16 = some (.code F16)) (hf38 : fs 40 = some (.code F40)) (hf45 : fs 34 = some (.code F34)) (hf54 : fs 55 = some (.orc orcSortI)) (hf55 : fs 56 = some (.orc orcCmp)) (hfg : fs 41 = some (.code F41)) (hf25 : fs 39 = some (.code F39))
    (hv : SlG h v a) (hw' : SlG h w b) (hv1 : v.cells = [v]) (hw1 : w.cells = [w]) (hNa : Norm a) (hNb : Norm b) (hna : a.length ≤ 2000) (hnb : b.length ≤ 2000)
    (hw : ∀ b x, h.get b = some x → b < h.nx) (hro : ro ≤ h.nx) {Q : V → Hp → Prop} (hq : ∀ x h', (combL (fun x y => x || y) a b).length ≤ 1024 → SlG h' x (combL (fun x y => x || y) a b) → Own h.nx x → Fr h h' → Q (.tup [.agg [x], .int .i64 0]) h') (hq2 : ∀ h', 1024 < (combL (fun x y => x || y) a b).length → Fr h h' → Q (.tup [.agg [.nsl], .int .i64 9]) h') : Ev fs ro 16 [.agg [v], .agg [w]] h Q := by
  refine Ev_fn hf rfl rfl rfl rfl ?_
  refine WP_seq ?_
  refine WP_reg ?_
  refine WPO_op rfl ?_
  simp [V.cells]
  refine WPO_op rfl ?_
  simp [V.cells]
  refine WPO_op rfl ?_
  simp
  refine WPO_op rfl ?_
  simp
  refine WPO_nil ?_
  simp
  have hf2 : Fr h (((h.new (.cells 0 [v])).new (.cells 0 [w])).new (.cells 0 [.nsl])) := (((Fr.refl hw).new _).new _).new _
  have hg3 : (((h.new (.cells 0 [v])).new (.cells 0 [w])).new (.cells 0 [.nsl])).get h.nx = some (.cells 0 [v]) := by rw [Hp.get_new_ne (by simp; omega), Hp.get_new_ne (by simp)]; exact Hp.get_new_same
  have hg4 : (((h.new (.cells 0 [v])).new (.cells 0 [w])).new (.cells 0 [.nsl])).get (h.nx + 1) = some (.cells 0 [w]) := by rw [Hp.get_new_ne (by simp)]; exact Hp.get_new_same (h := h.new (.cells 0 [v]))
  have hg5 : (((h.new (.cells 0 [v])).new (.cells 0 [w])).new (.cells 0 [.nsl])).get (h.nx + 1 + 1) = some (.cells 0 [.nsl]) := Hp.get_new_same (h := (h.new (.cells 0 [v])).new (.cells 0 [w]))
  have hnx2 : (((h.new (.cells 0 [v])).new (.cells 0 [w])).new (.cells 0 [.nsl])).nx = h.nx + 3 := by simp
  generalize (((h.new (.cells 0 [v])).new (.cells 0 [w])).new (.cells 0 [.nsl])) = h2 at *
  refine WP_seq ?_
  refine WP_reg ?_
  repeat (first | (refine WPO_op rfl ?_; simp [loadV_ptr hg3, loadV_ptr hg4, loadN]; done) | (refine WPO_op rfl ?_; simp [loadV_ptr hg3, loadV_ptr hg4, loadN]))
  refine WPO_call (g := 40) (a := []) (b := []) (args := [.agg [v], .agg [w], .fn (.func 41) [] []]) rfl rfl ?_
  simp
  refine ev38 hf38 hf45 hf54 hf55 (fun {x y h Q} hq => ev39 hfg hq) (f := fun x y => x || y) rfl (Sl.fr hf2 hv) (Sl.fr hf2 hw') hv1 hw1 hNa hNb hna hnb hf2.wf (Nat.le_refl _) fun x h3 hsx hox hfx => ?_
  obtain ⟨hsX, hfX⟩ := aft1 hf2.wf hsx hox hfx
  generalize (if ground x = true then h2 else h3) = hX at *
  have hsl := segs_len (fun x y => x || y) a b (cutsL a b)
  have hcl := (cutsL_spec a b).2.2
  have hml := mrgs_le (segs (fun x y => x || y) a b (cutsL a b))
  refine WPO_call (g := 39) (a := []) (b := []) (args := [x]) rfl rfl ?_
  simp
  refine ev25 hf25 hsX hfX.wf (Nat.le_refl _) (by omega) fun y h4 hsy hoy hfy => ?_
  by_cases hlim : (mrgs (segs (fun x y => x || y) a b (cutsL a b))).length ≤ 1024
  · have hmv : madeV (mrgs (segs (fun x y => x || y) a b (cutsL a b))) y = .tup [.agg [y], .int .i64 0] := by
      unfold madeV
      rw [if_neg (by omega)]
    rw [hmv]
    obtain ⟨hsT, hfT⟩ := aft (k := .i64) (n := 0) hfX.wf hsy hoy hfy (.inl rfl)
    generalize (if ground (V.tup [V.agg [y], V.int .i64 0]) = true then hX else h4) = hT at *
    have hg6 := hfT.sub _ _ (hfX.sub _ _ hg5)
    obtain ⟨hyc1, hyc2⟩ := hoy.cells
    refine WPO_op rfl ?_
    simp [op1]
    refine WPO_op rfl ?_
    simp [op1]
    refine WPO_op rfl ?_
    refine OB_store (b := h.nx + 1 + 1) (o := 0) (v := V.agg [y]) (l' := [y]) rfl rfl (by omega) rfl (by simp [V.cells, hyc2]) hg6 rfl ?_
    simp
    refine WPO_op rfl ?_
    simp
    refine WPO_nil ?_
    simp [WP_ret, F16]
    have hg7 : (hT.set (h.nx + 1 + 1) (.cells 0 [y])).get (h.nx + 1 + 1) = some (.cells 0 [y]) := Hp.get_set_same hg6
    have hfin : Fr h (hT.set (h.nx + 1 + 1) (.cells 0 [y])) := ((hf2.trans hfX).trans hfT).set hw (by omega) hg6 _
    have hown : Own h.nx y := hoy.mono (by have := hfX.nx; omega)
    have hsy2 : SlG (hT.set (h.nx + 1 + 1) (.cells 0 [y])) y (mrgs (segs (fun x y => x || y) a b (cutsL a b))) := Sl.set_ne hsT hoy (by have := hfX.nx; omega) _
    simp [loadV_ptr hg7, loadN, pack]
    exact hq y _ hlim hsy2 hown hfin
  · have hmv : madeV (mrgs (segs (fun x y => x || y) a b (cutsL a b))) y = .tup [.agg [.nsl], .int .i64 9] := by
      unfold madeV
      rw [if_pos (by omega)]
    rw [hmv]
    have hgd : ground (V.tup [V.agg [.nsl], V.int .i64 9]) = true := rfl
    have hg6 := hfX.sub _ _ hg5
    simp only [hgd, if_true]
    refine WPO_op rfl ?_
    simp [op1]
    refine WPO_op rfl ?_
    simp [op1]
    refine WPO_op rfl ?_
    refine OB_store (b := h.nx + 1 + 1) (o := 0) (v := V.agg [.nsl]) (l' := [.nsl]) rfl rfl (by omega) rfl rfl hg6 rfl ?_
    simp
    refine WPO_op rfl ?_
    simp
    refine WPO_nil ?_
    simp [WP_ret, F16]
    have hg7 : (hX.set (h.nx + 1 + 1) (.cells 0 [.nsl])).get (h.nx + 1 + 1) = some (.cells 0 [.nsl]) := Hp.get_set_same hg6
    simp [loadV_ptr hg7, loadN, pack]
    exact hq2 _ (by unfold combL; omega) ((hf2.trans hfX).set hw (by omega) hg6 _)

end Go.Am.SZ
