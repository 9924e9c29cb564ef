/- Two sets combined: the places where one of them begins or ends, and the pieces between them. Plain Lean, no program in sight. -/
import Derived.Test.YtochmoadmdmcbaaDoorAmP1
import Derived.Test.YtochmoadmdmcbaaDoorAm26
namespace Go.Am.S7
open Go

def inS (a : List Rg) (x : Int) : Bool := a.any fun p => decide (p.1 ≤ x) && decide (x < p.2)
theorem inS_iff {a : List Rg} {x : Int} : inS a x = true ↔ Mem a x := by simp [inS, Mem]

def ends : List Rg → List Int
  | [] => []
  | p :: r => p.1 :: p.2 :: ends r
theorem ends_mem {e : Int} : ∀ {l : List Rg}, e ∈ ends l ↔ ∃ p ∈ l, e = p.1 ∨ e = p.2
  | [] => by simp [ends]
  | q :: r => by
    simp only [ends, List.mem_cons, ends_mem (l := r)]
    constructor
    · rintro (h | h | ⟨p, hp, h⟩)
      · exact ⟨q, .inl rfl, .inl h⟩
      · exact ⟨q, .inl rfl, .inr h⟩
      · exact ⟨p, .inr hp, h⟩
    · rintro ⟨p, rfl | hp, h⟩
      · rcases h with h | h
        · exact .inl h
        · exact .inr (.inl h)
      · exact .inr (.inr ⟨p, hp, h⟩)
theorem ends_append : ∀ {a b : List Rg}, ends (a ++ b) = ends a ++ ends b
  | [], _ => rfl
  | p :: a, b => by simp [ends, ends_append (a := a)]
theorem ends_len : ∀ l : List Rg, (ends l).length = l.length * 2
  | [] => rfl
  | _ :: r => by simp only [ends, List.length_cons, ends_len r]; omega

def SInc (l : List Int) : Prop := l.Pairwise (· < ·)

theorem sinc_unique : ∀ {a b : List Int}, SInc a → SInc b → (∀ x, x ∈ a ↔ x ∈ b) → a = b
  | [], [], _, _, _ => rfl
  | [], y :: b, _, _, h => by have := (h y).2 (by simp); cases this
  | x :: a, [], _, _, h => by have := (h x).1 (by simp); cases this
  | x :: a, y :: b, ha, hb, h => by
    obtain ⟨ha1, ha2⟩ := List.pairwise_cons.1 ha
    obtain ⟨hb1, hb2⟩ := List.pairwise_cons.1 hb
    have e : x = y := by
      have h1 := (h x).1 (by simp)
      have h2 := (h y).2 (by simp)
      rcases List.mem_cons.1 h1 with h1 | h1
      · exact h1
      · rcases List.mem_cons.1 h2 with h2 | h2
        · exact h2.symm
        · have := ha1 y h2
          have := hb1 x h1
          omega
    subst e
    rw [sinc_unique ha2 hb2 fun z => ?_]
    constructor
    · intro hz
      rcases List.mem_cons.1 ((h z).1 (by simp [hz])) with h1 | h1
      · have := ha1 z hz
        omega
      · exact h1
    · intro hz
      rcases List.mem_cons.1 ((h z).2 (by simp [hz])) with h1 | h1
      · have := hb1 z hz
        omega
      · exact h1

/-- The insertion of one number, unless it is there. -/
def insI (l : List Int) (n : Int) : List Int :=
  if (l.dropWhile fun x => decide (x < n)).head? = some n then l else l.takeWhile (fun x => decide (x < n)) ++ n :: l.dropWhile (fun x => decide (x < n))

theorem twI_lt {a : Int} : ∀ {s : List Int}, ∀ p ∈ s.takeWhile (fun p => decide (p < a)), p < a
  | q :: s, p, hp => by
    rw [List.takeWhile_cons] at hp
    split at hp
    · rename_i h
      rcases List.mem_cons.1 hp with rfl | hp
      · simpa using h
      · exact twI_lt p hp
    · cases hp
theorem dwI_ge {a : Int} : ∀ {s : List Int}, SInc s → ∀ p ∈ s.dropWhile (fun p => decide (p < a)), a ≤ p
  | q :: s, hs, p, hp => by
    rw [List.dropWhile_cons] at hp
    obtain ⟨h1, h2⟩ := List.pairwise_cons.1 hs
    split at hp
    · exact dwI_ge h2 p hp
    · rename_i h
      have hq : a ≤ q := by simpa using h
      rcases List.mem_cons.1 hp with rfl | hp
      · exact hq
      · have := h1 p hp
        omega

theorem insI_spec {l : List Int} {n : Int} (hl : SInc l) : SInc (insI l n) ∧ (∀ x, x ∈ insI l n ↔ x = n ∨ x ∈ l) ∧ (insI l n).length ≤ l.length + 1 := by
  have hsplit : l.takeWhile (fun x => decide (x < n)) ++ l.dropWhile (fun x => decide (x < n)) = l := List.takeWhile_append_dropWhile
  have hmem : ∀ x, x ∈ l ↔ x ∈ l.takeWhile (fun x => decide (x < n)) ∨ x ∈ l.dropWhile (fun x => decide (x < n)) := fun x => by rw [← List.mem_append, hsplit]
  have hlen : (l.takeWhile (fun x => decide (x < n))).length + (l.dropWhile (fun x => decide (x < n))).length = l.length := by rw [← List.length_append, hsplit]
  have hpw : SInc (l.takeWhile (fun x => decide (x < n)) ++ l.dropWhile (fun x => decide (x < n))) := by rw [hsplit]; exact hl
  obtain ⟨h1, h2, h3⟩ := List.pairwise_append.1 hpw
  unfold insI
  split
  · rename_i h
    refine ⟨hl, fun x => ⟨.inr, fun hx => ?_⟩, by omega⟩
    rcases hx with rfl | hx
    · exact (hmem x).2 (.inr (List.mem_of_mem_head? h))
    · exact hx
  · rename_i h
    have hgt : ∀ p ∈ l.dropWhile (fun x => decide (x < n)), n < p := by
      cases hd : l.dropWhile (fun x => decide (x < n)) with
      | nil => intro p hp; cases hp
      | cons q r =>
        rw [hd] at h h2
        have hq := dwI_ge (a := n) hl q (by rw [hd]; simp)
        have hqn : q ≠ n := fun e => h (by rw [e]; rfl)
        intro p hp
        rcases List.mem_cons.1 hp with rfl | hp
        · omega
        · have := (List.pairwise_cons.1 h2).1 p hp
          omega
    refine ⟨List.pairwise_append.2 ⟨h1, List.pairwise_cons.2 ⟨hgt, h2⟩, fun p hp q hq => ?_⟩, fun x => ?_, ?_⟩
    · have := twI_lt p hp
      rcases List.mem_cons.1 hq with rfl | hq
      · exact this
      · exact h3 p hp q hq
    · rw [hmem x]
      simp only [List.mem_append, List.mem_cons]
      constructor
      · rintro (g | g | g)
        · exact .inr (.inl g)
        · exact .inl g
        · exact .inr (.inr g)
      · rintro (g | g | g)
        · exact .inr (.inl g)
        · exact .inl g
        · exact .inr (.inr g)
    · simp only [List.length_append, List.length_cons]
      omega

theorem insIs_spec : ∀ {es l : List Int}, SInc l → SInc (es.foldl insI l) ∧ (∀ x, x ∈ es.foldl insI l ↔ x ∈ l ∨ x ∈ es) ∧ (es.foldl insI l).length ≤ l.length + es.length
  | [], l, hl => ⟨hl, fun x => by simp, by simp⟩
  | e :: es, l, hl => by
    obtain ⟨h1, h2, h3⟩ := insI_spec (n := e) hl
    obtain ⟨g1, g2, g3⟩ := insIs_spec (es := es) h1
    refine ⟨g1, fun x => (g2 x).trans ?_, by simp only [List.foldl_cons, List.length_cons]; omega⟩
    rw [h2 x, List.mem_cons]
    constructor
    · rintro ((h | h) | h)
      · exact .inr (.inl h)
      · exact .inl h
      · exact .inr (.inr h)
    · rintro (h | h | h)
      · exact .inl (.inr h)
      · exact .inl (.inl h)
      · exact .inr h

/-- All places where two sets begin or end, in order. -/
def cutsL (a b : List Rg) : List Int := (ends b).foldl insI ((ends a).foldl insI [])

theorem cutsL_spec (a b : List Rg) : SInc (cutsL a b) ∧ (∀ x, x ∈ cutsL a b ↔ x ∈ ends a ∨ x ∈ ends b) ∧ (cutsL a b).length ≤ a.length * 2 + b.length * 2 := by
  obtain ⟨h1, h2, h3⟩ := insIs_spec (es := ends a) (l := []) List.Pairwise.nil
  obtain ⟨g1, g2, g3⟩ := insIs_spec (es := ends b) h1
  refine ⟨g1, fun x => (g2 x).trans ?_, ?_⟩
  · rw [h2 x]; simp
  · unfold cutsL
    rw [ends_len] at h3 g3
    simp at h3
    omega

/-- The pieces between the places that are wanted. -/
def segs (f : Bool → Bool → Bool) (a b : List Rg) : List Int → List Rg
  | p :: q :: r => (if f (inS a p) (inS b p) = true then [(p, q)] else []) ++ segs f a b (q :: r)
  | _ => []

theorem segs_len (f : Bool → Bool → Bool) (a b : List Rg) : ∀ c : List Int, (segs f a b c).length ≤ c.length
  | [] => by simp [segs]
  | [_] => by simp [segs]
  | p :: q :: r => by
    have := segs_len f a b (q :: r)
    simp only [segs, List.length_append, List.length_cons] at this ⊢
    split <;> simp <;> omega

theorem segs_from (f : Bool → Bool → Bool) (a b : List Rg) : ∀ (c : List Int), SInc c → ∀ s ∈ segs f a b c, s.1 < s.2 ∧ s.1 ∈ c
  | [], _, s, hs => by simp [segs] at hs
  | [_], _, s, hs => by simp [segs] at hs
  | p :: q :: r, hc, s, hs => by
    obtain ⟨h1, h2⟩ := List.pairwise_cons.1 hc
    simp only [segs, List.mem_append] at hs
    rcases hs with hs | hs
    · split at hs
      · simp at hs
        subst hs
        exact ⟨h1 q (by simp), by simp⟩
      · cases hs
    · obtain ⟨g1, g2⟩ := segs_from f a b (q :: r) h2 s hs
      exact ⟨g1, List.mem_cons_of_mem _ g2⟩

theorem segs_sorted (f : Bool → Bool → Bool) (a b : List Rg) : ∀ (c : List Int), SInc c → Sorted (segs f a b c)
  | [], _ => List.Pairwise.nil
  | [_], _ => List.Pairwise.nil
  | p :: q :: r, hc => by
    obtain ⟨h1, h2⟩ := List.pairwise_cons.1 hc
    refine List.pairwise_append.2 ⟨?_, segs_sorted f a b (q :: r) h2, fun s hs t ht => ?_⟩
    · split
      · simp
      · exact List.Pairwise.nil
    · split at hs
      · simp at hs
        subst hs
        have := h1 _ (segs_from f a b (q :: r) h2 t ht).2
        simp only
        omega
      · cases hs

/-- Between two neighbouring places nothing begins or ends. -/
theorem inS_same {a : List Rg} {p q x : Int} (hx : p ≤ x ∧ x < q) (h : ∀ e ∈ ends a, e ≤ p ∨ q ≤ e) : inS a x = inS a p := by
  unfold inS
  rw [Bool.eq_iff_iff, List.any_eq_true, List.any_eq_true]
  constructor
  · rintro ⟨r, hr, hb⟩
    simp only [Bool.and_eq_true, decide_eq_true_eq] at hb
    have h1 := h r.1 (ends_mem.2 ⟨r, hr, .inl rfl⟩)
    have h2 := h r.2 (ends_mem.2 ⟨r, hr, .inr rfl⟩)
    exact ⟨r, hr, by simp only [Bool.and_eq_true, decide_eq_true_eq]; omega⟩
  · rintro ⟨r, hr, hb⟩
    simp only [Bool.and_eq_true, decide_eq_true_eq] at hb
    have h1 := h r.1 (ends_mem.2 ⟨r, hr, .inl rfl⟩)
    have h2 := h r.2 (ends_mem.2 ⟨r, hr, .inr rfl⟩)
    exact ⟨r, hr, by simp only [Bool.and_eq_true, decide_eq_true_eq]; omega⟩

theorem inS_out {a : List Rg} {x : Int} (h : (∀ e ∈ ends a, e ≤ x) ∨ ∀ e ∈ ends a, x < e) : inS a x = false := by
  cases hi : inS a x with
  | false => rfl
  | true =>
    obtain ⟨r, hr, h1, h2⟩ := inS_iff.1 hi
    rcases h with h | h
    · have := h r.2 (ends_mem.2 ⟨r, hr, .inr rfl⟩)
      omega
    · have := h r.1 (ends_mem.2 ⟨r, hr, .inl rfl⟩)
      omega

theorem segs_go {f : Bool → Bool → Bool} (hf : f false false = false) (a b : List Rg) : ∀ (c : List Int) (p : Int), SInc (p :: c) → (∀ e, e ∈ ends a ∨ e ∈ ends b → e ∈ p :: c ∨ e < p) → ∀ x, Mem (segs f a b (p :: c)) x ↔ p ≤ x ∧ f (inS a x) (inS b x) = true
  | [], p, _, he, x => by
    simp only [segs]
    refine ⟨fun h => (Mem_nil h).elim, fun ⟨h1, h2⟩ => ?_⟩
    have ha : inS a x = false := inS_out (.inl fun e hm => by
      rcases he e (.inl hm) with h | h
      · simp at h; omega
      · omega)
    have hb : inS b x = false := inS_out (.inl fun e hm => by
      rcases he e (.inr hm) with h | h
      · simp at h; omega
      · omega)
    rw [ha, hb, hf] at h2
    cases h2
  | q :: c, p, hc, he, x => by
    obtain ⟨h1, h2⟩ := List.pairwise_cons.1 hc
    have hpq := h1 q (by simp)
    have hge : ∀ e ∈ q :: c, q ≤ e := fun e hm => by
      rcases List.mem_cons.1 hm with rfl | hm
      · exact Int.le_refl _
      · have := (List.pairwise_cons.1 h2).1 e hm
        omega
    have ih := segs_go hf a b c q h2 (fun e hm => by
      rcases he e hm with h | h
      · rcases List.mem_cons.1 h with rfl | h
        · exact .inr hpq
        · exact .inl h
      · exact .inr (by omega)) x
    have hno : ∀ e, e ∈ ends a ∨ e ∈ ends b → e ≤ p ∨ q ≤ e := fun e hm => by
      rcases he e hm with h | h
      · rcases List.mem_cons.1 h with rfl | h
        · exact .inl (Int.le_refl _)
        · exact .inr (hge e h)
      · exact .inl (by omega)
    simp only [segs]
    rw [Mem_append, ih]
    by_cases hx : p ≤ x ∧ x < q
    · have ea := inS_same (a := a) hx fun e hm => hno e (.inl hm)
      have eb := inS_same (a := b) hx fun e hm => hno e (.inr hm)
      rw [ea, eb]
      constructor
      · rintro (h | h)
        · split at h
          · rename_i hw
            exact ⟨hx.1, hw⟩
          · exact (Mem_nil h).elim
        · omega
      · rintro ⟨_, hw⟩
        left
        rw [if_pos hw, Mem_one]
        exact hx
    · constructor
      · rintro (h | h)
        · split at h
          · rw [Mem_one] at h
            exact absurd h hx
          · exact (Mem_nil h).elim
        · exact ⟨by omega, h.2⟩
      · rintro ⟨hp, hw⟩
        exact .inr ⟨by omega, hw⟩

theorem segs_mem {f : Bool → Bool → Bool} (hf : f false false = false) (a b : List Rg) (x : Int) : Mem (segs f a b (cutsL a b)) x ↔ f (inS a x) (inS b x) = true := by
  obtain ⟨h1, h2, _⟩ := cutsL_spec a b
  cases hc : cutsL a b with
  | nil =>
    rw [hc] at h2
    have ha : inS a x = false := inS_out (.inl fun e hm => by have := (h2 e).2 (.inl hm); cases this)
    have hb : inS b x = false := inS_out (.inl fun e hm => by have := (h2 e).2 (.inr hm); cases this)
    rw [ha, hb, hf]
    simp only [segs]
    exact ⟨fun h => (Mem_nil h).elim, fun h => by cases h⟩
  | cons p c =>
    rw [hc] at h1 h2
    rw [segs_go hf a b c p h1 (fun e hm => .inl ((h2 e).2 hm)) x]
    refine ⟨fun h => h.2, fun h => ⟨?_, h⟩⟩
    rcases Int.lt_or_le x p with hxp | hxp
    · exfalso
      have hge : ∀ e ∈ p :: c, p ≤ e := fun e hm => by
        rcases List.mem_cons.1 hm with rfl | hm
        · exact Int.le_refl _
        · have := (List.pairwise_cons.1 h1).1 e hm
          omega
      have ha : inS a x = false := inS_out (.inr fun e hm => by have := hge e ((h2 e).2 (.inl hm)); omega)
      have hb : inS b x = false := inS_out (.inr fun e hm => by have := hge e ((h2 e).2 (.inr hm)); omega)
      rw [ha, hb, hf] at h
      cases h
    · exact hxp

/-- Two sets combined. -/
def combL (f : Bool → Bool → Bool) (a b : List Rg) : List Rg := mrgs (segs f a b (cutsL a b))

theorem combL_spec {f : Bool → Bool → Bool} (hf : f false false = false) (a b : List Rg) : Norm (combL f a b) ∧ ∀ x, Mem (combL f a b) x ↔ f (inS a x) (inS b x) = true := by
  obtain ⟨h1, h2⟩ := mrgs_spec (segs_sorted f a b (cutsL a b) (cutsL_spec a b).1)
  exact ⟨h1, fun x => (h2 x).trans (segs_mem hf a b x)⟩

theorem combL_canon (f : Bool → Bool → Bool) (a b : List Rg) : canon (segs f a b (cutsL a b)) = combL f a b :=
  (mrgs_canon (fun p hp => by have := (segs_from f a b _ (cutsL_spec a b).1 p hp).1; omega) (segs_sorted f a b _ (cutsL_spec a b).1) fun _ => Iff.rfl).symm
end Go.Am.S7
/- The library's Compact of what is in order. -/
namespace Go.Am.S7
open Go

theorem compact_go {zs : List Int} (hs : zs.Pairwise (· ≤ ·)) : ∀ m, m ≤ zs.length → SInc (Lib.compactUpTo zs.toArray m) ∧ ∀ x, x ∈ Lib.compactUpTo zs.toArray m ↔ ∃ j, j < m ∧ zs[j]? = some x
  | 0, _ => ⟨by simp [Lib.compactUpTo, SInc], fun x => by simp [Lib.compactUpTo]⟩
  | m + 1, hm => by
    obtain ⟨h1, h2⟩ := compact_go hs m (by omega)
    have hm' : m < zs.length := by omega
    have hg : ∀ j (hj : j < zs.length), zs.toArray[j]! = zs[j] := fun j hj => by simp [hj]
    rw [Lib.compactUpTo_succ, hg m hm']
    have hle : ∀ x ∈ Lib.compactUpTo zs.toArray m, ∀ (h0 : 0 < m), x ≤ zs[m - 1] := fun x hx h0 => by
      obtain ⟨j, hj, hjx⟩ := (h2 x).1 hx
      obtain ⟨hj2, rfl⟩ := List.getElem?_eq_some_iff.1 hjx
      rcases Nat.lt_or_ge j (m - 1) with h3 | h3
      · exact List.pairwise_iff_getElem.1 hs j (m - 1) hj2 (by omega) h3
      · have : j = m - 1 := by omega
        subst this
        exact Int.le_refl _
    have hstep : ∀ x, (∃ j, j < m + 1 ∧ zs[j]? = some x) ↔ (∃ j, j < m ∧ zs[j]? = some x) ∨ x = zs[m] := fun x => by
      constructor
      · rintro ⟨j, hj, hjx⟩
        rcases Nat.lt_or_ge j m with h3 | h3
        · exact .inl ⟨j, h3, hjx⟩
        · have : j = m := by omega
          subst this
          rw [List.getElem?_eq_getElem hm'] at hjx
          exact .inr (by simpa using hjx.symm)
      · rintro (⟨j, hj, hjx⟩ | rfl)
        · exact ⟨j, by omega, hjx⟩
        · exact ⟨m, by omega, List.getElem?_eq_getElem hm'⟩
    by_cases hk : m = 0 ∨ zs[m] ≠ zs[m - 1]
    · have hkk : Lib.keeps zs.toArray m = true := by
        unfold Lib.keeps
        rw [decide_eq_true_eq]
        rcases hk with hk | hk
        · exact .inl hk
        · right
          rw [hg m hm', hg (m - 1) (by omega)]
          exact hk
      rw [if_pos hkk]
      refine ⟨List.pairwise_append.2 ⟨h1, by simp, fun x hx y hy => ?_⟩, fun x => ?_⟩
      · simp at hy
        subst hy
        have h0 : 0 < m := by
          obtain ⟨j, hj, _⟩ := (h2 x).1 hx
          omega
        have h3 := hle x hx h0
        have h4 := List.pairwise_iff_getElem.1 hs (m - 1) m (by omega) hm' (by omega)
        have h5 : zs[m] ≠ zs[m - 1] := by
          rcases hk with hk | hk
          · omega
          · exact hk
        omega
      · rw [List.mem_append, h2 x, hstep x]
        simp
    · have hk1 : m ≠ 0 := fun h => hk (.inl h)
      have hk2 : zs[m] = zs[m - 1] := by
        by_cases h : zs[m] = zs[m - 1]
        · exact h
        · exact absurd (.inr h) hk
      have hkk : Lib.keeps zs.toArray m = false := by
        unfold Lib.keeps
        rw [decide_eq_false_iff_not, hg m hm', hg (m - 1) (by omega)]
        exact hk
      rw [hkk]
      simp only [Bool.false_eq_true, if_false, List.append_nil]
      refine ⟨h1, fun x => ?_⟩
      rw [h2 x, hstep x]
      constructor
      · exact .inl
      · rintro (h | rfl)
        · exact h
        · exact ⟨m - 1, by omega, by rw [hk2]; exact List.getElem?_eq_getElem (by omega)⟩

theorem compact_spec {zs : List Int} (hs : zs.Pairwise (· ≤ ·)) : SInc (Lib.compact zs) ∧ ∀ x, x ∈ Lib.compact zs ↔ x ∈ zs := by
  obtain ⟨h1, h2⟩ := compact_go hs zs.length (Nat.le_refl _)
  refine ⟨h1, fun x => (h2 x).trans ?_⟩
  rw [List.mem_iff_getElem?]
  constructor
  · rintro ⟨j, _, h⟩; exact ⟨j, h⟩
  · rintro ⟨j, h⟩; exact ⟨j, (List.getElem?_eq_some_iff.1 h).1, h⟩

theorem sortI_spec (l : List Int) : (sortI l).Pairwise (· ≤ ·) ∧ ∀ x, x ∈ sortI l ↔ x ∈ l := by
  refine ⟨?_, fun x => (List.mergeSort_perm l _).mem_iff⟩
  have h := List.pairwise_mergeSort (le := fun x y : Int => decide (x ≤ y)) (fun a b c h1 h2 => by simp at *; omega) (fun a b => by simp; omega) l
  exact h.imp fun {a b} h => by simpa using h

theorem borders (a b : List Rg) : Lib.compact (sortI (ends (a ++ b))) = cutsL a b := by
  obtain ⟨h1, h2⟩ := sortI_spec (ends (a ++ b))
  obtain ⟨h3, h4⟩ := compact_spec h1
  obtain ⟨g1, g2, _⟩ := cutsL_spec a b
  refine sinc_unique h3 g1 fun x => ?_
  rw [h4, h2, g2, ends_append, List.mem_append]
end Go.Am.S7
