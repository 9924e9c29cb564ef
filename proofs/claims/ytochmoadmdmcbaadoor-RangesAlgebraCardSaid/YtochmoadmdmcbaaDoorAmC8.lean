/- What the laws on two sets come to. Plain Lean but for the names of heaps. -/
import Derived.Test.YtochmoadmdmcbaaDoorAmC5
namespace Go.Am.S7
open Go
set_option maxRecDepth 100000
set_option linter.unusedSimpArgs false
set_option linter.unusedVariables false

theorem kf0 : kf 0 = fun x y => x || y := rfl
theorem kf1 : kf 1 = fun x y => x && !y := rfl
theorem kf2 : kf 2 = fun x y => x && y := rfl

theorem combL_len (f : Bool → Bool → Bool) (a b : List Rg) : (combL f a b).length ≤ a.length * 2 + b.length * 2 := by
  have h1 := mrgs_le (segs f a b (cutsL a b))
  have h2 := segs_len f a b (cutsL a b)
  have h3 := (cutsL_spec a b).2.2
  unfold combL
  omega

theorem combL_fine {f : Bool → Bool → Bool} (hf : f false false = false) {a b : List Rg} (ha : Fine a) (hb : Fine b) : Fine (combL f a b) := by
  obtain ⟨hn, hm⟩ := combL_spec hf a b
  have bd : ∀ x, Mem (combL f a b) x → 0 ≤ x ∧ x + 1 ≤ 1099511627776 := fun x hx => by
    have h1 := (hm x).1 hx
    rcases Bool.eq_false_or_eq_true (inS a x) with h2 | h2
    · obtain ⟨p, hp, g1, g2⟩ := inS_iff.1 h2
      have := ha p hp
      omega
    · rcases Bool.eq_false_or_eq_true (inS b x) with h3 | h3
      · obtain ⟨p, hp, g1, g2⟩ := inS_iff.1 h3
        have := hb p hp
        omega
      · rw [h2, h3, hf] at h1
        cases h1
  intro p hp
  have h1 := hn.1 p hp
  have h2 := bd p.1 ⟨p, hp, by omega, by omega⟩
  have h3 := bd (p.2 - 1) ⟨p, hp, by omega, by omega⟩
  omega

theorem comb_comm {f g : Bool → Bool → Bool} (hf : f false false = false) (hfg : ∀ x y, f x y = g y x) (a b : List Rg) : combL f a b = combL g b a := by
  have hg : g false false = false := by rw [← hfg]; exact hf
  obtain ⟨h1, h2⟩ := combL_spec hf a b
  obtain ⟨h3, h4⟩ := combL_spec hg b a
  exact norm_unique h1 h3 fun x => by rw [h2, h4, hfg]

theorem segs_nil (f : Bool → Bool → Bool) (a b : List Rg) : (segs f a b (cutsL a b)).length = 0 ↔ (combL f a b).length = 0 := by
  constructor
  · intro h
    have := mrgs_le (segs f a b (cutsL a b))
    unfold combL
    omega
  · intro h
    have hs := (cutsL_spec a b).1
    cases hc : segs f a b (cutsL a b) with
    | nil => rfl
    | cons p r =>
      exfalso
      have hp : p ∈ segs f a b (cutsL a b) := by rw [hc]; simp
      have h1 := (segs_from f a b _ hs p hp).1
      obtain ⟨_, h3⟩ := mrgs_spec (segs_sorted f a b _ hs)
      have h4 := (h3 p.1).2 ⟨p, hp, by omega, h1⟩
      have h5 : combL f a b = [] := List.eq_nil_of_length_eq_zero h
      unfold combL at h5
      rw [h5] at h4
      exact Mem_nil h4

theorem comb_nil {f : Bool → Bool → Bool} (hf : f false false = false) (a b : List Rg) : (combL f a b).length = 0 ↔ ∀ x, f (inS a x) (inS b x) = false := by
  obtain ⟨h1, h2⟩ := combL_spec hf a b
  constructor
  · intro h x
    have h5 : combL f a b = [] := List.eq_nil_of_length_eq_zero h
    cases hx : f (inS a x) (inS b x) with
    | false => rfl
    | true =>
      have := (h2 x).2 hx
      rw [h5] at this
      exact (Mem_nil this).elim
  · intro h
    cases hc : combL f a b with
    | nil => rfl
    | cons p r =>
      exfalso
      have hp : p ∈ combL f a b := by rw [hc]; simp
      have := (h2 p.1).1 ⟨p, hp, by omega, h1.1 p hp⟩
      rw [h p.1] at this
      cases this

theorem eq_iff {a b : List Rg} (ha : Norm a) (hb : Norm b) : a = b ↔ (combL (fun x y => x && !y) a b).length = 0 ∧ (combL (fun x y => x && !y) b a).length = 0 := by
  rw [comb_nil rfl, comb_nil rfl]
  constructor
  · rintro rfl
    exact ⟨fun x => by cases inS a x <;> rfl, fun x => by cases inS a x <;> rfl⟩
  · rintro ⟨h1, h2⟩
    refine norm_unique ha hb fun x => ?_
    rw [← inS_iff, ← inS_iff]
    have g1 := h1 x
    have g2 := h2 x
    revert g1 g2
    cases inS a x <;> cases inS b x <;> simp

/-- What is known of a heap: slices of ranges, and variables that hold one. -/
def SK (h : Hp) (l : List (V × List Rg)) (ps : List (Nat × V)) : Prop := (∀ p ∈ l, SlG h p.1 p.2) ∧ ∀ q ∈ ps, h.get q.1 = some (.cells 0 [q.2])
theorem SK.fr {h h' : Hp} {l : List (V × List Rg)} {ps : List (Nat × V)} (hf : Fr h h') (hs : SK h l ps) : SK h' l ps := ⟨fun p hp => Sl.fr hf (hs.1 p hp), fun q hq => hf.sub _ _ (hs.2 q hq)⟩
theorem SK.addL {h : Hp} {l : List (V × List Rg)} {ps : List (Nat × V)} {v : V} {a : List Rg} (hs : SK h l ps) (hv : SlG h v a) : SK h ((v, a) :: l) ps :=
  ⟨fun p hp => by
    rcases List.mem_cons.1 hp with rfl | hp
    · exact hv
    · exact hs.1 p hp, hs.2⟩
theorem SK.addP {h : Hp} {l : List (V × List Rg)} {ps : List (Nat × V)} {v : V} {p : Nat} (hs : SK h l ps) (hp : h.get p = some (.cells 0 [v])) : SK h l ((p, v) :: ps) :=
  ⟨hs.1, fun q hq => by
    rcases List.mem_cons.1 hq with rfl | hq
    · exact hp
    · exact hs.2 q hq⟩

theorem aftB {h h2 : Hp} {x : V} {l : List Rg} {lo : Nat} {b : Bool} (hw : ∀ b x, h.get b = some x → b < h.nx) (hs : SlG h2 x l) (ho : Own lo x) (hf : Fr h h2) :
    SlG (if ground (.tup [x, .bool b]) = true then h else h2) x l ∧ Fr h (if ground (.tup [x, .bool b]) = true then h else h2) := by
  rcases ho with rfl | ⟨b, o, m, rfl, _⟩
  · have hl := List.eq_nil_of_length_eq_zero hs.1
    subst hl
    exact ⟨⟨rfl, rfl⟩, Fr.refl hw⟩
  · exact ⟨hs, hf⟩
end Go.Am.S7
