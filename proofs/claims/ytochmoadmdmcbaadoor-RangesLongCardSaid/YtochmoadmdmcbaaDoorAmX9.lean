/- The seat's functions, stepped through in the plain machine. -/
import Derived.Test.YtochmoadmdmcbaaDoorAmX8
namespace Go.Am.S7
open Go
set_option maxRecDepth 100000

theorem any_set {l : List (Int × Int)} {q x : Int × Int} (f : Int × Int → Bool) : ((l ++ [q]).set l.length x).any f = (l.any f || f x) := by
  simp

/-- The elements of the ranges are the places that differ. -/
theorem has_chg (a b : List Int) (i : Nat) : ∀ n, (mrgs (chs a b n)).any (hasP i) = (decide (i < n) && chg a b i) ∧ (∀ p ∈ mrgs (chs a b n), 0 ≤ p.1 ∧ p.1 ≤ p.2)
  | 0 => by simp [chs, mrgs]
  | n + 1 => by
    obtain ⟨ih, ih2⟩ := has_chg a b i n
    have hle := chs_le a b n
    unfold chs
    cases hc : chg a b n with
    | false =>
      simp only [Bool.false_eq_true, if_false]
      refine ⟨?_, ih2⟩
      rw [ih]
      by_cases h : i < n
      · have : i < n + 1 := by omega
        simp [h, this]
      · by_cases h2 : i = n
        · subst h2; simp [hc]
        · have : ¬ i < n + 1 := by omega
          simp [h, this]
    | true =>
      simp only [if_true]
      rw [mrgs_snoc]
      generalize mrgs (chs a b n) = out at *
      have hone : hasP i ((n : Int), (n : Int) + 1) = decide (i = n) := by
        unfold hasP
        by_cases h : i = n
        · subst h; simp; omega
        · by_cases h2 : i < n
          · have : ¬ ((n : Int) ≤ i) := by omega
            simp [h, this]
          · have : ¬ ((i : Int) < n + 1) := by omega
            simp [h, this]
      have hall : (decide (i < n + 1) && chg a b i) = ((decide (i < n) && chg a b i) || decide (i = n)) := by
        by_cases h : i = n
        · subst h; simp [hc]
        · by_cases h2 : i < n
          · have : i < n + 1 := by omega
            simp [h, h2, this]
          · have : ¬ i < n + 1 := by omega
            simp [h, h2, this]
      rcases List.eq_nil_or_concat out with rfl | ⟨init, q, rfl⟩
      · have hm : mrg [] ((n : Int), (n : Int) + 1) = [((n : Int), (n : Int) + 1)] := by simp [mrg]; omega
        rw [hm, hall, ← ih]
        refine ⟨by simp [hone], fun p hp => ?_⟩
        simp at hp; subst hp; simp; omega
      · rw [List.concat_eq_append] at *
        have hqi := hle q (by simp)
        have hq2 := ih2 q (by simp)
        by_cases he : q.2 = n
        · have hm : mrg (init ++ [q]) ((n : Int), (n : Int) + 1) = (init ++ [q]).set init.length (q.1, (n : Int) + 1) := by
            have : (n : Int) < n + 1 := by omega
            simp [mrg, he, this]
            omega
          rw [hm, any_set, hall, ← ih, List.any_append]
          have hj : hasP i (q.1, (n : Int) + 1) = (hasP i q || decide (i = n)) := by
            unfold hasP
            by_cases h : i = n
            · subst h
              have : q.1 ≤ (i : Int) := by omega
              simp [this]; omega
            · have e1 : (decide ((i : Int) < (n : Int) + 1)) = decide ((i : Int) < q.2) := by
                by_cases h2 : (i : Int) < q.2
                · have : (i : Int) < (n : Int) + 1 := by omega
                  rw [decide_eq_true h2, decide_eq_true this]
                · have : ¬ (i : Int) < (n : Int) + 1 := by omega
                  rw [decide_eq_false h2, decide_eq_false this]
              simp [h, e1]
          refine ⟨by rw [hj]; simp [Bool.or_assoc], fun p hp => ?_⟩
          rcases List.mem_or_eq_of_mem_set hp with h | h
          · exact ih2 p h
          · subst h; simp; omega
        · have hm : mrg (init ++ [q]) ((n : Int), (n : Int) + 1) = (init ++ [q]) ++ [((n : Int), (n : Int) + 1)] := by
            have h1 : ¬ ((n : Int) ≤ q.2) := by omega
            have : (n : Int) < n + 1 := by omega
            simp [mrg, h1, this]
          rw [hm, List.any_append, hall, ← ih]
          refine ⟨by simp [hone], fun p hp => ?_⟩
          rcases List.mem_append.1 hp with h | h
          · exact ih2 p h
          · simp at h; subst h; simp; omega
end Go.Am.S7
