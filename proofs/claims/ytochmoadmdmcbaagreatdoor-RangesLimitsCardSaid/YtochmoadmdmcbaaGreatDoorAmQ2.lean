/- What the library's functions on strings are at texts of ranges. -/
import Derived.Test.YtochmoadmdmcbaaGreatDoorAmQ1
import Derived.Lib.Split
import Derived.Lib.SplitLaws
import Derived.Lib.SlTrimSet
import Derived.Lib.Atoi
import Derived.Lib.Join
namespace Go.Am.Q
set_option linter.unusedSimpArgs false
set_option linter.unusedVariables false
open Go

theorem index_cons (b c : UInt8) (l : Bs) : Lib.index (b :: l) [c] = if b = c then 0 else if Lib.index l [c] = -1 then -1 else Lib.index l [c] + 1 := by
  rw [Lib.index]
  by_cases h : b = c
  · subst h; simp [List.isPrefixOf]
  · have hp : ([c] : Bs).isPrefixOf (b :: l) = false := by simp [List.isPrefixOf, Ne.symm h]
    rw [hp, if_neg h]
    simp

theorem cut_eq : ∀ s : Bs, (Lib.cut s [43]).1 = left s ∧ (Lib.cut s [43]).2.1 = right s
  | [] => by simp [Lib.cut, Lib.index, left, right]
  | b :: l => by
    obtain ⟨h1, h2⟩ := cut_eq l
    have hge := Lib.index_ge l [43]
    unfold Lib.cut left right at *
    rw [index_cons]
    by_cases hb : b = 43
    · subst hb; simp
    · have hne : (b != 43) = true := by simpa using hb
      have t1 : (b :: l).takeWhile (fun x => x != 43) = b :: l.takeWhile (fun x => x != 43) := List.takeWhile_cons_of_pos hne
      have t2 : (b :: l).dropWhile (fun x => x != 43) = l.dropWhile (fun x => x != 43) := List.dropWhile_cons_of_pos hne
      rw [if_neg hb, t1, t2]
      by_cases hm : Lib.index l [43] = -1
      · rw [if_pos hm, if_neg (by omega)]
        rw [if_neg (by omega)] at h1 h2
        exact ⟨congrArg (b :: ·) h1, h2⟩
      · rw [if_neg hm, if_pos (by omega)]
        rw [if_pos (by omega)] at h1 h2
        obtain ⟨i, hi⟩ : ∃ i : Nat, Lib.index l [43] = i := ⟨(Lib.index l [43]).toNat, by omega⟩
        rw [hi] at h1 h2 ⊢
        have e : ((i : Int) + 1).toNat = i + 1 := by omega
        simp only [Int.toNat_natCast, List.length_cons, List.length_nil] at *
        rw [e, List.take_succ_cons, h1]
        refine ⟨rfl, ?_⟩
        rw [← h2]
        rfl

/-- The words of a text, parted at a byte. -/
def wordsAt (c0 : UInt8) : Bs → List Bs
  | [] => [[]]
  | c :: r => if c = c0 then [] :: wordsAt c0 r else match wordsAt c0 r with
    | [] => [[c]]
    | w :: l => (c :: w) :: l
theorem words_at : ∀ t, wordsAt 32 t = words t
  | [] => rfl
  | c :: r => by
    simp only [wordsAt, words]
    rw [words_at r]
    rfl

theorem split_eq (c0 : UInt8) : ∀ s : Bs, Lib.split s [c0] = wordsAt c0 s
  | [] => by
    unfold Lib.split
    rw [Lib.count_miss (by simp [Lib.index])]
    rfl
  | b :: l => by
    have ih := split_eq c0 l
    unfold Lib.split at *
    by_cases hb : b = c0
    · subst hb
      rw [Lib.count_cons_eq, Nat.add_comm]
      simp only [Lib.splitK]
      rw [index_cons, if_pos rfl]
      simp only [wordsAt, if_pos]
      rw [← ih]
      simp
    · rw [Lib.count_cons_ne b c0 l hb]
      simp only [wordsAt, if_neg hb]
      rw [← ih]
      cases hk : Lib.count l [c0] with
      | zero => rfl
      | succ m =>
        have hm : ¬ Lib.index l [c0] = -1 := fun e => by rw [Lib.count_miss e] at hk; cases hk
        have hge := Lib.index_ge l [c0]
        obtain ⟨i, hi⟩ : ∃ i : Nat, Lib.index l [c0] = i := ⟨(Lib.index l [c0]).toNat, by omega⟩
        simp only [Lib.splitK]
        rw [index_cons, if_neg hb, if_neg hm, hi]
        have e : ((i : Int) + 1).toNat = i + 1 := by omega
        have e1 : (((i : Int) + 1) == -1) = false := beq_eq_false_iff_ne.2 (by omega)
        have e2 : ((i : Int) == -1) = false := beq_eq_false_iff_ne.2 (by omega)
        rw [e1, e2, e]
        simp

theorem dropWhile_nil_iff {p : UInt8 → Bool} : ∀ {l : Bs}, l.dropWhile p = [] ↔ ∀ x ∈ l, p x = true
  | [] => by simp
  | b :: l => by
    rw [List.dropWhile_cons]
    by_cases h : p b = true
    · rw [if_pos h, dropWhile_nil_iff]
      simp [h]
    · rw [if_neg h]
      simp [h]

theorem mem_takeWhile {p : UInt8 → Bool} {x : UInt8} : ∀ {l : Bs}, x ∈ l.takeWhile p → p x = true
  | [], h => by simp at h
  | b :: l, h => by
    rw [List.takeWhile_cons] at h
    split at h
    · rename_i hb
      rcases List.mem_cons.1 h with rfl | h
      · exact hb
      · exact mem_takeWhile h
    · cases h

theorem trim_nil (s cs : Bs) : Lib.trimS s cs = [] ↔ ∀ x ∈ s, cs.contains x = true := by
  unfold Lib.trimS Lib.trimLeftS Lib.trimRightS
  constructor
  · intro h x hx
    rw [dropWhile_nil_iff] at h
    -- a byte that is not in the set would stay
    rcases Decidable.em (cs.contains x = true) with h1 | h1
    · exact h1
    · refine absurd (h x ?_) h1
      rw [List.mem_reverse]
      have : x ∈ s.reverse := List.mem_reverse.2 hx
      rw [← List.takeWhile_append_dropWhile (p := (cs.contains ·)) (l := s.reverse), List.mem_append] at this
      rcases this with h2 | h2
      · exact absurd (mem_takeWhile h2) h1
      · exact h2
  · intro h
    rw [dropWhile_nil_iff]
    intro x hx
    rw [List.mem_reverse] at hx
    exact h x (List.mem_reverse.1 ((List.dropWhile_sublist _).mem hx))

def digits10 : Bs := [48, 49, 50, 51, 52, 53, 54, 55, 56, 57]
theorem digits10_iff (x : UInt8) : digits10.contains x = isDig x := by
  have : ∀ n : Fin 256, digits10.contains (UInt8.ofNat n.val) = isDig (UInt8.ofNat n.val) := by decide +kernel
  have h := this ⟨x.toNat, x.toNat_lt⟩
  simpa using h
theorem trim_dig (s : Bs) : (Lib.trimS s digits10 == []) = s.all isDig := by
  rw [Bool.eq_iff_iff, beq_iff_eq, trim_nil, List.all_eq_true]
  exact ⟨fun h x hx => by rw [← digits10_iff]; exact h x hx, fun h x hx => by rw [digits10_iff]; exact h x hx⟩

theorem decFrom_dig : ∀ (s : Bs) (n : Nat), s.all isDig = true → Lib.decFrom n s = some (valF n s)
  | [], _, _ => rfl
  | c :: r, n, h => by
    simp only [List.all_cons, Bool.and_eq_true, isDig, decide_eq_true_eq] at h
    simp only [Lib.decFrom, Lib.digitVal, if_pos h.1, valF, dv_eq]
    rw [Nat.mul_comm n 10]
    exact decFrom_dig r _ h.2
theorem atoi_dig {s : Bs} (hne : s ≠ []) (h : s.all isDig = true) : Lib.atoi s = some (valF 0 s : Int) := by
  cases s with
  | nil => exact absurd rfl hne
  | cons c r =>
    have hc : 48 ≤ c.toNat ∧ c.toNat ≤ 57 := by
      simp only [List.all_cons, Bool.and_eq_true, isDig, decide_eq_true_eq] at h
      exact h.1
    have h1 : (c == 45) = false := by
      rw [beq_eq_false_iff_ne]; intro e; subst e; exact absurd hc (by decide)
    have h2 : (c == 43) = false := by
      rw [beq_eq_false_iff_ne]; intro e; subst e; exact absurd hc (by decide)
    simp only [Lib.atoi, h1, h2, Lib.decNat, List.isEmpty_cons]
    rw [decFrom_dig _ _ h]
    rfl

theorem itoa_digs (n : Nat) : Lib.itoa (n : Int) = digs n := by
  unfold Lib.itoa
  rw [if_neg (by omega)]
  simp
theorem itoa_digs' {n : Int} (h : 0 ≤ n) : Lib.itoa n = digs n.toNat := by
  unfold Lib.itoa
  rw [if_neg (by omega)]

theorem joinS_eq : ∀ l : List Bs, Lib.join l [32] = joinS l
  | [] => rfl
  | [x] => by simp [Lib.join_one, joinS]
  | x :: y :: r => by
    rw [Lib.join_cons, joinS, ← joinS_eq (y :: r), Lib.join_cons]
    simp [Lib.joinTail]
end Go.Am.Q
