/- Texts of sets of ranges, plainly: what a number's text is, what an item's, what a set's; a text that is accepted is printed unchanged, and a set's text gives the set. -/
import Derived.Lib.ItoaNum
import Derived.Lib.Join
namespace Go.Am.Q
set_option linter.unusedSimpArgs false
set_option linter.unusedVariables false
open Go

abbrev Rg := Int × Int
abbrev Bs := List UInt8

def isDig (c : UInt8) : Bool := decide (48 ≤ c.toNat ∧ c.toNat ≤ 57)
@[irreducible] def dv (c : UInt8) : Nat := c.toNat - 48
theorem dv_eq (c : UInt8) : dv c = c.toNat - 48 := by unfold dv; rfl
def valF (n : Nat) : Bs → Nat
  | [] => n
  | c :: r => valF (10 * n + dv c) r
/-- The number of a text: at most 13 digits, none ahead that is 0. -/
def num (s : Bs) : Option Nat :=
  if s ≠ [] ∧ s.length ≤ 13 ∧ ¬ (1 < s.length ∧ s.head? = some 48) ∧ s.all isDig = true then some (valF 0 s) else none

theorem valF_nil (n : Nat) : valF n [] = n := rfl
theorem valF_cons (n : Nat) (c : UInt8) (r : Bs) : valF n (c :: r) = valF (10 * n + dv c) r := rfl
theorem valF_append (a b : Bs) : ∀ (n : Nat), valF n (a ++ b) = valF (valF n a) b := by
  induction a with
  | nil => intro n; rfl
  | cons c r ih => intro n; rw [List.cons_append, valF_cons, valF_cons, ih]

theorem valF_lt : ∀ (s : Bs) (n : Nat), s.all isDig = true → valF n s < (n + 1) * 10 ^ s.length
  | [], n, _ => by simp [valF]
  | c :: r, n, h => by
    simp only [List.all_cons, Bool.and_eq_true, isDig, decide_eq_true_eq] at h
    have hv := dv_eq c
    have ih := valF_lt r (10 * n + dv c) h.2
    simp only [valF, List.length_cons, Nat.pow_succ]
    refine Nat.lt_of_lt_of_le ih ?_
    have : (10 * n + dv c + 1) ≤ (n + 1) * 10 := by omega
    calc _ ≤ (n + 1) * 10 * 10 ^ r.length := Nat.mul_le_mul_right _ this
      _ = _ := by rw [Nat.mul_assoc, Nat.mul_comm 10]

theorem num_lt {s : Bs} {n : Nat} (h : num s = some n) : n < 10000000000000 := by
  unfold num at h
  split at h
  · rename_i hc
    simp only [Option.some.injEq] at h
    subst h
    have := valF_lt s 0 hc.2.2.2
    have h2 : (10 : Nat) ^ s.length ≤ 10 ^ 13 := Nat.pow_le_pow_right (by decide) hc.2.1
    have h3 : (10 : Nat) ^ 13 = 10000000000000 := by decide
    omega
  · cases h

abbrev digs := Lib.decDigits

theorem digs_small {n : Nat} (h : n < 10) : digs n = [UInt8.ofNat (48 + n)] := by rw [digs, Lib.decDigits, dif_pos h]
theorem digs_big {n : Nat} (h : ¬ n < 10) : digs n = digs (n / 10) ++ [UInt8.ofNat (48 + n % 10)] := by
  show Lib.decDigits n = _
  rw [Lib.decDigits, dif_neg h]

theorem digs_dig : ∀ n, (digs n).all isDig = true := by
  intro n
  induction n using Nat.strongRecOn with
  | ind n ih =>
    by_cases h : n < 10
    · rw [digs_small h]
      have : (UInt8.ofNat (48 + n)).toNat = 48 + n := by simp; omega
      simp only [List.all_cons, List.all_nil, Bool.and_true, isDig, this, decide_eq_true_eq]
      omega
    · rw [digs_big h]
      have : (UInt8.ofNat (48 + n % 10)).toNat = 48 + n % 10 := by simp; omega
      simp only [List.all_append, ih (n / 10) (by omega), List.all_cons, List.all_nil, Bool.and_true, Bool.true_and, isDig, this, decide_eq_true_eq]
      omega

theorem digs_val : ∀ n, valF 0 (digs n) = n := by
  intro n
  induction n using Nat.strongRecOn with
  | ind n ih =>
    by_cases h : n < 10
    · rw [digs_small h]
      have : (UInt8.ofNat (48 + n)).toNat = 48 + n := by simp; omega
      simp only [valF, dv_eq, this]
      omega
    · rw [digs_big h, valF_append, ih (n / 10) (by omega)]
      have : (UInt8.ofNat (48 + n % 10)).toNat = 48 + n % 10 := by simp; omega
      simp only [valF, dv_eq, this]
      omega

theorem digs_ne : ∀ n, digs n ≠ [] := by
  intro n
  by_cases h : n < 10
  · rw [digs_small h]; simp
  · rw [digs_big h]; simp

theorem digs_head : ∀ n, 0 < n → (digs n).head? ≠ some 48 := by
  intro n
  induction n using Nat.strongRecOn with
  | ind n ih =>
    intro h0
    by_cases h : n < 10
    · rw [digs_small h]
      have : (UInt8.ofNat (48 + n)).toNat = 48 + n := by simp; omega
      intro e
      simp only [List.head?_cons, Option.some.injEq] at e
      rw [e] at this
      have h48 : (48 : UInt8).toNat = 48 := by decide
      omega
    · rw [digs_big h, List.head?_append]
      have := ih (n / 10) (by omega) (by omega)
      cases hd : (digs (n / 10)).head? with
      | none => exact absurd (List.head?_eq_none_iff.1 hd) (digs_ne _)
      | some c => rw [hd] at this; simpa using this

theorem digs_len (k : Nat) : ∀ n, n < 10 ^ (k + 1) → (digs n).length ≤ k + 1 := by
  induction k with
  | zero => intro n h; rw [digs_small (by simpa using h)]; simp
  | succ k ih =>
    intro n h
    by_cases h9 : n < 10
    · rw [digs_small h9]; simp
    · rw [digs_big h9, List.length_append]
      have := ih (n / 10) (by rw [Nat.pow_succ] at h; omega)
      simp only [List.length_cons, List.length_nil]
      omega

theorem num_digs {n : Nat} (h : n < 10000000000000) : num (digs n) = some n := by
  unfold num
  have hz : ¬ (1 < (digs n).length ∧ (digs n).head? = some 48) := by
    rintro ⟨h1, h2⟩
    by_cases h0 : n = 0
    · subst h0
      rw [digs_small (by decide)] at h1
      simp at h1
    · exact digs_head n (by omega) h2
  rw [if_pos ⟨digs_ne n, digs_len 12 n (by simpa using h), hz, digs_dig n⟩, digs_val]

/-- A text with no 0 ahead is what its number's digits are. -/
theorem digs_of : ∀ (s : Bs), s ≠ [] → s.all isDig = true → ¬ (1 < s.length ∧ s.head? = some 48) → digs (valF 0 s) = s := by
  intro s
  induction hn : s.length using Nat.strongRecOn generalizing s with
  | ind k ih =>
    intro hne hd hz
    rcases List.eq_nil_or_concat s with rfl | ⟨r, c, rfl⟩
    · exact absurd rfl hne
    · rw [List.concat_eq_append] at *
      rw [valF_append]
      simp only [List.all_append, List.all_cons, List.all_nil, Bool.and_true, Bool.and_eq_true] at hd
      obtain ⟨hr, hc⟩ := hd
      have hc' : 48 ≤ c.toNat ∧ c.toNat ≤ 57 := by simpa [isDig] using hc
      have he : UInt8.ofNat (48 + (c.toNat - 48)) = c := by
        apply UInt8.toNat_inj.1
        have := c.toNat_lt
        simp
        omega
      by_cases hr0 : r = []
      · subst hr0
        simp only [valF, dv_eq, List.nil_append]
        rw [digs_small (by omega), Nat.mul_zero, Nat.zero_add, he]
      · have hrh : r.head? ≠ some 48 := fun e => hz ⟨by
          have : 0 < r.length := List.length_pos_iff.2 hr0
          rw [List.length_append] at hn; simp only [List.length_cons, List.length_nil] at hn; omega, by rw [List.head?_append, e]; rfl⟩
        have ih' := ih r.length (by simp at hn; omega) r rfl hr0 hr (fun h => hrh h.2)
        have hpos : 0 < valF 0 r := by
          rcases Nat.eq_zero_or_pos (valF 0 r) with h0 | h0
          · rw [h0, digs_small (by decide)] at ih'
            rw [← ih'] at hrh
            exact absurd rfl hrh
          · exact h0
        simp only [valF, dv_eq]
        rw [digs_big (by omega)]
        have e1 : (10 * valF 0 r + (c.toNat - 48)) / 10 = valF 0 r := by omega
        have e2 : (10 * valF 0 r + (c.toNat - 48)) % 10 = c.toNat - 48 := by omega
        rw [e1, e2, ih', he]

theorem digs_num {s : Bs} {n : Nat} (h : num s = some n) : digs n = s := by
  unfold num at h
  split at h
  · rename_i hc
    simp only [Option.some.injEq] at h
    subst h
    exact digs_of s hc.1 hc.2.2.2 hc.2.2.1
  · cases h

/-! ### items and sets -/

def left (s : Bs) : Bs := s.takeWhile (· != 43)
def right (s : Bs) : Bs := (s.dropWhile (· != 43)).drop 1

/-- An item behind a position: its range, or the error's number. -/
def item (s : Bs) (after : Int) : Except Nat Rg :=
  match num (left s), num (right s) with
  | some a, some n => if n = 0 ∨ 1099511627776 < a + n then .error 2 else if (a : Int) ≤ after then .error 32 else .ok ((a : Int), ((a + n : Nat) : Int))
  | _, _ => .error 3

def itemT (r : Rg) : Bs := digs r.1.toNat ++ 43 :: digs (r.2 - r.1).toNat

theorem num_plus {a b : Bs} (h : num (a ++ 43 :: b) = none) : True := trivial

theorem all_ne {s : Bs} (h : s.all isDig = true) (c : UInt8) (hc : isDig c = false) : ∀ x ∈ s, (x != c) = true := fun x hx => by
  have := List.all_eq_true.1 h x hx
  simp only [bne_iff_ne, ne_eq]
  intro e
  subst e
  rw [hc] at this
  cases this

theorem left_itemT (r : Rg) : left (itemT r) = digs r.1.toNat ∧ right (itemT r) = digs (r.2 - r.1).toNat := by
  have h := all_ne (digs_dig r.1.toNat) 43 (by decide)
  unfold left right itemT
  rw [List.takeWhile_append_of_pos h, List.dropWhile_append_of_pos h]
  simp

theorem item_itemT {r : Rg} {after : Int} (h0 : 0 ≤ r.1) (h1 : r.1 < r.2) (h2 : r.2 ≤ 1099511627776) (h3 : after < r.1) : item (itemT r) after = .ok r := by
  obtain ⟨e1, e2⟩ := left_itemT r
  unfold item
  rw [e1, e2, num_digs (by omega), num_digs (by omega)]
  simp only
  rw [if_neg (by omega), if_neg (by omega)]
  congr 1
  refine Prod.ext ?_ ?_ <;> simp only <;> omega

theorem item_ok {s : Bs} {after : Int} {r : Rg} (h : item s after = .ok r) : itemT r = s ∧ 0 ≤ r.1 ∧ r.1 < r.2 ∧ r.2 ≤ 1099511627776 ∧ after < r.1 := by
  unfold item at h
  split at h
  · rename_i a n ha hn
    split at h
    · cases h
    · rename_i h1
      split at h
      · cases h
      · rename_i h2
        simp only [Except.ok.injEq] at h
        subst h
        refine ⟨?_, by simp, by simp; omega, by simp; omega, by simp; omega⟩
        unfold itemT
        simp only [Int.toNat_natCast]
        have e : (((a + n : Nat) : Int) - (a : Int)).toNat = n := by omega
        rw [e, digs_num ha, digs_num hn]
        -- a text with a number behind its first plus has one
        have hd : s.dropWhile (· != 43) ≠ [] := fun e0 => by
          unfold right at hn
          rw [e0] at hn
          simp [num] at hn
        unfold left right
        conv => rhs; rw [← List.takeWhile_append_dropWhile (p := (· != 43)) (l := s)]
        congr 1
        cases hdw : s.dropWhile (· != 43) with
        | nil => exact absurd hdw hd
        | cons c t =>
          have := List.head?_dropWhile_not (fun x : UInt8 => x != 43) s
          rw [hdw] at this
          simp only [List.head?_cons] at this
          have hc : c = 43 := by simpa using this
          subst hc
          rfl
  · cases h

/-- Items one behind the other: k have been read, the last of them ends at 'after', and the next begins at 'at'. -/
def parseW : List Bs → Nat → Int → Nat → Except (Nat × Nat) (List Rg)
  | [], _, _, _ => .ok []
  | w :: r, k, after, at_ => if k = 1024 then .error (at_, 9) else match item w after with
    | .error e => .error (at_, e)
    | .ok g => match parseW r (k + 1) g.2 (at_ + w.length + 1) with
      | .error e => .error e
      | .ok l => .ok (g :: l)

/-- The words of a text, parted at blanks. -/
def words : Bs → List Bs
  | [] => [[]]
  | c :: r => if c = 32 then [] :: words r else match words r with
    | [] => [[c]]
    | w :: l => (c :: w) :: l

def parse (t : Bs) : Except (Nat × Nat) (List Rg) := if t = [] then .ok [] else parseW (words t) 0 (-1) 0

def joinS : List Bs → Bs
  | [] => []
  | [x] => x
  | x :: y :: r => x ++ 32 :: joinS (y :: r)

def text (l : List Rg) : Bs := joinS (l.map itemT)

theorem words_ne : ∀ t, words t ≠ []
  | [] => by simp [words]
  | c :: r => by
    unfold words
    split
    · simp
    · split <;> simp

theorem join_words : ∀ t, joinS (words t) = t
  | [] => rfl
  | c :: r => by
    have ih := join_words r
    unfold words
    split
    · rename_i h
      subst h
      cases hw : words r with
      | nil => exact absurd hw (words_ne r)
      | cons w l => rw [hw] at ih; simp [joinS, ih]
    · split
      · rename_i hw; exact absurd hw (words_ne r)
      · rename_i w l hw
        rw [hw] at ih
        cases l with
        | nil => simp only [joinS] at *; rw [ih]
        | cons y l => simp only [joinS, List.cons_append] at *; rw [ih]

theorem words_word : ∀ (w : Bs), (∀ x ∈ w, x ≠ 32) → words w = [w]
  | [], _ => rfl
  | c :: r, h => by
    unfold words
    rw [if_neg (h c List.mem_cons_self), words_word r (fun x hx => h x (List.mem_cons_of_mem _ hx))]

theorem words_app : ∀ (w t : Bs), (∀ x ∈ w, x ≠ 32) → words (w ++ 32 :: t) = w :: words t
  | [], t, _ => by
    show words (32 :: t) = _
    rw [words, if_pos rfl]
  | c :: r, t, h => by
    show words (c :: (r ++ 32 :: t)) = _
    rw [words, if_neg (h c List.mem_cons_self), words_app r t (fun x hx => h x (List.mem_cons_of_mem _ hx))]

theorem words_join : ∀ (l : List Bs), l ≠ [] → (∀ w ∈ l, ∀ x ∈ w, x ≠ 32) → words (joinS l) = l
  | [], h, _ => absurd rfl h
  | [w], _, h => words_word w (h w List.mem_cons_self)
  | w :: y :: r, _, h => by
    show words (w ++ 32 :: joinS (y :: r)) = _
    rw [words_app w _ (h w List.mem_cons_self), words_join (y :: r) (by simp) (fun w hw => h w (List.mem_cons_of_mem _ hw))]

theorem itemT_no32 (r : Rg) : ∀ x ∈ itemT r, x ≠ 32 := fun x hx => by
  unfold itemT at hx
  rw [List.mem_append, List.mem_cons] at hx
  rcases hx with hx | rfl | hx
  · simpa using all_ne (digs_dig r.1.toNat) 32 (by decide) x hx
  · decide
  · simpa using all_ne (digs_dig (r.2 - r.1).toNat) 32 (by decide) x hx

theorem itemT_ne (r : Rg) : itemT r ≠ [] := by unfold itemT; simp

/-- Ranges that a text can hold: in order, not adjacent. -/
def Chain : Int → List Rg → Prop
  | _, [] => True
  | a, r :: l => a < r.1 ∧ 0 ≤ r.1 ∧ r.1 < r.2 ∧ r.2 ≤ 1099511627776 ∧ Chain r.2 l

theorem parseW_chain : ∀ (l : List Rg) (k : Nat) (a : Int) (at_ : Nat), Chain a l → k + l.length ≤ 1024 → parseW (l.map itemT) k a at_ = .ok l
  | [], _, _, _, _, _ => rfl
  | r :: l, k, a, at_, h, hk => by
    obtain ⟨h1, h2, h3, h4, h5⟩ := h
    simp only [List.length_cons] at hk
    simp only [List.map_cons, parseW]
    rw [if_neg (by omega), item_itemT h2 h3 h4 h1]
    simp only
    rw [parseW_chain l (k + 1) r.2 _ h5 (by omega)]

theorem parse_text {l : List Rg} (h : Chain (-1) l) (hl : l.length ≤ 1024) : parse (text l) = .ok l := by
  unfold parse
  cases l with
  | nil => rfl
  | cons r l =>
    have hne : (r :: l).map itemT ≠ [] := by simp
    have ht : text (r :: l) ≠ [] := by
      unfold text
      cases l with
      | nil => exact itemT_ne r
      | cons y l => simp [joinS]
    rw [if_neg ht]
    unfold text
    rw [words_join _ hne (fun w hw => by
      obtain ⟨g, _, rfl⟩ := List.mem_map.1 hw
      exact itemT_no32 g)]
    exact parseW_chain _ 0 (-1) 0 h (by omega)

/-- Too many items. -/
theorem parseW_many : ∀ (l : List Rg) (k : Nat) (a : Int) (at_ : Nat), Chain a l → k ≤ 1024 → 1024 < k + l.length → ∃ p, parseW (l.map itemT) k a at_ = .error (p, 9)
  | [], k, _, _, _, h1, h2 => by simp at h2; omega
  | r :: l, k, a, at_, h, h1, h2 => by
    obtain ⟨c1, c2, c3, c4, c5⟩ := h
    simp only [List.length_cons] at h2
    simp only [List.map_cons, parseW]
    by_cases hk : k = 1024
    · rw [if_pos hk]; exact ⟨_, rfl⟩
    · rw [if_neg hk, item_itemT c2 c3 c4 c1]
      simp only
      obtain ⟨p, hp⟩ := parseW_many l (k + 1) r.2 (at_ + (itemT r).length + 1) c5 (by omega) (by omega)
      rw [hp]
      exact ⟨p, rfl⟩

theorem parse_many {l : List Rg} (h : Chain (-1) l) (hl : 1024 < l.length) : ∃ p, parse (text l) = .error (p, 9) := by
  unfold parse
  cases l with
  | nil => simp at hl
  | cons r l =>
    have hne : (r :: l).map itemT ≠ [] := by simp
    have ht : text (r :: l) ≠ [] := by
      unfold text
      cases l with
      | nil => exact itemT_ne r
      | cons y l => simp [joinS]
    rw [if_neg ht]
    unfold text
    rw [words_join _ hne (fun w hw => by
      obtain ⟨g, _, rfl⟩ := List.mem_map.1 hw
      exact itemT_no32 g)]
    exact parseW_many _ 0 (-1) 0 h (by omega) (by omega)

theorem parseW_ok : ∀ (ws : List Bs) (k : Nat) (a : Int) (at_ : Nat) (l : List Rg), parseW ws k a at_ = .ok l → l.map itemT = ws ∧ Chain a l
  | [], k, a, at_, l, h => by
    simp only [parseW, Except.ok.injEq] at h
    subst h
    exact ⟨rfl, trivial⟩
  | w :: r, k, a, at_, l, h => by
    simp only [parseW] at h
    split at h
    · cases h
    · split at h
      · cases h
      · rename_i g hg
        split at h
        · cases h
        · rename_i l' hl
          simp only [Except.ok.injEq] at h
          subst h
          obtain ⟨h1, h2⟩ := parseW_ok r _ _ _ l' hl
          obtain ⟨e1, e2, e3, e4, e5⟩ := item_ok hg
          exact ⟨by rw [List.map_cons, h1, e1], e5, e2, e3, e4, h2⟩

theorem text_parse {t : Bs} {l : List Rg} (h : parse t = .ok l) : text l = t ∧ Chain (-1) l := by
  unfold parse at h
  split at h
  · rename_i h0
    simp only [Except.ok.injEq] at h
    subst h h0
    exact ⟨rfl, trivial⟩
  · obtain ⟨h1, h2⟩ := parseW_ok _ _ _ _ _ h
    refine ⟨?_, h2⟩
    unfold text
    rw [h1, join_words]
end Go.Am.Q
