/- Numbers and items of texts of ranges, stepped through. -/
import Derived.Test.YtochmoadmdmcbaaGreatDoorAmTabZ
import Derived.Test.YtochmoadmdmcbaaGreatDoorAm27
import Derived.Test.YtochmoadmdmcbaaGreatDoorAmQ2
namespace Go.Am.SZ
open Go Go.Am.Q
set_option maxRecDepth 100000
set_option linter.unusedVariables false
set_option linter.unusedSimpArgs false
variable {fs : Nat → Option D} {ro : Nat} {h : Hp}

/-- What number answers. -/
def numV (s : Bs) : V := match num s with
  | some n => .tup [.int .i64 (n : Int), .bool true]
  | none => .tup [.int .i64 0, .bool false]
theorem numV_ground (s : Bs) : ground (numV s) = true := by
  unfold numV
  split <;> rfl

theorem gTrim_dig {s : Bs} (hs : s.length ≤ 9223372036854775807) : gTrim [.str s, .str digits10] = some (.str (Lib.trimS s digits10)) := by
  simp only [gTrim]
  rw [if_pos ⟨hs, by decide, by decide⟩]

set_option maxHeartbeats 1000000 in
theorem z44 {s : Bs} (hf : fs 44 = some (.code F44)) (hf61 : fs 61 = some (.orc (orcPure gTrim))) (hf62 : fs 62 = some (.orc (orcPure gAtoi))) (hs : s.length ≤ 9223372036854775807)
    {Q : V → Hp → Prop} (hq : ∀ h', Q (numV s) h') : Ev fs ro 44 [.str s] h Q := by
  refine Ev_fn hf rfl rfl rfl rfl ?_
  refine WP_seq ?_
  refine WP_reg ?_
  repeat (first | (refine WPO_pl rfl ?_; simp) | (refine WPO_gpl rfl ?_; simp) | (refine WPO_gcall ?_; simp) | (refine WPO_nil ?_; simp))
  refine WP_seq ?_
  refine WP_seq ?_
  refine WP_reg ?_
  have hcase : num s = none ∨ (s ≠ [] ∧ s.length ≤ 13 ∧ ¬ (1 < s.length ∧ s.head? = some 48) ∧ s.all isDig = true ∧ num s = some (valF 0 s)) := by
    unfold num
    split
    · rename_i hc; exact .inr ⟨hc.1, hc.2.1, hc.2.2.1, hc.2.2.2, rfl⟩
    · exact .inl rfl
  by_cases c1 : s.length < 1
  · have hn : numV s = .tup [.int .i64 0, .bool false] := by
      have : s = [] := List.eq_nil_of_length_eq_zero (by omega)
      subst this
      rfl
    have e1 : (s.length : Int) < 1 := by omega
    repeat (first | (refine WPO_pl rfl ?_; simp [e1]) | (refine WPO_gpl rfl ?_; simp [e1]) | (refine WPO_gcall ?_; simp [e1]) | (refine WPO_nil ?_; simp [e1]))
    refine WP_cond rfl ⟨fun _ => ?_, fun hd => by cases hd⟩
    repeat (first | refine WP_seq ?_ | refine WP_reg ?_ | (refine WPO_pl rfl ?_; simp) | (refine WPO_gpl rfl ?_; simp) | (refine WPO_gcall ?_; simp) | (refine WPO_nil ?_; simp))
    simp [WP_ret, F44]
    rw [← hn]; exact hq _
  have e1 : ¬ (s.length : Int) < 1 := by omega
  by_cases c2 : 13 < s.length
  · have hn : numV s = .tup [.int .i64 0, .bool false] := by
      unfold numV
      rcases hcase with hc | ⟨_, hc, _⟩
      · rw [hc]
      · omega
    have e2 : (13 : Int) < (s.length : Int) := by omega
    repeat (first | (refine WPO_pl rfl ?_; simp [e1, e2]) | (refine WPO_gpl rfl ?_; simp [e1, e2]) | (refine WPO_gcall ?_; simp [e1, e2]) | (refine WPO_nil ?_; simp [e1, e2]))
    refine WP_cond rfl ⟨fun _ => ?_, fun hd => by cases hd⟩
    repeat (first | refine WP_seq ?_ | refine WP_reg ?_ | (refine WPO_pl rfl ?_; simp) | (refine WPO_gpl rfl ?_; simp) | (refine WPO_gcall ?_; simp) | (refine WPO_nil ?_; simp))
    simp [WP_ret, F44]
    rw [← hn]; exact hq _
  have e2 : ¬ (13 : Int) < (s.length : Int) := by omega
  obtain ⟨c, h0, hh⟩ : ∃ c, s[0]? = some c ∧ s.head? = some c := by
    cases s with
    | nil => simp at c1
    | cons c r => exact ⟨c, rfl, rfl⟩
  by_cases c3 : 1 < s.length
  · have e3 : (1 : Int) < (s.length : Int) := by omega
    by_cases c4 : c = 48
    · have hn : numV s = .tup [.int .i64 0, .bool false] := by
        unfold numV
        rcases hcase with hc | ⟨_, _, hc, _⟩
        · rw [hc]
        · exact absurd ⟨c3, by rw [hh, c4]⟩ hc
      have e4 : (c.toNat : Int) = 48 := by rw [c4]; rfl
      repeat (first | (refine WPO_pl rfl ?_; simp [e1, e2, e3, e4, h0]) | (refine WPO_gpl rfl ?_; simp [e1, e2, e3, e4, h0]) | (refine WPO_gcall ?_; simp [e1, e2, e3, e4, h0]) | (refine WPO_nil ?_; simp [e1, e2, e3, e4, h0]))
      refine WP_cond rfl ⟨fun _ => ?_, fun hd => by cases hd⟩
      repeat (first | refine WP_seq ?_ | refine WP_reg ?_ | (refine WPO_pl rfl ?_; simp) | (refine WPO_gpl rfl ?_; simp) | (refine WPO_gcall ?_; simp) | (refine WPO_nil ?_; simp))
      simp [WP_ret, F44]
      rw [← hn]; exact hq _
    · have e4 : ((c.toNat : Int) == 48) = false := beq_eq_false_iff_ne.2 fun e => c4 (UInt8.toNat_inj.1 (by rw [show (48 : UInt8).toNat = 48 from rfl]; omega))
      repeat (first | (refine WPO_pl rfl ?_; simp [e1, e2, e3, e4, h0]) | (refine WPO_gpl rfl ?_; simp [e1, e2, e3, e4, h0]) | (refine WPO_gcall ?_; simp [e1, e2, e3, e4, h0]) | (refine WPO_nil ?_; simp [e1, e2, e3, e4, h0]))
      refine WPO_call (g := 61) (a := []) (b := []) (args := [.str s, .str digits10]) rfl rfl ?_
      simp
      refine Ev_pure hf61 (gTrim_dig hs) ?_
      simp
      by_cases c5 : s.all isDig = true
      · have e5 : Lib.trimS s digits10 = [] := by
          have := trim_dig s
          rw [c5] at this
          simpa using this
        have hn : numV s = .tup [.int .i64 (valF 0 s : Int), .bool true] := by
          unfold numV num
          rw [if_pos ⟨fun e => by rw [e] at c1; simp at c1, by omega, fun hz => c4 (by have := hz.2; rw [hh] at this; exact Option.some.inj this), c5⟩]
        repeat (first | (refine WPO_pl rfl ?_; simp [e5]) | (refine WPO_gpl rfl ?_; simp [e5]) | (refine WPO_gcall ?_; simp [e5]) | (refine WPO_nil ?_; simp [e5]))
        refine WP_cond rfl ⟨fun hd => (by cases hd), fun _ => ?_⟩
        simp only [WP_skip, nrmOr_nrm]
        repeat (first | refine WP_seq ?_ | refine WP_reg ?_ | (refine WPO_pl rfl ?_; simp) | (refine WPO_gpl rfl ?_; simp) | (refine WPO_gcall ?_; simp) | (refine WPO_nil ?_; simp))
        refine WPO_call (g := 62) (a := []) (b := []) (args := [.str s]) rfl rfl ?_
        simp
        refine Ev_pure hf62 (v := .tup [.int .i64 (valF 0 s : Int), .nifc]) (by
          simp only [gAtoi]
          rw [if_pos (by omega), atoi_dig (fun e => by rw [e] at c1; simp at c1) c5]
          rfl) ?_
        simp
        repeat (first | refine WP_seq ?_ | refine WP_reg ?_ | (refine WPO_pl rfl ?_; simp) | (refine WPO_gpl rfl ?_; simp) | (refine WPO_gcall ?_; simp) | (refine WPO_nil ?_; simp))
        simp [WP_ret, F44]
        rw [← hn]; exact hq _
      · have e5 : ¬ Lib.trimS s digits10 = [] := fun e => by
          have := trim_dig s
          rw [e] at this
          exact c5 (by simpa using this.symm)
        have e6 : (Lib.trimS s digits10).isEmpty = false := by
          cases hx : Lib.trimS s digits10 with
          | nil => exact absurd hx e5
          | cons _ _ => rfl
        have hn : numV s = .tup [.int .i64 0, .bool false] := by
          unfold numV
          rcases hcase with hc | ⟨_, _, _, hc, _⟩
          · rw [hc]
          · exact absurd hc c5
        repeat (first | (refine WPO_pl rfl ?_; simp [e5, e6]) | (refine WPO_gpl rfl ?_; simp [e5, e6]) | (refine WPO_gcall ?_; simp [e5, e6]) | (refine WPO_nil ?_; simp [e5, e6]))
        refine WP_cond rfl ⟨fun _ => ?_, fun hd => by cases hd⟩
        repeat (first | refine WP_seq ?_ | refine WP_reg ?_ | (refine WPO_pl rfl ?_; simp) | (refine WPO_gpl rfl ?_; simp) | (refine WPO_gcall ?_; simp) | (refine WPO_nil ?_; simp))
        simp [WP_ret, F44]
        rw [← hn]; exact hq _
  · have e3 : ¬ (1 : Int) < (s.length : Int) := by omega
    repeat (first | (refine WPO_pl rfl ?_; simp [e1, e2, e3, h0]) | (refine WPO_gpl rfl ?_; simp [e1, e2, e3, h0]) | (refine WPO_gcall ?_; simp [e1, e2, e3, h0]) | (refine WPO_nil ?_; simp [e1, e2, e3, h0]))
    refine WPO_call (g := 61) (a := []) (b := []) (args := [.str s, .str digits10]) rfl rfl ?_
    simp
    refine Ev_pure hf61 (gTrim_dig hs) ?_
    simp
    by_cases c5 : s.all isDig = true
    · have e5 : Lib.trimS s digits10 = [] := by
        have := trim_dig s
        rw [c5] at this
        simpa using this
      have hn : numV s = .tup [.int .i64 (valF 0 s : Int), .bool true] := by
        unfold numV num
        rw [if_pos ⟨fun e => by rw [e] at c1; simp at c1, by omega, fun hz => c3 hz.1, c5⟩]
      repeat (first | (refine WPO_pl rfl ?_; simp [e5]) | (refine WPO_gpl rfl ?_; simp [e5]) | (refine WPO_gcall ?_; simp [e5]) | (refine WPO_nil ?_; simp [e5]))
      refine WP_cond rfl ⟨fun hd => (by cases hd), fun _ => ?_⟩
      simp only [WP_skip, nrmOr_nrm]
      repeat (first | refine WP_seq ?_ | refine WP_reg ?_ | (refine WPO_pl rfl ?_; simp) | (refine WPO_gpl rfl ?_; simp) | (refine WPO_gcall ?_; simp) | (refine WPO_nil ?_; simp))
      refine WPO_call (g := 62) (a := []) (b := []) (args := [.str s]) rfl rfl ?_
      simp
      refine Ev_pure hf62 (v := .tup [.int .i64 (valF 0 s : Int), .nifc]) (by
        simp only [gAtoi]
        rw [if_pos (by omega), atoi_dig (fun e => by rw [e] at c1; simp at c1) c5]
        rfl) ?_
      simp
      repeat (first | refine WP_seq ?_ | refine WP_reg ?_ | (refine WPO_pl rfl ?_; simp) | (refine WPO_gpl rfl ?_; simp) | (refine WPO_gcall ?_; simp) | (refine WPO_nil ?_; simp))
      simp [WP_ret, F44]
      rw [← hn]; exact hq _
    · have e5 : ¬ Lib.trimS s digits10 = [] := fun e => by
        have := trim_dig s
        rw [e] at this
        exact c5 (by simpa using this.symm)
      have e6 : (Lib.trimS s digits10).isEmpty = false := by
        cases hx : Lib.trimS s digits10 with
        | nil => exact absurd hx e5
        | cons _ _ => rfl
      have hn : numV s = .tup [.int .i64 0, .bool false] := by
        unfold numV
        rcases hcase with hc | ⟨_, _, _, hc, _⟩
        · rw [hc]
        · exact absurd hc c5
      repeat (first | (refine WPO_pl rfl ?_; simp [e5, e6]) | (refine WPO_gpl rfl ?_; simp [e5, e6]) | (refine WPO_gcall ?_; simp [e5, e6]) | (refine WPO_nil ?_; simp [e5, e6]))
      refine WP_cond rfl ⟨fun _ => ?_, fun hd => by cases hd⟩
      repeat (first | refine WP_seq ?_ | refine WP_reg ?_ | (refine WPO_pl rfl ?_; simp) | (refine WPO_gpl rfl ?_; simp) | (refine WPO_gcall ?_; simp) | (refine WPO_nil ?_; simp))
      simp [WP_ret, F44]
      rw [← hn]; exact hq _

/-- What item answers. -/
def itemV (s : Bs) (after : Int) : V := match item s after with
  | .ok r => .tup [.agg [.int .i64 r.1, .int .i64 r.2], .int .i64 0]
  | .error e => .tup [.agg [.int .i64 0, .int .i64 0], .int .i64 (e : Int)]
theorem itemV_ground (s : Bs) (a : Int) : ground (itemV s a) = true := by
  unfold itemV
  split <;> rfl

theorem left_len (s : Bs) : (left s).length ≤ s.length := (List.takeWhile_sublist _).length_le
theorem right_len (s : Bs) : (right s).length ≤ s.length := by
  unfold right
  rw [List.length_drop]
  have := (List.dropWhile_sublist (fun x : UInt8 => x != 43) (l := s)).length_le
  omega
theorem wrap_add {a n : Nat} (ha : a < 10000000000000) (hn : n < 10000000000000) : IntKind.wrap .i64 ((a : Int) + (n : Int)) = ((a + n : Nat) : Int) := by
  rw [wrap_i64 (by omega) (by omega)]
  omega

set_option maxHeartbeats 1000000 in
theorem z20 {s : Bs} {after : Int} (hf : fs 20 = some (.code F20)) (hf44 : fs 44 = some (.code F44)) (hf43 : fs 43 = some (.orc (orcPure gCut))) (hf61 : fs 61 = some (.orc (orcPure gTrim))) (hf62 : fs 62 = some (.orc (orcPure gAtoi)))
    (hs : s.length < 4294967281) (hro : ro ≤ h.nx) {Q : V → Hp → Prop} (hq : ∀ h', Q (itemV s after) h') : Ev fs ro 20 [.str s, .int .i64 after] h Q := by
  have hl := left_len s
  have hr := right_len s
  refine Ev_fn hf rfl rfl rfl rfl ?_
  repeat (first | refine WP_seq ?_ | refine WP_reg ?_ | (refine WPO_pl rfl ?_; simp) | (refine WPO_gpl rfl ?_; simp) | (refine WPO_gcall ?_; simp) | (refine WPO_nil ?_; simp))
  have hg0 : (h.new (.cells 0 [.int .i64 0, .int .i64 0])).get h.nx = some (.cells 0 [.int .i64 0, .int .i64 0]) := Hp.get_new_same
  refine WPO_call (g := 43) (a := []) (b := []) (args := [.str s, .str [43]]) rfl rfl ?_
  simp
  refine Ev_pure hf43 (v := .tup [.str (left s), .str (right s), .bool (Lib.cut s [43]).2.2]) (by
    simp only [gCut]
    rw [if_pos hs, (cut_eq s).1, (cut_eq s).2]) ?_
  simp
  repeat (first | refine WP_seq ?_ | refine WP_reg ?_ | (refine WPO_pl rfl ?_; simp) | (refine WPO_gpl rfl ?_; simp) | (refine WPO_gcall ?_; simp) | (refine WPO_nil ?_; simp))
  refine WPO_call (g := 44) (a := []) (b := []) (args := [.str (left s)]) rfl rfl ?_
  simp
  refine z44 hf44 hf61 hf62 (by omega) fun h2 => ?_
  simp [numV_ground]
  cases hn1 : num (left s) with
  | none =>
    have hi : itemV s after = .tup [.agg [.int .i64 0, .int .i64 0], .int .i64 3] := by
      unfold itemV item
      rw [hn1]
      rfl
    have e1 : numV (left s) = .tup [.int .i64 0, .bool false] := by unfold numV; rw [hn1]
    rw [e1]
    repeat (first | refine WP_seq ?_ | refine WP_reg ?_ | (refine WPO_pl rfl ?_; simp) | (refine WPO_gpl rfl ?_; simp) | (refine WPO_gcall ?_; simp) | (refine WPO_nil ?_; simp))
    refine WPO_call (g := 44) (a := []) (b := []) (args := [.str (right s)]) rfl rfl ?_
    simp
    refine z44 hf44 hf61 hf62 (by omega) fun h3 => ?_
    simp [numV_ground]
    obtain ⟨x, b, e2⟩ : ∃ x b, numV (right s) = .tup [.int .i64 x, .bool b] := by
      unfold numV
      split
      · exact ⟨_, _, rfl⟩
      · exact ⟨_, _, rfl⟩
    rw [e2]
    repeat (first | (refine WPO_pl rfl ?_; simp) | (refine WPO_gpl rfl ?_; simp) | (refine WPO_gcall ?_; simp) | (refine WPO_nil ?_; simp))
    refine WP_seq ?_
    refine WP_block ?_
    repeat (first | refine WP_seq ?_ | refine WP_reg ?_ | (refine WPO_pl rfl ?_; simp) | (refine WPO_gpl rfl ?_; simp) | (refine WPO_gcall ?_; simp) | (refine WPO_nil ?_; simp))
    refine WP_cond rfl ⟨fun _ => ?_, fun hd => by cases hd⟩
    repeat (first | refine WP_seq ?_ | refine WP_reg ?_ | (refine WPO_pl rfl ?_; simp) | (refine WPO_gpl rfl ?_; simp) | (refine WPO_gcall ?_; simp) | (refine WPO_nil ?_; simp))
    refine WPO_op rfl ?_
    refine OB_store (b := h.nx) (o := 0) (v := .agg [.int .i64 0, .int .i64 0]) (l' := [.int .i64 0, .int .i64 0]) rfl rfl hro rfl rfl hg0 rfl ?_
    have hg1 : ((h.new (.cells 0 [.int .i64 0, .int .i64 0])).set h.nx (.cells 0 [.int .i64 0, .int .i64 0])).get h.nx = some (.cells 0 [.int .i64 0, .int .i64 0]) := Hp.get_set_same hg0
    simp
    repeat (first | refine WP_seq ?_ | refine WP_reg ?_ | (refine WPO_pl rfl ?_; simp) | (refine WPO_gpl rfl ?_; simp) | (refine WPO_gcall ?_; simp) | (refine WPO_nil ?_; simp))
    simp [WP_ret, F20, loadV_ptr hg1, loadN]
    rw [← hi]; exact hq _
  | some a =>
    have ha := num_lt hn1
    have e1 : numV (left s) = .tup [.int .i64 (a : Int), .bool true] := by unfold numV; rw [hn1]
    rw [e1]
    repeat (first | refine WP_seq ?_ | refine WP_reg ?_ | (refine WPO_pl rfl ?_; simp) | (refine WPO_gpl rfl ?_; simp) | (refine WPO_gcall ?_; simp) | (refine WPO_nil ?_; simp))
    refine WPO_call (g := 44) (a := []) (b := []) (args := [.str (right s)]) rfl rfl ?_
    simp
    refine z44 hf44 hf61 hf62 (by omega) fun h3 => ?_
    simp [numV_ground]
    cases hn2 : num (right s) with
    | none =>
      have hi : itemV s after = .tup [.agg [.int .i64 0, .int .i64 0], .int .i64 3] := by
        unfold itemV item
        rw [hn1, hn2]
        rfl
      have e2 : numV (right s) = .tup [.int .i64 0, .bool false] := by unfold numV; rw [hn2]
      rw [e2]
      repeat (first | (refine WPO_pl rfl ?_; simp) | (refine WPO_gpl rfl ?_; simp) | (refine WPO_gcall ?_; simp) | (refine WPO_nil ?_; simp))
      refine WP_seq ?_
      refine WP_block ?_
      repeat (first | refine WP_seq ?_ | refine WP_reg ?_ | (refine WPO_pl rfl ?_; simp) | (refine WPO_gpl rfl ?_; simp) | (refine WPO_gcall ?_; simp) | (refine WPO_nil ?_; simp))
      refine WP_cond rfl ⟨fun _ => ?_, fun hd => by cases hd⟩
      repeat (first | refine WP_seq ?_ | refine WP_reg ?_ | (refine WPO_pl rfl ?_; simp) | (refine WPO_gpl rfl ?_; simp) | (refine WPO_gcall ?_; simp) | (refine WPO_nil ?_; simp))
      refine WPO_op rfl ?_
      refine OB_store (b := h.nx) (o := 0) (v := .agg [.int .i64 0, .int .i64 0]) (l' := [.int .i64 0, .int .i64 0]) rfl rfl hro rfl rfl hg0 rfl ?_
      have hg1 : ((h.new (.cells 0 [.int .i64 0, .int .i64 0])).set h.nx (.cells 0 [.int .i64 0, .int .i64 0])).get h.nx = some (.cells 0 [.int .i64 0, .int .i64 0]) := Hp.get_set_same hg0
      simp
      repeat (first | refine WP_seq ?_ | refine WP_reg ?_ | (refine WPO_pl rfl ?_; simp) | (refine WPO_gpl rfl ?_; simp) | (refine WPO_gcall ?_; simp) | (refine WPO_nil ?_; simp))
      simp [WP_ret, F20, loadV_ptr hg1, loadN]
      rw [← hi]; exact hq _
    | some n =>
      have hb := num_lt hn2
      have e2 : numV (right s) = .tup [.int .i64 (n : Int), .bool true] := by unfold numV; rw [hn2]
      have hit : item s after = if n = 0 ∨ 1099511627776 < a + n then .error 2 else if (a : Int) ≤ after then .error 32 else .ok ((a : Int), ((a + n : Nat) : Int)) := by
        unfold item
        rw [hn1, hn2]
      have hw : IntKind.wrap .i64 ((a : Int) + (n : Int)) = (a : Int) + (n : Int) := by rw [wrap_add ha hb]; omega
      rw [e2]
      repeat (first | (refine WPO_pl rfl ?_; simp) | (refine WPO_gpl rfl ?_; simp) | (refine WPO_gcall ?_; simp) | (refine WPO_nil ?_; simp))
      refine WP_seq ?_
      refine WP_block ?_
      repeat (first | refine WP_seq ?_ | refine WP_reg ?_ | (refine WPO_pl rfl ?_; simp) | (refine WPO_gpl rfl ?_; simp) | (refine WPO_gcall ?_; simp) | (refine WPO_nil ?_; simp))
      refine WP_cond rfl ⟨fun hd => (by cases hd), fun _ => ?_⟩
      by_cases c1 : n = 0
      · subst c1
        have hi : itemV s after = .tup [.agg [.int .i64 0, .int .i64 0], .int .i64 2] := by
          unfold itemV
          rw [hit, if_pos (.inl rfl)]
          rfl
        repeat (first | refine WP_seq ?_ | refine WP_reg ?_ | (refine WPO_pl rfl ?_; simp) | (refine WPO_gpl rfl ?_; simp) | (refine WPO_gcall ?_; simp) | (refine WPO_nil ?_; simp))
        refine WP_cond rfl ⟨fun _ => ?_, fun hd => by cases hd⟩
        repeat (first | refine WP_seq ?_ | refine WP_reg ?_ | (refine WPO_pl rfl ?_; simp) | (refine WPO_gpl rfl ?_; simp) | (refine WPO_gcall ?_; simp) | (refine WPO_nil ?_; simp))
        refine WPO_op rfl ?_
        refine OB_store (b := h.nx) (o := 0) (v := .agg [.int .i64 0, .int .i64 0]) (l' := [.int .i64 0, .int .i64 0]) rfl rfl hro rfl rfl hg0 rfl ?_
        have hg1 : ((h.new (.cells 0 [.int .i64 0, .int .i64 0])).set h.nx (.cells 0 [.int .i64 0, .int .i64 0])).get h.nx = some (.cells 0 [.int .i64 0, .int .i64 0]) := Hp.get_set_same hg0
        simp
        repeat (first | refine WP_seq ?_ | refine WP_reg ?_ | (refine WPO_pl rfl ?_; simp) | (refine WPO_gpl rfl ?_; simp) | (refine WPO_gcall ?_; simp) | (refine WPO_nil ?_; simp))
        simp [WP_ret, F20, loadV_ptr hg1, loadN]
        rw [← hi]; exact hq _
      by_cases c2 : 1099511627776 < a + n
      · have hi : itemV s after = .tup [.agg [.int .i64 0, .int .i64 0], .int .i64 2] := by
          unfold itemV
          rw [hit, if_pos (.inr c2)]
          rfl
        have c2' : (1099511627776 : Int) < (a : Int) + (n : Int) := by omega
        repeat (first | refine WP_seq ?_ | refine WP_reg ?_ | (refine WPO_pl rfl ?_; simp [c1, hw, c2']) | (refine WPO_gpl rfl ?_; simp [c1, hw, c2']) | (refine WPO_gcall ?_; simp [c1, hw, c2']) | (refine WPO_nil ?_; simp [c1, hw, c2']))
        refine WP_cond rfl ⟨fun _ => ?_, fun hd => by cases hd⟩
        repeat (first | refine WP_seq ?_ | refine WP_reg ?_ | (refine WPO_pl rfl ?_; simp) | (refine WPO_gpl rfl ?_; simp) | (refine WPO_gcall ?_; simp) | (refine WPO_nil ?_; simp))
        refine WPO_op rfl ?_
        refine OB_store (b := h.nx) (o := 0) (v := .agg [.int .i64 0, .int .i64 0]) (l' := [.int .i64 0, .int .i64 0]) rfl rfl hro rfl rfl hg0 rfl ?_
        have hg1 : ((h.new (.cells 0 [.int .i64 0, .int .i64 0])).set h.nx (.cells 0 [.int .i64 0, .int .i64 0])).get h.nx = some (.cells 0 [.int .i64 0, .int .i64 0]) := Hp.get_set_same hg0
        simp
        repeat (first | refine WP_seq ?_ | refine WP_reg ?_ | (refine WPO_pl rfl ?_; simp) | (refine WPO_gpl rfl ?_; simp) | (refine WPO_gcall ?_; simp) | (refine WPO_nil ?_; simp))
        simp [WP_ret, F20, loadV_ptr hg1, loadN]
        rw [← hi]; exact hq _
      have c2' : ¬ (1099511627776 : Int) < (a : Int) + (n : Int) := by omega
      repeat (first | refine WP_seq ?_ | refine WP_reg ?_ | (refine WPO_pl rfl ?_; simp [c1, hw, c2']) | (refine WPO_gpl rfl ?_; simp [c1, hw, c2']) | (refine WPO_gcall ?_; simp [c1, hw, c2']) | (refine WPO_nil ?_; simp [c1, hw, c2']))
      refine WP_cond rfl ⟨fun hd => (by cases hd), fun _ => ?_⟩
      by_cases c3 : (a : Int) ≤ after
      · have hi : itemV s after = .tup [.agg [.int .i64 0, .int .i64 0], .int .i64 32] := by
          unfold itemV
          rw [hit, if_neg (by omega), if_pos c3]
          rfl
        repeat (first | refine WP_seq ?_ | refine WP_reg ?_ | (refine WPO_pl rfl ?_; simp [c3]) | (refine WPO_gpl rfl ?_; simp [c3]) | (refine WPO_gcall ?_; simp [c3]) | (refine WPO_nil ?_; simp [c3]))
        refine WP_cond rfl ⟨fun _ => ?_, fun hd => by cases hd⟩
        repeat (first | refine WP_seq ?_ | refine WP_reg ?_ | (refine WPO_pl rfl ?_; simp) | (refine WPO_gpl rfl ?_; simp) | (refine WPO_gcall ?_; simp) | (refine WPO_nil ?_; simp))
        refine WPO_op rfl ?_
        refine OB_store (b := h.nx) (o := 0) (v := .agg [.int .i64 0, .int .i64 0]) (l' := [.int .i64 0, .int .i64 0]) rfl rfl hro rfl rfl hg0 rfl ?_
        have hg1 : ((h.new (.cells 0 [.int .i64 0, .int .i64 0])).set h.nx (.cells 0 [.int .i64 0, .int .i64 0])).get h.nx = some (.cells 0 [.int .i64 0, .int .i64 0]) := Hp.get_set_same hg0
        simp
        repeat (first | refine WP_seq ?_ | refine WP_reg ?_ | (refine WPO_pl rfl ?_; simp) | (refine WPO_gpl rfl ?_; simp) | (refine WPO_gcall ?_; simp) | (refine WPO_nil ?_; simp))
        simp [WP_ret, F20, loadV_ptr hg1, loadN]
        rw [← hi]; exact hq _
      have hi : itemV s after = .tup [.agg [.int .i64 (a : Int), .int .i64 ((a : Int) + (n : Int))], .int .i64 0] := by
        unfold itemV
        rw [hit, if_neg (by omega), if_neg c3]
        simp
      repeat (first | refine WP_seq ?_ | refine WP_reg ?_ | (refine WPO_pl rfl ?_; simp [c3]) | (refine WPO_gpl rfl ?_; simp [c3]) | (refine WPO_gcall ?_; simp [c3]) | (refine WPO_nil ?_; simp [c3]))
      refine WP_cond rfl ⟨fun hd => (by cases hd), fun _ => ?_⟩
      simp only [WP_skip, nrmOr_nrm, blkQ_nrm]
      repeat (first | refine WP_seq ?_ | refine WP_reg ?_ | (refine WPO_pl rfl ?_; simp [hw]) | (refine WPO_gpl rfl ?_; simp [hw]) | (refine WPO_gcall ?_; simp [hw]) | (refine WPO_nil ?_; simp [hw]))
      repeat (first | refine WP_seq ?_ | refine WP_reg ?_ | (refine WPO_pl rfl ?_; simp) | (refine WPO_gpl rfl ?_; simp) | (refine WPO_gcall ?_; simp) | (refine WPO_nil ?_; simp))
      refine WPO_op rfl ?_
      refine OB_store (b := h.nx) (o := 0) (v := .agg [.int .i64 (a : Int), .int .i64 ((a : Int) + (n : Int))]) (l' := [.int .i64 (a : Int), .int .i64 ((a : Int) + (n : Int))]) rfl rfl hro rfl rfl hg0 rfl ?_
      have hg1 : ((h.new (.cells 0 [.int .i64 0, .int .i64 0])).set h.nx (.cells 0 [.int .i64 (a : Int), .int .i64 ((a : Int) + (n : Int))])).get h.nx = some (.cells 0 [.int .i64 (a : Int), .int .i64 ((a : Int) + (n : Int))]) := Hp.get_set_same hg0
      simp
      repeat (first | refine WP_seq ?_ | refine WP_reg ?_ | (refine WPO_pl rfl ?_; simp) | (refine WPO_gpl rfl ?_; simp) | (refine WPO_gcall ?_; simp) | (refine WPO_nil ?_; simp))
      simp [WP_ret, F20, loadV_ptr hg1, loadN]
      rw [← hi]; exact hq _

end Go.Am.SZ
/- The reference's numbers and items, stepped through. -/
namespace Go.Am.SZ
open Go Go.Am.Q
set_option maxRecDepth 100000
set_option linter.unusedVariables false
set_option linter.unusedSimpArgs false
variable {fs : Nat → Option D} {ro : Nat} {h : Hp}

def numR (s : Bs) : Int := match num s with
  | some n => (n : Int)
  | none => -1

theorem all_take {s : Bs} {i : Nat} {c : UInt8} (hc : s[i]? = some c) : s.take (i + 1) = s.take i ++ [c] := by
  have hi : i < s.length := by
    rcases Nat.lt_or_ge i s.length with h | h
    · exact h
    · rw [List.getElem?_eq_none h] at hc; cases hc
  rw [List.take_succ_eq_append_getElem hi]
  rw [List.getElem?_eq_getElem hi] at hc
  rw [Option.some.inj hc]

theorem valF_take_lt {s : Bs} {i : Nat} (hi : i ≤ 13) (hd : (s.take i).all isDig = true) : valF 0 (s.take i) < 10000000000000 := by
  have := valF_lt _ 0 hd
  have h2 : (s.take i).length ≤ 13 := by rw [List.length_take]; omega
  have h3 : (10 : Nat) ^ (s.take i).length ≤ 10 ^ 13 := Nat.pow_le_pow_right (by decide) h2
  have h4 : (10 : Nat) ^ 13 = 10000000000000 := by decide
  omega

set_option maxHeartbeats 1000000 in
theorem z45 {s : Bs} (hf : fs 45 = some (.code F45)) {Q : V → Hp → Prop} (hq : ∀ h', Q (.int .i64 (numR s)) h') : Ev fs ro 45 [.str s] h Q := by
  refine Ev_fn hf rfl rfl rfl rfl ?_
  refine WP_seq ?_
  refine WP_reg ?_
  repeat (first | (refine WPO_pl rfl ?_; simp) | (refine WPO_gpl rfl ?_; simp) | (refine WPO_gcall ?_; simp) | (refine WPO_nil ?_; simp))
  obtain ⟨M, hM⟩ : ∃ M : Env → Hp → Prop, M = fun e' h' => h = h' ∧ e' = [(0, .str s), (21, .bool false)] ∧ s ≠ [] ∧ s.length ≤ 13 ∧ ¬ (1 < s.length ∧ s.head? = some 48) := ⟨_, rfl⟩
  refine WP_mid M ?_ ?_
  · refine WP_seq ?_
    refine WP_reg ?_
    by_cases c1 : s = []
    · subst c1
      repeat (first | (refine WPO_pl rfl ?_; simp) | (refine WPO_gpl rfl ?_; simp) | (refine WPO_gcall ?_; simp) | (refine WPO_nil ?_; simp))
      refine WP_cond rfl ⟨fun _ => ?_, fun hd => by cases hd⟩
      repeat (first | refine WP_seq ?_ | refine WP_reg ?_ | (refine WPO_pl rfl ?_; simp) | (refine WPO_gpl rfl ?_; simp) | (refine WPO_gcall ?_; simp) | (refine WPO_nil ?_; simp))
      simp [WP_ret, F45]
      exact hq _
    have e0 : s.isEmpty = false := by
      cases s with
      | nil => exact absurd rfl c1
      | cons _ _ => rfl
    by_cases c2 : 13 < s.length
    · have hn : numR s = -1 := by
        unfold numR num
        rw [if_neg (fun hc => by omega)]
      have e2 : (13 : Int) < (s.length : Int) := by omega
      repeat (first | (refine WPO_pl rfl ?_; simp [c1, e0, e2]) | (refine WPO_gpl rfl ?_; simp [c1, e0, e2]) | (refine WPO_gcall ?_; simp [c1, e0, e2]) | (refine WPO_nil ?_; simp [c1, e0, e2]))
      refine WP_cond rfl ⟨fun _ => ?_, fun hd => by cases hd⟩
      repeat (first | refine WP_seq ?_ | refine WP_reg ?_ | (refine WPO_pl rfl ?_; simp) | (refine WPO_gpl rfl ?_; simp) | (refine WPO_gcall ?_; simp) | (refine WPO_nil ?_; simp))
      simp [WP_ret, F45]
      rw [← hn]; exact hq _
    have e2 : ¬ (13 : Int) < (s.length : Int) := by omega
    obtain ⟨c, h0, hh⟩ : ∃ c, s[0]? = some c ∧ s.head? = some c := by
      cases s with
      | nil => exact absurd rfl c1
      | cons c r => exact ⟨c, rfl, rfl⟩
    by_cases c3 : 1 < s.length
    · have e3 : (1 : Int) < (s.length : Int) := by omega
      by_cases c4 : c = 48
      · have hn : numR s = -1 := by
          unfold numR num
          rw [if_neg (fun hc => hc.2.2.1 ⟨c3, by rw [hh, c4]⟩)]
        have e4 : (c.toNat : Int) = 48 := by rw [c4]; rfl
        repeat (first | (refine WPO_pl rfl ?_; simp [c1, e0, e2, e3, e4, h0]) | (refine WPO_gpl rfl ?_; simp [c1, e0, e2, e3, e4, h0]) | (refine WPO_gcall ?_; simp [c1, e0, e2, e3, e4, h0]) | (refine WPO_nil ?_; simp [c1, e0, e2, e3, e4, h0]))
        refine WP_cond rfl ⟨fun _ => ?_, fun hd => by cases hd⟩
        repeat (first | refine WP_seq ?_ | refine WP_reg ?_ | (refine WPO_pl rfl ?_; simp) | (refine WPO_gpl rfl ?_; simp) | (refine WPO_gcall ?_; simp) | (refine WPO_nil ?_; simp))
        simp [WP_ret, F45]
        rw [← hn]; exact hq _
      · have e4 : ((c.toNat : Int) == 48) = false := beq_eq_false_iff_ne.2 fun e => c4 (UInt8.toNat_inj.1 (by rw [show (48 : UInt8).toNat = 48 from rfl]; omega))
        repeat (first | (refine WPO_pl rfl ?_; simp [c1, e0, e2, e3, e4, h0]) | (refine WPO_gpl rfl ?_; simp [c1, e0, e2, e3, e4, h0]) | (refine WPO_gcall ?_; simp [c1, e0, e2, e3, e4, h0]) | (refine WPO_nil ?_; simp [c1, e0, e2, e3, e4, h0]))
        refine WP_cond rfl ⟨fun hd => (by cases hd), fun _ => ?_⟩
        simp only [WP_skip, nrmOr_nrm]
        rw [hM]; exact ⟨rfl, rfl, c1, by omega, fun hz => c4 (by have := hz.2; rw [hh] at this; exact Option.some.inj this)⟩
    · have e3 : ¬ (1 : Int) < (s.length : Int) := by omega
      repeat (first | (refine WPO_pl rfl ?_; simp [c1, e0, e2, e3, h0]) | (refine WPO_gpl rfl ?_; simp [c1, e0, e2, e3, h0]) | (refine WPO_gcall ?_; simp [c1, e0, e2, e3, h0]) | (refine WPO_nil ?_; simp [c1, e0, e2, e3, h0]))
      refine WP_cond rfl ⟨fun hd => (by cases hd), fun _ => ?_⟩
      simp only [WP_skip, nrmOr_nrm]
      rw [hM]; exact ⟨rfl, rfl, c1, by omega, fun hz => c3 hz.1⟩
  intro e' h' hh
  rw [hM] at hh
  obtain ⟨rfl, rfl, c1, c2, c3⟩ := hh
  refine WP_seq ?_
  refine WP_reg ?_
  repeat (first | (refine WPO_pl rfl ?_; simp) | (refine WPO_gpl rfl ?_; simp) | (refine WPO_gcall ?_; simp) | (refine WPO_nil ?_; simp))
  refine WP_seq ?_
  refine WP_seq ?_
  refine WP_reg ?_
  repeat (first | (refine WPO_pl rfl ?_; simp) | (refine WPO_gpl rfl ?_; simp) | (refine WPO_gcall ?_; simp) | (refine WPO_nil ?_; simp))
  refine WP_block ?_
  refine WP_loop (fun m e h1 => ∃ i : Nat, m = s.length - i ∧ i ≤ s.length ∧ h = h1 ∧ (s.take i).all isDig = true ∧ e = [(0, .str s), (3, .int .i64 (valF 0 (s.take i) : Nat)), (4, .int .i64 (i : Nat))]) s.length ⟨0, by omega, by omega, rfl, by simp, by simp [valF]⟩ ?_
  rintro m e h1 ⟨i, rfl, hi, rfl, hd, rfl⟩
  refine WP_seq ?_
  refine WP_seq ?_
  refine WP_reg ?_
  repeat (first | (refine WPO_pl rfl ?_; simp) | (refine WPO_gpl rfl ?_; simp) | (refine WPO_gcall ?_; simp) | (refine WPO_nil ?_; simp))
  refine WP_cond rfl ⟨fun ht => ?_, fun ht => ?_⟩
  · have hi' : i < s.length := by simpa using ht
    obtain ⟨c, hc⟩ : ∃ c, s[i]? = some c := ⟨s[i], List.getElem?_eq_getElem hi'⟩
    have htk := all_take hc
    simp only [WP_skip, nrmOr_nrm]
    refine WP_seq ?_
    refine WP_block ?_
    refine WP_seq ?_
    refine WP_seq ?_
    refine WP_reg ?_
    have hbad : isDig c = false → numR s = -1 := fun h9 => by
      unfold numR num
      rw [if_neg]
      rintro ⟨_, _, _, h8⟩
      have := List.all_eq_true.1 h8 c (List.mem_of_getElem? hc)
      rw [h9] at this
      cases this
    by_cases b1 : c.toNat < 48
    · have e1 : (c.toNat : Int) < 48 := by omega
      repeat (first | (refine WPO_pl rfl ?_; simp [hc, e1]) | (refine WPO_gpl rfl ?_; simp [hc, e1]) | (refine WPO_gcall ?_; simp [hc, e1]) | (refine WPO_nil ?_; simp [hc, e1]))
      refine WP_cond rfl ⟨fun _ => ?_, fun hd => by cases hd⟩
      repeat (first | refine WP_seq ?_ | refine WP_reg ?_ | (refine WPO_pl rfl ?_; simp) | (refine WPO_gpl rfl ?_; simp) | (refine WPO_gcall ?_; simp) | (refine WPO_nil ?_; simp))
      simp [WP_ret, F45]
      rw [← hbad (by unfold isDig; simp; omega)]; exact hq _
    have e1 : ¬ (c.toNat : Int) < 48 := by omega
    by_cases b2 : 57 < c.toNat
    · have e2 : (57 : Int) < (c.toNat : Int) := by omega
      repeat (first | (refine WPO_pl rfl ?_; simp [hc, e1, e2]) | (refine WPO_gpl rfl ?_; simp [hc, e1, e2]) | (refine WPO_gcall ?_; simp [hc, e1, e2]) | (refine WPO_nil ?_; simp [hc, e1, e2]))
      refine WP_cond rfl ⟨fun _ => ?_, fun hd => by cases hd⟩
      repeat (first | refine WP_seq ?_ | refine WP_reg ?_ | (refine WPO_pl rfl ?_; simp) | (refine WPO_gpl rfl ?_; simp) | (refine WPO_gcall ?_; simp) | (refine WPO_nil ?_; simp))
      simp [WP_ret, F45]
      rw [← hbad (by unfold isDig; simp; omega)]; exact hq _
    have e2 : ¬ (57 : Int) < (c.toNat : Int) := by omega
    repeat (first | (refine WPO_pl rfl ?_; simp [hc, e1, e2]) | (refine WPO_gpl rfl ?_; simp [hc, e1, e2]) | (refine WPO_gcall ?_; simp [hc, e1, e2]) | (refine WPO_nil ?_; simp [hc, e1, e2]))
    refine WP_cond rfl ⟨fun hd => (by cases hd), fun _ => ?_⟩
    simp only [WP_skip, nrmOr_nrm]
    have hv := valF_take_lt (by omega) hd
    have hv' : valF 0 (s.take (i + 1)) = 10 * valF 0 (s.take i) + (c.toNat - 48) := by
      rw [htk, valF_append, valF_cons, valF_nil, dv_eq]
    have hb := c.toNat_lt
    generalize valF 0 (s.take i) = n at *
    have w1 : IntKind.wrap .i64 (10 * (n : Int)) = 10 * (n : Int) := wrap_i64 (by omega) (by omega)
    have w2 : IntKind.wrap .i64 (10 * (n : Int) + (c.toNat : Int)) = 10 * (n : Int) + (c.toNat : Int) := wrap_i64 (by omega) (by omega)
    have w3 : IntKind.wrap .i64 (10 * (n : Int) + (c.toNat : Int) - 48) = 10 * (n : Int) + (c.toNat : Int) - 48 := wrap_i64 (by omega) (by omega)
    have w4 : IntKind.wrap .i64 ((i : Int) + 1) = (i : Int) + 1 := wrap_i64 (by omega) (by omega)
    repeat (first | refine WP_seq ?_ | refine WP_reg ?_ | (refine WPO_pl rfl ?_; simp [hc, w1, w2, w3, w4, wrap_byte]) | (refine WPO_gpl rfl ?_; simp [hc, w1, w2, w3, w4, wrap_byte]) | (refine WPO_gcall ?_; simp [hc, w1, w2, w3, w4, wrap_byte]) | (refine WPO_nil ?_; simp [hc, w1, w2, w3, w4, wrap_byte]))
    refine ⟨s.length - (i + 1), by omega, i + 1, rfl, by omega, ?_, ?_, ?_⟩
    · rw [htk]
      intro x hx
      rcases List.mem_append.1 hx with h9 | h9
      · exact List.all_eq_true.1 hd x h9
      · simp only [List.mem_cons, List.not_mem_nil, or_false] at h9
        subst h9
        unfold isDig
        simp only [decide_eq_true_eq]
        omega
    · rw [hv']
      omega
    · omega
  · have hi' : i = s.length := by
      have : ¬ (i < s.length) := by simpa using ht
      omega
    subst hi'
    rw [List.take_length] at hd
    have hn : numR s = (valF 0 s : Nat) := by
      unfold numR num
      rw [if_pos ⟨c1, c2, c3, hd⟩]
    simp only [WP_exit, nrmOr_exit, blkQ_exit, if_pos, nrmOr_nrm]
    repeat (first | refine WP_seq ?_ | refine WP_reg ?_ | (refine WPO_pl rfl ?_; simp) | (refine WPO_gpl rfl ?_; simp) | (refine WPO_gcall ?_; simp) | (refine WPO_nil ?_; simp))
    simp [WP_ret, F45]
    rw [← hn]; exact hq _
theorem first_plus : ∀ {s : Bs} {p : Nat}, s[p]? = some 43 → (∀ j, j < p → s[j]? ≠ some 43) → left s = s.take p ∧ right s = s.drop (p + 1)
  | [], p, h, _ => by simp at h
  | c :: r, 0, h, _ => by
    have hc : c = 43 := by simpa using h
    subst hc
    exact ⟨rfl, rfl⟩
  | c :: r, p + 1, h, h2 => by
    have hc : c ≠ 43 := fun e => h2 0 (by omega) (by rw [e]; rfl)
    obtain ⟨h3, h4⟩ := first_plus (s := r) (p := p) (by simpa using h) fun j hj => by
      have := h2 (j + 1) (by omega)
      simpa using this
    have hne : (c != 43) = true := by simpa using hc
    have t1 : (c :: r).takeWhile (fun x => x != 43) = c :: r.takeWhile (fun x => x != 43) := List.takeWhile_cons_of_pos hne
    have t2 : (c :: r).dropWhile (fun x => x != 43) = r.dropWhile (fun x => x != 43) := List.dropWhile_cons_of_pos hne
    unfold left right at *
    rw [t1, t2]
    exact ⟨by rw [h3]; rfl, h4⟩
theorem no_plus {s : Bs} (h : ∀ j : Nat, s[j]? ≠ some 43) : right s = [] := by
  unfold right
  rw [dropWhile_nil_iff.2 fun x hx => ?_]
  · rfl
  · obtain ⟨j, hj⟩ := List.mem_iff_getElem?.1 hx
    simp only [bne_iff_ne, ne_eq]
    intro e
    subst e
    exact h j hj

/-- The place of the first plus among those from k on. -/
def PlusAt (s : Bs) (k : Nat) (p : Int) : Prop := (p = -1 ∧ ∀ j, k ≤ j → s[j]? ≠ some 43) ∨ ∃ q : Nat, p = q ∧ k ≤ q ∧ s[q]? = some 43 ∧ ∀ j, k ≤ j → j < q → s[j]? ≠ some 43

set_option maxHeartbeats 1000000 in
theorem z21 {s : Bs} {after : Int} (hf : fs 21 = some (.code F21)) (hf45 : fs 45 = some (.code F45)) (hs : s.length ≤ 1000000000) (hro : ro ≤ h.nx) {Q : V → Hp → Prop} (hq : ∀ h', Q (itemV s after) h') : Ev fs ro 21 [.str s, .int .i64 after] h Q := by
  refine Ev_fn hf rfl rfl rfl rfl ?_
  refine WP_seq ?_
  refine WP_reg ?_
  repeat (first | (refine WPO_pl rfl ?_; simp) | (refine WPO_gpl rfl ?_; simp) | (refine WPO_gcall ?_; simp) | (refine WPO_nil ?_; simp))
  have hg0 : (h.new (.cells 0 [.int .i64 0, .int .i64 0])).get h.nx = some (.cells 0 [.int .i64 0, .int .i64 0]) := Hp.get_new_same
  generalize hh1 : h.new (.cells 0 [.int .i64 0, .int .i64 0]) = h1 at *
  refine WP_seq ?_
  refine WP_reg ?_
  repeat (first | (refine WPO_pl rfl ?_; simp) | (refine WPO_gpl rfl ?_; simp) | (refine WPO_gcall ?_; simp) | (refine WPO_nil ?_; simp))
  obtain ⟨M, hM⟩ : ∃ M : Env → Hp → Prop, M = fun e' h' => h1 = h' ∧ ∃ p, PlusAt s 0 p ∧ e'.get 0 = some (.str s) ∧ e'.get 1 = some (.int .i64 after) ∧ e'.get 4 = some (.ptr h.nx 0) ∧ e'.get 6 = some (.int .i64 p) := ⟨_, rfl⟩
  refine WP_mid M ?_ ?_
  · refine WP_seq ?_
    refine WP_reg ?_
    have w0 : IntKind.wrap .i64 ((s.length : Int) - 1) = (s.length : Int) - 1 := wrap_i64 (by omega) (by omega)
    repeat (first | (refine WPO_pl rfl ?_; simp [w0]) | (refine WPO_gpl rfl ?_; simp [w0]) | (refine WPO_gcall ?_; simp [w0]) | (refine WPO_nil ?_; simp [w0]))
    refine WP_block ?_
    obtain ⟨I, hI⟩ : ∃ I : Nat → Env → Hp → Prop, I = fun k e h2 => k ≤ s.length ∧ h1 = h2 ∧ ∃ p, PlusAt s k p ∧ e = [(0, .str s), (1, .int .i64 after), (4, .ptr h.nx 0), (6, .int .i64 p), (7, .int .i64 ((k : Int) - 1))] := ⟨_, rfl⟩
    refine WP_loop I s.length (by rw [hI]; exact ⟨by omega, rfl, -1, .inl ⟨rfl, fun j hj => by rw [List.getElem?_eq_none hj]; simp⟩, rfl⟩) ?_
    intro k e h2 hh
    rw [hI] at hh
    obtain ⟨hk, rfl, p, hp, rfl⟩ := hh
    refine WP_seq ?_
    refine WP_seq ?_
    refine WP_reg ?_
    by_cases hk0 : k = 0
    · subst hk0
      repeat (first | (refine WPO_pl rfl ?_; simp) | (refine WPO_gpl rfl ?_; simp) | (refine WPO_gcall ?_; simp) | (refine WPO_nil ?_; simp))
      refine WP_cond rfl ⟨fun hd => (by cases hd), fun _ => ?_⟩
      simp only [WP_exit, nrmOr_exit, blkQ_exit, if_pos, nrmOr_nrm, blkQ_nrm]
      rw [hM]
      exact ⟨rfl, p, hp, rfl, rfl, rfl, rfl⟩
    obtain ⟨i, rfl⟩ : ∃ i, k = i + 1 := ⟨k - 1, by omega⟩
    have hki : (((i + 1 : Nat) : Int) - 1) = (i : Int) := by omega
    rw [hki]
    obtain ⟨c, hc⟩ : ∃ c, s[i]? = some c := ⟨s[i], List.getElem?_eq_getElem (by omega)⟩
    repeat (first | (refine WPO_pl rfl ?_; simp) | (refine WPO_gpl rfl ?_; simp) | (refine WPO_gcall ?_; simp) | (refine WPO_nil ?_; simp))
    refine WP_cond rfl ⟨fun _ => ?_, fun hd => by cases hd⟩
    simp only [WP_skip, nrmOr_nrm]
    refine WP_seq ?_
    refine WP_block ?_
    refine WP_seq ?_
    refine WP_reg ?_
    have w1 : IntKind.wrap .i64 ((i : Int) - 1) = (i : Int) - 1 := wrap_i64 (by omega) (by omega)
    by_cases b1 : c = 43
    · have e1 : (c.toNat : Int) = 43 := by rw [b1]; rfl
      repeat (first | (refine WPO_pl rfl ?_; simp [hc, e1]) | (refine WPO_gpl rfl ?_; simp [hc, e1]) | (refine WPO_gcall ?_; simp [hc, e1]) | (refine WPO_nil ?_; simp [hc, e1]))
      refine WP_cond rfl ⟨fun _ => ?_, fun hd => by cases hd⟩
      repeat (first | refine WP_seq ?_ | refine WP_reg ?_ | (refine WPO_pl rfl ?_; simp [w1]) | (refine WPO_gpl rfl ?_; simp [w1]) | (refine WPO_gcall ?_; simp [w1]) | (refine WPO_nil ?_; simp [w1]))
      refine ⟨i, by omega, ?_⟩
      rw [hI]
      exact ⟨by omega, rfl, i, .inr ⟨i, rfl, Nat.le_refl _, by rw [hc, b1], fun j h3 h4 => by omega⟩, rfl⟩
    · have e1 : ((c.toNat : Int) == 43) = false := beq_eq_false_iff_ne.2 fun e => b1 (UInt8.toNat_inj.1 (by rw [show (43 : UInt8).toNat = 43 from rfl]; omega))
      repeat (first | (refine WPO_pl rfl ?_; simp [hc, e1]) | (refine WPO_gpl rfl ?_; simp [hc, e1]) | (refine WPO_gcall ?_; simp [hc, e1]) | (refine WPO_nil ?_; simp [hc, e1]))
      refine WP_cond rfl ⟨fun hd => (by cases hd), fun _ => ?_⟩
      simp only [WP_skip, nrmOr_nrm, blkQ_nrm]
      repeat (first | refine WP_seq ?_ | refine WP_reg ?_ | (refine WPO_pl rfl ?_; simp [w1]) | (refine WPO_gpl rfl ?_; simp [w1]) | (refine WPO_gcall ?_; simp [w1]) | (refine WPO_nil ?_; simp [w1]))
      refine ⟨i, by omega, ?_⟩
      rw [hI]
      refine ⟨by omega, rfl, p, ?_, rfl⟩
      have hci : ∀ j, i ≤ j → (i + 1 ≤ j → s[j]? ≠ some 43) → s[j]? ≠ some 43 := fun j h3 h4 => by
        rcases Nat.lt_or_ge i j with h5 | h5
        · exact h4 h5
        · obtain rfl : j = i := by omega
          rw [hc]
          intro e
          exact b1 (Option.some.inj e)
      rcases hp with ⟨rfl, h3⟩ | ⟨q, rfl, h3, h4, h5⟩
      · exact .inl ⟨rfl, fun j hj => hci j hj (h3 j)⟩
      · exact .inr ⟨q, rfl, by omega, h4, fun j h6 h7 => hci j h6 fun h8 => h5 j h8 h7⟩
  intro e' h' hh
  rw [hM] at hh
  obtain ⟨rfl, p, hp, g0, g1, g4, g6⟩ := hh
  refine WP_seq ?_
  refine WP_seq ?_
  refine WP_reg ?_
  rcases hp with ⟨rfl, hp⟩ | ⟨q, rfl, _, hq1, hq2⟩
  · have hi : itemV s after = .tup [.agg [.int .i64 0, .int .i64 0], .int .i64 3] := by
      unfold itemV item
      rw [no_plus fun j => hp j (by omega)]
      cases num (left s) <;> rfl
    repeat (first | (refine WPO_pl rfl ?_; simp [g0, g1, g4, g6]) | (refine WPO_gpl rfl ?_; simp [g0, g1, g4, g6]) | (refine WPO_gcall ?_; simp [g0, g1, g4, g6]) | (refine WPO_nil ?_; simp [g0, g1, g4, g6]))
    refine WP_cond rfl ⟨fun _ => ?_, fun hd => by cases hd⟩
    repeat (first | refine WP_seq ?_ | refine WP_reg ?_ | (refine WPO_pl rfl ?_; simp) | (refine WPO_gpl rfl ?_; simp) | (refine WPO_gcall ?_; simp) | (refine WPO_nil ?_; simp))
    refine WPO_op rfl ?_
    refine OB_store (b := h.nx) (o := 0) (v := .agg [.int .i64 0, .int .i64 0]) (l' := [.int .i64 0, .int .i64 0]) rfl rfl hro rfl rfl hg0 rfl ?_
    have hg1 : ((h1).set h.nx (.cells 0 [.int .i64 0, .int .i64 0])).get h.nx = some (.cells 0 [.int .i64 0, .int .i64 0]) := Hp.get_set_same hg0
    simp
    repeat (first | refine WP_seq ?_ | refine WP_reg ?_ | (refine WPO_pl rfl ?_; simp) | (refine WPO_gpl rfl ?_; simp) | (refine WPO_gcall ?_; simp) | (refine WPO_nil ?_; simp))
    simp [WP_ret, F21, loadV_ptr hg1, loadN]
    rw [← hi]; exact hq _
  obtain ⟨el, er⟩ := first_plus hq1 fun j hj => hq2 j (by omega) hj
  have hql : q < s.length := by
    rcases Nat.lt_or_ge q s.length with h3 | h3
    · exact h3
    · rw [List.getElem?_eq_none h3] at hq1; cases hq1
  have q0 : ¬ (q : Int) < 0 := by omega
  repeat (first | (refine WPO_pl rfl ?_; simp [g0, g1, g4, g6, q0]) | (refine WPO_gpl rfl ?_; simp [g0, g1, g4, g6, q0]) | (refine WPO_gcall ?_; simp [g0, g1, g4, g6, q0]) | (refine WPO_nil ?_; simp [g0, g1, g4, g6, q0]))
  refine WP_cond rfl ⟨fun hd => (by cases hd), fun _ => ?_⟩
  simp only [WP_skip, nrmOr_nrm]
  have w1 : IntKind.wrap .i64 ((q : Int) + 1) = ((q + 1 : Nat) : Int) := by rw [wrap_i64 (by omega) (by omega)]; omega
  have q1 : q ≤ s.length := by omega
  have q2 : q + 1 ≤ s.length := by omega
  have q3 : ((q : Int) + 1).toNat = q + 1 := by omega
  have q4 : (0 : Int) ≤ (q : Int) + 1 := by omega
  have q5 : (q : Int) + 1 ≤ (s.length : Int) := by omega
  refine WP_seq ?_
  refine WP_reg ?_
  repeat (first | (refine WPO_pl rfl ?_; simp [q1]) | (refine WPO_gpl rfl ?_; simp [q1]) | (refine WPO_gcall ?_; simp [q1]) | (refine WPO_nil ?_; simp [q1]))
  refine WPO_call (g := 45) (a := []) (b := []) (args := [.str (left s)]) rfl (by simp [el]) ?_
  simp
  refine z45 hf45 fun h3 => ?_
  simp
  repeat (first | (refine WPO_pl rfl ?_; simp [q2, w1, q3, q4, q5, hql]) | (refine WPO_gpl rfl ?_; simp [q2, w1, q3, q4, q5, hql]) | (refine WPO_gcall ?_; simp [q2, w1, q3, q4, q5, hql]) | (refine WPO_nil ?_; simp [q2, w1, q3, q4, q5, hql]))
  refine WPO_call (g := 45) (a := []) (b := []) (args := [.str (right s)]) rfl (by simp [er]) ?_
  simp
  refine z45 hf45 fun h4 => ?_
  simp
  repeat (first | (refine WPO_pl rfl ?_; simp) | (refine WPO_gpl rfl ?_; simp) | (refine WPO_gcall ?_; simp) | (refine WPO_nil ?_; simp))
  refine WP_seq ?_
  refine WP_seq ?_
  refine WP_reg ?_
  cases hn1 : num (left s) with
  | none =>
    have hi : itemV s after = .tup [.agg [.int .i64 0, .int .i64 0], .int .i64 3] := by
      unfold itemV item
      rw [hn1]
      rfl
    have e1 : numR (left s) = -1 := by unfold numR; rw [hn1]
    rw [e1]
    repeat (first | (refine WPO_pl rfl ?_; simp) | (refine WPO_gpl rfl ?_; simp) | (refine WPO_gcall ?_; simp) | (refine WPO_nil ?_; simp))
    refine WP_cond rfl ⟨fun _ => ?_, fun hd => by cases hd⟩
    repeat (first | refine WP_seq ?_ | refine WP_reg ?_ | (refine WPO_pl rfl ?_; simp) | (refine WPO_gpl rfl ?_; simp) | (refine WPO_gcall ?_; simp) | (refine WPO_nil ?_; simp))
    refine WPO_op rfl ?_
    refine OB_store (b := h.nx) (o := 0) (v := .agg [.int .i64 0, .int .i64 0]) (l' := [.int .i64 0, .int .i64 0]) rfl rfl hro rfl rfl hg0 rfl ?_
    have hg1 : (h1.set h.nx (.cells 0 [.int .i64 0, .int .i64 0])).get h.nx = some (.cells 0 [.int .i64 0, .int .i64 0]) := Hp.get_set_same hg0
    simp
    repeat (first | refine WP_seq ?_ | refine WP_reg ?_ | (refine WPO_pl rfl ?_; simp) | (refine WPO_gpl rfl ?_; simp) | (refine WPO_gcall ?_; simp) | (refine WPO_nil ?_; simp))
    simp [WP_ret, F21, loadV_ptr hg1, loadN]
    rw [← hi]; exact hq _
  | some a =>
    have ha := num_lt hn1
    have e1 : numR (left s) = (a : Int) := by unfold numR; rw [hn1]
    rw [e1]
    have a0 : ¬ (a : Int) < 0 := by omega
    cases hn2 : num (right s) with
    | none =>
      have hi : itemV s after = .tup [.agg [.int .i64 0, .int .i64 0], .int .i64 3] := by
        unfold itemV item
        rw [hn1, hn2]
        rfl
      have e2 : numR (right s) = -1 := by unfold numR; rw [hn2]
      rw [e2]
      repeat (first | (refine WPO_pl rfl ?_; simp [a0]) | (refine WPO_gpl rfl ?_; simp [a0]) | (refine WPO_gcall ?_; simp [a0]) | (refine WPO_nil ?_; simp [a0]))
      refine WP_cond rfl ⟨fun _ => ?_, fun hd => by cases hd⟩
      repeat (first | refine WP_seq ?_ | refine WP_reg ?_ | (refine WPO_pl rfl ?_; simp) | (refine WPO_gpl rfl ?_; simp) | (refine WPO_gcall ?_; simp) | (refine WPO_nil ?_; simp))
      refine WPO_op rfl ?_
      refine OB_store (b := h.nx) (o := 0) (v := .agg [.int .i64 0, .int .i64 0]) (l' := [.int .i64 0, .int .i64 0]) rfl rfl hro rfl rfl hg0 rfl ?_
      have hg1 : (h1.set h.nx (.cells 0 [.int .i64 0, .int .i64 0])).get h.nx = some (.cells 0 [.int .i64 0, .int .i64 0]) := Hp.get_set_same hg0
      simp
      repeat (first | refine WP_seq ?_ | refine WP_reg ?_ | (refine WPO_pl rfl ?_; simp) | (refine WPO_gpl rfl ?_; simp) | (refine WPO_gcall ?_; simp) | (refine WPO_nil ?_; simp))
      simp [WP_ret, F21, loadV_ptr hg1, loadN]
      rw [← hi]; exact hq _
    | some n =>
      have hb := num_lt hn2
      have e2 : numR (right s) = (n : Int) := by unfold numR; rw [hn2]
      have n0 : ¬ (n : Int) < 0 := by omega
      have hit : item s after = if n = 0 ∨ 1099511627776 < a + n then .error 2 else if (a : Int) ≤ after then .error 32 else .ok ((a : Int), ((a + n : Nat) : Int)) := by
        unfold item
        rw [hn1, hn2]
      have hw : IntKind.wrap .i64 ((a : Int) + (n : Int)) = (a : Int) + (n : Int) := by rw [wrap_add ha hb]; omega
      rw [e2]
      repeat (first | (refine WPO_pl rfl ?_; simp [a0, n0]) | (refine WPO_gpl rfl ?_; simp [a0, n0]) | (refine WPO_gcall ?_; simp [a0, n0]) | (refine WPO_nil ?_; simp [a0, n0]))
      refine WP_cond rfl ⟨fun hd => (by cases hd), fun _ => ?_⟩
      simp only [WP_skip, nrmOr_nrm]
      refine WP_seq ?_
      refine WP_seq ?_
      refine WP_reg ?_
      by_cases c1 : n = 0
      · subst c1
        have hi : itemV s after = .tup [.agg [.int .i64 0, .int .i64 0], .int .i64 2] := by
          unfold itemV
          rw [hit, if_pos (.inl rfl)]
          rfl
        repeat (first | (refine WPO_pl rfl ?_; simp) | (refine WPO_gpl rfl ?_; simp) | (refine WPO_gcall ?_; simp) | (refine WPO_nil ?_; simp))
        refine WP_cond rfl ⟨fun _ => ?_, fun hd => by cases hd⟩
        repeat (first | refine WP_seq ?_ | refine WP_reg ?_ | (refine WPO_pl rfl ?_; simp) | (refine WPO_gpl rfl ?_; simp) | (refine WPO_gcall ?_; simp) | (refine WPO_nil ?_; simp))
        refine WPO_op rfl ?_
        refine OB_store (b := h.nx) (o := 0) (v := .agg [.int .i64 0, .int .i64 0]) (l' := [.int .i64 0, .int .i64 0]) rfl rfl hro rfl rfl hg0 rfl ?_
        have hg1 : (h1.set h.nx (.cells 0 [.int .i64 0, .int .i64 0])).get h.nx = some (.cells 0 [.int .i64 0, .int .i64 0]) := Hp.get_set_same hg0
        simp
        repeat (first | refine WP_seq ?_ | refine WP_reg ?_ | (refine WPO_pl rfl ?_; simp) | (refine WPO_gpl rfl ?_; simp) | (refine WPO_gcall ?_; simp) | (refine WPO_nil ?_; simp))
        simp [WP_ret, F21, loadV_ptr hg1, loadN]
        rw [← hi]; exact hq _
      by_cases c2 : 1099511627776 < a + n
      · have hi : itemV s after = .tup [.agg [.int .i64 0, .int .i64 0], .int .i64 2] := by
          unfold itemV
          rw [hit, if_pos (.inr c2)]
          rfl
        have c2' : (1099511627776 : Int) < (a : Int) + (n : Int) := by omega
        repeat (first | (refine WPO_pl rfl ?_; simp [c1, hw, c2']) | (refine WPO_gpl rfl ?_; simp [c1, hw, c2']) | (refine WPO_gcall ?_; simp [c1, hw, c2']) | (refine WPO_nil ?_; simp [c1, hw, c2']))
        refine WP_cond rfl ⟨fun _ => ?_, fun hd => by cases hd⟩
        repeat (first | refine WP_seq ?_ | refine WP_reg ?_ | (refine WPO_pl rfl ?_; simp) | (refine WPO_gpl rfl ?_; simp) | (refine WPO_gcall ?_; simp) | (refine WPO_nil ?_; simp))
        refine WPO_op rfl ?_
        refine OB_store (b := h.nx) (o := 0) (v := .agg [.int .i64 0, .int .i64 0]) (l' := [.int .i64 0, .int .i64 0]) rfl rfl hro rfl rfl hg0 rfl ?_
        have hg1 : (h1.set h.nx (.cells 0 [.int .i64 0, .int .i64 0])).get h.nx = some (.cells 0 [.int .i64 0, .int .i64 0]) := Hp.get_set_same hg0
        simp
        repeat (first | refine WP_seq ?_ | refine WP_reg ?_ | (refine WPO_pl rfl ?_; simp) | (refine WPO_gpl rfl ?_; simp) | (refine WPO_gcall ?_; simp) | (refine WPO_nil ?_; simp))
        simp [WP_ret, F21, loadV_ptr hg1, loadN]
        rw [← hi]; exact hq _
      have c2' : ¬ (1099511627776 : Int) < (a : Int) + (n : Int) := by omega
      repeat (first | (refine WPO_pl rfl ?_; simp [c1, hw, c2']) | (refine WPO_gpl rfl ?_; simp [c1, hw, c2']) | (refine WPO_gcall ?_; simp [c1, hw, c2']) | (refine WPO_nil ?_; simp [c1, hw, c2']))
      refine WP_cond rfl ⟨fun hd => (by cases hd), fun _ => ?_⟩
      simp only [WP_skip, nrmOr_nrm]
      refine WP_seq ?_
      refine WP_seq ?_
      refine WP_reg ?_
      by_cases c3 : (a : Int) ≤ after
      · have hi : itemV s after = .tup [.agg [.int .i64 0, .int .i64 0], .int .i64 32] := by
          unfold itemV
          rw [hit, if_neg (by omega), if_pos c3]
          rfl
        repeat (first | (refine WPO_pl rfl ?_; simp [c3]) | (refine WPO_gpl rfl ?_; simp [c3]) | (refine WPO_gcall ?_; simp [c3]) | (refine WPO_nil ?_; simp [c3]))
        refine WP_cond rfl ⟨fun _ => ?_, fun hd => by cases hd⟩
        repeat (first | refine WP_seq ?_ | refine WP_reg ?_ | (refine WPO_pl rfl ?_; simp) | (refine WPO_gpl rfl ?_; simp) | (refine WPO_gcall ?_; simp) | (refine WPO_nil ?_; simp))
        refine WPO_op rfl ?_
        refine OB_store (b := h.nx) (o := 0) (v := .agg [.int .i64 0, .int .i64 0]) (l' := [.int .i64 0, .int .i64 0]) rfl rfl hro rfl rfl hg0 rfl ?_
        have hg1 : (h1.set h.nx (.cells 0 [.int .i64 0, .int .i64 0])).get h.nx = some (.cells 0 [.int .i64 0, .int .i64 0]) := Hp.get_set_same hg0
        simp
        repeat (first | refine WP_seq ?_ | refine WP_reg ?_ | (refine WPO_pl rfl ?_; simp) | (refine WPO_gpl rfl ?_; simp) | (refine WPO_gcall ?_; simp) | (refine WPO_nil ?_; simp))
        simp [WP_ret, F21, loadV_ptr hg1, loadN]
        rw [← hi]; exact hq _
      have hi : itemV s after = .tup [.agg [.int .i64 (a : Int), .int .i64 ((a : Int) + (n : Int))], .int .i64 0] := by
        unfold itemV
        rw [hit, if_neg (by omega), if_neg c3]
        simp
      repeat (first | (refine WPO_pl rfl ?_; simp [c3]) | (refine WPO_gpl rfl ?_; simp [c3]) | (refine WPO_gcall ?_; simp [c3]) | (refine WPO_nil ?_; simp [c3]))
      refine WP_cond rfl ⟨fun hd => (by cases hd), fun _ => ?_⟩
      simp only [WP_skip, nrmOr_nrm, blkQ_nrm]
      repeat (first | refine WP_seq ?_ | refine WP_reg ?_ | (refine WPO_pl rfl ?_; simp [hw]) | (refine WPO_gpl rfl ?_; simp [hw]) | (refine WPO_gcall ?_; simp [hw]) | (refine WPO_nil ?_; simp [hw]))
      refine WPO_op rfl ?_
      refine OB_store (b := h.nx) (o := 0) (v := .agg [.int .i64 (a : Int), .int .i64 ((a : Int) + (n : Int))]) (l' := [.int .i64 (a : Int), .int .i64 ((a : Int) + (n : Int))]) rfl rfl hro rfl rfl hg0 rfl ?_
      have hg1 : (h1.set h.nx (.cells 0 [.int .i64 (a : Int), .int .i64 ((a : Int) + (n : Int))])).get h.nx = some (.cells 0 [.int .i64 (a : Int), .int .i64 ((a : Int) + (n : Int))]) := Hp.get_set_same hg0
      simp
      repeat (first | refine WP_seq ?_ | refine WP_reg ?_ | (refine WPO_pl rfl ?_; simp) | (refine WPO_gpl rfl ?_; simp) | (refine WPO_gcall ?_; simp) | (refine WPO_nil ?_; simp))
      simp [WP_ret, F21, loadV_ptr hg1, loadN]
      rw [← hi]; exact hq _

end Go.Am.SZ
