/- The law RangesLimits, stepped through. -/
import Derived.Test.YtochmoadmdmcbaaGreatDoorAmZ4
import Derived.Test.YtochmoadmdmcbaaGreatDoorAmZ10
namespace Go.Am.SZ
open Go Go.RowKit Go.Am.Q
set_option maxRecDepth 100000
set_option linter.unusedVariables false
set_option linter.unusedSimpArgs false
variable {fs : Nat → Option D} {ro : Nat} {h : Hp}

/-- What Of, or a text's Parse, says of many ranges. -/
def OfR (l lst : List Rg) (e : Nat) : Prop := (l.length ≤ 1024 ∧ lst = l ∧ e = 0) ∨ (1024 < l.length ∧ lst = [] ∧ e = 9)

theorem of_norm {l : List Rg} (hn : Norm l) (ho : l.all okR = true) : mrgs (sortR l) = l := by
  have h1 : ofL l = mrgs (sortR l) := by unfold ofL; rw [if_pos ho]
  rw [← h1, ofL_ref]
  unfold refL
  rw [if_pos ho]
  obtain ⟨h2, h3⟩ := canon_spec (l := l) fun p hp => (okR_le (List.all_eq_true.1 ho p hp)).2.1
  exact norm_unique h2 hn h3

/-- Single positions, not adjacent. -/
def sing (a : Int) : Nat → List Rg
  | 0 => []
  | n + 1 => sing a n ++ [(a + 2 * n, a + 2 * n + 1)]
theorem sing_len (a : Int) : ∀ n, (sing a n).length = n
  | 0 => rfl
  | n + 1 => by simp [sing, sing_len a n]
theorem sing_mem {a : Int} : ∀ {n : Nat} {p : Rg}, p ∈ sing a n → ∃ i : Nat, i < n ∧ p = (a + 2 * i, a + 2 * i + 1)
  | 0, p, h => by cases h
  | n + 1, p, h => by
    rcases List.mem_append.1 h with h | h
    · obtain ⟨i, h1, h2⟩ := sing_mem h
      exact ⟨i, by omega, h2⟩
    · simp only [List.mem_cons, List.not_mem_nil, or_false] at h
      exact ⟨n, by omega, h⟩
theorem sing_norm (a : Int) : ∀ n, Norm (sing a n)
  | 0 => ⟨fun p hp => (by cases hp), List.Pairwise.nil⟩
  | n + 1 => by
    obtain ⟨h1, h2⟩ := sing_norm a n
    refine ⟨fun p hp => ?_, ?_⟩
    · obtain ⟨i, _, rfl⟩ := sing_mem hp
      simp only
      omega
    · rw [sing, List.pairwise_append]
      refine ⟨h2, List.pairwise_singleton _ _, fun p hp q hq => ?_⟩
      obtain ⟨i, hi, rfl⟩ := sing_mem hp
      simp only [List.mem_cons, List.not_mem_nil, or_false] at hq
      subst hq
      simp only
      omega
theorem sing_fine {a : Int} (h0 : 0 ≤ a) (h1 : a ≤ 10000) {n : Nat} (hn : n ≤ 2000) : Fine (sing a n) := fun p hp => by
  obtain ⟨i, hi, rfl⟩ := sing_mem hp
  simp only
  omega
theorem fine_all {l : List Rg} (h : Fine l) : l.all okR = true := by
  rw [List.all_eq_true]
  intro p hp
  obtain ⟨h1, h2, h3⟩ := h p hp
  rw [okR_eq]
  simp
  omega
theorem sumLen_append : ∀ (a b : List Rg), sumLen (a ++ b) = sumLen a + sumLen b
  | [], b => by simp [sumLen]
  | (x, y) :: a, b => by
    show (y - x) + sumLen (a ++ b) = _
    rw [sumLen_append a b]
    simp only [sumLen]
    omega
theorem sing_sum (a : Int) : ∀ n, sumLen (sing a n) = n
  | 0 => rfl
  | n + 1 => by
    rw [sing, sumLen_append, sing_sum a n]
    simp [sumLen]
    omega
theorem sing_two {n m : Nat} (hn : n ≤ 2000) : Norm (sing 0 n ++ sing 5000 m) := by
  refine ⟨fun p hp => ?_, ?_⟩
  · rcases List.mem_append.1 hp with h | h
    · exact (sing_norm 0 n).1 p h
    · exact (sing_norm 5000 m).1 p h
  · rw [List.pairwise_append]
    refine ⟨(sing_norm 0 n).2, (sing_norm 5000 m).2, fun p hp q hq => ?_⟩
    obtain ⟨i, hi, rfl⟩ := sing_mem hp
    obtain ⟨k, hk, rfl⟩ := sing_mem hq
    simp only
    omega
theorem comb_two {n m : Nat} (hn : n ≤ 2000) : combL (fun x y => x || y) (sing 0 n) (sing 5000 m) = sing 0 n ++ sing 5000 m := by
  obtain ⟨h1, h2⟩ := combL_spec (f := fun x y => x || y) rfl (sing 0 n) (sing 5000 m)
  refine norm_unique h1 (sing_two hn) fun x => ?_
  rw [h2, Mem_append, Bool.or_eq_true, inS_iff, inS_iff]
theorem sing_text (n : Nat) : text (sing 0 (n + 1)) = (if n = 0 then [] else text (sing 0 n) ++ [32]) ++ (digs (2 * n) ++ [43, 49]) := by
  rw [sing, text_snoc]
  have h1 : itemT ((0 : Int) + 2 * (n : Int), (0 : Int) + 2 * (n : Int) + 1) = digs (2 * n) ++ [43, 49] := by
    unfold itemT
    have e1 : ((0 : Int) + 2 * (n : Int)).toNat = 2 * n := by omega
    have e2 : ((0 : Int) + 2 * (n : Int) + 1 - (0 + 2 * (n : Int))).toNat = 1 := by omega
    simp only [e1, e2]
    rw [digs_small (n := 1) (by decide)]
    rfl
  rw [h1]
  cases n with
  | zero => rfl
  | succ k =>
    rw [if_neg (by simp [sing]), if_neg (by omega)]
    simp
theorem sing_chain (n : Nat) (hn : n ≤ 2000) : Chain (-1) (sing 0 n) := norm_chain (sing_norm 0 n) (sing_fine (by omega) (by omega) hn) fun p hp => by
  obtain ⟨i, hi, rfl⟩ := sing_mem hp
  simp only
  omega
theorem sing_parse {n : Nat} (hn : n ≤ 2000) {l : List Rg} {p e : Nat} (h : ParseR (text (sing 0 n)) l p e) : OfR (sing 0 n) l e := by
  rcases Nat.lt_or_ge 1024 n with h1 | h1
  · obtain ⟨q, hq⟩ := parse_many (sing_chain n hn) (by rw [sing_len]; omega)
    rcases h with ⟨h2, _, _⟩ | ⟨h2, h3, _⟩
    · rw [hq] at h2; cases h2
    · rw [hq] at h2; cases h2; exact .inr ⟨by rw [sing_len]; omega, h3, rfl⟩
  · have hq := parse_text (sing_chain n hn) (by rw [sing_len]; omega)
    rcases h with ⟨h2, _, h3⟩ | ⟨h2, _, _⟩
    · rw [hq] at h2; cases h2; exact .inl ⟨by rw [sing_len]; omega, rfl, h3⟩
    · rw [hq] at h2; cases h2
theorem OfR.uniq {l a b : List Rg} {e f : Nat} (h : OfR l a e) (h' : OfR l b f) : a = b ∧ e = f := by
  rcases h with ⟨h1, rfl, rfl⟩ | ⟨h1, rfl, rfl⟩ <;> rcases h' with ⟨h2, rfl, rfl⟩ | ⟨h2, rfl, rfl⟩
  · exact ⟨rfl, rfl⟩
  · omega
  · omega
  · exact ⟨rfl, rfl⟩

set_option maxHeartbeats 1000000 in
theorem z15 {v : V} {l : List Rg} (hf : fs 15 = some (.code F15)) (hf34 : fs 31 = some (.code F31)) (hf52 : fs 51 = some (.code F51)) (hf43 : fs 32 = some (.code F32)) (hf44 : fs 33 = some (.code F33)) (hf45 : fs 34 = some (.code F34)) (hf46 : fs 35 = some (.orc (orcSort 36))) (hf25 : fs 39 = some (.code F39))
    (hv : SlG h v l) (hw : ∀ b x, h.get b = some x → b < h.nx) (hro : ro ≤ h.nx) (hn : l.length ≤ 2000) (hall : l.all okR = true) (hno : mrgs (sortR l) = l) {Q : V → Hp → Prop}
    (hq : ∀ x (e : Nat) lst h', OfR l lst e → SlG h' x lst → Own h.nx x → Fr h h' → Q (.tup [.agg [x], .int .i64 (e : Int)]) h') : Ev fs ro 15 [v] h Q := by
  refine Ev_fn hf rfl rfl rfl rfl ?_
  have hf1 : Fr h (h.new (.cells 0 [.nsl])) := (Fr.refl hw).new _
  have hg1 : (h.new (.cells 0 [.nsl])).get h.nx = some (.cells 0 [.nsl]) := Hp.get_new_same
  refine WP_seq ?_
  refine WP_reg ?_
  refine WPO_op rfl ?_
  simp
  refine WPO_op rfl ?_
  simp
  refine WPO_nil ?_
  simp
  have hnx1 : h.nx < (h.new (.cells 0 [.nsl])).nx := by simp
  generalize (h.new (.cells 0 [.nsl])) = h1 at *
  have hv1 : SlG h1 v l := Sl.fr hf1 hv
  refine WP_seq ?_
  refine WP_seq ?_
  refine WP_reg ?_
  refine WPO_op rfl ?_
  simp
  refine WPO_call (g := 31) (a := []) (b := []) (args := [v, .fn (.func 32) [] []]) rfl rfl ?_
  simp
  refine ev34g hf34 hf52 (f := fun p => !okR p) hv1 (fun p {Q} hq => ev43 hf43 hf44 hq) hf1.wf (by omega) fun h' => ?_
  rw [any_not]
  simp
  refine WPO_nil ?_
  simp
  refine WP_cond rfl ⟨fun hd => ?_, fun hd => ?_⟩
  · have hb : l.all okR = false := by simpa using hd
    rw [hall] at hb
    cases hb
  · have hb : l.all okR = true := by simpa using hd
    simp only [WP_skip, nrmOr_nrm]
    refine WP_seq ?_
    refine WP_reg ?_
    refine WPO_op rfl ?_
    simp
    refine WPO_call (g := 34) (a := []) (b := []) (args := [v]) rfl rfl ?_
    simp
    refine ev45o hf45 hv1 hf1.wf (by omega) fun x h2 hsx hgx hfx hox => ?_
    obtain ⟨hsR, hfR⟩ : SlG (if ground x = true then h1 else h2) x l ∧ Fr h1 (if ground x = true then h1 else h2) := by
      rcases hgx with ⟨rfl, rfl⟩ | hgx
      · exact ⟨⟨rfl, rfl⟩, Fr.refl hf1.wf⟩
      · rw [hgx]
        exact ⟨hsx, hfx⟩
    generalize (if ground x = true then h1 else h2) = hR at *
    refine WPO_op rfl ?_
    simp
    refine WPO_nil ?_
    simp
    obtain ⟨hS, hrun, hsS, hfS⟩ := sort_sl (ro := ro) hfR hf1.wf (by omega) (by omega) hsR hox
    refine WP_seq ?_
    refine WP_reg ?_
    refine WPO_op rfl ?_
    simp
    refine WPO_call (g := 35) (a := []) (b := []) (args := [x, .fn (.func 36) [] []]) rfl rfl ?_
    simp
    refine Ev_orc hf46 (r := .tup []) (h' := hS) hrun ?_
    refine WPO_nil ?_
    simp
    refine WP_seq ?_
    refine WP_reg ?_
    refine WPO_op rfl ?_
    simp
    refine WPO_call (g := 39) (a := []) (b := []) (args := [x]) rfl rfl ?_
    simp
    have hle := mrgs_le (sortR l)
    rw [sortR_len] at hle
    refine ev25 hf25 hsS hfS.wf (Nat.le_refl _) (by rw [sortR_len]; omega) fun y h3 hsy hoy hfy => ?_
    by_cases hlim : l.length ≤ 1024
    · have hmv : madeV (mrgs (sortR l)) y = .tup [.agg [y], .int .i64 0] := by
        unfold madeV
        rw [if_neg (by omega)]
      rw [hmv]
      obtain ⟨hsT, hfT⟩ := aft (k := .i64) (n := 0) hfS.wf hsy hoy hfy (.inl rfl)
      generalize (if ground (V.tup [V.agg [y], V.int .i64 0]) = true then hS else h3) = hT at *
      have hg2 := hfT.sub _ _ (hfS.sub _ _ hg1)
      obtain ⟨hyc1, hyc2⟩ := hoy.cells
      refine WPO_op rfl ?_
      simp [op1]
      refine WPO_op rfl ?_
      simp [op1]
      refine WPO_op rfl ?_
      refine OB_store (b := h.nx) (o := 0) (v := V.agg [y]) (l' := [y]) rfl rfl (by omega) rfl (by simp [V.cells, hyc2]) hg2 rfl ?_
      simp
      refine WPO_op rfl ?_
      simp
      refine WPO_nil ?_
      simp [WP_ret, F15]
      have hg3 : (hT.set h.nx (.cells 0 [y])).get h.nx = some (.cells 0 [y]) := Hp.get_set_same hg2
      have hfinal : Fr h (hT.set h.nx (.cells 0 [y])) := ((hf1.trans hfS).trans hfT).set hw (Nat.le_refl _) hg2 _
      have hown : Own h.nx y := hoy.mono (by have := hfS.nx; omega)
      have hsy2 : SlG (hT.set h.nx (.cells 0 [y])) y (mrgs (sortR l)) := Sl.set_ne hsT hoy (by have := hfS.nx; omega) _
      simp [loadV_ptr hg3, loadN]
      have := hq y 0 l _ (.inl ⟨by omega, rfl, rfl⟩) (by rw [hno] at hsy2; exact hsy2) hown hfinal
      simpa [pack] using this
    · have hmv : madeV (mrgs (sortR l)) y = .tup [.agg [.nsl], .int .i64 9] := by
        unfold madeV
        rw [hno, if_pos (by omega)]
      rw [hmv]
      have hgd : ground (V.tup [V.agg [.nsl], V.int .i64 9]) = true := rfl
      have hg2 := hfS.sub _ _ hg1
      simp only [hgd, if_true]
      refine WPO_op rfl ?_
      simp [op1]
      refine WPO_op rfl ?_
      simp [op1]
      refine WPO_op rfl ?_
      refine OB_store (b := h.nx) (o := 0) (v := V.agg [.nsl]) (l' := [.nsl]) rfl rfl (by omega) rfl rfl hg2 rfl ?_
      simp
      refine WPO_op rfl ?_
      simp
      refine WPO_nil ?_
      simp [WP_ret, F15]
      have hg3 : (hS.set h.nx (.cells 0 [.nsl])).get h.nx = some (.cells 0 [.nsl]) := Hp.get_set_same hg2
      simp [loadV_ptr hg3, loadN]
      have := hq .nsl 9 [] (hS.set h.nx (.cells 0 [.nsl])) (.inr ⟨by omega, rfl, rfl⟩) ⟨rfl, rfl⟩ (.inl rfl) ((hf1.trans hfS).set hw (Nat.le_refl _) hg2 _)
      simpa [pack] using this

theorem own_gr3 {x : V} {lo : Nat} {k : IntKind} {n : Int} (ho : Own lo x) : ground (.tup [.agg [x], .int k n]) = true → x = .nsl := by
  rcases ho with rfl | ⟨b, o, j, rfl, _⟩
  · exact fun _ => rfl
  · intro h; cases h

set_option maxHeartbeats 8000000 in
theorem z5 {n0 m0 : Int} (hf5 : fs 5 = some (.code F5)) (hf15 : fs 15 = some (.code F15)) (hf31 : fs 31 = some (.code F31)) (hf51 : fs 51 = some (.code F51)) (hf32 : fs 32 = some (.code F32)) (hf33 : fs 33 = some (.code F33)) (hf34 : fs 34 = some (.code F34)) (hf35 : fs 35 = some (.orc (orcSort 36))) (hf39 : fs 39 = some (.code F39))
    (hf8 : fs 8 = some (.orc orcKnown)) (hf14 : fs 14 = some (.code F14)) (hf13 : fs 13 = some (.code F13)) (hf30 : fs 30 = some (.code F30))
    (hf6 : fs 6 = some (.code F6)) (hf19 : fs 19 = some (.orc orcSplit)) (hf20 : fs 20 = some (.code F20)) (hf44 : fs 44 = some (.code F44)) (hf43 : fs 43 = some (.orc (orcPure gCut))) (hf61 : fs 61 = some (.orc (orcPure gTrim))) (hf62 : fs 62 = some (.orc (orcPure gAtoi)))
    (hf16 : fs 16 = some (.code F16)) (hf40 : fs 40 = some (.code F40)) (hf55 : fs 55 = some (.orc orcSortI)) (hf56 : fs 56 = some (.orc orcCmp)) (hf41 : fs 41 = some (.code F41)) (hf17 : fs 17 = some (.code F17)) (hf18 : fs 18 = some (.code F18))
    (hw : ∀ b x, h.get b = some x → b < h.nx) (hro : ro ≤ h.nx) {Q : V → Hp → Prop} (hq : ∀ h', Q (.bool true) h') : Ev fs ro 5 [.int .i64 n0, .int .i64 m0] h Q := by
  refine Ev_fn hf5 rfl rfl rfl rfl ?_
  refine WP_seq ?_
  refine WP_reg ?_
  repeat (first | (refine WPO_pl rfl ?_; simp) | (refine WPO_gpl rfl ?_; simp) | (refine WPO_gcall ?_; simp) | (refine WPO_nil ?_; simp))
  obtain ⟨M, hM⟩ : ∃ M : Env → Hp → Prop, M = fun e' h' => h = h' ∧ ∃ n m : Nat, n ≤ 1100 ∧ m ≤ 1100 ∧ e' = [(0, .int .i64 (n : Nat)), (1, .int .i64 (m : Nat))] := ⟨_, rfl⟩
  refine WP_mid M ?_ ?_
  · refine WP_reg ?_
    have clamp : ∀ x : Int, ∃ k : Nat, k ≤ 1100 ∧ (if (1100 : Int) < (if x < 0 then 0 else x) then (1100 : Int) else (if x < 0 then 0 else x)) = (k : Int) := fun x => by
      refine ⟨(if (1100 : Int) < (if x < 0 then 0 else x) then (1100 : Int) else (if x < 0 then 0 else x)).toNat, ?_, ?_⟩
      · split <;> split <;> omega
      · split <;> split <;> omega
    obtain ⟨n, hn, en⟩ := clamp n0
    obtain ⟨m, hm, em⟩ := clamp m0
    repeat (first | (refine WPO_pl rfl ?_; simp [maxs, mins, fold2, max2, min2]) | (refine WPO_gpl rfl ?_; simp [maxs, mins, fold2, max2, min2]) | (refine WPO_gcall ?_; simp [maxs, mins, fold2, max2, min2]) | (refine WPO_nil ?_; simp [maxs, mins, fold2, max2, min2]))
    rw [hM, en, em]
    exact ⟨rfl, n, m, hn, hm, rfl⟩
  intro e' h' hh
  rw [hM] at hh
  obtain ⟨rfl, n, m, hn, hm, rfl⟩ := hh
  clear hM M
  repeat (first | refine WP_seq ?_ | refine WP_reg ?_ | (refine WPO_pl rfl ?_; simp) | (refine WPO_gpl rfl ?_; simp) | (refine WPO_gcall ?_; simp) | (refine WPO_nil ?_; simp))
  -- the first ranges, and their text
  refine WP_block ?_
  obtain ⟨I, hI⟩ : ∃ I : Nat → Env → Hp → Prop, I = fun k e h1 => ∃ (i : Nat) (vl : V), k = n - i ∧ i ≤ n ∧ SlG h1 vl (sing 0 i) ∧ Own h.nx vl ∧ Fr h h1 ∧ e = [(0, .int .i64 (n : Nat)), (1, .int .i64 (m : Nat)), (5, vl), (6, .nsl), (7, .str (text (sing 0 i))), (8, .int .i64 (i : Nat))] := ⟨_, rfl⟩
  refine WP_loop I n (by rw [hI]; exact ⟨0, .nsl, by omega, by omega, ⟨rfl, rfl⟩, .inl rfl, Fr.refl hw, rfl⟩) ?_
  intro k e h1 hh
  rw [hI] at hh
  obtain ⟨i, vl, rfl, hi, hvl, hown, hfr, rfl⟩ := hh
  refine WP_seq ?_
  refine WP_seq ?_
  refine WP_reg ?_
  repeat (first | (refine WPO_pl rfl ?_; simp) | (refine WPO_gpl rfl ?_; simp) | (refine WPO_gcall ?_; simp) | (refine WPO_nil ?_; simp))
  refine WP_cond rfl ⟨fun h9 => ?_, fun h9 => ?_⟩
  · have hi' : i < n := by simpa using h9
    have w1 : IntKind.wrap .i64 (2 * (i : Int)) = 2 * (i : Int) := wrap_i64 (by omega) (by omega)
    have w2 : IntKind.wrap .i64 (2 * (i : Int) + 1) = 2 * (i : Int) + 1 := wrap_i64 (by omega) (by omega)
    have w3 : IntKind.wrap .i64 ((i : Int) + 1) = (i : Int) + 1 := wrap_i64 (by omega) (by omega)
    have htl : (text (sing 0 i)).length ≤ 28 * i := by
      have := text_take_len (l := sing 0 i) (fun p hp => ⟨(sing_fine (by omega) (by omega) (by omega) p hp).1, (sing_norm 0 i).1 p hp, (sing_fine (by omega) (by omega) (by omega) p hp).2.2⟩) i (by rw [sing_len]; omega)
      rwa [List.take_of_length_le (by rw [sing_len]; omega)] at this
    have hst := sing_text i
    have dl := digs13 (n := 2 * i) (by omega)
    simp only [WP_skip, nrmOr_nrm]
    refine WP_seq ?_
    refine WP_block ?_
    refine WP_seq ?_
    refine WP_reg ?_
    repeat (first | (refine WPO_pl rfl ?_; simp [w1, w2, zeros]) | (refine WPO_gpl rfl ?_; simp [w1, w2, zeros]) | (refine WPO_gcall ?_; simp [w1, w2, zeros]) | (refine WPO_nil ?_; simp [w1, w2, zeros]))
    refine WPO_op rfl ?_
    refine app_new2 (out := sing 0 i) (p := (2 * (i : Int), 2 * (i : Int) + 1)) (vo := vl) hw hro hfr hvl hown (by rw [sing_len]; omega) rfl rfl fun v' h2 hv' ho' hf' _ => ?_
    have hv2 : SlG h2 v' (sing 0 (i + 1)) := by
      have e1 : sing 0 (i + 1) = sing 0 i ++ [(2 * (i : Int), 2 * (i : Int) + 1)] := by
        rw [sing]
        simp
      rw [e1]; exact hv'
    simp
    repeat (first | (refine WPO_pl rfl ?_; simp) | (refine WPO_gpl rfl ?_; simp) | (refine WPO_gcall ?_; simp) | (refine WPO_nil ?_; simp))
    obtain ⟨M, hM⟩ : ∃ M : Env → Hp → Prop, M = fun e' h' => h2 = h' ∧ ∃ pre : Bs, e'.get 0 = some (.int .i64 (n : Nat)) ∧ e'.get 1 = some (.int .i64 (m : Nat)) ∧ e'.get 5 = some v' ∧ e'.get 6 = some .nsl ∧ e'.get 7 = some (.str pre) ∧ e'.get 8 = some (.int .i64 (i : Nat)) ∧ pre.length ≤ 28 * i + 1 ∧ text (sing 0 (i + 1)) = pre ++ (digs (2 * i) ++ [43, 49]) := ⟨_, rfl⟩
    refine WP_mid M ?_ ?_
    · refine WP_seq ?_
      refine WP_reg ?_
      by_cases hi0 : i = 0
      · subst hi0
        repeat (first | (refine WPO_pl rfl ?_; simp) | (refine WPO_gpl rfl ?_; simp) | (refine WPO_gcall ?_; simp) | (refine WPO_nil ?_; simp))
        refine WP_cond rfl ⟨fun hd => (by cases hd), fun _ => ?_⟩
        simp only [WP_skip, nrmOr_nrm]
        rw [hM]
        refine ⟨rfl, [], rfl, rfl, rfl, rfl, rfl, rfl, by simp, ?_⟩
        rw [hst, if_pos rfl]
      · have e1 : (0 : Int) < (i : Int) := by omega
        have e1' : 0 < i := by omega
        repeat (first | (refine WPO_pl rfl ?_; simp [e1, e1']) | (refine WPO_gpl rfl ?_; simp [e1, e1']) | (refine WPO_gcall ?_; simp [e1, e1']) | (refine WPO_nil ?_; simp [e1, e1']))
        refine WP_cond rfl ⟨fun _ => ?_, fun hd => by cases hd⟩
        have hl3 : (text (sing 0 i)).length + 1 ≤ 4611686018427387904 := by omega
        repeat (first | refine WP_seq ?_ | refine WP_reg ?_ | (refine WPO_pl rfl ?_; simp [hl3]) | (refine WPO_gpl rfl ?_; simp [hl3]) | (refine WPO_gcall ?_; simp [hl3]) | (refine WPO_nil ?_; simp [hl3]))
        rw [hM]
        refine ⟨rfl, _, rfl, rfl, rfl, rfl, rfl, rfl, by simp; omega, ?_⟩
        rw [hst, if_neg hi0]
    intro e' h' hh
    rw [hM] at hh
    obtain ⟨rfl, pre, g0, g1, g5, g6, g7, g8, hpre, htx⟩ := hh
    refine WP_reg ?_
    repeat (first | (refine WPO_pl rfl ?_; simp [g0, g1, g5, g6, g7, g8, w1]) | (refine WPO_gpl rfl ?_; simp [g0, g1, g5, g6, g7, g8, w1]) | (refine WPO_gcall ?_; simp [g0, g1, g5, g6, g7, g8, w1]) | (refine WPO_nil ?_; simp [g0, g1, g5, g6, g7, g8, w1]))
    have e2 : ((2 * i : Nat) : Int) = 2 * (i : Int) := by omega
    refine WPO_call (g := 14) (a := []) (b := []) (args := [.int .i64 ((2 * i : Nat) : Int)]) rfl (by simp) ?_
    simp only [List.nil_append, List.append_nil]
    refine z14 hf14 (by omega) fun h4 => ?_
    simp
    have l1 : pre.length + (digs (2 * i)).length ≤ 4611686018427387904 := by omega
    have l2 : pre.length + (digs (2 * i)).length + 2 ≤ 4611686018427387904 := by omega
    have l3 : pre.length + ((digs (2 * i)).length + 2) ≤ 4611686018427387904 := by omega
    repeat (first | (refine WPO_pl rfl ?_; simp [g0, g1, g5, g6, g7, g8, l1, l2, l3]) | (refine WPO_gpl rfl ?_; simp [g0, g1, g5, g6, g7, g8, l1, l2, l3]) | (refine WPO_gcall ?_; simp [g0, g1, g5, g6, g7, g8, l1, l2, l3]) | (refine WPO_nil ?_; simp [g0, g1, g5, g6, g7, g8, l1, l2, l3]))
    repeat (first | refine WP_seq ?_ | refine WP_reg ?_ | (refine WPO_pl rfl ?_; simp [w3]) | (refine WPO_gpl rfl ?_; simp [w3]) | (refine WPO_gcall ?_; simp [w3]) | (refine WPO_nil ?_; simp [w3]))
    refine ⟨n - (i + 1), by omega, ?_⟩
    rw [hI]
    refine ⟨i + 1, v', rfl, by omega, hv2, ho', hf', ?_⟩
    rw [htx]
    rfl
  have hi' : i = n := by
    have : ¬ (i < n) := by simpa using h9
    omega
  subst hi'
  simp only [WP_exit, nrmOr_exit, blkQ_exit, if_pos, nrmOr_nrm, blkQ_nrm]
  clear hI I h9 hi
  repeat (first | refine WP_seq ?_ | refine WP_reg ?_ | (refine WPO_pl rfl ?_; simp) | (refine WPO_gpl rfl ?_; simp) | (refine WPO_gcall ?_; simp) | (refine WPO_nil ?_; simp))
  -- the other ranges
  refine WP_block ?_
  obtain ⟨I, hI⟩ : ∃ I : Nat → Env → Hp → Prop, I = fun k e h2 => ∃ (j : Nat) (vk : V), k = m - j ∧ j ≤ m ∧ SlG h2 vk (sing 5000 j) ∧ Own h1.nx vk ∧ Fr h1 h2 ∧ e = [(0, .int .i64 (i : Nat)), (1, .int .i64 (m : Nat)), (5, vl), (6, vk), (7, .str (text (sing 0 i))), (9, .int .i64 (j : Nat))] := ⟨_, rfl⟩
  refine WP_loop I m (by rw [hI]; exact ⟨0, .nsl, by omega, by omega, ⟨rfl, rfl⟩, .inl rfl, Fr.refl hfr.wf, rfl⟩) ?_
  intro k e h2 hh
  rw [hI] at hh
  obtain ⟨j, vk, rfl, hj, hvk, hownk, hfrk, rfl⟩ := hh
  refine WP_seq ?_
  refine WP_seq ?_
  refine WP_reg ?_
  repeat (first | (refine WPO_pl rfl ?_; simp) | (refine WPO_gpl rfl ?_; simp) | (refine WPO_gcall ?_; simp) | (refine WPO_nil ?_; simp))
  refine WP_cond rfl ⟨fun h9 => ?_, fun h9 => ?_⟩
  · have hj' : j < m := by simpa using h9
    have w1 : IntKind.wrap .i64 (2 * (j : Int)) = 2 * (j : Int) := wrap_i64 (by omega) (by omega)
    have w2 : IntKind.wrap .i64 (5000 + 2 * (j : Int)) = 5000 + 2 * (j : Int) := wrap_i64 (by omega) (by omega)
    have w4 : IntKind.wrap .i64 (5001 + 2 * (j : Int)) = 5001 + 2 * (j : Int) := wrap_i64 (by omega) (by omega)
    have w3 : IntKind.wrap .i64 ((j : Int) + 1) = (j : Int) + 1 := wrap_i64 (by omega) (by omega)
    simp only [WP_skip, nrmOr_nrm]
    refine WP_seq ?_
    refine WP_block ?_
    refine WP_reg ?_
    repeat (first | (refine WPO_pl rfl ?_; simp [w1, w2, w4, zeros]) | (refine WPO_gpl rfl ?_; simp [w1, w2, w4, zeros]) | (refine WPO_gcall ?_; simp [w1, w2, w4, zeros]) | (refine WPO_nil ?_; simp [w1, w2, w4, zeros]))
    refine WPO_op rfl ?_
    refine app_new2 (out := sing 5000 j) (p := (5000 + 2 * (j : Int), 5001 + 2 * (j : Int))) (vo := vk) hfr.wf (by have := hfr.nx; omega) hfrk hvk hownk (by rw [sing_len]; omega) rfl rfl fun v' h3 hv' ho' hf' _ => ?_
    have hv2 : SlG h3 v' (sing 5000 (j + 1)) := by
      have e1 : sing 5000 (j + 1) = sing 5000 j ++ [(5000 + 2 * (j : Int), 5001 + 2 * (j : Int))] := by
        rw [sing]
        have : (5000 : Int) + 2 * (j : Int) + 1 = 5001 + 2 * (j : Int) := by omega
        rw [this]
      rw [e1]; exact hv'
    simp
    repeat (first | (refine WPO_pl rfl ?_; simp) | (refine WPO_gpl rfl ?_; simp) | (refine WPO_gcall ?_; simp) | (refine WPO_nil ?_; simp))
    repeat (first | refine WP_seq ?_ | refine WP_reg ?_ | (refine WPO_pl rfl ?_; simp [w3]) | (refine WPO_gpl rfl ?_; simp [w3]) | (refine WPO_gcall ?_; simp [w3]) | (refine WPO_nil ?_; simp [w3]))
    refine ⟨m - (j + 1), by omega, ?_⟩
    rw [hI]
    exact ⟨j + 1, v', rfl, by omega, hv2, ho', hf', rfl⟩
  have hj' : j = m := by
    have : ¬ (j < m) := by simpa using h9
    omega
  subst hj'
  simp only [WP_exit, nrmOr_exit, blkQ_exit, if_pos, nrmOr_nrm, blkQ_nrm]
  clear hI I h9 hj
  have hvl2 : SlG h2 vl (sing 0 i) := Sl.fr hfrk hvl
  have hfi := sing_fine (a := 0) (by omega) (by omega) (n := i) (by omega)
  have hfj := sing_fine (a := 5000) (by omega) (by omega) (n := j) (by omega)
  have hli := sing_len 0 i
  have hlj := sing_len 5000 j
  have htl : (text (sing 0 i)).length ≤ 28 * i := by
    have := text_take_len (l := sing 0 i) (fun p hp => ⟨(hfi p hp).1, (sing_norm 0 i).1 p hp, (hfi p hp).2.2⟩) i (by rw [sing_len]; omega)
    rwa [List.take_of_length_le (by rw [sing_len]; omega)] at this
  have hfh2 : Fr h h2 := hfr.trans hfrk
  repeat (first | refine WP_seq ?_ | refine WP_reg ?_ | (refine WPO_pl rfl ?_; simp) | (refine WPO_gpl rfl ?_; simp) | (refine WPO_gcall ?_; simp) | (refine WPO_nil ?_; simp))
  refine WPO_call (g := 15) (a := []) (b := []) (args := [vl]) rfl rfl ?_
  simp
  refine z15 hf15 hf31 hf51 hf32 hf33 hf34 hf35 hf39 hvl2 hfrk.wf (Nat.le_refl _) (by omega) (fine_all hfi) (of_norm (sing_norm 0 i) (fine_all hfi)) fun x e1 L1 h3 hr1 hsx hox hfx => ?_
  obtain ⟨hsR, hfR⟩ := aftG (own_gr3 (k := .i64) (n := (e1 : Int)) hox) hfrk.wf hsx hfx
  generalize (if ground (V.tup [V.agg [x], V.int .i64 (e1 : Int)]) = true then h2 else h3) = hR at *
  have hg4a : (hR.new (.cells 0 [.nsl])).get hR.nx = some (.cells 0 [.nsl]) := Hp.get_new_same
  repeat (first | (refine WPO_pl rfl ?_; simp) | (refine WPO_gpl rfl ?_; simp) | (refine WPO_gcall ?_; simp) | (refine WPO_nil ?_; simp))
  obtain ⟨xc1, xc2⟩ := hox.cells
  refine WPO_op rfl ?_
  refine OB_store (b := hR.nx) (o := 0) (v := .agg [x]) (l' := [x]) rfl (by simp) (by have := hfR.nx; have := hfh2.nx; omega) rfl (by simp [xc2]) hg4a rfl ?_
  have hf4s : Fr hR ((hR.new (.cells 0 [.nsl])).set hR.nx (.cells 0 [x])) := ((Fr.refl hfR.wf).new _).set hfR.wf (Nat.le_refl _) hg4a _
  have hg4 : ((hR.new (.cells 0 [.nsl])).set hR.nx (.cells 0 [x])).get hR.nx = some (.cells 0 [x]) := Hp.get_set_same hg4a
  have hx4 := hf4s.nx
  generalize ((hR.new (.cells 0 [.nsl])).set hR.nx (.cells 0 [x])) = h4 at *
  simp
  repeat (first | (refine WPO_pl rfl ?_; simp) | (refine WPO_gpl rfl ?_; simp) | (refine WPO_gcall ?_; simp) | (refine WPO_nil ?_; simp))
  have hvk4 : SlG h4 vk (sing 5000 j) := Sl.fr hf4s (Sl.fr hfR hvk)
  have hsx4 : SlG h4 x L1 := Sl.fr hf4s hsR
  refine WP_seq ?_
  refine WP_reg ?_
  repeat (first | (refine WPO_pl rfl ?_; simp) | (refine WPO_gpl rfl ?_; simp) | (refine WPO_gcall ?_; simp) | (refine WPO_nil ?_; simp))
  refine WPO_call (g := 15) (a := []) (b := []) (args := [vk]) rfl rfl ?_
  simp
  refine z15 hf15 hf31 hf51 hf32 hf33 hf34 hf35 hf39 hvk4 hf4s.wf (Nat.le_refl _) (by omega) (fine_all hfj) (of_norm (sing_norm 5000 j) (fine_all hfj)) fun y e2 L2 h5 hr2 hsy hoy hfy => ?_
  obtain ⟨hsS, hfS⟩ := aftG (own_gr3 (k := .i64) (n := (e2 : Int)) hoy) hf4s.wf hsy hfy
  generalize (if ground (V.tup [V.agg [y], V.int .i64 (e2 : Int)]) = true then h4 else h5) = hS at *
  have hg6a : (hS.new (.cells 0 [.nsl])).get hS.nx = some (.cells 0 [.nsl]) := Hp.get_new_same
  repeat (first | (refine WPO_pl rfl ?_; simp) | (refine WPO_gpl rfl ?_; simp) | (refine WPO_gcall ?_; simp) | (refine WPO_nil ?_; simp))
  obtain ⟨yc1, yc2⟩ := hoy.cells
  refine WPO_op rfl ?_
  refine OB_store (b := hS.nx) (o := 0) (v := .agg [y]) (l' := [y]) rfl (by simp) (by have := hfS.nx; have := hfR.nx; have := hfh2.nx; omega) rfl (by simp [yc2]) hg6a rfl ?_
  have hf6s : Fr hS ((hS.new (.cells 0 [.nsl])).set hS.nx (.cells 0 [y])) := ((Fr.refl hfS.wf).new _).set hfS.wf (Nat.le_refl _) hg6a _
  have hg6 : ((hS.new (.cells 0 [.nsl])).set hS.nx (.cells 0 [y])).get hS.nx = some (.cells 0 [y]) := Hp.get_set_same hg6a
  have hx6 := hf6s.nx
  generalize ((hS.new (.cells 0 [.nsl])).set hS.nx (.cells 0 [y])) = h6 at *
  simp
  repeat (first | (refine WPO_pl rfl ?_; simp) | (refine WPO_gpl rfl ?_; simp) | (refine WPO_gcall ?_; simp) | (refine WPO_nil ?_; simp))
  have hg4' := hf6s.sub _ _ (hfS.sub _ _ hg4)
  have hsx6 : SlG h6 x L1 := Sl.fr hf6s (Sl.fr hfS hsx4)
  have hsy6 : SlG h6 y L2 := Sl.fr hf6s hsS
  refine WP_seq ?_
  refine WP_reg ?_
  repeat (first | (refine WPO_pl rfl ?_; simp) | (refine WPO_gpl rfl ?_; simp) | (refine WPO_gcall ?_; simp) | (refine WPO_nil ?_; simp))
  refine WPO_call (g := 6) (a := []) (b := []) (args := [.str (text (sing 0 i))]) rfl rfl ?_
  simp
  refine z6' hf6 hf19 hf20 hf44 hf43 hf61 hf62 (by omega) (Nat.le_refl _) hf6s.wf fun L3 z p e3 h7 hpr hsz hoz hfz => ?_
  obtain ⟨rfl, rfl⟩ := hr1.uniq (sing_parse (by omega) hpr)
  obtain ⟨hsT, hfT⟩ := aftG (own_gr1 (k := .i64) (n := (p : Int)) (m := (e1 : Int)) hoz) hf6s.wf hsz hfz
  generalize (if ground (V.tup [V.agg [z], V.int .i64 (p : Int), V.int .i64 (e1 : Int)]) = true then h6 else h7) = hT at *
  have hg8a : (hT.new (.cells 0 [.nsl])).get hT.nx = some (.cells 0 [.nsl]) := Hp.get_new_same
  repeat (first | (refine WPO_pl rfl ?_; simp) | (refine WPO_gpl rfl ?_; simp) | (refine WPO_gcall ?_; simp) | (refine WPO_nil ?_; simp))
  obtain ⟨zc1, zc2⟩ := hoz.cells
  refine WPO_op rfl ?_
  refine OB_store (b := hT.nx) (o := 0) (v := .agg [z]) (l' := [z]) rfl (by simp) (by have := hfT.nx; have := hfS.nx; have := hfR.nx; have := hfh2.nx; omega) rfl (by simp [zc2]) hg8a rfl ?_
  have hf8s : Fr hT ((hT.new (.cells 0 [.nsl])).set hT.nx (.cells 0 [z])) := ((Fr.refl hfT.wf).new _).set hfT.wf (Nat.le_refl _) hg8a _
  have hg8 : ((hT.new (.cells 0 [.nsl])).set hT.nx (.cells 0 [z])).get hT.nx = some (.cells 0 [z]) := Hp.get_set_same hg8a
  have hx8 := hf8s.nx
  generalize ((hT.new (.cells 0 [.nsl])).set hT.nx (.cells 0 [z])) = h8 at *
  simp
  repeat (first | (refine WPO_pl rfl ?_; simp) | (refine WPO_gpl rfl ?_; simp) | (refine WPO_gcall ?_; simp) | (refine WPO_nil ?_; simp))
  have hgx := hf8s.sub _ _ (hfT.sub _ _ hg4')
  have hgy := hf8s.sub _ _ (hfT.sub _ _ hg6)
  have hsz8 : SlG h8 z L1 := Sl.fr hf8s hsT
  have hsx8 : SlG h8 x L1 := Sl.fr hf8s (Sl.fr hfT hsx6)
  have hsy8 : SlG h8 y L2 := Sl.fr hf8s (Sl.fr hfT hsy6)
  have hlx : ([x] : List V).length = 1 := rfl
  have hly : ([y] : List V).length = 1 := rfl
  have hlz : ([z] : List V).length = 1 := rfl
  have hL1 : L1.length ≤ 1100 := by
    rcases hr1 with ⟨_, h1, _⟩ | ⟨_, h1, _⟩
    · rw [h1, hli]; omega
    · rw [h1]; simp
  have hE1 : ((e1 : Int) == 0) = decide ((i : Int) ≤ 1024) := by
    rcases hr1 with ⟨h1, _, rfl⟩ | ⟨h1, _, rfl⟩
    · rw [hli] at h1; simp; omega
    · rw [hli] at h1; simp; omega
  have hE2 : ((e2 : Int) == 0) = decide ((j : Int) ≤ 1024) := by
    rcases hr2 with ⟨h1, _, rfl⟩ | ⟨h1, _, rfl⟩
    · rw [hlj] at h1; simp; omega
    · rw [hlj] at h1; simp; omega
  refine WP_seq ?_
  refine WP_seq ?_
  refine WP_reg ?_
  refine WPO_call (g := 8) (a := []) (b := []) (args := []) rfl rfl ?_
  refine Ev_orc hf8 (r := .bool true) (h' := h8) rfl ?_
  simp
  simp only [OfR, hli, hlj] at hr1 hr2
  rcases hr1 with ⟨h1, rfl, rfl⟩ | ⟨h1, rfl, rfl⟩
  · have a1 : (i : Int) ≤ 1024 := by omega
    rcases hr2 with ⟨h2, rfl, rfl⟩ | ⟨h2, rfl, rfl⟩
    · have a2 : (j : Int) ≤ 1024 := by omega
      repeat (first | (refine WPO_pl rfl ?_; simp [a1, a2, loadV_ptr hg8, loadV_ptr hgx, loadN_all hlz, loadN_all hlx]) | (refine WPO_gpl rfl ?_; simp [a1, a2, loadV_ptr hg8, loadV_ptr hgx, loadN_all hlz, loadN_all hlx]) | (refine WPO_gcall ?_; simp [a1, a2, loadV_ptr hg8, loadV_ptr hgx, loadN_all hlz, loadN_all hlx]) | (refine WPO_nil ?_; simp [a1, a2, loadV_ptr hg8, loadV_ptr hgx, loadN_all hlz, loadN_all hlx]))
      refine WPO_call (g := 13) (a := []) (b := []) (args := [.agg [z], .agg [x]]) rfl rfl ?_
      simp
      refine ev22 hf13 hf30 hsz8 hsx8 zc1 xc1 (by omega) (by omega) hf8s.wf fun h9 => ?_
      simp
      repeat (first | (refine WPO_pl rfl ?_; simp) | (refine WPO_gpl rfl ?_; simp) | (refine WPO_gcall ?_; simp) | (refine WPO_nil ?_; simp))
      refine WP_cond rfl ⟨fun h0 => absurd h0 (by simp), fun _ => ?_⟩
      simp only [WP_skip, nrmOr_nrm]
      refine WP_seq ?_
      refine WP_seq ?_
      refine WP_reg ?_
      repeat (first | (refine WPO_pl rfl ?_; simp) | (refine WPO_gpl rfl ?_; simp) | (refine WPO_gcall ?_; simp) | (refine WPO_nil ?_; simp))
      refine WP_cond rfl ⟨fun h0 => absurd h0 (by simp), fun _ => ?_⟩
      simp only [WP_skip, nrmOr_nrm]
      repeat (first | refine WP_seq ?_ | refine WP_reg ?_ | (refine WPO_pl rfl ?_; simp [loadV_ptr hgx, loadV_ptr hgy, loadN_all hlx, loadN_all hly]) | (refine WPO_gpl rfl ?_; simp [loadV_ptr hgx, loadV_ptr hgy, loadN_all hlx, loadN_all hly]) | (refine WPO_gcall ?_; simp [loadV_ptr hgx, loadV_ptr hgy, loadN_all hlx, loadN_all hly]) | (refine WPO_nil ?_; simp [loadV_ptr hgx, loadV_ptr hgy, loadN_all hlx, loadN_all hly]))
      refine WPO_call (g := 16) (a := []) (b := []) (args := [.agg [x], .agg [y]]) rfl rfl ?_
      simp
      have hcl : (combL (fun x y => x || y) (sing 0 i) (sing 5000 j)).length = i + j := by rw [comb_two (by omega), List.length_append, hli, hlj]
      refine ev19 hf16 hf40 hf34 hf55 hf56 hf41 hf39 hsx8 hsy8 xc1 yc1 (sing_norm 0 i) (sing_norm 5000 j) (by omega) (by omega) hf8s.wf (Nat.le_refl _) (fun u h9 hle hsu hou hfu => ?_) (fun h9 hlt hfu => ?_)
      · rw [hcl] at hle
        obtain ⟨hsU, hfU⟩ := aftG (own_gr3 (k := .i64) (n := 0) hou) hf8s.wf hsu hfu
        generalize (if ground (V.tup [V.agg [u], V.int .i64 0]) = true then h8 else h9) = hU at *
        have hg9a : (hU.new (.cells 0 [.nsl])).get hU.nx = some (.cells 0 [.nsl]) := Hp.get_new_same
        repeat (first | (refine WPO_pl rfl ?_; simp) | (refine WPO_gpl rfl ?_; simp) | (refine WPO_gcall ?_; simp) | (refine WPO_nil ?_; simp))
        obtain ⟨uc1, uc2⟩ := hou.cells
        refine WPO_op rfl ?_
        refine OB_store (b := hU.nx) (o := 0) (v := .agg [u]) (l' := [u]) rfl (by simp) (by have := hfU.nx; have := hfT.nx; have := hfS.nx; have := hfR.nx; have := hfh2.nx; omega) rfl (by simp [uc2]) hg9a rfl ?_
        have hfas : Fr hU ((hU.new (.cells 0 [.nsl])).set hU.nx (.cells 0 [u])) := ((Fr.refl hfU.wf).new _).set hfU.wf (Nat.le_refl _) hg9a _
        have hga : ((hU.new (.cells 0 [.nsl])).set hU.nx (.cells 0 [u])).get hU.nx = some (.cells 0 [u]) := Hp.get_set_same hg9a
        generalize ((hU.new (.cells 0 [.nsl])).set hU.nx (.cells 0 [u])) = ha at *
        simp
        have hlu : ([u] : List V).length = 1 := rfl
        have w9 : IntKind.wrap .i64 ((i : Int) + (j : Int)) = (i : Int) + (j : Int) := wrap_i64 (by omega) (by omega)
        have a3 : ¬ (1024 : Int) < (i : Int) + (j : Int) := by omega
        have hsa : SlG ha u _ := Sl.fr hfas hsU
        repeat (first | refine WP_seq ?_ | refine WP_reg ?_ | (refine WPO_pl rfl ?_; simp [w9]) | (refine WPO_gpl rfl ?_; simp [w9]) | (refine WPO_gcall ?_; simp [w9]) | (refine WPO_nil ?_; simp [w9]))
        refine WP_cond rfl ⟨fun h0 => absurd h0 (by simp; omega), fun _ => ?_⟩
        simp only [WP_skip, nrmOr_nrm]
        repeat (first | refine WP_seq ?_ | refine WP_reg ?_ | (refine WPO_pl rfl ?_; simp [loadV_ptr hga, loadN_all hlu]) | (refine WPO_gpl rfl ?_; simp [loadV_ptr hga, loadN_all hlu]) | (refine WPO_gcall ?_; simp [loadV_ptr hga, loadN_all hlu]) | (refine WPO_nil ?_; simp [loadV_ptr hga, loadN_all hlu]))
        refine WPO_call (g := 18) (a := []) (b := []) (args := [.agg [u]]) rfl rfl ?_
        simp
        refine ev30 hf18 hsa uc1 hfas.wf (Nat.le_refl _) (by omega) (by rw [comb_two (by omega)]; exact fun p hp => (List.mem_append.1 hp).elim (hfi p) (hfj p)) fun hb => ?_
        have hsum : sumLen (combL (fun x y => x || y) (sing 0 i) (sing 5000 j)) = (i : Int) + (j : Int) := by rw [comb_two (by omega), sumLen_append, sing_sum, sing_sum]
        rw [hsum]
        simp
        repeat (first | (refine WPO_pl rfl ?_; simp [w9]) | (refine WPO_gpl rfl ?_; simp [w9]) | (refine WPO_gcall ?_; simp [w9]) | (refine WPO_nil ?_; simp [w9]))
        simp [WP_ret, F5]
        exact hq _
      · rw [hcl] at hlt
        have hfU : Fr h8 (if ground (V.tup [V.agg [V.nsl], V.int .i64 9]) = true then h8 else h9) := by
          split
          · exact Fr.refl hf8s.wf
          · exact hfu
        generalize (if ground (V.tup [V.agg [V.nsl], V.int .i64 9]) = true then h8 else h9) = hU at *
        have hg9a : (hU.new (.cells 0 [.nsl])).get hU.nx = some (.cells 0 [.nsl]) := Hp.get_new_same
        repeat (first | (refine WPO_pl rfl ?_; simp) | (refine WPO_gpl rfl ?_; simp) | (refine WPO_gcall ?_; simp) | (refine WPO_nil ?_; simp))
        refine WPO_op rfl ?_
        refine OB_store (b := hU.nx) (o := 0) (v := .agg [.nsl]) (l' := [.nsl]) rfl (by simp) (by have := hfU.nx; have := hfT.nx; have := hfS.nx; have := hfR.nx; have := hfh2.nx; omega) rfl (by simp [V.cells, V.one]) hg9a rfl ?_
        have hfas : Fr hU ((hU.new (.cells 0 [.nsl])).set hU.nx (.cells 0 [.nsl])) := ((Fr.refl hfU.wf).new _).set hfU.wf (Nat.le_refl _) hg9a _
        have hga : ((hU.new (.cells 0 [.nsl])).set hU.nx (.cells 0 [.nsl])).get hU.nx = some (.cells 0 [.nsl]) := Hp.get_set_same hg9a
        generalize ((hU.new (.cells 0 [.nsl])).set hU.nx (.cells 0 [.nsl])) = ha at *
        simp
        have hlu : ([.nsl] : List V).length = 1 := rfl
        have w9 : IntKind.wrap .i64 ((i : Int) + (j : Int)) = (i : Int) + (j : Int) := wrap_i64 (by omega) (by omega)
        repeat (first | refine WP_seq ?_ | refine WP_reg ?_ | (refine WPO_pl rfl ?_; simp [w9]) | (refine WPO_gpl rfl ?_; simp [w9]) | (refine WPO_gcall ?_; simp [w9]) | (refine WPO_nil ?_; simp [w9]))
        refine WP_cond rfl ⟨fun _ => ?_, fun h0 => absurd h0 (by simp; omega)⟩
        repeat (first | refine WP_seq ?_ | refine WP_reg ?_ | (refine WPO_pl rfl ?_; simp [loadV_ptr hga, loadN_all hlu]) | (refine WPO_gpl rfl ?_; simp [loadV_ptr hga, loadN_all hlu]) | (refine WPO_gcall ?_; simp [loadV_ptr hga, loadN_all hlu]) | (refine WPO_nil ?_; simp [loadV_ptr hga, loadN_all hlu]))
        refine WPO_call (g := 17) (a := []) (b := []) (args := [.agg [.nsl]]) rfl rfl ?_
        simp
        refine ev29 (v := .nsl) (l := []) hf17 ⟨rfl, rfl⟩ rfl fun hb => ?_
        simp
        repeat (first | (refine WPO_pl rfl ?_; simp) | (refine WPO_gpl rfl ?_; simp) | (refine WPO_gcall ?_; simp) | (refine WPO_nil ?_; simp))
        simp [WP_ret, F5]
        exact hq _
    · have a2 : ¬ (j : Int) ≤ 1024 := by omega
      repeat (first | (refine WPO_pl rfl ?_; simp [a1, a2, loadV_ptr hg8, loadV_ptr hgx, loadN_all hlz, loadN_all hlx]) | (refine WPO_gpl rfl ?_; simp [a1, a2, loadV_ptr hg8, loadV_ptr hgx, loadN_all hlz, loadN_all hlx]) | (refine WPO_gcall ?_; simp [a1, a2, loadV_ptr hg8, loadV_ptr hgx, loadN_all hlz, loadN_all hlx]) | (refine WPO_nil ?_; simp [a1, a2, loadV_ptr hg8, loadV_ptr hgx, loadN_all hlz, loadN_all hlx]))
      refine WPO_call (g := 13) (a := []) (b := []) (args := [.agg [z], .agg [x]]) rfl rfl ?_
      simp
      refine ev22 hf13 hf30 hsz8 hsx8 zc1 xc1 (by omega) (by omega) hf8s.wf fun h9 => ?_
      simp
      repeat (first | (refine WPO_pl rfl ?_; simp) | (refine WPO_gpl rfl ?_; simp) | (refine WPO_gcall ?_; simp) | (refine WPO_nil ?_; simp))
      refine WP_cond rfl ⟨fun h0 => absurd h0 (by simp), fun _ => ?_⟩
      simp only [WP_skip, nrmOr_nrm]
      refine WP_seq ?_
      refine WP_seq ?_
      refine WP_reg ?_
      repeat (first | (refine WPO_pl rfl ?_; simp) | (refine WPO_gpl rfl ?_; simp) | (refine WPO_gcall ?_; simp) | (refine WPO_nil ?_; simp))
      refine WP_cond rfl ⟨fun _ => ?_, fun h0 => absurd h0 (by simp)⟩
      repeat (first | refine WP_seq ?_ | refine WP_reg ?_ | (refine WPO_pl rfl ?_; simp) | (refine WPO_gpl rfl ?_; simp) | (refine WPO_gcall ?_; simp) | (refine WPO_nil ?_; simp))
      simp [WP_ret, F5]
      exact hq _
  · have a1 : ¬ (i : Int) ≤ 1024 := by omega
    rcases hr2 with ⟨h2, rfl, rfl⟩ | ⟨h2, rfl, rfl⟩
    · have a2 : (j : Int) ≤ 1024 := by omega
      repeat (first | (refine WPO_pl rfl ?_; simp [a1, a2, loadV_ptr hg8, loadV_ptr hgx, loadN_all hlz, loadN_all hlx]) | (refine WPO_gpl rfl ?_; simp [a1, a2, loadV_ptr hg8, loadV_ptr hgx, loadN_all hlz, loadN_all hlx]) | (refine WPO_gcall ?_; simp [a1, a2, loadV_ptr hg8, loadV_ptr hgx, loadN_all hlz, loadN_all hlx]) | (refine WPO_nil ?_; simp [a1, a2, loadV_ptr hg8, loadV_ptr hgx, loadN_all hlz, loadN_all hlx]))
      refine WPO_call (g := 13) (a := []) (b := []) (args := [.agg [z], .agg [x]]) rfl rfl ?_
      simp
      refine ev22 hf13 hf30 hsz8 hsx8 zc1 xc1 (by omega) (by omega) hf8s.wf fun h9 => ?_
      simp
      repeat (first | (refine WPO_pl rfl ?_; simp) | (refine WPO_gpl rfl ?_; simp) | (refine WPO_gcall ?_; simp) | (refine WPO_nil ?_; simp))
      refine WP_cond rfl ⟨fun h0 => absurd h0 (by simp), fun _ => ?_⟩
      simp only [WP_skip, nrmOr_nrm]
      refine WP_seq ?_
      refine WP_seq ?_
      refine WP_reg ?_
      repeat (first | (refine WPO_pl rfl ?_; simp) | (refine WPO_gpl rfl ?_; simp) | (refine WPO_gcall ?_; simp) | (refine WPO_nil ?_; simp))
      refine WP_cond rfl ⟨fun _ => ?_, fun h0 => absurd h0 (by simp)⟩
      repeat (first | refine WP_seq ?_ | refine WP_reg ?_ | (refine WPO_pl rfl ?_; simp) | (refine WPO_gpl rfl ?_; simp) | (refine WPO_gcall ?_; simp) | (refine WPO_nil ?_; simp))
      simp [WP_ret, F5]
      exact hq _
    · have a2 : ¬ (j : Int) ≤ 1024 := by omega
      repeat (first | (refine WPO_pl rfl ?_; simp [a1, a2, loadV_ptr hg8, loadV_ptr hgx, loadN_all hlz, loadN_all hlx]) | (refine WPO_gpl rfl ?_; simp [a1, a2, loadV_ptr hg8, loadV_ptr hgx, loadN_all hlz, loadN_all hlx]) | (refine WPO_gcall ?_; simp [a1, a2, loadV_ptr hg8, loadV_ptr hgx, loadN_all hlz, loadN_all hlx]) | (refine WPO_nil ?_; simp [a1, a2, loadV_ptr hg8, loadV_ptr hgx, loadN_all hlz, loadN_all hlx]))
      refine WPO_call (g := 13) (a := []) (b := []) (args := [.agg [z], .agg [x]]) rfl rfl ?_
      simp
      refine ev22 hf13 hf30 hsz8 hsx8 zc1 xc1 (by omega) (by omega) hf8s.wf fun h9 => ?_
      simp
      repeat (first | (refine WPO_pl rfl ?_; simp) | (refine WPO_gpl rfl ?_; simp) | (refine WPO_gcall ?_; simp) | (refine WPO_nil ?_; simp))
      refine WP_cond rfl ⟨fun h0 => absurd h0 (by simp), fun _ => ?_⟩
      simp only [WP_skip, nrmOr_nrm]
      refine WP_seq ?_
      refine WP_seq ?_
      refine WP_reg ?_
      repeat (first | (refine WPO_pl rfl ?_; simp) | (refine WPO_gpl rfl ?_; simp) | (refine WPO_gcall ?_; simp) | (refine WPO_nil ?_; simp))
      refine WP_cond rfl ⟨fun _ => ?_, fun h0 => absurd h0 (by simp)⟩
      repeat (first | refine WP_seq ?_ | refine WP_reg ?_ | (refine WPO_pl rfl ?_; simp) | (refine WPO_gpl rfl ?_; simp) | (refine WPO_gcall ?_; simp) | (refine WPO_nil ?_; simp))
      simp [WP_ret, F5]
      exact hq _
end Go.Am.SZ
