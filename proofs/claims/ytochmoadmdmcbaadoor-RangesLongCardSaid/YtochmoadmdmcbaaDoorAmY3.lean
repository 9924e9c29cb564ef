/- The seat's functions, stepped through in the plain machine. -/
import Derived.Test.YtochmoadmdmcbaaDoorAmX11
namespace Go.Am.S7
open Go
set_option maxRecDepth 100000
variable {fs : Nat → Option D} {ro : Nat} {h : Hp}

theorem chL_fine (la lb : List Int) : (chL la lb).length ≤ 1000000 ∧ Fine (chL la lb) := by
  unfold chL
  split
  · exact ⟨by simp, fun p hp => by cases hp⟩
  · split
    · exact ⟨by simp, fun p hp => by cases hp⟩
    · have := mrgs_len la lb (max la.length lb.length)
      exact ⟨by omega, fine_chs _ _ _ (by omega)⟩

theorem zeros_ints : ∀ n : Nat, zeros [V.int .u8 0] n = intsV .u8 (List.replicate n 0)
  | 0 => rfl
  | n + 1 => by rw [zeros, zeros_ints n]; rfl

theorem slI_of {b n c : Nat} {l : List Int} (hg : h.get b = some (.cells 1 (intsV .u8 l))) (hl : l.length = n) : SlI h (.sl b 0 n c) l := by
  subst hl
  refine ⟨rfl, ?_⟩
  rw [shown_mk hg (by simp [intsV])]
  rw [List.drop_zero, List.take_of_length_le (by simp [intsV])]

set_option maxHeartbeats 1000000 in
theorem ev3 {x y : Int} (hf3 : fs 3 = some (.code F3)) (hf9 : fs 9 = some (.code F9)) (hf25 : fs 25 = some (.code F25)) (hf10 : fs 10 = some (.code F10)) (hf11 : fs 11 = some (.orc orcKnown)) (hf12 : fs 12 = some (.code F12)) (hf28 : fs 28 = some (.code F28)) (hf45 : fs 45 = some (.code F45)) (hf29 : fs 29 = some (.code F29)) (hf30 : fs 30 = some (.code F30)) (hf31 : fs 31 = some (.code F31))
    (hw : ∀ b x, h.get b = some x → b < h.nx) (hro : ro ≤ h.nx) {Q : V → Hp → Prop} (hq : ∀ h', Q (.bool true) h') : Ev fs ro 3 [.int .i64 x, .int .i64 y] h Q := by
  refine Ev_fn hf3 rfl rfl rfl rfl ?_
  refine WP_seq ?_
  refine WP_reg ?_
  repeat (first | (refine WPO_op rfl ?_; simp) | (refine WPO_nil ?_; simp))
  refine WP_mid (fun e' h' => h = h' ∧ ∃ n m : Nat, n ≤ 70000 ∧ m ≤ 5000 ∧ e' = [(0, V.int .i64 n), (1, V.int .i64 m)]) ?_ ?_
  · refine WP_reg ?_
    repeat (first | (refine WPO_op rfl ?_; simp [maxs, mins, fold2, min2, max2]; done) | (refine WPO_op rfl ?_; simp [maxs, mins, fold2, min2, max2]))
    refine WPO_nil ?_
    simp
    refine ⟨((if 70000 < if x < 0 then 0 else x then 70000 else if x < 0 then 0 else x)).toNat, ?_, ((if 5000 < if y < 0 then 0 else y then 5000 else if y < 0 then 0 else y)).toNat, ?_, ?_, ?_⟩ <;> (repeat' split) <;> omega
  rintro e' h' ⟨rfl, n, m, hn, hm, rfl⟩
  have hbig : (70000 : Int) ≤ roomMax := by simp [roomMax]
  have hc : (0 : Int) ≤ n ∧ (n : Int) ≤ n ∧ (n : Int) * ((1 : Nat) : Int) ≤ (roomMax : Int) ∧ (n : Int) ≤ (roomMax : Int) := by omega
  refine WP_mid (fun e' h' => ∃ k, k = n ∧ Fr h h' ∧ h'.get h.nx = some (.cells 1 (intsV .u8 (List.replicate n 0))) ∧ h'.get (h.nx + 1) = some (.cells 1 (intsV .u8 (List.replicate n 0))) ∧ e' = [(0, V.int .i64 n), (1, V.int .i64 m), (5, .sl h.nx 0 n (n+1)), (6, .sl (h.nx+1) 0 n (n+1))]) ?_ ?_
  · refine WP_reg ?_
    refine WPO_op rfl ?_
    simp
    refine WPO_op rfl ?_
    simp
    refine WPO_op rfl ?_
    simp [op1]
    refine ⟨by omega, ?_⟩
    refine WPO_op rfl ?_
    simp [op1]
    refine ⟨by omega, ?_⟩
    repeat (first | (refine WPO_op rfl ?_; simp) | (refine WPO_nil ?_; simp))
    rw [zeros_ints]
    refine ⟨((Fr.refl hw).new _).new _, ?_, ?_⟩
    · rw [Hp.get_new_ne (by simp)]
      exact Hp.get_new_same
    · exact Hp.get_new_same (h := h.new _)
  rintro e' h' ⟨k, rfl, hfr, hga, hgb, rfl⟩
  have hnx : h.nx + 2 ≤ h'.nx := by
    have := hfr.wf _ _ hgb
    omega
  refine WP_mid (fun e' h2 => ∃ bs : List Int, bs.length = k ∧ Fr h h2 ∧ h2.get h.nx = some (.cells 1 (intsV .u8 (List.replicate k 0))) ∧ h2.get (h.nx + 1) = some (.cells 1 (intsV .u8 bs)) ∧ e'.get 5 = some (.sl h.nx 0 k (k+1)) ∧ e'.get 6 = some (.sl (h.nx+1) 0 k (k+1))) ?_ ?_
  · repeat (first | refine WP_seq ?_ | refine WP_reg ?_ | (refine WPO_op rfl ?_; simp) | (refine WPO_nil ?_; simp))
    refine WP_block ?_
    refine WP_loop (fun s e h1 => ∃ (i : Nat) (bs : List Int), s = m + 1 - i ∧ bs.length = k ∧ Fr h h1 ∧ h1.get h.nx = some (.cells 1 (intsV .u8 (List.replicate k 0))) ∧ h1.get (h.nx + 1) = some (.cells 1 (intsV .u8 bs)) ∧ i ≤ m + 1 ∧ e = [(0, V.int .i64 k), (1, V.int .i64 m), (5, .sl h.nx 0 k (k+1)), (6, .sl (h.nx+1) 0 k (k+1)), (7, .int .i64 i)]) (m + 1) ⟨0, _, by simp, by simp, hfr, hga, hgb, by omega, rfl⟩ ?_
    rintro s e h1 ⟨i, bs, rfl, hbs, hf1, hg1, hg2, hi, rfl⟩
    refine WP_seq ?_
    refine WP_mid (fun e2 h2 => h1 = h2 ∧ e2 = [(0, V.int .i64 k), (1, V.int .i64 m), (5, .sl h.nx 0 k (k+1)), (6, .sl (h.nx+1) 0 k (k+1)), (7, .int .i64 i), (29, .bool (decide (i < m ∧ i < k)))]) ?_ ?_
    · refine WP_reg ?_
      by_cases c1 : i < m <;> by_cases c2 : i < k <;> repeat (first | (refine WPO_op rfl ?_; simp [c1, c2]; done) | (refine WPO_op rfl ?_; simp [c1, c2]) | (refine WPO_gop rfl ?_; simp [c2]) | (refine WPO_nil ?_; simp))
    rintro e2 h2 ⟨rfl, rfl⟩
    refine WP_cond rfl ⟨fun ht => ?_, fun ht => ?_⟩
    · have hik : i < m ∧ i < k := by simpa using ht
      have hwr : IntKind.wrap .i64 ((i : Int) + 2) = (i : Int) + 2 := wrap_i64 (by omega) (by omega)
      simp only [WP_skip, nrmOr_nrm]
      refine WP_mid (fun e2 h2 => ∃ bs : List Int, bs.length = k ∧ Fr h h2 ∧ h2.get h.nx = some (.cells 1 (intsV .u8 (List.replicate k 0))) ∧ h2.get (h.nx + 1) = some (.cells 1 (intsV .u8 bs)) ∧ e2 = [(0, V.int .i64 k), (1, V.int .i64 m), (5, .sl h.nx 0 k (k+1)), (6, .sl (h.nx+1) 0 k (k+1)), (7, .int .i64 i)]) ?_ ?_
      · refine WP_block ?_
        refine WP_reg ?_
        refine WPO_op rfl ?_
        simp
        refine WPO_op rfl ?_
        simp
        refine WPO_op rfl ?_
        simp [hik.2]
        refine WPO_op rfl ?_
        refine OB_store (b := h.nx + 1) (o := i) (v := V.int .u8 1) (l' := intsV .u8 (bs.set i 1)) rfl rfl (by omega) rfl rfl hg2 ?_ ?_
        · have : i < (intsV .u8 bs).length := by simp [intsV]; omega
          simp [V.cells, setN, intsV, List.map_set]
          refine ⟨by omega, ?_⟩
          rw [List.set_eq_take_append_cons_drop, if_pos (by simpa [intsV] using this)]
        · refine WPO_nil ?_
          simp
          refine ⟨bs.set i 1, by simpa using hbs, hf1.set hw (by omega) hg2 _, ?_, ?_⟩
          · rw [Hp.get_set_ne (by omega)]
            exact hg1
          · exact Hp.get_set_same hg2
      rintro e2 h2 ⟨bs2, hb2, hf2, hg3, hg4, rfl⟩
      repeat (first | refine WP_reg ?_ | (refine WPO_op rfl ?_; simp) | (refine WPO_nil ?_; simp))
      refine ⟨m + 1 - (i + 2), by omega, i + 2, rfl, bs2, hb2, hf2, hg3, hg4, by omega, ?_⟩
      rw [hwr]
      rfl
    · simp only [WP_exit, nrmOr_exit, blkQ_exit, if_pos, nrmOr_nrm]
      exact ⟨bs, hbs, hf1, hg1, hg2, rfl, rfl⟩
  clear hfr hga hgb hnx
  rintro e2 h2 ⟨bs, hbs, hfr, hga, hgb, e5, e6⟩
  have hsa : SlI h2 (.sl h.nx 0 k (k+1)) (List.replicate k 0) := slI_of hga (by simp)
  have hsb : SlI h2 (.sl (h.nx+1) 0 k (k+1)) bs := slI_of hgb hbs
  have hnx : h.nx + 2 ≤ h2.nx := by
    have := hfr.wf _ _ hgb
    omega
  generalize (V.sl h.nx 0 k (k+1)) = a at *
  generalize (V.sl (h.nx+1) 0 k (k+1)) = b at *
  generalize (List.replicate k (0 : Int)) = ca at *
  have hw2 := hfr.wf
  obtain ⟨hlf, hfine⟩ := chL_fine ca bs
  refine WP_seq ?_
  refine WP_reg ?_
  repeat (first | (refine WPO_op rfl ?_; simp [e5, e6]; done) | (refine WPO_op rfl ?_; simp [e5, e6]))
  refine WPO_call (g := 9) (a := []) (b := []) (args := [a, b]) rfl (by simp) ?_
  simp
  refine ev9 hf9 hf25 hsa hsb hw2 (Nat.le_refl _) fun x h3 hsx hox hfx => ?_
  obtain ⟨hsR, hfR⟩ := aft (k := .i64) (n := chE ca bs) hw2 hsx hox hfx (.inl rfl)
  generalize (if ground (V.tup [V.agg [x], V.int .i64 (chE ca bs)]) = true then h2 else h3) = hR at *
  clear hfx hsx
  obtain ⟨hxc1, hxc2⟩ := hox.cells
  have hg5 : (hR.new (.cells 0 [.nsl])).get hR.nx = some (.cells 0 [.nsl]) := Hp.get_new_same
  have hfn : Fr hR ((hR.new (.cells 0 [.nsl])).set hR.nx (.cells 0 [x])) := ((Fr.refl hfR.wf).new _).set hfR.wf (Nat.le_refl _) hg5 _
  have hg6 : ((hR.new (.cells 0 [.nsl])).set hR.nx (.cells 0 [x])).get hR.nx = some (.cells 0 [x]) := Hp.get_set_same hg5
  refine WPO_op rfl ?_
  simp
  refine WPO_op rfl ?_
  simp [op1]
  refine WPO_op rfl ?_
  simp [op1]
  refine WPO_op rfl ?_
  simp
  refine WPO_op rfl ?_
  refine OB_store (b := hR.nx) (o := 0) (v := V.agg [x]) (l' := [x]) (by simp) (by simp) (by have := hfR.nx; omega) rfl (by simp [V.cells, hxc2]) hg5 rfl ?_
  generalize ((hR.new (.cells 0 [.nsl])).set hR.nx (.cells 0 [x])) = hS at *
  have hfS := hfR.trans hfn
  have hsS : SlG hS x (chL ca bs) := Sl.fr hfn hsR
  have hsa2 : SlI hS a ca := Sl.fr hfS hsa
  have hsb2 : SlI hS b bs := Sl.fr hfS hsb
  simp
  repeat (first | (refine WPO_op rfl ?_; simp) | (refine WPO_nil ?_; simp [e5, e6]))
  refine WP_seq ?_
  refine WP_reg ?_
  repeat (first | (refine WPO_op rfl ?_; simp; done) | (refine WPO_op rfl ?_; simp))
  refine WPO_call (g := 10) (a := []) (b := []) (args := [a, b]) rfl rfl ?_
  simp
  refine ev10 hf10 hsa2 hsb2 hfS.wf (Nat.le_refl _) fun y h3 hsy hoy hfy => ?_
  obtain ⟨hsT, hfT⟩ := aft (k := .i64) (n := chE ca bs) hfS.wf hsy hoy hfy (.inr rfl)
  generalize (if ground (V.tup [y, V.int .i64 (chE ca bs)]) = true then hS else h3) = hT at *
  have hg7 := hfT.sub _ _ hg6
  have hfU := hfS.trans hfT
  have hsx3 : SlG hT x (chL ca bs) := Sl.fr hfT hsS
  refine WPO_op rfl ?_
  simp
  refine WPO_op rfl ?_
  simp [op1]
  refine WPO_op rfl ?_
  simp [op1]
  repeat (first | (refine WPO_op rfl ?_; simp) | (refine WPO_nil ?_; simp))
  refine WP_seq ?_
  refine WP_reg ?_
  refine WPO_call (g := 11) (a := []) (b := []) (args := []) rfl rfl ?_
  refine Ev_orc hf11 (r := .bool true) (h' := hT) rfl ?_
  simp
  repeat (first | (refine WPO_op rfl ?_; simp) | (refine WPO_gop rfl ?_; simp [loadV_ptr hg7, loadN]))
  refine WPO_gcall ?_
  simp
  refine WPO_call (g := 12) (a := []) (b := []) (args := [.agg [x], y]) rfl rfl ?_
  simp
  refine ev12 hf12 hf28 hf45 hf29 hf30 hf31 hsx3 hxc1 hsT hfU.wf hlf hfine fun h4 => ?_
  simp
  repeat (first | (refine WPO_op rfl ?_; simp) | (refine WPO_gop rfl ?_; simp) | (refine WPO_nil ?_; simp))
  simp only [WP_ret, fin_ret]
  simp [F3]
  exact hq _
end Go.Am.S7
