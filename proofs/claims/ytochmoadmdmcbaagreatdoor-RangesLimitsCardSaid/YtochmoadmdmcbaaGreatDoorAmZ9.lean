/- Equal, stepped through at the great seat. -/
import Derived.Test.YtochmoadmdmcbaaGreatDoorAmZ3
namespace Go.Am.SZ
open Go Go.RowKit
set_option maxRecDepth 100000
set_option linter.unusedSimpArgs false
set_option linter.unusedVariables false
variable {fs : Nat → Option D} {ro : Nat} {h : Hp} {e : Env}

theorem eqv_pair {p q : Rg} : eqv (.agg [.i, .i]) (.agg [.int .i64 p.1, .int .i64 p.2]) (.agg [.int .i64 q.1, .int .i64 q.2]) = some (decide (p = q)) := by
  obtain ⟨a, b⟩ := p
  obtain ⟨c, d⟩ := q
  by_cases h1 : a = c <;> by_cases h2 : b = d <;> simp [eqv, eqAll, eqK, h1, h2]

theorem ev42 {v w : V} {a b : List Rg} (hf : fs 30 = some (.code F30)) (hv : SlG h v a) (hw' : SlG h w b) (hna : a.length ≤ 100000) (hnb : b.length ≤ 100000) {Q : V → Hp → Prop} (hq : ∀ h', Q (.bool (decide (a = b))) h') : Ev fs ro 30 [v, w] h Q := by
  have hlv := hv.lenV
  have hlw := hw'.lenV
  refine Ev_fn hf rfl rfl rfl rfl ?_
  refine WP_seq ?_
  refine WP_reg ?_
  repeat (first | (refine WPO_op rfl ?_; simp) | (refine WPO_nil ?_; simp))
  refine WP_seq ?_
  refine WP_seq ?_
  refine WP_reg ?_
  repeat (first | (refine WPO_op rfl ?_; simp [hlv, hlw]; done) | (refine WPO_op rfl ?_; simp [hlv, hlw]) | (refine WPO_nil ?_; simp))
  refine WP_cond rfl ⟨fun hd => ?_, fun hd => ?_⟩
  · have hne : a.length ≠ b.length := by
      intro hx
      simp [hx] at hd
    have hab : a ≠ b := fun hx => hne (by rw [hx])
    repeat (first | refine WP_seq ?_ | refine WP_reg ?_ | (refine WPO_op rfl ?_; simp) | (refine WPO_nil ?_; simp))
    simp [WP_ret, F30]
    have := hq h
    simpa [hab] using this
  have hln : a.length = b.length := by
    have : (a.length : Int) = b.length := by simpa using hd
    omega
  simp only [WP_skip, nrmOr_nrm]
  refine WP_seq ?_
  refine WP_seq ?_
  refine WP_reg ?_
  repeat (first | (refine WPO_op rfl ?_; simp [hlv]; done) | (refine WPO_op rfl ?_; simp [hlv]) | (refine WPO_nil ?_; simp))
  refine WP_block ?_
  refine WP_loop (fun m e h1 => ∃ i, m = a.length - i ∧ i ≤ a.length ∧ a.take i = b.take i ∧ h = h1 ∧ e = [(0, v), (1, w), (12, .int .i64 (a.length : Nat)), (13, .int .i64 (i : Nat))]) a.length ⟨0, by omega, by omega, by simp, rfl, by simp⟩ ?_
  rintro m e h1 ⟨i, rfl, hi, htk, rfl, rfl⟩
  refine WP_seq ?_
  refine WP_reg ?_
  repeat (first | (refine WPO_op rfl ?_; simp; done) | (refine WPO_op rfl ?_; simp) | (refine WPO_nil ?_; simp))
  refine WP_seq ?_
  refine WP_cond rfl ⟨fun ht => ?_, fun ht => ?_⟩
  · have hi' : i < a.length := by simpa using ht
    have hib : i < b.length := by omega
    obtain ⟨b1, o1, c1, L1, rfl, hg1, q1, q2⟩ := SlG.at hv (List.getElem?_eq_getElem hi')
    obtain ⟨b2, o2, c2, L2, rfl, hg2, r1, r2⟩ := SlG.at hw' (List.getElem?_eq_getElem hib)
    have hwr : IntKind.wrap .i64 ((i : Int) + 1) = ((i + 1 : Nat) : Int) := by rw [wrap_i64 (by omega) (by omega)]; omega
    simp only [WP_skip, nrmOr_nrm]
    refine WP_mid (fun e' h' => h = h' ∧ a[i] = b[i] ∧ e'.get 0 = some (.sl b1 o1 a.length c1) ∧ e'.get 1 = some (.sl b2 o2 b.length c2) ∧ e'.get 12 = some (.int .i64 (a.length : Nat)) ∧ e'.get 13 = some (.int .i64 (i : Nat))) ?_ ?_
    · refine WP_block ?_
      refine WP_seq ?_
      refine WP_reg ?_
      repeat (first | (refine WPO_op rfl ?_; simp; done) | (refine WPO_op rfl ?_; simp) | (refine WPO_nil ?_; simp))
      refine WP_seq ?_
      refine WP_reg ?_
      repeat (first | (refine WPO_op rfl ?_; simp [hi', hib, loadV_ptr hg1, loadV_ptr hg2, loadN_two q1 q2, loadN_two r1 r2, eqv_pair]; done) | (refine WPO_op rfl ?_; simp [hi', hib, loadV_ptr hg1, loadV_ptr hg2, loadN_two q1 q2, loadN_two r1 r2, eqv_pair]) | (refine WPO_nil ?_; simp))
      refine WP_cond rfl ⟨fun hd => ?_, fun hd => ?_⟩
      · have hne : a[i] ≠ b[i] := by simpa using hd
        have hab : a ≠ b := fun hx => hne (by subst hx; rfl)
        repeat (first | refine WP_seq ?_ | refine WP_reg ?_ | (refine WPO_op rfl ?_; simp) | (refine WPO_nil ?_; simp))
        simp [WP_ret, F30]
        have := hq h
        simpa [hab] using this
      · have he : a[i] = b[i] := by simpa using hd
        simp only [WP_skip, blkQ_nrm, nrmOr_nrm]
        exact ⟨trivial, he, rfl, rfl, rfl, rfl⟩
    rintro e' h' ⟨rfl, he, e0, e1, e12, e13⟩
    repeat (first | refine WP_reg ?_ | (refine WPO_op rfl ?_; simp [e13]) | (refine WPO_nil ?_; simp [e0, e1, e12, e13]))
    refine ⟨a.length - (i + 1), by omega, i + 1, rfl, by omega, ?_, ?_⟩
    · rw [List.take_succ_eq_append_getElem hi', List.take_succ_eq_append_getElem hib, htk, he]
    · rw [hwr]
  · have hi' : i = a.length := by
      have : ¬ (i < a.length) := by simpa using ht
      omega
    subst hi'
    have hab : a = b := by
      rw [List.take_length, hln, List.take_length] at htk
      exact htk
    simp only [WP_exit, nrmOr_exit, blkQ_exit, if_pos, nrmOr_nrm, blkQ_nrm]
    repeat (first | refine WP_seq ?_ | refine WP_reg ?_ | (refine WPO_op rfl ?_; simp) | (refine WPO_nil ?_; simp))
    simp [WP_ret, F30]
    have := hq h
    simpa [hab] using this

theorem ev22 {v w : V} {a b : List Rg} (hf : fs 13 = some (.code F13)) (hf42 : fs 30 = some (.code F30)) (hv : SlG h v a) (hw' : SlG h w b) (hv1 : v.cells = [v]) (hw1 : w.cells = [w]) (hna : a.length ≤ 100000) (hnb : b.length ≤ 100000) (hw : ∀ b x, h.get b = some x → b < h.nx) {Q : V → Hp → Prop} (hq : ∀ h', Q (.bool (decide (a = b))) h') : Ev fs ro 13 [.agg [v], .agg [w]] h Q := by
  refine Ev_fn hf rfl rfl rfl rfl ?_
  refine WP_seq ?_
  refine WP_reg ?_
  refine WPO_op rfl ?_
  simp [V.cells]
  refine WPO_op rfl ?_
  simp [V.cells]
  refine WPO_op rfl ?_
  simp
  refine WPO_nil ?_
  simp
  have hf2 : Fr h ((h.new (.cells 0 [v])).new (.cells 0 [w])) := ((Fr.refl hw).new _).new _
  have hg3 : ((h.new (.cells 0 [v])).new (.cells 0 [w])).get h.nx = some (.cells 0 [v]) := by rw [Hp.get_new_ne (by simp)]; exact Hp.get_new_same
  have hg4 : ((h.new (.cells 0 [v])).new (.cells 0 [w])).get (h.nx + 1) = some (.cells 0 [w]) := Hp.get_new_same (h := h.new (.cells 0 [v]))
  generalize ((h.new (.cells 0 [v])).new (.cells 0 [w])) = h2 at *
  refine WP_seq ?_
  refine WP_reg ?_
  repeat (first | (refine WPO_op rfl ?_; simp [loadV_ptr hg3, loadV_ptr hg4]; done) | (refine WPO_op rfl ?_; simp [loadV_ptr hg3, loadV_ptr hg4]))
  refine WPO_call (g := 30) (a := []) (b := []) (args := [v, w]) rfl rfl ?_
  simp
  refine ev42 hf42 (Sl.fr hf2 hv) (Sl.fr hf2 hw') hna hnb fun h3 => ?_
  simp
  repeat (first | (refine WPO_op rfl ?_; simp) | (refine WPO_nil ?_; simp))
  simp [WP_ret, F13]
  have hqq := hq h2
  by_cases hab : a = b <;> simpa [hab] using hqq
end Go.Am.SZ
