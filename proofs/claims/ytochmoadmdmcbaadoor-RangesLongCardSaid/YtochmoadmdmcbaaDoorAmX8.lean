/- The seat's functions, stepped through in the plain machine. -/
import Derived.Test.YtochmoadmdmcbaaDoorAmX7
namespace Go.Am.S7
open Go
set_option maxRecDepth 100000
variable {fs : Nat → Option D} {ro : Nat} {h : Hp}

set_option maxHeartbeats 400000 in
theorem ev12 {v w : V} {l : List (Int × Int)} (hf12 : fs 12 = some (.code F12)) (hf28 : fs 28 = some (.code F28)) (hf45 : fs 45 = some (.code F45)) (hf29 : fs 29 = some (.code F29)) (hf30 : fs 30 = some (.code F30)) (hf31 : fs 31 = some (.code F31))
    (hv : SlG h v l) (hv1 : v.cells = [v]) (hsw : SlG h w l) (hw : ∀ b x, h.get b = some x → b < h.nx) (hn : l.length ≤ 1000000) (hl : Fine l) {Q : V → Hp → Prop} (hq : ∀ h', Q (.bool true) h') : Ev fs ro 12 [.agg [v], w] h Q := by
  have hlw := hsw.lenV
  refine Ev_fn hf12 rfl rfl rfl rfl ?_
  have hf1 : Fr h (h.new (.cells 0 [v])) := (Fr.refl hw).new _
  have hg1 : (h.new (.cells 0 [v])).get h.nx = some (.cells 0 [v]) := Hp.get_new_same
  refine WP_seq ?_
  refine WP_reg ?_
  refine WPO_op rfl ?_
  simp [V.cells]
  refine WPO_op rfl ?_
  simp
  refine WPO_nil ?_
  simp
  refine WP_seq ?_
  refine WP_reg ?_
  refine WPO_op rfl ?_
  simp [loadV_ptr hg1, loadN]
  refine WPO_call (g := 28) (a := []) (b := []) (args := [.agg [v]]) rfl rfl ?_
  simp
  refine ev28 hf28 hf45 (Sl.fr hf1 hv) hv1 hf1.wf hn fun x h' hs hg hfr => ?_
  have hsR : SlG (if ground x = true then h.new (.cells 0 [v]) else h') x l := by
    rcases hg with ⟨rfl, rfl⟩ | hg
    · exact ⟨rfl, rfl⟩
    · rw [if_neg (by simp [hg])]; exact hs
  have hfR : Fr (h.new (.cells 0 [v])) (if ground x = true then h.new (.cells 0 [v]) else h') := by
    split
    · exact Fr.refl hf1.wf
    · exact hfr
  have hgR := hfR.sub _ _ hg1
  have hfrR := hf1.trans hfR
  generalize (if ground x = true then h.new (.cells 0 [v]) else h') = hR at *
  have hlx := hsR.lenV
  have hsvR : SlG hR v l := Sl.fr hfrR hv
  have hswR : SlG hR w l := Sl.fr hfrR hsw
  repeat (first | (refine WPO_op rfl ?_; simp) | (refine WPO_nil ?_; simp))
  refine WP_seq ?_
  refine WP_seq ?_
  refine WP_reg ?_
  repeat (first | (refine WPO_op rfl ?_; simp [hlx, hlw]) | (refine WPO_gop rfl ?_; simp [loadV_ptr hgR, loadN]))
  refine WPO_gcall ?_
  simp
  refine WPO_call (g := 29) (a := []) (b := []) (args := [.agg [v]]) rfl rfl ?_
  simp
  refine ev29 hf29 hsvR hv1 fun h2 => ?_
  simp
  repeat (first | (refine WPO_op rfl ?_; simp; done) | (refine WPO_op rfl ?_; simp) | (refine WPO_gop rfl ?_; simp [hlw, loadV_ptr hgR, loadN]))
  refine WPO_gcall ?_
  simp
  refine WPO_call (g := 30) (a := []) (b := []) (args := [.agg [v]]) rfl rfl ?_
  simp
  refine ev30 hf30 hsvR hv1 hfrR.wf (Nat.le_refl _) hn hl fun h3 => ?_
  simp
  refine WPO_gop rfl ?_
  simp
  refine WPO_gcall ?_
  simp
  refine WPO_call (g := 31) (a := []) (b := []) (args := [w]) rfl rfl ?_
  simp
  refine ev31 hf31 hswR hn hl fun h4 => ?_
  simp
  repeat (first | (refine WPO_op rfl ?_; simp) | (refine WPO_gop rfl ?_; simp) | (refine WPO_nil ?_; simp))
  refine WP_cond rfl ⟨fun hd => (by cases hd), fun hd => ?_⟩
  simp only [WP_skip, nrmOr_nrm]
  repeat (first | refine WP_seq ?_ | refine WP_reg ?_ | (refine WPO_op rfl ?_; simp; done) | (refine WPO_op rfl ?_; simp) | (refine WPO_nil ?_; simp))
  refine WP_block ?_
  refine WP_loop (fun m e h1 => ∃ i, m = l.length - i ∧ i ≤ l.length ∧ hR = h1 ∧ e = [(1, w), (5, x), (6, .int .i64 i)]) l.length ⟨0, by simp, by omega, rfl, by simp⟩ ?_
  rintro m e h1 ⟨i, rfl, hi, rfl, rfl⟩
  refine WP_seq ?_
  refine WP_seq ?_
  refine WP_reg ?_
  repeat (first | (refine WPO_op rfl ?_; simp [hlx]) | (refine WPO_nil ?_; simp))
  refine WP_cond rfl ⟨fun ht => ?_, fun ht => ?_⟩
  · have hi' : i < l.length := by simpa using ht
    obtain ⟨b, o, c, L, rfl, hgb, q1, q2⟩ := SlG.at hsR (List.getElem?_eq_getElem hi')
    obtain ⟨b', o', c', L', rfl, hgb', q1', q2'⟩ := SlG.at hswR (List.getElem?_eq_getElem hi')
    simp only [WP_skip, nrmOr_nrm]
    refine WP_seq ?_
    refine WP_block ?_
    refine WP_seq ?_
    refine WP_reg ?_
    repeat (first | (refine WPO_op rfl ?_; simp [hi', loadV_ptr hgb, loadV_ptr hgb', q1, q1']) | (refine WPO_gop rfl ?_; simp [hi', loadV_ptr hgb, loadV_ptr hgb', q2, q2']) | (refine WPO_nil ?_; simp))
    refine WP_cond rfl ⟨fun hd => (by cases hd), fun hd => ?_⟩
    simp only [WP_skip, blkQ_nrm, nrmOr_nrm]
    refine WP_reg ?_
    repeat (first | (refine WPO_op rfl ?_; simp) | (refine WPO_nil ?_; simp))
    refine ⟨l.length - (i + 1), by omega, i + 1, rfl, by omega, ?_⟩
    rw [wrap_i64 (by omega) (by omega)]
    omega
  · have hi' : i = l.length := by
      have : ¬ (i < l.length) := by simpa using ht
      omega
    subst hi'
    simp only [WP_exit, nrmOr_exit, blkQ_exit, if_pos, nrmOr_nrm]
    repeat (first | refine WP_seq ?_ | refine WP_reg ?_ | (refine WPO_op rfl ?_; simp) | (refine WPO_nil ?_; simp))
    simp [WP_ret, F12]
    exact hq hR
end Go.Am.S7
