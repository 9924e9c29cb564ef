/- The program's functions, stepped through in the plain machine. -/
import Derived.Test.YtochmoadmdmcbaaDoorAmX4
namespace Go.Am.S7
open Go
set_option maxRecDepth 100000
variable {fs : Nat → Option D} {ro : Nat} {h : Hp}

@[simp] theorem ground_bool {b : Bool} : ground (.bool b) = true := rfl
@[simp] theorem ground_int {k : IntKind} {n : Int} : ground (.int k n) = true := rfl

def hasP (at' : Int) (p : Int × Int) : Bool := decide (p.1 ≤ at') && decide (at' < p.2)

theorem ev35 {p : Int × Int} {r : Nat} {at' : Int} (hf : fs 35 = some (.code F35)) (hg : h.get r = some (.cells 0 [.int .i64 at'])) (hw : ∀ b x, h.get b = some x → b < h.nx) {Q : V → Hp → Prop}
    (hq : ∀ h', Q (.bool (hasP at' p)) h') : Ev fs ro 35 [.agg [.int .i64 p.1, .int .i64 p.2], .ptr r 0] h Q := by
  refine Ev_fn hf rfl rfl rfl rfl ?_
  have hr := hw r _ hg
  have hg1 : (h.new (.cells 0 [.int .i64 p.1, .int .i64 p.2])).get h.nx = some (.cells 0 [.int .i64 p.1, .int .i64 p.2]) := Hp.get_new_same
  have hg2 : (h.new (.cells 0 [.int .i64 p.1, .int .i64 p.2])).get r = some (.cells 0 [.int .i64 at']) := by rw [Hp.get_new_ne (by omega)]; exact hg
  refine WP_seq ?_
  refine WP_reg ?_
  refine WPO_op rfl ?_
  simp [V.cells]
  refine WPO_op rfl ?_
  simp
  refine WPO_nil ?_
  simp
  refine WP_seq ?_
  refine WP_reg ?_
  by_cases c1 : p.1 ≤ at'
  · repeat (first | (refine WPO_op rfl ?_; simp [loadV_ptr hg1, loadV_ptr hg2, c1]) | (refine WPO_gop rfl ?_; simp [loadV_ptr hg1, loadV_ptr hg2]) | (refine WPO_nil ?_; simp))
    simp [WP_ret, F35]
    have := hq (h.new (.cells 0 [.int .i64 p.1, .int .i64 p.2]))
    simpa [hasP, c1] using this
  · repeat (first | (refine WPO_op rfl ?_; simp [loadV_ptr hg1, loadV_ptr hg2, c1]) | (refine WPO_gop rfl ?_; simp [loadV_ptr hg2]) | (refine WPO_nil ?_; simp))
    simp [WP_ret, F35]
    have := hq (h.new (.cells 0 [.int .i64 p.1, .int .i64 p.2]))
    simpa [hasP, c1] using this

def nh (at' : Int) (l : List (Int × Int)) (i : Nat) : Prop := (l.take i).any (hasP at') = false

theorem ev52 {v : V} {l : List (Int × Int)} {r : Nat} {at' : Int} (hf : fs 52 = some (.code F52)) (hf35 : fs 35 = some (.code F35)) (hv : SlG h v l) (hg : h.get r = some (.cells 0 [.int .i64 at'])) (hw : ∀ b x, h.get b = some x → b < h.nx) (hn : l.length ≤ 1000000) {Q : V → Hp → Prop}
    (hq : ∀ n h', (decide (n ≥ (0 : Int)) = l.any (hasP at')) → Q (.int .i64 n) h') : Ev fs ro 52 [v, .fn (.func 35) [] [.ptr r 0]] h Q := by
  have hlen := hv.lenV
  refine Ev_fn hf rfl rfl rfl rfl ?_
  repeat (first | refine WP_seq ?_ | refine WP_reg ?_ | (refine WPO_op rfl ?_; simp [hlen]) | (refine WPO_nil ?_; simp))
  refine WP_block ?_
  refine WP_loop (fun m e h1 => ∃ i, m = l.length - i ∧ i ≤ l.length ∧ nh at' l i ∧ h = h1 ∧ e = [(0, v), (1, .fn (.func 35) [] [.ptr r 0]), (7, .int .i64 l.length), (8, .int .i64 i)]) l.length ⟨0, by simp, by omega, by simp [nh], rfl, rfl⟩ ?_
  rintro m e h1 ⟨i, rfl, hi, hany, rfl, rfl⟩
  refine WP_seq ?_
  refine WP_reg ?_
  repeat (first | (refine WPO_op rfl ?_; simp) | (refine WPO_nil ?_; simp))
  refine WP_seq ?_
  refine WP_cond rfl ⟨fun ht => ?_, fun ht => ?_⟩
  · have hi' : i < l.length := by simpa using ht
    have hwr : IntKind.wrap .i64 ((i : Int) + 1) = (i : Int) + 1 := wrap_i64 (by omega) (by omega)
    obtain ⟨b, o, c, L, rfl, hgb, q1, q2⟩ := SlG.at hv (List.getElem?_eq_getElem hi')
    simp only [WP_skip, nrmOr_nrm]
    refine WP_mid (fun e' h' => h = h' ∧ hasP at' l[i] = false ∧ e'.get 0 = some (V.sl b o l.length c) ∧ e'.get 1 = some (.fn (.func 35) [] [.ptr r 0]) ∧ e'.get 7 = some (.int .i64 l.length) ∧ e'.get 8 = some (.int .i64 i)) ?_ ?_
    rotate_left
    · rintro e' h' ⟨rfl, hp, e0, e1, e7, e8⟩
      repeat (first | refine WP_reg ?_ | (refine WPO_op rfl ?_; simp [e8]) | (refine WPO_nil ?_; simp [e0, e1, e7]))
      refine ⟨l.length - (i + 1), by omega, i + 1, rfl, by omega, ?_, ?_⟩
      · unfold nh at hany ⊢
        rw [List.take_succ_eq_append_getElem hi', List.any_append, hany]
        simp only [List.any_cons, List.any_nil, hp, Bool.or_false]
      · rw [hwr]
        omega
    refine WP_block ?_
    refine WP_seq ?_
    refine WP_reg ?_
    repeat (first | (refine WPO_op rfl ?_; simp) | (refine WPO_nil ?_; simp))
    refine WP_seq ?_
    refine WP_reg ?_
    repeat (first | (refine WPO_op rfl ?_; simp [hi', loadV_ptr hgb, loadN_two q1 q2]) | (refine WPO_nil ?_; simp))
    refine WPO_call (g := 35) (a := []) (b := [.ptr r 0]) (args := [.agg [.int .i64 l[i].1, .int .i64 l[i].2]]) rfl rfl ?_
    simp
    refine ev35 hf35 hg hw fun h' => ?_
    simp
    refine WPO_nil ?_
    simp
    refine WP_cond rfl ⟨fun hd => ?_, fun hd => ?_⟩
    · refine WP_seq ?_
      refine WP_reg ?_
      repeat (first | (refine WPO_op rfl ?_; simp) | (refine WPO_nil ?_; simp))
      simp [WP_ret, F52]
      refine hq i h ?_
      have : l.any (hasP at') = true := List.any_eq_true.2 ⟨l[i], List.getElem_mem hi', hd⟩
      simp [this]
    · simp only [WP_skip, blkQ_nrm, nrmOr_nrm]
      exact ⟨trivial, hd, by simp⟩
  · have hi' : i = l.length := by
      have : ¬ (i < l.length) := by simpa using ht
      omega
    subst hi'
    simp only [WP_exit, nrmOr_exit, blkQ_exit, if_pos, nrmOr_nrm]
    repeat (first | refine WP_seq ?_ | refine WP_reg ?_ | (refine WPO_op rfl ?_; simp) | (refine WPO_nil ?_; simp))
    simp [WP_ret, F52]
    refine hq (-1) h ?_
    unfold nh at hany
    rw [List.take_length] at hany
    rw [hany]
    rfl

theorem ev34 {v : V} {l : List (Int × Int)} {r : Nat} {at' : Int} (hf34 : fs 34 = some (.code F34)) (hf : fs 52 = some (.code F52)) (hf35 : fs 35 = some (.code F35)) (hv : SlG h v l) (hg : h.get r = some (.cells 0 [.int .i64 at'])) (hw : ∀ b x, h.get b = some x → b < h.nx) (hn : l.length ≤ 1000000) {Q : V → Hp → Prop}
    (hq : ∀ h', Q (.bool (l.any (hasP at'))) h') : Ev fs ro 34 [v, .fn (.func 35) [] [.ptr r 0]] h Q := by
  refine Ev_fn hf34 rfl rfl rfl rfl ?_
  repeat (first | refine WP_seq ?_ | refine WP_reg ?_ | (refine WPO_op rfl ?_; simp; done) | (refine WPO_op rfl ?_; simp) | (refine WPO_nil ?_; simp))
  refine WPO_call (g := 52) (a := []) (b := []) (args := [v, .fn (.func 35) [] [.ptr r 0]]) rfl rfl ?_
  simp
  refine ev52 hf hf35 hv hg hw hn fun n h' hn' => ?_
  simp
  repeat (first | (refine WPO_op rfl ?_; simp) | (refine WPO_nil ?_; simp))
  simp [WP_ret, F34]
  have := hq h
  rw [← hn'] at this
  simpa using this

theorem ev14 {v : V} {l : List (Int × Int)} {at' : Int} (hf14 : fs 14 = some (.code F14)) (hf34 : fs 34 = some (.code F34)) (hf : fs 52 = some (.code F52)) (hf35 : fs 35 = some (.code F35)) (hv : SlG h v l) (_hv1 : v.cells = [v]) (hw : ∀ b x, h.get b = some x → b < h.nx) (hn : l.length ≤ 1000000) {Q : V → Hp → Prop}
    (hq : ∀ h', Q (.bool (l.any (hasP at'))) h') : Ev fs ro 14 [.agg [v], .int .i64 at'] h Q := by
  refine Ev_fn hf14 rfl rfl rfl rfl ?_
  refine WP_seq ?_
  refine WP_reg ?_
  refine WPO_op rfl ?_
  simp [V.cells]
  refine WPO_op rfl ?_
  simp [V.cells]
  refine WPO_op rfl ?_
  simp
  refine WPO_nil ?_
  simp
  have hf1 : Fr h (h.new (.cells 0 [v])) := (Fr.refl hw).new _
  have hf2 : Fr h ((h.new (.cells 0 [v])).new (.cells 0 [.int .i64 at'])) := hf1.new _
  have hg1 : ((h.new (.cells 0 [v])).new (.cells 0 [.int .i64 at'])).get h.nx = some (.cells 0 [v]) := by rw [Hp.get_new_ne (by simp), Hp.get_new_same]
  have hg2 : ((h.new (.cells 0 [v])).new (.cells 0 [.int .i64 at'])).get (h.nx + 1) = some (.cells 0 [.int .i64 at']) := Hp.get_new_same (h := h.new (.cells 0 [v]))
  refine WP_seq ?_
  refine WP_reg ?_
  repeat (first | (refine WPO_op rfl ?_; simp [loadV_ptr hg1]; done) | (refine WPO_op rfl ?_; simp [loadV_ptr hg1]))
  refine WPO_call (g := 34) (a := []) (b := []) (args := [v, .fn (.func 35) [] [.ptr (h.nx + 1) 0]]) rfl rfl ?_
  simp
  refine ev34 hf34 hf hf35 (Sl.fr hf2 hv) hg2 hf2.wf hn fun h' => ?_
  simp
  repeat (first | (refine WPO_op rfl ?_; simp) | (refine WPO_nil ?_; simp))
  simp [WP_ret, F14]
  simpa using hq _
end Go.Am.S7
