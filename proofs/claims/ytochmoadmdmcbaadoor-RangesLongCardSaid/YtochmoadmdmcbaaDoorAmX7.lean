/- The seat's functions, stepped through in the plain machine. -/
import Derived.Test.YtochmoadmdmcbaaDoorAmX6
namespace Go.Am.S7
open Go
set_option maxRecDepth 100000
variable {fs : Nat → Option D} {ro : Nat} {h : Hp}

def sumLen : List (Int × Int) → Int
  | [] => 0
  | (a, b) :: r => (b - a) + sumLen r

def sumTo (l : List (Int × Int)) (i : Nat) : Int := sumLen (l.take i)

theorem sumTo_succ {l : List (Int × Int)} {i : Nat} {p : Int × Int} (hp : l[i]? = some p) : sumTo l (i + 1) = sumTo l i + (p.2 - p.1) := by
  unfold sumTo
  induction l generalizing i with
  | nil => simp at hp
  | cons x l ih =>
    cases i with
    | zero => simp at hp; subst hp; simp [sumLen]
    | succ i =>
      have := ih (i := i) (by simpa using hp)
      obtain ⟨a, b⟩ := x
      simp only [List.take_succ_cons, sumLen]
      omega

/-- Ranges that a set can have. -/
def Fine (l : List (Int × Int)) : Prop := ∀ p ∈ l, 0 ≤ p.1 ∧ p.1 ≤ p.2 ∧ p.2 ≤ 1099511627776

theorem sumTo_le {l : List (Int × Int)} (hl : Fine l) : ∀ i, i ≤ l.length → 0 ≤ sumTo l i ∧ sumTo l i ≤ (i : Int) * 1099511627776
  | 0, _ => by simp [sumTo, sumLen]
  | i + 1, hi => by
    have ih := sumTo_le hl i (by omega)
    have hp := hl l[i] (List.getElem_mem hi)
    rw [sumTo_succ (List.getElem?_eq_getElem hi)]
    omega

set_option maxHeartbeats 400000 in
theorem ev31 {v : V} {l : List (Int × Int)} (hf : fs 31 = some (.code F31)) (hv : SlG h v l) (hn : l.length ≤ 1000000) (hl : Fine l) {Q : V → Hp → Prop} (hq : ∀ h', Q (.int .i64 (sumLen l)) h') : Ev fs ro 31 [v] h Q := by
  have hlen := hv.lenV
  refine Ev_fn hf rfl rfl rfl rfl ?_
  repeat (first | refine WP_seq ?_ | refine WP_reg ?_ | (refine WPO_op rfl ?_; simp; done) | (refine WPO_op rfl ?_; simp) | (refine WPO_nil ?_; simp))
  refine WP_block ?_
  refine WP_loop (fun m e h1 => ∃ i, m = l.length - i ∧ i ≤ l.length ∧ h = h1 ∧ e = [(0, v), (3, .int .i64 (sumTo l i)), (4, .int .i64 i)]) l.length ⟨0, by simp, by omega, rfl, by simp [sumTo, sumLen]⟩ ?_
  rintro m e h1 ⟨i, rfl, hi, rfl, rfl⟩
  repeat (first | refine WP_seq ?_ | refine WP_reg ?_ | (refine WPO_op rfl ?_; simp [hlen]) | (refine WPO_nil ?_; simp))
  refine WP_cond rfl ⟨fun ht => ?_, fun ht => ?_⟩
  · have hi' : i < l.length := by simpa using ht
    obtain ⟨b, o, c, L, rfl, hg, h1, h2⟩ := SlG.at hv (List.getElem?_eq_getElem hi')
    have hri := hl l[i] (List.getElem_mem hi')
    have hs := sumTo_le hl i hi
    have hs1 := sumTo_le hl (i + 1) hi'
    rw [sumTo_succ (List.getElem?_eq_getElem hi')] at hs1
    simp only [WP_skip, nrmOr_nrm]
    refine WP_seq ?_
    refine WP_block ?_
    refine WP_reg ?_
    repeat (first | (refine WPO_op rfl ?_; simp [hi', loadV_ptr hg, h1, h2]) | (refine WPO_nil ?_; simp))
    refine WP_reg ?_
    repeat (first | (refine WPO_op rfl ?_; simp) | (refine WPO_nil ?_; simp))
    refine ⟨l.length - (i + 1), by omega, i + 1, rfl, by omega, ?_, ?_⟩
    · rw [wrap_i64 (n := sumTo l i + l[i].snd) (by omega) (by omega), wrap_i64 (by omega) (by omega), sumTo_succ (List.getElem?_eq_getElem hi')]
      omega
    · rw [wrap_i64 (by omega) (by omega)]
      omega
  · have hi' : i = l.length := by
      have : ¬ (i < l.length) := by simpa using ht
      omega
    subst hi'
    simp only [WP_exit, nrmOr_exit, blkQ_exit, if_pos, nrmOr_nrm]
    repeat (first | refine WP_seq ?_ | refine WP_reg ?_ | (refine WPO_op rfl ?_; simp) | (refine WPO_nil ?_; simp))
    simp [WP_ret, F31, sumTo]
    exact hq h

set_option maxHeartbeats 400000 in
theorem ev30 {v : V} {l : List (Int × Int)} (hf : fs 30 = some (.code F30)) (hv : SlG h v l) (hv1 : v.cells = [v]) (hw : ∀ b x, h.get b = some x → b < h.nx) (hro : ro ≤ h.nx) (hn : l.length ≤ 1000000) (hl : Fine l) {Q : V → Hp → Prop} (hq : ∀ h', Q (.int .i64 (sumLen l)) h') : Ev fs ro 30 [.agg [v]] h Q := by
  have hlen := hv.lenV
  refine Ev_fn hf rfl rfl rfl rfl ?_
  have hf1 : Fr h (h.new (.cells 0 [v])) := (Fr.refl hw).new _
  have hg1 : (h.new (.cells 0 [v])).get h.nx = some (.cells 0 [v]) := Hp.get_new_same
  refine WP_seq ?_
  refine WP_reg ?_
  refine WPO_op rfl ?_
  simp [V.cells]
  refine WPO_op rfl ?_
  simp
  refine WPO_nil ?_
  simp
  repeat (first | refine WP_seq ?_ | refine WP_reg ?_ | (refine WPO_op rfl ?_; simp [loadV_ptr hg1, hlen]; done) | (refine WPO_op rfl ?_; simp [loadV_ptr hg1, hlen]) | (refine WPO_nil ?_; simp))
  refine WP_block ?_
  refine WP_loop (fun m e h1 => ∃ i, m = l.length - i ∧ i ≤ l.length ∧ Fr h h1 ∧ e = [(3, .int .i64 (sumTo l i)), (7, v), (8, .int .i64 l.length), (9, .int .i64 i)]) l.length ⟨0, by simp, by omega, hf1, by simp [sumTo, sumLen]⟩ ?_
  rintro m e h1 ⟨i, rfl, hi, hfr, rfl⟩
  refine WP_seq ?_
  refine WP_reg ?_
  repeat (first | (refine WPO_op rfl ?_; simp) | (refine WPO_nil ?_; simp))
  refine WP_seq ?_
  refine WP_cond rfl ⟨fun ht => ?_, fun ht => ?_⟩
  · have hi' : i < l.length := by simpa using ht
    obtain ⟨b, o, c, L, rfl, hg, q1, q2⟩ := SlG.at (Sl.fr hfr hv) (List.getElem?_eq_getElem hi')
    have hri := hl l[i] (List.getElem_mem hi')
    have hs := sumTo_le hl i hi
    have hs1 := sumTo_le hl (i + 1) hi'
    rw [sumTo_succ (List.getElem?_eq_getElem hi')] at hs1
    simp only [WP_skip, nrmOr_nrm]
    refine WP_seq ?_
    refine WP_block ?_
    refine WP_seq ?_
    refine WP_reg ?_
    refine WPO_op rfl ?_
    simp [hi']
    refine WPO_op rfl ?_
    simp [loadV_ptr hg, loadN_two q1 q2]
    refine WPO_op rfl ?_
    simp
    have hgr : (h1.new (.cells 0 [.int .i64 0, .int .i64 0])).get h1.nx = some (.cells 0 [.int .i64 0, .int .i64 0]) := Hp.get_new_same
    have hfn : Fr h ((h1.new (.cells 0 [.int .i64 0, .int .i64 0])).set h1.nx (.cells 0 [V.int .i64 l[i].fst, V.int .i64 l[i].snd])) := (hfr.new _).set hw hfr.nx hgr _
    have hg2 : ((h1.new (.cells 0 [.int .i64 0, .int .i64 0])).set h1.nx (.cells 0 [V.int .i64 l[i].fst, V.int .i64 l[i].snd])).get h1.nx = some (.cells 0 [V.int .i64 l[i].fst, V.int .i64 l[i].snd]) := Hp.get_set_same hgr
    refine WPO_op rfl ?_
    refine OB_store (b := h1.nx) (o := 0) (v := V.agg [V.int .i64 l[i].fst, V.int .i64 l[i].snd]) (l' := [V.int .i64 l[i].fst, V.int .i64 l[i].snd]) rfl rfl (by have := hfr.nx; omega) rfl rfl hgr rfl ?_
    generalize ((h1.new (.cells 0 [.int .i64 0, .int .i64 0])).set h1.nx (.cells 0 [V.int .i64 l[i].fst, V.int .i64 l[i].snd])) = h2 at *
    simp
    refine WPO_nil ?_
    simp
    refine WP_reg ?_
    repeat (first | (refine WPO_op rfl ?_; simp [loadV_ptr hg2]) | (refine WPO_nil ?_; simp))
    refine WP_reg ?_
    repeat (first | (refine WPO_op rfl ?_; simp) | (refine WPO_nil ?_; simp))
    refine ⟨l.length - (i + 1), by omega, i + 1, rfl, by omega, hfn, ?_, ?_⟩
    · rw [wrap_i64 (n := l[i].snd - l[i].fst) (by omega) (by omega), wrap_i64 (by omega) (by omega), sumTo_succ (List.getElem?_eq_getElem hi')]
    · rw [wrap_i64 (by omega) (by omega)]
      omega
  · have hi' : i = l.length := by
      have : ¬ (i < l.length) := by simpa using ht
      omega
    subst hi'
    simp only [WP_exit, nrmOr_exit, blkQ_exit, if_pos, nrmOr_nrm]
    repeat (first | refine WP_seq ?_ | refine WP_reg ?_ | (refine WPO_op rfl ?_; simp) | (refine WPO_nil ?_; simp))
    simp [WP_ret, F30, sumTo]
    exact hq h1
end Go.Am.S7
