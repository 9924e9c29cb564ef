/- The program's functions, stepped through in the plain machine. -/
import Derived.Test.YtochmoadmdmcbaaDoorAmX5
namespace Go.Am.S7
open Go
set_option maxRecDepth 100000
variable {fs : Nat → Option D} {ro : Nat} {h : Hp}

theorem flat_one : ∀ l : List (Int × Int), (flat l).all V.one = true
  | [] => rfl
  | (a, b) :: r => by simp [flat, flat_one r, V.one]

theorem ev45 {v : V} {l : List (Int × Int)} (hf : fs 45 = some (.code F45)) (hv : SlG h v l) (hw : ∀ b x, h.get b = some x → b < h.nx) (hn : l.length ≤ 1000000) {Q : V → Hp → Prop}
    (hq : ∀ x h', SlG h' x l → (x = .nsl ∧ l = [] ∨ ground x = false) → Fr h h' → Q x h') : Ev fs ro 45 [v] h Q := by
  refine Ev_fn hf rfl rfl rfl rfl ?_
  have hnew : Fr h (h.new (.cells 2 [])) := (Fr.refl hw).new _
  have hsn : shown (h.new (.cells 2 [])) 2 h.nx 0 0 = some [] := (Sl.ofNew (h := h) (sz := 2) (n := 0) (c := 1) (l := []) rfl).2
  cases v <;> simp only [SlG, Sl] at hv
  case nsl =>
    obtain ⟨hv1, hv2⟩ := hv
    have hl : l = [] := List.eq_nil_of_length_eq_zero hv1
    subst hl
    repeat (first | refine WP_seq ?_ | refine WP_reg ?_ | (refine WPO_op rfl ?_; simp) | (refine WPO_nil ?_; simp))
    refine WP_cond rfl ⟨fun hd => ?_, fun hd => (by cases hd)⟩
    repeat (first | refine WP_seq ?_ | refine WP_reg ?_ | (refine WPO_op rfl ?_; simp) | (refine WPO_nil ?_; simp))
    simp [WP_ret, F45]
    exact hq .nsl h ⟨rfl, rfl⟩ (.inl ⟨rfl, rfl⟩) (Fr.refl hw)
  case esl =>
    obtain ⟨hv1, hv2⟩ := hv
    have hl : l = [] := List.eq_nil_of_length_eq_zero hv1
    subst hl
    repeat (first | refine WP_seq ?_ | refine WP_reg ?_ | (refine WPO_op rfl ?_; simp) | (refine WPO_nil ?_; simp))
    refine WP_cond rfl ⟨fun hd => (by cases hd), fun hd => ?_⟩
    simp only [WP_skip, nrmOr_nrm]
    refine WP_seq ?_
    refine WP_reg ?_
    refine WPO_op rfl ?_
    simp [evParts, zeros, fill]
    refine WPO_op rfl ?_
    simp
    refine WPO_op rfl ?_
    simp [op1, app]
    refine WPO_op rfl ?_
    simp
    refine WPO_nil ?_
    simp [WP_ret, F45]
    exact hq _ _ ⟨rfl, hsn⟩ (.inr rfl) hnew
  case sl b o n c =>
    obtain ⟨rfl, hs⟩ := hv
    repeat (first | refine WP_seq ?_ | refine WP_reg ?_ | (refine WPO_op rfl ?_; simp) | (refine WPO_nil ?_; simp))
    refine WP_cond rfl ⟨fun hd => (by cases hd), fun hd => ?_⟩
    simp only [WP_skip, nrmOr_nrm]
    have hs2 := shown_fr hnew hs
    refine WP_seq ?_
    refine WP_reg ?_
    refine WPO_op rfl ?_
    simp [evParts, zeros, fill]
    refine WPO_op rfl ?_
    simp
    refine WPO_op rfl ?_
    by_cases hl : l.length = 0
    · have hl' : l = [] := List.eq_nil_of_length_eq_zero hl
      subst hl'
      rw [op1_app (v := .sl h.nx 0 0 1) (b := b) (o := o) (m := 0) (c := c) (v' := .sl h.nx 0 0 1) (h' := h.new (.cells 2 [])) rfl rfl hs2 rfl (by simp [app])]
      simp
      refine WPO_op rfl ?_
      simp
      refine WPO_nil ?_
      simp [WP_ret, F45]
      exact hq _ _ ⟨rfl, hsn⟩ (.inr rfl) hnew
    · have happ : app ro (h.new (.cells 2 [])) 2 16 (.sl h.nx 0 0 1) l.length (flat l) = some (.sl (h.new (.cells 2 [])).nx 0 l.length 0, (h.new (.cells 2 [])).new (.cells 2 (flat l))) := by
        simp only [app]
        rw [if_neg hl, if_pos (by unfold roomMax; omega), if_neg (by omega), if_neg (by omega), hsn]
        simp
      rw [op1_app (v := .sl h.nx 0 0 1) (b := b) (o := o) (m := l.length) (c := c) rfl rfl hs2 (flat_one l) happ]
      simp
      refine WPO_op rfl ?_
      simp
      refine WPO_nil ?_
      simp [WP_ret, F45]
      refine hq _ _ ?_ (.inr rfl) (hnew.new _)
      exact Sl.ofNew (h := h.new (.cells 2 [])) (flat_len l)

theorem ev28 {v : V} {l : List (Int × Int)} (hf28 : fs 28 = some (.code F28)) (hf : fs 45 = some (.code F45)) (hv : SlG h v l) (_hv1 : v.cells = [v]) (hw : ∀ b x, h.get b = some x → b < h.nx) (hn : l.length ≤ 1000000) {Q : V → Hp → Prop}
    (hq : ∀ x h', SlG h' x l → (x = .nsl ∧ l = [] ∨ ground x = false) → Fr h h' → Q x h') : Ev fs ro 28 [.agg [v]] h Q := by
  refine Ev_fn hf28 rfl rfl rfl rfl ?_
  have hf1 : Fr h (h.new (.cells 0 [v])) := (Fr.refl hw).new _
  have hg1 : (h.new (.cells 0 [v])).get h.nx = some (.cells 0 [v]) := Hp.get_new_same
  refine WP_seq ?_
  refine WP_reg ?_
  refine WPO_op rfl ?_
  simp [V.cells]
  refine WPO_op rfl ?_
  simp
  refine WPO_nil ?_
  simp
  refine WP_seq ?_
  refine WP_reg ?_
  repeat (first | (refine WPO_op rfl ?_; simp [loadV_ptr hg1]; done) | (refine WPO_op rfl ?_; simp [loadV_ptr hg1]))
  refine WPO_call (g := 45) (a := []) (b := []) (args := [v]) rfl rfl ?_
  simp
  refine ev45 hf (Sl.fr hf1 hv) hf1.wf hn fun x h' hs hg hfr => ?_
  have hsR : SlG (if ground x = true then h.new (.cells 0 [v]) else h') x l := by
    rcases hg with ⟨rfl, rfl⟩ | hg
    · exact ⟨rfl, rfl⟩
    · rw [if_neg (by simp [hg])]; exact hs
  have hfR : Fr h (if ground x = true then h.new (.cells 0 [v]) else h') := by
    split
    · exact hf1
    · exact hf1.trans hfr
  generalize (if ground x = true then h.new (.cells 0 [v]) else h') = hR at *
  repeat (first | (refine WPO_op rfl ?_; simp) | (refine WPO_nil ?_; simp))
  simp [WP_ret, F28]
  exact hq x hR hsR hg hfR

theorem ev29 {v : V} {l : List (Int × Int)} (hf29 : fs 29 = some (.code F29)) (hv : SlG h v l) (_hv1 : v.cells = [v]) {Q : V → Hp → Prop}
    (hq : ∀ h', Q (.bool ((l.length : Int) == 0)) h') : Ev fs ro 29 [.agg [v]] h Q := by
  have hlen := hv.lenV
  refine Ev_fn hf29 rfl rfl rfl rfl ?_
  have hg1 : (h.new (.cells 0 [v])).get h.nx = some (.cells 0 [v]) := Hp.get_new_same
  refine WP_seq ?_
  refine WP_reg ?_
  refine WPO_op rfl ?_
  simp [V.cells]
  refine WPO_op rfl ?_
  simp
  refine WPO_nil ?_
  simp
  refine WP_seq ?_
  refine WP_reg ?_
  repeat (first | (refine WPO_op rfl ?_; simp [loadV_ptr hg1, hlen]) | (refine WPO_nil ?_; simp))
  simp [WP_ret, F29]
  simpa using hq _
end Go.Am.S7
/- The program's functions, stepped through in the plain machine. -/
namespace Go.Am.S7
open Go
set_option maxRecDepth 100000
variable {fs : Nat → Option D} {ro : Nat} {h : Hp}

def sumLen : List (Int × Int) → Int
  | [] => 0
  | (a, b) :: r => (b - a) + sumLen r

def sumTo (l : List (Int × Int)) (i : Nat) : Int := sumLen (l.take i)

theorem sumTo_succ {l : List (Int × Int)} {i : Nat} {p : Int × Int} (hp : l[i]? = some p) : sumTo l (i + 1) = sumTo l i + (p.2 - p.1) := by
  unfold sumTo
  induction l generalizing i with
  | nil => simp at hp
  | cons x l ih =>
    cases i with
    | zero => simp at hp; subst hp; simp [sumLen]
    | succ i =>
      have := ih (i := i) (by simpa using hp)
      obtain ⟨a, b⟩ := x
      simp only [List.take_succ_cons, sumLen]
      omega

/-- Ranges that a set can have. -/
def Fine (l : List (Int × Int)) : Prop := ∀ p ∈ l, 0 ≤ p.1 ∧ p.1 ≤ p.2 ∧ p.2 ≤ 1099511627776

theorem sumTo_le {l : List (Int × Int)} (hl : Fine l) : ∀ i, i ≤ l.length → 0 ≤ sumTo l i ∧ sumTo l i ≤ (i : Int) * 1099511627776
  | 0, _ => by simp [sumTo, sumLen]
  | i + 1, hi => by
    have ih := sumTo_le hl i (by omega)
    have hp := hl l[i] (List.getElem_mem hi)
    rw [sumTo_succ (List.getElem?_eq_getElem hi)]
    omega

set_option maxHeartbeats 400000 in
theorem ev31 {v : V} {l : List (Int × Int)} (hf : fs 31 = some (.code F31)) (hv : SlG h v l) (hn : l.length ≤ 1000000) (hl : Fine l) {Q : V → Hp → Prop} (hq : ∀ h', Q (.int .i64 (sumLen l)) h') : Ev fs ro 31 [v] h Q := by
  have hlen := hv.lenV
  refine Ev_fn hf rfl rfl rfl rfl ?_
  repeat (first | refine WP_seq ?_ | refine WP_reg ?_ | (refine WPO_op rfl ?_; simp; done) | (refine WPO_op rfl ?_; simp) | (refine WPO_nil ?_; simp))
  refine WP_block ?_
  refine WP_loop (fun m e h1 => ∃ i, m = l.length - i ∧ i ≤ l.length ∧ h = h1 ∧ e = [(0, v), (3, .int .i64 (sumTo l i)), (4, .int .i64 i)]) l.length ⟨0, by simp, by omega, rfl, by simp [sumTo, sumLen]⟩ ?_
  rintro m e h1 ⟨i, rfl, hi, rfl, rfl⟩
  repeat (first | refine WP_seq ?_ | refine WP_reg ?_ | (refine WPO_op rfl ?_; simp [hlen]) | (refine WPO_nil ?_; simp))
  refine WP_cond rfl ⟨fun ht => ?_, fun ht => ?_⟩
  · have hi' : i < l.length := by simpa using ht
    obtain ⟨b, o, c, L, rfl, hg, h1, h2⟩ := SlG.at hv (List.getElem?_eq_getElem hi')
    have hri := hl l[i] (List.getElem_mem hi')
    have hs := sumTo_le hl i hi
    have hs1 := sumTo_le hl (i + 1) hi'
    rw [sumTo_succ (List.getElem?_eq_getElem hi')] at hs1
    simp only [WP_skip, nrmOr_nrm]
    refine WP_seq ?_
    refine WP_block ?_
    refine WP_reg ?_
    repeat (first | (refine WPO_op rfl ?_; simp [hi', loadV_ptr hg, h1, h2]) | (refine WPO_nil ?_; simp))
    refine WP_reg ?_
    repeat (first | (refine WPO_op rfl ?_; simp) | (refine WPO_nil ?_; simp))
    refine ⟨l.length - (i + 1), by omega, i + 1, rfl, by omega, ?_, ?_⟩
    · rw [wrap_i64 (n := sumTo l i + l[i].snd) (by omega) (by omega), wrap_i64 (by omega) (by omega), sumTo_succ (List.getElem?_eq_getElem hi')]
      omega
    · rw [wrap_i64 (by omega) (by omega)]
      omega
  · have hi' : i = l.length := by
      have : ¬ (i < l.length) := by simpa using ht
      omega
    subst hi'
    simp only [WP_exit, nrmOr_exit, blkQ_exit, if_pos, nrmOr_nrm]
    repeat (first | refine WP_seq ?_ | refine WP_reg ?_ | (refine WPO_op rfl ?_; simp) | (refine WPO_nil ?_; simp))
    simp [WP_ret, F31, sumTo]
    exact hq h

set_option maxHeartbeats 400000 in
theorem ev30 {v : V} {l : List (Int × Int)} (hf : fs 30 = some (.code F30)) (hv : SlG h v l) (hv1 : v.cells = [v]) (hw : ∀ b x, h.get b = some x → b < h.nx) (hro : ro ≤ h.nx) (hn : l.length ≤ 1000000) (hl : Fine l) {Q : V → Hp → Prop} (hq : ∀ h', Q (.int .i64 (sumLen l)) h') : Ev fs ro 30 [.agg [v]] h Q := by
  have hlen := hv.lenV
  refine Ev_fn hf rfl rfl rfl rfl ?_
  have hf1 : Fr h (h.new (.cells 0 [v])) := (Fr.refl hw).new _
  have hg1 : (h.new (.cells 0 [v])).get h.nx = some (.cells 0 [v]) := Hp.get_new_same
  refine WP_seq ?_
  refine WP_reg ?_
  refine WPO_op rfl ?_
  simp [V.cells]
  refine WPO_op rfl ?_
  simp
  refine WPO_nil ?_
  simp
  repeat (first | refine WP_seq ?_ | refine WP_reg ?_ | (refine WPO_op rfl ?_; simp [loadV_ptr hg1, hlen]; done) | (refine WPO_op rfl ?_; simp [loadV_ptr hg1, hlen]) | (refine WPO_nil ?_; simp))
  refine WP_block ?_
  refine WP_loop (fun m e h1 => ∃ i, m = l.length - i ∧ i ≤ l.length ∧ Fr h h1 ∧ e = [(3, .int .i64 (sumTo l i)), (7, v), (8, .int .i64 l.length), (9, .int .i64 i)]) l.length ⟨0, by simp, by omega, hf1, by simp [sumTo, sumLen]⟩ ?_
  rintro m e h1 ⟨i, rfl, hi, hfr, rfl⟩
  refine WP_seq ?_
  refine WP_reg ?_
  repeat (first | (refine WPO_op rfl ?_; simp) | (refine WPO_nil ?_; simp))
  refine WP_seq ?_
  refine WP_cond rfl ⟨fun ht => ?_, fun ht => ?_⟩
  · have hi' : i < l.length := by simpa using ht
    obtain ⟨b, o, c, L, rfl, hg, q1, q2⟩ := SlG.at (Sl.fr hfr hv) (List.getElem?_eq_getElem hi')
    have hri := hl l[i] (List.getElem_mem hi')
    have hs := sumTo_le hl i hi
    have hs1 := sumTo_le hl (i + 1) hi'
    rw [sumTo_succ (List.getElem?_eq_getElem hi')] at hs1
    simp only [WP_skip, nrmOr_nrm]
    refine WP_seq ?_
    refine WP_block ?_
    refine WP_seq ?_
    refine WP_reg ?_
    refine WPO_op rfl ?_
    simp [hi']
    refine WPO_op rfl ?_
    simp [loadV_ptr hg, loadN_two q1 q2]
    refine WPO_op rfl ?_
    simp
    have hgr : (h1.new (.cells 0 [.int .i64 0, .int .i64 0])).get h1.nx = some (.cells 0 [.int .i64 0, .int .i64 0]) := Hp.get_new_same
    have hfn : Fr h ((h1.new (.cells 0 [.int .i64 0, .int .i64 0])).set h1.nx (.cells 0 [V.int .i64 l[i].fst, V.int .i64 l[i].snd])) := (hfr.new _).set hw hfr.nx hgr _
    have hg2 : ((h1.new (.cells 0 [.int .i64 0, .int .i64 0])).set h1.nx (.cells 0 [V.int .i64 l[i].fst, V.int .i64 l[i].snd])).get h1.nx = some (.cells 0 [V.int .i64 l[i].fst, V.int .i64 l[i].snd]) := Hp.get_set_same hgr
    refine WPO_op rfl ?_
    refine OB_store (b := h1.nx) (o := 0) (v := V.agg [V.int .i64 l[i].fst, V.int .i64 l[i].snd]) (l' := [V.int .i64 l[i].fst, V.int .i64 l[i].snd]) rfl rfl (by have := hfr.nx; omega) rfl rfl hgr rfl ?_
    generalize ((h1.new (.cells 0 [.int .i64 0, .int .i64 0])).set h1.nx (.cells 0 [V.int .i64 l[i].fst, V.int .i64 l[i].snd])) = h2 at *
    simp
    refine WPO_nil ?_
    simp
    refine WP_reg ?_
    repeat (first | (refine WPO_op rfl ?_; simp [loadV_ptr hg2]) | (refine WPO_nil ?_; simp))
    refine WP_reg ?_
    repeat (first | (refine WPO_op rfl ?_; simp) | (refine WPO_nil ?_; simp))
    refine ⟨l.length - (i + 1), by omega, i + 1, rfl, by omega, hfn, ?_, ?_⟩
    · rw [wrap_i64 (n := l[i].snd - l[i].fst) (by omega) (by omega), wrap_i64 (by omega) (by omega), sumTo_succ (List.getElem?_eq_getElem hi')]
    · rw [wrap_i64 (by omega) (by omega)]
      omega
  · have hi' : i = l.length := by
      have : ¬ (i < l.length) := by simpa using ht
      omega
    subst hi'
    simp only [WP_exit, nrmOr_exit, blkQ_exit, if_pos, nrmOr_nrm]
    repeat (first | refine WP_seq ?_ | refine WP_reg ?_ | (refine WPO_op rfl ?_; simp) | (refine WPO_nil ?_; simp))
    simp [WP_ret, F30, sumTo]
    exact hq h1
end Go.Am.S7
/- The program's functions, stepped through in the plain machine. -/
namespace Go.Am.S7
open Go
set_option maxRecDepth 100000
variable {fs : Nat → Option D} {ro : Nat} {h : Hp}

set_option maxHeartbeats 400000 in
theorem ev12 {v w : V} {l : List (Int × Int)} (hf12 : fs 12 = some (.code F12)) (hf28 : fs 28 = some (.code F28)) (hf45 : fs 45 = some (.code F45)) (hf29 : fs 29 = some (.code F29)) (hf30 : fs 30 = some (.code F30)) (hf31 : fs 31 = some (.code F31))
    (hv : SlG h v l) (hv1 : v.cells = [v]) (hsw : SlG h w l) (hw : ∀ b x, h.get b = some x → b < h.nx) (hn : l.length ≤ 1000000) (hl : Fine l) {Q : V → Hp → Prop} (hq : ∀ h', Q (.bool true) h') : Ev fs ro 12 [.agg [v], w] h Q := by
  have hlw := hsw.lenV
  refine Ev_fn hf12 rfl rfl rfl rfl ?_
  have hf1 : Fr h (h.new (.cells 0 [v])) := (Fr.refl hw).new _
  have hg1 : (h.new (.cells 0 [v])).get h.nx = some (.cells 0 [v]) := Hp.get_new_same
  refine WP_seq ?_
  refine WP_reg ?_
  refine WPO_op rfl ?_
  simp [V.cells]
  refine WPO_op rfl ?_
  simp
  refine WPO_nil ?_
  simp
  refine WP_seq ?_
  refine WP_reg ?_
  refine WPO_op rfl ?_
  simp [loadV_ptr hg1, loadN]
  refine WPO_call (g := 28) (a := []) (b := []) (args := [.agg [v]]) rfl rfl ?_
  simp
  refine ev28 hf28 hf45 (Sl.fr hf1 hv) hv1 hf1.wf hn fun x h' hs hg hfr => ?_
  have hsR : SlG (if ground x = true then h.new (.cells 0 [v]) else h') x l := by
    rcases hg with ⟨rfl, rfl⟩ | hg
    · exact ⟨rfl, rfl⟩
    · rw [if_neg (by simp [hg])]; exact hs
  have hfR : Fr (h.new (.cells 0 [v])) (if ground x = true then h.new (.cells 0 [v]) else h') := by
    split
    · exact Fr.refl hf1.wf
    · exact hfr
  have hgR := hfR.sub _ _ hg1
  have hfrR := hf1.trans hfR
  generalize (if ground x = true then h.new (.cells 0 [v]) else h') = hR at *
  have hlx := hsR.lenV
  have hsvR : SlG hR v l := Sl.fr hfrR hv
  have hswR : SlG hR w l := Sl.fr hfrR hsw
  repeat (first | (refine WPO_op rfl ?_; simp) | (refine WPO_nil ?_; simp))
  refine WP_seq ?_
  refine WP_seq ?_
  refine WP_reg ?_
  repeat (first | (refine WPO_op rfl ?_; simp [hlx, hlw]) | (refine WPO_gop rfl ?_; simp [loadV_ptr hgR, loadN]))
  refine WPO_gcall ?_
  simp
  refine WPO_call (g := 29) (a := []) (b := []) (args := [.agg [v]]) rfl rfl ?_
  simp
  refine ev29 hf29 hsvR hv1 fun h2 => ?_
  simp
  repeat (first | (refine WPO_op rfl ?_; simp; done) | (refine WPO_op rfl ?_; simp) | (refine WPO_gop rfl ?_; simp [hlw, loadV_ptr hgR, loadN]))
  refine WPO_gcall ?_
  simp
  refine WPO_call (g := 30) (a := []) (b := []) (args := [.agg [v]]) rfl rfl ?_
  simp
  refine ev30 hf30 hsvR hv1 hfrR.wf (Nat.le_refl _) hn hl fun h3 => ?_
  simp
  refine WPO_gop rfl ?_
  simp
  refine WPO_gcall ?_
  simp
  refine WPO_call (g := 31) (a := []) (b := []) (args := [w]) rfl rfl ?_
  simp
  refine ev31 hf31 hswR hn hl fun h4 => ?_
  simp
  repeat (first | (refine WPO_op rfl ?_; simp) | (refine WPO_gop rfl ?_; simp) | (refine WPO_nil ?_; simp))
  refine WP_cond rfl ⟨fun hd => (by cases hd), fun hd => ?_⟩
  simp only [WP_skip, nrmOr_nrm]
  repeat (first | refine WP_seq ?_ | refine WP_reg ?_ | (refine WPO_op rfl ?_; simp; done) | (refine WPO_op rfl ?_; simp) | (refine WPO_nil ?_; simp))
  refine WP_block ?_
  refine WP_loop (fun m e h1 => ∃ i, m = l.length - i ∧ i ≤ l.length ∧ hR = h1 ∧ e = [(1, w), (5, x), (6, .int .i64 i)]) l.length ⟨0, by simp, by omega, rfl, by simp⟩ ?_
  rintro m e h1 ⟨i, rfl, hi, rfl, rfl⟩
  refine WP_seq ?_
  refine WP_seq ?_
  refine WP_reg ?_
  repeat (first | (refine WPO_op rfl ?_; simp [hlx]) | (refine WPO_nil ?_; simp))
  refine WP_cond rfl ⟨fun ht => ?_, fun ht => ?_⟩
  · have hi' : i < l.length := by simpa using ht
    obtain ⟨b, o, c, L, rfl, hgb, q1, q2⟩ := SlG.at hsR (List.getElem?_eq_getElem hi')
    obtain ⟨b', o', c', L', rfl, hgb', q1', q2'⟩ := SlG.at hswR (List.getElem?_eq_getElem hi')
    simp only [WP_skip, nrmOr_nrm]
    refine WP_seq ?_
    refine WP_block ?_
    refine WP_seq ?_
    refine WP_reg ?_
    repeat (first | (refine WPO_op rfl ?_; simp [hi', loadV_ptr hgb, loadV_ptr hgb', q1, q1']) | (refine WPO_gop rfl ?_; simp [hi', loadV_ptr hgb, loadV_ptr hgb', q2, q2']) | (refine WPO_nil ?_; simp))
    refine WP_cond rfl ⟨fun hd => (by cases hd), fun hd => ?_⟩
    simp only [WP_skip, blkQ_nrm, nrmOr_nrm]
    refine WP_reg ?_
    repeat (first | (refine WPO_op rfl ?_; simp) | (refine WPO_nil ?_; simp))
    refine ⟨l.length - (i + 1), by omega, i + 1, rfl, by omega, ?_⟩
    rw [wrap_i64 (by omega) (by omega)]
    omega
  · have hi' : i = l.length := by
      have : ¬ (i < l.length) := by simpa using ht
      omega
    subst hi'
    simp only [WP_exit, nrmOr_exit, blkQ_exit, if_pos, nrmOr_nrm]
    repeat (first | refine WP_seq ?_ | refine WP_reg ?_ | (refine WPO_op rfl ?_; simp) | (refine WPO_nil ?_; simp))
    simp [WP_ret, F12]
    exact hq hR
end Go.Am.S7
