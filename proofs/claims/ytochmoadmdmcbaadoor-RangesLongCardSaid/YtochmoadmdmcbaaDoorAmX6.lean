/- The seat's functions, stepped through in the plain machine. -/
import Derived.Test.YtochmoadmdmcbaaDoorAmX5
namespace Go.Am.S7
open Go
set_option maxRecDepth 100000
variable {fs : Nat → Option D} {ro : Nat} {h : Hp}

theorem flat_one : ∀ l : List (Int × Int), (flat l).all V.one = true
  | [] => rfl
  | (a, b) :: r => by simp [flat, flat_one r, V.one]

theorem ev45 {v : V} {l : List (Int × Int)} (hf : fs 45 = some (.code F45)) (hv : SlG h v l) (hw : ∀ b x, h.get b = some x → b < h.nx) (hn : l.length ≤ 1000000) {Q : V → Hp → Prop}
    (hq : ∀ x h', SlG h' x l → (x = .nsl ∧ l = [] ∨ ground x = false) → Fr h h' → Q x h') : Ev fs ro 45 [v] h Q := by
  refine Ev_fn hf rfl rfl rfl rfl ?_
  have hnew : Fr h (h.new (.cells 2 [])) := (Fr.refl hw).new _
  have hsn : shown (h.new (.cells 2 [])) 2 h.nx 0 0 = some [] := (Sl.ofNew (h := h) (sz := 2) (n := 0) (c := 1) (l := []) rfl).2
  cases v <;> simp only [SlG, Sl] at hv
  case nsl =>
    obtain ⟨hv1, hv2⟩ := hv
    have hl : l = [] := List.eq_nil_of_length_eq_zero hv1
    subst hl
    repeat (first | refine WP_seq ?_ | refine WP_reg ?_ | (refine WPO_op rfl ?_; simp) | (refine WPO_nil ?_; simp))
    refine WP_cond rfl ⟨fun hd => ?_, fun hd => (by cases hd)⟩
    repeat (first | refine WP_seq ?_ | refine WP_reg ?_ | (refine WPO_op rfl ?_; simp) | (refine WPO_nil ?_; simp))
    simp [WP_ret, F45]
    exact hq .nsl h ⟨rfl, rfl⟩ (.inl ⟨rfl, rfl⟩) (Fr.refl hw)
  case esl =>
    obtain ⟨hv1, hv2⟩ := hv
    have hl : l = [] := List.eq_nil_of_length_eq_zero hv1
    subst hl
    repeat (first | refine WP_seq ?_ | refine WP_reg ?_ | (refine WPO_op rfl ?_; simp) | (refine WPO_nil ?_; simp))
    refine WP_cond rfl ⟨fun hd => (by cases hd), fun hd => ?_⟩
    simp only [WP_skip, nrmOr_nrm]
    refine WP_seq ?_
    refine WP_reg ?_
    refine WPO_op rfl ?_
    simp [evParts, zeros, fill]
    refine WPO_op rfl ?_
    simp
    refine WPO_op rfl ?_
    simp [op1, app]
    refine WPO_op rfl ?_
    simp
    refine WPO_nil ?_
    simp [WP_ret, F45]
    exact hq _ _ ⟨rfl, hsn⟩ (.inr rfl) hnew
  case sl b o n c =>
    obtain ⟨rfl, hs⟩ := hv
    repeat (first | refine WP_seq ?_ | refine WP_reg ?_ | (refine WPO_op rfl ?_; simp) | (refine WPO_nil ?_; simp))
    refine WP_cond rfl ⟨fun hd => (by cases hd), fun hd => ?_⟩
    simp only [WP_skip, nrmOr_nrm]
    have hs2 := shown_fr hnew hs
    refine WP_seq ?_
    refine WP_reg ?_
    refine WPO_op rfl ?_
    simp [evParts, zeros, fill]
    refine WPO_op rfl ?_
    simp
    refine WPO_op rfl ?_
    by_cases hl : l.length = 0
    · have hl' : l = [] := List.eq_nil_of_length_eq_zero hl
      subst hl'
      rw [op1_app (v := .sl h.nx 0 0 1) (b := b) (o := o) (m := 0) (c := c) (v' := .sl h.nx 0 0 1) (h' := h.new (.cells 2 [])) rfl rfl hs2 rfl (by simp [app])]
      simp
      refine WPO_op rfl ?_
      simp
      refine WPO_nil ?_
      simp [WP_ret, F45]
      exact hq _ _ ⟨rfl, hsn⟩ (.inr rfl) hnew
    · have happ : app ro (h.new (.cells 2 [])) 2 16 (.sl h.nx 0 0 1) l.length (flat l) = some (.sl (h.new (.cells 2 [])).nx 0 l.length 0, (h.new (.cells 2 [])).new (.cells 2 (flat l))) := by
        simp only [app]
        rw [if_neg hl, if_pos (by unfold roomMax; omega), if_neg (by omega), if_neg (by omega), hsn]
        simp
      rw [op1_app (v := .sl h.nx 0 0 1) (b := b) (o := o) (m := l.length) (c := c) rfl rfl hs2 (flat_one l) happ]
      simp
      refine WPO_op rfl ?_
      simp
      refine WPO_nil ?_
      simp [WP_ret, F45]
      refine hq _ _ ?_ (.inr rfl) (hnew.new _)
      exact Sl.ofNew (h := h.new (.cells 2 [])) (flat_len l)

theorem ev28 {v : V} {l : List (Int × Int)} (hf28 : fs 28 = some (.code F28)) (hf : fs 45 = some (.code F45)) (hv : SlG h v l) (_hv1 : v.cells = [v]) (hw : ∀ b x, h.get b = some x → b < h.nx) (hn : l.length ≤ 1000000) {Q : V → Hp → Prop}
    (hq : ∀ x h', SlG h' x l → (x = .nsl ∧ l = [] ∨ ground x = false) → Fr h h' → Q x h') : Ev fs ro 28 [.agg [v]] h Q := by
  refine Ev_fn hf28 rfl rfl rfl rfl ?_
  have hf1 : Fr h (h.new (.cells 0 [v])) := (Fr.refl hw).new _
  have hg1 : (h.new (.cells 0 [v])).get h.nx = some (.cells 0 [v]) := Hp.get_new_same
  refine WP_seq ?_
  refine WP_reg ?_
  refine WPO_op rfl ?_
  simp [V.cells]
  refine WPO_op rfl ?_
  simp
  refine WPO_nil ?_
  simp
  refine WP_seq ?_
  refine WP_reg ?_
  repeat (first | (refine WPO_op rfl ?_; simp [loadV_ptr hg1]; done) | (refine WPO_op rfl ?_; simp [loadV_ptr hg1]))
  refine WPO_call (g := 45) (a := []) (b := []) (args := [v]) rfl rfl ?_
  simp
  refine ev45 hf (Sl.fr hf1 hv) hf1.wf hn fun x h' hs hg hfr => ?_
  have hsR : SlG (if ground x = true then h.new (.cells 0 [v]) else h') x l := by
    rcases hg with ⟨rfl, rfl⟩ | hg
    · exact ⟨rfl, rfl⟩
    · rw [if_neg (by simp [hg])]; exact hs
  have hfR : Fr h (if ground x = true then h.new (.cells 0 [v]) else h') := by
    split
    · exact hf1
    · exact hf1.trans hfr
  generalize (if ground x = true then h.new (.cells 0 [v]) else h') = hR at *
  repeat (first | (refine WPO_op rfl ?_; simp) | (refine WPO_nil ?_; simp))
  simp [WP_ret, F28]
  exact hq x hR hsR hg hfR

theorem ev29 {v : V} {l : List (Int × Int)} (hf29 : fs 29 = some (.code F29)) (hv : SlG h v l) (_hv1 : v.cells = [v]) {Q : V → Hp → Prop}
    (hq : ∀ h', Q (.bool ((l.length : Int) == 0)) h') : Ev fs ro 29 [.agg [v]] h Q := by
  have hlen := hv.lenV
  refine Ev_fn hf29 rfl rfl rfl rfl ?_
  have hg1 : (h.new (.cells 0 [v])).get h.nx = some (.cells 0 [v]) := Hp.get_new_same
  refine WP_seq ?_
  refine WP_reg ?_
  refine WPO_op rfl ?_
  simp [V.cells]
  refine WPO_op rfl ?_
  simp
  refine WPO_nil ?_
  simp
  refine WP_seq ?_
  refine WP_reg ?_
  repeat (first | (refine WPO_op rfl ?_; simp [loadV_ptr hg1, hlen]) | (refine WPO_nil ?_; simp))
  simp [WP_ret, F29]
  simpa using hq _
end Go.Am.S7
