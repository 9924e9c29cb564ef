/- ranges.Of, stepped through. -/
import Derived.Test.YtochmoadmdmcbaaDoorAmX13
namespace Go.Am.S7
open Go
set_option maxRecDepth 100000
variable {fs : Nat → Option D} {ro : Nat} {h : Hp}

theorem ev45o {v : V} {l : List (Int × Int)} (hf : fs 45 = some (.code F45)) (hv : SlG h v l) (hw : ∀ b x, h.get b = some x → b < h.nx) (hn : l.length ≤ 1000000) {Q : V → Hp → Prop}
    (hq : ∀ x h', SlG h' x l → (x = .nsl ∧ l = [] ∨ ground x = false) → Fr h h' → (l = [] ∨ Own h.nx x) → Q x h') : Ev fs ro 45 [v] h Q := by
  refine Ev_fn hf rfl rfl rfl rfl ?_
  have hnew : Fr h (h.new (.cells 2 [])) := (Fr.refl hw).new _
  have hsn : shown (h.new (.cells 2 [])) 2 h.nx 0 0 = some [] := (Sl.ofNew (h := h) (sz := 2) (n := 0) (c := 1) (l := []) rfl).2
  cases v <;> simp only [SlG, Sl] at hv
  case nsl =>
    obtain ⟨hv1, hv2⟩ := hv
    have hl : l = [] := List.eq_nil_of_length_eq_zero hv1
    subst hl
    repeat (first | refine WP_seq ?_ | refine WP_reg ?_ | (refine WPO_op rfl ?_; simp) | (refine WPO_nil ?_; simp))
    refine WP_cond rfl ⟨fun hd => ?_, fun hd => (by cases hd)⟩
    repeat (first | refine WP_seq ?_ | refine WP_reg ?_ | (refine WPO_op rfl ?_; simp) | (refine WPO_nil ?_; simp))
    simp [WP_ret, F45]
    exact hq .nsl h ⟨rfl, rfl⟩ (.inl ⟨rfl, rfl⟩) (Fr.refl hw) (.inl rfl)
  case esl =>
    obtain ⟨hv1, hv2⟩ := hv
    have hl : l = [] := List.eq_nil_of_length_eq_zero hv1
    subst hl
    repeat (first | refine WP_seq ?_ | refine WP_reg ?_ | (refine WPO_op rfl ?_; simp) | (refine WPO_nil ?_; simp))
    refine WP_cond rfl ⟨fun hd => (by cases hd), fun hd => ?_⟩
    simp only [WP_skip, nrmOr_nrm]
    refine WP_seq ?_
    refine WP_reg ?_
    refine WPO_op rfl ?_
    simp [evParts, zeros, fill]
    refine WPO_op rfl ?_
    simp
    refine WPO_op rfl ?_
    simp [op1, app]
    refine WPO_op rfl ?_
    simp
    refine WPO_nil ?_
    simp [WP_ret, F45]
    exact hq _ _ ⟨rfl, hsn⟩ (.inr rfl) hnew (.inl rfl)
  case sl b o n c =>
    obtain ⟨rfl, hs⟩ := hv
    repeat (first | refine WP_seq ?_ | refine WP_reg ?_ | (refine WPO_op rfl ?_; simp) | (refine WPO_nil ?_; simp))
    refine WP_cond rfl ⟨fun hd => (by cases hd), fun hd => ?_⟩
    simp only [WP_skip, nrmOr_nrm]
    have hs2 := shown_fr hnew hs
    refine WP_seq ?_
    refine WP_reg ?_
    refine WPO_op rfl ?_
    simp [evParts, zeros, fill]
    refine WPO_op rfl ?_
    simp
    refine WPO_op rfl ?_
    by_cases hl : l.length = 0
    · have hl' : l = [] := List.eq_nil_of_length_eq_zero hl
      subst hl'
      rw [op1_app (v := .sl h.nx 0 0 1) (b := b) (o := o) (m := 0) (c := c) (v' := .sl h.nx 0 0 1) (h' := h.new (.cells 2 [])) rfl rfl hs2 rfl (by simp [app])]
      simp
      refine WPO_op rfl ?_
      simp
      refine WPO_nil ?_
      simp [WP_ret, F45]
      exact hq _ _ ⟨rfl, hsn⟩ (.inr rfl) hnew (.inl rfl)
    · have happ : app ro (h.new (.cells 2 [])) 2 16 (.sl h.nx 0 0 1) l.length (flat l) = some (.sl (h.new (.cells 2 [])).nx 0 l.length 0, (h.new (.cells 2 [])).new (.cells 2 (flat l))) := by
        simp only [app]
        rw [if_neg hl, if_pos (by unfold roomMax; omega), if_neg (by omega), if_neg (by omega), hsn]
        simp
      rw [op1_app (v := .sl h.nx 0 0 1) (b := b) (o := o) (m := l.length) (c := c) rfl rfl hs2 (flat_one l) happ]
      simp
      refine WPO_op rfl ?_
      simp
      refine WPO_nil ?_
      simp [WP_ret, F45]
      refine hq _ _ ?_ (.inr rfl) (hnew.new _) (.inr (.inr ⟨_, _, _, rfl, by simp⟩))
      exact Sl.ofNew (h := h.new (.cells 2 [])) (flat_len l)


theorem mrg_le1 (out : List Rg) (r : Rg) : (mrg out r).length ≤ out.length + 1 := by
  unfold mrg
  split
  · omega
  · split
    · split
      · simp
      · simp
    · simp
theorem mrgs_le_go : ∀ (l out : List Rg), (l.foldl mrg out).length ≤ out.length + l.length
  | [], out => by simp
  | r :: l, out => by
    have h1 := mrgs_le_go l (mrg out r)
    have h2 := mrg_le1 out r
    simp only [List.foldl_cons, List.length_cons]
    omega
theorem mrgs_le (l : List Rg) : (mrgs l).length ≤ l.length := by
  have := mrgs_le_go l []
  simpa [mrgs] using this

theorem sort_sl {x : V} {l : List Rg} {h0 h2 : Hp} (hf : Fr h0 h2) (hw0 : ∀ b x, h0.get b = some x → b < h0.nx) (hro : ro ≤ h0.nx) (hn : l.length ≤ 1000000) (hs : SlG h2 x l) (hx : l = [] ∨ Own h0.nx x) :
    ∃ hS, orcSort 47 ro [x, .fn (.func 47) [] []] h2 = some (.tup [], hS) ∧ SlG hS x (sortR l) ∧ Fr h0 hS := by
  by_cases hl : l = []
  · subst hl
    have e : sortR ([] : List Rg) = [] := List.eq_nil_of_length_eq_zero (sortR_len [])
    rw [e]
    refine ⟨h2, ?_, hs, hf⟩
    cases x <;> simp only [SlG, Sl] at hs
    · rename_i b o n c
      obtain ⟨hn0, _⟩ := hs
      have : n = 0 := by simpa using hn0
      subst this
      rfl
    · rfl
    · rfl
  · rcases hx with hx | hx
    · exact absurd hx hl
    rcases hx with rfl | ⟨b, o, n, rfl, hb⟩
    · exact absurd (List.eq_nil_of_length_eq_zero hs.1) hl
    obtain ⟨rfl, hsh⟩ := hs
    obtain ⟨L, hg, hle, hfl⟩ := shown_spec hsh
    have hlen : l.length ≠ 0 := fun q => hl (List.eq_nil_of_length_eq_zero q)
    have hload : loadN L o (l.length * 2) = some (flat l) := by
      unfold loadN
      have : Nat.ble (o + l.length * 2) L.length = true := Nat.ble_eq_true_of_le hle
      rw [this]
      simp only [cond_true, Option.some.injEq]
      exact hfl.symm
    have hset : setN L o (flat (sortR l)) = some (L.take o ++ (flat (sortR l) ++ L.drop (o + (flat (sortR l)).length))) := by
      unfold setN
      have : Nat.ble (o + (flat (sortR l)).length) L.length = true := Nat.ble_eq_true_of_le (by rw [flat_len, sortR_len]; exact hle)
      rw [this]
      rfl
    refine ⟨h2.set b (.cells 2 (L.take o ++ (flat (sortR l) ++ L.drop (o + (flat (sortR l)).length)))), ?_, ?_, hf.set hw0 hb hg _⟩
    · simp only [orcSort]
      rw [if_neg hlen, if_pos ⟨trivial, by omega, hn⟩, hg]
      simp [hload, rgs_flat, hset]
    · refine ⟨by rw [sortR_len], ?_⟩
      have hfl2 := flat_len (sortR l)
      rw [sortR_len] at hfl2
      rw [sortR_len, shown_mk (Hp.get_set_same hg) (by simp only [List.length_append, List.length_take, List.length_drop]; omega)]
      congr 1
      rw [List.drop_append_of_le_length (by simp; omega), List.drop_of_length_le (by simp; omega), List.nil_append, List.take_append_of_le_length (by omega), List.take_of_length_le (by omega)]

def ofL (l : List Rg) : List Rg := if l.all okR = true then mrgs (sortR l) else []
def ofE (l : List Rg) : Int := if l.all okR = true then 0 else 2

theorem any_not : ∀ l : List Rg, l.any (fun p => !okR p) = !(l.all okR)
  | [] => rfl
  | p :: l => by simp [any_not l]

theorem ev26 {v : V} {l : List Rg} (hf : fs 26 = some (.code F26)) (hf34 : fs 34 = some (.code F34)) (hf52 : fs 52 = some (.code F52)) (hf43 : fs 43 = some (.code F43)) (hf44 : fs 44 = some (.code F44)) (hf45 : fs 45 = some (.code F45)) (hf46 : fs 46 = some (.orc (orcSort 47))) (hf25 : fs 25 = some (.code F25))
    (hv : SlG h v l) (hw : ∀ b x, h.get b = some x → b < h.nx) (hro : ro ≤ h.nx) (hn : l.length ≤ 1000) {Q : V → Hp → Prop}
    (hq : ∀ x h', SlG h' x (ofL l) → Own h.nx x → Fr h h' → Q (.tup [.agg [x], .int .i64 (ofE l)]) h') : Ev fs ro 26 [v] h Q := by
  refine Ev_fn hf rfl rfl rfl rfl ?_
  have hf1 : Fr h (h.new (.cells 0 [.nsl])) := (Fr.refl hw).new _
  have hg1 : (h.new (.cells 0 [.nsl])).get h.nx = some (.cells 0 [.nsl]) := Hp.get_new_same
  refine WP_seq ?_
  refine WP_reg ?_
  refine WPO_op rfl ?_
  simp
  refine WPO_op rfl ?_
  simp
  refine WPO_nil ?_
  simp
  have hnx1 : h.nx < (h.new (.cells 0 [.nsl])).nx := by simp
  generalize (h.new (.cells 0 [.nsl])) = h1 at *
  have hv1 : SlG h1 v l := Sl.fr hf1 hv
  refine WP_seq ?_
  refine WP_seq ?_
  refine WP_reg ?_
  refine WPO_op rfl ?_
  simp
  refine WPO_call (g := 34) (a := []) (b := []) (args := [v, .fn (.func 43) [] []]) rfl rfl ?_
  simp
  refine ev34g hf34 hf52 (f := fun p => !okR p) hv1 (fun p {Q} hq => ev43 hf43 hf44 hq) hf1.wf (by omega) fun h' => ?_
  rw [any_not]
  simp
  refine WPO_nil ?_
  simp
  refine WP_cond rfl ⟨fun hd => ?_, fun hd => ?_⟩
  · have hb : l.all okR = false := by simpa using hd
    refine WP_seq ?_
    refine WP_reg ?_
    refine WPO_op rfl ?_
    simp [evParts, fill]
    refine WPO_op rfl ?_
    refine OB_store (b := h.nx) (o := 0) (v := V.agg [.nsl]) (l' := [.nsl]) rfl rfl (by omega) rfl rfl hg1 rfl ?_
    simp
    refine WPO_op rfl ?_
    simp
    refine WPO_nil ?_
    simp [WP_ret, F26]
    have hg2 : (h1.set h.nx (.cells 0 [.nsl])).get h.nx = some (.cells 0 [.nsl]) := Hp.get_set_same hg1
    simp [loadV_ptr hg2, loadN]
    have := hq .nsl (h1.set h.nx (.cells 0 [.nsl])) (by simp only [ofL, hb]; exact ⟨rfl, rfl⟩) (.inl rfl) (hf1.set hw (Nat.le_refl _) hg1 _)
    simpa [ofE, hb, pack] using this
  · have hb : l.all okR = true := by simpa using hd
    simp only [WP_skip, nrmOr_nrm]
    refine WP_seq ?_
    refine WP_reg ?_
    refine WPO_op rfl ?_
    simp
    refine WPO_call (g := 45) (a := []) (b := []) (args := [v]) rfl rfl ?_
    simp
    refine ev45o hf45 hv1 hf1.wf (by omega) fun x h2 hsx hgx hfx hox => ?_
    obtain ⟨hsR, hfR⟩ : SlG (if ground x = true then h1 else h2) x l ∧ Fr h1 (if ground x = true then h1 else h2) := by
      rcases hgx with ⟨rfl, rfl⟩ | hgx
      · exact ⟨⟨rfl, rfl⟩, Fr.refl hf1.wf⟩
      · rw [hgx]
        exact ⟨hsx, hfx⟩
    generalize (if ground x = true then h1 else h2) = hR at *
    refine WPO_op rfl ?_
    simp
    refine WPO_nil ?_
    simp
    obtain ⟨hS, hrun, hsS, hfS⟩ := sort_sl (ro := ro) hfR hf1.wf (by omega) (by omega) hsR hox
    refine WP_seq ?_
    refine WP_reg ?_
    refine WPO_op rfl ?_
    simp
    refine WPO_call (g := 46) (a := []) (b := []) (args := [x, .fn (.func 47) [] []]) rfl rfl ?_
    simp
    refine Ev_orc hf46 (r := .tup []) (h' := hS) hrun ?_
    refine WPO_nil ?_
    simp
    refine WP_seq ?_
    refine WP_reg ?_
    refine WPO_op rfl ?_
    simp
    refine WPO_call (g := 25) (a := []) (b := []) (args := [x]) rfl rfl ?_
    simp
    have hle := mrgs_le (sortR l)
    rw [sortR_len] at hle
    refine ev25 hf25 hsS hfS.wf (Nat.le_refl _) (by rw [sortR_len]; omega) fun y h3 hsy hoy hfy => ?_
    have hmv : madeV (mrgs (sortR l)) y = .tup [.agg [y], .int .i64 0] := by
      unfold madeV
      rw [if_neg (by omega)]
    rw [hmv]
    obtain ⟨hsT, hfT⟩ := aft (k := .i64) (n := 0) hfS.wf hsy hoy hfy (.inl rfl)
    generalize (if ground (V.tup [V.agg [y], V.int .i64 0]) = true then hS else h3) = hT at *
    have hg2 := hfT.sub _ _ (hfS.sub _ _ hg1)
    obtain ⟨hyc1, hyc2⟩ := hoy.cells
    refine WPO_op rfl ?_
    simp [op1]
    refine WPO_op rfl ?_
    simp [op1]
    refine WPO_op rfl ?_
    refine OB_store (b := h.nx) (o := 0) (v := V.agg [y]) (l' := [y]) rfl rfl (by omega) rfl (by simp [V.cells, hyc2]) hg2 rfl ?_
    simp
    refine WPO_op rfl ?_
    simp
    refine WPO_nil ?_
    simp [WP_ret, F26]
    have hg3 : (hT.set h.nx (.cells 0 [y])).get h.nx = some (.cells 0 [y]) := Hp.get_set_same hg2
    have hfinal : Fr h (hT.set h.nx (.cells 0 [y])) := ((hf1.trans hfS).trans hfT).set hw (Nat.le_refl _) hg2 _
    have hown : Own h.nx y := hoy.mono (by have := hfS.nx; omega)
    have hsy2 : SlG (hT.set h.nx (.cells 0 [y])) y (mrgs (sortR l)) := Sl.set_ne hsT hoy (by have := hfS.nx; omega) _
    simp [loadV_ptr hg3, loadN]
    have := hq y _ (by simp only [ofL, hb, if_true]; exact hsy2) hown hfinal
    simpa [ofE, hb, pack] using this
end Go.Am.S7
