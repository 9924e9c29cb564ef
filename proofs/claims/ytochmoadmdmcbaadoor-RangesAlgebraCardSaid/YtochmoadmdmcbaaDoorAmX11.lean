/- The program's functions, stepped through in the plain machine. -/
import Derived.Test.YtochmoadmdmcbaaDoorAmX9
namespace Go.Am.S7
open Go
set_option maxRecDepth 100000
variable {fs : Nat → Option D} {ro : Nat} {h : Hp}

theorem aft {h h2 : Hp} {x y : V} {l : List (Int × Int)} {lo : Nat} (hw : ∀ b x, h.get b = some x → b < h.nx) (hs : SlG h2 x l) (ho : Own lo x) (hf : Fr h h2) (hy : y = .agg [x] ∨ y = x) {k : IntKind} {n : Int} :
    SlG (if ground (.tup [y, .int k n]) = true then h else h2) x l ∧ Fr h (if ground (.tup [y, .int k n]) = true then h else h2) := by
  refine ⟨?_, ?_⟩
  · rcases ho with rfl | ⟨b, o, m, rfl, _⟩
    · have hl : l = [] := List.eq_nil_of_length_eq_zero hs.1
      subst hl
      exact ⟨rfl, rfl⟩
    · rw [if_neg (by rcases hy with rfl | rfl <;> simp [ground, g1, g0])]
      exact hs
  · split
    · exact Fr.refl hw
    · exact hf

set_option maxHeartbeats 1000000 in
theorem ev5 {va vb : V} {la lb : List Int} (hf5 : fs 5 = some (.code F5)) (hf9 : fs 9 = some (.code F9)) (hf25 : fs 25 = some (.code F25)) (hf10 : fs 10 = some (.code F10)) (hf11 : fs 11 = some (.orc orcKnown)) (hf12 : fs 12 = some (.code F12)) (hf28 : fs 28 = some (.code F28)) (hf45 : fs 45 = some (.code F45)) (hf29 : fs 29 = some (.code F29)) (hf30 : fs 30 = some (.code F30)) (hf31 : fs 31 = some (.code F31)) (hf14 : fs 14 = some (.code F14)) (hf34 : fs 34 = some (.code F34)) (hf52 : fs 52 = some (.code F52)) (hf35 : fs 35 = some (.code F35))
    (ha : SlI h va la) (hb : SlI h vb lb) (sa : Shape va) (sb : Shape vb) (hw : ∀ b x, h.get b = some x → b < h.nx) (hro : ro ≤ h.nx) {Q : V → Hp → Prop} (hq : ∀ h', Q (.bool true) h') : Ev fs ro 5 [va, vb] h Q := by
  have hla := ha.lenV
  have hlb := hb.lenV
  refine Ev_fn hf5 rfl rfl rfl rfl ?_
  refine WP_seq ?_
  refine WP_reg ?_
  repeat (first | (refine WPO_op rfl ?_; simp) | (refine WPO_nil ?_; simp))
  have hmA : (if (300 : Int) < (la.length : Int) then (300 : Int) else la.length) = (if 300 < la.length then 300 else (la.length : Int)) := by split <;> split <;> omega
  have hmB : (if (300 : Int) < (lb.length : Int) then (300 : Int) else lb.length) = (if 300 < lb.length then 300 else (lb.length : Int)) := by split <;> split <;> omega
  refine WP_mid (fun e' h' => h = h' ∧ ∃ a b, SlI h a (la.take 300) ∧ SlI h b (lb.take 300) ∧ e' = [(0, a), (1, b)]) ?_ ?_
  · refine WP_reg ?_
    repeat (first | (refine WPO_op rfl ?_; simp [hla, mins, fold2, min2]; done) | (refine WPO_op rfl ?_; simp [hla, mins, fold2, min2]))
    obtain ⟨a, ea, hsa⟩ := slice300 (ro := ro) (e := [(0, va), (1, vb), (11, va), (12, va), (13, V.int .i64 ↑la.length), (14, V.int .i64 (if (300 : Int) < ↑la.length then 300 else ↑la.length))]) (x := .t 11) (y := .t 14) ha sa rfl (by rw [← hmA]; rfl)
    rw [ea, OB_some]
    simp
    repeat (first | (refine WPO_op rfl ?_; simp [hlb, mins, fold2, min2]; done) | (refine WPO_op rfl ?_; simp [hlb, mins, fold2, min2]))
    obtain ⟨b, eb, hsb⟩ := slice300 (ro := ro) (e := [(0, va), (1, vb), (11, va), (12, va), (13, V.int .i64 ↑la.length), (14, V.int .i64 (if (300 : Int) < ↑la.length then 300 else ↑la.length)), (15, a), (16, vb), (17, vb), (18, V.int .i64 ↑lb.length), (19, V.int .i64 (if (300 : Int) < ↑lb.length then 300 else ↑lb.length))]) (x := .t 16) (y := .t 19) hb sb rfl (by rw [← hmB]; rfl)
    rw [eb, OB_some]
    simp
    repeat (first | (refine WPO_op rfl ?_; simp) | (refine WPO_nil ?_; simp))
    exact ⟨hsa, hsb⟩
  rintro e' h' ⟨rfl, a, b, hsa, hsb, rfl⟩
  have hln : (la.take 300).length ≤ 300 := by simp; omega
  have hlm : (lb.take 300).length ≤ 300 := by simp; omega
  clear hla hlb ha hb hmA hmB sa sb
  generalize la.take 300 = ca at *
  generalize lb.take 300 = cb at *
  have hla := hsa.lenV
  have hlb := hsb.lenV
  generalize hM : max ca.length cb.length = M at *
  have hM3 : M ≤ 300 := by omega
  have hml := mrgs_len ca cb M
  have hcL : chL ca cb = mrgs (chs ca cb M) := by
    unfold chL
    rw [hM, if_neg (by omega), if_neg (by omega)]
  have hcE : chE ca cb = 0 := by
    unfold chE
    rw [hM, if_neg (by omega), if_neg (by omega)]
  refine WP_seq ?_
  refine WP_reg ?_
  repeat (first | (refine WPO_op rfl ?_; simp; done) | (refine WPO_op rfl ?_; simp))
  refine WPO_call (g := 9) (a := []) (b := []) (args := [a, b]) rfl rfl ?_
  simp
  refine ev9 hf9 hf25 hsa hsb hw (Nat.le_refl _) fun x h2 hsx hox hfx => ?_
  obtain ⟨hsR, hfR⟩ := aft (k := .i64) (n := chE ca cb) hw hsx hox hfx (.inl rfl)
  generalize (if ground (V.tup [V.agg [x], V.int .i64 (chE ca cb)]) = true then h else h2) = hR at *
  clear hfx hsx
  obtain ⟨hxc1, hxc2⟩ := hox.cells
  have hg5 : (hR.new (.cells 0 [.nsl])).get hR.nx = some (.cells 0 [.nsl]) := Hp.get_new_same
  have hfn : Fr hR ((hR.new (.cells 0 [.nsl])).set hR.nx (.cells 0 [x])) := ((Fr.refl hfR.wf).new _).set hfR.wf (Nat.le_refl _) hg5 _
  have hg6 : ((hR.new (.cells 0 [.nsl])).set hR.nx (.cells 0 [x])).get hR.nx = some (.cells 0 [x]) := Hp.get_set_same hg5
  refine WPO_op rfl ?_
  simp
  refine WPO_op rfl ?_
  simp [op1]
  refine WPO_op rfl ?_
  simp [op1]
  refine WPO_op rfl ?_
  simp
  refine WPO_op rfl ?_
  refine OB_store (b := hR.nx) (o := 0) (v := V.agg [x]) (l' := [x]) rfl rfl (by have := hfR.nx; omega) rfl (by simp [V.cells, hxc2]) hg5 rfl ?_
  generalize ((hR.new (.cells 0 [.nsl])).set hR.nx (.cells 0 [x])) = hS at *
  have hfS := hfR.trans hfn
  have hsS : SlG hS x (chL ca cb) := Sl.fr hfn hsR
  have hsa2 : SlI hS a ca := Sl.fr hfS hsa
  have hsb2 : SlI hS b cb := Sl.fr hfS hsb
  simp
  repeat (first | (refine WPO_op rfl ?_; simp) | (refine WPO_nil ?_; simp))
  refine WP_seq ?_
  refine WP_reg ?_
  repeat (first | (refine WPO_op rfl ?_; simp; done) | (refine WPO_op rfl ?_; simp))
  refine WPO_call (g := 10) (a := []) (b := []) (args := [a, b]) rfl rfl ?_
  simp
  refine ev10 hf10 hsa2 hsb2 hfS.wf (Nat.le_refl _) fun y h3 hsy hoy hfy => ?_
  obtain ⟨hsT, hfT⟩ := aft (k := .i64) (n := chE ca cb) hfS.wf hsy hoy hfy (.inr rfl)
  generalize (if ground (V.tup [y, V.int .i64 (chE ca cb)]) = true then hS else h3) = hT at *
  have hg7 := hfT.sub _ _ hg6
  have hfU := hfS.trans hfT
  have hsx3 : SlG hT x (chL ca cb) := Sl.fr hfT hsS
  have hsa3 : SlI hT a ca := Sl.fr hfT hsa2
  have hsb3 : SlI hT b cb := Sl.fr hfT hsb2
  refine WPO_op rfl ?_
  simp
  refine WPO_op rfl ?_
  simp [op1]
  refine WPO_op rfl ?_
  simp [op1]
  repeat (first | (refine WPO_op rfl ?_; simp) | (refine WPO_nil ?_; simp))
  refine WP_seq ?_
  refine WP_seq ?_
  refine WP_reg ?_
  refine WPO_call (g := 11) (a := []) (b := []) (args := []) rfl rfl ?_
  refine Ev_orc hf11 (r := .bool true) (h' := hT) rfl ?_
  simp
  repeat (first | (refine WPO_op rfl ?_; simp [hcE]) | (refine WPO_gop rfl ?_; simp [loadV_ptr hg7, loadN]))
  refine WPO_gcall ?_
  simp
  refine WPO_call (g := 12) (a := []) (b := []) (args := [.agg [x], y]) rfl rfl ?_
  simp
  refine ev12 hf12 hf28 hf45 hf29 hf30 hf31 hsx3 hxc1 hsT hfU.wf (by rw [hcL]; omega) (by rw [hcL]; exact fine_chs _ _ _ (by omega)) fun h4 => ?_
  simp
  repeat (first | (refine WPO_op rfl ?_; simp) | (refine WPO_gop rfl ?_; simp) | (refine WPO_nil ?_; simp))
  refine WP_cond rfl ⟨fun hd => (by cases hd), fun hd => ?_⟩
  simp only [WP_skip, nrmOr_nrm]
  repeat (first | refine WP_seq ?_ | refine WP_reg ?_ | (refine WPO_op rfl ?_; simp; done) | (refine WPO_op rfl ?_; simp) | (refine WPO_nil ?_; simp))
  refine WP_block ?_
  refine WP_loop (fun m e h1 => ∃ i vo, m = cb.length - i ∧ i ≤ cb.length ∧ SlI h1 vo (cb.take i) ∧ Own hT.nx vo ∧ Fr hT h1 ∧ e = [(0, a), (1, b), (5, .ptr hR.nx 0), (9, vo), (10, .int .i64 i)]) cb.length ⟨0, .nsl, by simp, by omega, ⟨by simp, rfl⟩, .inl rfl, Fr.refl hfU.wf, rfl⟩ ?_
  rintro m e h1 ⟨i, vo, rfl, hi, hvo, hown, hfr, rfl⟩
  refine WP_seq ?_
  refine WP_seq ?_
  refine WP_reg ?_
  repeat (first | (refine WPO_op rfl ?_; simp [hlb]) | (refine WPO_nil ?_; simp))
  refine WP_cond rfl ⟨fun ht => ?_, fun ht => ?_⟩
  · have hic : i < cb.length := by simpa using ht
    have hwr : IntKind.wrap .i64 ((i : Int) + 1) = (i : Int) + 1 := wrap_i64 (by omega) (by omega)
    simp only [WP_skip, nrmOr_nrm]
    refine WP_mid (fun e' h' => ∃ vo3, SlI h' vo3 (cb.take (i + 1)) ∧ Own hT.nx vo3 ∧ Fr hT h' ∧ e'.get 0 = some a ∧ e'.get 1 = some b ∧ e'.get 5 = some (.ptr hR.nx 0) ∧ e'.get 9 = some vo3 ∧ e'.get 10 = some (.int .i64 i)) ?_ ?_
    rotate_left
    · rintro e' h' ⟨vo3, g1, g2, g3, e0, e1, e5, e9, e10⟩
      repeat (first | refine WP_reg ?_ | (refine WPO_op rfl ?_; simp [e10]) | (refine WPO_nil ?_; simp [e0, e1, e5, e9]))
      refine ⟨cb.length - (i + 1), by omega, i + 1, rfl, by omega, vo3, g1, g2, g3, rfl, ?_⟩
      rw [hwr]
      omega
    refine WP_block ?_
    refine WP_block ?_
    have hg8 := hfr.sub _ _ hg7
    have hsx4 : SlG h1 x (chL ca cb) := Sl.fr hfr hsx3
    refine WP_seq ?_
    refine WP_reg ?_
    repeat (first | (refine WPO_op rfl ?_; simp [loadV_ptr hg8, loadN]; done) | (refine WPO_op rfl ?_; simp [loadV_ptr hg8, loadN]))
    refine WPO_call (g := 14) (a := []) (b := []) (args := [.agg [x], .int .i64 i]) rfl rfl ?_
    simp
    refine ev14 hf14 hf34 hf52 hf35 hsx4 hxc1 hfr.wf (by rw [hcL]; omega) fun h4 => ?_
    have hany : (chL ca cb).any (hasP i) = chg ca cb i := by
      rw [hcL, (has_chg ca cb i M).1]
      have : i < M := by omega
      simp [this]
    rw [hany]
    simp
    repeat (first | (refine WPO_op rfl ?_; simp) | (refine WPO_nil ?_; simp))
    refine WP_cond rfl ⟨fun hd => ?_, fun hd => ?_⟩
    · obtain ⟨b1, o1, k1, L1, rfl, y1, z1⟩ := SlI.at (h := h1) (l := cb) (Sl.fr hfr hsb3) hic
      obtain ⟨v', h5, hap, hs5, ho5, hf5, hsh⟩ := app_byte (ro := ro) (x := cb[i]) hfU.wf (by have := hfU.nx; omega) hfr hvo hown (by simp; omega)
      refine WP_reg ?_
      refine WPO_op rfl ?_
      simp
      refine WPO_op rfl ?_
      simp
      refine WPO_op rfl ?_
      simp
      refine WPO_op rfl ?_
      simp [hic]
      refine WPO_op rfl ?_
      simp [loadV_ptr y1, z1]
      refine WPO_op rfl ?_
      simp [evParts, zeros, fill, V.cells, setN]
      refine WPO_op rfl ?_
      rw [op1_app (v := vo) (b := h1.nx) (o := 0) (m := 1) (c := 2) (h' := h5) rfl rfl hsh rfl hap]
      simp
      refine WPO_op rfl ?_
      simp
      refine WPO_nil ?_
      simp
      rw [List.take_succ_eq_append_getElem hic]
      exact ⟨v', hs5, ho5, hf5, rfl⟩
    · have hcc : i < ca.length ∧ ca.getD i 0 = cb[i] := by
        simp only [chg, Bool.or_eq_false_iff, decide_eq_false_iff_not, bne_eq_false_iff_eq] at hd
        refine ⟨by omega, ?_⟩
        rw [hd.2, List.getD_eq_getElem?_getD, List.getElem?_eq_getElem hic]
        rfl
      obtain ⟨hia, hce⟩ := hcc
      obtain ⟨b1, o1, k1, L1, rfl, y1, z1⟩ := SlI.at (h := h1) (l := ca) (Sl.fr hfr hsa3) hia
      have hce2 : ca[i] = cb[i] := by rw [← hce, List.getD_eq_getElem?_getD, List.getElem?_eq_getElem hia]; rfl
      rw [hce2] at z1
      refine WP_seq ?_
      refine WP_reg ?_
      repeat (first | (refine WPO_op rfl ?_; simp [hia]) | (refine WPO_nil ?_; simp))
      refine WP_cond rfl ⟨fun hd => ?_, fun hd => (by cases hd)⟩
      obtain ⟨v', h5, hap, hs5, ho5, hf5, hsh⟩ := app_byte (ro := ro) (x := cb[i]) hfU.wf (by have := hfU.nx; omega) hfr hvo hown (by simp; omega)
      refine WP_reg ?_
      refine WPO_op rfl ?_
      simp
      refine WPO_op rfl ?_
      simp
      refine WPO_op rfl ?_
      simp
      refine WPO_op rfl ?_
      simp [hia]
      refine WPO_op rfl ?_
      simp [loadV_ptr y1, z1]
      refine WPO_op rfl ?_
      simp [evParts, zeros, fill, V.cells, setN]
      refine WPO_op rfl ?_
      rw [op1_app (v := vo) (b := h1.nx) (o := 0) (m := 1) (c := 2) (h' := h5) rfl rfl hsh rfl hap]
      simp
      refine WPO_op rfl ?_
      simp
      refine WPO_nil ?_
      simp
      rw [List.take_succ_eq_append_getElem hic]
      exact ⟨v', hs5, ho5, hf5, rfl⟩
  · have hi' : i = cb.length := by
      have : ¬ (i < cb.length) := by simpa using ht
      omega
    subst hi'
    rw [List.take_length] at hvo
    simp only [WP_exit, nrmOr_exit, blkQ_exit, if_pos, nrmOr_nrm]
    refine WP_seq ?_
    refine WP_reg ?_
    refine WPO_op rfl ?_
    simp
    refine WPO_op rfl ?_
    rw [ofBytes (v := vo) hvo rfl, OB_some]
    simp
    refine WPO_op rfl ?_
    simp
    refine WPO_op rfl ?_
    rw [ofBytes (v := b) (l := cb) (Sl.fr hfr hsb3) rfl, OB_some]
    simp
    repeat (first | (refine WPO_op rfl ?_; simp) | (refine WPO_nil ?_; simp))
    simp [WP_ret, F5]
    exact hq h1
end Go.Am.S7
