/- The program's combine, stepped through. -/
import Derived.Test.YtochmoadmdmcbaaDoorAmC4
namespace Go.Am.S7
open Go
set_option maxRecDepth 100000
set_option linter.unusedSimpArgs false
set_option linter.unusedVariables false
variable {fs : Nat → Option D} {ro : Nat} {h : Hp} {e : Env}

/-- What a pointer into a set stands behind. -/
def Past (a : List Rg) (c : List Int) (i n : Nat) : Prop := i ≤ a.length ∧ ∀ p ∈ a.take i, ∀ (j : Nat) (x : Int), n ≤ j → c[j]? = some x → p.2 ≤ x

set_option maxHeartbeats 4000000 in
theorem ev38 {v w : V} {a b : List Rg} {g : Nat} {f : Bool → Bool → Bool} (hf : fs 38 = some (.code F38)) (hf45 : fs 45 = some (.code F45)) (hf54 : fs 54 = some (.orc orcSortI)) (hf55 : fs 55 = some (.orc orcCmp))
    (hcl : ∀ {x y : Bool} {h : Hp} {Q : V → Hp → Prop}, (∀ h', Q (.bool (f x y)) h') → Ev fs h.nx g [.bool x, .bool y] h Q) (hff : f false false = false)
    (hv : SlG h v a) (hw' : SlG h w b) (hv1 : v.cells = [v]) (hw1 : w.cells = [w]) (hNa : Norm a) (hNb : Norm b) (hna : a.length ≤ 200) (hnb : b.length ≤ 200)
    (hw : ∀ b x, h.get b = some x → b < h.nx) (hro : ro ≤ h.nx) {Q : V → Hp → Prop} (hq : ∀ x h', SlG h' x (segs f a b (cutsL a b)) → Own h.nx x → Fr h h' → Q x h') : Ev fs ro 38 [.agg [v], .agg [w], .fn (.func g) [] []] h Q := by
  refine Ev_fn hf rfl rfl rfl rfl ?_
  refine WP_seq ?_
  refine WP_reg ?_
  refine WPO_op rfl ?_
  simp [V.cells]
  refine WPO_op rfl ?_
  simp [V.cells]
  refine WPO_op rfl ?_
  simp
  refine WPO_nil ?_
  simp
  have hf2 : Fr h ((h.new (.cells 0 [v])).new (.cells 0 [w])) := ((Fr.refl hw).new _).new _
  have hg3 : ((h.new (.cells 0 [v])).new (.cells 0 [w])).get h.nx = some (.cells 0 [v]) := by rw [Hp.get_new_ne (by simp)]; exact Hp.get_new_same
  have hg4 : ((h.new (.cells 0 [v])).new (.cells 0 [w])).get (h.nx + 1) = some (.cells 0 [w]) := Hp.get_new_same (h := h.new (.cells 0 [v]))
  have hnx2 : ((h.new (.cells 0 [v])).new (.cells 0 [w])).nx = h.nx + 2 := by simp
  generalize ((h.new (.cells 0 [v])).new (.cells 0 [w])) = h2 at *
  have hv2 : SlG h2 v a := Sl.fr hf2 hv
  have hw2 : SlG h2 w b := Sl.fr hf2 hw'
  have hro2 : ro ≤ h2.nx := by omega
  refine WP_seq ?_
  refine WP_reg ?_
  refine WPO_op rfl ?_
  simp
  refine WPO_nil ?_
  simp
  -- the places where they begin or end
  refine WP_mid (fun e' h' => ∃ vo, SlJ h' vo (ends (a ++ b)) ∧ Own h2.nx vo ∧ Fr h2 h' ∧ e'.get 2 = some (.fn (.func g) [] []) ∧ e'.get 3 = some (.ptr h.nx 0) ∧ e'.get 4 = some (.ptr (h.nx + 1) 0) ∧ e'.get 7 = some vo) ?_ ?_
  · refine WP_seq ?_
    refine WP_reg ?_
    repeat (first | (refine WPO_op rfl ?_; simp [loadV_ptr hg3, loadV_ptr hg4]; done) | (refine WPO_op rfl ?_; simp [loadV_ptr hg3, loadV_ptr hg4]))
    refine WPO_call (g := 45) (a := []) (b := []) (args := [v]) rfl rfl ?_
    simp
    refine ev45n hf45 hv2 hf2.wf (by omega) fun x h3 hsx hgx hfx hnx => ?_
    obtain ⟨hsR, hfR⟩ : SlG (if ground x = true then h2 else h3) x a ∧ Fr h2 (if ground x = true then h2 else h3) := by
      rcases hgx with ⟨rfl, rfl⟩ | hgx
      · exact ⟨⟨rfl, rfl⟩, Fr.refl hf2.wf⟩
      · rw [hgx]
        exact ⟨hsx, hfx⟩
    generalize (if ground x = true then h2 else h3) = hR at *
    have hwR : SlG hR w b := Sl.fr hfR hw2
    obtain ⟨u, hU, hau, hsu, hfU⟩ := app_nx (ro := ro) (t := b) hf2.wf hro2 hfR hsR hnx (by omega)
    have hlu := hsu.lenV
    refine WPO_op rfl ?_
    refine OB_appG (v := x) (y := w) (t := b) rfl rfl hwR hau ?_
    simp
    refine WPO_op rfl ?_
    simp [hlu]
    refine WPO_nil ?_
    simp
    have hab : (a ++ b).length ≤ 400 := by rw [List.length_append]; omega
    have hin : ((a.length : Int) + (b.length : Int)) = ((a ++ b).length : Nat) := by rw [List.length_append]; omega
    generalize hAB : a ++ b = ab at *
    refine WP_block ?_
    refine WP_loop (fun m e h1 => ∃ i vo, m = ab.length - i ∧ i ≤ ab.length ∧ SlJ h1 vo (ends (ab.take i)) ∧ Own hU.nx vo ∧ Fr hU h1 ∧ e = [(2, .fn (.func g) [] []), (3, .ptr h.nx 0), (4, .ptr (h.nx + 1) 0), (7, vo), (20, u), (21, .int .i64 (ab.length : Nat)), (22, .int .i64 (i : Nat))]) ab.length ⟨0, .nsl, by omega, by omega, ⟨by simp [ends], by simp [ends, intsV]⟩, .inl rfl, Fr.refl hfU.wf, by simp [hin]⟩ ?_
    rintro m e h1 ⟨i, vo, rfl, hi, hvo, hown, hfr, rfl⟩
    refine WP_seq ?_
    refine WP_reg ?_
    repeat (first | (refine WPO_op rfl ?_; simp; done) | (refine WPO_op rfl ?_; simp) | (refine WPO_nil ?_; simp))
    refine WP_seq ?_
    refine WP_cond rfl ⟨fun ht => ?_, fun ht => ?_⟩
    · have hi' : i < ab.length := by simpa using ht
      obtain ⟨b0, o0, c0, L, rfl, hg, q1, q2⟩ := SlG.at (h := h1) (l := ab) (Sl.fr hfr hsu) (List.getElem?_eq_getElem hi')
      have hwr : IntKind.wrap .i64 ((i : Int) + 1) = ((i + 1 : Nat) : Int) := by rw [wrap_i64 (by omega) (by omega)]; omega
      have hsn : ends (ab.take (i + 1)) = ends (ab.take i) ++ [ab[i].1, ab[i].2] := by rw [List.take_succ_eq_append_getElem hi', ends_snoc]
      have hel : (ends (ab.take i)).length ≤ 800 := by rw [ends_len, List.length_take]; omega
      generalize ab[i] = r at *
      simp only [WP_skip, nrmOr_nrm]
      refine WP_seq ?_
      refine WP_block ?_
      refine WP_seq ?_
      refine WP_reg ?_
      refine WPO_op rfl ?_
      simp [hi']
      refine WPO_op rfl ?_
      simp [loadV_ptr hg, loadN_two q1 q2]
      refine WPO_op rfl ?_
      simp
      have hgr : (h1.new (.cells 0 [.int .i64 0, .int .i64 0])).get h1.nx = some (.cells 0 [.int .i64 0, .int .i64 0]) := Hp.get_new_same
      have hfn : Fr h1 ((h1.new (.cells 0 [.int .i64 0, .int .i64 0])).set h1.nx (.cells 0 [V.int .i64 r.1, V.int .i64 r.2])) := ((Fr.refl hfr.wf).new _).set hfr.wf (Nat.le_refl _) hgr _
      have hg2 : ((h1.new (.cells 0 [.int .i64 0, .int .i64 0])).set h1.nx (.cells 0 [V.int .i64 r.1, V.int .i64 r.2])).get h1.nx = some (.cells 0 [V.int .i64 r.1, V.int .i64 r.2]) := Hp.get_set_same hgr
      have hroU : ro ≤ hU.nx := by have := hfU.nx; omega
      refine WPO_op rfl ?_
      refine OB_store (b := h1.nx) (o := 0) (v := V.agg [V.int .i64 r.1, V.int .i64 r.2]) (l' := [V.int .i64 r.1, V.int .i64 r.2]) rfl rfl (by have := hfr.nx; omega) rfl rfl hgr rfl ?_
      generalize ((h1.new (.cells 0 [.int .i64 0, .int .i64 0])).set h1.nx (.cells 0 [V.int .i64 r.1, V.int .i64 r.2])) = h5 at *
      have hfr5 := hfr.trans hfn
      have hvo5 : SlJ h5 vo (ends (ab.take i)) := Sl.fr hfn hvo
      simp
      refine WPO_nil ?_
      simp
      refine WP_reg ?_
      repeat (first | (refine WPO_op rfl ?_; simp [loadV_ptr hg2]; done) | (refine WPO_op rfl ?_; simp [loadV_ptr hg2]))
      simp [evParts, zeros, fill, V.cells, setN]
      have hf6 := hfr5.new (.cells 1 [V.int .i64 r.1, V.int .i64 r.2])
      have hvo6 : SlJ (h5.new (.cells 1 [V.int .i64 r.1, V.int .i64 r.2])) vo (ends (ab.take i)) := Sl.fr ((Fr.refl hfr5.wf).new _) hvo5
      obtain ⟨v', h', ha, hs, ho, hfa⟩ := app_manyJ (ro := ro) (t := [r.1, r.2]) hfU.wf hroU hf6 hvo6 hown (by simp; omega)
      refine WPO_op rfl ?_
      refine OB_appJ (v := vo) (y := .sl h5.nx 0 2 3) (t := [r.1, r.2]) rfl rfl (Sl.ofNew (h := h5) (sz := 1) (n := 2) (c := 3) (l := [V.int .i64 r.1, V.int .i64 r.2]) rfl) ha ?_
      simp
      refine WPO_op rfl ?_
      simp
      refine WPO_nil ?_
      simp
      repeat (first | refine WP_reg ?_ | (refine WPO_op rfl ?_; simp; done) | (refine WPO_op rfl ?_; simp) | (refine WPO_nil ?_; simp))
      refine ⟨ab.length - (i + 1), by omega, i + 1, rfl, by omega, v', ?_, ho, hfa, rfl, ?_⟩
      · rw [hsn]; exact hs
      · rw [hwr]
    · have hi' : i = ab.length := by
        have : ¬ (i < ab.length) := by simpa using ht
        omega
      subst hi'
      rw [List.take_length] at hvo
      simp only [WP_exit, nrmOr_exit, blkQ_exit, if_pos, nrmOr_nrm, blkQ_nrm]
      exact ⟨vo, hvo, hown.mono hfU.nx, hfU.trans hfr, rfl, rfl, rfl, rfl⟩
  rintro e1 h3 ⟨vo, hvo, hown, hfr, e2, e3, e4, e7⟩
  have hel : (ends (a ++ b)).length ≤ 800 := by rw [ends_len, List.length_append]; omega
  obtain ⟨hS, hrun, hsS, hfS⟩ := sort_slJ (ro := ro) hfr hf2.wf hro2 (by omega) hvo hown
  refine WP_seq ?_
  refine WP_reg ?_
  refine WPO_op rfl ?_
  simp [e7]
  refine WPO_call (g := 54) (a := []) (b := []) (args := [vo]) rfl (by simp) ?_
  simp
  refine Ev_orc hf54 (r := .tup []) (h' := hS) hrun ?_
  refine WPO_nil ?_
  simp [e2, e3, e4, e7]
  have hsl : (sortI (ends (a ++ b))).length ≤ 800 := by simp only [sortI, List.length_mergeSort]; omega
  obtain ⟨y, hK, hrun2, hsK, hoK, hfK⟩ := cmp_slJ (ro := ro) hfS hf2.wf hro2 (by omega) hsS hown
  rw [borders] at hsK
  refine WP_seq ?_
  refine WP_reg ?_
  refine WPO_op rfl ?_
  simp
  refine WPO_call (g := 55) (a := []) (b := []) (args := [vo]) rfl rfl ?_
  simp
  refine Ev_orc hf55 (r := y) (h' := hK) hrun2 ?_
  refine WPO_op rfl ?_
  simp
  refine WPO_nil ?_
  simp
  have hcs := (cutsL_spec a b).1
  have hcn := (cutsL_spec a b).2.2
  generalize hC : cutsL a b = cl at *
  have hlc := hsK.lenV
  have hgK3 := hfK.sub _ _ hg3
  have hgK4 := hfK.sub _ _ hg4
  have hvK : SlG hK v a := Sl.fr hfK hv2
  have hwK : SlG hK w b := Sl.fr hfK hw2
  have hlv := hvK.lenV
  have hlw := hwK.lenV
  repeat (first | refine WP_seq ?_ | refine WP_reg ?_ | (refine WPO_op rfl ?_; simp; done) | (refine WPO_op rfl ?_; simp) | (refine WPO_nil ?_; simp))
  refine WP_block ?_
  refine WP_loop (fun m e h1 => ∃ n i k vo, m = cl.length + 1 - n ∧ n ≤ cl.length ∧ Past a cl i n ∧ Past b cl k n ∧ SlG h1 vo (segs f a b (cl.take (n + 1))) ∧ Own hK.nx vo ∧ Fr hK h1 ∧ e = [(2, .fn (.func g) [] []), (3, .ptr h.nx 0), (4, .ptr (h.nx + 1) 0), (7, y), (10, vo), (11, .int .i64 (i : Nat)), (12, .int .i64 (k : Nat)), (13, .int .i64 (n : Nat))]) (cl.length + 1) ⟨0, 0, 0, .nsl, by omega, by omega, ⟨by omega, fun p hp => by simp at hp⟩, ⟨by omega, fun p hp => by simp at hp⟩, ?_, .inl rfl, Fr.refl hfK.wf, by simp⟩ ?_
  · have : segs f a b (cl.take (0 + 1)) = [] := by cases cl <;> simp [segs]
    rw [this]
    exact ⟨rfl, rfl⟩
  rintro m e h1 ⟨n, i, k, vo2, rfl, hn, hPa, hPb, hvo2, hown2, hfr2, rfl⟩
  have w1 : IntKind.wrap .i64 ((n : Int) + 1) = ((n + 1 : Nat) : Int) := by rw [wrap_i64 (by omega) (by omega)]; omega
  refine WP_seq ?_
  refine WP_seq ?_
  refine WP_reg ?_
  repeat (first | (refine WPO_op rfl ?_; simp [hlc, w1]; done) | (refine WPO_op rfl ?_; simp [hlc, w1]) | (refine WPO_nil ?_; simp))
  refine WP_cond rfl ⟨fun ht => ?_, fun ht => ?_⟩
  · have hn1 : n + 1 < cl.length := by
      have : ((n : Int) + 1) < cl.length := by simpa using ht
      omega
    have hn0 : n < cl.length := by omega
    have hst := segs_take f a b hn1
    have hsl := segs_len f a b (cl.take (n + 1))
    simp only [List.length_take] at hsl
    obtain ⟨b0, o0, c0, L, rfl, hg, u1⟩ := SlJ.at (h := h1) (l := cl) (Sl.fr hfr2 hsK) hn1
    obtain ⟨b0', o0', c0', L', ee, hg', u0⟩ := SlJ.at (h := h1) (l := cl) (Sl.fr hfr2 hsK) hn0
    cases ee
    rw [hg] at hg'
    simp only [Option.some.injEq, Blk.cells.injEq, true_and] at hg'
    subst hg'
    have hcn0 : cl[n]? = some cl[n] := List.getElem?_eq_getElem hn0
    have hmon : ∀ (j : Nat) (x : Int), n + 1 ≤ j → cl[j]? = some x → cl[n] ≤ x := fun j x hj hx => by
      obtain ⟨hj2, rfl⟩ := List.getElem?_eq_some_iff.1 hx
      have := List.pairwise_iff_getElem.1 hcs n j hn0 hj2 (by omega)
      omega
    have hpa : ∀ p ∈ a.take i, p.2 ≤ cl[n] := fun p hp => hPa.2 p hp n _ (Nat.le_refl _) hcn0
    have hpb : ∀ p ∈ b.take k, p.2 ≤ cl[n] := fun p hp => hPb.2 p hp n _ (Nat.le_refl _) hcn0
    have c1 : (n : Int) < (cl.length : Int) := by omega
    have c2 : (n : Int) + 1 < (cl.length : Int) := by omega
    have c3 : (0 : Int) ≤ (n : Int) + 1 := by omega
    have n1 : ((n : Int) + 1).toNat = n + 1 := by omega
    have hv1' : SlG h1 v a := Sl.fr hfr2 hvK
    have hw1' : SlG h1 w b := Sl.fr hfr2 hwK
    have hg31 := hfr2.sub _ _ hgK3
    have hg41 := hfr2.sub _ _ hgK4
    generalize cl[n] = at' at *
    generalize hq1 : cl[n + 1] = nx' at *
    simp only [WP_skip, nrmOr_nrm]
    refine WP_mid (fun e' h' => ∃ i' k' vo', Past a cl i' (n + 1) ∧ Past b cl k' (n + 1) ∧ SlG h' vo' (segs f a b (cl.take (n + 1 + 1))) ∧ Own hK.nx vo' ∧ Fr hK h' ∧ e'.get 2 = some (.fn (.func g) [] []) ∧ e'.get 3 = some (.ptr h.nx 0) ∧ e'.get 4 = some (.ptr (h.nx + 1) 0) ∧ e'.get 7 = some (.sl b0 o0 cl.length c0) ∧ e'.get 10 = some vo' ∧ e'.get 11 = some (.int .i64 (i' : Nat)) ∧ e'.get 12 = some (.int .i64 (k' : Nat)) ∧ e'.get 13 = some (.int .i64 (n : Nat))) ?_ ?_
    rotate_left
    · rintro e' h' ⟨i', k', vo', p1, p2, g1, g2, g3, q2, q3, q4, q7, q10, q11, q12, q13⟩
      repeat (first | refine WP_reg ?_ | (refine WPO_op rfl ?_; simp [q13]) | (refine WPO_nil ?_; simp [q2, q3, q4, q7, q10, q11, q12, q13]))
      refine ⟨cl.length + 1 - (n + 1), by omega, n + 1, rfl, by omega, i', p1, k', p2, vo', g1, g2, g3, rfl, rfl, rfl, ?_⟩
      rw [w1]
    refine WP_block ?_
    refine WP_seq ?_
    refine WP_reg ?_
    repeat (first | (refine WPO_op rfl ?_; simp [c1, loadV_ptr hg, u0]; done) | (refine WPO_op rfl ?_; simp [c1, loadV_ptr hg, u0]) | (refine WPO_nil ?_; simp))
    refine WP_seq ?_
    refine ptrA (n := n) (k := k) (y := .sl b0 o0 cl.length c0) (vo := vo2) (g := g) (p4 := h.nx + 1) hv1' hg31 hna hPa.1 hpa ⟨rfl, rfl, rfl, rfl, rfl, rfl, rfl, rfl, rfl⟩ fun i' e1 hi1 hi2 hi3 hG1 => ?_
    simp only [nrmOr_nrm]
    refine WP_seq ?_
    refine ptrB (p3 := h.nx) hw1' hg41 hnb hPb.1 hpb hG1 fun k' e2 hk1 hk2 hk3 hG2 => ?_
    simp only [nrmOr_nrm]
    have hA := in_ptr hNa hi2 hi3
    have hB := in_ptr hNb hk2 hk3
    refine WP_mid (fun e3 h' => h1 = h' ∧ GE e3 g h.nx (h.nx + 1) (.sl b0 o0 cl.length c0) vo2 i' k' n at' ∧ e3.get 114 = some (.bool (f (inS a at') (inS b at')))) ?_ ?_
    · obtain ⟨q2, q3, q4, q7, q10, q11, q12, q13, q14⟩ := hG2
      refine WP_reg ?_
      by_cases d1 : i' < a.length <;> by_cases d2 : k' < b.length
      · have ha := List.getElem?_eq_getElem d1
        rw [ha] at hA
        simp only at hA
        obtain ⟨bA, oA, cA, LA, rfl, hgA, uA, _⟩ := SlG.at hv1' ha
        have hb := List.getElem?_eq_getElem d2
        rw [hb] at hB
        simp only at hB
        obtain ⟨bB, oB, cB, LB, rfl, hgB, uB, _⟩ := SlG.at hw1' hb
        rw [hA, hB]
        repeat (first | (refine WPO_op rfl ?_; simp [q2, q3, q4, q7, q10, q11, q12, q13, q14, d1, d2, loadV_ptr hg31, loadV_ptr hg41, loadV_ptr hgA, uA, loadV_ptr hgB, uB]; done) | (refine WPO_op rfl ?_; simp [q2, q3, q4, q7, q10, q11, q12, q13, q14, d1, d2, loadV_ptr hg31, loadV_ptr hg41, loadV_ptr hgA, uA, loadV_ptr hgB, uB]) | (refine WPO_gop rfl ?_; simp [q2, q3, q4, q7, q10, q11, q12, q13, q14, d1, d2, loadV_ptr hg31, loadV_ptr hg41, loadV_ptr hgA, uA, loadV_ptr hgB, uB]))
        refine WPO_call (g := g) (a := []) (b := []) (args := [.bool (decide (a[i'].1 ≤ at')), .bool (decide (b[k'].1 ≤ at'))]) (by simp) (by simp) ?_
        simp
        refine hcl fun h9 => ?_
        simp
        refine WPO_nil ?_
        simp [GE, q2, q3, q4, q7, q10, q11, q12, q13, q14]
      · have ha := List.getElem?_eq_getElem d1
        rw [ha] at hA
        simp only at hA
        obtain ⟨bA, oA, cA, LA, rfl, hgA, uA, _⟩ := SlG.at hv1' ha
        have hb : b[k']? = none := List.getElem?_eq_none (by omega)
        rw [hb] at hB
        simp only at hB
        rw [hA, hB]
        repeat (first | (refine WPO_op rfl ?_; simp [q2, q3, q4, q7, q10, q11, q12, q13, q14, d1, d2, loadV_ptr hg31, loadV_ptr hg41, loadV_ptr hgA, uA, hlw]; done) | (refine WPO_op rfl ?_; simp [q2, q3, q4, q7, q10, q11, q12, q13, q14, d1, d2, loadV_ptr hg31, loadV_ptr hg41, loadV_ptr hgA, uA, hlw]) | (refine WPO_gop rfl ?_; simp [q2, q3, q4, q7, q10, q11, q12, q13, q14, d1, d2, loadV_ptr hg31, loadV_ptr hg41, loadV_ptr hgA, uA, hlw]))
        refine WPO_call (g := g) (a := []) (b := []) (args := [.bool (decide (a[i'].1 ≤ at')), .bool false]) (by simp) (by simp) ?_
        simp
        refine hcl fun h9 => ?_
        simp
        refine WPO_nil ?_
        simp [GE, q2, q3, q4, q7, q10, q11, q12, q13, q14]
      · have ha : a[i']? = none := List.getElem?_eq_none (by omega)
        rw [ha] at hA
        simp only at hA
        have hb := List.getElem?_eq_getElem d2
        rw [hb] at hB
        simp only at hB
        obtain ⟨bB, oB, cB, LB, rfl, hgB, uB, _⟩ := SlG.at hw1' hb
        rw [hA, hB]
        repeat (first | (refine WPO_op rfl ?_; simp [q2, q3, q4, q7, q10, q11, q12, q13, q14, d1, d2, loadV_ptr hg31, loadV_ptr hg41, hlv, loadV_ptr hgB, uB]; done) | (refine WPO_op rfl ?_; simp [q2, q3, q4, q7, q10, q11, q12, q13, q14, d1, d2, loadV_ptr hg31, loadV_ptr hg41, hlv, loadV_ptr hgB, uB]) | (refine WPO_gop rfl ?_; simp [q2, q3, q4, q7, q10, q11, q12, q13, q14, d1, d2, loadV_ptr hg31, loadV_ptr hg41, hlv, loadV_ptr hgB, uB]))
        refine WPO_call (g := g) (a := []) (b := []) (args := [.bool false, .bool (decide (b[k'].1 ≤ at'))]) (by simp) (by simp) ?_
        simp
        refine hcl fun h9 => ?_
        simp
        refine WPO_nil ?_
        simp [GE, q2, q3, q4, q7, q10, q11, q12, q13, q14]
      · have ha : a[i']? = none := List.getElem?_eq_none (by omega)
        rw [ha] at hA
        simp only at hA
        have hb : b[k']? = none := List.getElem?_eq_none (by omega)
        rw [hb] at hB
        simp only at hB
        rw [hA, hB]
        repeat (first | (refine WPO_op rfl ?_; simp [q2, q3, q4, q7, q10, q11, q12, q13, q14, d1, d2, loadV_ptr hg31, loadV_ptr hg41, hlv, hlw]; done) | (refine WPO_op rfl ?_; simp [q2, q3, q4, q7, q10, q11, q12, q13, q14, d1, d2, loadV_ptr hg31, loadV_ptr hg41, hlv, hlw]) | (refine WPO_gop rfl ?_; simp [q2, q3, q4, q7, q10, q11, q12, q13, q14, d1, d2, loadV_ptr hg31, loadV_ptr hg41, hlv, hlw]))
        refine WPO_call (g := g) (a := []) (b := []) (args := [.bool false, .bool false]) (by simp) (by simp) ?_
        simp
        refine hcl fun h9 => ?_
        simp
        refine WPO_nil ?_
        simp [GE, q2, q3, q4, q7, q10, q11, q12, q13, q14]
    rintro e3 h' ⟨rfl, hG3, e114⟩
    obtain ⟨q2, q3, q4, q7, q10, q11, q12, q13, q14⟩ := hG3
    have hPa' : Past a cl i' (n + 1) := ⟨hi1, fun p hp j x hj hx => by have := hi2 p hp; have := hmon j x hj hx; omega⟩
    have hPb' : Past b cl k' (n + 1) := ⟨hk1, fun p hp j x hj hx => by have := hk2 p hp; have := hmon j x hj hx; omega⟩
    refine WP_cond (by simp [e114]; rfl) ⟨fun hd => ?_, fun hd => ?_⟩
    · have hd' : f (inS a at') (inS b at') = true := by simpa using hd
      rw [if_pos hd'] at hst
      obtain ⟨v', h', ha, hs, ho, hfa, hsh⟩ := app_range (ro := ro) (p := (at', nx')) hfK.wf (by have := hfK.nx; omega) hfr2 hvo2 hown2 (by omega)
      refine WP_reg ?_
      repeat (first | (refine WPO_op rfl ?_; simp [q2, q3, q4, q7, q10, q11, q12, q13, q14, w1, c2, loadV_ptr hg, u1, c3, n1]; done) | (refine WPO_op rfl ?_; simp [q2, q3, q4, q7, q10, q11, q12, q13, q14, w1, c2, loadV_ptr hg, u1, c3, n1]))
      simp [evParts, fill, V.cells, setN]
      refine WPO_op rfl ?_
      simp [evParts, zeros, fill, V.cells, setN]
      refine WPO_op rfl ?_
      refine OB_appG (v := vo2) (y := .sl h1.nx 0 1 2) (t := [(at', nx')]) (by simp) (by simp) (Sl.ofNew (h := h1) (sz := 2) (n := 1) (c := 2) (l := [V.int .i64 at', V.int .i64 nx']) rfl) ha ?_
      simp
      refine WPO_op rfl ?_
      simp
      refine WPO_nil ?_
      simp [q2, q3, q4, q7, q11, q12, q13]
      refine ⟨i', hPa', k', hPb', v', ?_, ho, hfa, rfl, rfl, rfl⟩
      rw [hst]
      exact hs
    · have hd' : ¬ (f (inS a at') (inS b at') = true) := by simpa using hd
      rw [if_neg hd', List.append_nil] at hst
      simp only [WP_skip, nrmOr_nrm, blkQ_nrm]
      exact ⟨i', hPa', k', hPb', vo2, by rw [hst]; exact hvo2, hown2, hfr2, q2, q3, q4, q7, q10, q11, q12, q13⟩
  · have hn1 : cl.length ≤ n + 1 := by
      have : ¬ ((n : Int) + 1 < cl.length) := by simpa using ht
      omega
    rw [List.take_of_length_le hn1] at hvo2
    simp only [WP_exit, nrmOr_exit, blkQ_exit, if_pos, nrmOr_nrm, blkQ_nrm]
    repeat (first | refine WP_seq ?_ | refine WP_reg ?_ | (refine WPO_op rfl ?_; simp) | (refine WPO_nil ?_; simp))
    simp [WP_ret, F38]
    exact hq vo2 h1 hvo2 (hown2.mono (by have := hfK.nx; omega)) ((hf2.trans hfK).trans hfr2)
end Go.Am.S7
/- Union, Minus, Both, Meets, Covers, Equal, stepped through. -/
namespace Go.Am.S7
open Go
set_option maxRecDepth 100000
set_option linter.unusedSimpArgs false
set_option linter.unusedVariables false
variable {fs : Nat → Option D} {ro : Nat} {h : Hp} {e : Env}

theorem ev19 {v w : V} {a b : List Rg} (hf : fs 19 = some (.code F19)) (hf38 : fs 38 = some (.code F38)) (hf45 : fs 45 = some (.code F45)) (hf54 : fs 54 = some (.orc orcSortI)) (hf55 : fs 55 = some (.orc orcCmp)) (hfg : fs 39 = some (.code F39)) (hf25 : fs 25 = some (.code F25))
    (hv : SlG h v a) (hw' : SlG h w b) (hv1 : v.cells = [v]) (hw1 : w.cells = [w]) (hNa : Norm a) (hNb : Norm b) (hna : a.length ≤ 200) (hnb : b.length ≤ 200)
    (hw : ∀ b x, h.get b = some x → b < h.nx) (hro : ro ≤ h.nx) {Q : V → Hp → Prop} (hq : ∀ x h', SlG h' x (combL (fun x y => x || y) a b) → Own h.nx x → Fr h h' → Q (.tup [.agg [x], .int .i64 0]) h') : Ev fs ro 19 [.agg [v], .agg [w]] h Q := by
  refine Ev_fn hf rfl rfl rfl rfl ?_
  refine WP_seq ?_
  refine WP_reg ?_
  refine WPO_op rfl ?_
  simp [V.cells]
  refine WPO_op rfl ?_
  simp [V.cells]
  refine WPO_op rfl ?_
  simp
  refine WPO_op rfl ?_
  simp
  refine WPO_nil ?_
  simp
  have hf2 : Fr h (((h.new (.cells 0 [v])).new (.cells 0 [w])).new (.cells 0 [.nsl])) := (((Fr.refl hw).new _).new _).new _
  have hg3 : (((h.new (.cells 0 [v])).new (.cells 0 [w])).new (.cells 0 [.nsl])).get h.nx = some (.cells 0 [v]) := by rw [Hp.get_new_ne (by simp; omega), Hp.get_new_ne (by simp)]; exact Hp.get_new_same
  have hg4 : (((h.new (.cells 0 [v])).new (.cells 0 [w])).new (.cells 0 [.nsl])).get (h.nx + 1) = some (.cells 0 [w]) := by rw [Hp.get_new_ne (by simp)]; exact Hp.get_new_same (h := h.new (.cells 0 [v]))
  have hg5 : (((h.new (.cells 0 [v])).new (.cells 0 [w])).new (.cells 0 [.nsl])).get (h.nx + 1 + 1) = some (.cells 0 [.nsl]) := Hp.get_new_same (h := (h.new (.cells 0 [v])).new (.cells 0 [w]))
  have hnx2 : (((h.new (.cells 0 [v])).new (.cells 0 [w])).new (.cells 0 [.nsl])).nx = h.nx + 3 := by simp
  generalize (((h.new (.cells 0 [v])).new (.cells 0 [w])).new (.cells 0 [.nsl])) = h2 at *
  refine WP_seq ?_
  refine WP_reg ?_
  repeat (first | (refine WPO_op rfl ?_; simp [loadV_ptr hg3, loadV_ptr hg4, loadN]; done) | (refine WPO_op rfl ?_; simp [loadV_ptr hg3, loadV_ptr hg4, loadN]))
  refine WPO_call (g := 38) (a := []) (b := []) (args := [.agg [v], .agg [w], .fn (.func 39) [] []]) rfl rfl ?_
  simp
  refine ev38 hf38 hf45 hf54 hf55 (fun {x y h Q} hq => ev39 hfg hq) (f := fun x y => x || y) rfl (Sl.fr hf2 hv) (Sl.fr hf2 hw') hv1 hw1 hNa hNb hna hnb hf2.wf (Nat.le_refl _) fun x h3 hsx hox hfx => ?_
  obtain ⟨hsX, hfX⟩ := aft1 hf2.wf hsx hox hfx
  generalize (if ground x = true then h2 else h3) = hX at *
  have hsl := segs_len (fun x y => x || y) a b (cutsL a b)
  have hcl := (cutsL_spec a b).2.2
  have hml := mrgs_le (segs (fun x y => x || y) a b (cutsL a b))
  refine WPO_call (g := 25) (a := []) (b := []) (args := [x]) rfl rfl ?_
  simp
  refine ev25 hf25 hsX hfX.wf (Nat.le_refl _) (by omega) fun y h4 hsy hoy hfy => ?_
  have hmv : madeV (mrgs (segs (fun x y => x || y) a b (cutsL a b))) y = .tup [.agg [y], .int .i64 0] := by
    unfold madeV
    rw [if_neg (by omega)]
  rw [hmv]
  obtain ⟨hsT, hfT⟩ := aft (k := .i64) (n := 0) hfX.wf hsy hoy hfy (.inl rfl)
  generalize (if ground (V.tup [V.agg [y], V.int .i64 0]) = true then hX else h4) = hT at *
  have hg6 := hfT.sub _ _ (hfX.sub _ _ hg5)
  obtain ⟨hyc1, hyc2⟩ := hoy.cells
  refine WPO_op rfl ?_
  simp [op1]
  refine WPO_op rfl ?_
  simp [op1]
  refine WPO_op rfl ?_
  refine OB_store (b := h.nx + 1 + 1) (o := 0) (v := V.agg [y]) (l' := [y]) rfl rfl (by omega) rfl (by simp [V.cells, hyc2]) hg6 rfl ?_
  simp
  refine WPO_op rfl ?_
  simp
  refine WPO_nil ?_
  simp [WP_ret, F19]
  have hg7 : (hT.set (h.nx + 1 + 1) (.cells 0 [y])).get (h.nx + 1 + 1) = some (.cells 0 [y]) := Hp.get_set_same hg6
  have hfin : Fr h (hT.set (h.nx + 1 + 1) (.cells 0 [y])) := ((hf2.trans hfX).trans hfT).set hw (by omega) hg6 _
  have hown : Own h.nx y := hoy.mono (by have := hfX.nx; omega)
  have hsy2 : SlG (hT.set (h.nx + 1 + 1) (.cells 0 [y])) y (mrgs (segs (fun x y => x || y) a b (cutsL a b))) := Sl.set_ne hsT hoy (by have := hfX.nx; omega) _
  simp [loadV_ptr hg7, loadN, pack]
  exact hq y _ hsy2 hown hfin

theorem ev20 {v w : V} {a b : List Rg} (hf : fs 20 = some (.code F20)) (hf38 : fs 38 = some (.code F38)) (hf45 : fs 45 = some (.code F45)) (hf54 : fs 54 = some (.orc orcSortI)) (hf55 : fs 55 = some (.orc orcCmp)) (hfg : fs 40 = some (.code F40)) (hf25 : fs 25 = some (.code F25))
    (hv : SlG h v a) (hw' : SlG h w b) (hv1 : v.cells = [v]) (hw1 : w.cells = [w]) (hNa : Norm a) (hNb : Norm b) (hna : a.length ≤ 200) (hnb : b.length ≤ 200)
    (hw : ∀ b x, h.get b = some x → b < h.nx) (hro : ro ≤ h.nx) {Q : V → Hp → Prop} (hq : ∀ x h', SlG h' x (combL (fun x y => x && !y) a b) → Own h.nx x → Fr h h' → Q (.tup [.agg [x], .int .i64 0]) h') : Ev fs ro 20 [.agg [v], .agg [w]] h Q := by
  refine Ev_fn hf rfl rfl rfl rfl ?_
  refine WP_seq ?_
  refine WP_reg ?_
  refine WPO_op rfl ?_
  simp [V.cells]
  refine WPO_op rfl ?_
  simp [V.cells]
  refine WPO_op rfl ?_
  simp
  refine WPO_op rfl ?_
  simp
  refine WPO_nil ?_
  simp
  have hf2 : Fr h (((h.new (.cells 0 [v])).new (.cells 0 [w])).new (.cells 0 [.nsl])) := (((Fr.refl hw).new _).new _).new _
  have hg3 : (((h.new (.cells 0 [v])).new (.cells 0 [w])).new (.cells 0 [.nsl])).get h.nx = some (.cells 0 [v]) := by rw [Hp.get_new_ne (by simp; omega), Hp.get_new_ne (by simp)]; exact Hp.get_new_same
  have hg4 : (((h.new (.cells 0 [v])).new (.cells 0 [w])).new (.cells 0 [.nsl])).get (h.nx + 1) = some (.cells 0 [w]) := by rw [Hp.get_new_ne (by simp)]; exact Hp.get_new_same (h := h.new (.cells 0 [v]))
  have hg5 : (((h.new (.cells 0 [v])).new (.cells 0 [w])).new (.cells 0 [.nsl])).get (h.nx + 1 + 1) = some (.cells 0 [.nsl]) := Hp.get_new_same (h := (h.new (.cells 0 [v])).new (.cells 0 [w]))
  have hnx2 : (((h.new (.cells 0 [v])).new (.cells 0 [w])).new (.cells 0 [.nsl])).nx = h.nx + 3 := by simp
  generalize (((h.new (.cells 0 [v])).new (.cells 0 [w])).new (.cells 0 [.nsl])) = h2 at *
  refine WP_seq ?_
  refine WP_reg ?_
  repeat (first | (refine WPO_op rfl ?_; simp [loadV_ptr hg3, loadV_ptr hg4, loadN]; done) | (refine WPO_op rfl ?_; simp [loadV_ptr hg3, loadV_ptr hg4, loadN]))
  refine WPO_call (g := 38) (a := []) (b := []) (args := [.agg [v], .agg [w], .fn (.func 40) [] []]) rfl rfl ?_
  simp
  refine ev38 hf38 hf45 hf54 hf55 (fun {x y h Q} hq => ev40 hfg hq) (f := fun x y => x && !y) rfl (Sl.fr hf2 hv) (Sl.fr hf2 hw') hv1 hw1 hNa hNb hna hnb hf2.wf (Nat.le_refl _) fun x h3 hsx hox hfx => ?_
  obtain ⟨hsX, hfX⟩ := aft1 hf2.wf hsx hox hfx
  generalize (if ground x = true then h2 else h3) = hX at *
  have hsl := segs_len (fun x y => x && !y) a b (cutsL a b)
  have hcl := (cutsL_spec a b).2.2
  have hml := mrgs_le (segs (fun x y => x && !y) a b (cutsL a b))
  refine WPO_call (g := 25) (a := []) (b := []) (args := [x]) rfl rfl ?_
  simp
  refine ev25 hf25 hsX hfX.wf (Nat.le_refl _) (by omega) fun y h4 hsy hoy hfy => ?_
  have hmv : madeV (mrgs (segs (fun x y => x && !y) a b (cutsL a b))) y = .tup [.agg [y], .int .i64 0] := by
    unfold madeV
    rw [if_neg (by omega)]
  rw [hmv]
  obtain ⟨hsT, hfT⟩ := aft (k := .i64) (n := 0) hfX.wf hsy hoy hfy (.inl rfl)
  generalize (if ground (V.tup [V.agg [y], V.int .i64 0]) = true then hX else h4) = hT at *
  have hg6 := hfT.sub _ _ (hfX.sub _ _ hg5)
  obtain ⟨hyc1, hyc2⟩ := hoy.cells
  refine WPO_op rfl ?_
  simp [op1]
  refine WPO_op rfl ?_
  simp [op1]
  refine WPO_op rfl ?_
  refine OB_store (b := h.nx + 1 + 1) (o := 0) (v := V.agg [y]) (l' := [y]) rfl rfl (by omega) rfl (by simp [V.cells, hyc2]) hg6 rfl ?_
  simp
  refine WPO_op rfl ?_
  simp
  refine WPO_nil ?_
  simp [WP_ret, F20]
  have hg7 : (hT.set (h.nx + 1 + 1) (.cells 0 [y])).get (h.nx + 1 + 1) = some (.cells 0 [y]) := Hp.get_set_same hg6
  have hfin : Fr h (hT.set (h.nx + 1 + 1) (.cells 0 [y])) := ((hf2.trans hfX).trans hfT).set hw (by omega) hg6 _
  have hown : Own h.nx y := hoy.mono (by have := hfX.nx; omega)
  have hsy2 : SlG (hT.set (h.nx + 1 + 1) (.cells 0 [y])) y (mrgs (segs (fun x y => x && !y) a b (cutsL a b))) := Sl.set_ne hsT hoy (by have := hfX.nx; omega) _
  simp [loadV_ptr hg7, loadN, pack]
  exact hq y _ hsy2 hown hfin

theorem ev21 {v w : V} {a b : List Rg} (hf : fs 21 = some (.code F21)) (hf38 : fs 38 = some (.code F38)) (hf45 : fs 45 = some (.code F45)) (hf54 : fs 54 = some (.orc orcSortI)) (hf55 : fs 55 = some (.orc orcCmp)) (hfg : fs 41 = some (.code F41)) (hf25 : fs 25 = some (.code F25))
    (hv : SlG h v a) (hw' : SlG h w b) (hv1 : v.cells = [v]) (hw1 : w.cells = [w]) (hNa : Norm a) (hNb : Norm b) (hna : a.length ≤ 200) (hnb : b.length ≤ 200)
    (hw : ∀ b x, h.get b = some x → b < h.nx) (hro : ro ≤ h.nx) {Q : V → Hp → Prop} (hq : ∀ x h', SlG h' x (combL (fun x y => x && y) a b) → Own h.nx x → Fr h h' → Q (.tup [.agg [x], .int .i64 0]) h') : Ev fs ro 21 [.agg [v], .agg [w]] h Q := by
  refine Ev_fn hf rfl rfl rfl rfl ?_
  refine WP_seq ?_
  refine WP_reg ?_
  refine WPO_op rfl ?_
  simp [V.cells]
  refine WPO_op rfl ?_
  simp [V.cells]
  refine WPO_op rfl ?_
  simp
  refine WPO_op rfl ?_
  simp
  refine WPO_nil ?_
  simp
  have hf2 : Fr h (((h.new (.cells 0 [v])).new (.cells 0 [w])).new (.cells 0 [.nsl])) := (((Fr.refl hw).new _).new _).new _
  have hg3 : (((h.new (.cells 0 [v])).new (.cells 0 [w])).new (.cells 0 [.nsl])).get h.nx = some (.cells 0 [v]) := by rw [Hp.get_new_ne (by simp; omega), Hp.get_new_ne (by simp)]; exact Hp.get_new_same
  have hg4 : (((h.new (.cells 0 [v])).new (.cells 0 [w])).new (.cells 0 [.nsl])).get (h.nx + 1) = some (.cells 0 [w]) := by rw [Hp.get_new_ne (by simp)]; exact Hp.get_new_same (h := h.new (.cells 0 [v]))
  have hg5 : (((h.new (.cells 0 [v])).new (.cells 0 [w])).new (.cells 0 [.nsl])).get (h.nx + 1 + 1) = some (.cells 0 [.nsl]) := Hp.get_new_same (h := (h.new (.cells 0 [v])).new (.cells 0 [w]))
  have hnx2 : (((h.new (.cells 0 [v])).new (.cells 0 [w])).new (.cells 0 [.nsl])).nx = h.nx + 3 := by simp
  generalize (((h.new (.cells 0 [v])).new (.cells 0 [w])).new (.cells 0 [.nsl])) = h2 at *
  refine WP_seq ?_
  refine WP_reg ?_
  repeat (first | (refine WPO_op rfl ?_; simp [loadV_ptr hg3, loadV_ptr hg4, loadN]; done) | (refine WPO_op rfl ?_; simp [loadV_ptr hg3, loadV_ptr hg4, loadN]))
  refine WPO_call (g := 38) (a := []) (b := []) (args := [.agg [v], .agg [w], .fn (.func 41) [] []]) rfl rfl ?_
  simp
  refine ev38 hf38 hf45 hf54 hf55 (fun {x y h Q} hq => ev41 hfg hq) (f := fun x y => x && y) rfl (Sl.fr hf2 hv) (Sl.fr hf2 hw') hv1 hw1 hNa hNb hna hnb hf2.wf (Nat.le_refl _) fun x h3 hsx hox hfx => ?_
  obtain ⟨hsX, hfX⟩ := aft1 hf2.wf hsx hox hfx
  generalize (if ground x = true then h2 else h3) = hX at *
  have hsl := segs_len (fun x y => x && y) a b (cutsL a b)
  have hcl := (cutsL_spec a b).2.2
  have hml := mrgs_le (segs (fun x y => x && y) a b (cutsL a b))
  refine WPO_call (g := 25) (a := []) (b := []) (args := [x]) rfl rfl ?_
  simp
  refine ev25 hf25 hsX hfX.wf (Nat.le_refl _) (by omega) fun y h4 hsy hoy hfy => ?_
  have hmv : madeV (mrgs (segs (fun x y => x && y) a b (cutsL a b))) y = .tup [.agg [y], .int .i64 0] := by
    unfold madeV
    rw [if_neg (by omega)]
  rw [hmv]
  obtain ⟨hsT, hfT⟩ := aft (k := .i64) (n := 0) hfX.wf hsy hoy hfy (.inl rfl)
  generalize (if ground (V.tup [V.agg [y], V.int .i64 0]) = true then hX else h4) = hT at *
  have hg6 := hfT.sub _ _ (hfX.sub _ _ hg5)
  obtain ⟨hyc1, hyc2⟩ := hoy.cells
  refine WPO_op rfl ?_
  simp [op1]
  refine WPO_op rfl ?_
  simp [op1]
  refine WPO_op rfl ?_
  refine OB_store (b := h.nx + 1 + 1) (o := 0) (v := V.agg [y]) (l' := [y]) rfl rfl (by omega) rfl (by simp [V.cells, hyc2]) hg6 rfl ?_
  simp
  refine WPO_op rfl ?_
  simp
  refine WPO_nil ?_
  simp [WP_ret, F21]
  have hg7 : (hT.set (h.nx + 1 + 1) (.cells 0 [y])).get (h.nx + 1 + 1) = some (.cells 0 [y]) := Hp.get_set_same hg6
  have hfin : Fr h (hT.set (h.nx + 1 + 1) (.cells 0 [y])) := ((hf2.trans hfX).trans hfT).set hw (by omega) hg6 _
  have hown : Own h.nx y := hoy.mono (by have := hfX.nx; omega)
  have hsy2 : SlG (hT.set (h.nx + 1 + 1) (.cells 0 [y])) y (mrgs (segs (fun x y => x && y) a b (cutsL a b))) := Sl.set_ne hsT hoy (by have := hfX.nx; omega) _
  simp [loadV_ptr hg7, loadN, pack]
  exact hq y _ hsy2 hown hfin

theorem ev23 {v w : V} {a b : List Rg} (hf : fs 23 = some (.code F23)) (hf38 : fs 38 = some (.code F38)) (hf45 : fs 45 = some (.code F45)) (hf54 : fs 54 = some (.orc orcSortI)) (hf55 : fs 55 = some (.orc orcCmp)) (hfg : fs 41 = some (.code F41))
    (hv : SlG h v a) (hw' : SlG h w b) (hv1 : v.cells = [v]) (hw1 : w.cells = [w]) (hNa : Norm a) (hNb : Norm b) (hna : a.length ≤ 200) (hnb : b.length ≤ 200)
    (hw : ∀ b x, h.get b = some x → b < h.nx) (hro : ro ≤ h.nx) {Q : V → Hp → Prop} (hq : ∀ h', Q (.bool (decide (0 < (segs (fun x y => x && y) a b (cutsL a b)).length))) h') : Ev fs ro 23 [.agg [v], .agg [w]] h Q := by
  refine Ev_fn hf rfl rfl rfl rfl ?_
  refine WP_seq ?_
  refine WP_reg ?_
  refine WPO_op rfl ?_
  simp [V.cells]
  refine WPO_op rfl ?_
  simp [V.cells]
  refine WPO_op rfl ?_
  simp
  refine WPO_nil ?_
  simp
  have hf2 : Fr h ((h.new (.cells 0 [v])).new (.cells 0 [w])) := ((Fr.refl hw).new _).new _
  have hg3 : ((h.new (.cells 0 [v])).new (.cells 0 [w])).get h.nx = some (.cells 0 [v]) := by rw [Hp.get_new_ne (by simp)]; exact Hp.get_new_same
  have hg4 : ((h.new (.cells 0 [v])).new (.cells 0 [w])).get (h.nx + 1) = some (.cells 0 [w]) := Hp.get_new_same (h := h.new (.cells 0 [v]))
  generalize ((h.new (.cells 0 [v])).new (.cells 0 [w])) = h2 at *
  refine WP_seq ?_
  refine WP_reg ?_
  repeat (first | (refine WPO_op rfl ?_; simp [loadV_ptr hg3, loadV_ptr hg4, loadN]; done) | (refine WPO_op rfl ?_; simp [loadV_ptr hg3, loadV_ptr hg4, loadN]))
  refine WPO_call (g := 38) (a := []) (b := []) (args := [.agg [v], .agg [w], .fn (.func 41) [] []]) rfl rfl ?_
  simp
  refine ev38 hf38 hf45 hf54 hf55 (fun {x y h Q} hq => ev41 hfg hq) (f := fun x y => x && y) rfl (Sl.fr hf2 hv) (Sl.fr hf2 hw') hv1 hw1 hNa hNb hna hnb hf2.wf (Nat.le_refl _) fun x h3 hsx hox hfx => ?_
  have hlx := hsx.lenV
  repeat (first | (refine WPO_op rfl ?_; simp [hlx]; done) | (refine WPO_op rfl ?_; simp [hlx]) | (refine WPO_nil ?_; simp))
  simp [WP_ret, F23]
  exact hq _

theorem ev24 {v w : V} {a b : List Rg} (hf : fs 24 = some (.code F24)) (hf38 : fs 38 = some (.code F38)) (hf45 : fs 45 = some (.code F45)) (hf54 : fs 54 = some (.orc orcSortI)) (hf55 : fs 55 = some (.orc orcCmp)) (hfg : fs 40 = some (.code F40))
    (hv : SlG h v a) (hw' : SlG h w b) (hv1 : v.cells = [v]) (hw1 : w.cells = [w]) (hNa : Norm a) (hNb : Norm b) (hna : a.length ≤ 200) (hnb : b.length ≤ 200)
    (hw : ∀ b x, h.get b = some x → b < h.nx) (hro : ro ≤ h.nx) {Q : V → Hp → Prop} (hq : ∀ h', Q (.bool (decide ((segs (fun x y => x && !y) b a (cutsL b a)).length = 0))) h') : Ev fs ro 24 [.agg [v], .agg [w]] h Q := by
  refine Ev_fn hf rfl rfl rfl rfl ?_
  refine WP_seq ?_
  refine WP_reg ?_
  refine WPO_op rfl ?_
  simp [V.cells]
  refine WPO_op rfl ?_
  simp [V.cells]
  refine WPO_op rfl ?_
  simp
  refine WPO_nil ?_
  simp
  have hf2 : Fr h ((h.new (.cells 0 [v])).new (.cells 0 [w])) := ((Fr.refl hw).new _).new _
  have hg3 : ((h.new (.cells 0 [v])).new (.cells 0 [w])).get h.nx = some (.cells 0 [v]) := by rw [Hp.get_new_ne (by simp)]; exact Hp.get_new_same
  have hg4 : ((h.new (.cells 0 [v])).new (.cells 0 [w])).get (h.nx + 1) = some (.cells 0 [w]) := Hp.get_new_same (h := h.new (.cells 0 [v]))
  generalize ((h.new (.cells 0 [v])).new (.cells 0 [w])) = h2 at *
  refine WP_seq ?_
  refine WP_reg ?_
  repeat (first | (refine WPO_op rfl ?_; simp [loadV_ptr hg3, loadV_ptr hg4, loadN]; done) | (refine WPO_op rfl ?_; simp [loadV_ptr hg3, loadV_ptr hg4, loadN]))
  refine WPO_call (g := 38) (a := []) (b := []) (args := [.agg [w], .agg [v], .fn (.func 40) [] []]) rfl rfl ?_
  simp
  refine ev38 hf38 hf45 hf54 hf55 (fun {x y h Q} hq => ev40 hfg hq) (f := fun x y => x && !y) rfl (Sl.fr hf2 hw') (Sl.fr hf2 hv) hw1 hv1 hNb hNa hnb hna hf2.wf (Nat.le_refl _) fun x h3 hsx hox hfx => ?_
  have hlx := hsx.lenV
  generalize hS : (segs (fun x y => x && !y) b a (cutsL b a)) = S at *
  have hqq : ∀ h', Q (.bool (((S.length : Nat) : Int) == 0)) h' := fun h' => by
    have e1 : (((S.length : Nat) : Int) == 0) = decide (S.length = 0) := by
      rw [Bool.eq_iff_iff, beq_iff_eq, decide_eq_true_eq]
      omega
    rw [e1]
    exact hq h'
  repeat (first | (refine WPO_op rfl ?_; simp [hlx]; done) | (refine WPO_op rfl ?_; simp [hlx]) | (refine WPO_nil ?_; simp))
  simp [WP_ret, F24]
  exact hqq _
end Go.Am.S7
/- Equal, stepped through; what the law RangesCombine asks of sets. -/
namespace Go.Am.S7
open Go
set_option maxRecDepth 100000
set_option linter.unusedSimpArgs false
set_option linter.unusedVariables false
variable {fs : Nat → Option D} {ro : Nat} {h : Hp} {e : Env}

theorem eqv_pair {p q : Rg} : eqv (.agg [.i, .i]) (.agg [.int .i64 p.1, .int .i64 p.2]) (.agg [.int .i64 q.1, .int .i64 q.2]) = some (decide (p = q)) := by
  obtain ⟨a, b⟩ := p
  obtain ⟨c, d⟩ := q
  by_cases h1 : a = c <;> by_cases h2 : b = d <;> simp [eqv, eqAll, eqK, h1, h2]

theorem ev42 {v w : V} {a b : List Rg} (hf : fs 42 = some (.code F42)) (hv : SlG h v a) (hw' : SlG h w b) (hna : a.length ≤ 1000) (hnb : b.length ≤ 1000) {Q : V → Hp → Prop} (hq : ∀ h', Q (.bool (decide (a = b))) h') : Ev fs ro 42 [v, w] h Q := by
  have hlv := hv.lenV
  have hlw := hw'.lenV
  refine Ev_fn hf rfl rfl rfl rfl ?_
  refine WP_seq ?_
  refine WP_reg ?_
  repeat (first | (refine WPO_op rfl ?_; simp) | (refine WPO_nil ?_; simp))
  refine WP_seq ?_
  refine WP_seq ?_
  refine WP_reg ?_
  repeat (first | (refine WPO_op rfl ?_; simp [hlv, hlw]; done) | (refine WPO_op rfl ?_; simp [hlv, hlw]) | (refine WPO_nil ?_; simp))
  refine WP_cond rfl ⟨fun hd => ?_, fun hd => ?_⟩
  · have hne : a.length ≠ b.length := by
      intro hx
      simp [hx] at hd
    have hab : a ≠ b := fun hx => hne (by rw [hx])
    repeat (first | refine WP_seq ?_ | refine WP_reg ?_ | (refine WPO_op rfl ?_; simp) | (refine WPO_nil ?_; simp))
    simp [WP_ret, F42]
    have := hq h
    simpa [hab] using this
  have hln : a.length = b.length := by
    have : (a.length : Int) = b.length := by simpa using hd
    omega
  simp only [WP_skip, nrmOr_nrm]
  refine WP_seq ?_
  refine WP_seq ?_
  refine WP_reg ?_
  repeat (first | (refine WPO_op rfl ?_; simp [hlv]; done) | (refine WPO_op rfl ?_; simp [hlv]) | (refine WPO_nil ?_; simp))
  refine WP_block ?_
  refine WP_loop (fun m e h1 => ∃ i, m = a.length - i ∧ i ≤ a.length ∧ a.take i = b.take i ∧ h = h1 ∧ e = [(0, v), (1, w), (12, .int .i64 (a.length : Nat)), (13, .int .i64 (i : Nat))]) a.length ⟨0, by omega, by omega, by simp, rfl, by simp⟩ ?_
  rintro m e h1 ⟨i, rfl, hi, htk, rfl, rfl⟩
  refine WP_seq ?_
  refine WP_reg ?_
  repeat (first | (refine WPO_op rfl ?_; simp; done) | (refine WPO_op rfl ?_; simp) | (refine WPO_nil ?_; simp))
  refine WP_seq ?_
  refine WP_cond rfl ⟨fun ht => ?_, fun ht => ?_⟩
  · have hi' : i < a.length := by simpa using ht
    have hib : i < b.length := by omega
    obtain ⟨b1, o1, c1, L1, rfl, hg1, q1, q2⟩ := SlG.at hv (List.getElem?_eq_getElem hi')
    obtain ⟨b2, o2, c2, L2, rfl, hg2, r1, r2⟩ := SlG.at hw' (List.getElem?_eq_getElem hib)
    have hwr : IntKind.wrap .i64 ((i : Int) + 1) = ((i + 1 : Nat) : Int) := by rw [wrap_i64 (by omega) (by omega)]; omega
    simp only [WP_skip, nrmOr_nrm]
    refine WP_mid (fun e' h' => h = h' ∧ a[i] = b[i] ∧ e'.get 0 = some (.sl b1 o1 a.length c1) ∧ e'.get 1 = some (.sl b2 o2 b.length c2) ∧ e'.get 12 = some (.int .i64 (a.length : Nat)) ∧ e'.get 13 = some (.int .i64 (i : Nat))) ?_ ?_
    · refine WP_block ?_
      refine WP_seq ?_
      refine WP_reg ?_
      repeat (first | (refine WPO_op rfl ?_; simp; done) | (refine WPO_op rfl ?_; simp) | (refine WPO_nil ?_; simp))
      refine WP_seq ?_
      refine WP_reg ?_
      repeat (first | (refine WPO_op rfl ?_; simp [hi', hib, loadV_ptr hg1, loadV_ptr hg2, loadN_two q1 q2, loadN_two r1 r2, eqv_pair]; done) | (refine WPO_op rfl ?_; simp [hi', hib, loadV_ptr hg1, loadV_ptr hg2, loadN_two q1 q2, loadN_two r1 r2, eqv_pair]) | (refine WPO_nil ?_; simp))
      refine WP_cond rfl ⟨fun hd => ?_, fun hd => ?_⟩
      · have hne : a[i] ≠ b[i] := by simpa using hd
        have hab : a ≠ b := fun hx => hne (by subst hx; rfl)
        repeat (first | refine WP_seq ?_ | refine WP_reg ?_ | (refine WPO_op rfl ?_; simp) | (refine WPO_nil ?_; simp))
        simp [WP_ret, F42]
        have := hq h
        simpa [hab] using this
      · have he : a[i] = b[i] := by simpa using hd
        simp only [WP_skip, blkQ_nrm, nrmOr_nrm]
        exact ⟨trivial, he, rfl, rfl, rfl, rfl⟩
    rintro e' h' ⟨rfl, he, e0, e1, e12, e13⟩
    repeat (first | refine WP_reg ?_ | (refine WPO_op rfl ?_; simp [e13]) | (refine WPO_nil ?_; simp [e0, e1, e12, e13]))
    refine ⟨a.length - (i + 1), by omega, i + 1, rfl, by omega, ?_, ?_⟩
    · rw [List.take_succ_eq_append_getElem hi', List.take_succ_eq_append_getElem hib, htk, he]
    · rw [hwr]
  · have hi' : i = a.length := by
      have : ¬ (i < a.length) := by simpa using ht
      omega
    subst hi'
    have hab : a = b := by
      rw [List.take_length, hln, List.take_length] at htk
      exact htk
    simp only [WP_exit, nrmOr_exit, blkQ_exit, if_pos, nrmOr_nrm, blkQ_nrm]
    repeat (first | refine WP_seq ?_ | refine WP_reg ?_ | (refine WPO_op rfl ?_; simp) | (refine WPO_nil ?_; simp))
    simp [WP_ret, F42]
    have := hq h
    simpa [hab] using this

theorem ev22 {v w : V} {a b : List Rg} (hf : fs 22 = some (.code F22)) (hf42 : fs 42 = some (.code F42)) (hv : SlG h v a) (hw' : SlG h w b) (hv1 : v.cells = [v]) (hw1 : w.cells = [w]) (hna : a.length ≤ 1000) (hnb : b.length ≤ 1000) (hw : ∀ b x, h.get b = some x → b < h.nx) {Q : V → Hp → Prop} (hq : ∀ h', Q (.bool (decide (a = b))) h') : Ev fs ro 22 [.agg [v], .agg [w]] h Q := by
  refine Ev_fn hf rfl rfl rfl rfl ?_
  refine WP_seq ?_
  refine WP_reg ?_
  refine WPO_op rfl ?_
  simp [V.cells]
  refine WPO_op rfl ?_
  simp [V.cells]
  refine WPO_op rfl ?_
  simp
  refine WPO_nil ?_
  simp
  have hf2 : Fr h ((h.new (.cells 0 [v])).new (.cells 0 [w])) := ((Fr.refl hw).new _).new _
  have hg3 : ((h.new (.cells 0 [v])).new (.cells 0 [w])).get h.nx = some (.cells 0 [v]) := by rw [Hp.get_new_ne (by simp)]; exact Hp.get_new_same
  have hg4 : ((h.new (.cells 0 [v])).new (.cells 0 [w])).get (h.nx + 1) = some (.cells 0 [w]) := Hp.get_new_same (h := h.new (.cells 0 [v]))
  generalize ((h.new (.cells 0 [v])).new (.cells 0 [w])) = h2 at *
  refine WP_seq ?_
  refine WP_reg ?_
  repeat (first | (refine WPO_op rfl ?_; simp [loadV_ptr hg3, loadV_ptr hg4]; done) | (refine WPO_op rfl ?_; simp [loadV_ptr hg3, loadV_ptr hg4]))
  refine WPO_call (g := 42) (a := []) (b := []) (args := [v, w]) rfl rfl ?_
  simp
  refine ev42 hf42 (Sl.fr hf2 hv) (Sl.fr hf2 hw') hna hnb fun h3 => ?_
  simp
  repeat (first | (refine WPO_op rfl ?_; simp) | (refine WPO_nil ?_; simp))
  simp [WP_ret, F22]
  have hqq := hq h2
  by_cases hab : a = b <;> simpa [hab] using hqq
end Go.Am.S7
