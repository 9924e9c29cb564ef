/- The program's Blocks, stepped through. -/
import Derived.Test.YtochmoadmdmcbaaDoorAmX20
import Derived.Test.YtochmoadmdmcbaaDoorAmP2
namespace Go.Am.S7
open Go
set_option maxRecDepth 100000
set_option linter.unusedSimpArgs false
set_option linter.unusedVariables false
variable {fs : Nat → Option D} {ro : Nat} {h : Hp} {e : Env}

/-- A slice of ints. -/
def SlJ (h : Hp) (v : V) (l : List Int) : Prop := Sl h 1 v l.length (intsV .i64 l)

theorem SlJ.at {h : Hp} {v : V} {l : List Int} (hv : SlJ h v l) {i : Nat} (hi : i < l.length) :
    ∃ b o c L, v = .sl b o l.length c ∧ h.get b = some (.cells 1 L) ∧ L[o + i]? = some (.int .i64 l[i]) :=
  Sl.at hv (by simp [intsV, List.getElem?_map, List.getElem?_eq_getElem hi])

theorem app_intJ {h0 h2 : Hp} {out : List Int} {x : Int} {vo : V} (hw0 : ∀ b x, h0.get b = some x → b < h0.nx) (hro : ro ≤ h0.nx) (hfr : Fr h0 h2) (hvo : SlJ h2 vo out) (hown : Own h0.nx vo) (hlen : out.length ≤ 1000000) :
    ∃ v' h', app ro (h2.new (.cells 1 [V.int .i64 x])) 1 8 vo 1 [V.int .i64 x] = some (v', h') ∧ SlJ h' v' (out ++ [x]) ∧ Own h0.nx v' ∧ Fr h0 h' ∧
      shown (h2.new (.cells 1 [V.int .i64 x])) 1 h2.nx 0 1 = some [V.int .i64 x] := by
  have hfr3 : Fr h0 (h2.new (.cells 1 [V.int .i64 x])) := hfr.new _
  have hvo3 : SlJ (h2.new (.cells 1 [V.int .i64 x])) vo out := Sl.fr ((Fr.refl hfr.wf).new _) hvo
  obtain ⟨v', h', ha, hs, ho, hf⟩ := app_sl (bytes := 8) (m := 1) (news := [V.int .i64 x]) hfr3 hw0 hro hvo3 hown (by omega) rfl (by unfold roomMax; omega) (by unfold roomMax; omega)
  refine ⟨v', h', ha, ?_, ho, hf, ?_⟩
  · unfold SlJ
    rw [intsV, List.map_append, List.length_append]
    exact hs
  · exact (Sl.ofNew (h := h2) (sz := 1) (n := 1) (c := 2) (l := [V.int .i64 x]) rfl).2

def blkE (size : Int) (L : List Rg) : Int := if size < 1 ∨ 1099511627776 < size then 2 else match blkL size L with
  | none => 9
  | some _ => 0
def blkV (size : Int) (L : List Rg) : List Int := if size < 1 ∨ 1099511627776 < size then [] else (blkL size L).getD []

theorem div_bd {a size : Int} (h0 : 0 ≤ a) (h1 : a ≤ 1099511627776) (hs : 1 ≤ size) : 0 ≤ a / size ∧ a / size ≤ 1099511627776 ∧ a.tdiv size = a / size := by
  have h2 := Int.ediv_nonneg (a := a) (b := size) h0 (by omega)
  have h3 : a / size ≤ a := Int.ediv_le_self _ h0
  exact ⟨h2, by omega, Int.tdiv_eq_ediv_of_nonneg h0⟩

theorem binInt_quo {k : IntKind} {a b : Int} (hb : b ≠ 0) : binInt .quo k a b = some (.int k (k.wrap (a.tdiv b))) := by simp [binInt, hb]

set_option maxHeartbeats 2000000 in
theorem ev16 {v : V} {l : List Rg} {size : Int} (hf : fs 16 = some (.code F16)) (hv : SlG h v l) (hv1 : v.cells = [v]) (hn : l.length ≤ 1000) (hN : Norm l) (hF : Fine l) (hw : ∀ b x, h.get b = some x → b < h.nx) (hro : ro ≤ h.nx) {Q : V → Hp → Prop}
    (hq : ∀ x h', SlJ h' x (blkV size l) → Own h.nx x → Fr h h' → Q (.tup [x, .int .i64 (blkE size l)]) h') : Ev fs ro 16 [.agg [v], .int .i64 size] h Q := by
  refine Ev_fn hf rfl rfl rfl rfl ?_
  have hf1 : Fr h (h.new (.cells 0 [v])) := (Fr.refl hw).new _
  have hg1 : (h.new (.cells 0 [v])).get h.nx = some (.cells 0 [v]) := Hp.get_new_same
  refine WP_seq ?_
  refine WP_reg ?_
  refine WPO_op rfl ?_
  simp [V.cells]
  refine WPO_op rfl ?_
  simp
  refine WPO_op rfl ?_
  simp
  refine WPO_nil ?_
  simp
  have hnx1 : h.nx < (h.new (.cells 0 [v])).nx := by simp
  generalize (h.new (.cells 0 [v])) = h1 at *
  have hv2 : SlG h1 v l := Sl.fr hf1 hv
  have hlen := hv2.lenV
  refine WP_seq ?_
  refine WP_mid (fun e2 h2 => h1 = h2 ∧ e2 = [(1, .int .i64 size), (2, .ptr h.nx 0), (18, .bool (decide (size < 1 ∨ 1099511627776 < size)))]) ?_ ?_
  · refine WP_reg ?_
    by_cases c1 : size < 1 <;> by_cases c2 : 1099511627776 < size <;>
      repeat (first | (refine WPO_op rfl ?_; simp [c1, c2]; done) | (refine WPO_op rfl ?_; simp [c1, c2]) | (refine WPO_gop rfl ?_; simp [c1, c2]) | (refine WPO_nil ?_; simp [c1, c2]))
  rintro e2 h2 ⟨rfl, rfl⟩
  refine WP_cond rfl ⟨fun hd => ?_, fun hd => ?_⟩
  · have hbad : size < 1 ∨ 1099511627776 < size := by simpa using hd
    repeat (first | refine WP_seq ?_ | refine WP_reg ?_ | (refine WPO_op rfl ?_; simp) | (refine WPO_nil ?_; simp))
    simp [WP_ret, F16]
    have := hq .nsl h1 (by simp only [blkV, hbad, if_true]; exact ⟨rfl, rfl⟩) (.inl rfl) hf1
    simpa [blkE, hbad, pack] using this
  have hgood : ¬ (size < 1 ∨ 1099511627776 < size) := by simpa using hd
  have hs1 : 1 ≤ size := by omega
  have hs2 : size ≤ 1099511627776 := by omega
  have hne : size ≠ 0 := by omega
  have hE : blkE size l = match blkL size l with | none => 9 | some _ => 0 := by unfold blkE; rw [if_neg hgood]
  have hV : blkV size l = (blkL size l).getD [] := by unfold blkV; rw [if_neg hgood]
  simp only [WP_skip, nrmOr_nrm]
  refine WP_seq ?_
  refine WP_reg ?_
  refine WPO_op rfl ?_
  simp
  refine WPO_nil ?_
  simp
  refine WP_seq ?_
  refine WP_seq ?_
  refine WP_reg ?_
  refine WPO_op rfl ?_
  simp
  refine WPO_op rfl ?_
  simp [loadV_ptr hg1]
  refine WPO_op rfl ?_
  simp [hlen]
  refine WPO_op rfl ?_
  simp
  refine WPO_nil ?_
  simp
  refine WP_block ?_
  refine WP_loop (fun m e h2 => ∃ i out vo, m = l.length - i ∧ i ≤ l.length ∧ blkL size (l.take i) = some out ∧ SlJ h2 vo out ∧ Own h1.nx vo ∧ Fr h1 h2 ∧ e = [(1, .int .i64 size), (6, vo), (20, v), (21, .int .i64 (l.length : Nat)), (22, .int .i64 (i : Nat))]) l.length ⟨0, [], .nsl, by omega, by omega, rfl, ⟨rfl, rfl⟩, .inl rfl, Fr.refl hf1.wf, rfl⟩ ?_
  rintro m e h2 ⟨i, out, vo, rfl, hi, hout, hvo, hown, hfr, rfl⟩
  refine WP_seq ?_
  refine WP_reg ?_
  repeat (first | (refine WPO_op rfl ?_; simp) | (refine WPO_nil ?_; simp))
  refine WP_seq ?_
  refine WP_cond rfl ⟨fun ht => ?_, fun ht => ?_⟩
  · have hi' : i < l.length := by simpa using ht
    obtain ⟨b0, o0, c0, L, rfl, hg, q1, q2⟩ := SlG.at (h := h2) (l := l) (Sl.fr hfr hv2) (List.getElem?_eq_getElem hi')
    have hwr : IntKind.wrap .i64 ((i : Int) + 1) = ((i + 1 : Nat) : Int) := by rw [wrap_i64 (by omega) (by omega)]; omega
    have hr := hF l[i] (List.getElem_mem hi')
    have hrp := hN.1 l[i] (List.getElem_mem hi')
    have hol := blkL_le i hi out hout
    have hsucc := blkL_succ (size := size) hi'
    rw [hout] at hsucc
    generalize l[i] = r at *
    obtain ⟨d1, d2, d3⟩ := div_bd (a := r.1) (size := size) hr.1 (by omega) hs1
    obtain ⟨d4, d5, d6⟩ := div_bd (a := r.2 - 1) (size := size) (by omega) (by omega) hs1
    have hab : r.1 / size ≤ (r.2 - 1) / size := div_mono (by omega) (by omega)
    have w1 : IntKind.wrap .i64 (r.1.tdiv size) = r.1 / size := by rw [d3]; exact wrap_i64 (by omega) (by omega)
    have w2 : IntKind.wrap .i64 (r.2 - 1) = r.2 - 1 := wrap_i64 (by omega) (by omega)
    have w3 : IntKind.wrap .i64 ((r.2 - 1).tdiv size) = (r.2 - 1) / size := by rw [d6]; exact wrap_i64 (by omega) (by omega)
    simp only [stepB, Option.bind_some] at hsucc
    generalize hA : r.1 / size = A at *
    generalize hB : (r.2 - 1) / size = B at *
    have hce := cnt_eq (out := out) hab
    have hfl := from_le (out := out) hab
    simp only [WP_skip, nrmOr_nrm]
    refine WP_mid (fun e' h' => ∃ out' vo', blkL size (l.take (i + 1)) = some out' ∧ SlJ h' vo' out' ∧ Own h1.nx vo' ∧ Fr h1 h' ∧ e'.get 1 = some (.int .i64 size) ∧ e'.get 6 = some vo' ∧ e'.get 20 = some (.sl b0 o0 l.length c0) ∧ e'.get 21 = some (.int .i64 (l.length : Nat)) ∧ e'.get 22 = some (.int .i64 (i : Nat))) ?_ ?_
    rotate_left
    · rintro e' h' ⟨out', vo', g0, g1, g2, g3, e1, e6, e20, e21, e22⟩
      repeat (first | refine WP_reg ?_ | (refine WPO_op rfl ?_; simp [e22]) | (refine WPO_nil ?_; simp [e1, e6, e20, e21, e22]))
      refine ⟨l.length - (i + 1), by omega, i + 1, rfl, by omega, out', g0, vo', g1, g2, g3, rfl, ?_⟩
      rw [hwr]
    refine WP_block ?_
    refine WP_seq ?_
    refine WP_reg ?_
    refine WPO_op rfl ?_
    simp [hi']
    refine WPO_op rfl ?_
    simp [loadV_ptr hg, loadN_two q1 q2]
    refine WPO_op rfl ?_
    simp
    have hgr : (h2.new (.cells 0 [.int .i64 0, .int .i64 0])).get h2.nx = some (.cells 0 [.int .i64 0, .int .i64 0]) := Hp.get_new_same
    have hfn : Fr h2 ((h2.new (.cells 0 [.int .i64 0, .int .i64 0])).set h2.nx (.cells 0 [V.int .i64 r.1, V.int .i64 r.2])) := ((Fr.refl hfr.wf).new _).set hfr.wf (Nat.le_refl _) hgr _
    have hg2 : ((h2.new (.cells 0 [.int .i64 0, .int .i64 0])).set h2.nx (.cells 0 [V.int .i64 r.1, V.int .i64 r.2])).get h2.nx = some (.cells 0 [V.int .i64 r.1, V.int .i64 r.2]) := Hp.get_set_same hgr
    refine WPO_op rfl ?_
    refine OB_store (b := h2.nx) (o := 0) (v := V.agg [V.int .i64 r.1, V.int .i64 r.2]) (l' := [V.int .i64 r.1, V.int .i64 r.2]) rfl rfl (by have := hfr.nx; omega) rfl rfl hgr rfl ?_
    generalize ((h2.new (.cells 0 [.int .i64 0, .int .i64 0])).set h2.nx (.cells 0 [V.int .i64 r.1, V.int .i64 r.2])) = h3 at *
    have hfr3 := hfr.trans hfn
    have hvo3 : SlJ h3 vo out := Sl.fr hfn hvo
    have hlo := hvo3.lenV
    simp
    refine WPO_nil ?_
    simp
    refine WP_seq ?_
    refine WP_reg ?_
    repeat (first | (refine WPO_op rfl ?_; simp [loadV_ptr hg2, binInt_quo hne, w1, w2, w3]; done) | (refine WPO_op rfl ?_; simp [loadV_ptr hg2, binInt_quo hne, w1, w2, w3]) | (refine WPO_nil ?_; simp))
    refine WP_mid (fun e' h' => h3 = h' ∧ e'.get 1 = some (.int .i64 size) ∧ e'.get 6 = some vo ∧ e'.get 9 = some (.int .i64 (fromI out A)) ∧ e'.get 10 = some (.int .i64 B) ∧ e'.get 20 = some (.sl b0 o0 l.length c0) ∧ e'.get 21 = some (.int .i64 (l.length : Nat)) ∧ e'.get 22 = some (.int .i64 (i : Nat))) ?_ ?_
    · refine WP_seq ?_
      refine WP_reg ?_
      repeat (first | (refine WPO_op rfl ?_; simp [hlo]; done) | (refine WPO_op rfl ?_; simp [hlo]) | (refine WPO_nil ?_; simp))
      refine WP_mid (fun e2 h' => h3 = h' ∧ e2 = [(1, .int .i64 size), (6, vo), (9, .int .i64 A), (10, .int .i64 B), (20, .sl b0 o0 l.length c0), (21, .int .i64 (l.length : Nat)), (22, .int .i64 (i : Nat)), (47, .bool (decide (out.getLast? = some A)))]) ?_ ?_
      · refine WP_reg ?_
        rcases List.eq_nil_or_concat out with rfl | ⟨init, x, rfl⟩
        · repeat (first | (refine WPO_op rfl ?_; simp; done) | (refine WPO_op rfl ?_; simp) | (refine WPO_gop rfl ?_; simp) | (refine WPO_nil ?_; simp))
        · rw [List.concat_eq_append] at *
          have hll : init.length < (init ++ [x]).length := by simp
          obtain ⟨bo, oo, co, Lo, ee, hgo, w4⟩ := SlJ.at hvo3 hll
          subst ee
          have hx : (init ++ [x])[init.length] = x := by simp
          rw [hx] at w4
          have hil : init.length ≤ 1000000 := by simp at hol; omega
          have hwr2 : IntKind.wrap .i64 (init.length : Int) = init.length := wrap_i64 (by omega) (by omega)
          have hlt : (init.length : Int) < init.length + 1 := by omega
          repeat (first | (refine WPO_op rfl ?_; simp; done) | (refine WPO_op rfl ?_; simp) | (refine WPO_gop rfl ?_; simp [loadV_ptr hgo, hwr2, hlt, w4]) | (refine WPO_nil ?_; simp))
          all_goals (by_cases hxa : x = A <;> simp [hxa])
      rintro e2 h' ⟨rfl, rfl⟩
      refine WP_cond rfl ⟨fun hd => ?_, fun hd => ?_⟩
      · have hl : out.getLast? = some A := by simpa using hd
        have hfe : fromI out A = A + 1 := by unfold fromI; rw [if_pos hl]
        have w5 : IntKind.wrap .i64 (A + 1) = A + 1 := wrap_i64 (by omega) (by omega)
        repeat (first | refine WP_reg ?_ | (refine WPO_op rfl ?_; simp [w5]; done) | (refine WPO_op rfl ?_; simp [w5]) | (refine WPO_nil ?_; simp [hfe]))
      · have hl : ¬ out.getLast? = some A := by simpa using hd
        have hfe : fromI out A = A := by unfold fromI; rw [if_neg hl]
        simp [WP_skip, hfe]
    rintro e' h' ⟨rfl, e1, e6, e9, e10, e20, e21, e22⟩
    generalize hfr0 : fromI out A = f at *
    have x1 : IntKind.wrap .i64 ((out.length : Int) + B) = out.length + B := wrap_i64 (by omega) (by omega)
    have x2 : IntKind.wrap .i64 ((out.length : Int) + B - f) = out.length + B - f := wrap_i64 (by omega) (by omega)
    have x3 : IntKind.wrap .i64 ((out.length : Int) + B - f + 1) = out.length + B - f + 1 := wrap_i64 (by omega) (by omega)
    refine WP_seq ?_
    refine WP_seq ?_
    refine WP_reg ?_
    repeat (first | (refine WPO_op rfl ?_; simp [e6, e9, e10, hlo, x1, x2, x3]; done) | (refine WPO_op rfl ?_; simp [e6, e9, e10, hlo, x1, x2, x3]) | (refine WPO_nil ?_; simp [e1, e6, e9, e10, e20, e21, e22]))
    refine WP_cond rfl ⟨fun hd => ?_, fun hd => ?_⟩
    · have hbig : out.length + cntI out A B > 100000 := by
        have : (100000 : Int) < out.length + B - f + 1 := by simpa using hd
        omega
      rw [if_pos hbig] at hsucc
      have hnone := blkL_none hsucc
      repeat (first | refine WP_seq ?_ | refine WP_reg ?_ | (refine WPO_op rfl ?_; simp) | (refine WPO_nil ?_; simp))
      simp [WP_ret, F16]
      have := hq .nsl h3 (by rw [hV, hnone]; exact ⟨rfl, rfl⟩) (.inl rfl) (hf1.trans hfr3)
      rw [hE, hnone] at this
      simpa [pack] using this
    have hsmall : ¬ (out.length + cntI out A B > 100000) := by
      have : ¬ ((100000 : Int) < out.length + B - f + 1) := by simpa using hd
      omega
    rw [if_neg hsmall] at hsucc
    simp only [WP_skip, nrmOr_nrm]
    refine WP_seq ?_
    refine WP_reg ?_
    repeat (first | (refine WPO_op rfl ?_; simp) | (refine WPO_nil ?_; simp))
    generalize cntI out A B = k at *
    refine WP_block ?_
    refine WP_loop (fun m e h4 => ∃ j vo', m = k - j ∧ j ≤ k ∧ SlJ h4 vo' (out ++ runI f j) ∧ Own h1.nx vo' ∧ Fr h1 h4 ∧ e = [(1, .int .i64 size), (6, vo'), (10, .int .i64 B), (12, .int .i64 (f + (j : Nat))), (20, .sl b0 o0 l.length c0), (21, .int .i64 (l.length : Nat)), (22, .int .i64 (i : Nat))]) k ⟨0, vo, by omega, by omega, by simpa [runI] using hvo3, hown, hfr3, by simp⟩ ?_
    rintro m e h4 ⟨j, vo', rfl, hj, hvj, hoj, hfj, rfl⟩
    refine WP_seq ?_
    refine WP_seq ?_
    refine WP_reg ?_
    repeat (first | (refine WPO_op rfl ?_; simp; done) | (refine WPO_op rfl ?_; simp) | (refine WPO_nil ?_; simp))
    refine WP_cond rfl ⟨fun hd => ?_, fun hd => ?_⟩
    · have hjk : j < k := by
        have : f + (j : Int) ≤ B := by simpa using hd
        omega
      have w6 : IntKind.wrap .i64 (f + (j : Int) + 1) = f + ((j + 1 : Nat) : Int) := by rw [wrap_i64 (by omega) (by omega)]; omega
      simp only [WP_skip, nrmOr_nrm]
      refine WP_seq ?_
      refine WP_block ?_
      obtain ⟨v', h', ha, hs, ho, hfa, hsh⟩ := app_intJ (ro := ro) (x := f + (j : Int)) hf1.wf (by omega) hfj hvj hoj (by rw [List.length_append, runI_len]; omega)
      refine WP_reg ?_
      refine WPO_op rfl ?_
      simp
      refine WPO_op rfl ?_
      simp
      refine WPO_op rfl ?_
      simp [evParts, zeros, fill, V.cells, setN]
      refine WPO_op rfl ?_
      rw [op1_app (v := vo') (b := h4.nx) (o := 0) (m := 1) (c := 2) (h' := h') rfl rfl hsh rfl ha]
      simp
      refine WPO_op rfl ?_
      simp
      refine WPO_nil ?_
      simp
      repeat (first | refine WP_reg ?_ | (refine WPO_op rfl ?_; simp; done) | (refine WPO_op rfl ?_; simp) | (refine WPO_nil ?_; simp))
      refine ⟨k - (j + 1), by omega, j + 1, rfl, by omega, v', ?_, ho, hfa, rfl, ?_⟩
      · rw [runI_succ, ← List.append_assoc]
        exact hs
      · rw [w6]
    · have hjk : j = k := by
        have : ¬ (f + (j : Int) ≤ B) := by simpa using hd
        omega
      subst hjk
      simp only [WP_exit, nrmOr_exit, blkQ_exit, if_pos, nrmOr_nrm, blkQ_nrm]
      exact ⟨_, hsucc, vo', hvj, hoj, hfj, rfl, rfl, rfl, rfl, rfl⟩
  · have hi' : i = l.length := by
      have : ¬ (i < l.length) := by simpa using ht
      omega
    subst hi'
    rw [List.take_length] at hout
    simp only [WP_exit, nrmOr_exit, blkQ_exit, if_pos, nrmOr_nrm, blkQ_nrm]
    repeat (first | refine WP_seq ?_ | refine WP_reg ?_ | (refine WPO_op rfl ?_; simp) | (refine WPO_nil ?_; simp))
    simp [WP_ret, F16]
    have := hq vo h2 (by rw [hV, hout]; exact hvo) (hown.mono (by omega)) (hf1.trans hfr)
    rw [hE, hout] at this
    simpa [pack] using this
end Go.Am.S7
