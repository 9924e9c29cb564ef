/- The program's functions, stepped through in the plain machine. -/
import Derived.Test.YtochmoadmdmcbaaDoorAmTab7
import Derived.Test.YtochmoadmdmcbaaDoorAm23
namespace Go.Am.S7
open Go
set_option maxRecDepth 100000
variable {fs : Nat → Option D} {ro : Nat} {h : Hp}

/-- One more range, in order: joined to the last one where it meets it. -/
def mrg (out : List (Int × Int)) (r : Int × Int) : List (Int × Int) :=
  if r.1 ≥ r.2 then out else
  match out.getLast? with
  | some p => if r.1 ≤ p.2 then out.set (out.length - 1) (p.1, if r.2 > p.2 then r.2 else p.2) else out ++ [r]
  | none => out ++ [r]

def mrgs (l : List (Int × Int)) : List (Int × Int) := l.foldl mrg []

def madeV (out : List (Int × Int)) (v : V) : V := if out.length > 1024 then .tup [.agg [.nsl], .int .i64 9] else .tup [.agg [v], .int .i64 0]

theorem loadN_all {l : List V} {n : Nat} (hn : l.length = n) : loadN l 0 n = some l := by
  unfold loadN
  have : Nat.ble (0 + n) l.length = true := Nat.ble_eq_true_of_le (by omega)
  rw [this]
  simp only [cond_true, List.drop_zero, Option.some.injEq]
  exact List.take_of_length_le (by omega)

/-- One range is appended. -/
theorem app_range {h0 h2 : Hp} {out : List (Int × Int)} {p : Int × Int} {vo : V} (hw0 : ∀ b x, h0.get b = some x → b < h0.nx) (hro : ro ≤ h0.nx) (hfr : Fr h0 h2) (hvo : SlG h2 vo out) (hown : Own h0.nx vo) (hlen : out.length ≤ 1000000) :
    ∃ v' h', app ro (h2.new (.cells 2 [V.int .i64 p.1, V.int .i64 p.2])) 2 16 vo 1 [V.int .i64 p.1, V.int .i64 p.2] = some (v', h') ∧ SlG h' v' (out ++ [p]) ∧ Own h0.nx v' ∧ Fr h0 h' ∧
      shown (h2.new (.cells 2 [V.int .i64 p.1, V.int .i64 p.2])) 2 h2.nx 0 1 = some [V.int .i64 p.1, V.int .i64 p.2] := by
  have hfr3 : Fr h0 (h2.new (.cells 2 [V.int .i64 p.1, V.int .i64 p.2])) := hfr.new _
  have hvo3 : SlG (h2.new (.cells 2 [V.int .i64 p.1, V.int .i64 p.2])) vo out := Sl.fr ((Fr.refl hfr.wf).new _) hvo
  obtain ⟨v', h', ha, hs, ho, hf⟩ := app_sl (bytes := 16) (m := 1) (news := [V.int .i64 p.1, V.int .i64 p.2]) hfr3 hw0 hro hvo3 hown (by omega) rfl (by unfold roomMax; omega) (by unfold roomMax; omega)
  refine ⟨v', h', ha, ?_, ho, hf, ?_⟩
  · unfold SlG
    rw [flat_append, List.length_append]
    exact hs
  · exact (Sl.ofNew (h := h2) (sz := 2) (n := 1) (c := 2) (l := [V.int .i64 p.1, V.int .i64 p.2]) rfl).2

theorem made_app {h0 h2 : Hp} {out : List (Int × Int)} {p : Int × Int} {vo a8 a9 a10 x2 x7 x26 : V} {r : Nat} (hw0 : ∀ b x, h0.get b = some x → b < h0.nx) (hro : ro ≤ h0.nx) (hfr : Fr h0 h2) (hvo : SlG h2 vo out) (hown : Own h0.nx vo) (hlen : out.length ≤ 1000000)
    (hg2 : h2.get r = some (.cells 0 [V.int .i64 p.1, V.int .i64 p.2])) {Q : X → Env → Hp → Prop}
    (hq : ∀ v' h', SlG h' v' (out ++ [p]) → Own h0.nx v' → Fr h0 h' → Q .nrm [(2, x2), (4, v'), (8, a8), (9, a9), (10, a10)] h') :
    WP fs ro (.reg .false (some [2, 4, 8, 9, 10]) [⟨(some 16), none, (.mov (.t 4))⟩, ⟨(some 17), none, (.load (some 2) (.t 6))⟩, ⟨(some 18), none, (.buildSl 2 1 [(.int .i64 0), (.int .i64 0)] [(0, (2, (.t 17)))])⟩, ⟨(some 19), none, (.app 2 16 (.t 16) (.t 18))⟩, ⟨(some 4), none, (.mov (.t 19))⟩])
      [(2, x2), (4, vo), (6, .ptr r 0), (7, x7), (8, a8), (9, a9), (10, a10), (26, x26)] h2 Q := by
  obtain ⟨v', h', ha, hs, ho, hf, hsh⟩ := app_range (p := p) hw0 hro hfr hvo hown hlen
  refine WP_reg ?_
  refine WPO_op rfl ?_
  simp
  refine WPO_op rfl ?_
  simp [loadV_ptr hg2, loadN_all]
  refine WPO_op rfl ?_
  simp [evParts, zeros, fill, V.cells, setN]
  refine WPO_op rfl ?_
  rw [op1_app (v := vo) (b := h2.nx) (o := 0) (m := 1) (c := 2) (h' := h') rfl rfl hsh rfl ha]
  simp
  refine WPO_op rfl ?_
  simp
  refine WPO_nil ?_
  simp
  exact hq v' h' hs ho hf

theorem ev25 {v : V} {l : List (Int × Int)} (hf : fs 25 = some (.code F25)) (hv : SlG h v l) (hw : ∀ b x, h.get b = some x → b < h.nx) (hro : ro ≤ h.nx) (hn : l.length ≤ 1000000) {Q : V → Hp → Prop}
    (hq : ∀ v' h', SlG h' v' (mrgs l) → Own h.nx v' → Fr h h' → Q (madeV (mrgs l) v') h') : Ev fs ro 25 [v] h Q := by
  have hlen := hv.lenV
  refine Ev_fn hf rfl rfl rfl rfl ?_
  refine WP_seq ?_
  refine WP_reg ?_
  refine WPO_op rfl ?_
  simp
  refine WPO_op rfl ?_
  simp
  refine WPO_nil ?_
  simp
  have hf0 : Fr h (h.new (.cells 0 [.nsl])) := (Fr.refl hw).new _
  have hg0 : (h.new (.cells 0 [.nsl])).get h.nx = some (.cells 0 [.nsl]) := Hp.get_new_same
  generalize hh0 : h.new (.cells 0 [.nsl]) = h0 at *
  have hnx0 : h.nx < h0.nx := by rw [← hh0]; simp
  repeat (first | refine WP_seq ?_ | refine WP_reg ?_ | (refine WPO_op rfl ?_; simp [hlen]) | (refine WPO_nil ?_; simp))
  refine WP_block ?_
  refine WP_loop (fun m e h1 => ∃ i out vo, m = l.length - i ∧ i ≤ l.length ∧ out = mrgs (l.take i) ∧ out.length ≤ i ∧ SlG h1 vo out ∧ Own h0.nx vo ∧ Fr h0 h1 ∧ e = [(2, .ptr h.nx 0), (4, vo), (8, v), (9, .int .i64 l.length), (10, .int .i64 i)]) l.length ⟨0, [], .nsl, by simp, by omega, rfl, by simp, ⟨rfl, rfl⟩, .inl rfl, Fr.refl hf0.wf, rfl⟩ ?_
  rintro m e h1 ⟨i, out, vo, rfl, hi, hout, holen, hvo, hown, hfr, rfl⟩
  repeat (first | refine WP_seq ?_ | refine WP_reg ?_ | (refine WPO_op rfl ?_; simp) | (refine WPO_nil ?_; simp))
  refine WP_cond rfl ⟨fun ht => ?_, fun ht => ?_⟩
  · have hi' : i < l.length := by simpa using ht
    obtain ⟨b, o, c, L, rfl, hg, q1, q2⟩ := SlG.at (h := h1) (l := l) (Sl.fr hfr (Sl.fr hf0 hv)) (List.getElem?_eq_getElem hi')
    simp only [WP_skip, nrmOr_nrm]
    refine WP_mid (fun e' h' => ∃ vo3, SlG h' vo3 (mrg out l[i]) ∧ Own h0.nx vo3 ∧ Fr h0 h' ∧ e'.get 2 = some (.ptr h.nx 0) ∧ e'.get 4 = some vo3 ∧ e'.get 8 = some (V.sl b o l.length c) ∧ e'.get 9 = some (.int .i64 l.length) ∧ e'.get 10 = some (.int .i64 i)) ?_ ?_
    rotate_left
    · rintro e' h' ⟨vo3, g1, g2, g3, e2, e4, e8, e9, e10⟩
      repeat (first | refine WP_reg ?_ | (refine WPO_op rfl ?_; simp [e10]) | (refine WPO_nil ?_; simp [e2, e4, e8, e9]))
      have hout' : mrg out l[i] = mrgs (l.take (i + 1)) := by
        unfold mrgs
        rw [List.take_succ_eq_append_getElem hi', List.foldl_append, hout]
        rfl
      refine ⟨l.length - (i + 1), by omega, i + 1, rfl, by omega, ?_, vo3, by rw [← hout']; exact g1, g2, g3, rfl, ?_⟩
      · rw [← hout']
        have : (mrg out l[i]).length ≤ out.length + 1 := by
          unfold mrg
          split
          · omega
          · split
            · split
              · simp
              · simp
            · simp
        omega
      · rw [wrap_i64 (by omega) (by omega)]
        omega
    refine WP_block ?_
    refine WP_seq ?_
    refine WP_reg ?_
    refine WPO_op rfl ?_
    simp [hi']
    refine WPO_op rfl ?_
    simp [loadV_ptr hg, loadN_two q1 q2]
    refine WPO_op rfl ?_
    simp
    have hgr : (h1.new (.cells 0 [.int .i64 0, .int .i64 0])).get h1.nx = some (.cells 0 [.int .i64 0, .int .i64 0]) := Hp.get_new_same
    have hst := op1_store (ro := ro) (e := [(2, V.ptr h.nx 0), (4, vo), (8, V.sl b o l.length c), (9, V.int .i64 ↑l.length), (10, V.int .i64 ↑i), (11, V.bool true), (12, V.ptr b (o + i * 2)), (13, V.agg [V.int .i64 l[i].fst, V.int .i64 l[i].snd]), (6, V.ptr h1.nx 0)]) (n := 2) (a := .t 6) (x := .t 13) (v := V.agg [V.int .i64 l[i].fst, V.int .i64 l[i].snd]) (l' := [V.int .i64 l[i].fst, V.int .i64 l[i].snd]) (o := 0) rfl rfl (by have := hfr.nx; omega) rfl rfl hgr rfl
    refine WPO_op rfl ?_
    rw [hst, OB_some]
    have hw0 := hf0.wf
    have hfn : Fr h1 ((h1.new (.cells 0 [.int .i64 0, .int .i64 0])).set h1.nx (.cells 0 [V.int .i64 l[i].fst, V.int .i64 l[i].snd])) := ((Fr.refl hfr.wf).new _).set hfr.wf (Nat.le_refl _) hgr _
    have hg2 : ((h1.new (.cells 0 [.int .i64 0, .int .i64 0])).set h1.nx (.cells 0 [V.int .i64 l[i].fst, V.int .i64 l[i].snd])).get h1.nx = some (.cells 0 [V.int .i64 l[i].fst, V.int .i64 l[i].snd]) := Hp.get_set_same hgr
    generalize ((h1.new (.cells 0 [.int .i64 0, .int .i64 0])).set h1.nx (.cells 0 [V.int .i64 l[i].fst, V.int .i64 l[i].snd])) = h2 at *
    have hfr2 := hfr.trans hfn
    have hvo2 : SlG h2 vo out := Sl.fr hfn hvo
    have holen2 := hvo2.lenV
    clear hst hgr
    generalize hp : l[i] = p at *
    simp
    repeat (first | refine WP_seq ?_ | refine WP_reg ?_ | (refine WPO_op rfl ?_; simp [holen2]) | (refine WPO_nil ?_; simp))
    refine WP_block ?_
    refine WP_seq ?_
    refine WP_reg ?_
    repeat (first | (refine WPO_op rfl ?_; simp [loadV_ptr hg2]) | (refine WPO_nil ?_; simp))
    refine WP_cond rfl ⟨fun hc => ?_, fun hc => ?_⟩
    · -- an empty range
      simp only [WP_skip, blkQ_nrm, nrmOr_nrm]
      have hm : mrg out p = out := by simp [mrg]; intro h; simp at hc; omega
      rw [hm]
      exact ⟨vo, hvo2, hown, hfr2, by simp⟩
    · repeat (first | refine WP_seq ?_ | refine WP_reg ?_)
      have hc' : p.1 < p.2 := by simpa using hc
      rcases List.eq_nil_or_concat out with rfl | ⟨init, q, rfl⟩
      · repeat (first | (refine WPO_op rfl ?_; simp) | (refine WPO_gop rfl ?_; simp) | (refine WPO_nil ?_; simp))
        refine WP_cond rfl ⟨fun hd => (by cases hd), fun _ => ?_⟩
        refine made_app (p := p) hw0 (by omega) hfr2 hvo2 hown (by simp) hg2 fun v' h' g1 g2 g3 => ?_
        simp
        have hm : mrg [] p = [] ++ [p] := by simp [mrg]; omega
        rw [hm]
        exact ⟨v', g1, g2, g3, rfl⟩
      · rw [List.concat_eq_append] at *
        have hq1 : (init ++ [q])[init.length]? = some q := by simp
        have hown2 := hown
        rcases hown2 with rfl | ⟨bo, oo, no, rfl, hbo⟩
        · simp [SlG, Sl] at hvo
        obtain ⟨bo', oo', co', Lo, e, hgo, w1, w2⟩ := SlG.at hvo2 hq1
        cases e
        have hll : init.length < (init ++ [q]).length := by simp
        have hil : init.length ≤ 1000000 := by simp at holen; omega
        have hwr : IntKind.wrap .i64 (init.length : Int) = init.length := wrap_i64 (by omega) (by omega)
        have hlt : (init.length : Int) < init.length + 1 := by omega
        repeat (first | (refine WPO_op rfl ?_; simp) | (refine WPO_gop rfl ?_; simp [loadV_ptr hgo, loadV_ptr hg2, hwr, hlt, w2]) | (refine WPO_nil ?_; simp))
        refine WP_cond rfl ⟨fun hd => ?_, fun hd => ?_⟩
        · have hd' : p.1 ≤ q.2 := by simpa using hd
          refine WP_reg ?_
          repeat (first | (refine WPO_op rfl ?_; simp [loadV_ptr hgo, loadV_ptr hg2, hwr, hlt, w2, maxs, fold2, max2]; done) | (refine WPO_op rfl ?_; simp [loadV_ptr hgo, loadV_ptr hg2, hwr, hlt, w2, maxs, fold2, max2]))
          obtain ⟨L', hset, hv4, hf4⟩ := Sl.put (x := V.int .i64 (if q.2 < p.2 then p.2 else q.2)) (j := init.length * 2 + 1) hfr2 hw0 hvo2 hbo hgo (by rw [flat_len]; simp; omega)
          rw [← Nat.add_assoc] at hset
          refine OB_store (b := bo) (o := oo + init.length * 2 + 1) (v := V.int .i64 (if q.2 < p.2 then p.2 else q.2)) (l' := L') rfl rfl (by omega) rfl rfl hgo hset ?_
          simp
          refine WPO_nil ?_
          simp
          have hm : mrg (init ++ [q]) p = (init ++ [q]).set init.length (q.1, if q.2 < p.2 then p.2 else q.2) := by
            simp [mrg, hd']
            omega
          refine ⟨V.sl bo oo (init.length + 1) 0, ?_, .inr ⟨_, _, _, rfl, hbo⟩, hf4, rfl⟩
          rw [hm]
          unfold SlG
          rw [← flat_set hq1]
          simpa using hv4
        · have hd' : ¬ p.1 ≤ q.2 := by simpa using hd
          have hm : mrg (init ++ [q]) p = (init ++ [q]) ++ [p] := by
            simp [mrg, hd']
            omega
          refine made_app (p := p) hw0 (by omega) hfr2 (by simpa using hvo2) (by simpa using hown) (by simp; omega) hg2 fun v' h' g1 g2 g3 => ?_
          simp
          rw [hm]
          exact ⟨v', g1, g2, g3, rfl⟩
  · have hi' : i = l.length := by
      have : ¬ (i < l.length) := by simpa using ht
      omega
    subst hi'
    rw [List.take_length] at hout
    subst hout
    have holen3 := hvo.lenV
    simp only [WP_exit, nrmOr_exit, blkQ_exit, if_pos, nrmOr_nrm]
    repeat (first | refine WP_seq ?_ | refine WP_reg ?_ | (refine WPO_op rfl ?_; simp [holen3]) | (refine WPO_nil ?_; simp))
    have hgr := hfr.sub _ _ hg0
    have hw0 := hf0.wf
    refine WP_cond rfl ⟨fun hc => ?_, fun hc => ?_⟩
    · have hc' : (mrgs l).length > 1024 := by simp at hc; omega
      refine WP_seq ?_
      refine WP_reg ?_
      refine WPO_op rfl ?_
      simp [evParts, fill]
      refine WPO_op rfl ?_
      refine OB_store (b := h.nx) (o := 0) (v := V.agg [.nsl]) (l' := [.nsl]) rfl rfl (by omega) rfl rfl hgr rfl ?_
      simp
      refine WPO_op rfl ?_
      simp
      refine WPO_nil ?_
      simp [WP_ret, F25]
      rw [loadV_ptr (Hp.get_set_same hgr)]
      simp [loadN]
      have hfin := hq vo (h1.set h.nx (.cells 0 [.nsl])) ?_ ?_ ?_
      · simpa [madeV, hc', pack] using hfin
      · exact Sl.set_ne hvo hown hnx0 _
      · exact hown.mono (by omega)
      · exact (hf0.trans hfr).set hw (Nat.le_refl _) hgr _
    · have hc' : ¬ (mrgs l).length > 1024 := by simp at hc; omega
      simp only [WP_skip, nrmOr_nrm]
      obtain ⟨hoc1, hoc2⟩ := hown.cells
      refine WP_seq ?_
      refine WP_reg ?_
      refine WPO_op rfl ?_
      simp
      refine WPO_op rfl ?_
      simp [evParts, fill, hoc1, setN]
      refine WPO_op rfl ?_
      refine OB_store (b := h.nx) (o := 0) (v := V.agg [vo]) (l' := [vo]) rfl rfl (by omega) rfl (by simp [V.cells, hoc2]) hgr rfl ?_
      simp
      refine WPO_op rfl ?_
      simp
      refine WPO_nil ?_
      simp [WP_ret, F25]
      rw [loadV_ptr (Hp.get_set_same hgr)]
      simp [loadN]
      have hfin := hq vo (h1.set h.nx (.cells 0 [vo])) ?_ ?_ ?_
      · simpa [madeV, hc', pack] using hfin
      · exact Sl.set_ne hvo hown hnx0 _
      · exact hown.mono (by omega)
      · exact (hf0.trans hfr).set hw (Nat.le_refl _) hgr _
end Go.Am.S7
