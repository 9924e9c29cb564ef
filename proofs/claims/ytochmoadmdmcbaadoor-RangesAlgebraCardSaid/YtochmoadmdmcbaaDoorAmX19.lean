/- The program's functions, stepped through in the plain machine. -/
import Derived.Test.YtochmoadmdmcbaaDoorAmX16
namespace Go.Am.S7
open Go
set_option maxRecDepth 100000
set_option linter.unusedSimpArgs false
set_option linter.unusedVariables false
variable {fs : Nat → Option D} {ro : Nat} {h : Hp} {e : Env}

/-- One range goes in: three rows are joined. -/
theorem tidy_ins {vs : V} {h0 h1 : Hp} {s : List Rg} {b o c i n k : Nat} {L : List V} {r : Rg} (hw0 : ∀ b x, h0.get b = some x → b < h0.nx) (hro : ro ≤ h0.nx) (hf : Fr h0 h1) (hvs : SlG h1 vs s) (hos : Own h0.nx vs) (hs1000 : s.length ≤ 1000)
    (hg : h1.get b = some (.cells 2 L)) (hin : i < n) (q1 : L[o + i * 2]? = some (.int .i64 r.1)) (q2 : L[o + i * 2 + 1]? = some (.int .i64 r.2)) (hk : k ≤ s.length)
    (e0 : e.get 0 = some (.sl b o n c)) (e3 : e.get 3 = some vs) (e4 : e.get 4 = some (.int .i64 (i : Nat))) (e5 : e.get 5 = some (.int .i64 (k : Nat))) {Q : X → Env → Hp → Prop}
    (hq : ∀ v' h' e', SlG h' v' (s.take k ++ r :: s.drop k) → Own h0.nx v' → Fr h0 h' → e' = [(0, .sl b o n c), (3, v'), (4, .int .i64 (i : Nat))] → Q .nrm e' h') :
    WP fs ro (.seq (.reg .false (some [0, 3, 4, 5, 6]) [⟨(some 46), none, (.buildSl 2 0 [(.int .i64 0), (.int .i64 0)] [])⟩, ⟨(some 47), none, (.mov (.t 3))⟩, ⟨(some 48), none, (.mov (.t 5))⟩, ⟨(some 49), none, (.slSl 2 (.t 47) none (some (.t 48)) none)⟩, ⟨(some 50), none, (.app 2 16 (.t 46) (.t 49))⟩, ⟨(some 6), none, (.mov (.t 50))⟩]) (.seq (.reg .false (some [0, 3, 4, 5, 6]) [⟨(some 51), none, (.mov (.t 6))⟩, ⟨(some 52), none, (.mov (.t 0))⟩, ⟨(some 53), none, (.mov (.t 4))⟩, ⟨(some 54), none, (.idxA 2 (.t 52) (.t 53))⟩, ⟨(some 55), none, (.load (some 2) (.t 54))⟩, ⟨(some 56), none, (.buildSl 2 1 [(.int .i64 0), (.int .i64 0)] [(0, (2, (.t 55)))])⟩, ⟨(some 57), none, (.app 2 16 (.t 51) (.t 56))⟩, ⟨(some 6), none, (.mov (.t 57))⟩]) (.reg .false (some [0, 3, 4]) [⟨(some 58), none, (.mov (.t 6))⟩, ⟨(some 59), none, (.mov (.t 3))⟩, ⟨(some 60), none, (.mov (.t 5))⟩, ⟨(some 61), none, (.slSl 2 (.t 59) (some (.t 60)) none none)⟩, ⟨(some 62), none, (.app 2 16 (.t 58) (.t 61))⟩, ⟨(some 3), none, (.mov (.t 62))⟩])))
      e h1 Q := by
  have hsh := Own.shape hos
  have htk : (s.take k).length ≤ 1000 := by simp; omega
  refine WP_seq ?_
  refine WP_reg ?_
  refine WPO_op rfl ?_
  simp [evParts, zeros, fill]
  have hfA : Fr h1 (h1.new (.cells 2 [])) := (Fr.refl hf.wf).new _
  have hsn : shown (h1.new (.cells 2 [])) 2 h1.nx 0 0 = some [] := (Sl.ofNew (h := h1) (sz := 2) (n := 0) (c := 1) (l := []) rfl).2
  generalize (h1.new (.cells 2 [])) = hA at *
  have hvA : SlG hA vs s := Sl.fr hfA hvs
  refine WPO_op rfl ?_
  simp [e3]
  refine WPO_op rfl ?_
  simp [e5]
  refine WPO_op rfl ?_
  refine OB_pre hvA hsh hk (by simp) (by simp) fun u hu hsu => ?_
  simp
  obtain ⟨vn, hB, ha1, hvn, hNx, hfB⟩ := app_base (ro := ro) hfA hsn (t := s.take k) (by omega)
  refine WPO_op rfl ?_
  refine OB_appG (v := .sl h1.nx 0 0 1) (by simp) (by simp) hu ha1 ?_
  simp
  refine WPO_op rfl ?_
  simp
  refine WPO_nil ?_
  simp [e0, e3, e4, e5]
  refine WP_seq ?_
  refine WP_reg ?_
  have hgB := hfB.sub _ _ hg
  have hvB : SlG hB vs s := Sl.fr hfB hvs
  have hro1 : ro ≤ h1.nx := by have := hf.nx; omega
  refine WPO_op rfl ?_
  simp
  refine WPO_op rfl ?_
  simp
  refine WPO_op rfl ?_
  simp
  refine WPO_op rfl ?_
  simp [hin]
  refine WPO_op rfl ?_
  simp [loadV_ptr hgB, loadN_two q1 q2]
  refine WPO_op rfl ?_
  simp [evParts, zeros, fill, V.cells, setN]
  obtain ⟨vn2, hC, ha2, hvn2, hon2, hfC⟩ := app_one (ro := ro) (p := r) hf.wf hro1 hfB hvn hNx (by omega)
  refine WPO_op rfl ?_
  refine OB_appG (v := vn) (y := .sl hB.nx 0 1 2) (t := [r]) rfl rfl (Sl.ofNew (h := hB) (sz := 2) (n := 1) (c := 2) (l := [V.int .i64 r.1, V.int .i64 r.2]) rfl) ha2 ?_
  simp
  refine WPO_op rfl ?_
  simp
  refine WPO_nil ?_
  simp
  have hvC : SlG hC vs s := Sl.fr hfC hvs
  refine WP_reg ?_
  refine WPO_op rfl ?_
  simp
  refine WPO_op rfl ?_
  simp
  refine WPO_op rfl ?_
  simp
  refine WPO_op rfl ?_
  refine OB_suf hvC hsh hk rfl rfl fun u2 hu2 hsu2 => ?_
  simp
  obtain ⟨v', hD, ha3, hv', ho', hfD⟩ := app_many (ro := ro) (t := s.drop k) hf.wf hro1 hfC hvn2 hon2 (by simp; omega)
  refine WPO_op rfl ?_
  refine OB_appG (v := vn2) rfl rfl hu2 ha3 ?_
  simp
  refine WPO_op rfl ?_
  simp
  refine WPO_nil ?_
  simp
  refine hq v' hD _ ?_ (ho'.mono hf.nx) (hf.trans hfD) rfl
  rw [List.append_assoc] at hv'
  exact hv'

theorem ev37 {v : V} {l : List Rg} (hf : fs 37 = some (.code F37)) (hv : SlG h v l) (hval : ∀ p ∈ l, p.1 ≤ p.2) (hw : ∀ b x, h.get b = some x → b < h.nx) (hro : ro ≤ h.nx) (hn : l.length ≤ 1000) {Q : V → Hp → Prop}
    (hq : ∀ x h', SlG h' x (canon l) → Own h.nx x → Fr h h' → Q x h') : Ev fs ro 37 [v] h Q := by
  have hlen := hv.lenV
  refine Ev_fn hf rfl rfl rfl rfl ?_
  refine WP_seq ?_
  refine WP_reg ?_
  refine WPO_op rfl ?_
  simp
  refine WPO_nil ?_
  simp
  refine WP_seq ?_
  refine WP_reg ?_
  refine WPO_op rfl ?_
  simp
  refine WPO_nil ?_
  simp
  refine WP_mid (fun e' h' => ∃ vs, SlG h' vs (insS l) ∧ Own h.nx vs ∧ Fr h h' ∧ e'.get 3 = some vs) ?_ ?_
  · refine WP_seq ?_
    refine WP_reg ?_
    refine WPO_op rfl ?_
    simp
    refine WPO_nil ?_
    simp
    refine WP_block ?_
    refine WP_loop (fun m e h1 => ∃ i vs, m = l.length - i ∧ i ≤ l.length ∧ SlG h1 vs (insS (l.take i)) ∧ Own h.nx vs ∧ Fr h h1 ∧ e = [(0, v), (3, vs), (4, .int .i64 (i : Nat))]) l.length ⟨0, .nsl, by omega, by omega, ⟨by simp [insS], by simp [insS, flat]⟩, .inl rfl, Fr.refl hw, rfl⟩ ?_
    rintro m e h1 ⟨i, vs, rfl, hi, hvs, hos, hfr, rfl⟩
    refine WP_seq ?_
    refine WP_seq ?_
    refine WP_reg ?_
    repeat (first | (refine WPO_op rfl ?_; simp [hlen]) | (refine WPO_nil ?_; simp))
    refine WP_cond rfl ⟨fun ht => ?_, fun ht => ?_⟩
    · have hi' : i < l.length := by simpa using ht
      obtain ⟨b, o, c, L, rfl, hg, q1, q2⟩ := SlG.at (h := h1) (l := l) (Sl.fr hfr hv) (List.getElem?_eq_getElem hi')
      have hsl : (insS (l.take i)).length ≤ 1000 := by
        have := insS_le (l.take i)
        simp at this
        omega
      have hnext : insS (l.take (i + 1)) = if l[i].1 = l[i].2 then insS (l.take i) else ins (insS (l.take i)) l[i] := by
        rw [List.take_succ_eq_append_getElem hi', insS_snoc]
      have hwr : IntKind.wrap .i64 ((i : Int) + 1) = ((i + 1 : Nat) : Int) := by rw [wrap_i64 (by omega) (by omega)]; omega
      generalize insS (l.take i) = s at *
      simp only [WP_skip, nrmOr_nrm]
      refine WP_mid (fun e' h' => ∃ vs3, SlG h' vs3 (insS (l.take (i + 1))) ∧ Own h.nx vs3 ∧ Fr h h' ∧ e'.get 0 = some (.sl b o l.length c) ∧ e'.get 3 = some vs3 ∧ e'.get 4 = some (.int .i64 (i : Nat))) ?_ ?_
      · refine WP_block ?_
        refine WP_seq ?_
        refine WP_seq ?_
        refine WP_reg ?_
        repeat (first | (refine WPO_op rfl ?_; simp [loadV_ptr hg, q1, q2, hi']; done) | (refine WPO_op rfl ?_; simp [loadV_ptr hg, q1, q2, hi']) | (refine WPO_nil ?_; simp))
        refine WP_cond rfl ⟨fun hd => ?_, fun hd => ?_⟩
        · have he : l[i].1 = l[i].2 := by simpa using hd
          rw [if_pos he] at hnext
          rw [hnext]
          simp only [WP_exit, nrmOr_exit, blkQ_exit, if_pos, nrmOr_nrm, blkQ_nrm]
          exact ⟨vs, hvs, hos, hfr, rfl, rfl, rfl⟩
        · have he : ¬ l[i].1 = l[i].2 := by simpa using hd
          rw [if_neg he] at hnext
          rw [hnext]
          simp only [WP_skip, nrmOr_nrm]
          refine WP_seq ?_
          refine WP_reg ?_
          refine WPO_op rfl ?_
          simp
          refine WPO_nil ?_
          simp
          refine WP_seq ?_
          refine tidy_at (r := l[i]) hvs hsl hg hi' q1 fun k e2 hk t1 t2 g0 g3 g4 g5 => ?_
          simp only [nrmOr_nrm]
          refine tidy_ins (r := l[i]) hw hro hfr hvs hos hsl hg hi' q1 q2 hk g0 g3 g4 g5 fun v' h' e' s1 s2 s3 s4 => ?_
          subst s4
          simp only [blkQ_nrm, nrmOr_nrm]
          refine ⟨v', ?_, s2, s3, rfl, rfl, rfl⟩
          rw [t1, t2] at s1
          exact s1
      rintro e' h' ⟨vs3, g1, g2, g3, e0, e3, e4⟩
      repeat (first | refine WP_reg ?_ | (refine WPO_op rfl ?_; simp [e4]) | (refine WPO_nil ?_; simp [e0, e3, e4]))
      refine ⟨l.length - (i + 1), by omega, i + 1, rfl, by omega, vs3, g1, g2, g3, rfl, ?_⟩
      rw [hwr]
    · have hi' : i = l.length := by
        have : ¬ (i < l.length) := by simpa using ht
        omega
      subst hi'
      rw [List.take_length] at hvs
      simp only [WP_exit, nrmOr_exit, blkQ_exit, if_pos, nrmOr_nrm, blkQ_nrm]
      exact ⟨vs, hvs, hos, hfr, rfl⟩
  rintro e1 hP ⟨vs, hvs, hos, hfP, e3⟩
  have hS : ∀ p ∈ insS l, p.1 < p.2 := fun p hp => by
    have h1 := ((insS_spec l).2 p).1 hp
    have h2 := hval p h1.1
    omega
  have hSl : (insS l).length ≤ 1000 := by have := insS_le l; omega
  have hcan : canon l = mrgs (insS l) := rfl
  rw [hcan] at hq
  generalize insS l = S at *
  clear hcan hlen
  have hlen := hvs.lenV
  refine WP_seq ?_
  refine WP_reg ?_
  refine WPO_op rfl ?_
  simp
  refine WPO_nil ?_
  simp [e3]
  refine WP_seq ?_
  refine WP_seq ?_
  refine WP_reg ?_
  refine WPO_op rfl ?_
  simp
  refine WPO_nil ?_
  simp
  refine WP_block ?_
  have hroP : ro ≤ hP.nx := by have := hfP.nx; omega
  refine WP_loop (fun m e h1 => ∃ i out vo, m = S.length - i ∧ i ≤ S.length ∧ out = mrgs (S.take i) ∧ out.length ≤ i ∧ SlG h1 vo out ∧ Own hP.nx vo ∧ Fr hP h1 ∧ e = [(3, vs), (7, vo), (8, .int .i64 (i : Nat))]) S.length ⟨0, [], .nsl, by omega, by omega, rfl, by simp, ⟨rfl, rfl⟩, .inl rfl, Fr.refl hfP.wf, rfl⟩ ?_
  rintro m e h1 ⟨i, out, vo, rfl, hi, hout, holen, hvo, hown, hfr, rfl⟩
  refine WP_seq ?_
  refine WP_seq ?_
  refine WP_reg ?_
  repeat (first | (refine WPO_op rfl ?_; simp [hlen]) | (refine WPO_nil ?_; simp))
  refine WP_cond rfl ⟨fun ht => ?_, fun ht => ?_⟩
  · have hi' : i < S.length := by simpa using ht
    have hvs1 := Sl.fr hfr hvs
    obtain ⟨b, o, c, L, rfl, hg, q1, q2⟩ := SlG.at (h := h1) (l := S) hvs1 (List.getElem?_eq_getElem hi')
    have hwr : IntKind.wrap .i64 ((i : Int) + 1) = ((i + 1 : Nat) : Int) := by rw [wrap_i64 (by omega) (by omega)]; omega
    have hpos := hS S[i] (List.getElem_mem hi')
    simp only [WP_skip, nrmOr_nrm]
    refine WP_mid (fun e' h' => ∃ vo3, SlG h' vo3 (mrg out S[i]) ∧ Own hP.nx vo3 ∧ Fr hP h' ∧ e'.get 3 = some (.sl b o S.length c) ∧ e'.get 7 = some vo3 ∧ e'.get 8 = some (.int .i64 (i : Nat))) ?_ ?_
    rotate_left
    · rintro e' h' ⟨vo3, g1, g2, g3, e3, e7, e8⟩
      repeat (first | refine WP_reg ?_ | (refine WPO_op rfl ?_; simp [e8]) | (refine WPO_nil ?_; simp [e3, e7, e8]))
      have hout' : mrg out S[i] = mrgs (S.take (i + 1)) := by
        unfold mrgs
        rw [List.take_succ_eq_append_getElem hi', List.foldl_append, hout]
        rfl
      have hle := mrg_le1 out S[i]
      refine ⟨S.length - (i + 1), by omega, i + 1, rfl, by omega, ?_, vo3, by rw [← hout']; exact g1, g2, g3, rfl, ?_⟩
      · rw [← hout']
        omega
      · rw [hwr]
    refine WP_block ?_
    refine WP_seq ?_
    refine WP_reg ?_
    have hlo := hvo.lenV
    repeat (first | (refine WPO_op rfl ?_; simp [hlo]) | (refine WPO_nil ?_; simp))
    refine WP_seq ?_
    have hlast : ∀ {e2 : Env}, e2.get 3 = some (.sl b o S.length c) → e2.get 7 = some vo → e2.get 8 = some (.int .i64 (i : Nat)) → mrg out S[i] = out ++ [S[i]] →
        WP fs ro (.reg .false (some [3, 7, 8]) [⟨(some 104), none, (.mov (.t 7))⟩, ⟨(some 105), none, (.mov (.t 3))⟩, ⟨(some 106), none, (.mov (.t 8))⟩, ⟨(some 107), none, (.idxA 2 (.t 105) (.t 106))⟩, ⟨(some 108), none, (.load (some 2) (.t 107))⟩, ⟨(some 109), none, (.buildSl 2 1 [(.int .i64 0), (.int .i64 0)] [(0, (2, (.t 108)))])⟩, ⟨(some 110), none, (.app 2 16 (.t 104) (.t 109))⟩, ⟨(some 7), none, (.mov (.t 110))⟩]) e2 h1
          fun x e' h' => x = .nrm ∧ ∃ vo3, SlG h' vo3 (mrg out S[i]) ∧ Own hP.nx vo3 ∧ Fr hP h' ∧ e'.get 3 = some (.sl b o S.length c) ∧ e'.get 7 = some vo3 ∧ e'.get 8 = some (.int .i64 (i : Nat)) := by
      intro e2 e3 e7 e8 hm
      obtain ⟨v', h', ha, hs, ho, hfa, hsh⟩ := app_range (p := S[i]) hfP.wf hroP hfr hvo hown (by omega)
      refine WP_reg ?_
      refine WPO_op rfl ?_
      simp [e7]
      refine WPO_op rfl ?_
      simp [e3]
      refine WPO_op rfl ?_
      simp [e8]
      refine WPO_op rfl ?_
      simp [hi']
      refine WPO_op rfl ?_
      simp [loadV_ptr hg, loadN_two q1 q2]
      refine WPO_op rfl ?_
      simp [evParts, zeros, fill, V.cells, setN]
      refine WPO_op rfl ?_
      rw [op1_app (v := vo) (b := h1.nx) (o := 0) (m := 1) (c := 2) (h' := h') (by simp [e7]) (by simp) hsh rfl ha]
      simp
      refine WPO_op rfl ?_
      simp
      refine WPO_nil ?_
      simp [e3, e8]
      rw [hm]
      exact ⟨v', hs, ho, hfa, rfl⟩
    rcases List.eq_nil_or_concat out with rfl | ⟨init, q, rfl⟩
    · refine WP_reg ?_
      repeat (first | (refine WPO_op rfl ?_; simp; done) | (refine WPO_op rfl ?_; simp) | (refine WPO_gop rfl ?_; simp) | (refine WPO_nil ?_; simp))
      refine WP_cond rfl ⟨fun hd => (by cases hd), fun _ => ?_⟩
      refine WP.mono (hlast rfl rfl rfl (by simp [mrg]; omega)) ?_
      rintro x e' h' ⟨rfl, g⟩
      simpa only [blkQ_nrm, nrmOr_nrm] using g
    · rw [List.concat_eq_append] at *
      have hq1 : (init ++ [q])[init.length]? = some q := by simp
      have hown2 := hown
      rcases hown2 with rfl | ⟨bo, oo, no, rfl, hbo⟩
      · simp [SlG, Sl] at hvo
      obtain ⟨bo', oo', co', Lo, ee, hgo, w1, w2⟩ := SlG.at hvo hq1
      cases ee
      have hil : init.length ≤ 1000000 := by simp at holen; omega
      have hwr2 : IntKind.wrap .i64 (init.length : Int) = init.length := wrap_i64 (by omega) (by omega)
      have hlt : (init.length : Int) < init.length + 1 := by omega
      refine WP_reg ?_
      repeat (first | (refine WPO_op rfl ?_; simp; done) | (refine WPO_op rfl ?_; simp) | (refine WPO_gop rfl ?_; simp [loadV_ptr hgo, loadV_ptr hg, hwr2, hlt, w2, q1, hi']) | (refine WPO_nil ?_; simp))
      refine WP_cond rfl ⟨fun hd => ?_, fun hd => ?_⟩
      · have hd' : S[i].1 ≤ q.2 := by simpa using hd
        refine WP_reg ?_
        repeat (first | (refine WPO_op rfl ?_; simp [loadV_ptr hgo, loadV_ptr hg, hwr2, hlt, w2, q2, hi', maxs, fold2, max2]; done) | (refine WPO_op rfl ?_; simp [loadV_ptr hgo, loadV_ptr hg, hwr2, hlt, w2, q2, hi', maxs, fold2, max2]))
        obtain ⟨L', hset, hv4, hf4⟩ := Sl.put (x := V.int .i64 (if q.2 < S[i].2 then S[i].2 else q.2)) (j := init.length * 2 + 1) hfr hfP.wf hvo hbo hgo (by rw [flat_len]; simp; omega)
        rw [← Nat.add_assoc] at hset
        refine OB_store (b := bo) (o := oo + init.length * 2 + 1) (v := V.int .i64 (if q.2 < S[i].2 then S[i].2 else q.2)) (l' := L') rfl rfl (by omega) rfl rfl hgo hset ?_
        simp
        refine WPO_nil ?_
        simp
        have hm : mrg (init ++ [q]) S[i] = (init ++ [q]).set init.length (q.1, if q.2 < S[i].2 then S[i].2 else q.2) := by
          simp [mrg, hd']
          omega
        refine ⟨V.sl bo oo (init.length + 1) 0, ?_, .inr ⟨_, _, _, rfl, hbo⟩, hf4, rfl⟩
        rw [hm]
        unfold SlG
        rw [← flat_set hq1]
        simpa using hv4
      · have hd' : ¬ S[i].1 ≤ q.2 := by simpa using hd
        refine WP.mono (hlast rfl (by simp) rfl (by simp [mrg, hd']; omega)) ?_
        rintro x e' h' ⟨rfl, g⟩
        simpa only [blkQ_nrm, nrmOr_nrm] using g
  · have hi' : i = S.length := by
      have : ¬ (i < S.length) := by simpa using ht
      omega
    subst hi'
    rw [List.take_length] at hout
    subst hout
    simp only [WP_exit, nrmOr_exit, blkQ_exit, if_pos, nrmOr_nrm, blkQ_nrm]
    repeat (first | refine WP_seq ?_ | refine WP_reg ?_ | (refine WPO_op rfl ?_; simp) | (refine WPO_nil ?_; simp))
    simp [WP_ret, F37]
    exact hq _ _ hvo (hown.mono hfP.nx) (hfP.trans hfr)
end Go.Am.S7
