/- The program's functions, stepped through in the plain machine. -/
import Derived.Test.YtochmoadmdmcbaaDoorAmX3
namespace Go.Am.S7
open Go
set_option maxRecDepth 100000
variable {fs : Nat → Option D} {ro : Nat} {h : Hp}

theorem mrgs_snoc (l : List (Int × Int)) (x : Int × Int) : mrgs (l ++ [x]) = mrg (mrgs l) x := by simp [mrgs, List.foldl_append]

theorem mrg_le {out : List (Int × Int)} {r : Int × Int} {n : Int} (ho : ∀ p ∈ out, p.2 ≤ n) (hr : r.2 ≤ n) : ∀ p ∈ mrg out r, p.2 ≤ n := by
  intro p hp
  unfold mrg at hp
  split at hp
  · exact ho p hp
  · split at hp
    · rename_i q hq
      have hqm := ho q (List.mem_of_getLast? hq)
      split at hp
      · rcases List.mem_or_eq_of_mem_set hp with h | h
        · exact ho p h
        · subst h; simp only; split <;> omega
      · rcases List.mem_append.1 hp with h | h
        · exact ho p h
        · simp at h; subst h; exact hr
    · rcases List.mem_append.1 hp with h | h
      · exact ho p h
      · simp at h; subst h; exact hr

theorem chs_le (a b : List Int) : ∀ n, ∀ p ∈ mrgs (chs a b n), p.2 ≤ (n : Int)
  | 0 => by simp [chs, mrgs]
  | n + 1 => by
    have ih := chs_le a b n
    unfold chs
    split
    · rw [mrgs_snoc]
      exact mrg_le (fun p hp => by have := ih p hp; omega) (by simp)
    · intro p hp
      have := ih p hp
      omega

theorem mrgs_len (a b : List Int) : ∀ n, (mrgs (chs a b n)).length ≤ n
  | 0 => by simp [chs, mrgs]
  | n + 1 => by
    have ih := mrgs_len a b n
    unfold chs
    split
    · rw [mrgs_snoc]
      have : ∀ (out : List (Int × Int)) r, (mrg out r).length ≤ out.length + 1 := fun out r => by
        unfold mrg
        split
        · omega
        · split
          · split <;> simp
          · simp
      have := this (mrgs (chs a b n)) ((n : Int), (n : Int) + 1)
      omega
    · omega

theorem ref_app {h1 : Hp} {out : List (Int × Int)} {vo va vb x8 x63 : V} {i : Nat} (hw : ∀ b x, h.get b = some x → b < h.nx) (hro : ro ≤ h.nx) (hfr : Fr h h1) (hvo : SlG h1 vo out) (hown : Own h.nx vo) (hlen : out.length ≤ 1000000)
    (hwr : IntKind.wrap .i64 ((i : Int) + 1) = (i : Int) + 1) {Q : X → Env → Hp → Prop} (hq : ∀ v' h', SlG h' v' (out ++ [((i : Int), (i : Int) + 1)]) → Own h.nx v' → Fr h h' → Q .nrm [(0, va), (1, vb), (6, v'), (7, .int .i64 i)] h') :
    WP fs ro (.reg .false (some [0, 1, 6, 7]) [⟨(some 71), none, (.mov (.t 6))⟩, ⟨(some 72), none, (.mov (.t 7))⟩, ⟨(some 73), none, (.mov (.t 7))⟩, ⟨(some 74), none, (.bin .add (.t 73) (.c (.int .i64 1)))⟩, ⟨(some 75), none, (.build [(.int .i64 0), (.int .i64 0)] [(0, (1, (.t 72))), (1, (1, (.t 74)))])⟩, ⟨(some 76), none, (.buildSl 2 1 [(.int .i64 0), (.int .i64 0)] [(0, (2, (.t 75)))])⟩, ⟨(some 77), none, (.app 2 16 (.t 71) (.t 76))⟩, ⟨(some 6), none, (.mov (.t 77))⟩])
      [(0, va), (1, vb), (6, vo), (7, .int .i64 i), (8, x8), (63, x63)] h1 Q := by
  obtain ⟨v', h3, hap, hs3, ho3, hf3, hsh⟩ := app_range (ro := ro) (p := ((i : Int), (i : Int) + 1)) hw hro hfr hvo hown hlen
  refine WP_reg ?_
  refine WPO_op rfl ?_
  simp
  refine WPO_op rfl ?_
  simp
  refine WPO_op rfl ?_
  simp
  refine WPO_op rfl ?_
  simp [hwr]
  refine WPO_op rfl ?_
  simp [evParts, fill, V.cells, setN]
  refine WPO_op rfl ?_
  simp [evParts, zeros, fill, V.cells, setN]
  refine WPO_op rfl ?_
  rw [op1_app (v := vo) (b := h1.nx) (o := 0) (m := 1) (c := 2) (h' := h3) rfl rfl hsh rfl hap]
  simp
  refine WPO_op rfl ?_
  simp
  refine WPO_nil ?_
  simp
  exact hq v' h3 hs3 ho3 hf3

set_option maxHeartbeats 400000 in
theorem ev10 {va vb : V} {la lb : List Int} (hf10 : fs 10 = some (.code F10)) (ha : SlI h va la) (hb : SlI h vb lb) (hw : ∀ b x, h.get b = some x → b < h.nx) (hro : ro ≤ h.nx) {Q : V → Hp → Prop}
    (hq : ∀ x h', SlG h' x (chL la lb) → Own h.nx x → Fr h h' → Q (.tup [x, .int .i64 (chE la lb)]) h') : Ev fs ro 10 [va, vb] h Q := by
  have hla := ha.lenV
  have hlb := hb.lenV
  refine Ev_fn hf10 rfl rfl rfl rfl ?_
  refine WP_seq ?_
  refine WP_reg ?_
  repeat (first | (refine WPO_op rfl ?_; simp) | (refine WPO_nil ?_; simp))
  refine WP_seq ?_
  refine WP_mid (fun e' h' => h = h' ∧ e' = [(0, va), (1, vb), (16, .bool (decide (65536 < max la.length lb.length)))]) ?_ ?_
  · refine WP_reg ?_
    by_cases c1 : 65536 < la.length
    · have c1' : (65536 : Int) < la.length := by omega
      have c2 : 65536 < max la.length lb.length := by omega
      repeat (first | (refine WPO_op rfl ?_; simp [hla, c1', c2]) | (refine WPO_gop rfl ?_; simp) | (refine WPO_nil ?_; simp))
    · have c1' : ¬ (65536 : Int) < la.length := by omega
      by_cases c3 : 65536 < lb.length
      · have c3' : (65536 : Int) < lb.length := by omega
        have c2 : 65536 < max la.length lb.length := by omega
        repeat (first | (refine WPO_op rfl ?_; simp [hla, c1', c2]) | (refine WPO_gop rfl ?_; simp [hlb, c3']) | (refine WPO_nil ?_; simp))
      · have c3' : ¬ (65536 : Int) < lb.length := by omega
        have c2 : ¬ 65536 < max la.length lb.length := by omega
        repeat (first | (refine WPO_op rfl ?_; simp [hla, c1', c2]) | (refine WPO_gop rfl ?_; simp [hlb, c3']) | (refine WPO_nil ?_; simp))
  generalize hM : max la.length lb.length = M at *
  rintro e' h' ⟨rfl, rfl⟩
  refine WP_cond rfl ⟨fun hc => ?_, fun hc => ?_⟩
  · have hc' : M > 65536 := by simp at hc; omega
    refine WP_seq ?_
    refine WP_reg ?_
    repeat (first | (refine WPO_op rfl ?_; simp) | (refine WPO_nil ?_; simp))
    simp [WP_ret, F10]
    have hfin := hq .nsl h ?_ (.inl rfl) (Fr.refl hw)
    · simpa [chE, hM, hc', pack] using hfin
    · simp only [chL, hM, hc', if_true]; exact ⟨rfl, rfl⟩
  · have hc' : ¬ M > 65536 := by simp at hc; omega
    simp only [WP_skip, nrmOr_nrm]
    repeat (first | refine WP_seq ?_ | refine WP_reg ?_ | (refine WPO_op rfl ?_; simp) | (refine WPO_nil ?_; simp))
    refine WP_block ?_
    refine WP_loop (fun m e h1 => ∃ i vo, m = M - i ∧ i ≤ M ∧ SlG h1 vo (mrgs (chs la lb i)) ∧ Own h.nx vo ∧ Fr h h1 ∧ e = [(0, va), (1, vb), (6, vo), (7, .int .i64 i)]) M ⟨0, .nsl, by simp, by omega, ⟨rfl, rfl⟩, .inl rfl, Fr.refl hw, rfl⟩ ?_
    rintro m e h1 ⟨i, vo, rfl, hi, hvo, hown, hfr, rfl⟩
    refine WP_seq ?_
    refine WP_mid (fun e' h'' => h1 = h'' ∧ e' = [(0, va), (1, vb), (6, vo), (7, .int .i64 i), (26, .bool (decide (i < M)))]) ?_ ?_
    · refine WP_reg ?_
      by_cases c1 : i < la.length
      · have c2 : i < M := by omega
        repeat (first | (refine WPO_op rfl ?_; simp [hla, c1, c2]) | (refine WPO_gop rfl ?_; simp) | (refine WPO_nil ?_; simp))
      · by_cases c3 : i < lb.length
        · have c2 : i < M := by omega
          repeat (first | (refine WPO_op rfl ?_; simp [hla, c1, c2]) | (refine WPO_gop rfl ?_; simp [hlb, c3]) | (refine WPO_nil ?_; simp))
        · have c2 : ¬ i < M := by omega
          repeat (first | (refine WPO_op rfl ?_; simp [hla, c1, c2]) | (refine WPO_gop rfl ?_; simp [hlb, c3]) | (refine WPO_nil ?_; simp))
    rintro e' h'' ⟨rfl, rfl⟩
    refine WP_cond rfl ⟨fun ht => ?_, fun ht => ?_⟩
    · have hi' : i < M := by simpa using ht
      have hwr : IntKind.wrap .i64 ((i : Int) + 1) = (i : Int) + 1 := wrap_i64 (by omega) (by omega)
      simp only [WP_skip, nrmOr_nrm]
      refine WP_mid (fun e' h' => ∃ vo3, SlG h' vo3 (mrgs (chs la lb (i + 1))) ∧ Own h.nx vo3 ∧ Fr h h' ∧ e'.get 0 = some va ∧ e'.get 1 = some vb ∧ e'.get 6 = some vo3 ∧ e'.get 7 = some (.int .i64 i)) ?_ ?_
      rotate_left
      · rintro e' h' ⟨vo3, g1, g2, g3, e0, e1, e6, e7⟩
        repeat (first | refine WP_reg ?_ | (refine WPO_op rfl ?_; simp [e7]) | (refine WPO_nil ?_; simp [e0, e1, e6]))
        refine ⟨M - (i + 1), by omega, i + 1, rfl, by omega, vo3, g1, g2, g3, rfl, ?_⟩
        rw [hwr]
        omega
      refine WP_block ?_
      refine WP_mid (fun e' h'' => h1 = h'' ∧ e' = [(0, va), (1, vb), (6, vo), (7, .int .i64 i), (49, .bool (chg la lb i))]) ?_ ?_
      · refine WP_reg ?_
        by_cases c1 : la.length ≤ i
        · have c1' : ((la.length : Int) ≤ i) := by omega
          have hch : chg la lb i = true := by simp [chg, c1]
          rw [hch]
          repeat (first | (refine WPO_op rfl ?_; simp [hla, c1']) | (refine WPO_gop rfl ?_; simp) | (refine WPO_nil ?_; simp))
        · have c1' : ¬ ((la.length : Int) ≤ i) := by omega
          by_cases c2 : lb.length ≤ i
          · have c2' : ((lb.length : Int) ≤ i) := by omega
            have hch : chg la lb i = true := by simp [chg, c2]
            rw [hch]
            repeat (first | (refine WPO_op rfl ?_; simp [hla, c1']) | (refine WPO_gop rfl ?_; simp [hlb, c2']) | (refine WPO_nil ?_; simp))
          · have c2' : ¬ ((lb.length : Int) ≤ i) := by omega
            have a1 : i < la.length := by omega
            have a2 : i < lb.length := by omega
            obtain ⟨b1, o1, k1, L1, rfl, y1, z1⟩ := SlI.at (h := h1) (l := la) (Sl.fr hfr ha) a1
            obtain ⟨b2, o2, k2, L2, rfl, y2, z2⟩ := SlI.at (h := h1) (l := lb) (Sl.fr hfr hb) a2
            have hch : chg la lb i = (la[i] != lb[i]) := by simp [chg, c1, c2, List.getD_eq_getElem?_getD, List.getElem?_eq_getElem a1, List.getElem?_eq_getElem a2]
            rw [hch]
            repeat (first | (refine WPO_op rfl ?_; simp [c1']) | (refine WPO_gop rfl ?_; simp [c2', a1, a2, loadV_ptr y1, loadV_ptr y2, z1, z2]) | (refine WPO_nil ?_; simp))
            simp [bne]
      · rintro e' h'' ⟨rfl, rfl⟩
        have hml := mrgs_len la lb i
        refine WP_cond rfl ⟨fun hd => ?_, fun hd => ?_⟩
        · have hch : mrgs (chs la lb (i + 1)) = mrg (mrgs (chs la lb i)) ((i : Int), (i : Int) + 1) := by simp [chs, hd, mrgs_snoc]
          have hle := chs_le la lb i
          rw [hch]
          generalize mrgs (chs la lb i) = out at *
          have hol := hvo.lenV
          have hlt2 : (i : Int) < i + 1 := by omega
          repeat (first | refine WP_seq ?_ | refine WP_reg ?_ | (refine WPO_op rfl ?_; simp [hol]; done) | (refine WPO_op rfl ?_; simp [hol]) | (refine WPO_nil ?_; simp))
          rcases List.eq_nil_or_concat out with rfl | ⟨init, q, rfl⟩
          · repeat (first | (refine WPO_op rfl ?_; simp) | (refine WPO_gop rfl ?_; simp) | (refine WPO_nil ?_; simp))
            refine WP_cond rfl ⟨fun hd => (by cases hd), fun _ => ?_⟩
            refine ref_app hw hro hfr hvo hown (by simp) hwr fun v' h' g1 g2 g3 => ?_
            have hm : mrg [] ((i : Int), (i : Int) + 1) = [] ++ [((i : Int), (i : Int) + 1)] := by simp [mrg, hlt2]
            simp
            rw [hm]
            exact ⟨v', g1, g2, g3, rfl⟩
          · rw [List.concat_eq_append] at *
            have hq1 : (init ++ [q])[init.length]? = some q := by simp
            have hqi := hle q (by simp)
            have hown2 := hown
            rcases hown2 with rfl | ⟨bo, oo, no, rfl, hbo⟩
            · simp [SlG, Sl] at hvo
            obtain ⟨bo', oo', co', Lo, e, hgo, w1, w2⟩ := SlG.at hvo hq1
            cases e
            have hil : init.length ≤ 1000000 := by simp at hml; omega
            have hwr2 : IntKind.wrap .i64 (init.length : Int) = init.length := wrap_i64 (by omega) (by omega)
            have hlt : (init.length : Int) < init.length + 1 := by omega
            repeat (first | (refine WPO_op rfl ?_; simp) | (refine WPO_gop rfl ?_; simp [loadV_ptr hgo, hwr2, hlt, w2]) | (refine WPO_nil ?_; simp))
            refine WP_cond rfl ⟨fun he => ?_, fun he => ?_⟩
            · have he' : q.2 = i := by simpa using he
              refine WP_reg ?_
              repeat (first | (refine WPO_op rfl ?_; simp [hwr, hwr2, hlt]; done) | (refine WPO_op rfl ?_; simp [hwr, hwr2, hlt]))
              obtain ⟨L', hset, hv4, hf4⟩ := Sl.put (x := V.int .i64 ((i : Int) + 1)) (j := init.length * 2 + 1) hfr hw hvo hbo hgo (by rw [flat_len]; simp; omega)
              rw [← Nat.add_assoc] at hset
              refine OB_store (b := bo) (o := oo + init.length * 2 + 1) (v := V.int .i64 ((i : Int) + 1)) (l' := L') rfl rfl (by omega) rfl rfl hgo hset ?_
              simp
              refine WPO_nil ?_
              simp
              have hm : mrg (init ++ [q]) ((i : Int), (i : Int) + 1) = (init ++ [q]).set init.length (q.1, (i : Int) + 1) := by
                simp [mrg, he', hlt2]
                omega
              refine ⟨V.sl bo oo (init.length + 1) 0, ?_, .inr ⟨_, _, _, rfl, hbo⟩, hf4, rfl⟩
              rw [hm]
              unfold SlG
              rw [← flat_set hq1]
              simpa using hv4
            · have he' : ¬ q.2 = i := by simpa using he
              have hm : mrg (init ++ [q]) ((i : Int), (i : Int) + 1) = (init ++ [q]) ++ [((i : Int), (i : Int) + 1)] := by
                have : ¬ ((i : Int) ≤ q.2) := by omega
                simp [mrg, this, hlt2]
              refine ref_app hw hro hfr (by simpa using hvo) (by simpa using hown) (by simp at hml ⊢; omega) hwr fun v' h' g1 g2 g3 => ?_
              simp
              rw [hm]
              exact ⟨v', g1, g2, g3, rfl⟩
        · have hch : mrgs (chs la lb (i + 1)) = mrgs (chs la lb i) := by simp [chs, hd]
          simp only [WP_skip, blkQ_nrm, nrmOr_nrm]
          rw [hch]
          exact ⟨vo, hvo, hown, hfr, by simp⟩
    · have hi' : i = M := by
        have : ¬ (i < M) := by simpa using ht
        omega
      subst hi'
      have hol := hvo.lenV
      simp only [WP_exit, nrmOr_exit, blkQ_exit, if_pos, nrmOr_nrm]
      repeat (first | refine WP_seq ?_ | refine WP_reg ?_ | (refine WPO_op rfl ?_; simp [hol]) | (refine WPO_nil ?_; simp))
      refine WP_cond rfl ⟨fun hd => ?_, fun hd => ?_⟩
      · have hd' : (mrgs (chs la lb i)).length > 1024 := by simp at hd; omega
        repeat (first | refine WP_seq ?_ | refine WP_reg ?_ | (refine WPO_op rfl ?_; simp) | (refine WPO_nil ?_; simp))
        simp [WP_ret, F10]
        have hfin := hq .nsl h1 ?_ (.inl rfl) hfr
        · simpa [chE, hM, hc', hd', pack] using hfin
        · simp only [chL, hM, hc', hd', if_true, if_false]; exact ⟨rfl, rfl⟩
      · have hd' : ¬ (mrgs (chs la lb i)).length > 1024 := by simp at hd; omega
        simp only [WP_skip, nrmOr_nrm]
        repeat (first | refine WP_seq ?_ | refine WP_reg ?_ | (refine WPO_op rfl ?_; simp) | (refine WPO_nil ?_; simp))
        simp [WP_ret, F10]
        have hfin := hq vo h1 ?_ hown hfr
        · simpa [chE, hM, hc', hd', pack] using hfin
        · simpa only [chL, hM, hc', hd', if_false] using hvo
end Go.Am.S7
