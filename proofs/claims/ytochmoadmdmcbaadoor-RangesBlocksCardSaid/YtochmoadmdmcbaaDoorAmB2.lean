/- The reference's Blocks, stepped through. -/
import Derived.Test.YtochmoadmdmcbaaDoorAmB1
namespace Go.Am.S7
open Go
set_option maxRecDepth 100000
set_option linter.unusedSimpArgs false
set_option linter.unusedVariables false
variable {fs : Nat → Option D} {ro : Nat} {h : Hp} {e : Env}

def lastI (out : List Int) : Int := (out.getLast?).getD (-1)
theorem lastI_run (out : List Int) (f : Int) (j : Nat) : lastI (out ++ runI f (j + 1)) = f + (j : Int) := by
  unfold lastI
  rw [runI_succ, ← List.append_assoc, List.getLast?_append]
  simp

theorem from_last {size : Int} {l : List Rg} {i : Nat} {out : List Int} (hs : 0 < size) (hn : Norm l) (h0 : ∀ p ∈ l, 0 ≤ p.1) (hi : i < l.length) (hout : blkL size (l.take i) = some out) :
    (if l[i].1 / size > lastI out + 1 then l[i].1 / size else lastI out + 1) = fromI out (l[i].1 / size) ∧ -1 ≤ lastI out ∧ lastI out ≤ l[i].1 / size := by
  have hA := Int.ediv_nonneg (a := l[i].1) (b := size) (h0 _ (List.getElem_mem hi)) (by omega)
  rcases last_inv hs hn h0 i (by omega) out hout with rfl | ⟨x, h1, h2, h3⟩
  · have e1 : lastI [] = -1 := rfl
    have e2 : fromI [] (l[i].1 / size) = l[i].1 / size := by simp [fromI]
    rw [e1, e2]
    refine ⟨?_, by omega, by omega⟩
    split <;> omega
  · have := h3 i l[i] (Nat.le_refl _) (List.getElem?_eq_getElem hi)
    have e1 : lastI out = x := by simp [lastI, h1]
    have e2 : fromI out (l[i].1 / size) = if x = l[i].1 / size then l[i].1 / size + 1 else l[i].1 / size := by simp [fromI, h1]
    rw [e1, e2]
    refine ⟨?_, by omega, by omega⟩
    split <;> split <;> omega

set_option maxHeartbeats 2000000 in
theorem ev17 {v : V} {l : List Rg} {size : Int} (hf : fs 17 = some (.code F17)) (hv : SlG h v l) (hn : l.length ≤ 1000) (hN : Norm l) (hF : Fine l) (hw : ∀ b x, h.get b = some x → b < h.nx) (hro : ro ≤ h.nx) {Q : V → Hp → Prop}
    (hq : ∀ x h', SlJ h' x (blkV size l) → Own h.nx x → Fr h h' → Q (.tup [x, .int .i64 (blkE size l)]) h') : Ev fs ro 17 [v, .int .i64 size] h Q := by
  refine Ev_fn hf rfl rfl rfl rfl ?_
  have hlen := hv.lenV
  refine WP_seq ?_
  refine WP_reg ?_
  repeat (first | (refine WPO_op rfl ?_; simp) | (refine WPO_nil ?_; simp))
  refine WP_seq ?_
  refine WP_mid (fun e2 h2 => h = h2 ∧ e2 = [(0, v), (1, .int .i64 size), (15, .bool (decide (size < 1 ∨ 1099511627776 < size)))]) ?_ ?_
  · refine WP_reg ?_
    by_cases c1 : size < 1 <;> by_cases c2 : 1099511627776 < size <;>
      repeat (first | (refine WPO_op rfl ?_; simp [c1, c2]; done) | (refine WPO_op rfl ?_; simp [c1, c2]) | (refine WPO_gop rfl ?_; simp [c1, c2]) | (refine WPO_nil ?_; simp [c1, c2]))
  rintro e2 h2 ⟨rfl, rfl⟩
  refine WP_cond rfl ⟨fun hd => ?_, fun hd => ?_⟩
  · have hbad : size < 1 ∨ 1099511627776 < size := by simpa using hd
    repeat (first | refine WP_seq ?_ | refine WP_reg ?_ | (refine WPO_op rfl ?_; simp) | (refine WPO_nil ?_; simp))
    simp [WP_ret, F17]
    have := hq .nsl h (by simp only [blkV, hbad, if_true]; exact ⟨rfl, rfl⟩) (.inl rfl) (Fr.refl hw)
    simpa [blkE, hbad, pack] using this
  have hgood : ¬ (size < 1 ∨ 1099511627776 < size) := by simpa using hd
  have hs1 : 1 ≤ size := by omega
  have hs2 : size ≤ 1099511627776 := by omega
  have hne : size ≠ 0 := by omega
  have hE : blkE size l = match blkL size l with | none => 9 | some _ => 0 := by unfold blkE; rw [if_neg hgood]; rfl
  have hV : blkV size l = (blkL size l).getD [] := by unfold blkV; rw [if_neg hgood]
  simp only [WP_skip, nrmOr_nrm]
  refine WP_seq ?_
  refine WP_reg ?_
  refine WPO_op rfl ?_
  simp
  refine WPO_nil ?_
  simp
  refine WP_seq ?_
  refine WP_reg ?_
  refine WPO_op rfl ?_
  simp
  refine WPO_nil ?_
  simp
  refine WP_seq ?_
  refine WP_seq ?_
  refine WP_reg ?_
  refine WPO_op rfl ?_
  simp
  refine WPO_nil ?_
  simp
  refine WP_block ?_
  refine WP_loop (fun m e h2 => ∃ i out vo, m = l.length - i ∧ i ≤ l.length ∧ blkL size (l.take i) = some out ∧ SlJ h2 vo out ∧ Own h.nx vo ∧ Fr h h2 ∧ e = [(0, v), (1, .int .i64 size), (6, vo), (7, .int .i64 (lastI out)), (8, .int .i64 (i : Nat))]) l.length ⟨0, [], .nsl, by omega, by omega, rfl, ⟨rfl, rfl⟩, .inl rfl, Fr.refl hw, rfl⟩ ?_
  rintro m e h2 ⟨i, out, vo, rfl, hi, hout, hvo, hown, hfr, rfl⟩
  refine WP_seq ?_
  refine WP_seq ?_
  refine WP_reg ?_
  repeat (first | (refine WPO_op rfl ?_; simp [hlen]) | (refine WPO_nil ?_; simp))
  refine WP_cond rfl ⟨fun ht => ?_, fun ht => ?_⟩
  · have hi' : i < l.length := by simpa using ht
    obtain ⟨b0, o0, c0, L, rfl, hg, q1, q2⟩ := SlG.at hv (List.getElem?_eq_getElem hi')
    have hwr : IntKind.wrap .i64 ((i : Int) + 1) = ((i + 1 : Nat) : Int) := by rw [wrap_i64 (by omega) (by omega)]; omega
    have hr := hF l[i] (List.getElem_mem hi')
    have hrp := hN.1 l[i] (List.getElem_mem hi')
    have hol := blkL_le i hi out hout
    have hsucc := blkL_succ (size := size) hi'
    rw [hout] at hsucc
    obtain ⟨hfl0, hl1, hl2⟩ := from_last (size := size) (by omega) hN (fun p hp => (hF p hp).1) hi' hout
    have hg2 := hfr.sub _ _ hg
    generalize l[i] = r at *
    obtain ⟨d1, d2, d3⟩ := div_bd (a := r.1) (size := size) hr.1 (by omega) hs1
    obtain ⟨d4, d5, d6⟩ := div_bd (a := r.2 - 1) (size := size) (by omega) (by omega) hs1
    have hab : r.1 / size ≤ (r.2 - 1) / size := div_mono (by omega) (by omega)
    have w1 : IntKind.wrap .i64 (r.1.tdiv size) = r.1 / size := by rw [d3]; exact wrap_i64 (by omega) (by omega)
    have w2 : IntKind.wrap .i64 (r.2 - 1) = r.2 - 1 := wrap_i64 (by omega) (by omega)
    have w3 : IntKind.wrap .i64 ((r.2 - 1).tdiv size) = (r.2 - 1) / size := by rw [d6]; exact wrap_i64 (by omega) (by omega)
    simp only [stepB, Option.bind_some] at hsucc
    generalize hA : r.1 / size = A at *
    generalize hB : (r.2 - 1) / size = B at *
    have w4 : IntKind.wrap .i64 (lastI out + 1) = lastI out + 1 := wrap_i64 (by omega) (by omega)
    have hce := cnt_eq (out := out) hab
    have hfl := from_le (out := out) (a := A) hab
    simp only [WP_skip, nrmOr_nrm]
    refine WP_mid (fun e' h' => ∃ out' vo', blkL size (l.take (i + 1)) = some out' ∧ SlJ h' vo' out' ∧ Own h.nx vo' ∧ Fr h h' ∧ e'.get 0 = some (.sl b0 o0 l.length c0) ∧ e'.get 1 = some (.int .i64 size) ∧ e'.get 6 = some vo' ∧ e'.get 7 = some (.int .i64 (lastI out')) ∧ e'.get 8 = some (.int .i64 (i : Nat))) ?_ ?_
    rotate_left
    · rintro e' h' ⟨out', vo', g0, g1, g2, g3, e0, e1, e6, e7, e8⟩
      repeat (first | refine WP_reg ?_ | (refine WPO_op rfl ?_; simp [e8]) | (refine WPO_nil ?_; simp [e0, e1, e6, e7, e8]))
      refine ⟨l.length - (i + 1), by omega, i + 1, rfl, by omega, out', g0, vo', g1, g2, g3, rfl, rfl, ?_⟩
      rw [hwr]
    refine WP_block ?_
    refine WP_seq ?_
    refine WP_reg ?_
    repeat (first | (refine WPO_op rfl ?_; simp [hi', loadV_ptr hg2, q1, binInt_quo hne, w1, w4, maxs, fold2, max2]; done) | (refine WPO_op rfl ?_; simp [hi', loadV_ptr hg2, q1, binInt_quo hne, w1, w4, maxs, fold2, max2]) | (refine WPO_nil ?_; simp))
    have hfl1 : (if lastI out + 1 < A then A else lastI out + 1) = fromI out A := hfl0
    rw [hfl1]
    generalize hfr0 : fromI out A = f at *
    generalize hk : cntI out A B = k at *
    refine WP_block ?_
    refine WP_loop (fun m e h4 => ∃ j vo', m = k - j ∧ j ≤ k ∧ out.length + j ≤ 100000 ∧ SlJ h4 vo' (out ++ runI f j) ∧ Own h.nx vo' ∧ Fr h h4 ∧ e = [(0, .sl b0 o0 l.length c0), (1, .int .i64 size), (6, vo'), (7, .int .i64 (lastI (out ++ runI f j))), (8, .int .i64 (i : Nat)), (9, .int .i64 (f + (j : Nat)))]) k ⟨0, vo, by omega, by omega, by omega, by simpa [runI] using hvo, hown, hfr, by simp [runI]⟩ ?_
    rintro m e h4 ⟨j, vo', rfl, hj, hoj1, hvj, hoj, hfj, rfl⟩
    have hg4 := hfj.sub _ _ hg
    have hlj := hvj.lenV
    have hlen2 : (out ++ runI f j).length = out.length + j := by rw [List.length_append, runI_len]
    rw [hlen2] at hlj
    refine WP_seq ?_
    refine WP_seq ?_
    refine WP_reg ?_
    repeat (first | (refine WPO_op rfl ?_; simp [hi', loadV_ptr hg4, q2, binInt_quo hne, w2, w3]; done) | (refine WPO_op rfl ?_; simp [hi', loadV_ptr hg4, q2, binInt_quo hne, w2, w3]) | (refine WPO_nil ?_; simp))
    refine WP_cond rfl ⟨fun hd => ?_, fun hd => ?_⟩
    · have hjk : j < k := by
        have : f + (j : Int) ≤ B := by simpa using hd
        omega
      have w6 : IntKind.wrap .i64 (f + (j : Int) + 1) = f + ((j + 1 : Nat) : Int) := by rw [wrap_i64 (by omega) (by omega)]; omega
      simp only [WP_skip, nrmOr_nrm]
      refine WP_seq ?_
      refine WP_block ?_
      refine WP_seq ?_
      refine WP_seq ?_
      refine WP_reg ?_
      repeat (first | (refine WPO_op rfl ?_; simp [hlj]; done) | (refine WPO_op rfl ?_; simp [hlj]) | (refine WPO_nil ?_; simp))
      refine WP_cond rfl ⟨fun hc => ?_, fun hc => ?_⟩
      · have hfull : out.length + j = 100000 := by
          have : ((out.length : Int) + (j : Int)) = 100000 := by simpa using hc
          omega
        rw [if_pos (by omega)] at hsucc
        have hnone := blkL_none hsucc
        repeat (first | refine WP_seq ?_ | refine WP_reg ?_ | (refine WPO_op rfl ?_; simp) | (refine WPO_nil ?_; simp))
        simp [WP_ret, F17]
        have := hq .nsl h4 (by rw [hV, hnone]; exact ⟨rfl, rfl⟩) (.inl rfl) hfj
        rw [hE, hnone] at this
        simpa [pack] using this
      have hnf : out.length + j ≠ 100000 := by
        intro hx
        have : ((out.length : Int) + (j : Int)) = 100000 := by omega
        simp [this] at hc
      simp only [WP_skip, nrmOr_nrm]
      obtain ⟨v', h', ha, hs, ho, hfa, hsh⟩ := app_intJ (ro := ro) (x := f + (j : Int)) hw hro hfj hvj hoj (by rw [hlen2]; omega)
      refine WP_seq ?_
      refine WP_reg ?_
      refine WPO_op rfl ?_
      simp
      refine WPO_op rfl ?_
      simp
      refine WPO_op rfl ?_
      simp [evParts, zeros, fill, V.cells, setN]
      refine WPO_op rfl ?_
      rw [op1_app (v := vo') (b := h4.nx) (o := 0) (m := 1) (c := 2) (h' := h') rfl rfl hsh rfl ha]
      simp
      refine WPO_op rfl ?_
      simp
      refine WPO_nil ?_
      simp
      repeat (first | refine WP_reg ?_ | (refine WPO_op rfl ?_; simp; done) | (refine WPO_op rfl ?_; simp) | (refine WPO_nil ?_; simp))
      refine ⟨k - (j + 1), by omega, j + 1, rfl, by omega, by omega, v', ?_, ho, hfa, rfl, ?_, ?_⟩
      · rw [runI_succ, ← List.append_assoc]
        exact hs
      · rw [lastI_run]
      · rw [w6]
    · have hjk : j = k := by
        have : ¬ (f + (j : Int) ≤ B) := by simpa using hd
        omega
      subst hjk
      rw [if_neg (by omega)] at hsucc
      simp only [WP_exit, nrmOr_exit, blkQ_exit, if_pos, nrmOr_nrm, blkQ_nrm]
      exact ⟨_, hsucc, vo', hvj, hoj, hfj, rfl, rfl, rfl, rfl, rfl⟩
  · have hi' : i = l.length := by
      have : ¬ (i < l.length) := by simpa using ht
      omega
    subst hi'
    rw [List.take_length] at hout
    simp only [WP_exit, nrmOr_exit, blkQ_exit, if_pos, nrmOr_nrm, blkQ_nrm]
    repeat (first | refine WP_seq ?_ | refine WP_reg ?_ | (refine WPO_op rfl ?_; simp) | (refine WPO_nil ?_; simp))
    simp [WP_ret, F17]
    have := hq vo h2 (by rw [hV, hout]; exact hvo) hown hfr
    rw [hE, hout] at this
    simpa [pack] using this
end Go.Am.S7
