/- The law RangesBlocks, stepped through. -/
import Derived.Test.YtochmoadmdmcbaaDoorAmB2
namespace Go.Am.S7
open Go
set_option maxRecDepth 100000
set_option linter.unusedSimpArgs false
set_option linter.unusedVariables false
variable {fs : Nat → Option D} {ro : Nat} {h : Hp} {e : Env}

@[simp] theorem wantV_undone {w : Bool} : wantV w (.tup []) = some false := rfl

theorem aftJ {h h2 : Hp} {x : V} {l : List Int} {lo : Nat} (hw : ∀ b x, h.get b = some x → b < h.nx) (hs : SlJ h2 x l) (ho : Own lo x) (hf : Fr h h2) {n : Int} :
    SlJ (if ground (.tup [x, .int .i64 n]) = true then h else h2) x l ∧ Fr h (if ground (.tup [x, .int .i64 n]) = true then h else h2) := by
  rcases ho with rfl | ⟨b, o, m, rfl, _⟩
  · have hl := List.eq_nil_of_length_eq_zero hs.1
    subst hl
    exact ⟨⟨rfl, rfl⟩, Fr.refl hw⟩
  · exact ⟨hs, hf⟩

theorem blkE_val (size : Int) (l : List Rg) : blkE size l = 0 → 1 ≤ size ∧ ∃ out, blkL size l = some out ∧ blkV size l = out := by
  intro h
  unfold blkE at h
  split at h
  · cases h
  · rename_i hg
    split at h
    · cases h
    · rename_i out ho
      exact ⟨by omega, out, ho, by unfold blkV; rw [if_neg hg, ho]; rfl⟩

/-- Does one of the first blocks that are told hold the place? -/
def fnd (size at' : Int) (l : List Rg) (i : Nat) : Bool := decide (blkE size l = 0) && l.any (hasP at') && ((blkV size l).take i).any fun b => decide (b = at' / size)

theorem fnd_succ {size at' : Int} {l : List Rg} {i : Nat} (hi : i < (blkV size l).length) : fnd size at' l (i + 1) = (fnd size at' l i || (decide (blkE size l = 0) && l.any (hasP at') && decide ((blkV size l)[i] = at' / size))) := by
  unfold fnd
  rw [List.take_succ_eq_append_getElem hi, List.any_append]
  cases decide (blkE size l = 0) <;> cases l.any (hasP at') <;> simp

theorem fnd_all {size at' : Int} {l : List Rg} (hN : Norm l) : (decide (blkE size l = 0) && l.any (hasP at')) = true → fnd size at' l (blkV size l).length = true := by
  intro h
  simp only [Bool.and_eq_true, decide_eq_true_eq] at h
  obtain ⟨hs, out, ho, hv⟩ := blkE_val size l h.1
  have hm : Mem l at' := any_mem.1 (by simpa [hasP] using h.2)
  have := blk_has (size := size) (by omega) hN l.length (Nat.le_refl _) out (by rw [List.take_length]; exact ho) at' (by rw [List.take_length]; exact hm)
  unfold fnd
  rw [List.take_length, hv]
  simp only [Bool.and_eq_true, decide_eq_true_eq]
  exact ⟨h, List.any_eq_true.2 ⟨_, this, by simp⟩⟩

set_option maxHeartbeats 2000000 in
theorem ev6 {v : V} {l : List Rg} {size at' : Int} (hf6 : fs 6 = some (.code F6)) (hf13 : fs 13 = some (.code F13)) (hf32 : fs 32 = some (.code F32)) (hf26 : fs 26 = some (.code F26)) (hf34 : fs 34 = some (.code F34)) (hf52 : fs 52 = some (.code F52)) (hf43 : fs 43 = some (.code F43)) (hf44 : fs 44 = some (.code F44)) (hf45 : fs 45 = some (.code F45)) (hf46 : fs 46 = some (.orc (orcSort 47))) (hf25 : fs 25 = some (.code F25))
    (hf33 : fs 33 = some (.code F33)) (hf37 : fs 37 = some (.code F37)) (hf12 : fs 12 = some (.code F12)) (hf28 : fs 28 = some (.code F28)) (hf29 : fs 29 = some (.code F29)) (hf30 : fs 30 = some (.code F30)) (hf31 : fs 31 = some (.code F31)) (hf11 : fs 11 = some (.orc orcKnown)) (hf14 : fs 14 = some (.code F14)) (hf35 : fs 35 = some (.code F35)) (hf16 : fs 16 = some (.code F16)) (hf17 : fs 17 = some (.code F17))
    (hv : SlG h v l) (hsh : Shape v) (hw : ∀ b x, h.get b = some x → b < h.nx) (hro : ro ≤ h.nx) {Q : V → Hp → Prop} (hq : ∀ h', Q (.bool true) h') : Ev fs ro 6 [v, .int .i64 size, .int .i64 at'] h Q := by
  refine Ev_fn hf6 rfl rfl rfl rfl ?_
  refine WP_seq ?_
  refine WP_reg ?_
  repeat (first | (refine WPO_op rfl ?_; simp) | (refine WPO_nil ?_; simp))
  refine WP_seq ?_
  refine WP_reg ?_
  refine WPO_op rfl ?_
  simp
  refine WPO_call (g := 13) (a := []) (b := []) (args := [v]) rfl rfl ?_
  simp
  refine ev13 hf13 hf32 hf26 hf34 hf52 hf43 hf44 hf45 hf46 hf25 hf33 hf37 hf12 hf28 hf29 hf30 hf31 hv hsh hw (Nat.le_refl _) fun x y h2 hsx hsy hox hoy hfx => ?_
  obtain ⟨hsX, hsY, hfR⟩ := aft3 (b := true) hw hsx hsy hox hoy hfx
  have hL := refL_len (l.take 60)
  have hL2 : (l.take 60).length ≤ 60 := by simp; omega
  have hN := refL_norm (l.take 60)
  have hF := refL_fine (l.take 60)
  generalize (if ground (V.tup [V.agg [x], y, V.bool true]) = true then h else h2) = hR at *
  generalize refL (l.take 60) = k at *
  obtain ⟨hxc1, hxc2⟩ := hox.cells
  have hg5 : (hR.new (.cells 0 [.nsl])).get hR.nx = some (.cells 0 [.nsl]) := Hp.get_new_same
  have hfn : Fr hR ((hR.new (.cells 0 [.nsl])).set hR.nx (.cells 0 [x])) := ((Fr.refl hfR.wf).new _).set hfR.wf (Nat.le_refl _) hg5 _
  have hg6 : ((hR.new (.cells 0 [.nsl])).set hR.nx (.cells 0 [x])).get hR.nx = some (.cells 0 [x]) := Hp.get_set_same hg5
  refine WPO_op rfl ?_
  simp
  refine WPO_op rfl ?_
  simp [op1]
  refine WPO_op rfl ?_
  simp [op1]
  refine WPO_op rfl ?_
  simp [op1]
  refine WPO_op rfl ?_
  simp
  refine WPO_op rfl ?_
  refine OB_store (b := hR.nx) (o := 0) (v := V.agg [x]) (l' := [x]) rfl rfl (by have := hfR.nx; omega) rfl (by simp [V.cells, hxc2]) hg5 rfl ?_
  generalize ((hR.new (.cells 0 [.nsl])).set hR.nx (.cells 0 [x])) = hS at *
  have hsX2 : SlG hS x k := Sl.fr hfn hsX
  have hsY2 : SlG hS y k := Sl.fr hfn hsY
  simp
  repeat (first | (refine WPO_op rfl ?_; simp) | (refine WPO_nil ?_; simp))
  -- known, and the errors of made
  refine WP_seq ?_
  refine WP_seq ?_
  refine WP_reg ?_
  refine WPO_call (g := 11) (a := []) (b := []) (args := []) rfl rfl ?_
  refine Ev_orc hf11 (r := .bool true) (h' := hS) rfl ?_
  simp
  repeat (first | (refine WPO_op rfl ?_; simp; done) | (refine WPO_op rfl ?_; simp) | (refine WPO_gop rfl ?_; simp) | (refine WPO_nil ?_; simp))
  refine WP_cond rfl ⟨fun hd => (by cases hd), fun _ => ?_⟩
  simp only [WP_skip, nrmOr_nrm]
  -- Blocks
  refine WP_seq ?_
  refine WP_reg ?_
  repeat (first | (refine WPO_op rfl ?_; simp [loadV_ptr hg6, loadN]; done) | (refine WPO_op rfl ?_; simp [loadV_ptr hg6, loadN]))
  refine WPO_call (g := 16) (a := []) (b := []) (args := [.agg [x], .int .i64 size]) rfl rfl ?_
  simp
  refine ev16 hf16 hsX2 hxc1 (by omega) hN hF hfn.wf (Nat.le_refl _) fun p h3 hsp hop hfp => ?_
  obtain ⟨hsP, hfP⟩ := aftJ (n := blkE size k) hfn.wf hsp hop hfp
  generalize (if ground (V.tup [p, V.int .i64 (blkE size k)]) = true then hS else h3) = hP at *
  refine WPO_op rfl ?_
  simp
  refine WPO_op rfl ?_
  simp [op1]
  refine WPO_op rfl ?_
  simp [op1]
  repeat (first | (refine WPO_op rfl ?_; simp; done) | (refine WPO_op rfl ?_; simp) | (refine WPO_nil ?_; simp))
  have hsY3 : SlG hP y k := Sl.fr hfP hsY2
  refine WP_seq ?_
  refine WP_reg ?_
  repeat (first | (refine WPO_op rfl ?_; simp; done) | (refine WPO_op rfl ?_; simp))
  refine WPO_call (g := 17) (a := []) (b := []) (args := [y, .int .i64 size]) rfl rfl ?_
  simp
  refine ev17 hf17 hsY3 (by omega) hN hF hfP.wf (Nat.le_refl _) fun q h4 hsq hoq hfq => ?_
  obtain ⟨hsQ, hfQ⟩ := aftJ (n := blkE size k) hfP.wf hsq hoq hfq
  generalize (if ground (V.tup [q, V.int .i64 (blkE size k)]) = true then hP else h4) = hT at *
  refine WPO_op rfl ?_
  simp
  refine WPO_op rfl ?_
  simp [op1]
  refine WPO_op rfl ?_
  simp [op1]
  repeat (first | (refine WPO_op rfl ?_; simp; done) | (refine WPO_op rfl ?_; simp) | (refine WPO_nil ?_; simp))
  have hsP2 : SlJ hT p (blkV size k) := Sl.fr hfQ hsP
  have hgT := hfQ.sub _ _ (hfP.sub _ _ hg6)
  have hsX3 : SlG hT x k := Sl.fr hfQ (Sl.fr hfP hsX2)
  have hwT := hfQ.wf
  have hlp := hsP2.lenV
  have hlq := hsQ.lenV
  have hfn1 : ∀ i, fnd size at' k i = (decide (blkE size k = 0) && k.any (hasP at') && ((blkV size k).take i).any fun b => decide (b = at' / size)) := fun i => rfl
  refine WP_seq ?_
  refine WP_seq ?_
  refine WP_reg ?_
  repeat (first | (refine WPO_op rfl ?_; simp [hlp, hlq]; done) | (refine WPO_op rfl ?_; simp [hlp, hlq]) | (refine WPO_gop rfl ?_; simp [hlp, hlq]) | (refine WPO_nil ?_; simp))
  refine WP_cond rfl ⟨fun hd => (by cases hd), fun _ => ?_⟩
  simp only [WP_skip, nrmOr_nrm]
  have hbl : (blkV size k).length ≤ 100000 := by
    unfold blkV
    split
    · simp
    · cases hb : blkL size k with
      | none => simp
      | some out => simpa using blkL_le (size := size) (L := k) k.length (Nat.le_refl _) out (by rw [List.take_length]; exact hb)
  refine WP_seq ?_
  refine WP_reg ?_
  refine WPO_op rfl ?_
  simp
  refine WPO_nil ?_
  simp
  refine WP_mid (fun e' h' => hT = h' ∧ e'.get 2 = some (.int .i64 at') ∧ e'.get 7 = some (.ptr hR.nx 0) ∧ e'.get 13 = some (.int .i64 (blkE size k)) ∧ e'.get 14 = some (.bool (fnd size at' k (blkV size k).length))) ?_ ?_
  · refine WP_seq ?_
    refine WP_reg ?_
    refine WPO_op rfl ?_
    simp
    refine WPO_nil ?_
    simp
    refine WP_block ?_
    refine WP_loop (fun m e h1 => ∃ i, m = (blkV size k).length - i ∧ i ≤ (blkV size k).length ∧ hT = h1 ∧ e = [(1, .int .i64 size), (2, .int .i64 at'), (7, .ptr hR.nx 0), (10, p), (12, q), (13, .int .i64 (blkE size k)), (14, .bool (fnd size at' k i)), (15, .int .i64 (i : Nat))]) (blkV size k).length ⟨0, by omega, by omega, rfl, by simp [fnd]⟩ ?_
    rintro m e h1 ⟨i, rfl, hi, rfl, rfl⟩
    refine WP_seq ?_
    refine WP_seq ?_
    refine WP_reg ?_
    repeat (first | (refine WPO_op rfl ?_; simp [hlp]; done) | (refine WPO_op rfl ?_; simp [hlp]) | (refine WPO_nil ?_; simp))
    refine WP_cond rfl ⟨fun ht => ?_, fun ht => ?_⟩
    · have hi' : i < (blkV size k).length := by simpa using ht
      have hsuc := fnd_succ (size := size) (at' := at') (l := k) hi'
      obtain ⟨b1, o1, c1, L1, rfl, hgp, u1⟩ := SlJ.at hsP2 hi'
      obtain ⟨b2, o2, c2, L2, rfl, hgq, u2⟩ := SlJ.at hsQ hi'
      have hwr : IntKind.wrap .i64 ((i : Int) + 1) = ((i + 1 : Nat) : Int) := by rw [wrap_i64 (by omega) (by omega)]; omega
      simp only [WP_skip, nrmOr_nrm]
      refine WP_mid (fun e' h' => hT = h' ∧ e' = [(1, .int .i64 size), (2, .int .i64 at'), (7, .ptr hR.nx 0), (10, .sl b1 o1 (blkV size k).length c1), (12, .sl b2 o2 (blkV size k).length c2), (13, .int .i64 (blkE size k)), (14, .bool (fnd size at' k (i + 1))), (15, .int .i64 (i : Nat))]) ?_ ?_
      · refine WP_block ?_
        refine WP_seq ?_
        refine WP_seq ?_
        refine WP_reg ?_
        repeat (first | (refine WPO_op rfl ?_; simp [hi', loadV_ptr hgp, loadV_ptr hgq, u1, u2]; done) | (refine WPO_op rfl ?_; simp [hi', loadV_ptr hgp, loadV_ptr hgq, u1, u2]) | (refine WPO_nil ?_; simp))
        refine WP_cond rfl ⟨fun hd => (by cases hd), fun _ => ?_⟩
        simp only [WP_skip, nrmOr_nrm]
        refine WP_reg ?_
        generalize hbi : (blkV size k)[i] = bi at *
        cases hb1 : fnd size at' k i with
        | true =>
          rw [hb1] at hsuc
          simp only [Bool.true_or] at hsuc
          rw [hsuc]
          repeat (first | (refine WPO_op rfl ?_; simp; done) | (refine WPO_op rfl ?_; simp) | (refine WPO_gop rfl ?_; simp) | (refine WPO_gcall ?_; simp) | (refine WPO_nil ?_; simp))
        | false =>
          rw [hb1] at hsuc
          simp only [Bool.false_or] at hsuc
          rw [hsuc]
          by_cases hE : blkE size k = 0
          · obtain ⟨hs1, _, _, _⟩ := blkE_val size k hE
            have hne : size ≠ 0 := by omega
            rw [hE]
            repeat (first | (refine WPO_op rfl ?_; simp; done) | (refine WPO_op rfl ?_; simp) | (refine WPO_gop rfl ?_; simp [loadV_ptr hgT, loadN]))
            refine WPO_gcall ?_
            simp
            refine WPO_call (g := 14) (a := []) (b := []) (args := [.agg [x], .int .i64 at']) rfl rfl ?_
            simp
            refine ev14 hf14 hf34 hf52 hf35 hsX3 hxc1 hwT (by omega) fun h6 => ?_
            simp
            cases hany : k.any (hasP at') with
            | false =>
              repeat (first | (refine WPO_op rfl ?_; simp [hany]; done) | (refine WPO_op rfl ?_; simp [hany]) | (refine WPO_gop rfl ?_; simp [hany]) | (refine WPO_nil ?_; simp [hany]))
            | true =>
              obtain ⟨p0, hp0, hp1⟩ := List.any_eq_true.1 hany
              simp only [hasP, Bool.and_eq_true, decide_eq_true_eq] at hp1
              have hb0 := hF p0 hp0
              obtain ⟨d1, d2, d3⟩ := div_bd (a := at') (size := size) (by omega) (by omega) hs1
              have w1 : IntKind.wrap .i64 (at'.tdiv size) = at' / size := by rw [d3]; exact wrap_i64 (by omega) (by omega)
              repeat (first | (refine WPO_op rfl ?_; simp [hany, hi', loadV_ptr hgp, u1, binInt_quo hne, w1]; done) | (refine WPO_op rfl ?_; simp [hany, hi', loadV_ptr hgp, u1, binInt_quo hne, w1]) | (refine WPO_gop rfl ?_; simp [hany, hi', loadV_ptr hgp, u1, binInt_quo hne, w1]) | (refine WPO_nil ?_; simp [hany]))
              all_goals (by_cases hx : bi = at' / size <;> simp [hx])
          · have hEd : decide (blkE size k = 0) = false := by simpa using hE
            repeat (first | (refine WPO_op rfl ?_; simp [hE]; done) | (refine WPO_op rfl ?_; simp [hE]) | (refine WPO_gop rfl ?_; simp [hE]) | (refine WPO_gcall ?_; simp [hE]) | (refine WPO_nil ?_; simp [hE]))
      rintro e' h' ⟨rfl, rfl⟩
      repeat (first | refine WP_reg ?_ | (refine WPO_op rfl ?_; simp) | (refine WPO_nil ?_; simp))
      refine ⟨(blkV size k).length - (i + 1), by omega, i + 1, rfl, by omega, rfl, ?_⟩
      rw [hwr]
    · have hi' : i = (blkV size k).length := by
        have : ¬ (i < (blkV size k).length) := by simpa using ht
        omega
      subst hi'
      simp only [WP_exit, nrmOr_exit, blkQ_exit, if_pos, nrmOr_nrm, blkQ_nrm]
      exact ⟨trivial, rfl, rfl, rfl, rfl⟩
  rintro e' h' ⟨rfl, e2, e7, e13, e14⟩
  refine WP_seq ?_
  refine WP_reg ?_
  have hfa := fnd_all (size := size) (at' := at') hN
  by_cases hE : blkE size k = 0
  · rw [hE] at e13
    repeat (first | (refine WPO_op rfl ?_; simp [e13]; done) | (refine WPO_op rfl ?_; simp [e13]) | (refine WPO_gop rfl ?_; simp [e2, e7, loadV_ptr hgT, loadN]))
    refine WPO_gcall ?_
    simp
    refine WPO_call (g := 14) (a := []) (b := []) (args := [.agg [x], .int .i64 at']) (by simp) (by simp) ?_
    simp
    refine ev14 hf14 hf34 hf52 hf35 hsX3 hxc1 hwT (by omega) fun h6 => ?_
    simp
    cases hany : k.any (hasP at') with
    | false =>
      repeat (first | (refine WPO_op rfl ?_; simp [hany]; done) | (refine WPO_op rfl ?_; simp [hany]) | (refine WPO_gop rfl ?_; simp [hany]) | (refine WPO_nil ?_; simp [hany]))
      all_goals (simp [WP_ret, F6]; exact hq _)
    | true =>
      have hft := hfa (by simp [hE, hany])
      rw [hft] at e14
      repeat (first | (refine WPO_op rfl ?_; simp [hany, e14]; done) | (refine WPO_op rfl ?_; simp [hany, e14]) | (refine WPO_gop rfl ?_; simp [hany, e14]) | (refine WPO_nil ?_; simp [hany]))
      all_goals (simp [WP_ret, F6]; exact hq _)
  · repeat (first | (refine WPO_op rfl ?_; simp [e13, hE]; done) | (refine WPO_op rfl ?_; simp [e13, hE]) | (refine WPO_gop rfl ?_; simp [hE]) | (refine WPO_gcall ?_; simp [hE]) | (refine WPO_nil ?_; simp))
    all_goals (simp [WP_ret, F6]; exact hq _)
end Go.Am.S7
