/- The end of the law RangesCombine. -/
import Derived.Test.YtochmoadmdmcbaaDoorAmC8
namespace Go.Am.S7
open Go
set_option maxRecDepth 100000
set_option linter.unusedSimpArgs false
set_option linter.unusedVariables false
variable {fs : Nat → Option D} {ro : Nat} {h : Hp} {e : Env}

@[simp] theorem eqK_bb {p q : Bool} : eqK .b (.bool p) (.bool q) = some (p == q) := by cases p <;> cases q <;> rfl

set_option maxHeartbeats 4000000 in
theorem tail7 {a b LM LB LR : List Rg} {x1 y1 x2 y2 u2 u3 u4 : V} {p1 p2 : Nat} (hf12 : fs 12 = some (.code F12)) (hf28 : fs 28 = some (.code F28)) (hf45 : fs 45 = some (.code F45)) (hf29 : fs 29 = some (.code F29)) (hf30 : fs 30 = some (.code F30)) (hf31 : fs 31 = some (.code F31)) (hf22 : fs 22 = some (.code F22)) (hf42 : fs 42 = some (.code F42)) (hf23 : fs 23 = some (.code F23)) (hf24 : fs 24 = some (.code F24))
    (hf38 : fs 38 = some (.code F38)) (hf40 : fs 40 = some (.code F40)) (hf41 : fs 41 = some (.code F41)) (hf54 : fs 54 = some (.orc orcSortI)) (hf55 : fs 55 = some (.orc orcCmp))
    (sx1 : SlG h x1 a) (sx2 : SlG h x2 b) (sy1 : SlG h y1 a) (sy2 : SlG h y2 b) (su2 : SlG h u2 LM) (su3 : SlG h u3 LR) (su4 : SlG h u4 LB) (x1c1 : x1.cells = [x1]) (x2c1 : x2.cells = [x2]) (g1 : h.get p1 = some (.cells 0 [x1])) (g2 : h.get p2 = some (.cells 0 [x2]))
    (hNo1 : Norm a) (hNo2 : Norm b) (hFi1 : Fine a) (hFi2 : Fine b) (hA200 : a.length ≤ 200) (hB200 : b.length ≤ 200) (hwf : ∀ b x, h.get b = some x → b < h.nx)
    (nB : decide (0 < (segs (fun x y => x && y) a b (cutsL a b)).length) = decide (0 < LB.length)) (nR : decide ((segs (fun x y => x && !y) b a (cutsL b a)).length = 0) = decide (LR.length = 0)) (nE : decide (a = b) = (decide (LM.length = 0) && decide (LR.length = 0)))
    {Q : V → Hp → Prop} (hq : ∀ h', Q (.bool true) h') :
    WP fs ro (.seq (.reg .false (some [4]) [⟨(some 153), none, (.load (some 1) (.t 5))⟩, ⟨(some 154), none, (.load (some 1) (.t 8))⟩, ⟨(some 155), none, (.call 1 (.f 23) [(.t 153), (.t 154)])⟩, ⟨(some 156), none, (.mov (.t 17))⟩, ⟨(some 157), none, (.lenSl (.t 156))⟩, ⟨(some 158), none, (.bin .gtr (.t 157) (.c (.int .i64 0)))⟩, ⟨(some 159), none, (.eq .false (.s .b) (.t 155) (.t 158))⟩, ⟨(some 160), none, (.mov (.t 159))⟩, ⟨(some 161), (some (160, .true)), (.load (some 1) (.t 5))⟩, ⟨(some 162), (some (160, .true)), (.load (some 1) (.t 8))⟩, ⟨(some 163), (some (160, .true)), (.call 1 (.f 24) [(.t 161), (.t 162)])⟩, ⟨(some 164), (some (160, .true)), (.mov (.t 15))⟩, ⟨(some 165), (some (160, .true)), (.lenSl (.t 164))⟩, ⟨(some 166), (some (160, .true)), (.eq .false (.s .i) (.t 165) (.c (.int .i64 0)))⟩, ⟨(some 167), (some (160, .true)), (.eq .false (.s .b) (.t 163) (.t 166))⟩, ⟨(some 168), none, (.pick (.t 160) (.t 167) (.c (.bool .false)))⟩, ⟨(some 169), none, (.mov (.t 168))⟩, ⟨(some 170), (some (169, .true)), (.load (some 1) (.t 5))⟩, ⟨(some 171), (some (169, .true)), (.load (some 1) (.t 8))⟩, ⟨(some 172), (some (169, .true)), (.call 1 (.f 22) [(.t 170), (.t 171)])⟩, ⟨(some 173), (some (169, .true)), (.mov (.t 13))⟩, ⟨(some 174), (some (169, .true)), (.lenSl (.t 173))⟩, ⟨(some 175), (some (169, .true)), (.eq .false (.s .i) (.t 174) (.c (.int .i64 0)))⟩, ⟨(some 176), (some (169, .true)), (.mov (.t 175))⟩, ⟨(some 177), (some (176, .true)), (.mov (.t 15))⟩, ⟨(some 178), (some (176, .true)), (.lenSl (.t 177))⟩, ⟨(some 179), (some (176, .true)), (.eq .false (.s .i) (.t 178) (.c (.int .i64 0)))⟩, ⟨(some 180), (some (169, .true)), (.pick (.t 176) (.t 179) (.c (.bool .false)))⟩, ⟨(some 181), (some (169, .true)), (.eq .false (.s .b) (.t 172) (.t 180))⟩, ⟨(some 182), none, (.pick (.t 169) (.t 181) (.c (.bool .false)))⟩, ⟨(some 183), none, (.mov (.t 182))⟩, ⟨(some 184), (some (183, .true)), (.load (some 1) (.t 5))⟩, ⟨(some 185), (some (183, .true)), (.mov (.t 6))⟩, ⟨(some 186), (some (183, .true)), (.call 1 (.f 12) [(.t 184), (.t 185)])⟩, ⟨(some 187), none, (.pick (.t 183) (.t 186) (.c (.bool .false)))⟩, ⟨(some 188), none, (.mov (.t 187))⟩, ⟨(some 189), (some (188, .true)), (.load (some 1) (.t 8))⟩, ⟨(some 190), (some (188, .true)), (.mov (.t 9))⟩, ⟨(some 191), (some (188, .true)), (.call 1 (.f 12) [(.t 189), (.t 190)])⟩, ⟨(some 192), none, (.pick (.t 188) (.t 191) (.c (.bool .false)))⟩, ⟨(some 4), none, (.mov (.t 192))⟩]) .ret) [(5, .ptr p1 0), (6, y1), (8, .ptr p2 0), (9, y2), (13, u2), (15, u3), (17, u4), (152, .bool false)] h (fin F7.results Q) := by
  have eI : ∀ n : Nat, (((n : Nat) : Int) == 0) = decide (n = 0) := fun n => by
    rw [Bool.eq_iff_iff, beq_iff_eq, decide_eq_true_eq]
    omega
  have q4 := su4.lenV
  have q3 := su3.lenV
  have q2 := su2.lenV
  refine WP_seq ?_
  refine WP_reg ?_
  repeat (first | (refine WPO_op rfl ?_; simp [loadV_ptr g1, loadV_ptr g2, loadN]; done) | (refine WPO_op rfl ?_; simp [loadV_ptr g1, loadV_ptr g2, loadN]))
  refine WPO_call (g := 23) (a := []) (b := []) (args := [.agg [x1], .agg [x2]]) rfl rfl ?_
  simp
  refine ev23 hf23 hf38 hf45 hf54 hf55 hf41 sx1 sx2 x1c1 x2c1 hNo1 hNo2 hA200 hB200 hwf (Nat.le_refl _) fun h9 => ?_
  rw [nB]
  simp
  repeat (first | (refine WPO_op rfl ?_; simp [q4]; done) | (refine WPO_op rfl ?_; simp [q4]) | (refine WPO_gop rfl ?_; simp [loadV_ptr g1, loadV_ptr g2, loadN]))
  refine WPO_gcall ?_
  simp
  refine WPO_call (g := 24) (a := []) (b := []) (args := [.agg [x1], .agg [x2]]) rfl rfl ?_
  simp
  refine ev24 hf24 hf38 hf45 hf54 hf55 hf40 sx1 sx2 x1c1 x2c1 hNo1 hNo2 hA200 hB200 hwf (Nat.le_refl _) fun h9 => ?_
  rw [nR]
  simp
  repeat (first | (refine WPO_op rfl ?_; simp [q3, eI]; done) | (refine WPO_op rfl ?_; simp [q3, eI]) | (refine WPO_gop rfl ?_; simp [loadV_ptr g1, loadV_ptr g2, loadN, q3, eI]))
  refine WPO_gcall ?_
  simp
  refine WPO_call (g := 22) (a := []) (b := []) (args := [.agg [x1], .agg [x2]]) rfl rfl ?_
  simp
  refine ev22 hf22 hf42 sx1 sx2 x1c1 x2c1 (by omega) (by omega) hwf fun h9 => ?_
  rw [nE]
  simp
  by_cases cM : LM = []
  · by_cases cR : LR = []
    · have nR1 : (LR.length : Int) = 0 := by rw [cR]; rfl
      have nM1 : (LM.length : Int) = 0 := by rw [cM]; rfl
      repeat (first | (refine WPO_op rfl ?_; simp [q2, q3, nM1, nR1, cM, cR]; done) | (refine WPO_op rfl ?_; simp [q2, q3, nM1, nR1, cM, cR]) | (refine WPO_gop rfl ?_; simp [loadV_ptr g1, loadV_ptr g2, loadN, q2, q3, nM1, nR1, cM, cR]))
      refine WPO_gcall ?_
      simp
      refine WPO_call (g := 12) (a := []) (b := []) (args := [.agg [x1], y1]) (by rfl) (by rfl) ?_
      simp
      refine ev12 hf12 hf28 hf45 hf29 hf30 hf31 sx1 x1c1 sy1 hwf (by omega) hFi1 fun h9 => ?_
      simp
      repeat (first | (refine WPO_op rfl ?_; simp; done) | (refine WPO_op rfl ?_; simp) | (refine WPO_gop rfl ?_; simp [loadV_ptr g1, loadV_ptr g2, loadN]))
      refine WPO_gcall ?_
      simp
      refine WPO_call (g := 12) (a := []) (b := []) (args := [.agg [x2], y2]) (by rfl) (by rfl) ?_
      simp
      refine ev12 hf12 hf28 hf45 hf29 hf30 hf31 sx2 x2c1 sy2 hwf (by omega) hFi2 fun h9 => ?_
      simp
      repeat (first | (refine WPO_op rfl ?_; simp; done) | (refine WPO_op rfl ?_; simp) | (refine WPO_nil ?_; simp))
      simp [WP_ret, F7]
      exact hq _
    · have nR0 : ¬ ((LR.length : Int) = 0) := by have : LR.length ≠ 0 := fun h => cR (List.eq_nil_of_length_eq_zero h); omega
      repeat (first | (refine WPO_op rfl ?_; simp [q2, q3, cM, cR, nR0]; done) | (refine WPO_op rfl ?_; simp [q2, q3, cM, cR, nR0]) | (refine WPO_gop rfl ?_; simp [loadV_ptr g1, loadV_ptr g2, loadN, q2, q3, cM, cR, nR0]))
      refine WPO_gcall ?_
      simp [cM, cR]
      refine WPO_call (g := 12) (a := []) (b := []) (args := [.agg [x1], y1]) (by rfl) (by rfl) ?_
      simp
      refine ev12 hf12 hf28 hf45 hf29 hf30 hf31 sx1 x1c1 sy1 hwf (by omega) hFi1 fun h9 => ?_
      simp [cM, cR]
      repeat (first | (refine WPO_op rfl ?_; simp [cM, cR]; done) | (refine WPO_op rfl ?_; simp [cM, cR]) | (refine WPO_gop rfl ?_; simp [loadV_ptr g1, loadV_ptr g2, loadN, cM, cR]))
      refine WPO_gcall ?_
      simp [cM, cR]
      refine WPO_call (g := 12) (a := []) (b := []) (args := [.agg [x2], y2]) (by rfl) (by rfl) ?_
      simp
      refine ev12 hf12 hf28 hf45 hf29 hf30 hf31 sx2 x2c1 sy2 hwf (by omega) hFi2 fun h9 => ?_
      simp [cM, cR]
      repeat (first | (refine WPO_op rfl ?_; simp; done) | (refine WPO_op rfl ?_; simp) | (refine WPO_nil ?_; simp))
      simp [WP_ret, F7]
      exact hq _
  · have nM0 : ¬ ((LM.length : Int) = 0) := by have : LM.length ≠ 0 := fun h => cM (List.eq_nil_of_length_eq_zero h); omega
    by_cases cR : LR = []
    · skip
      repeat (first | (refine WPO_op rfl ?_; simp [q2, q3, cM, cR, nM0]; done) | (refine WPO_op rfl ?_; simp [q2, q3, cM, cR, nM0]) | (refine WPO_gop rfl ?_; simp [loadV_ptr g1, loadV_ptr g2, loadN, q2, q3, cM, cR, nM0]))
      refine WPO_gcall ?_
      simp [cM, cR]
      refine WPO_call (g := 12) (a := []) (b := []) (args := [.agg [x1], y1]) (by rfl) (by rfl) ?_
      simp
      refine ev12 hf12 hf28 hf45 hf29 hf30 hf31 sx1 x1c1 sy1 hwf (by omega) hFi1 fun h9 => ?_
      simp [cM, cR]
      repeat (first | (refine WPO_op rfl ?_; simp [cM, cR]; done) | (refine WPO_op rfl ?_; simp [cM, cR]) | (refine WPO_gop rfl ?_; simp [loadV_ptr g1, loadV_ptr g2, loadN, cM, cR]))
      refine WPO_gcall ?_
      simp [cM, cR]
      refine WPO_call (g := 12) (a := []) (b := []) (args := [.agg [x2], y2]) (by rfl) (by rfl) ?_
      simp
      refine ev12 hf12 hf28 hf45 hf29 hf30 hf31 sx2 x2c1 sy2 hwf (by omega) hFi2 fun h9 => ?_
      simp [cM, cR]
      repeat (first | (refine WPO_op rfl ?_; simp; done) | (refine WPO_op rfl ?_; simp) | (refine WPO_nil ?_; simp))
      simp [WP_ret, F7]
      exact hq _
    · have nR0 : ¬ ((LR.length : Int) = 0) := by have : LR.length ≠ 0 := fun h => cR (List.eq_nil_of_length_eq_zero h); omega
      repeat (first | (refine WPO_op rfl ?_; simp [q2, q3, cM, cR, nM0, nR0]; done) | (refine WPO_op rfl ?_; simp [q2, q3, cM, cR, nM0, nR0]) | (refine WPO_gop rfl ?_; simp [loadV_ptr g1, loadV_ptr g2, loadN, q2, q3, cM, cR, nM0, nR0]))
      refine WPO_gcall ?_
      simp [cM, cR]
      refine WPO_call (g := 12) (a := []) (b := []) (args := [.agg [x1], y1]) (by rfl) (by rfl) ?_
      simp
      refine ev12 hf12 hf28 hf45 hf29 hf30 hf31 sx1 x1c1 sy1 hwf (by omega) hFi1 fun h9 => ?_
      simp [cM, cR]
      repeat (first | (refine WPO_op rfl ?_; simp [cM, cR]; done) | (refine WPO_op rfl ?_; simp [cM, cR]) | (refine WPO_gop rfl ?_; simp [loadV_ptr g1, loadV_ptr g2, loadN, cM, cR]))
      refine WPO_gcall ?_
      simp [cM, cR]
      refine WPO_call (g := 12) (a := []) (b := []) (args := [.agg [x2], y2]) (by rfl) (by rfl) ?_
      simp
      refine ev12 hf12 hf28 hf45 hf29 hf30 hf31 sx2 x2c1 sy2 hwf (by omega) hFi2 fun h9 => ?_
      simp [cM, cR]
      repeat (first | (refine WPO_op rfl ?_; simp; done) | (refine WPO_op rfl ?_; simp) | (refine WPO_nil ?_; simp))
      simp [WP_ret, F7]
      exact hq _
end Go.Am.S7
