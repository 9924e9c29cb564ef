/- The algebra of the laws on sets of ranges: what the program's six questions come to. -/
import Derived.Test.YtochmoadmdmcbaaDoorAmC8
namespace Go.Am.S7
open Go

theorem bnd {n a b A B N : Nat} (h : n ≤ a * 2 + b * 2) (ha : a ≤ A) (hb : b ≤ B) (hN : A * 2 + B * 2 ≤ N) : n ≤ N := by omega

theorem inS_comb {f : Bool → Bool → Bool} (hf : f false false = false) (a b : List Rg) (x : Int) : inS (combL f a b) x = f (inS a x) (inS b x) := by
  rw [Bool.eq_iff_iff, inS_iff]
  exact (combL_spec hf a b).2 x

theorem comb_eq {a b : List Rg} (ha : Norm a) (hb : Norm b) (h : ∀ x, inS a x = inS b x) : a = b :=
  norm_unique ha hb fun x => by rw [← inS_iff, ← inS_iff, h]

theorem algebra {a b c s4 s5 s6 s7 s8 s9 s10 s11 s12 s13 : List Rg} (ha : Norm a) (_hb : Norm b) (_hc : Norm c)
    (h4 : s4 = combL (fun x y => x || y) a b) (h5 : s5 = combL (fun x y => x || y) b c) (h6 : s6 = combL (fun x y => x || y) s4 c) (h7 : s7 = combL (fun x y => x || y) a s5)
    (h8 : s8 = combL (fun x y => x && y) a b) (h9 : s9 = combL (fun x y => x && y) b c) (h10 : s10 = combL (fun x y => x && y) s8 c) (h11 : s11 = combL (fun x y => x && y) a s9)
    (h12 : s12 = combL (fun x y => x && !y) a b) (h13 : s13 = combL (fun x y => x || y) s12 s8) :
    decide (s6 = s7) = true ∧ decide (s10 = s11) = true ∧ decide (0 < (segs (fun x y => x && y) s12 b (cutsL s12 b)).length) = false ∧ decide (s13 = a) = true ∧
      decide ((segs (fun x y => x && !y) a s4 (cutsL a s4)).length = 0) = true ∧ decide ((segs (fun x y => x && !y) s8 a (cutsL s8 a)).length = 0) = true := by
  have e4 : ∀ x, inS s4 x = (inS a x || inS b x) := fun x => by rw [h4, inS_comb rfl]
  have e5 : ∀ x, inS s5 x = (inS b x || inS c x) := fun x => by rw [h5, inS_comb rfl]
  have e8 : ∀ x, inS s8 x = (inS a x && inS b x) := fun x => by rw [h8, inS_comb rfl]
  have e9 : ∀ x, inS s9 x = (inS b x && inS c x) := fun x => by rw [h9, inS_comb rfl]
  have e12 : ∀ x, inS s12 x = (inS a x && !inS b x) := fun x => by rw [h12, inS_comb rfl]
  refine ⟨decide_eq_true ?_, decide_eq_true ?_, decide_eq_false ?_, decide_eq_true ?_, decide_eq_true ?_, decide_eq_true ?_⟩
  · rw [h6, h7]
    exact comb_eq (combL_spec rfl _ _).1 (combL_spec rfl _ _).1 fun x => by rw [inS_comb rfl, inS_comb rfl, e4, e5, Bool.or_assoc]
  · rw [h10, h11]
    exact comb_eq (combL_spec rfl _ _).1 (combL_spec rfl _ _).1 fun x => by rw [inS_comb rfl, inS_comb rfl, e8, e9, Bool.and_assoc]
  · have h0 := (segs_nil (fun x y => x && y) s12 b).2 ((comb_nil rfl s12 b).2 fun x => by rw [e12]; cases inS a x <;> cases inS b x <;> rfl)
    omega
  · rw [h13]
    exact comb_eq (combL_spec rfl _ _).1 ha fun x => by rw [inS_comb rfl, e12, e8]; cases inS a x <;> cases inS b x <;> rfl
  · exact (segs_nil _ a s4).2 ((comb_nil rfl a s4).2 fun x => by rw [e4]; cases inS a x <;> cases inS b x <;> rfl)
  · exact (segs_nil _ s8 a).2 ((comb_nil rfl s8 a).2 fun x => by rw [e8]; cases inS a x <;> cases inS b x <;> rfl)
end Go.Am.S7
/- The law RangesAlgebra, stepped through stage by stage. -/
namespace Go.Am.S7
open Go
set_option maxRecDepth 100000
set_option linter.unusedSimpArgs false
set_option linter.unusedVariables false
variable {fs : Nat → Option D} {ro : Nat} {h : Hp} {e : Env}
set_option maxHeartbeats 8000000 in
theorem ev8d {hS13 : Hp} {x1 x2 x3 x4 x5 x6 x7 x8 x9 x10 x11 x12 x13 : V} {p1 p2 p3 p4 p5 p6 p7 p8 p9 p10 p11 p12 p13 : Nat} {s1 s2 s3 s4 s5 s6 s7 s8 s9 s10 s11 s12 s13 : List Rg} (hf13 : fs 13 = some (.code F13)) (hf32 : fs 32 = some (.code F32)) (hf26 : fs 26 = some (.code F26)) (hf34 : fs 34 = some (.code F34)) (hf52 : fs 52 = some (.code F52)) (hf43 : fs 43 = some (.code F43)) (hf44 : fs 44 = some (.code F44)) (hf45 : fs 45 = some (.code F45)) (hf25 : fs 25 = some (.code F25)) (hf33 : fs 33 = some (.code F33)) (hf37 : fs 37 = some (.code F37)) (hf12 : fs 12 = some (.code F12)) (hf28 : fs 28 = some (.code F28)) (hf29 : fs 29 = some (.code F29)) (hf30 : fs 30 = some (.code F30)) (hf31 : fs 31 = some (.code F31)) (hf38 : fs 38 = some (.code F38)) (hf39 : fs 39 = some (.code F39)) (hf40 : fs 40 = some (.code F40)) (hf41 : fs 41 = some (.code F41)) (hf19 : fs 19 = some (.code F19)) (hf20 : fs 20 = some (.code F20)) (hf21 : fs 21 = some (.code F21)) (hf22 : fs 22 = some (.code F22)) (hf42 : fs 42 = some (.code F42)) (hf23 : fs 23 = some (.code F23)) (hf24 : fs 24 = some (.code F24)) (hf46 : fs 46 = some (.orc (orcSort 47))) (hf54 : fs 54 = some (.orc orcSortI)) (hf55 : fs 55 = some (.orc orcCmp)) (hf11 : fs 11 = some (.orc orcKnown))
    (x1c1 : x1.cells = [x1]) (hNo1 : Norm s1) (hB1 : s1.length ≤ 30) (x2c1 : x2.cells = [x2]) (hNo2 : Norm s2) (hB2 : s2.length ≤ 30) (x3c1 : x3.cells = [x3]) (hNo3 : Norm s3) (hB3 : s3.length ≤ 30) (x4c1 : x4.cells = [x4]) (hNo4 : Norm s4) (hB4 : s4.length ≤ 120) (x5c1 : x5.cells = [x5]) (hNo5 : Norm s5) (hB5 : s5.length ≤ 120) (x6c1 : x6.cells = [x6]) (hNo6 : Norm s6) (hB6 : s6.length ≤ 300) (x7c1 : x7.cells = [x7]) (hNo7 : Norm s7) (hB7 : s7.length ≤ 300) (x8c1 : x8.cells = [x8]) (hNo8 : Norm s8) (hB8 : s8.length ≤ 120) (x9c1 : x9.cells = [x9]) (hNo9 : Norm s9) (hB9 : s9.length ≤ 120) (x10c1 : x10.cells = [x10]) (hNo10 : Norm s10) (hB10 : s10.length ≤ 300) (x11c1 : x11.cells = [x11]) (hNo11 : Norm s11) (hB11 : s11.length ≤ 300) (x12c1 : x12.cells = [x12]) (hNo12 : Norm s12) (hB12 : s12.length ≤ 120) (x13c1 : x13.cells = [x13]) (hNo13 : Norm s13) (hB13 : s13.length ≤ 480)
    (hE4 : combL (fun x y => x || y) s1 s2 = s4) (hE5 : combL (fun x y => x || y) s2 s3 = s5) (hE6 : combL (fun x y => x || y) s4 s3 = s6) (hE7 : combL (fun x y => x || y) s1 s5 = s7) (hE8 : combL (fun x y => x && y) s1 s2 = s8) (hE9 : combL (fun x y => x && y) s2 s3 = s9) (hE10 : combL (fun x y => x && y) s8 s3 = s10) (hE11 : combL (fun x y => x && y) s1 s9 = s11) (hE12 : combL (fun x y => x && !y) s1 s2 = s12) (hE13 : combL (fun x y => x || y) s12 s8 = s13)
    (hK13' : SK hS13 [(x13, s13), (x12, s12), (x11, s11), (x10, s10), (x9, s9), (x8, s8), (x7, s7), (x6, s6), (x5, s5), (x4, s4), (x3, s3), (x2, s2), (x1, s1)] [(p13, x13), (p12, x12), (p11, x11), (p10, x10), (p9, x9), (p8, x8), (p7, x7), (p6, x6), (p5, x5), (p4, x4), (p3, x3), (p2, x2), (p1, x1)]) (hwf13 : ∀ b x, hS13.get b = some x → b < hS13.nx) (hRo13 : ro ≤ hS13.nx) {Q : V → Hp → Prop} (hq : ∀ h', Q (.bool true) h') :
    WP fs ro (.seq (.reg .false (some [6]) [⟨(some 140), none, (.load (some 1) (.t 20))⟩, ⟨(some 141), none, (.load (some 1) (.t 22))⟩, ⟨(some 142), none, (.call 1 (.f 22) [(.t 140), (.t 141)])⟩, ⟨(some 143), none, (.mov (.t 142))⟩, ⟨(some 144), (some (143, .true)), (.load (some 1) (.t 28))⟩, ⟨(some 145), (some (143, .true)), (.load (some 1) (.t 30))⟩, ⟨(some 146), (some (143, .true)), (.call 1 (.f 22) [(.t 144), (.t 145)])⟩, ⟨(some 147), none, (.pick (.t 143) (.t 146) (.c (.bool .false)))⟩, ⟨(some 148), none, (.mov (.t 147))⟩, ⟨(some 149), (some (148, .true)), (.load (some 1) (.t 32))⟩, ⟨(some 150), (some (148, .true)), (.load (some 1) (.t 10))⟩, ⟨(some 151), (some (148, .true)), (.call 1 (.f 23) [(.t 149), (.t 150)])⟩, ⟨(some 152), (some (148, .true)), (.un .not (.t 151))⟩, ⟨(some 153), none, (.pick (.t 148) (.t 152) (.c (.bool .false)))⟩, ⟨(some 154), none, (.mov (.t 153))⟩, ⟨(some 155), (some (154, .true)), (.load (some 1) (.t 34))⟩, ⟨(some 156), (some (154, .true)), (.load (some 1) (.t 7))⟩, ⟨(some 157), (some (154, .true)), (.call 1 (.f 22) [(.t 155), (.t 156)])⟩, ⟨(some 158), none, (.pick (.t 154) (.t 157) (.c (.bool .false)))⟩, ⟨(some 159), none, (.mov (.t 158))⟩, ⟨(some 160), (some (159, .true)), (.load (some 1) (.t 16))⟩, ⟨(some 161), (some (159, .true)), (.load (some 1) (.t 7))⟩, ⟨(some 162), (some (159, .true)), (.call 1 (.f 24) [(.t 160), (.t 161)])⟩, ⟨(some 163), none, (.pick (.t 159) (.t 162) (.c (.bool .false)))⟩, ⟨(some 164), none, (.mov (.t 163))⟩, ⟨(some 165), (some (164, .true)), (.load (some 1) (.t 7))⟩, ⟨(some 166), (some (164, .true)), (.load (some 1) (.t 24))⟩, ⟨(some 167), (some (164, .true)), (.call 1 (.f 24) [(.t 165), (.t 166)])⟩, ⟨(some 168), none, (.pick (.t 164) (.t 167) (.c (.bool .false)))⟩, ⟨(some 6), none, (.mov (.t 168))⟩]) .ret) [(7, .ptr p1 0), (10, .ptr p2 0), (16, .ptr p4 0), (20, .ptr p6 0), (22, .ptr p7 0), (24, .ptr p8 0), (28, .ptr p10 0), (30, .ptr p11 0), (32, .ptr p12 0), (34, .ptr p13 0)] hS13 (fin F8.results Q) := by
  have hfn13 : Fr hS13 hS13 := Fr.refl hwf13
  obtain ⟨q1, q2, q3, q4, q5, q6⟩ := algebra hNo1 hNo2 hNo3 hE4.symm hE5.symm hE6.symm hE7.symm hE8.symm hE9.symm hE10.symm hE11.symm hE12.symm hE13.symm
  have g1 := hK13'.2 (p1, x1) (by simp)
  have t1 : SlG _ x1 s1 := hK13'.1 (x1, s1) (by simp)
  have g2 := hK13'.2 (p2, x2) (by simp)
  have t2 : SlG _ x2 s2 := hK13'.1 (x2, s2) (by simp)
  have g3 := hK13'.2 (p3, x3) (by simp)
  have t3 : SlG _ x3 s3 := hK13'.1 (x3, s3) (by simp)
  have g4 := hK13'.2 (p4, x4) (by simp)
  have t4 : SlG _ x4 s4 := hK13'.1 (x4, s4) (by simp)
  have g5 := hK13'.2 (p5, x5) (by simp)
  have t5 : SlG _ x5 s5 := hK13'.1 (x5, s5) (by simp)
  have g6 := hK13'.2 (p6, x6) (by simp)
  have t6 : SlG _ x6 s6 := hK13'.1 (x6, s6) (by simp)
  have g7 := hK13'.2 (p7, x7) (by simp)
  have t7 : SlG _ x7 s7 := hK13'.1 (x7, s7) (by simp)
  have g8 := hK13'.2 (p8, x8) (by simp)
  have t8 : SlG _ x8 s8 := hK13'.1 (x8, s8) (by simp)
  have g9 := hK13'.2 (p9, x9) (by simp)
  have t9 : SlG _ x9 s9 := hK13'.1 (x9, s9) (by simp)
  have g10 := hK13'.2 (p10, x10) (by simp)
  have t10 : SlG _ x10 s10 := hK13'.1 (x10, s10) (by simp)
  have g11 := hK13'.2 (p11, x11) (by simp)
  have t11 : SlG _ x11 s11 := hK13'.1 (x11, s11) (by simp)
  have g12 := hK13'.2 (p12, x12) (by simp)
  have t12 : SlG _ x12 s12 := hK13'.1 (x12, s12) (by simp)
  have g13 := hK13'.2 (p13, x13) (by simp)
  have t13 : SlG _ x13 s13 := hK13'.1 (x13, s13) (by simp)
  simp only at g1 g2 g3 g4 g5 g6 g7 g8 g9 g10 g11 g12 g13
  have hwf := hfn13.wf
  refine WP_seq ?_
  refine WP_reg ?_
  repeat (first | (refine WPO_op rfl ?_; simp [loadV_ptr g1, loadV_ptr g2, loadV_ptr g4, loadV_ptr g6, loadV_ptr g7, loadV_ptr g8, loadV_ptr g10, loadV_ptr g11, loadV_ptr g12, loadV_ptr g13, loadN]; done) | (refine WPO_op rfl ?_; simp [loadV_ptr g1, loadV_ptr g2, loadV_ptr g4, loadV_ptr g6, loadV_ptr g7, loadV_ptr g8, loadV_ptr g10, loadV_ptr g11, loadV_ptr g12, loadV_ptr g13, loadN]) | (refine WPO_gop rfl ?_; simp [loadV_ptr g1, loadV_ptr g2, loadV_ptr g4, loadV_ptr g6, loadV_ptr g7, loadV_ptr g8, loadV_ptr g10, loadV_ptr g11, loadV_ptr g12, loadV_ptr g13, loadN]))
  refine WPO_call (g := 22) (a := []) (b := []) (args := [.agg [x6], .agg [x7]]) rfl rfl ?_
  simp
  refine ev22 hf22 hf42 t6 t7 x6c1 x7c1 (Nat.le_trans hB6 (by decide)) (Nat.le_trans hB7 (by decide)) hwf fun h9 => ?_
  rw [q1]
  simp
  repeat (first | (refine WPO_op rfl ?_; simp [loadV_ptr g1, loadV_ptr g2, loadV_ptr g4, loadV_ptr g6, loadV_ptr g7, loadV_ptr g8, loadV_ptr g10, loadV_ptr g11, loadV_ptr g12, loadV_ptr g13, loadN]; done) | (refine WPO_op rfl ?_; simp [loadV_ptr g1, loadV_ptr g2, loadV_ptr g4, loadV_ptr g6, loadV_ptr g7, loadV_ptr g8, loadV_ptr g10, loadV_ptr g11, loadV_ptr g12, loadV_ptr g13, loadN]) | (refine WPO_gop rfl ?_; simp [loadV_ptr g1, loadV_ptr g2, loadV_ptr g4, loadV_ptr g6, loadV_ptr g7, loadV_ptr g8, loadV_ptr g10, loadV_ptr g11, loadV_ptr g12, loadV_ptr g13, loadN]))
  refine WPO_gcall ?_
  simp
  refine WPO_call (g := 22) (a := []) (b := []) (args := [.agg [x10], .agg [x11]]) rfl rfl ?_
  simp
  refine ev22 hf22 hf42 t10 t11 x10c1 x11c1 (Nat.le_trans hB10 (by decide)) (Nat.le_trans hB11 (by decide)) hwf fun h9 => ?_
  rw [q2]
  simp
  repeat (first | (refine WPO_op rfl ?_; simp [loadV_ptr g1, loadV_ptr g2, loadV_ptr g4, loadV_ptr g6, loadV_ptr g7, loadV_ptr g8, loadV_ptr g10, loadV_ptr g11, loadV_ptr g12, loadV_ptr g13, loadN]; done) | (refine WPO_op rfl ?_; simp [loadV_ptr g1, loadV_ptr g2, loadV_ptr g4, loadV_ptr g6, loadV_ptr g7, loadV_ptr g8, loadV_ptr g10, loadV_ptr g11, loadV_ptr g12, loadV_ptr g13, loadN]) | (refine WPO_gop rfl ?_; simp [loadV_ptr g1, loadV_ptr g2, loadV_ptr g4, loadV_ptr g6, loadV_ptr g7, loadV_ptr g8, loadV_ptr g10, loadV_ptr g11, loadV_ptr g12, loadV_ptr g13, loadN]))
  refine WPO_gcall ?_
  simp
  refine WPO_call (g := 23) (a := []) (b := []) (args := [.agg [x12], .agg [x2]]) rfl rfl ?_
  simp
  refine ev23 hf23 hf38 hf45 hf54 hf55 hf41 t12 t2 x12c1 x2c1 hNo12 hNo2 (Nat.le_trans hB12 (by decide)) (Nat.le_trans hB2 (by decide)) hwf (Nat.le_refl _) fun h9 => ?_
  rw [q3]
  simp
  repeat (first | (refine WPO_op rfl ?_; simp [loadV_ptr g1, loadV_ptr g2, loadV_ptr g4, loadV_ptr g6, loadV_ptr g7, loadV_ptr g8, loadV_ptr g10, loadV_ptr g11, loadV_ptr g12, loadV_ptr g13, loadN]; done) | (refine WPO_op rfl ?_; simp [loadV_ptr g1, loadV_ptr g2, loadV_ptr g4, loadV_ptr g6, loadV_ptr g7, loadV_ptr g8, loadV_ptr g10, loadV_ptr g11, loadV_ptr g12, loadV_ptr g13, loadN]) | (refine WPO_gop rfl ?_; simp [loadV_ptr g1, loadV_ptr g2, loadV_ptr g4, loadV_ptr g6, loadV_ptr g7, loadV_ptr g8, loadV_ptr g10, loadV_ptr g11, loadV_ptr g12, loadV_ptr g13, loadN]))
  refine WPO_gcall ?_
  simp
  refine WPO_call (g := 22) (a := []) (b := []) (args := [.agg [x13], .agg [x1]]) rfl rfl ?_
  simp
  refine ev22 hf22 hf42 t13 t1 x13c1 x1c1 (Nat.le_trans hB13 (by decide)) (Nat.le_trans hB1 (by decide)) hwf fun h9 => ?_
  rw [q4]
  simp
  repeat (first | (refine WPO_op rfl ?_; simp [loadV_ptr g1, loadV_ptr g2, loadV_ptr g4, loadV_ptr g6, loadV_ptr g7, loadV_ptr g8, loadV_ptr g10, loadV_ptr g11, loadV_ptr g12, loadV_ptr g13, loadN]; done) | (refine WPO_op rfl ?_; simp [loadV_ptr g1, loadV_ptr g2, loadV_ptr g4, loadV_ptr g6, loadV_ptr g7, loadV_ptr g8, loadV_ptr g10, loadV_ptr g11, loadV_ptr g12, loadV_ptr g13, loadN]) | (refine WPO_gop rfl ?_; simp [loadV_ptr g1, loadV_ptr g2, loadV_ptr g4, loadV_ptr g6, loadV_ptr g7, loadV_ptr g8, loadV_ptr g10, loadV_ptr g11, loadV_ptr g12, loadV_ptr g13, loadN]))
  refine WPO_gcall ?_
  simp
  refine WPO_call (g := 24) (a := []) (b := []) (args := [.agg [x4], .agg [x1]]) rfl rfl ?_
  simp
  refine ev24 hf24 hf38 hf45 hf54 hf55 hf40 t4 t1 x4c1 x1c1 hNo4 hNo1 (Nat.le_trans hB4 (by decide)) (Nat.le_trans hB1 (by decide)) hwf (Nat.le_refl _) fun h9 => ?_
  rw [q5]
  simp
  repeat (first | (refine WPO_op rfl ?_; simp [loadV_ptr g1, loadV_ptr g2, loadV_ptr g4, loadV_ptr g6, loadV_ptr g7, loadV_ptr g8, loadV_ptr g10, loadV_ptr g11, loadV_ptr g12, loadV_ptr g13, loadN]; done) | (refine WPO_op rfl ?_; simp [loadV_ptr g1, loadV_ptr g2, loadV_ptr g4, loadV_ptr g6, loadV_ptr g7, loadV_ptr g8, loadV_ptr g10, loadV_ptr g11, loadV_ptr g12, loadV_ptr g13, loadN]) | (refine WPO_gop rfl ?_; simp [loadV_ptr g1, loadV_ptr g2, loadV_ptr g4, loadV_ptr g6, loadV_ptr g7, loadV_ptr g8, loadV_ptr g10, loadV_ptr g11, loadV_ptr g12, loadV_ptr g13, loadN]))
  refine WPO_gcall ?_
  simp
  refine WPO_call (g := 24) (a := []) (b := []) (args := [.agg [x1], .agg [x8]]) rfl rfl ?_
  simp
  refine ev24 hf24 hf38 hf45 hf54 hf55 hf40 t1 t8 x1c1 x8c1 hNo1 hNo8 (Nat.le_trans hB1 (by decide)) (Nat.le_trans hB8 (by decide)) hwf (Nat.le_refl _) fun h9 => ?_
  rw [q6]
  simp
  repeat (first | (refine WPO_op rfl ?_; simp; done) | (refine WPO_op rfl ?_; simp) | (refine WPO_nil ?_; simp))
  simp [WP_ret, F8]
  exact hq _

set_option maxHeartbeats 8000000 in
theorem ev8c {hS8 : Hp} {x1 x2 x3 x4 x5 x6 x7 x8 : V} {p1 p2 p3 p4 p5 p6 p7 p8 : Nat} {s1 s2 s3 s4 s5 s6 s7 s8 : List Rg} (hf13 : fs 13 = some (.code F13)) (hf32 : fs 32 = some (.code F32)) (hf26 : fs 26 = some (.code F26)) (hf34 : fs 34 = some (.code F34)) (hf52 : fs 52 = some (.code F52)) (hf43 : fs 43 = some (.code F43)) (hf44 : fs 44 = some (.code F44)) (hf45 : fs 45 = some (.code F45)) (hf25 : fs 25 = some (.code F25)) (hf33 : fs 33 = some (.code F33)) (hf37 : fs 37 = some (.code F37)) (hf12 : fs 12 = some (.code F12)) (hf28 : fs 28 = some (.code F28)) (hf29 : fs 29 = some (.code F29)) (hf30 : fs 30 = some (.code F30)) (hf31 : fs 31 = some (.code F31)) (hf38 : fs 38 = some (.code F38)) (hf39 : fs 39 = some (.code F39)) (hf40 : fs 40 = some (.code F40)) (hf41 : fs 41 = some (.code F41)) (hf19 : fs 19 = some (.code F19)) (hf20 : fs 20 = some (.code F20)) (hf21 : fs 21 = some (.code F21)) (hf22 : fs 22 = some (.code F22)) (hf42 : fs 42 = some (.code F42)) (hf23 : fs 23 = some (.code F23)) (hf24 : fs 24 = some (.code F24)) (hf46 : fs 46 = some (.orc (orcSort 47))) (hf54 : fs 54 = some (.orc orcSortI)) (hf55 : fs 55 = some (.orc orcCmp)) (hf11 : fs 11 = some (.orc orcKnown))
    (x1c1 : x1.cells = [x1]) (hNo1 : Norm s1) (hB1 : s1.length ≤ 30) (x2c1 : x2.cells = [x2]) (hNo2 : Norm s2) (hB2 : s2.length ≤ 30) (x3c1 : x3.cells = [x3]) (hNo3 : Norm s3) (hB3 : s3.length ≤ 30) (x4c1 : x4.cells = [x4]) (hNo4 : Norm s4) (hB4 : s4.length ≤ 120) (x5c1 : x5.cells = [x5]) (hNo5 : Norm s5) (hB5 : s5.length ≤ 120) (x6c1 : x6.cells = [x6]) (hNo6 : Norm s6) (hB6 : s6.length ≤ 300) (x7c1 : x7.cells = [x7]) (hNo7 : Norm s7) (hB7 : s7.length ≤ 300) (x8c1 : x8.cells = [x8]) (hNo8 : Norm s8) (hB8 : s8.length ≤ 120)
    (hE4 : combL (fun x y => x || y) s1 s2 = s4) (hE5 : combL (fun x y => x || y) s2 s3 = s5) (hE6 : combL (fun x y => x || y) s4 s3 = s6) (hE7 : combL (fun x y => x || y) s1 s5 = s7) (hE8 : combL (fun x y => x && y) s1 s2 = s8)
    (hK8' : SK hS8 [(x8, s8), (x7, s7), (x6, s6), (x5, s5), (x4, s4), (x3, s3), (x2, s2), (x1, s1)] [(p8, x8), (p7, x7), (p6, x6), (p5, x5), (p4, x4), (p3, x3), (p2, x2), (p1, x1)]) (hwf8 : ∀ b x, hS8.get b = some x → b < hS8.nx) (hRo8 : ro ≤ hS8.nx) {Q : V → Hp → Prop} (hq : ∀ h', Q (.bool true) h') :
    WP fs ro (.seq (.reg .false (some [7, 10, 13, 16, 20, 22, 24, 26]) [⟨(some 111), none, (.load (some 1) (.t 10))⟩, ⟨(some 112), none, (.load (some 1) (.t 13))⟩, ⟨(some 113), none, (.call 1 (.f 21) [(.t 111), (.t 112)])⟩, ⟨(some 110), none, (.mov (.t 113))⟩, ⟨(some 114), none, (.ext (.t 110) 0)⟩, ⟨(some 115), none, (.ext (.t 110) 1)⟩, ⟨(some 26), none, (.alloc [.nsl])⟩, ⟨none, none, (.store 1 (.t 26) (.t 114))⟩, ⟨(some 27), none, (.mov (.t 115))⟩]) (.seq (.reg .false (some [7, 10, 16, 20, 22, 24, 26, 28]) [⟨(some 117), none, (.load (some 1) (.t 24))⟩, ⟨(some 118), none, (.load (some 1) (.t 13))⟩, ⟨(some 119), none, (.call 1 (.f 21) [(.t 117), (.t 118)])⟩, ⟨(some 116), none, (.mov (.t 119))⟩, ⟨(some 120), none, (.ext (.t 116) 0)⟩, ⟨(some 121), none, (.ext (.t 116) 1)⟩, ⟨(some 28), none, (.alloc [.nsl])⟩, ⟨none, none, (.store 1 (.t 28) (.t 120))⟩, ⟨(some 29), none, (.mov (.t 121))⟩]) (.seq (.reg .false (some [7, 10, 16, 20, 22, 24, 28, 30]) [⟨(some 123), none, (.load (some 1) (.t 7))⟩, ⟨(some 124), none, (.load (some 1) (.t 26))⟩, ⟨(some 125), none, (.call 1 (.f 21) [(.t 123), (.t 124)])⟩, ⟨(some 122), none, (.mov (.t 125))⟩, ⟨(some 126), none, (.ext (.t 122) 0)⟩, ⟨(some 127), none, (.ext (.t 122) 1)⟩, ⟨(some 30), none, (.alloc [.nsl])⟩, ⟨none, none, (.store 1 (.t 30) (.t 126))⟩, ⟨(some 31), none, (.mov (.t 127))⟩]) (.seq (.reg .false (some [7, 10, 16, 20, 22, 24, 28, 30, 32]) [⟨(some 129), none, (.load (some 1) (.t 7))⟩, ⟨(some 130), none, (.load (some 1) (.t 10))⟩, ⟨(some 131), none, (.call 1 (.f 20) [(.t 129), (.t 130)])⟩, ⟨(some 128), none, (.mov (.t 131))⟩, ⟨(some 132), none, (.ext (.t 128) 0)⟩, ⟨(some 133), none, (.ext (.t 128) 1)⟩, ⟨(some 32), none, (.alloc [.nsl])⟩, ⟨none, none, (.store 1 (.t 32) (.t 132))⟩, ⟨(some 33), none, (.mov (.t 133))⟩]) (.seq (.reg .false (some [7, 10, 16, 20, 22, 24, 28, 30, 32, 34]) [⟨(some 135), none, (.load (some 1) (.t 32))⟩, ⟨(some 136), none, (.load (some 1) (.t 24))⟩, ⟨(some 137), none, (.call 1 (.f 19) [(.t 135), (.t 136)])⟩, ⟨(some 134), none, (.mov (.t 137))⟩, ⟨(some 138), none, (.ext (.t 134) 0)⟩, ⟨(some 139), none, (.ext (.t 134) 1)⟩, ⟨(some 34), none, (.alloc [.nsl])⟩, ⟨none, none, (.store 1 (.t 34) (.t 138))⟩, ⟨(some 35), none, (.mov (.t 139))⟩]) (.seq (.reg .false (some [6]) [⟨(some 140), none, (.load (some 1) (.t 20))⟩, ⟨(some 141), none, (.load (some 1) (.t 22))⟩, ⟨(some 142), none, (.call 1 (.f 22) [(.t 140), (.t 141)])⟩, ⟨(some 143), none, (.mov (.t 142))⟩, ⟨(some 144), (some (143, .true)), (.load (some 1) (.t 28))⟩, ⟨(some 145), (some (143, .true)), (.load (some 1) (.t 30))⟩, ⟨(some 146), (some (143, .true)), (.call 1 (.f 22) [(.t 144), (.t 145)])⟩, ⟨(some 147), none, (.pick (.t 143) (.t 146) (.c (.bool .false)))⟩, ⟨(some 148), none, (.mov (.t 147))⟩, ⟨(some 149), (some (148, .true)), (.load (some 1) (.t 32))⟩, ⟨(some 150), (some (148, .true)), (.load (some 1) (.t 10))⟩, ⟨(some 151), (some (148, .true)), (.call 1 (.f 23) [(.t 149), (.t 150)])⟩, ⟨(some 152), (some (148, .true)), (.un .not (.t 151))⟩, ⟨(some 153), none, (.pick (.t 148) (.t 152) (.c (.bool .false)))⟩, ⟨(some 154), none, (.mov (.t 153))⟩, ⟨(some 155), (some (154, .true)), (.load (some 1) (.t 34))⟩, ⟨(some 156), (some (154, .true)), (.load (some 1) (.t 7))⟩, ⟨(some 157), (some (154, .true)), (.call 1 (.f 22) [(.t 155), (.t 156)])⟩, ⟨(some 158), none, (.pick (.t 154) (.t 157) (.c (.bool .false)))⟩, ⟨(some 159), none, (.mov (.t 158))⟩, ⟨(some 160), (some (159, .true)), (.load (some 1) (.t 16))⟩, ⟨(some 161), (some (159, .true)), (.load (some 1) (.t 7))⟩, ⟨(some 162), (some (159, .true)), (.call 1 (.f 24) [(.t 160), (.t 161)])⟩, ⟨(some 163), none, (.pick (.t 159) (.t 162) (.c (.bool .false)))⟩, ⟨(some 164), none, (.mov (.t 163))⟩, ⟨(some 165), (some (164, .true)), (.load (some 1) (.t 7))⟩, ⟨(some 166), (some (164, .true)), (.load (some 1) (.t 24))⟩, ⟨(some 167), (some (164, .true)), (.call 1 (.f 24) [(.t 165), (.t 166)])⟩, ⟨(some 168), none, (.pick (.t 164) (.t 167) (.c (.bool .false)))⟩, ⟨(some 6), none, (.mov (.t 168))⟩]) .ret)))))) [(7, .ptr p1 0), (10, .ptr p2 0), (13, .ptr p3 0), (16, .ptr p4 0), (20, .ptr p6 0), (22, .ptr p7 0), (24, .ptr p8 0)] hS8 (fin F8.results Q) := by
  have hfn8 : Fr hS8 hS8 := Fr.refl hwf8
  refine WP_seq ?_
  refine WP_reg ?_
  have hgp9 := hK8'.2 (p2, x2) (by simp)
  have hgq9 := hK8'.2 (p3, x3) (by simp)
  simp only at hgp9 hgq9
  repeat (first | (refine WPO_op rfl ?_; simp [loadV_ptr hgp9, loadV_ptr hgq9, loadN]; done) | (refine WPO_op rfl ?_; simp [loadV_ptr hgp9, loadV_ptr hgq9, loadN]))
  refine WPO_call (g := 21) (a := []) (b := []) (args := [.agg [x2], .agg [x3]]) rfl rfl ?_
  simp
  refine ev21 hf21 hf38 hf45 hf54 hf55 hf41 hf25 (show SlG _ x2 s2 from hK8'.1 (x2, s2) (by simp)) (show SlG _ x3 s3 from hK8'.1 (x3, s3) (by simp)) x2c1 x3c1 hNo2 hNo3 (Nat.le_trans hB2 (by decide)) (Nat.le_trans hB3 (by decide)) hfn8.wf (Nat.le_refl _) fun x9 h9' hsx9 hox9 hfx9' => ?_
  obtain ⟨htx9, hfR9⟩ := aft (k := .i64) (n := 0) hfn8.wf hsx9 hox9 hfx9' (.inl rfl)
  clear hsx9 hfx9'
  generalize (if ground (V.tup [V.agg [x9], V.int .i64 0]) = true then hS8 else h9') = hR9 at *
  have hB9 := bnd (combL_len (fun x y => x && y) s2 s3) hB2 hB3 (show _ ≤ 120 by decide)
  have hNo9 := (combL_spec (f := (fun x y => x && y)) rfl s2 s3).1
  generalize hE9 : combL (fun x y => x && y) s2 s3 = s9 at *
  have hK9 := (hK8'.fr hfR9).addL htx9
  have hg5_9 : (hR9.new (.cells 0 [.nsl])).get hR9.nx = some (.cells 0 [.nsl]) := Hp.get_new_same
  have hfn9 : Fr hR9 ((hR9.new (.cells 0 [.nsl])).set hR9.nx (.cells 0 [x9])) := ((Fr.refl hfR9.wf).new _).set hfR9.wf (Nat.le_refl _) hg5_9 _
  have hg6_9 : ((hR9.new (.cells 0 [.nsl])).set hR9.nx (.cells 0 [x9])).get hR9.nx = some (.cells 0 [x9]) := Hp.get_set_same hg5_9
  obtain ⟨x9c1, x9c2⟩ := hox9.cells
  refine WPO_op rfl ?_
  simp
  refine WPO_op rfl ?_
  simp [op1]
  refine WPO_op rfl ?_
  simp [op1]
  refine WPO_op rfl ?_
  simp
  refine WPO_op rfl ?_
  refine OB_store (b := hR9.nx) (o := 0) (v := V.agg [x9]) (l' := [x9]) rfl rfl (Nat.le_trans hRo8 hfR9.nx) rfl (by simp [V.cells, x9c2]) hg5_9 rfl ?_
  have hRoR9 : ro ≤ hR9.nx := Nat.le_trans hRo8 hfR9.nx
  generalize hp9 : hR9.nx = p9 at *
  generalize ((hR9.new (.cells 0 [.nsl])).set p9 (.cells 0 [x9])) = hS9 at *
  simp
  repeat (first | (refine WPO_op rfl ?_; simp; done) | (refine WPO_op rfl ?_; simp) | (refine WPO_nil ?_; simp))
  have hK9' := (hK9.fr hfn9).addP hg6_9
  have hRo9 : ro ≤ hS9.nx := by
    have hx := hfn9.nx
    rw [hp9] at hx
    exact Nat.le_trans hRoR9 hx
  refine WP_seq ?_
  refine WP_reg ?_
  have hgp10 := hK9'.2 (p8, x8) (by simp)
  have hgq10 := hK9'.2 (p3, x3) (by simp)
  simp only at hgp10 hgq10
  repeat (first | (refine WPO_op rfl ?_; simp [loadV_ptr hgp10, loadV_ptr hgq10, loadN]; done) | (refine WPO_op rfl ?_; simp [loadV_ptr hgp10, loadV_ptr hgq10, loadN]))
  refine WPO_call (g := 21) (a := []) (b := []) (args := [.agg [x8], .agg [x3]]) rfl rfl ?_
  simp
  refine ev21 hf21 hf38 hf45 hf54 hf55 hf41 hf25 (show SlG _ x8 s8 from hK9'.1 (x8, s8) (by simp)) (show SlG _ x3 s3 from hK9'.1 (x3, s3) (by simp)) x8c1 x3c1 hNo8 hNo3 (Nat.le_trans hB8 (by decide)) (Nat.le_trans hB3 (by decide)) hfn9.wf (Nat.le_refl _) fun x10 h10' hsx10 hox10 hfx10' => ?_
  obtain ⟨htx10, hfR10⟩ := aft (k := .i64) (n := 0) hfn9.wf hsx10 hox10 hfx10' (.inl rfl)
  clear hsx10 hfx10'
  generalize (if ground (V.tup [V.agg [x10], V.int .i64 0]) = true then hS9 else h10') = hR10 at *
  have hB10 := bnd (combL_len (fun x y => x && y) s8 s3) hB8 hB3 (show _ ≤ 300 by decide)
  have hNo10 := (combL_spec (f := (fun x y => x && y)) rfl s8 s3).1
  generalize hE10 : combL (fun x y => x && y) s8 s3 = s10 at *
  have hK10 := (hK9'.fr hfR10).addL htx10
  have hg5_10 : (hR10.new (.cells 0 [.nsl])).get hR10.nx = some (.cells 0 [.nsl]) := Hp.get_new_same
  have hfn10 : Fr hR10 ((hR10.new (.cells 0 [.nsl])).set hR10.nx (.cells 0 [x10])) := ((Fr.refl hfR10.wf).new _).set hfR10.wf (Nat.le_refl _) hg5_10 _
  have hg6_10 : ((hR10.new (.cells 0 [.nsl])).set hR10.nx (.cells 0 [x10])).get hR10.nx = some (.cells 0 [x10]) := Hp.get_set_same hg5_10
  obtain ⟨x10c1, x10c2⟩ := hox10.cells
  refine WPO_op rfl ?_
  simp
  refine WPO_op rfl ?_
  simp [op1]
  refine WPO_op rfl ?_
  simp [op1]
  refine WPO_op rfl ?_
  simp
  refine WPO_op rfl ?_
  refine OB_store (b := hR10.nx) (o := 0) (v := V.agg [x10]) (l' := [x10]) rfl rfl (Nat.le_trans hRo9 hfR10.nx) rfl (by simp [V.cells, x10c2]) hg5_10 rfl ?_
  have hRoR10 : ro ≤ hR10.nx := Nat.le_trans hRo9 hfR10.nx
  generalize hp10 : hR10.nx = p10 at *
  generalize ((hR10.new (.cells 0 [.nsl])).set p10 (.cells 0 [x10])) = hS10 at *
  simp
  repeat (first | (refine WPO_op rfl ?_; simp; done) | (refine WPO_op rfl ?_; simp) | (refine WPO_nil ?_; simp))
  have hK10' := (hK10.fr hfn10).addP hg6_10
  have hRo10 : ro ≤ hS10.nx := by
    have hx := hfn10.nx
    rw [hp10] at hx
    exact Nat.le_trans hRoR10 hx
  refine WP_seq ?_
  refine WP_reg ?_
  have hgp11 := hK10'.2 (p1, x1) (by simp)
  have hgq11 := hK10'.2 (p9, x9) (by simp)
  simp only at hgp11 hgq11
  repeat (first | (refine WPO_op rfl ?_; simp [loadV_ptr hgp11, loadV_ptr hgq11, loadN]; done) | (refine WPO_op rfl ?_; simp [loadV_ptr hgp11, loadV_ptr hgq11, loadN]))
  refine WPO_call (g := 21) (a := []) (b := []) (args := [.agg [x1], .agg [x9]]) rfl rfl ?_
  simp
  refine ev21 hf21 hf38 hf45 hf54 hf55 hf41 hf25 (show SlG _ x1 s1 from hK10'.1 (x1, s1) (by simp)) (show SlG _ x9 s9 from hK10'.1 (x9, s9) (by simp)) x1c1 x9c1 hNo1 hNo9 (Nat.le_trans hB1 (by decide)) (Nat.le_trans hB9 (by decide)) hfn10.wf (Nat.le_refl _) fun x11 h11' hsx11 hox11 hfx11' => ?_
  obtain ⟨htx11, hfR11⟩ := aft (k := .i64) (n := 0) hfn10.wf hsx11 hox11 hfx11' (.inl rfl)
  clear hsx11 hfx11'
  generalize (if ground (V.tup [V.agg [x11], V.int .i64 0]) = true then hS10 else h11') = hR11 at *
  have hB11 := bnd (combL_len (fun x y => x && y) s1 s9) hB1 hB9 (show _ ≤ 300 by decide)
  have hNo11 := (combL_spec (f := (fun x y => x && y)) rfl s1 s9).1
  generalize hE11 : combL (fun x y => x && y) s1 s9 = s11 at *
  have hK11 := (hK10'.fr hfR11).addL htx11
  have hg5_11 : (hR11.new (.cells 0 [.nsl])).get hR11.nx = some (.cells 0 [.nsl]) := Hp.get_new_same
  have hfn11 : Fr hR11 ((hR11.new (.cells 0 [.nsl])).set hR11.nx (.cells 0 [x11])) := ((Fr.refl hfR11.wf).new _).set hfR11.wf (Nat.le_refl _) hg5_11 _
  have hg6_11 : ((hR11.new (.cells 0 [.nsl])).set hR11.nx (.cells 0 [x11])).get hR11.nx = some (.cells 0 [x11]) := Hp.get_set_same hg5_11
  obtain ⟨x11c1, x11c2⟩ := hox11.cells
  refine WPO_op rfl ?_
  simp
  refine WPO_op rfl ?_
  simp [op1]
  refine WPO_op rfl ?_
  simp [op1]
  refine WPO_op rfl ?_
  simp
  refine WPO_op rfl ?_
  refine OB_store (b := hR11.nx) (o := 0) (v := V.agg [x11]) (l' := [x11]) rfl rfl (Nat.le_trans hRo10 hfR11.nx) rfl (by simp [V.cells, x11c2]) hg5_11 rfl ?_
  have hRoR11 : ro ≤ hR11.nx := Nat.le_trans hRo10 hfR11.nx
  generalize hp11 : hR11.nx = p11 at *
  generalize ((hR11.new (.cells 0 [.nsl])).set p11 (.cells 0 [x11])) = hS11 at *
  simp
  repeat (first | (refine WPO_op rfl ?_; simp; done) | (refine WPO_op rfl ?_; simp) | (refine WPO_nil ?_; simp))
  have hK11' := (hK11.fr hfn11).addP hg6_11
  have hRo11 : ro ≤ hS11.nx := by
    have hx := hfn11.nx
    rw [hp11] at hx
    exact Nat.le_trans hRoR11 hx
  refine WP_seq ?_
  refine WP_reg ?_
  have hgp12 := hK11'.2 (p1, x1) (by simp)
  have hgq12 := hK11'.2 (p2, x2) (by simp)
  simp only at hgp12 hgq12
  repeat (first | (refine WPO_op rfl ?_; simp [loadV_ptr hgp12, loadV_ptr hgq12, loadN]; done) | (refine WPO_op rfl ?_; simp [loadV_ptr hgp12, loadV_ptr hgq12, loadN]))
  refine WPO_call (g := 20) (a := []) (b := []) (args := [.agg [x1], .agg [x2]]) rfl rfl ?_
  simp
  refine ev20 hf20 hf38 hf45 hf54 hf55 hf40 hf25 (show SlG _ x1 s1 from hK11'.1 (x1, s1) (by simp)) (show SlG _ x2 s2 from hK11'.1 (x2, s2) (by simp)) x1c1 x2c1 hNo1 hNo2 (Nat.le_trans hB1 (by decide)) (Nat.le_trans hB2 (by decide)) hfn11.wf (Nat.le_refl _) fun x12 h12' hsx12 hox12 hfx12' => ?_
  obtain ⟨htx12, hfR12⟩ := aft (k := .i64) (n := 0) hfn11.wf hsx12 hox12 hfx12' (.inl rfl)
  clear hsx12 hfx12'
  generalize (if ground (V.tup [V.agg [x12], V.int .i64 0]) = true then hS11 else h12') = hR12 at *
  have hB12 := bnd (combL_len (fun x y => x && !y) s1 s2) hB1 hB2 (show _ ≤ 120 by decide)
  have hNo12 := (combL_spec (f := (fun x y => x && !y)) rfl s1 s2).1
  generalize hE12 : combL (fun x y => x && !y) s1 s2 = s12 at *
  have hK12 := (hK11'.fr hfR12).addL htx12
  have hg5_12 : (hR12.new (.cells 0 [.nsl])).get hR12.nx = some (.cells 0 [.nsl]) := Hp.get_new_same
  have hfn12 : Fr hR12 ((hR12.new (.cells 0 [.nsl])).set hR12.nx (.cells 0 [x12])) := ((Fr.refl hfR12.wf).new _).set hfR12.wf (Nat.le_refl _) hg5_12 _
  have hg6_12 : ((hR12.new (.cells 0 [.nsl])).set hR12.nx (.cells 0 [x12])).get hR12.nx = some (.cells 0 [x12]) := Hp.get_set_same hg5_12
  obtain ⟨x12c1, x12c2⟩ := hox12.cells
  refine WPO_op rfl ?_
  simp
  refine WPO_op rfl ?_
  simp [op1]
  refine WPO_op rfl ?_
  simp [op1]
  refine WPO_op rfl ?_
  simp
  refine WPO_op rfl ?_
  refine OB_store (b := hR12.nx) (o := 0) (v := V.agg [x12]) (l' := [x12]) rfl rfl (Nat.le_trans hRo11 hfR12.nx) rfl (by simp [V.cells, x12c2]) hg5_12 rfl ?_
  have hRoR12 : ro ≤ hR12.nx := Nat.le_trans hRo11 hfR12.nx
  generalize hp12 : hR12.nx = p12 at *
  generalize ((hR12.new (.cells 0 [.nsl])).set p12 (.cells 0 [x12])) = hS12 at *
  simp
  repeat (first | (refine WPO_op rfl ?_; simp; done) | (refine WPO_op rfl ?_; simp) | (refine WPO_nil ?_; simp))
  have hK12' := (hK12.fr hfn12).addP hg6_12
  have hRo12 : ro ≤ hS12.nx := by
    have hx := hfn12.nx
    rw [hp12] at hx
    exact Nat.le_trans hRoR12 hx
  refine WP_seq ?_
  refine WP_reg ?_
  have hgp13 := hK12'.2 (p12, x12) (by simp)
  have hgq13 := hK12'.2 (p8, x8) (by simp)
  simp only at hgp13 hgq13
  repeat (first | (refine WPO_op rfl ?_; simp [loadV_ptr hgp13, loadV_ptr hgq13, loadN]; done) | (refine WPO_op rfl ?_; simp [loadV_ptr hgp13, loadV_ptr hgq13, loadN]))
  refine WPO_call (g := 19) (a := []) (b := []) (args := [.agg [x12], .agg [x8]]) rfl rfl ?_
  simp
  refine ev19 hf19 hf38 hf45 hf54 hf55 hf39 hf25 (show SlG _ x12 s12 from hK12'.1 (x12, s12) (by simp)) (show SlG _ x8 s8 from hK12'.1 (x8, s8) (by simp)) x12c1 x8c1 hNo12 hNo8 (Nat.le_trans hB12 (by decide)) (Nat.le_trans hB8 (by decide)) hfn12.wf (Nat.le_refl _) fun x13 h13' hsx13 hox13 hfx13' => ?_
  obtain ⟨htx13, hfR13⟩ := aft (k := .i64) (n := 0) hfn12.wf hsx13 hox13 hfx13' (.inl rfl)
  clear hsx13 hfx13'
  generalize (if ground (V.tup [V.agg [x13], V.int .i64 0]) = true then hS12 else h13') = hR13 at *
  have hB13 := bnd (combL_len (fun x y => x || y) s12 s8) hB12 hB8 (show _ ≤ 480 by decide)
  have hNo13 := (combL_spec (f := (fun x y => x || y)) rfl s12 s8).1
  generalize hE13 : combL (fun x y => x || y) s12 s8 = s13 at *
  have hK13 := (hK12'.fr hfR13).addL htx13
  have hg5_13 : (hR13.new (.cells 0 [.nsl])).get hR13.nx = some (.cells 0 [.nsl]) := Hp.get_new_same
  have hfn13 : Fr hR13 ((hR13.new (.cells 0 [.nsl])).set hR13.nx (.cells 0 [x13])) := ((Fr.refl hfR13.wf).new _).set hfR13.wf (Nat.le_refl _) hg5_13 _
  have hg6_13 : ((hR13.new (.cells 0 [.nsl])).set hR13.nx (.cells 0 [x13])).get hR13.nx = some (.cells 0 [x13]) := Hp.get_set_same hg5_13
  obtain ⟨x13c1, x13c2⟩ := hox13.cells
  refine WPO_op rfl ?_
  simp
  refine WPO_op rfl ?_
  simp [op1]
  refine WPO_op rfl ?_
  simp [op1]
  refine WPO_op rfl ?_
  simp
  refine WPO_op rfl ?_
  refine OB_store (b := hR13.nx) (o := 0) (v := V.agg [x13]) (l' := [x13]) rfl rfl (Nat.le_trans hRo12 hfR13.nx) rfl (by simp [V.cells, x13c2]) hg5_13 rfl ?_
  have hRoR13 : ro ≤ hR13.nx := Nat.le_trans hRo12 hfR13.nx
  generalize hp13 : hR13.nx = p13 at *
  generalize ((hR13.new (.cells 0 [.nsl])).set p13 (.cells 0 [x13])) = hS13 at *
  simp
  repeat (first | (refine WPO_op rfl ?_; simp; done) | (refine WPO_op rfl ?_; simp) | (refine WPO_nil ?_; simp))
  have hK13' := (hK13.fr hfn13).addP hg6_13
  have hRo13 : ro ≤ hS13.nx := by
    have hx := hfn13.nx
    rw [hp13] at hx
    exact Nat.le_trans hRoR13 hx
  exact ev8d hf13 hf32 hf26 hf34 hf52 hf43 hf44 hf45 hf25 hf33 hf37 hf12 hf28 hf29 hf30 hf31 hf38 hf39 hf40 hf41 hf19 hf20 hf21 hf22 hf42 hf23 hf24 hf46 hf54 hf55 hf11 x1c1 hNo1 hB1 x2c1 hNo2 hB2 x3c1 hNo3 hB3 x4c1 hNo4 hB4 x5c1 hNo5 hB5 x6c1 hNo6 hB6 x7c1 hNo7 hB7 x8c1 hNo8 hB8 x9c1 hNo9 hB9 x10c1 hNo10 hB10 x11c1 hNo11 hB11 x12c1 hNo12 hB12 x13c1 hNo13 hB13 hE4 hE5 hE6 hE7 hE8 hE9 hE10 hE11 hE12 hE13 hK13' hfn13.wf hRo13 hq

set_option maxHeartbeats 8000000 in
theorem ev8b {hS3 : Hp} {x1 x2 x3 : V} {p1 p2 p3 : Nat} {s1 s2 s3 : List Rg} (hf13 : fs 13 = some (.code F13)) (hf32 : fs 32 = some (.code F32)) (hf26 : fs 26 = some (.code F26)) (hf34 : fs 34 = some (.code F34)) (hf52 : fs 52 = some (.code F52)) (hf43 : fs 43 = some (.code F43)) (hf44 : fs 44 = some (.code F44)) (hf45 : fs 45 = some (.code F45)) (hf25 : fs 25 = some (.code F25)) (hf33 : fs 33 = some (.code F33)) (hf37 : fs 37 = some (.code F37)) (hf12 : fs 12 = some (.code F12)) (hf28 : fs 28 = some (.code F28)) (hf29 : fs 29 = some (.code F29)) (hf30 : fs 30 = some (.code F30)) (hf31 : fs 31 = some (.code F31)) (hf38 : fs 38 = some (.code F38)) (hf39 : fs 39 = some (.code F39)) (hf40 : fs 40 = some (.code F40)) (hf41 : fs 41 = some (.code F41)) (hf19 : fs 19 = some (.code F19)) (hf20 : fs 20 = some (.code F20)) (hf21 : fs 21 = some (.code F21)) (hf22 : fs 22 = some (.code F22)) (hf42 : fs 42 = some (.code F42)) (hf23 : fs 23 = some (.code F23)) (hf24 : fs 24 = some (.code F24)) (hf46 : fs 46 = some (.orc (orcSort 47))) (hf54 : fs 54 = some (.orc orcSortI)) (hf55 : fs 55 = some (.orc orcCmp)) (hf11 : fs 11 = some (.orc orcKnown))
    (x1c1 : x1.cells = [x1]) (hNo1 : Norm s1) (hB1 : s1.length ≤ 30) (x2c1 : x2.cells = [x2]) (hNo2 : Norm s2) (hB2 : s2.length ≤ 30) (x3c1 : x3.cells = [x3]) (hNo3 : Norm s3) (hB3 : s3.length ≤ 30)
    
    (hK3' : SK hS3 [(x3, s3), (x2, s2), (x1, s1)] [(p3, x3), (p2, x2), (p1, x1)]) (hwf3 : ∀ b x, hS3.get b = some x → b < hS3.nx) (hRo3 : ro ≤ hS3.nx) {Q : V → Hp → Prop} (hq : ∀ h', Q (.bool true) h') :
    WP fs ro (.seq (.reg .false (some [7, 10, 13, 16]) [⟨(some 81), none, (.load (some 1) (.t 7))⟩, ⟨(some 82), none, (.load (some 1) (.t 10))⟩, ⟨(some 83), none, (.call 1 (.f 19) [(.t 81), (.t 82)])⟩, ⟨(some 80), none, (.mov (.t 83))⟩, ⟨(some 84), none, (.ext (.t 80) 0)⟩, ⟨(some 85), none, (.ext (.t 80) 1)⟩, ⟨(some 16), none, (.alloc [.nsl])⟩, ⟨none, none, (.store 1 (.t 16) (.t 84))⟩, ⟨(some 17), none, (.mov (.t 85))⟩]) (.seq (.reg .false (some [7, 10, 13, 16, 18]) [⟨(some 87), none, (.load (some 1) (.t 10))⟩, ⟨(some 88), none, (.load (some 1) (.t 13))⟩, ⟨(some 89), none, (.call 1 (.f 19) [(.t 87), (.t 88)])⟩, ⟨(some 86), none, (.mov (.t 89))⟩, ⟨(some 90), none, (.ext (.t 86) 0)⟩, ⟨(some 91), none, (.ext (.t 86) 1)⟩, ⟨(some 18), none, (.alloc [.nsl])⟩, ⟨none, none, (.store 1 (.t 18) (.t 90))⟩, ⟨(some 19), none, (.mov (.t 91))⟩]) (.seq (.reg .false (some [7, 10, 13, 16, 18, 20]) [⟨(some 93), none, (.load (some 1) (.t 16))⟩, ⟨(some 94), none, (.load (some 1) (.t 13))⟩, ⟨(some 95), none, (.call 1 (.f 19) [(.t 93), (.t 94)])⟩, ⟨(some 92), none, (.mov (.t 95))⟩, ⟨(some 96), none, (.ext (.t 92) 0)⟩, ⟨(some 97), none, (.ext (.t 92) 1)⟩, ⟨(some 20), none, (.alloc [.nsl])⟩, ⟨none, none, (.store 1 (.t 20) (.t 96))⟩, ⟨(some 21), none, (.mov (.t 97))⟩]) (.seq (.reg .false (some [7, 10, 13, 16, 20, 22]) [⟨(some 99), none, (.load (some 1) (.t 7))⟩, ⟨(some 100), none, (.load (some 1) (.t 18))⟩, ⟨(some 101), none, (.call 1 (.f 19) [(.t 99), (.t 100)])⟩, ⟨(some 98), none, (.mov (.t 101))⟩, ⟨(some 102), none, (.ext (.t 98) 0)⟩, ⟨(some 103), none, (.ext (.t 98) 1)⟩, ⟨(some 22), none, (.alloc [.nsl])⟩, ⟨none, none, (.store 1 (.t 22) (.t 102))⟩, ⟨(some 23), none, (.mov (.t 103))⟩]) (.seq (.reg .false (some [7, 10, 13, 16, 20, 22, 24]) [⟨(some 105), none, (.load (some 1) (.t 7))⟩, ⟨(some 106), none, (.load (some 1) (.t 10))⟩, ⟨(some 107), none, (.call 1 (.f 21) [(.t 105), (.t 106)])⟩, ⟨(some 104), none, (.mov (.t 107))⟩, ⟨(some 108), none, (.ext (.t 104) 0)⟩, ⟨(some 109), none, (.ext (.t 104) 1)⟩, ⟨(some 24), none, (.alloc [.nsl])⟩, ⟨none, none, (.store 1 (.t 24) (.t 108))⟩, ⟨(some 25), none, (.mov (.t 109))⟩]) (.seq (.reg .false (some [7, 10, 13, 16, 20, 22, 24, 26]) [⟨(some 111), none, (.load (some 1) (.t 10))⟩, ⟨(some 112), none, (.load (some 1) (.t 13))⟩, ⟨(some 113), none, (.call 1 (.f 21) [(.t 111), (.t 112)])⟩, ⟨(some 110), none, (.mov (.t 113))⟩, ⟨(some 114), none, (.ext (.t 110) 0)⟩, ⟨(some 115), none, (.ext (.t 110) 1)⟩, ⟨(some 26), none, (.alloc [.nsl])⟩, ⟨none, none, (.store 1 (.t 26) (.t 114))⟩, ⟨(some 27), none, (.mov (.t 115))⟩]) (.seq (.reg .false (some [7, 10, 16, 20, 22, 24, 26, 28]) [⟨(some 117), none, (.load (some 1) (.t 24))⟩, ⟨(some 118), none, (.load (some 1) (.t 13))⟩, ⟨(some 119), none, (.call 1 (.f 21) [(.t 117), (.t 118)])⟩, ⟨(some 116), none, (.mov (.t 119))⟩, ⟨(some 120), none, (.ext (.t 116) 0)⟩, ⟨(some 121), none, (.ext (.t 116) 1)⟩, ⟨(some 28), none, (.alloc [.nsl])⟩, ⟨none, none, (.store 1 (.t 28) (.t 120))⟩, ⟨(some 29), none, (.mov (.t 121))⟩]) (.seq (.reg .false (some [7, 10, 16, 20, 22, 24, 28, 30]) [⟨(some 123), none, (.load (some 1) (.t 7))⟩, ⟨(some 124), none, (.load (some 1) (.t 26))⟩, ⟨(some 125), none, (.call 1 (.f 21) [(.t 123), (.t 124)])⟩, ⟨(some 122), none, (.mov (.t 125))⟩, ⟨(some 126), none, (.ext (.t 122) 0)⟩, ⟨(some 127), none, (.ext (.t 122) 1)⟩, ⟨(some 30), none, (.alloc [.nsl])⟩, ⟨none, none, (.store 1 (.t 30) (.t 126))⟩, ⟨(some 31), none, (.mov (.t 127))⟩]) (.seq (.reg .false (some [7, 10, 16, 20, 22, 24, 28, 30, 32]) [⟨(some 129), none, (.load (some 1) (.t 7))⟩, ⟨(some 130), none, (.load (some 1) (.t 10))⟩, ⟨(some 131), none, (.call 1 (.f 20) [(.t 129), (.t 130)])⟩, ⟨(some 128), none, (.mov (.t 131))⟩, ⟨(some 132), none, (.ext (.t 128) 0)⟩, ⟨(some 133), none, (.ext (.t 128) 1)⟩, ⟨(some 32), none, (.alloc [.nsl])⟩, ⟨none, none, (.store 1 (.t 32) (.t 132))⟩, ⟨(some 33), none, (.mov (.t 133))⟩]) (.seq (.reg .false (some [7, 10, 16, 20, 22, 24, 28, 30, 32, 34]) [⟨(some 135), none, (.load (some 1) (.t 32))⟩, ⟨(some 136), none, (.load (some 1) (.t 24))⟩, ⟨(some 137), none, (.call 1 (.f 19) [(.t 135), (.t 136)])⟩, ⟨(some 134), none, (.mov (.t 137))⟩, ⟨(some 138), none, (.ext (.t 134) 0)⟩, ⟨(some 139), none, (.ext (.t 134) 1)⟩, ⟨(some 34), none, (.alloc [.nsl])⟩, ⟨none, none, (.store 1 (.t 34) (.t 138))⟩, ⟨(some 35), none, (.mov (.t 139))⟩]) (.seq (.reg .false (some [6]) [⟨(some 140), none, (.load (some 1) (.t 20))⟩, ⟨(some 141), none, (.load (some 1) (.t 22))⟩, ⟨(some 142), none, (.call 1 (.f 22) [(.t 140), (.t 141)])⟩, ⟨(some 143), none, (.mov (.t 142))⟩, ⟨(some 144), (some (143, .true)), (.load (some 1) (.t 28))⟩, ⟨(some 145), (some (143, .true)), (.load (some 1) (.t 30))⟩, ⟨(some 146), (some (143, .true)), (.call 1 (.f 22) [(.t 144), (.t 145)])⟩, ⟨(some 147), none, (.pick (.t 143) (.t 146) (.c (.bool .false)))⟩, ⟨(some 148), none, (.mov (.t 147))⟩, ⟨(some 149), (some (148, .true)), (.load (some 1) (.t 32))⟩, ⟨(some 150), (some (148, .true)), (.load (some 1) (.t 10))⟩, ⟨(some 151), (some (148, .true)), (.call 1 (.f 23) [(.t 149), (.t 150)])⟩, ⟨(some 152), (some (148, .true)), (.un .not (.t 151))⟩, ⟨(some 153), none, (.pick (.t 148) (.t 152) (.c (.bool .false)))⟩, ⟨(some 154), none, (.mov (.t 153))⟩, ⟨(some 155), (some (154, .true)), (.load (some 1) (.t 34))⟩, ⟨(some 156), (some (154, .true)), (.load (some 1) (.t 7))⟩, ⟨(some 157), (some (154, .true)), (.call 1 (.f 22) [(.t 155), (.t 156)])⟩, ⟨(some 158), none, (.pick (.t 154) (.t 157) (.c (.bool .false)))⟩, ⟨(some 159), none, (.mov (.t 158))⟩, ⟨(some 160), (some (159, .true)), (.load (some 1) (.t 16))⟩, ⟨(some 161), (some (159, .true)), (.load (some 1) (.t 7))⟩, ⟨(some 162), (some (159, .true)), (.call 1 (.f 24) [(.t 160), (.t 161)])⟩, ⟨(some 163), none, (.pick (.t 159) (.t 162) (.c (.bool .false)))⟩, ⟨(some 164), none, (.mov (.t 163))⟩, ⟨(some 165), (some (164, .true)), (.load (some 1) (.t 7))⟩, ⟨(some 166), (some (164, .true)), (.load (some 1) (.t 24))⟩, ⟨(some 167), (some (164, .true)), (.call 1 (.f 24) [(.t 165), (.t 166)])⟩, ⟨(some 168), none, (.pick (.t 164) (.t 167) (.c (.bool .false)))⟩, ⟨(some 6), none, (.mov (.t 168))⟩]) .ret))))))))))) [(7, .ptr p1 0), (10, .ptr p2 0), (13, .ptr p3 0), (79, .bool false)] hS3 (fin F8.results Q) := by
  have hfn3 : Fr hS3 hS3 := Fr.refl hwf3
  refine WP_seq ?_
  refine WP_reg ?_
  have hgp4 := hK3'.2 (p1, x1) (by simp)
  have hgq4 := hK3'.2 (p2, x2) (by simp)
  simp only at hgp4 hgq4
  repeat (first | (refine WPO_op rfl ?_; simp [loadV_ptr hgp4, loadV_ptr hgq4, loadN]; done) | (refine WPO_op rfl ?_; simp [loadV_ptr hgp4, loadV_ptr hgq4, loadN]))
  refine WPO_call (g := 19) (a := []) (b := []) (args := [.agg [x1], .agg [x2]]) rfl rfl ?_
  simp
  refine ev19 hf19 hf38 hf45 hf54 hf55 hf39 hf25 (show SlG _ x1 s1 from hK3'.1 (x1, s1) (by simp)) (show SlG _ x2 s2 from hK3'.1 (x2, s2) (by simp)) x1c1 x2c1 hNo1 hNo2 (Nat.le_trans hB1 (by decide)) (Nat.le_trans hB2 (by decide)) hfn3.wf (Nat.le_refl _) fun x4 h4' hsx4 hox4 hfx4' => ?_
  obtain ⟨htx4, hfR4⟩ := aft (k := .i64) (n := 0) hfn3.wf hsx4 hox4 hfx4' (.inl rfl)
  clear hsx4 hfx4'
  generalize (if ground (V.tup [V.agg [x4], V.int .i64 0]) = true then hS3 else h4') = hR4 at *
  have hB4 := bnd (combL_len (fun x y => x || y) s1 s2) hB1 hB2 (show _ ≤ 120 by decide)
  have hNo4 := (combL_spec (f := (fun x y => x || y)) rfl s1 s2).1
  generalize hE4 : combL (fun x y => x || y) s1 s2 = s4 at *
  have hK4 := (hK3'.fr hfR4).addL htx4
  have hg5_4 : (hR4.new (.cells 0 [.nsl])).get hR4.nx = some (.cells 0 [.nsl]) := Hp.get_new_same
  have hfn4 : Fr hR4 ((hR4.new (.cells 0 [.nsl])).set hR4.nx (.cells 0 [x4])) := ((Fr.refl hfR4.wf).new _).set hfR4.wf (Nat.le_refl _) hg5_4 _
  have hg6_4 : ((hR4.new (.cells 0 [.nsl])).set hR4.nx (.cells 0 [x4])).get hR4.nx = some (.cells 0 [x4]) := Hp.get_set_same hg5_4
  obtain ⟨x4c1, x4c2⟩ := hox4.cells
  refine WPO_op rfl ?_
  simp
  refine WPO_op rfl ?_
  simp [op1]
  refine WPO_op rfl ?_
  simp [op1]
  refine WPO_op rfl ?_
  simp
  refine WPO_op rfl ?_
  refine OB_store (b := hR4.nx) (o := 0) (v := V.agg [x4]) (l' := [x4]) rfl rfl (Nat.le_trans hRo3 hfR4.nx) rfl (by simp [V.cells, x4c2]) hg5_4 rfl ?_
  have hRoR4 : ro ≤ hR4.nx := Nat.le_trans hRo3 hfR4.nx
  generalize hp4 : hR4.nx = p4 at *
  generalize ((hR4.new (.cells 0 [.nsl])).set p4 (.cells 0 [x4])) = hS4 at *
  simp
  repeat (first | (refine WPO_op rfl ?_; simp; done) | (refine WPO_op rfl ?_; simp) | (refine WPO_nil ?_; simp))
  have hK4' := (hK4.fr hfn4).addP hg6_4
  have hRo4 : ro ≤ hS4.nx := by
    have hx := hfn4.nx
    rw [hp4] at hx
    exact Nat.le_trans hRoR4 hx
  refine WP_seq ?_
  refine WP_reg ?_
  have hgp5 := hK4'.2 (p2, x2) (by simp)
  have hgq5 := hK4'.2 (p3, x3) (by simp)
  simp only at hgp5 hgq5
  repeat (first | (refine WPO_op rfl ?_; simp [loadV_ptr hgp5, loadV_ptr hgq5, loadN]; done) | (refine WPO_op rfl ?_; simp [loadV_ptr hgp5, loadV_ptr hgq5, loadN]))
  refine WPO_call (g := 19) (a := []) (b := []) (args := [.agg [x2], .agg [x3]]) rfl rfl ?_
  simp
  refine ev19 hf19 hf38 hf45 hf54 hf55 hf39 hf25 (show SlG _ x2 s2 from hK4'.1 (x2, s2) (by simp)) (show SlG _ x3 s3 from hK4'.1 (x3, s3) (by simp)) x2c1 x3c1 hNo2 hNo3 (Nat.le_trans hB2 (by decide)) (Nat.le_trans hB3 (by decide)) hfn4.wf (Nat.le_refl _) fun x5 h5' hsx5 hox5 hfx5' => ?_
  obtain ⟨htx5, hfR5⟩ := aft (k := .i64) (n := 0) hfn4.wf hsx5 hox5 hfx5' (.inl rfl)
  clear hsx5 hfx5'
  generalize (if ground (V.tup [V.agg [x5], V.int .i64 0]) = true then hS4 else h5') = hR5 at *
  have hB5 := bnd (combL_len (fun x y => x || y) s2 s3) hB2 hB3 (show _ ≤ 120 by decide)
  have hNo5 := (combL_spec (f := (fun x y => x || y)) rfl s2 s3).1
  generalize hE5 : combL (fun x y => x || y) s2 s3 = s5 at *
  have hK5 := (hK4'.fr hfR5).addL htx5
  have hg5_5 : (hR5.new (.cells 0 [.nsl])).get hR5.nx = some (.cells 0 [.nsl]) := Hp.get_new_same
  have hfn5 : Fr hR5 ((hR5.new (.cells 0 [.nsl])).set hR5.nx (.cells 0 [x5])) := ((Fr.refl hfR5.wf).new _).set hfR5.wf (Nat.le_refl _) hg5_5 _
  have hg6_5 : ((hR5.new (.cells 0 [.nsl])).set hR5.nx (.cells 0 [x5])).get hR5.nx = some (.cells 0 [x5]) := Hp.get_set_same hg5_5
  obtain ⟨x5c1, x5c2⟩ := hox5.cells
  refine WPO_op rfl ?_
  simp
  refine WPO_op rfl ?_
  simp [op1]
  refine WPO_op rfl ?_
  simp [op1]
  refine WPO_op rfl ?_
  simp
  refine WPO_op rfl ?_
  refine OB_store (b := hR5.nx) (o := 0) (v := V.agg [x5]) (l' := [x5]) rfl rfl (Nat.le_trans hRo4 hfR5.nx) rfl (by simp [V.cells, x5c2]) hg5_5 rfl ?_
  have hRoR5 : ro ≤ hR5.nx := Nat.le_trans hRo4 hfR5.nx
  generalize hp5 : hR5.nx = p5 at *
  generalize ((hR5.new (.cells 0 [.nsl])).set p5 (.cells 0 [x5])) = hS5 at *
  simp
  repeat (first | (refine WPO_op rfl ?_; simp; done) | (refine WPO_op rfl ?_; simp) | (refine WPO_nil ?_; simp))
  have hK5' := (hK5.fr hfn5).addP hg6_5
  have hRo5 : ro ≤ hS5.nx := by
    have hx := hfn5.nx
    rw [hp5] at hx
    exact Nat.le_trans hRoR5 hx
  refine WP_seq ?_
  refine WP_reg ?_
  have hgp6 := hK5'.2 (p4, x4) (by simp)
  have hgq6 := hK5'.2 (p3, x3) (by simp)
  simp only at hgp6 hgq6
  repeat (first | (refine WPO_op rfl ?_; simp [loadV_ptr hgp6, loadV_ptr hgq6, loadN]; done) | (refine WPO_op rfl ?_; simp [loadV_ptr hgp6, loadV_ptr hgq6, loadN]))
  refine WPO_call (g := 19) (a := []) (b := []) (args := [.agg [x4], .agg [x3]]) rfl rfl ?_
  simp
  refine ev19 hf19 hf38 hf45 hf54 hf55 hf39 hf25 (show SlG _ x4 s4 from hK5'.1 (x4, s4) (by simp)) (show SlG _ x3 s3 from hK5'.1 (x3, s3) (by simp)) x4c1 x3c1 hNo4 hNo3 (Nat.le_trans hB4 (by decide)) (Nat.le_trans hB3 (by decide)) hfn5.wf (Nat.le_refl _) fun x6 h6' hsx6 hox6 hfx6' => ?_
  obtain ⟨htx6, hfR6⟩ := aft (k := .i64) (n := 0) hfn5.wf hsx6 hox6 hfx6' (.inl rfl)
  clear hsx6 hfx6'
  generalize (if ground (V.tup [V.agg [x6], V.int .i64 0]) = true then hS5 else h6') = hR6 at *
  have hB6 := bnd (combL_len (fun x y => x || y) s4 s3) hB4 hB3 (show _ ≤ 300 by decide)
  have hNo6 := (combL_spec (f := (fun x y => x || y)) rfl s4 s3).1
  generalize hE6 : combL (fun x y => x || y) s4 s3 = s6 at *
  have hK6 := (hK5'.fr hfR6).addL htx6
  have hg5_6 : (hR6.new (.cells 0 [.nsl])).get hR6.nx = some (.cells 0 [.nsl]) := Hp.get_new_same
  have hfn6 : Fr hR6 ((hR6.new (.cells 0 [.nsl])).set hR6.nx (.cells 0 [x6])) := ((Fr.refl hfR6.wf).new _).set hfR6.wf (Nat.le_refl _) hg5_6 _
  have hg6_6 : ((hR6.new (.cells 0 [.nsl])).set hR6.nx (.cells 0 [x6])).get hR6.nx = some (.cells 0 [x6]) := Hp.get_set_same hg5_6
  obtain ⟨x6c1, x6c2⟩ := hox6.cells
  refine WPO_op rfl ?_
  simp
  refine WPO_op rfl ?_
  simp [op1]
  refine WPO_op rfl ?_
  simp [op1]
  refine WPO_op rfl ?_
  simp
  refine WPO_op rfl ?_
  refine OB_store (b := hR6.nx) (o := 0) (v := V.agg [x6]) (l' := [x6]) rfl rfl (Nat.le_trans hRo5 hfR6.nx) rfl (by simp [V.cells, x6c2]) hg5_6 rfl ?_
  have hRoR6 : ro ≤ hR6.nx := Nat.le_trans hRo5 hfR6.nx
  generalize hp6 : hR6.nx = p6 at *
  generalize ((hR6.new (.cells 0 [.nsl])).set p6 (.cells 0 [x6])) = hS6 at *
  simp
  repeat (first | (refine WPO_op rfl ?_; simp; done) | (refine WPO_op rfl ?_; simp) | (refine WPO_nil ?_; simp))
  have hK6' := (hK6.fr hfn6).addP hg6_6
  have hRo6 : ro ≤ hS6.nx := by
    have hx := hfn6.nx
    rw [hp6] at hx
    exact Nat.le_trans hRoR6 hx
  refine WP_seq ?_
  refine WP_reg ?_
  have hgp7 := hK6'.2 (p1, x1) (by simp)
  have hgq7 := hK6'.2 (p5, x5) (by simp)
  simp only at hgp7 hgq7
  repeat (first | (refine WPO_op rfl ?_; simp [loadV_ptr hgp7, loadV_ptr hgq7, loadN]; done) | (refine WPO_op rfl ?_; simp [loadV_ptr hgp7, loadV_ptr hgq7, loadN]))
  refine WPO_call (g := 19) (a := []) (b := []) (args := [.agg [x1], .agg [x5]]) rfl rfl ?_
  simp
  refine ev19 hf19 hf38 hf45 hf54 hf55 hf39 hf25 (show SlG _ x1 s1 from hK6'.1 (x1, s1) (by simp)) (show SlG _ x5 s5 from hK6'.1 (x5, s5) (by simp)) x1c1 x5c1 hNo1 hNo5 (Nat.le_trans hB1 (by decide)) (Nat.le_trans hB5 (by decide)) hfn6.wf (Nat.le_refl _) fun x7 h7' hsx7 hox7 hfx7' => ?_
  obtain ⟨htx7, hfR7⟩ := aft (k := .i64) (n := 0) hfn6.wf hsx7 hox7 hfx7' (.inl rfl)
  clear hsx7 hfx7'
  generalize (if ground (V.tup [V.agg [x7], V.int .i64 0]) = true then hS6 else h7') = hR7 at *
  have hB7 := bnd (combL_len (fun x y => x || y) s1 s5) hB1 hB5 (show _ ≤ 300 by decide)
  have hNo7 := (combL_spec (f := (fun x y => x || y)) rfl s1 s5).1
  generalize hE7 : combL (fun x y => x || y) s1 s5 = s7 at *
  have hK7 := (hK6'.fr hfR7).addL htx7
  have hg5_7 : (hR7.new (.cells 0 [.nsl])).get hR7.nx = some (.cells 0 [.nsl]) := Hp.get_new_same
  have hfn7 : Fr hR7 ((hR7.new (.cells 0 [.nsl])).set hR7.nx (.cells 0 [x7])) := ((Fr.refl hfR7.wf).new _).set hfR7.wf (Nat.le_refl _) hg5_7 _
  have hg6_7 : ((hR7.new (.cells 0 [.nsl])).set hR7.nx (.cells 0 [x7])).get hR7.nx = some (.cells 0 [x7]) := Hp.get_set_same hg5_7
  obtain ⟨x7c1, x7c2⟩ := hox7.cells
  refine WPO_op rfl ?_
  simp
  refine WPO_op rfl ?_
  simp [op1]
  refine WPO_op rfl ?_
  simp [op1]
  refine WPO_op rfl ?_
  simp
  refine WPO_op rfl ?_
  refine OB_store (b := hR7.nx) (o := 0) (v := V.agg [x7]) (l' := [x7]) rfl rfl (Nat.le_trans hRo6 hfR7.nx) rfl (by simp [V.cells, x7c2]) hg5_7 rfl ?_
  have hRoR7 : ro ≤ hR7.nx := Nat.le_trans hRo6 hfR7.nx
  generalize hp7 : hR7.nx = p7 at *
  generalize ((hR7.new (.cells 0 [.nsl])).set p7 (.cells 0 [x7])) = hS7 at *
  simp
  repeat (first | (refine WPO_op rfl ?_; simp; done) | (refine WPO_op rfl ?_; simp) | (refine WPO_nil ?_; simp))
  have hK7' := (hK7.fr hfn7).addP hg6_7
  have hRo7 : ro ≤ hS7.nx := by
    have hx := hfn7.nx
    rw [hp7] at hx
    exact Nat.le_trans hRoR7 hx
  refine WP_seq ?_
  refine WP_reg ?_
  have hgp8 := hK7'.2 (p1, x1) (by simp)
  have hgq8 := hK7'.2 (p2, x2) (by simp)
  simp only at hgp8 hgq8
  repeat (first | (refine WPO_op rfl ?_; simp [loadV_ptr hgp8, loadV_ptr hgq8, loadN]; done) | (refine WPO_op rfl ?_; simp [loadV_ptr hgp8, loadV_ptr hgq8, loadN]))
  refine WPO_call (g := 21) (a := []) (b := []) (args := [.agg [x1], .agg [x2]]) rfl rfl ?_
  simp
  refine ev21 hf21 hf38 hf45 hf54 hf55 hf41 hf25 (show SlG _ x1 s1 from hK7'.1 (x1, s1) (by simp)) (show SlG _ x2 s2 from hK7'.1 (x2, s2) (by simp)) x1c1 x2c1 hNo1 hNo2 (Nat.le_trans hB1 (by decide)) (Nat.le_trans hB2 (by decide)) hfn7.wf (Nat.le_refl _) fun x8 h8' hsx8 hox8 hfx8' => ?_
  obtain ⟨htx8, hfR8⟩ := aft (k := .i64) (n := 0) hfn7.wf hsx8 hox8 hfx8' (.inl rfl)
  clear hsx8 hfx8'
  generalize (if ground (V.tup [V.agg [x8], V.int .i64 0]) = true then hS7 else h8') = hR8 at *
  have hB8 := bnd (combL_len (fun x y => x && y) s1 s2) hB1 hB2 (show _ ≤ 120 by decide)
  have hNo8 := (combL_spec (f := (fun x y => x && y)) rfl s1 s2).1
  generalize hE8 : combL (fun x y => x && y) s1 s2 = s8 at *
  have hK8 := (hK7'.fr hfR8).addL htx8
  have hg5_8 : (hR8.new (.cells 0 [.nsl])).get hR8.nx = some (.cells 0 [.nsl]) := Hp.get_new_same
  have hfn8 : Fr hR8 ((hR8.new (.cells 0 [.nsl])).set hR8.nx (.cells 0 [x8])) := ((Fr.refl hfR8.wf).new _).set hfR8.wf (Nat.le_refl _) hg5_8 _
  have hg6_8 : ((hR8.new (.cells 0 [.nsl])).set hR8.nx (.cells 0 [x8])).get hR8.nx = some (.cells 0 [x8]) := Hp.get_set_same hg5_8
  obtain ⟨x8c1, x8c2⟩ := hox8.cells
  refine WPO_op rfl ?_
  simp
  refine WPO_op rfl ?_
  simp [op1]
  refine WPO_op rfl ?_
  simp [op1]
  refine WPO_op rfl ?_
  simp
  refine WPO_op rfl ?_
  refine OB_store (b := hR8.nx) (o := 0) (v := V.agg [x8]) (l' := [x8]) rfl rfl (Nat.le_trans hRo7 hfR8.nx) rfl (by simp [V.cells, x8c2]) hg5_8 rfl ?_
  have hRoR8 : ro ≤ hR8.nx := Nat.le_trans hRo7 hfR8.nx
  generalize hp8 : hR8.nx = p8 at *
  generalize ((hR8.new (.cells 0 [.nsl])).set p8 (.cells 0 [x8])) = hS8 at *
  simp
  repeat (first | (refine WPO_op rfl ?_; simp; done) | (refine WPO_op rfl ?_; simp) | (refine WPO_nil ?_; simp))
  have hK8' := (hK8.fr hfn8).addP hg6_8
  have hRo8 : ro ≤ hS8.nx := by
    have hx := hfn8.nx
    rw [hp8] at hx
    exact Nat.le_trans hRoR8 hx
  exact ev8c hf13 hf32 hf26 hf34 hf52 hf43 hf44 hf45 hf25 hf33 hf37 hf12 hf28 hf29 hf30 hf31 hf38 hf39 hf40 hf41 hf19 hf20 hf21 hf22 hf42 hf23 hf24 hf46 hf54 hf55 hf11 x1c1 hNo1 hB1 x2c1 hNo2 hB2 x3c1 hNo3 hB3 x4c1 hNo4 hB4 x5c1 hNo5 hB5 x6c1 hNo6 hB6 x7c1 hNo7 hB7 x8c1 hNo8 hB8 hE4 hE5 hE6 hE7 hE8 hK8' hfn8.wf hRo8 hq

set_option maxHeartbeats 8000000 in
theorem ev8 {v1 v2 v3 : V} {l1 l2 l3 : List Rg} (hf8 : fs 8 = some (.code F8)) (hf13 : fs 13 = some (.code F13)) (hf32 : fs 32 = some (.code F32)) (hf26 : fs 26 = some (.code F26)) (hf34 : fs 34 = some (.code F34)) (hf52 : fs 52 = some (.code F52)) (hf43 : fs 43 = some (.code F43)) (hf44 : fs 44 = some (.code F44)) (hf45 : fs 45 = some (.code F45)) (hf25 : fs 25 = some (.code F25)) (hf33 : fs 33 = some (.code F33)) (hf37 : fs 37 = some (.code F37)) (hf12 : fs 12 = some (.code F12)) (hf28 : fs 28 = some (.code F28)) (hf29 : fs 29 = some (.code F29)) (hf30 : fs 30 = some (.code F30)) (hf31 : fs 31 = some (.code F31)) (hf38 : fs 38 = some (.code F38)) (hf39 : fs 39 = some (.code F39)) (hf40 : fs 40 = some (.code F40)) (hf41 : fs 41 = some (.code F41)) (hf19 : fs 19 = some (.code F19)) (hf20 : fs 20 = some (.code F20)) (hf21 : fs 21 = some (.code F21)) (hf22 : fs 22 = some (.code F22)) (hf42 : fs 42 = some (.code F42)) (hf23 : fs 23 = some (.code F23)) (hf24 : fs 24 = some (.code F24)) (hf46 : fs 46 = some (.orc (orcSort 47))) (hf54 : fs 54 = some (.orc orcSortI)) (hf55 : fs 55 = some (.orc orcCmp)) (hf11 : fs 11 = some (.orc orcKnown))
    (hv1 : SlG h v1 l1) (hsh1 : Shape v1) (hv2 : SlG h v2 l2) (hsh2 : Shape v2) (hv3 : SlG h v3 l3) (hsh3 : Shape v3) (hw : ∀ b x, h.get b = some x → b < h.nx) (hro : ro ≤ h.nx) {Q : V → Hp → Prop} (hq : ∀ h', Q (.bool true) h') : Ev fs ro 8 [v1, v2, v3] h Q := by
  have hlen1 := hv1.lenV
  have hlen2 := hv2.lenV
  have hlen3 := hv3.lenV
  refine Ev_fn hf8 rfl rfl rfl rfl ?_
  refine WP_seq ?_
  refine WP_reg ?_
  repeat (first | (refine WPO_op rfl ?_; simp) | (refine WPO_nil ?_; simp))
  have hRo0 : ro ≤ h.nx := hro
  have hfA0 : Fr h h := Fr.refl hw
  refine WP_seq ?_
  refine WP_reg ?_
  refine WPO_op rfl ?_
  simp
  refine WPO_op rfl ?_
  simp
  refine WPO_op rfl ?_
  simp [hlen1]
  refine WPO_op rfl ?_
  simp [mins, fold2, min2]
  refine WPO_op rfl ?_
  refine OB_pre2 (k := min l1.length 30) (show SlG h v1 l1 from Sl.fr hfA0 hv1) hsh1 (by omega) rfl (by
    simp
    split <;> omega) fun u1 huv1 hsu1 => ?_
  have ht1 : l1.take (min l1.length 30) = l1.take 30 := by
    rw [Nat.min_comm]
    rcases Nat.le_total 30 l1.length with h3 | h3
    · rw [Nat.min_eq_left h3]
    · rw [Nat.min_eq_right h3, List.take_length, List.take_of_length_le h3]
  rw [ht1] at huv1
  have hu1 := huv1 h (Sl.fr hfA0 hv1)
  simp
  refine WPO_call (g := 13) (a := []) (b := []) (args := [u1]) rfl rfl ?_
  simp
  refine ev13 hf13 hf32 hf26 hf34 hf52 hf43 hf44 hf45 hf46 hf25 hf33 hf37 hf12 hf28 hf29 hf30 hf31 hu1 hsu1 hw (Nat.le_refl _) fun x1 y1 h1' hsx1 hsy1 hox1 hoy1 hfx1' => ?_
  obtain ⟨htx1, hty1, hfR1⟩ := aft3 (b := true) hw hsx1 hsy1 hox1 hoy1 hfx1'
  have hL1 := refL_len ((l1.take 30).take 60)
  have hM1 : ((l1.take 30).take 60).length ≤ 30 := by simp; omega
  have hNo1 := refL_norm ((l1.take 30).take 60)
  clear hsx1 hsy1 hfx1' huv1
  generalize (if ground (V.tup [V.agg [x1], y1, V.bool true]) = true then h else h1') = hR1 at *
  generalize refL ((l1.take 30).take 60) = s1 at *
  have hK1 : SK hR1 [(x1, s1)] [] := ⟨fun p hp => by simp at hp; rcases hp with rfl | rfl <;> assumption, fun q hq => by cases hq⟩
  have hg5_1 : (hR1.new (.cells 0 [.nsl])).get hR1.nx = some (.cells 0 [.nsl]) := Hp.get_new_same
  have hfn1 : Fr hR1 ((hR1.new (.cells 0 [.nsl])).set hR1.nx (.cells 0 [x1])) := ((Fr.refl hfR1.wf).new _).set hfR1.wf (Nat.le_refl _) hg5_1 _
  have hg6_1 : ((hR1.new (.cells 0 [.nsl])).set hR1.nx (.cells 0 [x1])).get hR1.nx = some (.cells 0 [x1]) := Hp.get_set_same hg5_1
  obtain ⟨x1c1, x1c2⟩ := hox1.cells
  refine WPO_op rfl ?_
  simp
  refine WPO_op rfl ?_
  simp [op1]
  refine WPO_op rfl ?_
  simp [op1]
  refine WPO_op rfl ?_
  simp [op1]
  refine WPO_op rfl ?_
  simp
  refine WPO_op rfl ?_
  refine OB_store (b := hR1.nx) (o := 0) (v := V.agg [x1]) (l' := [x1]) rfl rfl (Nat.le_trans hRo0 hfR1.nx) rfl (by simp [V.cells, x1c2]) hg5_1 rfl ?_
  have hRoR1 : ro ≤ hR1.nx := Nat.le_trans hRo0 hfR1.nx
  generalize hp1 : hR1.nx = p1 at *
  generalize ((hR1.new (.cells 0 [.nsl])).set p1 (.cells 0 [x1])) = hS1 at *
  simp
  repeat (first | (refine WPO_op rfl ?_; simp; done) | (refine WPO_op rfl ?_; simp) | (refine WPO_nil ?_; simp))
  have hK1' := (hK1.fr hfn1).addP hg6_1
  have hRo1 : ro ≤ hS1.nx := by
    have hx := hfn1.nx
    rw [hp1] at hx
    exact Nat.le_trans hRoR1 hx
  have hfA1 : Fr h hS1 := hfA0.trans (hfR1.trans hfn1)
  have hB1 : s1.length ≤ 30 := by omega
  clear hL1 hM1
  refine WP_seq ?_
  refine WP_reg ?_
  refine WPO_op rfl ?_
  simp
  refine WPO_op rfl ?_
  simp
  refine WPO_op rfl ?_
  simp [hlen2]
  refine WPO_op rfl ?_
  simp [mins, fold2, min2]
  refine WPO_op rfl ?_
  refine OB_pre2 (k := min l2.length 30) (show SlG hS1 v2 l2 from Sl.fr hfA1 hv2) hsh2 (by omega) rfl (by
    simp
    split <;> omega) fun u2 huv2 hsu2 => ?_
  have ht2 : l2.take (min l2.length 30) = l2.take 30 := by
    rw [Nat.min_comm]
    rcases Nat.le_total 30 l2.length with h3 | h3
    · rw [Nat.min_eq_left h3]
    · rw [Nat.min_eq_right h3, List.take_length, List.take_of_length_le h3]
  rw [ht2] at huv2
  have hu2 := huv2 hS1 (Sl.fr hfA1 hv2)
  simp
  refine WPO_call (g := 13) (a := []) (b := []) (args := [u2]) rfl rfl ?_
  simp
  refine ev13 hf13 hf32 hf26 hf34 hf52 hf43 hf44 hf45 hf46 hf25 hf33 hf37 hf12 hf28 hf29 hf30 hf31 hu2 hsu2 hfn1.wf (Nat.le_refl _) fun x2 y2 h2' hsx2 hsy2 hox2 hoy2 hfx2' => ?_
  obtain ⟨htx2, hty2, hfR2⟩ := aft3 (b := true) hfn1.wf hsx2 hsy2 hox2 hoy2 hfx2'
  have hL2 := refL_len ((l2.take 30).take 60)
  have hM2 : ((l2.take 30).take 60).length ≤ 30 := by simp; omega
  have hNo2 := refL_norm ((l2.take 30).take 60)
  clear hsx2 hsy2 hfx2' huv2
  generalize (if ground (V.tup [V.agg [x2], y2, V.bool true]) = true then hS1 else h2') = hR2 at *
  generalize refL ((l2.take 30).take 60) = s2 at *
  have hK2 := (hK1'.fr hfR2).addL htx2
  have hg5_2 : (hR2.new (.cells 0 [.nsl])).get hR2.nx = some (.cells 0 [.nsl]) := Hp.get_new_same
  have hfn2 : Fr hR2 ((hR2.new (.cells 0 [.nsl])).set hR2.nx (.cells 0 [x2])) := ((Fr.refl hfR2.wf).new _).set hfR2.wf (Nat.le_refl _) hg5_2 _
  have hg6_2 : ((hR2.new (.cells 0 [.nsl])).set hR2.nx (.cells 0 [x2])).get hR2.nx = some (.cells 0 [x2]) := Hp.get_set_same hg5_2
  obtain ⟨x2c1, x2c2⟩ := hox2.cells
  refine WPO_op rfl ?_
  simp
  refine WPO_op rfl ?_
  simp [op1]
  refine WPO_op rfl ?_
  simp [op1]
  refine WPO_op rfl ?_
  simp [op1]
  refine WPO_op rfl ?_
  simp
  refine WPO_op rfl ?_
  refine OB_store (b := hR2.nx) (o := 0) (v := V.agg [x2]) (l' := [x2]) rfl rfl (Nat.le_trans hRo1 hfR2.nx) rfl (by simp [V.cells, x2c2]) hg5_2 rfl ?_
  have hRoR2 : ro ≤ hR2.nx := Nat.le_trans hRo1 hfR2.nx
  generalize hp2 : hR2.nx = p2 at *
  generalize ((hR2.new (.cells 0 [.nsl])).set p2 (.cells 0 [x2])) = hS2 at *
  simp
  repeat (first | (refine WPO_op rfl ?_; simp; done) | (refine WPO_op rfl ?_; simp) | (refine WPO_nil ?_; simp))
  have hK2' := (hK2.fr hfn2).addP hg6_2
  have hRo2 : ro ≤ hS2.nx := by
    have hx := hfn2.nx
    rw [hp2] at hx
    exact Nat.le_trans hRoR2 hx
  have hfA2 : Fr h hS2 := hfA1.trans (hfR2.trans hfn2)
  have hB2 : s2.length ≤ 30 := by omega
  clear hL2 hM2
  refine WP_seq ?_
  refine WP_reg ?_
  refine WPO_op rfl ?_
  simp
  refine WPO_op rfl ?_
  simp
  refine WPO_op rfl ?_
  simp [hlen3]
  refine WPO_op rfl ?_
  simp [mins, fold2, min2]
  refine WPO_op rfl ?_
  refine OB_pre2 (k := min l3.length 30) (show SlG hS2 v3 l3 from Sl.fr hfA2 hv3) hsh3 (by omega) rfl (by
    simp
    split <;> omega) fun u3 huv3 hsu3 => ?_
  have ht3 : l3.take (min l3.length 30) = l3.take 30 := by
    rw [Nat.min_comm]
    rcases Nat.le_total 30 l3.length with h3 | h3
    · rw [Nat.min_eq_left h3]
    · rw [Nat.min_eq_right h3, List.take_length, List.take_of_length_le h3]
  rw [ht3] at huv3
  have hu3 := huv3 hS2 (Sl.fr hfA2 hv3)
  simp
  refine WPO_call (g := 13) (a := []) (b := []) (args := [u3]) rfl rfl ?_
  simp
  refine ev13 hf13 hf32 hf26 hf34 hf52 hf43 hf44 hf45 hf46 hf25 hf33 hf37 hf12 hf28 hf29 hf30 hf31 hu3 hsu3 hfn2.wf (Nat.le_refl _) fun x3 y3 h3' hsx3 hsy3 hox3 hoy3 hfx3' => ?_
  obtain ⟨htx3, hty3, hfR3⟩ := aft3 (b := true) hfn2.wf hsx3 hsy3 hox3 hoy3 hfx3'
  have hL3 := refL_len ((l3.take 30).take 60)
  have hM3 : ((l3.take 30).take 60).length ≤ 30 := by simp; omega
  have hNo3 := refL_norm ((l3.take 30).take 60)
  clear hsx3 hsy3 hfx3' huv3
  generalize (if ground (V.tup [V.agg [x3], y3, V.bool true]) = true then hS2 else h3') = hR3 at *
  generalize refL ((l3.take 30).take 60) = s3 at *
  have hK3 := (hK2'.fr hfR3).addL htx3
  have hg5_3 : (hR3.new (.cells 0 [.nsl])).get hR3.nx = some (.cells 0 [.nsl]) := Hp.get_new_same
  have hfn3 : Fr hR3 ((hR3.new (.cells 0 [.nsl])).set hR3.nx (.cells 0 [x3])) := ((Fr.refl hfR3.wf).new _).set hfR3.wf (Nat.le_refl _) hg5_3 _
  have hg6_3 : ((hR3.new (.cells 0 [.nsl])).set hR3.nx (.cells 0 [x3])).get hR3.nx = some (.cells 0 [x3]) := Hp.get_set_same hg5_3
  obtain ⟨x3c1, x3c2⟩ := hox3.cells
  refine WPO_op rfl ?_
  simp
  refine WPO_op rfl ?_
  simp [op1]
  refine WPO_op rfl ?_
  simp [op1]
  refine WPO_op rfl ?_
  simp [op1]
  refine WPO_op rfl ?_
  simp
  refine WPO_op rfl ?_
  refine OB_store (b := hR3.nx) (o := 0) (v := V.agg [x3]) (l' := [x3]) rfl rfl (Nat.le_trans hRo2 hfR3.nx) rfl (by simp [V.cells, x3c2]) hg5_3 rfl ?_
  have hRoR3 : ro ≤ hR3.nx := Nat.le_trans hRo2 hfR3.nx
  generalize hp3 : hR3.nx = p3 at *
  generalize ((hR3.new (.cells 0 [.nsl])).set p3 (.cells 0 [x3])) = hS3 at *
  simp
  repeat (first | (refine WPO_op rfl ?_; simp; done) | (refine WPO_op rfl ?_; simp) | (refine WPO_nil ?_; simp))
  have hK3' := (hK3.fr hfn3).addP hg6_3
  have hRo3 : ro ≤ hS3.nx := by
    have hx := hfn3.nx
    rw [hp3] at hx
    exact Nat.le_trans hRoR3 hx
  have hfA3 : Fr h hS3 := hfA2.trans (hfR3.trans hfn3)
  have hB3 : s3.length ≤ 30 := by omega
  clear hL3 hM3
  refine WP_seq ?_
  refine WP_seq ?_
  refine WP_reg ?_
  refine WPO_call (g := 11) (a := []) (b := []) (args := []) rfl rfl ?_
  refine Ev_orc hf11 (r := .bool true) (h' := hS3) rfl ?_
  simp
  repeat (first | (refine WPO_op rfl ?_; simp; done) | (refine WPO_op rfl ?_; simp) | (refine WPO_gop rfl ?_; simp) | (refine WPO_nil ?_; simp))
  refine WP_cond rfl ⟨fun hd => (by cases hd), fun _ => ?_⟩
  simp only [WP_skip, nrmOr_nrm]
  exact ev8b hf13 hf32 hf26 hf34 hf52 hf43 hf44 hf45 hf25 hf33 hf37 hf12 hf28 hf29 hf30 hf31 hf38 hf39 hf40 hf41 hf19 hf20 hf21 hf22 hf42 hf23 hf24 hf46 hf54 hf55 hf11 x1c1 hNo1 hB1 x2c1 hNo2 hB2 x3c1 hNo3 hB3  hK3' hfn3.wf hRo3 hq
end Go.Am.S7
