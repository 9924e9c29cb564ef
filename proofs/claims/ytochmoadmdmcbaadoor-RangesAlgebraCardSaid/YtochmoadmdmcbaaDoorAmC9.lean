/- The law RangesCombine, stepped through stage by stage. -/
import Derived.Test.YtochmoadmdmcbaaDoorAmC8b
namespace Go.Am.S7
open Go
set_option maxRecDepth 100000
set_option linter.unusedSimpArgs false
set_option linter.unusedVariables false
variable {fs : Nat → Option D} {ro : Nat} {h : Hp} {e : Env}

set_option maxHeartbeats 8000000 in
theorem ev7 {v w : V} {l1 l2 : List Rg} (hf7 : fs 7 = some (.code F7)) (hf13 : fs 13 = some (.code F13)) (hf32 : fs 32 = some (.code F32)) (hf26 : fs 26 = some (.code F26)) (hf34 : fs 34 = some (.code F34)) (hf52 : fs 52 = some (.code F52)) (hf43 : fs 43 = some (.code F43)) (hf44 : fs 44 = some (.code F44)) (hf45 : fs 45 = some (.code F45)) (hf25 : fs 25 = some (.code F25)) (hf33 : fs 33 = some (.code F33)) (hf37 : fs 37 = some (.code F37)) (hf12 : fs 12 = some (.code F12)) (hf28 : fs 28 = some (.code F28)) (hf29 : fs 29 = some (.code F29)) (hf30 : fs 30 = some (.code F30)) (hf31 : fs 31 = some (.code F31)) (hf15 : fs 15 = some (.code F15)) (hf18 : fs 18 = some (.code F18)) (hf36 : fs 36 = some (.code F36)) (hf53 : fs 53 = some (.code F53)) (hf38 : fs 38 = some (.code F38)) (hf39 : fs 39 = some (.code F39)) (hf40 : fs 40 = some (.code F40)) (hf41 : fs 41 = some (.code F41)) (hf19 : fs 19 = some (.code F19)) (hf20 : fs 20 = some (.code F20)) (hf21 : fs 21 = some (.code F21)) (hf22 : fs 22 = some (.code F22)) (hf42 : fs 42 = some (.code F42)) (hf23 : fs 23 = some (.code F23)) (hf24 : fs 24 = some (.code F24)) (hf46 : fs 46 = some (.orc (orcSort 47))) (hf54 : fs 54 = some (.orc orcSortI)) (hf55 : fs 55 = some (.orc orcCmp)) (hf11 : fs 11 = some (.orc orcKnown))
    (hv : SlG h v l1) (hsh : Shape v) (hv' : SlG h w l2) (hsh' : Shape w) (hw : ∀ b x, h.get b = some x → b < h.nx) (hro : ro ≤ h.nx) {Q : V → Hp → Prop} (hq : ∀ h', Q (.bool true) h') : Ev fs ro 7 [v, w] h Q := by
  refine Ev_fn hf7 rfl rfl rfl rfl ?_
  refine WP_seq ?_
  refine WP_reg ?_
  repeat (first | (refine WPO_op rfl ?_; simp) | (refine WPO_nil ?_; simp))
  have hN0 : ro ≤ h.nx := hro
  refine WP_seq ?_
  refine WP_reg ?_
  refine WPO_op rfl ?_
  simp
  refine WPO_call (g := 13) (a := []) (b := []) (args := [v]) rfl rfl ?_
  simp
  refine ev13 hf13 hf32 hf26 hf34 hf52 hf43 hf44 hf45 hf46 hf25 hf33 hf37 hf12 hf28 hf29 hf30 hf31 hv hsh hw (Nat.le_refl _) fun x1 y1 h1' hsx1 hsy1 hox1 hoy1 hfx1' => ?_
  obtain ⟨htx1, hty1, hfR1⟩ := aft3 (b := true) hw hsx1 hsy1 hox1 hoy1 hfx1'
  have hL1 := refL_len (l1.take 60)
  have hM1 : (l1.take 60).length ≤ 60 := by simp; omega
  have hNo1 := refL_norm (l1.take 60)
  have hFi1 := refL_fine (l1.take 60)
  clear hsx1 hsy1 hfx1'
  generalize (if ground (V.tup [V.agg [x1], y1, V.bool true]) = true then h else h1') = hR1 at *
  generalize refL (l1.take 60) = a at *
  have hK1 : SK hR1 [(x1, a), (y1, a)] [] := ⟨fun p hp => by simp at hp; rcases hp with rfl | rfl <;> assumption, fun q hq => by cases hq⟩
  have hg5_1 : (hR1.new (.cells 0 [.nsl])).get hR1.nx = some (.cells 0 [.nsl]) := Hp.get_new_same
  have hfn1 : Fr hR1 ((hR1.new (.cells 0 [.nsl])).set hR1.nx (.cells 0 [x1])) := ((Fr.refl hfR1.wf).new _).set hfR1.wf (Nat.le_refl _) hg5_1 _
  have hg6_1 : ((hR1.new (.cells 0 [.nsl])).set hR1.nx (.cells 0 [x1])).get hR1.nx = some (.cells 0 [x1]) := Hp.get_set_same hg5_1
  obtain ⟨x1c1, x1c2⟩ := hox1.cells
  refine WPO_op rfl ?_
  simp
  refine WPO_op rfl ?_
  simp [op1]
  refine WPO_op rfl ?_
  simp [op1]
  refine WPO_op rfl ?_
  simp [op1]
  refine WPO_op rfl ?_
  simp
  refine WPO_op rfl ?_
  refine OB_store (b := hR1.nx) (o := 0) (v := V.agg [x1]) (l' := [x1]) rfl rfl (by have := hfR1.nx; omega) rfl (by simp [V.cells, x1c2]) hg5_1 rfl ?_
  generalize hp1 : hR1.nx = p1 at *
  generalize ((hR1.new (.cells 0 [.nsl])).set p1 (.cells 0 [x1])) = hS1 at *
  simp
  repeat (first | (refine WPO_op rfl ?_; simp; done) | (refine WPO_op rfl ?_; simp) | (refine WPO_nil ?_; simp))
  have hK1' := (hK1.fr hfn1).addP hg6_1
  have hRo1 : ro ≤ hS1.nx := by have := hfR1.nx; have := hfn1.nx; omega
  refine WP_seq ?_
  refine WP_reg ?_
  refine WPO_op rfl ?_
  simp
  refine WPO_call (g := 13) (a := []) (b := []) (args := [w]) rfl rfl ?_
  simp
  refine ev13 hf13 hf32 hf26 hf34 hf52 hf43 hf44 hf45 hf46 hf25 hf33 hf37 hf12 hf28 hf29 hf30 hf31 (Sl.fr (hfR1.trans hfn1) hv') hsh' hfn1.wf (Nat.le_refl _) fun x2 y2 h2' hsx2 hsy2 hox2 hoy2 hfx2' => ?_
  obtain ⟨htx2, hty2, hfR2⟩ := aft3 (b := true) hfn1.wf hsx2 hsy2 hox2 hoy2 hfx2'
  have hL2 := refL_len (l2.take 60)
  have hM2 : (l2.take 60).length ≤ 60 := by simp; omega
  have hNo2 := refL_norm (l2.take 60)
  have hFi2 := refL_fine (l2.take 60)
  clear hsx2 hsy2 hfx2'
  generalize (if ground (V.tup [V.agg [x2], y2, V.bool true]) = true then hS1 else h2') = hR2 at *
  generalize refL (l2.take 60) = b at *
  have hK2 := ((hK1'.fr hfR2).addL htx2).addL hty2
  have hg5_2 : (hR2.new (.cells 0 [.nsl])).get hR2.nx = some (.cells 0 [.nsl]) := Hp.get_new_same
  have hfn2 : Fr hR2 ((hR2.new (.cells 0 [.nsl])).set hR2.nx (.cells 0 [x2])) := ((Fr.refl hfR2.wf).new _).set hfR2.wf (Nat.le_refl _) hg5_2 _
  have hg6_2 : ((hR2.new (.cells 0 [.nsl])).set hR2.nx (.cells 0 [x2])).get hR2.nx = some (.cells 0 [x2]) := Hp.get_set_same hg5_2
  obtain ⟨x2c1, x2c2⟩ := hox2.cells
  refine WPO_op rfl ?_
  simp
  refine WPO_op rfl ?_
  simp [op1]
  refine WPO_op rfl ?_
  simp [op1]
  refine WPO_op rfl ?_
  simp [op1]
  refine WPO_op rfl ?_
  simp
  refine WPO_op rfl ?_
  refine OB_store (b := hR2.nx) (o := 0) (v := V.agg [x2]) (l' := [x2]) rfl rfl (by have := hfR2.nx; omega) rfl (by simp [V.cells, x2c2]) hg5_2 rfl ?_
  generalize hp2 : hR2.nx = p2 at *
  generalize ((hR2.new (.cells 0 [.nsl])).set p2 (.cells 0 [x2])) = hS2 at *
  simp
  repeat (first | (refine WPO_op rfl ?_; simp; done) | (refine WPO_op rfl ?_; simp) | (refine WPO_nil ?_; simp))
  have hK2' := (hK2.fr hfn2).addP hg6_2
  have hRo2 : ro ≤ hS2.nx := by have := hfR2.nx; have := hfn2.nx; omega
  have hA200 : a.length ≤ 200 := by omega
  have hB200 : b.length ≤ 200 := by omega
  refine WP_seq ?_
  refine WP_seq ?_
  refine WP_reg ?_
  refine WPO_call (g := 11) (a := []) (b := []) (args := []) rfl rfl ?_
  refine Ev_orc hf11 (r := .bool true) (h' := hS2) rfl ?_
  simp
  repeat (first | (refine WPO_op rfl ?_; simp; done) | (refine WPO_op rfl ?_; simp) | (refine WPO_gop rfl ?_; simp) | (refine WPO_nil ?_; simp))
  refine WP_cond rfl ⟨fun hd => (by cases hd), fun _ => ?_⟩
  simp only [WP_skip, nrmOr_nrm]
  refine WP_seq ?_
  refine WP_reg ?_
  repeat (first | (refine WPO_op rfl ?_; simp; done) | (refine WPO_op rfl ?_; simp))
  refine WPO_call (g := 18) (a := []) (b := []) (args := [.int .i64 0, y1, y2]) rfl rfl ?_
  simp
  refine ev18 (k := 0) (by omega) hf18 hf36 hf53 hf15 hf37 (show SlG _ y1 a from hK2'.1 (y1, a) (by simp)) (show SlG _ y2 b from hK2'.1 (y2, b) (by simp)) hA200 hB200 hfn2.wf (Nat.le_refl _) fun u1 h3' hsu1 hou1 hfu1' => ?_
  obtain ⟨htu1, hfR3⟩ := aftB (b := true) hfn2.wf hsu1 hou1 hfu1'
  clear hsu1 hfu1'
  generalize (if ground (V.tup [u1, V.bool true]) = true then hS2 else h3') = hS3 at *
  have hK3' := (hK2'.fr hfR3).addL htu1
  have hRo3 : ro ≤ hS3.nx := by have := hfR3.nx; omega
  refine WPO_op rfl ?_
  simp
  refine WPO_op rfl ?_
  simp [op1]
  refine WPO_op rfl ?_
  simp [op1]
  repeat (first | (refine WPO_op rfl ?_; simp; done) | (refine WPO_op rfl ?_; simp) | (refine WPO_nil ?_; simp))
  refine WP_seq ?_
  refine WP_reg ?_
  repeat (first | (refine WPO_op rfl ?_; simp; done) | (refine WPO_op rfl ?_; simp))
  refine WPO_call (g := 18) (a := []) (b := []) (args := [.int .i64 1, y1, y2]) rfl rfl ?_
  simp
  refine ev18 (k := 1) (by omega) hf18 hf36 hf53 hf15 hf37 (show SlG _ y1 a from hK3'.1 (y1, a) (by simp)) (show SlG _ y2 b from hK3'.1 (y2, b) (by simp)) hA200 hB200 hfR3.wf (Nat.le_refl _) fun u2 h4' hsu2 hou2 hfu2' => ?_
  obtain ⟨htu2, hfR4⟩ := aftB (b := true) hfR3.wf hsu2 hou2 hfu2'
  clear hsu2 hfu2'
  generalize (if ground (V.tup [u2, V.bool true]) = true then hS3 else h4') = hS4 at *
  have hK4' := (hK3'.fr hfR4).addL htu2
  have hRo4 : ro ≤ hS4.nx := by have := hfR4.nx; omega
  refine WPO_op rfl ?_
  simp
  refine WPO_op rfl ?_
  simp [op1]
  refine WPO_op rfl ?_
  simp [op1]
  repeat (first | (refine WPO_op rfl ?_; simp; done) | (refine WPO_op rfl ?_; simp) | (refine WPO_nil ?_; simp))
  refine WP_seq ?_
  refine WP_reg ?_
  repeat (first | (refine WPO_op rfl ?_; simp; done) | (refine WPO_op rfl ?_; simp))
  refine WPO_call (g := 18) (a := []) (b := []) (args := [.int .i64 1, y2, y1]) rfl rfl ?_
  simp
  refine ev18 (k := 1) (by omega) hf18 hf36 hf53 hf15 hf37 (show SlG _ y2 b from hK4'.1 (y2, b) (by simp)) (show SlG _ y1 a from hK4'.1 (y1, a) (by simp)) hB200 hA200 hfR4.wf (Nat.le_refl _) fun u3 h5' hsu3 hou3 hfu3' => ?_
  obtain ⟨htu3, hfR5⟩ := aftB (b := true) hfR4.wf hsu3 hou3 hfu3'
  clear hsu3 hfu3'
  generalize (if ground (V.tup [u3, V.bool true]) = true then hS4 else h5') = hS5 at *
  have hK5' := (hK4'.fr hfR5).addL htu3
  have hRo5 : ro ≤ hS5.nx := by have := hfR5.nx; omega
  refine WPO_op rfl ?_
  simp
  refine WPO_op rfl ?_
  simp [op1]
  refine WPO_op rfl ?_
  simp [op1]
  repeat (first | (refine WPO_op rfl ?_; simp; done) | (refine WPO_op rfl ?_; simp) | (refine WPO_nil ?_; simp))
  refine WP_seq ?_
  refine WP_reg ?_
  repeat (first | (refine WPO_op rfl ?_; simp; done) | (refine WPO_op rfl ?_; simp))
  refine WPO_call (g := 18) (a := []) (b := []) (args := [.int .i64 2, y1, y2]) rfl rfl ?_
  simp
  refine ev18 (k := 2) (by omega) hf18 hf36 hf53 hf15 hf37 (show SlG _ y1 a from hK5'.1 (y1, a) (by simp)) (show SlG _ y2 b from hK5'.1 (y2, b) (by simp)) hA200 hB200 hfR5.wf (Nat.le_refl _) fun u4 h6' hsu4 hou4 hfu4' => ?_
  obtain ⟨htu4, hfR6⟩ := aftB (b := true) hfR5.wf hsu4 hou4 hfu4'
  clear hsu4 hfu4'
  generalize (if ground (V.tup [u4, V.bool true]) = true then hS5 else h6') = hS6 at *
  have hK6' := (hK5'.fr hfR6).addL htu4
  have hRo6 : ro ≤ hS6.nx := by have := hfR6.nx; omega
  refine WPO_op rfl ?_
  simp
  refine WPO_op rfl ?_
  simp [op1]
  refine WPO_op rfl ?_
  simp [op1]
  repeat (first | (refine WPO_op rfl ?_; simp; done) | (refine WPO_op rfl ?_; simp) | (refine WPO_nil ?_; simp))
  refine WP_seq ?_
  refine WP_reg ?_
  have hgp7 := hK6'.2 (p1, x1) (by simp)
  have hgq7 := hK6'.2 (p2, x2) (by simp)
  simp only at hgp7 hgq7
  repeat (first | (refine WPO_op rfl ?_; simp [loadV_ptr hgp7, loadV_ptr hgq7, loadN]; done) | (refine WPO_op rfl ?_; simp [loadV_ptr hgp7, loadV_ptr hgq7, loadN]))
  refine WPO_call (g := 19) (a := []) (b := []) (args := [.agg [x1], .agg [x2]]) rfl rfl ?_
  simp
  refine ev19 hf19 hf38 hf45 hf54 hf55 hf39 hf25 (show SlG _ x1 a from hK6'.1 (x1, a) (by simp)) (show SlG _ x2 b from hK6'.1 (x2, b) (by simp)) x1c1 x2c1 hNo1 hNo2 hA200 hB200 hfR6.wf (Nat.le_refl _) fun z1 h7' hsz1 hoz1 hfz1' => ?_
  obtain ⟨htz1, hfR7⟩ := aft (k := .i64) (n := 0) hfR6.wf hsz1 hoz1 hfz1' (.inl rfl)
  clear hsz1 hfz1'
  generalize (if ground (V.tup [V.agg [z1], V.int .i64 0]) = true then hS6 else h7') = hR7 at *
  have hK7 := (hK6'.fr hfR7).addL htz1
  have hg5_7 : (hR7.new (.cells 0 [.nsl])).get hR7.nx = some (.cells 0 [.nsl]) := Hp.get_new_same
  have hfn7 : Fr hR7 ((hR7.new (.cells 0 [.nsl])).set hR7.nx (.cells 0 [z1])) := ((Fr.refl hfR7.wf).new _).set hfR7.wf (Nat.le_refl _) hg5_7 _
  have hg6_7 : ((hR7.new (.cells 0 [.nsl])).set hR7.nx (.cells 0 [z1])).get hR7.nx = some (.cells 0 [z1]) := Hp.get_set_same hg5_7
  obtain ⟨z1c1, z1c2⟩ := hoz1.cells
  refine WPO_op rfl ?_
  simp
  refine WPO_op rfl ?_
  simp [op1]
  refine WPO_op rfl ?_
  simp [op1]
  refine WPO_op rfl ?_
  simp
  refine WPO_op rfl ?_
  refine OB_store (b := hR7.nx) (o := 0) (v := V.agg [z1]) (l' := [z1]) rfl rfl (by have := hfR7.nx; omega) rfl (by simp [V.cells, z1c2]) hg5_7 rfl ?_
  generalize hp7 : hR7.nx = p7 at *
  generalize ((hR7.new (.cells 0 [.nsl])).set p7 (.cells 0 [z1])) = hS7 at *
  simp
  repeat (first | (refine WPO_op rfl ?_; simp; done) | (refine WPO_op rfl ?_; simp) | (refine WPO_nil ?_; simp))
  have hK7' := (hK7.fr hfn7).addP hg6_7
  have hRo7 : ro ≤ hS7.nx := by have := hfR7.nx; have := hfn7.nx; omega
  refine WP_seq ?_
  refine WP_reg ?_
  have hgp8 := hK7'.2 (p1, x1) (by simp)
  have hgq8 := hK7'.2 (p2, x2) (by simp)
  simp only at hgp8 hgq8
  repeat (first | (refine WPO_op rfl ?_; simp [loadV_ptr hgp8, loadV_ptr hgq8, loadN]; done) | (refine WPO_op rfl ?_; simp [loadV_ptr hgp8, loadV_ptr hgq8, loadN]))
  refine WPO_call (g := 20) (a := []) (b := []) (args := [.agg [x1], .agg [x2]]) rfl rfl ?_
  simp
  refine ev20 hf20 hf38 hf45 hf54 hf55 hf40 hf25 (show SlG _ x1 a from hK7'.1 (x1, a) (by simp)) (show SlG _ x2 b from hK7'.1 (x2, b) (by simp)) x1c1 x2c1 hNo1 hNo2 hA200 hB200 hfn7.wf (Nat.le_refl _) fun z2 h8' hsz2 hoz2 hfz2' => ?_
  obtain ⟨htz2, hfR8⟩ := aft (k := .i64) (n := 0) hfn7.wf hsz2 hoz2 hfz2' (.inl rfl)
  clear hsz2 hfz2'
  generalize (if ground (V.tup [V.agg [z2], V.int .i64 0]) = true then hS7 else h8') = hR8 at *
  have hK8 := (hK7'.fr hfR8).addL htz2
  have hg5_8 : (hR8.new (.cells 0 [.nsl])).get hR8.nx = some (.cells 0 [.nsl]) := Hp.get_new_same
  have hfn8 : Fr hR8 ((hR8.new (.cells 0 [.nsl])).set hR8.nx (.cells 0 [z2])) := ((Fr.refl hfR8.wf).new _).set hfR8.wf (Nat.le_refl _) hg5_8 _
  have hg6_8 : ((hR8.new (.cells 0 [.nsl])).set hR8.nx (.cells 0 [z2])).get hR8.nx = some (.cells 0 [z2]) := Hp.get_set_same hg5_8
  obtain ⟨z2c1, z2c2⟩ := hoz2.cells
  refine WPO_op rfl ?_
  simp
  refine WPO_op rfl ?_
  simp [op1]
  refine WPO_op rfl ?_
  simp [op1]
  refine WPO_op rfl ?_
  simp
  refine WPO_op rfl ?_
  refine OB_store (b := hR8.nx) (o := 0) (v := V.agg [z2]) (l' := [z2]) rfl rfl (by have := hfR8.nx; omega) rfl (by simp [V.cells, z2c2]) hg5_8 rfl ?_
  generalize hp8 : hR8.nx = p8 at *
  generalize ((hR8.new (.cells 0 [.nsl])).set p8 (.cells 0 [z2])) = hS8 at *
  simp
  repeat (first | (refine WPO_op rfl ?_; simp; done) | (refine WPO_op rfl ?_; simp) | (refine WPO_nil ?_; simp))
  have hK8' := (hK8.fr hfn8).addP hg6_8
  have hRo8 : ro ≤ hS8.nx := by have := hfR8.nx; have := hfn8.nx; omega
  refine WP_seq ?_
  refine WP_reg ?_
  have hgp9 := hK8'.2 (p1, x1) (by simp)
  have hgq9 := hK8'.2 (p2, x2) (by simp)
  simp only at hgp9 hgq9
  repeat (first | (refine WPO_op rfl ?_; simp [loadV_ptr hgp9, loadV_ptr hgq9, loadN]; done) | (refine WPO_op rfl ?_; simp [loadV_ptr hgp9, loadV_ptr hgq9, loadN]))
  refine WPO_call (g := 21) (a := []) (b := []) (args := [.agg [x1], .agg [x2]]) rfl rfl ?_
  simp
  refine ev21 hf21 hf38 hf45 hf54 hf55 hf41 hf25 (show SlG _ x1 a from hK8'.1 (x1, a) (by simp)) (show SlG _ x2 b from hK8'.1 (x2, b) (by simp)) x1c1 x2c1 hNo1 hNo2 hA200 hB200 hfn8.wf (Nat.le_refl _) fun z3 h9' hsz3 hoz3 hfz3' => ?_
  obtain ⟨htz3, hfR9⟩ := aft (k := .i64) (n := 0) hfn8.wf hsz3 hoz3 hfz3' (.inl rfl)
  clear hsz3 hfz3'
  generalize (if ground (V.tup [V.agg [z3], V.int .i64 0]) = true then hS8 else h9') = hR9 at *
  have hK9 := (hK8'.fr hfR9).addL htz3
  have hg5_9 : (hR9.new (.cells 0 [.nsl])).get hR9.nx = some (.cells 0 [.nsl]) := Hp.get_new_same
  have hfn9 : Fr hR9 ((hR9.new (.cells 0 [.nsl])).set hR9.nx (.cells 0 [z3])) := ((Fr.refl hfR9.wf).new _).set hfR9.wf (Nat.le_refl _) hg5_9 _
  have hg6_9 : ((hR9.new (.cells 0 [.nsl])).set hR9.nx (.cells 0 [z3])).get hR9.nx = some (.cells 0 [z3]) := Hp.get_set_same hg5_9
  obtain ⟨z3c1, z3c2⟩ := hoz3.cells
  refine WPO_op rfl ?_
  simp
  refine WPO_op rfl ?_
  simp [op1]
  refine WPO_op rfl ?_
  simp [op1]
  refine WPO_op rfl ?_
  simp
  refine WPO_op rfl ?_
  refine OB_store (b := hR9.nx) (o := 0) (v := V.agg [z3]) (l' := [z3]) rfl rfl (by have := hfR9.nx; omega) rfl (by simp [V.cells, z3c2]) hg5_9 rfl ?_
  generalize hp9 : hR9.nx = p9 at *
  generalize ((hR9.new (.cells 0 [.nsl])).set p9 (.cells 0 [z3])) = hS9 at *
  simp
  repeat (first | (refine WPO_op rfl ?_; simp; done) | (refine WPO_op rfl ?_; simp) | (refine WPO_nil ?_; simp))
  have hK9' := (hK9.fr hfn9).addP hg6_9
  have hRo9 : ro ≤ hS9.nx := by have := hfR9.nx; have := hfn9.nx; omega
  refine WP_seq ?_
  refine WP_reg ?_
  have hgp10 := hK9'.2 (p1, x1) (by simp)
  have hgq10 := hK9'.2 (p2, x2) (by simp)
  simp only at hgp10 hgq10
  repeat (first | (refine WPO_op rfl ?_; simp [loadV_ptr hgp10, loadV_ptr hgq10, loadN]; done) | (refine WPO_op rfl ?_; simp [loadV_ptr hgp10, loadV_ptr hgq10, loadN]))
  refine WPO_call (g := 19) (a := []) (b := []) (args := [.agg [x2], .agg [x1]]) rfl rfl ?_
  simp
  refine ev19 hf19 hf38 hf45 hf54 hf55 hf39 hf25 (show SlG _ x2 b from hK9'.1 (x2, b) (by simp)) (show SlG _ x1 a from hK9'.1 (x1, a) (by simp)) x2c1 x1c1 hNo2 hNo1 hB200 hA200 hfn9.wf (Nat.le_refl _) fun z4 h10' hsz4 hoz4 hfz4' => ?_
  obtain ⟨htz4, hfR10⟩ := aft (k := .i64) (n := 0) hfn9.wf hsz4 hoz4 hfz4' (.inl rfl)
  clear hsz4 hfz4'
  generalize (if ground (V.tup [V.agg [z4], V.int .i64 0]) = true then hS9 else h10') = hR10 at *
  have hK10 := (hK9'.fr hfR10).addL htz4
  have hg5_10 : (hR10.new (.cells 0 [.nsl])).get hR10.nx = some (.cells 0 [.nsl]) := Hp.get_new_same
  have hfn10 : Fr hR10 ((hR10.new (.cells 0 [.nsl])).set hR10.nx (.cells 0 [z4])) := ((Fr.refl hfR10.wf).new _).set hfR10.wf (Nat.le_refl _) hg5_10 _
  have hg6_10 : ((hR10.new (.cells 0 [.nsl])).set hR10.nx (.cells 0 [z4])).get hR10.nx = some (.cells 0 [z4]) := Hp.get_set_same hg5_10
  obtain ⟨z4c1, z4c2⟩ := hoz4.cells
  refine WPO_op rfl ?_
  simp
  refine WPO_op rfl ?_
  simp [op1]
  refine WPO_op rfl ?_
  simp [op1]
  refine WPO_op rfl ?_
  simp
  refine WPO_op rfl ?_
  refine OB_store (b := hR10.nx) (o := 0) (v := V.agg [z4]) (l' := [z4]) rfl rfl (by have := hfR10.nx; omega) rfl (by simp [V.cells, z4c2]) hg5_10 rfl ?_
  generalize hp10 : hR10.nx = p10 at *
  generalize ((hR10.new (.cells 0 [.nsl])).set p10 (.cells 0 [z4])) = hS10 at *
  simp
  repeat (first | (refine WPO_op rfl ?_; simp; done) | (refine WPO_op rfl ?_; simp) | (refine WPO_nil ?_; simp))
  have hK10' := (hK10.fr hfn10).addP hg6_10
  have hRo10 : ro ≤ hS10.nx := by have := hfR10.nx; have := hfn10.nx; omega
  refine WP_seq ?_
  refine WP_reg ?_
  have hgp11 := hK10'.2 (p1, x1) (by simp)
  have hgq11 := hK10'.2 (p2, x2) (by simp)
  simp only at hgp11 hgq11
  repeat (first | (refine WPO_op rfl ?_; simp [loadV_ptr hgp11, loadV_ptr hgq11, loadN]; done) | (refine WPO_op rfl ?_; simp [loadV_ptr hgp11, loadV_ptr hgq11, loadN]))
  refine WPO_call (g := 21) (a := []) (b := []) (args := [.agg [x2], .agg [x1]]) rfl rfl ?_
  simp
  refine ev21 hf21 hf38 hf45 hf54 hf55 hf41 hf25 (show SlG _ x2 b from hK10'.1 (x2, b) (by simp)) (show SlG _ x1 a from hK10'.1 (x1, a) (by simp)) x2c1 x1c1 hNo2 hNo1 hB200 hA200 hfn10.wf (Nat.le_refl _) fun z5 h11' hsz5 hoz5 hfz5' => ?_
  obtain ⟨htz5, hfR11⟩ := aft (k := .i64) (n := 0) hfn10.wf hsz5 hoz5 hfz5' (.inl rfl)
  clear hsz5 hfz5'
  generalize (if ground (V.tup [V.agg [z5], V.int .i64 0]) = true then hS10 else h11') = hR11 at *
  have hK11 := (hK10'.fr hfR11).addL htz5
  have hg5_11 : (hR11.new (.cells 0 [.nsl])).get hR11.nx = some (.cells 0 [.nsl]) := Hp.get_new_same
  have hfn11 : Fr hR11 ((hR11.new (.cells 0 [.nsl])).set hR11.nx (.cells 0 [z5])) := ((Fr.refl hfR11.wf).new _).set hfR11.wf (Nat.le_refl _) hg5_11 _
  have hg6_11 : ((hR11.new (.cells 0 [.nsl])).set hR11.nx (.cells 0 [z5])).get hR11.nx = some (.cells 0 [z5]) := Hp.get_set_same hg5_11
  obtain ⟨z5c1, z5c2⟩ := hoz5.cells
  refine WPO_op rfl ?_
  simp
  refine WPO_op rfl ?_
  simp [op1]
  refine WPO_op rfl ?_
  simp [op1]
  refine WPO_op rfl ?_
  simp
  refine WPO_op rfl ?_
  refine OB_store (b := hR11.nx) (o := 0) (v := V.agg [z5]) (l' := [z5]) rfl rfl (by have := hfR11.nx; omega) rfl (by simp [V.cells, z5c2]) hg5_11 rfl ?_
  generalize hp11 : hR11.nx = p11 at *
  generalize ((hR11.new (.cells 0 [.nsl])).set p11 (.cells 0 [z5])) = hS11 at *
  simp
  repeat (first | (refine WPO_op rfl ?_; simp; done) | (refine WPO_op rfl ?_; simp) | (refine WPO_nil ?_; simp))
  have hK11' := (hK11.fr hfn11).addP hg6_11
  have hRo11 : ro ≤ hS11.nx := by have := hfR11.nx; have := hfn11.nx; omega
  simp only [kf0, kf1, kf2] at hK11'
  have cU : combL (fun x y => x || y) b a = combL (fun x y => x || y) a b := comb_comm rfl (fun x y => Bool.or_comm x y) b a
  have cB : combL (fun x y => x && y) b a = combL (fun x y => x && y) a b := comb_comm rfl (fun x y => Bool.and_comm x y) b a
  rw [cU, cB] at hK11'
  have hwf := hfn11.wf
  have sz1 : SlG _ z1 (combL (fun x y => x || y) a b) := hK11'.1 (z1, combL (fun x y => x || y) a b) (by simp)
  have sz2 : SlG _ z2 (combL (fun x y => x && !y) a b) := hK11'.1 (z2, combL (fun x y => x && !y) a b) (by simp)
  have sz3 : SlG _ z3 (combL (fun x y => x && y) a b) := hK11'.1 (z3, combL (fun x y => x && y) a b) (by simp)
  have sz4 : SlG _ z4 (combL (fun x y => x || y) a b) := hK11'.1 (z4, combL (fun x y => x || y) a b) (by simp)
  have sz5 : SlG _ z5 (combL (fun x y => x && y) a b) := hK11'.1 (z5, combL (fun x y => x && y) a b) (by simp)
  have su1 : SlG _ u1 (combL (fun x y => x || y) a b) := hK11'.1 (u1, combL (fun x y => x || y) a b) (by simp)
  have su2 : SlG _ u2 (combL (fun x y => x && !y) a b) := hK11'.1 (u2, combL (fun x y => x && !y) a b) (by simp)
  have su3 : SlG _ u3 (combL (fun x y => x && !y) b a) := hK11'.1 (u3, combL (fun x y => x && !y) b a) (by simp)
  have su4 : SlG _ u4 (combL (fun x y => x && y) a b) := hK11'.1 (u4, combL (fun x y => x && y) a b) (by simp)
  have sx1 : SlG _ x1 a := hK11'.1 (x1, a) (by simp)
  have sx2 : SlG _ x2 b := hK11'.1 (x2, b) (by simp)
  have sy1 : SlG _ y1 a := hK11'.1 (y1, a) (by simp)
  have sy2 : SlG _ y2 b := hK11'.1 (y2, b) (by simp)
  have g1 := hK11'.2 (p1, x1) (by simp)
  have g2 := hK11'.2 (p2, x2) (by simp)
  have g7 := hK11'.2 (p7, z1) (by simp)
  have g8 := hK11'.2 (p8, z2) (by simp)
  have g9 := hK11'.2 (p9, z3) (by simp)
  have g10 := hK11'.2 (p10, z4) (by simp)
  have g11 := hK11'.2 (p11, z5) (by simp)
  simp only at g1 g2 g7 g8 g9 g10 g11
  have lU := combL_len (fun x y => x || y) a b
  have lM := combL_len (fun x y => x && !y) a b
  have lB := combL_len (fun x y => x && y) a b
  have lR := combL_len (fun x y => x && !y) b a
  have fU := combL_fine (f := (fun x y => x || y)) rfl hFi1 hFi2
  have fM := combL_fine (f := (fun x y => x && !y)) rfl hFi1 hFi2
  have fB := combL_fine (f := (fun x y => x && y)) rfl hFi1 hFi2
  have nB : decide (0 < (segs (fun x y => x && y) a b (cutsL a b)).length) = decide (0 < (combL (fun x y => x && y) a b).length) := by
    have := segs_nil (fun x y => x && y) a b
    rw [Bool.eq_iff_iff, decide_eq_true_eq, decide_eq_true_eq]
    omega
  have nR : decide ((segs (fun x y => x && !y) b a (cutsL b a)).length = 0) = decide ((combL (fun x y => x && !y) b a).length = 0) := by
    have := segs_nil (fun x y => x && !y) b a
    rw [Bool.eq_iff_iff, decide_eq_true_eq, decide_eq_true_eq]
    exact this
  have nE : decide (a = b) = (decide ((combL (fun x y => x && !y) a b).length = 0) && decide ((combL (fun x y => x && !y) b a).length = 0)) := by
    rw [Bool.eq_iff_iff, Bool.and_eq_true, decide_eq_true_eq, decide_eq_true_eq, decide_eq_true_eq]
    exact eq_iff hNo1 hNo2
  have eI : ∀ n : Nat, (((n : Nat) : Int) == 0) = decide (n = 0) := fun n => by
    rw [Bool.eq_iff_iff, beq_iff_eq, decide_eq_true_eq]
    omega
  have q4 := su4.lenV
  have q3 := su3.lenV
  have q2 := su2.lenV
  clear hK1 hK2 hK7 hK8 hK9 hK10 hK11 hK1' hK2' hK3' hK4' hK5' hK6' hK7' hK8' hK9' hK10' hK11'
  generalize hcU : combL (fun x y => x || y) a b = LU at *
  generalize hcM : combL (fun x y => x && !y) a b = LM at *
  generalize hcB : combL (fun x y => x && y) a b = LB at *
  generalize hcR : combL (fun x y => x && !y) b a = LR at *
  refine WP_seq ?_
  refine WP_seq ?_
  refine WP_reg ?_
  repeat (first | (refine WPO_op rfl ?_; simp [loadV_ptr g1, loadV_ptr g2, loadV_ptr g7, loadV_ptr g8, loadV_ptr g9, loadV_ptr g10, loadV_ptr g11, loadN]; done) | (refine WPO_op rfl ?_; simp [loadV_ptr g1, loadV_ptr g2, loadV_ptr g7, loadV_ptr g8, loadV_ptr g9, loadV_ptr g10, loadV_ptr g11, loadN]) | (refine WPO_gop rfl ?_; simp [loadV_ptr g1, loadV_ptr g2, loadV_ptr g7, loadV_ptr g8, loadV_ptr g9, loadV_ptr g10, loadV_ptr g11, loadN]))
  refine WPO_gcall ?_
  simp
  refine WPO_call (g := 12) (a := []) (b := []) (args := [.agg [z1], u1]) rfl rfl ?_
  simp
  refine ev12 hf12 hf28 hf45 hf29 hf30 hf31 sz1 z1c1 su1 hwf (by omega) fU fun h9 => ?_
  simp
  repeat (first | (refine WPO_op rfl ?_; simp [loadV_ptr g1, loadV_ptr g2, loadV_ptr g7, loadV_ptr g8, loadV_ptr g9, loadV_ptr g10, loadV_ptr g11, loadN]; done) | (refine WPO_op rfl ?_; simp [loadV_ptr g1, loadV_ptr g2, loadV_ptr g7, loadV_ptr g8, loadV_ptr g9, loadV_ptr g10, loadV_ptr g11, loadN]) | (refine WPO_gop rfl ?_; simp [loadV_ptr g1, loadV_ptr g2, loadV_ptr g7, loadV_ptr g8, loadV_ptr g9, loadV_ptr g10, loadV_ptr g11, loadN]))
  refine WPO_gcall ?_
  simp
  refine WPO_call (g := 12) (a := []) (b := []) (args := [.agg [z2], u2]) rfl rfl ?_
  simp
  refine ev12 hf12 hf28 hf45 hf29 hf30 hf31 sz2 z2c1 su2 hwf (by omega) fM fun h9 => ?_
  simp
  repeat (first | (refine WPO_op rfl ?_; simp [loadV_ptr g1, loadV_ptr g2, loadV_ptr g7, loadV_ptr g8, loadV_ptr g9, loadV_ptr g10, loadV_ptr g11, loadN]; done) | (refine WPO_op rfl ?_; simp [loadV_ptr g1, loadV_ptr g2, loadV_ptr g7, loadV_ptr g8, loadV_ptr g9, loadV_ptr g10, loadV_ptr g11, loadN]) | (refine WPO_gop rfl ?_; simp [loadV_ptr g1, loadV_ptr g2, loadV_ptr g7, loadV_ptr g8, loadV_ptr g9, loadV_ptr g10, loadV_ptr g11, loadN]))
  refine WPO_gcall ?_
  simp
  refine WPO_call (g := 12) (a := []) (b := []) (args := [.agg [z3], u4]) rfl rfl ?_
  simp
  refine ev12 hf12 hf28 hf45 hf29 hf30 hf31 sz3 z3c1 su4 hwf (by omega) fB fun h9 => ?_
  simp
  repeat (first | (refine WPO_op rfl ?_; simp [loadV_ptr g1, loadV_ptr g2, loadV_ptr g7, loadV_ptr g8, loadV_ptr g9, loadV_ptr g10, loadV_ptr g11, loadN]; done) | (refine WPO_op rfl ?_; simp [loadV_ptr g1, loadV_ptr g2, loadV_ptr g7, loadV_ptr g8, loadV_ptr g9, loadV_ptr g10, loadV_ptr g11, loadN]) | (refine WPO_gop rfl ?_; simp [loadV_ptr g1, loadV_ptr g2, loadV_ptr g7, loadV_ptr g8, loadV_ptr g9, loadV_ptr g10, loadV_ptr g11, loadN]))
  refine WPO_gcall ?_
  simp
  refine WPO_call (g := 22) (a := []) (b := []) (args := [.agg [z1], .agg [z4]]) rfl rfl ?_
  simp
  refine ev22 hf22 hf42 sz1 sz4 z1c1 z4c1 (by omega) (by omega) hwf fun h9 => ?_
  simp
  repeat (first | (refine WPO_op rfl ?_; simp [loadV_ptr g1, loadV_ptr g2, loadV_ptr g7, loadV_ptr g8, loadV_ptr g9, loadV_ptr g10, loadV_ptr g11, loadN]; done) | (refine WPO_op rfl ?_; simp [loadV_ptr g1, loadV_ptr g2, loadV_ptr g7, loadV_ptr g8, loadV_ptr g9, loadV_ptr g10, loadV_ptr g11, loadN]) | (refine WPO_gop rfl ?_; simp [loadV_ptr g1, loadV_ptr g2, loadV_ptr g7, loadV_ptr g8, loadV_ptr g9, loadV_ptr g10, loadV_ptr g11, loadN]))
  refine WPO_gcall ?_
  simp
  refine WPO_call (g := 22) (a := []) (b := []) (args := [.agg [z3], .agg [z5]]) rfl rfl ?_
  simp
  refine ev22 hf22 hf42 sz3 sz5 z3c1 z5c1 (by omega) (by omega) hwf fun h9 => ?_
  simp
  repeat (first | (refine WPO_op rfl ?_; simp; done) | (refine WPO_op rfl ?_; simp) | (refine WPO_gop rfl ?_; simp) | (refine WPO_nil ?_; simp))
  refine WP_cond rfl ⟨fun hd => (by cases hd), fun _ => ?_⟩
  simp only [WP_skip, nrmOr_nrm]
  exact tail7 hf12 hf28 hf45 hf29 hf30 hf31 hf22 hf42 hf23 hf24 hf38 hf40 hf41 hf54 hf55 sx1 sx2 sy1 sy2 su2 su3 su4 x1c1 x2c1 g1 g2 hNo1 hNo2 hFi1 hFi2 hA200 hB200 hwf nB nR nE hq
end Go.Am.S7
