/- The law RangesAlgebra in every world. -/
import Derived.Test.YtochmoadmdmcbaaDoorAmO7
import Derived.Test.YtochmoadmdmcbaaDoorAmD1
namespace Go.Am.S7
open Go Go.RowKit Go.Proofs
set_option maxRecDepth 100000
theorem walk8 (hj : OrcOk Tryd.prog 51 orcJoin) (a0 : Option Addr) (len0 cap0 : Nat) (z0 : List (Int × Int)) (a1 : Option Addr) (len1 cap1 : Nat) (z1 : List (Int × Int)) (a2 : Option Addr) (len2 cap2 : Nat) (z2 : List (Int × Int)) (W : World)
    (w0 : IsPairs W a0 len0 cap0 z0) (w1 : IsPairs W a1 len1 cap1 z1) (w2 : IsPairs W a2 len2 cap2 z2) :
    Calls Tryd.prog 8 #[.slice a0 len0 cap0, .slice a1 len1 cap1, .slice a2 len2 cap2] W fun e w' => e = .returned (.bool true) ∧ Below W.heap.size W w' := by
  obtain ⟨ρ1, h1, v0, hg1, hr1, hρ1, hf1, hv0, hs0, hsh0⟩ := arg_pairs (P := Tryd.prog) (h := ⟨Tryd.prog.globals.size, []⟩) GOK.start Rel.start w0
  obtain ⟨ρ2, h2, v1, hg2, hr2, hρ2, hf2, hv1, hs1, hsh1⟩ := arg_pairs hg1 hr1 w1
  obtain ⟨ρ3, h3, v2, hg3, hr3, hρ3, hf3, hv2, hs2, hsh2⟩ := arg_pairs hg2 hr2 w2
  have hev : Ev fs3 h3.nx 8 [v0, v1, v2] h3 fun r _ => r = .bool true :=
    ev8 rfl rfl rfl rfl rfl rfl rfl rfl rfl rfl rfl rfl rfl rfl rfl rfl rfl rfl rfl rfl rfl rfl rfl rfl rfl rfl rfl rfl rfl rfl rfl rfl (Sl.fr (hf2.trans hf3) hs0) hsh0 (Sl.fr hf3 hs1) hsh1 hs2 hsh2 hr3.lt (Nat.le_refl _) fun _ => rfl
  unfold Ev at hev
  obtain ⟨r, h', N, hrun, rfl⟩ := hev
  exact calls_true (run_sound mixed (fs3_ok hj) N) (hrun N (Nat.le_refl _)) hg3 hr3 (us := [.slice a0 len0 cap0, .slice a1 len1 cap1, .slice a2 len2 cap2]) ⟨_, _, rfl, VR.mono hρ3 hf3.nx v0 (VR.mono hρ2 hf2.nx v0 hv0), _, _, rfl, VR.mono hρ3 hf3.nx v1 hv1, _, _, rfl, hv2, rfl⟩
end Go.Am.S7
