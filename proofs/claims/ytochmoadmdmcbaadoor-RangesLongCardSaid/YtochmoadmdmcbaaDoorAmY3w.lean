/- The seat's functions, stepped through in the plain machine. -/
import Derived.Test.YtochmoadmdmcbaaDoorAmX12
import Derived.Test.YtochmoadmdmcbaaDoorAmY3
namespace Go.Am.S7
open Go Go.RowKit Go.Proofs
set_option maxRecDepth 100000
theorem walk3 (hj : OrcOk Tryd.prog 51 orcJoin) (x y : Int) (W : World) :
    Calls Tryd.prog 3 #[.int .i64 x, .int .i64 y] W fun e w' => e = .returned (.bool true) ∧ Below W.heap.size W w' := by
  have hev : Ev fs1 Tryd.prog.globals.size 3 [.int .i64 x, .int .i64 y] ⟨Tryd.prog.globals.size, []⟩ fun r _ => r = .bool true :=
    ev3 (ro := Tryd.prog.globals.size) (h := ⟨Tryd.prog.globals.size, []⟩) rfl rfl rfl rfl rfl rfl rfl rfl rfl rfl rfl (fun b x hb => by cases hb) (Nat.le_refl _) fun _ => rfl
  unfold Ev at hev
  obtain ⟨r, h', N, hrun, rfl⟩ := hev
  exact calls_true (run_sound mixed (fs1_ok hj) N) (h := ⟨Tryd.prog.globals.size, []⟩) (us := [.int .i64 x, .int .i64 y]) (hrun N (Nat.le_refl _)) GOK.start Rel.start (by simp only [VRs, VR]; exact ⟨_, _, rfl, rfl, _, _, rfl, rfl, rfl⟩)
end Go.Am.S7
