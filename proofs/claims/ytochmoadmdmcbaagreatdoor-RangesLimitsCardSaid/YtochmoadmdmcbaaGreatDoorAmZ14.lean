/- The law RangesLimits in every world: the integers' sort and Compact, and the law's walk. -/
import Derived.Test.YtochmoadmdmcbaaGreatDoorAmZ12
import Derived.Test.YtochmoadmdmcbaaGreatDoorAmZ13
namespace Go.Am.SZ
set_option linter.unusedSimpArgs false
set_option linter.unusedVariables false
set_option linter.unusedSectionVars false
open Go Go.RowKit Go.Proofs
set_option maxRecDepth 100000
theorem sortI_ok [Dr] : OrcOk Tryz.prog 55 orcSortI :=
  orcSortI_ok ⟨Tryz.f55, Tryz.func55, by kernel_rfl, by kernel_rfl⟩ Tryz.slices_Sort_int_none Tryz.slices_Sort_int
theorem compactI_ok [Dr] : OrcOk Tryz.prog 56 orcCmp :=
  orcCmp_ok ⟨Tryz.f56, Tryz.func56, by kernel_rfl, by kernel_rfl⟩ Tryz.slices_Compact_int_empty Tryz.slices_Compact_int_cells
def fsZ5 (n : Nat) : Option D := bif Nat.beq n 55 then some (.orc orcSortI) else bif Nat.beq n 56 then some (.orc orcCmp) else fsZ n
theorem fsZ5_ok {W : World} (hb : Base W) : ∀ f d, fsZ5 f = some d → match d with | .code F => CodeOk Tryz.prog f F | .orc g => @OrcOk (drAt Tryz.prog.globals.size W) Tryz.prog f g := by
  letI : Dr := drAt Tryz.prog.globals.size W
  have h0 : ∀ f d, fsZ f = some d → DOk f d := fun f d h => by
    have := fsZ_ok hb f d h
    unfold DOk
    exact this
  exact fun f d h => ov sortI_ok (ov compactI_ok h0) f d h

theorem walk5 {W : World} (hb : Base W) (n m : Int) : Calls Tryz.prog 5 #[.int .i64 n, .int .i64 m] W fun e w' => e = .returned (.bool true) ∧ Below W.heap.size W w' := by
  letI : Dr := drAt Tryz.prog.globals.size W
  have hev : Ev fsZ5 Tryz.prog.globals.size 5 [.int .i64 n, .int .i64 m] ⟨Tryz.prog.globals.size, []⟩ fun r _ => r = .bool true :=
    z5 (fs := fsZ5) (h := ⟨Tryz.prog.globals.size, []⟩) rfl rfl rfl rfl rfl rfl rfl rfl rfl rfl rfl rfl rfl rfl rfl rfl rfl rfl rfl rfl rfl rfl rfl rfl rfl rfl rfl (fun b x h => by simp [Hp.get, look] at h) (Nat.le_refl _) fun _ => rfl
  unfold Ev at hev
  obtain ⟨r, h', N, hrun, rfl⟩ := hev
  exact calls_true (run_sound mixed (fsZ5_ok hb) N) (h := ⟨Tryz.prog.globals.size, []⟩) (ρ := rho0) (hrun N (Nat.le_refl _)) GOK.start (Rel.start (base_ok hb)) (us := [.int .i64 n, .int .i64 m]) (by simp only [VRs, VR]; exact ⟨_, _, rfl, rfl, _, _, rfl, rfl, rfl⟩)
end Go.Am.SZ
