/- The law RangesCombine in every world. -/
import Derived.Test.YtochmoadmdmcbaaDoorAmO1
import Derived.Test.YtochmoadmdmcbaaDoorAm26
import Derived.Test.YtochmoadmdmcbaaDoorAmC9
import Derived.Test.YtochmoadmdmcbaaDoorShelf
namespace Go.Am.S7
open Go Go.RowKit Go.Proofs
set_option maxRecDepth 100000
theorem sortI_ok : OrcOk Tryd.prog 54 orcSortI :=
  orcSortI_ok ⟨Tryd.f54, Tryd.func54, by kernel_rfl, by kernel_rfl⟩ Tryd.slices_Sort_int_none Tryd.slices_Sort_int
theorem compactI_ok : OrcOk Tryd.prog 55 orcCmp :=
  orcCmp_ok ⟨Tryd.f55, Tryd.func55, by kernel_rfl, by kernel_rfl⟩ Tryd.slices_Compact_int_empty Tryd.slices_Compact_int_cells
def fs3 (n : Nat) : Option D := bif Nat.beq n 54 then some (.orc orcSortI) else bif Nat.beq n 55 then some (.orc orcCmp) else fs2 n
theorem fs3_ok (hj : OrcOk Tryd.prog 51 orcJoin) : ∀ f d, fs3 f = some d → match d with | .code F => CodeOk Tryd.prog f F | .orc g => OrcOk Tryd.prog f g := fun f d h => by
  unfold fs3 at h
  cases hb : Nat.beq f 54 with
  | true =>
    rw [hb] at h
    simp only [cond_true, Option.some.injEq] at h
    subst h
    have hm : f = 54 := Nat.eq_of_beq_eq_true hb
    subst hm
    exact sortI_ok
  | false =>
    rw [hb] at h
    simp only [cond_false] at h
    cases hc : Nat.beq f 55 with
    | true =>
      rw [hc] at h
      simp only [cond_true, Option.some.injEq] at h
      subst h
      have hm : f = 55 := Nat.eq_of_beq_eq_true hc
      subst hm
      exact compactI_ok
    | false =>
      rw [hc] at h
      exact fs2_ok hj f d h
theorem walk7 (hj : OrcOk Tryd.prog 51 orcJoin) (a0 : Option Addr) (len0 cap0 : Nat) (z0 : List (Int × Int)) (a1 : Option Addr) (len1 cap1 : Nat) (z1 : List (Int × Int)) (W : World) (w0 : IsPairs W a0 len0 cap0 z0) (w1 : IsPairs W a1 len1 cap1 z1) :
    Calls Tryd.prog 7 #[.slice a0 len0 cap0, .slice a1 len1 cap1] W fun e w' => e = .returned (.bool true) ∧ Below W.heap.size W w' := by
  obtain ⟨ρ1, h1, v0, hg1, hr1, hρ1, hf1, hv0, hs0, hsh0⟩ := arg_pairs (P := Tryd.prog) (h := ⟨Tryd.prog.globals.size, []⟩) GOK.start Rel.start w0
  obtain ⟨ρ2, h2, v1, hg2, hr2, hρ2, hf2, hv1, hs1, hsh1⟩ := arg_pairs hg1 hr1 w1
  have hev : Ev fs3 h2.nx 7 [v0, v1] h2 fun r _ => r = .bool true :=
    ev7 rfl rfl rfl rfl rfl rfl rfl rfl rfl rfl rfl rfl rfl rfl rfl rfl rfl rfl rfl rfl rfl rfl rfl rfl rfl rfl rfl rfl rfl rfl rfl rfl rfl rfl rfl rfl (Sl.fr hf2 hs0) hsh0 hs1 hsh1 hr2.lt (Nat.le_refl _) fun _ => rfl
  unfold Ev at hev
  obtain ⟨r, h', N, hrun, rfl⟩ := hev
  exact calls_true (run_sound mixed (fs3_ok hj) N) (hrun N (Nat.le_refl _)) hg2 hr2 (us := [.slice a0 len0 cap0, .slice a1 len1 cap1]) ⟨_, _, rfl, VR.mono hρ2 hf2.nx v0 hv0, _, _, rfl, hv1, rfl⟩
end Go.Am.S7
