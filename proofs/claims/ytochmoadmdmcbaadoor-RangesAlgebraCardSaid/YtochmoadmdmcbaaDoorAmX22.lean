/- The library's sort at this program; the functions, known and the sort told by themselves. -/
import Derived.Test.YtochmoadmdmcbaaDoorAmX20
import Derived.Test.YtochmoadmdmcbaaDoorSort
namespace Go.Am.S7
open Go Go.RowKit Go.Proofs Go.Sort Go.Shelf
set_option maxRecDepth 100000

def tabC : List (Nat × F) := [(47, F47), (48, F48), (49, F49), (58, F58)]
theorem tabC_ok : ∀ p ∈ tabC, CodeOk Tryd.prog p.1 p.2 := by
  unfold tabC
  simp only [List.forall_mem_cons]
  exact ⟨k47, k48, k49, k58, fun p hp => by cases hp⟩
def fsC (n : Nat) : Option D := find n tabC
theorem fsC_ok [Dr] : ∀ f d, fsC f = some d → match d with | .code F => CodeOk Tryd.prog f F | .orc g => OrcOk Tryd.prog f g := fun f d h => by
  obtain ⟨F, rfl, hF⟩ := find_ok tabC_ok h
  exact hF

theorem grow_of {w w' : World} (h : @Bel drOn w.heap.size w w') : ∃ q os, w' = grow (w.drewN q) os := by
  letI : Dr := drOn
  refine ⟨w'.drawn - w.drawn, w'.heap.extract w.heap.size w'.heap.size, ?_⟩
  have hd := h.dr rfl
  have h1 := h.os
  have h2 := h.tape
  have h3 := h.output
  have h4 := h.size
  have h5 := h.block
  cases w' with
  | mk heap tape drawn os out =>
    simp only at h1 h2 h3 h4 h5 hd
    subst h1 h2 h3
    simp only [grow, World.drewN, World.mk.injEq, true_and, and_true]
    refine ⟨?_, by omega⟩
    apply Array.ext_getElem?
    intro i
    rcases Nat.lt_or_ge i w.heap.size with hi | hi
    · rw [Array.getElem?_append_left hi]
      exact h5 i hi
    · rw [Array.getElem?_append_right hi]
      simp only [Array.getElem?_extract]
      split
      · congr 1; omega
      · rw [Array.getElem?_eq_none (by omega)]

theorem closure47 (x y : Int × Int) (W : World) : Calls Tryd.prog 47 #[.agg (encR x).toArray, .agg (encR y).toArray] W fun e w' => e = .returned (.int .i64 (cfR x y)) ∧ ∃ q os', w' = grow (W.drewN q) os' := by
  have hev : Ev fsC Tryd.prog.globals.size 47 [.agg [.int .i64 x.1, .int .i64 x.2], .agg [.int .i64 y.1, .int .i64 y.2]] ⟨Tryd.prog.globals.size, []⟩ fun r _ => r = .int .i64 (cfR x y) :=
    ev47 rfl rfl rfl rfl fun _ => rfl
  unfold Ev at hev
  obtain ⟨r, h', N, hrun, rfl⟩ := hev
  letI : Dr := drOn
  have hk : CallOk Tryd.prog (run fsC N) := run_sound mixed fsC_ok N
  refine (hk.calls (hrun N (Nat.le_refl _)) (w := W) (w0 := W) (B := W.heap.size) (args' := [.agg (encR x).toArray, .agg (encR y).toArray]) GOK.start Rel.start ?_).mono fun e w' ⟨u, ρ', he, _, _, hu, hr⟩ => ?_
  · simp only [VRs, VR]
    exact ⟨_, _, rfl, ⟨_, rfl, _, _, rfl, rfl, _, _, rfl, rfl, rfl⟩, _, _, rfl, ⟨_, rfl, _, _, rfl, rfl, _, _, rfl, rfl, rfl⟩, rfl⟩
  · simp only [VR] at hu
    subst hu
    exact ⟨he, grow_of hr.bel⟩

theorem sort_ok [Dr] : OrcOk Tryd.prog 46 (orcSort 47) :=
  orcSort_ok ⟨Tryd.f46, Tryd.func46, by kernel_rfl, by kernel_rfl⟩
    (fun p cap fv w => AnyF.slices_SortFunc_none Tryd.sortRg p cap fv w)
    (fun blk off cap d w hH hblk hsz => AnyQ.slices_SortFunc_total Tryd.sortRg 2 Tryd.isAgg53 Tryd.sizeOf53 encR (fun _ => rfl)
      (fun x v hv => by simp [encR] at hv; rcases hv with rfl | rfl <;> rfl) cfR swoR 47 #[] blk off cap d w (enters_of Tryd.func47 (by kernel_rfl) rfl) (fun _ _ _ _ x y => closure47 x y _) hH hblk hsz totR)

def fs2 (n : Nat) : Option D := bif Nat.beq n 46 then some (.orc (orcSort 47)) else fs1 n

theorem fs2_ok (hj : OrcOk Tryd.prog 51 orcJoin) : ∀ f d, fs2 f = some d → match d with | .code F => CodeOk Tryd.prog f F | .orc g => OrcOk Tryd.prog f g := fun f d h => by
  unfold fs2 at h
  cases hb : Nat.beq f 46 with
  | true =>
    rw [hb] at h
    simp only [cond_true, Option.some.injEq] at h
    subst h
    have hm : f = 46 := Nat.eq_of_beq_eq_true hb
    subst hm
    exact sort_ok
  | false =>
    rw [hb] at h
    exact fs1_ok hj f d h
end Go.Am.S7
