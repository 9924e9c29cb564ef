/- The program's functions, stepped through in the plain machine. -/
import Derived.Test.YtochmoadmdmcbaaDoorAmX11
import Derived.Test.YtochmoadmdmcbaaDoorAmChk7
import Derived.Test.YtochmoadmdmcbaaDoorAm21
import Derived.Lib.LaidU8
import Derived.Lib.AtoiErrMem
import Derived.KernelRfl
namespace Go.Am.S7
open Go Go.RowKit Go.Proofs
set_option maxRecDepth 100000

def isTrue : Option (V × Hp) → Bool
  | some (.bool b, _) => b
  | _ => false

theorem of_isTrue {x : Option (V × Hp)} (h : isTrue x = true) : ∃ h', x = some (.bool true, h') := by
  unfold isTrue at h
  split at h
  · rename_i b h'
    subst h
    exact ⟨h', rfl⟩
  · cases h

theorem known_runs : isTrue (run fs 60 Tryd.prog.globals.size 11 [] ⟨Tryd.prog.globals.size, []⟩) = true := by kernel_rfl

theorem known_ok (hj : OrcOk Tryd.prog 51 orcJoin) : OrcOk Tryd.prog 11 orcKnown where
  enters := ⟨Tryd.f11, Tryd.func11, by kernel_rfl, by kernel_rfl⟩
  ext := fun {ro args h r h'} H => by
    unfold orcKnown at H
    split at H
    · simp only [Option.some.injEq, Prod.mk.injEq] at H
      obtain ⟨_, rfl⟩ := H
      exact Ext.refl _ _
    · cases H
  calls := fun {ro args h r h'} H {B w0 ρ w args'} hg hr ha => by
    unfold orcKnown at H
    split at H
    · simp only [Option.some.injEq, Prod.mk.injEq] at H
      obtain ⟨rfl, rfl⟩ := H
      simp only [VRs] at ha
      subst ha
      obtain ⟨h', hrun⟩ := of_isTrue known_runs
      refine (calls_true (run_sound mixed (fs_ok hj) 60) (h := ⟨Tryd.prog.globals.size, []⟩) (us := []) hrun GOK.start Rel.start rfl).mono fun e w' ⟨he, hb⟩ => ?_
      exact ⟨_, ρ, he, fun _ _ => rfl, Nat.le_refl _, rfl, hr.same (.off hb)⟩
    · cases H

/-- The functions, known told by itself. -/
def fs1 (n : Nat) : Option D := bif Nat.beq n 11 then some (.orc orcKnown) else fs n

theorem fs1_ok (hj : OrcOk Tryd.prog 51 orcJoin) : ∀ f d, fs1 f = some d → match d with | .code F => CodeOk Tryd.prog f F | .orc g => OrcOk Tryd.prog f g := fun f d h => by
  unfold fs1 at h
  cases hb : Nat.beq f 11 with
  | true =>
    rw [hb] at h
    simp only [cond_true, Option.some.injEq] at h
    subst h
    have hm : f = 11 := Nat.eq_of_beq_eq_true hb
    subst hm
    exact known_ok hj
  | false =>
    rw [hb] at h
    exact fs_ok hj f d h

/-- A slice of bytes that came in. -/
theorem arg_row {P : Program} {W : World} {ρ : Nat → Pl} {h : Hp} {a : Option Addr} {len cap : Nat} {z : List Int} (hg : GOK P ρ h.nx) (hr : Rel W.heap.size W h.nx ρ h W)
    (w0 : (a = none ∧ len = 0 ∧ cap = 0 ∧ z = []) ∨ ∃ x, a = some x ∧ len ≤ cap ∧ cap ≤ maxLen ∧ z.length = cap ∧ (∀ i, i < z.length → W.cell? (x.add i) = some (.int .u8 (z.getD i 0))) ∧ ∀ n ∈ z, (Lit.int .u8 n).wf = true) :
    ∃ ρ' h' v, GOK P ρ' h'.nx ∧ Rel W.heap.size W h'.nx ρ' h' W ∧ (∀ b, b < h.nx → ρ' b = ρ b) ∧ Fr h h' ∧ VR ρ' h'.nx v (.slice a len cap) ∧ SlI h' v (z.take len) ∧ Shape v := by
  rcases w0 with ⟨rfl, rfl, rfl, rfl⟩ | ⟨x, rfl, hl, hm, hz, hc, _⟩
  · exact ⟨ρ, h, .nsl, hg, hr, fun _ _ => rfl, Fr.refl hr.lt, rfl, ⟨rfl, rfl⟩, .inl rfl⟩
  · by_cases h0 : len = 0
    · subst h0
      exact ⟨ρ, h, .esl, hg, hr, fun _ _ => rfl, Fr.refl hr.lt, ⟨x, cap, rfl⟩, ⟨by simp, by simp [intsV]⟩, .inr (.inl rfl)⟩
    · have hz0 := hc 0 (by omega)
      have hx : x.spot = none := by
        obtain ⟨b, o, s⟩ := x
        simp only [Addr.add, if_true] at hz0
        exact Go.Proofs.cell_spot hz0
      obtain ⟨hc1, hc2⟩ := row_cells (ρ := ρ) (nx := h.nx) hx hc
      have hblk : x.block < W.heap.size := by
        simp only [Addr.add, if_true] at hz0
        exact Lib.lt_of_cell hz0
      have hrel := hr.arg ⟨x.block, x.off, 1, z.length⟩ (intsV .u8 z) hblk (by simp [intsV]) hc1 hc2
      refine ⟨withPl ρ h.nx ⟨x.block, x.off, 1, z.length⟩, h.new (.cells 1 (intsV .u8 z)), .sl h.nx 0 len 0, hg.arg _, hrel, fun b hb => ?_, (Fr.refl hr.lt).new _, ?_, ?_, .inr (.inr ⟨_, _, _, rfl⟩)⟩
      · have : b ≠ h.nx := by omega
        simp [withPl, this]
      · obtain ⟨b, o, s⟩ := x
        simp only at hx
        subst hx
        refine ⟨by simp, cap, by simp [withPl], hl, .inl rfl, by simp [withPl]; omega⟩
      · refine ⟨by simp; omega, ?_⟩
        rw [shown_mk (L := intsV .u8 z) Hp.get_new_same (by simp [intsV]; omega)]
        simp [intsV, List.map_take]

theorem walk5 (hj : OrcOk Tryd.prog 51 orcJoin) (a0 : Option Addr) (len0 cap0 : Nat) (z0 : List Int) (a1 : Option Addr) (len1 cap1 : Nat) (z1 : List Int) (W : World)
    (w0 : (a0 = none ∧ len0 = 0 ∧ cap0 = 0 ∧ z0 = []) ∨ ∃ x, a0 = some x ∧ len0 ≤ cap0 ∧ cap0 ≤ maxLen ∧ z0.length = cap0 ∧ (∀ i, i < z0.length → W.cell? (x.add i) = some (.int .u8 (z0.getD i 0))) ∧ ∀ n ∈ z0, (Lit.int .u8 n).wf = true)
    (w1 : (a1 = none ∧ len1 = 0 ∧ cap1 = 0 ∧ z1 = []) ∨ ∃ x, a1 = some x ∧ len1 ≤ cap1 ∧ cap1 ≤ maxLen ∧ z1.length = cap1 ∧ (∀ i, i < z1.length → W.cell? (x.add i) = some (.int .u8 (z1.getD i 0))) ∧ ∀ n ∈ z1, (Lit.int .u8 n).wf = true) :
    Calls Tryd.prog 5 #[.slice a0 len0 cap0, .slice a1 len1 cap1] W fun e w' => e = .returned (.bool true) ∧ Below W.heap.size W w' := by
  obtain ⟨ρ1, h1, v0, hg1, hr1, hρ1, hf1, hv0, hs0, hsh0⟩ := arg_row (P := Tryd.prog) (h := ⟨Tryd.prog.globals.size, []⟩) GOK.start Rel.start w0
  obtain ⟨ρ2, h2, v1, hg2, hr2, hρ2, hf2, hv1, hs1, hsh1⟩ := arg_row hg1 hr1 w1
  have hev : Ev fs1 h2.nx 5 [v0, v1] h2 fun r _ => r = .bool true :=
    ev5 rfl rfl rfl rfl rfl rfl rfl rfl rfl rfl rfl rfl rfl rfl rfl (Sl.fr hf2 hs0) hs1 hsh0 hsh1 hr2.lt (Nat.le_refl _) fun _ => rfl
  unfold Ev at hev
  obtain ⟨r, h', N, hrun, rfl⟩ := hev
  exact calls_true (run_sound mixed (fs1_ok hj) N) (hrun N (Nat.le_refl _)) hg2 hr2 (us := [.slice a0 len0 cap0, .slice a1 len1 cap1]) ⟨_, _, rfl, VR.mono hρ2 hf2.nx v0 hv0, _, _, rfl, hv1, rfl⟩
end Go.Am.S7
