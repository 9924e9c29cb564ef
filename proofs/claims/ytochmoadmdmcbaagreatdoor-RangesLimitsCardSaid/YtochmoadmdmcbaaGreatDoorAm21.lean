/- The plain machine at a law: the world in which a law is called, told plainly. -/
import Derived.Test.YtochmoadmdmcbaaGreatDoorAm18
namespace Go.Am
set_option linter.unusedSimpArgs false
set_option linter.unusedVariables false
open Go Go.RowKit

def rho0 : Nat → Pl := fun b => ⟨b, 0, 0, 0⟩

theorem Rel.start [Dr] {W : World} {G : Nat} (ok : GlOk W.heap.size W := by exact ⟨Nat.zero_le _, fun g hg => absurd hg (Nat.not_lt_zero g)⟩) : Rel W.heap.size W G rho0 ⟨G, []⟩ W where
  bel := Bel.refl _ _
  hB := Nat.le_refl _
  hro := Nat.le_refl _
  lt := fun b x hg => by simp [Hp.get, look] at hg
  pos := fun b x hg => by simp [Hp.get, look] at hg
  blk := fun b x hg => by simp [Hp.get, look] at hg
  inj := fun b c x y hg => by simp [Hp.get, look] at hg
  ok := ok

theorem GOK.start {P : Program} : GOK P rho0 P.globals.size := ⟨Nat.le_refl _, fun _ _ => ⟨rfl, rfl⟩⟩

def withPl (ρ : Nat → Pl) (k : Nat) (p : Pl) : Nat → Pl := fun b => if b = k then p else ρ b

theorem GOK.arg {P : Program} {ρ : Nat → Pl} {k : Nat} (hg : GOK P ρ k) (p : Pl) : GOK P (withPl ρ k p) (k + 1) :=
  ⟨Nat.le_succ_of_le hg.1, fun n hn => by
    have : n ≠ k := by have := hg.1; omega
    simp only [withPl, this, if_false]
    exact hg.2 n hn⟩

/-- A row that came in. -/
theorem Rel.arg [Dr] {W : World} {ρ : Nat → Pl} {h : Hp} (hr : Rel W.heap.size W h.nx ρ h W) (p : Pl) (l : List V) (hp : p.blk < W.heap.size) (hl : l.length ≤ p.e)
    (hc : ∀ i, i < p.e → (W.cell? ⟨p.blk, p.sh + i, none⟩).isSome = true) (hv : ∀ i v, l[i]? = some v → ∃ u, W.cell? ⟨p.blk, p.sh + i, none⟩ = some u ∧ VR ρ h.nx v u) :
    Rel W.heap.size W (h.nx + 1) (withPl ρ h.nx p) (h.new (.cells p.z l)) W := by
  have hρ : ∀ b, b < h.nx → withPl ρ h.nx p b = ρ b := fun b hb => by
    have : b ≠ h.nx := by omega
    simp [withPl, this]
  have hsame : withPl ρ h.nx p h.nx = p := by simp [withPl]
  have get : ∀ b x, (h.new (.cells p.z l)).get b = some x → (b = h.nx ∧ x = .cells p.z l) ∨ (b < h.nx ∧ h.get b = some x) := fun b x hg => by
    by_cases e : h.nx = b
    · subst e
      rw [Hp.get_new_same] at hg
      exact .inl ⟨rfl, (Option.some.inj hg).symm⟩
    · rw [Hp.get_new_ne e] at hg
      exact .inr ⟨hr.lt b x hg, hg⟩
  refine ⟨Bel.refl _ _, Nat.le_refl _, Nat.le_refl _, fun b x hg => ?_, fun b x hg => ?_, fun b x hg => ?_, fun b c x y hb hc' h1 h2 => ?_, hr.ok⟩
  · rcases get b x hg with ⟨rfl, _⟩ | ⟨h1, _⟩
    · simp
    · simp; omega
  · rcases get b x hg with ⟨rfl, _⟩ | ⟨h1, h2⟩
    · rw [hsame]; exact ⟨hp, fun _ => hp, fun hle => by omega⟩
    · rw [hρ b h1]; exact ⟨(hr.pos b x h2).1, fun _ => (hr.pos b x h2).1, fun hle => by omega⟩
  · rcases get b x hg with ⟨rfl, rfl⟩ | ⟨h1, h2⟩
    · rw [hsame]
      refine ⟨rfl, hl, hc, fun hle => by omega, fun i v hi => ?_⟩
      obtain ⟨u, hu, hr'⟩ := hv i v hi
      exact ⟨u, hu, VR.mono hρ (Nat.le_succ _) v hr'⟩
    · rw [hρ b h1]
      have hb := BR.mono (w' := W) hρ (Nat.le_succ h.nx) rfl (hr.blk b x h2)
      cases x with
      | cells z l' =>
        obtain ⟨q0, q1, q2, q3, q4⟩ := hb
        exact ⟨q0, q1, q2, fun hle => by omega, q4⟩
      | map m => exact hb
  · rcases get b x hb with ⟨rfl, _⟩ | ⟨h3, _⟩ <;> omega

/-- The cells of a row of whole numbers. -/
def intsV (k : IntKind) (z : List Int) : List V := z.map (V.int k)

theorem row_cells {W : World} {x : Addr} {k : IntKind} {z : List Int} (hx : x.spot = none) (hz : ∀ i, i < z.length → W.cell? (x.add i) = some (.int k (z.getD i 0))) {ρ : Nat → Pl} {nx : Nat} :
    (∀ i, i < z.length → (W.cell? ⟨x.block, x.off + i, none⟩).isSome = true) ∧ (∀ i v, (intsV k z)[i]? = some v → ∃ u, W.cell? ⟨x.block, x.off + i, none⟩ = some u ∧ VR ρ nx v u) := by
  have e : ∀ i, x.add i = ⟨x.block, x.off + i, none⟩ := fun i => by
    obtain ⟨b, j, s⟩ := x
    simp only at hx
    subst hx
    simp [Addr.add]
  refine ⟨fun i hi => by rw [← e, hz i hi]; rfl, fun i v hv => ?_⟩
  simp only [intsV, List.getElem?_map] at hv
  cases hi : z[i]? with
  | none => rw [hi] at hv; cases hv
  | some n =>
    rw [hi] at hv
    simp only [Option.map_some, Option.some.injEq] at hv
    subst hv
    have hlt : i < z.length := by
      rcases Nat.lt_or_ge i z.length with h1 | h1
      · exact h1
      · rw [List.getElem?_eq_none h1] at hi; cases hi
    refine ⟨.int k n, ?_, by simp [VR]⟩
    rw [← e, hz i hlt, List.getD_eq_getElem?_getD, hi]
    rfl

/-- What a call that says true means. -/
theorem calls_true [Dr] {P : Program} {k : K} (hk : CallOk P k) {ρ : Nat → Pl} {h h' : Hp} {W : World} {f : Nat} {args : List V} {us : List Value} (H : k h.nx f args h = some (.bool true, h')) (hg : GOK P ρ h.nx) (hr : Rel W.heap.size W h.nx ρ h W) (ha : VRs ρ h.nx args us) :
    Calls P f us.toArray W fun e w' => e = .returned (.bool true) ∧ Below W.heap.size W w' :=
  (hk.calls H hg hr ha).mono fun e w' ⟨u, ρ', he, _, _, hu, hr'⟩ => by
    simp only [VR] at hu
    subst hu
    exact ⟨he, hr'.bel.below⟩
end Go.Am
