/- Slices of pairs of whole numbers that come in. -/
import Derived.Test.YtochmoadmdmcbaaGreatDoorAmZ11
import Derived.ChangeSame
import Derived.ChangeSlices
namespace Go.Am.SZ
set_option linter.unusedSimpArgs false
set_option linter.unusedVariables false
set_option linter.unusedSectionVars false
open Go Go.RowKit Go.Proofs Go.ChangeShapes
set_option maxRecDepth 100000

theorem list_of {α : Type} {R : Nat → α → Prop} : ∀ (n : Nat), (∀ i, i < n → ∃ p, R i p) → ∃ zs : List α, zs.length = n ∧ ∀ i p, zs[i]? = some p → R i p
  | 0, _ => ⟨[], rfl, fun i p h => by simp at h⟩
  | n + 1, h => by
    obtain ⟨zs, hl, hz⟩ := list_of n fun i hi => h i (by omega)
    obtain ⟨p, hp⟩ := h n (by omega)
    refine ⟨zs ++ [p], by simp [hl], fun i q hq => ?_⟩
    rcases Nat.lt_or_ge i n with hi | hi
    · rw [List.getElem?_append_left (by omega)] at hq
      exact hz i q hq
    · rw [List.getElem?_append_right (by omega), hl] at hq
      have : i - n = 0 := by
        rcases Nat.eq_zero_or_pos (i - n) with h0 | h0
        · exact h0
        · rw [List.getElem?_eq_none (by simp; omega)] at hq; cases hq
      rw [this] at hq
      simp at hq
      subst hq
      have : i = n := by omega
      subst this
      exact hp

/-- What a slice of pairs is. -/
def IsPairs (w : World) (a : Option Addr) (len cap : Nat) (zs : List (Int × Int)) : Prop :=
  (a = none ∧ len = 0 ∧ cap = 0 ∧ zs = []) ∨
  ∃ x, a = some x ∧ len ≤ cap ∧ zs.length = cap ∧ ∀ i p, zs[i]? = some p → w.cell? (x.add (i * 2)) = some (.int .i64 p.1) ∧ w.cell? (x.add (i * 2 + 1)) = some (.int .i64 p.2)

theorem open_pairs {H : Type} {enc : TypeId × Value → H} {P : Program} {w : World} {base : Nat} {spare : Nat → Bool} {held : Bool} {t e : TypeId} {f0 f1 : Field} {fuel : Nat} {a : Option Addr} {len cap : Nat} {x : DataW H × List MemPlace}
    (ht : P.underlying t = some (.slice e)) (he : P.underlying e = some (.struct #[f0, f1])) (h0 : P.underlying f0.type = some (.int .i64)) (h1 : P.underlying f1.type = some (.int .i64)) (o0 : f0.offset = 0) (o1 : f1.offset = 1)
    (c0 : P.cellsOf f0.type = 1) (c1 : P.cellsOf f1.type = 1) (hc : P.cellsOf e = 2) (hsp : ∀ b, spare b = true) (h : DataW.trod enc P w base spare held fuel t [.slice a len cap] = some x) : ∃ zs, IsPairs w a len cap zs := by
  rcases DataW.trod_slice ht h with ⟨hcs, _⟩ | ⟨b, len', cap', elems, rest, n, _, hcs, _, _, hl, _, hlen, hel, hrs, _⟩
  · simp at hcs
    obtain ⟨rfl, rfl, rfl⟩ := hcs
    exact ⟨[], .inl ⟨rfl, rfl, rfl, rfl⟩⟩
  · simp at hcs
    obtain ⟨rfl, rfl, rfl⟩ := hcs
    obtain ⟨zs, hz, hzs⟩ := list_of (R := fun i (p : Int × Int) => w.cell? (b.add (i * 2)) = some (.int .i64 p.1) ∧ w.cell? (b.add (i * 2 + 1)) = some (.int .i64 p.2)) cap fun i hi => by
      obtain ⟨hrl, hre⟩ := hrs (hsp _)
      have hb : ∃ y, (w.cells? base (b.add (i * P.cellsOf e)) (P.cellsOf e)).bind (DataW.trod enc P w base spare held n e) = some y := by
        rcases Nat.lt_or_ge i len with hi2 | hi2
        · exact ⟨_, (hel i hi2).trans (List.getElem?_eq_getElem (by omega))⟩
        · have := hre (i - len) (by omega)
          rw [show len + (i - len) = i by omega] at this
          exact ⟨_, this.trans (List.getElem?_eq_getElem (by omega))⟩
      obtain ⟨y, hb⟩ := hb
      rw [hc, Option.bind_eq_some_iff] at hb
      obtain ⟨cs, hcs, hy⟩ := hb
      obtain ⟨y0, y1, m, _, hl2, g0, g1⟩ := trod_struct2 he hy
      rw [o0, c0] at g0
      rw [o1, c1] at g1
      obtain ⟨_, hcl, hcell⟩ := World.cells?_some hcs
      obtain ⟨n0, e0, _⟩ := DataW.trod_int h0 g0
      obtain ⟨n1, e1, _⟩ := DataW.trod_int h1 g1
      have k0 := hcell 0 (by omega)
      have k1 := hcell 1 (by omega)
      match cs, hcl with
      | [u, v], _ =>
        simp at e0 e1
        subst e0 e1
        refine ⟨(n0, n1), ?_, ?_⟩
        · simpa [Addr.add] using k0
        · rw [Addr.add_add] at k1
          simpa using k1
    exact ⟨zs, .inr ⟨b, rfl, hl, hz, hzs⟩⟩

theorem arg_pairs [Dr] {P : Program} {W : World} {ρ : Nat → Pl} {h : Hp} {a : Option Addr} {len cap : Nat} {zs : List (Int × Int)} (hg : GOK P ρ h.nx) (hr : Rel W.heap.size W h.nx ρ h W) (w0 : IsPairs W a len cap zs) :
    ∃ ρ' h' v, GOK P ρ' h'.nx ∧ Rel W.heap.size W h'.nx ρ' h' W ∧ (∀ b, b < h.nx → ρ' b = ρ b) ∧ Fr h h' ∧ VR ρ' h'.nx v (.slice a len cap) ∧ SlG h' v (zs.take len) ∧ Shape v := by
  rcases w0 with ⟨rfl, rfl, rfl, rfl⟩ | ⟨x, rfl, hl, hz, hc⟩
  · exact ⟨ρ, h, .nsl, hg, hr, fun _ _ => rfl, Fr.refl hr.lt, rfl, ⟨rfl, rfl⟩, .inl rfl⟩
  · by_cases h0 : len = 0
    · subst h0
      exact ⟨ρ, h, .esl, hg, hr, fun _ _ => rfl, Fr.refl hr.lt, ⟨x, cap, rfl⟩, ⟨by simp, by simp [flat]⟩, .inr (.inl rfl)⟩
    · subst hz
      have hz0 := (hc 0 zs[0] (List.getElem?_eq_getElem (by omega))).1
      have hx : x.spot = none := by
        obtain ⟨b, o, s⟩ := x
        simp only [Addr.add, Nat.zero_mul, if_true] at hz0
        exact Go.Proofs.cell_spot hz0
      have hblk : x.block < W.heap.size := by
        simp only [Addr.add, Nat.zero_mul, if_true] at hz0
        exact Lib.lt_of_cell hz0
      obtain ⟨b, o, s⟩ := x
      simp only at hx hblk
      subst hx
      have hadd : ∀ j, (⟨b, o, none⟩ : Addr).add j = ⟨b, o + j, none⟩ := fun j => by
        unfold Addr.add
        split <;> simp_all
      have hcell : ∀ j v, (flat zs)[j]? = some v → ∃ u, W.cell? ⟨b, o + j, none⟩ = some u ∧ VR ρ h.nx v u := fun j v hv => by
        have hj : j < zs.length * 2 := by
          rw [← flat_len]
          exact (List.getElem?_eq_some_iff.1 hv).1
        have hi : j / 2 < zs.length := by omega
        obtain ⟨q1, q2⟩ := flat_get (List.getElem?_eq_getElem hi)
        obtain ⟨g1, g2⟩ := hc (j / 2) _ (List.getElem?_eq_getElem hi)
        rw [hadd] at g1 g2
        rcases Nat.mod_two_eq_zero_or_one j with hm | hm
        · have e : j / 2 * 2 = j := by omega
          rw [e] at q1 g1
          rw [hv] at q1
          cases q1
          exact ⟨_, g1, by simp only [VR]⟩
        · have e : j / 2 * 2 + 1 = j := by omega
          rw [e] at q2 g2
          rw [hv] at q2
          cases q2
          exact ⟨_, g2, by simp only [VR]⟩
      have hrel := hr.arg ⟨b, o, 2, zs.length * 2⟩ (flat zs) hblk (by rw [flat_len]; exact Nat.le_refl _) (fun j hj => by
        obtain ⟨v, hv⟩ : ∃ v, (flat zs)[j]? = some v := ⟨_, List.getElem?_eq_getElem (by rw [flat_len]; exact hj)⟩
        obtain ⟨u, hu, _⟩ := hcell j v hv
        rw [hu]; rfl) hcell
      refine ⟨withPl ρ h.nx ⟨b, o, 2, zs.length * 2⟩, h.new (.cells 2 (flat zs)), .sl h.nx 0 len 0, hg.arg _, hrel, fun c hb => ?_, (Fr.refl hr.lt).new _, ?_, ?_, .inr (.inr ⟨_, _, _, rfl⟩)⟩
      · have : c ≠ h.nx := by omega
        simp [withPl, this]
      · refine ⟨by simp, zs.length, by simp [withPl], hl, .inl rfl, by simp [withPl]⟩
      · have hkt : (zs.take len).length = len := by simp; omega
        refine ⟨hkt.symm, ?_⟩
        rw [hkt, shown_mk (L := flat zs) Hp.get_new_same (by rw [flat_len]; omega), List.drop_zero, flat_take]
end Go.Am.SZ
