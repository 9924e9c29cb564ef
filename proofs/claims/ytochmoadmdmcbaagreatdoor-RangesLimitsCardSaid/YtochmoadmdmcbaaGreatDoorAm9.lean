/- Each operation of the plain machine is what the loaded program's operation comes to: append, copy, clear, maps, the greatest and the least. -/
import Derived.Test.YtochmoadmdmcbaaGreatDoorAm8
namespace Go.Am
set_option linter.unusedSimpArgs false
set_option linter.unusedVariables false
open Go Go.RowKit
variable [Dr]
section
variable {P : Program} {B : Nat} {w0 w : World} {ro : Nat} {ρ : Nat → Pl} {e : Env} {h h' : Hp} {ev : Operand → Value} {v : V}

/-- What a run on values comes to. -/
def OutV (B : Nat) (w0 : World) (ro : Nat) (ρ : Nat → Pl) (nx0 : Nat) (v : V) (h' : Hp) (r : Result Value) : Prop :=
  ∃ u w' ρ', r = .ok u w' ∧ (∀ b, b < nx0 → ρ' b = ρ b) ∧ nx0 ≤ h'.nx ∧ VR ρ' h'.nx v u ∧ Rel B w0 ro ρ' h' w'

theorem OutV.quiet {u : Value} {r : Result Value} (hr : Rel B w0 ro ρ h w) (he : r = .ok u w) (hv : VR ρ h.nx v u) : OutV B w0 ro ρ h.nx v h r :=
  ⟨u, w, ρ, he, fun _ _ => rfl, Nat.le_refl _, hv, hr⟩

/-- A new row behind an append that had no room. -/
theorem grown_row {nx : Nat} (hr : Rel B w0 ro ρ h w) (hnx : h.nx = nx) {el : TypeId} {i : TypeInfo} {z : Value} (hz : z.cells.size = i.size) {need cap : Nat} {us : List Value} {l : List V} (hv : VRs ρ h.nx l us) (hl : us.length = need * i.size) (hc : need ≤ cap) :
    Rel B w0 ro (upd ρ nx ⟨w.heap.size, 0, i.size, cap * i.size⟩) (h.new (.cells i.size l)) (w.drew.alloc (.cells (us.toArray ++ Builtin.zeroCells z.cells (cap - need)) el)) := by
  have hsz : (us.toArray ++ Builtin.zeroCells z.cells (cap - need)).size = cap * i.size := by
    simp only [Array.size_append, List.size_toArray, size_zeroCells, hz, hl, ← Nat.add_mul]
    congr 1
    omega
  have := hr.drew.row (arr := us.toArray ++ Builtin.zeroCells z.cells (cap - need)) (us := us) (rest := (Builtin.zeroCells z.cells (cap - need)).toList) (by simp) hv i.size el 0 0 (.inl rfl)
  rw [hsz] at this
  subst hnx
  exact this

theorem app_rel (hr : Rel B w0 ro ρ h w) {t tx ty el : TypeId} {i : TypeInfo} {z : Value} (ht : P.underlying t = some (.slice el)) (hi : P.info? el = some i) (hz : i.zero = some z) (hzs : z.cells.size = i.size)
    {s : V} {sv x : Value} (hs : VR ρ h.nx s sv) {m : Nat} {news : List V} {us : List Value} (hsrc : Src P i.size tx x m us w) (hn : VRs ρ h.nx news us)
    (H : app ro h i.size i.bytes s m news = some (v, h')) : OutV B w0 ro ρ h.nx v h' ((Builtin.append_ #[t, tx] ty #[sv, x]).run P w) := by
  have hul := hsrc.newsLen
  cases s <;> try (simp only [app, reduceCtorEq] at H; done)
  · rename_i b of n c
    simp only [VR] at hs
    obtain ⟨hb, c', rfl, hnc, hcc, hfit⟩ := hs
    simp only [app] at H
    split at H
    · -- nothing is appended
      rename_i hm
      subst hm
      simp only [Option.some.injEq, Prod.mk.injEq] at H
      obtain ⟨rfl, rfl⟩ := H
      have hu0 : us = [] := List.eq_nil_of_length_eq_zero (by rw [hul]; simp)
      subst hu0
      have hrun := run_append_room_src (P := P) w t tx ty el i ht hi (ρ b).blk ((ρ b).sh + of) n c' x 0 [] hsrc (by omega) (fun j hj => by simp at hj) (fun j hj => by simp at hj)
      exact OutV.quiet hr hrun (by simp only [VR]; exact ⟨hb, c', by simp, hnc, hcc, hfit⟩)
    · rename_i hm
      split at H
      case isFalse => cases H
      rename_i hroom
      obtain ⟨hby, hmx⟩ := hroom
      simp only [roomMax] at hby hmx
      -- what a new row comes to
      have grow : ∀ {olds : List V} {h1 : Hp}, shown h i.size b of n = some olds → h1.nx = h.nx → Rel B w0 ro ρ h1 w → c' < n + m →
          OutV B w0 ro ρ h.nx (.sl h.nx 0 (n + m) 0) (h1.new (.cells i.size (olds ++ news))) ((Builtin.append_ #[t, tx] ty #[.slice (some ⟨(ρ b).blk, (ρ b).sh + of, none⟩) n c', x]).run P w) := fun {olds h1} hsh hnx hr1 hlt => by
        obtain ⟨_, os, ho1, ho2, ho3⟩ := shown_rel hr hsh
        have hold := run_firstCells_some (P := P) w.drew i.size n ⟨(ρ b).blk, (ρ b).sh + of, none⟩ n c' os (by rw [ho1]) (by simpa using ho3)
        have hrun := run_append_grow_src (P := P) w t tx ty el i z ht hi hz (some ⟨(ρ b).blk, (ρ b).sh + of, none⟩) n c' os hold x m us hsrc hlt (by omega) (growslice_fits hlt (by omega))
        have hge := grownCap_ge w (n + m) c' el
        have hrow := grown_row (nx := h.nx) (el := el) hr1 hnx hzs (need := n + m) (cap := grownCap w (n + m) c' el) (us := os ++ us) (l := olds ++ news) (by rw [hnx]; exact ho2.app hn) (by rw [List.length_append, ho1, hul, Nat.add_mul]) hge
        refine ⟨_, _, _, hrun, upd_lt, by rw [Hp.nx_new, hnx]; exact Nat.le_succ _, ?_, hrow⟩
        simp only [VR, upd_same, Hp.nx_new, hnx]
        exact ⟨Nat.lt_succ_self _, _, rfl, hge, .inl trivial, by omega⟩
      split at H
      · -- the room is not known
        split at H
        case isFalse => cases H
        rename_i hro
        simp only [Option.bind_eq_some_iff, Option.some.injEq, Prod.mk.injEq] at H
        obtain ⟨olds, hsh, rfl, rfl⟩ := H
        by_cases hcap : n + m ≤ c'
        · have hsh' := hsh
          unfold shown at hsh'
          split at hsh'
          · rename_i z' l hg
            split at hsh'
            · rename_i e1
              subst e1
              obtain ⟨hle, rfl⟩ := loadN_eq hsh'
              obtain ⟨hzz, hle2, hsome, hown, _⟩ := hr.blk b _ hg
              have hcz : (n + m) * i.size ≤ c' * i.size := Nat.mul_le_mul_right _ hcap
              rw [hzz] at hfit
              have hlz : news.length = m * i.size := by rw [← hn.length, hul]
              have hnm : (n + m) * i.size = n * i.size + m * i.size := Nat.add_mul _ _ _
              have hpl := hr.inplace hg hro (o := of) (k := n * i.size) hle (by omega) hn
              have hul' : us.length = m * i.size := hul
              have hrun := run_append_room_src (P := P) w t tx ty el i ht hi (ρ b).blk ((ρ b).sh + of) n c' x m us hsrc hcap
                (fun j hj => by rw [Nat.add_assoc, Nat.add_assoc]; exact hsome (of + (n * i.size + j)) (by omega))
                (fun j hj => by rw [Nat.add_assoc, Nat.add_assoc]; exact (hown hro).unfrozen _ (hsome (of + (n * i.size + j)) (by omega)))
              refine ⟨_, _, _, hrun, upd_lt, Nat.le_succ _, ?_, hpl⟩
              simp only [VR, upd_same]
              exact ⟨Nat.lt_succ_self _, c', by simp, hcap, .inl trivial, by omega⟩
            · cases hsh'
          · cases hsh'
        · exact grow hsh rfl (hr.del b) (by omega)
      · rename_i hc0
        have hc1 : c = c' + 1 := by omega
        subst hc1
        split at H
        · -- there is room
          rename_i hlt
          split at H
          case isFalse => cases H
          rename_i hro
          split at H
          case h_2 => cases H
          rename_i z' l hg
          split at H
          case isFalse => cases H
          rename_i e1
          subst e1
          simp only [Option.bind_eq_some_iff, Option.some.injEq, Prod.mk.injEq] at H
          obtain ⟨l', hl', rfl, rfl⟩ := H
          obtain ⟨hle, rfl⟩ := setN_eq hl'
          obtain ⟨hzz, hle2, hsome, hown, _⟩ := hr.blk b _ hg
          have hlz : news.length = m * i.size := by rw [← hn.length, hul]
          have hst := hr.store hg hro hle hn
          have hrun := run_append_room_src (P := P) w t tx ty el i ht hi (ρ b).blk ((ρ b).sh + of) n c' x m us hsrc (by omega)
            (fun j hj => by rw [Nat.add_assoc, Nat.add_assoc]; exact hsome (of + (n * i.size + j)) (by omega))
            (fun j hj => by rw [Nat.add_assoc, Nat.add_assoc]; exact (hown hro).unfrozen _ (hsome (of + (n * i.size + j)) (by omega)))
          rw [Nat.add_assoc] at hrun
          refine ⟨_, _, _, hrun, fun _ _ => rfl, Nat.le_refl _, ?_, hst⟩
          simp only [VR]
          exact ⟨hb, c', rfl, by omega, .inr rfl, hfit⟩
        · rename_i hlt
          simp only [Option.bind_eq_some_iff, Option.some.injEq, Prod.mk.injEq] at H
          obtain ⟨olds, hsh, rfl, rfl⟩ := H
          exact grow hsh rfl hr (by omega)
  · -- nil
    simp only [VR] at hs
    subst hs
    simp only [app] at H
    split at H
    · rename_i hm
      subst hm
      simp only [Option.some.injEq, Prod.mk.injEq] at H
      obtain ⟨rfl, rfl⟩ := H
      refine OutV.quiet (u := .slice none 0 0) hr ?_ (by simp only [VR])
      have hcs := hsrc.cells
      rcases hsrc.kind with ⟨e', hk⟩ | hk <;> simp [Builtin.append_, run_underlying ht, run_underlying hk, sizeOf, typeInfo, hi, hsrc.len, hcs]
    · rename_i hm
      obtain ⟨⟨hby, hmx⟩, H⟩ := ite_some H
      simp only [roomMax] at hby hmx
      simp only [Prod.mk.injEq] at H
      obtain ⟨rfl, rfl⟩ := H
      have hold := run_firstCells_none (P := P) w.drew i.size 0 0 0
      have hrun := run_append_grow_src (P := P) w t tx ty el i z ht hi hz none 0 0 [] (by simpa using hold) x m us hsrc (by omega) (by omega) (growslice_fits (by omega) (by simp only [Nat.zero_add]; omega))
      simp only [Nat.zero_add, List.nil_append] at hrun
      have hge := grownCap_ge w m 0 el
      have hrow := grown_row (nx := h.nx) (el := el) hr rfl hzs (need := m) (cap := grownCap w m 0 el) hn hul hge
      refine ⟨_, _, _, hrun, upd_lt, Nat.le_succ _, ?_, hrow⟩
      simp only [VR, upd_same]
      exact ⟨Nat.lt_succ_self _, _, rfl, hge, .inl trivial, by omega⟩
  · -- empty
    simp only [VR] at hs
    obtain ⟨ad, c', rfl⟩ := hs
    simp only [app] at H
    obtain ⟨hm, H⟩ := ite_some H
    subst hm
    simp only at H
    obtain ⟨rfl, rfl⟩ := H
    have hu0 : us = [] := List.eq_nil_of_length_eq_zero (by rw [hul]; simp)
    subst hu0
    refine OutV.quiet (u := .slice (some ad) 0 c') hr ?_ (by simp only [VR]; exact ⟨_, _, rfl⟩)
    have hcs := hsrc.cells
    rcases hsrc.kind with ⟨e', hk⟩ | hk <;> simp [Builtin.append_, run_underlying ht, run_underlying hk, sizeOf, typeInfo, hi, hsrc.len, hcs, storeCells]
end
end Go.Am
