/- Each operation of the plain machine is what the loaded program's operation comes to: copy, clear, a byte slice taken as it is; and all operations together. -/
import Derived.Test.YtochmoadmdmcbaaDoorAm10
namespace Go.Am
open Go Go.RowKit
variable [Dr]
section
variable {P : Program} {B : Nat} {w0 w : World} {ro : Nat} {ρ : Nat → Pl} {e : Env} {h h' : Hp} {ev : Operand → Value} {v : V}

omit [Dr] in
theorem freeze_heap_ne (a : Addr) (n k : Nat) (hk : k ≠ a.block) : (w.freeze a n).heap[k]? = w.heap[k]? := by
  unfold World.freeze
  split
  · rfl
  · simp only [Array.getElem?_modify]
    rw [if_neg (by omega)]

theorem Rel.freeze (hr : Rel B w0 ro ρ h w) {b z : Nat} {l : List V} (hg : h.get b = some (.cells z l)) (hro : ro ≤ b) {arr : Array Value} {el : TypeId} {fr : Nat × Nat} (hrow : w.heap[(ρ b).blk]? = some (.cells arr el fr)) :
    Rel B w0 ro ρ h (w.freeze ⟨(ρ b).blk, arr.size, none⟩ 1) := by
  have hB := (hr.pos b _ hg).2.2 hro
  have hsz : (w.freeze ⟨(ρ b).blk, arr.size, none⟩ 1).heap.size = w.heap.size := by simp [World.freeze]
  have hcell : ∀ i, (w.freeze ⟨(ρ b).blk, arr.size, none⟩ 1).cell? ⟨(ρ b).blk, i, none⟩ = w.cell? ⟨(ρ b).blk, i, none⟩ := fun i => by
    simp [World.freeze, World.cell?, Array.getElem?_modify, hrow]
  refine ⟨hr.bel.trans ⟨by simp [World.freeze], by simp [World.freeze], by simp [World.freeze], by rw [hsz]; exact Nat.le_refl _, fun k hk => freeze_heap_ne _ _ _ (by simp only; omega), fun _ => by simp [World.freeze]⟩, by rw [hsz]; exact hr.hB, hr.hro, hr.lt, fun c x hc => by rw [hsz]; exact hr.pos c x hc, fun c x hc => ?_, hr.inj⟩
  by_cases e : (ρ c).blk = (ρ b).blk
  · have hbc : c = b := by
      rcases Decidable.em (c = b) with h1 | h1
      · exact h1
      · by_cases hrc : ro ≤ c
        · exact absurd e (hr.inj c b _ _ hc hg hrc hro h1)
        · have := (hr.pos c x hc).2.1 (by omega); omega
    subst hbc
    rw [hg] at hc
    cases hc
    obtain ⟨h0, h1, h2, h3, h4⟩ := hr.blk c _ hg
    refine ⟨h0, h1, fun i hi => by rw [hcell]; exact h2 i hi, fun _ => ?_, fun i v hv => by rw [hcell]; exact h4 i v hv⟩
    obtain ⟨arr', el', lo, hi, hg', hcnd⟩ := h3 hro
    rw [hrow] at hg'
    cases hg'
    unfold OwnRow
    simp only [World.freeze, Nat.add_one_ne_zero, if_false, Array.getElem?_modify, hrow]
    by_cases e2 : lo = hi
    · exact ⟨arr, el, arr.size, arr.size + 1, by simp [e2], .inr ⟨Nat.le_refl _, Nat.le_succ _⟩⟩
    · rcases hcnd with h5 | ⟨h5, h6⟩
      · exact absurd h5 e2
      · exact ⟨arr, el, min lo arr.size, max hi (arr.size + 1), by simp [e2], .inr ⟨by omega, by omega⟩⟩
  · exact (hr.blk c x hc).mono (fun _ _ => rfl) (Nat.le_refl _) (freeze_heap_ne _ _ _ e)

theorem sound_convSame (hc : Ctx P B w0 ro ρ e h ev w) {s el : TypeId} {x : Operand} {a : A} (ha : opdOf P x = some a) (hs : P.underlying s = some (.slice el)) (he : P.underlying el = some (.int .u8))
    (H : op1 ro e h (.conv .same a) = some (v, h')) (o : Oper) (ho : o.op = .convert s s x) : Out B w0 ro ρ h.nx v h' ((execOp ev o).run P w) := by
  simp only [op1, Option.bind_eq_some_iff] at H
  obtain ⟨p, hp, H⟩ := H
  have hr := hc.opd x a p ha hp
  cases p <;> try (simp only [reduceCtorEq] at H; done)
  rename_i b of n c
  simp only at H
  split at H
  case isFalse => cases H
  rename_i hro
  split at H
  case h_2 => cases H
  rename_i z l hg
  simp only [Option.some.injEq, Prod.mk.injEq] at H
  obtain ⟨rfl, rfl⟩ := H
  have hr0 := hr
  simp only [VR] at hr
  obtain ⟨_, c', hev, _⟩ := hr
  obtain ⟨_, _, _, hown, _⟩ := hc.rel.blk b _ hg
  obtain ⟨arr, el', lo, hi, hrow, _⟩ := hown hro
  refine ⟨ev x, _, ρ, .inl ?_, fun _ _ => rfl, Nat.le_refl _, hr0, hc.rel.freeze hg hro hrow⟩
  have hsh : w.shape? (ρ b).blk = some (el', arr.size) := by simp [World.shape?, hrow]
  simp [execOp, ho, hev, convert, run_underlying hs, run_underlying he, markStringish, hsh]

/-- Cells that are written over cells of the call's own. -/
theorem over_rel (hr : Rel B w0 ro ρ h w) {b z : Nat} {cs : List V} (hg : h.get b = some (.cells z cs)) (hro : ro ≤ b) {of : Nat} {l cs' : List V} {us : List Value} (hl : setN cs of l = some cs') (hv : VRs ρ h.nx l us) (hones : l.all V.one = true) :
    (storeCells ⟨(ρ b).blk, (ρ b).sh + of, none⟩ us).run P w = .ok () (w.setCells (ρ b).blk ((ρ b).sh + of) us) ∧ Rel B w0 ro ρ (h.set b (.cells z cs')) (w.setCells (ρ b).blk ((ρ b).sh + of) us) := by
  obtain ⟨hle, rfl⟩ := setN_eq hl
  have hlen := hv.length
  obtain ⟨_, hle2, hsome, hown, _⟩ := hr.blk b _ hg
  have hrun := run_storeCells_cells (P := P) (ρ b).blk ((ρ b).sh + of) us 0 w
    (fun j hj => by rw [Nat.add_zero, Nat.add_assoc]; exact hsome (of + j) (by omega))
    (fun j hj => by rw [Nat.add_zero, Nat.add_assoc]; exact (hown hro).unfrozen _ (hsome (of + j) (by omega))) (hv.ones hones)
  simp only [Nat.add_zero] at hrun
  exact ⟨hrun, hr.store hg hro hle hv⟩

theorem sound_copy (hc : Ctx P B w0 ro ρ e h ev w) {c : Call} {x y : Operand} {t u el : TypeId} {sz : Nat} {a b : A} (hcal : c.callee = .builtin .copy) (hargs : c.args.toList = [x, y]) (hts : c.argTypes.toList = [t, u]) (ha : opdOf P x = some a) (hb : opdOf P y = some b)
    (ht : P.underlying t = some (.slice el)) (hs : sizeOf? P el = some sz)
    (H : op1 ro e h (.copy sz a b) = some (v, h')) (o : Oper) (ho : o.op = .call c) : Out B w0 ro ρ h.nx v h' ((execOp ev o).run P w) := by
  simp only [op1, Option.bind_eq_some_iff] at H
  obtain ⟨s, hs1, q, hq, H⟩ := H
  have hr1 := hc.opd x a s ha hs1
  have hr2 := hc.opd y b q hb hq
  obtain ⟨ea, et⟩ := two_args hargs hts
  have start : ∀ {r : Result Value}, (Builtin.copy_ #[t, u] o.type #[ev x, ev y]).run P w = r → OutV B w0 ro ρ h.nx v h' r → Out B w0 ro ρ h.nx v h' ((execOp ev o).run P w) := fun {r} h1 h2 => by
    rw [← h1] at h2
    exact h2.value (by rw [run_builtin hcal o ho, ea, et]; simp [builtin])
  cases s <;> try (simp only [reduceCtorEq] at H; done)
  · rename_i bl of n cp
    simp only [VR] at hr1
    obtain ⟨hb1, c1, hev1, _⟩ := hr1
    cases q <;> try (simp only [reduceCtorEq] at H; done)
    · -- a string
      rename_i tt
      simp only at H
      split at H
      case isFalse => cases H
      rename_i hcnd
      obtain ⟨hro, rfl⟩ := hcnd
      split at H
      case h_2 => cases H
      rename_i z cs hg
      split at H
      case isFalse => cases H
      rename_i hz
      subst hz
      simp only [Option.bind_eq_some_iff, Option.some.injEq, Prod.mk.injEq] at H
      obtain ⟨cs', hcs, rfl, rfl⟩ := H
      simp only [VR] at hr2
      have hones : ((tt.take n).map byteV).all V.one = true := by
        rw [List.all_map, List.all_eq_true]
        intro b _
        rfl
      obtain ⟨h1, h2⟩ := over_rel (P := P) hc.rel hg hro hcs (byteV_rel (tt.take n)) hones
      refine start (r := .ok (goInt (Nat.min tt.length n : Nat)) _) ?_ ⟨_, _, ρ, rfl, fun _ _ => rfl, Nat.le_refl _, by simp only [VR]; rfl, h2⟩
      have hfc : (Builtin.firstCells 1 (Nat.min tt.length n) (.string ⟨tt.toArray⟩)).run P w = .ok ((tt.take n).map fun b => Value.int .u8 (b.toNat : Int)).toArray w := by
        simp only [Builtin.firstCells, Sem.run_pure]
        congr 1
        apply Array.ext'
        simp [List.extract_eq_take_drop, ByteArray.data_extract]
        exact Nat.min_comm _ _
      simp only [List.map_take] at h1 hfc ⊢
      simp only [Builtin.copy_, hev1, hr2]
      simp [run_underlying ht, Builtin.lenOf, bytes_size, run_sizeOf hs, hfc, h1, goInt]
    · -- a slice
      rename_i b2 o2 n2 cp2
      simp only at H
      split at H
      case isFalse => cases H
      rename_i hro
      simp only [Option.bind_eq_some_iff] at H
      obtain ⟨l, hsh, H⟩ := H
      split at H
      case h_2 => cases H
      rename_i z cs hg
      split at H
      case isFalse => cases H
      rename_i hcnd
      obtain ⟨rfl, hones⟩ := hcnd
      simp only [Option.bind_eq_some_iff, Option.some.injEq, Prod.mk.injEq] at H
      obtain ⟨cs', hcs, rfl, rfl⟩ := H
      simp only [VR] at hr2
      obtain ⟨_, c2, hev2, _⟩ := hr2
      obtain ⟨_, us, h3, h4, h5⟩ := shown_rel hc.rel hsh
      obtain ⟨h1, h2⟩ := over_rel (P := P) hc.rel hg hro hcs h4 hones
      refine start (r := .ok (goInt (min n2 n : Nat)) _) ?_ ⟨_, _, ρ, rfl, fun _ _ => rfl, Nat.le_refl _, by simp only [VR]; rfl, h2⟩
      have hfc := run_firstCells_some (P := P) w z (min n2 n) ⟨(ρ b2).blk, (ρ b2).sh + o2, none⟩ n2 c2 us h3 h5
      have hmin : Nat.min n2 n = min n2 n := rfl
      simp only [Builtin.copy_, hev1, hev2]
      simp [run_underlying ht, Builtin.lenOf, run_sizeOf hs, hmin, hfc, h1]
    · simp only [VR] at hr2
      simp only [Option.some.injEq, Prod.mk.injEq] at H
      obtain ⟨rfl, rfl⟩ := H
      refine start (r := .ok (goInt 0) w) ?_ (OutV.quiet hc.rel rfl (by simp only [VR]; rfl))
      simp only [Builtin.copy_, hev1, hr2]
      simp [run_underlying ht, Builtin.lenOf, run_sizeOf hs, Builtin.firstCells, storeCells]
  · simp only [VR] at hr1
    cases q <;> try (simp only [reduceCtorEq] at H; done)
    · simp only [VR] at hr2
      simp only [Option.some.injEq, Prod.mk.injEq] at H
      obtain ⟨rfl, rfl⟩ := H
      refine start (r := .ok (goInt 0) w) ?_ (OutV.quiet hc.rel rfl (by simp only [VR]; rfl))
      simp only [Builtin.copy_, hr1, hr2]
      simp [run_underlying ht, Builtin.lenOf, run_sizeOf hs, Builtin.firstCells]
    · simp only [VR] at hr2
      obtain ⟨_, c2, hev2, _⟩ := hr2
      simp only [Option.some.injEq, Prod.mk.injEq] at H
      obtain ⟨rfl, rfl⟩ := H
      refine start (r := .ok (goInt 0) w) ?_ (OutV.quiet hc.rel rfl (by simp only [VR]; rfl))
      simp only [Builtin.copy_, hr1, hev2]
      simp [run_underlying ht, Builtin.lenOf, run_sizeOf hs, Builtin.firstCells, loadCells, loadCellsFrom]
    · simp only [VR] at hr2
      simp only [Option.some.injEq, Prod.mk.injEq] at H
      obtain ⟨rfl, rfl⟩ := H
      refine start (r := .ok (goInt 0) w) ?_ (OutV.quiet hc.rel rfl (by simp only [VR]; rfl))
      simp only [Builtin.copy_, hr1, hr2]
      simp [run_underlying ht, Builtin.lenOf, run_sizeOf hs, Builtin.firstCells]

omit [Dr] in
theorem zeroCells_rel {z : V} {zv : Value} {nx : Nat} (hz : VR ρ nx z zv) (n : Nat) : VRs ρ nx (zeros z.cells n) (Builtin.zeroCells zv.cells n).toList := by
  have hl := hz.cells.length
  simp only [Array.length_toList] at hl
  have := zeros_rel hz n z.cells.length rfl
  unfold Builtin.zeroCells
  rw [hl]
  rw [← hl] at this
  rw [← hl]
  exact this

theorem sound_clr (hc : Ctx P B w0 ro ρ e h ev w) {c : Call} {x : Operand} {t el : TypeId} {sz : Nat} {z : V} {a : A} (hcal : c.callee = .builtin .clear) (hargs : c.args.toList = [x]) (hts : c.argTypes.toList = [t]) (ha : opdOf P x = some a)
    (ht : P.underlying t = some (.slice el)) (hz : zeroOf P el = some z)
    (H : op1 ro e h (.clr sz z.cells a) = some (v, h')) (o : Oper) (ho : o.op = .call c) : Out B w0 ro ρ h.nx v h' ((execOp ev o).run P w) := by
  simp only [op1, Option.bind_eq_some_iff] at H
  obtain ⟨s, hs1, H⟩ := H
  have hr1 := hc.opd x a s ha hs1
  have ea : c.args = #[x] := by rw [← Array.toList_inj]; simpa using hargs
  have et : c.argTypes = #[t] := by rw [← Array.toList_inj]; simpa using hts
  obtain ⟨zv, hzv, hzr⟩ := run_zero hz w
  have hund : VR ρ h.nx (.tup []) (.tuple #[]) := by simp only [VR]; exact ⟨#[], rfl, VRs.nil⟩
  cases s <;> try (simp only [reduceCtorEq] at H; done)
  · rename_i bl of n cp
    simp only [VR] at hr1
    obtain ⟨hb1, c1, hev1, _⟩ := hr1
    simp only at H
    split at H
    · rename_i hn
      subst hn
      simp only [Option.some.injEq, Prod.mk.injEq] at H
      obtain ⟨rfl, rfl⟩ := H
      refine Out.quiet hc.rel ?_ hund
      rw [run_builtin hcal o ho, ea, et]
      simp [builtin, Builtin.clear_, hev1, run_underlying ht]
    · rename_i hn
      split at H
      case isFalse => cases H
      rename_i hro
      split at H
      case h_2 => cases H
      rename_i z' cs hg
      split at H
      case isFalse => cases H
      rename_i hcnd
      simp only [Option.bind_eq_some_iff, Option.some.injEq, Prod.mk.injEq] at H
      obtain ⟨cs', hcs, rfl, rfl⟩ := H
      have hones : (zeros z.cells n).all V.one = true := by
        have key : ∀ m, (zeros z.cells m).all V.one = true := fun m => by
          induction m with
          | zero => rfl
          | succ m ih => simp only [zeros, List.all_append, hcnd.2, ih, Bool.and_self]
        exact key n
      obtain ⟨h1, h2⟩ := over_rel (P := P) hc.rel hg hro hcs (zeroCells_rel (hzr ρ h.nx) n) hones
      refine ⟨.tuple #[], _, ρ, .inl ?_, fun _ _ => rfl, Nat.le_refl _, hund, h2⟩
      rw [run_builtin hcal o ho, ea, et]
      obtain ⟨n', rfl⟩ : ∃ n', n = n' + 1 := ⟨n - 1, by omega⟩
      simp [builtin, Builtin.clear_, hev1, run_underlying ht, hzv, h1]
  · simp only [VR] at hr1
    simp only [Option.some.injEq, Prod.mk.injEq] at H
    obtain ⟨rfl, rfl⟩ := H
    refine Out.quiet hc.rel ?_ hund
    rw [run_builtin hcal o ho, ea, et]
    simp [builtin, Builtin.clear_, hr1, run_underlying ht]
end
end Go.Am
