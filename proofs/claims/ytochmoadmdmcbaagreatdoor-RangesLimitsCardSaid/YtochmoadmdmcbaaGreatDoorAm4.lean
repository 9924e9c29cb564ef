/- Each operation of the plain machine is what the loaded program's operation comes to: operations that make and write no memory. -/
import Derived.Test.YtochmoadmdmcbaaGreatDoorAm2
namespace Go.Am
set_option linter.unusedSimpArgs false
set_option linter.unusedVariables false
open Go Go.RowKit
variable [Dr]

omit [Dr] in
theorem cellOf_rel {ρ : Nat → Pl} {nx : Nat} {z : Value} {v : V} (h : cellOf z = some v) : VR ρ nx v z := by
  unfold cellOf at h
  split at h <;> first
    | (cases h; simp only [VR]; done)
    | (cases h; simp only [VR, Array.toArray_toList]; done)
    | cases h
omit [Dr] in
theorem cellsOf_rel {ρ : Nat → Pl} {nx : Nat} : ∀ {zs : List Value} {vs : List V}, cellsOf zs = some vs → VRs ρ nx vs zs
  | [], vs, h => by simp only [cellsOf, Option.some.injEq] at h; subst h; exact VRs.nil
  | z :: zs, vs, h => by
    simp only [cellsOf, Option.bind_eq_some_iff, Option.some.injEq] at h
    obtain ⟨x, hx, xs, hxs, rfl⟩ := h
    exact VRs.cons (cellOf_rel hx) (cellsOf_rel hxs)
omit [Dr] in
theorem valOf_rel {ρ : Nat → Pl} {nx : Nat} {z : Value} {v : V} (h : valOf z = some v) : VR ρ nx v z := by
  unfold valOf at h
  split at h
  · simp only [Option.bind_eq_some_iff, Option.some.injEq] at h
    obtain ⟨l, hl, rfl⟩ := h
    simp only [VR]
    exact ⟨_, rfl, cellsOf_rel hl⟩
  · exact cellOf_rel h

section
variable {P : Program}

omit [Dr] in
theorem zeroOf_inv {t : TypeId} {v : V} (h : zeroOf P t = some v) : ∃ i z, P.info? t = some i ∧ i.zero = some z ∧ valOf z = some v ∧ v.cells.length = i.size := by
  unfold zeroOf at h
  split at h
  · rename_i i hi
    split at h
    · rename_i z hz
      simp only [Option.bind_eq_some_iff] at h
      obtain ⟨v', hv, h⟩ := h
      split at h
      · rename_i hl; cases h; exact ⟨i, z, hi, hz, hv, hl⟩
      · cases h
    · cases h
  · cases h
omit [Dr] in
theorem sizeOf_inv {t : TypeId} {n : Nat} (h : sizeOf? P t = some n) : ∃ i, P.info? t = some i ∧ i.size = n := by
  simpa [sizeOf?] using h
omit [Dr] in
theorem bytesOf_inv {t : TypeId} {n : Nat} (h : bytesOf? P t = some n) : ∃ i, P.info? t = some i ∧ i.bytes = n := by
  simpa [bytesOf?] using h

omit [Dr] in
theorem run_sizeOf {t : TypeId} {n : Nat} (h : sizeOf? P t = some n) (w : World) : (sizeOf t).run P w = .ok n w := by
  obtain ⟨i, hi, rfl⟩ := sizeOf_inv h
  simp [sizeOf, typeInfo, hi]
omit [Dr] in
theorem run_zero {t : TypeId} {v : V} (h : zeroOf P t = some v) (w : World) : ∃ z, (zeroValue t).run P w = .ok z w ∧ (∀ (ρ : Nat → Pl) nx, VR ρ nx v z) := by
  obtain ⟨i, z, hi, hz, hv, _⟩ := zeroOf_inv h
  exact ⟨z, by simp [zeroValue, typeInfo, hi, hz], fun _ _ => valOf_rel hv⟩
omit [Dr] in
theorem aggT_inv {t : TypeId} {a : Bool} (h : aggT P t = some a) (w : World) : (isAgg t).run P w = .ok a w := by
  unfold aggT at h
  split at h <;> first | (cases h; done) | skip
  all_goals (rename_i hu; cases h; simp [isAgg, run_underlying hu])

/-- What stands fast while one operation is carried out. -/
structure Ctx (P : Program) (B : Nat) (w0 : World) (ro : Nat) (ρ : Nat → Pl) (e : Env) (h : Hp) (ev : Operand → Value) (w : World) : Prop where
  rel : Rel B w0 ro ρ h w
  opd : ∀ x a v, opdOf P x = some a → a.ev e = some v → VR ρ h.nx v (ev x)

/-- What an operation comes to. -/
def Out (B : Nat) (w0 : World) (ro : Nat) (ρ : Nat → Pl) (nx0 : Nat) (v : V) (h' : Hp) (r : Result Next) : Prop :=
  ∃ u w' ρ', (r = .ok (.value u) w' ∨ (r = .ok .skip w' ∧ u = undef)) ∧ (∀ b, b < nx0 → ρ' b = ρ b) ∧ nx0 ≤ h'.nx ∧ VR ρ' h'.nx v u ∧ Rel B w0 ro ρ' h' w'

variable {B : Nat} {w0 w : World} {ro : Nat} {ρ : Nat → Pl} {e : Env} {h h' : Hp} {ev : Operand → Value} {v : V}

theorem Out.quiet {u : Value} {r : Result Next} (hr : Rel B w0 ro ρ h w) (he : r = .ok (.value u) w) (hv : VR ρ h.nx v u) : Out B w0 ro ρ h.nx v h r :=
  ⟨u, w, ρ, .inl he, fun _ _ => rfl, Nat.le_refl _, hv, hr⟩

theorem evs_rel (hc : Ctx P B w0 ro ρ e h ev w) : ∀ {xs : List Operand} {as : List A} {vs : List V}, opdsOf P xs = some as → evs e as = some vs → VRs ρ h.nx vs (xs.map ev)
  | [], as, vs, ha, hv => by
    simp only [opdsOf, Option.some.injEq] at ha
    subst ha
    simp only [evs, Option.some.injEq] at hv
    subst hv
    exact VRs.nil
  | x :: xs, as, vs, ha, hv => by
    simp only [opdsOf, Option.bind_eq_some_iff, Option.some.injEq] at ha
    obtain ⟨a, ha, as', has, rfl⟩ := ha
    simp only [evs, Option.bind_eq_some_iff, Option.some.injEq] at hv
    obtain ⟨v, hv, vs', hvs, rfl⟩ := hv
    exact VRs.cons (hc.opd x a v ha hv) (evs_rel hc has hvs)

omit [Dr] in
theorem loadN_eq {l : List V} {o n : Nat} {vs : List V} (hl : loadN l o n = some vs) : o + n ≤ l.length ∧ vs = (l.drop o).take n := by
  unfold loadN at hl
  cases hb : Nat.ble (o + n) l.length with
  | false => rw [hb] at hl; cases hl
  | true => rw [hb] at hl; cases hl; exact ⟨Nat.le_of_ble_eq_true hb, rfl⟩
omit [Dr] in
theorem setN_eq {l : List V} {o : Nat} {vs l' : List V} (hl : setN l o vs = some l') : o + vs.length ≤ l.length ∧ l' = l.take o ++ (vs ++ l.drop (o + vs.length)) := by
  unfold setN at hl
  cases hb : Nat.ble (o + vs.length) l.length with
  | false => rw [hb] at hl; cases hl
  | true => rw [hb] at hl; cases hl; exact ⟨Nat.le_of_ble_eq_true hb, rfl⟩

/-- The cells of a block, read. -/
theorem Rel.cells (hr : Rel B w0 ro ρ h w) {b z : Nat} {l : List V} (hg : h.get b = some (.cells z l)) {o n : Nat} (hl : o + n ≤ l.length) :
    ∃ us : List Value, us.length = n ∧ VRs ρ h.nx ((l.drop o).take n) us ∧ ∀ j u, us[j]? = some u → w.cell? ((⟨(ρ b).blk, (ρ b).sh + o, none⟩ : Addr).add j) = some u := by
  obtain ⟨_, _, _, _, hread⟩ := hr.blk b _ hg
  have key : ∀ (vs : List V) (k : Nat), (∀ i v, vs[i]? = some v → l[k + i]? = some v) →
      ∃ us : List Value, us.length = vs.length ∧ VRs ρ h.nx vs us ∧ ∀ j u, us[j]? = some u → w.cell? ⟨(ρ b).blk, (ρ b).sh + (k + j), none⟩ = some u := by
    intro vs
    induction vs with
    | nil => exact fun k _ => ⟨[], rfl, VRs.nil, fun j u hu => by simp at hu⟩
    | cons v vs ih =>
      intro k hk
      obtain ⟨us, h1, h2, h3⟩ := ih (k + 1) (fun i v' hv => by have := hk (i + 1) v' (by simpa using hv); rwa [show k + 1 + i = k + (i + 1) by omega])
      obtain ⟨u, hu, hv⟩ := hread k v (by simpa using hk 0 v (by simp))
      refine ⟨u :: us, by simp [h1], VRs.cons hv h2, fun j u' hu' => ?_⟩
      cases j with
      | zero => simp at hu'; subst hu'; simpa using hu
      | succ j => rw [show k + (j + 1) = k + 1 + j by omega]; exact h3 j u' (by simpa using hu')
  obtain ⟨us, h1, h2, h3⟩ := key ((l.drop o).take n) o (fun i v hv => by
    rw [List.getElem?_take] at hv
    split at hv
    · rwa [List.getElem?_drop] at hv
    · cases hv)
  refine ⟨us, by rw [h1]; simp; omega, h2, fun j u hu => ?_⟩
  rw [Addr.add_lit]
  have := h3 j u hu
  simpa [Nat.add_assoc] using this

theorem Rel.loadCells (hr : Rel B w0 ro ρ h w) {b z : Nat} {l vs : List V} (hg : h.get b = some (.cells z l)) {o n : Nat} (hl : loadN l o n = some vs) :
    ∃ us : List Value, us.length = n ∧ VRs ρ h.nx vs us ∧ (loadCells ⟨(ρ b).blk, (ρ b).sh + o, none⟩ n).run P w = .ok us.toArray w ∧
      ∀ j u, us[j]? = some u → w.cell? ((⟨(ρ b).blk, (ρ b).sh + o, none⟩ : Addr).add j) = some u := by
  obtain ⟨hle, rfl⟩ := loadN_eq hl
  obtain ⟨us, h1, h2, h3⟩ := hr.cells hg hle
  refine ⟨us, h1, h2, ?_, h3⟩
  rw [← h1]
  exact run_loadCells_list w _ us h3

omit [Dr] in
theorem ite_some {c : Prop} [Decidable c] {α : Type} {x y : α} (h : (if c then some x else none) = some y) : c ∧ x = y := by
  split at h
  · rename_i hc; cases h; exact ⟨hc, rfl⟩
  · cases h

/-! one lemma an operation -/

theorem sound_mov (hc : Ctx P B w0 ro ρ e h ev w) {x : Operand} {a : A} (ha : opdOf P x = some a) (hx : a.ev e = some v) (o : Oper) (ho : o.op = .move x ∨ o.op = .assign x) :
    Out B w0 ro ρ h.nx v h ((execOp ev o).run P w) :=
  Out.quiet hc.rel (by rcases ho with ho | ho <;> simp [execOp, ho]) (hc.opd x a v ha hx)

theorem sound_load (hc : Ctx P B w0 ro ρ e h ev w) {t : TypeId} {n : Option Nat} {x : Operand} {a : A} (hn : loadOf P t = some n) (ha : opdOf P x = some a)
    (H : op1 ro e h (.load n a) = some (v, h')) (o : Oper) (ho : o.op = .load t x) : Out B w0 ro ρ h.nx v h' ((execOp ev o).run P w) := by
  simp only [op1, Option.bind_eq_some_iff] at H
  obtain ⟨p, hp, H⟩ := H
  have hr := hc.opd x a p ha hp
  cases p <;> try (simp only [reduceCtorEq] at H; done)
  rename_i b of
  simp only [VR] at hr
  obtain ⟨hb, hev⟩ := hr
  simp only at H
  split at H
  · rename_i z l hg
    simp only [loadOf, Option.bind_eq_some_iff] at hn
    obtain ⟨ag, hag, hn⟩ := hn
    cases n with
    | none =>
      simp only [Option.bind_eq_some_iff, Option.some.injEq, Prod.mk.injEq] at H
      obtain ⟨v', hv', rfl, rfl⟩ := H
      cases ag with
      | true => simp [Option.bind_eq_some_iff] at hn
      | false =>
        obtain ⟨_, _, _, _, hread⟩ := hc.rel.blk b _ hg
        obtain ⟨u, hu, hv⟩ := hread of _ hv'
        refine Out.quiet (u := u) hc.rel ?_ hv
        simp [execOp, ho, hev, Instr.loadAt, Instr.sureAddr, loadVar, aggT_inv hag, hu]
    | some n =>
      simp only [Option.bind_eq_some_iff, Option.some.injEq, Prod.mk.injEq] at H
      obtain ⟨vs, hvs, rfl, rfl⟩ := H
      cases ag with
      | false => simp at hn
      | true =>
        simp only [if_true, Option.bind_eq_some_iff, Option.some.injEq] at hn
        obtain ⟨m, hm, rfl⟩ := hn
        obtain ⟨us, h1, h2, h3, _⟩ := hc.rel.loadCells (P := P) hg hvs
        refine Out.quiet (u := .agg us.toArray) hc.rel ?_ (by simp only [VR]; exact ⟨_, rfl, h2⟩)
        simp [execOp, ho, hev, Instr.loadAt, Instr.sureAddr, loadVar, aggT_inv hag, run_sizeOf hm, h3]
  · cases H

theorem sound_pick (hc : Ctx P B w0 ro ρ e h ev w) {x y z : Operand} {a b c : A} (ha : opdOf P x = some a) (hb : opdOf P y = some b) (hcc : opdOf P z = some c)
    (H : op1 ro e h (.pick a b c) = some (v, h')) (o : Oper) (ho : o.op = .pick x y z) : Out B w0 ro ρ h.nx v h' ((execOp ev o).run P w) := by
  simp only [op1, Option.bind_eq_some_iff] at H
  obtain ⟨p, hp, H⟩ := H
  have hr := hc.opd x a p ha hp
  cases p <;> try (simp only [reduceCtorEq] at H; done)
  rename_i bo
  simp only [VR] at hr
  cases bo
  · simp only [Option.bind_eq_some_iff, Option.some.injEq, Prod.mk.injEq] at H
    obtain ⟨v', hv', rfl, rfl⟩ := H
    exact Out.quiet (u := ev z) hc.rel (by simp [execOp, ho, hr, asBool]) (hc.opd z c _ hcc hv')
  · simp only [Option.bind_eq_some_iff, Option.some.injEq, Prod.mk.injEq] at H
    obtain ⟨v', hv', rfl, rfl⟩ := H
    exact Out.quiet (u := ev y) hc.rel (by simp [execOp, ho, hr, asBool]) (hc.opd y b _ hb hv')

theorem sound_fldA (hc : Ctx P B w0 ro ρ e h ev w) {t : TypeId} {i s : Nat} {f : Field} {x : Operand} {a : A} (ha : opdOf P x = some a) (hf : fieldOf P t i = some f) (hs : sizeOf? P f.type = some s) (h0 : 0 < s)
    (H : op1 ro e h (.fldA f.offset a) = some (v, h')) (o : Oper) (ho : o.op = .fieldAddr t x i) : Out B w0 ro ρ h.nx v h' ((execOp ev o).run P w) := by
  simp only [op1, Option.bind_eq_some_iff] at H
  obtain ⟨p, hp, H⟩ := H
  have hr := hc.opd x a p ha hp
  cases p <;> try (simp only [reduceCtorEq] at H; done)
  rename_i b of
  simp only [VR] at hr
  obtain ⟨hb, hev⟩ := hr
  simp only [Option.some.injEq, Prod.mk.injEq] at H
  obtain ⟨rfl, rfl⟩ := H
  unfold fieldOf at hf
  split at hf
  · rename_i fs hfs
    have hs0 : ¬ s = 0 := by omega
    refine Out.quiet hc.rel (u := .pointer (some ⟨(ρ b).blk, (ρ b).sh + (of + f.offset), none⟩)) ?_ (by simp only [VR]; exact ⟨hb, trivial⟩)
    simp [execOp, ho, hev, Instr.fieldAt, Instr.sureAddr, run_underlying hfs, hf, fieldPlace, run_sizeOf hs, hs0, Addr.add_lit, Nat.add_assoc]
  · cases hf

omit [Dr] in
theorem part_none {t : TypeId} (hl : loadOf P t = some none) {l : List V} {cs : Array Value} (hcs : VRs ρ h.nx l cs.toList) {off : Nat} {v : V} (hv : l[off]? = some v) :
    ∃ u, (part t cs off).run P w = .ok u w ∧ VR ρ h.nx v u := by
  simp only [loadOf, Option.bind_eq_some_iff] at hl
  obtain ⟨ag, hag, hn⟩ := hl
  cases ag with
  | true => simp [Option.bind_eq_some_iff] at hn
  | false =>
    obtain ⟨u, hu, hvr⟩ := hcs.get off v hv
    have hu' : cs[off]? = some u := by simpa using hu
    exact ⟨u, by simp [part, aggT_inv hag, hu'], hvr⟩
omit [Dr] in
theorem part_some {t : TypeId} {n : Nat} (hl : loadOf P t = some (some n)) {l : List V} {cs : Array Value} (hcs : VRs ρ h.nx l cs.toList) {off : Nat} {vs : List V} (hv : loadN l off n = some vs) :
    ∃ u, (part t cs off).run P w = .ok u w ∧ VR ρ h.nx (.agg vs) u := by
  simp only [loadOf, Option.bind_eq_some_iff] at hl
  obtain ⟨ag, hag, hn⟩ := hl
  cases ag with
  | false => simp at hn
  | true =>
    simp only [if_true, Option.bind_eq_some_iff, Option.some.injEq] at hn
    obtain ⟨m, hm, rfl⟩ := hn
    obtain ⟨hle, rfl⟩ := loadN_eq hv
    refine ⟨.agg (cs.extract off (off + m)), by simp [part, aggT_inv hag, run_sizeOf hm], ?_⟩
    simp only [VR]
    refine ⟨_, rfl, ?_⟩
    rw [Array.toList_extract, List.extract_eq_take_drop]
    rw [show off + m - off = m by omega]
    exact (hcs.dropL off).take m

theorem sound_fld (hc : Ctx P B w0 ro ρ e h ev w) {t : TypeId} {i : Nat} {n : Option Nat} {f : Field} {x : Operand} {a : A} (ha : opdOf P x = some a) (hf : fieldOf P t i = some f) (hl : loadOf P f.type = some n)
    (H : op1 ro e h (.fld f.offset n a) = some (v, h')) (o : Oper) (ho : o.op = .field t x i) : Out B w0 ro ρ h.nx v h' ((execOp ev o).run P w) := by
  simp only [op1, Option.bind_eq_some_iff] at H
  obtain ⟨p, hp, H⟩ := H
  have hr := hc.opd x a p ha hp
  cases p <;> try (simp only [reduceCtorEq] at H; done)
  rename_i l
  simp only [VR] at hr
  obtain ⟨cs, hev, hcs⟩ := hr
  unfold fieldOf at hf
  split at hf
  · rename_i fs hfs
    cases n with
    | none =>
      simp only [Option.bind_eq_some_iff, Option.some.injEq, Prod.mk.injEq] at H
      obtain ⟨v', hv', rfl, rfl⟩ := H
      obtain ⟨u, hu, hvr⟩ := part_none (w := w) hl hcs hv'
      exact Out.quiet hc.rel (u := u) (by simp [execOp, ho, hev, Instr.field, run_underlying hfs, hf, asAgg, hu]) hvr
    | some n =>
      simp only [Option.bind_eq_some_iff, Option.some.injEq, Prod.mk.injEq] at H
      obtain ⟨vs, hvs, rfl, rfl⟩ := H
      obtain ⟨u, hu, hvr⟩ := part_some (w := w) hl hcs hvs
      exact Out.quiet hc.rel (u := u) (by simp [execOp, ho, hev, Instr.field, run_underlying hfs, hf, asAgg, hu]) hvr
  · cases hf

theorem sound_idxA (hc : Ctx P B w0 ro ρ e h ev w) {t el : TypeId} {s : Nat} {x y : Operand} {a b : A} (ha : opdOf P x = some a) (hb : opdOf P y = some b) (ht : P.underlying t = some (.slice el)) (hs : sizeOf? P el = some s)
    (H : op1 ro e h (.idxA s a b) = some (v, h')) (o : Oper) (ho : o.op = .indexAddr t x y) : Out B w0 ro ρ h.nx v h' ((execOp ev o).run P w) := by
  simp only [op1, Option.bind_eq_some_iff] at H
  obtain ⟨p, hp, q, hq, H⟩ := H
  have hr := hc.opd x a p ha hp
  have hr2 := hc.opd y b q hb hq
  cases p <;> try (simp only [reduceCtorEq] at H; done)
  cases q <;> try (simp only [reduceCtorEq] at H; done)
  rename_i bl of n c k i
  simp only [VR] at hr hr2
  obtain ⟨hbl, c', hev, hn, _, _⟩ := hr
  simp only at H
  obtain ⟨⟨h0, h1⟩, H⟩ := ite_some H
  simp only [Prod.mk.injEq] at H
  obtain ⟨rfl, rfl⟩ := H
  refine Out.quiet hc.rel (u := .pointer (some ⟨(ρ bl).blk, (ρ bl).sh + (of + i.toNat * s), none⟩)) ?_ (by simp only [VR]; exact ⟨hbl, trivial⟩)
  simp [execOp, ho, hev, hr2, Instr.indexAt, asIntOf, run_underlying ht, h0, h1, run_sizeOf hs, Addr.add_lit, Nat.add_assoc]

theorem sound_idxArrA (hc : Ctx P B w0 ro ρ e h ev w) {t el : TypeId} {n s : Nat} {x y : Operand} {a b : A} (ha : opdOf P x = some a) (hb : opdOf P y = some b) (ht : P.underlying t = some (.array n el)) (hs : sizeOf? P el = some s)
    (H : op1 ro e h (.idxArrA n s a b) = some (v, h')) (o : Oper) (ho : o.op = .indexAddr t x y) : Out B w0 ro ρ h.nx v h' ((execOp ev o).run P w) := by
  simp only [op1, Option.bind_eq_some_iff] at H
  obtain ⟨p, hp, q, hq, H⟩ := H
  have hr := hc.opd x a p ha hp
  have hr2 := hc.opd y b q hb hq
  cases p <;> try (simp only [reduceCtorEq] at H; done)
  cases q <;> try (simp only [reduceCtorEq] at H; done)
  rename_i bl of k i
  simp only [VR] at hr hr2
  obtain ⟨hbl, hev⟩ := hr
  simp only at H
  obtain ⟨⟨h0, h1⟩, H⟩ := ite_some H
  simp only [Prod.mk.injEq] at H
  obtain ⟨rfl, rfl⟩ := H
  refine Out.quiet hc.rel (u := .pointer (some ⟨(ρ bl).blk, (ρ bl).sh + (of + i.toNat * s), none⟩)) ?_ (by simp only [VR]; exact ⟨hbl, trivial⟩)
  simp [execOp, ho, hev, hr2, Instr.indexAt, Instr.sureAddr, asIntOf, run_underlying ht, h0, h1, run_sizeOf hs, Addr.add_lit, Nat.add_assoc]

theorem sound_idxArr (hc : Ctx P B w0 ro ρ e h ev w) {t el : TypeId} {n s : Nat} {m : Option Nat} {x y : Operand} {a b : A} (ha : opdOf P x = some a) (hb : opdOf P y = some b) (ht : P.underlying t = some (.array n el)) (hs : sizeOf? P el = some s) (hl : loadOf P el = some m)
    (H : op1 ro e h (.idxArr n s m a b) = some (v, h')) (o : Oper) (ho : o.op = .index t x y) : Out B w0 ro ρ h.nx v h' ((execOp ev o).run P w) := by
  simp only [op1, Option.bind_eq_some_iff] at H
  obtain ⟨p, hp, q, hq, H⟩ := H
  have hr := hc.opd x a p ha hp
  have hr2 := hc.opd y b q hb hq
  cases p <;> try (simp only [reduceCtorEq] at H; done)
  cases q <;> try (simp only [reduceCtorEq] at H; done)
  rename_i l k i
  simp only [VR] at hr hr2
  obtain ⟨cs, hev, hcs⟩ := hr
  simp only at H
  split at H
  · rename_i hi
    cases m with
    | none =>
      simp only [Option.bind_eq_some_iff, Option.some.injEq, Prod.mk.injEq] at H
      obtain ⟨v', hv', rfl, rfl⟩ := H
      obtain ⟨u, hu, hvr⟩ := part_none (w := w) hl hcs hv'
      exact Out.quiet hc.rel (u := u) (by simp [execOp, ho, hev, hr2, Instr.index, asIntOf, run_underlying ht, hi, run_sizeOf hs, hu]) hvr
    | some m =>
      simp only [Option.bind_eq_some_iff, Option.some.injEq, Prod.mk.injEq] at H
      obtain ⟨vs, hvs, rfl, rfl⟩ := H
      obtain ⟨u, hu, hvr⟩ := part_some (w := w) hl hcs hvs
      exact Out.quiet hc.rel (u := u) (by simp [execOp, ho, hev, hr2, Instr.index, asIntOf, run_underlying ht, hi, run_sizeOf hs, hu]) hvr
  · cases H

theorem sound_idxStr (hc : Ctx P B w0 ro ρ e h ev w) {t : TypeId} {x y : Operand} {a b : A} (ha : opdOf P x = some a) (hb : opdOf P y = some b) (ht : P.underlying t = some .string)
    (H : op1 ro e h (.idxStr a b) = some (v, h')) (o : Oper) (ho : o.op = .index t x y) : Out B w0 ro ρ h.nx v h' ((execOp ev o).run P w) := by
  simp only [op1, Option.bind_eq_some_iff] at H
  obtain ⟨p, hp, q, hq, H⟩ := H
  have hr := hc.opd x a p ha hp
  have hr2 := hc.opd y b q hb hq
  cases p <;> try (simp only [reduceCtorEq] at H; done)
  cases q <;> try (simp only [reduceCtorEq] at H; done)
  rename_i s k i
  simp only [VR] at hr hr2
  simp only at H
  split at H
  · rename_i h0
    simp only [Option.bind_eq_some_iff, Option.some.injEq, Prod.mk.injEq] at H
    obtain ⟨c, hcb, rfl, rfl⟩ := H
    have hlt : i.toNat < s.length := by
      rcases Nat.lt_or_ge i.toNat s.length with h1 | h1
      · exact h1
      · rw [List.getElem?_eq_none h1] at hcb; cases hcb
    have hg : (⟨s.toArray⟩ : ByteArray)[i.toNat]? = some c := by
      have : s[i.toNat] = c := by rw [List.getElem?_eq_getElem hlt] at hcb; simpa using hcb
      rw [getElem?_pos _ _ (by simpa [ByteArray.size] using hlt)]
      simp [ByteArray.getElem_eq_getElem_data, this]
    refine Out.quiet hc.rel (u := .int .u8 (c.toNat : Int)) ?_ (by simp only [byteV, VR])
    simp [execOp, ho, hr, hr2, Instr.index, asIntOf, run_underlying ht, h0, hg]
  · cases H

theorem sound_ext (hc : Ctx P B w0 ro ρ e h ev w) {i : Nat} {x : Operand} {a : A} (ha : opdOf P x = some a)
    (H : op1 ro e h (.ext a i) = some (v, h')) (o : Oper) (ho : o.op = .extract x i) : Out B w0 ro ρ h.nx v h' ((execOp ev o).run P w) := by
  simp only [op1, Option.bind_eq_some_iff] at H
  obtain ⟨p, hp, H⟩ := H
  have hr := hc.opd x a p ha hp
  cases p <;> try (simp only [reduceCtorEq] at H; done)
  rename_i l
  simp only [VR] at hr
  obtain ⟨cs, hev, hcs⟩ := hr
  simp only [Option.bind_eq_some_iff, Option.some.injEq, Prod.mk.injEq] at H
  obtain ⟨v', hv', rfl, rfl⟩ := H
  obtain ⟨u, hu, hvr⟩ := hcs.get i _ hv'
  have hu' : cs[i]? = some u := by simpa using hu
  exact Out.quiet hc.rel (u := u) (by simp [execOp, ho, hev, Instr.extract, hu']) hvr

theorem sound_nilc (hc : Ctx P B w0 ro ρ e h ev w) {x : Operand} {a : A} (ha : opdOf P x = some a)
    (H : op1 ro e h (.nilc a) = some (v, h')) (o : Oper) (ho : o.op = .nilCheck x) : Out B w0 ro ρ h.nx v h' ((execOp ev o).run P w) := by
  simp only [op1, Option.bind_eq_some_iff] at H
  obtain ⟨p, hp, H⟩ := H
  have hr := hc.opd x a p ha hp
  cases p <;> try (simp only [reduceCtorEq] at H; done)
  · rename_i b of
    simp only [Option.some.injEq, Prod.mk.injEq] at H
    obtain ⟨rfl, rfl⟩ := H
    have hr0 := hr
    simp only [VR] at hr
    exact Out.quiet hc.rel (u := ev x) (by simp [execOp, ho, hr.2]) hr0
  · rename_i f xs ys
    cases f <;> try (simp only [reduceCtorEq] at H; done)
    simp only [Option.some.injEq, Prod.mk.injEq] at H
    obtain ⟨rfl, rfl⟩ := H
    have hr0 := hr
    simp only [VR] at hr
    obtain ⟨xs', ys', hev, _, _⟩ := hr
    exact Out.quiet hc.rel (u := ev x) (by simp [execOp, ho, hev]) hr0

theorem sound_mkIfc (hc : Ctx P B w0 ro ρ e h ev w) {t : TypeId} {x : Operand} {a : A} (ha : opdOf P x = some a) (ht : match P.underlying t with | some (.interface _) => False | some _ => True | none => False)
    (H : op1 ro e h (.mkIfc t a) = some (v, h')) (o : Oper) (ho : o.op = .makeInterface t x) : Out B w0 ro ρ h.nx v h' ((execOp ev o).run P w) := by
  simp only [op1, Option.bind_eq_some_iff, Option.some.injEq, Prod.mk.injEq] at H
  obtain ⟨p, hp, rfl, rfl⟩ := H
  have hr := hc.opd x a p ha hp
  refine Out.quiet hc.rel (u := .iface t (ev x)) ?_ (by simp only [VR]; exact ⟨_, rfl, hr⟩)
  cases hu : P.underlying t with
  | none => simp [hu] at ht
  | some d => cases d <;> first | (simp [hu] at ht; done) | simp [execOp, ho, Instr.makeInterface, run_underlying hu]

theorem sound_mkFn (hc : Ctx P B w0 ro ρ e h ev w) {f : Fn} {xs ys : Array Operand} {as bs : List A} (ha : opdsOf P xs.toList = some as) (hb : opdsOf P ys.toList = some bs)
    (H : op1 ro e h (.mkFn f as bs) = some (v, h')) (o : Oper) (ho : o.op = .makeFunc f xs ys) : Out B w0 ro ρ h.nx v h' ((execOp ev o).run P w) := by
  simp only [op1, Option.bind_eq_some_iff, Option.some.injEq, Prod.mk.injEq] at H
  obtain ⟨p, hp, q, hq, rfl, rfl⟩ := H
  refine Out.quiet hc.rel (u := .func f (xs.map ev) (ys.map ev)) (by simp [execOp, ho, Instr.makeFunc]) ?_
  simp only [VR]
  exact ⟨_, _, rfl, by simpa using evs_rel hc ha hp, by simpa using evs_rel hc hb hq⟩

omit [Dr] in
theorem intBits_rel {op : BinOp} {k : IntKind} {a b : Int} {v : V} (hv : intBits op k a b = some v) : ∃ u, (Op.intBits op k a b).run P w = .ok u w ∧ VR ρ h.nx v u := by
  cases op <;> simp only [intBits, reduceCtorEq, Option.some.injEq] at hv <;> subst hv <;> exact ⟨_, rfl, by simp only [VR]⟩

theorem sound_un (hc : Ctx P B w0 ro ρ e h ev w) {op : UnOp} {t : TypeId} {x : Operand} {a : A} (ha : opdOf P x = some a)
    (H : op1 ro e h (.un op a) = some (v, h')) (o : Oper) (ho : o.op = .unOp op t x) : Out B w0 ro ρ h.nx v h' ((execOp ev o).run P w) := by
  simp only [op1, Option.bind_eq_some_iff, Option.some.injEq, Prod.mk.injEq] at H
  obtain ⟨p, hp, v', hv', rfl, rfl⟩ := H
  have hr := hc.opd x a p ha hp
  unfold un at hv'
  split at hv' <;> try simp only [VR] at hr
  · cases hv'
    rename_i k n
    exact Out.quiet hc.rel (u := .int k (k.wrap (0 - n))) (by simp [execOp, ho, hr, Op.unary, Op.intArith]) (by simp only [VR])
  · obtain ⟨u, hu, hvr⟩ := intBits_rel (P := P) (w := w) (ρ := ρ) (h := h) hv'
    exact Out.quiet hc.rel (u := u) (by simp [execOp, ho, hr, Op.unary, hu]) hvr
  · cases hv'
    rename_i b
    exact Out.quiet hc.rel (u := .bool (!b)) (by simp [execOp, ho, hr, Op.unary]) (by simp only [VR])
  · cases hv'
end
end Go.Am
