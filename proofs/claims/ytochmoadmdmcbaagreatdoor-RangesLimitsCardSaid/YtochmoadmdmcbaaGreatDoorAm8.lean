/- Each operation of the plain machine is what the loaded program's operation comes to: new rows of elements, stores, conversions with memory. -/
import Derived.Test.YtochmoadmdmcbaaGreatDoorAm6
namespace Go.Am
set_option linter.unusedSimpArgs false
set_option linter.unusedVariables false
open Go Go.RowKit
variable [Dr]
section
variable {P : Program} {B : Nat} {w0 w : World} {ro : Nat} {ρ : Nat → Pl} {e : Env} {h h' : Hp} {ev : Operand → Value} {v : V}

omit [Dr] in
theorem zeros_length (z : List V) : ∀ n, (zeros z n).length = n * z.length
  | 0 => by simp [zeros]
  | n + 1 => by simp [zeros, zeros_length z n, Nat.succ_mul, Nat.add_comm]
omit [Dr] in
theorem zeros_get (z : List V) : ∀ (n i : Nat), i < n * z.length → (zeros z n)[i]? = z[i % z.length]?
  | 0, i, h => by simp at h
  | n + 1, i, h => by
    simp only [zeros]
    by_cases hi : i < z.length
    · rw [List.getElem?_append_left hi, Nat.mod_eq_of_lt hi]
    · rw [List.getElem?_append_right (by omega), zeros_get z n (i - z.length) (by rw [Nat.add_mul, Nat.one_mul] at h; omega)]
      congr 1
      exact (Nat.mod_eq_sub_mod (by omega)).symm

omit [Dr] in
/-- Zero cells of n elements, there and here. -/
theorem zeros_rel {z : V} {zv : Value} {nx : Nat} (hz : VR ρ nx z zv) (n : Nat) (size : Nat) (hs : z.cells.length = size) :
    VRs ρ nx (zeros z.cells n) ((Array.range (n * size)).map (zv.cells[· % zv.cells.size]!)).toList := by
  have hc := hz.cells
  have hl := hc.length
  simp only [Array.length_toList] at hl
  subst hs
  refine VRs.of_get _ _ (by simp [zeros_length]) fun i v hv => ?_
  have hlt : i < n * z.cells.length := by
    rcases Nat.lt_or_ge i (n * z.cells.length) with h1 | h1
    · exact h1
    · rw [List.getElem?_eq_none (by rw [zeros_length]; exact h1)] at hv; cases hv
  rw [zeros_get _ _ _ hlt] at hv
  obtain ⟨u, hu, hr⟩ := hc.get _ v hv
  refine ⟨u, ?_, hr⟩
  have hu' : zv.cells[i % zv.cells.size]? = some u := by rw [hl, ← Array.getElem?_toList]; exact hu
  simp only [Array.getElem?_toList, Array.getElem?_map, Array.getElem?_range, hlt, if_true, Option.map_some]
  simp only [getElem!_def, hu']

theorem sound_buildSl (hc : Ctx P B w0 ro ρ e h ev w) {t el : TypeId} {n s : Nat} {z : V} {xs : Array (Nat × Operand)} {ps : List (Nat × Nat × A)} (ht : P.underlying t = some (.slice el)) (hs : sizeOf? P el = some s) (hz : zeroOf P el = some z)
    (hb : n * s ≤ 16777216) (h0 : 0 < s) (hps : partsOf P (fun i => some (i * s, s)) xs.toList = some ps)
    (H : op1 ro e h (.buildSl s n z.cells ps) = some (v, h')) (o : Oper) (ho : o.op = .buildSlice t n xs) : Out B w0 ro ρ h.nx v h' ((execOp ev o).run P w) := by
  simp only [op1, Option.bind_eq_some_iff, Option.some.injEq, Prod.mk.injEq] at H
  obtain ⟨vs, hvs, l, hl, rfl, rfl⟩ := H
  obtain ⟨i, zv, hi, hzv, hval, hzl⟩ := zeroOf_inv hz
  obtain ⟨i2, hi2, rfl⟩ := sizeOf_inv hs
  have : i2 = i := by rw [hi] at hi2; cases hi2; rfl
  subst this
  have hvr : VR ρ h.nx z zv := valOf_rel hval
  have hzz := zeros_rel hvr n i2.size hzl
  obtain ⟨arr', h1, h2⟩ := fill_rel hc hps hvs hl hzz
  have hlen : arr'.size = n * i2.size := by
    have := h2.length
    simp only [Array.length_toList] at this
    have key : ∀ {ps : List (Nat × Nat × V)} {c l : List V}, fill c ps = some l → l.length = c.length := by
      intro ps
      induction ps with
      | nil => intro c l hf; simp only [fill, Option.some.injEq] at hf; subst hf; rfl
      | cons p ps ih =>
        intro c l hf
        obtain ⟨o, s, v⟩ := p
        simp only [fill] at hf
        split at hf
        · simp only [Option.bind_eq_some_iff] at hf
          obtain ⟨c', hc', hf⟩ := hf
          obtain ⟨hle, rfl⟩ := setN_eq hc'
          rw [ih hf]
          simp
          omega
        · cases hf
    rw [this, key hl, zeros_length, hzl]
  have hrow := hc.rel.row (arr := arr') (rest := []) (List.append_nil _).symm h2 i2.size el 0 0 (.inl rfl)
  refine ⟨.slice (some ⟨w.heap.size, 0, none⟩) n n, _, _, .inl ?_, upd_lt, Nat.le_succ _, ?_, hrow⟩
  · have hz0 : ¬ (2 ^ 24 < n * i2.size) := by omega
    have he : (xs.map fun (i, x) => (i, ev x)).toList = xs.toList.map fun (i, x) => (i, ev x) := by simp
    by_cases hn : n * i2.size = 0
    · have harr : ((Array.range (n * i2.size)).map (zv.cells[· % zv.cells.size]!)) = ((Array.range (n * i2.size)).map ((#[] : Array Value)[· % (#[] : Array Value).size]!)) := by rw [hn, Array.range_zero']; simp
      rw [harr] at h1
      simp [execOp, ho, Instr.buildSlice, run_underlying ht, run_sizeOf hs, hn, newRow]
      rw [hn] at h1
      simp at h1
      simp [h1]
    · simp only [execOp, ho, Instr.buildSlice, Sem.run_bind, run_underlying ht, run_sizeOf hs, Result.andThen_ok]
      rw [if_neg (by simpa using hz0)]
      simp only [if_neg hn, Sem.run_bind, zeroValue, typeInfo, run_program, Result.andThen_ok, hi, hzv, Sem.run_pure, he, h1, newRow, run_newObj]
      rfl
  · simp only [VR, upd_same]
    refine ⟨Nat.lt_succ_self _, n, rfl, Nat.le_refl _, .inr rfl, ?_⟩
    omega

theorem sound_mkSl (hc : Ctx P B w0 ro ρ e h ev w) {t el : TypeId} {s by_ : Nat} {z : V} {x y : Operand} {a b : A} (ha : opdOf P x = some a) (hbo : opdOf P y = some b) (ht : P.underlying t = some (.slice el)) (hs : sizeOf? P el = some s) (hb : bytesOf? P el = some by_) (hz : zeroOf P el = some z)
    (H : op1 ro e h (.mkSl s by_ z.cells a b) = some (v, h')) (o : Oper) (ho : o.op = .makeSlice t x y) : Out B w0 ro ρ h.nx v h' ((execOp ev o).run P w) := by
  simp only [op1, Option.bind_eq_some_iff] at H
  obtain ⟨p, hp, q, hq, H⟩ := H
  have hr := hc.opd x a p ha hp
  have hr2 := hc.opd y b q hbo hq
  cases p <;> try (simp only [reduceCtorEq] at H; done)
  cases q <;> try (simp only [reduceCtorEq] at H; done)
  rename_i kl l kc c
  simp only [VR] at hr hr2
  simp only at H
  obtain ⟨⟨h0, hlc, hbyt, hmax⟩, H⟩ := ite_some H
  simp only [Prod.mk.injEq] at H
  obtain ⟨rfl, rfl⟩ := H
  obtain ⟨i, zv, hi, hzv, hval, hzl⟩ := zeroOf_inv hz
  obtain ⟨i2, hi2, rfl⟩ := sizeOf_inv hs
  have : i2 = i := by rw [hi] at hi2; cases hi2; rfl
  subst this
  obtain ⟨i3, hi3, rfl⟩ := bytesOf_inv hb
  have : i3 = i2 := by rw [hi] at hi3; cases hi3; rfl
  subst this
  have hvr : VR ρ h.nx z zv := valOf_rel hval
  have hzz := zeros_rel hvr c.toNat i3.size hzl
  have hrow := hc.rel.row (arr := (Array.range (c.toNat * i3.size)).map (zv.cells[· % zv.cells.size]!)) (rest := []) (List.append_nil _).symm hzz i3.size el 0 0 (.inl rfl)
  have hrun := run_make (P := P) w t el i3 zv ht hi hzv kl kc l c h0 hlc (by rw [Int.mul_comm]; simp only [roomMax] at hbyt; omega) (by simp only [roomMax] at hmax; omega)
  refine ⟨.slice (some ⟨w.heap.size, 0, none⟩) l.toNat c.toNat, _, _, .inl ?_, upd_lt, Nat.le_succ _, ?_, hrow⟩
  · simp only [execOp, ho, Sem.run_bind, hr, hr2, hrun, Result.andThen_ok, Sem.run_pure]
    rfl
  · simp only [VR, upd_same]
    refine ⟨Nat.lt_succ_self _, c.toNat, rfl, by omega, .inr rfl, ?_⟩
    simp

theorem sound_store (hc : Ctx P B w0 ro ρ e h ev w) {t : TypeId} {n : Nat} {x y : Operand} {a b : A} (ha : opdOf P x = some a) (hb : opdOf P y = some b) (hn : sizeOf? P t = some n)
    (H : op1 ro e h (.store n a b) = some (v, h')) (o : Oper) (ho : o.op = .store t x y) : Out B w0 ro ρ h.nx v h' ((execOp ev o).run P w) := by
  simp only [op1, Option.bind_eq_some_iff] at H
  obtain ⟨p, hp, q, hq, H⟩ := H
  have hr := hc.opd x a p ha hp
  have hr2 := (hc.opd y b q hb hq).cells
  cases p <;> try (simp only [reduceCtorEq] at H; done)
  rename_i bl of
  simp only [VR] at hr
  obtain ⟨hbl, hev⟩ := hr
  simp only at H
  split at H
  · rename_i hcnd
    obtain ⟨hro, hlen, hones⟩ := hcnd
    split at H
    · rename_i z l hg
      simp only [Option.bind_eq_some_iff, Option.some.injEq, Prod.mk.injEq] at H
      obtain ⟨l', hl', rfl, rfl⟩ := H
      obtain ⟨hle, rfl⟩ := setN_eq hl'
      have hus := hr2.length
      simp only [Array.length_toList] at hus
      have hst := hc.rel.store hg hro hle hr2
      obtain ⟨_, hle2, hsome, hown, _⟩ := hc.rel.blk bl _ hg
      have hrun := run_storeCells_cells (P := P) (ρ bl).blk ((ρ bl).sh + of) (ev y).cells.toList 0 w
        (fun j hj => by simp only [Array.length_toList] at hj; rw [Nat.add_zero, Nat.add_assoc]; exact hsome (of + j) (by omega))
        (fun j hj => by simp only [Array.length_toList] at hj; rw [Nat.add_zero, Nat.add_assoc]; exact (hown hro).unfrozen _ (hsome (of + j) (by omega)))
        (hr2.ones hones)
      simp only [Nat.add_zero] at hrun
      refine ⟨undef, _, _, .inr ⟨?_, rfl⟩, fun _ _ => rfl, Nat.le_refl _, ?_, hst⟩
      · have hsz : ¬ ((ev y).cells.size ≠ n) := by simp; omega
        simp only [execOp, ho, Instr.storeAt, Sem.run_bind, hev, Instr.sureAddr, Sem.run_pure, Result.andThen_ok, storeVar, run_sizeOf hn]
        rw [if_neg hsz, hrun]
        rfl
      · simp only [VR, undef]
        exact ⟨#[], rfl, VRs.nil⟩
    · cases H
  · cases H

theorem shown_rel (hr : Rel B w0 ro ρ h w) {sz b o n : Nat} {l : List V} (hs : shown h sz b o n = some l) :
    (ρ b).z = sz ∧ ∃ us : List Value, us.length = n * sz ∧ VRs ρ h.nx l us ∧ ∀ j u, us[j]? = some u → w.cell? ((⟨(ρ b).blk, (ρ b).sh + o, none⟩ : Addr).add j) = some u := by
  unfold shown at hs
  split at hs
  · rename_i z l' hg
    split at hs
    · rename_i e
      subst e
      obtain ⟨us, h1, h2, _, h4⟩ := hr.loadCells (P := default) hg hs
      exact ⟨(hr.blk b _ hg).1, us, h1, h2, h4⟩
    · cases hs
  · cases hs

omit [Dr] in
theorem bytesOf_rel {nx : Nat} : ∀ {l : List V} {s : List UInt8} {us : List Value}, bytesOf l = some s → VRs ρ nx l us →
    ∃ ns : List Int, us = ns.map (Value.int .u8) ∧ s = ns.map fun n => UInt8.ofNat n.toNat
  | [], s, us, h, hv => by
    simp only [bytesOf, Option.some.injEq] at h
    subst h
    exact ⟨[], hv.inv_nil, rfl⟩
  | x :: l, s, us, h, hv => by
    obtain ⟨u, us', rfl, h1, h2⟩ := hv.inv
    cases x <;> try (simp only [bytesOf, reduceCtorEq] at h; done)
    rename_i k n
    cases k <;> try (simp only [bytesOf, reduceCtorEq] at h; done)
    simp only [bytesOf, Option.bind_eq_some_iff, Option.some.injEq] at h
    obtain ⟨s', hs', rfl⟩ := h
    obtain ⟨ns, rfl, rfl⟩ := bytesOf_rel hs' h2
    simp only [VR] at h1
    subst h1
    exact ⟨n :: ns, rfl, rfl⟩

theorem sound_convInt (hc : Ctx P B w0 ro ρ e h ev w) {s d : TypeId} {ks k : IntKind} {x : Operand} {a : A} (ha : opdOf P x = some a) (hs : P.underlying s = some (.int ks)) (hd : P.underlying d = some (.int k))
    (H : op1 ro e h (.conv (.int k) a) = some (v, h')) (o : Oper) (ho : o.op = .convert s d x) : Out B w0 ro ρ h.nx v h' ((execOp ev o).run P w) := by
  simp only [op1, Option.bind_eq_some_iff] at H
  obtain ⟨p, hp, H⟩ := H
  have hr := hc.opd x a p ha hp
  cases p <;> try (simp only [reduceCtorEq] at H; done)
  simp only [Option.some.injEq, Prod.mk.injEq] at H
  obtain ⟨rfl, rfl⟩ := H
  simp only [VR] at hr
  exact Out.quiet hc.rel (u := .int k (k.wrap _)) (by simp [execOp, ho, hr, convert, run_underlying hs, run_underlying hd, Conv.intToInt]; rfl) (by simp only [VR])

theorem sound_convStr (hc : Ctx P B w0 ro ρ e h ev w) {s d : TypeId} {x : Operand} {a : A} (ha : opdOf P x = some a) (hs : P.underlying s = some .string) (hd : P.underlying d = some .string)
    (H : op1 ro e h (.conv .str a) = some (v, h')) (o : Oper) (ho : o.op = .convert s d x) : Out B w0 ro ρ h.nx v h' ((execOp ev o).run P w) := by
  simp only [op1, Option.bind_eq_some_iff] at H
  obtain ⟨p, hp, H⟩ := H
  have hr := hc.opd x a p ha hp
  cases p <;> try (simp only [reduceCtorEq] at H; done)
  simp only [Option.some.injEq, Prod.mk.injEq] at H
  obtain ⟨rfl, rfl⟩ := H
  have hr0 := hr
  simp only [VR] at hr
  exact Out.quiet hc.rel (u := ev x) (by simp [execOp, ho, hr, convert, run_underlying hs, run_underlying hd]) hr0

omit [Dr] in
theorem byteV_rel {nx : Nat} : ∀ (t : List UInt8), VRs ρ nx (t.map byteV) (t.map fun b => Value.int .u8 (b.toNat : Int))
  | [] => VRs.nil
  | b :: t => VRs.cons (by simp only [byteV, VR]) (byteV_rel t)

theorem sound_convBytes (hc : Ctx P B w0 ro ρ e h ev w) {s d el : TypeId} {x : Operand} {a : A} (ha : opdOf P x = some a) (hs : P.underlying s = some .string) (hd : P.underlying d = some (.slice el)) (he : P.underlying el = some (.int .u8))
    (H : op1 ro e h (.conv .bytes a) = some (v, h')) (o : Oper) (ho : o.op = .convert s d x) : Out B w0 ro ρ h.nx v h' ((execOp ev o).run P w) := by
  simp only [op1, Option.bind_eq_some_iff] at H
  obtain ⟨p, hp, H⟩ := H
  have hr := hc.opd x a p ha hp
  cases p <;> try (simp only [reduceCtorEq] at H; done)
  rename_i t
  simp only at H
  obtain ⟨hlen, H⟩ := ite_some H
  simp only [Prod.mk.injEq] at H
  obtain ⟨rfl, rfl⟩ := H
  simp only [VR] at hr
  have hrun := run_bytes_of_string (P := P) w s d el ⟨t.toArray⟩ hs hd he
  have hge : t.length ≤ grownCap w t.length 0 el := grownCap_ge w _ _ _
  have harr : (bytesRow ⟨t.toArray⟩ (grownCap w (⟨t.toArray⟩ : ByteArray).size 0 el)).toList = (t.map fun b => Value.int .u8 (b.toNat : Int)) ++ List.replicate (grownCap w t.length 0 el - t.length) (.int .u8 0) := by
    simp [bytesRow, bytes_size]
  have hrow := hc.rel.drew.row harr (byteV_rel t) 1 el (bytesRow ⟨t.toArray⟩ (grownCap w (⟨t.toArray⟩ : ByteArray).size 0 el)).size ((bytesRow ⟨t.toArray⟩ (grownCap w (⟨t.toArray⟩ : ByteArray).size 0 el)).size + 1) (.inr ⟨Nat.le_refl _, Nat.le_succ _⟩)
  refine ⟨.slice (some ⟨w.heap.size, 0, none⟩) (⟨t.toArray⟩ : ByteArray).size (grownCap w (⟨t.toArray⟩ : ByteArray).size 0 el), _, _, .inl ?_, upd_lt, Nat.le_succ _, ?_, hrow⟩
  · simp only [execOp, ho, Sem.run_bind, hr, hrun, Result.andThen_ok, Sem.run_pure]
  simp only [VR, upd_same]
  refine ⟨Nat.lt_succ_self _, grownCap w t.length 0 el, by rw [bytes_size]; rfl, hge, .inl trivial, ?_⟩
  have : (bytesRow ⟨t.toArray⟩ (grownCap w (⟨t.toArray⟩ : ByteArray).size 0 el)).size = grownCap w t.length 0 el := by
    rw [← Array.length_toList, harr]
    simp
    omega
  simp only [this]
  omega

theorem sound_convOf (hc : Ctx P B w0 ro ρ e h ev w) {s d el : TypeId} {x : Operand} {a : A} (ha : opdOf P x = some a) (hs : P.underlying s = some (.slice el)) (hd : P.underlying d = some .string) (he : P.underlying el = some (.int .u8))
    (H : op1 ro e h (.conv .ofBytes a) = some (v, h')) (o : Oper) (ho : o.op = .convert s d x) : Out B w0 ro ρ h.nx v h' ((execOp ev o).run P w) := by
  simp only [op1, Option.bind_eq_some_iff] at H
  obtain ⟨p, hp, H⟩ := H
  have hr := hc.opd x a p ha hp
  cases p <;> try (simp only [reduceCtorEq] at H; done)
  · rename_i b of n c
    simp only [VR] at hr
    obtain ⟨_, c', hev, _⟩ := hr
    simp only [Option.bind_eq_some_iff, Option.some.injEq, Prod.mk.injEq] at H
    obtain ⟨l, hl, t, ht, rfl, rfl⟩ := H
    obtain ⟨_, us, h1, h2, h3⟩ := shown_rel hc.rel hl
    obtain ⟨ns, rfl, rfl⟩ := bytesOf_rel ht h2
    have hlc := run_loadCells_list (P := P) w ⟨(ρ b).blk, (ρ b).sh + of, none⟩ _ h3
    rw [h1, Nat.mul_one] at hlc
    have hb := run_bytesToString (P := P) w ⟨(ρ b).blk, (ρ b).sh + of, none⟩ n c' ns hlc
    rw [foldl_push_bytes] at hb
    refine Out.quiet hc.rel (u := .string ⟨(ns.map fun n => UInt8.ofNat n.toNat).toArray⟩) ?_ (by simp only [VR])
    have hem : (ByteArray.empty.data ++ (ns.map fun n => UInt8.ofNat n.toNat).toArray) = (ns.map fun n => UInt8.ofNat n.toNat).toArray := by
      show (#[] : Array UInt8) ++ _ = _
      exact Array.empty_append
    rw [hem] at hb
    simp only [execOp, ho, hev, Sem.run_bind, run_convert_bytes_string w s d el _ _ _ hs he hd, hb, Result.andThen_ok, Sem.run_pure]
  · simp only [VR] at hr
    simp only [Option.some.injEq, Prod.mk.injEq] at H
    obtain ⟨rfl, rfl⟩ := H
    refine Out.quiet hc.rel (u := .string .empty) ?_ (by simp only [VR]; rfl)
    simp only [execOp, ho, hr, Sem.run_bind, run_convert_bytes_string w s d el _ _ _ hs he hd]
    rfl
  · simp only [VR] at hr
    obtain ⟨ad, c', hev⟩ := hr
    simp only [Option.some.injEq, Prod.mk.injEq] at H
    obtain ⟨rfl, rfl⟩ := H
    have hb := run_bytesToString (P := P) w ad 0 c' [] (by simp [loadCells, loadCellsFrom])
    refine Out.quiet hc.rel (u := .string .empty) ?_ (by simp only [VR]; rfl)
    simp only [execOp, ho, hev, Sem.run_bind, run_convert_bytes_string w s d el _ _ _ hs he hd, hb, Result.andThen_ok, Sem.run_pure, List.foldl_nil]
end
end Go.Am
