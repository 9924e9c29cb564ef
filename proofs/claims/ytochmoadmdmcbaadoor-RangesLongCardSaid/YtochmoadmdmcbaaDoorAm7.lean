/- Each operation of the plain machine is what the loaded program's operation comes to: operations that make and write memory. -/
import Derived.Test.YtochmoadmdmcbaaDoorAm6
namespace Go.Am
open Go Go.RowKit
variable [Dr]
section
variable {P : Program} {B : Nat} {w0 w : World} {ro : Nat} {ρ : Nat → Pl} {e : Env} {h h' : Hp} {ev : Operand → Value} {v : V}

/-- A new row of cells. -/
theorem Rel.row (hr : Rel B w0 ro ρ h w) {arr : Array Value} {us rest : List Value} {l : List V} (harr : arr.toList = us ++ rest) (hv : VRs ρ h.nx l us) (z : Nat) (t : TypeId) (lo hi : Nat) (hfr : lo = hi ∨ (arr.size ≤ lo ∧ lo ≤ hi)) :
    Rel B w0 ro (upd ρ h.nx ⟨w.heap.size, 0, z, arr.size⟩) (h.new (.cells z l)) (w.alloc (.cells arr t (lo, hi))) := by
  have hsz : arr.size = us.length + rest.length := by rw [← Array.length_toList, harr, List.length_append]
  refine hr.newAt ((Bel.refl _ _).alloc (Nat.le_refl _) _) _ (Nat.le_refl _) (by simp) _ ?_
  refine ⟨rfl, by rw [← hv.length]; simp only; omega, fun i hi => ?_, fun _ => ⟨arr, t, lo, hi, heap_alloc_new w _, hfr⟩, fun i v hv' => ?_⟩
  · simp only [Nat.zero_add]
    rw [World.cell?_alloc_mark, Array.getElem?_eq_getElem hi]; rfl
  · obtain ⟨u, hu, hvr⟩ := hv.get i v hv'
    refine ⟨u, ?_, hvr⟩
    simp only [Nat.zero_add]
    rw [World.cell?_alloc_mark, ← Array.getElem?_toList, harr]
    rw [List.getElem?_append_left]
    · exact hu
    · rcases Nat.lt_or_ge i us.length with h1 | h1
      · exact h1
      · rw [List.getElem?_eq_none h1] at hu; cases hu

theorem Rel.map (hr : Rel B w0 ro ρ h w) : Rel B w0 ro (upd ρ h.nx ⟨w.heap.size, 0, 0, 0⟩) (h.new (.map [])) (w.alloc (.map #[] 0)) :=
  hr.newAt ((Bel.refl _ _).alloc (Nat.le_refl _) _) _ (Nat.le_refl _) (by simp) _ ⟨#[], 0, heap_alloc_new w _, rfl⟩

theorem sound_alloc (hc : Ctx P B w0 ro ρ e h ev w) {t : TypeId} {z : V} (hz : zeroOf P t = some z)
    (H : op1 ro e h (.alloc z.cells) = some (v, h')) (o : Oper) (ho : o.op = .alloc t) : Out B w0 ro ρ h.nx v h' ((execOp ev o).run P w) := by
  simp only [op1, Option.some.injEq, Prod.mk.injEq] at H
  obtain ⟨rfl, rfl⟩ := H
  obtain ⟨i, zv, hi, hzv, hval, _⟩ := zeroOf_inv hz
  have hvr : VR ρ h.nx z zv := valOf_rel hval
  have hrow := hc.rel.row (arr := zv.cells) (rest := []) (List.append_nil _).symm hvr.cells 0 t 0 0 (.inl rfl)
  refine ⟨.pointer (some ⟨w.heap.size, 0, none⟩), _, _, .inl ?_, upd_lt, Nat.le_succ _, ?_, hrow⟩
  · simp [execOp, ho, Instr.alloc, zeroValue, typeInfo, hi, hzv, newVar, newRow]
  · simp only [VR, upd_same]
    exact ⟨Nat.lt_succ_self _, trivial⟩

theorem sound_box (hc : Ctx P B w0 ro ρ e h ev w) {t : TypeId} {n : Nat} {x : Operand} {a : A} (ha : opdOf P x = some a)
    (H : op1 ro e h (.box n a) = some (v, h')) (o : Oper) (ho : o.op = .box t x) : Out B w0 ro ρ h.nx v h' ((execOp ev o).run P w) := by
  simp only [op1, Option.bind_eq_some_iff] at H
  obtain ⟨p, hp, H⟩ := H
  have hr := hc.opd x a p ha hp
  obtain ⟨_, H⟩ := ite_some H
  simp only [Prod.mk.injEq] at H
  obtain ⟨rfl, rfl⟩ := H
  have hrow := hc.rel.row (arr := (ev x).cells) (rest := []) (List.append_nil _).symm hr.cells 0 t 0 0 (.inl rfl)
  refine ⟨.pointer (some ⟨w.heap.size, 0, none⟩), _, _, .inl ?_, upd_lt, Nat.le_succ _, ?_, hrow⟩
  · simp [execOp, ho, Instr.box, newVar, newRow]
  · simp only [VR, upd_same]
    exact ⟨Nat.lt_succ_self _, trivial⟩

theorem sound_mkMap (hc : Ctx P B w0 ro ρ e h ev w) {t : TypeId}
    (H : op1 ro e h .mkMap = some (v, h')) (o : Oper) (ho : o.op = .makeMap t none) : Out B w0 ro ρ h.nx v h' ((execOp ev o).run P w) := by
  simp only [op1, Option.some.injEq, Prod.mk.injEq] at H
  obtain ⟨rfl, rfl⟩ := H
  refine ⟨.map (some w.heap.size), _, _, .inl ?_, upd_lt, Nat.le_succ _, ?_, hc.rel.map⟩
  · simp [execOp, ho, Instr.makeMap]
  · simp only [VR, upd_same]
    exact ⟨Nat.lt_succ_self _, trivial⟩

/-! parts put into cells -/

omit [Dr] in
theorem foldl_set (off : Nat) : ∀ (us : List Value) (k : Nat) (arr : Array Value), off + k + us.length ≤ arr.size →
    (((us.zipIdx k).foldl (fun cs (x : Value × Nat) => cs.setIfInBounds (off + x.2) x.1) arr).size = arr.size ∧
     ∀ i, ((us.zipIdx k).foldl (fun cs (x : Value × Nat) => cs.setIfInBounds (off + x.2) x.1) arr)[i]? = if off + k ≤ i ∧ i < off + k + us.length then us[i - (off + k)]? else arr[i]?)
  | [], k, arr, _ => ⟨rfl, fun i => by rw [if_neg (by simp only [List.length_nil]; omega)]; rfl⟩
  | u :: us, k, arr, h => by
    simp only [List.length_cons] at h
    have ih := foldl_set off us (k + 1) (arr.setIfInBounds (off + k) u) (by simp; omega)
    simp only [List.zipIdx_cons, List.foldl_cons]
    refine ⟨by rw [ih.1]; simp, fun i => ?_⟩
    rw [ih.2 i]
    by_cases e : i = off + k
    · subst e
      rw [if_neg (by omega), if_pos (by simp only [List.length_cons]; omega)]
      simp [Array.getElem?_setIfInBounds]
      omega
    · by_cases h1 : off + (k + 1) ≤ i ∧ i < off + (k + 1) + us.length
      · rw [if_pos h1, if_pos (by simp only [List.length_cons]; omega)]
        rw [show i - (off + k) = (i - (off + (k + 1))) + 1 by omega]
        simp
      · rw [if_neg h1, if_neg (by simp only [List.length_cons]; omega), Array.getElem?_setIfInBounds_ne (by omega)]

omit [Dr] in
theorem VRs.setN {ρ : Nat → Pl} {nx : Nat} {l vs l' : List V} {o : Nat} {arr : Array Value} {us : List Value} (h1 : VRs ρ nx l arr.toList) (h2 : VRs ρ nx vs us) (hs : Am.setN l o vs = some l') :
    VRs ρ nx l' (((us.zipIdx).foldl (fun cs (x : Value × Nat) => cs.setIfInBounds (o + x.2) x.1) arr)).toList := by
  obtain ⟨hle, rfl⟩ := setN_eq hs
  have hl1 := h1.length
  have hl2 := h2.length
  simp only [Array.length_toList] at hl1
  have hf := foldl_set o us 0 arr (by omega)
  simp only [Nat.add_zero] at hf
  refine VRs.of_get _ _ (by simp [hf.1]; omega) fun i v hv => ?_
  rw [Array.getElem?_toList, hf.2 i]
  by_cases c1 : i < o
  · rw [List.getElem?_append_left (by simp; omega), List.getElem?_take, if_pos c1] at hv
    rw [if_neg (by omega)]
    obtain ⟨u, hu, hr⟩ := h1.get i v hv
    exact ⟨u, by simpa using hu, hr⟩
  · rw [List.getElem?_append_right (by simp; omega)] at hv
    simp only [List.length_take, Nat.min_eq_left (show o ≤ l.length by omega)] at hv
    by_cases c2 : i - o < vs.length
    · rw [List.getElem?_append_left c2] at hv
      rw [if_pos (by omega)]
      exact h2.get _ v hv
    · rw [List.getElem?_append_right (by omega), List.getElem?_drop] at hv
      rw [if_neg (by omega)]
      rw [show o + vs.length + (i - o - vs.length) = i by omega] at hv
      obtain ⟨u, hu, hr⟩ := h1.get i v hv
      exact ⟨u, by simpa using hu, hr⟩

theorem fill_rel (hc : Ctx P B w0 ro ρ e h ev w) {f : Nat → Option (Nat × Nat)} : ∀ {xs : List (Nat × Operand)} {ps : List (Nat × Nat × A)} {vs : List (Nat × Nat × V)} {cells l : List V} {arr : Array Value},
    partsOf P f xs = some ps → evParts e ps = some vs → fill cells vs = some l → VRs ρ h.nx cells arr.toList →
      ∃ arr', Instr.fill f arr (xs.map fun (i, x) => (i, ev x)) = some arr' ∧ VRs ρ h.nx l arr'.toList
  | [], ps, vs, cells, l, arr, hp, hv, hf, hr => by
    simp only [partsOf, Option.some.injEq] at hp
    subst hp
    simp only [evParts, Option.some.injEq] at hv
    subst hv
    simp only [fill, Option.some.injEq] at hf
    subst hf
    exact ⟨arr, rfl, hr⟩
  | (i, x) :: xs, ps, vs, cells, l, arr, hp, hv, hf, hr => by
    simp only [partsOf, Option.bind_eq_some_iff, Option.some.injEq] at hp
    obtain ⟨⟨o, s⟩, hi, a, ha, ps', hps, rfl⟩ := hp
    simp only [evParts, Option.bind_eq_some_iff, Option.some.injEq] at hv
    obtain ⟨v, hv, vs', hvs, rfl⟩ := hv
    have hx := (hc.opd x a v ha hv).cells
    simp only [fill] at hf
    split at hf
    · rename_i hlen
      simp only [Option.bind_eq_some_iff] at hf
      obtain ⟨c, hcs, hf⟩ := hf
      have hle := (setN_eq hcs).1
      have h1 := hr.length
      have h2 := hx.length
      simp only [Array.length_toList] at h1 h2
      obtain ⟨arr', hA, hB⟩ := fill_rel hc hps hvs hf (hr.setN hx hcs)
      refine ⟨arr', ?_, hB⟩
      simp only [List.map_cons, Instr.fill, hi]
      have g1 : ¬ ((ev x).cells.size ≠ s) := by simp; omega
      have g2 : ¬ (o + (ev x).cells.size > arr.size) := by omega
      rw [if_neg (by simp [g1, g2])]
      rw [← hA]
      congr 1
      rw [← Array.foldl_toList, Array.toList_zipIdx]
    · cases hf

theorem sound_build (hc : Ctx P B w0 ro ρ e h ev w) {t : TypeId} {z : V} {xs : Array (Nat × Operand)} {ps : List (Nat × Nat × A)} {f : Nat → Option (Nat × Nat)} (hz : zeroOf P t = some z) (hps : partsOf P f xs.toList = some ps)
    (hf : ∀ parts : List (Nat × Value), ∀ cells : Array Value, ∀ c, Instr.fill f cells parts = some c → (zeroValue t).run P w = .ok (.agg cells) w ∨ (∀ cs, (zeroValue t).run P w = .ok cs w → cs.cells = cells) → (Instr.build t parts.toArray).run P w = .ok (.agg c) w)
    (H : op1 ro e h (.build z.cells ps) = some (v, h')) (o : Oper) (ho : o.op = .build t xs) : Out B w0 ro ρ h.nx v h' ((execOp ev o).run P w) := by
  simp only [op1, Option.bind_eq_some_iff, Option.some.injEq, Prod.mk.injEq] at H
  obtain ⟨vs, hvs, l, hl, rfl, rfl⟩ := H
  obtain ⟨i, zv, hi, hzv, hval, _⟩ := zeroOf_inv hz
  have hvr : VR ρ h.nx z zv := valOf_rel hval
  obtain ⟨arr', h1, h2⟩ := fill_rel hc hps hvs hl hvr.cells
  refine Out.quiet hc.rel (u := .agg arr') ?_ (by simp only [VR]; exact ⟨_, rfl, h2⟩)
  have hrun := hf _ _ _ h1 (.inr fun cs hcs => by
    have : (zeroValue t).run P w = .ok zv w := by simp [zeroValue, typeInfo, hi, hzv]
    rw [this] at hcs
    cases hcs; rfl)
  have he : (xs.map fun (i, x) => (i, ev x)) = (xs.toList.map fun (i, x) => (i, ev x)).toArray := by
    apply Array.ext'; simp
  simp only [execOp, ho, Sem.run_bind]
  rw [he, hrun]
  rfl

theorem sound_buildStruct (hc : Ctx P B w0 ro ρ e h ev w) {t : TypeId} {z : V} {xs : Array (Nat × Operand)} {ps : List (Nat × Nat × A)} {fs : Array Field} (hz : zeroOf P t = some z) (ht : P.underlying t = some (.struct fs))
    (hps : partsOf P (fun i => (fs[i]?).bind fun f => (sizeOf? P f.type).bind fun s => some (f.offset, s)) xs.toList = some ps)
    (H : op1 ro e h (.build z.cells ps) = some (v, h')) (o : Oper) (ho : o.op = .build t xs) (hsz : ∀ f ∈ fs, (sizeOf? P f.type).isSome = true) : Out B w0 ro ρ h.nx v h' ((execOp ev o).run P w) := by
  refine sound_build hc hz hps (fun parts cells c hfill hz0 => ?_) H o ho
  obtain ⟨zv, hzv, _⟩ := run_zero hz w
  have hcells : zv.cells = cells := by
    rcases hz0 with h1 | h1
    · rw [hzv] at h1; cases h1; rfl
    · exact h1 zv hzv
  have hmap : ∀ w : World, (fs.mapM (fun f => do pure (f.offset, ← sizeOf f.type) : Field → Sem (Nat × Nat))).run P w = .ok (fs.map fun f => (f.offset, (sizeOf? P f.type).getD 0)) w := by
    intro w
    have key : ∀ (l : List Field), (∀ f ∈ l, (sizeOf? P f.type).isSome = true) → (l.mapM (fun f => do pure (f.offset, ← sizeOf f.type) : Field → Sem (Nat × Nat))).run P w = .ok (l.map fun f => (f.offset, (sizeOf? P f.type).getD 0)) w := by
      intro l
      induction l with
      | nil => intro _; simp
      | cons f l ih =>
        intro hl
        obtain ⟨n, hn⟩ := Option.isSome_iff_exists.1 (hl f (by simp))
        have := ih (fun g hg => hl g (by simp [hg]))
        simp only [List.mapM_cons, Sem.run_bind, run_sizeOf hn, Result.andThen_ok, Sem.run_pure, this, List.map_cons, hn, Option.getD_some]
    rw [Array.mapM_eq_mapM_toList]
    simp only [Sem.run_map, key fs.toList (fun f hf => hsz f (by simpa using hf)), Result.andThen_ok]
    congr 1
    apply Array.ext'; simp
  have hplace : (fun i : Nat => (fs.map fun f : Field => (f.offset, (sizeOf? P f.type).getD 0))[i]?) = fun i : Nat => (fs[i]?).bind fun f => (sizeOf? P f.type).bind fun s => some (f.offset, s) := by
    funext i
    rw [Array.getElem?_map]
    cases hi : fs[i]? with
    | none => rfl
    | some f =>
      obtain ⟨n, hn⟩ := Option.isSome_iff_exists.1 (hsz f (Array.mem_of_getElem? hi))
      simp [hn]
  simp only [Instr.build, Sem.run_bind, hzv, Result.andThen_ok, run_underlying ht, hmap, hplace]
  rw [hcells, hfill]
  rfl

theorem sound_buildArr (hc : Ctx P B w0 ro ρ e h ev w) {t el : TypeId} {n s : Nat} {z : V} {xs : Array (Nat × Operand)} {ps : List (Nat × Nat × A)} (hz : zeroOf P t = some z) (ht : P.underlying t = some (.array n el)) (hs : sizeOf? P el = some s)
    (hps : partsOf P (fun i => some (i * s, s)) xs.toList = some ps)
    (H : op1 ro e h (.build z.cells ps) = some (v, h')) (o : Oper) (ho : o.op = .build t xs) : Out B w0 ro ρ h.nx v h' ((execOp ev o).run P w) := by
  refine sound_build hc hz hps (fun parts cells c hfill hz0 => ?_) H o ho
  obtain ⟨zv, hzv, _⟩ := run_zero hz w
  have hcells : zv.cells = cells := by
    rcases hz0 with h1 | h1
    · rw [hzv] at h1; cases h1; rfl
    · exact h1 zv hzv
  simp only [Instr.build, Sem.run_bind, hzv, Result.andThen_ok, run_underlying ht, run_sizeOf hs]
  rw [hcells, hfill]
  rfl
end
end Go.Am
