/- Each operation of the plain machine is what the loaded program's operation comes to: append, copy, clear, maps, the greatest and the least. -/
import Derived.Test.YtochmoadmdmcbaaGreatDoorAm9
namespace Go.Am
set_option linter.unusedSimpArgs false
set_option linter.unusedVariables false
open Go Go.RowKit
variable [Dr]
section
variable {P : Program} {B : Nat} {w0 w : World} {ro : Nat} {ρ : Nat → Pl} {e : Env} {h h' : Hp} {ev : Operand → Value} {v : V}

omit [Dr] in
/-- A builtin's call. -/
theorem run_builtin {b : Builtin} {c : Call} (hcal : c.callee = .builtin b) (o : Oper) (ho : o.op = .call c) (w : World) :
    (execOp ev o).run P w = (builtin b c.argTypes o.type (c.args.map fun | .const _ => true | _ => false) (c.args.map ev)).run P w := by
  simp [execOp, ho, resolve, hcal, invoke]
  rfl

theorem OutV.value {s : Sem Value} {nx0 : Nat} (h1 : OutV B w0 ro ρ nx0 v h' (s.run P w)) {r : Result Next} (hr : r = (do pure (.value (← s)) : Sem Next).run P w) : Out B w0 ro ρ nx0 v h' r := by
  obtain ⟨u, w', ρ', h2, h3, h4, h5, h6⟩ := h1
  exact ⟨u, w', ρ', .inl (by rw [hr]; simp [h2]), h3, h4, h5, h6⟩

omit [Dr] in
theorem two_args {c : Call} {x y : Operand} {t u : TypeId} (hargs : c.args.toList = [x, y]) (hts : c.argTypes.toList = [t, u]) : c.args = #[x, y] ∧ c.argTypes = #[t, u] :=
  ⟨by rw [← Array.toList_inj]; simpa using hargs, by rw [← Array.toList_inj]; simpa using hts⟩

theorem sound_app (hc : Ctx P B w0 ro ρ e h ev w) {c : Call} {x y : Operand} {t u el el' : TypeId} {sz by_ : Nat} {z : V} {a b : A} (hcal : c.callee = .builtin .append) (hargs : c.args.toList = [x, y]) (hts : c.argTypes.toList = [t, u]) (ha : opdOf P x = some a) (hb : opdOf P y = some b)
    (ht : P.underlying t = some (.slice el)) (hu : P.underlying u = some (.slice el')) (hs : sizeOf? P el = some sz) (hby : bytesOf? P el = some by_) (hz : zeroOf P el = some z)
    (H : op1 ro e h (.app sz by_ a b) = some (v, h')) (o : Oper) (ho : o.op = .call c) : Out B w0 ro ρ h.nx v h' ((execOp ev o).run P w) := by
  simp only [op1, Option.bind_eq_some_iff] at H
  obtain ⟨s, hs1, q, hq, H⟩ := H
  have hr1 := hc.opd x a s ha hs1
  have hr2 := hc.opd y b q hb hq
  obtain ⟨i, zv, hi, hzv, hval, hzl⟩ := zeroOf_inv hz
  obtain ⟨i2, hi2, rfl⟩ := sizeOf_inv hs
  have e1 : i2 = i := by rw [hi] at hi2; cases hi2; rfl
  subst e1
  obtain ⟨i3, hi3, rfl⟩ := bytesOf_inv hby
  have e2 : i3 = i2 := by rw [hi] at hi3; cases hi3; rfl
  subst e2
  have hzs : zv.cells.size = i3.size := by
    have := (valOf_rel (ρ := ρ) (nx := h.nx) hval).cells.length
    simp only [Array.length_toList] at this
    omega
  obtain ⟨ea, et⟩ := two_args hargs hts
  have fin : ∀ {m : Nat} {news : List V} {us : List Value}, Src P i3.size u (ev y) m us w → VRs ρ h.nx news us → app ro h i3.size i3.bytes s m news = some (v, h') → Out B w0 ro ρ h.nx v h' ((execOp ev o).run P w) := fun hsrc hn hA =>
    (app_rel hc.rel ht hi hzv hzs hr1 (ty := o.type) (tx := u) hsrc hn hA).value (by rw [run_builtin hcal o ho, ea, et]; simp [builtin])
  cases q <;> try (simp only [reduceCtorEq] at H; done)
  · rename_i bl of n cp
    simp only [Option.bind_eq_some_iff] at H
    obtain ⟨news, hsh, H⟩ := H
    split at H
    case isFalse => cases H
    rename_i hones
    simp only [VR] at hr2
    obtain ⟨_, c', hev, _⟩ := hr2
    obtain ⟨_, us, h1, h2, h3⟩ := shown_rel hc.rel hsh
    rw [hev] at fin
    exact fin (Src.ofSlice w hu _ n c' us h1 h3 (h2.ones hones)) h2 H
  · simp only [VR] at hr2
    rw [hr2] at fin
    exact fin (Src.ofNil w hu 0) VRs.nil H
  · simp only [VR] at hr2
    obtain ⟨ad, c', hev⟩ := hr2
    rw [hev] at fin
    exact fin (Src.ofSlice w hu ad 0 c' [] (by simp) (fun j u hu => by simp at hu) (fun u hu => by cases hu)) VRs.nil H

theorem sound_appStr (hc : Ctx P B w0 ro ρ e h ev w) {c : Call} {x y : Operand} {t u el : TypeId} {z : V} {a b : A} (hcal : c.callee = .builtin .append) (hargs : c.args.toList = [x, y]) (hts : c.argTypes.toList = [t, u]) (ha : opdOf P x = some a) (hb : opdOf P y = some b)
    (ht : P.underlying t = some (.slice el)) (hu : P.underlying u = some .string) (hs : sizeOf? P el = some 1) (hby : bytesOf? P el = some 1) (hz : zeroOf P el = some z)
    (H : op1 ro e h (.appStr a b) = some (v, h')) (o : Oper) (ho : o.op = .call c) : Out B w0 ro ρ h.nx v h' ((execOp ev o).run P w) := by
  simp only [op1, Option.bind_eq_some_iff] at H
  obtain ⟨s, hs1, q, hq, H⟩ := H
  have hr1 := hc.opd x a s ha hs1
  have hr2 := hc.opd y b q hb hq
  obtain ⟨i, zv, hi, hzv, hval, hzl⟩ := zeroOf_inv hz
  obtain ⟨i2, hi2, he2⟩ := sizeOf_inv hs
  have e1 : i2 = i := by rw [hi] at hi2; cases hi2; rfl
  subst e1
  obtain ⟨i3, hi3, he3⟩ := bytesOf_inv hby
  have e2 : i3 = i2 := by rw [hi] at hi3; cases hi3; rfl
  subst e2
  have hzs : zv.cells.size = i3.size := by
    have := (valOf_rel (ρ := ρ) (nx := h.nx) hval).cells.length
    simp only [Array.length_toList] at this
    omega
  obtain ⟨ea, et⟩ := two_args hargs hts
  cases q <;> try (simp only [reduceCtorEq] at H; done)
  rename_i tt
  simp only [VR] at hr2
  have hsrc := Src.ofString (P := P) w hu ⟨tt.toArray⟩
  rw [bytes_size, ← hr2] at hsrc
  have hbc : byteCells ⟨tt.toArray⟩ = tt.map fun b => Value.int .u8 (b.toNat : Int) := by simp [byteCells]
  rw [hbc] at hsrc
  rw [← he2] at hsrc
  simp only at H
  refine (app_rel hc.rel ht hi hzv hzs hr1 (ty := o.type) (tx := u) hsrc (byteV_rel tt) (v := v) (h' := h') ?_).value (by rw [run_builtin hcal o ho, ea, et]; simp [builtin])
  rw [he2, he3]
  exact H

omit [Dr] in
theorem max2_rel {x y z : V} {a b : Value} (hx : VR ρ h.nx x a) (hy : VR ρ h.nx y b) (hm : max2 x y = some z) : ∃ u, (Builtin.max2 a b).run P w = .ok u w ∧ VR ρ h.nx z u := by
  unfold max2 at hm
  split at hm
  · simp only [VR] at hx hy
    subst hx; subst hy
    cases hm
    exact ⟨_, by simp [Builtin.max2]; rfl, by simp only [VR]⟩
  · cases hm
omit [Dr] in
theorem min2_rel {x y z : V} {a b : Value} (hx : VR ρ h.nx x a) (hy : VR ρ h.nx y b) (hm : min2 x y = some z) : ∃ u, (Builtin.min2 a b).run P w = .ok u w ∧ VR ρ h.nx z u := by
  unfold min2 at hm
  split at hm
  · simp only [VR] at hx hy
    subst hx; subst hy
    cases hm
    exact ⟨_, by simp [Builtin.min2]; rfl, by simp only [VR]⟩
  · cases hm
omit [Dr] in
theorem fold2_rel {f : V → V → Option V} {g : Value → Value → Sem Value} (hf : ∀ {x y z : V} {a b : Value}, VR ρ h.nx x a → VR ρ h.nx y b → f x y = some z → ∃ u, (g a b).run P w = .ok u w ∧ VR ρ h.nx z u) :
    ∀ {l : List V} {us : List Value} {x z : V} {a : Value}, VR ρ h.nx x a → VRs ρ h.nx l us → fold2 f x l = some z → ∃ u, (us.foldlM g a).run P w = .ok u w ∧ VR ρ h.nx z u
  | [], us, x, z, a, hx, hl, hz => by
    simp only [fold2, Option.some.injEq] at hz
    subst hz
    rw [hl.inv_nil]
    exact ⟨a, rfl, hx⟩
  | y :: l, us, x, z, a, hx, hl, hz => by
    obtain ⟨u, us', rfl, h1, h2⟩ := hl.inv
    simp only [fold2, Option.bind_eq_some_iff] at hz
    obtain ⟨m, hm, hz⟩ := hz
    obtain ⟨b, hb, hbr⟩ := hf hx h1 hm
    obtain ⟨r, hr, hrr⟩ := fold2_rel hf hbr h2 hz
    exact ⟨r, by simp [hb, hr], hrr⟩

theorem sound_mx (hc : Ctx P B w0 ro ρ e h ev w) {c : Call} {as : List A} (hcal : c.callee = .builtin .max) (ha : opdsOf P c.args.toList = some as)
    (H : op1 ro e h (.mx as) = some (v, h')) (o : Oper) (ho : o.op = .call c) : Out B w0 ro ρ h.nx v h' ((execOp ev o).run P w) := by
  simp only [op1, Option.bind_eq_some_iff, Option.some.injEq, Prod.mk.injEq] at H
  obtain ⟨vs, hvs, m, hm, rfl, rfl⟩ := H
  have hr := evs_rel hc ha hvs
  cases vs with
  | nil => simp only [maxs, reduceCtorEq] at hm
  | cons x l =>
    simp only [maxs] at hm
    obtain ⟨u, us, hus, h1, h2⟩ := hr.inv
    obtain ⟨r, hr', hrr⟩ := fold2_rel (P := P) (w := w) (g := Builtin.max2) max2_rel h1 h2 hm
    refine Out.quiet hc.rel (u := r) ?_ hrr
    have he : (c.args.map ev).toList = u :: us := by rw [Array.toList_map]; exact hus
    rw [run_builtin hcal o ho]
    simp only [builtin, Builtin.max_, he, Sem.run_bind, hr', Result.andThen_ok, Sem.run_pure]

theorem sound_mn (hc : Ctx P B w0 ro ρ e h ev w) {c : Call} {as : List A} (hcal : c.callee = .builtin .min) (ha : opdsOf P c.args.toList = some as)
    (H : op1 ro e h (.mn as) = some (v, h')) (o : Oper) (ho : o.op = .call c) : Out B w0 ro ρ h.nx v h' ((execOp ev o).run P w) := by
  simp only [op1, Option.bind_eq_some_iff, Option.some.injEq, Prod.mk.injEq] at H
  obtain ⟨vs, hvs, m, hm, rfl, rfl⟩ := H
  have hr := evs_rel hc ha hvs
  cases vs with
  | nil => simp only [mins, reduceCtorEq] at hm
  | cons x l =>
    simp only [mins] at hm
    obtain ⟨u, us, hus, h1, h2⟩ := hr.inv
    obtain ⟨r, hr', hrr⟩ := fold2_rel (P := P) (w := w) (g := Builtin.min2) min2_rel h1 h2 hm
    refine Out.quiet hc.rel (u := r) ?_ hrr
    have he : (c.args.map ev).toList = u :: us := by rw [Array.toList_map]; exact hus
    rw [run_builtin hcal o ho]
    simp only [builtin, Builtin.min_, he, Sem.run_bind, hr', Result.andThen_ok, Sem.run_pure]

/-! maps -/

omit [Dr] in
theorem checkKey_run {t : TypeId} {q : Sk} (hq : skOf P t = some q) (em : Bool) (n : Nat) (kv : Value) : (Instr.checkKey em (n + 1) t kv).run P w = .ok () w := by
  unfold skOf at hq
  split at hq <;> try (cases hq; done)
  all_goals (rename_i hu; simp [Instr.checkKey, run_underlying hu])

/-- The kinds of what is compared at once. -/
def descOf : TypeDesc → Option Sk
  | .int _ => some .i
  | .string => some .s
  | .bool => some .b
  | _ => none

omit [Dr] in
theorem sameNow_rel {d : TypeDesc} {q : Sk} (hd : descOf d = some q) {nx : Nat} {x y : V} {a b : Value} (hx : VR ρ nx x a) (hy : VR ρ nx y b) {r : Bool} (hk : eqK q x y = some r) : Instr.sameNow d a b = some r := by
  unfold eqK at hk
  split at hk <;> try (cases hk; done)
  all_goals
    simp only [VR] at hx hy
    subst hx; subst hy
    cases d <;> simp only [descOf, reduceCtorEq, Option.some.injEq] at hd
  · split at hk
    · rename_i e; subst e; cases hk; simp [Instr.sameNow]
    · cases hk
  · cases hk; simp only [Instr.sameNow]; rw [beq_toListBytes, bytes_toList, bytes_toList]
  · cases hk; simp [Instr.sameNow]

omit [Dr] in
theorem eqK_true {q : Sk} {nx : Nat} {x y : V} {a b : Value} (hx : VR ρ nx x a) (hy : VR ρ nx y b) (hk : eqK q x y = some true) : a = b := by
  unfold eqK at hk
  split at hk <;> try (cases hk; done)
  all_goals
    simp only [VR] at hx hy
    subst hx; subst hy
  · split at hk
    · rename_i e; subst e; simp only [Option.some.injEq, beq_iff_eq] at hk; rw [hk]
    · cases hk
  · simp only [Option.some.injEq, beq_iff_eq] at hk; rw [hk]
  · simp only [Option.some.injEq, beq_iff_eq] at hk; rw [hk]

omit [Dr] in
theorem find_rel {d : TypeDesc} {q : Sk} (hd : descOf d = some q) {nx : Nat} {k : V} {kv : Value} (hk : VR ρ nx k kv) : ∀ {l : List (V × V)} {es : List MapEntry} {r : Option V} (i : Nat), ERs ρ nx l es → find q k l = some r →
    match r with
    | none => Instr.findNow d kv es i = some none
    | some v => ∃ j ent, Instr.findNow d kv es i = some (some (i + j, ent.val)) ∧ es[j]? = some ent ∧ VR ρ nx v ent.val ∧ ent.key = kv
  | [], es, r, i, he, hf => by
    simp only [find, Option.some.injEq] at hf
    subst hf
    simp only [ERs] at he
    subst he
    rfl
  | (k', v') :: l, es, r, i, he, hf => by
    obtain ⟨ent, es', rfl, h1, h2, h3⟩ := he
    simp only [find, Option.bind_eq_some_iff] at hf
    obtain ⟨same, hs, hf⟩ := hf
    have hn := sameNow_rel hd hk h1 hs
    cases same with
    | true =>
      simp only [if_true, Option.some.injEq] at hf
      subst hf
      exact ⟨0, ent, by simp [Instr.findNow, hn], by simp, h2, (eqK_true hk h1 hs).symm⟩
    | false =>
      simp only [Bool.false_eq_true, if_false] at hf
      have ih := find_rel hd hk (i + 1) h3 hf
      cases r with
      | none => simp only [Instr.findNow, hn]; exact ih
      | some v =>
        obtain ⟨j, ent', h4, h5, h6, h7⟩ := ih
        exact ⟨j + 1, ent', by simp only [Instr.findNow, hn]; rw [h4]; congr 3; omega, by simpa using h5, h6, h7⟩

omit [Dr] in
theorem skOf_desc {t : TypeId} {q : Sk} (hq : skOf P t = some q) : ∃ d, P.underlying t = some d ∧ descOf d = some q := by
  unfold skOf at hq
  split at hq <;> try (cases hq; done)
  all_goals (rename_i hu; cases hq; exact ⟨_, hu, rfl⟩)

omit [Dr] in
theorem findKey_run {t : TypeId} {d : TypeDesc} (hu : P.underlying t = some d) {kv : Value} {es : List MapEntry} {r : Option (Nat × Value)} (hf : Instr.findNow d kv es 0 = some r) : (Instr.findKey t kv es).run P w = .ok r w := by
  simp [Instr.findKey, run_underlying hu, hf]

theorem sound_lookup (hc : Ctx P B w0 ro ρ e h ev w) {t kt el : TypeId} {q : Sk} {ok : Bool} {z : V} {x y : Operand} {a b : A} (ha : opdOf P x = some a) (hb : opdOf P y = some b) (ht : P.underlying t = some (.map kt el)) (hq : skOf P kt = some q) (hz : zeroOf P el = some z)
    (H : op1 ro e h (.lookup ok q z a b) = some (v, h')) (o : Oper) (ho : o.op = .lookup t x y ok) : Out B w0 ro ρ h.nx v h' ((execOp ev o).run P w) := by
  simp only [op1, Option.bind_eq_some_iff] at H
  obtain ⟨m, hm, k, hk, H⟩ := H
  have hr := hc.opd x a m ha hm
  have hr2 := hc.opd y b k hb hk
  obtain ⟨zv, hzv, hzr⟩ := run_zero hz w
  obtain ⟨d, hd, hdq⟩ := skOf_desc hq
  have two : ∀ {p : V} {u : Value} (bb : Bool), VR ρ h.nx p u → VR ρ h.nx (if ok then .tup [p, .bool bb] else p) (if ok then .tuple #[u, .bool bb] else u) := fun {p u} bb hp => by
    cases ok
    · exact hp
    · simp only [if_true, VR]
      exact ⟨_, rfl, VRs.cons hp (VRs.cons (by simp only [VR]) VRs.nil)⟩
  cases m <;> try (simp only [reduceCtorEq] at H; done)
  · rename_i bl
    simp only [VR] at hr
    simp only at H
    split at H
    case h_2 => cases H
    rename_i es hg
    simp only [Option.bind_eq_some_iff] at H
    obtain ⟨r, hf, H⟩ := H
    obtain ⟨es', clock, hh, he⟩ := hc.rel.blk _ _ hg
    have hfr := find_rel hdq hr2 0 he hf
    cases r with
    | none =>
      simp only at hfr
      simp only [Option.some.injEq, Prod.mk.injEq] at H
      obtain ⟨rfl, rfl⟩ := H
      refine Out.quiet hc.rel ?_ (two false (hzr ρ h.nx))
      simp only [execOp, ho, hr.2, Instr.lookup, Sem.run_bind, run_underlying ht, Result.andThen_ok, getObj, Sem.run, hh, checkKey_run hq, findKey_run hd hfr, hzv, Sem.run_pure]
    | some r =>
      obtain ⟨j, ent, h4, _, h6, _⟩ := hfr
      simp only [Option.some.injEq, Prod.mk.injEq] at H
      obtain ⟨rfl, rfl⟩ := H
      refine Out.quiet hc.rel ?_ (two true h6)
      simp only [execOp, ho, hr.2, Instr.lookup, Sem.run_bind, run_underlying ht, Result.andThen_ok, getObj, Sem.run, hh, checkKey_run hq, findKey_run hd h4, Sem.run_pure]
  · simp only [VR] at hr
    simp only [Option.some.injEq, Prod.mk.injEq] at H
    obtain ⟨rfl, rfl⟩ := H
    refine Out.quiet hc.rel ?_ (two false (hzr ρ h.nx))
    have hfr : Instr.findNow d (ev y) (#[] : Array MapEntry).toList 0 = some none := rfl
    simp only [execOp, ho, hr, Instr.lookup, Sem.run_bind, run_underlying ht, Result.andThen_ok, checkKey_run hq, findKey_run hd hfr, hzv, Sem.run_pure]

omit [Dr] in
theorem ERs.append {nx : Nat} {k v : V} {ent : MapEntry} (hk : VR ρ nx k ent.key) (hv : VR ρ nx v ent.val) : ∀ {l : List (V × V)} {es : List MapEntry}, ERs ρ nx l es → ERs ρ nx (l ++ [(k, v)]) (es ++ [ent])
  | [], es, h => by simp only [ERs] at h; subst h; exact ⟨ent, [], rfl, hk, hv, rfl⟩
  | (k', v') :: l, es, h => by
    obtain ⟨e', es', rfl, h1, h2, h3⟩ := h
    exact ⟨e', es' ++ [ent], rfl, h1, h2, ERs.append hk hv h3⟩

omit [Dr] in
theorem replace_rel {d : TypeDesc} {q : Sk} (hd : descOf d = some q) {nx : Nat} {k v : V} {kv vv : Value} (hk : VR ρ nx k kv) (hv : VR ρ nx v vv) : ∀ {l : List (V × V)} {es : List MapEntry} {r : V} {i j : Nat} {u : Value}, ERs ρ nx l es → find q k l = some (some r) →
    Instr.findNow d kv es i = some (some (i + j, u)) → ERs ρ nx (replace q k v l) (es.modify j fun ent => { ent with key := kv, val := vv })
  | [], es, r, i, j, u, he, hf, _ => by simp [find] at hf
  | (k', v') :: l, es, r, i, j, u, he, hf, hn => by
    obtain ⟨ent, es', rfl, h1, h2, h3⟩ := he
    simp only [find, Option.bind_eq_some_iff] at hf
    obtain ⟨same, hs, hf⟩ := hf
    have hsn := sameNow_rel hd hk h1 hs
    simp only [Instr.findNow, hsn] at hn
    cases same with
    | true =>
      simp only [Option.some.injEq, Prod.mk.injEq] at hn
      have : j = 0 := by omega
      subst this
      simp only [replace, hs, if_true]
      exact ⟨{ ent with key := kv, val := vv }, es', by simp, hk, hv, h3⟩
    | false =>
      simp only [Bool.false_eq_true, if_false] at hf
      simp only at hn
      have hj : j ≠ 0 := fun hj => by
        subst hj
        have key : ∀ (es : List MapEntry) (i : Nat) (p : Nat × Value), Instr.findNow d kv es i = some (some p) → i ≤ p.1 := by
          intro es
          induction es with
          | nil => intro i p hp; simp [Instr.findNow] at hp
          | cons a es ih =>
            intro i p hp
            simp only [Instr.findNow] at hp
            split at hp
            · simp only [Option.some.injEq] at hp; subst hp; exact Nat.le_refl _
            · have := ih _ _ hp; omega
            · cases hp
        have := key _ _ _ hn
        simp at this
        omega
      obtain ⟨j', rfl⟩ : ∃ j', j = j' + 1 := ⟨j - 1, by omega⟩
      have hn' : Instr.findNow d kv es' (i + 1) = some (some (i + 1 + j', u)) := by rw [hn]; congr 3; omega
      have ih := replace_rel hd hk hv h3 hf hn'
      have hs' : ¬ (eqK q k k' = some true) := by rw [hs]; simp
      simp only [replace, if_neg hs']
      exact ⟨ent, _, by simp, h1, h2, ih⟩

omit [Dr] in
theorem sameBits_self {q : Sk} {nx : Nat} {x y : V} {a : Value} {r : Bool} (hx : VR ρ nx x a) (hk : eqK q x y = some r) (n : Nat) : Instr.sameBits n a a = true := by
  unfold eqK at hk
  split at hk <;> try (cases hk; done)
  all_goals
    simp only [VR] at hx
    subst hx
    cases n <;> simp [Instr.sameBits, beq_toListBytes]

omit [Dr] in
theorem find_some_eqK {q : Sk} {k : V} : ∀ {l : List (V × V)} {r : V}, find q k l = some (some r) → ∃ y b, eqK q k y = some b
  | [], r, hf => by simp [find] at hf
  | (k', v') :: l, r, hf => by
    simp only [find, Option.bind_eq_some_iff] at hf
    obtain ⟨same, hs, _⟩ := hf
    exact ⟨k', same, hs⟩

theorem sound_upd (hc : Ctx P B w0 ro ρ e h ev w) {t kt el : TypeId} {q : Sk} {x y z : Operand} {a b c : A} (ha : opdOf P x = some a) (hb : opdOf P y = some b) (hcc : opdOf P z = some c) (ht : P.underlying t = some (.map kt el)) (hq : skOf P kt = some q)
    (H : op1 ro e h (.upd q a b c) = some (v, h')) (o : Oper) (ho : o.op = .mapUpdate t x y z ∨ o.op = .insert t x y z) : Out B w0 ro ρ h.nx v h' ((execOp ev o).run P w) := by
  simp only [op1, Option.bind_eq_some_iff] at H
  obtain ⟨m, hm, k, hk, vv, hv, H⟩ := H
  have hr := hc.opd x a m ha hm
  have hr2 := hc.opd y b k hb hk
  have hr3 := hc.opd z c vv hcc hv
  obtain ⟨d, hd, hdq⟩ := skOf_desc hq
  cases m <;> try (simp only [reduceCtorEq] at H; done)
  rename_i bl
  simp only [VR] at hr
  simp only at H
  split at H
  case isFalse => cases H
  rename_i hro
  split at H
  case h_2 => cases H
  rename_i es hg
  simp only [Option.bind_eq_some_iff] at H
  obtain ⟨r, hf, H⟩ := H
  obtain ⟨es', clock, hh, he⟩ := hc.rel.blk _ _ hg
  have hfr := find_rel hdq hr2 0 he hf
  have fin : ∀ {l' : List (V × V)} {es2 : Array MapEntry} {cl : Nat}, ERs ρ h.nx l' es2.toList → (Instr.mapUpdate t (.map (some (ρ bl).blk)) (ev y) (ev z)).run P w = .ok () { w with heap := w.heap.setIfInBounds (ρ bl).blk (.map es2 cl) } →
      Out B w0 ro ρ h.nx (.tup []) (h.set bl (.map l')) ((execOp ev o).run P w) := fun {l' es2 cl} he2 hrun => by
    refine ⟨undef, { w with heap := w.heap.setIfInBounds (ρ bl).blk (.map es2 cl) }, ρ, .inr ⟨?_, rfl⟩, fun _ _ => rfl, Nat.le_refl _, ?_, hc.rel.setMap hg hro he2 ⟨es', clock, hh⟩⟩
    · rcases ho with ho | ho <;> simp only [execOp, ho, hr.2, Sem.run_bind, hrun, Result.andThen_ok, Sem.run_pure]
    · simp only [VR, undef]
      exact ⟨#[], rfl, VRs.nil⟩
  cases r with
  | none =>
    simp only at hfr
    simp only [Option.some.injEq, Prod.mk.injEq] at H
    obtain ⟨rfl, rfl⟩ := H
    refine fin (es2 := es'.push { key := ev y, val := ev z, born := clock }) (cl := clock + 1) (by rw [Array.toList_push]; exact ERs.append hr2 hr3 he) ?_
    simp only [Instr.mapUpdate, Sem.run_bind, run_underlying ht, Result.andThen_ok, getObj, Sem.run, hh, checkKey_run hq, findKey_run hd hfr, setObj]
  | some r =>
    obtain ⟨j, ent, h4, h5, h6, h7⟩ := hfr
    simp only [Option.some.injEq, Prod.mk.injEq] at H
    obtain ⟨rfl, rfl⟩ := H
    obtain ⟨y', b', hyb⟩ := find_some_eqK hf
    have hsb := sameBits_self hr2 hyb 10000
    have h5' : es'[j]? = some ent := by simpa using h5
    refine fin (es2 := es'.modify j fun ent => { ent with key := ev y, val := ev z }) (cl := clock) (by rw [Array.toList_modify]; exact replace_rel hdq hr2 hr3 he hf h4) ?_
    simp only [Nat.zero_add] at h4
    simp only [Instr.mapUpdate, Sem.run_bind, run_underlying ht, Result.andThen_ok, getObj, Sem.run, hh, checkKey_run hq, findKey_run hd h4, setObj, h5', Option.map_some, Option.getD_some, h7, Instr.keyThatStays, hsb, if_true, Sem.run_pure]
end
end Go.Am
/- Each operation of the plain machine is what the loaded program's operation comes to: copy, clear, a byte slice taken as it is; and all operations together. -/
namespace Go.Am
open Go Go.RowKit
variable [Dr]
section
variable {P : Program} {B : Nat} {w0 w : World} {ro : Nat} {ρ : Nat → Pl} {e : Env} {h h' : Hp} {ev : Operand → Value} {v : V}

omit [Dr] in
theorem freeze_heap_ne (a : Addr) (n k : Nat) (hk : k ≠ a.block) : (w.freeze a n).heap[k]? = w.heap[k]? := by
  unfold World.freeze
  split
  · rfl
  · simp only [Array.getElem?_modify]
    rw [if_neg (by omega)]

theorem Rel.freeze (hr : Rel B w0 ro ρ h w) {b z : Nat} {l : List V} (hg : h.get b = some (.cells z l)) (hro : ro ≤ b) {arr : Array Value} {el : TypeId} {fr : Nat × Nat} (hrow : w.heap[(ρ b).blk]? = some (.cells arr el fr)) :
    Rel B w0 ro ρ h (w.freeze ⟨(ρ b).blk, arr.size, none⟩ 1) := by
  have hB := (hr.pos b _ hg).2.2 hro
  have hsz : (w.freeze ⟨(ρ b).blk, arr.size, none⟩ 1).heap.size = w.heap.size := by simp [World.freeze]
  have hcell : ∀ i, (w.freeze ⟨(ρ b).blk, arr.size, none⟩ 1).cell? ⟨(ρ b).blk, i, none⟩ = w.cell? ⟨(ρ b).blk, i, none⟩ := fun i => by
    simp [World.freeze, World.cell?, Array.getElem?_modify, hrow]
  refine ⟨hr.bel.trans ⟨by simp [World.freeze], by simp [World.freeze], by simp [World.freeze], by rw [hsz]; exact Nat.le_refl _, fun k hk => freeze_heap_ne _ _ _ (by simp only; omega), fun _ => by simp [World.freeze]⟩, by rw [hsz]; exact hr.hB, hr.hro, hr.lt, fun c x hc => by rw [hsz]; exact hr.pos c x hc, fun c x hc => ?_, hr.inj, ⟨hr.ok.1, fun g hg => (freeze_heap_ne _ _ _ (by have := hr.ok.1; simp only; omega)).trans (hr.ok.2 g hg)⟩⟩
  by_cases e : (ρ c).blk = (ρ b).blk
  · have hbc : c = b := by
      rcases Decidable.em (c = b) with h1 | h1
      · exact h1
      · by_cases hrc : ro ≤ c
        · exact absurd e (hr.inj c b _ _ hc hg hrc hro h1)
        · have := (hr.pos c x hc).2.1 (by omega); omega
    subst hbc
    rw [hg] at hc
    cases hc
    obtain ⟨h0, h1, h2, h3, h4⟩ := hr.blk c _ hg
    refine ⟨h0, h1, fun i hi => by rw [hcell]; exact h2 i hi, fun _ => ?_, fun i v hv => by rw [hcell]; exact h4 i v hv⟩
    obtain ⟨arr', el', lo, hi, hg', hcnd⟩ := h3 hro
    rw [hrow] at hg'
    cases hg'
    unfold OwnRow
    simp only [World.freeze, Nat.add_one_ne_zero, if_false, Array.getElem?_modify, hrow]
    by_cases e2 : lo = hi
    · exact ⟨arr, el, arr.size, arr.size + 1, by simp [e2], .inr ⟨Nat.le_refl _, Nat.le_succ _⟩⟩
    · rcases hcnd with h5 | ⟨h5, h6⟩
      · exact absurd h5 e2
      · exact ⟨arr, el, min lo arr.size, max hi (arr.size + 1), by simp [e2], .inr ⟨by omega, by omega⟩⟩
  · exact (hr.blk c x hc).mono (fun _ _ => rfl) (Nat.le_refl _) (freeze_heap_ne _ _ _ e)

theorem sound_convSame (hc : Ctx P B w0 ro ρ e h ev w) {s el : TypeId} {x : Operand} {a : A} (ha : opdOf P x = some a) (hs : P.underlying s = some (.slice el)) (he : P.underlying el = some (.int .u8))
    (H : op1 ro e h (.conv .same a) = some (v, h')) (o : Oper) (ho : o.op = .convert s s x) : Out B w0 ro ρ h.nx v h' ((execOp ev o).run P w) := by
  simp only [op1, Option.bind_eq_some_iff] at H
  obtain ⟨p, hp, H⟩ := H
  have hr := hc.opd x a p ha hp
  cases p <;> try (simp only [reduceCtorEq] at H; done)
  rename_i b of n c
  simp only at H
  split at H
  case isFalse => cases H
  rename_i hro
  split at H
  case h_2 => cases H
  rename_i z l hg
  simp only [Option.some.injEq, Prod.mk.injEq] at H
  obtain ⟨rfl, rfl⟩ := H
  have hr0 := hr
  simp only [VR] at hr
  obtain ⟨_, c', hev, _⟩ := hr
  obtain ⟨_, _, _, hown, _⟩ := hc.rel.blk b _ hg
  obtain ⟨arr, el', lo, hi, hrow, _⟩ := hown hro
  refine ⟨ev x, _, ρ, .inl ?_, fun _ _ => rfl, Nat.le_refl _, hr0, hc.rel.freeze hg hro hrow⟩
  have hsh : w.shape? (ρ b).blk = some (el', arr.size) := by simp [World.shape?, hrow]
  simp [execOp, ho, hev, convert, run_underlying hs, run_underlying he, markStringish, hsh]

/-- Cells that are written over cells of the call's own. -/
theorem over_rel (hr : Rel B w0 ro ρ h w) {b z : Nat} {cs : List V} (hg : h.get b = some (.cells z cs)) (hro : ro ≤ b) {of : Nat} {l cs' : List V} {us : List Value} (hl : setN cs of l = some cs') (hv : VRs ρ h.nx l us) (hones : l.all V.one = true) :
    (storeCells ⟨(ρ b).blk, (ρ b).sh + of, none⟩ us).run P w = .ok () (w.setCells (ρ b).blk ((ρ b).sh + of) us) ∧ Rel B w0 ro ρ (h.set b (.cells z cs')) (w.setCells (ρ b).blk ((ρ b).sh + of) us) := by
  obtain ⟨hle, rfl⟩ := setN_eq hl
  have hlen := hv.length
  obtain ⟨_, hle2, hsome, hown, _⟩ := hr.blk b _ hg
  have hrun := run_storeCells_cells (P := P) (ρ b).blk ((ρ b).sh + of) us 0 w
    (fun j hj => by rw [Nat.add_zero, Nat.add_assoc]; exact hsome (of + j) (by omega))
    (fun j hj => by rw [Nat.add_zero, Nat.add_assoc]; exact (hown hro).unfrozen _ (hsome (of + j) (by omega))) (hv.ones hones)
  simp only [Nat.add_zero] at hrun
  exact ⟨hrun, hr.store hg hro hle hv⟩

theorem sound_copy (hc : Ctx P B w0 ro ρ e h ev w) {c : Call} {x y : Operand} {t u el : TypeId} {sz : Nat} {a b : A} (hcal : c.callee = .builtin .copy) (hargs : c.args.toList = [x, y]) (hts : c.argTypes.toList = [t, u]) (ha : opdOf P x = some a) (hb : opdOf P y = some b)
    (ht : P.underlying t = some (.slice el)) (hs : sizeOf? P el = some sz)
    (H : op1 ro e h (.copy sz a b) = some (v, h')) (o : Oper) (ho : o.op = .call c) : Out B w0 ro ρ h.nx v h' ((execOp ev o).run P w) := by
  simp only [op1, Option.bind_eq_some_iff] at H
  obtain ⟨s, hs1, q, hq, H⟩ := H
  have hr1 := hc.opd x a s ha hs1
  have hr2 := hc.opd y b q hb hq
  obtain ⟨ea, et⟩ := two_args hargs hts
  have start : ∀ {r : Result Value}, (Builtin.copy_ #[t, u] o.type #[ev x, ev y]).run P w = r → OutV B w0 ro ρ h.nx v h' r → Out B w0 ro ρ h.nx v h' ((execOp ev o).run P w) := fun {r} h1 h2 => by
    rw [← h1] at h2
    exact h2.value (by rw [run_builtin hcal o ho, ea, et]; simp [builtin])
  cases s <;> try (simp only [reduceCtorEq] at H; done)
  · rename_i bl of n cp
    simp only [VR] at hr1
    obtain ⟨hb1, c1, hev1, _⟩ := hr1
    cases q <;> try (simp only [reduceCtorEq] at H; done)
    · -- a string
      rename_i tt
      simp only at H
      split at H
      case isFalse => cases H
      rename_i hcnd
      obtain ⟨hro, rfl⟩ := hcnd
      split at H
      case h_2 => cases H
      rename_i z cs hg
      split at H
      case isFalse => cases H
      rename_i hz
      subst hz
      simp only [Option.bind_eq_some_iff, Option.some.injEq, Prod.mk.injEq] at H
      obtain ⟨cs', hcs, rfl, rfl⟩ := H
      simp only [VR] at hr2
      have hones : ((tt.take n).map byteV).all V.one = true := by
        rw [List.all_map, List.all_eq_true]
        intro b _
        rfl
      obtain ⟨h1, h2⟩ := over_rel (P := P) hc.rel hg hro hcs (byteV_rel (tt.take n)) hones
      refine start (r := .ok (goInt (Nat.min tt.length n : Nat)) _) ?_ ⟨_, _, ρ, rfl, fun _ _ => rfl, Nat.le_refl _, by simp only [VR]; rfl, h2⟩
      have hfc : (Builtin.firstCells 1 (Nat.min tt.length n) (.string ⟨tt.toArray⟩)).run P w = .ok ((tt.take n).map fun b => Value.int .u8 (b.toNat : Int)).toArray w := by
        simp only [Builtin.firstCells, Sem.run_pure]
        congr 1
        apply Array.ext'
        simp [List.extract_eq_take_drop, ByteArray.data_extract]
        exact Nat.min_comm _ _
      simp only [List.map_take] at h1 hfc ⊢
      simp only [Builtin.copy_, hev1, hr2]
      simp [run_underlying ht, Builtin.lenOf, bytes_size, run_sizeOf hs, hfc, h1, goInt]
    · -- a slice
      rename_i b2 o2 n2 cp2
      simp only at H
      split at H
      case isFalse => cases H
      rename_i hro
      simp only [Option.bind_eq_some_iff] at H
      obtain ⟨l, hsh, H⟩ := H
      split at H
      case h_2 => cases H
      rename_i z cs hg
      split at H
      case isFalse => cases H
      rename_i hcnd
      obtain ⟨rfl, hones⟩ := hcnd
      simp only [Option.bind_eq_some_iff, Option.some.injEq, Prod.mk.injEq] at H
      obtain ⟨cs', hcs, rfl, rfl⟩ := H
      simp only [VR] at hr2
      obtain ⟨_, c2, hev2, _⟩ := hr2
      obtain ⟨_, us, h3, h4, h5⟩ := shown_rel hc.rel hsh
      obtain ⟨h1, h2⟩ := over_rel (P := P) hc.rel hg hro hcs h4 hones
      refine start (r := .ok (goInt (min n2 n : Nat)) _) ?_ ⟨_, _, ρ, rfl, fun _ _ => rfl, Nat.le_refl _, by simp only [VR]; rfl, h2⟩
      have hfc := run_firstCells_some (P := P) w z (min n2 n) ⟨(ρ b2).blk, (ρ b2).sh + o2, none⟩ n2 c2 us h3 h5
      have hmin : Nat.min n2 n = min n2 n := rfl
      simp only [Builtin.copy_, hev1, hev2]
      simp [run_underlying ht, Builtin.lenOf, run_sizeOf hs, hmin, hfc, h1]
    · simp only [VR] at hr2
      simp only [Option.some.injEq, Prod.mk.injEq] at H
      obtain ⟨rfl, rfl⟩ := H
      refine start (r := .ok (goInt 0) w) ?_ (OutV.quiet hc.rel rfl (by simp only [VR]; rfl))
      simp only [Builtin.copy_, hev1, hr2]
      simp [run_underlying ht, Builtin.lenOf, run_sizeOf hs, Builtin.firstCells, storeCells]
  · simp only [VR] at hr1
    cases q <;> try (simp only [reduceCtorEq] at H; done)
    · simp only [VR] at hr2
      simp only [Option.some.injEq, Prod.mk.injEq] at H
      obtain ⟨rfl, rfl⟩ := H
      refine start (r := .ok (goInt 0) w) ?_ (OutV.quiet hc.rel rfl (by simp only [VR]; rfl))
      simp only [Builtin.copy_, hr1, hr2]
      simp [run_underlying ht, Builtin.lenOf, run_sizeOf hs, Builtin.firstCells]
    · simp only [VR] at hr2
      obtain ⟨_, c2, hev2, _⟩ := hr2
      simp only [Option.some.injEq, Prod.mk.injEq] at H
      obtain ⟨rfl, rfl⟩ := H
      refine start (r := .ok (goInt 0) w) ?_ (OutV.quiet hc.rel rfl (by simp only [VR]; rfl))
      simp only [Builtin.copy_, hr1, hev2]
      simp [run_underlying ht, Builtin.lenOf, run_sizeOf hs, Builtin.firstCells, loadCells, loadCellsFrom]
    · simp only [VR] at hr2
      simp only [Option.some.injEq, Prod.mk.injEq] at H
      obtain ⟨rfl, rfl⟩ := H
      refine start (r := .ok (goInt 0) w) ?_ (OutV.quiet hc.rel rfl (by simp only [VR]; rfl))
      simp only [Builtin.copy_, hr1, hr2]
      simp [run_underlying ht, Builtin.lenOf, run_sizeOf hs, Builtin.firstCells]

omit [Dr] in
theorem zeroCells_rel {z : V} {zv : Value} {nx : Nat} (hz : VR ρ nx z zv) (n : Nat) : VRs ρ nx (zeros z.cells n) (Builtin.zeroCells zv.cells n).toList := by
  have hl := hz.cells.length
  simp only [Array.length_toList] at hl
  have := zeros_rel hz n z.cells.length rfl
  unfold Builtin.zeroCells
  rw [hl]
  rw [← hl] at this
  rw [← hl]
  exact this

theorem sound_clr (hc : Ctx P B w0 ro ρ e h ev w) {c : Call} {x : Operand} {t el : TypeId} {sz : Nat} {z : V} {a : A} (hcal : c.callee = .builtin .clear) (hargs : c.args.toList = [x]) (hts : c.argTypes.toList = [t]) (ha : opdOf P x = some a)
    (ht : P.underlying t = some (.slice el)) (hz : zeroOf P el = some z)
    (H : op1 ro e h (.clr sz z.cells a) = some (v, h')) (o : Oper) (ho : o.op = .call c) : Out B w0 ro ρ h.nx v h' ((execOp ev o).run P w) := by
  simp only [op1, Option.bind_eq_some_iff] at H
  obtain ⟨s, hs1, H⟩ := H
  have hr1 := hc.opd x a s ha hs1
  have ea : c.args = #[x] := by rw [← Array.toList_inj]; simpa using hargs
  have et : c.argTypes = #[t] := by rw [← Array.toList_inj]; simpa using hts
  obtain ⟨zv, hzv, hzr⟩ := run_zero hz w
  have hund : VR ρ h.nx (.tup []) (.tuple #[]) := by simp only [VR]; exact ⟨#[], rfl, VRs.nil⟩
  cases s <;> try (simp only [reduceCtorEq] at H; done)
  · rename_i bl of n cp
    simp only [VR] at hr1
    obtain ⟨hb1, c1, hev1, _⟩ := hr1
    simp only at H
    split at H
    · rename_i hn
      subst hn
      simp only [Option.some.injEq, Prod.mk.injEq] at H
      obtain ⟨rfl, rfl⟩ := H
      refine Out.quiet hc.rel ?_ hund
      rw [run_builtin hcal o ho, ea, et]
      simp [builtin, Builtin.clear_, hev1, run_underlying ht]
    · rename_i hn
      split at H
      case isFalse => cases H
      rename_i hro
      split at H
      case h_2 => cases H
      rename_i z' cs hg
      split at H
      case isFalse => cases H
      rename_i hcnd
      simp only [Option.bind_eq_some_iff, Option.some.injEq, Prod.mk.injEq] at H
      obtain ⟨cs', hcs, rfl, rfl⟩ := H
      have hones : (zeros z.cells n).all V.one = true := by
        have key : ∀ m, (zeros z.cells m).all V.one = true := fun m => by
          induction m with
          | zero => rfl
          | succ m ih => simp only [zeros, List.all_append, hcnd.2, ih, Bool.and_self]
        exact key n
      obtain ⟨h1, h2⟩ := over_rel (P := P) hc.rel hg hro hcs (zeroCells_rel (hzr ρ h.nx) n) hones
      refine ⟨.tuple #[], _, ρ, .inl ?_, fun _ _ => rfl, Nat.le_refl _, hund, h2⟩
      rw [run_builtin hcal o ho, ea, et]
      obtain ⟨n', rfl⟩ : ∃ n', n = n' + 1 := ⟨n - 1, by omega⟩
      simp [builtin, Builtin.clear_, hev1, run_underlying ht, hzv, h1]
  · simp only [VR] at hr1
    simp only [Option.some.injEq, Prod.mk.injEq] at H
    obtain ⟨rfl, rfl⟩ := H
    refine Out.quiet hc.rel ?_ hund
    rw [run_builtin hcal o ho, ea, et]
    simp [builtin, Builtin.clear_, hr1, run_underlying ht]
end
end Go.Am
/- All operations of the plain machine together: each is what the loaded program's operation comes to. -/
namespace Go.Am
open Go Go.RowKit
variable [Dr]
section
variable {P : Program} {B : Nat} {w0 w : World} {ro : Nat} {ρ : Nat → Pl} {e : Env} {h h' : Hp} {ev : Operand → Value} {v : V}

theorem sound_call1 (hc : Ctx P B w0 ro ρ e h ev w) {c : Call} {x : O} {fresh : Nat} (o : Oper) (ho : o.op = .call c) (ht : callOf P fresh c o.type = some x) (hx : ∀ fr f l, x ≠ .call fr f l)
    (H : op1 ro e h x = some (v, h')) : Out B w0 ro ρ h.nx v h' ((execOp ev o).run P w) := by
  unfold callOf at ht
  split at ht
  · simp only [Option.bind_eq_some_iff] at ht
    obtain ⟨_, _, _, _, ht⟩ := ht
    split at ht
    · simp only [Option.some.injEq] at ht
      subst ht
      exact absurd rfl (hx _ _ _)
    · cases ht
  · cases ht
  · rename_i b hcal
    split at ht
    · -- len
      rename_i x t r hargs hts
      simp only [Option.bind_eq_some_iff] at ht
      obtain ⟨a, ha, ht⟩ := ht
      split at ht <;> try (cases ht; done)
      · rename_i hu; cases ht; exact sound_lenS hc hcal hargs hts ha hu H o ho
      · rename_i hu; cases ht; exact sound_lenSl hc hcal hargs hts ha hu H o ho
      · rename_i hu; cases ht; exact sound_lenMp hc hcal hargs hts ha hu H o ho
      · rename_i hu; cases ht; exact sound_lenArr hc (.inl rfl) hcal hargs hts hu H o ho
    · -- cap
      rename_i x t r hargs hts
      simp only [Option.bind_eq_some_iff] at ht
      obtain ⟨a, ha, ht⟩ := ht
      split at ht <;> try (cases ht; done)
      · rename_i hu; cases ht; exact sound_capSl hc hcal hargs hts ha hu H o ho
      · rename_i hu; cases ht; exact sound_lenArr hc (.inr rfl) hcal hargs hts hu H o ho
    · -- append
      rename_i s x t u hargs hts
      simp only [Option.bind_eq_some_iff] at ht
      obtain ⟨a, ha, b, hb, ht⟩ := ht
      split at ht <;> try (cases ht; done)
      rename_i el hel
      simp only [Option.bind_eq_some_iff] at ht
      obtain ⟨sz, hsz, by_, hby, ht⟩ := ht
      split at ht
      case isFalse => cases ht
      rename_i hcnd
      obtain ⟨z, hz⟩ := Option.isSome_iff_exists.1 hcnd.2
      split at ht <;> try (cases ht; done)
      · rename_i el' hu; cases ht; exact sound_app hc hcal hargs hts ha hb hel hu hsz hby hz H o ho
      · rename_i hu
        obtain ⟨h12, ht'⟩ := ite_some ht
        subst ht'
        obtain ⟨rfl, rfl⟩ := h12
        exact sound_appStr hc hcal hargs hts ha hb hel hu hsz hby hz H o ho
    · -- copy
      rename_i s x t u hargs hts
      simp only [Option.bind_eq_some_iff] at ht
      obtain ⟨a, ha, b, hb, ht⟩ := ht
      split at ht <;> try (cases ht; done)
      rename_i el hel
      simp only [Option.bind_eq_some_iff] at ht
      obtain ⟨sz, hsz, ht⟩ := ht
      obtain ⟨_, rfl⟩ := ite_some ht
      exact sound_copy hc hcal hargs hts ha hb hel hsz H o ho
    · -- clear
      rename_i x t hargs hts
      simp only [Option.bind_eq_some_iff] at ht
      obtain ⟨a, ha, ht⟩ := ht
      split at ht <;> try (cases ht; done)
      rename_i el hel
      simp only [Option.bind_eq_some_iff, Option.some.injEq] at ht
      obtain ⟨sz, hsz, z, hz, rfl⟩ := ht
      exact sound_clr hc hcal hargs hts ha hel hz H o ho
    · simp only [Option.bind_eq_some_iff, Option.some.injEq] at ht
      obtain ⟨l, hl, rfl⟩ := ht
      exact sound_mx hc hcal hl H o ho
    · simp only [Option.bind_eq_some_iff, Option.some.injEq] at ht
      obtain ⟨l, hl, rfl⟩ := ht
      exact sound_mn hc hcal hl H o ho
    · cases ht

/-- EVERY OPERATION BUT A CALL. -/
theorem op1_sound (hc : Ctx P B w0 ro ρ e h ev w) {x : O} {fresh : Nat} (o : Oper) (ht : opOf P fresh o.type o.op = some x) (hx : ∀ fr f l, x ≠ .call fr f l)
    (H : op1 ro e h x = some (v, h')) : Out B w0 ro ρ h.nx v h' ((execOp ev o).run P w) := by
  cases hop : o.op <;> rw [hop] at ht <;> simp only [opOf, Option.bind_eq_some_iff, Option.some.injEq, reduceCtorEq] at ht
  case move x => obtain ⟨a, ha, rfl⟩ := ht; simp only [op1, Option.bind_eq_some_iff, Option.some.injEq, Prod.mk.injEq] at H; obtain ⟨_, hv, rfl, rfl⟩ := H; exact sound_mov hc ha hv o (.inl hop)
  case assign x => obtain ⟨a, ha, rfl⟩ := ht; simp only [op1, Option.bind_eq_some_iff, Option.some.injEq, Prod.mk.injEq] at H; obtain ⟨_, hv, rfl, rfl⟩ := H; exact sound_mov hc ha hv o (.inr hop)
  case pick c a b => obtain ⟨a1, ha1, a2, ha2, a3, ha3, rfl⟩ := ht; exact sound_pick hc ha1 ha2 ha3 H o hop
  case alloc t => obtain ⟨z, hz, rfl⟩ := ht; exact sound_alloc hc hz H o hop
  case box t x => obtain ⟨a, ha, n, hn, rfl⟩ := ht; exact sound_box hc ha H o hop
  case build t ps =>
    obtain ⟨z, hz, ht⟩ := ht
    split at ht
    · rename_i fs hfs
      split at ht
      case isFalse => cases ht
      rename_i hall
      simp only [Option.bind_eq_some_iff, Option.some.injEq] at ht
      obtain ⟨l, hl, rfl⟩ := ht
      exact sound_buildStruct hc hz hfs hl H o hop (fun f hf => by rw [List.all_eq_true] at hall; exact hall f (by simpa using hf))
    · rename_i n el hel
      simp only [Option.bind_eq_some_iff, Option.some.injEq] at ht
      obtain ⟨s, hs, l, hl, rfl⟩ := ht
      exact sound_buildArr hc hz hel hs hl H o hop
    · cases ht
  case buildSlice t n ps =>
    split at ht
    · rename_i el hel
      simp only [Option.bind_eq_some_iff] at ht
      obtain ⟨s, hs, z, hz, ht⟩ := ht
      split at ht
      case isFalse => cases ht
      rename_i hcnd
      simp only [Option.bind_eq_some_iff, Option.some.injEq] at ht
      obtain ⟨l, hl, rfl⟩ := ht
      exact sound_buildSl hc hel hs hz hcnd.1 hcnd.2 hl H o hop
    · cases ht
  case load t a => obtain ⟨n, hn, a', ha, rfl⟩ := ht; exact sound_load hc hn ha H o hop
  case store t a x => obtain ⟨n, hn, a', ha, b, hb, rfl⟩ := ht; exact sound_store hc ha hb hn H o hop
  case nilCheck x => obtain ⟨a, ha, rfl⟩ := ht; exact sound_nilc hc ha H o hop
  case binOp op t x y u =>
    obtain ⟨a, ha, b, hb, ht⟩ := ht
    split at ht
    · simp only [Option.bind_eq_some_iff, Option.some.injEq] at ht
      obtain ⟨q, hq, rfl⟩ := ht
      exact sound_eq (neg := false) hc hq ha hb H o hop
    · simp only [Option.bind_eq_some_iff, Option.some.injEq] at ht
      obtain ⟨q, hq, rfl⟩ := ht
      exact sound_eq (neg := true) hc hq ha hb H o hop
    · rename_i h1 h2
      simp only [Option.some.injEq] at ht
      subst ht
      exact sound_bin hc ⟨h1, h2⟩ ha hb H o hop
  case unOp op t x => obtain ⟨a, ha, rfl⟩ := ht; exact sound_un hc ha H o hop
  case convert s d x =>
    obtain ⟨a, ha, ht⟩ := ht
    split at ht
    · rename_i h1 h2; cases ht; exact sound_convInt hc ha h1 h2 H o hop
    · rename_i h1 h2; cases ht; exact sound_convStr hc ha h1 h2 H o hop
    · rename_i h1 h2
      split at ht
      · rename_i h3; cases ht; exact sound_convBytes hc ha h1 h2 h3 H o hop
      · cases ht
    · rename_i h1 h2
      split at ht
      case isFalse => cases ht
      rename_i hsd
      subst hsd
      rw [h2] at h1
      cases h1
      split at ht
      · rename_i h3; cases ht; exact sound_convSame hc ha h2 h3 H o hop
      · cases ht
    · rename_i h1 h2
      split at ht
      · rename_i h3; cases ht; exact sound_convOf hc ha h1 h2 h3 H o hop
      · cases ht
    · cases ht
  case makeInterface t x =>
    obtain ⟨a, ha, ht⟩ := ht
    split at ht
    · cases ht
    · rename_i d hni hd
      cases ht
      refine sound_mkIfc hc ha ?_ H o hop
      rw [hd]
      cases d <;> first | trivial | exact absurd rfl (hni _)
    · cases ht
  case makeFunc f a b => obtain ⟨a', ha, b', hb, rfl⟩ := ht; exact sound_mkFn hc ha hb H o hop
  case makeMap t r =>
    cases r with
    | none => simp only [Option.some.injEq] at ht; subst ht; exact sound_mkMap hc H o hop
    | some r => simp at ht
  case makeSlice t l c =>
    obtain ⟨a, ha, b, hb, ht⟩ := ht
    split at ht
    · rename_i el hel
      simp only [Option.bind_eq_some_iff] at ht
      obtain ⟨s, hs, by_, hby, z, hz, ht⟩ := ht
      obtain ⟨_, rfl⟩ := ite_some ht
      exact sound_mkSl hc ha hb hel hs hby hz H o hop
    · cases ht
  case slice t x lo hi mx =>
    split at ht
    · cases ht
    · rename_i hmh
      have hmh' : (mx.isSome && !hi.isSome) = false := by
        cases h1 : (mx.isSome && !hi.isSome) with
        | false => rfl
        | true => exact absurd h1 hmh
      simp only [Option.bind_eq_some_iff] at ht
      obtain ⟨a, ha, lo', hlo, hi', hhi, mx', hmx, ht⟩ := ht
      split at ht
      · rename_i hu
        cases mx with
        | some m =>
          simp only [opdO, Option.bind_eq_some_iff, Option.some.injEq] at hmx
          obtain ⟨_, _, rfl⟩ := hmx
          cases ht
        | none =>
          simp only [opdO, Option.some.injEq] at hmx
          subst hmx
          cases ht
          exact sound_slStr hc ha hlo hhi hu H o hop
      · rename_i el hu
        simp only [Option.bind_eq_some_iff, Option.some.injEq] at ht
        obtain ⟨s, hs, rfl⟩ := ht
        exact sound_slSl hc ha hlo hhi hmx hu hs hmh' H o hop
      · rename_i n el hu
        simp only [Option.bind_eq_some_iff] at ht
        obtain ⟨s, hs, ht⟩ := ht
        obtain ⟨_, rfl⟩ := ite_some ht
        exact sound_slArr hc ha hlo hhi hmx hu hs hmh' H o hop
      · cases ht
  case fieldAddr t x i =>
    obtain ⟨a, ha, f, hf, s, hs, ht⟩ := ht
    obtain ⟨h0, rfl⟩ := ite_some ht
    exact sound_fldA hc ha hf hs h0 H o hop
  case field t x i => obtain ⟨a, ha, f, hf, n, hn, rfl⟩ := ht; exact sound_fld hc ha hf hn H o hop
  case indexAddr t x i =>
    obtain ⟨a, ha, b, hb, ht⟩ := ht
    split at ht
    · rename_i el hel
      simp only [Option.bind_eq_some_iff, Option.some.injEq] at ht
      obtain ⟨s, hs, rfl⟩ := ht
      exact sound_idxA hc ha hb hel hs H o hop
    · rename_i n el hel
      simp only [Option.bind_eq_some_iff, Option.some.injEq] at ht
      obtain ⟨s, hs, rfl⟩ := ht
      exact sound_idxArrA hc ha hb hel hs H o hop
    · cases ht
  case index t x i =>
    obtain ⟨a, ha, b, hb, ht⟩ := ht
    split at ht
    · rename_i hel; cases ht; exact sound_idxStr hc ha hb hel H o hop
    · rename_i n el hel
      simp only [Option.bind_eq_some_iff, Option.some.injEq] at ht
      obtain ⟨s, hs, m, hm, rfl⟩ := ht
      exact sound_idxArr hc ha hb hel hs hm H o hop
    · cases ht
  case lookup t x k ok =>
    obtain ⟨a, ha, b, hb, ht⟩ := ht
    split at ht
    · rename_i kt el hel
      simp only [Option.bind_eq_some_iff, Option.some.injEq] at ht
      obtain ⟨q, hq, z, hz, rfl⟩ := ht
      exact sound_lookup hc ha hb hel hq hz H o hop
    · cases ht
  case mapUpdate t m k y =>
    obtain ⟨a, ha, b, hb, c, hcc, ht⟩ := ht
    split at ht
    · rename_i kt el hel
      simp only [Option.bind_eq_some_iff, Option.some.injEq] at ht
      obtain ⟨q, hq, rfl⟩ := ht
      exact sound_upd hc ha hb hcc hel hq H o (.inl hop)
    · cases ht
  case insert t m k y =>
    obtain ⟨a, ha, b, hb, c, hcc, ht⟩ := ht
    split at ht
    · rename_i kt el hel
      simp only [Option.bind_eq_some_iff, Option.some.injEq] at ht
      obtain ⟨q, hq, rfl⟩ := ht
      exact sound_upd hc ha hb hcc hel hq H o (.inr hop)
    · cases ht
  case extract x i => obtain ⟨a, ha, rfl⟩ := ht; exact sound_ext hc ha H o hop
  case call c => exact sound_call1 hc o hop ht hx H
end
end Go.Am
