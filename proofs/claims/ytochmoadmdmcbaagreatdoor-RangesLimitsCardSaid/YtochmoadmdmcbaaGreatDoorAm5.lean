/- Each operation of the plain machine is what the loaded program's operation comes to: arithmetic, comparison, conversion, slices, lengths. -/
import Derived.Test.YtochmoadmdmcbaaGreatDoorAm4
namespace Go.Am
set_option linter.unusedSimpArgs false
set_option linter.unusedVariables false
open Go Go.RowKit
variable [Dr]
section
variable {P : Program} {B : Nat} {w0 w : World} {ro : Nat} {ρ : Nat → Pl} {e : Env} {h h' : Hp} {ev : Operand → Value} {v : V}

omit [Dr] in
theorem bytesLess_eq : ∀ a b : List UInt8, bytesLess a b = Op.bytesLess a b
  | _, [] => by simp [bytesLess, Op.bytesLess]
  | [], _ :: _ => by simp [bytesLess, Op.bytesLess]
  | a :: x, b :: y => by simp [bytesLess, Op.bytesLess, bytesLess_eq x y]

omit [Dr] in
theorem bytes_toList (l : List UInt8) : (⟨l.toArray⟩ : ByteArray).toList = l := ByteArray.toList_mk l
omit [Dr] in
theorem bytes_append (x y : List UInt8) : (⟨x.toArray⟩ ++ ⟨y.toArray⟩ : ByteArray) = ⟨(x ++ y).toArray⟩ := ByteArray.mk_append_mk x y
omit [Dr] in
theorem bytes_size (x : List UInt8) : (⟨x.toArray⟩ : ByteArray).size = x.length := by simp [ByteArray.size]

omit [Dr] in
theorem stringOp_rel {op : BinOp} {a b : List UInt8} (hv : binStr op a b = some v) :
    ∃ u, (Op.stringOp op ⟨a.toArray⟩ ⟨b.toArray⟩).run P w = .ok u w ∧ VR ρ h.nx v u := by
  cases op <;> simp only [binStr, reduceCtorEq, Option.some.injEq] at hv
  case add =>
    cases hb : Nat.ble (a.length + b.length) 4611686018427387904 with
    | false => rw [hb] at hv; cases hv
    | true =>
      rw [hb] at hv
      cases hv
      have := Nat.le_of_ble_eq_true hb
      refine ⟨.string ⟨(a ++ b).toArray⟩, ?_, by simp only [VR]⟩
      have hn : ¬ (((a.length + b.length : Nat) : Int) > IntKind.i64.max) := by simp only [IntKind.max_i64]; omega
      simp only [Op.stringOp, bytes_size, hn, if_false, bytes_append]
      rfl
  all_goals (subst hv; refine ⟨_, rfl, ?_⟩; simp only [VR, bytes_toList, bytesLess_eq])

omit [Dr] in
theorem binInt_rel {op : BinOp} {k : IntKind} {a b : Int} {k' : IntKind} (hk : k = k' ∨ isShift op = true) (t : TypeId) (hv : binInt op k a b = some v) :
    ∃ u, (binOp op t (.int k a) (.int k' b)).run P w = .ok u w ∧ VR ρ h.nx v u := by
  cases op <;> simp only [isShift, Bool.false_eq_true, or_false] at hk <;> simp only [binInt] at hv
  case shl =>
    split at hv
    · cases hv
    · rename_i hb; cases hv; exact ⟨_, by rw [binOp_shl]; simp [Op.shift, hb]; rfl, by simp only [VR]⟩
  case shr =>
    split at hv
    · cases hv
    · rename_i hb; cases hv; exact ⟨_, by rw [binOp_shr]; simp [Op.shift, hb]; rfl, by simp only [VR]⟩
  case quo =>
    subst hk
    split at hv
    · cases hv
    · rename_i hb; cases hv; exact ⟨_, by rw [binOp_quo]; simp [Op.intDiv, hb]; rfl, by simp only [VR]⟩
  case rem =>
    subst hk
    split at hv
    · cases hv
    · rename_i hb; cases hv; exact ⟨_, by rw [binOp_rem]; simp [Op.intDiv, hb]; rfl, by simp only [VR]⟩
  case and => subst hk; rw [binOp_and]; exact intBits_rel hv
  case or => subst hk; rw [binOp_or]; exact intBits_rel hv
  case xor => subst hk; rw [binOp_xor]; exact intBits_rel hv
  case andNot => subst hk; rw [binOp_andNot]; exact intBits_rel hv
  all_goals (subst hk; cases hv)
  case add => exact ⟨_, by rw [binOp_add]; rfl, by simp only [VR]⟩
  case sub => exact ⟨_, by rw [binOp_sub]; rfl, by simp only [VR]⟩
  case mul => exact ⟨_, by rw [binOp_mul]; rfl, by simp only [VR]⟩
  case eql => exact ⟨_, by rw [binOp_eql]; rfl, by simp only [VR]⟩
  case neq => exact ⟨_, by rw [binOp_neq]; rfl, by simp only [VR]⟩
  case lss => exact ⟨_, by rw [binOp_lss]; rfl, by simp only [VR]⟩
  case leq => exact ⟨_, by rw [binOp_leq]; rfl, by simp only [VR]⟩
  case gtr => exact ⟨_, by rw [binOp_gtr]; rfl, by simp only [VR]⟩
  case geq => exact ⟨_, by rw [binOp_geq]; rfl, by simp only [VR]⟩

theorem sound_bin (hc : Ctx P B w0 ro ρ e h ev w) {op : BinOp} {t u : TypeId} {x y : Operand} {a b : A} (hop : op ≠ .eql ∧ op ≠ .neq) (ha : opdOf P x = some a) (hb : opdOf P y = some b)
    (H : op1 ro e h (.bin op a b) = some (v, h')) (o : Oper) (ho : o.op = .binOp op t x y u) : Out B w0 ro ρ h.nx v h' ((execOp ev o).run P w) := by
  simp only [op1, Option.bind_eq_some_iff, Option.some.injEq, Prod.mk.injEq] at H
  obtain ⟨p, hp, q, hq, v', hv', rfl, rfl⟩ := H
  have hr := hc.opd x a p ha hp
  have hr2 := hc.opd y b q hb hq
  have hg : ∀ (s r : Value), eqGuard op t x y s r = pure () := fun s r => by cases op <;> simp at hop <;> rfl
  unfold bin at hv'
  split at hv'
  · simp only [VR] at hr hr2
    split at hv'
    · rename_i hk
      obtain ⟨z, hz, hvr⟩ := binInt_rel (P := P) (w := w) (ρ := ρ) (h := h) hk t hv'
      exact Out.quiet hc.rel (u := z) (by simp [execOp, ho, hg, hr, hr2, hz]) hvr
    · cases hv'
  · simp only [VR] at hr hr2
    obtain ⟨z, hz, hvr⟩ := stringOp_rel (P := P) (w := w) (ρ := ρ) (h := h) hv'
    refine Out.quiet hc.rel (u := z) ?_ hvr
    have : ∀ s r : ByteArray, binOp op t (.string s) (.string r) = Op.stringOp op s r := fun s r => by cases op <;> rfl
    simp [execOp, ho, hg, hr, hr2, this, hz]
  · cases hv'

omit [Dr] in
/-- What '==' comes to, of one cell's kinds. -/
theorem equalIn_rel {x y : V} {a b : Value} {r : Bool} {k : Sk} (hx : VR ρ h.nx x a) (hy : VR ρ h.nx y b) {t : TypeId} (ht : skOf P t = some k) (hk : eqK k x y = some r) (d : Nat) :
    (Op.equalIn (d + 1) t a b).run P w = .ok r w := by
  unfold skOf at ht
  unfold eqK at hk
  split at hk <;> try (cases hk; done)
  all_goals (simp only [VR] at hx hy; subst hx; subst hy; split at ht <;> simp only [Option.some.injEq, reduceCtorEq] at ht; rename_i hu)
  · split at hk
    · rename_i e; subst e; cases hk; exact run_equalIn_int w d t _ _ _ _ hu
    · cases hk
  · cases hk; rw [run_equalIn_string w d t _ _ hu, bytes_toList, bytes_toList]
  · cases hk; exact run_equalIn_bool' w d t _ _ hu

omit [Dr] in
theorem eqFields_rel : ∀ {fs : List Field} {ks : List Sk} {o : Nat}, flatFields P fs o = some ks → ∀ {xs ys : List V} {as bs : Array Value} {r : Bool} (d : Nat),
    VRs ρ h.nx xs (as.toList.drop o) → VRs ρ h.nx ys (bs.toList.drop o) → eqAll ks xs ys = some r → (Op.eqFields (d + 1) as bs fs).run P w = .ok r w
  | [], ks, o, hf, xs, ys, as, bs, r, d, hx, hy, hr => by
    simp only [flatFields, Option.some.injEq] at hf
    subst hf
    cases xs <;> cases ys <;> simp only [eqAll, reduceCtorEq, Option.some.injEq] at hr
    subst hr
    simp [Op.eqFields]
  | f :: fs, ks, o, hf, xs, ys, as, bs, r, d, hx, hy, hr => by
    simp only [flatFields] at hf
    split at hf
    · rename_i hc
      simp only [Option.bind_eq_some_iff, Option.some.injEq] at hf
      obtain ⟨k, hk, l, hl, rfl⟩ := hf
      unfold eqAll at hr
      split at hr
      · rename_i he; simp at he
      · rename_i q qs x xs' y ys' he
        cases he
        simp only [Option.bind_eq_some_iff] at hr
        obtain ⟨r', hr', hr⟩ := hr
        obtain ⟨u, us, hu, hxu, hxs⟩ := hx.inv
        obtain ⟨s, ss, hs, hys, hyss⟩ := hy.inv
        have ha : as[o]? = some u := by
          have := congrArg (·[0]?) hu
          simpa [List.getElem?_drop] using this
        have hb : bs[o]? = some s := by
          have := congrArg (·[0]?) hs
          simpa [List.getElem?_drop] using this
        have hag : aggT P f.type = some false := by
          unfold skOf at hk
          unfold aggT
          split at hk <;> simp_all
        have hd1 : as.toList.drop (o + 1) = us := by rw [← List.drop_drop, hu]; rfl
        have hd2 : bs.toList.drop (o + 1) = ss := by rw [← List.drop_drop, hs]; rfl
        have he := equalIn_rel (P := P) (w := w) hxu hys hk hr' d
        have p1 : (part f.type as f.offset).run P w = .ok u w := by simp [part, aggT_inv hag, hc.1, ha]
        have p2 : (part f.type bs f.offset).run P w = .ok s w := by simp [part, aggT_inv hag, hc.1, hb]
        have hn : f.name ≠ "_" := hc.2
        cases r' with
        | false =>
          simp at hr
          subst hr
          simp [Op.eqFields, hn, p1, p2, he]
        | true =>
          simp only [if_true] at hr
          have ih := eqFields_rel hl d (as := as) (bs := bs) (by rw [hd1]; exact hxs) (by rw [hd2]; exact hyss) hr
          simp [Op.eqFields, hn, p1, p2, he, ih]
      · cases hr
    · cases hf

omit [Dr] in
theorem eqN_rel {x y : V} {a b : Value} {r : Bool} {k : Nk} (hx : VR ρ h.nx x a) (hy : VR ρ h.nx y b) {t : TypeId} (ht : nkOf P t = some k) (hk : eqN k x y = some r) (d : Nat) :
    (Op.equalIn (d + 1) t a b).run P w = .ok r w := by
  unfold nkOf at ht
  unfold eqN at hk
  split at hk <;> try (cases hk; done)
  all_goals
    simp only [VR] at hx hy
    cases hk
    split at ht <;> simp only [Option.some.injEq, reduceCtorEq] at ht
    rename_i hu
    first
    | (subst hx; subst hy; simp [Op.equalIn, run_underlying hu]; done)
    | (subst hx; obtain ⟨_, rfl⟩ := hy; simp [Op.equalIn, run_underlying hu]; done)
    | (subst hy; obtain ⟨_, rfl⟩ := hx; simp [Op.equalIn, run_underlying hu]; done)
    | (subst hx; obtain ⟨_, _, rfl, _⟩ := hy; simp [Op.equalIn, run_underlying hu]; done)
    | (subst hy; obtain ⟨_, _, rfl, _⟩ := hx; simp [Op.equalIn, run_underlying hu]; done)
    | (subst hx; obtain ⟨_, _, rfl⟩ := hy; simp [Op.equalIn, run_underlying hu]; done)
    | (subst hy; obtain ⟨_, _, rfl⟩ := hx; simp [Op.equalIn, run_underlying hu]; done)
    | (subst hx; obtain ⟨_, rfl, _⟩ := hy; simp [Op.equalIn, run_underlying hu]; done)
    | (subst hy; obtain ⟨_, rfl, _⟩ := hx; simp [Op.equalIn, run_underlying hu]; done)


omit [Dr] in
theorem isNilC_const {x : Operand} (hx : isNilC x = true) : ∃ c, x = .const c := by
  unfold isNilC at hx
  split at hx <;> first | exact ⟨_, rfl⟩ | cases hx

theorem sound_eq (hc : Ctx P B w0 ro ρ e h ev w) {neg : Bool} {q : Eq} {t u : TypeId} {x y : Operand} {a b : A} (hq : eqOf P t x y = some q) (ha : opdOf P x = some a) (hb : opdOf P y = some b)
    (H : op1 ro e h (.eq neg q a b) = some (v, h')) (o : Oper) (ho : o.op = .binOp (if neg then .neq else .eql) t x y u) : Out B w0 ro ρ h.nx v h' ((execOp ev o).run P w) := by
  simp only [op1, Option.bind_eq_some_iff, Option.some.injEq, Prod.mk.injEq] at H
  obtain ⟨p, hp, p', hp', r, hr, rfl, rfl⟩ := H
  have h1 := hc.opd x a p ha hp
  have h2 := hc.opd y b p' hb hp'
  refine Out.quiet hc.rel (u := .bool (if neg then !r else r)) ?_ (by simp only [VR])
  -- what is to be shown of the operation
  suffices hs : ((do eqGuard (if neg then BinOp.neq else .eql) t x y (ev x) (ev y); binOp (if neg then BinOp.neq else .eql) t (ev x) (ev y)) : Sem Value).run P w = .ok (.bool (if neg then !r else r)) w by
    simp only [execOp, ho, Sem.run_bind] at hs ⊢
    rw [show ∀ (s : Result Value), (s.andThen fun a w' => Sem.run P (pure (Next.value a)) w') = match s with | .ok a w' => .ok (.value a) w' | .halt x w' => .halt x w' from fun s => by cases s <;> rfl]
    rw [hs]
  unfold eqOf at hq
  split at hq
  · rename_i k hk
    cases hq
    simp only [eqv] at hr
    have hr0 := hr
    unfold eqK at hr
    split at hr <;> try (cases hr; done)
    · simp only [VR] at h1 h2
      split at hr
      · rename_i e; subst e; cases hr
        cases neg <;> simp [h1, h2, eqGuard_at_int, binOp_eql, binOp_neq, bne]
      · cases hr
    · simp only [VR] at h1 h2
      cases hr
      cases neg <;> simp [h1, h2, eqGuard_at_string, binOp_string_eql, binOp_string_neq]
    · have he := equalIn_rel (P := P) (w := w) h1 h2 hk hr0 9999
      simp only [VR] at h1 h2
      rw [h1, h2] at he ⊢
      cases neg <;> simp [eqGuard_at_bool, binOp, Op.equal, Op.maxDepth, he]
  · split at hq
    · rename_i k hk
      split at hq
      · rename_i hn
        cases hq
        simp only [eqv] at hr
        have he := eqN_rel (P := P) (w := w) h1 h2 hk hr 9999
        have hcst : (∃ c, x = .const c) ∨ (∃ c, y = .const c) := by
          cases hnx : isNilC x with
          | true => exact .inl (isNilC_const hnx)
          | false => rw [hnx] at hn; exact .inr (isNilC_const (by simpa using hn))
        have hg : ∀ op, (eqGuard op t x y (ev x) (ev y)).run P w = .ok () w := fun op => by
          unfold eqN at hr
          split at hr <;> try (cases hr; done)
          all_goals
            simp only [VR] at h1 h2
            first
            | (rcases hcst with ⟨c, rfl⟩ | ⟨c, rfl⟩ <;> cases op <;> simp [h1, h2, eqGuard]; done)
            | (simp only [h1]; done)
            | (obtain ⟨_, h1⟩ := h1; simp only [h1]; done)
            | (obtain ⟨_, _, h1, _⟩ := h1; simp only [h1, eqGuard_at_slice, eqGuard_at_func, Sem.run_pure]; done)
            | (obtain ⟨_, _, h1⟩ := h1; simp only [h1, eqGuard_at_slice, Sem.run_pure]; done)
            | (obtain ⟨_, h1, _⟩ := h1; simp only [h1, eqGuard_at_iface, Sem.run_pure]; done)
            | (obtain ⟨_, h2, _⟩ := h2; simp only [h1, h2, eqGuard_nil_iface, Sem.run_pure]; done)
        have hb : ∀ neg : Bool, (binOp (if neg then BinOp.neq else .eql) t (ev x) (ev y)).run P w = .ok (.bool (if neg then !r else r)) w := fun neg => by
          have he' : (Op.equal t (ev x) (ev y)).run P w = .ok r w := he
          clear hcst hg
          unfold eqN at hr
          split at hr <;> try (cases hr; done)
          all_goals
            simp only [VR] at h1 h2
            first
            | (rw [h1, h2] at he' ⊢; cases neg <;> simp [binOp, he']; done)
            | (obtain ⟨_, h1⟩ := h1; rw [h1, h2] at he' ⊢; cases neg <;> simp [binOp, he']; done)
            | (obtain ⟨_, h2⟩ := h2; rw [h1, h2] at he' ⊢; cases neg <;> simp [binOp, he']; done)
            | (obtain ⟨_, _, h1, _⟩ := h1; rw [h1, h2] at he' ⊢; cases neg <;> simp [binOp, he']; done)
            | (obtain ⟨_, _, h2, _⟩ := h2; rw [h1, h2] at he' ⊢; cases neg <;> simp [binOp, he']; done)
            | (obtain ⟨_, _, h1⟩ := h1; rw [h1, h2] at he' ⊢; cases neg <;> simp [binOp, he']; done)
            | (obtain ⟨_, _, h2⟩ := h2; rw [h1, h2] at he' ⊢; cases neg <;> simp [binOp, he']; done)
            | (obtain ⟨_, h1, _⟩ := h1; rw [h1, h2] at he' ⊢; cases neg <;> simp [binOp, he']; done)
            | (obtain ⟨_, h2, _⟩ := h2; rw [h1, h2] at he' ⊢; cases neg <;> simp [binOp, he']; done)
        simp only [Sem.run_bind, hg, Result.andThen_ok, hb]
      · cases hq
    · simp only [Option.bind_eq_some_iff, Option.some.injEq] at hq
      obtain ⟨ks, hks, rfl⟩ := hq
      simp only [eqv] at hr
      split at hr
      · rename_i xs ys
        simp only [VR] at h1 h2
        obtain ⟨as, h1, hx⟩ := h1
        obtain ⟨bs, h2, hy⟩ := h2
        unfold flatT at hks
        split at hks
        · rename_i fs hfs
          split at hks
          · rename_i hcnd
            simp only [Bool.and_eq_true, Bool.not_eq_true'] at hcnd
            have hff : P.underlying t = some (.struct (P.fieldsOf t)) := by rw [hfs]; simp [Program.fieldsOf, hfs]
            have hfe : P.fieldsOf t = fs := by simp [Program.fieldsOf, hfs]
            have h3 := eqFields_rel (P := P) (w := w) (h := h) (ρ := ρ) hks 9998 (as := as) (bs := bs) (by simpa using hx) (by simpa using hy) hr
            have h4 := run_equalIn_agg (P := P) w 9999 t as bs hff hcnd.1
            rw [hfe, h3] at h4
            have hgd := fun op => run_eqGuard_agg (P := P) w op t x y as bs hcnd.2
            rw [h1, h2]
            cases neg
            · simp [hgd, run_eql_struct, h4]
            · simp [hgd, run_neq_struct, h4]
          · cases hks
        · cases hks
      · cases hr
end
end Go.Am
