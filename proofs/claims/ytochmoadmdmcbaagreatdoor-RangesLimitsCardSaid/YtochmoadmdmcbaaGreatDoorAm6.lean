/- Each operation of the plain machine is what the loaded program's operation comes to: slices, conversions, lengths, max and min. -/
import Derived.Test.YtochmoadmdmcbaaGreatDoorAm5
import Derived.Laws.IdiomStrings
namespace Go.Am
set_option linter.unusedSimpArgs false
set_option linter.unusedVariables false
open Go Go.RowKit
variable [Dr]
section
variable {P : Program} {B : Nat} {w0 w : World} {ro : Nat} {ρ : Nat → Pl} {e : Env} {h h' : Hp} {ev : Operand → Value} {v : V}

/-- An operand that may be missing. -/
def OR (ρ : Nat → Pl) (nx : Nat) : Option V → Option Value → Prop
  | none, u => u = none
  | some v, u => ∃ u', u = some u' ∧ VR ρ nx v u'

theorem evO_rel (hc : Ctx P B w0 ro ρ e h ev w) {x : Option Operand} {a : Option A} {v : Option V} (ha : opdO P x = some a) (hv : evO e a = some v) : OR ρ h.nx v (x.map ev) := by
  cases x with
  | none =>
    simp only [opdO, Option.some.injEq] at ha
    subst ha
    simp only [evO, Option.some.injEq] at hv
    subst hv
    exact rfl
  | some x =>
    simp only [opdO, Option.bind_eq_some_iff, Option.some.injEq] at ha
    obtain ⟨a', ha', rfl⟩ := ha
    simp only [evO, Option.bind_eq_some_iff, Option.some.injEq] at hv
    obtain ⟨v', hv', rfl⟩ := hv
    exact ⟨_, rfl, hc.opd x a' v' ha' hv'⟩

omit [Dr] in
theorem bound_some {v : V} {d y k : Nat} (hb : bound (some v) d y = some k) : ∃ kk i, v = .int kk i ∧ 0 ≤ i ∧ i ≤ (y : Int) ∧ k = i.toNat := by
  unfold bound at hb
  split at hb
  · rename_i he; cases he
  · rename_i kk i he
    cases he
    obtain ⟨⟨h0, h1⟩, h2⟩ := ite_some hb
    exact ⟨kk, i, rfl, h0, h1, h2.symm⟩
  · cases hb

/-- What the third bound may be. -/
def MxOk (mx hi : Option V) (cap m M : Nat) : Prop := (mx = none ∧ m = cap) ∨ (mx.isSome = true ∧ bound mx 0 M = some m ∧ M ≤ cap ∧ hi.isSome = true)

omit [Dr] in
theorem sliceBounds_rel {lo hi mx : Option V} {lo' hi' mx' : Option Value} (hl : OR ρ h.nx lo lo') (hh : OR ρ h.nx hi hi') (hm : OR ρ h.nx mx mx') {isSlice : Bool} {len cap l k m M y : Nat}
    (hmx : MxOk mx hi cap m M) (hhi : bound hi len y = some k) (hy : hi.isSome = true → y ≤ m) (hlo : bound lo 0 k = some l) :
    (Instr.sliceBounds isSlice len cap lo' hi' mx').run P w = .ok (l, k, m) w := by
  have Hl : ∀ code, (match lo' with | some v => Instr.sliceBound v k code | none => pure 0 : Sem Nat).run P w = .ok l w := fun code => by
    cases lo with
    | none => simp only [OR] at hl; subst hl; simp only [bound, Option.some.injEq] at hlo; subst hlo; rfl
    | some v =>
      obtain ⟨u, rfl, hu⟩ := hl
      obtain ⟨kk, i, rfl, h0, h1, rfl⟩ := bound_some hlo
      simp only [VR] at hu
      subst hu
      exact run_sliceBound w kk i k code h0 h1
  have Hh : ∀ code, hi.isSome = true → ∃ u, hi' = some u ∧ (Instr.sliceBound u m code).run P w = .ok k w := fun code hs => by
    cases hi with
    | none => cases hs
    | some v =>
      obtain ⟨u, rfl, hu⟩ := hh
      obtain ⟨kk, i, rfl, h0, h1, rfl⟩ := bound_some hhi
      simp only [VR] at hu
      subst hu
      have := hy rfl
      exact ⟨_, rfl, run_sliceBound w kk i m code h0 (by omega)⟩
  cases mx with
  | none =>
    simp only [OR] at hm
    subst hm
    rcases hmx with ⟨_, hmx⟩ | ⟨h, _⟩
    case inr => cases h
    subst hmx
    cases hi with
    | none =>
      simp only [OR] at hh
      subst hh
      simp only [bound, Option.some.injEq] at hhi
      subst hhi
      have := Hl .sliceB
      simp only [Instr.sliceBounds, Sem.run_bind, Sem.run_pure, Result.andThen_ok]
      cases lo' <;> simp_all
    | some v =>
      obtain ⟨u, rfl, hu⟩ := Hh (if isSlice then .sliceAcap else .sliceAlen) rfl
      have := Hl .sliceB
      simp only [Instr.sliceBounds, Sem.run_bind, Sem.run_pure, Result.andThen_ok, hu]
      cases lo' <;> simp_all
  | some mv =>
    rcases hmx with ⟨h, _⟩ | ⟨_, hb, hM, hs⟩
    case inl => cases h
    obtain ⟨u, rfl, hu⟩ := hm
    obtain ⟨kk, i, rfl, h0, h1, rfl⟩ := bound_some hb
    simp only [VR] at hu
    subst hu
    obtain ⟨u, rfl, hu⟩ := Hh .slice3B hs
    have hmm := fun code => run_sliceBound (P := P) w kk i cap code h0 (by omega)
    have := Hl .slice3C
    simp only [Instr.sliceBounds, Sem.run_bind, hmm, Result.andThen_ok, hu]
    cases lo' <;> simp_all

theorem sound_slStr (hc : Ctx P B w0 ro ρ e h ev w) {t : TypeId} {x : Operand} {lo hi : Option Operand} {a : A} {la ha : Option A} (hx : opdOf P x = some a) (hlo : opdO P lo = some la) (hhi : opdO P hi = some ha)
    (ht : P.underlying t = some .string) (H : op1 ro e h (.slStr a la ha) = some (v, h')) (o : Oper) (ho : o.op = .slice t x lo hi none) : Out B w0 ro ρ h.nx v h' ((execOp ev o).run P w) := by
  simp only [op1, Option.bind_eq_some_iff] at H
  obtain ⟨p, hp, lv, hl, hv, hh, H⟩ := H
  have hr := hc.opd x a p hx hp
  have ol := evO_rel hc hlo hl
  have oh := evO_rel hc hhi hh
  cases p <;> try (simp only [reduceCtorEq] at H; done)
  rename_i s
  simp only [VR] at hr
  simp only [Option.bind_eq_some_iff, Option.some.injEq, Prod.mk.injEq] at H
  obtain ⟨k, hk, l, hl, rfl, rfl⟩ := H
  have hb := sliceBounds_rel (P := P) (w := w) (mx := none) (mx' := none) (isSlice := false) (cap := s.length) (m := s.length) (M := 0) (len := s.length) ol oh rfl (.inl ⟨rfl, rfl⟩) hk (fun _ => Nat.le_refl _) hl
  refine Out.quiet hc.rel (u := .string ⟨((s.take k).drop l).toArray⟩) ?_ (by simp only [VR])
  have he : (⟨s.toArray⟩ : ByteArray).extract l k = ⟨((s.take k).drop l).toArray⟩ := by
    apply ByteArray.ext
    simp [List.extract_eq_take_drop, List.drop_take]
  simp only [execOp, ho, hr, Option.map_none, Instr.sliceAt, Sem.run_bind, run_underlying ht, Result.andThen_ok, Instr.slice]
  simp [bytes_size, hb, he]

theorem sound_slSl (hc : Ctx P B w0 ro ρ e h ev w) {t el : TypeId} {s : Nat} {x : Operand} {lo hi mx : Option Operand} {a : A} {la ha ma : Option A} (hx : opdOf P x = some a) (hlo : opdO P lo = some la) (hhi : opdO P hi = some ha) (hmx : opdO P mx = some ma)
    (ht : P.underlying t = some (.slice el)) (hs : sizeOf? P el = some s) (hmh : (mx.isSome && !hi.isSome) = false)
    (H : op1 ro e h (.slSl s a la ha ma) = some (v, h')) (o : Oper) (ho : o.op = .slice t x lo hi mx) : Out B w0 ro ρ h.nx v h' ((execOp ev o).run P w) := by
  simp only [op1, Option.bind_eq_some_iff] at H
  obtain ⟨p, hp, lv, hl, hv, hh, mv, hm, H⟩ := H
  have hr := hc.opd x a p hx hp
  have ol := evO_rel hc hlo hl
  have oh := evO_rel hc hhi hh
  have om := evO_rel hc hmx hm
  have hmsome : mv.isSome = true → hv.isSome = true := fun q => by
    have h1 : mx.isSome = true := by
      cases mx with
      | none => cases mv with
        | none => cases q
        | some _ => obtain ⟨_, h1, _⟩ := om; cases h1
      | some _ => rfl
    have h2 : hi.isSome = true := by rw [h1] at hmh; simpa using hmh
    cases hi with
    | none => cases h2
    | some _ => cases hv with
      | none => simp only [OR, Option.map_some] at oh; cases oh
      | some _ => rfl
  have goal : ∀ (ba : Option Addr) (n c : Nat) (l k m : Nat), ev x = .slice ba n c → (Instr.sliceBounds true n c (lo.map ev) (hi.map ev) (mx.map ev)).run P w = .ok (l, k, m) w →
      (execOp ev o).run P w = .ok (.value (.slice (if m = l then ba else ba.map (·.add (l * s))) (k - l) (m - l))) w := fun ba n c l k m he hb => by
    simp [execOp, ho, he, Instr.sliceAt, run_underlying ht, Instr.slice, hb, run_sizeOf hs]
  have kle : ∀ {d y k : Nat} {b : Option V}, bound b d y = some k → d ≤ y → k ≤ y := fun {d y k b} hb hd => by
    cases b with
    | none => simp only [bound, Option.some.injEq] at hb; omega
    | some _ => obtain ⟨_, i, _, h0, h1, rfl⟩ := bound_some hb; omega
  have split_z : ∀ {a l c z e : Nat}, a + c * z ≤ e → l ≤ c → a + l * z + (c - l) * z ≤ e := fun {a l c z e} h1 h2 => by
    have : l * z + (c - l) * z = c * z := by rw [← Nat.add_mul, Nat.add_sub_cancel' h2]
    omega
  have split_m : ∀ {a l m c z e : Nat}, a + c * z ≤ e → l ≤ m → m ≤ c → a + l * z + (m - l) * z ≤ e := fun {a l m c z e} h1 h2 h3 => by
    have h4 : m * z ≤ c * z := Nat.mul_le_mul_right _ h3
    exact split_z (by omega) h2
  cases p <;> try (simp only [reduceCtorEq] at H; done)
  · rename_i b of n c
    simp only [VR] at hr
    obtain ⟨hb, c', hev, hnc, hcc, hfit⟩ := hr
    simp only at H
    split at H
    case isFalse => cases H
    rename_i hzi
    have hz : (ρ b).z = s := by
      unfold zIs at hzi
      split at hzi
      · rename_i z l hg
        have := (hc.rel.blk b _ hg).1
        rw [this]; exact Nat.eq_of_beq_eq_true hzi
      · cases hzi
    subst hz
    -- what is left is one of two ways to end
    have fin : ∀ {l k m : Nat}, l ≤ k → k ≤ m → m ≤ c' → l < m → (execOp ev o).run P w = .ok (.value (.slice (if m = l then some ⟨(ρ b).blk, (ρ b).sh + of, none⟩ else (some (⟨(ρ b).blk, (ρ b).sh + of, none⟩ : Addr)).map (·.add (l * (ρ b).z))) (k - l) (m - l))) w →
        ∀ q, (q = 0 ∨ q = m - l + 1) → Out B w0 ro ρ h.nx (.sl b (of + l * (ρ b).z) (k - l) q) h ((execOp ev o).run P w) := fun {l k m} h1 h2 h3 h4 hrun q hq => by
      rw [if_neg (by omega)] at hrun
      refine Out.quiet hc.rel hrun ?_
      simp only [VR, Option.map_some, Addr.add_lit]
      exact ⟨hb, m - l, by rw [Nat.add_assoc], by omega, hq, split_m hfit (by omega) h3⟩
    have fin0 : ∀ {l k m : Nat}, l ≤ k → k ≤ m → m ≤ c' → ¬ l < m → (execOp ev o).run P w = .ok (.value (.slice (if m = l then some ⟨(ρ b).blk, (ρ b).sh + of, none⟩ else (some (⟨(ρ b).blk, (ρ b).sh + of, none⟩ : Addr)).map (·.add (l * (ρ b).z))) (k - l) (m - l))) w →
        Out B w0 ro ρ h.nx (.sl b of (k - l) (m - l + 1)) h ((execOp ev o).run P w) := fun {l k m} h1 h2 h3 h4 hrun => by
      rw [if_pos (by omega)] at hrun
      refine Out.quiet hc.rel hrun ?_
      simp only [VR]
      refine ⟨hb, m - l, rfl, by omega, .inr rfl, ?_⟩
      rw [show m - l = 0 by omega]
      omega
    split at H
    · -- the room is not known
      cases mv with
      | none =>
        simp only [Option.bind_eq_some_iff] at H
        obtain ⟨k, hk, l, hl', H⟩ := H
        have hkn : k ≤ n := kle hk (Nat.le_refl _)
        have hlk : l ≤ k := kle hl' (Nat.zero_le _)
        have hbd := sliceBounds_rel (P := P) (w := w) (isSlice := true) (cap := c') (m := c') (M := 0) ol oh om (.inl ⟨rfl, rfl⟩) hk (fun _ => hnc) hl'
        have hrun := goal _ n c' l k c' hev hbd
        split at H
        · simp only [Option.some.injEq, Prod.mk.injEq] at H
          obtain ⟨rfl, rfl⟩ := H
          exact fin hlk (by omega) (Nat.le_refl _) (by omega) hrun 0 (.inl rfl)
        · simp only [Option.some.injEq, Prod.mk.injEq] at H
          obtain ⟨rfl, rfl⟩ := H
          refine Out.quiet hc.rel hrun ?_
          simp only [VR]
          have : k - l = 0 := by omega
          rw [this]
          split
          · exact ⟨_, _, rfl⟩
          · exact ⟨_, _, rfl⟩
      | some mv =>
        simp only [Option.bind_eq_some_iff] at H
        obtain ⟨m, hm', k, hk, l, hl', H⟩ := H
        have hmn : m ≤ n := kle hm' (Nat.le_refl _)
        have hs2 := hmsome rfl
        have hkm : k ≤ m := by
          cases hv with
          | none => cases hs2
          | some _ => obtain ⟨_, i, _, h0, h1, rfl⟩ := bound_some hk; omega
        have hlk : l ≤ k := kle hl' (Nat.zero_le _)
        have hm0 : bound (some mv) 0 n = some m := by
          obtain ⟨kk, i, rfl, h0, h1, rfl⟩ := bound_some hm'
          simp [bound, h0, h1]
        have hbd := sliceBounds_rel (P := P) (w := w) (isSlice := true) (cap := c') (m := m) (M := n) ol oh om (.inr ⟨rfl, hm0, hnc, hs2⟩) hk (fun _ => Nat.le_refl _) hl'
        have hrun := goal _ n c' l k m hev hbd
        split at H
        · rename_i hlm
          simp only [Option.some.injEq, Prod.mk.injEq] at H
          obtain ⟨rfl, rfl⟩ := H
          exact fin hlk hkm (by omega) hlm hrun _ (.inr rfl)
        · rename_i hlm
          simp only [Option.some.injEq, Prod.mk.injEq] at H
          obtain ⟨rfl, rfl⟩ := H
          exact fin0 hlk hkm (by omega) hlm hrun
    · -- the room is known
      rename_i hc0
      have hc1 : c = c' + 1 := by omega
      subst hc1
      simp only [Nat.add_sub_cancel, Option.bind_eq_some_iff] at H
      obtain ⟨m, hm', k, hk, l, hl', H⟩ := H
      have hmc : m ≤ c' := kle hm' (Nat.le_refl _)
      have hkm : k ≤ m := by
        cases hv with
        | none =>
          simp only [bound, Option.some.injEq] at hk
          cases mv with
          | none => simp only [bound, Option.some.injEq] at hm'; omega
          | some _ => cases hmsome rfl
        | some _ => obtain ⟨_, i, _, h0, h1, rfl⟩ := bound_some hk; omega
      have hlk : l ≤ k := kle hl' (Nat.zero_le _)
      have hmm : MxOk mv hv c' m c' := by
        cases mv with
        | none => simp only [bound, Option.some.injEq] at hm'; exact .inl ⟨rfl, hm'.symm⟩
        | some mv =>
          obtain ⟨kk, i, rfl, h0, h1, rfl⟩ := bound_some hm'
          exact .inr ⟨rfl, by simp [bound, h0, h1], Nat.le_refl _, hmsome rfl⟩
      have hbd := sliceBounds_rel (P := P) (w := w) (isSlice := true) (cap := c') (m := m) (M := c') ol oh om hmm hk (fun _ => Nat.le_refl _) hl'
      have hrun := goal _ n c' l k m hev hbd
      split at H
      · rename_i hlm
        simp only [Option.some.injEq, Prod.mk.injEq] at H
        obtain ⟨rfl, rfl⟩ := H
        exact fin hlk hkm hmc hlm hrun _ (.inr rfl)
      · rename_i hlm
        simp only [Option.some.injEq, Prod.mk.injEq] at H
        obtain ⟨rfl, rfl⟩ := H
        exact fin0 hlk hkm hmc hlm hrun
  · -- nil
    simp only [VR] at hr
    simp only [Option.bind_eq_some_iff, Option.some.injEq, Prod.mk.injEq] at H
    obtain ⟨m, hm', k, hk, l, hl', rfl, rfl⟩ := H
    have hm0 : m = 0 := by have := kle hm' (Nat.le_refl _); omega
    subst hm0
    have hk0 : k = 0 := by have := kle hk (Nat.le_refl _); omega
    subst hk0
    have hl0 : l = 0 := by have := kle hl' (Nat.le_refl _); omega
    subst hl0
    have hmm : MxOk mv hv 0 0 0 := by
      cases mv with
      | none => exact .inl ⟨rfl, rfl⟩
      | some mv => exact .inr ⟨rfl, hm', Nat.le_refl _, hmsome rfl⟩
    have hbd := sliceBounds_rel (P := P) (w := w) (isSlice := true) (cap := 0) (m := 0) (M := 0) ol oh om hmm hk (fun _ => Nat.le_refl _) hl'
    have hrun := goal _ 0 0 0 0 0 hr hbd
    exact Out.quiet hc.rel hrun (by simp only [VR]; rfl)
  · -- empty
    simp only [VR] at hr
    obtain ⟨ad, c', hev⟩ := hr
    simp only at H
    cases mv with
    | some _ => cases H
    | none =>
      simp only [Option.bind_eq_some_iff, Option.some.injEq, Prod.mk.injEq] at H
      obtain ⟨k, hk, l, hl', rfl, rfl⟩ := H
      have hk0 : k = 0 := by have := kle hk (Nat.le_refl _); omega
      subst hk0
      have hl0 : l = 0 := by have := kle hl' (Nat.le_refl _); omega
      subst hl0
      have hbd := sliceBounds_rel (P := P) (w := w) (isSlice := true) (cap := c') (m := c') (M := 0) ol oh om (.inl ⟨rfl, rfl⟩) hk (fun _ => Nat.zero_le _) hl'
      have hrun := goal _ 0 c' 0 0 c' hev hbd
      refine Out.quiet hc.rel hrun ?_
      simp only [VR]
      split
      · exact ⟨_, _, rfl⟩
      · exact ⟨_, _, rfl⟩

theorem sound_slArr (hc : Ctx P B w0 ro ρ e h ev w) {t el : TypeId} {n s : Nat} {x : Operand} {lo hi mx : Option Operand} {a : A} {la ha ma : Option A} (hx : opdOf P x = some a) (hlo : opdO P lo = some la) (hhi : opdO P hi = some ha) (hmx : opdO P mx = some ma)
    (ht : P.underlying t = some (.array n el)) (hs : sizeOf? P el = some s) (hmh : (mx.isSome && !hi.isSome) = false)
    (H : op1 ro e h (.slArr n s a la ha ma) = some (v, h')) (o : Oper) (ho : o.op = .slice t x lo hi mx) : Out B w0 ro ρ h.nx v h' ((execOp ev o).run P w) := by
  simp only [op1, Option.bind_eq_some_iff] at H
  obtain ⟨p, hp, lv, hl, hv, hh, mv, hm, H⟩ := H
  have hr := hc.opd x a p hx hp
  have ol := evO_rel hc hlo hl
  have oh := evO_rel hc hhi hh
  have om := evO_rel hc hmx hm
  cases p <;> try (simp only [reduceCtorEq] at H; done)
  rename_i b of
  simp only [VR] at hr
  obtain ⟨hb, hev⟩ := hr
  simp only at H
  split at H
  · rename_i z l hg
    split at H
    · rename_i hcnd
      obtain ⟨rfl, hfit⟩ := hcnd
      have kle : ∀ {d y k : Nat} {b : Option V}, bound b d y = some k → d ≤ y → k ≤ y := fun {d y k b} hb hd => by
        cases b with
        | none => simp only [bound, Option.some.injEq] at hb; omega
        | some _ => obtain ⟨_, i, _, h0, h1, rfl⟩ := bound_some hb; omega
      have hmsome : mv.isSome = true → hv.isSome = true := fun q => by
        have h1 : mx.isSome = true := by
          cases mx with
          | none => cases mv with
            | none => cases q
            | some _ => obtain ⟨_, h1, _⟩ := om; cases h1
          | some _ => rfl
        have h2 : hi.isSome = true := by rw [h1] at hmh; simpa using hmh
        cases hi with
        | none => cases h2
        | some _ => cases hv with
          | none => simp only [OR, Option.map_some] at oh; cases oh
          | some _ => rfl
      simp only [Option.bind_eq_some_iff] at H
      obtain ⟨m, hm', k, hk, l', hl', H⟩ := H
      have hmc : m ≤ n := kle hm' (Nat.le_refl _)
      have hkm : k ≤ m := by
        cases hv with
        | none =>
          simp only [bound, Option.some.injEq] at hk
          cases mv with
          | none => simp only [bound, Option.some.injEq] at hm'; omega
          | some _ => cases hmsome rfl
        | some _ => obtain ⟨_, i, _, h0, h1, rfl⟩ := bound_some hk; omega
      have hlk : l' ≤ k := kle hl' (Nat.zero_le _)
      have hmm : MxOk mv hv n m n := by
        cases mv with
        | none => simp only [bound, Option.some.injEq] at hm'; exact .inl ⟨rfl, hm'.symm⟩
        | some mv =>
          obtain ⟨kk, i, rfl, h0, h1, rfl⟩ := bound_some hm'
          exact .inr ⟨rfl, by simp [bound, h0, h1], Nat.le_refl _, hmsome rfl⟩
      have hbd := sliceBounds_rel (P := P) (w := w) (isSlice := false) (cap := n) (m := m) (M := n) (len := n) ol oh om hmm hk (fun _ => Nat.le_refl _) hl'
      obtain ⟨hzz, hle, _⟩ := hc.rel.blk b _ hg
      have hrun : (execOp ev o).run P w = .ok (.value (.slice (some (if m = l' then ⟨(ρ b).blk, (ρ b).sh + of, none⟩ else (⟨(ρ b).blk, (ρ b).sh + of, none⟩ : Addr).add (l' * z))) (k - l') (m - l'))) w := by
        simp [execOp, ho, hev, Instr.sliceAt, run_underlying ht, Instr.sureAddr, hbd, run_sizeOf hs]
      have hmz : of + m * (ρ b).z ≤ (ρ b).e := by
        rw [hzz]
        have := Nat.mul_le_mul_right z hmc
        omega
      split at H
      · rename_i hlm
        simp only [Option.some.injEq, Prod.mk.injEq] at H
        obtain ⟨rfl, rfl⟩ := H
        rw [if_neg (by omega)] at hrun
        refine Out.quiet hc.rel hrun ?_
        simp only [VR, Addr.add_lit]
        refine ⟨hb, m - l', by rw [Nat.add_assoc], by omega, .inr rfl, ?_⟩
        have : l' * z + (m - l') * z = m * z := by rw [← Nat.add_mul, Nat.add_sub_cancel' (by omega)]
        rw [hzz] at hmz ⊢
        omega
      · rename_i hlm
        simp only [Option.some.injEq, Prod.mk.injEq] at H
        obtain ⟨rfl, rfl⟩ := H
        rw [if_pos (by omega)] at hrun
        refine Out.quiet hc.rel hrun ?_
        simp only [VR]
        refine ⟨hb, m - l', rfl, by omega, .inr rfl, ?_⟩
        rw [show m - l' = 0 by omega]
        omega
    · cases H
  · cases H

theorem sound_lenS (hc : Ctx P B w0 ro ρ e h ev w) {c : Call} {x : Operand} {t : TypeId} {r : List TypeId} {a : A} (hcal : c.callee = .builtin .len) (hargs : c.args.toList = [x]) (hts : c.argTypes.toList = t :: r) (ha : opdOf P x = some a) (ht : P.underlying t = some .string)
    (H : op1 ro e h (.lenS a) = some (v, h')) (o : Oper) (ho : o.op = .call c) : Out B w0 ro ρ h.nx v h' ((execOp ev o).run P w) := by
  simp only [op1, Option.bind_eq_some_iff] at H
  obtain ⟨p, hp, H⟩ := H
  have hr := hc.opd x a p ha hp
  cases p <;> try (simp only [reduceCtorEq] at H; done)
  simp only [VR] at hr
  simp only [Option.some.injEq, Prod.mk.injEq] at H
  obtain ⟨rfl, rfl⟩ := H
  have h1 : c.args = #[x] := by rw [← Array.toList_inj]; simpa using hargs
  have h2 : c.argTypes[0]? = some t := by rw [← Array.getElem?_toList, hts]; rfl
  refine Out.quiet hc.rel ?_ (u := goInt _) (by simp only [VR]; rfl)
  simp [execOp, ho, resolve, hcal, h1, invoke, builtin, Builtin.len_, h2, run_underlying ht, hr, bytes_size]

theorem sound_lenSl (hc : Ctx P B w0 ro ρ e h ev w) {c : Call} {x : Operand} {t el : TypeId} {r : List TypeId} {a : A} (hcal : c.callee = .builtin .len) (hargs : c.args.toList = [x]) (hts : c.argTypes.toList = t :: r) (ha : opdOf P x = some a) (ht : P.underlying t = some (.slice el))
    (H : op1 ro e h (.lenSl a) = some (v, h')) (o : Oper) (ho : o.op = .call c) : Out B w0 ro ρ h.nx v h' ((execOp ev o).run P w) := by
  simp only [op1, Option.bind_eq_some_iff] at H
  obtain ⟨p, hp, H⟩ := H
  have hr := hc.opd x a p ha hp
  have h1 : c.args = #[x] := by rw [← Array.toList_inj]; simpa using hargs
  have h2 : c.argTypes[0]? = some t := by rw [← Array.getElem?_toList, hts]; rfl
  cases p <;> try (simp only [reduceCtorEq] at H; done)
  · simp only [VR] at hr
    obtain ⟨_, c', hev, _⟩ := hr
    simp only [Option.some.injEq, Prod.mk.injEq] at H
    obtain ⟨rfl, rfl⟩ := H
    refine Out.quiet hc.rel ?_ (u := goInt _) (by simp only [VR]; rfl)
    simp [execOp, ho, resolve, hcal, h1, invoke, builtin, Builtin.len_, h2, run_underlying ht, hev]
  · simp only [VR] at hr
    simp only [Option.some.injEq, Prod.mk.injEq] at H
    obtain ⟨rfl, rfl⟩ := H
    refine Out.quiet hc.rel ?_ (u := goInt 0) (by simp only [VR]; rfl)
    simp [execOp, ho, resolve, hcal, h1, invoke, builtin, Builtin.len_, h2, run_underlying ht, hr]
  · simp only [VR] at hr
    obtain ⟨_, _, hev⟩ := hr
    simp only [Option.some.injEq, Prod.mk.injEq] at H
    obtain ⟨rfl, rfl⟩ := H
    refine Out.quiet hc.rel ?_ (u := goInt 0) (by simp only [VR]; rfl)
    simp [execOp, ho, resolve, hcal, h1, invoke, builtin, Builtin.len_, h2, run_underlying ht, hev]

omit [Dr] in
theorem ERs.length {ρ : Nat → Pl} {nx : Nat} : ∀ {l : List (V × V)} {es : List MapEntry}, ERs ρ nx l es → es.length = l.length
  | [], _, h => by rw [h]; rfl
  | (k, v) :: r, _, h => by
    obtain ⟨e, es', rfl, _, _, hr⟩ := h
    simp [ERs.length hr]

theorem sound_lenMp (hc : Ctx P B w0 ro ρ e h ev w) {c : Call} {x : Operand} {t kt el : TypeId} {r : List TypeId} {a : A} (hcal : c.callee = .builtin .len) (hargs : c.args.toList = [x]) (hts : c.argTypes.toList = t :: r) (ha : opdOf P x = some a) (ht : P.underlying t = some (.map kt el))
    (H : op1 ro e h (.lenMp a) = some (v, h')) (o : Oper) (ho : o.op = .call c) : Out B w0 ro ρ h.nx v h' ((execOp ev o).run P w) := by
  simp only [op1, Option.bind_eq_some_iff] at H
  obtain ⟨p, hp, H⟩ := H
  have hr := hc.opd x a p ha hp
  have h1 : c.args = #[x] := by rw [← Array.toList_inj]; simpa using hargs
  have h2 : c.argTypes[0]? = some t := by rw [← Array.getElem?_toList, hts]; rfl
  cases p <;> try (simp only [reduceCtorEq] at H; done)
  · simp only [VR] at hr
    simp only at H
    split at H
    · rename_i es hg
      simp only [Option.some.injEq, Prod.mk.injEq] at H
      obtain ⟨rfl, rfl⟩ := H
      obtain ⟨es', clock, hh, he⟩ := hc.rel.blk _ _ hg
      refine Out.quiet hc.rel ?_ (u := goInt _) (by simp only [VR]; rfl)
      have hl : es'.size = es.length := by rw [← ERs.length he]; simp
      simp [execOp, ho, resolve, hcal, h1, invoke, builtin, Builtin.len_, h2, run_underlying ht, hr.2, getObj, Sem.run, hh, hl]
    · cases H
  · simp only [VR] at hr
    simp only [Option.some.injEq, Prod.mk.injEq] at H
    obtain ⟨rfl, rfl⟩ := H
    refine Out.quiet hc.rel ?_ (u := goInt 0) (by simp only [VR]; rfl)
    simp [execOp, ho, resolve, hcal, h1, invoke, builtin, Builtin.len_, h2, run_underlying ht, hr]

theorem sound_lenArr (hc : Ctx P B w0 ro ρ e h ev w) {c : Call} {x : Operand} {t el : TypeId} {n : Nat} {r : List TypeId} {b : Builtin} (hb : b = .len ∨ b = .cap) (hcal : c.callee = .builtin b) (hargs : c.args.toList = [x]) (hts : c.argTypes.toList = t :: r) (ht : P.underlying t = some (.array n el))
    (H : op1 ro e h (.mov (.c (.int .i64 n))) = some (v, h')) (o : Oper) (ho : o.op = .call c) : Out B w0 ro ρ h.nx v h' ((execOp ev o).run P w) := by
  simp only [op1, A.ev, Option.bind_some, Option.some.injEq, Prod.mk.injEq] at H
  obtain ⟨rfl, rfl⟩ := H
  have h1 : c.args = #[x] := by rw [← Array.toList_inj]; simpa using hargs
  have h2 : c.argTypes[0]? = some t := by rw [← Array.getElem?_toList, hts]; rfl
  refine Out.quiet hc.rel ?_ (u := goInt n) (by simp only [VR]; rfl)
  rcases hb with rfl | rfl
  · simp [execOp, ho, resolve, hcal, h1, invoke, builtin, Builtin.len_, h2, run_underlying ht]
  · simp [execOp, ho, resolve, hcal, h1, invoke, builtin, Builtin.cap_, h2, run_underlying ht]

theorem sound_capSl (hc : Ctx P B w0 ro ρ e h ev w) {c : Call} {x : Operand} {t el : TypeId} {r : List TypeId} {a : A} (hcal : c.callee = .builtin .cap) (hargs : c.args.toList = [x]) (hts : c.argTypes.toList = t :: r) (ha : opdOf P x = some a) (ht : P.underlying t = some (.slice el))
    (H : op1 ro e h (.capSl a) = some (v, h')) (o : Oper) (ho : o.op = .call c) : Out B w0 ro ρ h.nx v h' ((execOp ev o).run P w) := by
  simp only [op1, Option.bind_eq_some_iff] at H
  obtain ⟨p, hp, H⟩ := H
  have hr := hc.opd x a p ha hp
  have h1 : c.args = #[x] := by rw [← Array.toList_inj]; simpa using hargs
  have h2 : c.argTypes[0]? = some t := by rw [← Array.getElem?_toList, hts]; rfl
  cases p <;> try (simp only [reduceCtorEq] at H; done)
  · simp only [VR] at hr
    obtain ⟨_, c', hev, _, hcc, _⟩ := hr
    simp only at H
    split at H
    · cases H
    · simp only [Option.some.injEq, Prod.mk.injEq] at H
      obtain ⟨rfl, rfl⟩ := H
      have : c' + 1 - 1 = c' := rfl
      rcases hcc with h0 | rfl
      · contradiction
      refine Out.quiet hc.rel ?_ (u := goInt c') (by simp only [VR]; rfl)
      simp [execOp, ho, resolve, hcal, h1, invoke, builtin, Builtin.cap_, h2, run_underlying ht, hev]
  · simp only [VR] at hr
    simp only [Option.some.injEq, Prod.mk.injEq] at H
    obtain ⟨rfl, rfl⟩ := H
    refine Out.quiet hc.rel ?_ (u := goInt 0) (by simp only [VR]; rfl)
    simp [execOp, ho, resolve, hcal, h1, invoke, builtin, Builtin.cap_, h2, run_underlying ht, hr]
end
end Go.Am
/- Each operation of the plain machine is what the loaded program's operation comes to: operations that make and write memory. -/
namespace Go.Am
open Go Go.RowKit
variable [Dr]
section
variable {P : Program} {B : Nat} {w0 w : World} {ro : Nat} {ρ : Nat → Pl} {e : Env} {h h' : Hp} {ev : Operand → Value} {v : V}

/-- A new row of cells. -/
theorem Rel.row (hr : Rel B w0 ro ρ h w) {arr : Array Value} {us rest : List Value} {l : List V} (harr : arr.toList = us ++ rest) (hv : VRs ρ h.nx l us) (z : Nat) (t : TypeId) (lo hi : Nat) (hfr : lo = hi ∨ (arr.size ≤ lo ∧ lo ≤ hi)) :
    Rel B w0 ro (upd ρ h.nx ⟨w.heap.size, 0, z, arr.size⟩) (h.new (.cells z l)) (w.alloc (.cells arr t (lo, hi))) := by
  have hsz : arr.size = us.length + rest.length := by rw [← Array.length_toList, harr, List.length_append]
  refine hr.newAt ((Bel.refl _ _).alloc (Nat.le_refl _) _) _ (Nat.le_refl _) (by simp) _ ?_
  refine ⟨rfl, by rw [← hv.length]; simp only; omega, fun i hi => ?_, fun _ => ⟨arr, t, lo, hi, heap_alloc_new w _, hfr⟩, fun i v hv' => ?_⟩
  · simp only [Nat.zero_add]
    rw [World.cell?_alloc_mark, Array.getElem?_eq_getElem hi]; rfl
  · obtain ⟨u, hu, hvr⟩ := hv.get i v hv'
    refine ⟨u, ?_, hvr⟩
    simp only [Nat.zero_add]
    rw [World.cell?_alloc_mark, ← Array.getElem?_toList, harr]
    rw [List.getElem?_append_left]
    · exact hu
    · rcases Nat.lt_or_ge i us.length with h1 | h1
      · exact h1
      · rw [List.getElem?_eq_none h1] at hu; cases hu

theorem Rel.map (hr : Rel B w0 ro ρ h w) : Rel B w0 ro (upd ρ h.nx ⟨w.heap.size, 0, 0, 0⟩) (h.new (.map [])) (w.alloc (.map #[] 0)) :=
  hr.newAt ((Bel.refl _ _).alloc (Nat.le_refl _) _) _ (Nat.le_refl _) (by simp) _ ⟨#[], 0, heap_alloc_new w _, rfl⟩

theorem sound_alloc (hc : Ctx P B w0 ro ρ e h ev w) {t : TypeId} {z : V} (hz : zeroOf P t = some z)
    (H : op1 ro e h (.alloc z.cells) = some (v, h')) (o : Oper) (ho : o.op = .alloc t) : Out B w0 ro ρ h.nx v h' ((execOp ev o).run P w) := by
  simp only [op1, Option.some.injEq, Prod.mk.injEq] at H
  obtain ⟨rfl, rfl⟩ := H
  obtain ⟨i, zv, hi, hzv, hval, _⟩ := zeroOf_inv hz
  have hvr : VR ρ h.nx z zv := valOf_rel hval
  have hrow := hc.rel.row (arr := zv.cells) (rest := []) (List.append_nil _).symm hvr.cells 0 t 0 0 (.inl rfl)
  refine ⟨.pointer (some ⟨w.heap.size, 0, none⟩), _, _, .inl ?_, upd_lt, Nat.le_succ _, ?_, hrow⟩
  · simp [execOp, ho, Instr.alloc, zeroValue, typeInfo, hi, hzv, newVar, newRow]
  · simp only [VR, upd_same]
    exact ⟨Nat.lt_succ_self _, trivial⟩

theorem sound_box (hc : Ctx P B w0 ro ρ e h ev w) {t : TypeId} {n : Nat} {x : Operand} {a : A} (ha : opdOf P x = some a)
    (H : op1 ro e h (.box n a) = some (v, h')) (o : Oper) (ho : o.op = .box t x) : Out B w0 ro ρ h.nx v h' ((execOp ev o).run P w) := by
  simp only [op1, Option.bind_eq_some_iff] at H
  obtain ⟨p, hp, H⟩ := H
  have hr := hc.opd x a p ha hp
  obtain ⟨_, H⟩ := ite_some H
  simp only [Prod.mk.injEq] at H
  obtain ⟨rfl, rfl⟩ := H
  have hrow := hc.rel.row (arr := (ev x).cells) (rest := []) (List.append_nil _).symm hr.cells 0 t 0 0 (.inl rfl)
  refine ⟨.pointer (some ⟨w.heap.size, 0, none⟩), _, _, .inl ?_, upd_lt, Nat.le_succ _, ?_, hrow⟩
  · simp [execOp, ho, Instr.box, newVar, newRow]
  · simp only [VR, upd_same]
    exact ⟨Nat.lt_succ_self _, trivial⟩

theorem sound_mkMap (hc : Ctx P B w0 ro ρ e h ev w) {t : TypeId}
    (H : op1 ro e h .mkMap = some (v, h')) (o : Oper) (ho : o.op = .makeMap t none) : Out B w0 ro ρ h.nx v h' ((execOp ev o).run P w) := by
  simp only [op1, Option.some.injEq, Prod.mk.injEq] at H
  obtain ⟨rfl, rfl⟩ := H
  refine ⟨.map (some w.heap.size), _, _, .inl ?_, upd_lt, Nat.le_succ _, ?_, hc.rel.map⟩
  · simp [execOp, ho, Instr.makeMap]
  · simp only [VR, upd_same]
    exact ⟨Nat.lt_succ_self _, trivial⟩

/-! parts put into cells -/

omit [Dr] in
theorem foldl_set (off : Nat) : ∀ (us : List Value) (k : Nat) (arr : Array Value), off + k + us.length ≤ arr.size →
    (((us.zipIdx k).foldl (fun cs (x : Value × Nat) => cs.setIfInBounds (off + x.2) x.1) arr).size = arr.size ∧
     ∀ i, ((us.zipIdx k).foldl (fun cs (x : Value × Nat) => cs.setIfInBounds (off + x.2) x.1) arr)[i]? = if off + k ≤ i ∧ i < off + k + us.length then us[i - (off + k)]? else arr[i]?)
  | [], k, arr, _ => ⟨rfl, fun i => by rw [if_neg (by simp only [List.length_nil]; omega)]; rfl⟩
  | u :: us, k, arr, h => by
    simp only [List.length_cons] at h
    have ih := foldl_set off us (k + 1) (arr.setIfInBounds (off + k) u) (by simp; omega)
    simp only [List.zipIdx_cons, List.foldl_cons]
    refine ⟨by rw [ih.1]; simp, fun i => ?_⟩
    rw [ih.2 i]
    by_cases e : i = off + k
    · subst e
      rw [if_neg (by omega), if_pos (by simp only [List.length_cons]; omega)]
      simp [Array.getElem?_setIfInBounds]
      omega
    · by_cases h1 : off + (k + 1) ≤ i ∧ i < off + (k + 1) + us.length
      · rw [if_pos h1, if_pos (by simp only [List.length_cons]; omega)]
        rw [show i - (off + k) = (i - (off + (k + 1))) + 1 by omega]
        simp
      · rw [if_neg h1, if_neg (by simp only [List.length_cons]; omega), Array.getElem?_setIfInBounds_ne (by omega)]

omit [Dr] in
theorem VRs.setN {ρ : Nat → Pl} {nx : Nat} {l vs l' : List V} {o : Nat} {arr : Array Value} {us : List Value} (h1 : VRs ρ nx l arr.toList) (h2 : VRs ρ nx vs us) (hs : Am.setN l o vs = some l') :
    VRs ρ nx l' (((us.zipIdx).foldl (fun cs (x : Value × Nat) => cs.setIfInBounds (o + x.2) x.1) arr)).toList := by
  obtain ⟨hle, rfl⟩ := setN_eq hs
  have hl1 := h1.length
  have hl2 := h2.length
  simp only [Array.length_toList] at hl1
  have hf := foldl_set o us 0 arr (by omega)
  simp only [Nat.add_zero] at hf
  refine VRs.of_get _ _ (by simp [hf.1]; omega) fun i v hv => ?_
  rw [Array.getElem?_toList, hf.2 i]
  by_cases c1 : i < o
  · rw [List.getElem?_append_left (by simp; omega), List.getElem?_take, if_pos c1] at hv
    rw [if_neg (by omega)]
    obtain ⟨u, hu, hr⟩ := h1.get i v hv
    exact ⟨u, by simpa using hu, hr⟩
  · rw [List.getElem?_append_right (by simp; omega)] at hv
    simp only [List.length_take, Nat.min_eq_left (show o ≤ l.length by omega)] at hv
    by_cases c2 : i - o < vs.length
    · rw [List.getElem?_append_left c2] at hv
      rw [if_pos (by omega)]
      exact h2.get _ v hv
    · rw [List.getElem?_append_right (by omega), List.getElem?_drop] at hv
      rw [if_neg (by omega)]
      rw [show o + vs.length + (i - o - vs.length) = i by omega] at hv
      obtain ⟨u, hu, hr⟩ := h1.get i v hv
      exact ⟨u, by simpa using hu, hr⟩

theorem fill_rel (hc : Ctx P B w0 ro ρ e h ev w) {f : Nat → Option (Nat × Nat)} : ∀ {xs : List (Nat × Operand)} {ps : List (Nat × Nat × A)} {vs : List (Nat × Nat × V)} {cells l : List V} {arr : Array Value},
    partsOf P f xs = some ps → evParts e ps = some vs → fill cells vs = some l → VRs ρ h.nx cells arr.toList →
      ∃ arr', Instr.fill f arr (xs.map fun (i, x) => (i, ev x)) = some arr' ∧ VRs ρ h.nx l arr'.toList
  | [], ps, vs, cells, l, arr, hp, hv, hf, hr => by
    simp only [partsOf, Option.some.injEq] at hp
    subst hp
    simp only [evParts, Option.some.injEq] at hv
    subst hv
    simp only [fill, Option.some.injEq] at hf
    subst hf
    exact ⟨arr, rfl, hr⟩
  | (i, x) :: xs, ps, vs, cells, l, arr, hp, hv, hf, hr => by
    simp only [partsOf, Option.bind_eq_some_iff, Option.some.injEq] at hp
    obtain ⟨⟨o, s⟩, hi, a, ha, ps', hps, rfl⟩ := hp
    simp only [evParts, Option.bind_eq_some_iff, Option.some.injEq] at hv
    obtain ⟨v, hv, vs', hvs, rfl⟩ := hv
    have hx := (hc.opd x a v ha hv).cells
    simp only [fill] at hf
    split at hf
    · rename_i hlen
      simp only [Option.bind_eq_some_iff] at hf
      obtain ⟨c, hcs, hf⟩ := hf
      have hle := (setN_eq hcs).1
      have h1 := hr.length
      have h2 := hx.length
      simp only [Array.length_toList] at h1 h2
      obtain ⟨arr', hA, hB⟩ := fill_rel hc hps hvs hf (hr.setN hx hcs)
      refine ⟨arr', ?_, hB⟩
      simp only [List.map_cons, Instr.fill, hi]
      have g1 : ¬ ((ev x).cells.size ≠ s) := by simp; omega
      have g2 : ¬ (o + (ev x).cells.size > arr.size) := by omega
      rw [if_neg (by simp [g1, g2])]
      rw [← hA]
      congr 1
      rw [← Array.foldl_toList, Array.toList_zipIdx]
    · cases hf

theorem sound_build (hc : Ctx P B w0 ro ρ e h ev w) {t : TypeId} {z : V} {xs : Array (Nat × Operand)} {ps : List (Nat × Nat × A)} {f : Nat → Option (Nat × Nat)} (hz : zeroOf P t = some z) (hps : partsOf P f xs.toList = some ps)
    (hf : ∀ parts : List (Nat × Value), ∀ cells : Array Value, ∀ c, Instr.fill f cells parts = some c → (zeroValue t).run P w = .ok (.agg cells) w ∨ (∀ cs, (zeroValue t).run P w = .ok cs w → cs.cells = cells) → (Instr.build t parts.toArray).run P w = .ok (.agg c) w)
    (H : op1 ro e h (.build z.cells ps) = some (v, h')) (o : Oper) (ho : o.op = .build t xs) : Out B w0 ro ρ h.nx v h' ((execOp ev o).run P w) := by
  simp only [op1, Option.bind_eq_some_iff, Option.some.injEq, Prod.mk.injEq] at H
  obtain ⟨vs, hvs, l, hl, rfl, rfl⟩ := H
  obtain ⟨i, zv, hi, hzv, hval, _⟩ := zeroOf_inv hz
  have hvr : VR ρ h.nx z zv := valOf_rel hval
  obtain ⟨arr', h1, h2⟩ := fill_rel hc hps hvs hl hvr.cells
  refine Out.quiet hc.rel (u := .agg arr') ?_ (by simp only [VR]; exact ⟨_, rfl, h2⟩)
  have hrun := hf _ _ _ h1 (.inr fun cs hcs => by
    have : (zeroValue t).run P w = .ok zv w := by simp [zeroValue, typeInfo, hi, hzv]
    rw [this] at hcs
    cases hcs; rfl)
  have he : (xs.map fun (i, x) => (i, ev x)) = (xs.toList.map fun (i, x) => (i, ev x)).toArray := by
    apply Array.ext'; simp
  simp only [execOp, ho, Sem.run_bind]
  rw [he, hrun]
  rfl

theorem sound_buildStruct (hc : Ctx P B w0 ro ρ e h ev w) {t : TypeId} {z : V} {xs : Array (Nat × Operand)} {ps : List (Nat × Nat × A)} {fs : Array Field} (hz : zeroOf P t = some z) (ht : P.underlying t = some (.struct fs))
    (hps : partsOf P (fun i => (fs[i]?).bind fun f => (sizeOf? P f.type).bind fun s => some (f.offset, s)) xs.toList = some ps)
    (H : op1 ro e h (.build z.cells ps) = some (v, h')) (o : Oper) (ho : o.op = .build t xs) (hsz : ∀ f ∈ fs, (sizeOf? P f.type).isSome = true) : Out B w0 ro ρ h.nx v h' ((execOp ev o).run P w) := by
  refine sound_build hc hz hps (fun parts cells c hfill hz0 => ?_) H o ho
  obtain ⟨zv, hzv, _⟩ := run_zero hz w
  have hcells : zv.cells = cells := by
    rcases hz0 with h1 | h1
    · rw [hzv] at h1; cases h1; rfl
    · exact h1 zv hzv
  have hmap : ∀ w : World, (fs.mapM (fun f => do pure (f.offset, ← sizeOf f.type) : Field → Sem (Nat × Nat))).run P w = .ok (fs.map fun f => (f.offset, (sizeOf? P f.type).getD 0)) w := by
    intro w
    have key : ∀ (l : List Field), (∀ f ∈ l, (sizeOf? P f.type).isSome = true) → (l.mapM (fun f => do pure (f.offset, ← sizeOf f.type) : Field → Sem (Nat × Nat))).run P w = .ok (l.map fun f => (f.offset, (sizeOf? P f.type).getD 0)) w := by
      intro l
      induction l with
      | nil => intro _; simp
      | cons f l ih =>
        intro hl
        obtain ⟨n, hn⟩ := Option.isSome_iff_exists.1 (hl f (by simp))
        have := ih (fun g hg => hl g (by simp [hg]))
        simp only [List.mapM_cons, Sem.run_bind, run_sizeOf hn, Result.andThen_ok, Sem.run_pure, this, List.map_cons, hn, Option.getD_some]
    rw [Array.mapM_eq_mapM_toList]
    simp only [Sem.run_map, key fs.toList (fun f hf => hsz f (by simpa using hf)), Result.andThen_ok]
    congr 1
    apply Array.ext'; simp
  have hplace : (fun i : Nat => (fs.map fun f : Field => (f.offset, (sizeOf? P f.type).getD 0))[i]?) = fun i : Nat => (fs[i]?).bind fun f => (sizeOf? P f.type).bind fun s => some (f.offset, s) := by
    funext i
    rw [Array.getElem?_map]
    cases hi : fs[i]? with
    | none => rfl
    | some f =>
      obtain ⟨n, hn⟩ := Option.isSome_iff_exists.1 (hsz f (Array.mem_of_getElem? hi))
      simp [hn]
  simp only [Instr.build, Sem.run_bind, hzv, Result.andThen_ok, run_underlying ht, hmap, hplace]
  rw [hcells, hfill]
  rfl

theorem sound_buildArr (hc : Ctx P B w0 ro ρ e h ev w) {t el : TypeId} {n s : Nat} {z : V} {xs : Array (Nat × Operand)} {ps : List (Nat × Nat × A)} (hz : zeroOf P t = some z) (ht : P.underlying t = some (.array n el)) (hs : sizeOf? P el = some s)
    (hps : partsOf P (fun i => some (i * s, s)) xs.toList = some ps)
    (H : op1 ro e h (.build z.cells ps) = some (v, h')) (o : Oper) (ho : o.op = .build t xs) : Out B w0 ro ρ h.nx v h' ((execOp ev o).run P w) := by
  refine sound_build hc hz hps (fun parts cells c hfill hz0 => ?_) H o ho
  obtain ⟨zv, hzv, _⟩ := run_zero hz w
  have hcells : zv.cells = cells := by
    rcases hz0 with h1 | h1
    · rw [hzv] at h1; cases h1; rfl
    · exact h1 zv hzv
  simp only [Instr.build, Sem.run_bind, hzv, Result.andThen_ok, run_underlying ht, run_sizeOf hs]
  rw [hcells, hfill]
  rfl
end
end Go.Am
