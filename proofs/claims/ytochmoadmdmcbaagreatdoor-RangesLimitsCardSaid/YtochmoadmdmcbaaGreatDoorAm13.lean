/- What the plain machine's steps leave below a bound, and how calls stand. -/
import Derived.Test.YtochmoadmdmcbaaGreatDoorAm10
import Derived.LoopN
namespace Go.Am
set_option linter.unusedSimpArgs false
set_option linter.unusedVariables false
open Go Go.RowKit
variable [Dr]

/-- All blocks have numbers below the next one. -/
def WF (h : Hp) : Prop := ∀ b x, h.get b = some x → b < h.nx

/-- The heap has grown, and below the bound nothing has turned. -/
structure Ext (ro : Nat) (h h' : Hp) : Prop where
  nx : h.nx ≤ h'.nx
  low : ro ≤ h.nx → ∀ b, b < ro → h'.get b = h.get b
  wf : WF h → WF h'

omit [Dr] in
theorem Ext.refl (ro : Nat) (h : Hp) : Ext ro h h := ⟨Nat.le_refl _, fun _ _ _ => rfl, id⟩
omit [Dr] in
theorem Ext.trans {ro : Nat} {a b c : Hp} (h1 : Ext ro a b) (h2 : Ext ro b c) : Ext ro a c :=
  ⟨Nat.le_trans h1.1 h2.1, fun hr x hx => (h2.2 (Nat.le_trans hr h1.1) x hx).trans (h1.2 hr x hx), fun h => h2.wf (h1.wf h)⟩
omit [Dr] in
theorem Ext.new (ro : Nat) (h : Hp) (x : Blk) : Ext ro h (h.new x) := ⟨Nat.le_succ _, fun hr b hb => Hp.get_new_ne (by omega), fun hw b y hg => by
  by_cases e : h.nx = b
  · subst e; exact Nat.lt_succ_self _
  · rw [Hp.get_new_ne e] at hg; exact Nat.lt_succ_of_lt (hw b y hg)⟩
omit [Dr] in
theorem Ext.set {ro : Nat} {h : Hp} {b : Nat} (hb : ro ≤ b) {y : Blk} (hy : h.get b = some y) (x : Blk) : Ext ro h (h.set b x) := ⟨Nat.le_refl _, fun _ c hc => Hp.get_set_ne (by omega), fun hw c z hg => by
  by_cases e : b = c
  · subst e; exact hw b y hy
  · rw [Hp.get_set_ne e] at hg; exact hw c z hg⟩
omit [Dr] in
theorem Ext.del {ro : Nat} {h : Hp} {b : Nat} (hb : ro ≤ b) : Ext ro h (h.del b) := ⟨Nat.le_refl _, fun _ c hc => Hp.get_del_ne (by omega), fun hw c z hg => by
  by_cases e : b = c
  · subst e; rw [Hp.get_del_same] at hg; cases hg
  · rw [Hp.get_del_ne e] at hg; exact hw c z hg⟩

omit [Dr] in
theorem app_ext {ro : Nat} {h h' : Hp} {sz bytes : Nat} {s v : V} {m : Nat} {news : List V} (H : app ro h sz bytes s m news = some (v, h')) : Ext ro h h' := by
  cases s <;> simp only [app, reduceCtorEq] at H
  · split at H
    · simp only [Option.some.injEq, Prod.mk.injEq] at H; obtain ⟨_, rfl⟩ := H; exact Ext.refl _ _
    · split at H
      case isFalse => cases H
      split at H
      · split at H
        case isFalse => cases H
        rename_i hb
        simp only [Option.bind_eq_some_iff, Option.some.injEq, Prod.mk.injEq] at H
        obtain ⟨_, _, _, rfl⟩ := H
        exact (Ext.del hb).trans (Ext.new _ _ _)
      · split at H
        · split at H
          case isFalse => cases H
          rename_i hb
          split at H
          case h_2 => cases H
          rename_i hg
          split at H
          case isFalse => cases H
          simp only [Option.bind_eq_some_iff, Option.some.injEq, Prod.mk.injEq] at H
          obtain ⟨_, _, _, rfl⟩ := H
          exact Ext.set hb hg _
        · simp only [Option.bind_eq_some_iff, Option.some.injEq, Prod.mk.injEq] at H
          obtain ⟨_, _, _, rfl⟩ := H
          exact Ext.new _ _ _
  · split at H
    · simp only [Option.some.injEq, Prod.mk.injEq] at H; obtain ⟨_, rfl⟩ := H; exact Ext.refl _ _
    · obtain ⟨_, H⟩ := ite_some H
      simp only [Prod.mk.injEq] at H
      obtain ⟨_, rfl⟩ := H
      exact Ext.new _ _ _
  · obtain ⟨_, H⟩ := ite_some H
    simp only [Prod.mk.injEq] at H
    obtain ⟨_, rfl⟩ := H
    exact Ext.refl _ _

omit [Dr] in
theorem op1_ext {ro : Nat} {e : Env} {h h' : Hp} {v : V} (x : O) (H : op1 ro e h x = some (v, h')) : Ext ro h h' := by
  cases x <;> simp only [op1, Option.bind_eq_some_iff, reduceCtorEq] at H
  case app sz by_ s x =>
    obtain ⟨_, _, q, _, H⟩ := H
    split at H
    · exact app_ext H
    · exact app_ext H
    · simp only [Option.bind_eq_some_iff] at H
      obtain ⟨_, _, H⟩ := H
      split at H
      · exact app_ext H
      · cases H
    · cases H
  case appStr s x =>
    obtain ⟨_, _, q, _, H⟩ := H
    split at H
    · exact app_ext H
    · cases H
  case appZ sz by_ z s x =>
    obtain ⟨_, _, q, _, H⟩ := H
    split at H
    · split at H
      · exact app_ext H
      · cases H
    · cases H
  all_goals
    (repeat' first
      | (obtain ⟨_, rfl⟩ := H; exact Ext.refl _ _)
      | (obtain ⟨_, _, H⟩ := H)
      | (split at H)
      | (cases H; done)
      | (simp only [Option.bind_eq_some_iff, Option.some.injEq, Prod.mk.injEq, reduceCtorEq] at H)
      | (obtain ⟨rfl, rfl⟩ := H))
  all_goals first
    | exact Ext.refl _ _
    | exact Ext.new _ _ _
    | exact Ext.set (by omega) (by assumption) _

omit [Dr] in
theorem wp_code_mono {P : Program} {c : Code} {Q Q' : Exit → Act → World → Prop} {a : Act} {w : World} (h : c.wp P Q a w) (hq : ∀ e a w, Q e a w → Q' e a w) : c.wp P Q' a w := wp_mono h hq

/-- Slots: what the plain machine knows of a slot is so. -/
def EnvR (ρ : Nat → Pl) (nx : Nat) (e : Env) (tmps : Array Value) : Prop := ∀ k v, e.get k = some v → VR ρ nx v (tmps.getD k undef)

/-- The program's own variables lie where their numbers say. -/
def GOK (P : Program) (ρ : Nat → Pl) (nx : Nat) : Prop := P.globals.size ≤ nx ∧ ∀ n, n < P.globals.size → (ρ n).blk = n ∧ (ρ n).sh = 0

omit [Dr] in
theorem GOK.mono {P : Program} {ρ ρ' : Nat → Pl} {nx nx' : Nat} (h : GOK P ρ nx) (hρ : ∀ b, b < nx → ρ' b = ρ b) (hn : nx ≤ nx') : GOK P ρ' nx' :=
  ⟨Nat.le_trans h.1 hn, fun n hn => by rw [hρ n (Nat.lt_of_lt_of_le hn h.1)]; exact h.2 n hn⟩
omit [Dr] in
theorem EnvR.mono {ρ ρ' : Nat → Pl} {nx nx' : Nat} {e : Env} {t : Array Value} (h : EnvR ρ nx e t) (hρ : ∀ b, b < nx → ρ' b = ρ b) (hn : nx ≤ nx') : EnvR ρ' nx' e t :=
  fun k v hk => VR.mono hρ hn v (h k v hk)

omit [Dr] in
theorem Env.get_set_same (e : Env) (k : Nat) (v : V) : (e.set k v).get k = some v := by
  induction e with
  | nil => simp [Env.set, Env.get]
  | cons p e ih =>
    obtain ⟨c, x⟩ := p
    simp only [Env.set]
    by_cases h : c = k
    · subst h; simp [Env.get]
    · simp [beq_ne h, Env.get, ih]
omit [Dr] in
theorem Env.get_set_ne (e : Env) {k j : Nat} (h : k ≠ j) (v : V) : (e.set k v).get j = e.get j := by
  induction e with
  | nil => simp [Env.set, Env.get, beq_ne h]
  | cons p e ih =>
    obtain ⟨c, x⟩ := p
    simp only [Env.set]
    by_cases hc : c = k
    · subst hc; simp [Env.get, beq_ne h]
    · simp [beq_ne hc, Env.get, ih]
omit [Dr] in
theorem Env.get_keep {e e' : Env} : ∀ {ks : List Nat}, e.keep ks = some e' → ∀ k v, e'.get k = some v → e.get k = some v
  | [], h, k, v, hk => by simp only [Env.keep, Option.some.injEq] at h; subst h; simp [Env.get] at hk
  | c :: ks, h, k, v, hk => by
    simp only [Env.keep, Option.bind_eq_some_iff, Option.some.injEq] at h
    obtain ⟨x, hx, r, hr, rfl⟩ := h
    by_cases hc : c = k
    · subst hc; simp [Env.get] at hk; subst hk; exact hx
    · simp [Env.get, beq_ne hc] at hk; exact Env.get_keep hr k v hk

omit [Dr] in
theorem EnvR.put {ρ : Nat → Pl} {nx : Nat} {e : Env} {a : Act} {d : Option Nat} {v : V} {u : Value} (h : EnvR ρ nx e a.tmps) (hv : VR ρ nx v u) (hd : dstOk a.tmps.size d = true) : EnvR ρ nx (setO e d v) (a.put d u).tmps := by
  cases d with
  | none => exact h
  | some d =>
    have hlt : d < a.tmps.size := by simpa [dstOk] using hd
    intro k x hk
    simp only [setO] at hk
    by_cases e1 : d = k
    · subst e1
      rw [Env.get_set_same] at hk
      cases hk
      simpa [Act.put, hlt] using hv
    · rw [Env.get_set_ne _ e1] at hk
      have := h k x hk
      simpa [Act.put, Array.getElem?_setIfInBounds_ne e1] using this

omit [Dr] in
theorem put_size (a : Act) (d : Option Nat) (u : Value) : (a.put d u).tmps.size = a.tmps.size := by
  cases d <;> simp [Act.put]
omit [Dr] in
theorem put_defers' (a : Act) (d : Option Nat) (u : Value) : (a.put d u).defers = a.defers := by cases d <;> rfl

/-- The operands of a state. -/
theorem ctx_of {P : Program} {B : Nat} {w0 w : World} {ro : Nat} {ρ : Nat → Pl} {e : Env} {h : Hp} {a : Act} (hr : Rel B w0 ro ρ h w) (he : EnvR ρ h.nx e a.tmps) (hg : GOK P ρ h.nx) : Ctx P B w0 ro ρ e h a.eval w := by
  refine ⟨hr, fun x b v hb hv => ?_⟩
  cases x with
  | tmp t =>
    simp only [opdOf, Option.some.injEq] at hb
    subst hb
    exact he t v hv
  | const c =>
    simp only [opdOf, Option.bind_eq_some_iff, Option.some.injEq] at hb
    obtain ⟨v', hv', rfl⟩ := hb
    simp only [A.ev, Option.some.injEq] at hv
    subst hv
    exact valOf_rel hv'
  | global g =>
    simp only [opdOf] at hb
    obtain ⟨hlt, rfl⟩ := ite_some hb
    simp only [A.ev, Option.some.injEq] at hv
    subst hv
    obtain ⟨h1, h2⟩ := hg.2 g hlt
    simp only [VR, Act.eval, h1, h2]
    exact ⟨Nat.lt_of_lt_of_le hlt hg.1, by simp⟩
  | func f =>
    simp only [opdOf, Option.some.injEq] at hb
    subst hb
    simp only [A.ev, Option.some.injEq] at hv
    subst hv
    simp only [VR, Act.eval]
    exact ⟨#[], #[], rfl, VRs.nil, VRs.nil⟩

omit [Dr] in
/-- Values without a block's number mean the same everywhere. -/
theorem VRs.all1 {ρ ρ' : Nat → Pl} {nx nx' : Nat} (f : V → Bool) (hf : ∀ v u, f v = true → VR ρ nx v u → VR ρ' nx' v u) : ∀ {l : List V} {us : List Value}, l.all f = true → VRs ρ nx l us → VRs ρ' nx' l us
  | [], us, _, h => by rw [h.inv_nil]; exact VRs.nil
  | v :: l, us, ha, h => by
    obtain ⟨u, us', rfl, h1, h2⟩ := h.inv
    simp only [List.all_cons, Bool.and_eq_true] at ha
    exact VRs.cons (hf v u ha.1 h1) (VRs.all1 f hf ha.2 h2)

omit [Dr] in
theorem g0_rel {ρ ρ' : Nat → Pl} {nx nx' : Nat} (v : V) (u : Value) (hv : g0 v = true) (h : VR ρ nx v u) : VR ρ' nx' v u := by
  unfold g0 at hv
  split at hv <;> first
    | (simpa only [VR] using h)
    | (simp only [VR] at h ⊢
       obtain ⟨xs', ys', e, hx, hy⟩ := h
       exact ⟨xs', ys', e, by rw [hx.inv_nil]; exact VRs.nil, by rw [hy.inv_nil]; exact VRs.nil⟩)
    | cases hv
omit [Dr] in
theorem g1_rel {ρ ρ' : Nat → Pl} {nx nx' : Nat} (v : V) (u : Value) (hv : g1 v = true) (h : VR ρ nx v u) : VR ρ' nx' v u := by
  unfold g1 at hv
  split at hv
  · simp only [VR] at h ⊢
    obtain ⟨l', e, hl⟩ := h
    exact ⟨l', e, VRs.all1 _ g0_rel hv hl⟩
  · exact g0_rel v u hv h
omit [Dr] in
theorem ground_rel {ρ ρ' : Nat → Pl} {nx nx' : Nat} {v : V} {u : Value} (hg : ground v = true) (h : VR ρ nx v u) : VR ρ' nx' v u := by
  unfold ground at hg
  split at hg
  · simp only [VR] at h ⊢
    obtain ⟨l', e, hl⟩ := h
    exact ⟨l', e, VRs.all1 _ g1_rel hg hl⟩
  · exact g1_rel v u hg h

end Go.Am
/- Code of the plain machine is what the loaded program's code comes to: calls, regions whose order is the text's, branches, blocks, loops. -/
namespace Go.Am
open Go Go.RowKit
variable [Dr]

/-- A function that is entered when it is called. -/
def Enters (P : Program) (f : Nat) : Prop := ∃ fn, P.funcs[f]? = some fn ∧ (fn.name == "runtime.NumGoroutine") = false ∧ fn.body.isNone = false

/-- What a call leaves. -/
def Post (B : Nat) (w0 : World) (ro : Nat) (ρ : Nat → Pl) (nx0 : Nat) (r : V) (h' : Hp) : Ending → World → Prop := fun en w' =>
  ∃ u ρ', en = .returned u ∧ (∀ b, b < nx0 → ρ' b = ρ b) ∧ nx0 ≤ h'.nx ∧ VR ρ' h'.nx r u ∧ Rel B w0 ro ρ' h' w'

/-- The plain machine's calls are the program's. -/
structure CallOk (P : Program) (k : K) : Prop where
  ext : ∀ {ro f args h r h'}, k ro f args h = some (r, h') → Ext ro h h'
  enters : ∀ {ro f args h r h'}, k ro f args h = some (r, h') → Enters P f
  calls : ∀ {ro f args h r h'}, k ro f args h = some (r, h') → ∀ {B w0 ρ w args'}, GOK P ρ h.nx → Rel B w0 ro ρ h w → VRs ρ h.nx args args' →
    Calls P f args'.toArray w (Post B w0 ro ρ h.nx r h')

section
variable {P : Program} {k : K} {B : Nat} {w0 w : World} {ro : Nat} {ρ : Nat → Pl} {e : Env} {h h' : Hp} {v : V}

/-- A call that may write nothing of what is there. -/
theorem Rel.fresh (hr : Rel B w0 ro ρ h w) : Rel w.heap.size w h.nx ρ h w where
  bel := Bel.refl _ _
  hB := Nat.le_refl _
  hro := Nat.le_refl _
  lt := hr.lt
  pos := fun b x hg => ⟨(hr.pos b x hg).1, fun _ => (hr.pos b x hg).1, fun hle => absurd (hr.lt b x hg) (by omega)⟩
  blk := fun b x hg => by
    have := hr.blk b x hg
    cases x with
    | cells z l => exact ⟨this.1, this.2.1, this.2.2.1, fun hle => absurd (hr.lt b _ hg) (by omega), this.2.2.2.2⟩
    | map l => exact this
  inj := fun b c x y hb _ hrb _ _ => absurd (hr.lt b x hb) (by omega)
  ok := ⟨Nat.le_trans hr.ok.1 hr.hB, hr.ok.2⟩

/-- Behind it: what it made is the caller's own. -/
theorem Rel.back {ρ' : Nat → Pl} {w' : World} (hr : Rel B w0 ro ρ h w) (hr' : Rel w.heap.size w h.nx ρ' h' w') (hρ : ∀ b, b < h.nx → ρ' b = ρ b) (hx : Ext h.nx h h') : Rel B w0 ro ρ' h' w' := by
  have hsame : ∀ b, b < h.nx → h'.get b = h.get b := hx.2 (Nat.le_refl _)
  refine ⟨hr.bel.trans (hr'.bel.mono hr.hB), Nat.le_trans hr.hB hr'.hB, Nat.le_trans hr.hro hx.1, hr'.lt, fun b x hg => ?_, fun b x hg => ?_, fun b c x y hb hc hrb hrc hne => ?_, ⟨hr.ok.1, hr'.ok.2⟩⟩
  · by_cases hlt : b < h.nx
    · rw [hsame b hlt] at hg
      rw [hρ b hlt]
      have := hr.pos b x hg
      exact ⟨Nat.lt_of_lt_of_le this.1 hr'.hB, this.2⟩
    · have := hr'.pos b x hg
      exact ⟨this.1, fun hb => absurd (Nat.lt_of_lt_of_le hb hr.hro) hlt, fun _ => Nat.le_trans hr.hB (this.2.2 (by omega))⟩
  · by_cases hlt : b < h.nx
    · have hg0 : h.get b = some x := by rw [← hsame b hlt]; exact hg
      have h1 := hr'.blk b x hg
      have h2 := hr.blk b x hg0
      cases x with
      | cells z l =>
        refine ⟨h1.1, h1.2.1, h1.2.2.1, fun hro => ?_, h1.2.2.2.2⟩
        have := h2.2.2.2.1 hro
        rw [hρ b hlt]
        unfold OwnRow
        rw [hr'.bel.block _ (hr.pos b _ hg0).1]
        exact this
      | map l => exact h1
    · have h1 := hr'.blk b x hg
      cases x with
      | cells z l => exact ⟨h1.1, h1.2.1, h1.2.2.1, fun _ => h1.2.2.2.1 (by omega), h1.2.2.2.2⟩
      | map l => exact h1
  · have old : ∀ {b : Nat} {x : Blk}, b < h.nx → h'.get b = some x → (ρ' b).blk < w.heap.size := fun {b x} hlt hg => by
      rw [hsame b hlt] at hg
      rw [hρ b hlt]
      exact (hr.pos b x hg).1
    have new : ∀ {b : Nat} {x : Blk}, ¬ b < h.nx → h'.get b = some x → w.heap.size ≤ (ρ' b).blk := fun {b x} hlt hg => (hr'.pos b x hg).2.2 (by omega)
    by_cases hlb : b < h.nx
    · by_cases hlc : c < h.nx
      · rw [hρ b hlb, hρ c hlc]
        rw [hsame b hlb] at hb
        rw [hsame c hlc] at hc
        exact hr.inj b c x y hb hc hrb hrc hne
      · have h1 := old hlb hb
        have h2 := new hlc hc
        omega
    · by_cases hlc : c < h.nx
      · have h1 := new hlb hb
        have h2 := old hlc hc
        omega
      · exact hr'.inj b c x y hb hc (by omega) (by omega) hne

/-- Where nothing lies. -/
theorem Rel.bare {w : World} {G : Nat} (ok : GlOk w.heap.size w) : Rel w.heap.size w G (fun b => ⟨b, 0, 0, 0⟩) ⟨G, []⟩ w where
  bel := Bel.refl _ _
  hB := Nat.le_refl _
  hro := Nat.le_refl _
  lt := fun b x hg => by simp [Hp.get, look] at hg
  pos := fun b x hg => by simp [Hp.get, look] at hg
  blk := fun b x hg => by simp [Hp.get, look] at hg
  inj := fun b c x y hg => by simp [Hp.get, look] at hg
  ok := ok

omit [Dr] in
theorem grounds_rel {ρ ρ' : Nat → Pl} {nx nx' : Nat} : ∀ {l : List V} {us : List Value}, l.all ground = true → VRs ρ nx l us → VRs ρ' nx' l us
  | [], us, _, h => by simpa only [VRs] using h
  | v :: l, us, hg, h => by
    simp only [List.all_cons, Bool.and_eq_true] at hg
    simp only [VRs] at h ⊢
    obtain ⟨u, us', rfl, hu, hr⟩ := h
    exact ⟨u, us', rfl, ground_rel hg.1 hu, grounds_rel hg.2 hr⟩

theorem callV_ext (hk : CallOk P k) {m : Nat} {f : V} {args : List V} (H : callV k ro m f args h = some (v, h')) : Ext ro h h' := by
  unfold callV at H
  split at H
  case h_2 => cases H
  split at H
  · exact hk.ext H
  split at H
  · split at H
    · simp only [Option.bind_eq_some_iff] at H
      obtain ⟨⟨r, h2⟩, h1, H⟩ := H
      split at H
      · simp only [Option.some.injEq, Prod.mk.injEq] at H; obtain ⟨_, rfl⟩ := H; exact Ext.refl _ _
      · cases H
    · cases H
  · simp only [Option.bind_eq_some_iff] at H
    obtain ⟨⟨r, h2⟩, h1, H⟩ := H
    have hx := hk.ext h1
    have hx' : Ext ro h h2 := ⟨hx.1, fun hr b hb => hx.2 (Nat.le_refl _) b (by omega), hx.wf⟩
    split at H
    · simp only [Option.some.injEq, Prod.mk.injEq] at H; obtain ⟨_, rfl⟩ := H; exact Ext.refl _ _
    · split at H
      · simp only [Option.some.injEq, Prod.mk.injEq] at H; obtain ⟨_, rfl⟩ := H; exact hx'
      · cases H

theorem opX_ext (hk : CallOk P k) {x : O} (H : opX k ro e h x = some (v, h')) : Ext ro h h' := by
  unfold opX at H
  split at H
  · simp only [Option.bind_eq_some_iff] at H
    obtain ⟨_, _, _, _, H⟩ := H
    exact callV_ext hk H
  · exact op1_ext _ H

/-- A call. -/
theorem callV_sound (hk : CallOk P k) (hr : Rel B w0 ro ρ h w) (hg : GOK P ρ h.nx) {m : Nat} (hm : m < 3 ∨ P.globals.size + 3 ≤ m) {f : V} {args : List V} (H : callV k ro m f args h = some (v, h')) {fv : Value} {args' : List Value}
    (hf : VR ρ h.nx f fv) (ha : VRs ρ h.nx args args') :
    ∃ n a b, fv = .func (.func n) a b ∧ Enters P n ∧ Calls P n (a ++ args'.toArray ++ b) w (Post B w0 ro ρ h.nx v h') := by
  unfold callV at H
  split at H
  case h_2 => cases H
  rename_i n xs ys
  simp only [VR] at hf
  obtain ⟨xs', ys', rfl, hx, hy⟩ := hf
  have hall : VRs ρ h.nx (xs ++ args ++ ys) (xs' ++ args'.toArray ++ ys').toList := by
    simp only [Array.toList_append]
    exact (hx.app ha).app hy
  refine ⟨n, xs', ys', rfl, ?_⟩
  split at H
  · refine ⟨hk.enters H, ?_⟩
    have := hk.calls H hg hr hall
    rwa [Array.toArray_toList] at this
  split at H
  · rename_i h3
    split at H
    case isFalse => cases H
    rename_i hga
    simp only [Option.bind_eq_some_iff] at H
    obtain ⟨⟨r, h2⟩, h1, H⟩ := H
    refine ⟨hk.enters h1, ?_⟩
    have hall' := grounds_rel (ρ' := fun b => ⟨b, 0, 0, 0⟩) (nx' := m - 3) hga hall
    have hc := hk.calls h1 (w0 := w) (w := w) (B := w.heap.size) (ρ := fun b => ⟨b, 0, 0, 0⟩) ⟨by simp only; omega, fun _ _ => ⟨rfl, rfl⟩⟩ (Rel.bare ⟨Nat.le_trans hr.ok.1 hr.hB, hr.ok.2⟩) hall'
    have hc' : Calls P n (xs' ++ args'.toArray ++ ys') w (Post w.heap.size w (m - 3) (fun b => ⟨b, 0, 0, 0⟩) (m - 3) r h2) := by rwa [Array.toArray_toList] at hc
    refine hc'.mono fun en w' hp => ?_
    obtain ⟨u, ρ', rfl, hρ, hnx, hv, hrel⟩ := hp
    split at H
    · rename_i hgr
      simp only [Option.some.injEq, Prod.mk.injEq] at H
      obtain ⟨rfl, rfl⟩ := H
      exact ⟨u, ρ, rfl, fun _ _ => rfl, Nat.le_refl _, ground_rel hgr hv, hr.same hrel.bel⟩
    · cases H
  · simp only [Option.bind_eq_some_iff] at H
    obtain ⟨⟨r, h2⟩, h1, H⟩ := H
    refine ⟨hk.enters h1, ?_⟩
    have hc := hk.calls h1 hg hr.fresh hall
    have hx2 := hk.ext h1
    have hc' : Calls P n (xs' ++ args'.toArray ++ ys') w (Post w.heap.size w h.nx ρ h.nx r h2) := by rwa [Array.toArray_toList] at hc
    refine hc'.mono fun en w' hp => ?_
    obtain ⟨u, ρ', rfl, hρ, hnx, hv, hrel⟩ := hp
    split at H
    · rename_i hgr
      simp only [Option.some.injEq, Prod.mk.injEq] at H
      obtain ⟨rfl, rfl⟩ := H
      exact ⟨u, ρ, rfl, fun _ _ => rfl, Nat.le_refl _, ground_rel hgr hv, hr.same hrel.bel⟩
    · split at H
      · simp only [Option.some.injEq, Prod.mk.injEq] at H
        obtain ⟨rfl, rfl⟩ := H
        exact ⟨u, ρ', rfl, hρ, hnx, hv, hr.back hrel hρ hx2⟩
      · cases H

/-- One operation, whatever follows. -/
theorem opX_sound (hk : CallOk P k) {a : Act} (hr : Rel B w0 ro ρ h w) (he : EnvR ρ h.nx e a.tmps) (hg : GOK P ρ h.nx) {o : Oper} {m : Nat} {x : O} (ht : opOf P m o.type o.op = some x) (hd : dstOk a.tmps.size o.dst = true)
    (H : opX k ro e h x = some (v, h')) {K : Act → World → Prop} {Q : Exit → Act → World → Prop}
    (hK : ∀ a' w' ρ', (∃ u, a' = a.put o.dst u) → a'.tmps.size = a.tmps.size → a'.defers = a.defers → (∀ b, b < h.nx → ρ' b = ρ b) → h.nx ≤ h'.nx → EnvR ρ' h'.nx (setO e o.dst v) a'.tmps → Rel B w0 ro ρ' h' w' → K a' w') : o.wp P a w K Q := by
  have hc := ctx_of hr he hg
  by_cases hcall : ∃ fr f l, x = .call fr f l
  · obtain ⟨fr, f, l, rfl⟩ := hcall
    simp only [opX, Option.bind_eq_some_iff] at H
    obtain ⟨fv, hfv, as, has, H⟩ := H
    -- the operation is a call of a function's value
    have hop : ∃ c g, o.op = .call c ∧ c.callee = .value g ∧ opdOf P g = some f ∧ opdsOf P c.args.toList = some l ∧ (fr < 3 ∨ P.globals.size + 3 ≤ fr) := by
      cases hop : o.op <;> rw [hop] at ht <;> simp only [opOf, Option.bind_eq_some_iff, Option.some.injEq, reduceCtorEq, and_false, exists_false] at ht
      case call c =>
        refine ⟨c, ?_⟩
        unfold callOf at ht
        split at ht
        · rename_i g hcal
          simp only [Option.bind_eq_some_iff] at ht
          obtain ⟨g', hg', l', hl', ht⟩ := ht
          split at ht
          · rename_i hfr
            simp only [Option.some.injEq, O.call.injEq] at ht
            obtain ⟨rfl, rfl, rfl⟩ := ht
            exact ⟨g, rfl, hcal, hg', hl', hfr⟩
          · cases ht
        · cases ht
        · split at ht <;> (repeat' first | (cases ht; done) | (rename_i hbad; cases hbad; done) | (obtain ⟨_, _, ht⟩ := ht) | (split at ht) | (simp only [Option.bind_eq_some_iff, Option.some.injEq, reduceCtorEq, and_false, exists_false] at ht))
      all_goals (repeat' first | (cases ht; done) | (rename_i hbad; cases hbad; done) | (obtain ⟨_, _, ht⟩ := ht) | (split at ht) | (simp only [Option.bind_eq_some_iff, Option.some.injEq, reduceCtorEq, and_false, exists_false] at ht))
    obtain ⟨c, g, hop, hcal, hg', hl', hfr⟩ := hop
    obtain ⟨n, xs, ys, hfe, ⟨fn, hfn, hnm, hbd⟩, hcalls⟩ := callV_sound hk hr hg hfr H (hc.opd g f fv hg' hfv) (evs_rel hc hl' has)
    have hrun : (execOp a.eval o).run P w = .ok (.enter n (xs ++ (c.args.toList.map a.eval).toArray ++ ys)) w := by
      have he2 : (c.args.toList.map a.eval).toArray = c.args.map a.eval := by apply Array.ext'; simp
      rw [he2]
      have hnm' : ¬ fn.name = "runtime.NumGoroutine" := by simpa using hnm
      have hbd' : ¬ fn.body = none := fun e => by rw [e] at hbd; cases hbd
      simp [execOp, hop, resolve, hcal, hfe, Deferred.ofValue, invoke, callFunc, hfn, hnm', hbd']
    unfold Oper.wp
    rw [hrun]
    simp only [Oper.upon]
    refine hcalls.mono fun en w' hp => ?_
    obtain ⟨u, ρ', rfl, hρ, hnx, hv, hrel⟩ := hp
    exact hK _ _ ρ' ⟨_, rfl⟩ (put_size _ _ _) (put_defers' _ _ _) hρ hnx (EnvR.put (he.mono hρ hnx) hv hd) hrel
  · have hx : ∀ fr f l, x ≠ .call fr f l := fun fr f l e => hcall ⟨fr, f, l, e⟩
    have H1 : op1 ro e h x = some (v, h') := by
      unfold opX at H
      split at H
      · exact absurd rfl (hx _ _ _)
      · exact H
    obtain ⟨u, w', ρ', hrun, hρ, hnx, hv, hrel⟩ := op1_sound hc o ht hx H1
    have hput : K (a.put o.dst u) w' := hK _ _ ρ' ⟨_, rfl⟩ (put_size _ _ _) (put_defers' _ _ _) hρ hnx (EnvR.put (he.mono hρ hnx) hv hd) hrel
    unfold Oper.wp
    rcases hrun with hrun | ⟨hrun, rfl⟩
    · rw [hrun]; exact hput
    · rw [hrun]; exact hput
end
end Go.Am
