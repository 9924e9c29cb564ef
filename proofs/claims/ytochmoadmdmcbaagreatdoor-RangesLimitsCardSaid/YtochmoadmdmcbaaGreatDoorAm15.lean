/- Operations whose order is open: which two may be exchanged, and that they may. -/
import Derived.Test.YtochmoadmdmcbaaGreatDoorAm13
import Derived.Orders
namespace Go.Am
set_option linter.unusedSimpArgs false
set_option linter.unusedVariables false
open Go Go.RowKit
variable [Dr]

def Same (l : List Nat) (e e' : Env) : Prop := ∀ n ∈ l, e.get n = e'.get n

omit [Dr] in
theorem A.ev_same {a : A} {e e' : Env} (h : Same a.slot e e') : a.ev e = a.ev e' := by
  cases a <;> simp only [A.ev]
  exact h _ (by simp [A.slot])
omit [Dr] in
theorem Same.l {a b : List Nat} {e e' : Env} (h : Same (a ++ b) e e') : Same a e e' := fun n hn => h n (List.mem_append.2 (.inl hn))
omit [Dr] in
theorem Same.r {a b : List Nat} {e e' : Env} (h : Same (a ++ b) e e') : Same b e e' := fun n hn => h n (List.mem_append.2 (.inr hn))
omit [Dr] in
theorem evs_same {e e' : Env} : ∀ {l : List A}, Same (slots l) e e' → evs e l = evs e' l
  | [], _ => rfl
  | a :: r, h => by simp only [evs, A.ev_same (Same.l h), evs_same (Same.r (a := a.slot) h)]
omit [Dr] in
theorem evO_same {e e' : Env} {a : Option A} (h : Same (slotsO a) e e') : evO e a = evO e' a := by
  cases a with
  | none => rfl
  | some a => simp only [evO, A.ev_same (a := a) h]
omit [Dr] in
theorem evParts_same {e e' : Env} : ∀ {l : List (Nat × Nat × A)}, Same (slotsP l) e e' → evParts e l = evParts e' l
  | [], _ => rfl
  | (_, _, a) :: r, h => by simp only [evParts, A.ev_same (Same.l h), evParts_same (Same.r (a := a.slot) h)]

omit [Dr] in
theorem op1_same {ro : Nat} {e e' : Env} {h : Hp} (x : O) (hs : Same x.reads e e') : op1 ro e h x = op1 ro e' h x := by
  cases x <;> simp only [O.reads] at hs <;> simp only [op1]
  case mov => rw [A.ev_same hs]
  case box => rw [A.ev_same hs]
  case load => rw [A.ev_same hs]
  case nilc => rw [A.ev_same hs]
  case un => rw [A.ev_same hs]
  case conv => rw [A.ev_same hs]
  case mkIfc => rw [A.ev_same hs]
  case fldA => rw [A.ev_same hs]
  case fld => rw [A.ev_same hs]
  case ext => rw [A.ev_same hs]
  case lenS => rw [A.ev_same hs]
  case lenSl => rw [A.ev_same hs]
  case lenMp => rw [A.ev_same hs]
  case capSl => rw [A.ev_same hs]
  case clr => rw [A.ev_same hs]
  case pick => rw [A.ev_same hs.l, A.ev_same hs.r.l, A.ev_same hs.r.r]
  case build => rw [evParts_same hs]
  case buildSl => rw [evParts_same hs]
  case store => rw [A.ev_same hs.l, A.ev_same hs.r]
  case bin => rw [A.ev_same hs.l, A.ev_same hs.r]
  case eq => rw [A.ev_same hs.l, A.ev_same hs.r]
  case mkSl => rw [A.ev_same hs.l, A.ev_same hs.r]
  case idxA => rw [A.ev_same hs.l, A.ev_same hs.r]
  case idxArrA => rw [A.ev_same hs.l, A.ev_same hs.r]
  case idxArr => rw [A.ev_same hs.l, A.ev_same hs.r]
  case idxStr => rw [A.ev_same hs.l, A.ev_same hs.r]
  case lookup => rw [A.ev_same hs.l, A.ev_same hs.r]
  case app => rw [A.ev_same hs.l, A.ev_same hs.r]
  case appStr => rw [A.ev_same hs.l, A.ev_same hs.r]
  case appZ => rw [A.ev_same hs.l, A.ev_same hs.r]
  case copy => rw [A.ev_same hs.l, A.ev_same hs.r]
  case mkFn => rw [evs_same hs.l, evs_same hs.r]
  case slStr => rw [A.ev_same hs.l, evO_same hs.r.l, evO_same hs.r.r]
  case slSl => rw [A.ev_same hs.l, evO_same hs.r.l, evO_same hs.r.r.l, evO_same hs.r.r.r]
  case slArr => rw [A.ev_same hs.l, evO_same hs.r.l, evO_same hs.r.r.l, evO_same hs.r.r.r]
  case upd => rw [A.ev_same hs.l, A.ev_same hs.r.l, A.ev_same hs.r.r]
  case mx => rw [evs_same hs]
  case mn => rw [evs_same hs]

omit [Dr] in
theorem opX_same {k : K} {ro : Nat} {e e' : Env} {h : Hp} (x : O) (hs : Same x.reads e e') : opX k ro e h x = opX k ro e' h x := by
  cases x
  case call m f l =>
    simp only [O.reads] at hs
    simp only [opX, A.ev_same hs.l, evs_same hs.r]
  all_goals exact op1_same (ro := ro) _ hs

def More (h h2 : Hp) : Prop := ∀ b x, h.get b = some x → h2.get b = some x
omit [Dr] in
theorem More.refl (h : Hp) : More h h := fun _ _ h => h

omit [Dr] in
theorem cls0 {ro : Nat} {e : Env} {h h' : Hp} {v : V} (x : O) (hx : x.cls = 0) (H : op1 ro e h x = some (v, h')) : h' = h ∧ ∀ h2, op1 ro e h2 x = some (v, h2) := by
  cases x <;> simp only [O.cls, reduceCtorEq] at hx <;> try (simp at hx; done)
  case conv c x =>
    cases c <;> simp at hx
    all_goals
      simp only [op1, Option.bind_eq_some_iff] at H ⊢
      obtain ⟨v', hv', H⟩ := H
      cases v' <;> simp only [reduceCtorEq, Option.some.injEq, Prod.mk.injEq] at H
      obtain ⟨rfl, rfl⟩ := H
      exact ⟨rfl, fun h2 => ⟨_, hv', rfl⟩⟩
  case call m f l => simp [op1] at H
  all_goals
    simp only [op1] at H ⊢
    refine ⟨?_, fun h2 => ?_⟩
    · (repeat' first
        | (cases H; rfl)
        | (simp only [Option.bind_eq_some_iff, Option.some.injEq, Prod.mk.injEq, reduceCtorEq] at H)
        | (obtain ⟨_, rfl⟩ := H; rfl)
        | (obtain ⟨_, _, H⟩ := H)
        | (split at H))
    · (repeat' first
        | (cases H; done)
        | (cases H; rfl)
        | (simp only [Option.some.injEq, Prod.mk.injEq] at H ⊢; exact ⟨H.1, trivial⟩)
        | (obtain ⟨v', hv', H⟩ := H; refine ⟨v', hv', ?_⟩)
        | (rw [if_pos (by assumption)])
        | (rw [if_neg (by assumption)])
        | (simp only [Option.bind_eq_some_iff] at H ⊢)
        | (split at H))

omit [Dr] in
theorem cls1 {ro : Nat} {e : Env} {h h' : Hp} {v : V} (x : O) (hx : x.cls = 1) (H : op1 ro e h x = some (v, h')) : h' = h ∧ ∀ h2, More h h2 → op1 ro e h2 x = some (v, h2) := by
  have hshown : ∀ {h2 : Hp}, More h h2 → ∀ {sz b o n : Nat} {l : List V}, shown h sz b o n = some l → shown h2 sz b o n = some l := by
    intro h2 hm sz b o n l hs
    unfold shown at hs ⊢
    split at hs
    · rename_i z cs hg; rw [hm _ _ hg]; exact hs
    · cases hs
  have hzis : ∀ {h2 : Hp}, More h h2 → ∀ {b sz : Nat}, zIs h b sz = true → zIs h2 b sz = true := by
    intro h2 hm b sz hs
    unfold zIs at hs ⊢
    split at hs
    · rename_i z cs hg; rw [hm _ _ hg]; exact hs
    · cases hs
  cases x <;> simp only [O.cls, reduceCtorEq] at hx <;> try (simp at hx; done)
  case conv c x =>
    cases c <;> simp at hx
    simp only [op1, Option.bind_eq_some_iff] at H ⊢
    obtain ⟨v', hv', H⟩ := H
    cases v' <;> simp only [reduceCtorEq, Option.some.injEq, Prod.mk.injEq] at H
    · simp only [Option.bind_eq_some_iff, Option.some.injEq, Prod.mk.injEq] at H
      obtain ⟨l, hl, s, hs, rfl, rfl⟩ := H
      exact ⟨rfl, fun h2 hm => ⟨_, hv', by simp only [hshown hm hl, Option.bind_some, hs]⟩⟩
    · obtain ⟨rfl, rfl⟩ := H; exact ⟨rfl, fun h2 _ => ⟨_, hv', rfl⟩⟩
    · obtain ⟨rfl, rfl⟩ := H; exact ⟨rfl, fun h2 _ => ⟨_, hv', rfl⟩⟩
  case call m f l => simp [op1] at H
  case slSl sz x lo hi m3 =>
    simp only [op1, Option.bind_eq_some_iff] at H ⊢
    obtain ⟨v1, h1, v2, h2, v3, h3, v4, h4, H⟩ := H
    refine ⟨?_, fun hh hm => ⟨v1, h1, v2, h2, v3, h3, v4, h4, ?_⟩⟩
    · (repeat' first
        | (cases H; done)
        | (cases H; rfl)
        | (simp only [Option.bind_eq_some_iff, Option.some.injEq, Prod.mk.injEq] at H)
        | (obtain ⟨_, rfl⟩ := H; rfl)
        | (obtain ⟨_, _, H⟩ := H)
        | (split at H))
    · cases v1 <;> simp only [reduceCtorEq] at H ⊢
      · split at H
        case isFalse => cases H
        rename_i hz
        rw [if_pos (hzis hm hz)]
        (repeat' first
          | (cases H; done)
          | (cases H; rfl)
          | (simp only [Option.some.injEq, Prod.mk.injEq] at H ⊢; exact ⟨H.1, trivial⟩)
          | (obtain ⟨v', hv', H⟩ := H; refine ⟨v', hv', ?_⟩)
          | (rw [if_pos (by assumption)])
          | (rw [if_neg (by assumption)])
          | (simp only [Option.bind_eq_some_iff] at H ⊢)
          | (split at H))
      all_goals
        (repeat' first
          | (cases H; done)
          | (cases H; rfl)
          | (simp only [Option.some.injEq, Prod.mk.injEq] at H ⊢; exact ⟨H.1, trivial⟩)
          | (obtain ⟨v', hv', H⟩ := H; refine ⟨v', hv', ?_⟩)
          | (simp only [Option.bind_eq_some_iff] at H ⊢)
          | (split at H))
  all_goals
    simp only [op1] at H ⊢
    refine ⟨?_, fun h2 hm => ?_⟩
    · (repeat' first
        | (cases H; done)
        | (cases H; rfl)
        | (simp only [Option.bind_eq_some_iff, Option.some.injEq, Prod.mk.injEq] at H)
        | (obtain ⟨_, rfl⟩ := H; rfl)
        | (obtain ⟨_, _, H⟩ := H)
        | (split at H))
    · (repeat' first
        | (cases H; done)
        | (cases H; rfl)
        | (simp only [Option.some.injEq, Prod.mk.injEq] at H ⊢; exact ⟨H.1, trivial⟩)
        | (obtain ⟨v', hv', H⟩ := H; refine ⟨v', hv', ?_⟩)
        | (rw [if_pos (by assumption)])
        | (rw [if_neg (by assumption)])
        | (rw [hm _ _ (by assumption)])
        | (simp only [Option.bind_eq_some_iff] at H ⊢)
        | (split at H))

end Go.Am
/- A region whose order is open: whatever order is drawn, it comes to what the one order comes to. -/
namespace Go.Am
open Go Go.RowKit
variable [Dr]

omit [Dr] in
theorem RO.apart_spec {x y : RO} (h : x.apart y = true) : (∀ d, x.dst = some d → d ∉ y.reads) ∧ (∀ d, x.dst = some d → y.dst ≠ some d) ∧ (∀ d, y.dst = some d → d ∉ x.reads) := by
  refine ⟨fun d hd => ?_, fun d hd => ?_, fun d hd => ?_⟩ <;> simp [RO.apart, hd] at h
  · exact h.1.1
  · exact h.1.2
  · exact h.2

/-- What one operation yields. -/
def Yld (k : K) (ro : Nat) (r : RO) (e : Env) (h : Hp) (v : V) (h1 : Hp) : Prop :=
  (wanted e r.g = some true ∧ opX k ro e h r.o = some (v, h1)) ∨ (wanted e r.g = some false ∧ v = .tup [] ∧ h1 = h)

def EnvEq (e e' : Env) : Prop := ∀ n, e.get n = e'.get n

section
variable {k : K} {ro : Nat} {e e' : Env} {h h1 h2 : Hp}

omit [Dr] in
theorem step1_iff {r : RO} : step1 k ro r e h = some (e', h1) ↔ ∃ v, e' = setO e r.dst v ∧ Yld k ro r e h v h1 := by
  unfold step1 Yld
  constructor
  · intro H
    simp only [Option.bind_eq_some_iff] at H
    obtain ⟨w, hw, H⟩ := H
    split at H
    · rename_i hwt
      simp only [Option.bind_eq_some_iff, Option.some.injEq, Prod.mk.injEq] at H
      obtain ⟨⟨v, h2⟩, hv, rfl, rfl⟩ := H
      exact ⟨v, rfl, .inl ⟨by rw [hw, hwt], hv⟩⟩
    · rename_i hwf
      simp only [Option.some.injEq, Prod.mk.injEq] at H
      obtain ⟨rfl, rfl⟩ := H
      exact ⟨_, rfl, .inr ⟨by rw [hw]; simpa using hwf, rfl, rfl⟩⟩
  · rintro ⟨v, rfl, ⟨hw, hv⟩ | ⟨hw, rfl, rfl⟩⟩
    · simp [hw, hv]
    · simp [hw]

omit [Dr] in
theorem wanted_same {g : Option (Nat × Bool)} (hs : ∀ t w, g = some (t, w) → e.get t = e'.get t) : wanted e g = wanted e' g := by
  cases g with
  | none => rfl
  | some p => obtain ⟨t, w⟩ := p; simp only [wanted, hs t w rfl]

omit [Dr] in
theorem Yld.same {r : RO} {v : V} (hs : Same r.reads e e') (hy : Yld k ro r e h v h1) : Yld k ro r e' h v h1 := by
  have h0 : wanted e r.g = wanted e' r.g := wanted_same fun t w hg => hs t (by simp [RO.reads, hg])
  have hx : opX k ro e h r.o = opX k ro e' h r.o := opX_same _ fun n hn => hs n (by simp [RO.reads, hn])
  unfold Yld at *
  rw [← h0, ← hx]
  exact hy

omit [Dr] in
theorem setO_same {d : Option Nat} {v : V} {l : List Nat} (hd : ∀ n, d = some n → n ∉ l) : Same l e (setO e d v) := fun n hn => by
  cases d with
  | none => rfl
  | some d => exact (Env.get_set_ne e (fun q => hd d rfl (by rw [q]; exact hn)) v).symm

omit [Dr] in
theorem EnvEq.refl (e : Env) : EnvEq e e := fun _ => rfl
omit [Dr] in
theorem EnvEq.trans {a b c : Env} (h1 : EnvEq a b) (h2 : EnvEq b c) : EnvEq a c := fun n => (h1 n).trans (h2 n)
omit [Dr] in
theorem EnvEq.symm {a b : Env} (h1 : EnvEq a b) : EnvEq b a := fun n => (h1 n).symm
omit [Dr] in
theorem EnvEq.set {a b : Env} (h : EnvEq a b) (d : Option Nat) (v : V) : EnvEq (setO a d v) (setO b d v) := fun n => by
  cases d with
  | none => exact h n
  | some d =>
    by_cases e : d = n
    · subst e; simp only [setO, Env.get_set_same]
    · simp only [setO, Env.get_set_ne _ e]; exact h n
omit [Dr] in
theorem EnvEq.comm {a : Env} {d f : Option Nat} {v u : V} (hne : ∀ n, d = some n → f ≠ some n) : EnvEq (setO (setO a d v) f u) (setO (setO a f u) d v) := fun n => by
  cases d with
  | none => rfl
  | some d =>
    cases f with
    | none => rfl
    | some f =>
      have hdf : d ≠ f := fun q => hne d rfl (by rw [q])
      simp only [setO]
      by_cases e1 : f = n
      · subst e1
        rw [Env.get_set_same, Env.get_set_ne _ hdf, Env.get_set_same]
      · rw [Env.get_set_ne _ e1]
        by_cases e2 : d = n
        · subst e2; rw [Env.get_set_same, Env.get_set_same]
        · rw [Env.get_set_ne _ e2, Env.get_set_ne _ e2, Env.get_set_ne _ e1]

omit [Dr] in
theorem ops_eq : ∀ {l : List RO} {a b a' : Env} {h h' : Hp}, EnvEq a b → ops k ro l a h = some (a', h') → ∃ b', ops k ro l b h = some (b', h') ∧ EnvEq a' b'
  | [], a, b, a', h, h', heq, H => by
    simp only [ops, Option.some.injEq, Prod.mk.injEq] at H
    obtain ⟨rfl, rfl⟩ := H
    exact ⟨b, rfl, heq⟩
  | r :: l, a, b, a', h, h', heq, H => by
    simp only [ops, Option.bind_eq_some_iff] at H
    obtain ⟨⟨a1, h1⟩, hs, H⟩ := H
    obtain ⟨v, rfl, hy⟩ := step1_iff.1 hs
    obtain ⟨b', hb, hbe⟩ := ops_eq (heq.set r.dst v) H
    refine ⟨b', ?_, hbe⟩
    simp only [ops, Option.bind_eq_some_iff]
    exact ⟨(setO b r.dst v, h1), step1_iff.2 ⟨v, rfl, hy.same fun n _ => heq n⟩, hb⟩

variable {P : Program}

omit [Dr] in
theorem opX_cls0 {x : O} {v : V} (hx : x.cls = 0) (H : opX k ro e h x = some (v, h1)) : h1 = h ∧ ∀ h2, opX k ro e h2 x = some (v, h2) := by
  cases x
  case call m f l =>
    have hm : m ≠ 0 ∧ m ≠ 1 ∧ m ≠ 2 := by
      simp only [O.cls] at hx
      split at hx
      · cases hx
      · split at hx
        · cases hx
        · split at hx
          · cases hx
          · omega
    simp only [opX, Option.bind_eq_some_iff] at H ⊢
    obtain ⟨fv, hf, as, ha, H⟩ := H
    unfold callV at H
    split at H
    case h_2 => cases H
    rw [if_neg hm.1, if_pos (by omega)] at H
    split at H
    case isFalse => cases H
    rename_i hga
    simp only [Option.bind_eq_some_iff] at H
    obtain ⟨⟨r, h3⟩, hr, H⟩ := H
    split at H
    case isFalse => cases H
    rename_i hgr
    simp only [Option.some.injEq, Prod.mk.injEq] at H
    obtain ⟨rfl, rfl⟩ := H
    refine ⟨rfl, fun h2 => ⟨_, hf, as, ha, ?_⟩⟩
    unfold callV
    simp only
    rw [if_neg hm.1, if_pos (by omega), if_pos hga]
    simp only [Option.bind_eq_some_iff]
    exact ⟨(r, h3), hr, by simp only; rw [if_pos hgr]⟩
  all_goals exact cls0 (ro := ro) (e := e) _ hx H
omit [Dr] in
theorem opX_cls1 {x : O} {v : V} (hx : x.cls = 1) (H : opX k ro e h x = some (v, h1)) : h1 = h ∧ ∀ h2, More h h2 → opX k ro e h2 x = some (v, h2) := by
  cases x
  case call m f l => simp only [O.cls] at hx; split at hx <;> (try split at hx) <;> (try split at hx) <;> simp at hx
  all_goals exact cls1 (ro := ro) (e := e) _ hx H
omit [Dr] in
theorem opX_cls2 {x : O} {v : V} (hx : x.cls = 2) (H : opX k ro e h x = some (v, h1)) : h1 = h := by
  cases x <;> simp only [O.cls, reduceCtorEq] at hx <;> try (simp at hx; done)
  case conv c x => cases c <;> simp at hx
  case call m f l =>
    split at hx
    · rename_i hm
      subst hm
      simp only [opX, Option.bind_eq_some_iff] at H
      obtain ⟨fv, _, as, _, H⟩ := H
      unfold callV at H
      split at H
      case h_2 => cases H
      rw [if_neg (by decide), if_neg (by decide)] at H
      simp only [Option.bind_eq_some_iff] at H
      obtain ⟨⟨r, h2⟩, _, H⟩ := H
      split at H
      · simp only [Option.some.injEq, Prod.mk.injEq] at H; exact H.2.symm
      · rw [if_neg (by decide)] at H; cases H
    · split at hx <;> (try split at hx) <;> simp at hx
omit [Dr] in
theorem More.of_ext (hw : WF h) (hx : Ext h.nx h h1) : More h h1 := fun b x hg => by rw [hx.low (Nat.le_refl _) b (hw b x hg)]; exact hg
omit [Dr] in
theorem More.new (hw : WF h) (x : Blk) : More h (h.new x) := fun b y hg => by rw [Hp.get_new_ne (by have := hw b y hg; omega)]; exact hg
theorem opX_cls3 (hk : CallOk P k) {x : O} {v : V} (hw : WF h) (hx : x.cls = 3) (H : opX k ro e h x = some (v, h1)) : More h h1 := by
  cases x <;> simp only [O.cls, reduceCtorEq] at hx <;> try (simp at hx; done)
  case conv c x =>
    cases c <;> simp at hx
    simp only [opX, op1, Option.bind_eq_some_iff] at H
    obtain ⟨v', hv', H⟩ := H
    cases v' <;> simp only [reduceCtorEq] at H
    obtain ⟨_, H⟩ := ite_some H
    simp only [Prod.mk.injEq] at H
    obtain ⟨_, rfl⟩ := H
    exact More.new hw _
  case call m f l =>
    split at hx
    · simp at hx
    · split at hx
      · rename_i hm
        subst hm
        simp only [opX, Option.bind_eq_some_iff] at H
        obtain ⟨fv, _, as, _, H⟩ := H
        unfold callV at H
        split at H
        case h_2 => cases H
        rw [if_neg (by decide), if_neg (by decide)] at H
        simp only [if_true, Option.bind_eq_some_iff] at H
        obtain ⟨⟨r, h2⟩, hr, H⟩ := H
        split at H
        · simp only [Option.some.injEq, Prod.mk.injEq] at H; obtain ⟨_, rfl⟩ := H; exact More.refl _
        · simp only [Option.some.injEq, Prod.mk.injEq] at H; obtain ⟨_, rfl⟩ := H; exact More.of_ext hw (hk.ext hr)
      · split at hx <;> simp at hx
  all_goals
    simp only [opX, op1] at H
    (repeat' first
      | (cases H; done)
      | (cases H; exact More.new hw _)
      | (simp only [Option.bind_eq_some_iff, Option.some.injEq, Prod.mk.injEq] at H)
      | (obtain ⟨_, rfl⟩ := H; exact More.new hw _)
      | (obtain ⟨_, _, H⟩ := H)
      | (split at H))

theorem Yld.ext (hk : CallOk P k) {r : RO} {v : V} (hy : Yld k ro r e h v h1) : Ext ro h h1 := by
  rcases hy with ⟨_, hy⟩ | ⟨_, _, rfl⟩
  · exact opX_ext hk hy
  · exact Ext.refl _ _

/-- Two operations that may be exchanged. -/
theorem swap (hk : CallOk P k) {x y : RO} {v u : V} (hp : mayPass x y = true) (hw : WF h) (hx : Yld k ro x e h v h1) (hy : Yld k ro y (setO e x.dst v) h1 u h2) :
    ∃ h1', Yld k ro y e h u h1' ∧ Yld k ro x (setO e y.dst u) h1' v h2 := by
  simp only [mayPass, Bool.and_eq_true] at hp
  obtain ⟨hap, hcm⟩ := hp
  obtain ⟨a1, a2, a3⟩ := RO.apart_spec hap
  have hy0 : Yld k ro y e h1 u h2 := hy.same (fun n hn => (setO_same (e := e) (v := v) a1 n hn).symm)
  suffices hs : ∃ h1', Yld k ro y e h u h1' ∧ Yld k ro x e h1' v h2 by
    obtain ⟨h1', s1, s2⟩ := hs
    exact ⟨h1', s1, s2.same (setO_same a3)⟩
  rcases hx with ⟨wx, ox⟩ | ⟨wx, rfl, rfl⟩
  case inr => exact ⟨h2, hy0, .inr ⟨wx, rfl, rfl⟩⟩
  rcases hy0 with ⟨wy, oy⟩ | ⟨wy, rfl, rfl⟩
  case inr => exact ⟨h, .inr ⟨wy, rfl, rfl⟩, .inl ⟨wx, ox⟩⟩
  simp only [compat, Bool.or_eq_true, Bool.and_eq_true, beq_iff_eq] at hcm
  have unch : ∀ {r : RO} {e : Env} {h h' : Hp} {v : V}, r.o.cls ≤ 2 → opX k ro e h r.o = some (v, h') → h' = h := fun {r e h h' v} hc hr => by
    rcases Nat.lt_or_ge 0 r.o.cls with h0 | h0
    · rcases Nat.lt_or_ge 1 r.o.cls with h3 | h3
      · exact opX_cls2 (by omega) hr
      · exact (opX_cls1 (by omega) hr).1
    · exact (opX_cls0 (by omega) hr).1
  rcases hcm with ((hc | hc) | hc) | hc
  · obtain ⟨rfl, hall⟩ := opX_cls0 hc ox
    exact ⟨h2, .inl ⟨wy, oy⟩, .inl ⟨wx, hall h2⟩⟩
  · obtain ⟨rfl, hall⟩ := opX_cls0 hc oy
    exact ⟨h, .inl ⟨wy, hall h⟩, .inl ⟨wx, ox⟩⟩
  · obtain rfl := unch (Nat.le_of_ble_eq_true hc.1) ox
    obtain rfl := unch (Nat.le_of_ble_eq_true hc.2) oy
    exact ⟨_, .inl ⟨wy, oy⟩, .inl ⟨wx, ox⟩⟩
  · obtain ⟨rfl, hall⟩ := opX_cls1 hc.1 ox
    have hm := opX_cls3 hk hw hc.2 oy
    exact ⟨h2, .inl ⟨wy, oy⟩, .inl ⟨wx, hall h2 hm⟩⟩

/-- What may pass all that stands ahead of it may be taken first. -/
theorem front (hk : CallOk P k) {r : RO} : ∀ {L1 L2 : List RO} {e e' : Env} {h h' : Hp}, WF h → (∀ x ∈ L1, mayPass x r = true) → ops k ro (L1 ++ r :: L2) e h = some (e', h') →
    ∃ v h1 e'', Yld k ro r e h v h1 ∧ ops k ro (L1 ++ L2) (setO e r.dst v) h1 = some (e'', h') ∧ EnvEq e' e''
  | [], L2, e, e', h, h', hw, _, H => by
    simp only [List.nil_append, ops, Option.bind_eq_some_iff] at H
    obtain ⟨⟨e1, h1⟩, hs, H⟩ := H
    obtain ⟨v, rfl, hy⟩ := step1_iff.1 hs
    exact ⟨v, h1, e', hy, H, EnvEq.refl _⟩
  | x :: L1, L2, e, e', h, h', hw, hp, H => by
    simp only [List.cons_append, ops, Option.bind_eq_some_iff] at H
    obtain ⟨⟨e1, h1⟩, hs, H⟩ := H
    obtain ⟨v, rfl, hy⟩ := step1_iff.1 hs
    obtain ⟨u, h2, e'', hr, hrest, heq⟩ := front hk ((Yld.ext hk hy).wf hw) (fun z hz => hp z (List.mem_cons_of_mem _ hz)) H
    obtain ⟨h1', s1, s2⟩ := swap hk (hp x (List.mem_cons_self ..)) hw hy hr
    have hcm := EnvEq.comm (a := e) (d := x.dst) (f := r.dst) (v := v) (u := u) (fun n hn => (RO.apart_spec (by have := hp x (List.mem_cons_self ..); simp only [mayPass, Bool.and_eq_true] at this; exact this.1)).2.1 n hn)
    obtain ⟨e3, h3, heq3⟩ := ops_eq (k := k) (ro := ro) hcm hrest
    refine ⟨u, h1', e3, s1, ?_, heq.trans heq3⟩
    simp only [List.cons_append, ops, Option.bind_eq_some_iff]
    exact ⟨(setO (setO e r.dst u) x.dst v, h2), step1_iff.2 ⟨v, rfl, s2⟩, h3⟩
end
end Go.Am
