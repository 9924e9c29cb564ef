/- Operations whose order is open: which two may be exchanged, and that they may. -/
import Derived.Test.YtochmoadmdmcbaaDoorAm14
namespace Go.Am
open Go Go.RowKit
variable [Dr]

def Same (l : List Nat) (e e' : Env) : Prop := ∀ n ∈ l, e.get n = e'.get n

omit [Dr] in
theorem A.ev_same {a : A} {e e' : Env} (h : Same a.slot e e') : a.ev e = a.ev e' := by
  cases a <;> simp only [A.ev]
  exact h _ (by simp [A.slot])
omit [Dr] in
theorem Same.l {a b : List Nat} {e e' : Env} (h : Same (a ++ b) e e') : Same a e e' := fun n hn => h n (List.mem_append.2 (.inl hn))
omit [Dr] in
theorem Same.r {a b : List Nat} {e e' : Env} (h : Same (a ++ b) e e') : Same b e e' := fun n hn => h n (List.mem_append.2 (.inr hn))
omit [Dr] in
theorem evs_same {e e' : Env} : ∀ {l : List A}, Same (slots l) e e' → evs e l = evs e' l
  | [], _ => rfl
  | a :: r, h => by simp only [evs, A.ev_same (Same.l h), evs_same (Same.r (a := a.slot) h)]
omit [Dr] in
theorem evO_same {e e' : Env} {a : Option A} (h : Same (slotsO a) e e') : evO e a = evO e' a := by
  cases a with
  | none => rfl
  | some a => simp only [evO, A.ev_same (a := a) h]
omit [Dr] in
theorem evParts_same {e e' : Env} : ∀ {l : List (Nat × Nat × A)}, Same (slotsP l) e e' → evParts e l = evParts e' l
  | [], _ => rfl
  | (_, _, a) :: r, h => by simp only [evParts, A.ev_same (Same.l h), evParts_same (Same.r (a := a.slot) h)]

omit [Dr] in
theorem op1_same {ro : Nat} {e e' : Env} {h : Hp} (x : O) (hs : Same x.reads e e') : op1 ro e h x = op1 ro e' h x := by
  cases x <;> simp only [O.reads] at hs <;> simp only [op1]
  case mov => rw [A.ev_same hs]
  case box => rw [A.ev_same hs]
  case load => rw [A.ev_same hs]
  case nilc => rw [A.ev_same hs]
  case un => rw [A.ev_same hs]
  case conv => rw [A.ev_same hs]
  case mkIfc => rw [A.ev_same hs]
  case fldA => rw [A.ev_same hs]
  case fld => rw [A.ev_same hs]
  case ext => rw [A.ev_same hs]
  case lenS => rw [A.ev_same hs]
  case lenSl => rw [A.ev_same hs]
  case lenMp => rw [A.ev_same hs]
  case capSl => rw [A.ev_same hs]
  case clr => rw [A.ev_same hs]
  case pick => rw [A.ev_same hs.l, A.ev_same hs.r.l, A.ev_same hs.r.r]
  case build => rw [evParts_same hs]
  case buildSl => rw [evParts_same hs]
  case store => rw [A.ev_same hs.l, A.ev_same hs.r]
  case bin => rw [A.ev_same hs.l, A.ev_same hs.r]
  case eq => rw [A.ev_same hs.l, A.ev_same hs.r]
  case mkSl => rw [A.ev_same hs.l, A.ev_same hs.r]
  case idxA => rw [A.ev_same hs.l, A.ev_same hs.r]
  case idxArrA => rw [A.ev_same hs.l, A.ev_same hs.r]
  case idxArr => rw [A.ev_same hs.l, A.ev_same hs.r]
  case idxStr => rw [A.ev_same hs.l, A.ev_same hs.r]
  case lookup => rw [A.ev_same hs.l, A.ev_same hs.r]
  case app => rw [A.ev_same hs.l, A.ev_same hs.r]
  case appStr => rw [A.ev_same hs.l, A.ev_same hs.r]
  case appZ => rw [A.ev_same hs.l, A.ev_same hs.r]
  case copy => rw [A.ev_same hs.l, A.ev_same hs.r]
  case mkFn => rw [evs_same hs.l, evs_same hs.r]
  case slStr => rw [A.ev_same hs.l, evO_same hs.r.l, evO_same hs.r.r]
  case slSl => rw [A.ev_same hs.l, evO_same hs.r.l, evO_same hs.r.r.l, evO_same hs.r.r.r]
  case slArr => rw [A.ev_same hs.l, evO_same hs.r.l, evO_same hs.r.r.l, evO_same hs.r.r.r]
  case upd => rw [A.ev_same hs.l, A.ev_same hs.r.l, A.ev_same hs.r.r]
  case mx => rw [evs_same hs]
  case mn => rw [evs_same hs]

omit [Dr] in
theorem opX_same {k : K} {ro : Nat} {e e' : Env} {h : Hp} (x : O) (hs : Same x.reads e e') : opX k ro e h x = opX k ro e' h x := by
  cases x
  case call m f l =>
    simp only [O.reads] at hs
    simp only [opX, A.ev_same hs.l, evs_same hs.r]
  all_goals exact op1_same (ro := ro) _ hs

def More (h h2 : Hp) : Prop := ∀ b x, h.get b = some x → h2.get b = some x
omit [Dr] in
theorem More.refl (h : Hp) : More h h := fun _ _ h => h

omit [Dr] in
theorem cls0 {ro : Nat} {e : Env} {h h' : Hp} {v : V} (x : O) (hx : x.cls = 0) (H : op1 ro e h x = some (v, h')) : h' = h ∧ ∀ h2, op1 ro e h2 x = some (v, h2) := by
  cases x <;> simp only [O.cls, reduceCtorEq] at hx <;> try (simp at hx; done)
  case conv c x =>
    cases c <;> simp at hx
    all_goals
      simp only [op1, Option.bind_eq_some_iff] at H ⊢
      obtain ⟨v', hv', H⟩ := H
      cases v' <;> simp only [reduceCtorEq, Option.some.injEq, Prod.mk.injEq] at H
      obtain ⟨rfl, rfl⟩ := H
      exact ⟨rfl, fun h2 => ⟨_, hv', rfl⟩⟩
  case call m f l => split at hx <;> (try split at hx) <;> simp at hx
  all_goals
    simp only [op1] at H ⊢
    refine ⟨?_, fun h2 => ?_⟩
    · (repeat' first
        | (cases H; rfl)
        | (simp only [Option.bind_eq_some_iff, Option.some.injEq, Prod.mk.injEq, reduceCtorEq] at H)
        | (obtain ⟨_, rfl⟩ := H; rfl)
        | (obtain ⟨_, _, H⟩ := H)
        | (split at H))
    · (repeat' first
        | (cases H; done)
        | (cases H; rfl)
        | (simp only [Option.some.injEq, Prod.mk.injEq] at H ⊢; exact ⟨H.1, trivial⟩)
        | (obtain ⟨v', hv', H⟩ := H; refine ⟨v', hv', ?_⟩)
        | (rw [if_pos (by assumption)])
        | (rw [if_neg (by assumption)])
        | (simp only [Option.bind_eq_some_iff] at H ⊢)
        | (split at H))

omit [Dr] in
theorem cls1 {ro : Nat} {e : Env} {h h' : Hp} {v : V} (x : O) (hx : x.cls = 1) (H : op1 ro e h x = some (v, h')) : h' = h ∧ ∀ h2, More h h2 → op1 ro e h2 x = some (v, h2) := by
  have hshown : ∀ {h2 : Hp}, More h h2 → ∀ {sz b o n : Nat} {l : List V}, shown h sz b o n = some l → shown h2 sz b o n = some l := by
    intro h2 hm sz b o n l hs
    unfold shown at hs ⊢
    split at hs
    · rename_i z cs hg; rw [hm _ _ hg]; exact hs
    · cases hs
  have hzis : ∀ {h2 : Hp}, More h h2 → ∀ {b sz : Nat}, zIs h b sz = true → zIs h2 b sz = true := by
    intro h2 hm b sz hs
    unfold zIs at hs ⊢
    split at hs
    · rename_i z cs hg; rw [hm _ _ hg]; exact hs
    · cases hs
  cases x <;> simp only [O.cls, reduceCtorEq] at hx <;> try (simp at hx; done)
  case conv c x =>
    cases c <;> simp at hx
    simp only [op1, Option.bind_eq_some_iff] at H ⊢
    obtain ⟨v', hv', H⟩ := H
    cases v' <;> simp only [reduceCtorEq, Option.some.injEq, Prod.mk.injEq] at H
    · simp only [Option.bind_eq_some_iff, Option.some.injEq, Prod.mk.injEq] at H
      obtain ⟨l, hl, s, hs, rfl, rfl⟩ := H
      exact ⟨rfl, fun h2 hm => ⟨_, hv', by simp only [hshown hm hl, Option.bind_some, hs]⟩⟩
    · obtain ⟨rfl, rfl⟩ := H; exact ⟨rfl, fun h2 _ => ⟨_, hv', rfl⟩⟩
    · obtain ⟨rfl, rfl⟩ := H; exact ⟨rfl, fun h2 _ => ⟨_, hv', rfl⟩⟩
  case call m f l => split at hx <;> (try split at hx) <;> simp at hx
  case slSl sz x lo hi m3 =>
    simp only [op1, Option.bind_eq_some_iff] at H ⊢
    obtain ⟨v1, h1, v2, h2, v3, h3, v4, h4, H⟩ := H
    refine ⟨?_, fun hh hm => ⟨v1, h1, v2, h2, v3, h3, v4, h4, ?_⟩⟩
    · (repeat' first
        | (cases H; done)
        | (cases H; rfl)
        | (simp only [Option.bind_eq_some_iff, Option.some.injEq, Prod.mk.injEq] at H)
        | (obtain ⟨_, rfl⟩ := H; rfl)
        | (obtain ⟨_, _, H⟩ := H)
        | (split at H))
    · cases v1 <;> simp only [reduceCtorEq] at H ⊢
      · split at H
        case isFalse => cases H
        rename_i hz
        rw [if_pos (hzis hm hz)]
        (repeat' first
          | (cases H; done)
          | (cases H; rfl)
          | (simp only [Option.some.injEq, Prod.mk.injEq] at H ⊢; exact ⟨H.1, trivial⟩)
          | (obtain ⟨v', hv', H⟩ := H; refine ⟨v', hv', ?_⟩)
          | (rw [if_pos (by assumption)])
          | (rw [if_neg (by assumption)])
          | (simp only [Option.bind_eq_some_iff] at H ⊢)
          | (split at H))
      all_goals
        (repeat' first
          | (cases H; done)
          | (cases H; rfl)
          | (simp only [Option.some.injEq, Prod.mk.injEq] at H ⊢; exact ⟨H.1, trivial⟩)
          | (obtain ⟨v', hv', H⟩ := H; refine ⟨v', hv', ?_⟩)
          | (simp only [Option.bind_eq_some_iff] at H ⊢)
          | (split at H))
  all_goals
    simp only [op1] at H ⊢
    refine ⟨?_, fun h2 hm => ?_⟩
    · (repeat' first
        | (cases H; done)
        | (cases H; rfl)
        | (simp only [Option.bind_eq_some_iff, Option.some.injEq, Prod.mk.injEq] at H)
        | (obtain ⟨_, rfl⟩ := H; rfl)
        | (obtain ⟨_, _, H⟩ := H)
        | (split at H))
    · (repeat' first
        | (cases H; done)
        | (cases H; rfl)
        | (simp only [Option.some.injEq, Prod.mk.injEq] at H ⊢; exact ⟨H.1, trivial⟩)
        | (obtain ⟨v', hv', H⟩ := H; refine ⟨v', hv', ?_⟩)
        | (rw [if_pos (by assumption)])
        | (rw [if_neg (by assumption)])
        | (rw [hm _ _ (by assumption)])
        | (simp only [Option.bind_eq_some_iff] at H ⊢)
        | (split at H))

end Go.Am
