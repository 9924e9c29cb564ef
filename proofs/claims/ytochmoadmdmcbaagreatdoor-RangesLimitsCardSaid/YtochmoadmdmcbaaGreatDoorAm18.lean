/- Functions of the plain machine are the loaded program's functions. -/
import Derived.Test.YtochmoadmdmcbaaGreatDoorAm17
namespace Go.Am
set_option linter.unusedSimpArgs false
set_option linter.unusedVariables false
open Go Go.RowKit
variable [Dr]
section
variable {P : Program} {B : Nat} {w0 w : World} {ro nt : Nat} {ρ : Nat → Pl} {e : Env} {h h' : Hp} {v : V} {a : Act}

omit [Dr] in
theorem params_get : ∀ {args : List V} {n k : Nat} {v : V}, (params n args).get k = some v → n ≤ k ∧ args[k - n]? = some v
  | [], n, k, v, h => by simp [params, Env.get] at h
  | x :: r, n, k, v, h => by
    simp only [params, Env.get] at h
    by_cases e : n = k
    · subst e; simp at h; subst h; exact ⟨Nat.le_refl _, by simp⟩
    · simp only [beq_ne e, cond_false] at h
      obtain ⟨h1, h2⟩ := params_get h
      refine ⟨by omega, ?_⟩
      rw [show k - n = (k - (n + 1)) + 1 by omega]
      simpa using h2

theorem resOf_rel (hs : St P B w0 ro nt ρ e h a w) {r : ResultVar} {r' : R} (hr : resultOf P nt r = some r') (hv : resOf e h r' = some v) :
    ∃ u, (match r with | .tmp t => pure (a.tmps.getD t undef) | .cell x t => do loadVar t (← asAddr (a.tmps.getD x undef)) : Sem Value).run P w = .ok u w ∧ VR ρ h.nx v u := by
  cases r with
  | tmp t =>
    simp only [resultOf, Option.some.injEq] at hr
    subst hr
    exact ⟨_, rfl, hs.env t v hv⟩
  | cell x t =>
    simp only [resultOf, Option.bind_eq_some_iff, Option.some.injEq] at hr
    obtain ⟨n, hn, rfl⟩ := hr
    simp only [resOf, Option.bind_eq_some_iff] at hv
    obtain ⟨p, hp, hv⟩ := hv
    have hpr := hs.env x p hp
    cases p <;> try (simp only [reduceCtorEq] at hv; done)
    rename_i b o
    simp only [VR] at hpr
    simp only at hv
    split at hv
    case h_2 => cases hv
    rename_i z l hg
    simp only [loadOf, Option.bind_eq_some_iff] at hn
    obtain ⟨ag, hag, hn⟩ := hn
    cases n with
    | none =>
      cases ag with
      | true => simp [Option.bind_eq_some_iff] at hn
      | false =>
        obtain ⟨_, _, _, _, hread⟩ := hs.rel.blk b _ hg
        obtain ⟨u, hu, hvr⟩ := hread o _ hv
        exact ⟨u, by simp [hpr.2, asAddr, loadVar, aggT_inv hag, hu], hvr⟩
    | some n =>
      cases ag with
      | false => simp at hn
      | true =>
        simp only [if_true, Option.bind_eq_some_iff, Option.some.injEq] at hn hv
        obtain ⟨m, hm, rfl⟩ := hn
        obtain ⟨vs, hvs, rfl⟩ := hv
        obtain ⟨us, h1, h2, h3, _⟩ := hs.rel.loadCells (P := P) hg hvs
        exact ⟨.agg us.toArray, by simp [hpr.2, asAddr, loadVar, aggT_inv hag, run_sizeOf hm, h3], by simp only [VR]; exact ⟨_, rfl, h2⟩⟩

theorem ress_rel (hs : St P B w0 ro nt ρ e h a w) : ∀ {l : List ResultVar} {rs : List R} {vs : List V}, resultsOf P nt l = some rs → ress e h rs = some vs →
    ∃ us, (l.mapM (fun | .tmp t => pure (a.tmps.getD t undef) | .cell x t => do loadVar t (← asAddr (a.tmps.getD x undef)) : ResultVar → Sem Value)).run P w = .ok us w ∧ VRs ρ h.nx vs us
  | [], rs, vs, h1, h2 => by
    simp only [resultsOf, Option.some.injEq] at h1
    subst h1
    simp only [ress, Option.some.injEq] at h2
    subst h2
    exact ⟨[], rfl, VRs.nil⟩
  | r :: l, rs, vs, h1, h2 => by
    simp only [resultsOf, Option.bind_eq_some_iff, Option.some.injEq] at h1
    obtain ⟨r', hr', rs', hrs', rfl⟩ := h1
    simp only [ress, Option.bind_eq_some_iff, Option.some.injEq] at h2
    obtain ⟨v, hv, vs', hvs', rfl⟩ := h2
    obtain ⟨u, hu, hvr⟩ := resOf_rel hs hr' hv
    obtain ⟨us, hus, hvsr⟩ := ress_rel hs hrs' hvs'
    refine ⟨u :: us, ?_, VRs.cons hvr hvsr⟩
    simp only [List.mapM_cons, Sem.run_bind]
    rw [hu]
    simp only [Result.andThen_ok, hus, Sem.run_pure]

theorem results_rel (hs : St P B w0 ro nt ρ e h a w) {fn : Func} {rs : List R} {vs : List V} (hr : resultsOf P nt fn.results.toList = some rs) (hv : ress e h rs = some vs) :
    ∃ u, (results fn a.tmps).run P w = .ok u w ∧ VR ρ h.nx (pack vs) u := by
  obtain ⟨us, hus, hvr⟩ := ress_rel hs hr hv
  have hm : ∀ (f : ResultVar → Sem Value), (fn.results.toList.mapM f).run P w = .ok us w → (fn.results.mapM f).run P w = .ok us.toArray w := fun f hf => by
    rw [Array.mapM_eq_mapM_toList]
    simp only [Sem.run_map, hf, Result.andThen_ok]
  refine ⟨if h : us.toArray.size = 1 then us.toArray[0] else .tuple us.toArray, ?_, ?_⟩
  · unfold results
    simp only [Sem.run_bind]
    erw [hm _ hus]
    rfl
  · cases vs with
    | nil =>
      rw [hvr.inv_nil]
      simp only [pack, VR]
      exact ⟨#[], rfl, VRs.nil⟩
    | cons v vs =>
      obtain ⟨u, us', rfl, h1, h2⟩ := hvr.inv
      cases vs with
      | nil =>
        rw [h2.inv_nil]
        exact h1
      | cons v2 vs2 =>
        obtain ⟨u2, us2, rfl, h3, h4⟩ := h2.inv
        simp only [pack, VR]
        exact ⟨(u :: u2 :: us2).toArray, by simp, VRs.cons h1 (VRs.cons h3 h4)⟩

/-- An answer that stands for a function's code. -/
structure OrcOk (P : Program) (f : Nat) (g : Nat → List V → Hp → Option (V × Hp)) : Prop where
  enters : Enters P f
  ext : ∀ {ro args h r h'}, g ro args h = some (r, h') → Ext ro h h'
  calls : ∀ {ro args h r h'}, g ro args h = some (r, h') → ∀ {B w0 ρ w args'}, GOK P ρ h.nx → Rel B w0 ro ρ h w → VRs ρ h.nx args args' →
    Calls P f args'.toArray w (Post B w0 ro ρ h.nx r h')

/-- A function's code. -/
structure CodeOk (P : Program) (f : Nat) (F : F) : Prop where
  code : ∃ fn an, P.funcs[f]? = some fn ∧ (fn.name == "runtime.NumGoroutine") = false ∧ funcOf P an fn = some F

omit [Dr] in
theorem iter_ext {f : Env → Hp → Option (X × Env × Hp)} (hf : ∀ {e h x e' h'}, f e h = some (x, e', h') → Ext ro h h') : ∀ (m : Nat) {e : Env} {h : Hp} {x : X} {e' : Env} {h' : Hp}, iter f m e h = some (x, e', h') → Ext ro h h'
  | 0, e, h, x, e', h', H => by simp [iter] at H
  | m + 1, e, h, x, e', h', H => by
    simp only [iter, Option.bind_eq_some_iff] at H
    obtain ⟨⟨x1, e1, h1⟩, H1, H⟩ := H
    have h2 := hf H1
    cases x1 with
    | nrm => exact h2.trans (iter_ext hf m H)
    | exit i => simp only [Option.some.injEq, Prod.mk.injEq] at H; obtain ⟨_, _, rfl⟩ := H; exact h2
    | ret => simp only [Option.some.injEq, Prod.mk.injEq] at H; obtain ⟨_, _, rfl⟩ := H; exact h2

theorem ops_ext {k : K} (hk : CallOk P k) : ∀ {l : List RO} {e : Env} {h : Hp} {e' : Env} {h' : Hp}, ops k ro l e h = some (e', h') → Ext ro h h'
  | [], e, h, e', h', H => by
    simp only [ops, Option.some.injEq, Prod.mk.injEq] at H
    obtain ⟨_, rfl⟩ := H
    exact Ext.refl _ _
  | r :: l, e, h, e', h', H => by
    simp only [ops, Option.bind_eq_some_iff] at H
    obtain ⟨⟨e1, h1⟩, H1, H⟩ := H
    obtain ⟨v, _, hy⟩ := step1_iff.1 H1
    exact (Yld.ext hk hy).trans (ops_ext hk H)

theorem exec_ext {k : K} (hk : CallOk P k) {n : Nat} : ∀ (c : C) {e : Env} {h : Hp} {x : X} {e' : Env} {h' : Hp}, exec k ro n c e h = some (x, e', h') → Ext ro h h'
  | .skip, e, h, x, e', h', H => by simp only [exec, Option.some.injEq, Prod.mk.injEq] at H; obtain ⟨_, _, rfl⟩ := H; exact Ext.refl _ _
  | .ret, e, h, x, e', h', H => by simp only [exec, Option.some.injEq, Prod.mk.injEq] at H; obtain ⟨_, _, rfl⟩ := H; exact Ext.refl _ _
  | .exit i, e, h, x, e', h', H => by simp only [exec, Option.some.injEq, Prod.mk.injEq] at H; obtain ⟨_, _, rfl⟩ := H; exact Ext.refl _ _
  | .seq p q, e, h, x, e', h', H => by
    simp only [exec, Option.bind_eq_some_iff] at H
    obtain ⟨⟨x1, e1, h1⟩, H1, H⟩ := H
    have h2 := exec_ext hk p H1
    cases x1 with
    | nrm => exact h2.trans (exec_ext hk q H)
    | exit i => simp only [Option.some.injEq, Prod.mk.injEq] at H; obtain ⟨_, _, rfl⟩ := H; exact h2
    | ret => simp only [Option.some.injEq, Prod.mk.injEq] at H; obtain ⟨_, _, rfl⟩ := H; exact h2
  | .cond y p q, e, h, x, e', h', H => by
    simp only [exec, Option.bind_eq_some_iff] at H
    obtain ⟨v, _, H⟩ := H
    split at H
    · exact exec_ext hk p H
    · exact exec_ext hk q H
    · cases H
  | .block id p, e, h, x, e', h', H => by
    simp only [exec, Option.bind_eq_some_iff] at H
    obtain ⟨⟨x1, e1, h1⟩, H1, H⟩ := H
    have h2 := exec_ext hk p H1
    cases x1 with
    | nrm => simp only [Option.some.injEq, Prod.mk.injEq] at H; obtain ⟨_, _, rfl⟩ := H; exact h2
    | exit i =>
      cases hb : Nat.beq i id <;> simp only [hb, cond_true, cond_false, Option.some.injEq, Prod.mk.injEq] at H <;> (obtain ⟨_, _, rfl⟩ := H; exact h2)
    | ret => simp only [Option.some.injEq, Prod.mk.injEq] at H; obtain ⟨_, _, rfl⟩ := H; exact h2
  | .loop p, e, h, x, e', h', H => by
    simp only [exec] at H
    exact iter_ext (fun H => exec_ext hk p H) n H
  | .reg d ks l, e, h, x, e', h', H => by
    simp only [exec, Option.bind_eq_some_iff] at H
    obtain ⟨⟨e1, h1⟩, H1, H⟩ := H
    have h2 := ops_ext hk H1
    cases ks with
    | none => simp only [Option.some.injEq, Prod.mk.injEq] at H; obtain ⟨_, _, rfl⟩ := H; exact h2
    | some ks =>
      simp only [Option.bind_eq_some_iff, Option.some.injEq, Prod.mk.injEq] at H
      obtain ⟨_, _, _, _, rfl⟩ := H
      exact h2

/-- THE PLAIN MACHINE's CALLS ARE THE PROGRAM's. -/
theorem run_sound (hm : P.follows .mixedOrders = true) {fs : Nat → Option D} (htab : ∀ f d, fs f = some d → match d with | .code F => CodeOk P f F | .orc g => OrcOk P f g) : ∀ n, CallOk P (run fs n)
  | 0 => ⟨fun H => by simp [run] at H, fun H => by simp [run] at H, fun H => by simp [run] at H⟩
  | n + 1 => by
    have ih := run_sound hm htab n
    refine ⟨fun {ro f args h r h'} H => ?_, fun {ro f args h r h'} H => ?_, fun {ro f args h r h'} H {B w0 ρ w args'} hg hr ha => ?_⟩
    · simp only [run] at H
      split at H
      · cases H
      · rename_i g hfs
        exact (htab f _ hfs).ext H
      · rename_i F hfs
        split at H
        case isFalse => cases H
        simp only [Option.bind_eq_some_iff] at H
        obtain ⟨⟨x, e, h1⟩, H1, H⟩ := H
        have h2 := exec_ext ih _ H1
        cases x <;> simp only [Option.bind_eq_some_iff, Option.some.injEq, Prod.mk.injEq, reduceCtorEq] at H
        · obtain ⟨_, _, _, rfl⟩ := H; exact h2
        · obtain ⟨_, _, _, rfl⟩ := H; exact h2
    · simp only [run] at H
      split at H
      · cases H
      · rename_i g hfs
        exact (htab f _ hfs).enters
      · rename_i F hfs
        obtain ⟨fn, an, hf, hnm, hF⟩ := (htab f _ hfs).code
        refine ⟨fn, hf, hnm, ?_⟩
        unfold funcOf at hF
        split at hF
        · cases hF
        · rename_i b hb; rw [hb]; rfl
    · simp only [run] at H
      split at H
      · cases H
      · rename_i g hfs
        exact (htab f _ hfs).calls H hg hr ha
      · rename_i F hfs
        obtain ⟨fn, an, hf, hnm, hF⟩ := (htab f _ hfs).code
        unfold funcOf at hF
        split at hF
        · cases hF
        rename_i b hb
        split at hF
        case isFalse => cases hF
        rename_i hnt
        simp only [Option.bind_eq_some_iff, Option.some.injEq] at hF
        obtain ⟨c, hcode, rs, hrs, rfl⟩ := hF
        split at H
        case isFalse => cases H
        rename_i hlen
        simp only at hlen H
        simp only [Option.bind_eq_some_iff] at H
        obtain ⟨⟨x, e, h1⟩, H1, H⟩ := H
        have hal := ha.length
        refine calls_of_wp hf hb ?_
        have hs : St P B w0 ro fn.ntmps ρ (params 0 args) h { tmps := args'.toArray ++ Array.replicate (fn.ntmps - args'.toArray.size) undef, defers := [] } w := by
          refine ⟨hr, fun k v hk => ?_, hg, by simp; omega, rfl⟩
          obtain ⟨_, hk⟩ := params_get hk
          simp only [Nat.sub_zero] at hk
          obtain ⟨u, hu, hvr⟩ := ha.get k v hk
          have hlt : k < args'.length := by
            rcases Nat.lt_or_ge k args'.length with h3 | h3
            · exact h3
            · rw [List.getElem?_eq_none h3] at hu; cases hu
          have : (args'.toArray ++ Array.replicate (fn.ntmps - args'.toArray.size) undef).getD k undef = u := by
            rw [Array.getD_eq_getD_getElem?, Array.getElem?_append_left (by simpa using hlt)]
            simp [hu]
          rw [this]
          exact hvr
        refine exec_sound ih hm b hcode H1 hs fun a' w' ρ' g1 g2 hs' => ?_
        have fin : ∀ {vs : List V}, ress e h1 rs = some vs → r = pack vs → h' = h1 → a'.defers = [] ∧ ∃ v, (results fn a'.tmps).run P w' = .ok v w' ∧ Post B w0 ro ρ h.nx r h' (.returned v) w' := fun {vs} h3 h4 h5 => by
          subst h4; subst h5
          obtain ⟨u, hu, hvr⟩ := results_rel hs' hrs h3
          exact ⟨hs'.defers, u, hu, u, ρ', rfl, g1, g2, hvr, hs'.rel⟩
        cases x <;> simp only [Option.bind_eq_some_iff, Option.some.injEq, Prod.mk.injEq, reduceCtorEq] at H
        · obtain ⟨vs, hvs, h4, h5⟩ := H; exact fin hvs h4.symm h5.symm
        · obtain ⟨vs, hvs, h4, h5⟩ := H; exact fin hvs h4.symm h5.symm
end
end Go.Am
