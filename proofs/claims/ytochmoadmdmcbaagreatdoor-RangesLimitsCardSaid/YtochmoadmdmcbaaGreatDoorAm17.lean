/- Code of the plain machine is what the loaded program's code comes to: regions, branches, blocks, loops; and functions. -/
import Derived.Test.YtochmoadmdmcbaaGreatDoorAm15
namespace Go.Am
set_option linter.unusedSimpArgs false
set_option linter.unusedVariables false
open Go Go.RowKit
variable [Dr]

/-- What is known of a state: slots, heap, variables. -/
structure St (P : Program) (B : Nat) (w0 : World) (ro nt : Nat) (ρ : Nat → Pl) (e : Env) (h : Hp) (a : Act) (w : World) : Prop where
  rel : Rel B w0 ro ρ h w
  env : EnvR ρ h.nx e a.tmps
  glob : GOK P ρ h.nx
  size : a.tmps.size = nt
  defers : a.defers = []

section
variable {P : Program} {k : K} {B : Nat} {w0 w : World} {ro nt : Nat} {ρ : Nat → Pl} {e : Env} {h h' : Hp} {v : V} {a : Act}

theorem St.wf (hs : St P B w0 ro nt ρ e h a w) : WF h := hs.rel.lt

theorem St.eq {e' : Env} (hs : St P B w0 ro nt ρ e h a w) (he : EnvEq e e') : St P B w0 ro nt ρ e' h a w :=
  ⟨hs.rel, fun n v hv => hs.env n v (by rw [he n]; exact hv), hs.glob, hs.size, hs.defers⟩

theorem St.drew (hs : St P B w0 ro nt ρ e h a w) : St P B w0 ro nt ρ e h a { w with drawn := w.drawn + 1 } :=
  ⟨hs.rel.drew, hs.env, hs.glob, hs.size, hs.defers⟩

theorem yielded_rel (hs : St P B w0 ro nt ρ e h a w) {all : List Oper} {g : Option (Nat × Bool)} {g' : Option (Nat × Bool)} (hg : guardOf all g = some g') {o : Oper} (hog : o.guard = g) {b : Bool} (hw : wanted e g' = some b) :
    Region.wanted o (yielded all.toArray a.tmps) = b := by
  cases g with
  | none =>
    simp only [guardOf, Option.some.injEq] at hg
    subst hg
    simp only [wanted, Option.some.injEq] at hw
    subst hw
    simp [Region.wanted, hog]
  | some p =>
    obtain ⟨j, want⟩ := p
    simp only [guardOf] at hg
    split at hg
    case h_2 => cases hg
    rename_i oj hoj
    split at hg
    case h_2 => cases hg
    rename_i d hd
    simp only [Option.some.injEq] at hg
    subst hg
    simp only [wanted, Option.bind_eq_some_iff] at hw
    obtain ⟨x, hx, hw⟩ := hw
    have hr := hs.env d x hx
    have hy : yielded all.toArray a.tmps j = match a.tmps[d]? with | some (.bool b) => some b | _ => none := by
      simp [yielded, hoj, hd]
      rfl
    simp only [Region.wanted, hog, hy]
    split at hw
    · rename_i c
      simp only [Option.some.injEq] at hw
      subst hw
      simp only [VR] at hr
      have : a.tmps[d]? = some (.bool c) := by
        rw [Array.getD_eq_getD_getElem?] at hr
        cases hq : a.tmps[d]? with
        | none => rw [hq] at hr; simp [undef] at hr
        | some u => rw [hq] at hr; simp at hr; rw [hr]
      rw [this]
      cases c <;> cases want <;> rfl
    · simp only [Option.some.injEq] at hw
      subst hw
      simp only [VR] at hr
      obtain ⟨l', hl, hnil⟩ := hr
      have : (match a.tmps[d]? with | some (.bool b) => some b | _ => none) = none := by
        rw [Array.getD_eq_getD_getElem?] at hl
        cases hq : a.tmps[d]? with
        | none => rfl
        | some u => rw [hq] at hl; simp at hl; rw [hl]
      rw [this]
      rfl
    · cases hw

omit [Dr] in
theorem roOf_inv {an : An} {id i : Nat} {all : List Oper} {o : Oper} {r : RO} (H : roOf P an nt id all i o = some r) :
    guardOf all o.guard = some r.g ∧ opOf P (modeOf id i an.mode) o.type o.op = some r.o ∧ r.dst = o.dst ∧ dstOk nt o.dst = true := by
  simp only [roOf, Option.bind_eq_some_iff] at H
  obtain ⟨g, hg, x, hx, H⟩ := H
  obtain ⟨hd, rfl⟩ := ite_some H
  exact ⟨hg, hx, rfl, hd⟩

/-- One operation of a region. -/
theorem yld_sound (hk : CallOk P k) (hs : St P B w0 ro nt ρ e h a w) {an : An} {id i : Nat} {all : List Oper} {o : Oper} {r : RO} (hro : roOf P an nt id all i o = some r) (hy : Yld k ro r e h v h') {K : Act → World → Prop} {Q : Exit → Act → World → Prop}
    (hK : ∀ a' w' ρ', (∃ u, a' = a.put o.dst u) → (∀ b, b < h.nx → ρ' b = ρ b) → h.nx ≤ h'.nx → St P B w0 ro nt ρ' (setO e r.dst v) h' a' w' → K a' w') :
    if Region.wanted o (yielded all.toArray a.tmps) then o.wp P a w K Q else K (a.put o.dst undef) w := by
  obtain ⟨hg, hx, hdst, hd⟩ := roOf_inv hro
  have hd' : dstOk a.tmps.size o.dst = true := by rw [hs.size]; exact hd
  rcases hy with ⟨hw, ho⟩ | ⟨hw, rfl, rfl⟩
  · rw [yielded_rel hs hg rfl hw, if_pos rfl]
    refine opX_sound hk hs.rel hs.env hs.glob hx hd' ho fun a' w' ρ' h0 h1 h2 h3 h4 h5 h6 => hK a' w' ρ' h0 h3 h4 ⟨h6, by rw [hdst]; exact h5, hs.glob.mono h3 h4, by rw [h1]; exact hs.size, by rw [h2]; exact hs.defers⟩
  · rw [yielded_rel hs hg rfl hw, if_neg (by simp)]
    refine hK _ _ ρ ⟨_, rfl⟩ (fun _ _ => rfl) (Nat.le_refl _) ⟨hs.rel, ?_, hs.glob, by rw [put_size]; exact hs.size, by rw [put_defers']; exact hs.defers⟩
    rw [hdst]
    exact EnvR.put hs.env (by simp only [VR, undef]; exact ⟨#[], rfl, VRs.nil⟩) hd'

/-- A region in the text's order. -/
theorem ops_sound (hk : CallOk P k) {an : An} {id : Nat} {all : List Oper} {Q : Exit → Act → World → Prop} : ∀ {l : List Oper} {i : Nat} {rs : List RO} {e e' : Env} {h h' : Hp} {ρ : Nat → Pl} {a : Act} {w : World}, regOf P an nt id all i l = some rs → ops k ro rs e h = some (e', h') → St P B w0 ro nt ρ e h a w →
    (∀ a' w' ρ', (∀ b, b < h.nx → ρ' b = ρ b) → h.nx ≤ h'.nx → St P B w0 ro nt ρ' e' h' a' w' → Q .normal a' w') → wpList P all.toArray Q l a w
  | [], i, rs, e, e', h, h', ρ, a, w, hrs, ho, hs, hQ => by
    simp only [regOf, Option.some.injEq] at hrs
    subst hrs
    simp only [ops, Option.some.injEq, Prod.mk.injEq] at ho
    obtain ⟨rfl, rfl⟩ := ho
    exact hQ a w ρ (fun _ _ => rfl) (Nat.le_refl _) hs
  | o :: l, i, rs, e, e', h, h', ρ, a, w, hrs, ho, hs, hQ => by
    simp only [regOf, Option.bind_eq_some_iff, Option.some.injEq] at hrs
    obtain ⟨r, hr, rs', hrs', rfl⟩ := hrs
    simp only [ops, Option.bind_eq_some_iff] at ho
    obtain ⟨⟨e1, h1⟩, hst, ho⟩ := ho
    obtain ⟨v, rfl, hy⟩ := step1_iff.1 hst
    simp only at ho
    have := yld_sound hk hs hr hy (K := wpList P all.toArray Q l) (Q := Q) fun a' w' ρ' _ h3 h4 hs' =>
      ops_sound hk hrs' ho hs' fun a2 w2 ρ2 h5 h6 hs2 => hQ a2 w2 ρ2 (fun b hb => by rw [h5 b (by omega), h3 b hb]) (by omega) hs2
    unfold wpList
    split
    · rename_i hw; rw [if_pos hw] at this; exact .inl this
    · rename_i hw; rw [if_neg hw] at this; exact this

/-! a region that draws -/

omit [Dr] in
theorem nodupB_cons {x : Nat} {r : List Nat} (h : nodupB (x :: r) = true) : x ∉ r ∧ nodupB r = true := by
  simp only [nodupB, Bool.and_eq_true, Bool.not_eq_true'] at h
  refine ⟨fun hm => ?_, h.2⟩
  have : r.any (Nat.beq x) = true := List.any_eq_true.2 ⟨x, hm, by simp⟩
  rw [this] at h
  cases h.1

omit [Dr] in
theorem regAt_spec {an : An} {id : Nat} {all : List Oper} : ∀ {xs : List Nat} {items : List (Nat × RO)}, regAt P an nt id all xs = some items →
    items.map (·.1) = xs ∧ ∀ p ∈ items, ∃ o, all[p.1]? = some o ∧ roOf P an nt id all p.1 o = some p.2
  | [], items, H => by
    simp only [regAt, Option.some.injEq] at H
    subst H
    exact ⟨rfl, fun p hp => by cases hp⟩
  | i :: xs, items, H => by
    simp only [regAt] at H
    split at H
    case h_2 => cases H
    rename_i o ho
    simp only [Option.bind_eq_some_iff, Option.some.injEq] at H
    obtain ⟨x, hx, l, hl, rfl⟩ := H
    obtain ⟨h1, h2⟩ := regAt_spec hl
    refine ⟨by simp [h1], fun p hp => ?_⟩
    rcases List.mem_cons.1 hp with rfl | hp
    · exact ⟨o, ho, hx⟩
    · exact h2 p hp

/-- Pairs of a list whose order is kept. -/
def Pairs (R : Nat × RO → Nat × RO → Prop) : List (Nat × RO) → Prop
  | [] => True
  | p :: r => (∀ q ∈ r, R p q) ∧ Pairs R r

omit [Dr] in
theorem Pairs.of_b {all : List Oper} : ∀ {l : List (Nat × RO)}, pairsOk (cloGo [] all) l = true → Pairs (fun p q => pairOk (cloGo [] all) p q = true) l
  | [], _ => trivial
  | p :: r, h => by
    simp only [pairsOk, Bool.and_eq_true, List.all_eq_true] at h
    exact ⟨h.1, Pairs.of_b h.2⟩
omit [Dr] in
theorem Pairs.mid {R : Nat × RO → Nat × RO → Prop} {q : Nat × RO} : ∀ {l r : List (Nat × RO)}, Pairs R (l ++ q :: r) → (∀ p ∈ l, R p q) ∧ Pairs R (l ++ r)
  | [], r, h => ⟨fun p hp => (by cases hp), h.2⟩
  | p :: l, r, h => by
    obtain ⟨h1, h2⟩ := Pairs.mid h.2
    refine ⟨fun p' hp => ?_, fun q' hq => ?_, h2⟩
    · rcases List.mem_cons.1 hp with rfl | hp
      · exact h.1 q (by simp)
      · exact h1 p' hp
    · exact h.1 q' (by
        rcases List.mem_append.1 hq with hq | hq
        · exact List.mem_append.2 (.inl hq)
        · exact List.mem_append.2 (.inr (List.mem_cons_of_mem _ hq)))

omit [Dr] in
theorem edgesBack_spec : ∀ {l : List Oper} {i j : Nat} {o : Oper}, edgesBack i l = true → l[j]? = some o → ∀ e ∈ o.after, Region.binds .any e = true → e.on < i + j
  | [], i, j, o, _, hj => by simp at hj
  | x :: l, i, j, o, h, hj => by
    simp only [edgesBack, Bool.and_eq_true, List.all_eq_true] at h
    intro e he hb
    cases j with
    | zero =>
      simp at hj
      subst hj
      have := h.1 e (by simpa using he)
      simp only [hb, Bool.not_true, Bool.false_or] at this
      simpa [Nat.blt_eq] using this
    | succ j =>
      have := edgesBack_spec h.2 (by simpa using hj) e he hb
      omega

/-- One operation stands behind another. -/
inductive Reach (all : List Oper) : Nat → Nat → Prop
  | one {i : Nat} {o : Oper} {ed : Edge} : all[i]? = some o → ed ∈ o.after → Region.binds .any ed = true → Reach all i ed.on
  | more {i : Nat} {o : Oper} {ed : Edge} {p : Nat} : all[i]? = some o → ed ∈ o.after → Region.binds .any ed = true → Reach all ed.on p → Reach all i p

omit [Dr] in
theorem insN_mem {x p : Nat} {l : List Nat} (h : p ∈ insN x l) : p = x ∨ p ∈ l := by
  unfold insN at h
  cases hx : l.any (Nat.beq x) with
  | true => rw [hx] at h; exact .inr h
  | false => rw [hx] at h; exact List.mem_cons.1 h

omit [Dr] in
theorem insNs_mem {p : Nat} {r : List Nat} : ∀ {m : List Nat}, p ∈ m.foldr insN r → p ∈ m ∨ p ∈ r
  | [], h => .inr h
  | x :: m, h => by
    rcases insN_mem h with rfl | h
    · exact .inl (List.mem_cons_self ..)
    · rcases insNs_mem h with h | h
      · exact .inl (List.mem_cons_of_mem _ h)
      · exact .inr h

omit [Dr] in
theorem cloEs_spec {all : List Oper} {acc : List (List Nat)} (ha : ∀ i l, acc[i]? = some l → ∀ p ∈ l, Reach all i p) {i : Nat} {o : Oper} (ho : all[i]? = some o) : ∀ {es : List Edge}, (∀ e ∈ es, e ∈ o.after) → ∀ p ∈ cloEs acc es, Reach all i p
  | [], _, p, hp => by cases hp
  | e :: es, he, p, hp => by
    unfold cloEs at hp
    cases hb : Region.binds .any e with
    | false => rw [hb] at hp; exact cloEs_spec ha ho (fun e' h' => he e' (List.mem_cons_of_mem _ h')) p hp
    | true =>
      rw [hb] at hp
      rcases insN_mem hp with rfl | hp
      · exact .one ho (he e (List.mem_cons_self ..)) hb
      · rcases insNs_mem hp with hp | hp
        · cases hq : acc[e.on]? with
          | none => rw [hq] at hp; cases hp
          | some l => rw [hq] at hp; exact .more ho (he e (List.mem_cons_self ..)) hb (ha _ l hq p hp)
        · exact cloEs_spec ha ho (fun e' h' => he e' (List.mem_cons_of_mem _ h')) p hp

omit [Dr] in
theorem cloGo_spec {all : List Oper} : ∀ {r done : List Oper} {acc : List (List Nat)}, all = done ++ r → acc.length = done.length → (∀ i l, acc[i]? = some l → ∀ p ∈ l, Reach all i p) → ∀ i l, (cloGo acc r)[i]? = some l → ∀ p ∈ l, Reach all i p
  | [], _, _, _, _, ha => ha
  | o :: r, done, acc, hd, hl, ha => by
    unfold cloGo
    refine cloGo_spec (r := r) (done := done ++ [o]) (by simp [hd]) (by simp [hl]) fun i l hi p hp => ?_
    rcases Nat.lt_trichotomy i acc.length with h1 | h1 | h1
    · rw [List.getElem?_append_left h1] at hi
      exact ha i l hi p hp
    · subst h1
      simp only [List.getElem?_append_right (Nat.le_refl _), Nat.sub_self, List.getElem?_cons_zero, Option.some.injEq] at hi
      subst hi
      exact cloEs_spec ha (o := o) (by rw [hd, hl]; simp) (fun e he => by simpa using he) p hp
    · rw [List.getElem?_eq_none (by simp; omega)] at hi
      cases hi

omit [Dr] in
theorem reach_listed {all : List Oper} {listed : Array Bool} (hcl : ∀ i o, listed.getD i true = true → all[i]? = some o → ∀ ed ∈ o.after, Region.binds .any ed = true → listed.getD ed.on true = true) {i p : Nat} (h : Reach all i p) : listed.getD i true = true → listed.getD p true = true := by
  induction h with
  | one ho he hb => exact fun hi => hcl _ _ hi ho _ he hb
  | more ho he hb _ ih => exact fun hi => ih (hcl _ _ hi ho _ he hb)

omit [Dr] in
theorem reach_first {all : List Oper} {listed : Array Bool} {i p : Nat} {o : Oper} (ho : all[i]? = some o) (hed : ∀ ed ∈ o.after, Region.binds .any ed = true → listed.getD ed.on true = true) (hcl : ∀ i o, listed.getD i true = true → all[i]? = some o → ∀ ed ∈ o.after, Region.binds .any ed = true → listed.getD ed.on true = true) (h : Reach all i p) : listed.getD p true = true := by
  induction h with
  | one ho2 he2 hb2 => rw [ho] at ho2; cases ho2; exact hed _ he2 hb2
  | more ho2 he2 hb2 hr2 _ => rw [ho] at ho2; cases ho2; exact reach_listed hcl hr2 (hed _ he2 hb2)

theorem draw_sound (hk : CallOk P k) {an : An} {id : Nat} {all : List Oper} {Q : Exit → Act → World → Prop} (heb : edgesBack 0 all = true) {e' : Env} {h' : Hp} {ρ0 : Nat → Pl} {nx0 : Nat}
    (hQ : ∀ a' w' ρ', (∀ b, b < nx0 → ρ' b = ρ0 b) → nx0 ≤ h'.nx → St P B w0 ro nt ρ' e' h' a' w' → Q .normal a' w') :
    ∀ (fuel : Nat) (rem : List (Nat × RO)) (listed : Array Bool) (e : Env) (h : Hp) (ρ : Nat → Pl) (a : Act) (w : World) (e2 : Env), rem.length ≤ fuel →
      Pairs (fun p q => pairOk (cloGo [] all) p q = true) rem → nodupB (rem.map (·.1)) = true → (∀ p ∈ rem, ∃ o, all[p.1]? = some o ∧ roOf P an nt id all p.1 o = some p.2) →
      listed.size = all.length → (∀ i, i < all.length → (listed.getD i true = false ↔ i ∈ rem.map (·.1))) →
      (∀ i o, listed.getD i true = true → all[i]? = some o → ∀ ed ∈ o.after, Region.binds .any ed = true → listed.getD ed.on true = true) →
      (∀ b, b < nx0 → ρ b = ρ0 b) → nx0 ≤ h.nx → St P B w0 ro nt ρ e h a w → ops k ro (rem.map (·.2)) e h = some (e2, h') → EnvEq e2 e' →
      wpAny P .any all.toArray Q fuel listed a w := by
  -- nothing is ready only where nothing is left
  have ready : ∀ (rem : List (Nat × RO)) (listed : Array Bool), (∀ p ∈ rem, p.1 < all.length) → listed.size = all.length → (∀ i, i < all.length → (listed.getD i true = false ↔ i ∈ rem.map (·.1))) → Region.ready .any all.toArray listed = [] → rem = [] := by
    intro rem listed hlt hsz hli hrd
    cases rem with
    | nil => rfl
    | cons p rem =>
      exfalso
      -- the least of what is left
      obtain ⟨m, hm, hmin⟩ : ∃ m, m ∈ (p :: rem).map (·.1) ∧ ∀ j ∈ (p :: rem).map (·.1), m ≤ j := by
        have key : ∀ (l : List Nat), l ≠ [] → ∃ m, m ∈ l ∧ ∀ j ∈ l, m ≤ j := by
          intro l
          induction l with
          | nil => intro h; exact absurd rfl h
          | cons x l ih =>
            intro _
            cases l with
            | nil => exact ⟨x, by simp, fun j hj => by simp at hj; omega⟩
            | cons y l =>
              obtain ⟨m, hm, hmin⟩ := ih (by simp)
              rcases Nat.le_total x m with hx | hx
              · exact ⟨x, by simp, fun j hj => by
                  rcases List.mem_cons.1 hj with rfl | hj
                  · exact Nat.le_refl _
                  · exact Nat.le_trans hx (hmin j hj)⟩
              · exact ⟨m, List.mem_cons_of_mem _ hm, fun j hj => by
                  rcases List.mem_cons.1 hj with rfl | hj
                  · exact hx
                  · exact hmin j hj⟩
        exact key _ (by simp)
      have hml : m < all.length := by
        obtain ⟨q, hq, rfl⟩ := List.mem_map.1 hm
        exact hlt q hq
      obtain ⟨o, ho⟩ : ∃ o, all[m]? = some o := ⟨all[m], List.getElem?_eq_getElem hml⟩
      have hmem : m ∈ Region.ready .any all.toArray listed := by
        unfold Region.ready
        refine List.mem_filter.2 ⟨List.mem_range.2 (by simpa using hml), ?_⟩
        have h1 := (hli m hml).2 hm
        simp only [h1, Bool.not_false, Bool.true_and, List.getElem?_toArray, ho, Option.map_some, Option.getD_some]
        rw [← Array.all_toList, List.all_eq_true]
        intro ed hed
        cases hb : Region.binds .any ed with
        | false => rfl
        | true =>
          have hlt' := edgesBack_spec heb ho ed (by simpa using hed) hb
          simp only [Nat.zero_add] at hlt'
          simp only [Bool.not_true, Bool.false_or]
          have h2 := hli ed.on (by omega)
          have h3 : ¬ (listed.getD ed.on true = false) := fun q => by
            have := hmin _ (h2.1 q); omega
          have h5 : ed.on < listed.size := by omega
          simp only [Array.getD_eq_getD_getElem?, Array.getElem?_eq_getElem h5, Option.getD_some] at h3 ⊢
          simpa using h3
      rw [hrd] at hmem
      cases hmem
  have none_left : ∀ (listed : Array Bool), (∀ i, i < all.length → (listed.getD i true = false ↔ i ∈ ([] : List (Nat × RO)).map (·.1))) → Region.ready .any all.toArray listed = [] := by
    intro listed hli
    unfold Region.ready
    refine List.filter_eq_nil_iff.2 fun i hi => ?_
    have hil : i < all.length := by simpa using List.mem_range.1 hi
    have h1 : ¬ (listed.getD i true = false) := fun q => by
      have := (hli i hil).1 q
      simp at this
    have h2 : listed.getD i true = true := by simpa using h1
    simp [h2]
  intro fuel
  induction fuel with
  | zero =>
    intro rem listed e h ρ a w e2 hlen hpr hnd hro hsz hli hcl hρ hnx hs ho he
    have hrem : rem = [] := List.eq_nil_of_length_eq_zero (by omega)
    subst hrem
    simp only [List.map_nil, ops, Option.some.injEq, Prod.mk.injEq] at ho
    obtain ⟨rfl, rfl⟩ := ho
    exact ⟨none_left listed hli, hQ a w ρ hρ hnx (hs.eq he)⟩
  | succ fuel ih =>
    intro rem listed e h ρ a w e2 hlen hpr hnd hro hsz hli hcl hρ hnx hs ho he
    have hlt : ∀ p ∈ rem, p.1 < all.length := fun p hp => by
      obtain ⟨o, ho, _⟩ := hro p hp
      rcases Nat.lt_or_ge p.1 all.length with h1 | h1
      · exact h1
      · rw [List.getElem?_eq_none h1] at ho; cases ho
    refine ⟨fun hrd => ?_, fun i hi => ?_⟩
    · have hrem := ready rem listed hlt hsz hli hrd
      subst hrem
      simp only [List.map_nil, ops, Option.some.injEq, Prod.mk.injEq] at ho
      obtain ⟨rfl, rfl⟩ := ho
      exact hQ a w ρ hρ hnx (hs.eq he)
    · unfold Region.ready at hi
      obtain ⟨hi1, hi2⟩ := List.mem_filter.1 hi
      have hil : i < all.length := by simpa using List.mem_range.1 hi1
      simp only [Bool.and_eq_true, Bool.not_eq_true', List.getElem?_toArray] at hi2
      obtain ⟨hun, hedges⟩ := hi2
      have him := (hli i hil).1 hun
      obtain ⟨⟨i', x⟩, hmem, rfl⟩ := List.mem_map.1 him
      simp only at hil hun hedges him
      obtain ⟨l, r, rfl⟩ := List.append_of_mem hmem
      obtain ⟨o, ho1, hro1⟩ := hro (i', x) hmem
      simp only at ho1 hro1
      obtain ⟨hp1, hp2⟩ := Pairs.mid hpr
      -- all that it stands behind has been told
      have hed : ∀ ed ∈ o.after, Region.binds .any ed = true → listed.getD ed.on true = true := fun ed hed hb => by
        have hon := edgesBack_spec heb ho1 ed hed hb
        simp only [ho1, Option.map_some, Option.getD_some] at hedges
        rw [← Array.all_toList, List.all_eq_true] at hedges
        have h2 := hedges ed (by simpa using hed)
        simp only [hb, Bool.not_true, Bool.false_or] at h2
        have h5 : ed.on < listed.size := by omega
        simp only [Array.getD_eq_getD_getElem?, Array.getElem?_eq_getElem h5, Option.getD_some] at h2 ⊢
        exact h2
      -- what stands ahead may be passed
      have hpass : ∀ y ∈ l.map (·.2), mayPass y x = true := fun y hy => by
        obtain ⟨p, hp, rfl⟩ := List.mem_map.1 hy
        have h1 := hp1 p hp
        simp only [pairOk, Bool.or_eq_true] at h1
        rcases h1 with h1 | h1
        · exfalso
          cases hc : (cloGo [] all)[i']? with
          | none => rw [hc] at h1; cases h1
          | some cl =>
            rw [hc] at h1
            simp only [List.any_eq_true] at h1
            obtain ⟨q, hq, hqe⟩ := h1
            have hqe' : p.1 = q := Nat.eq_of_beq_eq_true hqe
            subst hqe'
            have hr : Reach all i' p.1 := cloGo_spec (done := []) (acc := []) rfl rfl (fun i l hi => by simp at hi) i' cl hc _ hq
            have hlst : listed.getD p.1 true = true := reach_first ho1 hed hcl hr
            have hpl := hlt p (by simp [hp])
            have h3 := (hli p.1 hpl).2 (List.mem_map.2 ⟨p, List.mem_append.2 (.inl hp), rfl⟩)
            rw [hlst] at h3
            cases h3
        · exact h1
      simp only [List.map_append, List.map_cons] at ho
      obtain ⟨v, h1, e3, hy, hrest, heq⟩ := front hk hs.wf hpass ho
      rw [← List.map_append] at hrest
      have hnd' : nodupB ((l ++ r).map (·.1)) = true ∧ i' ∉ (l ++ r).map (·.1) := by
        clear hrest hy hpass hp1 hp2 hmem him hun hedges hpr hro hli hlt ho hlen hi hi1
        induction l with
        | nil =>
          simp only [List.nil_append, List.map_cons] at hnd
          exact ⟨(nodupB_cons hnd).2, (nodupB_cons hnd).1⟩
        | cons p l ih2 =>
          simp only [List.cons_append, List.map_cons] at hnd
          obtain ⟨h4, h5⟩ := nodupB_cons hnd
          obtain ⟨h6, h7⟩ := ih2 h5
          refine ⟨?_, ?_⟩
          · simp only [List.cons_append, List.map_cons, nodupB, Bool.and_eq_true, Bool.not_eq_true']
            refine ⟨?_, h6⟩
            cases hq : ((l ++ r).map (·.1)).any (Nat.beq p.1) with
            | false => rfl
            | true =>
              exfalso
              obtain ⟨y, hy, hye⟩ := List.any_eq_true.1 hq
              have : p.1 = y := Nat.eq_of_beq_eq_true hye
              subst this
              exact h4 (by
                rw [List.map_append] at hy ⊢
                rcases List.mem_append.1 hy with hy | hy
                · exact List.mem_append.2 (.inl hy)
                · exact List.mem_append.2 (.inr (by simp only [List.map_cons]; exact List.mem_cons_of_mem _ hy)))
          · intro hq
            simp only [List.cons_append, List.map_cons] at hq
            rcases List.mem_cons.1 hq with hq | hq
            · exact h4 (by rw [← hq, List.map_append]; exact List.mem_append.2 (.inr (by simp)))
            · exact h7 hq
      have hgo := yld_sound hk hs hro1 hy (K := wpAny P .any all.toArray Q fuel (listed.setIfInBounds i' true)) (Q := Q) fun a' w' ρ' _ h3 h4 hs' =>
        ih (l ++ r) (listed.setIfInBounds i' true) _ _ ρ' a' w' e3 (by simp only [List.length_append, List.length_cons] at hlen ⊢; omega) hp2 hnd'.1
          (fun p hp => hro p (by
            rcases List.mem_append.1 hp with hp | hp
            · exact List.mem_append.2 (.inl hp)
            · exact List.mem_append.2 (.inr (List.mem_cons_of_mem _ hp))))
          (by simpa using hsz)
          (fun j hj => by
            have hlj := hli j hj
            by_cases hji : i' = j
            · subst hji
              have : i' < listed.size := by omega
              simp only [Array.getD_eq_getD_getElem?, Array.getElem?_setIfInBounds, this, if_true, Option.getD_some]
              exact ⟨fun q => (by cases q), fun q => absurd q hnd'.2⟩
            · rw [Array.getD_eq_getD_getElem?, Array.getElem?_setIfInBounds_ne hji, ← Array.getD_eq_getD_getElem?, hlj]
              simp only [List.map_append, List.map_cons, List.mem_append, List.mem_cons]
              exact ⟨fun q => by
                rcases q with q | q | q
                · exact .inl q
                · exact absurd q.symm hji
                · exact .inr q, fun q => by
                rcases q with q | q
                · exact .inl q
                · exact .inr (.inr q)⟩)
          (fun j o2 hj ho2 ed hed2 hb2 => by
            have mono : ∀ m, listed.getD m true = true → (listed.setIfInBounds i' true).getD m true = true := fun m hm => by
              by_cases hmi : i' = m
              · subst hmi
                have : i' < listed.size := by omega
                simp only [Array.getD_eq_getD_getElem?, Array.getElem?_setIfInBounds, this, if_true, Option.getD_some]
              · rw [Array.getD_eq_getD_getElem?, Array.getElem?_setIfInBounds_ne hmi, ← Array.getD_eq_getD_getElem?]
                exact hm
            by_cases hji : i' = j
            · subst hji
              rw [ho1] at ho2
              cases ho2
              exact mono _ (hed ed hed2 hb2)
            · rw [Array.getD_eq_getD_getElem?, Array.getElem?_setIfInBounds_ne hji, ← Array.getD_eq_getD_getElem?] at hj
              exact mono _ (hcl j o2 hj ho2 ed hed2 hb2))
          (fun b hb => by rw [h3 b (by omega), hρ b hb]) (by omega) hs' hrest (heq.symm.trans he)
      unfold wpOp
      simp only [List.getElem?_toArray, ho1]
      split
      · rename_i hw; rw [if_pos hw] at hgo; exact .inl hgo
      · rename_i hw; rw [if_neg hw] at hgo; exact hgo

/-! a row that is made ahead of its turn -/

theorem Rel.addAt (hr : Rel B w0 ro ρ h w) (p : Pl) (hp : B ≤ p.blk) (hp' : p.blk < w.heap.size) (hne : ∀ b x, h.get b = some x → ro ≤ b → (ρ b).blk ≠ p.blk) (x : Blk)
    (hx : BR ρ h.nx w True p x) : Rel B w0 ro (upd ρ h.nx p) (h.new x) w where
  bel := hr.bel
  hB := hr.hB
  hro := Nat.le_succ_of_le hr.hro
  lt := fun b y hg => by
    by_cases e : h.nx = b
    · subst e; exact Nat.lt_succ_self _
    · rw [Hp.get_new_ne e] at hg; exact Nat.lt_succ_of_lt (hr.lt b y hg)
  pos := fun b y hg => by
    by_cases e : h.nx = b
    · subst e
      rw [upd_same]
      exact ⟨hp', fun hlt => absurd hlt (Nat.not_lt.2 hr.hro), fun _ => hp⟩
    · rw [Hp.get_new_ne e] at hg
      rw [upd_ne (fun q => e q.symm)]
      exact hr.pos b y hg
  blk := fun b y hg => by
    by_cases e : h.nx = b
    · subst e
      rw [Hp.get_new_same] at hg
      cases hg
      rw [upd_same]
      have := hx.mono (ρ' := upd ρ h.nx p) (nx' := h.nx + 1) upd_lt (Nat.le_succ _) rfl
      cases x with
      | cells z l => exact ⟨this.1, this.2.1, this.2.2.1, fun _ => this.2.2.2.1 trivial, this.2.2.2.2⟩
      | map l => exact this
    · rw [Hp.get_new_ne e] at hg
      rw [upd_ne (fun q => e q.symm)]
      exact (hr.blk b y hg).mono upd_lt (Nat.le_succ _) rfl
  inj := fun b c x1 y1 hb1 hc1 hrb hrc hbc => by
    by_cases eb : h.nx = b
    · by_cases ec : h.nx = c
      · exact absurd (eb.symm.trans ec) hbc
      · subst eb
        rw [Hp.get_new_ne ec] at hc1
        rw [upd_same, upd_ne (fun q => ec q.symm)]
        exact fun q => hne c y1 hc1 hrc q.symm
    · rw [Hp.get_new_ne eb] at hb1
      by_cases ec : h.nx = c
      · subst ec
        rw [upd_same, upd_ne (fun q => eb q.symm)]
        exact hne b x1 hb1 hrb
      · rw [Hp.get_new_ne ec] at hc1
        rw [upd_ne (fun q => eb q.symm), upd_ne (fun q => ec q.symm)]
        exact hr.inj b c x1 y1 hb1 hc1 hrb hrc hbc
  ok := hr.ok

omit [Dr] in
theorem BR.ground {ρ ρ' : Nat → Pl} {nx nx' : Nat} {w : World} {own : Prop} {p : Pl} {z : Nat} {cs : List V} (hb : BR ρ nx w own p (.cells z cs)) (ho : own) (hg : ∀ y ∈ cs, g0 y = true) : BR ρ' nx' w True p (.cells z cs) :=
  ⟨hb.1, hb.2.1, hb.2.2.1, fun _ => hb.2.2.2.1 ho, fun i v hv => by
    obtain ⟨u, hu, hr⟩ := hb.2.2.2.2 i v hv
    exact ⟨u, hu, g0_rel v u (hg v (List.mem_of_getElem? hv)) hr⟩⟩

omit [Dr] in
theorem zeros_all {z : List V} (hz : z.all g0 = true) : ∀ (n : Nat), ∀ y ∈ zeros z n, g0 y = true
  | 0, y, hy => by simp [zeros] at hy
  | n + 1, y, hy => by
    simp only [zeros, List.mem_append] at hy
    rcases hy with hy | hy
    · exact List.all_eq_true.1 hz y hy
    · exact zeros_all hz n y hy

/-- What names a new block means by the block's place alone. -/
def ByPl (vq : Nat → V) : Prop := ∀ (ρ ρ' : Nat → Pl) (nx nx' i i' : Nat) (u : Value), ρ i = ρ' i' → i' < nx' → VR ρ nx (vq i) u → VR ρ' nx' (vq i') u

omit [Dr] in
/-- A row of plain cells is made. -/
theorem mk_inv {x : O} (hm : isMkO x = true) (H : op1 ro e h x = some (v, h')) :
    ∃ (vq : Nat → V) (z : Nat) (cs : List V), ByPl vq ∧ (∀ y ∈ cs, g0 y = true) ∧ ∀ ro2 h2, op1 ro2 e h2 x = some (vq h2.nx, h2.new (.cells z cs)) := by
  cases x <;> simp only [isMkO, reduceCtorEq] at hm
  case alloc z =>
    refine ⟨fun i => .ptr i 0, 0, z, fun ρ ρ' nx nx' i i' u hi hlt hr => ?_, fun y hy => List.all_eq_true.1 hm y hy, fun ro2 h2 => rfl⟩
    simp only [VR] at hr ⊢
    rw [← hi]
    exact ⟨hlt, hr.2⟩
  case mkSl sz by_ z a b =>
    simp only [op1, Option.bind_eq_some_iff] at H
    obtain ⟨p, hp, q, hq, H⟩ := H
    split at H
    · rename_i kl l kc c
      split at H
      · rename_i hc
        refine ⟨fun i => .sl i 0 l.toNat (c.toNat + 1), sz, zeros z c.toNat, fun ρ ρ' nx nx' i i' u hi hlt hr => ?_, zeros_all hm _, fun ro2 h2 => by simp [op1, hp, hq, hc]⟩
        simp only [VR] at hr ⊢
        rw [← hi]
        exact ⟨hlt, hr.2⟩
      · cases H
    · cases H

omit [Dr] in
theorem isMk_spec {r : RO} (h : isMk r = true) : r.g = none ∧ isMkO r.o = true := by
  unfold isMk at h
  simp only [Bool.and_eq_true] at h
  refine ⟨?_, h.2⟩
  have := h.1
  split at this
  · assumption
  · cases this

omit [Dr] in
theorem mk_yld {r : RO} (hm : isMk r = true) (hy : Yld k ro r e h v h') : op1 ro e h r.o = some (v, h') := by
  obtain ⟨hg, hmo⟩ := isMk_spec hm
  rcases hy with ⟨_, ho⟩ | ⟨hw, _, _⟩
  · unfold opX at ho
    split at ho
    · rename_i hc; rw [hc] at hmo; cases hmo
    · exact ho
  · rw [hg] at hw; cases hw

omit [Dr] in
theorem yld_mk {r : RO} (hm : isMk r = true) (ho : op1 ro e h r.o = some (v, h')) : Yld k ro r e h v h' := by
  obtain ⟨hg, hmo⟩ := isMk_spec hm
  refine .inl ⟨by rw [hg]; rfl, ?_⟩
  unfold opX
  split
  · rename_i hc; rw [hc] at hmo; cases hmo
  · exact ho

omit [Dr] in
theorem opX_ro {ro2 : Nat} {x : O} (hx : x.cls ≤ 3) (H : opX k ro e h x = some (v, h')) : opX k ro2 e h x = some (v, h') := by
  cases x <;> first
    | exact H
    | (exact absurd hx (Nat.not_le.2 (Nat.lt_succ_self 3)))
    | skip
  case conv c x => cases c <;> first
    | (exact absurd hx (Nat.not_le.2 (Nat.lt_succ_self 3)))
    | (simp only [opX, op1] at H ⊢
       cases hv : A.ev e x with
       | none => rw [hv] at H; cases H
       | some u => rw [hv] at H; simp only [Option.bind_some] at H ⊢; cases u <;> exact H)
  case call m f l =>
    simp only [opX, Option.bind_eq_some_iff] at H ⊢
    obtain ⟨fv, hf, as, ha, H⟩ := H
    refine ⟨fv, hf, as, ha, ?_⟩
    have hm : m ≠ 0 := fun q => by
      subst q
      simp [O.cls] at hx
    unfold callV at H ⊢
    split at H
    · simp only
      rw [if_neg hm] at H ⊢
      exact H
    · cases H

omit [Dr] in
theorem Yld.anyro {ro2 : Nat} {r : RO} (hx : r.o.cls ≤ 3) (hy : Yld k ro r e h v h') : Yld k ro2 r e h v h' := by
  rcases hy with ⟨hw, ho⟩ | hy
  · exact .inl ⟨hw, opX_ro hx ho⟩
  · exact .inr hy

/-- Slots without one. -/
def er (d : Option Nat) (e : Env) : Env := match d with
  | none => e
  | some k => e.filter fun p => !(Nat.beq p.1 k)

omit [Dr] in
theorem get_er_same {k : Nat} : ∀ {e : Env}, (er (some k) e).get k = none
  | [] => rfl
  | (c, x) :: r => by
    have ih := get_er_same (k := k) (e := r)
    simp only [er] at ih ⊢
    cases hc : Nat.beq c k with
    | true => simpa [List.filter, hc] using ih
    | false => simpa [List.filter, hc, Env.get] using ih
omit [Dr] in
theorem get_er_ne {k n : Nat} (hne : k ≠ n) : ∀ {e : Env}, (er (some k) e).get n = e.get n
  | [] => rfl
  | (c, x) :: r => by
    have ih := get_er_ne hne (e := r)
    simp only [er] at ih ⊢
    cases hc : Nat.beq c k with
    | true =>
      have : c = k := Nat.eq_of_beq_eq_true hc
      subst this
      have h2 : Nat.beq c n = false := beq_ne hne
      simpa [List.filter, hc, Env.get, h2] using ih
    | false =>
      cases h2 : Nat.beq c n with
      | true => simp [List.filter, hc, Env.get, h2]
      | false => simpa [List.filter, hc, Env.get, h2] using ih
omit [Dr] in
theorem get_er {d : Option Nat} {n : Nat} {v : V} (h : (er d e).get n = some v) : d ≠ some n ∧ e.get n = some v := by
  cases d with
  | none => exact ⟨by simp, h⟩
  | some k =>
    by_cases hk : k = n
    · subst hk; rw [get_er_same] at h; cases h
    · rw [get_er_ne hk] at h; exact ⟨by simpa using hk, h⟩
omit [Dr] in
theorem er_get {d : Option Nat} {n : Nat} (h : d ≠ some n) : (er d e).get n = e.get n := by
  cases d with
  | none => rfl
  | some k => exact get_er_ne (by simpa using h)
omit [Dr] in
theorem er_set {d f : Option Nat} (h : ∀ n, d = some n → f ≠ some n) : EnvEq (setO (er d e) f v) (er d (setO e f v)) := fun n => by
  cases f with
  | none => rfl
  | some j =>
    by_cases hn : d = some n
    · subst hn
      have hjn : j ≠ n := fun q => h n rfl (by rw [q])
      simp only [setO]
      rw [Env.get_set_ne _ hjn, get_er_same, get_er_same]
    · rw [er_get hn]
      by_cases hj : j = n
      · subst hj; simp only [setO, Env.get_set_same]
      · simp only [setO]
        rw [Env.get_set_ne _ hj, Env.get_set_ne _ hj, er_get hn]

omit [Dr] in
theorem put_ne {a : Act} {d : Option Nat} {u : Value} {n : Nat} (h : d ≠ some n) : (a.put d u).tmps.getD n undef = a.tmps.getD n undef := by
  cases d with
  | none => rfl
  | some k =>
    have hk : k ≠ n := by simpa using h
    simp [Act.put, Array.getElem?_setIfInBounds_ne hk]

theorem St.fresh (hs : St P B w0 ro nt ρ e h a w) : St P w.heap.size w h.nx nt ρ e h a w := ⟨hs.rel.fresh, hs.env, hs.glob, hs.size, hs.defers⟩

/-- A block that is there ahead of its turn. -/
structure Pend (B ro : Nat) (ρ : Nat → Pl) (h : Hp) (a : Act) (w : World) (d : Option Nat) (vq : Nat → V) (Y : Blk) (py : Pl) : Prop where
  lo : B ≤ py.blk
  hi : py.blk < w.heap.size
  ne : ∀ b x, h.get b = some x → ro ≤ b → (ρ b).blk ≠ py.blk
  blk : ∀ (ρ' : Nat → Pl) (nx' : Nat), BR ρ' nx' w True py Y
  val : ∀ n, d = some n → ∀ (ρ' : Nat → Pl) (nx' i : Nat), ρ' i = py → i < nx' → VR ρ' nx' (vq i) (a.tmps.getD n undef)

theorem stepB (hk : CallOk P k) {d : Option Nat} {vq : Nat → V} {Y : Blk} {py : Pl} (hs : St P B w0 ro nt ρ (er d e) h a w) (hp : Pend B ro ρ h a w d vq Y py) {an : An} {id i : Nat} {all : List Oper} {o : Oper} {r : RO} (hro : roOf P an nt id all i o = some r)
    (hcls : r.o.cls ≤ 3) (hdr : ∀ n, d = some n → n ∉ r.reads) (hdd : ∀ n, d = some n → r.dst ≠ some n) (hy : Yld k ro r e h v h') {K : Act → World → Prop} {Q : Exit → Act → World → Prop}
    (hK : ∀ a' w' ρ', (∀ b, b < h.nx → ρ' b = ρ b) → h.nx ≤ h'.nx → St P B w0 ro nt ρ' (er d (setO e r.dst v)) h' a' w' → Pend B ro ρ' h' a' w' d vq Y py → K a' w') :
    if Region.wanted o (yielded all.toArray a.tmps) then o.wp P a w K Q else K (a.put o.dst undef) w := by
  have hy' : Yld k h.nx r (er d e) h v h' := (hy.same fun n hn => (er_get (fun q => hdr n q hn)).symm).anyro hcls
  have hx := hy'.ext hk
  refine yld_sound hk hs.fresh hro hy' fun a' w' ρ' ⟨u, hu⟩ hρ hnx hs' => hK a' w' ρ' hρ hnx ?_ ?_
  · have h2 : St P B w0 ro nt ρ' (setO (er d e) r.dst v) h' a' w' := ⟨hs.rel.back hs'.rel hρ hx, hs'.env, hs'.glob, hs'.size, hs'.defers⟩
    exact h2.eq (er_set hdd)
  · refine ⟨hp.lo, Nat.lt_of_lt_of_le hp.hi hs'.rel.bel.size, fun b x hg hrb => ?_, fun ρ2 nx2 => (hp.blk ρ2 nx2).mono (fun _ _ => rfl) (Nat.le_refl _) (hs'.rel.bel.block _ hp.hi), fun n hn ρ2 nx2 i h1 h2 => ?_⟩
    · rcases Nat.lt_or_ge b h.nx with hb | hb
      · rw [hρ b hb]
        rw [hx.low (Nat.le_refl _) b hb] at hg
        exact hp.ne b x hg hrb
      · have := (hs'.rel.pos b x hg).2.2 hb
        have := hp.hi
        omega
    · rw [hu, put_ne (by rw [← (roOf_inv hro).2.2.1]; exact hdd n hn)]
      exact hp.val n hn ρ2 nx2 i h1 h2

theorem enterB (hk : CallOk P k) {vq : Nat → V} {z : Nat} {cs : List V} (hs : St P B w0 ro nt ρ e h a w) {an : An} {id i : Nat} {all : List Oper} {o : Oper} {r : RO} (hro : roOf P an nt id all i o = some r)
    (hm : isMk r = true) (hv : ByPl vq) (hg : ∀ y ∈ cs, g0 y = true) (ho : op1 h.nx e h r.o = some (vq h.nx, h.new (.cells z cs))) {K : Act → World → Prop} {Q : Exit → Act → World → Prop}
    (hK : ∀ a' w' py, St P B w0 ro nt ρ (er r.dst e) h a' w' → Pend B ro ρ h a' w' r.dst vq (.cells z cs) py → K a' w') :
    if Region.wanted o (yielded all.toArray a.tmps) then o.wp P a w K Q else K (a.put o.dst undef) w := by
  obtain ⟨_, _, hdst, hd⟩ := roOf_inv hro
  refine yld_sound hk hs.fresh hro (yld_mk hm ho) fun a' w' ρ' ⟨u, hu⟩ hρ hnx hs' => hK a' w' (ρ' h.nx) ?_ ?_
  · refine ⟨hs.rel.same hs'.rel.bel, fun n x hx => ?_, hs.glob, hs'.size, hs'.defers⟩
    obtain ⟨h1, h2⟩ := get_er hx
    rw [hu, put_ne (by rw [← hdst]; exact h1)]
    exact hs.env n x h2
  · have hpos := hs'.rel.pos h.nx _ Hp.get_new_same
    have hblk := hs'.rel.blk h.nx _ Hp.get_new_same
    have h3 := hpos.2.2 (Nat.le_refl _)
    refine ⟨Nat.le_trans hs.rel.hB h3, hpos.1, fun b x hgb hrb => ?_, fun ρ2 nx2 => hblk.ground (Nat.le_refl _) hg, fun n hn ρ2 nx2 i h1 h2 => ?_⟩
    · have := (hs.rel.pos b x hgb).1
      omega
    · refine hv ρ' ρ2 _ nx2 h.nx i _ h1.symm h2 (hs'.env n _ ?_)
      rw [hn]
      exact Env.get_set_same _ _ _

theorem exitB {d : Option Nat} {vq : Nat → V} {Y : Blk} {py : Pl} (hs : St P B w0 ro nt ρ (er d e) h a w) (hp : Pend B ro ρ h a w d vq Y py) : St P B w0 ro nt (upd ρ h.nx py) (setO e d (vq h.nx)) (h.new Y) a w := by
  refine ⟨hs.rel.addAt py hp.lo hp.hi hp.ne Y (hp.blk _ _), fun n x hx => ?_, hs.glob.mono upd_lt (Nat.le_succ _), hs.size, hs.defers⟩
  by_cases hd : d = some n
  · subst hd
    simp only [setO, Env.get_set_same, Option.some.injEq] at hx
    subst hx
    exact hp.val n rfl _ _ h.nx upd_same (Nat.lt_succ_self _)
  · have : (setO e d (vq h.nx)).get n = e.get n := by
      cases d with
      | none => rfl
      | some k => exact Env.get_set_ne _ (by simpa using hd) _
    rw [this, ← er_get hd] at hx
    exact VR.mono upd_lt (Nat.le_succ _) x (hs.env n x hx)

omit [Dr] in
theorem early {q : RO} : ∀ {L1 L2 : List RO} {e : Env} {h : Hp} {r : Env × Hp}, (∀ x ∈ L1, ∀ n, x.dst = some n → n ∉ q.reads) → ops k ro (L1 ++ q :: L2) e h = some r → ∃ e1 h1 v h2, Yld k ro q e1 h1 v h2 ∧ Same q.reads e e1
  | [], L2, e, h, r, _, H => by
    simp only [List.nil_append, ops, Option.bind_eq_some_iff] at H
    obtain ⟨⟨e1, h1⟩, hs, H⟩ := H
    obtain ⟨v, rfl, hy⟩ := step1_iff.1 hs
    exact ⟨e, h, v, h1, hy, fun _ _ => rfl⟩
  | x :: L1, L2, e, h, r, hx, H => by
    simp only [List.cons_append, ops, Option.bind_eq_some_iff] at H
    obtain ⟨⟨e1, h1⟩, hs, H⟩ := H
    obtain ⟨v, rfl, hy⟩ := step1_iff.1 hs
    obtain ⟨e2, h2, u, h3, hy2, hsm⟩ := early (fun y hy => hx y (List.mem_cons_of_mem _ hy)) H
    exact ⟨e2, h2, u, h3, hy2, fun n hn => (setO_same (hx x (List.mem_cons_self ..)) n hn).trans (hsm n hn)⟩

/-! what is listed, and what is left -/

structure LS (P : Program) (an : An) (nt id : Nat) (all : List Oper) (rem : List (Nat × RO)) (listed : Array Bool) : Prop where
  nd : nodupB (rem.map (·.1)) = true
  ro : ∀ p ∈ rem, ∃ o, all[p.1]? = some o ∧ roOf P an nt id all p.1 o = some p.2
  sz : listed.size = all.length
  li : ∀ i, i < all.length → (listed.getD i true = false ↔ i ∈ rem.map (·.1))
  cl : ∀ i o, listed.getD i true = true → all[i]? = some o → ∀ ed ∈ o.after, Region.binds .any ed = true → listed.getD ed.on true = true

omit [Dr] in
theorem getD_set {l : Array Bool} {i j : Nat} (hi : i < l.size) : (l.setIfInBounds i true).getD j true = if i = j then true else l.getD j true := by
  by_cases h : i = j
  · subst h
    simp [Array.getD_eq_getD_getElem?, hi]
  · rw [Array.getD_eq_getD_getElem?, Array.getElem?_setIfInBounds_ne h, if_neg h, ← Array.getD_eq_getD_getElem?]

omit [Dr] in
theorem ready_iff {all : List Oper} {listed : Array Bool} {i : Nat} : i ∈ Region.ready .any all.toArray listed ↔
    i < all.length ∧ listed.getD i true = false ∧ ∃ o, all[i]? = some o ∧ ∀ ed ∈ o.after, Region.binds .any ed = true → listed.getD ed.on false = true := by
  unfold Region.ready
  rw [List.mem_filter, List.mem_range]
  simp only [List.size_toArray, Bool.and_eq_true, Bool.not_eq_true', List.getElem?_toArray]
  refine ⟨fun ⟨h1, h2, h3⟩ => ⟨h1, h2, ?_⟩, fun ⟨h1, h2, o, ho, h3⟩ => ⟨h1, h2, ?_⟩⟩
  · obtain ⟨o, ho⟩ : ∃ o, all[i]? = some o := ⟨all[i], List.getElem?_eq_getElem h1⟩
    refine ⟨o, ho, fun ed hed hb => ?_⟩
    simp only [ho, Option.map_some, Option.getD_some] at h3
    rw [← Array.all_toList, List.all_eq_true] at h3
    have := h3 ed (by simpa using hed)
    simpa [hb] using this
  · simp only [ho, Option.map_some, Option.getD_some]
    rw [← Array.all_toList, List.all_eq_true]
    intro ed hed
    cases hb : Region.binds .any ed with
    | false => rfl
    | true => simpa [hb] using h3 ed (by simpa using hed) hb

omit [Dr] in
theorem nodupB_mid {x : Nat} {l r : List Nat} (h : nodupB (l ++ x :: r) = true) : nodupB (l ++ r) = true ∧ x ∉ l ++ r := by
  induction l with
  | nil => exact ⟨(nodupB_cons h).2, (nodupB_cons h).1⟩
  | cons y l ih =>
    obtain ⟨h4, h5⟩ := nodupB_cons h
    obtain ⟨h6, h7⟩ := ih h5
    refine ⟨?_, ?_⟩
    · simp only [List.cons_append, nodupB, Bool.and_eq_true, Bool.not_eq_true']
      refine ⟨?_, h6⟩
      cases hq : (l ++ r).any (Nat.beq y) with
      | false => rfl
      | true =>
        exfalso
        obtain ⟨z, hz, hze⟩ := List.any_eq_true.1 hq
        have : y = z := Nat.eq_of_beq_eq_true hze
        subst this
        exact h4 (by
          rcases List.mem_append.1 hz with hz | hz
          · exact List.mem_append.2 (.inl hz)
          · exact List.mem_append.2 (.inr (List.mem_cons_of_mem _ hz)))
    · intro hq
      rcases List.mem_cons.1 hq with hq | hq
      · exact h4 (by rw [← hq]; simp)
      · exact h7 hq

omit [Dr] in
theorem LS.lt {an : An} {id : Nat} {all : List Oper} {rem : List (Nat × RO)} {listed : Array Bool} (hl : LS P an nt id all rem listed) {p : Nat × RO} (hp : p ∈ rem) : p.1 < all.length := by
  obtain ⟨o, ho, _⟩ := hl.ro p hp
  exact (List.getElem?_eq_some_iff.1 ho).1

omit [Dr] in
/-- The taking of one. -/
theorem LS.pick {an : An} {id : Nat} {all : List Oper} {rem : List (Nat × RO)} {listed : Array Bool} (heb : edgesBack 0 all = true) (hl : LS P an nt id all rem listed) {i : Nat} (hi : i ∈ Region.ready .any all.toArray listed) :
    ∃ l x r o, rem = l ++ (i, x) :: r ∧ all[i]? = some o ∧ roOf P an nt id all i o = some x ∧ (∀ p ∈ rem, ¬ Reach all i p.1) ∧ LS P an nt id all (l ++ r) (listed.setIfInBounds i true) := by
  obtain ⟨hil, hun, o, ho, hed⟩ := ready_iff.1 hi
  have him := (hl.li i hil).1 hun
  obtain ⟨⟨i', x⟩, hmem, rfl⟩ := List.mem_map.1 him
  simp only at hil hun ho him
  obtain ⟨l, r, rfl⟩ := List.append_of_mem hmem
  obtain ⟨o1, ho1, hro1⟩ := hl.ro (i', x) hmem
  simp only at ho1 hro1
  rw [ho] at ho1; cases ho1
  have hed' : ∀ ed ∈ o.after, Region.binds .any ed = true → listed.getD ed.on true = true := fun ed hed1 hb => by
    have h3 := hed ed hed1 hb
    have hon := edgesBack_spec heb ho ed hed1 hb
    have h5 : ed.on < listed.size := by rw [hl.sz]; omega
    simp only [Array.getD_eq_getD_getElem?, Array.getElem?_eq_getElem h5, Option.getD_some] at h3 ⊢
    exact h3
  have hsz : i' < listed.size := by rw [hl.sz]; exact hil
  have hnd := hl.nd
  rw [List.map_append, List.map_cons] at hnd
  obtain ⟨hnd1, hnd2⟩ := nodupB_mid hnd
  refine ⟨l, x, r, o, rfl, ho, hro1, fun p hp hr => ?_, ⟨by rw [List.map_append]; exact hnd1, fun p hp => hl.ro p ?_, by simpa using hl.sz, fun j hj => ?_, fun j o2 hj ho2 ed hed2 hb2 => ?_⟩⟩
  · have h1 := reach_first ho hed' hl.cl hr
    have h2 := (hl.li p.1 (hl.lt hp)).2 (List.mem_map.2 ⟨p, hp, rfl⟩)
    rw [h1] at h2; cases h2
  · rcases List.mem_append.1 hp with hp | hp
    · exact List.mem_append.2 (.inl hp)
    · exact List.mem_append.2 (.inr (List.mem_cons_of_mem _ hp))
  · rw [getD_set hsz]
    by_cases hji : i' = j
    · subst hji
      simp only [if_true, Bool.true_eq_false, false_iff]
      rw [List.map_append]; exact hnd2
    · rw [if_neg hji, hl.li j hj]
      simp only [List.map_append, List.map_cons, List.mem_append, List.mem_cons]
      exact ⟨fun q => by
        rcases q with q | q | q
        · exact .inl q
        · exact absurd q.symm hji
        · exact .inr q, fun q => by
        rcases q with q | q
        · exact .inl q
        · exact .inr (.inr q)⟩
  · rw [getD_set hsz] at hj ⊢
    by_cases hji : i' = j
    · subst hji
      rw [ho] at ho2; cases ho2
      split
      · rfl
      · exact hed' ed hed2 hb2
    · rw [if_neg hji] at hj
      split
      · rfl
      · exact hl.cl j o2 hj ho2 ed hed2 hb2

omit [Dr] in
theorem LS.some_ready {an : An} {id : Nat} {all : List Oper} {rem : List (Nat × RO)} {listed : Array Bool} (heb : edgesBack 0 all = true) (hl : LS P an nt id all rem listed) (hrd : Region.ready .any all.toArray listed = []) : rem = [] := by
  cases rem with
  | nil => rfl
  | cons p rem =>
    exfalso
    obtain ⟨m, hm, hmin⟩ : ∃ m, m ∈ (p :: rem).map (·.1) ∧ ∀ j ∈ (p :: rem).map (·.1), m ≤ j := by
      have key : ∀ (l : List Nat), l ≠ [] → ∃ m, m ∈ l ∧ ∀ j ∈ l, m ≤ j := by
        intro l
        induction l with
        | nil => intro h; exact absurd rfl h
        | cons x l ih =>
          intro _
          cases l with
          | nil => exact ⟨x, by simp, fun j hj => by simp at hj; omega⟩
          | cons y l =>
            obtain ⟨m, hm, hmin⟩ := ih (by simp)
            rcases Nat.le_total x m with hx | hx
            · exact ⟨x, by simp, fun j hj => by
                rcases List.mem_cons.1 hj with rfl | hj
                · exact Nat.le_refl _
                · exact Nat.le_trans hx (hmin j hj)⟩
            · exact ⟨m, List.mem_cons_of_mem _ hm, fun j hj => by
                rcases List.mem_cons.1 hj with rfl | hj
                · exact hx
                · exact hmin j hj⟩
      exact key _ (by simp)
    have hml : m < all.length := by
      obtain ⟨q, hq, rfl⟩ := List.mem_map.1 hm
      exact hl.lt hq
    obtain ⟨o, ho⟩ : ∃ o, all[m]? = some o := ⟨all[m], List.getElem?_eq_getElem hml⟩
    have hmem : m ∈ Region.ready .any all.toArray listed := by
      refine ready_iff.2 ⟨hml, (hl.li m hml).2 hm, o, ho, fun ed hed hb => ?_⟩
      have hlt' := edgesBack_spec heb ho ed hed hb
      simp only [Nat.zero_add] at hlt'
      have h2 := hl.li ed.on (by omega)
      have h3 : ¬ (listed.getD ed.on true = false) := fun q => by
        have := hmin _ (h2.1 q); omega
      have h5 : ed.on < listed.size := by rw [hl.sz]; omega
      simp only [Array.getD_eq_getD_getElem?, Array.getElem?_eq_getElem h5, Option.getD_some] at h3 ⊢
      simpa using h3
    rw [hrd] at hmem
    cases hmem

omit [Dr] in
theorem wpOp_of {all : List Oper} {i : Nat} {o : Oper} {K : Act → World → Prop} {Q : Exit → Act → World → Prop} (ho : all[i]? = some o) (h : if Region.wanted o (yielded all.toArray a.tmps) then o.wp P a w K Q else K (a.put o.dst undef) w) : wpOp P all.toArray Q i K a w := by
  unfold wpOp
  simp only [List.getElem?_toArray, ho]
  split
  · rename_i hw; rw [if_pos hw] at h; exact .inl h
  · rename_i hw; rw [if_neg hw] at h; exact h

omit [Dr] in
theorem pairOk_pass {all : List Oper} {p q : Nat × RO} (h : pairOk (cloGo [] all) p q = true) (hr : ¬ Reach all q.1 p.1) : mayPass p.2 q.2 = true := by
  simp only [pairOk, Bool.or_eq_true] at h
  rcases h with h1 | h1
  · exfalso
    cases hc : (cloGo [] all)[q.1]? with
    | none => rw [hc] at h1; cases h1
    | some cl =>
      rw [hc] at h1
      simp only [List.any_eq_true] at h1
      obtain ⟨n, hq, hqe⟩ := h1
      have hqe' : p.1 = n := Nat.eq_of_beq_eq_true hqe
      subst hqe'
      exact hr (cloGo_spec (done := []) (acc := []) rfl rfl (fun i l hi => by simp at hi) q.1 cl hc _ hq)
  · exact h1

omit [Dr] in
theorem Pairs.tail {R : Nat × RO → Nat × RO → Prop} {q : Nat × RO} : ∀ {l r : List (Nat × RO)}, Pairs R (l ++ q :: r) → ∀ s ∈ r, R q s
  | [], _, h => h.1
  | _ :: _, _, h => Pairs.tail h.2
omit [Dr] in
theorem Pairs.mono {R R' : Nat × RO → Nat × RO → Prop} : ∀ {l : List (Nat × RO)}, (∀ x ∈ l, ∀ y ∈ l, R x y → R' x y) → Pairs R l → Pairs R' l
  | [], _, _ => trivial
  | x :: l, hm, h => ⟨fun y hy => hm x (by simp) y (by simp [hy]) (h.1 y hy), Pairs.mono (fun a ha b hb => hm a (by simp [ha]) b (by simp [hb])) h.2⟩

omit [Dr] in
theorem RO.apart_comm {x y : RO} (h : x.apart y = true) : (∀ n, x.dst = some n → n ∉ y.reads) ∧ (∀ n, x.dst = some n → y.dst ≠ some n) ∧ (∀ n, y.dst = some n → n ∉ x.reads) := RO.apart_spec h

/-- q stands there already, p and others are left. -/
theorem drawB_sound (hk : CallOk P k) {an : An} {id : Nat} {all : List Oper} {Q : Exit → Act → World → Prop} (heb : edgesBack 0 all = true) {e' : Env} {h' : Hp} {ρ0 : Nat → Pl} {nx0 : Nat}
    (hQ : ∀ a' w' ρ', (∀ b, b < nx0 → ρ' b = ρ0 b) → nx0 ≤ h'.nx → St P B w0 ro nt ρ' e' h' a' w' → Q .normal a' w') {p q : Nat × RO} (hqm : isMk q.2 = true) {vq : Nat → V} {Y : Blk} (hpq : p.2.apart q.2 = true) (hp3 : p.2.o.cls ≤ 3) :
    ∀ (fuel : Nat) (L1 L2 : List (Nat × RO)) (listed : Array Bool) (e : Env) (h : Hp) (ρ : Nat → Pl) (a : Act) (w : World) (e2 : Env) (py : Pl), (L1 ++ L2).length ≤ fuel → p ∈ L1 →
      LS P an nt id all (L1 ++ L2) listed → Pairs (fun x y => pairOk (cloGo [] all) x y = true) (L1 ++ L2) → (∀ s ∈ L1 ++ L2, s.1 = p.1 ∨ s.2.o.cls = 0) → (∀ s ∈ L1 ++ L2, s.1 = p.1 ∨ Reach all s.1 p.1 ∨ q.2.apart s.2 = true) →
      (∀ s ∈ L1, s.1 = p.1 ∨ mayPass s.2 q.2 = true) →
      (∀ b, b < nx0 → ρ b = ρ0 b) → nx0 ≤ h.nx → St P B w0 ro nt ρ (er q.2.dst e) h a w → Pend B ro ρ h a w q.2.dst vq Y py → (∀ h2, op1 ro e h2 q.2.o = some (vq h2.nx, h2.new Y)) →
      ops k ro ((L1 ++ q :: L2).map (·.2)) e h = some (e2, h') → EnvEq e2 e' →
      wpAny P .any all.toArray Q fuel listed a w := by
  intro fuel
  induction fuel with
  | zero =>
    intro L1 L2 listed e h ρ a w e2 py hlen hpl
    have : L1 ++ L2 = [] := List.eq_nil_of_length_eq_zero (by omega)
    have : L1 = [] := (List.append_eq_nil_iff.1 this).1
    rw [this] at hpl; cases hpl
  | succ fuel ih =>
    intro L1 L2 listed e h ρ a w e2 py hlen hpl hls hpr hcl hap hqs hρ hnx hs hpe hqo ho he
    obtain ⟨pa1, pa2, pa3⟩ := RO.apart_spec hpq
    have hpid : ∀ s ∈ L1 ++ L2, s.1 = p.1 → s = p := by
      intro s hs1 hid
      have hnd := hls.nd
      have key : ∀ (l : List (Nat × RO)), nodupB (l.map (·.1)) = true → ∀ s ∈ l, ∀ t ∈ l, s.1 = t.1 → s = t := by
        intro l
        induction l with
        | nil => intro _ s hs; cases hs
        | cons x l ih =>
          intro hn s hs t ht hst
          simp only [List.map_cons] at hn
          obtain ⟨n1, n2⟩ := nodupB_cons hn
          rcases List.mem_cons.1 hs with hs2 | hs2
          · rcases List.mem_cons.1 ht with ht2 | ht2
            · rw [hs2, ht2]
            · exact absurd (List.mem_map.2 ⟨t, ht2, by rw [← hst, hs2]⟩) n1
          · rcases List.mem_cons.1 ht with ht2 | ht2
            · exact absurd (List.mem_map.2 ⟨s, hs2, by rw [hst, ht2]⟩) n1
            · exact ih n2 s hs2 t ht2 hst
      exact key _ hnd s hs1 p (List.mem_append.2 (.inl hpl)) hid
    refine ⟨fun hrd => ?_, fun i hi => ?_⟩
    · have := hls.some_ready heb hrd
      have : L1 = [] := (List.append_eq_nil_iff.1 this).1
      rw [this] at hpl; cases hpl
    · obtain ⟨l, x, r, o, hsp, hoi, hroi, hnr, hls'⟩ := hls.pick heb hi
      have hmx : (i, x) ∈ L1 ++ L2 := by rw [hsp]; simp
      refine wpOp_of hoi ?_
      by_cases hip : i = p.1
      · -- the one that was passed
        have hxp : (i, x) = p := hpid _ hmx hip
        obtain ⟨A, C, rfl⟩ := List.append_of_mem hpl
        -- it stands in L1
        have hlA : l = A ∧ r = C ++ L2 := by
          have hnd := hls.nd
          rw [hsp] at hnd
          have e1 : A ++ p :: C ++ L2 = A ++ p :: (C ++ L2) := by simp
          rw [e1, hxp] at hsp
          have hnd1 := hls.nd
          rw [e1] at hnd1
          have key : ∀ (l A : List (Nat × RO)) (r C : List (Nat × RO)), nodupB ((A ++ p :: C).map (·.1)) = true → A ++ p :: C = l ++ p :: r → l = A ∧ r = C := by
            intro l
            induction l with
            | nil =>
              intro A r C hn hs
              cases A with
              | nil => simp only [List.nil_append, List.cons.injEq, true_and] at hs; exact ⟨rfl, hs.symm⟩
              | cons x A =>
                exfalso
                simp only [List.cons_append, List.nil_append, List.cons.injEq] at hs
                obtain ⟨rfl, hs⟩ := hs
                simp only [List.cons_append, List.map_cons] at hn
                exact (nodupB_cons hn).1 (by simp)
            | cons y l ih =>
              intro A r C hn hs
              cases A with
              | nil =>
                exfalso
                simp only [List.cons_append, List.nil_append, List.cons.injEq] at hs
                obtain ⟨rfl, hs⟩ := hs
                simp only [List.nil_append, List.map_cons] at hn
                exact (nodupB_cons hn).1 (by rw [hs]; simp)
              | cons x A =>
                simp only [List.cons_append, List.cons.injEq] at hs
                obtain ⟨rfl, hs⟩ := hs
                simp only [List.cons_append, List.map_cons] at hn
                obtain ⟨h1, h2⟩ := ih A r C (nodupB_cons hn).2 hs
                exact ⟨by rw [h1], h2⟩
          exact key l A r (C ++ L2) hnd1 hsp
        obtain ⟨rfl, rfl⟩ := hlA
        clear hsp
        have hpr' : Pairs (fun x y => pairOk (cloGo [] all) x y = true) (l ++ p :: (C ++ L2)) := by simpa using hpr
        obtain ⟨hp1, hp2⟩ := Pairs.mid hpr'
        have ho' : ops k ro (l.map (·.2) ++ p.2 :: (C.map (·.2) ++ q.2 :: L2.map (·.2))) e h = some (e2, h') := by simpa using ho
        obtain ⟨v, h1, e3, hy, hrest, heq⟩ := front hk hs.wf (fun y hy => by
          obtain ⟨s, hs1, rfl⟩ := List.mem_map.1 hy
          refine pairOk_pass (hp1 s hs1) (fun hr => hnr s (by simp [hs1]) ?_)
          rw [hip]; exact hr) ho'
        have hxo : p.2 = x := by rw [← hxp]
        refine stepB hk hs hpe hroi (by rw [← hxo]; exact hp3) (fun n hn => by rw [← hxo]; exact pa3 n hn) (fun n hn => by rw [← hxo]; exact fun hd => pa2 n hd hn) (by rw [← hxo]; exact hy) fun a' w' ρ' h3 h4 hs' hpe' => ?_
        have hx2 := exitB hs' hpe'
        -- now the other one's turn
        have hrest' : ops k ro ((l ++ C).map (·.2) ++ q.2 :: L2.map (·.2)) (setO e p.2.dst v) h1 = some (e3, h') := by simpa using hrest
        obtain ⟨v2, h2, e4, hy2, hrest2, heq2⟩ := front hk hs'.wf (fun y hy => by
          obtain ⟨s, hs1, rfl⟩ := List.mem_map.1 hy
          rcases hqs s (by
            rcases List.mem_append.1 hs1 with hs1 | hs1
            · exact List.mem_append.2 (.inl hs1)
            · exact List.mem_append.2 (.inr (List.mem_cons_of_mem _ hs1))) with hq1 | hq1
          · exfalso
            have hnd := hls.nd
            have e1 : (l ++ p :: C ++ L2).map (·.1) = l.map (·.1) ++ p.1 :: (C ++ L2).map (·.1) := by simp
            rw [e1] at hnd
            refine (nodupB_mid hnd).2 ?_
            rw [← hq1]
            rcases List.mem_append.1 hs1 with hs1 | hs1
            · exact List.mem_append.2 (.inl (List.mem_map.2 ⟨s, hs1, rfl⟩))
            · exact List.mem_append.2 (.inr (List.mem_map.2 ⟨s, List.mem_append.2 (.inl hs1), rfl⟩))
          · exact hq1) hrest'
        have hq2 := mk_yld hqm hy2
        rw [← op1_same q.2.o (e := e) (setO_same (fun n hn hm => pa1 n hn (by unfold RO.reads; exact List.mem_append.2 (.inl hm)))), hqo h1] at hq2
        simp only [Option.some.injEq, Prod.mk.injEq] at hq2
        obtain ⟨rfl, rfl⟩ := hq2
        rw [← hxo] at hx2
        refine draw_sound (Q := Q) hk heb (ρ0 := ρ0) (nx0 := nx0) hQ fuel (l ++ (C ++ L2)) (listed.setIfInBounds i true) _ _ _ a' w' e4 ?_ hp2 hls'.nd hls'.ro hls'.sz hls'.li hls'.cl ?_ ?_ hx2 (by simpa using hrest2) ((heq.trans heq2).symm.trans he)
        · simp only [List.length_append, List.length_cons] at hlen ⊢; omega
        · intro b hb
          rw [upd_lt _ (by omega), h3 b (by omega), hρ b hb]
        · simp only [Hp.nx_new]; omega
      · -- another one
        have hx0 : x.o.cls = 0 := by
          rcases hcl _ hmx with h1 | h1
          · exact absurd h1 hip
          · exact h1
        have hqx : q.2.apart x = true := by
          rcases hap _ hmx with h1 | h1 | h1
          · exact absurd h1 hip
          · exact absurd h1 (hnr p (List.mem_append.2 (.inl hpl)))
          · exact h1
        obtain ⟨qx1, qx2, qx3⟩ := RO.apart_spec hqx
        have hmq : mayPass q.2 x = true := by
          simp only [mayPass, Bool.and_eq_true]
          exact ⟨hqx, by simp [compat, hx0]⟩
        -- where it stands
        have hcase : (∃ A C, L1 = A ++ (i, x) :: C ∧ l = A ∧ r = C ++ L2) ∨ (∃ A C, L2 = A ++ (i, x) :: C ∧ l = L1 ++ A ∧ r = C) := by
          have key : ∀ (L1 l : List (Nat × RO)), L1 ++ L2 = l ++ (i, x) :: r → (∃ A C, L1 = A ++ (i, x) :: C ∧ l = A ∧ r = C ++ L2) ∨ (∃ A C, L2 = A ++ (i, x) :: C ∧ l = L1 ++ A ∧ r = C) := by
            intro L1
            induction L1 with
            | nil => intro l hs; exact .inr ⟨l, r, hs, rfl, rfl⟩
            | cons y L1 ih =>
              intro l hs
              cases l with
              | nil =>
                simp only [List.cons_append, List.nil_append, List.cons.injEq] at hs
                obtain ⟨rfl, rfl⟩ := hs
                exact .inl ⟨[], L1, rfl, rfl, rfl⟩
              | cons z l =>
                simp only [List.cons_append, List.cons.injEq] at hs
                obtain ⟨rfl, hs⟩ := hs
                rcases ih l hs with ⟨A, C, h1, h2, h3⟩ | ⟨A, C, h1, h2, h3⟩
                · exact .inl ⟨y :: A, C, by rw [h1]; rfl, by rw [h2], h3⟩
                · exact .inr ⟨A, C, h1, by rw [h2]; rfl, h3⟩
          exact key L1 l hsp
        have hpr2 := hpr
        rw [hsp] at hpr2
        obtain ⟨hp1, hp2⟩ := Pairs.mid hpr2
        have hpass : ∀ s ∈ l, mayPass s.2 x = true := fun s hs1 => pairOk_pass (hp1 s hs1) (hnr s (by rw [hsp]; exact List.mem_append.2 (.inl hs1)))
        have hmem : ∀ s ∈ l ++ r, s ∈ L1 ++ L2 := fun s hs1 => by
          rw [hsp]
          rcases List.mem_append.1 hs1 with hs1 | hs1
          · exact List.mem_append.2 (.inl hs1)
          · exact List.mem_append.2 (.inr (List.mem_cons_of_mem _ hs1))
        have hqo' : ∀ v h2, op1 ro (setO e x.dst v) h2 q.2.o = some (vq h2.nx, h2.new Y) := fun v h2 => by
          rw [← op1_same q.2.o (e := e) (setO_same (fun n hn hm => qx3 n hn (by unfold RO.reads; exact List.mem_append.2 (.inl hm))))]
          exact hqo h2
        have hlen' : (l ++ r).length ≤ fuel := by
          have := congrArg List.length hsp
          simp only [List.length_append, List.length_cons] at this hlen ⊢
          omega
        rcases hcase with ⟨A, C, rfl, rfl, rfl⟩ | ⟨A, C, rfl, rfl, rfl⟩
        · have ho' : ops k ro (l.map (·.2) ++ x :: (C.map (·.2) ++ q.2 :: L2.map (·.2))) e h = some (e2, h') := by simpa using ho
          obtain ⟨v, h1, e3, hy, hrest, heq⟩ := front hk hs.wf (fun y hy => by
            obtain ⟨s, hs1, rfl⟩ := List.mem_map.1 hy
            exact hpass s hs1) ho'
          refine stepB hk hs hpe hroi (by omega) (fun n hn => qx1 n hn) (fun n hn => qx2 n hn) hy fun a' w' ρ' h3 h4 hs' hpe' => ?_
          have hpm : p ∈ l ++ C := by
            rcases List.mem_append.1 hpl with h5 | h5
            · exact List.mem_append.2 (.inl h5)
            · rcases List.mem_cons.1 h5 with h5 | h5
              · exact absurd (by rw [h5]) hip
              · exact List.mem_append.2 (.inr h5)
          refine ih (l ++ C) L2 (listed.setIfInBounds i true) _ h1 ρ' a' w' e3 py (by simpa using hlen') hpm (by simpa using hls') (by simpa using hp2) (fun s hs1 => hcl s (hmem s (by simpa using hs1))) (fun s hs1 => hap s (hmem s (by simpa using hs1)))
            (fun s hs1 => hqs s (by
              rcases List.mem_append.1 hs1 with hs1 | hs1
              · exact List.mem_append.2 (.inl hs1)
              · exact List.mem_append.2 (.inr (List.mem_cons_of_mem _ hs1)))) (fun b hb => by rw [h3 b (by omega), hρ b hb]) (by omega) hs' hpe' (hqo' v) (by simpa using hrest) (heq.symm.trans he)
        · have ho' : ops k ro ((L1 ++ q :: A).map (·.2) ++ x :: r.map (·.2)) e h = some (e2, h') := by simpa using ho
          obtain ⟨v, h1, e3, hy, hrest, heq⟩ := front hk hs.wf (fun y hy => by
            obtain ⟨s, hs1, rfl⟩ := List.mem_map.1 hy
            rcases List.mem_append.1 hs1 with hs1 | hs1
            · exact hpass s (List.mem_append.2 (.inl hs1))
            · rcases List.mem_cons.1 hs1 with rfl | hs1
              · exact hmq
              · exact hpass s (List.mem_append.2 (.inr hs1))) ho'
          refine stepB hk hs hpe hroi (by omega) (fun n hn => qx1 n hn) (fun n hn => qx2 n hn) hy fun a' w' ρ' h3 h4 hs' hpe' => ?_
          refine ih L1 (A ++ r) (listed.setIfInBounds i true) _ h1 ρ' a' w' e3 py (by simpa using hlen') hpl (by simpa using hls') (by simpa using hp2) (fun s hs1 => hcl s (hmem s (by simpa using hs1))) (fun s hs1 => hap s (hmem s (by simpa using hs1)))
            hqs (fun b hb => by rw [h3 b (by omega), hρ b hb]) (by omega) hs' hpe' (hqo' v) (by simpa using hrest) (heq.symm.trans he)

/-- Neither has been taken. -/
theorem drawA_sound (hk : CallOk P k) {an : An} {id : Nat} {all : List Oper} {Q : Exit → Act → World → Prop} (heb : edgesBack 0 all = true) {e' : Env} {h' : Hp} {ρ0 : Nat → Pl} {nx0 : Nat}
    (hQ : ∀ a' w' ρ', (∀ b, b < nx0 → ρ' b = ρ0 b) → nx0 ≤ h'.nx → St P B w0 ro nt ρ' e' h' a' w' → Q .normal a' w') {p q : Nat × RO} (hqm : isMk q.2 = true) (hpq : p.2.apart q.2 = true) (hp3 : p.2.o.cls ≤ 3) (hpneq : p.1 ≠ q.1) :
    ∀ (fuel : Nat) (rem : List (Nat × RO)) (listed : Array Bool) (e : Env) (h : Hp) (ρ : Nat → Pl) (a : Act) (w : World) (e2 : Env), rem.length ≤ fuel → p ∈ rem → q ∈ rem →
      LS P an nt id all rem listed → Pairs (fun x y => (pairOk (cloGo [] all) x y = true ∨ (x.1 = p.1 ∧ y.1 = q.1)) ∧ ¬ (x.1 = q.1 ∧ y.1 = p.1)) rem → (∀ s ∈ rem, s.1 = q.1 ∨ s.1 = p.1 ∨ s.2.o.cls = 0) →
      (∀ s ∈ rem, s.1 = q.1 ∨ s.1 = p.1 ∨ Reach all s.1 p.1 ∨ q.2.apart s.2 = true ∨ Reach all q.1 s.1) →
      (∀ b, b < nx0 → ρ b = ρ0 b) → nx0 ≤ h.nx → St P B w0 ro nt ρ e h a w → ops k ro (rem.map (·.2)) e h = some (e2, h') → EnvEq e2 e' →
      wpAny P .any all.toArray Q fuel listed a w := by
  intro fuel
  induction fuel with
  | zero =>
    intro rem listed e h ρ a w e2 hlen hp
    have : rem = [] := List.eq_nil_of_length_eq_zero (by omega)
    rw [this] at hp; cases hp
  | succ fuel ih =>
    intro rem listed e h ρ a w e2 hlen hpm hqm2 hls hpr hcl hap hρ hnx hs ho he
    have hidx : ∀ s ∈ rem, ∀ t ∈ rem, s.1 = t.1 → s = t := by
      have key : ∀ (l : List (Nat × RO)), nodupB (l.map (·.1)) = true → ∀ s ∈ l, ∀ t ∈ l, s.1 = t.1 → s = t := by
        intro l
        induction l with
        | nil => intro _ s hs; cases hs
        | cons x l ih =>
          intro hn s hs t ht hst
          simp only [List.map_cons] at hn
          obtain ⟨n1, n2⟩ := nodupB_cons hn
          rcases List.mem_cons.1 hs with hs2 | hs2
          · rcases List.mem_cons.1 ht with ht2 | ht2
            · rw [hs2, ht2]
            · exact absurd (List.mem_map.2 ⟨t, ht2, by rw [← hst, hs2]⟩) n1
          · rcases List.mem_cons.1 ht with ht2 | ht2
            · exact absurd (List.mem_map.2 ⟨s, hs2, by rw [hst, ht2]⟩) n1
            · exact ih n2 s hs2 t ht2 hst
      exact key _ hls.nd
    refine ⟨fun hrd => ?_, fun i hi => ?_⟩
    · have := hls.some_ready heb hrd
      rw [this] at hpm; cases hpm
    · obtain ⟨l, x, r, o, rfl, hoi, hroi, hnr, hls'⟩ := hls.pick heb hi
      have hmx : (i, x) ∈ l ++ (i, x) :: r := by simp
      have hmem : ∀ s ∈ l ++ r, s ∈ l ++ (i, x) :: r := fun s hs1 => by
        rcases List.mem_append.1 hs1 with hs1 | hs1
        · exact List.mem_append.2 (.inl hs1)
        · exact List.mem_append.2 (.inr (List.mem_cons_of_mem _ hs1))
      have hnd := hls.nd
      rw [List.map_append, List.map_cons] at hnd
      have hni := (nodupB_mid hnd).2
      rw [← List.map_append] at hni
      have hne : ∀ s ∈ l ++ r, s.1 ≠ i := fun s hs1 hid => hni (by rw [← hid]; exact List.mem_map.2 ⟨s, hs1, rfl⟩)
      obtain ⟨hp1, hp2⟩ := Pairs.mid hpr
      have hlen' : (l ++ r).length ≤ fuel := by simp only [List.length_append, List.length_cons] at hlen ⊢; omega
      refine wpOp_of hoi ?_
      have ho' : ops k ro (l.map (·.2) ++ x :: r.map (·.2)) e h = some (e2, h') := by simpa using ho
      by_cases hiq : i = q.1
      · -- ahead of its turn
        have hxq : (i, x) = q := hidx _ hmx q hqm2 hiq
        have hxo : x = q.2 := by rw [← hxq]
        subst hxo
        have hpl : p ∈ l := by
          rcases List.mem_append.1 hpm with h5 | h5
          · exact h5
          · rcases List.mem_cons.1 h5 with h5 | h5
            · exact absurd (by rw [h5]; exact hiq) hpneq
            · exact absurd ⟨hiq, rfl⟩ (Pairs.tail hpr p h5).2
        obtain ⟨pa1, pa2, pa3⟩ := RO.apart_spec hpq
        have hpass : ∀ s ∈ l, s.1 = p.1 ∨ mayPass s.2 q.2 = true := fun s hs1 => by
          rcases (hp1 s hs1).1 with h1 | h1
          · exact .inr (pairOk_pass (p := s) (q := (i, q.2)) h1 (hnr s (List.mem_append.2 (.inl hs1))))
          · exact .inl h1.1
        obtain ⟨e1, h1, v, h2, hy, hsm⟩ := early (fun y hy n hn => by
          obtain ⟨s, hs1, rfl⟩ := List.mem_map.1 hy
          rcases hpass s hs1 with h1 | h1
          · rw [hidx s (List.mem_append.2 (.inl hs1)) p hpm h1] at hn
            exact pa1 n hn
          · simp only [mayPass, Bool.and_eq_true] at h1
            exact (RO.apart_spec h1.1).1 n hn) ho'
        obtain ⟨vq, z, cs, hv, hg, hall⟩ := mk_inv (isMk_spec hqm).2 (mk_yld hqm hy)
        have hall2 : ∀ ro2 h2, op1 ro2 e h2 q.2.o = some (vq h2.nx, h2.new (.cells z cs)) := fun ro2 h2 => by
          rw [op1_same q.2.o (e' := e1) (fun n hn => hsm n (by unfold RO.reads; exact List.mem_append.2 (.inl hn)))]
          exact hall ro2 h2
        refine enterB hk hs hroi hqm hv hg (hall2 _ _) fun a' w' py hs' hpe' => ?_
        refine drawB_sound hk heb hQ (p := p) (q := q) hqm hpq hp3 fuel l r (listed.setIfInBounds i true) e h ρ a' w' e2 py hlen' hpl hls' ?_ (fun s hs1 => ?_) (fun s hs1 => ?_) hpass hρ hnx hs' hpe' (hall2 ro) (by simpa using ho') he
        · refine Pairs.mono (fun s hs1 t ht hst => ?_) hp2
          rcases hst.1 with h3 | h3
          · exact h3
          · exact absurd (h3.2.trans hiq.symm) (hne t ht)
        · rcases hcl s (hmem s hs1) with h3 | h3 | h3
          · exact absurd (h3.trans hiq.symm) (hne s hs1)
          · exact .inl h3
          · exact .inr h3
        · rcases hap s (hmem s hs1) with h3 | h3 | h3 | h3 | h3
          · exact absurd (h3.trans hiq.symm) (hne s hs1)
          · exact .inl h3
          · exact .inr (.inl h3)
          · exact .inr (.inr h3)
          · exact absurd h3 (by rw [← hiq]; exact hnr s (hmem s hs1))
      · obtain ⟨v, h1, e3, hy, hrest, heq⟩ := front hk hs.wf (fun y hy => by
          obtain ⟨s, hs1, rfl⟩ := List.mem_map.1 hy
          rcases (hp1 s hs1).1 with h3 | h3
          · exact pairOk_pass h3 (hnr s (List.mem_append.2 (.inl hs1)))
          · exact absurd h3.2 hiq) ho'
        refine yld_sound hk hs hroi hy fun a' w' ρ' _ h3 h4 hs' => ?_
        by_cases hip : i = p.1
        · refine draw_sound (Q := Q) hk heb (ρ0 := ρ0) (nx0 := nx0) hQ fuel (l ++ r) (listed.setIfInBounds i true) _ _ ρ' a' w' e3 hlen' ?_ hls'.nd hls'.ro hls'.sz hls'.li hls'.cl (fun b hb => by rw [h3 b (by omega), hρ b hb]) (by omega) hs' (by simpa using hrest) (heq.symm.trans he)
          refine Pairs.mono (fun s hs1 t ht hst => ?_) hp2
          rcases hst.1 with h5 | h5
          · exact h5
          · exact absurd (h5.1.trans hip.symm) (hne s hs1)
        · have hstay : ∀ t ∈ l ++ (i, x) :: r, t.1 ≠ i → t ∈ l ++ r := fun t ht hti => by
            rcases List.mem_append.1 ht with h5 | h5
            · exact List.mem_append.2 (.inl h5)
            · rcases List.mem_cons.1 h5 with h5 | h5
              · exact absurd (by rw [h5]) hti
              · exact List.mem_append.2 (.inr h5)
          exact ih (l ++ r) (listed.setIfInBounds i true) _ h1 ρ' a' w' e3 hlen' (hstay p hpm (Ne.symm hip)) (hstay q hqm2 (Ne.symm hiq)) hls' hp2 (fun s hs1 => hcl s (hmem s hs1)) (fun s hs1 => hap s (hmem s hs1))
            (fun b hb => by rw [h3 b (by omega), hρ b hb]) (by omega) hs' (by simpa using hrest) (heq.symm.trans he)

omit [Dr] in
theorem standsOn_reach {all : List Oper} {i j : Nat} (h : standsOn (cloGo [] all) i j = true) : Reach all j i := by
  unfold standsOn at h
  split at h
  · rename_i l hl
    obtain ⟨q, hq, hqe⟩ := List.any_eq_true.1 h
    have : i = q := Nat.eq_of_beq_eq_true hqe
    subst this
    exact cloGo_spec (done := []) (acc := []) rfl rfl (fun i l hi => by simp at hi) j l hl _ hq
  · cases h

omit [Dr] in
theorem draw2_base {all : List Oper} {xs : List Nat} {items : List (Nat × RO)} (h : draw2Ok all xs items = true) : nodupB xs = true ∧ upTo all.length xs = true ∧ edgesBack 0 all = true := by
  unfold draw2Ok at h
  simp only [Bool.and_eq_true] at h
  exact ⟨h.1.1.1, h.1.1.2, h.1.2⟩

omit [Dr] in
theorem pairs2_spec {clo : List (List Nat)} {p q : Nat} : ∀ {l : List (Nat × RO)}, pairs2 clo p q l = true → Pairs (fun x y => (pairOk clo x y = true ∨ (x.1 = p ∧ y.1 = q)) ∧ ¬ (x.1 = q ∧ y.1 = p)) l
  | [], _ => trivial
  | x :: r, h => by
    simp only [pairs2, Bool.and_eq_true] at h
    refine ⟨fun y hy => ?_, pairs2_spec h.2⟩
    have h1 := List.all_eq_true.1 h.1 y hy
    simp only [Bool.and_eq_true, Bool.or_eq_true, Bool.not_eq_true', Bool.and_eq_false_iff] at h1
    refine ⟨?_, fun ⟨e1, e2⟩ => ?_⟩
    · rcases h1.1 with h2 | h2
      · exact .inl h2
      · exact .inr ⟨Nat.eq_of_beq_eq_true h2.1, Nat.eq_of_beq_eq_true h2.2⟩
    · subst e1 e2
      rcases h1.2 with h2 | h2 <;> simp at h2

omit [Dr] in
theorem getD_rep {n j : Nat} (h : j < n) : (Array.replicate n false).getD j true = false := by
  simp [Array.getD_eq_getD_getElem?, h]

theorem draw2_sound (hk : CallOk P k) {an : An} {id : Nat} {all : List Oper} {Q : Exit → Act → World → Prop} {xs : List Nat} {items : List (Nat × RO)} (hd : draw2Ok all xs items = true)
    (hnd : nodupB (items.map (·.1)) = true) (hup : ∀ i, i < all.length → i ∈ items.map (·.1)) (hlen : items.length ≤ all.length)
    (hro : ∀ p ∈ items, ∃ o, all[p.1]? = some o ∧ roOf P an nt id all p.1 o = some p.2)
    {e' : Env} (hs : St P B w0 ro nt ρ e h a w) (ho : ops k ro (items.map (·.2)) e h = some (e', h'))
    (hQ : ∀ a' w' ρ', (∀ b, b < h.nx → ρ' b = ρ b) → h.nx ≤ h'.nx → St P B w0 ro nt ρ' e' h' a' w' → Q .normal a' w') :
    wpAny P .any all.toArray Q all.length (Array.replicate all.length false) a w := by
  obtain ⟨_, _, heb⟩ := draw2_base hd
  unfold draw2Ok at hd
  simp only [Bool.and_eq_true] at hd
  obtain ⟨p, hpm, hd2⟩ := List.any_eq_true.1 hd.2
  obtain ⟨q, hqm, hd3⟩ := List.any_eq_true.1 hd2
  simp only [draw2At, Bool.and_eq_true, Bool.not_eq_true'] at hd3
  obtain ⟨⟨⟨⟨⟨hmk, hap⟩, hc3⟩, hne⟩, hps⟩, hall⟩ := hd3
  have hne' : p.1 ≠ q.1 := fun e => by rw [e] at hne; simp at hne
  have hit : ∀ s ∈ items, s.1 = q.1 ∨ s.1 = p.1 ∨ (s.2.o.cls = 0 ∧ (Reach all s.1 p.1 ∨ q.2.apart s.2 = true ∨ Reach all q.1 s.1)) := fun s hs => by
    have h1 := List.all_eq_true.1 hall s hs
    simp only [Bool.or_eq_true, Bool.and_eq_true, beq_iff_eq] at h1
    rcases h1 with (h1 | h1) | ⟨h1, h2⟩
    · exact .inl (Nat.eq_of_beq_eq_true h1)
    · exact .inr (.inl (Nat.eq_of_beq_eq_true h1))
    · refine .inr (.inr ⟨h1, ?_⟩)
      rcases h2 with (h2 | h2) | h2
      · exact .inl (standsOn_reach h2)
      · exact .inr (.inl h2)
      · exact .inr (.inr (standsOn_reach h2))
  refine drawA_sound hk heb (ρ0 := ρ) (nx0 := h.nx) hQ hmk hap (Nat.le_of_ble_eq_true hc3) hne' all.length items _ e h ρ a w e' hlen hpm hqm ⟨hnd, hro, by simp, fun i hi => ?_, fun i o hi ho2 => ?_⟩ (pairs2_spec hps)
    (fun s hs => by
      rcases hit s hs with h1 | h1 | h1
      · exact .inl h1
      · exact .inr (.inl h1)
      · exact .inr (.inr h1.1))
    (fun s hs => by
      rcases hit s hs with h1 | h1 | h1
      · exact .inl h1
      · exact .inr (.inl h1)
      · exact .inr (.inr h1.2)) (fun _ _ => rfl) (Nat.le_refl _) hs ho (EnvEq.refl _)
  · rw [getD_rep hi]
    exact ⟨fun _ => hup i hi, fun _ => rfl⟩
  · exfalso
    have hil : i < all.length := (List.getElem?_eq_some_iff.1 ho2).1
    rw [getD_rep hil] at hi
    cases hi

omit [Dr] in
theorem rangeL_mem : ∀ {n i j : Nat}, i ≤ j → j < i + n → j ∈ rangeL i n
  | 0, i, j, h1, h2 => by omega
  | n + 1, i, j, h1, h2 => by
    simp only [rangeL]
    by_cases e : j = i
    · subst e; exact List.mem_cons_self ..
    · exact List.mem_cons_of_mem _ (rangeL_mem (by omega) (by omega))

omit [Dr] in
theorem upTo_mem {xs : List Nat} : ∀ {n i : Nat}, upTo n xs = true → i < n → i ∈ xs
  | 0, i, _, h => by omega
  | n + 1, i, hu, h => by
    simp only [upTo, Bool.and_eq_true, List.any_eq_true] at hu
    obtain ⟨⟨y, hy, hye⟩, hu⟩ := hu
    have : n = y := Nat.eq_of_beq_eq_true hye
    subst this
    by_cases e : i = n
    · subst e; exact hy
    · exact upTo_mem hu (by omega)

/-- How a piece of code ends. -/
def exOf : X → Exit
  | .nrm => .normal
  | .exit id => .exit id
  | .ret => .ret

/-- A region. -/
theorem region_sound (hk : CallOk P k) (hm : P.follows .mixedOrders = true) {an : An} {id : Nat} {l : Array Oper} {d : Bool} {c : C} (hc : codeOf P an nt (.region id l d) = some c) {n : Nat} {x : X} {e' : Env} (H : exec k ro n c e h = some (x, e', h')) (hs : St P B w0 ro nt ρ e h a w)
    {Q : Exit → Act → World → Prop} (hQ : ∀ a' w' ρ', (∀ b, b < h.nx → ρ' b = ρ b) → h.nx ≤ h'.nx → St P B w0 ro nt ρ' e' h' a' w' → Q (exOf x) a' w') : (Code.region id l d).wp P Q a w := by
  -- what is kept of the slots
  have fin : ∀ {rs : List RO} {dr : Bool} {ks : Option (List Nat)}, exec k ro n (.reg dr ks rs) e h = some (x, e', h') → ∃ e1, ops k ro rs e h = some (e1, h') ∧
      ∀ a' w' ρ', (∀ b, b < h.nx → ρ' b = ρ b) → h.nx ≤ h'.nx → St P B w0 ro nt ρ' e1 h' a' w' → Q .normal a' w' := fun {rs dr ks} H => by
    simp only [exec, Option.bind_eq_some_iff] at H
    obtain ⟨⟨e1, h1⟩, ho, H⟩ := H
    cases ks with
    | none =>
      simp only [Option.some.injEq, Prod.mk.injEq] at H
      obtain ⟨rfl, rfl, rfl⟩ := H
      exact ⟨e1, ho, hQ⟩
    | some ks =>
      simp only [Option.bind_eq_some_iff, Option.some.injEq, Prod.mk.injEq] at H
      obtain ⟨e2, he2, rfl, rfl, rfl⟩ := H
      exact ⟨e1, ho, fun a' w' ρ' h1 h2 hs' => hQ a' w' ρ' h1 h2 ⟨hs'.rel, fun n v hv => hs'.env n v (Env.get_keep he2 n v hv), hs'.glob, hs'.size, hs'.defers⟩⟩
  cases d with
  | false =>
    simp only [codeOf, Option.bind_eq_some_iff, Option.some.injEq] at hc
    obtain ⟨rs, hrs, rfl⟩ := hc
    obtain ⟨e1, ho, hQ'⟩ := fin H
    refine wp_region_list ?_
    have := ops_sound (Q := Q) hk hrs ho hs hQ'
    simpa using this
  | true =>
    simp only [codeOf, Option.bind_eq_some_iff] at hc
    obtain ⟨items, hit, hc⟩ := hc
    split at hc
    case isFalse => cases hc
    rename_i hdo
    simp only [Option.some.injEq] at hc
    subst hc
    have hbase : nodupB ((keepOf id an.ord).getD (rangeL 0 l.toList.length)) = true ∧ upTo l.toList.length ((keepOf id an.ord).getD (rangeL 0 l.toList.length)) = true ∧ edgesBack 0 l.toList = true := by
      rcases Bool.or_eq_true_iff.1 hdo with hdo | hdo
      · simp only [drawOk, Bool.and_eq_true] at hdo
        exact ⟨hdo.1.1.1, hdo.1.1.2, hdo.1.2⟩
      · exact draw2_base hdo
    obtain ⟨hnd, hup, heb⟩ := hbase
    obtain ⟨e1, ho, hQ'⟩ := fin H
    obtain ⟨hmap, hro⟩ := regAt_spec hit
    refine wp_region_any hm ?_
    have hsz : l.size = l.toList.length := by simp
    have hlen : items.length ≤ l.size := by
      -- as many as there are, none twice
      have hlt : ∀ p ∈ items, p.1 < l.toList.length := fun p hp => by
        obtain ⟨o, ho, _⟩ := hro p hp
        rcases Nat.lt_or_ge p.1 l.toList.length with h1 | h1
        · exact h1
        · rw [List.getElem?_eq_none h1] at ho; cases ho
      have key : ∀ (n : Nat) (xs : List Nat), nodupB xs = true → (∀ i ∈ xs, i < n) → xs.length ≤ n := by
        intro n
        induction n with
        | zero =>
          intro xs _ hlt
          cases xs with
          | nil => exact Nat.le_refl _
          | cons x xs => exact absurd (hlt x (by simp)) (by omega)
        | succ n ih =>
          intro xs hnd hlt
          by_cases hm : n ∈ xs
          · obtain ⟨a, b, rfl⟩ := List.append_of_mem hm
            have hnd2 : nodupB (a ++ b) = true ∧ n ∉ a ++ b := by
              clear hlt hm
              induction a with
              | nil => exact ⟨(nodupB_cons hnd).2, (nodupB_cons hnd).1⟩
              | cons x a ih2 =>
                obtain ⟨h4, h5⟩ := nodupB_cons hnd
                obtain ⟨h6, h7⟩ := ih2 h5
                refine ⟨?_, ?_⟩
                · simp only [List.cons_append, nodupB, Bool.and_eq_true, Bool.not_eq_true']
                  refine ⟨?_, h6⟩
                  cases hq : (a ++ b).any (Nat.beq x) with
                  | false => rfl
                  | true =>
                    exfalso
                    obtain ⟨y, hy, hye⟩ := List.any_eq_true.1 hq
                    have : x = y := Nat.eq_of_beq_eq_true hye
                    subst this
                    exact h4 (by
                      rcases List.mem_append.1 hy with hy | hy
                      · exact List.mem_append.2 (.inl hy)
                      · exact List.mem_append.2 (.inr (List.mem_cons_of_mem _ hy)))
                · intro hq
                  rcases List.mem_cons.1 hq with hq | hq
                  · exact h4 (by rw [← hq]; simp)
                  · exact h7 hq
            have := ih (a ++ b) hnd2.1 (fun i hi => by
              have h1 := hlt i (by
                rcases List.mem_append.1 hi with hi | hi
                · exact List.mem_append.2 (.inl hi)
                · exact List.mem_append.2 (.inr (List.mem_cons_of_mem _ hi)))
              have h2 : i ≠ n := fun q => hnd2.2 (q ▸ hi)
              omega)
            simp only [List.length_append, List.length_cons] at this ⊢
            omega
          · have := ih xs hnd (fun i hi => by
              have h1 := hlt i hi
              have h2 : i ≠ n := fun q => hm (q ▸ hi)
              omega)
            omega
      have := key l.toList.length (items.map (·.1)) (by rw [hmap]; exact hnd) (fun i hi => by
        obtain ⟨p, hp, rfl⟩ := List.mem_map.1 hi
        exact hlt p hp)
      rw [hsz]
      simpa using this
    rcases Bool.or_eq_true_iff.1 hdo with hdo | hdo
    · have hpr : pairsOk (cloGo [] l.toList) items = true := by
        simp only [drawOk, Bool.and_eq_true] at hdo
        exact hdo.2
      have := draw_sound (Q := Q) hk heb hQ' l.size items (Array.replicate l.size false) e h ρ a { w with drawn := w.drawn + 1 } e1 hlen (Pairs.of_b hpr) (by rw [hmap]; exact hnd) hro (by simp)
        (fun i hi => by
          have hi' : i < l.size := by simpa using hi
          simp only [Array.getD_eq_getD_getElem?, Array.getElem?_replicate, hi', if_true, Option.getD_some, true_iff]
          rw [hmap]
          exact upTo_mem hup hi)
        (fun i o2 hi ho2 => by
          exfalso
          have hi' : i < l.size := by
            rcases Nat.lt_or_ge i l.size with h1 | h1
            · exact h1
            · rw [List.getElem?_eq_none (by simpa using h1)] at ho2; cases ho2
          simp only [Array.getD_eq_getD_getElem?, Array.getElem?_replicate, hi', if_true, Option.getD_some] at hi
          cases hi)
        (fun _ _ => rfl) (Nat.le_refl _) hs.drew ho (EnvEq.refl _)
      simpa using this
    · have := draw2_sound (Q := Q) hk hdo (by rw [hmap]; exact hnd) (fun i hi => by rw [hmap]; exact upTo_mem hup hi) (by simpa using hlen) hro hs.drew ho hQ'
      simpa using this

/-- Code. -/
theorem exec_sound (hk : CallOk P k) (hm : P.follows .mixedOrders = true) {an : An} {n : Nat} : ∀ (code : Code) {c : C}, codeOf P an nt code = some c → ∀ {e : Env} {h : Hp} {ρ : Nat → Pl} {a : Act} {w : World} {x : X} {e' : Env} {h' : Hp}, exec k ro n c e h = some (x, e', h') → St P B w0 ro nt ρ e h a w →
    ∀ {Q : Exit → Act → World → Prop}, (∀ a' w' ρ', (∀ b, b < h.nx → ρ' b = ρ b) → h.nx ≤ h'.nx → St P B w0 ro nt ρ' e' h' a' w' → Q (exOf x) a' w') → code.wp P Q a w
  | .skip, c, hc, e, h, ρ, a, w, x, e', h', H, hs, Q, hQ => by
    simp only [codeOf, Option.some.injEq] at hc
    subst hc
    simp only [exec, Option.some.injEq, Prod.mk.injEq] at H
    obtain ⟨rfl, rfl, rfl⟩ := H
    exact wp_skip (hQ a w ρ (fun _ _ => rfl) (Nat.le_refl _) hs)
  | .ret, c, hc, e, h, ρ, a, w, x, e', h', H, hs, Q, hQ => by
    simp only [codeOf, Option.some.injEq] at hc
    subst hc
    simp only [exec, Option.some.injEq, Prod.mk.injEq] at H
    obtain ⟨rfl, rfl, rfl⟩ := H
    exact wp_ret (hQ a w ρ (fun _ _ => rfl) (Nat.le_refl _) hs)
  | .exit id, c, hc, e, h, ρ, a, w, x, e', h', H, hs, Q, hQ => by
    simp only [codeOf, Option.some.injEq] at hc
    subst hc
    simp only [exec, Option.some.injEq, Prod.mk.injEq] at H
    obtain ⟨rfl, rfl, rfl⟩ := H
    exact wp_exit (hQ a w ρ (fun _ _ => rfl) (Nat.le_refl _) hs)
  | .seq p q, c, hc, e, h, ρ, a, w, x, e', h', H, hs, Q, hQ => by
    simp only [codeOf, Option.bind_eq_some_iff, Option.some.injEq] at hc
    obtain ⟨cp, hp, cq, hq, rfl⟩ := hc
    simp only [exec, Option.bind_eq_some_iff] at H
    obtain ⟨⟨x1, e1, h1⟩, H1, H⟩ := H
    refine wp_seq (exec_sound hk hm p hp H1 hs fun a1 w1 ρ1 g1 g2 hs1 => ?_)
    cases x1 with
    | nrm =>
      simp only [exOf, Exit.then]
      dsimp only at H
      exact exec_sound hk hm q hq H hs1 fun a2 w2 ρ2 g3 g4 hs2 => hQ a2 w2 ρ2 (fun b hb => by rw [g3 b (by omega), g1 b hb]) (by omega) hs2
    | exit id =>
      simp only [Option.some.injEq, Prod.mk.injEq] at H
      obtain ⟨rfl, rfl, rfl⟩ := H
      exact hQ a1 w1 ρ1 g1 g2 hs1
    | ret =>
      simp only [Option.some.injEq, Prod.mk.injEq] at H
      obtain ⟨rfl, rfl, rfl⟩ := H
      exact hQ a1 w1 ρ1 g1 g2 hs1
  | .cond y p q, c, hc, e, h, ρ, a, w, x, e', h', H, hs, Q, hQ => by
    simp only [codeOf, Option.bind_eq_some_iff, Option.some.injEq] at hc
    obtain ⟨b, hb, cp, hp, cq, hq, rfl⟩ := hc
    simp only [exec, Option.bind_eq_some_iff] at H
    obtain ⟨v, hv, H⟩ := H
    have hr := (ctx_of hs.rel hs.env hs.glob).opd y b v hb hv
    split at H
    · simp only [VR] at hr
      exact wp_cond_true hr (exec_sound hk hm p hp H hs hQ)
    · simp only [VR] at hr
      exact wp_cond_false hr (exec_sound hk hm q hq H hs hQ)
    · cases H
  | .block id p, c, hc, e, h, ρ, a, w, x, e', h', H, hs, Q, hQ => by
    simp only [codeOf, Option.bind_eq_some_iff, Option.some.injEq] at hc
    obtain ⟨cp, hp, rfl⟩ := hc
    simp only [exec, Option.bind_eq_some_iff] at H
    obtain ⟨⟨x1, e1, h1⟩, H1, H⟩ := H
    refine wp_block (exec_sound hk hm p hp H1 hs fun a1 w1 ρ1 g1 g2 hs1 => ?_)
    cases x1 with
    | nrm =>
      simp only [Option.some.injEq, Prod.mk.injEq] at H
      obtain ⟨rfl, rfl, rfl⟩ := H
      exact hQ a1 w1 ρ1 g1 g2 hs1
    | exit i =>
      simp only [exOf, Exit.inBlock]
      cases hb : Nat.beq i id with
      | true =>
        simp only [hb, cond_true, Option.some.injEq, Prod.mk.injEq] at H
        obtain ⟨rfl, rfl, rfl⟩ := H
        rw [if_pos (Nat.eq_of_beq_eq_true hb)]
        exact hQ a1 w1 ρ1 g1 g2 hs1
      | false =>
        simp only [hb, cond_false, Option.some.injEq, Prod.mk.injEq] at H
        obtain ⟨rfl, rfl, rfl⟩ := H
        rw [if_neg (fun q => by rw [q] at hb; simp at hb)]
        exact hQ a1 w1 ρ1 g1 g2 hs1
    | ret =>
      simp only [Option.some.injEq, Prod.mk.injEq] at H
      obtain ⟨rfl, rfl, rfl⟩ := H
      exact hQ a1 w1 ρ1 g1 g2 hs1
  | .loop p, c, hc, e, h, ρ, a, w, x, e', h', H, hs, Q, hQ => by
    simp only [codeOf, Option.bind_eq_some_iff, Option.some.injEq] at hc
    obtain ⟨cp, hp, rfl⟩ := hc
    simp only [exec] at H
    have key : ∀ (m : Nat) {e : Env} {h : Hp} {ρ : Nat → Pl} {a : Act} {w : World}, iter (fun e h => exec k ro n cp e h) m e h = some (x, e', h') → St P B w0 ro nt ρ e h a w →
        (∀ a' w' ρ', (∀ b, b < h.nx → ρ' b = ρ b) → h.nx ≤ h'.nx → St P B w0 ro nt ρ' e' h' a' w' → Q (exOf x) a' w') → Code.rounds P p Q m a w := by
      intro m
      induction m with
      | zero => intro e h ρ a w H _ _; simp [iter] at H
      | succ m ih =>
        intro e h ρ a w H hs hQ
        simp only [iter, Option.bind_eq_some_iff] at H
        obtain ⟨⟨x1, e1, h1⟩, H1, H⟩ := H
        rw [rounds_succ]
        refine exec_sound hk hm p hp H1 hs fun a1 w1 ρ1 g1 g2 hs1 => ?_
        cases x1 with
        | nrm =>
          simp only [exOf, Exit.then]
          dsimp only at H
          exact ih H hs1 fun a2 w2 ρ2 g3 g4 hs2 => hQ a2 w2 ρ2 (fun b hb => by rw [g3 b (by omega), g1 b hb]) (by omega) hs2
        | exit i =>
          simp only [Option.some.injEq, Prod.mk.injEq] at H
          obtain ⟨rfl, rfl, rfl⟩ := H
          exact hQ a1 w1 ρ1 g1 g2 hs1
        | ret =>
          simp only [Option.some.injEq, Prod.mk.injEq] at H
          obtain ⟨rfl, rfl, rfl⟩ := H
          exact hQ a1 w1 ρ1 g1 g2 hs1
    exact wp_loop_rounds n (key n H hs hQ)
  | .region id l d, c, hc, e, h, ρ, a, w, x, e', h', H, hs, Q, hQ => region_sound hk hm hc H hs hQ
  | .rangeFunc .., c, hc, e, h, ρ, a, w, x, e', h', H, hs, Q, hQ => by simp [codeOf] at hc
  | .scope .., c, hc, e, h, ρ, a, w, x, e', h', H, hs, Q, hQ => by simp [codeOf] at hc
  | .label .., c, hc, e, h, ρ, a, w, x, e', h', H, hs, Q, hQ => by simp [codeOf] at hc
  | .goto .., c, hc, e, h, ρ, a, w, x, e', h', H, hs, Q, hQ => by simp [codeOf] at hc
  | .refuse .., c, hc, e, h, ρ, a, w, x, e', h', H, hs, Q, hQ => by simp [codeOf] at hc
end
end Go.Am
