/- Code of the plain machine is what the loaded program's code comes to: regions, branches, blocks, loops; and functions. -/
import Derived.Test.YtochmoadmdmcbaaDoorAm16
namespace Go.Am
open Go Go.RowKit

/-- What is known of a state: slots, heap, variables. -/
structure St (P : Program) (B : Nat) (w0 : World) (ro nt : Nat) (ρ : Nat → Pl) (e : Env) (h : Hp) (a : Act) (w : World) : Prop where
  rel : Rel B w0 ro ρ h w
  env : EnvR ρ h.nx e a.tmps
  glob : GOK P ρ h.nx
  size : a.tmps.size = nt
  defers : a.defers = []

section
variable {P : Program} {k : K} {B : Nat} {w0 w : World} {ro nt : Nat} {ρ : Nat → Pl} {e : Env} {h h' : Hp} {v : V} {a : Act}

theorem St.wf (hs : St P B w0 ro nt ρ e h a w) : WF h := hs.rel.lt

theorem St.eq {e' : Env} (hs : St P B w0 ro nt ρ e h a w) (he : EnvEq e e') : St P B w0 ro nt ρ e' h a w :=
  ⟨hs.rel, fun n v hv => hs.env n v (by rw [he n]; exact hv), hs.glob, hs.size, hs.defers⟩

theorem St.drew (hs : St P B w0 ro nt ρ e h a w) : St P B w0 ro nt ρ e h a { w with drawn := w.drawn + 1 } :=
  ⟨hs.rel.drew, hs.env, hs.glob, hs.size, hs.defers⟩

theorem yielded_rel (hs : St P B w0 ro nt ρ e h a w) {all : List Oper} {g : Option (Nat × Bool)} {g' : Option (Nat × Bool)} (hg : guardOf all g = some g') {o : Oper} (hog : o.guard = g) {b : Bool} (hw : wanted e g' = some b) :
    Region.wanted o (yielded all.toArray a.tmps) = b := by
  cases g with
  | none =>
    simp only [guardOf, Option.some.injEq] at hg
    subst hg
    simp only [wanted, Option.some.injEq] at hw
    subst hw
    simp [Region.wanted, hog]
  | some p =>
    obtain ⟨j, want⟩ := p
    simp only [guardOf] at hg
    split at hg
    case h_2 => cases hg
    rename_i oj hoj
    split at hg
    case h_2 => cases hg
    rename_i d hd
    simp only [Option.some.injEq] at hg
    subst hg
    simp only [wanted, Option.bind_eq_some_iff] at hw
    obtain ⟨x, hx, hw⟩ := hw
    have hr := hs.env d x hx
    have hy : yielded all.toArray a.tmps j = match a.tmps[d]? with | some (.bool b) => some b | _ => none := by
      simp [yielded, hoj, hd]
      rfl
    simp only [Region.wanted, hog, hy]
    split at hw
    · rename_i c
      simp only [Option.some.injEq] at hw
      subst hw
      simp only [VR] at hr
      have : a.tmps[d]? = some (.bool c) := by
        rw [Array.getD_eq_getD_getElem?] at hr
        cases hq : a.tmps[d]? with
        | none => rw [hq] at hr; simp [undef] at hr
        | some u => rw [hq] at hr; simp at hr; rw [hr]
      rw [this]
      cases c <;> cases want <;> rfl
    · simp only [Option.some.injEq] at hw
      subst hw
      simp only [VR] at hr
      obtain ⟨l', hl, hnil⟩ := hr
      have : (match a.tmps[d]? with | some (.bool b) => some b | _ => none) = none := by
        rw [Array.getD_eq_getD_getElem?] at hl
        cases hq : a.tmps[d]? with
        | none => rfl
        | some u => rw [hq] at hl; simp at hl; rw [hl]
      rw [this]
      rfl
    · cases hw

theorem roOf_inv {an : An} {id i : Nat} {all : List Oper} {o : Oper} {r : RO} (H : roOf P an nt id all i o = some r) :
    guardOf all o.guard = some r.g ∧ opOf P (modeOf id i an.mode) o.type o.op = some r.o ∧ r.dst = o.dst ∧ dstOk nt o.dst = true := by
  simp only [roOf, Option.bind_eq_some_iff] at H
  obtain ⟨g, hg, x, hx, H⟩ := H
  obtain ⟨hd, rfl⟩ := ite_some H
  exact ⟨hg, hx, rfl, hd⟩

/-- One operation of a region. -/
theorem yld_sound (hk : CallOk P k) (hs : St P B w0 ro nt ρ e h a w) {an : An} {id i : Nat} {all : List Oper} {o : Oper} {r : RO} (hro : roOf P an nt id all i o = some r) (hy : Yld k ro r e h v h') {K : Act → World → Prop} {Q : Exit → Act → World → Prop}
    (hK : ∀ a' w' ρ', (∀ b, b < h.nx → ρ' b = ρ b) → h.nx ≤ h'.nx → St P B w0 ro nt ρ' (setO e r.dst v) h' a' w' → K a' w') :
    if Region.wanted o (yielded all.toArray a.tmps) then o.wp P a w K Q else K (a.put o.dst undef) w := by
  obtain ⟨hg, hx, hdst, hd⟩ := roOf_inv hro
  have hd' : dstOk a.tmps.size o.dst = true := by rw [hs.size]; exact hd
  rcases hy with ⟨hw, ho⟩ | ⟨hw, rfl, rfl⟩
  · rw [yielded_rel hs hg rfl hw, if_pos rfl]
    refine opX_sound hk hs.rel hs.env hs.glob hx hd' ho fun a' w' ρ' h1 h2 h3 h4 h5 h6 => hK a' w' ρ' h3 h4 ⟨h6, by rw [hdst]; exact h5, hs.glob.mono h3 h4, by rw [h1]; exact hs.size, by rw [h2]; exact hs.defers⟩
  · rw [yielded_rel hs hg rfl hw, if_neg (by simp)]
    refine hK _ _ ρ (fun _ _ => rfl) (Nat.le_refl _) ⟨hs.rel, ?_, hs.glob, by rw [put_size]; exact hs.size, by rw [put_defers']; exact hs.defers⟩
    rw [hdst]
    exact EnvR.put hs.env (by simp only [VR, undef]; exact ⟨#[], rfl, VRs.nil⟩) hd'

/-- A region in the text's order. -/
theorem ops_sound (hk : CallOk P k) {an : An} {id : Nat} {all : List Oper} {Q : Exit → Act → World → Prop} : ∀ {l : List Oper} {i : Nat} {rs : List RO} {e e' : Env} {h h' : Hp} {ρ : Nat → Pl} {a : Act} {w : World}, regOf P an nt id all i l = some rs → ops k ro rs e h = some (e', h') → St P B w0 ro nt ρ e h a w →
    (∀ a' w' ρ', (∀ b, b < h.nx → ρ' b = ρ b) → h.nx ≤ h'.nx → St P B w0 ro nt ρ' e' h' a' w' → Q .normal a' w') → wpList P all.toArray Q l a w
  | [], i, rs, e, e', h, h', ρ, a, w, hrs, ho, hs, hQ => by
    simp only [regOf, Option.some.injEq] at hrs
    subst hrs
    simp only [ops, Option.some.injEq, Prod.mk.injEq] at ho
    obtain ⟨rfl, rfl⟩ := ho
    exact hQ a w ρ (fun _ _ => rfl) (Nat.le_refl _) hs
  | o :: l, i, rs, e, e', h, h', ρ, a, w, hrs, ho, hs, hQ => by
    simp only [regOf, Option.bind_eq_some_iff, Option.some.injEq] at hrs
    obtain ⟨r, hr, rs', hrs', rfl⟩ := hrs
    simp only [ops, Option.bind_eq_some_iff] at ho
    obtain ⟨⟨e1, h1⟩, hst, ho⟩ := ho
    obtain ⟨v, rfl, hy⟩ := step1_iff.1 hst
    simp only at ho
    have := yld_sound hk hs hr hy (K := wpList P all.toArray Q l) (Q := Q) fun a' w' ρ' h3 h4 hs' =>
      ops_sound hk hrs' ho hs' fun a2 w2 ρ2 h5 h6 hs2 => hQ a2 w2 ρ2 (fun b hb => by rw [h5 b (by omega), h3 b hb]) (by omega) hs2
    unfold wpList
    split
    · rename_i hw; rw [if_pos hw] at this; exact .inl this
    · rename_i hw; rw [if_neg hw] at this; exact this

/-! a region that draws -/

theorem nodupB_cons {x : Nat} {r : List Nat} (h : nodupB (x :: r) = true) : x ∉ r ∧ nodupB r = true := by
  simp only [nodupB, Bool.and_eq_true, Bool.not_eq_true'] at h
  refine ⟨fun hm => ?_, h.2⟩
  have : r.any (Nat.beq x) = true := List.any_eq_true.2 ⟨x, hm, by simp⟩
  rw [this] at h
  cases h.1

theorem regAt_spec {an : An} {id : Nat} {all : List Oper} : ∀ {xs : List Nat} {items : List (Nat × RO)}, regAt P an nt id all xs = some items →
    items.map (·.1) = xs ∧ ∀ p ∈ items, ∃ o, all[p.1]? = some o ∧ roOf P an nt id all p.1 o = some p.2
  | [], items, H => by
    simp only [regAt, Option.some.injEq] at H
    subst H
    exact ⟨rfl, fun p hp => by cases hp⟩
  | i :: xs, items, H => by
    simp only [regAt] at H
    split at H
    case h_2 => cases H
    rename_i o ho
    simp only [Option.bind_eq_some_iff, Option.some.injEq] at H
    obtain ⟨x, hx, l, hl, rfl⟩ := H
    obtain ⟨h1, h2⟩ := regAt_spec hl
    refine ⟨by simp [h1], fun p hp => ?_⟩
    rcases List.mem_cons.1 hp with rfl | hp
    · exact ⟨o, ho, hx⟩
    · exact h2 p hp

/-- Pairs of a list whose order is kept. -/
def Pairs (R : Nat × RO → Nat × RO → Prop) : List (Nat × RO) → Prop
  | [] => True
  | p :: r => (∀ q ∈ r, R p q) ∧ Pairs R r

theorem Pairs.of_b {all : List Oper} : ∀ {l : List (Nat × RO)}, pairsOk (cloGo [] all) l = true → Pairs (fun p q => pairOk (cloGo [] all) p q = true) l
  | [], _ => trivial
  | p :: r, h => by
    simp only [pairsOk, Bool.and_eq_true, List.all_eq_true] at h
    exact ⟨h.1, Pairs.of_b h.2⟩
theorem Pairs.mid {R : Nat × RO → Nat × RO → Prop} {q : Nat × RO} : ∀ {l r : List (Nat × RO)}, Pairs R (l ++ q :: r) → (∀ p ∈ l, R p q) ∧ Pairs R (l ++ r)
  | [], r, h => ⟨fun p hp => (by cases hp), h.2⟩
  | p :: l, r, h => by
    obtain ⟨h1, h2⟩ := Pairs.mid h.2
    refine ⟨fun p' hp => ?_, fun q' hq => ?_, h2⟩
    · rcases List.mem_cons.1 hp with rfl | hp
      · exact h.1 q (by simp)
      · exact h1 p' hp
    · exact h.1 q' (by
        rcases List.mem_append.1 hq with hq | hq
        · exact List.mem_append.2 (.inl hq)
        · exact List.mem_append.2 (.inr (List.mem_cons_of_mem _ hq)))

theorem edgesBack_spec : ∀ {l : List Oper} {i j : Nat} {o : Oper}, edgesBack i l = true → l[j]? = some o → ∀ e ∈ o.after, Region.binds .any e = true → e.on < i + j
  | [], i, j, o, _, hj => by simp at hj
  | x :: l, i, j, o, h, hj => by
    simp only [edgesBack, Bool.and_eq_true, List.all_eq_true] at h
    intro e he hb
    cases j with
    | zero =>
      simp at hj
      subst hj
      have := h.1 e (by simpa using he)
      simp only [hb, Bool.not_true, Bool.false_or] at this
      simpa [Nat.blt_eq] using this
    | succ j =>
      have := edgesBack_spec h.2 (by simpa using hj) e he hb
      omega

/-- One operation stands behind another. -/
inductive Reach (all : List Oper) : Nat → Nat → Prop
  | one {i : Nat} {o : Oper} {ed : Edge} : all[i]? = some o → ed ∈ o.after → Region.binds .any ed = true → Reach all i ed.on
  | more {i : Nat} {o : Oper} {ed : Edge} {p : Nat} : all[i]? = some o → ed ∈ o.after → Region.binds .any ed = true → Reach all ed.on p → Reach all i p

theorem insN_mem {x p : Nat} {l : List Nat} (h : p ∈ insN x l) : p = x ∨ p ∈ l := by
  unfold insN at h
  cases hx : l.any (Nat.beq x) with
  | true => rw [hx] at h; exact .inr h
  | false => rw [hx] at h; exact List.mem_cons.1 h

theorem insNs_mem {p : Nat} {r : List Nat} : ∀ {m : List Nat}, p ∈ m.foldr insN r → p ∈ m ∨ p ∈ r
  | [], h => .inr h
  | x :: m, h => by
    rcases insN_mem h with rfl | h
    · exact .inl (List.mem_cons_self ..)
    · rcases insNs_mem h with h | h
      · exact .inl (List.mem_cons_of_mem _ h)
      · exact .inr h

theorem cloEs_spec {all : List Oper} {acc : List (List Nat)} (ha : ∀ i l, acc[i]? = some l → ∀ p ∈ l, Reach all i p) {i : Nat} {o : Oper} (ho : all[i]? = some o) : ∀ {es : List Edge}, (∀ e ∈ es, e ∈ o.after) → ∀ p ∈ cloEs acc es, Reach all i p
  | [], _, p, hp => by cases hp
  | e :: es, he, p, hp => by
    unfold cloEs at hp
    cases hb : Region.binds .any e with
    | false => rw [hb] at hp; exact cloEs_spec ha ho (fun e' h' => he e' (List.mem_cons_of_mem _ h')) p hp
    | true =>
      rw [hb] at hp
      rcases insN_mem hp with rfl | hp
      · exact .one ho (he e (List.mem_cons_self ..)) hb
      · rcases insNs_mem hp with hp | hp
        · cases hq : acc[e.on]? with
          | none => rw [hq] at hp; cases hp
          | some l => rw [hq] at hp; exact .more ho (he e (List.mem_cons_self ..)) hb (ha _ l hq p hp)
        · exact cloEs_spec ha ho (fun e' h' => he e' (List.mem_cons_of_mem _ h')) p hp

theorem cloGo_spec {all : List Oper} : ∀ {r done : List Oper} {acc : List (List Nat)}, all = done ++ r → acc.length = done.length → (∀ i l, acc[i]? = some l → ∀ p ∈ l, Reach all i p) → ∀ i l, (cloGo acc r)[i]? = some l → ∀ p ∈ l, Reach all i p
  | [], _, _, _, _, ha => ha
  | o :: r, done, acc, hd, hl, ha => by
    unfold cloGo
    refine cloGo_spec (r := r) (done := done ++ [o]) (by simp [hd]) (by simp [hl]) fun i l hi p hp => ?_
    rcases Nat.lt_trichotomy i acc.length with h1 | h1 | h1
    · rw [List.getElem?_append_left h1] at hi
      exact ha i l hi p hp
    · subst h1
      simp only [List.getElem?_append_right (Nat.le_refl _), Nat.sub_self, List.getElem?_cons_zero, Option.some.injEq] at hi
      subst hi
      exact cloEs_spec ha (o := o) (by rw [hd, hl]; simp) (fun e he => by simpa using he) p hp
    · rw [List.getElem?_eq_none (by simp; omega)] at hi
      cases hi

theorem reach_listed {all : List Oper} {listed : Array Bool} (hcl : ∀ i o, listed.getD i true = true → all[i]? = some o → ∀ ed ∈ o.after, Region.binds .any ed = true → listed.getD ed.on true = true) {i p : Nat} (h : Reach all i p) : listed.getD i true = true → listed.getD p true = true := by
  induction h with
  | one ho he hb => exact fun hi => hcl _ _ hi ho _ he hb
  | more ho he hb _ ih => exact fun hi => ih (hcl _ _ hi ho _ he hb)

theorem reach_first {all : List Oper} {listed : Array Bool} {i p : Nat} {o : Oper} (ho : all[i]? = some o) (hed : ∀ ed ∈ o.after, Region.binds .any ed = true → listed.getD ed.on true = true) (hcl : ∀ i o, listed.getD i true = true → all[i]? = some o → ∀ ed ∈ o.after, Region.binds .any ed = true → listed.getD ed.on true = true) (h : Reach all i p) : listed.getD p true = true := by
  induction h with
  | one ho2 he2 hb2 => rw [ho] at ho2; cases ho2; exact hed _ he2 hb2
  | more ho2 he2 hb2 hr2 _ => rw [ho] at ho2; cases ho2; exact reach_listed hcl hr2 (hed _ he2 hb2)

theorem draw_sound (hk : CallOk P k) {an : An} {id : Nat} {all : List Oper} {Q : Exit → Act → World → Prop} (heb : edgesBack 0 all = true) {e' : Env} {h' : Hp} {ρ0 : Nat → Pl} {nx0 : Nat}
    (hQ : ∀ a' w' ρ', (∀ b, b < nx0 → ρ' b = ρ0 b) → nx0 ≤ h'.nx → St P B w0 ro nt ρ' e' h' a' w' → Q .normal a' w') :
    ∀ (fuel : Nat) (rem : List (Nat × RO)) (listed : Array Bool) (e : Env) (h : Hp) (ρ : Nat → Pl) (a : Act) (w : World) (e2 : Env), rem.length ≤ fuel →
      Pairs (fun p q => pairOk (cloGo [] all) p q = true) rem → nodupB (rem.map (·.1)) = true → (∀ p ∈ rem, ∃ o, all[p.1]? = some o ∧ roOf P an nt id all p.1 o = some p.2) →
      listed.size = all.length → (∀ i, i < all.length → (listed.getD i true = false ↔ i ∈ rem.map (·.1))) →
      (∀ i o, listed.getD i true = true → all[i]? = some o → ∀ ed ∈ o.after, Region.binds .any ed = true → listed.getD ed.on true = true) →
      (∀ b, b < nx0 → ρ b = ρ0 b) → nx0 ≤ h.nx → St P B w0 ro nt ρ e h a w → ops k ro (rem.map (·.2)) e h = some (e2, h') → EnvEq e2 e' →
      wpAny P .any all.toArray Q fuel listed a w := by
  -- nothing is ready only where nothing is left
  have ready : ∀ (rem : List (Nat × RO)) (listed : Array Bool), (∀ p ∈ rem, p.1 < all.length) → listed.size = all.length → (∀ i, i < all.length → (listed.getD i true = false ↔ i ∈ rem.map (·.1))) → Region.ready .any all.toArray listed = [] → rem = [] := by
    intro rem listed hlt hsz hli hrd
    cases rem with
    | nil => rfl
    | cons p rem =>
      exfalso
      -- the least of what is left
      obtain ⟨m, hm, hmin⟩ : ∃ m, m ∈ (p :: rem).map (·.1) ∧ ∀ j ∈ (p :: rem).map (·.1), m ≤ j := by
        have key : ∀ (l : List Nat), l ≠ [] → ∃ m, m ∈ l ∧ ∀ j ∈ l, m ≤ j := by
          intro l
          induction l with
          | nil => intro h; exact absurd rfl h
          | cons x l ih =>
            intro _
            cases l with
            | nil => exact ⟨x, by simp, fun j hj => by simp at hj; omega⟩
            | cons y l =>
              obtain ⟨m, hm, hmin⟩ := ih (by simp)
              rcases Nat.le_total x m with hx | hx
              · exact ⟨x, by simp, fun j hj => by
                  rcases List.mem_cons.1 hj with rfl | hj
                  · exact Nat.le_refl _
                  · exact Nat.le_trans hx (hmin j hj)⟩
              · exact ⟨m, List.mem_cons_of_mem _ hm, fun j hj => by
                  rcases List.mem_cons.1 hj with rfl | hj
                  · exact hx
                  · exact hmin j hj⟩
        exact key _ (by simp)
      have hml : m < all.length := by
        obtain ⟨q, hq, rfl⟩ := List.mem_map.1 hm
        exact hlt q hq
      obtain ⟨o, ho⟩ : ∃ o, all[m]? = some o := ⟨all[m], List.getElem?_eq_getElem hml⟩
      have hmem : m ∈ Region.ready .any all.toArray listed := by
        unfold Region.ready
        refine List.mem_filter.2 ⟨List.mem_range.2 (by simpa using hml), ?_⟩
        have h1 := (hli m hml).2 hm
        simp only [h1, Bool.not_false, Bool.true_and, List.getElem?_toArray, ho, Option.map_some, Option.getD_some]
        rw [← Array.all_toList, List.all_eq_true]
        intro ed hed
        cases hb : Region.binds .any ed with
        | false => rfl
        | true =>
          have hlt' := edgesBack_spec heb ho ed (by simpa using hed) hb
          simp only [Nat.zero_add] at hlt'
          simp only [Bool.not_true, Bool.false_or]
          have h2 := hli ed.on (by omega)
          have h3 : ¬ (listed.getD ed.on true = false) := fun q => by
            have := hmin _ (h2.1 q); omega
          have h5 : ed.on < listed.size := by omega
          simp only [Array.getD_eq_getD_getElem?, Array.getElem?_eq_getElem h5, Option.getD_some] at h3 ⊢
          simpa using h3
      rw [hrd] at hmem
      cases hmem
  have none_left : ∀ (listed : Array Bool), (∀ i, i < all.length → (listed.getD i true = false ↔ i ∈ ([] : List (Nat × RO)).map (·.1))) → Region.ready .any all.toArray listed = [] := by
    intro listed hli
    unfold Region.ready
    refine List.filter_eq_nil_iff.2 fun i hi => ?_
    have hil : i < all.length := by simpa using List.mem_range.1 hi
    have h1 : ¬ (listed.getD i true = false) := fun q => by
      have := (hli i hil).1 q
      simp at this
    have h2 : listed.getD i true = true := by simpa using h1
    simp [h2]
  intro fuel
  induction fuel with
  | zero =>
    intro rem listed e h ρ a w e2 hlen hpr hnd hro hsz hli hcl hρ hnx hs ho he
    have hrem : rem = [] := List.eq_nil_of_length_eq_zero (by omega)
    subst hrem
    simp only [List.map_nil, ops, Option.some.injEq, Prod.mk.injEq] at ho
    obtain ⟨rfl, rfl⟩ := ho
    exact ⟨none_left listed hli, hQ a w ρ hρ hnx (hs.eq he)⟩
  | succ fuel ih =>
    intro rem listed e h ρ a w e2 hlen hpr hnd hro hsz hli hcl hρ hnx hs ho he
    have hlt : ∀ p ∈ rem, p.1 < all.length := fun p hp => by
      obtain ⟨o, ho, _⟩ := hro p hp
      rcases Nat.lt_or_ge p.1 all.length with h1 | h1
      · exact h1
      · rw [List.getElem?_eq_none h1] at ho; cases ho
    refine ⟨fun hrd => ?_, fun i hi => ?_⟩
    · have hrem := ready rem listed hlt hsz hli hrd
      subst hrem
      simp only [List.map_nil, ops, Option.some.injEq, Prod.mk.injEq] at ho
      obtain ⟨rfl, rfl⟩ := ho
      exact hQ a w ρ hρ hnx (hs.eq he)
    · unfold Region.ready at hi
      obtain ⟨hi1, hi2⟩ := List.mem_filter.1 hi
      have hil : i < all.length := by simpa using List.mem_range.1 hi1
      simp only [Bool.and_eq_true, Bool.not_eq_true', List.getElem?_toArray] at hi2
      obtain ⟨hun, hedges⟩ := hi2
      have him := (hli i hil).1 hun
      obtain ⟨⟨i', x⟩, hmem, rfl⟩ := List.mem_map.1 him
      simp only at hil hun hedges him
      obtain ⟨l, r, rfl⟩ := List.append_of_mem hmem
      obtain ⟨o, ho1, hro1⟩ := hro (i', x) hmem
      simp only at ho1 hro1
      obtain ⟨hp1, hp2⟩ := Pairs.mid hpr
      -- all that it stands behind has been told
      have hed : ∀ ed ∈ o.after, Region.binds .any ed = true → listed.getD ed.on true = true := fun ed hed hb => by
        have hon := edgesBack_spec heb ho1 ed hed hb
        simp only [ho1, Option.map_some, Option.getD_some] at hedges
        rw [← Array.all_toList, List.all_eq_true] at hedges
        have h2 := hedges ed (by simpa using hed)
        simp only [hb, Bool.not_true, Bool.false_or] at h2
        have h5 : ed.on < listed.size := by omega
        simp only [Array.getD_eq_getD_getElem?, Array.getElem?_eq_getElem h5, Option.getD_some] at h2 ⊢
        exact h2
      -- what stands ahead may be passed
      have hpass : ∀ y ∈ l.map (·.2), mayPass y x = true := fun y hy => by
        obtain ⟨p, hp, rfl⟩ := List.mem_map.1 hy
        have h1 := hp1 p hp
        simp only [pairOk, Bool.or_eq_true] at h1
        rcases h1 with h1 | h1
        · exfalso
          cases hc : (cloGo [] all)[i']? with
          | none => rw [hc] at h1; cases h1
          | some cl =>
            rw [hc] at h1
            simp only [List.any_eq_true] at h1
            obtain ⟨q, hq, hqe⟩ := h1
            have hqe' : p.1 = q := Nat.eq_of_beq_eq_true hqe
            subst hqe'
            have hr : Reach all i' p.1 := cloGo_spec (done := []) (acc := []) rfl rfl (fun i l hi => by simp at hi) i' cl hc _ hq
            have hlst : listed.getD p.1 true = true := reach_first ho1 hed hcl hr
            have hpl := hlt p (by simp [hp])
            have h3 := (hli p.1 hpl).2 (List.mem_map.2 ⟨p, List.mem_append.2 (.inl hp), rfl⟩)
            rw [hlst] at h3
            cases h3
        · exact h1
      simp only [List.map_append, List.map_cons] at ho
      obtain ⟨v, h1, e3, hy, hrest, heq⟩ := front hk hs.wf hpass ho
      rw [← List.map_append] at hrest
      have hnd' : nodupB ((l ++ r).map (·.1)) = true ∧ i' ∉ (l ++ r).map (·.1) := by
        clear hrest hy hpass hp1 hp2 hmem him hun hedges hpr hro hli hlt ho hlen hi hi1
        induction l with
        | nil =>
          simp only [List.nil_append, List.map_cons] at hnd
          exact ⟨(nodupB_cons hnd).2, (nodupB_cons hnd).1⟩
        | cons p l ih2 =>
          simp only [List.cons_append, List.map_cons] at hnd
          obtain ⟨h4, h5⟩ := nodupB_cons hnd
          obtain ⟨h6, h7⟩ := ih2 h5
          refine ⟨?_, ?_⟩
          · simp only [List.cons_append, List.map_cons, nodupB, Bool.and_eq_true, Bool.not_eq_true']
            refine ⟨?_, h6⟩
            cases hq : ((l ++ r).map (·.1)).any (Nat.beq p.1) with
            | false => rfl
            | true =>
              exfalso
              obtain ⟨y, hy, hye⟩ := List.any_eq_true.1 hq
              have : p.1 = y := Nat.eq_of_beq_eq_true hye
              subst this
              exact h4 (by
                rw [List.map_append] at hy ⊢
                rcases List.mem_append.1 hy with hy | hy
                · exact List.mem_append.2 (.inl hy)
                · exact List.mem_append.2 (.inr (by simp only [List.map_cons]; exact List.mem_cons_of_mem _ hy)))
          · intro hq
            simp only [List.cons_append, List.map_cons] at hq
            rcases List.mem_cons.1 hq with hq | hq
            · exact h4 (by rw [← hq, List.map_append]; exact List.mem_append.2 (.inr (by simp)))
            · exact h7 hq
      have hgo := yld_sound hk hs hro1 hy (K := wpAny P .any all.toArray Q fuel (listed.setIfInBounds i' true)) (Q := Q) fun a' w' ρ' h3 h4 hs' =>
        ih (l ++ r) (listed.setIfInBounds i' true) _ _ ρ' a' w' e3 (by simp only [List.length_append, List.length_cons] at hlen ⊢; omega) hp2 hnd'.1
          (fun p hp => hro p (by
            rcases List.mem_append.1 hp with hp | hp
            · exact List.mem_append.2 (.inl hp)
            · exact List.mem_append.2 (.inr (List.mem_cons_of_mem _ hp))))
          (by simpa using hsz)
          (fun j hj => by
            have hlj := hli j hj
            by_cases hji : i' = j
            · subst hji
              have : i' < listed.size := by omega
              simp only [Array.getD_eq_getD_getElem?, Array.getElem?_setIfInBounds, this, if_true, Option.getD_some]
              exact ⟨fun q => (by cases q), fun q => absurd q hnd'.2⟩
            · rw [Array.getD_eq_getD_getElem?, Array.getElem?_setIfInBounds_ne hji, ← Array.getD_eq_getD_getElem?, hlj]
              simp only [List.map_append, List.map_cons, List.mem_append, List.mem_cons]
              exact ⟨fun q => by
                rcases q with q | q | q
                · exact .inl q
                · exact absurd q.symm hji
                · exact .inr q, fun q => by
                rcases q with q | q
                · exact .inl q
                · exact .inr (.inr q)⟩)
          (fun j o2 hj ho2 ed hed2 hb2 => by
            have mono : ∀ m, listed.getD m true = true → (listed.setIfInBounds i' true).getD m true = true := fun m hm => by
              by_cases hmi : i' = m
              · subst hmi
                have : i' < listed.size := by omega
                simp only [Array.getD_eq_getD_getElem?, Array.getElem?_setIfInBounds, this, if_true, Option.getD_some]
              · rw [Array.getD_eq_getD_getElem?, Array.getElem?_setIfInBounds_ne hmi, ← Array.getD_eq_getD_getElem?]
                exact hm
            by_cases hji : i' = j
            · subst hji
              rw [ho1] at ho2
              cases ho2
              exact mono _ (hed ed hed2 hb2)
            · rw [Array.getD_eq_getD_getElem?, Array.getElem?_setIfInBounds_ne hji, ← Array.getD_eq_getD_getElem?] at hj
              exact mono _ (hcl j o2 hj ho2 ed hed2 hb2))
          (fun b hb => by rw [h3 b (by omega), hρ b hb]) (by omega) hs' hrest (heq.symm.trans he)
      unfold wpOp
      simp only [List.getElem?_toArray, ho1]
      split
      · rename_i hw; rw [if_pos hw] at hgo; exact .inl hgo
      · rename_i hw; rw [if_neg hw] at hgo; exact hgo

theorem rangeL_mem : ∀ {n i j : Nat}, i ≤ j → j < i + n → j ∈ rangeL i n
  | 0, i, j, h1, h2 => by omega
  | n + 1, i, j, h1, h2 => by
    simp only [rangeL]
    by_cases e : j = i
    · subst e; exact List.mem_cons_self ..
    · exact List.mem_cons_of_mem _ (rangeL_mem (by omega) (by omega))

theorem upTo_mem {xs : List Nat} : ∀ {n i : Nat}, upTo n xs = true → i < n → i ∈ xs
  | 0, i, _, h => by omega
  | n + 1, i, hu, h => by
    simp only [upTo, Bool.and_eq_true, List.any_eq_true] at hu
    obtain ⟨⟨y, hy, hye⟩, hu⟩ := hu
    have : n = y := Nat.eq_of_beq_eq_true hye
    subst this
    by_cases e : i = n
    · subst e; exact hy
    · exact upTo_mem hu (by omega)

/-- How a piece of code ends. -/
def exOf : X → Exit
  | .nrm => .normal
  | .exit id => .exit id
  | .ret => .ret

/-- A region. -/
theorem region_sound (hk : CallOk P k) (hm : P.follows .mixedOrders = true) {an : An} {id : Nat} {l : Array Oper} {d : Bool} {c : C} (hc : codeOf P an nt (.region id l d) = some c) {n : Nat} {x : X} {e' : Env} (H : exec k ro n c e h = some (x, e', h')) (hs : St P B w0 ro nt ρ e h a w)
    {Q : Exit → Act → World → Prop} (hQ : ∀ a' w' ρ', (∀ b, b < h.nx → ρ' b = ρ b) → h.nx ≤ h'.nx → St P B w0 ro nt ρ' e' h' a' w' → Q (exOf x) a' w') : (Code.region id l d).wp P Q a w := by
  -- what is kept of the slots
  have fin : ∀ {rs : List RO} {dr : Bool} {ks : Option (List Nat)}, exec k ro n (.reg dr ks rs) e h = some (x, e', h') → ∃ e1, ops k ro rs e h = some (e1, h') ∧
      ∀ a' w' ρ', (∀ b, b < h.nx → ρ' b = ρ b) → h.nx ≤ h'.nx → St P B w0 ro nt ρ' e1 h' a' w' → Q .normal a' w' := fun {rs dr ks} H => by
    simp only [exec, Option.bind_eq_some_iff] at H
    obtain ⟨⟨e1, h1⟩, ho, H⟩ := H
    cases ks with
    | none =>
      simp only [Option.some.injEq, Prod.mk.injEq] at H
      obtain ⟨rfl, rfl, rfl⟩ := H
      exact ⟨e1, ho, hQ⟩
    | some ks =>
      simp only [Option.bind_eq_some_iff, Option.some.injEq, Prod.mk.injEq] at H
      obtain ⟨e2, he2, rfl, rfl, rfl⟩ := H
      exact ⟨e1, ho, fun a' w' ρ' h1 h2 hs' => hQ a' w' ρ' h1 h2 ⟨hs'.rel, fun n v hv => hs'.env n v (Env.get_keep he2 n v hv), hs'.glob, hs'.size, hs'.defers⟩⟩
  cases d with
  | false =>
    simp only [codeOf, Option.bind_eq_some_iff, Option.some.injEq] at hc
    obtain ⟨rs, hrs, rfl⟩ := hc
    obtain ⟨e1, ho, hQ'⟩ := fin H
    refine wp_region_list ?_
    have := ops_sound (Q := Q) hk hrs ho hs hQ'
    simpa using this
  | true =>
    simp only [codeOf, Option.bind_eq_some_iff] at hc
    obtain ⟨items, hit, hc⟩ := hc
    split at hc
    case isFalse => cases hc
    rename_i hdo
    simp only [Option.some.injEq] at hc
    subst hc
    simp only [drawOk, Bool.and_eq_true] at hdo
    obtain ⟨⟨⟨hnd, hup⟩, heb⟩, hpr⟩ := hdo
    obtain ⟨e1, ho, hQ'⟩ := fin H
    obtain ⟨hmap, hro⟩ := regAt_spec hit
    refine wp_region_any hm ?_
    have hsz : l.size = l.toList.length := by simp
    have hlen : items.length ≤ l.size := by
      -- as many as there are, none twice
      have hlt : ∀ p ∈ items, p.1 < l.toList.length := fun p hp => by
        obtain ⟨o, ho, _⟩ := hro p hp
        rcases Nat.lt_or_ge p.1 l.toList.length with h1 | h1
        · exact h1
        · rw [List.getElem?_eq_none h1] at ho; cases ho
      have key : ∀ (n : Nat) (xs : List Nat), nodupB xs = true → (∀ i ∈ xs, i < n) → xs.length ≤ n := by
        intro n
        induction n with
        | zero =>
          intro xs _ hlt
          cases xs with
          | nil => exact Nat.le_refl _
          | cons x xs => exact absurd (hlt x (by simp)) (by omega)
        | succ n ih =>
          intro xs hnd hlt
          by_cases hm : n ∈ xs
          · obtain ⟨a, b, rfl⟩ := List.append_of_mem hm
            have hnd2 : nodupB (a ++ b) = true ∧ n ∉ a ++ b := by
              clear hlt hm
              induction a with
              | nil => exact ⟨(nodupB_cons hnd).2, (nodupB_cons hnd).1⟩
              | cons x a ih2 =>
                obtain ⟨h4, h5⟩ := nodupB_cons hnd
                obtain ⟨h6, h7⟩ := ih2 h5
                refine ⟨?_, ?_⟩
                · simp only [List.cons_append, nodupB, Bool.and_eq_true, Bool.not_eq_true']
                  refine ⟨?_, h6⟩
                  cases hq : (a ++ b).any (Nat.beq x) with
                  | false => rfl
                  | true =>
                    exfalso
                    obtain ⟨y, hy, hye⟩ := List.any_eq_true.1 hq
                    have : x = y := Nat.eq_of_beq_eq_true hye
                    subst this
                    exact h4 (by
                      rcases List.mem_append.1 hy with hy | hy
                      · exact List.mem_append.2 (.inl hy)
                      · exact List.mem_append.2 (.inr (List.mem_cons_of_mem _ hy)))
                · intro hq
                  rcases List.mem_cons.1 hq with hq | hq
                  · exact h4 (by rw [← hq]; simp)
                  · exact h7 hq
            have := ih (a ++ b) hnd2.1 (fun i hi => by
              have h1 := hlt i (by
                rcases List.mem_append.1 hi with hi | hi
                · exact List.mem_append.2 (.inl hi)
                · exact List.mem_append.2 (.inr (List.mem_cons_of_mem _ hi)))
              have h2 : i ≠ n := fun q => hnd2.2 (q ▸ hi)
              omega)
            simp only [List.length_append, List.length_cons] at this ⊢
            omega
          · have := ih xs hnd (fun i hi => by
              have h1 := hlt i hi
              have h2 : i ≠ n := fun q => hm (q ▸ hi)
              omega)
            omega
      have := key l.toList.length (items.map (·.1)) (by rw [hmap]; exact hnd) (fun i hi => by
        obtain ⟨p, hp, rfl⟩ := List.mem_map.1 hi
        exact hlt p hp)
      rw [hsz]
      simpa using this
    have := draw_sound (Q := Q) hk heb hQ' l.size items (Array.replicate l.size false) e h ρ a { w with drawn := w.drawn + 1 } e1 hlen (Pairs.of_b hpr) (by rw [hmap]; exact hnd) hro (by simp)
      (fun i hi => by
        have hi' : i < l.size := by simpa using hi
        simp only [Array.getD_eq_getD_getElem?, Array.getElem?_replicate, hi', if_true, Option.getD_some, true_iff]
        rw [hmap]
        exact upTo_mem hup hi)
      (fun i o2 hi ho2 => by
        exfalso
        have hi' : i < l.size := by
          rcases Nat.lt_or_ge i l.size with h1 | h1
          · exact h1
          · rw [List.getElem?_eq_none (by simpa using h1)] at ho2; cases ho2
        simp only [Array.getD_eq_getD_getElem?, Array.getElem?_replicate, hi', if_true, Option.getD_some] at hi
        cases hi)
      (fun _ _ => rfl) (Nat.le_refl _) hs.drew ho (EnvEq.refl _)
    simpa using this

/-- Code. -/
theorem exec_sound (hk : CallOk P k) (hm : P.follows .mixedOrders = true) {an : An} {n : Nat} : ∀ (code : Code) {c : C}, codeOf P an nt code = some c → ∀ {e : Env} {h : Hp} {ρ : Nat → Pl} {a : Act} {w : World} {x : X} {e' : Env} {h' : Hp}, exec k ro n c e h = some (x, e', h') → St P B w0 ro nt ρ e h a w →
    ∀ {Q : Exit → Act → World → Prop}, (∀ a' w' ρ', (∀ b, b < h.nx → ρ' b = ρ b) → h.nx ≤ h'.nx → St P B w0 ro nt ρ' e' h' a' w' → Q (exOf x) a' w') → code.wp P Q a w
  | .skip, c, hc, e, h, ρ, a, w, x, e', h', H, hs, Q, hQ => by
    simp only [codeOf, Option.some.injEq] at hc
    subst hc
    simp only [exec, Option.some.injEq, Prod.mk.injEq] at H
    obtain ⟨rfl, rfl, rfl⟩ := H
    exact wp_skip (hQ a w ρ (fun _ _ => rfl) (Nat.le_refl _) hs)
  | .ret, c, hc, e, h, ρ, a, w, x, e', h', H, hs, Q, hQ => by
    simp only [codeOf, Option.some.injEq] at hc
    subst hc
    simp only [exec, Option.some.injEq, Prod.mk.injEq] at H
    obtain ⟨rfl, rfl, rfl⟩ := H
    exact wp_ret (hQ a w ρ (fun _ _ => rfl) (Nat.le_refl _) hs)
  | .exit id, c, hc, e, h, ρ, a, w, x, e', h', H, hs, Q, hQ => by
    simp only [codeOf, Option.some.injEq] at hc
    subst hc
    simp only [exec, Option.some.injEq, Prod.mk.injEq] at H
    obtain ⟨rfl, rfl, rfl⟩ := H
    exact wp_exit (hQ a w ρ (fun _ _ => rfl) (Nat.le_refl _) hs)
  | .seq p q, c, hc, e, h, ρ, a, w, x, e', h', H, hs, Q, hQ => by
    simp only [codeOf, Option.bind_eq_some_iff, Option.some.injEq] at hc
    obtain ⟨cp, hp, cq, hq, rfl⟩ := hc
    simp only [exec, Option.bind_eq_some_iff] at H
    obtain ⟨⟨x1, e1, h1⟩, H1, H⟩ := H
    refine wp_seq (exec_sound hk hm p hp H1 hs fun a1 w1 ρ1 g1 g2 hs1 => ?_)
    cases x1 with
    | nrm =>
      simp only [exOf, Exit.then]
      dsimp only at H
      exact exec_sound hk hm q hq H hs1 fun a2 w2 ρ2 g3 g4 hs2 => hQ a2 w2 ρ2 (fun b hb => by rw [g3 b (by omega), g1 b hb]) (by omega) hs2
    | exit id =>
      simp only [Option.some.injEq, Prod.mk.injEq] at H
      obtain ⟨rfl, rfl, rfl⟩ := H
      exact hQ a1 w1 ρ1 g1 g2 hs1
    | ret =>
      simp only [Option.some.injEq, Prod.mk.injEq] at H
      obtain ⟨rfl, rfl, rfl⟩ := H
      exact hQ a1 w1 ρ1 g1 g2 hs1
  | .cond y p q, c, hc, e, h, ρ, a, w, x, e', h', H, hs, Q, hQ => by
    simp only [codeOf, Option.bind_eq_some_iff, Option.some.injEq] at hc
    obtain ⟨b, hb, cp, hp, cq, hq, rfl⟩ := hc
    simp only [exec, Option.bind_eq_some_iff] at H
    obtain ⟨v, hv, H⟩ := H
    have hr := (ctx_of hs.rel hs.env hs.glob).opd y b v hb hv
    split at H
    · simp only [VR] at hr
      exact wp_cond_true hr (exec_sound hk hm p hp H hs hQ)
    · simp only [VR] at hr
      exact wp_cond_false hr (exec_sound hk hm q hq H hs hQ)
    · cases H
  | .block id p, c, hc, e, h, ρ, a, w, x, e', h', H, hs, Q, hQ => by
    simp only [codeOf, Option.bind_eq_some_iff, Option.some.injEq] at hc
    obtain ⟨cp, hp, rfl⟩ := hc
    simp only [exec, Option.bind_eq_some_iff] at H
    obtain ⟨⟨x1, e1, h1⟩, H1, H⟩ := H
    refine wp_block (exec_sound hk hm p hp H1 hs fun a1 w1 ρ1 g1 g2 hs1 => ?_)
    cases x1 with
    | nrm =>
      simp only [Option.some.injEq, Prod.mk.injEq] at H
      obtain ⟨rfl, rfl, rfl⟩ := H
      exact hQ a1 w1 ρ1 g1 g2 hs1
    | exit i =>
      simp only [exOf, Exit.inBlock]
      cases hb : Nat.beq i id with
      | true =>
        simp only [hb, cond_true, Option.some.injEq, Prod.mk.injEq] at H
        obtain ⟨rfl, rfl, rfl⟩ := H
        rw [if_pos (Nat.eq_of_beq_eq_true hb)]
        exact hQ a1 w1 ρ1 g1 g2 hs1
      | false =>
        simp only [hb, cond_false, Option.some.injEq, Prod.mk.injEq] at H
        obtain ⟨rfl, rfl, rfl⟩ := H
        rw [if_neg (fun q => by rw [q] at hb; simp at hb)]
        exact hQ a1 w1 ρ1 g1 g2 hs1
    | ret =>
      simp only [Option.some.injEq, Prod.mk.injEq] at H
      obtain ⟨rfl, rfl, rfl⟩ := H
      exact hQ a1 w1 ρ1 g1 g2 hs1
  | .loop p, c, hc, e, h, ρ, a, w, x, e', h', H, hs, Q, hQ => by
    simp only [codeOf, Option.bind_eq_some_iff, Option.some.injEq] at hc
    obtain ⟨cp, hp, rfl⟩ := hc
    simp only [exec] at H
    have key : ∀ (m : Nat) {e : Env} {h : Hp} {ρ : Nat → Pl} {a : Act} {w : World}, iter (fun e h => exec k ro n cp e h) m e h = some (x, e', h') → St P B w0 ro nt ρ e h a w →
        (∀ a' w' ρ', (∀ b, b < h.nx → ρ' b = ρ b) → h.nx ≤ h'.nx → St P B w0 ro nt ρ' e' h' a' w' → Q (exOf x) a' w') → Code.rounds P p Q m a w := by
      intro m
      induction m with
      | zero => intro e h ρ a w H _ _; simp [iter] at H
      | succ m ih =>
        intro e h ρ a w H hs hQ
        simp only [iter, Option.bind_eq_some_iff] at H
        obtain ⟨⟨x1, e1, h1⟩, H1, H⟩ := H
        rw [rounds_succ]
        refine exec_sound hk hm p hp H1 hs fun a1 w1 ρ1 g1 g2 hs1 => ?_
        cases x1 with
        | nrm =>
          simp only [exOf, Exit.then]
          dsimp only at H
          exact ih H hs1 fun a2 w2 ρ2 g3 g4 hs2 => hQ a2 w2 ρ2 (fun b hb => by rw [g3 b (by omega), g1 b hb]) (by omega) hs2
        | exit i =>
          simp only [Option.some.injEq, Prod.mk.injEq] at H
          obtain ⟨rfl, rfl, rfl⟩ := H
          exact hQ a1 w1 ρ1 g1 g2 hs1
        | ret =>
          simp only [Option.some.injEq, Prod.mk.injEq] at H
          obtain ⟨rfl, rfl, rfl⟩ := H
          exact hQ a1 w1 ρ1 g1 g2 hs1
    exact wp_loop_rounds n (key n H hs hQ)
  | .region id l d, c, hc, e, h, ρ, a, w, x, e', h', H, hs, Q, hQ => region_sound hk hm hc H hs hQ
  | .rangeFunc .., c, hc, e, h, ρ, a, w, x, e', h', H, hs, Q, hQ => by simp [codeOf] at hc
  | .scope .., c, hc, e, h, ρ, a, w, x, e', h', H, hs, Q, hQ => by simp [codeOf] at hc
  | .label .., c, hc, e, h, ρ, a, w, x, e', h', H, hs, Q, hQ => by simp [codeOf] at hc
  | .goto .., c, hc, e, h, ρ, a, w, x, e', h', H, hs, Q, hQ => by simp [codeOf] at hc
  | .refuse .., c, hc, e, h, ρ, a, w, x, e', h', H, hs, Q, hQ => by simp [codeOf] at hc
end
end Go.Am
