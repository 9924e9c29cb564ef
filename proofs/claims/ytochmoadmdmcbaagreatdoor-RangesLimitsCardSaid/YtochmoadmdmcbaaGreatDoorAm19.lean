/- The plain machine, stepped through: what a piece of code does, told with what holds behind it. -/
import Derived.Test.YtochmoadmdmcbaaGreatDoorAm18
namespace Go.Am
set_option linter.unusedSimpArgs false
set_option linter.unusedVariables false
open Go

section
variable (fs : Nat → Option D)

/-- A call ends, and so. -/
def Ev (ro f : Nat) (args : List V) (h : Hp) (Q : V → Hp → Prop) : Prop :=
  ∃ r h' N, (∀ n, N ≤ n → run fs n ro f args h = some (r, h')) ∧ Q r h'

/-- Code ends, and so. -/
def WP (ro : Nat) (c : C) (e : Env) (h : Hp) (Q : X → Env → Hp → Prop) : Prop :=
  ∃ x e' h' N, (∀ n, N ≤ n → exec (run fs n) ro n c e h = some (x, e', h')) ∧ Q x e' h'

def WPO (ro : Nat) (l : List RO) (e : Env) (h : Hp) (Q : Env → Hp → Prop) : Prop :=
  ∃ e' h' N, (∀ n, N ≤ n → ops (run fs n) ro l e h = some (e', h')) ∧ Q e' h'

end

/-- There is an answer, and so. -/
def OB {α : Type} (x : Option α) (Q : α → Prop) : Prop := ∃ a, x = some a ∧ Q a

section
variable {α β : Type}
@[simp] theorem OB_some {a : α} {Q : α → Prop} : OB (some a) Q = Q a := by simp [OB]
@[simp] theorem OB_none {Q : α → Prop} : OB none Q = False := by simp [OB]
@[simp] theorem OB_bind {x : Option α} {f : α → Option β} {Q : β → Prop} : OB (x.bind f) Q = OB x (fun a => OB (f a) Q) := by
  cases x <;> simp
theorem OB_ite {c : Prop} [Decidable c] {x : Option α} {Q : α → Prop} : OB (if c then x else none) Q = (c ∧ OB x Q) := by
  by_cases h : c <;> simp [h]
theorem OB_ite2 {c : Prop} [Decidable c] {x y : Option α} {Q : α → Prop} : OB (if c then x else y) Q = if c then OB x Q else OB y Q := by
  by_cases h : c <;> simp [h]
theorem OB_cond {c : Bool} {x y : Option α} {Q : α → Prop} : OB (bif c then x else y) Q = if c = true then OB x Q else OB y Q := by
  cases c <;> simp
end

@[simp] theorem Env.get_nil {k : Nat} : Env.get [] k = none := rfl
@[simp] theorem Env.get_cons {c k : Nat} {x : V} {r : Env} : Env.get ((c, x) :: r) k = if c = k then some x else Env.get r k := by
  simp only [Env.get]
  by_cases h : c = k
  · subst h; simp
  · have : Nat.beq c k = false := by cases hb : Nat.beq c k with
      | true => exact absurd (Nat.eq_of_beq_eq_true hb) h
      | false => rfl
    simp [this, h]
@[simp] theorem Env.set_nil {k : Nat} {v : V} : Env.set [] k v = [(k, v)] := rfl
@[simp] theorem Env.set_cons {c k : Nat} {x v : V} {r : Env} : Env.set ((c, x) :: r) k v = if c = k then (c, v) :: r else (c, x) :: Env.set r k v := by
  simp only [Env.set]
  by_cases h : c = k
  · subst h; simp
  · have : Nat.beq c k = false := by cases hb : Nat.beq c k with
      | true => exact absurd (Nat.eq_of_beq_eq_true hb) h
      | false => rfl
    simp [this, h]
@[simp] theorem Env.keep_nil {e : Env} : Env.keep e [] = some [] := rfl
@[simp] theorem Env.keep_cons {e : Env} {k : Nat} {ks : List Nat} : Env.keep e (k :: ks) = (e.get k).bind fun v => (e.keep ks).bind fun r => some ((k, v) :: r) := rfl

section
variable {fs : Nat → Option D} {ro : Nat} {e : Env} {h : Hp}

theorem Ev.mono {f : Nat} {args : List V} {Q Q' : V → Hp → Prop} (H : Ev fs ro f args h Q) (hq : ∀ r h', Q r h' → Q' r h') : Ev fs ro f args h Q' := by
  obtain ⟨r, h', N, h1, h2⟩ := H
  exact ⟨r, h', N, h1, hq _ _ h2⟩

theorem WP.mono {c : C} {Q Q' : X → Env → Hp → Prop} (H : WP fs ro c e h Q) (hq : ∀ x e' h', Q x e' h' → Q' x e' h') : WP fs ro c e h Q' := by
  obtain ⟨x, e', h', N, h1, h2⟩ := H
  exact ⟨x, e', h', N, h1, hq _ _ _ h2⟩

theorem WP_skip {Q : X → Env → Hp → Prop} : WP fs ro .skip e h Q = Q .nrm e h := by
  refine propext ⟨fun ⟨x, e', h', N, h1, h2⟩ => ?_, fun hq => ⟨_, _, _, 0, fun n _ => rfl, hq⟩⟩
  have := h1 N (Nat.le_refl _)
  simp only [exec, Option.some.injEq, Prod.mk.injEq] at this
  obtain ⟨rfl, rfl, rfl⟩ := this
  exact h2
theorem WP_ret {Q : X → Env → Hp → Prop} : WP fs ro .ret e h Q = Q .ret e h := by
  refine propext ⟨fun ⟨x, e', h', N, h1, h2⟩ => ?_, fun hq => ⟨_, _, _, 0, fun n _ => rfl, hq⟩⟩
  have := h1 N (Nat.le_refl _)
  simp only [exec, Option.some.injEq, Prod.mk.injEq] at this
  obtain ⟨rfl, rfl, rfl⟩ := this
  exact h2
theorem WP_exit {id : Nat} {Q : X → Env → Hp → Prop} : WP fs ro (.exit id) e h Q = Q (.exit id) e h := by
  refine propext ⟨fun ⟨x, e', h', N, h1, h2⟩ => ?_, fun hq => ⟨_, _, _, 0, fun n _ => rfl, hq⟩⟩
  have := h1 N (Nat.le_refl _)
  simp only [exec, Option.some.injEq, Prod.mk.injEq] at this
  obtain ⟨rfl, rfl, rfl⟩ := this
  exact h2

/-- What holds where a piece of code has ended as it should; else what the whole wants. -/
def nrmOr (P : Env → Hp → Prop) (Q : X → Env → Hp → Prop) : X → Env → Hp → Prop
  | .nrm => P
  | x => Q x

@[simp] theorem nrmOr_nrm {P : Env → Hp → Prop} {Q : X → Env → Hp → Prop} : nrmOr P Q .nrm e h = P e h := rfl
@[simp] theorem nrmOr_exit {P : Env → Hp → Prop} {Q : X → Env → Hp → Prop} {id : Nat} : nrmOr P Q (.exit id) e h = Q (.exit id) e h := rfl
@[simp] theorem nrmOr_ret {P : Env → Hp → Prop} {Q : X → Env → Hp → Prop} : nrmOr P Q .ret e h = Q .ret e h := rfl

def blkQ (id : Nat) (Q : X → Env → Hp → Prop) : X → Env → Hp → Prop
  | .exit i => if i = id then Q .nrm else Q (.exit i)
  | x => Q x

@[simp] theorem blkQ_nrm {Q : X → Env → Hp → Prop} {id : Nat} : blkQ id Q .nrm e h = Q .nrm e h := rfl
@[simp] theorem blkQ_ret {Q : X → Env → Hp → Prop} {id : Nat} : blkQ id Q .ret e h = Q .ret e h := rfl
@[simp] theorem blkQ_exit {Q : X → Env → Hp → Prop} {i id : Nat} : blkQ id Q (.exit i) e h = if i = id then Q .nrm e h else Q (.exit i) e h := by
  simp only [blkQ]; split <;> rfl

theorem WP_seq {a b : C} {Q : X → Env → Hp → Prop} (H : WP fs ro a e h (nrmOr (fun e' h' => WP fs ro b e' h' Q) Q)) : WP fs ro (.seq a b) e h Q := by
  obtain ⟨x, e1, h1, N, hx, hq⟩ := H
  cases x with
  | nrm =>
    obtain ⟨x2, e2, h2, N2, hx2, hq2⟩ := hq
    refine ⟨x2, e2, h2, max N N2, fun n hn => ?_, hq2⟩
    simp only [exec, hx n (by omega), Option.bind_some, hx2 n (by omega)]
  | exit id => exact ⟨.exit id, e1, h1, N, fun n hn => by simp only [exec, hx n hn, Option.bind_some], hq⟩
  | ret => exact ⟨.ret, e1, h1, N, fun n hn => by simp only [exec, hx n hn, Option.bind_some], hq⟩

theorem WP_cond {x : A} {a b : C} {t : Bool} {Q : X → Env → Hp → Prop} (hx : x.ev e = some (.bool t)) (H : (t = true → WP fs ro a e h Q) ∧ (t = false → WP fs ro b e h Q)) : WP fs ro (.cond x a b) e h Q := by
  cases t with
  | true =>
    obtain ⟨y, e1, h1, N, hy, hq⟩ := H.1 rfl
    exact ⟨y, e1, h1, N, fun n hn => by simp only [exec, hx, Option.bind_some, hy n hn], hq⟩
  | false =>
    obtain ⟨y, e1, h1, N, hy, hq⟩ := H.2 rfl
    exact ⟨y, e1, h1, N, fun n hn => by simp only [exec, hx, Option.bind_some, hy n hn], hq⟩

theorem WP_block {id : Nat} {c : C} {Q : X → Env → Hp → Prop} (H : WP fs ro c e h (blkQ id Q)) : WP fs ro (.block id c) e h Q := by
  obtain ⟨x, e1, h1, N, hx, hq⟩ := H
  cases x with
  | nrm => exact ⟨.nrm, e1, h1, N, fun n hn => by simp only [exec, hx n hn, Option.bind_some], hq⟩
  | ret => exact ⟨.ret, e1, h1, N, fun n hn => by simp only [exec, hx n hn, Option.bind_some], hq⟩
  | exit i =>
    simp only [blkQ] at hq
    by_cases hi : i = id
    · subst hi
      simp only [if_pos] at hq
      exact ⟨.nrm, e1, h1, N, fun n hn => by simp only [exec, hx n hn, Option.bind_some]; simp, hq⟩
    · simp only [hi, if_false] at hq
      refine ⟨.exit i, e1, h1, N, fun n hn => ?_, hq⟩
      have : Nat.beq i id = false := by cases hb : Nat.beq i id with
        | true => exact absurd (Nat.eq_of_beq_eq_true hb) hi
        | false => rfl
      simp only [exec, hx n hn, Option.bind_some, this, cond_false]

/-- A loop, by a measure. -/
theorem WP_loop {c : C} {Q : X → Env → Hp → Prop} (I : Nat → Env → Hp → Prop) (m : Nat) (hI : I m e h)
    (hstep : ∀ m e h, I m e h → WP fs ro c e h (nrmOr (fun e' h' => ∃ m', m' < m ∧ I m' e' h') Q)) : WP fs ro (.loop c) e h Q := by
  have key : ∀ m e h, I m e h → ∃ x e' h' N, (∀ n, N ≤ n → ∀ j, N ≤ j → iter (fun e h => exec (run fs n) ro n c e h) j e h = some (x, e', h')) ∧ Q x e' h' := by
    intro m
    induction m using Nat.strongRecOn with
    | ind m ih =>
      intro e h hI
      obtain ⟨x, e1, h1, N, hx, hq⟩ := hstep m e h hI
      cases x with
      | nrm =>
        obtain ⟨m', hm', hI'⟩ := hq
        obtain ⟨x2, e2, h2, N2, hx2, hq2⟩ := ih m' hm' e1 h1 hI'
        refine ⟨x2, e2, h2, max N (N2 + 1), fun n hn j hj => ?_, hq2⟩
        cases j with
        | zero => omega
        | succ j => simp only [iter, hx n (by omega), Option.bind_some, hx2 n (by omega) j (by omega)]
      | exit id =>
        refine ⟨.exit id, e1, h1, N + 1, fun n hn j hj => ?_, hq⟩
        cases j with
        | zero => omega
        | succ j => simp only [iter, hx n (by omega), Option.bind_some]
      | ret =>
        refine ⟨.ret, e1, h1, N + 1, fun n hn j hj => ?_, hq⟩
        cases j with
        | zero => omega
        | succ j => simp only [iter, hx n (by omega), Option.bind_some]
  obtain ⟨x, e', h', N, hx, hq⟩ := key m e h hI
  exact ⟨x, e', h', N, fun n hn => by simp only [exec]; exact hx n hn n hn, hq⟩

theorem WP_reg {d : Bool} {ks : List Nat} {l : List RO} {Q : X → Env → Hp → Prop} (H : WPO fs ro l e h (fun e' h' => OB (e'.keep ks) fun e'' => Q .nrm e'' h')) : WP fs ro (.reg d (some ks) l) e h Q := by
  obtain ⟨e1, h1, N, hx, e2, he2, hq⟩ := H
  exact ⟨.nrm, e2, h1, N, fun n hn => by simp only [exec, hx n hn, Option.bind_some, he2], hq⟩

theorem WPO_nil {Q : Env → Hp → Prop} (H : Q e h) : WPO fs ro [] e h Q := ⟨e, h, 0, fun _ _ => rfl, H⟩

def isCall : O → Bool
  | .call .. => true
  | _ => false

theorem opX_op1 {k : K} {o : O} (ho : isCall o = false) : opX k ro e h o = op1 ro e h o := by
  cases o <;> first | rfl | (simp [isCall] at ho)

theorem WPO_op {dst : Option Nat} {o : O} {r : List RO} {Q : Env → Hp → Prop} (ho : isCall o = false) (H : OB (op1 ro e h o) fun p => WPO fs ro r (setO e dst p.1) p.2 Q) : WPO fs ro (⟨dst, none, o⟩ :: r) e h Q := by
  obtain ⟨⟨v, h1⟩, hv, e2, h2, N, hx, hq⟩ := H
  refine ⟨e2, h2, N, fun n hn => ?_, hq⟩
  simp only [ops, step1, wanted, Option.bind_some, if_true, opX_op1 ho, hv]
  exact hx n hn

theorem WPO_gop {dst : Option Nat} {t : Nat} {w : Bool} {o : O} {r : List RO} {Q : Env → Hp → Prop} (ho : isCall o = false)
    (H : OB (wanted e (some (t, w))) fun b => (b = true → OB (op1 ro e h o) fun p => WPO fs ro r (setO e dst p.1) p.2 Q) ∧ (b = false → WPO fs ro r (setO e dst (.tup [])) h Q)) : WPO fs ro (⟨dst, some (t, w), o⟩ :: r) e h Q := by
  obtain ⟨b, hb, H1, H2⟩ := H
  cases b with
  | true =>
    obtain ⟨⟨v, h1⟩, hv, e2, h2, N, hx, hq⟩ := H1 rfl
    refine ⟨e2, h2, N, fun n hn => ?_, hq⟩
    simp only [ops, step1, hb, Option.bind_some, if_true, opX_op1 ho, hv]
    exact hx n hn
  | false =>
    obtain ⟨e2, h2, N, hx, hq⟩ := H2 rfl
    refine ⟨e2, h2, N, fun n hn => ?_, hq⟩
    simp only [ops, step1, hb, Option.bind_some]
    exact hx n hn

/-- What a call of a mode makes of the heap. -/
theorem callV_of {k : K} {mode f : Nat} {a b args : List V} {r : V} {h1 : Hp} (hk : k (if mode = 0 then ro else h.nx) f (a ++ args ++ b) h = some (r, h1)) (hm : mode = 0 ∨ mode = 1 ∨ ground r = true) (hm3 : mode < 3) :
    callV k ro mode (.fn (.func f) a b) args h = some (r, if mode = 0 then h1 else if ground r = true then h else h1) := by
  simp only [callV]
  by_cases h0 : mode = 0
  · simp only [h0, if_true] at hk ⊢; exact hk
  · simp only [h0, if_false, if_neg (show ¬ 3 ≤ mode by omega)] at hk ⊢
    rw [hk]
    simp only [Option.bind_some]
    by_cases hg : ground r = true
    · simp [hg]
    · simp only [hg]
      rcases hm with hm | hm | hm
      · exact absurd hm h0
      · simp [hm]
      · exact absurd hm hg

theorem WPO_call {dst : Option Nat} {mode : Nat} {f : A} {as : List A} {r : List RO} {Q : Env → Hp → Prop} {g : Nat} {a b args : List V} (hf : f.ev e = some (.fn (.func g) a b)) (ha : evs e as = some args)
    (H : Ev fs (if mode = 0 then ro else h.nx) g (a ++ args ++ b) h fun v h1 => (mode = 0 ∨ mode = 1 ∨ ground v = true) ∧ WPO fs ro r (setO e dst v) (if mode = 0 then h1 else if ground v = true then h else h1) Q) (hm3 : mode < 3 := by decide) :
    WPO fs ro (⟨dst, none, .call mode f as⟩ :: r) e h Q := by
  obtain ⟨v, h1, N, hv, hm, e2, h2, N2, hx, hq⟩ := H
  refine ⟨e2, h2, max N N2, fun n hn => ?_, hq⟩
  simp only [ops, step1, wanted, Option.bind_some, if_true, opX, hf, ha, callV_of (hv n (by omega)) hm hm3]
  exact hx n (by omega)

/-- A call that looks at nothing but what it is handed. -/
theorem WPO_pcall {dst : Option Nat} {m : Nat} {f : A} {as : List A} {r : List RO} {Q : Env → Hp → Prop} {g : Nat} {a b args : List V} (hf : f.ev e = some (.fn (.func g) a b)) (ha : evs e as = some args) (hga : (a ++ args ++ b).all ground = true)
    (H : Ev fs m g (a ++ args ++ b) ⟨m, []⟩ fun v _ => ground v = true ∧ WPO fs ro r (setO e dst v) h Q) :
    WPO fs ro (⟨dst, none, .call (m + 3) f as⟩ :: r) e h Q := by
  obtain ⟨v, h1, N, hv, hm, e2, h2, N2, hx, hq⟩ := H
  refine ⟨e2, h2, max N N2, fun n hn => ?_, hq⟩
  have hc : callV (run fs n) ro (m + 3) (.fn (.func g) a b) args h = some (v, h) := by
    simp only [callV]
    rw [if_neg (by omega), if_pos (by omega), if_pos hga, Nat.add_sub_cancel, hv n (by omega)]
    simp only [Option.bind_some]
    rw [if_pos hm]
  simp only [ops, step1, wanted, Option.bind_some, if_true, opX, hf, ha, hc]
  exact hx n (by omega)

theorem WPO_gcall {dst : Option Nat} {t : Nat} {w : Bool} {mode : Nat} {f : A} {as : List A} {r : List RO} {Q : Env → Hp → Prop}
    (H : OB (wanted e (some (t, w))) fun b => (b = true → WPO fs ro (⟨dst, none, .call mode f as⟩ :: r) e h Q) ∧ (b = false → WPO fs ro r (setO e dst (.tup [])) h Q)) : WPO fs ro (⟨dst, some (t, w), .call mode f as⟩ :: r) e h Q := by
  obtain ⟨b, hb, H1, H2⟩ := H
  cases b with
  | true =>
    obtain ⟨e2, h2, N, hx, hq⟩ := H1 rfl
    refine ⟨e2, h2, N, fun n hn => ?_, hq⟩
    have := hx n hn
    simp only [ops, step1, wanted, Option.bind_some, if_true] at this
    simp only [ops, step1, hb, Option.bind_some, if_true]
    exact this
  | false =>
    obtain ⟨e2, h2, N, hx, hq⟩ := H2 rfl
    refine ⟨e2, h2, N, fun n hn => ?_, hq⟩
    simp only [ops, step1, hb, Option.bind_some]
    exact hx n hn

/-- A function's code. -/
def endQ (F : F) (Q : V → Hp → Prop) : X → Env → Hp → Prop := fun x e h => (∀ i, x ≠ .exit i) ∧ OB (ress e h F.results) fun vs => Q (pack vs) h

theorem Ev_code {f : Nat} {F : F} {args : List V} {Q : V → Hp → Prop} (hf : fs f = some (.code F)) (hl : args.length = F.params) (H : WP fs ro F.body (params 0 args) h (endQ F Q)) : Ev fs ro f args h Q := by
  obtain ⟨x, e1, h1, N, hx, hne, vs, hvs, hq⟩ := H
  refine ⟨pack vs, h1, N + 1, fun n hn => ?_, hq⟩
  cases n with
  | zero => omega
  | succ n =>
    simp only [run, hf, hl, if_true, hx n (by omega), Option.bind_some]
    cases x with
    | exit i => exact absurd rfl (hne i)
    | nrm => simp only [hvs, Option.bind_some]
    | ret => simp only [hvs, Option.bind_some]

theorem Ev_orc {f : Nat} {g : Nat → List V → Hp → Option (V × Hp)} {args : List V} {r : V} {h' : Hp} {Q : V → Hp → Prop} (hf : fs f = some (.orc g)) (hg : g ro args h = some (r, h')) (hq : Q r h') : Ev fs ro f args h Q := by
  refine ⟨r, h', 1, fun n hn => ?_, hq⟩
  cases n with
  | zero => omega
  | succ n => simp only [run, hf, hg]
end

theorem wrap_i64 {n : Int} (h1 : -9223372036854775808 ≤ n) (h2 : n < 9223372036854775808) : IntKind.wrap .i64 n = n := by
  unfold IntKind.wrap
  simp [IntKind.signed, IntKind.bits]
  omega
attribute [irreducible] WP WPO OB Ev
end Go.Am
/- The plain machine, stepped through: the rules that the steps use. -/
namespace Go.Am
open Go

section
variable {fs : Nat → Option D} {ro : Nat} {e e' : Env} {h h' : Hp}

@[simp] theorem Env.get_set {k j : Nat} {v : V} : ∀ {e : Env}, (e.set k v).get j = if k = j then some v else e.get j
  | [] => by simp
  | (c, x) :: r => by
    have ih := Env.get_set (k := k) (j := j) (v := v) (e := r)
    by_cases h1 : c = k
    · subst h1; by_cases h2 : c = j <;> simp [h2]
    · by_cases h2 : c = j
      · subst h2
        have : ¬ k = c := fun h => h1 h.symm
        simp [h1, this]
      · simp [h1, h2, ih]

@[simp] theorem cond_ble {α : Type} {a b : Nat} {x y : α} : (bif Nat.ble a b then x else y) = if a ≤ b then x else y := by
  by_cases h : a ≤ b
  · rw [if_pos h, Nat.ble_eq_true_of_le h]; rfl
  · rw [if_neg h]
    cases hb : Nat.ble a b with
    | true => exact absurd (Nat.le_of_ble_eq_true hb) h
    | false => rfl

/-- How a function ends. -/
def fin (rs : List R) (Q : V → Hp → Prop) : X → Env → Hp → Prop := fun x e h => match x with
  | .exit _ => False
  | _ => OB (ress e h rs) fun vs => Q (pack vs) h

@[simp] theorem fin_ret {rs : List R} {Q : V → Hp → Prop} : fin rs Q .ret e h = OB (ress e h rs) fun vs => Q (pack vs) h := rfl
@[simp] theorem fin_nrm {rs : List R} {Q : V → Hp → Prop} : fin rs Q .nrm e h = OB (ress e h rs) fun vs => Q (pack vs) h := rfl

theorem Ev_fn {f : Nat} {F : F} {args : List V} {Q : V → Hp → Prop} {c : C} {rs : List R} {e : Env} (hf : fs f = some (.code F)) (hl : args.length = F.params) (hb : F.body = c) (hr : F.results = rs) (hp : params 0 args = e) (H : WP fs ro c e h (fin rs Q)) : Ev fs ro f args h Q := by
  subst hb hr hp
  exact Ev_code hf hl (H.mono fun x e' h' hq => by
    cases x with
    | exit i => exact absurd hq id
    | nrm => exact ⟨fun i hi => (by cases hi), hq⟩
    | ret => exact ⟨fun i hi => (by cases hi), hq⟩)

theorem WP_mid {a b : C} {Q : X → Env → Hp → Prop} (M : Env → Hp → Prop) (H : WP fs ro a e h (nrmOr M Q)) (H2 : ∀ e' h', M e' h' → WP fs ro b e' h' Q) : WP fs ro (.seq a b) e h Q :=
  WP_seq (H.mono fun x e' h' hq => by
    cases x with
    | nrm => exact H2 e' h' hq
    | exit i => exact hq
    | ret => exact hq)

theorem WP.congr {c : C} {Q : X → Env → Hp → Prop} (he : e = e') (hh : h = h') : WP fs ro c e h Q = WP fs ro c e' h' Q := by subst he hh; rfl
theorem WPO.congr {l : List RO} {Q : Env → Hp → Prop} (he : e = e') (hh : h = h') : WPO fs ro l e h Q = WPO fs ro l e' h' Q := by subst he hh; rfl
theorem OB.congr {α : Type} {x x' : Option α} {Q : α → Prop} (hx : x = x') : OB x Q = OB x' Q := by subst hx; rfl
theorem Ev.congr {f : Nat} {args args' : List V} {Q : V → Hp → Prop} (ha : args = args') (hh : h = h') : Ev fs ro f args h Q = Ev fs ro f args' h' Q := by subst ha hh; rfl
attribute [congr] WP.congr WPO.congr OB.congr Ev.congr

@[simp] theorem setO_some {d : Nat} {v : V} : setO e (some d) v = e.set d v := rfl
@[simp] theorem setO_none {v : V} : setO e none v = e := rfl
@[simp] theorem ev_t {n : Nat} : (A.t n).ev e = e.get n := rfl
@[simp] theorem ev_c {v : V} : (A.c v).ev e = some v := rfl
@[simp] theorem ev_g {n : Nat} : (A.g n).ev e = some (.ptr n 0) := rfl
@[simp] theorem ev_f {n : Nat} : (A.f n).ev e = some (.fn (.func n) [] []) := rfl
@[simp] theorem evs_nil : evs e [] = some [] := rfl
@[simp] theorem evs_cons {a : A} {r : List A} : evs e (a :: r) = (a.ev e).bind fun v => (evs e r).bind fun vs => some (v :: vs) := rfl
@[simp] theorem evO_none : evO e none = some none := rfl
@[simp] theorem evO_some {a : A} : evO e (some a) = (a.ev e).bind fun v => some (some v) := rfl
@[simp] theorem ress_nil : ress e h [] = some [] := rfl
@[simp] theorem ress_cons {r : R} {rs : List R} : ress e h (r :: rs) = (resOf e h r).bind fun v => (ress e h rs).bind fun vs => some (v :: vs) := rfl
@[simp] theorem resOf_t {n : Nat} : resOf e h (.t n) = e.get n := rfl
@[simp] theorem params_nil {n : Nat} : params n [] = [] := rfl
@[simp] theorem params_cons {n : Nat} {v : V} {r : List V} : params n (v :: r) = (n, v) :: params (n + 1) r := rfl
@[simp] theorem pack_one {v : V} : pack [v] = v := rfl
@[simp] theorem OB_dite {α : Type} {c : Prop} [Decidable c] {x : Option α} {Q : α → Prop} : OB (if c then x else none) Q = (c ∧ OB x Q) := OB_ite
def wantV (w : Bool) : V → Option Bool
  | .bool b => some (b == w)
  | .tup [] => some false
  | _ => none
@[simp] theorem wantV_bool {w b : Bool} : wantV w (.bool b) = some (b == w) := rfl
@[simp] theorem wanted_some {t : Nat} {w : Bool} : wanted e (some (t, w)) = (e.get t).bind (wantV w) := by
  simp only [wanted]
  cases e.get t with
  | none => rfl
  | some v =>
    cases v <;> rfl


/-! ### the operations, one by one -/

def lenV : V → Option Nat
  | .sl _ _ n _ => some n
  | .nsl => some 0
  | .esl => some 0
  | _ => none
@[simp] theorem lenV_sl {b o n c : Nat} : lenV (.sl b o n c) = some n := rfl
@[simp] theorem lenV_nsl : lenV .nsl = some 0 := rfl
@[simp] theorem lenV_esl : lenV .esl = some 0 := rfl
@[simp] theorem op1_lenSl {x : A} : op1 ro e h (.lenSl x) = (x.ev e).bind fun v => (lenV v).bind fun n => some (.int .i64 (n : Int), h) := by
  simp only [op1]
  cases x.ev e with
  | none => rfl
  | some v => cases v <;> rfl
@[simp] theorem op1_mov {x : A} : op1 ro e h (.mov x) = (x.ev e).bind fun v => some (v, h) := rfl
def pickV (a b : Option V) : V → Option V
  | .bool true => a
  | .bool false => b
  | _ => none
@[simp] theorem pickV_bool {a b : Option V} {t : Bool} : pickV a b (.bool t) = if t = true then a else b := by cases t <;> rfl
@[simp] theorem op1_pick {c a b : A} : op1 ro e h (.pick c a b) = (c.ev e).bind fun c => (pickV (a.ev e) (b.ev e) c).bind fun v => some (v, h) := by
  simp only [op1]
  cases c.ev e with
  | none => rfl
  | some v =>
    cases v <;> try rfl
    rename_i t; cases t <;> rfl
@[simp] theorem op1_alloc {z : List V} : op1 ro e h (.alloc z) = some (.ptr h.nx 0, h.new (.cells 0 z)) := rfl
@[simp] theorem op1_box {n : Nat} {x : A} : op1 ro e h (.box n x) = (x.ev e).bind fun v => if v.cells.length = n then some (.ptr h.nx 0, h.new (.cells 0 v.cells)) else none := rfl
@[simp] theorem op1_build {z : List V} {ps : List (Nat × Nat × A)} : op1 ro e h (.build z ps) = (evParts e ps).bind fun vs => (fill z vs).bind fun l => some (.agg l, h) := rfl
@[simp] theorem op1_buildSl {sz len : Nat} {z : List V} {ps : List (Nat × Nat × A)} : op1 ro e h (.buildSl sz len z ps) = (evParts e ps).bind fun vs => (fill (zeros z len) vs).bind fun l => some (.sl h.nx 0 len (len + 1), h.new (.cells sz l)) := rfl
def loadV (h : Hp) (n : Option Nat) : V → Option V
  | .ptr b o => (h.get b).bind fun x => match x with
    | .cells _ l => (match n with
      | none => l[o]?
      | some n => (loadN l o n).bind fun vs => some (.agg vs))
    | _ => none
  | _ => none
@[simp] theorem loadV_ptr {n : Option Nat} {b o z : Nat} {l : List V} (hg : h.get b = some (.cells z l)) : loadV h n (.ptr b o) = (match n with | none => l[o]? | some n => (loadN l o n).bind fun vs => some (.agg vs)) := by
  simp only [loadV, hg, Option.bind_some]
@[simp] theorem op1_load {n : Option Nat} {a : A} : op1 ro e h (.load n a) = (a.ev e).bind fun p => (loadV h n p).bind fun v => some (v, h) := by
  simp only [op1]
  cases a.ev e with
  | none => rfl
  | some v =>
    cases v <;> try rfl
    rename_i b o
    simp only [Option.bind_some, loadV]
    cases h.get b with
    | none => rfl
    | some x =>
      cases x with
      | map m => rfl
      | cells z l =>
        cases n with
        | none => simp only [Option.bind_some]
        | some n => simp only [Option.bind_some]; cases loadN l o n <;> rfl
@[simp] theorem op1_bin {o : BinOp} {x y : A} : op1 ro e h (.bin o x y) = (x.ev e).bind fun a => (y.ev e).bind fun b => (bin o a b).bind fun v => some (v, h) := rfl
@[simp] theorem op1_eq {neg : Bool} {q : Eq} {x y : A} : op1 ro e h (.eq neg q x y) = (x.ev e).bind fun a => (y.ev e).bind fun b => (eqv q a b).bind fun r => some (.bool (if neg then !r else r), h) := rfl
@[simp] theorem op1_un {o : UnOp} {x : A} : op1 ro e h (.un o x) = (x.ev e).bind fun a => (un o a).bind fun v => some (v, h) := rfl
@[simp] theorem op1_mkFn {f : Fn} {a b : List A} : op1 ro e h (.mkFn f a b) = (evs e a).bind fun a => (evs e b).bind fun b => some (.fn f a b, h) := rfl
@[simp] theorem op1_mx {l : List A} : op1 ro e h (.mx l) = (evs e l).bind fun l => (maxs l).bind fun v => some (v, h) := rfl
@[simp] theorem op1_mn {l : List A} : op1 ro e h (.mn l) = (evs e l).bind fun l => (mins l).bind fun v => some (v, h) := rfl
def fldAV (off : Nat) : V → Option V
  | .ptr b o => some (.ptr b (o + off))
  | _ => none
@[simp] theorem fldAV_ptr {off b o : Nat} : fldAV off (.ptr b o) = some (.ptr b (o + off)) := rfl
@[simp] theorem op1_fldA {off : Nat} {x : A} : op1 ro e h (.fldA off x) = (x.ev e).bind fun v => (fldAV off v).bind fun v => some (v, h) := by
  simp only [op1]
  cases x.ev e with
  | none => rfl
  | some v => cases v <;> rfl
def idxAV (sz : Nat) : V → V → Option V
  | .sl b o n _, .int _ i => if 0 ≤ i ∧ i < (n : Int) then some (.ptr b (o + i.toNat * sz)) else none
  | _, _ => none
@[simp] theorem idxAV_sl {sz b o n c : Nat} {k : IntKind} {i : Int} : idxAV sz (.sl b o n c) (.int k i) = if 0 ≤ i ∧ i < (n : Int) then some (.ptr b (o + i.toNat * sz)) else none := rfl
@[simp] theorem op1_idxA {sz : Nat} {x i : A} : op1 ro e h (.idxA sz x i) = (x.ev e).bind fun v => (i.ev e).bind fun i => (idxAV sz v i).bind fun v => some (v, h) := by
  simp only [op1]
  cases x.ev e with
  | none => rfl
  | some v =>
    cases i.ev e with
    | none => rfl
    | some w =>
      cases v <;> cases w <;> try rfl
      simp only [Option.bind_some, idxAV]
      split <;> rfl
@[simp] theorem OB_ite_bind {α β : Type} {c : Prop} [Decidable c] {x : α} {f : α → Option β} {Q : β → Prop} : OB ((if c then some x else none).bind f) Q = (c ∧ OB (f x) Q) := by
  by_cases h : c <;> simp [h]
@[simp] theorem resOf_cell {n : Nat} {sz : Option Nat} : resOf e h (.cell n sz) = (e.get n).bind (loadV h sz) := by
  simp only [resOf]
  cases e.get n with
  | none => rfl
  | some v =>
    cases v <;> try rfl
    rename_i b o
    simp only [Option.bind_some, loadV]
    cases h.get b with
    | none => rfl
    | some x => cases x <;> rfl
@[simp] theorem bin_int {o : BinOp} {k : IntKind} {a b : Int} : bin o (.int k a) (.int k b) = binInt o k a b := by simp [bin]
@[simp] theorem binInt_add {k : IntKind} {a b : Int} : binInt .add k a b = some (.int k (k.wrap (a + b))) := rfl
@[simp] theorem binInt_sub {k : IntKind} {a b : Int} : binInt .sub k a b = some (.int k (k.wrap (a - b))) := rfl
@[simp] theorem binInt_mul {k : IntKind} {a b : Int} : binInt .mul k a b = some (.int k (k.wrap (a * b))) := rfl
@[simp] theorem binInt_lss {k : IntKind} {a b : Int} : binInt .lss k a b = some (.bool (decide (a < b))) := rfl
@[simp] theorem binInt_leq {k : IntKind} {a b : Int} : binInt .leq k a b = some (.bool (decide (a ≤ b))) := rfl
@[simp] theorem binInt_gtr {k : IntKind} {a b : Int} : binInt .gtr k a b = some (.bool (decide (a > b))) := rfl
@[simp] theorem binInt_geq {k : IntKind} {a b : Int} : binInt .geq k a b = some (.bool (decide (a ≥ b))) := rfl
@[simp] theorem eqv_s {k : Sk} {x y : V} : eqv (.s k) x y = eqK k x y := rfl
@[simp] theorem eqv_nil {k : Nk} {x y : V} : eqv (.nil k) x y = eqN k x y := rfl
@[simp] theorem eqK_i {k : IntKind} {a b : Int} : eqK .i (.int k a) (.int k b) = some (a == b) := by simp [eqK]
@[simp] theorem eqK_s {a b : List UInt8} : eqK .s (.str a) (.str b) = some (a == b) := rfl
@[simp] theorem eqK_b {a b : Bool} : eqK .b (.bool a) (.bool b) = some (a == b) := rfl
@[simp] theorem eqN_s_nsl : eqN .s .nsl .nsl = some true := rfl
@[simp] theorem eqN_s_sl {b o n c : Nat} : eqN .s (.sl b o n c) .nsl = some false := rfl
@[simp] theorem eqN_s_esl : eqN .s .esl .nsl = some false := rfl
@[simp] theorem un_not {b : Bool} : un .not (.bool b) = some (.bool !b) := rfl
end
end Go.Am
