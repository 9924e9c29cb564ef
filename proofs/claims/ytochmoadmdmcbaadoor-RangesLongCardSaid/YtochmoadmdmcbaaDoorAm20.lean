/- The plain machine, stepped through: the rules that the steps use. -/
import Derived.Test.YtochmoadmdmcbaaDoorAm19
namespace Go.Am
open Go

section
variable {fs : Nat → Option D} {ro : Nat} {e e' : Env} {h h' : Hp}

@[simp] theorem Env.get_set {k j : Nat} {v : V} : ∀ {e : Env}, (e.set k v).get j = if k = j then some v else e.get j
  | [] => by simp
  | (c, x) :: r => by
    have ih := Env.get_set (k := k) (j := j) (v := v) (e := r)
    by_cases h1 : c = k
    · subst h1; by_cases h2 : c = j <;> simp [h2]
    · by_cases h2 : c = j
      · subst h2
        have : ¬ k = c := fun h => h1 h.symm
        simp [h1, this]
      · simp [h1, h2, ih]

@[simp] theorem cond_ble {α : Type} {a b : Nat} {x y : α} : (bif Nat.ble a b then x else y) = if a ≤ b then x else y := by
  by_cases h : a ≤ b
  · rw [if_pos h, Nat.ble_eq_true_of_le h]; rfl
  · rw [if_neg h]
    cases hb : Nat.ble a b with
    | true => exact absurd (Nat.le_of_ble_eq_true hb) h
    | false => rfl

/-- How a function ends. -/
def fin (rs : List R) (Q : V → Hp → Prop) : X → Env → Hp → Prop := fun x e h => match x with
  | .exit _ => False
  | _ => OB (ress e h rs) fun vs => Q (pack vs) h

@[simp] theorem fin_ret {rs : List R} {Q : V → Hp → Prop} : fin rs Q .ret e h = OB (ress e h rs) fun vs => Q (pack vs) h := rfl
@[simp] theorem fin_nrm {rs : List R} {Q : V → Hp → Prop} : fin rs Q .nrm e h = OB (ress e h rs) fun vs => Q (pack vs) h := rfl

theorem Ev_fn {f : Nat} {F : F} {args : List V} {Q : V → Hp → Prop} {c : C} {rs : List R} {e : Env} (hf : fs f = some (.code F)) (hl : args.length = F.params) (hb : F.body = c) (hr : F.results = rs) (hp : params 0 args = e) (H : WP fs ro c e h (fin rs Q)) : Ev fs ro f args h Q := by
  subst hb hr hp
  exact Ev_code hf hl (H.mono fun x e' h' hq => by
    cases x with
    | exit i => exact absurd hq id
    | nrm => exact ⟨fun i hi => (by cases hi), hq⟩
    | ret => exact ⟨fun i hi => (by cases hi), hq⟩)

theorem WP_mid {a b : C} {Q : X → Env → Hp → Prop} (M : Env → Hp → Prop) (H : WP fs ro a e h (nrmOr M Q)) (H2 : ∀ e' h', M e' h' → WP fs ro b e' h' Q) : WP fs ro (.seq a b) e h Q :=
  WP_seq (H.mono fun x e' h' hq => by
    cases x with
    | nrm => exact H2 e' h' hq
    | exit i => exact hq
    | ret => exact hq)

theorem WP.congr {c : C} {Q : X → Env → Hp → Prop} (he : e = e') (hh : h = h') : WP fs ro c e h Q = WP fs ro c e' h' Q := by subst he hh; rfl
theorem WPO.congr {l : List RO} {Q : Env → Hp → Prop} (he : e = e') (hh : h = h') : WPO fs ro l e h Q = WPO fs ro l e' h' Q := by subst he hh; rfl
theorem OB.congr {α : Type} {x x' : Option α} {Q : α → Prop} (hx : x = x') : OB x Q = OB x' Q := by subst hx; rfl
theorem Ev.congr {f : Nat} {args args' : List V} {Q : V → Hp → Prop} (ha : args = args') (hh : h = h') : Ev fs ro f args h Q = Ev fs ro f args' h' Q := by subst ha hh; rfl
attribute [congr] WP.congr WPO.congr OB.congr Ev.congr

@[simp] theorem setO_some {d : Nat} {v : V} : setO e (some d) v = e.set d v := rfl
@[simp] theorem setO_none {v : V} : setO e none v = e := rfl
@[simp] theorem ev_t {n : Nat} : (A.t n).ev e = e.get n := rfl
@[simp] theorem ev_c {v : V} : (A.c v).ev e = some v := rfl
@[simp] theorem ev_g {n : Nat} : (A.g n).ev e = some (.ptr n 0) := rfl
@[simp] theorem ev_f {n : Nat} : (A.f n).ev e = some (.fn (.func n) [] []) := rfl
@[simp] theorem evs_nil : evs e [] = some [] := rfl
@[simp] theorem evs_cons {a : A} {r : List A} : evs e (a :: r) = (a.ev e).bind fun v => (evs e r).bind fun vs => some (v :: vs) := rfl
@[simp] theorem evO_none : evO e none = some none := rfl
@[simp] theorem evO_some {a : A} : evO e (some a) = (a.ev e).bind fun v => some (some v) := rfl
@[simp] theorem ress_nil : ress e h [] = some [] := rfl
@[simp] theorem ress_cons {r : R} {rs : List R} : ress e h (r :: rs) = (resOf e h r).bind fun v => (ress e h rs).bind fun vs => some (v :: vs) := rfl
@[simp] theorem resOf_t {n : Nat} : resOf e h (.t n) = e.get n := rfl
@[simp] theorem params_nil {n : Nat} : params n [] = [] := rfl
@[simp] theorem params_cons {n : Nat} {v : V} {r : List V} : params n (v :: r) = (n, v) :: params (n + 1) r := rfl
@[simp] theorem pack_one {v : V} : pack [v] = v := rfl
@[simp] theorem OB_dite {α : Type} {c : Prop} [Decidable c] {x : Option α} {Q : α → Prop} : OB (if c then x else none) Q = (c ∧ OB x Q) := OB_ite
def wantV (w : Bool) : V → Option Bool
  | .bool b => some (b == w)
  | .tup [] => some false
  | _ => none
@[simp] theorem wantV_bool {w b : Bool} : wantV w (.bool b) = some (b == w) := rfl
@[simp] theorem wanted_some {t : Nat} {w : Bool} : wanted e (some (t, w)) = (e.get t).bind (wantV w) := by
  simp only [wanted]
  cases e.get t with
  | none => rfl
  | some v =>
    cases v <;> rfl


/-! ### the operations, one by one -/

def lenV : V → Option Nat
  | .sl _ _ n _ => some n
  | .nsl => some 0
  | .esl => some 0
  | _ => none
@[simp] theorem lenV_sl {b o n c : Nat} : lenV (.sl b o n c) = some n := rfl
@[simp] theorem lenV_nsl : lenV .nsl = some 0 := rfl
@[simp] theorem lenV_esl : lenV .esl = some 0 := rfl
@[simp] theorem op1_lenSl {x : A} : op1 ro e h (.lenSl x) = (x.ev e).bind fun v => (lenV v).bind fun n => some (.int .i64 (n : Int), h) := by
  simp only [op1]
  cases x.ev e with
  | none => rfl
  | some v => cases v <;> rfl
@[simp] theorem op1_mov {x : A} : op1 ro e h (.mov x) = (x.ev e).bind fun v => some (v, h) := rfl
def pickV (a b : Option V) : V → Option V
  | .bool true => a
  | .bool false => b
  | _ => none
@[simp] theorem pickV_bool {a b : Option V} {t : Bool} : pickV a b (.bool t) = if t = true then a else b := by cases t <;> rfl
@[simp] theorem op1_pick {c a b : A} : op1 ro e h (.pick c a b) = (c.ev e).bind fun c => (pickV (a.ev e) (b.ev e) c).bind fun v => some (v, h) := by
  simp only [op1]
  cases c.ev e with
  | none => rfl
  | some v =>
    cases v <;> try rfl
    rename_i t; cases t <;> rfl
@[simp] theorem op1_alloc {z : List V} : op1 ro e h (.alloc z) = some (.ptr h.nx 0, h.new (.cells 0 z)) := rfl
@[simp] theorem op1_box {n : Nat} {x : A} : op1 ro e h (.box n x) = (x.ev e).bind fun v => if v.cells.length = n then some (.ptr h.nx 0, h.new (.cells 0 v.cells)) else none := rfl
@[simp] theorem op1_build {z : List V} {ps : List (Nat × Nat × A)} : op1 ro e h (.build z ps) = (evParts e ps).bind fun vs => (fill z vs).bind fun l => some (.agg l, h) := rfl
@[simp] theorem op1_buildSl {sz len : Nat} {z : List V} {ps : List (Nat × Nat × A)} : op1 ro e h (.buildSl sz len z ps) = (evParts e ps).bind fun vs => (fill (zeros z len) vs).bind fun l => some (.sl h.nx 0 len (len + 1), h.new (.cells sz l)) := rfl
def loadV (h : Hp) (n : Option Nat) : V → Option V
  | .ptr b o => (h.get b).bind fun x => match x with
    | .cells _ l => (match n with
      | none => l[o]?
      | some n => (loadN l o n).bind fun vs => some (.agg vs))
    | _ => none
  | _ => none
@[simp] theorem loadV_ptr {n : Option Nat} {b o z : Nat} {l : List V} (hg : h.get b = some (.cells z l)) : loadV h n (.ptr b o) = (match n with | none => l[o]? | some n => (loadN l o n).bind fun vs => some (.agg vs)) := by
  simp only [loadV, hg, Option.bind_some]
@[simp] theorem op1_load {n : Option Nat} {a : A} : op1 ro e h (.load n a) = (a.ev e).bind fun p => (loadV h n p).bind fun v => some (v, h) := by
  simp only [op1]
  cases a.ev e with
  | none => rfl
  | some v =>
    cases v <;> try rfl
    rename_i b o
    simp only [Option.bind_some, loadV]
    cases h.get b with
    | none => rfl
    | some x =>
      cases x with
      | map m => rfl
      | cells z l =>
        cases n with
        | none => simp only [Option.bind_some]
        | some n => simp only [Option.bind_some]; cases loadN l o n <;> rfl
@[simp] theorem op1_bin {o : BinOp} {x y : A} : op1 ro e h (.bin o x y) = (x.ev e).bind fun a => (y.ev e).bind fun b => (bin o a b).bind fun v => some (v, h) := rfl
@[simp] theorem op1_eq {neg : Bool} {q : Eq} {x y : A} : op1 ro e h (.eq neg q x y) = (x.ev e).bind fun a => (y.ev e).bind fun b => (eqv q a b).bind fun r => some (.bool (if neg then !r else r), h) := rfl
@[simp] theorem op1_un {o : UnOp} {x : A} : op1 ro e h (.un o x) = (x.ev e).bind fun a => (un o a).bind fun v => some (v, h) := rfl
@[simp] theorem op1_mkFn {f : Fn} {a b : List A} : op1 ro e h (.mkFn f a b) = (evs e a).bind fun a => (evs e b).bind fun b => some (.fn f a b, h) := rfl
@[simp] theorem op1_mx {l : List A} : op1 ro e h (.mx l) = (evs e l).bind fun l => (maxs l).bind fun v => some (v, h) := rfl
@[simp] theorem op1_mn {l : List A} : op1 ro e h (.mn l) = (evs e l).bind fun l => (mins l).bind fun v => some (v, h) := rfl
def fldAV (off : Nat) : V → Option V
  | .ptr b o => some (.ptr b (o + off))
  | _ => none
@[simp] theorem fldAV_ptr {off b o : Nat} : fldAV off (.ptr b o) = some (.ptr b (o + off)) := rfl
@[simp] theorem op1_fldA {off : Nat} {x : A} : op1 ro e h (.fldA off x) = (x.ev e).bind fun v => (fldAV off v).bind fun v => some (v, h) := by
  simp only [op1]
  cases x.ev e with
  | none => rfl
  | some v => cases v <;> rfl
def idxAV (sz : Nat) : V → V → Option V
  | .sl b o n _, .int _ i => if 0 ≤ i ∧ i < (n : Int) then some (.ptr b (o + i.toNat * sz)) else none
  | _, _ => none
@[simp] theorem idxAV_sl {sz b o n c : Nat} {k : IntKind} {i : Int} : idxAV sz (.sl b o n c) (.int k i) = if 0 ≤ i ∧ i < (n : Int) then some (.ptr b (o + i.toNat * sz)) else none := rfl
@[simp] theorem op1_idxA {sz : Nat} {x i : A} : op1 ro e h (.idxA sz x i) = (x.ev e).bind fun v => (i.ev e).bind fun i => (idxAV sz v i).bind fun v => some (v, h) := by
  simp only [op1]
  cases x.ev e with
  | none => rfl
  | some v =>
    cases i.ev e with
    | none => rfl
    | some w =>
      cases v <;> cases w <;> try rfl
      simp only [Option.bind_some, idxAV]
      split <;> rfl
@[simp] theorem OB_ite_bind {α β : Type} {c : Prop} [Decidable c] {x : α} {f : α → Option β} {Q : β → Prop} : OB ((if c then some x else none).bind f) Q = (c ∧ OB (f x) Q) := by
  by_cases h : c <;> simp [h]
@[simp] theorem resOf_cell {n : Nat} {sz : Option Nat} : resOf e h (.cell n sz) = (e.get n).bind (loadV h sz) := by
  simp only [resOf]
  cases e.get n with
  | none => rfl
  | some v =>
    cases v <;> try rfl
    rename_i b o
    simp only [Option.bind_some, loadV]
    cases h.get b with
    | none => rfl
    | some x => cases x <;> rfl
@[simp] theorem bin_int {o : BinOp} {k : IntKind} {a b : Int} : bin o (.int k a) (.int k b) = binInt o k a b := by simp [bin]
@[simp] theorem binInt_add {k : IntKind} {a b : Int} : binInt .add k a b = some (.int k (k.wrap (a + b))) := rfl
@[simp] theorem binInt_sub {k : IntKind} {a b : Int} : binInt .sub k a b = some (.int k (k.wrap (a - b))) := rfl
@[simp] theorem binInt_mul {k : IntKind} {a b : Int} : binInt .mul k a b = some (.int k (k.wrap (a * b))) := rfl
@[simp] theorem binInt_lss {k : IntKind} {a b : Int} : binInt .lss k a b = some (.bool (decide (a < b))) := rfl
@[simp] theorem binInt_leq {k : IntKind} {a b : Int} : binInt .leq k a b = some (.bool (decide (a ≤ b))) := rfl
@[simp] theorem binInt_gtr {k : IntKind} {a b : Int} : binInt .gtr k a b = some (.bool (decide (a > b))) := rfl
@[simp] theorem binInt_geq {k : IntKind} {a b : Int} : binInt .geq k a b = some (.bool (decide (a ≥ b))) := rfl
@[simp] theorem eqv_s {k : Sk} {x y : V} : eqv (.s k) x y = eqK k x y := rfl
@[simp] theorem eqv_nil {k : Nk} {x y : V} : eqv (.nil k) x y = eqN k x y := rfl
@[simp] theorem eqK_i {k : IntKind} {a b : Int} : eqK .i (.int k a) (.int k b) = some (a == b) := by simp [eqK]
@[simp] theorem eqK_s {a b : List UInt8} : eqK .s (.str a) (.str b) = some (a == b) := rfl
@[simp] theorem eqK_b {a b : Bool} : eqK .b (.bool a) (.bool b) = some (a == b) := rfl
@[simp] theorem eqN_s_nsl : eqN .s .nsl .nsl = some true := rfl
@[simp] theorem eqN_s_sl {b o n c : Nat} : eqN .s (.sl b o n c) .nsl = some false := rfl
@[simp] theorem eqN_s_esl : eqN .s .esl .nsl = some false := rfl
@[simp] theorem un_not {b : Bool} : un .not (.bool b) = some (.bool !b) := rfl
end
end Go.Am
