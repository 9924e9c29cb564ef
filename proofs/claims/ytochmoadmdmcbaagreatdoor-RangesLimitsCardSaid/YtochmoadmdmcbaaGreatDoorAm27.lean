/- The plain machine, stepped through: operations on strings, tuples, structs, maps. -/
import Derived.Test.YtochmoadmdmcbaaGreatDoorAm23
import Derived.Test.YtochmoadmdmcbaaGreatDoorAmL1
namespace Go.Am
set_option linter.unusedSimpArgs false
set_option linter.unusedVariables false
open Go

section
variable {fs : Nat → Option D} {ro : Nat} {e : Env} {h : Hp}

@[simp] theorem byteV_eq {b : UInt8} : byteV b = .int .u8 (b.toNat : Int) := rfl
def strV : V → Option (List UInt8)
  | .str s => some s
  | _ => none
@[simp] theorem strV_str {s : List UInt8} : strV (.str s) = some s := rfl
@[simp] theorem op1_lenS {x : A} : op1 ro e h (.lenS x) = (x.ev e).bind fun v => (strV v).bind fun s => some (.int .i64 (s.length : Int), h) := by
  simp only [op1]
  cases x.ev e with
  | none => rfl
  | some v => cases v <;> rfl
def idxStrV : V → V → Option V
  | .str s, .int _ i => if 0 ≤ i then (s[i.toNat]?).bind fun b => some (byteV b) else none
  | _, _ => none
@[simp] theorem idxStrV_str {s : List UInt8} {k : IntKind} {i : Int} : idxStrV (.str s) (.int k i) = if 0 ≤ i then (s[i.toNat]?).bind fun b => some (byteV b) else none := rfl
@[simp] theorem op1_idxStr {x i : A} : op1 ro e h (.idxStr x i) = (x.ev e).bind fun v => (i.ev e).bind fun i => (idxStrV v i).bind fun v => some (v, h) := by
  simp only [op1]
  cases x.ev e with
  | none => rfl
  | some v =>
    cases i.ev e with
    | none => rfl
    | some w =>
      cases v <;> cases w <;> try rfl
      simp only [Option.bind_some, idxStrV]
      split
      · rename_i s k i _
        cases s[i.toNat]? <;> rfl
      · rfl
def slStrV (lo hi : Option V) : V → Option V
  | .str s => (bound hi s.length s.length).bind fun hh => (bound lo 0 hh).bind fun l => some (.str ((s.take hh).drop l))
  | _ => none
@[simp] theorem slStrV_str {lo hi : Option V} {s : List UInt8} : slStrV lo hi (.str s) = (bound hi s.length s.length).bind fun hh => (bound lo 0 hh).bind fun l => some (.str ((s.take hh).drop l)) := rfl
@[simp] theorem bound_none {d y : Nat} : bound none d y = some d := rfl
@[simp] theorem bound_int {k : IntKind} {i : Int} {d y : Nat} : bound (some (.int k i)) d y = if 0 ≤ i ∧ i ≤ (y : Int) then some i.toNat else none := rfl
@[simp] theorem op1_slStr {x : A} {lo hi : Option A} : op1 ro e h (.slStr x lo hi) = (x.ev e).bind fun v => (evO e lo).bind fun lo => (evO e hi).bind fun hi => (slStrV lo hi v).bind fun v => some (v, h) := by
  simp only [op1]
  cases x.ev e with
  | none => rfl
  | some v =>
    cases evO e lo with
    | none => rfl
    | some lo =>
      cases evO e hi with
      | none => rfl
      | some hi =>
        cases v <;> try rfl
        rename_i s
        simp only [Option.bind_some, slStrV]
        cases bound hi s.length s.length with
        | none => rfl
        | some hh =>
          simp only [Option.bind_some]
          cases bound lo 0 hh <;> rfl
def intV (k : IntKind) : V → Option V
  | .int _ n => some (.int k (k.wrap n))
  | _ => none
@[simp] theorem intV_int {k k' : IntKind} {n : Int} : intV k (.int k' n) = some (.int k (k.wrap n)) := rfl
@[simp] theorem op1_convInt {k : IntKind} {x : A} : op1 ro e h (.conv (.int k) x) = (x.ev e).bind fun v => (intV k v).bind fun v => some (v, h) := by
  simp only [op1]
  cases x.ev e with
  | none => rfl
  | some v => cases v <;> rfl
def extV (i : Nat) : V → Option V
  | .tup l => l[i]?
  | _ => none
@[simp] theorem extV_tup {i : Nat} {l : List V} : extV i (.tup l) = l[i]? := rfl
@[simp] theorem op1_extr {x : A} {i : Nat} : op1 ro e h (.ext x i) = (x.ev e).bind fun v => (extV i v).bind fun v => some (v, h) := by
  simp only [op1]
  cases x.ev e with
  | none => rfl
  | some v => cases v <;> rfl
def fldV (off : Nat) (n : Option Nat) : V → Option V
  | .agg l => match n with
    | none => l[off]?
    | some n => (loadN l off n).bind fun vs => some (.agg vs)
  | _ => none
@[simp] theorem fldV_agg {off : Nat} {n : Option Nat} {l : List V} : fldV off n (.agg l) = match n with
    | none => l[off]?
    | some n => (loadN l off n).bind fun vs => some (.agg vs) := rfl
@[simp] theorem op1_fld {off : Nat} {n : Option Nat} {x : A} : op1 ro e h (.fld off n x) = (x.ev e).bind fun v => (fldV off n v).bind fun v => some (v, h) := by
  simp only [op1]
  cases x.ev e with
  | none => rfl
  | some v =>
    cases v <;> try rfl
    rename_i l
    cases n with
    | none => rfl
    | some n =>
      simp only [Option.bind_some, fldV]
      cases loadN l off n <;> rfl
@[simp] theorem bin_str {o : BinOp} {a b : List UInt8} : bin o (.str a) (.str b) = binStr o a b := rfl
@[simp] theorem binStr_add {a b : List UInt8} : binStr .add a b = if a.length + b.length ≤ 4611686018427387904 then some (.str (a ++ b)) else none := by
  simp only [binStr]
  by_cases hl : a.length + b.length ≤ 4611686018427387904
  · rw [if_pos hl, Nat.ble_eq_true_of_le hl]; rfl
  · rw [if_neg hl]
    cases hb : Nat.ble (a.length + b.length) 4611686018427387904 with
    | true => exact absurd (Nat.le_of_ble_eq_true hb) hl
    | false => rfl
@[simp] theorem binInt_quo {k : IntKind} {a b : Int} : binInt .quo k a b = if b = 0 then none else some (.int k (k.wrap (a.tdiv b))) := rfl
@[simp] theorem binInt_rem {k : IntKind} {a b : Int} : binInt .rem k a b = if b = 0 then none else some (.int k (a.tmod b)) := rfl
@[simp] theorem wantV_tupnil {w : Bool} : wantV w (.tup []) = some false := rfl
@[simp] theorem eqN_i_nn : eqN .i .nifc .nifc = some true := rfl
@[simp] theorem ground_i {k : IntKind} {n : Int} : ground (.int k n) = true := rfl
@[simp] theorem ground_b {b : Bool} : ground (.bool b) = true := rfl
@[simp] theorem ground_str {s : List UInt8} : ground (.str s) = true := rfl
@[simp] theorem ground_tup {l : List V} : ground (.tup l) = l.all g1 := rfl
@[simp] theorem g1_int {k : IntKind} {n : Int} : g1 (.int k n) = true := rfl
@[simp] theorem g1_bool {b : Bool} : g1 (.bool b) = true := rfl
@[simp] theorem g1_str {s : List UInt8} : g1 (.str s) = true := rfl
@[simp] theorem g1_nifc : g1 .nifc = true := rfl
@[simp] theorem g1_agg {l : List V} : g1 (.agg l) = l.all g0 := rfl
@[simp] theorem g0_int {k : IntKind} {n : Int} : g0 (.int k n) = true := rfl
@[simp] theorem g0_bool {b : Bool} : g0 (.bool b) = true := rfl
@[simp] theorem g0_str {s : List UInt8} : g0 (.str s) = true := rfl
@[simp] theorem g0_nsl : g0 .nsl = true := rfl
@[simp] theorem pack_two {v w : V} : pack [v, w] = .tup [v, w] := rfl
@[simp] theorem pack_three {v w x : V} : pack [v, w, x] = .tup [v, w, x] := rfl
@[simp] theorem pack_nil : pack [] = .tup [] := rfl
@[simp] theorem evParts_nil : evParts e [] = some [] := rfl
@[simp] theorem evParts_cons {o s : Nat} {a : A} {r : List (Nat × Nat × A)} : evParts e ((o, s, a) :: r) = (a.ev e).bind fun v => (evParts e r).bind fun vs => some ((o, s, v) :: vs) := rfl
@[simp] theorem fill_nil {l : List V} : fill l [] = some l := rfl
@[simp] theorem fill_cons {l : List V} {o s : Nat} {v : V} {r : List (Nat × Nat × V)} : fill l ((o, s, v) :: r) = if v.cells.length = s then (setN l o v.cells).bind fun c => fill c r else none := rfl
@[simp] theorem setN_if {l : List V} {o : Nat} {vs : List V} : setN l o vs = if o + vs.length ≤ l.length then some (l.take o ++ (vs ++ l.drop (o + vs.length))) else none := by
  simp only [setN, cond_ble]
@[simp] theorem cells_int {k : IntKind} {n : Int} : (V.int k n).cells = [.int k n] := rfl
@[simp] theorem cells_bool {b : Bool} : (V.bool b).cells = [.bool b] := rfl
@[simp] theorem cells_str {s : List UInt8} : (V.str s).cells = [.str s] := rfl
@[simp] theorem cells_nsl : V.nsl.cells = [.nsl] := rfl
@[simp] theorem cells_esl : V.esl.cells = [.esl] := rfl
@[simp] theorem cells_sl {b o n c : Nat} : (V.sl b o n c).cells = [.sl b o n c] := rfl
@[simp] theorem cells_ptr {b o : Nat} : (V.ptr b o).cells = [.ptr b o] := rfl
@[simp] theorem cells_fn {f : Fn} {a b : List V} : (V.fn f a b).cells = [.fn f a b] := rfl
@[simp] theorem cells_mp {b : Nat} : (V.mp b).cells = [.mp b] := rfl
@[simp] theorem cells_nfn : V.nfn.cells = [.nfn] := rfl
@[simp] theorem cells_agg {l : List V} : (V.agg l).cells = l := rfl
@[simp] theorem op1_mkMap : op1 ro e h .mkMap = some (.mp h.nx, h.new (.map [])) := rfl

/-- Operations that simp sees through: those that write, append, look into maps or part rows are done by hand. -/
def isPlain : O → Bool
  | .call .. | .store .. | .app .. | .appStr .. | .appZ .. | .upd .. | .copy .. | .clr .. | .slSl .. | .slArr .. | .lookup .. => false
  | .conv .ofBytes _ | .conv .bytes _ | .conv .same _ => false
  | _ => true
theorem isCall_plain {o : O} (ho : isPlain o = true) : isCall o = false := by
  cases o <;> first | rfl | (simp [isPlain] at ho)
theorem WPO_pl {dst : Option Nat} {o : O} {r : List RO} {Q : Env → Hp → Prop} (ho : isPlain o = true) (H : OB (op1 ro e h o) fun p => WPO fs ro r (setO e dst p.1) p.2 Q) : WPO fs ro (⟨dst, none, o⟩ :: r) e h Q :=
  WPO_op (isCall_plain ho) H
theorem WPO_gpl {dst : Option Nat} {t : Nat} {w : Bool} {o : O} {r : List RO} {Q : Env → Hp → Prop} (ho : isPlain o = true)
    (H : OB (wanted e (some (t, w))) fun b => (b = true → OB (op1 ro e h o) fun p => WPO fs ro r (setO e dst p.1) p.2 Q) ∧ (b = false → WPO fs ro r (setO e dst (.tup [])) h Q)) : WPO fs ro (⟨dst, some (t, w), o⟩ :: r) e h Q :=
  WPO_gop (isCall_plain ho) H

theorem OB_ofBytes {x : A} {b o n c : Nat} {L : List V} {bs : List UInt8} {Q : V × Hp → Prop} (hx : x.ev e = some (.sl b o n c)) (hs : shown h 1 b o n = some L) (hb : bytesOf L = some bs) (H : Q (.str bs, h)) : OB (op1 ro e h (.conv .ofBytes x)) Q := by
  simp only [op1, hx, Option.bind_some, hs, hb, OB_some]
  exact H

/-- A call of a function of the library that answers with plain values. -/
theorem Ev_pure {f : Nat} {g : List V → Option V} {args : List V} {v : V} {Q : V → Hp → Prop} (hf : fs f = some (.orc (orcPure g))) (hg : g args = some v) (hq : Q v h) : Ev fs ro f args h Q :=
  Ev_orc hf (r := v) (h' := h) (by simp only [orcPure, hg, Option.bind_some]) hq
end

theorem wrap_byte {b : UInt8} : IntKind.wrap .i64 (b.toNat : Int) = (b.toNat : Int) := by
  have := b.toNat_lt
  exact wrap_i64 (by omega) (by omega)
theorem wrap_u8 {n : Int} (h1 : 0 ≤ n) (h2 : n < 256) : IntKind.wrap .u8 n = n := by
  simp only [IntKind.wrap, IntKind.signed, IntKind.bits, Bool.false_and]
  rw [if_neg (by simp)]
  omega
end Go.Am
