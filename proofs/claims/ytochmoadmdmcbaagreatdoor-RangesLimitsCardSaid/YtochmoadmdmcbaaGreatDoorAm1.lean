/- The plain machine's code out of the loaded code: a translation by a function, whose answer the kernel can reckon for each function of a loaded program. Nothing is proved here. -/
import Derived.Test.YtochmoadmdmcbaaGreatDoorAm0
import GoSem.Dispatch
namespace Go.Am
set_option linter.unusedSimpArgs false
set_option linter.unusedVariables false
open Go

/-- A value without a place in memory, of one cell. -/
def cellOf : Value → Option V
  | .int k n => some (.int k n)
  | .bool b => some (.bool b)
  | .string s => some (.str s.data.toList)
  | .pointer none => some .nptr
  | .slice none 0 0 => some .nsl
  | .map none => some .nmp
  | .nilFunc => some .nfn
  | .nilIface => some .nifc
  | _ => none

def cellsOf : List Value → Option (List V)
  | [] => some []
  | v :: r => (cellOf v).bind fun x => (cellsOf r).bind fun xs => some (x :: xs)

def valOf : Value → Option V
  | .agg cs => (cellsOf cs.toList).bind fun l => some (.agg l)
  | v => cellOf v

section
variable (P : Program)

def opdOf : Operand → Option A
  | .tmp t => some (.t t)
  | .const v => (valOf v).bind fun v => some (.c v)
  | .global g => if g < P.globals.size then some (.g g) else none
  | .func f => some (.f f)

def opdsOf : List Operand → Option (List A)
  | [] => some []
  | x :: r => (opdOf P x).bind fun a => (opdsOf r).bind fun l => some (a :: l)

def opdO : Option Operand → Option (Option A)
  | none => some none
  | some x => (opdOf P x).bind fun a => some (some a)

/-- A type's zero value, with its number of cells. -/
def zeroOf (t : TypeId) : Option V :=
  match P.info? t with
  | some i => match i.zero with
    | some z => (valOf z).bind fun v => if v.cells.length = i.size then some v else none
    | none => none
  | none => none

def sizeOf? (t : TypeId) : Option Nat := (P.info? t).map (·.size)
def bytesOf? (t : TypeId) : Option Nat := (P.info? t).map (·.bytes)

def aggT (t : TypeId) : Option Bool :=
  match P.underlying t with
  | some (.struct _) => some true
  | some (.array _ _) => some true
  | some _ => some false
  | none => none

/-- How a value of a type is loaded: all cells of a struct or an array, or one. -/
def loadOf (t : TypeId) : Option (Option Nat) :=
  (aggT P t).bind fun a => if a then (sizeOf? P t).bind fun n => some (some n) else some none

def partsOf (f : Nat → Option (Nat × Nat)) : List (Nat × Operand) → Option (List (Nat × Nat × A))
  | [] => some []
  | (i, x) :: r => (f i).bind fun (o, s) => (opdOf P x).bind fun a => (partsOf f r).bind fun l => some ((o, s, a) :: l)

/-- Kinds that '==' compares at once. -/
def skOf (t : TypeId) : Option Sk :=
  match P.underlying t with
  | some (.int _) => some .i
  | some .string => some .s
  | some .bool => some .b
  | _ => none

def nkOf (t : TypeId) : Option Nk :=
  match P.underlying t with
  | some (.pointer _) => some .p
  | some (.slice _) => some .s
  | some (.map _ _) => some .m
  | some (.func _ _ _) => some .f
  | some (.interface _) => some .i
  | _ => none

/-- A struct type of scalar fields, each one cell behind the other: their kinds. -/
def flatFields : List Field → Nat → Option (List Sk)
  | [], _ => some []
  | f :: r, o => if f.offset = o ∧ f.name ≠ "_" then (skOf P f.type).bind fun k => (flatFields r (o + 1)).bind fun l => some (k :: l) else none

def flatT (t : TypeId) : Option (List Sk) :=
  match P.underlying t with
  | some (.struct fs) => if !P.stoodInHeld t && !P.eqGuardType P.depth t then flatFields P fs.toList 0 else none
  | _ => none

def isNilC : Operand → Bool
  | .const (.pointer none) | .const (.slice none 0 0) | .const (.map none) | .const .nilFunc | .const .nilIface => true
  | _ => false

def eqOf (t : TypeId) (x y : Operand) : Option Eq :=
  match skOf P t with
  | some k => some (.s k)
  | none => match nkOf P t with
    | some k => if isNilC x || isNilC y then some (.nil k) else none
    | none => (flatT P t).bind fun ks => some (.agg ks)

def fieldOf (t : TypeId) (i : Nat) : Option Field :=
  match P.underlying t with
  | some (.struct fs) => fs[i]?
  | _ => none

def callOf (fresh : Nat) (c : Call) (_ty : TypeId) : Option O :=
  match c.callee with
  | .value f => (opdOf P f).bind fun f => (opdsOf P c.args.toList).bind fun l => if fresh < 3 ∨ P.globals.size + 3 ≤ fresh then some (.call fresh f l) else none
  | .invoke _ _ => none
  | .builtin b => match b, c.args.toList, c.argTypes.toList with
    | .len, [x], t :: _ => (opdOf P x).bind fun a => match P.underlying t with
      | some .string => some (.lenS a)
      | some (.slice _) => some (.lenSl a)
      | some (.map _ _) => some (.lenMp a)
      | some (.array n _) => some (.mov (.c (.int .i64 n)))
      | _ => none
    | .cap, [x], t :: _ => (opdOf P x).bind fun a => match P.underlying t with
      | some (.slice _) => some (.capSl a)
      | some (.array n _) => some (.mov (.c (.int .i64 n)))
      | _ => none
    | .append, [s, x], [t, u] => (opdOf P s).bind fun s => (opdOf P x).bind fun x => match P.underlying t with
      | some (.slice e) => (sizeOf? P e).bind fun sz => (bytesOf? P e).bind fun by_ =>
        if 0 < sz ∧ (zeroOf P e).isSome then match P.underlying u with
        | some (.slice _) => some (.app sz by_ s x)
        | some .string => if sz = 1 ∧ by_ = 1 then some (.appStr s x) else none
        | _ => none else none
      | _ => none
    | .copy, [s, x], [t, _u] => (opdOf P s).bind fun s => (opdOf P x).bind fun x => match P.underlying t with
      | some (.slice e) => (sizeOf? P e).bind fun sz => if 0 < sz then some (.copy sz s x) else none
      | _ => none
    | .clear, [x], [t] => (opdOf P x).bind fun a => match P.underlying t with
      | some (.slice e) => (sizeOf? P e).bind fun sz => (zeroOf P e).bind fun z => some (.clr sz z.cells a)
      | _ => none
    | .max, l, _ => (opdsOf P l).bind fun l => some (.mx l)
    | .min, l, _ => (opdsOf P l).bind fun l => some (.mn l)
    | _, _, _ => none

def opOf (fresh : Nat) (ty : TypeId) : Op → Option O
  | .move x => (opdOf P x).bind fun a => some (.mov a)
  | .assign x => (opdOf P x).bind fun a => some (.mov a)
  | .pick c a b => (opdOf P c).bind fun c => (opdOf P a).bind fun a => (opdOf P b).bind fun b => some (.pick c a b)
  | .alloc t => (zeroOf P t).bind fun z => some (.alloc z.cells)
  | .box t x => (opdOf P x).bind fun a => (sizeOf? P t).bind fun n => some (.box n a)
  | .build t ps => (zeroOf P t).bind fun z => match P.underlying t with
    | some (.struct fs) => if fs.toList.all (fun f => (sizeOf? P f.type).isSome) = true then (partsOf P (fun i => (fs[i]?).bind fun f => (sizeOf? P f.type).bind fun s => some (f.offset, s)) ps.toList).bind fun l => some (.build z.cells l) else none
    | some (.array _ e) => (sizeOf? P e).bind fun s => (partsOf P (fun i => some (i * s, s)) ps.toList).bind fun l => some (.build z.cells l)
    | _ => none
  | .buildSlice t n ps => match P.underlying t with
    | some (.slice e) => (sizeOf? P e).bind fun s => (zeroOf P e).bind fun z =>
      if n * s ≤ 16777216 ∧ 0 < s then (partsOf P (fun i => some (i * s, s)) ps.toList).bind fun l => some (.buildSl s n z.cells l) else none
    | _ => none
  | .load t a => (loadOf P t).bind fun n => (opdOf P a).bind fun a => some (.load n a)
  | .store t a x => (sizeOf? P t).bind fun n => (opdOf P a).bind fun a => (opdOf P x).bind fun x => some (.store n a x)
  | .nilCheck x => (opdOf P x).bind fun a => some (.nilc a)
  | .binOp op t x y _ => (opdOf P x).bind fun a => (opdOf P y).bind fun b => match op with
    | .eql => (eqOf P t x y).bind fun q => some (.eq false q a b)
    | .neq => (eqOf P t x y).bind fun q => some (.eq true q a b)
    | op => some (.bin op a b)
  | .unOp op _ x => (opdOf P x).bind fun a => some (.un op a)
  | .convert s d x => (opdOf P x).bind fun a => match P.underlying s, P.underlying d with
    | some (.int _), some (.int k) => some (.conv (.int k) a)
    | some .string, some .string => some (.conv .str a)
    | some .string, some (.slice e) => match P.underlying e with
      | some (.int .u8) => some (.conv .bytes a)
      | _ => none
    | some (.slice _), some (.slice e) => if s = d then match P.underlying e with
      | some (.int .u8) => some (.conv .same a)
      | _ => none else none
    | some (.slice e), some .string => match P.underlying e with
      | some (.int .u8) => some (.conv .ofBytes a)
      | _ => none
    | _, _ => none
  | .makeInterface t x => (opdOf P x).bind fun a => match P.underlying t with
    | some (.interface _) => none
    | some _ => some (.mkIfc t a)
    | none => none
  | .makeFunc f a b => (opdsOf P a.toList).bind fun a => (opdsOf P b.toList).bind fun b => some (.mkFn f a b)
  | .makeMap _t none => some .mkMap
  | .makeSlice t l c => (opdOf P l).bind fun l => (opdOf P c).bind fun c => match P.underlying t with
    | some (.slice e) => (sizeOf? P e).bind fun s => (bytesOf? P e).bind fun by_ => (zeroOf P e).bind fun z =>
      if 0 < s then some (.mkSl s by_ z.cells l c) else none
    | _ => none
  | .slice t x lo hi mx => if mx.isSome && !hi.isSome then none else (opdOf P x).bind fun a => (opdO P lo).bind fun lo => (opdO P hi).bind fun hi => (opdO P mx).bind fun mx => match P.underlying t with
    | some .string => match mx with
      | none => some (.slStr a lo hi)
      | some _ => none
    | some (.slice e) => (sizeOf? P e).bind fun s => some (.slSl s a lo hi mx)
    | some (.array n e) => (sizeOf? P e).bind fun s => if 0 < s then some (.slArr n s a lo hi mx) else none
    | _ => none
  | .fieldAddr t x i => (opdOf P x).bind fun a => (fieldOf P t i).bind fun f => (sizeOf? P f.type).bind fun s => if 0 < s then some (.fldA f.offset a) else none
  | .field t x i => (opdOf P x).bind fun a => (fieldOf P t i).bind fun f => (loadOf P f.type).bind fun n => some (.fld f.offset n a)
  | .indexAddr t x i => (opdOf P x).bind fun a => (opdOf P i).bind fun i => match P.underlying t with
    | some (.slice e) => (sizeOf? P e).bind fun s => some (.idxA s a i)
    | some (.array n e) => (sizeOf? P e).bind fun s => some (.idxArrA n s a i)
    | _ => none
  | .index t x i => (opdOf P x).bind fun a => (opdOf P i).bind fun i => match P.underlying t with
    | some .string => some (.idxStr a i)
    | some (.array n e) => (sizeOf? P e).bind fun s => (loadOf P e).bind fun m => some (.idxArr n s m a i)
    | _ => none
  | .lookup t x k ok => (opdOf P x).bind fun a => (opdOf P k).bind fun k => match P.underlying t with
    | some (.map kt e) => (skOf P kt).bind fun q => (zeroOf P e).bind fun z => some (.lookup ok q z a k)
    | _ => none
  | .mapUpdate t m k v => (opdOf P m).bind fun m => (opdOf P k).bind fun k => (opdOf P v).bind fun v => match P.underlying t with
    | some (.map kt _) => (skOf P kt).bind fun q => some (.upd q m k v)
    | _ => none
  | .insert t m k v => (opdOf P m).bind fun m => (opdOf P k).bind fun k => (opdOf P v).bind fun v => match P.underlying t with
    | some (.map kt _) => (skOf P kt).bind fun q => some (.upd q m k v)
    | _ => none
  | .extract x i => (opdOf P x).bind fun a => some (.ext a i)
  | .call c => callOf P fresh c ty
  | _ => none

/-- What is said beside the code: what each region keeps; in which order a region that draws is told, where that is not the text's; the modes of calls, by region and operation, that are not 1. -/
structure An where
  keep : List (Nat × List Nat)
  ord : List (Nat × List Nat)
  mode : List (Nat × Nat × Nat)

def modeOf (id i : Nat) : List (Nat × Nat × Nat) → Nat
  | [] => 1
  | (a, b, m) :: r => if a = id ∧ b = i then m else modeOf id i r

def keepOf (id : Nat) : List (Nat × List Nat) → Option (List Nat)
  | [] => none
  | (i, l) :: r => if i = id then some l else keepOf id r

def guardOf (all : List Oper) : Option (Nat × Bool) → Option (Option (Nat × Bool))
  | none => some none
  | some (j, w) => match all[j]? with
    | some o => match o.dst with
      | some d => some (some (d, w))
      | none => none
    | none => none

def dstOk (n : Nat) : Option Nat → Bool
  | none => true
  | some d => Nat.blt d n

def roOf (an : An) (nt id : Nat) (all : List Oper) (i : Nat) (o : Oper) : Option RO :=
  (guardOf all o.guard).bind fun g => (opOf P (modeOf id i an.mode) o.type o.op).bind fun x =>
    if dstOk nt o.dst then some ⟨o.dst, g, x⟩ else none

def regOf (an : An) (nt id : Nat) (all : List Oper) : Nat → List Oper → Option (List RO)
  | _, [] => some []
  | i, o :: r => (roOf P an nt id all i o).bind fun x => (regOf an nt id all (i + 1) r).bind fun l => some (x :: l)

/-- The operations of a region in another order. -/
def regAt (an : An) (nt id : Nat) (all : List Oper) : List Nat → Option (List (Nat × RO))
  | [] => some []
  | i :: r => match all[i]? with
    | some o => (roOf P an nt id all i o).bind fun x => (regAt an nt id all r).bind fun l => some ((i, x) :: l)
    | none => none

/-- The operations that an operation stands behind, through others too. -/
def insN (x : Nat) (l : List Nat) : List Nat := bif l.any (Nat.beq x) then l else x :: l

def cloEs (acc : List (List Nat)) : List Edge → List Nat
  | [] => []
  | e :: r => bif Region.binds .any e then insN e.on (((acc[e.on]?).getD []).foldr insN (cloEs acc r)) else cloEs acc r

def cloGo : List (List Nat) → List Oper → List (List Nat)
  | acc, [] => acc
  | acc, o :: r => cloGo (acc ++ [cloEs acc o.after.toList]) r

def pairOk (clo : List (List Nat)) (p q : Nat × RO) : Bool :=
  (match clo[q.1]? with
   | some l => l.any (Nat.beq p.1)
   | none => false) || mayPass p.2 q.2

def pairsOk (clo : List (List Nat)) : List (Nat × RO) → Bool
  | [] => true
  | p :: r => r.all (pairOk clo p) && pairsOk clo r

def nodupB : List Nat → Bool
  | [] => true
  | x :: r => !(r.any (Nat.beq x)) && nodupB r

def edgesBack : Nat → List Oper → Bool
  | _, [] => true
  | i, o :: r => o.after.toList.all (fun e => !Region.binds .any e || Nat.blt e.on i) && edgesBack (i + 1) r

def upTo : Nat → List Nat → Bool
  | 0, _ => true
  | n + 1, xs => xs.any (Nat.beq n) && upTo n xs

def drawOk (all : List Oper) (xs : List Nat) (items : List (Nat × RO)) : Bool :=
  nodupB xs && upTo all.length xs && edgesBack 0 all && pairsOk (cloGo [] all) items

/-- One that may come ahead of its turn: a variable or a row is made, of plain cells. -/
def isMkO : O → Bool
  | .mkSl _ _ z _ _ => z.all g0
  | .alloc z => z.all g0
  | _ => false

def isMk (r : RO) : Bool := (match r.g with
  | none => true
  | some _ => false) && isMkO r.o

def standsOn (clo : List (List Nat)) (i j : Nat) : Bool := match clo[j]? with
  | some l => l.any (Nat.beq i)
  | none => false

def pairs2 (clo : List (List Nat)) (p q : Nat) : List (Nat × RO) → Bool
  | [] => true
  | x :: r => r.all (fun y => (pairOk clo x y || (Nat.beq x.1 p && Nat.beq y.1 q)) && !(Nat.beq x.1 q && Nat.beq y.1 p)) && pairs2 clo p q r

/-- q, which makes memory, may come ahead of p, which does too. -/
def draw2At (clo : List (List Nat)) (items : List (Nat × RO)) (p q : Nat × RO) : Bool :=
  isMk q.2 && p.2.apart q.2 && Nat.ble p.2.o.cls 3 && !(Nat.beq p.1 q.1) && pairs2 clo p.1 q.1 items &&
    items.all (fun s => Nat.beq s.1 q.1 || Nat.beq s.1 p.1 || (s.2.o.cls == 0 && (standsOn clo p.1 s.1 || q.2.apart s.2 || standsOn clo s.1 q.1)))

def draw2Ok (all : List Oper) (xs : List Nat) (items : List (Nat × RO)) : Bool :=
  nodupB xs && upTo all.length xs && edgesBack 0 all && items.any fun p => items.any fun q => draw2At (cloGo [] all) items p q

def rangeL : Nat → Nat → List Nat
  | _, 0 => []
  | i, n + 1 => i :: rangeL (i + 1) n

def codeOf (an : An) (nt : Nat) : Code → Option C
  | .skip => some .skip
  | .ret => some .ret
  | .exit id => some (.exit id)
  | .seq a b => (codeOf an nt a).bind fun a => (codeOf an nt b).bind fun b => some (.seq a b)
  | .cond x a b => (opdOf P x).bind fun x => (codeOf an nt a).bind fun a => (codeOf an nt b).bind fun b => some (.cond x a b)
  | .block id c => (codeOf an nt c).bind fun c => some (.block id c)
  | .loop c => (codeOf an nt c).bind fun c => some (.loop c)
  | .region id l false => (regOf P an nt id l.toList 0 l.toList).bind fun r => some (.reg false (keepOf id an.keep) r)
  | .region id l true =>
    let xs := (keepOf id an.ord).getD (rangeL 0 l.toList.length)
    (regAt P an nt id l.toList xs).bind fun items =>
      if (drawOk l.toList xs items || draw2Ok l.toList xs items) = true then some (.reg true (keepOf id an.keep) (items.map (·.2))) else none
  | _ => none

def resultOf (_nt : Nat) : ResultVar → Option R
  | .tmp t => some (.t t)
  | .cell a t => (loadOf P t).bind fun n => some (.cell a n)

def resultsOf (nt : Nat) : List ResultVar → Option (List R)
  | [] => some []
  | r :: l => (resultOf P nt r).bind fun x => (resultsOf nt l).bind fun xs => some (x :: xs)

def funcOf (an : An) (f : Func) : Option F :=
  match f.body with
  | none => none
  | some b => if f.params.size + f.nfree ≤ f.ntmps then
      (codeOf P an f.ntmps b).bind fun c => (resultsOf P f.ntmps f.results.toList).bind fun r => some ⟨f.params.size + f.nfree, c, r⟩
    else none

end
end Go.Am
