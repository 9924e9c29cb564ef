/- A plain machine: what the loaded code computes, told as a function on plain values and a plain heap, in one fixed order and with no draws. This text defines it; nothing is proved here. -/
import GoSem.Core.Code
import GoSem.Core.View
namespace Go.Am
set_option linter.unusedSimpArgs false
set_option linter.unusedVariables false
open Go

/-- A value: blocks have numbers of the machine's own; of a slice: block, first cell, elements, 0 for 'room unknown' or the room and one. -/
inductive V where
  | int (k : IntKind) (n : Int)
  | bool (b : Bool)
  | str (s : List UInt8)
  | ptr (b o : Nat)
  | nptr
  | sl (b o n c : Nat)
  | nsl
  | esl
  | mp (b : Nat)
  | nmp
  | fn (f : Fn) (first captured : List V)
  | nfn
  | ifc (t : TypeId) (v : V)
  | nifc
  | agg (l : List V)
  | tup (l : List V)
  deriving Inhabited

def V.cells : V → List V
  | .agg l => l
  | v => [v]

def V.one : V → Bool
  | .agg _ => false
  | .tup _ => false
  | _ => true

/-- A block: cells (z: the size of an element, 0 for a variable), or a map's entries, the newest last. -/
inductive Blk where
  | cells (z : Nat) (l : List V)
  | map (l : List (V × V))
  deriving Inhabited

structure Hp where
  nx : Nat
  l : List (Nat × Blk)
  deriving Inhabited

def look (b : Nat) : List (Nat × Blk) → Option Blk
  | [] => none
  | (c, x) :: r => bif Nat.beq c b then some x else look b r

def put (b : Nat) (y : Blk) : List (Nat × Blk) → List (Nat × Blk)
  | [] => []
  | (c, x) :: r => bif Nat.beq c b then (c, y) :: r else (c, x) :: put b y r

def drop (b : Nat) : List (Nat × Blk) → List (Nat × Blk)
  | [] => []
  | (c, x) :: r => bif Nat.beq c b then drop b r else (c, x) :: drop b r

def Hp.get (h : Hp) (b : Nat) : Option Blk := look b h.l
def Hp.set (h : Hp) (b : Nat) (x : Blk) : Hp := ⟨h.nx, put b x h.l⟩
def Hp.new (h : Hp) (x : Blk) : Hp := ⟨h.nx + 1, (h.nx, x) :: h.l⟩
def Hp.del (h : Hp) (b : Nat) : Hp := ⟨h.nx, drop b h.l⟩

abbrev Env := List (Nat × V)

def Env.get : Env → Nat → Option V
  | [], _ => none
  | (c, x) :: r, k => bif Nat.beq c k then some x else Env.get r k

def Env.set : Env → Nat → V → Env
  | [], k, v => [(k, v)]
  | (c, x) :: r, k, v => bif Nat.beq c k then (c, v) :: r else (c, x) :: Env.set r k v

def Env.keep (e : Env) : List Nat → Option Env
  | [] => some []
  | k :: ks => (e.get k).bind fun v => (e.keep ks).bind fun r => some ((k, v) :: r)

/-- An operand. -/
inductive A where
  | t (n : Nat)
  | c (v : V)
  | g (n : Nat)
  | f (n : Nat)
  deriving Inhabited

def A.ev (e : Env) : A → Option V
  | .t n => e.get n
  | .c v => some v
  | .g n => some (.ptr n 0)
  | .f n => some (.fn (.func n) [] [])

def evs (e : Env) : List A → Option (List V)
  | [] => some []
  | a :: r => (a.ev e).bind fun v => (evs e r).bind fun vs => some (v :: vs)

/-- Conversions. -/
inductive Cv where
  | int (k : IntKind)
  | str
  | bytes
  | ofBytes
  | same
  deriving Inhabited

/-- Kinds of one cell that are compared at once: whole numbers, strings, bools. -/
inductive Sk where
  | i
  | s
  | b
  deriving Inhabited

/-- Kinds that are compared with nil. -/
inductive Nk where
  | p
  | s
  | m
  | f
  | i
  deriving Inhabited

/-- How two values are compared: of one such kind; anything with nil; structs of such cells. -/
inductive Eq where
  | s (k : Sk)
  | nil (k : Nk)
  | agg (ks : List Sk)
  deriving Inhabited

/-- Operations, with what the types say already worked in: sizes in cells, offsets, zero cells, bytes of an element. -/
inductive O where
  | mov (x : A)
  | pick (c a b : A)
  | alloc (z : List V)
  | box (n : Nat) (x : A)
  | build (z : List V) (ps : List (Nat × Nat × A))
  | buildSl (sz len : Nat) (z : List V) (ps : List (Nat × Nat × A))
  | load (n : Option Nat) (a : A)
  | store (n : Nat) (a x : A)
  | nilc (x : A)
  | bin (o : BinOp) (x y : A)
  | eq (neg : Bool) (q : Eq) (x y : A)
  | un (o : UnOp) (x : A)
  | conv (c : Cv) (x : A)
  | mkIfc (t : TypeId) (x : A)
  | mkFn (f : Fn) (a b : List A)
  | mkMap
  | mkSl (sz bytes : Nat) (z : List V) (l c : A)
  | slStr (x : A) (lo hi : Option A)
  | slSl (sz : Nat) (x : A) (lo hi mx : Option A)
  | slArr (n sz : Nat) (x : A) (lo hi mx : Option A)
  | fldA (off : Nat) (x : A)
  | fld (off : Nat) (n : Option Nat) (x : A)
  | idxA (sz : Nat) (x i : A)
  | idxArrA (n sz : Nat) (x i : A)
  | idxArr (n sz : Nat) (m : Option Nat) (x i : A)
  | idxStr (x i : A)
  | lookup (ok : Bool) (q : Sk) (z : V) (x k : A)
  | upd (q : Sk) (m k v : A)
  | ext (x : A) (i : Nat)
  | lenS (x : A)
  | lenSl (x : A)
  | lenMp (x : A)
  | capSl (x : A)
  | app (sz bytes : Nat) (s x : A)
  | appStr (s x : A)
  | appZ (sz bytes : Nat) (z : List V) (s x : A)
  | mx (l : List A)
  | mn (l : List A)
  | copy (sz : Nat) (s x : A)
  | clr (sz : Nat) (z : List V) (x : A)
  | call (mode : Nat) (f : A) (args : List A)
  deriving Inhabited

structure RO where
  dst : Option Nat
  g : Option (Nat × Bool)
  o : O
  deriving Inhabited

/-- Code. 'keep' of a region: the slots that are read later. -/
inductive C where
  | skip
  | ret
  | exit (id : Nat)
  | seq (a b : C)
  | cond (x : A) (a b : C)
  | block (id : Nat) (c : C)
  | loop (c : C)
  | reg (draws : Bool) (keep : Option (List Nat)) (l : List RO)
  deriving Inhabited

/-- A result: a slot, or what lies in the variable that a slot points to. -/
inductive R where
  | t (n : Nat)
  | cell (n : Nat) (sz : Option Nat)
  deriving Inhabited

structure F where
  params : Nat
  body : C
  results : List R
  deriving Inhabited

/-! ### single operations -/

def wrap (k : IntKind) (n : Int) : Int := k.wrap n

def loadN (l : List V) (o n : Nat) : Option (List V) :=
  bif Nat.ble (o + n) l.length then some ((l.drop o).take n) else none

def setN (l : List V) (o : Nat) (vs : List V) : Option (List V) :=
  bif Nat.ble (o + vs.length) l.length then some (l.take o ++ (vs ++ l.drop (o + vs.length))) else none

def intBits (op : BinOp) (k : IntKind) (x y : Int) : Option V :=
  let a := BitVec.ofInt k.bits x
  let b := BitVec.ofInt k.bits y
  match op with
  | .and => some (.int k (k.wrap (a &&& b).toNat))
  | .or => some (.int k (k.wrap (a ||| b).toNat))
  | .xor => some (.int k (k.wrap (a ^^^ b).toNat))
  | .andNot => some (.int k (k.wrap (a &&& ~~~b).toNat))
  | _ => none

def bytesLess : List UInt8 → List UInt8 → Bool
  | _, [] => false
  | [], _ :: _ => true
  | a :: x, b :: y => a < b || (a == b && bytesLess x y)

def binInt (op : BinOp) (k : IntKind) (a b : Int) : Option V :=
  match op with
  | .add => some (.int k (k.wrap (a + b)))
  | .sub => some (.int k (k.wrap (a - b)))
  | .mul => some (.int k (k.wrap (a * b)))
  | .quo => if b = 0 then none else some (.int k (k.wrap (a.tdiv b)))
  | .rem => if b = 0 then none else some (.int k (a.tmod b))
  | .lss => some (.bool (decide (a < b)))
  | .leq => some (.bool (decide (a ≤ b)))
  | .gtr => some (.bool (decide (a > b)))
  | .geq => some (.bool (decide (a ≥ b)))
  | .eql => some (.bool (a == b))
  | .neq => some (.bool (a != b))
  | .shl => if b < 0 then none else some (.int k (k.wrap (a * 2 ^ (min b.toNat k.bits))))
  | .shr => if b < 0 then none else some (.int k (a.fdiv (2 ^ (min b.toNat k.bits))))
  | op => intBits op k a b

def binStr (op : BinOp) (a b : List UInt8) : Option V :=
  match op with
  | .add => bif Nat.ble (a.length + b.length) 4611686018427387904 then some (.str (a ++ b)) else none
  | .eql => some (.bool (a == b))
  | .neq => some (.bool !(a == b))
  | .lss => some (.bool (bytesLess a b))
  | .leq => some (.bool (bytesLess a b || a == b))
  | .gtr => some (.bool !(bytesLess a b || a == b))
  | .geq => some (.bool !(bytesLess a b))
  | _ => none

def isShift : BinOp → Bool
  | .shl | .shr => true
  | _ => false

def bin (op : BinOp) (x y : V) : Option V :=
  match x, y with
  | .int k a, .int k' b => if k = k' ∨ isShift op = true then binInt op k a b else none
  | .str a, .str b => binStr op a b
  | _, _ => none

def eqK (q : Sk) (x y : V) : Option Bool :=
  match q, x, y with
  | .i, .int k a, .int k' b => if k = k' then some (a == b) else none
  | .s, .str a, .str b => some (a == b)
  | .b, .bool a, .bool b => some (a == b)
  | _, _, _ => none

def eqAll : List Sk → List V → List V → Option Bool
  | [], [], [] => some true
  | q :: qs, x :: xs, y :: ys => (eqK q x y).bind fun r => if r then eqAll qs xs ys else some false
  | _, _, _ => none

/-- Two values of a kind that has a nil, one of them nil: are they the same? -/
def eqN (k : Nk) (x y : V) : Option Bool :=
  match k, x, y with
  | .p, .nptr, .nptr => some true
  | .p, .nptr, .ptr _ _ => some false
  | .p, .ptr _ _, .nptr => some false
  | .s, .nsl, .nsl => some true
  | .s, .nsl, .sl _ _ _ _ => some false
  | .s, .sl _ _ _ _, .nsl => some false
  | .s, .nsl, .esl => some false
  | .s, .esl, .nsl => some false
  | .m, .nmp, .nmp => some true
  | .m, .nmp, .mp _ => some false
  | .m, .mp _, .nmp => some false
  | .f, .nfn, .nfn => some true
  | .f, .nfn, .fn _ _ _ => some false
  | .f, .fn _ _ _, .nfn => some false
  | .i, .nifc, .nifc => some true
  | .i, .nifc, .ifc _ _ => some false
  | .i, .ifc _ _, .nifc => some false
  | _, _, _ => none

def eqv (q : Eq) (x y : V) : Option Bool :=
  match q with
  | .s k => eqK k x y
  | .nil k => eqN k x y
  | .agg ks => match x, y with
    | .agg xs, .agg ys => eqAll ks xs ys
    | _, _ => none

def un (op : UnOp) (x : V) : Option V :=
  match op, x with
  | .neg, .int k n => some (.int k (k.wrap (0 - n)))
  | .xor, .int k n => intBits .xor k (if k.signed then -1 else k.max) n
  | .not, .bool b => some (.bool !b)
  | _, _ => none

def byteV (b : UInt8) : V := .int .u8 (b.toNat : Int)

def bytesOf : List V → Option (List UInt8)
  | [] => some []
  | .int .u8 n :: r => (bytesOf r).bind fun l => some (UInt8.ofNat n.toNat :: l)
  | _ :: _ => none

def fill (cells : List V) : List (Nat × Nat × V) → Option (List V)
  | [] => some cells
  | (off, size, v) :: r =>
    if v.cells.length = size then (setN cells off v.cells).bind fun c => fill c r else none

def evParts (e : Env) : List (Nat × Nat × A) → Option (List (Nat × Nat × V))
  | [] => some []
  | (o, s, a) :: r => (a.ev e).bind fun v => (evParts e r).bind fun vs => some ((o, s, v) :: vs)

/-- Zero cells of n elements. -/
def zeros (z : List V) : Nat → List V
  | 0 => []
  | n + 1 => z ++ zeros z n

def intOf : V → Option Int
  | .int _ n => some n
  | _ => none

def evO (e : Env) : Option A → Option (Option V)
  | none => some none
  | some a => (a.ev e).bind fun v => some (some v)

/-- A bound of a slice expression: at most y. -/
def bound (v : Option V) (dflt y : Nat) : Option Nat :=
  match v with
  | none => some dflt
  | some (.int _ i) => if 0 ≤ i ∧ i ≤ (y : Int) then some i.toNat else none
  | some _ => none

/-- Search in a map. -/
def find (q : Sk) (k : V) : List (V × V) → Option (Option V)
  | [] => some none
  | (k', v) :: r => (eqK q k k').bind fun same => if same then some (some v) else find q k r

def replace (q : Sk) (k v : V) : List (V × V) → List (V × V)
  | [] => []
  | (k', v') :: r => if eqK q k k' = some true then (k, v) :: r else (k', v') :: replace q k v r

def roomMax : Nat := 70368744177664

/-- The cells that a slice shows. -/
def shown (h : Hp) (sz b o n : Nat) : Option (List V) :=
  match h.get b with
  | some (.cells z l) => if z = sz then loadN l o (n * sz) else none
  | _ => none

/-- A block of elements of a size. -/
def zIs (h : Hp) (b sz : Nat) : Bool :=
  match h.get b with
  | some (.cells z _) => Nat.beq z sz
  | _ => false

/-- append: 'news' are the cells, m the elements that come behind. ro: blocks below it are not written. -/
def app (ro : Nat) (h : Hp) (sz bytes : Nat) (s : V) (m : Nat) (news : List V) : Option (V × Hp) :=
  match s with
  | .nsl => if m = 0 then some (.nsl, h) else
    if m * bytes ≤ roomMax ∧ m ≤ roomMax then some (.sl h.nx 0 m 0, h.new (.cells sz news)) else none
  | .sl b o n c =>
    if m = 0 then some (.sl b o n c, h) else
    if (n + m) * bytes ≤ roomMax ∧ n + m ≤ roomMax then
      if c = 0 then
        if ro ≤ b then
          (shown h sz b o n).bind fun olds => some (.sl h.nx 0 (n + m) 0, (h.del b).new (.cells sz (olds ++ news)))
        else none
      else if n + m < c then
        if ro ≤ b then
          match h.get b with
          | some (.cells z l) => if z = sz then (setN l (o + n * sz) news).bind fun l' => some (.sl b o (n + m) c, h.set b (.cells z l')) else none
          | _ => none
        else none
      else (shown h sz b o n).bind fun olds => some (.sl h.nx 0 (n + m) 0, h.new (.cells sz (olds ++ news)))
    else none
  | .esl => if m = 0 then some (.esl, h) else none
  | _ => none

def max2 : V → V → Option V
  | .int k a, .int _ b => some (.int k (if b > a then b else a))
  | _, _ => none

def min2 : V → V → Option V
  | .int k a, .int _ b => some (.int k (if b < a then b else a))
  | _, _ => none

def fold2 (f : V → V → Option V) : V → List V → Option V
  | x, [] => some x
  | x, y :: r => (f x y).bind fun z => fold2 f z r

def maxs : List V → Option V
  | x :: r => fold2 max2 x r
  | [] => none

def mins : List V → Option V
  | x :: r => fold2 min2 x r
  | [] => none

/-- One operation but a call. -/
def op1 (ro : Nat) (e : Env) (h : Hp) : O → Option (V × Hp)
  | .mov x => (x.ev e).bind fun v => some (v, h)
  | .pick c a b => (c.ev e).bind fun c => match c with
    | .bool true => (a.ev e).bind fun v => some (v, h)
    | .bool false => (b.ev e).bind fun v => some (v, h)
    | _ => none
  | .alloc z => some (.ptr h.nx 0, h.new (.cells 0 z))
  | .box n x => (x.ev e).bind fun v => if v.cells.length = n then some (.ptr h.nx 0, h.new (.cells 0 v.cells)) else none
  | .build z ps => (evParts e ps).bind fun vs => (fill z vs).bind fun l => some (.agg l, h)
  | .buildSl sz len z ps => (evParts e ps).bind fun vs => (fill (zeros z len) vs).bind fun l => some (.sl h.nx 0 len (len + 1), h.new (.cells sz l))
  | .load n a => (a.ev e).bind fun p => match p with
    | .ptr b o => match h.get b with
      | some (.cells _ l) => match n with
        | none => (l[o]?).bind fun v => some (v, h)
        | some n => (loadN l o n).bind fun vs => some (.agg vs, h)
      | _ => none
    | _ => none
  | .store n a x => (a.ev e).bind fun p => (x.ev e).bind fun v => match p with
    | .ptr b o => if ro ≤ b ∧ v.cells.length = n ∧ v.cells.all V.one = true then
        match h.get b with
        | some (.cells z l) => (setN l o v.cells).bind fun l' => some (.tup [], h.set b (.cells z l'))
        | _ => none
      else none
    | _ => none
  | .nilc x => (x.ev e).bind fun v => match v with
    | .ptr _ _ => some (v, h)
    | .fn (.func _) _ _ => some (v, h)
    | _ => none
  | .bin o x y => (x.ev e).bind fun a => (y.ev e).bind fun b => (bin o a b).bind fun v => some (v, h)
  | .eq neg q x y => (x.ev e).bind fun a => (y.ev e).bind fun b => (eqv q a b).bind fun r => some (.bool (if neg then !r else r), h)
  | .un o x => (x.ev e).bind fun a => (un o a).bind fun v => some (v, h)
  | .conv c x => (x.ev e).bind fun v => match c, v with
    | .int k, .int _ n => some (.int k (k.wrap n), h)
    | .str, .str s => some (.str s, h)
    | .bytes, .str s => if s.length ≤ roomMax then some (.sl h.nx 0 s.length 0, h.new (.cells 1 (s.map byteV))) else none
    | .same, .sl b o n c => if ro ≤ b then (match h.get b with
      | some (.cells _ _) => some (.sl b o n c, h)
      | _ => none) else none
    | .ofBytes, .nsl => some (.str [], h)
    | .ofBytes, .esl => some (.str [], h)
    | .ofBytes, .sl b o n _ => (shown h 1 b o n).bind fun l => (bytesOf l).bind fun s => some (.str s, h)
    | _, _ => none
  | .mkIfc t x => (x.ev e).bind fun v => some (.ifc t v, h)
  | .mkFn f a b => (evs e a).bind fun a => (evs e b).bind fun b => some (.fn f a b, h)
  | .mkMap => some (.mp h.nx, h.new (.map []))
  | .mkSl sz bytes z l c => (l.ev e).bind fun l => (c.ev e).bind fun c => match l, c with
    | .int _ l, .int _ c => if 0 ≤ l ∧ l ≤ c ∧ c * bytes ≤ (roomMax : Int) ∧ c ≤ (roomMax : Int) then
        some (.sl h.nx 0 l.toNat (c.toNat + 1), h.new (.cells sz (zeros z c.toNat))) else none
    | _, _ => none
  | .slStr x lo hi => (x.ev e).bind fun v => (evO e lo).bind fun lo => (evO e hi).bind fun hi => match v with
    | .str s => (bound hi s.length s.length).bind fun hh => (bound lo 0 hh).bind fun l => some (.str ((s.take hh).drop l), h)
    | _ => none
  | .slSl sz x lo hi mx => (x.ev e).bind fun v => (evO e lo).bind fun lo => (evO e hi).bind fun hi => (evO e mx).bind fun mx => match v with
    | .sl b o n c => if zIs h b sz = true then
      if c = 0 then
        -- the room is not known: at most the length is asked for
        match mx with
        | none => (bound hi n n).bind fun hh => (bound lo 0 hh).bind fun l => if l < n then some (.sl b (o + l * sz) (hh - l) 0, h) else some (.esl, h)
        | some _ => (bound mx n n).bind fun m => (bound hi n m).bind fun hh => (bound lo 0 hh).bind fun l =>
          if l < m then some (.sl b (o + l * sz) (hh - l) (m - l + 1), h) else some (.sl b o (hh - l) (m - l + 1), h)
      else
        (bound mx (c - 1) (c - 1)).bind fun m => (bound hi n m).bind fun hh => (bound lo 0 hh).bind fun l =>
          if l < m then some (.sl b (o + l * sz) (hh - l) (m - l + 1), h) else some (.sl b o (hh - l) (m - l + 1), h)
      else none
    | .nsl => (bound mx 0 0).bind fun m => (bound hi 0 m).bind fun hh => (bound lo 0 hh).bind fun _ => some (.nsl, h)
    | .esl => match mx with
      | none => (bound hi 0 0).bind fun hh => (bound lo 0 hh).bind fun _ => some (.esl, h)
      | some _ => none
    | _ => none
  | .slArr n sz x lo hi mx => (x.ev e).bind fun v => (evO e lo).bind fun lo => (evO e hi).bind fun hi => (evO e mx).bind fun mx => match v with
    | .ptr b o => match h.get b with
      | some (.cells z l) => if z = sz ∧ o + n * sz ≤ l.length then
          (bound mx n n).bind fun m => (bound hi n m).bind fun hh => (bound lo 0 hh).bind fun l =>
            if l < m then some (.sl b (o + l * sz) (hh - l) (m - l + 1), h) else some (.sl b o (hh - l) (m - l + 1), h)
        else none
      | _ => none
    | _ => none
  | .fldA off x => (x.ev e).bind fun v => match v with
    | .ptr b o => some (.ptr b (o + off), h)
    | _ => none
  | .fld off n x => (x.ev e).bind fun v => match v with
    | .agg l => match n with
      | none => (l[off]?).bind fun v => some (v, h)
      | some n => (loadN l off n).bind fun vs => some (.agg vs, h)
    | _ => none
  | .idxA sz x i => (x.ev e).bind fun v => (i.ev e).bind fun i => match v, i with
    | .sl b o n _, .int _ i => if 0 ≤ i ∧ i < (n : Int) then some (.ptr b (o + i.toNat * sz), h) else none
    | _, _ => none
  | .idxArrA n sz x i => (x.ev e).bind fun v => (i.ev e).bind fun i => match v, i with
    | .ptr b o, .int _ i => if 0 ≤ i ∧ i < (n : Int) then some (.ptr b (o + i.toNat * sz), h) else none
    | _, _ => none
  | .idxArr n sz m x i => (x.ev e).bind fun v => (i.ev e).bind fun i => match v, i with
    | .agg l, .int _ i => if 0 ≤ i ∧ i < (n : Int) then
        match m with
        | none => (l[i.toNat * sz]?).bind fun v => some (v, h)
        | some m => (loadN l (i.toNat * sz) m).bind fun vs => some (.agg vs, h)
      else none
    | _, _ => none
  | .idxStr x i => (x.ev e).bind fun v => (i.ev e).bind fun i => match v, i with
    | .str s, .int _ i => if 0 ≤ i then (s[i.toNat]?).bind fun b => some (byteV b, h) else none
    | _, _ => none
  | .lookup ok q z x k => (x.ev e).bind fun m => (k.ev e).bind fun k => match m with
    | .nmp => some (if ok then .tup [z, .bool false] else z, h)
    | .mp b => match h.get b with
      | some (.map es) => (find q k es).bind fun r => match r with
        | some v => some (if ok then .tup [v, .bool true] else v, h)
        | none => some (if ok then .tup [z, .bool false] else z, h)
      | _ => none
    | _ => none
  | .upd q m k v => (m.ev e).bind fun m => (k.ev e).bind fun k => (v.ev e).bind fun v => match m with
    | .mp b => if ro ≤ b then
        match h.get b with
        | some (.map es) => (find q k es).bind fun r => match r with
          | some _ => some (.tup [], h.set b (.map (replace q k v es)))
          | none => some (.tup [], h.set b (.map (es ++ [(k, v)])))
        | _ => none
      else none
    | _ => none
  | .ext x i => (x.ev e).bind fun v => match v with
    | .tup l => (l[i]?).bind fun v => some (v, h)
    | _ => none
  | .lenS x => (x.ev e).bind fun v => match v with
    | .str s => some (.int .i64 s.length, h)
    | _ => none
  | .lenSl x => (x.ev e).bind fun v => match v with
    | .sl _ _ n _ => some (.int .i64 n, h)
    | .nsl => some (.int .i64 0, h)
    | .esl => some (.int .i64 0, h)
    | _ => none
  | .lenMp x => (x.ev e).bind fun v => match v with
    | .mp b => match h.get b with
      | some (.map es) => some (.int .i64 es.length, h)
      | _ => none
    | .nmp => some (.int .i64 0, h)
    | _ => none
  | .capSl x => (x.ev e).bind fun v => match v with
    | .sl _ _ _ c => if c = 0 then none else some (.int .i64 ((c - 1 : Nat) : Int), h)
    | .nsl => some (.int .i64 0, h)
    | _ => none
  | .app sz bytes s x => (s.ev e).bind fun s => (x.ev e).bind fun x => match x with
    | .nsl => app ro h sz bytes s 0 []
    | .esl => app ro h sz bytes s 0 []
    | .sl b o n _ => (shown h sz b o n).bind fun news => if news.all V.one = true then app ro h sz bytes s n news else none
    | _ => none
  | .appStr s x => (s.ev e).bind fun s => (x.ev e).bind fun x => match x with
    | .str t => app ro h 1 1 s t.length (t.map byteV)
    | _ => none
  | .appZ sz bytes z s x => (s.ev e).bind fun s => (x.ev e).bind fun x => match x with
    | .int .i64 n => if 0 ≤ n ∧ n ≤ (roomMax : Int) then app ro h sz bytes s n.toNat (zeros z n.toNat) else none
    | _ => none
  | .mx l => (evs e l).bind fun l => (maxs l).bind fun v => some (v, h)
  | .mn l => (evs e l).bind fun l => (mins l).bind fun v => some (v, h)
  | .copy sz s x => (s.ev e).bind fun s => (x.ev e).bind fun x => match s, x with
    | .sl b o n _, .sl b' o' n' _ => if ro ≤ b then
        (shown h sz b' o' (min n' n)).bind fun l =>
          match h.get b with
          | some (.cells z cs) => if z = sz ∧ l.all V.one = true then (setN cs o l).bind fun cs' => some (.int .i64 (min n' n : Nat), h.set b (.cells z cs')) else none
          | _ => none
      else none
    | .sl b o n _, .str t => if ro ≤ b ∧ sz = 1 then
          match h.get b with
          | some (.cells z cs) => if z = 1 then (setN cs o ((t.take n).map byteV)).bind fun cs' => some (.int .i64 (min t.length n : Nat), h.set b (.cells z cs')) else none
          | _ => none
      else none
    | .sl _ _ _ _, .nsl => some (.int .i64 0, h)
    | .nsl, .sl _ _ _ _ => some (.int .i64 0, h)
    | .nsl, .nsl => some (.int .i64 0, h)
    | .nsl, .str _ => some (.int .i64 0, h)
    | _, _ => none
  | .clr sz z x => (x.ev e).bind fun x => match x with
    | .nsl => some (.tup [], h)
    | .sl b o n _ => if n = 0 then some (.tup [], h) else if ro ≤ b then
        match h.get b with
        | some (.cells z' cs) => if z' = sz ∧ z.all V.one = true then (setN cs o (zeros z n)).bind fun cs' => some (.tup [], h.set b (.cells z' cs')) else none
        | _ => none
      else none
    | _ => none
  | .call .. => none

/-- Values without a block's number. -/
def g0 : V → Bool
  | .int _ _ => true
  | .bool _ => true
  | .str _ => true
  | .nptr => true
  | .nsl => true
  | .esl => true
  | .nmp => true
  | .nfn => true
  | .nifc => true
  | .fn _ [] [] => true
  | _ => false

def g1 : V → Bool
  | .agg l => l.all g0
  | v => g0 v

def ground : V → Bool
  | .tup l => l.all g1
  | v => g1 v

/-! ### code -/

inductive X where
  | nrm
  | exit (id : Nat)
  | ret
  deriving Inhabited

/-- The calls: ro, function, arguments, heap. -/
abbrev K := Nat → Nat → List V → Hp → Option (V × Hp)

/-- mode 0: the call may write what is there; 1: it may not; 2: nor may its answer hold a block's number; m + 3: neither what it is handed nor its answer holds one, and it is made where nothing lies but the first m blocks' numbers. -/
def callV (k : K) (ro : Nat) (mode : Nat) (f : V) (args : List V) (h : Hp) : Option (V × Hp) :=
  match f with
  | .fn (.func n) a b =>
    if mode = 0 then k ro n (a ++ args ++ b) h
    else if 3 ≤ mode then
      if (a ++ args ++ b).all ground = true then (k (mode - 3) n (a ++ args ++ b) ⟨mode - 3, []⟩).bind fun (r, _) => if ground r = true then some (r, h) else none
      else none
    else (k h.nx n (a ++ args ++ b) h).bind fun (r, h') => if ground r = true then some (r, h) else if mode = 1 then some (r, h') else none
  | _ => none

def opX (k : K) (ro : Nat) (e : Env) (h : Hp) : O → Option (V × Hp)
  | .call m f args => (f.ev e).bind fun f => (evs e args).bind fun args => callV k ro m f args h
  | o => op1 ro e h o

def wanted (e : Env) : Option (Nat × Bool) → Option Bool
  | none => some true
  | some (t, w) => (e.get t).bind fun v => match v with
    | .bool b => some (b == w)
    | .tup [] => some false
    | _ => none

def setO (e : Env) : Option Nat → V → Env
  | none, _ => e
  | some d, v => e.set d v

/-- One operation, under its guard. -/
def step1 (k : K) (ro : Nat) (o : RO) (e : Env) (h : Hp) : Option (Env × Hp) :=
  (wanted e o.g).bind fun w =>
    if w then (opX k ro e h o.o).bind fun (v, h') => some (setO e o.dst v, h')
    else some (setO e o.dst (.tup []), h)

def ops (k : K) (ro : Nat) : List RO → Env → Hp → Option (Env × Hp)
  | [], e, h => some (e, h)
  | o :: r, e, h => (step1 k ro o e h).bind fun (e', h') => ops k ro r e' h'

def iter (f : Env → Hp → Option (X × Env × Hp)) : Nat → Env → Hp → Option (X × Env × Hp)
  | 0, _, _ => none
  | n + 1, e, h => (f e h).bind fun (x, e', h') => match x with
    | .nrm => iter f n e' h'
    | x => some (x, e', h')

def exec (k : K) (ro : Nat) (n : Nat) : C → Env → Hp → Option (X × Env × Hp)
  | .skip, e, h => some (.nrm, e, h)
  | .ret, e, h => some (.ret, e, h)
  | .exit id, e, h => some (.exit id, e, h)
  | .seq a b, e, h => (exec k ro n a e h).bind fun (x, e', h') => match x with
    | .nrm => exec k ro n b e' h'
    | x => some (x, e', h')
  | .cond x a b, e, h => (x.ev e).bind fun v => match v with
    | .bool true => exec k ro n a e h
    | .bool false => exec k ro n b e h
    | _ => none
  | .block id c, e, h => (exec k ro n c e h).bind fun (x, e', h') => match x with
    | .exit i => bif Nat.beq i id then some (.nrm, e', h') else some (.exit i, e', h')
    | x => some (x, e', h')
  | .loop c, e, h => iter (fun e h => exec k ro n c e h) n e h
  | .reg _ keep l, e, h => (ops k ro l e h).bind fun (e', h') => match keep with
    | none => some (.nrm, e', h')
    | some ks => (e'.keep ks).bind fun e'' => some (.nrm, e'', h')

def params : Nat → List V → Env
  | _, [] => []
  | n, v :: r => (n, v) :: params (n + 1) r

def resOf (e : Env) (h : Hp) : R → Option V
  | .t n => e.get n
  | .cell n sz => (e.get n).bind fun p => match p with
    | .ptr b o => match h.get b with
      | some (.cells _ l) => match sz with
        | none => l[o]?
        | some n => (loadN l o n).bind fun vs => some (.agg vs)
      | _ => none
    | _ => none

def ress (e : Env) (h : Hp) : List R → Option (List V)
  | [] => some []
  | r :: rs => (resOf e h r).bind fun v => (ress e h rs).bind fun vs => some (v :: vs)

def pack : List V → V
  | [v] => v
  | l => .tup l

/-- The functions: code, or an answer that stands for itself. -/
inductive D where
  | code (f : F)
  | orc (f : Nat → List V → Hp → Option (V × Hp))

def run (fs : Nat → Option D) : Nat → K
  | 0, _, _, _, _ => none
  | n + 1, ro, f, args, h => match fs f with
    | none => none
    | some (.orc g) => g ro args h
    | some (.code f) => if args.length = f.params then
        (exec (run fs n) ro n f.body (params 0 args) h).bind fun (x, e, h') => match x with
          | .exit _ => none
          | _ => (ress e h' f.results).bind fun vs => some (pack vs, h')
      else none

/-! ### operations whose order is open -/

def A.slot : A → List Nat
  | .t n => [n]
  | _ => []

def slots : List A → List Nat
  | [] => []
  | a :: r => a.slot ++ slots r

def slotsO : Option A → List Nat
  | none => []
  | some a => a.slot

def slotsP : List (Nat × Nat × A) → List Nat
  | [] => []
  | (_, _, a) :: r => a.slot ++ slotsP r

/-- The slots that an operation reads. -/
def O.reads : O → List Nat
  | .mov x => x.slot
  | .box _ x | .load _ x | .nilc x | .un _ x | .conv _ x | .mkIfc _ x | .fldA _ x | .fld _ _ x | .ext x _ | .lenS x | .lenSl x | .lenMp x | .capSl x | .clr _ _ x => x.slot
  | .pick c a b => c.slot ++ (a.slot ++ b.slot)
  | .alloc _ | .mkMap => []
  | .build _ ps | .buildSl _ _ _ ps => slotsP ps
  | .store _ a x | .bin _ a x | .eq _ _ a x | .mkSl _ _ _ a x | .idxA _ a x | .idxArrA _ _ a x | .idxArr _ _ _ a x | .idxStr a x | .lookup _ _ _ a x | .app _ _ a x | .appStr a x | .appZ _ _ _ a x | .copy _ a x => a.slot ++ x.slot
  | .mkFn _ a b => slots a ++ slots b
  | .slStr x lo hi => x.slot ++ (slotsO lo ++ slotsO hi)
  | .slSl _ x lo hi m3 | .slArr _ _ x lo hi m3 => x.slot ++ (slotsO lo ++ (slotsO hi ++ slotsO m3))
  | .upd _ m k v => m.slot ++ (k.slot ++ v.slot)
  | .mx l => slots l
  | .mn l => slots l
  | .call _ f l => f.slot ++ slots l

/-- Kinds of operations: 0: no memory is looked at; 1: memory is read; 2: a call whose answer holds no block's number; 3: memory is made out of what is at hand; 4: all else. -/
def O.cls : O → Nat
  | .mov _ | .pick .. | .build .. | .nilc _ | .bin .. | .eq .. | .un .. | .mkIfc .. | .mkFn .. | .slStr .. | .fldA .. | .fld .. | .idxA .. | .idxArrA .. | .idxArr .. | .idxStr .. | .ext .. | .lenS _ | .lenSl _ | .capSl _ | .mx _ | .mn _ => 0
  | .conv (.int _) _ | .conv .str _ => 0
  | .load .. | .lookup .. | .lenMp _ | .slSl .. | .slArr .. | .conv .ofBytes _ => 1
  | .call m _ _ => if m = 2 then 2 else if m = 1 then 3 else if m = 0 then 4 else 0
  | .alloc _ | .box .. | .buildSl .. | .mkMap | .mkSl .. | .conv .bytes _ => 3
  | _ => 4

def RO.reads (r : RO) : List Nat := r.o.reads ++ (match r.g with | some (t, _) => [t] | none => [])

def RO.apart (x y : RO) : Bool :=
  (match x.dst with
   | some d => !y.reads.contains d && y.dst != some d
   | none => true) &&
  (match y.dst with
   | some d => !x.reads.contains d
   | none => true)

def compat (x y : RO) : Bool :=
  x.o.cls == 0 || y.o.cls == 0 || (Nat.ble x.o.cls 2 && Nat.ble y.o.cls 2) || (x.o.cls == 1 && y.o.cls == 3)

/-- y, which stands behind x, may come up ahead of it. -/
def mayPass (x y : RO) : Bool := x.apart y && compat x y


end Go.Am
