/-
  THE ABSTRACT MACHINE: Go's code over values without addresses: what it computes, and how a function's code is brought into its form.
-/
import GoSem.Dispatch
import GoSem.Machine.Return
set_option linter.unusedVariables false
namespace Go.Proofs.YtlogcjaigjcmiaaGreat.AM
open Go

/-- A value without addresses: 'ro' is a slice that nobody writes, by its elements; 'sl' lies in the block of that number. -/
inductive AV where
  | dead
  | bool (b : Bool)
  | int (k : IntKind) (n : Int)
  | str (s : List UInt8)
  | nilp
  | ptr (id off : Nat)
  | rop (es : List AV) (st i off : Nat)
  | nils
  | sl (id st off len cap : Nat) (ex : Bool)
  | ro (es : List AV) (st : Nat) (ex : Bool)
  | nilm
  | map (id : Nat)
  | nilf
  | fn (f : Fn) (first cap : List AV)
  | agg (cs : List AV)
  | tup (vs : List AV)
  deriving Inhabited

def AV.cells : AV → List AV
  | .agg cs => cs
  | .dead => []
  | v => [v]
/-- A value of one cell. -/
def AV.one : AV → Bool
  | .agg _ | .tup _ | .dead => false
  | _ => true

inductive Blk where
  | gone
  | cells (cs : List AV)
  | map (es : List (AV × AV))
  deriving Inhabited

inductive AO where
  | t (n : Nat)
  | c (v : AV)
  deriving Inhabited

inductive AOp where
  | mv (x : AO)
  | pick (c a b : AO)
  | alloc (z : List AV)
  | box (x : AO)
  | build (z : List AV) (ps : List (Nat × Nat × AO))
  | buildSl (z : List AV) (len : Nat) (ps : List (Nat × AO))
  | load (n : Option Nat) (a : AO)
  | store (n : Nat) (a x : AO)
  | nilck (x : AO)
  | bin (op : BinOp) (x y : AO)
  | beq (neg : Bool) (x y : AO)
  | isNil (kd : Nat) (neg : Bool) (x : AO)
  | eqS (neg : Bool) (ks : List Nat) (x y : AO)
  | un (op : UnOp) (x : AO)
  | conv (k : IntKind) (x : AO)
  | convS (x : AO)
  | s2b (x : AO)
  | b2s (x : AO)
  | mkfn (f : Fn) (first cap : List AO)
  | mkmap
  | mksl (z : List AV) (by_ : Nat) (len cap : AO)
  | slcS (x : AO) (lo hi : Option AO)
  | slc (st : Nat) (x : AO) (lo hi mx : Option AO)
  | slcA (st n : Nat) (x : AO) (lo hi mx : Option AO)
  | fieldAddr (off : Nat) (x : AO)
  | field (n : Option Nat) (off : Nat) (x : AO)
  | idxAddr (st : Nat) (x i : AO)
  | idxAddrA (st n : Nat) (x i : AO)
  | idxS (x i : AO)
  | idxA (n : Option Nat) (st len : Nat) (x i : AO)
  | lookup (z : AV) (kk : Nat) (m k : AO) (ok : Bool)
  | mapUpd (kk : Nat) (m k v : AO)
  | extract (x : AO) (i : Nat)
  | call (f : AO) (args : List AO)
  | len (kd : Nat) (x : AO)
  | append (st by_ : Nat) (s x : AO)
  | copy (st : Nat) (d s : AO)
  | del (kk : Nat) (m k : AO)
  | clear (z : List AV) (x : AO)
  | mxmn (mx : Bool) (args : List AO)
  | bad
  deriving Inhabited

/-- d: where the value goes; g: the slot that must hold this bool; k, e (where the order is drawn; of one that reads): behind how many operations that make or write memory it stands at the least, and at the most. -/
structure AOper where
  d : Option Nat
  o : AOp
  g : Option (Nat × Bool)
  k : Nat := 0
  e : Nat := 0
  deriving Inhabited

inductive ACode where
  | skip
  | reg (ops : List AOper)
  | dreg (ops : List AOper)
  | seq (a b : ACode)
  | cond (c : AO) (a b : ACode)
  | block (id : Nat) (b : ACode)
  | loop (b : ACode)
  | exit (id : Nat)
  | ret
  | bad
  deriving Inhabited

inductive ARes where
  | t (n : Nat)
  | cell (a : Nat) (n : Option Nat)
  deriving Inhabited

structure AFunc where
  nt : Nat
  body : ACode
  res : List ARes
  deriving Inhabited

/-! What the operations come to. -/
structure St where
  t : List AV
  h : List Blk
  lo : Option Nat := none
  deriving Inhabited

def omin : Option Nat → Option Nat → Option Nat
  | none, x => x
  | x, none => x
  | some a, some b => some (if a ≤ b then a else b)

def evalO (t : List AV) : AO → AV
  | .t n => (t[n]?).getD .dead
  | .c v => v

def AO.sl : AO → List Nat
  | .t n => [n]
  | .c _ => []
def slO : Option AO → List Nat
  | none => []
  | some x => x.sl
/-- The slots that an operation reads. -/
def AOp.slots : AOp → List Nat
  | .mv x | .box x | .load _ x | .nilck x | .isNil _ _ x | .un _ x | .conv _ x | .convS x | .s2b x | .b2s x | .fieldAddr _ x | .field _ _ x | .extract x _ | .len _ x | .clear _ x => x.sl
  | .bin _ x y | .beq _ x y | .eqS _ _ x y | .store _ x y | .mksl _ _ x y | .idxAddr _ x y | .idxAddrA _ _ x y | .idxS x y | .idxA _ _ _ x y | .lookup _ _ x y _ | .append _ _ x y | .copy _ x y | .del _ x y => x.sl ++ y.sl
  | .pick x y z | .mapUpd _ x y z => x.sl ++ (y.sl ++ z.sl)
  | .build _ ps => ps.flatMap fun p => p.2.2.sl
  | .buildSl _ _ ps => ps.flatMap fun p => p.2.sl
  | .mkfn _ a b => a.flatMap AO.sl ++ b.flatMap AO.sl
  | .slcS x lo hi => x.sl ++ (slO lo ++ slO hi)
  | .slc _ x lo hi mx | .slcA _ _ x lo hi mx => x.sl ++ (slO lo ++ (slO hi ++ slO mx))
  | .call f l => f.sl ++ l.flatMap AO.sl
  | .mxmn _ l => l.flatMap AO.sl
  | .alloc _ | .mkmap | .bad => []
/-- Some slots alone. -/
def evalM (sl : List Nat) (t : List AV) : AO → AV
  | .t n => if sl.contains n then (t[n]?).getD .dead else .dead
  | .c v => v

def rdCells (h : List Blk) (id off n : Nat) : Option (List AV) :=
  match h[id]? with
  | some (.cells cs) => if off + n ≤ cs.length then some ((cs.drop off).take n) else none
  | _ => none
def splice (cs : List AV) (off : Nat) (vs : List AV) : List AV := cs.take off ++ (vs ++ cs.drop (off + vs.length))
def wrCells (h : List Blk) (id off : Nat) (vs : List AV) : Option (List Blk) :=
  match h[id]? with
  | some (.cells cs) => if off + vs.length ≤ cs.length && vs.all AV.one then some (h.set id (.cells (splice cs off vs))) else none
  | _ => none
def rdPtr (h : List Blk) (n : Nat) : AV → Option (List AV)
  | .ptr id off => rdCells h id off n
  | .rop es st i off =>
    match es[i]? with
    | some e => if off + n ≤ e.cells.length then some ((e.cells.drop off).take n) else none
    | none => none
  | _ => none
def one? : List AV → Option AV
  | [v] => some v
  | _ => none
/-- A variable's value: of one cell, or of n. -/
def asVar (n : Option Nat) (cs : List AV) : Option AV :=
  match n with
  | none => one? cs
  | some _ => some (.agg cs)
def cellsN : Option Nat → Nat
  | none => 1
  | some n => n

def bytesLt : List UInt8 → List UInt8 → Bool
  | _, [] => false
  | [], _ :: _ => true
  | a :: x, b :: y => decide (a.toNat < b.toNat) || (decide (a.toNat = b.toNat) && bytesLt x y)
def bytesEq : List UInt8 → List UInt8 → Bool
  | [], [] => true
  | a :: x, b :: y => decide (a.toNat = b.toNat) && bytesEq x y
  | _, _ => false
def aint (op : BinOp) (k : IntKind) (x y : Int) : Option AV :=
  match op with
  | .add => some (.int k (k.wrap (x + y)))
  | .sub => some (.int k (k.wrap (x - y)))
  | .mul => some (.int k (k.wrap (x * y)))
  | .quo => if y = 0 then none else some (.int k (k.wrap (x.tdiv y)))
  | .rem => if y = 0 then none else some (.int k (x.tmod y))
  | .and => some (.int k (k.wrap (BitVec.ofInt k.bits x &&& BitVec.ofInt k.bits y).toNat))
  | .or => some (.int k (k.wrap (BitVec.ofInt k.bits x ||| BitVec.ofInt k.bits y).toNat))
  | .xor => some (.int k (k.wrap (BitVec.ofInt k.bits x ^^^ BitVec.ofInt k.bits y).toNat))
  | .andNot => some (.int k (k.wrap (BitVec.ofInt k.bits x &&& ~~~(BitVec.ofInt k.bits y)).toNat))
  | .eql => some (.bool (x == y))
  | .neq => some (.bool (x != y))
  | .lss => some (.bool (decide (x < y)))
  | .leq => some (.bool (decide (x ≤ y)))
  | .gtr => some (.bool (decide (x > y)))
  | .geq => some (.bool (decide (x ≥ y)))
  | .shl | .shr => none
def astr (op : BinOp) (x y : List UInt8) : Option AV :=
  match op with
  | .add => if x.length + y.length ≤ 9223372036854775807 then some (.str (x ++ y)) else none
  | .eql => some (.bool (bytesEq x y))
  | .neq => some (.bool (!bytesEq x y))
  | .lss => some (.bool (bytesLt x y))
  | .leq => some (.bool (bytesLt x y || bytesEq x y))
  | .gtr => some (.bool (!(bytesLt x y || bytesEq x y)))
  | .geq => some (.bool (!bytesLt x y))
  | _ => none
def abin (op : BinOp) (x y : AV) : Option AV :=
  match x, y with
  | .int k a, .int k' b =>
    match op with
    | .shl => if b < 0 then none else some (.int k (k.wrap (a * 2 ^ (min b.toNat k.bits))))
    | .shr => if b < 0 then none else some (.int k (a.fdiv (2 ^ (min b.toNat k.bits))))
    | op => if k = k' then aint op k a b else none
  | .str a, .str b => astr op a b
  | _, _ => none
/-- Scalars held against each other: bools (0), ints (1), strings (2). -/
def eq1 : Nat → AV → AV → Option Bool
  | 0, .bool a, .bool b => some (a == b)
  | 1, .int k a, .int k' b => if k = k' then some (a == b) else none
  | 2, .str a, .str b => some (bytesEq a b)
  | _, _, _ => none
def eqL : List Nat → List AV → List AV → Option Bool
  | [], [], [] => some true
  | k :: ks, a :: x, b :: y =>
    match eq1 k a b with
    | some true => eqL ks x y
    | some false => some false
    | none => none
  | _, _, _ => none
def isKey : Nat → AV → Bool
  | 0, .bool _ | 1, .int .. | 2, .str _ => true
  | _, _ => false
/-- Of a pointer (0), a slice (1), a map (2), a function value (3). -/
def isNil : Nat → AV → Option Bool
  | 0, .nilp | 1, .nils | 2, .nilm | 3, .nilf => some true
  | 0, .ptr .. | 0, .rop .. | 2, .map _ | 3, .fn .. => some false
  | 1, .sl _ _ _ len _ ex => if ex || decide (0 < len) then some false else none
  | 1, .ro es _ _ => if es.isEmpty then none else some false
  | _, _ => none
def asNat : AV → Option Nat
  | .int _ n => if 0 ≤ n then some n.toNat else none
  | _ => none
def optNat (d : Nat) : Option AV → Option Nat
  | none => some d
  | some v => asNat v
/-- A slice's elements' cells. -/
def elems (h : List Blk) (st : Nat) : AV → Option (List AV)
  | .nils => some []
  | .ro es st' _ => if st = st' then some (es.flatMap AV.cells) else none
  | .sl id st' off len _ _ => if st = st' then (if len = 0 then some [] else rdCells h id off (len * st)) else none
  | .str s => if st = 1 then some (s.map fun b => .int .u8 b.toNat) else none
  | _ => none
def lenOf : AV → Option Nat
  | .nils => some 0
  | .ro es _ _ => some es.length
  | .sl _ _ _ len _ _ => some len
  | .str s => some s.length
  | _ => none
def toBytes : List AV → Option (List UInt8)
  | [] => some []
  | .int .u8 n :: r => (toBytes r).map (UInt8.ofNat n.toNat :: ·)
  | _ :: _ => none
def findK (kk : Nat) (k : AV) : List (AV × AV) → Nat → Option (Option (Nat × AV))
  | [], _ => some none
  | e :: r, i =>
    match eq1 kk k e.1 with
    | some true => some (some (i, e.2))
    | some false => findK kk k r (i + 1)
    | none => none
def fillL (z : List AV) : List (Nat × List AV) → List AV
  | [] => z
  | (off, vs) :: r => fillL (splice z off vs) r
def goodFill (n : Nat) : List (Nat × List AV) → Bool
  | [] => true
  | (off, vs) :: r => decide (off + vs.length ≤ n) && goodFill n r

def hasRow (h : List Blk) (id n : Nat) : Bool := match h[id]? with | some (.cells cs) => decide (n ≤ cs.length) | _ => false
/-- Those that neither make nor write memory. -/
def pOp (ev : AO → AV) (h : List Blk) : AOp → Option AV
  | .mv x => some (ev x)
  | .pick c a b => match ev c with | .bool true => some (ev a) | .bool false => some (ev b) | _ => none
  | .build z ps =>
    let l := ps.map fun (off, n, x) => (off, (ev x).cells)
    if (ps.all fun (off, n, x) => (ev x).cells.length == n && n != 0) && goodFill z.length l then some (.agg (fillL z l)) else none
  | .load n a => (rdPtr h (cellsN n) (ev a)).bind (asVar n)
  | .nilck x => match ev x with | .ptr id off => some (.ptr id off) | .rop es st i off => some (.rop es st i off) | .fn f a c => (match f with | .func _ => some (.fn f a c) | _ => none) | _ => none
  | .bin op x y => abin op (ev x) (ev y)
  | .beq neg x y => match ev x, ev y with | .bool a, .bool b => some (.bool (if neg then a != b else a == b)) | _, _ => none
  | .isNil kd neg x => (isNil kd (ev x)).map fun b => .bool (if neg then !b else b)
  | .eqS neg ks x y => match ev x, ev y with
    | .agg a, .agg b => (eqL ks a b).map fun r => .bool (if neg then !r else r)
    | _, _ => none
  | .un op x => match op, ev x with
    | .neg, .int k n => some (.int k (k.wrap (0 - n)))
    | .xor, .int k n => some (.int k (k.wrap (BitVec.ofInt k.bits (if k.signed then -1 else k.max) ^^^ BitVec.ofInt k.bits n).toNat))
    | .not, .bool b => some (.bool !b)
    | _, _ => none
  | .conv k x => match ev x with | .int _ n => some (.int k (k.wrap n)) | _ => none
  | .convS x => match ev x with | .str s => some (.str s) | _ => none
  | .b2s x => match ev x with
    | .nils => some (.str [])
    | .ro es 1 _ => (toBytes (es.flatMap AV.cells)).map .str
    | .sl id 1 off len _ _ => if len = 0 then some (.str []) else (rdCells h id off len).bind fun cs => (toBytes cs).map .str
    | _ => none
  | .mkfn f first cap => some (.fn f (first.map ev) (cap.map ev))
  | .slcS x lo hi => match ev x with
    | .str s => (optNat s.length (hi.map ev)).bind fun h => if h ≤ s.length then (optNat 0 (lo.map ev)).bind fun l => if l ≤ h then some (.str ((s.take h).drop l)) else none else none
    | _ => none
  | .slc st x lo hi mx => match ev x with
    | .nils => (optNat 0 (mx.map ev)).bind fun m => (optNat 0 (hi.map ev)).bind fun h => (optNat 0 (lo.map ev)).bind fun l => if m = 0 && h = 0 && l = 0 then some .nils else none
    | .sl id st' off len cap ex =>
      if st = st' then
        (optNat cap (mx.map ev)).bind fun m => if m ≤ cap then
          (optNat len (hi.map ev)).bind fun h => if h ≤ m then
            (optNat 0 (lo.map ev)).bind fun l => if l ≤ h then (if mx.isSome && !ex && m - l == 0 then some (.ro [] st true) else some (.sl id st (off + l * st) (h - l) (m - l) (ex || mx.isSome))) else none
          else none
        else none
      else none
    | .ro es st' ex =>
      if st = st' then
        (optNat es.length (hi.map ev)).bind fun h => if h ≤ es.length then
          (match mx.map ev with
           | none => some (ex && h == es.length)
           | some v => (asNat v).bind fun m => if m = h then some true else none).bind fun ex' =>
          (optNat 0 (lo.map ev)).bind fun l => if l ≤ h then some (.ro ((es.take h).drop l) st ex') else none
        else none
      else none
    | _ => none
  | .slcA st n x lo hi mx => match ev x with
    | .ptr id off =>
      if hasRow h id (off + n * st) then
      (optNat n (mx.map ev)).bind fun m => if m ≤ n then
        (optNat n (hi.map ev)).bind fun h => if h ≤ m then
          (optNat 0 (lo.map ev)).bind fun l => if l ≤ h then some (.sl id st (off + l * st) (h - l) (m - l) true) else none
        else none
      else none
      else none
    | _ => none
  | .fieldAddr off x => match ev x with
    | .ptr id o => some (.ptr id (o + off))
    | .rop es st i o => some (.rop es st i (o + off))
    | _ => none
  | .field n off x => match ev x with
    | .agg cs => if off + cellsN n ≤ cs.length then asVar n ((cs.drop off).take (cellsN n)) else none
    | _ => none
  | .idxAddr st x i => match ev x, ev i with
    | .sl id st' off len _ _, .int _ n => if st = st' && decide (0 ≤ n) && decide (n < (len : Int)) then some (.ptr id (off + n.toNat * st)) else none
    | .ro es st' _, .int _ n => if st = st' && decide (0 ≤ n) && decide (n < (es.length : Int)) then some (.rop es st n.toNat 0) else none
    | _, _ => none
  | .idxAddrA st len x i => match ev x, ev i with
    | .ptr id off, .int _ n => if decide (0 ≤ n) && decide (n < (len : Int)) then some (.ptr id (off + n.toNat * st)) else none
    | .rop es s j off, .int _ n => if decide (0 ≤ n) && decide (n < (len : Int)) then some (.rop es s j (off + n.toNat * st)) else none
    | _, _ => none
  | .idxS x i => match ev x, ev i with
    | .str s, .int _ n => if 0 ≤ n then (s[n.toNat]?).map fun b => .int .u8 b.toNat else none
    | _, _ => none
  | .idxA n st len x i => match ev x, ev i with
    | .agg cs, .int _ j => if decide (0 ≤ j) && decide (j < (len : Int)) && decide (j.toNat * st + cellsN n ≤ cs.length) then asVar n ((cs.drop (j.toNat * st)).take (cellsN n)) else none
    | _, _ => none
  | .lookup z kk m k ok =>
    let r := if isKey kk (ev k) then match ev m with
      | .nilm => some none
      | .map id => (match h[id]? with | some (.map es) => findK kk (ev k) es 0 | _ => none)
      | _ => none
      else none
    r.map fun
      | some (_, v) => if ok then .tup [v, .bool true] else v
      | none => if ok then .tup [z, .bool false] else z
  | .extract x i => match ev x with | .tup vs => vs[i]? | _ => none
  | .len kd x => match kd, ev x with
    | 0, .str s => some (.int .i64 s.length)
    | 1, .nils => some (.int .i64 0)
    | 1, .sl _ _ _ len _ _ => some (.int .i64 len)
    | 1, .ro es _ _ => some (.int .i64 es.length)
    | 2, .nilm => some (.int .i64 0)
    | 2, .map id => (match h[id]? with | some (.map es) => some (.int .i64 es.length) | _ => none)
    | _, _ => none
  | .mxmn mx args => match args.map ev with
    | .int k a :: r => r.foldlM (fun acc v => match acc, v with
      | .int k x, .int _ y => some (.int k (if mx then (if y > x then y else x) else (if y < x then y else x)))
      | _, _ => none) (.int k a)
    | _ => none
  | _ => none

/-- Those that make or write memory, but for calls: the value, the blocks, the least number of a block that was written. -/
def wOp (ev : AO → AV) (h : List Blk) : AOp → Option (AV × List Blk × Option Nat)
  | .alloc z => some (.ptr h.length 0, h ++ [.cells z], none)
  | .box x => some (.ptr h.length 0, h ++ [.cells (ev x).cells], none)
  | .buildSl z len ps =>
    let l := ps.map fun (i, x) => (i * z.length, (ev x).cells)
    let zs := (List.replicate len z).flatten
    if (ps.all fun (i, x) => (ev x).cells.length == z.length) && goodFill zs.length l && decide (len * z.length ≤ 16777216) then some (.sl h.length z.length 0 len len true, h ++ [.cells (fillL zs l)], none) else none
  | .store n a x => match ev a with
    | .ptr id off => if (ev x).cells.length = n then (wrCells h id off (ev x).cells).map fun h' => (.tup [], h', some id) else none
    | _ => none
  | .s2b x => match ev x with
    | .str s => some (.sl h.length 1 0 s.length s.length false, h ++ [.cells (s.map fun b => .int .u8 b.toNat)], none)
    | _ => none
  | .mkmap => some (.map h.length, h ++ [.map []], none)
  | .mksl z by_ len cap => match ev len, ev cap with
    | .int _ l, .int _ c =>
      if 0 ≤ l && l ≤ c && by_ * c ≤ 140737488355328 && c ≤ 9223372036854775807 then some (.sl h.length z.length 0 l.toNat c.toNat true, h ++ [.cells ((List.replicate c.toNat z).flatten)], none) else none
    | _, _ => none
  | .mapUpd kk m k v => match ev m with
    | .map id => match h[id]? with
      | some (.map es) => if isKey kk (ev k) then (findK kk (ev k) es 0).map fun
          | some (i, _) => (.tup [], h.set id (.map (es.set i (ev k, ev v))), some id)
          | none => (.tup [], h.set id (.map (es ++ [(ev k, ev v)])), some id)
        else none
      | _ => none
    | _ => none
  | .del kk m k => if isKey kk (ev k) then match ev m with
    | .nilm => some (.tup [], h, none)
    | .map id => match h[id]? with
      | some (.map es) => (findK kk (ev k) es 0).map fun
          | some (i, _) => (.tup [], h.set id (.map (es.eraseIdx i)), some id)
          | none => (.tup [], h, none)
      | _ => none
    | _ => none
    else none
  | .append st by_ s x =>
    match lenOf (ev x), elems h st (ev x) with
    | some n, some xs =>
      if n = 0 then (match ev s with | .nils | .ro .. | .sl .. => some (ev s, h, none) | _ => none)
      else match ev s with
      | .nils => if n * by_ ≤ 140737488355328 && xs.all AV.one then some (.sl h.length st 0 n n false, h ++ [.cells xs], none) else none
      | .ro es st' true => if st = st' && decide ((es.length + n) * by_ ≤ 140737488355328) && xs.all AV.one then some (.sl h.length st 0 (es.length + n) (es.length + n) false, h ++ [.cells (es.flatMap AV.cells ++ xs)], none) else none
      | .sl id st' off len cap ex =>
        if st = st' && decide ((len + n) * by_ ≤ 140737488355328) && xs.all AV.one then
          if len + n ≤ cap then (wrCells h id (off + len * st) xs).map fun h' => (.sl id st off (len + n) cap ex, h', some id)
          else match elems h st (ev s) with
            | some os => if ex then some (.sl h.length st 0 (len + n) (len + n) false, h ++ [.cells (os ++ xs)], none)
              else if hasRow h id 0 then some (.sl h.length st 0 (len + n) (len + n) false, (h.set id .gone) ++ [.cells (os ++ xs)], some id) else none
            | none => none
        else none
      | _ => none
    | _, _ => none
  | .copy st d s =>
    match lenOf (ev d), lenOf (ev s), elems h st (ev s) with
    | some n, some k, some xs =>
      let c := if k ≤ n then k else n
      match ev d with
      | .nils => some (.int .i64 0, h, none)
      | .sl id st' off _ _ _ => if st = st' then (if c = 0 then some (.int .i64 0, h, none) else (wrCells h id off (xs.take (c * st))).map fun h' => (.int .i64 c, h', some id)) else none
      | _ => none
    | _, _, _ => none
  | .clear z x => match ev x with
    | .nils => some (.tup [], h, none)
    | .sl id st off len _ _ => if st = z.length then (if len = 0 then some (.tup [], h, none) else (wrCells h id off ((List.replicate len z).flatten)).map fun h' => (.tup [], h', some id)) else none
    | _ => none
  | _ => none

/-- Does it make or write memory, or call? -/
def AOp.loud : AOp → Bool
  | .alloc _ | .box _ | .buildSl .. | .store .. | .s2b _ | .mkmap | .mksl .. | .mapUpd .. | .del .. | .append .. | .copy .. | .clear .. | .call .. => true
  | _ => false

inductive AExit where
  | normal
  | exit (id : Nat)
  | ret
  deriving Inhabited

abbrev CallF := FuncId → List AV → List Blk → Option (AV × List Blk × Option Nat)

/-- An operation that makes or writes memory, or calls. -/
def lOp (call : CallF) (ev : AO → AV) (h : List Blk) (o : AOp) : Option (AV × List Blk × Option Nat) :=
  match o with
  | .call f args => match ev f with
    | .fn (.func g) first cap => (call g (first ++ (args.map ev ++ cap)) h).map fun r => (r.1, r.2.1, r.2.2.bind fun l => if l < h.length then some l else none)
    | _ => none
  | o => wOp ev h o

def put (t : List AV) (d : Option Nat) (v : AV) : List AV :=
  match d with
  | some d => t.set d v
  | none => t

def wanted (t : List AV) : Option (Nat × Bool) → Option Bool
  | none => some true
  | some (j, want) => match t[j]? with
    | some (.bool b) => some (b == want)
    | some (.tup []) => some false
    | _ => none

/-- A region in the order of the text. -/
def runOps (call : CallF) : List AOper → St → Option St
  | [], s => some s
  | o :: r, s =>
    match wanted s.t o.g with
    | some false => runOps call r { s with t := put s.t o.d (.tup []) }
    | some true =>
      if o.o.loud then
        match lOp call (evalO s.t) s.h o.o with
        | some (v, h, l) => runOps call r { t := put s.t o.d v, h := h, lo := omin s.lo l }
        | none => none
      else match pOp (evalO s.t) s.h o.o with
        | some v => runOps call r { s with t := put s.t o.d v }
        | none => none
    | none => none

mutual
/-- Are they the same? -/
def eqv : AV → AV → Bool
  | .dead, .dead => true
  | .bool a, .bool b => a == b
  | .int k a, .int l b => decide (k = l) && decide (a = b)
  | .str a, .str b => decide (a = b)
  | .nilp, .nilp => true
  | .ptr a b, .ptr c d => decide (a = c) && decide (b = d)
  | .rop es st i off, .rop es' st' i' off' => decide (st = st') && decide (i = i') && decide (off = off') && eqvL es es'
  | .nils, .nils => true
  | .sl id st off len cap ex, .sl id' st' off' len' cap' ex' => decide (id = id') && decide (st = st') && decide (off = off') && decide (len = len') && decide (cap = cap') && decide (ex = ex')
  | .ro es st ex, .ro es' st' ex' => decide (st = st') && decide (ex = ex') && eqvL es es'
  | .nilm, .nilm => true
  | .map a, .map b => decide (a = b)
  | .nilf, .nilf => true
  | .agg a, .agg b => eqvL a b
  | .tup a, .tup b => eqvL a b
  | _, _ => false
def eqvL : List AV → List AV → Bool
  | [], [] => true
  | a :: r, b :: q => eqv a b && eqvL r q
  | _, _ => false
end
/-- Does it look at blocks? -/
def AOp.reads : AOp → Bool
  | .load .. | .b2s _ | .lookup .. | .len .. | .slcA .. => true
  | _ => false
/-- What reads comes to the same wherever it may stand. -/
def stays (ev : AO → AV) (o : AOper) (v : AV) (H : List (List Blk)) : Bool :=
  !o.o.reads || Nat.ble o.e o.k || ((H.drop o.k).take (o.e + 1 - o.k)).all fun h => match pOp ev h o.o with
    | some v' => eqv v' v
    | none => false
/-- A region whose order is drawn: what only reads is read as early as may be, and must come to the same later; hs: the blocks behind each operation that makes or writes memory, the last at the end. -/
def runDraw (call : CallF) : List AOper → St → List (List Blk) → Option (St × List (List Blk))
  | [], s, hs => some (s, hs)
  | o :: r, s, hs =>
    match wanted s.t o.g with
    | some false => runDraw call r { s with t := put s.t o.d (.tup []) } (if o.o.loud then hs ++ [s.h] else hs)
    | some true =>
      if o.o.loud then
        match lOp call (evalM o.o.slots s.t) s.h o.o with
        | some (v, h, l) => runDraw call r { t := put s.t o.d v, h := h, lo := omin s.lo l } (hs ++ [h])
        | none => none
      else match hs[o.k]? with
        | some h => match pOp (evalM o.o.slots s.t) h o.o with
          | some v => match runDraw call r { s with t := put s.t o.d v } hs with
            | some (s', H) => if stays (evalM o.o.slots s.t) o v H then some (s', H) else none
            | none => none
          | none => none
        | none => none
    | none => none

def exec (call : CallF) : Nat → ACode → St → Option (AExit × St)
  | 0, _, _ => none
  | n + 1, c, s =>
    match c with
    | .skip => some (.normal, s)
    | .reg ops => (runOps call ops s).map fun s => (.normal, s)
    | .dreg ops => (runDraw call ops s [s.h]).map fun s => (.normal, s.1)
    | .seq a b => match exec call n a s with
      | some (.normal, s) => exec call n b s
      | r => r
    | .cond c a b => match evalO s.t c with
      | .bool true => exec call n a s
      | .bool false => exec call n b s
      | _ => none
    | .block id b => match exec call n b s with
      | some (.exit i, s) => some (if i = id then .normal else .exit i, s)
      | r => r
    | .loop b => match exec call n b s with
      | some (.normal, s) => exec call n (.loop b) s
      | r => r
    | .exit i => some (.exit i, s)
    | .ret => some (.ret, s)
    | .bad => none

def resOf (s : St) : ARes → Option AV
  | .t n => some ((s.t[n]?).getD .dead)
  | .cell a n => (rdPtr s.h (cellsN n) ((s.t[a]?).getD .dead)).bind (asVar n)
def resAll (s : St) : List ARes → Option (List AV)
  | [] => some []
  | r :: l => match resOf s r, resAll s l with
    | some v, some vs => some (v :: vs)
    | _, _ => none
def packRes : List AV → AV
  | [v] => v
  | vs => .tup vs

section
variable (Γ : FuncId → Option (List AV → List Blk → Option (AV × List Blk × Option Nat))) (tbl : FuncId → Option AFunc)
/-- A call: by what is known of the function, or by its code. -/
def callF : Nat → CallF
  | 0, _, _, _ => none
  | n + 1, f, args, h =>
    match Γ f with
    | some g => g args h
    | none => match tbl f with
      | some af =>
        if args.length ≤ af.nt then
          match exec (callF n) n af.body { t := args ++ List.replicate (af.nt - args.length) (.tup []), h := h } with
          | some (.exit _, _) => none
          | some (_, s) => (resAll s af.res).map fun vs => (packRes vs, s.h, s.lo)
          | none => none
        else none
      | none => none
end
end Go.Proofs.YtlogcjaigjcmiaaGreat.AM
