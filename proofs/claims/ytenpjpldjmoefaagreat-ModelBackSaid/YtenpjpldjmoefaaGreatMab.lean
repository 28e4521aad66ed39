/-
  'gauger's law ModelBack holds of every input: it returns true, and each argument reads behind the call as it read before.
  This text: part 2 of 22 of the proof (AmA, AmB, AmC, AmD, AmE, AmF).
-/
import GoSem.Dispatch
import GoSem.Machine.Return
import Derived.Test.YtenpjpldjmoefaaGreatMaa
import Derived.Laws.Cells
import Derived.Laws.Tables
import Derived.Below
import Derived.Laws.Strings
import Derived.Laws.StructEq
import Derived.Laws.Slices
set_option linter.unusedVariables false
set_option linter.unusedSimpArgs false
namespace Go.Proofs.YtenpjpldjmoefaaGreat.AM
open Go
inductive AV where
  | dead
  | bool (b : Bool)
  | int (k : IntKind) (n : Int)
  | str (s : List UInt8)
  | nilp
  | ptr (id off : Nat)
  | rop (es : List AV) (st i off : Nat)
  | nils
  | sl (id st off len cap : Nat) (ex : Bool)
  | ro (es : List AV) (st : Nat) (ex : Bool)
  | nilm
  | map (id : Nat)
  | nilf
  | fn (f : Fn) (first cap : List AV)
  | agg (cs : List AV)
  | tup (vs : List AV)
  deriving Inhabited
def AV.cells : AV → List AV
  | .agg cs => cs
  | .dead => []
  | v => [v]
def AV.one : AV → Bool
  | .agg _ | .tup _ | .dead => false
  | _ => true
inductive Blk where
  | gone
  | cells (cs : List AV)
  | map (es : List (AV × AV))
  deriving Inhabited
inductive AO where
  | t (n : Nat)
  | c (v : AV)
  deriving Inhabited
inductive AOp where
  | mv (x : AO)
  | pick (c a b : AO)
  | alloc (z : List AV)
  | box (x : AO)
  | build (z : List AV) (ps : List (Nat × Nat × AO))
  | buildSl (z : List AV) (len : Nat) (ps : List (Nat × AO))
  | load (n : Option Nat) (a : AO)
  | store (n : Nat) (a x : AO)
  | nilck (x : AO)
  | bin (op : BinOp) (x y : AO)
  | beq (neg : Bool) (x y : AO)
  | isNil (kd : Nat) (neg : Bool) (x : AO)
  | eqS (neg : Bool) (ks : List Nat) (x y : AO)
  | un (op : UnOp) (x : AO)
  | conv (k : IntKind) (x : AO)
  | convS (x : AO)
  | s2b (x : AO)
  | b2s (x : AO)
  | mkfn (f : Fn) (first cap : List AO)
  | mkmap
  | mksl (z : List AV) (by_ : Nat) (len cap : AO)
  | slcS (x : AO) (lo hi : Option AO)
  | slc (st : Nat) (x : AO) (lo hi mx : Option AO)
  | slcA (st n : Nat) (x : AO) (lo hi mx : Option AO)
  | fieldAddr (off : Nat) (x : AO)
  | field (n : Option Nat) (off : Nat) (x : AO)
  | idxAddr (st : Nat) (x i : AO)
  | idxAddrA (st n : Nat) (x i : AO)
  | idxS (x i : AO)
  | idxA (n : Option Nat) (st len : Nat) (x i : AO)
  | lookup (z : AV) (kk : Nat) (m k : AO) (ok : Bool)
  | mapUpd (kk : Nat) (m k v : AO)
  | extract (x : AO) (i : Nat)
  | call (f : AO) (args : List AO)
  | len (kd : Nat) (x : AO)
  | append (st by_ : Nat) (s x : AO)
  | copy (st : Nat) (d s : AO)
  | del (kk : Nat) (m k : AO)
  | clear (z : List AV) (x : AO)
  | mxmn (mx : Bool) (args : List AO)
  | bad
  deriving Inhabited
structure AOper where
  d : Option Nat
  o : AOp
  g : Option (Nat × Bool)
  k : Nat := 0
  e : Nat := 0
  deriving Inhabited
inductive ACode where
  | skip
  | reg (ops : List AOper)
  | dreg (ops : List AOper)
  | seq (a b : ACode)
  | cond (c : AO) (a b : ACode)
  | block (id : Nat) (b : ACode)
  | loop (b : ACode)
  | exit (id : Nat)
  | ret
  | bad
  deriving Inhabited
inductive ARes where
  | t (n : Nat)
  | cell (a : Nat) (n : Option Nat)
  deriving Inhabited
structure AFunc where
  nt : Nat
  body : ACode
  res : List ARes
  deriving Inhabited
structure St where
  t : List AV
  h : List Blk
  lo : Option Nat := none
  deriving Inhabited
def omin : Option Nat → Option Nat → Option Nat
  | none, x => x
  | x, none => x
  | some a, some b => some (if a ≤ b then a else b)
def evalO (t : List AV) : AO → AV
  | .t n => (t[n]?).getD .dead
  | .c v => v
def AO.sl : AO → List Nat
  | .t n => [n]
  | .c _ => []
def slO : Option AO → List Nat
  | none => []
  | some x => x.sl
def AOp.slots : AOp → List Nat
  | .mv x | .box x | .load _ x | .nilck x | .isNil _ _ x | .un _ x | .conv _ x | .convS x | .s2b x | .b2s x | .fieldAddr _ x | .field _ _ x | .extract x _ | .len _ x | .clear _ x => x.sl
  | .bin _ x y | .beq _ x y | .eqS _ _ x y | .store _ x y | .mksl _ _ x y | .idxAddr _ x y | .idxAddrA _ _ x y | .idxS x y | .idxA _ _ _ x y | .lookup _ _ x y _ | .append _ _ x y | .copy _ x y | .del _ x y => x.sl ++ y.sl
  | .pick x y z | .mapUpd _ x y z => x.sl ++ (y.sl ++ z.sl)
  | .build _ ps => ps.flatMap fun p => p.2.2.sl
  | .buildSl _ _ ps => ps.flatMap fun p => p.2.sl
  | .mkfn _ a b => a.flatMap AO.sl ++ b.flatMap AO.sl
  | .slcS x lo hi => x.sl ++ (slO lo ++ slO hi)
  | .slc _ x lo hi mx | .slcA _ _ x lo hi mx => x.sl ++ (slO lo ++ (slO hi ++ slO mx))
  | .call f l => f.sl ++ l.flatMap AO.sl
  | .mxmn _ l => l.flatMap AO.sl
  | .alloc _ | .mkmap | .bad => []
def evalM (sl : List Nat) (t : List AV) : AO → AV
  | .t n => if sl.contains n then (t[n]?).getD .dead else .dead
  | .c v => v
def rdCells (h : List Blk) (id off n : Nat) : Option (List AV) :=
  match h[id]? with
  | some (.cells cs) => if off + n ≤ cs.length then some ((cs.drop off).take n) else none
  | _ => none
def splice (cs : List AV) (off : Nat) (vs : List AV) : List AV := cs.take off ++ (vs ++ cs.drop (off + vs.length))
def wrCells (h : List Blk) (id off : Nat) (vs : List AV) : Option (List Blk) :=
  match h[id]? with
  | some (.cells cs) => if off + vs.length ≤ cs.length && vs.all AV.one then some (h.set id (.cells (splice cs off vs))) else none
  | _ => none
def rdPtr (h : List Blk) (n : Nat) : AV → Option (List AV)
  | .ptr id off => rdCells h id off n
  | .rop es st i off =>
    match es[i]? with
    | some e => if off + n ≤ e.cells.length then some ((e.cells.drop off).take n) else none
    | none => none
  | _ => none
def one? : List AV → Option AV
  | [v] => some v
  | _ => none
def asVar (n : Option Nat) (cs : List AV) : Option AV :=
  match n with
  | none => one? cs
  | some _ => some (.agg cs)
def cellsN : Option Nat → Nat
  | none => 1
  | some n => n
def bytesLt : List UInt8 → List UInt8 → Bool
  | _, [] => false
  | [], _ :: _ => true
  | a :: x, b :: y => decide (a.toNat < b.toNat) || (decide (a.toNat = b.toNat) && bytesLt x y)
def bytesEq : List UInt8 → List UInt8 → Bool
  | [], [] => true
  | a :: x, b :: y => decide (a.toNat = b.toNat) && bytesEq x y
  | _, _ => false
def aint (op : BinOp) (k : IntKind) (x y : Int) : Option AV :=
  match op with
  | .add => some (.int k (k.wrap (x + y)))
  | .sub => some (.int k (k.wrap (x - y)))
  | .mul => some (.int k (k.wrap (x * y)))
  | .quo => if y = 0 then none else some (.int k (k.wrap (x.tdiv y)))
  | .rem => if y = 0 then none else some (.int k (x.tmod y))
  | .and => some (.int k (k.wrap (BitVec.ofInt k.bits x &&& BitVec.ofInt k.bits y).toNat))
  | .or => some (.int k (k.wrap (BitVec.ofInt k.bits x ||| BitVec.ofInt k.bits y).toNat))
  | .xor => some (.int k (k.wrap (BitVec.ofInt k.bits x ^^^ BitVec.ofInt k.bits y).toNat))
  | .andNot => some (.int k (k.wrap (BitVec.ofInt k.bits x &&& ~~~(BitVec.ofInt k.bits y)).toNat))
  | .eql => some (.bool (x == y))
  | .neq => some (.bool (x != y))
  | .lss => some (.bool (decide (x < y)))
  | .leq => some (.bool (decide (x ≤ y)))
  | .gtr => some (.bool (decide (x > y)))
  | .geq => some (.bool (decide (x ≥ y)))
  | .shl | .shr => none
def astr (op : BinOp) (x y : List UInt8) : Option AV :=
  match op with
  | .add => if x.length + y.length ≤ 9223372036854775807 then some (.str (x ++ y)) else none
  | .eql => some (.bool (bytesEq x y))
  | .neq => some (.bool (!bytesEq x y))
  | .lss => some (.bool (bytesLt x y))
  | .leq => some (.bool (bytesLt x y || bytesEq x y))
  | .gtr => some (.bool (!(bytesLt x y || bytesEq x y)))
  | .geq => some (.bool (!bytesLt x y))
  | _ => none
def abin (op : BinOp) (x y : AV) : Option AV :=
  match x, y with
  | .int k a, .int k' b =>
    match op with
    | .shl => if b < 0 then none else some (.int k (k.wrap (a * 2 ^ (min b.toNat k.bits))))
    | .shr => if b < 0 then none else some (.int k (a.fdiv (2 ^ (min b.toNat k.bits))))
    | op => if k = k' then aint op k a b else none
  | .str a, .str b => astr op a b
  | _, _ => none
def eq1 : Nat → AV → AV → Option Bool
  | 0, .bool a, .bool b => some (a == b)
  | 1, .int k a, .int k' b => if k = k' then some (a == b) else none
  | 2, .str a, .str b => some (bytesEq a b)
  | _, _, _ => none
def eqL : List Nat → List AV → List AV → Option Bool
  | [], [], [] => some true
  | k :: ks, a :: x, b :: y =>
    match eq1 k a b with
    | some true => eqL ks x y
    | some false => some false
    | none => none
  | _, _, _ => none
def isKey : Nat → AV → Bool
  | 0, .bool _ | 1, .int .. | 2, .str _ => true
  | _, _ => false
def isNil : Nat → AV → Option Bool
  | 0, .nilp | 1, .nils | 2, .nilm | 3, .nilf => some true
  | 0, .ptr .. | 0, .rop .. | 2, .map _ | 3, .fn .. => some false
  | 1, .sl _ _ _ len _ ex => if ex || decide (0 < len) then some false else none
  | 1, .ro es _ _ => if es.isEmpty then none else some false
  | _, _ => none
def asNat : AV → Option Nat
  | .int _ n => if 0 ≤ n then some n.toNat else none
  | _ => none
def optNat (d : Nat) : Option AV → Option Nat
  | none => some d
  | some v => asNat v
def elems (h : List Blk) (st : Nat) : AV → Option (List AV)
  | .nils => some []
  | .ro es st' _ => if st = st' then some (es.flatMap AV.cells) else none
  | .sl id st' off len _ _ => if st = st' then (if len = 0 then some [] else rdCells h id off (len * st)) else none
  | .str s => if st = 1 then some (s.map fun b => .int .u8 b.toNat) else none
  | _ => none
def lenOf : AV → Option Nat
  | .nils => some 0
  | .ro es _ _ => some es.length
  | .sl _ _ _ len _ _ => some len
  | .str s => some s.length
  | _ => none
def toBytes : List AV → Option (List UInt8)
  | [] => some []
  | .int .u8 n :: r => (toBytes r).map (UInt8.ofNat n.toNat :: ·)
  | _ :: _ => none
def findK (kk : Nat) (k : AV) : List (AV × AV) → Nat → Option (Option (Nat × AV))
  | [], _ => some none
  | e :: r, i =>
    match eq1 kk k e.1 with
    | some true => some (some (i, e.2))
    | some false => findK kk k r (i + 1)
    | none => none
def fillL (z : List AV) : List (Nat × List AV) → List AV
  | [] => z
  | (off, vs) :: r => fillL (splice z off vs) r
def goodFill (n : Nat) : List (Nat × List AV) → Bool
  | [] => true
  | (off, vs) :: r => decide (off + vs.length ≤ n) && goodFill n r
def hasRow (h : List Blk) (id n : Nat) : Bool := match h[id]? with | some (.cells cs) => decide (n ≤ cs.length) | _ => false
def pOp (ev : AO → AV) (h : List Blk) : AOp → Option AV
  | .mv x => some (ev x)
  | .pick c a b => match ev c with | .bool true => some (ev a) | .bool false => some (ev b) | _ => none
  | .build z ps =>
    let l := ps.map fun (off, n, x) => (off, (ev x).cells)
    if (ps.all fun (off, n, x) => (ev x).cells.length == n && n != 0) && goodFill z.length l then some (.agg (fillL z l)) else none
  | .load n a => (rdPtr h (cellsN n) (ev a)).bind (asVar n)
  | .nilck x => match ev x with | .ptr id off => some (.ptr id off) | .rop es st i off => some (.rop es st i off) | .fn f a c => (match f with | .func _ => some (.fn f a c) | _ => none) | _ => none
  | .bin op x y => abin op (ev x) (ev y)
  | .beq neg x y => match ev x, ev y with | .bool a, .bool b => some (.bool (if neg then a != b else a == b)) | _, _ => none
  | .isNil kd neg x => (isNil kd (ev x)).map fun b => .bool (if neg then !b else b)
  | .eqS neg ks x y => match ev x, ev y with
    | .agg a, .agg b => (eqL ks a b).map fun r => .bool (if neg then !r else r)
    | _, _ => none
  | .un op x => match op, ev x with
    | .neg, .int k n => some (.int k (k.wrap (0 - n)))
    | .xor, .int k n => some (.int k (k.wrap (BitVec.ofInt k.bits (if k.signed then -1 else k.max) ^^^ BitVec.ofInt k.bits n).toNat))
    | .not, .bool b => some (.bool !b)
    | _, _ => none
  | .conv k x => match ev x with | .int _ n => some (.int k (k.wrap n)) | _ => none
  | .convS x => match ev x with | .str s => some (.str s) | _ => none
  | .b2s x => match ev x with
    | .nils => some (.str [])
    | .ro es 1 _ => (toBytes (es.flatMap AV.cells)).map .str
    | .sl id 1 off len _ _ => if len = 0 then some (.str []) else (rdCells h id off len).bind fun cs => (toBytes cs).map .str
    | _ => none
  | .mkfn f first cap => some (.fn f (first.map ev) (cap.map ev))
  | .slcS x lo hi => match ev x with
    | .str s => (optNat s.length (hi.map ev)).bind fun h => if h ≤ s.length then (optNat 0 (lo.map ev)).bind fun l => if l ≤ h then some (.str ((s.take h).drop l)) else none else none
    | _ => none
  | .slc st x lo hi mx => match ev x with
    | .nils => (optNat 0 (mx.map ev)).bind fun m => (optNat 0 (hi.map ev)).bind fun h => (optNat 0 (lo.map ev)).bind fun l => if m = 0 && h = 0 && l = 0 then some .nils else none
    | .sl id st' off len cap ex =>
      if st = st' then
        (optNat cap (mx.map ev)).bind fun m => if m ≤ cap then
          (optNat len (hi.map ev)).bind fun h => if h ≤ m then
            (optNat 0 (lo.map ev)).bind fun l => if l ≤ h then (if mx.isSome && !ex && m - l == 0 then some (.ro [] st true) else some (.sl id st (off + l * st) (h - l) (m - l) (ex || mx.isSome))) else none
          else none
        else none
      else none
    | .ro es st' ex =>
      if st = st' then
        (optNat es.length (hi.map ev)).bind fun h => if h ≤ es.length then
          (match mx.map ev with
           | none => some (ex && h == es.length)
           | some v => (asNat v).bind fun m => if m = h then some true else none).bind fun ex' =>
          (optNat 0 (lo.map ev)).bind fun l => if l ≤ h then some (.ro ((es.take h).drop l) st ex') else none
        else none
      else none
    | _ => none
  | .slcA st n x lo hi mx => match ev x with
    | .ptr id off =>
      if hasRow h id (off + n * st) then
      (optNat n (mx.map ev)).bind fun m => if m ≤ n then
        (optNat n (hi.map ev)).bind fun h => if h ≤ m then
          (optNat 0 (lo.map ev)).bind fun l => if l ≤ h then some (.sl id st (off + l * st) (h - l) (m - l) true) else none
        else none
      else none
      else none
    | _ => none
  | .fieldAddr off x => match ev x with
    | .ptr id o => some (.ptr id (o + off))
    | .rop es st i o => some (.rop es st i (o + off))
    | _ => none
  | .field n off x => match ev x with
    | .agg cs => if off + cellsN n ≤ cs.length then asVar n ((cs.drop off).take (cellsN n)) else none
    | _ => none
  | .idxAddr st x i => match ev x, ev i with
    | .sl id st' off len _ _, .int _ n => if st = st' && decide (0 ≤ n) && decide (n < (len : Int)) then some (.ptr id (off + n.toNat * st)) else none
    | .ro es st' _, .int _ n => if st = st' && decide (0 ≤ n) && decide (n < (es.length : Int)) then some (.rop es st n.toNat 0) else none
    | _, _ => none
  | .idxAddrA st len x i => match ev x, ev i with
    | .ptr id off, .int _ n => if decide (0 ≤ n) && decide (n < (len : Int)) then some (.ptr id (off + n.toNat * st)) else none
    | .rop es s j off, .int _ n => if decide (0 ≤ n) && decide (n < (len : Int)) then some (.rop es s j (off + n.toNat * st)) else none
    | _, _ => none
  | .idxS x i => match ev x, ev i with
    | .str s, .int _ n => if 0 ≤ n then (s[n.toNat]?).map fun b => .int .u8 b.toNat else none
    | _, _ => none
  | .idxA n st len x i => match ev x, ev i with
    | .agg cs, .int _ j => if decide (0 ≤ j) && decide (j < (len : Int)) && decide (j.toNat * st + cellsN n ≤ cs.length) then asVar n ((cs.drop (j.toNat * st)).take (cellsN n)) else none
    | _, _ => none
  | .lookup z kk m k ok =>
    let r := if isKey kk (ev k) then match ev m with
      | .nilm => some none
      | .map id => (match h[id]? with | some (.map es) => findK kk (ev k) es 0 | _ => none)
      | _ => none
      else none
    r.map fun
      | some (_, v) => if ok then .tup [v, .bool true] else v
      | none => if ok then .tup [z, .bool false] else z
  | .extract x i => match ev x with | .tup vs => vs[i]? | _ => none
  | .len kd x => match kd, ev x with
    | 0, .str s => some (.int .i64 s.length)
    | 1, .nils => some (.int .i64 0)
    | 1, .sl _ _ _ len _ _ => some (.int .i64 len)
    | 1, .ro es _ _ => some (.int .i64 es.length)
    | 2, .nilm => some (.int .i64 0)
    | 2, .map id => (match h[id]? with | some (.map es) => some (.int .i64 es.length) | _ => none)
    | _, _ => none
  | .mxmn mx args => match args.map ev with
    | .int k a :: r => r.foldlM (fun acc v => match acc, v with
      | .int k x, .int _ y => some (.int k (if mx then (if y > x then y else x) else (if y < x then y else x)))
      | _, _ => none) (.int k a)
    | _ => none
  | _ => none
def wOp (ev : AO → AV) (h : List Blk) : AOp → Option (AV × List Blk × Option Nat)
  | .alloc z => some (.ptr h.length 0, h ++ [.cells z], none)
  | .box x => some (.ptr h.length 0, h ++ [.cells (ev x).cells], none)
  | .buildSl z len ps =>
    let l := ps.map fun (i, x) => (i * z.length, (ev x).cells)
    let zs := (List.replicate len z).flatten
    if (ps.all fun (i, x) => (ev x).cells.length == z.length) && goodFill zs.length l && decide (len * z.length ≤ 16777216) then some (.sl h.length z.length 0 len len true, h ++ [.cells (fillL zs l)], none) else none
  | .store n a x => match ev a with
    | .ptr id off => if (ev x).cells.length = n then (wrCells h id off (ev x).cells).map fun h' => (.tup [], h', some id) else none
    | _ => none
  | .s2b x => match ev x with
    | .str s => some (.ro (s.map fun b => .int .u8 b.toNat) 1 false, h, none)
    | _ => none
  | .mkmap => some (.map h.length, h ++ [.map []], none)
  | .mksl z by_ len cap => match ev len, ev cap with
    | .int _ l, .int _ c =>
      if 0 ≤ l && l ≤ c && by_ * c ≤ 140737488355328 && c ≤ 9223372036854775807 then some (.sl h.length z.length 0 l.toNat c.toNat true, h ++ [.cells ((List.replicate c.toNat z).flatten)], none) else none
    | _, _ => none
  | .mapUpd kk m k v => match ev m with
    | .map id => match h[id]? with
      | some (.map es) => if isKey kk (ev k) then (findK kk (ev k) es 0).map fun
          | some (i, _) => (.tup [], h.set id (.map (es.set i (ev k, ev v))), some id)
          | none => (.tup [], h.set id (.map (es ++ [(ev k, ev v)])), some id)
        else none
      | _ => none
    | _ => none
  | .del kk m k => if isKey kk (ev k) then match ev m with
    | .nilm => some (.tup [], h, none)
    | .map id => match h[id]? with
      | some (.map es) => (findK kk (ev k) es 0).map fun
          | some (i, _) => (.tup [], h.set id (.map (es.eraseIdx i)), some id)
          | none => (.tup [], h, none)
      | _ => none
    | _ => none
    else none
  | .append st by_ s x =>
    match lenOf (ev x), elems h st (ev x) with
    | some n, some xs =>
      if n = 0 then (match ev s with | .nils | .ro .. | .sl .. => some (ev s, h, none) | _ => none)
      else match ev s with
      | .nils => if n * by_ ≤ 140737488355328 && xs.all AV.one then some (.sl h.length st 0 n n false, h ++ [.cells xs], none) else none
      | .ro es st' true => if st = st' && decide ((es.length + n) * by_ ≤ 140737488355328) && xs.all AV.one then some (.sl h.length st 0 (es.length + n) (es.length + n) false, h ++ [.cells (es.flatMap AV.cells ++ xs)], none) else none
      | .sl id st' off len cap ex =>
        if st = st' && decide ((len + n) * by_ ≤ 140737488355328) && xs.all AV.one then
          if len + n ≤ cap then (wrCells h id (off + len * st) xs).map fun h' => (.sl id st off (len + n) cap ex, h', some id)
          else match elems h st (ev s) with
            | some os => if ex then some (.sl h.length st 0 (len + n) (len + n) false, h ++ [.cells (os ++ xs)], none)
              else if hasRow h id 0 then some (.sl h.length st 0 (len + n) (len + n) false, (h.set id .gone) ++ [.cells (os ++ xs)], some id) else none
            | none => none
        else none
      | _ => none
    | _, _ => none
  | .copy st d s =>
    match lenOf (ev d), lenOf (ev s), elems h st (ev s) with
    | some n, some k, some xs =>
      let c := if k ≤ n then k else n
      match ev d with
      | .nils => some (.int .i64 0, h, none)
      | .sl id st' off _ _ _ => if st = st' then (if c = 0 then some (.int .i64 0, h, none) else (wrCells h id off (xs.take (c * st))).map fun h' => (.int .i64 c, h', some id)) else none
      | _ => none
    | _, _, _ => none
  | .clear z x => match ev x with
    | .nils => some (.tup [], h, none)
    | .sl id st off len _ _ => if st = z.length then (if len = 0 then some (.tup [], h, none) else (wrCells h id off ((List.replicate len z).flatten)).map fun h' => (.tup [], h', some id)) else none
    | _ => none
  | _ => none
def AOp.loud : AOp → Bool
  | .alloc _ | .box _ | .buildSl .. | .store .. | .s2b _ | .mkmap | .mksl .. | .mapUpd .. | .del .. | .append .. | .copy .. | .clear .. | .call .. => true
  | _ => false
inductive AExit where
  | normal
  | exit (id : Nat)
  | ret
  deriving Inhabited
abbrev CallF := FuncId → List AV → List Blk → Option (AV × List Blk × Option Nat)
def lOp (call : CallF) (ev : AO → AV) (h : List Blk) (o : AOp) : Option (AV × List Blk × Option Nat) :=
  match o with
  | .call f args => match ev f with
    | .fn (.func g) first cap => (call g (first ++ (args.map ev ++ cap)) h).map fun r => (r.1, r.2.1, r.2.2.bind fun l => if l < h.length then some l else none)
    | _ => none
  | o => wOp ev h o
def put (t : List AV) (d : Option Nat) (v : AV) : List AV :=
  match d with
  | some d => t.set d v
  | none => t
def wanted (t : List AV) : Option (Nat × Bool) → Option Bool
  | none => some true
  | some (j, want) => match t[j]? with
    | some (.bool b) => some (b == want)
    | some (.tup []) => some false
    | _ => none
def runOps (call : CallF) : List AOper → St → Option St
  | [], s => some s
  | o :: r, s =>
    match wanted s.t o.g with
    | some false => runOps call r { s with t := put s.t o.d (.tup []) }
    | some true =>
      if o.o.loud then
        match lOp call (evalO s.t) s.h o.o with
        | some (v, h, l) => runOps call r { t := put s.t o.d v, h := h, lo := omin s.lo l }
        | none => none
      else match pOp (evalO s.t) s.h o.o with
        | some v => runOps call r { s with t := put s.t o.d v }
        | none => none
    | none => none
mutual
def eqv : AV → AV → Bool
  | .dead, .dead => true
  | .bool a, .bool b => a == b
  | .int k a, .int l b => decide (k = l) && decide (a = b)
  | .str a, .str b => decide (a = b)
  | .nilp, .nilp => true
  | .ptr a b, .ptr c d => decide (a = c) && decide (b = d)
  | .rop es st i off, .rop es' st' i' off' => decide (st = st') && decide (i = i') && decide (off = off') && eqvL es es'
  | .nils, .nils => true
  | .sl id st off len cap ex, .sl id' st' off' len' cap' ex' => decide (id = id') && decide (st = st') && decide (off = off') && decide (len = len') && decide (cap = cap') && decide (ex = ex')
  | .ro es st ex, .ro es' st' ex' => decide (st = st') && decide (ex = ex') && eqvL es es'
  | .nilm, .nilm => true
  | .map a, .map b => decide (a = b)
  | .nilf, .nilf => true
  | .agg a, .agg b => eqvL a b
  | .tup a, .tup b => eqvL a b
  | _, _ => false
def eqvL : List AV → List AV → Bool
  | [], [] => true
  | a :: r, b :: q => eqv a b && eqvL r q
  | _, _ => false
end
def AOp.reads : AOp → Bool
  | .load .. | .b2s _ | .lookup .. | .len .. | .slcA .. => true
  | _ => false
def stays (ev : AO → AV) (o : AOper) (v : AV) (H : List (List Blk)) : Bool :=
  !o.o.reads || Nat.ble o.e o.k || ((H.drop o.k).take (o.e + 1 - o.k)).all fun h => match pOp ev h o.o with
    | some v' => eqv v' v
    | none => false
def runDraw (call : CallF) : List AOper → St → List (List Blk) → Option (St × List (List Blk))
  | [], s, hs => some (s, hs)
  | o :: r, s, hs =>
    match wanted s.t o.g with
    | some false => runDraw call r { s with t := put s.t o.d (.tup []) } (if o.o.loud then hs ++ [s.h] else hs)
    | some true =>
      if o.o.loud then
        match lOp call (evalM o.o.slots s.t) s.h o.o with
        | some (v, h, l) => runDraw call r { t := put s.t o.d v, h := h, lo := omin s.lo l } (hs ++ [h])
        | none => none
      else match hs[o.k]? with
        | some h => match pOp (evalM o.o.slots s.t) h o.o with
          | some v => match runDraw call r { s with t := put s.t o.d v } hs with
            | some (s', H) => if stays (evalM o.o.slots s.t) o v H then some (s', H) else none
            | none => none
          | none => none
        | none => none
    | none => none
def exec (call : CallF) : Nat → ACode → St → Option (AExit × St)
  | 0, _, _ => none
  | n + 1, c, s =>
    match c with
    | .skip => some (.normal, s)
    | .reg ops => (runOps call ops s).map fun s => (.normal, s)
    | .dreg ops => (runDraw call ops s [s.h]).map fun s => (.normal, s.1)
    | .seq a b => match exec call n a s with
      | some (.normal, s) => exec call n b s
      | r => r
    | .cond c a b => match evalO s.t c with
      | .bool true => exec call n a s
      | .bool false => exec call n b s
      | _ => none
    | .block id b => match exec call n b s with
      | some (.exit i, s) => some (if i = id then .normal else .exit i, s)
      | r => r
    | .loop b => match exec call n b s with
      | some (.normal, s) => exec call n (.loop b) s
      | r => r
    | .exit i => some (.exit i, s)
    | .ret => some (.ret, s)
    | .bad => none
def resOf (s : St) : ARes → Option AV
  | .t n => some ((s.t[n]?).getD .dead)
  | .cell a n => (rdPtr s.h (cellsN n) ((s.t[a]?).getD .dead)).bind (asVar n)
def resAll (s : St) : List ARes → Option (List AV)
  | [] => some []
  | r :: l => match resOf s r, resAll s l with
    | some v, some vs => some (v :: vs)
    | _, _ => none
def packRes : List AV → AV
  | [v] => v
  | vs => .tup vs
section
variable (Γ : FuncId → Option (List AV → List Blk → Option (AV × List Blk × Option Nat))) (tbl : FuncId → Option AFunc)
def callF : Nat → CallF
  | 0, _, _, _ => none
  | n + 1, f, args, h =>
    match Γ f with
    | some g => g args h
    | none => match tbl f with
      | some af =>
        if args.length ≤ af.nt then
          match exec (callF n) n af.body { t := args ++ List.replicate (af.nt - args.length) (.tup []), h := h } with
          | some (.exit _, _) => none
          | some (_, s) => (resAll s af.res).map fun vs => (packRes vs, s.h, s.lo)
          | none => none
        else none
      | none => none
end
open Go Go.Proofs.YtenpjpldjmoefaaGreatW.PrintWords Go.Proofs.YtenpjpldjmoefaaGreatW.PrintLast
def ofV1 : Value → Option AV
 | .bool b => some (.bool b)
 | .int k n => some (.int k n)
 | .string s => some (.str s.data.toList)
 | .pointer none => some .nilp
 | .slice none 0 0 => some .nils
 | .map none => some .nilm
 | .nilFunc => some .nilf
 | .func (.func f) first cap => if first.isEmpty && cap.isEmpty then some (.fn (.func f) [] []) else none
 | _ => none
def ofVL : List Value → Option (List AV)
 | [] => some []
 | v :: r => match ofV1 v, ofVL r with
  | some x, some l => some (x :: l)
  | _, _ => none
def ofV : Value → Option AV
 | .agg cs => (ofVL cs.toList).map .agg
 | .tuple cs => if cs.isEmpty then some (.tup []) else none
 | v => ofV1 v
def compO : Operand → Option AO
 | .tmp t => some (.t t)
 | .const v => (ofV v).map .c
 | .func f => some (.c (.fn (.func f) [] []))
 | .global _ => none
def compL {α β : Type} (f : α → Option β) : List α → Option (List β)
 | [] => some []
 | x :: r => match f x, compL f r with
  | some y, some l => some (y :: l)
  | _, _ => none
def compOpt : Option Operand → Option (Option AO)
 | none => some none
 | some x => (compO x).map some
section
variable (P : Program)
def size? (t : TypeId) : Option Nat := (P.info? t).map (·.size)
def zero? (t : TypeId) : Option (List AV) := ((P.info? t).bind (·.zero)).bind fun v => (ofV v).map AV.cells
def isAgg? (t : TypeId) : Option Bool := (P.underlying t).map fun | .struct _ | .array _ _ => true | _ => false
def var? (t : TypeId) : Option (Option Nat) :=
 match isAgg? P t, size? P t with
 | some true, some n => if n = 0 then none else some (some n)
 | some false, some 1 => some none
 | _, _ => none
def elem? (t : TypeId) : Option (Nat × List AV × Nat) :=
 match P.info? t, zero? P t with
 | some i, some z => if i.size = z.length && z.all AV.one && decide (0 < i.size) && decide (0 < i.bytes) then some (i.size, z, i.bytes) else none
 | _, _ => none
def scalar? (t : TypeId) : Option Nat := match P.underlying t with | some .bool => some 0 | some (.int _) => some 1 | some .string => some 2 | _ => none
def flatL : List Field → Nat → Option (List Nat)
 | [], _ => some []
 | f :: r, i => match scalar? P f.type, flatL r (i + 1) with
  | some k, some l => if f.offset == i && f.name != "_" && size? P f.type == some 1 then some (k :: l) else none
  | _, _ => none
def flat? (t : TypeId) : Option (List Nat) :=
 match P.underlying t with
 | some (.struct fs) => if !P.stoodInHeld t && !P.eqGuardType P.depth t then flatL P fs.toList 0 else none
 | _ => none
def part? (t : TypeId) (field : Nat) : Option (Field × Option Nat) :=
 match P.underlying t with
 | some (.struct fs) => match fs[field]? with
  | some f => (var? P f.type).map fun n => (f, n)
  | none => none
 | _ => none
def nilKind : Operand → Option Nat
 | .const (.pointer none) => some 0
 | .const (.slice none _ _) => some 1
 | .const (.map none) => some 2
 | .const .nilFunc => some 3
 | _ => none
def descKind : TypeDesc → Option Nat
 | .pointer _ => some 0
 | .slice _ => some 1
 | .map _ _ => some 2
 | .func .. => some 3
 | _ => none
def compBin (op : BinOp) (t : TypeId) (x y : Operand) : Option AOp :=
 if op = .eql || op = .neq then
  match P.underlying t with
  | some (.int _) | some .string => match compO x, compO y with | some a, some b => some (.bin op a b) | _, _ => none
  | some .bool => match compO x, compO y with | some a, some b => some (.beq (op = .neq) a b) | _, _ => none
  | some (.struct _) => match flat? P t, compO x, compO y with | some n, some a, some b => some (.eqS (op = .neq) n a b) | _, _, _ => none
  | some d => match descKind d with
   | some kd => if nilKind y = some kd then (compO x).map (.isNil kd (op = .neq)) else if nilKind x = some kd then (compO y).map (.isNil kd (op = .neq)) else none
   | none => none
  | none => none
 else match P.underlying t with
  | some (.int _) | some .string => match compO x, compO y with | some a, some b => some (.bin op a b) | _, _ => none
  | _ => none
def compOp (o : Oper) : Option AOp :=
 match o.op with
 | .move x | .assign x => (compO x).map .mv
 | .pick c a b => match compO c, compO a, compO b with | some c, some a, some b => some (.pick c a b) | _, _, _ => none
 | .alloc t => match elem? P t with | some (_, z, _) => some (.alloc z) | none => none
 | .box t x => match size? P t, compO x with | some n, some x => if n = 0 then none else some (.box x) | _, _ => none
 | .build t ps => match P.underlying t, zero? P t with
  | some (.struct fs), some z => match fs.toList.mapM (fun f => (P.info? f.type).map fun i => (f.offset, i.size)) with
   | some places => (compL (fun (p : Nat × Operand) => match places[p.1]?, compO p.2 with
    | some (off, n), some x => some (off, n, x)
    | _, _ => none) ps.toList).map (.build z)
   | none => none
  | _, _ => none
 | .buildSlice t len ps => match P.underlying t with
  | some (.slice e) => match elem? P e with
   | some (_, z, _) => (compL (fun (p : Nat × Operand) => (compO p.2).map fun x => (p.1, x)) ps.toList).map (.buildSl z len)
   | none => none
  | _ => none
 | .load t a => match var? P t, compO a with | some n, some a => some (.load n a) | _, _ => none
 | .store t a x => match size? P t, compO a, compO x with | some n, some a, some x => if n = 0 then none else some (.store n a x) | _, _, _ => none
 | .nilCheck x => (compO x).map .nilck
 | .binOp op t x y _ => compBin P op t x y
 | .unOp op _ x => if op = .plus then none else (compO x).map (.un op)
 | .convert src dst x => match P.underlying src, P.underlying dst, compO x with
  | some (.int _), some (.int k), some x => some (.conv k x)
  | some .string, some .string, some x => some (.convS x)
  | some .string, some (.slice e), some x => (match P.underlying e with | some (.int .u8) => some (.s2b x) | _ => none)
  | some (.slice e), some .string, some x => (match P.underlying e with | some (.int .u8) => some (.b2s x) | _ => none)
  | _, _, _ => none
 | .makeFunc f first cap => match compL compO first.toList, compL compO cap.toList with | some a, some b => some (.mkfn f a b) | _, _ => none
 | .makeMap t none => some .mkmap
 | .makeSlice t l c => match P.underlying t with
  | some (.slice e) => match elem? P e, compO l, compO c with | some (_, z, b), some l, some c => some (.mksl z b l c) | _, _, _ => none
  | _ => none
 | .slice t x lo hi mx => if mx.isSome && hi.isNone then none else match P.underlying t, compO x, compOpt lo, compOpt hi, compOpt mx with
  | some .string, some x, some lo, some hi, some none => some (.slcS x lo hi)
  | some (.slice e), some x, some lo, some hi, some mx => (match size? P e with | some n => if n = 0 then none else some (.slc n x lo hi mx) | none => none)
  | some (.array n e), some x, some lo, some hi, some mx => (match size? P e with | some st => if st = 0 then none else some (.slcA st n x lo hi mx) | none => none)
  | _, _, _, _, _ => none
 | .fieldAddr t x f => match part? P t f, compO x with | some (f, _), some x => some (.fieldAddr f.offset x) | _, _ => none
 | .field t x f => match part? P t f, compO x with | some (f, n), some x => some (.field n f.offset x) | _, _ => none
 | .indexAddr t x i => match P.underlying t, compO x, compO i with
  | some (.slice e), some x, some i => (match size? P e with | some n => if n = 0 then none else some (.idxAddr n x i) | none => none)
  | some (.array len e), some x, some i => (match size? P e with | some n => if n = 0 then none else some (.idxAddrA n len x i) | none => none)
  | _, _, _ => none
 | .index t x i => match P.underlying t, compO x, compO i with
  | some .string, some x, some i => some (.idxS x i)
  | some (.array len e), some x, some i => (match size? P e, var? P e with | some st, some n => some (.idxA n st len x i) | _, _ => none)
  | _, _, _ => none
 | .lookup t m k ok => match P.underlying t, compO m, compO k with
  | some (.map kt e), some m, some k => (match scalar? P kt, (P.info? e).bind (·.zero) with | some kk, some z => (ofV z).map fun z => .lookup z kk m k ok | _, _ => none)
  | _, _, _ => none
 | .mapUpdate t m k v | .insert t m k v => match P.underlying t, compO m, compO k, compO v with
  | some (.map kt _), some m, some k, some v => (scalar? P kt).map fun kk => .mapUpd kk m k v
  | _, _, _, _ => none
 | .extract x i => (compO x).map fun x => .extract x i
 | .call { callee := .value f, args, .. } => match compO f, compL compO args.toList with | some f, some l => some (.call f l) | _, _ => none
 | .call { callee := .builtin b, args, argTypes } => match b, argTypes.toList, compL compO args.toList with
  | .len, t :: _, some (x :: _) => (match P.underlying t with | some .string => some (.len 0 x) | some (.slice _) => some (.len 1 x) | some (.map _ _) => some (.len 2 x) | _ => none)
  | .append, t :: u :: _, some [s, x] => (match P.underlying t, P.underlying u with
   | some (.slice e), some (.slice _) | some (.slice e), some .string => (match elem? P e with | some (st, _, b) => some (.append st b s x) | none => none)
   | _, _ => none)
  | .copy, t :: _, some [d, s] => (match P.underlying t with
   | some (.slice e) => (match elem? P e with | some (st, _, b) => some (.copy st d s) | none => none)
   | _ => none)
  | .delete, t :: _, some [m, k] => (match P.underlying t with | some (.map kt _) => (scalar? P kt).map fun kk => .del kk m k | _ => none)
  | .max, _, some l => some (.mxmn true l)
  | .min, _, some l => some (.mxmn false l)
  | .clear, t :: _, some [x] => (match P.underlying t with | some (.slice e) => (match elem? P e with | some (_, z, _) => some (.clear z x) | none => none) | _ => none)
  | _, _, _ => none
 | _ => none
def compOper (ops : Array Oper) (o : Oper) : Option AOper :=
 match o.guard with
 | none => some { d := o.dst, o := (compOp P o).getD .bad, g := none }
 | some (j, want) => match (ops[j]?).bind (·.dst) with
  | some d => some { d := o.dst, o := (compOp P o).getD .bad, g := some (d, want) }
  | none => none
def loudAt (l : List AOper) (j : Nat) : Bool := match l[j]? with | some o => o.o.loud | none => false
def ahead (l : List AOper) (B : List Nat) (i : Nat) : Nat := ((List.range l.length).filter fun j => loudAt l j && (B.getD i 0).testBit j).length
def cntL (l : List AOper) (i : Nat) : Nat := ((l.take i).filter fun o => o.o.loud).length
def latest (l : List AOper) (B : List Nat) (i : Nat) : Nat := ((List.range l.length).filter fun j => loudAt l j && (B.getD j 0).testBit i).foldl (fun m j => Nat.min m (cntL l j)) (cntL l l.length)
def mark (l : List AOper) (B : List Nat) (i : Nat) (o : AOper) : AOper := { o with k := if o.o.loud then 0 else ahead l B i, e := if o.o.loud then 0 else latest l B i }
def marksK (l : List AOper) (B : List Nat) : List AOper := l.zipIdx.map fun (o, i) => mark l B i o
def loudOk (l : List AOper) (B : List Nat) : Bool :=
 (List.range l.length).all fun j => (List.range j).all fun i => !(loudAt l i && loudAt l j) || (B.getD j 0).testBit i
def AOper.looks (o : AOper) : List Nat := (match o.g with | none => [] | some (j, _) => [j]) ++ o.o.slots
def hitsD (d : Option Nat) (l : List Nat) : Bool := match d with | none => false | some d => l.contains d
def clash (x y : AOper) : Bool := hitsD x.d y.looks || hitsD y.d x.looks || (x.d.isSome && x.d == y.d)
def slotsOk (l : List AOper) (B : List Nat) : Bool :=
 (List.range l.length).all fun j => (List.range j).all fun i => match l[i]?, l[j]? with
  | some x, some y => !clash x y || (B.getD j 0).testBit i
  | _, _ => false
def aheadOk (l : List AOper) (B : List Nat) : Bool :=
 (List.range l.length).all fun i => (List.range l.length).all fun j => (List.range j).all fun k =>
  !(loudAt l j && loudAt l k && (B.getD i 0).testBit j) || (B.getD i 0).testBit k
def orderOk (ops : Array Oper) (B : List Nat) : Bool := waitsOk (rtab .any ops).2 B && baseOk (rtab .any ops).2 (List.range ops.size)
def compReg (ops : Array Oper) (draw : Bool) : Option ACode :=
 match compL (compOper P ops) ops.toList with
 | none => some .bad
 | some l =>
  if draw then
   let B := (Region.before ops).toList
   if orderOk ops B && loudOk l B && slotsOk l B && aheadOk l B then some (.dreg (marksK l B)) else some .bad
  else some (.reg l)
def compC : Code → Option ACode
 | .skip | .label _ => some .skip
 | .region _ ops draw => compReg P ops draw
 | .seq a b => match compC a, compC b with | some a, some b => some (.seq a b) | _, _ => none
 | .cond c a b => match compO c, compC a, compC b with | some c, some a, some b => some (.cond c a b) | _, _, _ => none
 | .block id b => (compC b).map (.block id)
 | .loop b => (compC b).map .loop
 | .exit id => some (.exit id)
 | .ret => some .ret
 | _ => some .bad
def compRes : ResultVar → Option ARes
 | .tmp t => some (.t t)
 | .cell a t => (var? P t).map fun n => .cell a n
def compFn (fn : Func) : Option AFunc :=
 match fn.body with
 | none => none
 | some c => if fn.name == "runtime.NumGoroutine" then none else match compC P c, compL (compRes P) fn.results.toList with
  | some b, some r => some { nt := fn.ntmps, body := b, res := r }
  | _, _ => none
end
open Go
abbrev Emb := Nat → Option (Nat × Nat × Nat)
inductive VRel (S : Nat → Prop) (m : Emb) (w : World) : AV → Value → Prop
  | dead {v} : VRel S m w .dead v
  | bool {b} : VRel S m w (.bool b) (.bool b)
  | int {k n} : VRel S m w (.int k n) (.int k n)
  | str {l s} (h : s.data.toList = l) : VRel S m w (.str l) (.string s)
  | nilp : VRel S m w .nilp (.pointer none)
  | ptr {id off b d z} (h : m id = some (b, d, z)) : VRel S m w (.ptr id off) (.pointer (some ⟨b, d + off, none⟩))
  | rop {es st i off b d} (f : Nat → Nat → Value) (hS : S b) (hc : ∀ i j, i < es.length → j < st → w.cell? ⟨b, d + (i * st + j), none⟩ = some (f i j))
      (hl : ∀ i, i < es.length → (es.getD i .dead).cells.length = st) (hr : ∀ i j, i < es.length → j < st → VRel S m w ((es.getD i .dead).cells.getD j .dead) (f i j)) :
      VRel S m w (.rop es st i off) (.pointer (some ⟨b, d + (i * st + off), none⟩))
  | nils : VRel S m w .nils (.slice none 0 0)
  | sl {id st off len cap ex b d z rc} (h : m id = some (b, d, z)) (hx : ex = true → rc = cap) (hc : cap ≤ rc) (hl : len ≤ cap) (hz : d + (off + rc * st) ≤ z) :
      VRel S m w (.sl id st off len cap ex) (.slice (some ⟨b, d + off, none⟩) len rc)
  | sle {id st off ex a} (h : ex = true → a.isSome = true) : VRel S m w (.sl id st off 0 0 ex) (.slice a 0 0)
  | ro {es st ex b d rc} (f : Nat → Nat → Value) (hS : S b) (hc : ∀ i j, i < es.length → j < st → w.cell? ⟨b, d + (i * st + j), none⟩ = some (f i j))
      (hl : ∀ i, i < es.length → (es.getD i .dead).cells.length = st) (hr : ∀ i j, i < es.length → j < st → VRel S m w ((es.getD i .dead).cells.getD j .dead) (f i j))
      (hx : ex = true → rc = es.length) (hn : es.length ≤ rc) : VRel S m w (.ro es st ex) (.slice (some ⟨b, d, none⟩) es.length rc)
  | ro0 {st ex a rc} (hx : ex = true → rc = 0) : VRel S m w (.ro [] st ex) (.slice a 0 rc)
  | nilm : VRel S m w .nilm (.map none)
  | map {id b z} (h : m id = some (b, 0, z)) : VRel S m w (.map id) (.map (some b))
  | nilf : VRel S m w .nilf .nilFunc
  | fn {f first cap fs cs} (hf : first.length = Array.size fs) (hfr : ∀ i, i < first.length → VRel S m w (first.getD i .dead) (fs.getD i undef))
      (hc : cap.length = Array.size cs) (hcr : ∀ i, i < cap.length → VRel S m w (cap.getD i .dead) (cs.getD i undef)) : VRel S m w (.fn f first cap) (.func f fs cs)
  | agg {cs vs} (hl : cs.length = Array.size vs) (hr : ∀ i, i < cs.length → VRel S m w (cs.getD i .dead) (vs.getD i undef)) : VRel S m w (.agg cs) (.agg vs)
  | tup {cs vs} (hl : cs.length = Array.size vs) (hr : ∀ i, i < cs.length → VRel S m w (cs.getD i .dead) (vs.getD i undef)) : VRel S m w (.tup cs) (.tuple vs)
structure Kp (S : Nat → Prop) (m : Emb) (w : World) (S' : Nat → Prop) (m' : Emb) (w' : World) : Prop where
  ks : ∀ b, S b → S' b
  kh : ∀ b, S b → w'.heap[b]? = w.heap[b]?
  km : ∀ id x, m id = some x → m' id = some x
theorem VRel.keep {S m w S' m' w'} (k : Kp S m w S' m' w') {v x} (h : VRel S m w v x) : VRel S' m' w' v x := by
  have cell : ∀ b, S b → ∀ o, w'.cell? ⟨b, o, none⟩ = w.cell? ⟨b, o, none⟩ := fun b hb o => World.cell?_of_block (w := w) (w' := w') (a := ⟨b, o, none⟩) (k.kh b hb)
  induction h with
  | dead => exact .dead
  | bool => exact .bool
  | int => exact .int
  | str h => exact .str h
  | nilp => exact .nilp
  | ptr h => exact .ptr (k.km _ _ h)
  | rop f hS hc hl hr ih => exact .rop f (k.ks _ hS) (fun i j hi hj => (cell _ hS _).trans (hc i j hi hj)) hl ih
  | nils => exact .nils
  | sl h hx hc hl hz => exact .sl (k.km _ _ h) hx hc hl hz
  | sle h => exact .sle h
  | ro f hS hc hl hr hx hn ih => exact .ro f (k.ks _ hS) (fun i j hi hj => (cell _ hS _).trans (hc i j hi hj)) hl ih hx hn
  | ro0 hx => exact .ro0 hx
  | nilm => exact .nilm
  | map h => exact .map (k.km _ _ h)
  | nilf => exact .nilf
  | fn hf hfr hc hcr ih1 ih2 => exact .fn hf ih1 hc ih2
  | agg hl hr ih => exact .agg hl ih
  | tup hl hr ih => exact .tup hl ih
def LRel (S : Nat → Prop) (m : Emb) (w : World) (cs : List AV) (vs : List Value) : Prop :=
  cs.length = vs.length ∧ ∀ i, i < cs.length → VRel S m w (cs.getD i .dead) (vs.getD i undef)
theorem LRel.keep {S m w S' m' w'} (k : Kp S m w S' m' w') {v x} (h : LRel S m w v x) : LRel S' m' w' v x := ⟨h.1, fun i hi => (h.2 i hi).keep k⟩
theorem LRel.nil {S m w} : LRel S m w [] [] := ⟨rfl, fun i hi => absurd hi (Nat.not_lt_zero _)⟩
theorem LRel.cons {S m w v x vs xs} (h : VRel S m w v x) (hs : LRel S m w vs xs) : LRel S m w (v :: vs) (x :: xs) :=
  ⟨by simp [hs.1], fun i hi => by cases i with
    | zero => exact h
    | succ i => exact hs.2 i (by simpa using hi)⟩
theorem LRel.head {S m w v vs xs} (h : LRel S m w (v :: vs) xs) : ∃ x r, xs = x :: r ∧ VRel S m w v x ∧ LRel S m w vs r := by
  cases xs with
  | nil => have := h.1; simp at this
  | cons x r => exact ⟨x, r, rfl, h.2 0 (by simp), by have := h.1; simpa using this, fun i hi => h.2 (i + 1) (by simpa using hi)⟩
theorem LRel.nil_r {S m w xs} (h : LRel S m w [] xs) : xs = [] := by have := h.1; simp at this; exact List.eq_nil_of_length_eq_zero this.symm
theorem LRel.append {S m w a b x y} (h : LRel S m w a x) (h' : LRel S m w b y) : LRel S m w (a ++ b) (x ++ y) := by
  refine ⟨by simp [h.1, h'.1], fun i hi => ?_⟩
  by_cases hlt : i < a.length
  · have h1 := h.2 i hlt
    simp only [List.getD_eq_getElem?_getD] at h1 ⊢
    rw [List.getElem?_append_left hlt, List.getElem?_append_left (by rw [← h.1]; exact hlt)]; exact h1
  · have h1 := h'.2 (i - a.length) (by simp at hi; omega)
    simp only [List.getD_eq_getElem?_getD] at h1 ⊢
    rw [List.getElem?_append_right (by omega), List.getElem?_append_right (by rw [← h.1]; omega), ← h.1]; exact h1
theorem LRel.take {S m w a x} (n : Nat) (h : LRel S m w a x) : LRel S m w (a.take n) (x.take n) := by
  refine ⟨by simp [h.1], fun i hi => ?_⟩
  simp only [List.length_take] at hi
  have h1 := h.2 i (by omega)
  simp only [List.getD_eq_getElem?_getD, List.getElem?_take] at h1 ⊢
  rw [if_pos (by omega), if_pos (by omega)]; exact h1
theorem LRel.drop {S m w a x} (n : Nat) (h : LRel S m w a x) : LRel S m w (a.drop n) (x.drop n) := by
  refine ⟨by simp [h.1], fun i hi => ?_⟩
  simp only [List.length_drop] at hi
  have h1 := h.2 (n + i) (by omega)
  simp only [List.getD_eq_getElem?_getD, List.getElem?_drop] at h1 ⊢
  exact h1
theorem LRel.replicate {S m w v x} (n : Nat) (h : VRel S m w v x) : LRel S m w (List.replicate n v) (List.replicate n x) := by
  refine ⟨by simp, fun i hi => ?_⟩
  simp only [List.length_replicate] at hi
  simpa [List.getD_eq_getElem?_getD, List.getElem?_replicate, hi] using h
theorem LRel.set {S m w a x v y} (i : Nat) (h : LRel S m w a x) (hv : VRel S m w v y) : LRel S m w (a.set i v) (x.set i y) := by
  refine ⟨by simp [h.1], fun j hj => ?_⟩
  simp only [List.length_set] at hj
  have h1 := h.2 j hj
  simp only [List.getD_eq_getElem?_getD, List.getElem?_set] at h1 ⊢
  by_cases e : i = j
  · subst e
    rw [if_pos rfl, if_pos rfl, if_pos hj, if_pos (by rw [← h.1]; exact hj)]
    exact hv
  · rw [if_neg e, if_neg e]; exact h1
theorem LRel.get {S m w} {a : List AV} {x : List Value} {i : Nat} {v : AV} (h : LRel S m w a x) (hv : a[i]? = some v) : ∃ y, x[i]? = some y ∧ VRel S m w v y := by
  have hi : i < a.length := (List.getElem?_eq_some_iff.1 hv).1
  have h1 := h.2 i hi
  have hx : i < x.length := by rw [← h.1]; exact hi
  simp only [List.getD_eq_getElem?_getD, hv, List.getElem?_eq_getElem hx, Option.getD_some] at h1
  exact ⟨x[i], List.getElem?_eq_getElem hx, h1⟩
theorem LRel.agg {S m w cs} {vs : Array Value} (h : LRel S m w cs vs.toList) : VRel S m w (.agg cs) (.agg vs) :=
  .agg (by simpa using h.1) (fun i hi => by have := h.2 i hi; simpa [List.getD_eq_getElem?_getD, Array.getD_eq_getD_getElem?] using this)
theorem LRel.tup {S m w cs} {vs : Array Value} (h : LRel S m w cs vs.toList) : VRel S m w (.tup cs) (.tuple vs) :=
  .tup (by simpa using h.1) (fun i hi => by have := h.2 i hi; simpa [List.getD_eq_getElem?_getD, Array.getD_eq_getD_getElem?] using this)
theorem LRel.fn {S m w f a b} {vs us : Array Value} (h : LRel S m w a vs.toList) (h' : LRel S m w b us.toList) : VRel S m w (.fn f a b) (.func f vs us) :=
  .fn (by simpa using h.1) (fun i hi => by have := h.2 i hi; simpa [List.getD_eq_getElem?_getD, Array.getD_eq_getD_getElem?] using this)
    (by simpa using h'.1) (fun i hi => by have := h'.2 i hi; simpa [List.getD_eq_getElem?_getD, Array.getD_eq_getD_getElem?] using this)
theorem VRel.agg_inv {S m w cs x} (h : VRel S m w (.agg cs) x) : ∃ vs : Array Value, x = .agg vs ∧ LRel S m w cs vs.toList := by
  cases h with
  | agg hl hr => exact ⟨_, rfl, by simpa using hl, fun i hi => by have := hr i hi; simpa [List.getD_eq_getElem?_getD, Array.getD_eq_getD_getElem?] using this⟩
theorem VRel.tup_inv {S m w cs x} (h : VRel S m w (.tup cs) x) : ∃ vs : Array Value, x = .tuple vs ∧ LRel S m w cs vs.toList := by
  cases h with
  | tup hl hr => exact ⟨_, rfl, by simpa using hl, fun i hi => by have := hr i hi; simpa [List.getD_eq_getElem?_getD, Array.getD_eq_getD_getElem?] using this⟩
theorem VRel.fn_inv {S m w f a b x} (h : VRel S m w (.fn f a b) x) : ∃ vs us : Array Value, x = .func f vs us ∧ LRel S m w a vs.toList ∧ LRel S m w b us.toList := by
  cases h with
  | fn hf hfr hc hcr => exact ⟨_, _, rfl, ⟨by simpa using hf, fun i hi => by have := hfr i hi; simpa [List.getD_eq_getElem?_getD, Array.getD_eq_getD_getElem?] using this⟩, by simpa using hc, fun i hi => by have := hcr i hi; simpa [List.getD_eq_getElem?_getD, Array.getD_eq_getD_getElem?] using this⟩
theorem VRel.cells {S m w v x} (h : VRel S m w v x) (hd : v ≠ .dead) : LRel S m w v.cells x.cells.toList := by
  cases v with
  | agg cs => obtain ⟨vs, rfl, hl⟩ := h.agg_inv; exact hl
  | dead => exact absurd rfl hd
  | _ => cases h <;> exact LRel.cons (by constructor <;> assumption) LRel.nil
theorem VRel.oneCell {S m w v x} (h : VRel S m w v x) (ho : v.one = true) : x.oneCell' = true := by
  cases h <;> first | rfl | (simp [AV.one] at ho; done)
theorem cells_one {v : AV} (ho : v.one = true) : v.cells = [v] := by cases v <;> first | rfl | (simp [AV.one] at ho; done)
def live (h : List Blk) (id : Nat) : Prop := ∃ bl, h[id]? = some bl ∧ bl ≠ .gone
def owns (h : List Blk) (m : Emb) (id b : Nat) : Prop := (∃ d z, m id = some (b, d, z)) ∧ live h id
def BornOk (en : Array MapEntry) (ck : Nat) : Prop := (en.toList.map (·.born)).Nodup ∧ ∀ x ∈ en.toList, x.born < ck
def BRel (S : Nat → Prop) (m : Emb) (w : World) (id : Nat) : Blk → Prop
  | .gone => True
  | .cells cs => ∃ b d t fz, ∃ c : Array Value, m id = some (b, d, c.size) ∧ w.heap[b]? = some (.cells c t fz) ∧ d + cs.length ≤ c.size ∧
      (∀ j, d ≤ j → ¬ (fz.1 ≤ j ∧ j < fz.2)) ∧ LRel S m w cs ((c.toList.drop d).take cs.length) ∧ ¬ S b
  | .map es => ∃ b ck, ∃ en : Array MapEntry, m id = some (b, 0, 0) ∧ w.heap[b]? = some (.map en ck) ∧ LRel S m w (es.map (·.1)) (en.toList.map (·.key)) ∧ LRel S m w (es.map (·.2)) (en.toList.map (·.val)) ∧ ¬ S b ∧ BornOk en ck
structure Rep (S : Nat → Prop) (m : Emb) (h : List Blk) (w : World) : Prop where
  sb : ∀ b, S b → b < w.heap.size
  dom : ∀ id, h.length ≤ id → m id = none
  blk : ∀ id bl, h[id]? = some bl → BRel S m w id bl
  inj : ∀ i j b, owns h m i b → owns h m j b → i = j
structure Stp (S : Nat → Prop) (m : Emb) (h : List Blk) (w : World) (S' : Nat → Prop) (m' : Emb) (h' : List Blk) (w' : World) : Prop where
  ts : ∀ b, S b → S' b
  tm : ∀ id x, m id = some x → m' id = some x
  os : w'.os = w.os
  tape : w'.tape = w.tape
  output : w'.output = w.output
  size : w.heap.size ≤ w'.heap.size
  len : h.length ≤ h'.length
  fr : ∀ b, b < w.heap.size → (∀ id, ¬ owns h m id b) → w'.heap[b]? = w.heap[b]?
  own : ∀ id b, owns h' m' id b → b < w.heap.size → ∃ id', owns h m id' b
  sn : ∀ b, S' b → S b ∨ (w.heap.size ≤ b ∨ ∃ id, owns h m id b)
theorem owns_not_S {S m h w} (r : Rep S m h w) {id b} (ho : owns h m id b) : ¬ S b := by
  obtain ⟨⟨d, z, hm⟩, bl, hb, hne⟩ := ho
  have := r.blk id bl hb
  cases bl with
  | gone => exact absurd rfl hne
  | cells cs => obtain ⟨b', d', t, fz, c, h1, _, _, _, _, h6⟩ := this; rw [hm] at h1; cases h1; exact h6
  | map es => obtain ⟨b', ck, en, h1, _, _, _, h6, _⟩ := this; rw [hm] at h1; cases h1; exact h6
theorem owns_lt {S m h w} (r : Rep S m h w) {id b} (ho : owns h m id b) : b < w.heap.size := by
  obtain ⟨⟨d, z, hm⟩, bl, hb, hne⟩ := ho
  have := r.blk id bl hb
  have lt : ∀ o, w.heap[b]? = some o → b < w.heap.size := fun o h => (Array.getElem?_eq_some_iff.1 h).1
  cases bl with
  | gone => exact absurd rfl hne
  | cells cs => obtain ⟨b', d', t, fz, c, h1, h2, _⟩ := this; rw [hm] at h1; cases h1; exact lt _ h2
  | map es => obtain ⟨b', ck, en, h1, h2, _⟩ := this; rw [hm] at h1; cases h1; exact lt _ h2
theorem Stp.refl (S m h w) : Stp S m h w S m h w :=
  ⟨fun _ h => h, fun _ _ h => h, rfl, rfl, rfl, Nat.le_refl _, Nat.le_refl _, fun _ _ _ => rfl, fun id b h _ => ⟨id, h⟩, fun _ h => .inl h⟩
theorem Stp.kp {S m h w S' m' h' w'} (r : Rep S m h w) (t : Stp S m h w S' m' h' w') : Kp S m w S' m' w' :=
  ⟨t.ts, fun b hb => t.fr b (r.sb b hb) fun id ho => owns_not_S r ho hb, t.tm⟩
theorem Stp.trans {S m h w S' m' h' w' S'' m'' h'' w''} (t : Stp S m h w S' m' h' w') (u : Stp S' m' h' w' S'' m'' h'' w'') : Stp S m h w S'' m'' h'' w'' where
  ts b hb := u.ts b (t.ts b hb)
  tm id x hx := u.tm id x (t.tm id x hx)
  os := u.os.trans t.os
  tape := u.tape.trans t.tape
  output := u.output.trans t.output
  size := Nat.le_trans t.size u.size
  len := Nat.le_trans t.len u.len
  fr b hb hn := (u.fr b (Nat.lt_of_lt_of_le hb t.size) fun id ho => by obtain ⟨id', h'⟩ := t.own id b ho hb; exact hn id' h').trans (t.fr b hb hn)
  own id b ho hb := by
    obtain ⟨id', h'⟩ := u.own id b ho (Nat.lt_of_lt_of_le hb t.size)
    exact t.own id' b h' hb
  sn b hb := by
    rcases u.sn b hb with h | h | ⟨id, h⟩
    · exact t.sn b h
    · exact .inr (.inl (Nat.le_trans t.size h))
    · rcases Nat.lt_or_ge b w.heap.size with hlt | hge
      · exact .inr (.inr (t.own id b h hlt))
      · exact .inr (.inl hge)
theorem Stp.sn0 {S m w S' m' h' w'} (t : Stp S m [] w S' m' h' w') (b : Nat) (hb : S' b) : S b ∨ w.heap.size ≤ b := by
  rcases t.sn b hb with h | h | ⟨id, ho⟩
  · exact .inl h
  · exact .inr h
  · obtain ⟨_, bl, hb', _⟩ := ho
    simp at hb'
theorem Stp.below {S m w S' m' h' w'} (t : Stp S m [] w S' m' h' w') : RowKit.Below w.heap.size w w' :=
  ⟨t.os, t.tape, t.output, t.size, fun b hb => t.fr b hb fun id ho => by obtain ⟨_, bl, hb, _⟩ := ho; simp at hb⟩
def TRel (S : Nat → Prop) (m : Emb) (w : World) (t : List AV) (tmps : Array Value) : Prop := LRel S m w t tmps.toList
theorem TRel.keep {S m w S' m' w'} (k : Kp S m w S' m' w') {v x} (h : TRel S m w v x) : TRel S' m' w' v x := LRel.keep k h
theorem TRel.put {S m w t v x} {a : Act} (h : TRel S m w t a.tmps) (d : Option Nat) (hv : VRel S m w v x) : TRel S m w (AM.put t d v) (a.put d x).tmps := by
  cases d with
  | none => exact h
  | some d => show LRel S m w (t.set d v) (a.tmps.setIfInBounds d x).toList; rw [Array.toList_setIfInBounds]; exact LRel.set d h hv
theorem TRel.get {S m w t} {tmps : Array Value} (h : TRel S m w t tmps) (n : Nat) : VRel S m w ((t[n]?).getD .dead) (tmps.getD n undef) := by
  cases hn : t[n]? with
  | none => exact .dead
  | some v =>
    obtain ⟨y, h1, h2⟩ := LRel.get h hn
    rw [Array.getElem?_toList] at h1
    rw [Array.getD_eq_getD_getElem?, h1]
    exact h2
theorem ofV1_sound {S m w v a} (h : ofV1 v = some a) : VRel S m w a v := by
  unfold ofV1 at h
  split at h <;> first
    | (cases h; first | exact .bool | exact .int | exact .str rfl | exact .nilp | exact .nils | exact .nilm | exact .nilf)
    | (split at h
       · rename_i f fs cs hc
         cases h
         simp only [Bool.and_eq_true, Array.isEmpty_iff] at hc
         rw [hc.1, hc.2]
         exact LRel.fn LRel.nil LRel.nil
       · cases h)
    | cases h
theorem ofVL_sound {S m w} : ∀ {l : List Value} {a}, ofVL l = some a → LRel S m w a l
  | [], a, h => by cases h; exact LRel.nil
  | v :: r, a, h => by
    rw [ofVL] at h
    split at h
    · rename_i h1 h2; cases h; exact LRel.cons (ofV1_sound h1) (ofVL_sound h2)
    · cases h
theorem ofV_sound {S m w v a} (h : ofV v = some a) : VRel S m w a v := by
  unfold ofV at h
  split at h
  · rw [Option.map_eq_some_iff] at h
    obtain ⟨l, h1, rfl⟩ := h
    exact LRel.agg (ofVL_sound h1)
  · split at h
    · rename_i cs hc
      cases h
      rw [Array.isEmpty_iff] at hc
      rw [hc]
      exact LRel.tup LRel.nil
    · cases h
  · exact ofV1_sound h
theorem compO_sound {S m w t} {a : Act} (h : TRel S m w t a.tmps) {x : Operand} {y : AO} (hx : compO x = some y) : VRel S m w (evalO t y) (a.eval x) := by
  cases x with
  | tmp n => cases hx; exact TRel.get h n
  | const v =>
    simp only [compO, Option.map_eq_some_iff] at hx
    obtain ⟨c, h1, rfl⟩ := hx
    exact ofV_sound h1
  | global g => cases hx
  | func f => cases hx; exact LRel.fn LRel.nil LRel.nil
open Go
section
variable {P : Program} {S : Nat → Prop} {m : Emb} {h : List Blk} {w : World}
theorem add_mk (b o n : Nat) : Addr.add ⟨b, o, none⟩ n = ⟨b, o + n, none⟩ := by unfold Addr.add; split <;> simp_all
theorem cell_at {b o : Nat} {c : Array Value} {t fz} (hb : w.heap[b]? = some (.cells c t fz)) : w.cell? ⟨b, o, none⟩ = c[o]? := by simp [World.cell?, hb]
theorem und_run {t d} (hu : P.underlying t = some d) : (underlying t).run P w = .ok d w := run_underlying hu w
theorem info_run {t i} (hi : P.info? t = some i) : (typeInfo t).run P w = .ok i w := by simp [typeInfo, hi]
theorem size_run {t n} (hi : size? P t = some n) : (sizeOf t).run P w = .ok n w := by
 unfold size? at hi
 rw [Option.map_eq_some_iff] at hi
 obtain ⟨i, h1, rfl⟩ := hi
 simp [sizeOf, info_run h1]
theorem var?_size {t n} (hv : var? P t = some n) : size? P t = some (cellsN n) ∧ 0 < cellsN n := by
 unfold var? at hv
 split at hv
 ·split at hv
  ·cases hv
  ·rename_i h1 h2; cases hv; exact ⟨h1, Nat.pos_of_ne_zero h2⟩
 ·rename_i h1; cases hv; exact ⟨h1, Nat.one_pos⟩
 ·cases hv
theorem var?_agg {t n} (hv : var? P t = some n) : (isAgg t).run P w = .ok n.isSome w := by
 unfold var? at hv
 have key : ∀ b, isAgg? P t = some b → (isAgg t).run P w = .ok b w := by
  intro b hb
  unfold isAgg? at hb
  rw [Option.map_eq_some_iff] at hb
  obtain ⟨d, h1, h2⟩ := hb
  unfold isAgg
  simp only [Sem.run_bind, und_run h1, Result.andThen_ok]
  cases d <;> simp_all
 split at hv
 ·rename_i h0 h1
  split at hv
  ·cases hv
  ·cases hv; exact key _ h0
 ·rename_i h0 h1; cases hv; exact key _ h0
 ·cases hv
theorem rdPtr_sound (r : Rep S m h w) {n v cs x} (hr : rdPtr h n v = some cs) (hv : VRel S m w v x) (hn : 0 < n) :
  ∃ ad vs, x = .pointer (some ad) ∧ LRel S m w cs vs ∧ vs.length = n ∧ ∀ j u, vs[j]? = some u → w.cell? (ad.add j) = some u := by
 cases hv <;> simp only [rdPtr] at hr <;> try cases hr
 case ptr id off b d z hm =>
  unfold rdCells at hr
  split at hr
  ·rename_i cs' hb
   split at hr
   ·rename_i hle
    cases hr
    obtain ⟨b', d', t, fz, c, h1, h2, h3, h4, h5, h6⟩ := r.blk _ _ hb
    rw [hm] at h1
    cases h1
    refine ⟨_, ((c.toList.drop d).take cs'.length |>.drop off).take n, rfl, (h5.drop off).take n, ?_, ?_⟩
    ·have := h5.1; simp only [List.length_take, List.length_drop] at this ⊢; omega
    ·intro j u hj
     rw [add_mk, cell_at h2]
     simp only [List.getElem?_take, List.getElem?_drop] at hj
     split at hj
     ·split at hj
      ·rw [← hj, Array.getElem?_toList, Nat.add_assoc]
      ·cases hj
     ·cases hj
   ·cases hr
  ·cases hr
 case rop es st i off b d f hS hc hl hrr =>
  split at hr
  ·rename_i e he
   split at hr
   ·rename_i hle
    cases hr
    have hi : i < es.length := (List.getElem?_eq_some_iff.1 he).1
    have hee : es.getD i .dead = e := by simp [List.getD_eq_getElem?_getD, he]
    have hst : e.cells.length = st := by have := hl i hi; rwa [hee] at this
    have hL : LRel S m w e.cells ((List.range st).map (f i)) := ⟨by simp [hst], fun j hj => by
     have := hrr i j hi (by omega)
     rw [hee] at this
     simpa [List.getD_eq_getElem?_getD, List.getElem?_range, show j < st by omega] using this⟩
    refine ⟨_, (((List.range st).map (f i)).drop off).take n, rfl, (hL.drop off).take n, by simp only [List.length_take, List.length_drop, List.length_map, List.length_range]; omega, ?_⟩
    intro j u hj
    simp only [List.getElem?_take, List.getElem?_drop, List.getElem?_map] at hj
    split at hj
    ·rw [Option.map_eq_some_iff] at hj
     obtain ⟨k, h1, rfl⟩ := hj
     obtain ⟨hk, h1⟩ := List.getElem?_eq_some_iff.1 h1
     simp at h1 hk
     subst h1
     rw [add_mk, show d + (i * st + off) + j = d + (i * st + (off + j)) by omega]
     exact hc i _ hi hk
    ·cases hj
   ·cases hr
  ·cases hr
theorem asVar_sound {n : Option Nat} {cs : List AV} {v : AV} {vs : List Value} (ha : asVar n cs = some v) (hL : LRel S m w cs vs) :
  VRel S m w v (if n.isSome then .agg vs.toArray else vs.headD undef) := by
 cases n with
 | none =>
  simp only [asVar] at ha
  unfold one? at ha
  split at ha
  ·cases ha
   obtain ⟨x, r, rfl, h1, h2⟩ := hL.head
   exact h1
  ·cases ha
 | some k => cases ha; exact LRel.agg (by simpa using hL)
theorem loadVar_sound {t n} (hv : var? P t = some n) {ad : Addr} {vs : List Value} (hl : vs.length = cellsN n) (hc : ∀ j u, vs[j]? = some u → w.cell? (ad.add j) = some u) :
  (loadVar t ad).run P w = .ok (if n.isSome then .agg vs.toArray else vs.headD undef) w := by
 unfold loadVar
 simp only [Sem.run_bind, var?_agg hv, Result.andThen_ok]
 cases n with
 | none =>
  simp only [Option.isSome_none, Bool.false_eq_true, if_false]
  match vs, hl with
  | [u], _ =>
   have := hc 0 u rfl
   rw [show ad.add 0 = ad by simp [Addr.add]] at this
   simp [this]
 | some k =>
  have hk : vs.length = k := hl
  simp only [Option.isSome_some, if_true, Sem.run_bind, size_run (var?_size hv).1, Result.andThen_ok, cellsN]
  have := run_loadCells_list (P := P) w ad vs hc
  rw [hk] at this
  rw [this]
  rfl
theorem part_sound {t n} (hv : var? P t = some n) {cs : Array Value} {off : Nat} (hl : off + cellsN n ≤ cs.size) :
  (part t cs off).run P w = .ok (if n.isSome then .agg ((cs.toList.drop off).take (cellsN n)).toArray else ((cs.toList.drop off).take (cellsN n)).headD undef) w := by
 unfold part
 simp only [Sem.run_bind, var?_agg hv, Result.andThen_ok]
 cases n with
 | none =>
  simp only [cellsN] at hl ⊢
  simp only [Option.isSome_none, Bool.false_eq_true, if_false]
  have h1 : cs[off]? = some cs[off] := Array.getElem?_eq_getElem (by omega)
  rw [h1]
  have h2 : (cs.toList.drop off).take 1 = [cs[off]] := by
   rw [List.drop_eq_getElem_cons (by simp; omega)]
   simp
  rw [h2]
  rfl
 | some k =>
  simp only [Option.isSome_some, if_true, Sem.run_bind, size_run (var?_size hv).1, Result.andThen_ok, cellsN, Sem.run_pure]
  congr 2
  apply Array.ext'
  simp [Array.toList_extract, List.extract]
theorem optNat_sound {ρ : Operand → Value} {ev : AO → AV} (hE : ∀ x y, compO x = some y → VRel S m w (ev y) (ρ x)) {x : Option Operand} {y : Option AO} {d n : Nat} (hc : compOpt x = some y)
  (hn : optNat d (y.map ev) = some n) : (x = none ∧ y = none ∧ n = d) ∨ ∃ o k, x = some o ∧ y.isSome = true ∧ ρ o = .int k (n : Int) := by
 cases x with
 | none => cases hc; cases hn; exact .inl ⟨rfl, rfl, rfl⟩
 | some o =>
  simp only [compOpt, Option.map_eq_some_iff] at hc
  obtain ⟨y', h1, rfl⟩ := hc
  simp only [Option.map_some, optNat] at hn
  have := hE _ _ h1
  refine .inr ⟨o, ?_⟩
  cases hev : ev y' <;> simp only [hev, asNat] at hn <;> try cases hn
  rename_i k z
  split at hn
  ·rename_i hz
   cases hn
   rw [hev] at this
   cases hr : ρ o <;> rw [hr] at this <;> cases this
   exact ⟨k, rfl, rfl, by rw [Int.toNat_of_nonneg hz]⟩
  ·cases hn
theorem bound_run {k : IntKind} {n y : Nat} {c : BoundsCode} (hn : n ≤ y) : (Instr.sliceBound (.int k (n : Int)) y c).run P w = .ok n w := by
 unfold Instr.sliceBound
 simp [asIntOf, hn]
end
open Go
section
variable {P : Program} {S : Nat → Prop} {m : Emb} {h : List Blk} {w : World} {ρ : Operand → Value} {ev : AO → AV}
def PGood (P : Program) (S : Nat → Prop) (m : Emb) (w : World) (ρ : Operand → Value) (o : Oper) (v : AV) : Prop :=
  ∃ x, (execOp ρ o).run P w = .ok (.value x) w ∧ VRel S m w v x
theorem PGood.of {o : Oper} {v : AV} {s : Sem Value} {x : Value} (he : execOp ρ o = (do pure (.value (← s)))) (hs : s.run P w = .ok x w) (hv : VRel S m w v x) : PGood P S m w ρ o v :=
  ⟨x, by rw [he]; simp [hs], hv⟩
theorem vint {k n x} (h : VRel S m w (.int k n) x) : x = .int k n := by cases h; rfl
theorem vbool {b x} (h : VRel S m w (.bool b) x) : x = .bool b := by cases h; rfl
theorem vstr {l x} (h : VRel S m w (.str l) x) : ∃ s, x = .string s ∧ s.data.toList = l := by cases h; exact ⟨_, rfl, by assumption⟩
theorem compL_sound {l : List Operand} (hE : ∀ x y, compO x = some y → VRel S m w (ev y) (ρ x)) : ∀ {l : List Operand} {l'}, compL compO l = some l' → LRel S m w (l'.map ev) (l.map ρ)
  | [], _, h => by cases h; exact LRel.nil
  | x :: r, l', h => by
    rw [compL] at h
    split at h
    · rename_i y l h1 h2
      cases h
      exact LRel.cons (hE _ _ h1) (compL_sound (l := r) hE h2)
    · cases h
theorem bytesEq_eq : ∀ a b : List UInt8, bytesEq a b = (a == b)
  | [], [] => rfl
  | [], _ :: _ => rfl
  | _ :: _, [] => rfl
  | a :: x, b :: y => by
    rw [bytesEq, bytesEq_eq x y]
    have : decide (a.toNat = b.toNat) = (a == b) := by
      rw [Bool.eq_iff_iff]; simp [UInt8.toNat_inj]
    rw [this]; rfl
theorem bytesLt_eq : ∀ a b : List UInt8, bytesLt a b = Op.bytesLess a b
  | [], [] => rfl
  | [], _ :: _ => rfl
  | _ :: _, [] => rfl
  | a :: x, b :: y => by
    rw [bytesLt, Op.bytesLess, bytesLt_eq x y]
    have h1 : decide (a.toNat = b.toNat) = (a == b) := by
      rw [Bool.eq_iff_iff]; simp [UInt8.toNat_inj]
    have h2 : decide (a.toNat < b.toNat) = decide (a < b) := by
      rw [Bool.eq_iff_iff]; simp [UInt8.lt_iff_toNat_lt]
    rw [h1, h2]
theorem aint_sound {op k a b v} (h : aint op k a b = some v) : ∀ t, op ≠ .shl → op ≠ .shr → ∃ x, (binOp op t (.int k a) (.int k b)).run P w = .ok x w ∧ VRel S m w v x := by
  intro t h1 h2
  cases op <;> simp only [aint] at h <;> first
    | (exact absurd rfl h1)
    | (exact absurd rfl h2)
    | (cases h; exact ⟨_, by simp only [binOp_add, binOp_sub, binOp_mul, binOp_and, binOp_or, binOp_xor, binOp_andNot, binOp_eql, binOp_neq, binOp_lss, binOp_leq, binOp_gtr, binOp_geq, Op.intArith, Op.intBits]; rfl, by constructor⟩)
    | (split at h
       · cases h
       · rename_i hb; cases h; exact ⟨_, by simp only [binOp_quo, binOp_rem, Op.intDiv, if_neg hb]; rfl, by constructor⟩)
theorem astr_sound {op l l' v} {s s' : ByteArray} (h : astr op l l' = some v) (hs : s.data.toList = l) (hs' : s'.data.toList = l') : ∀ t, ∃ x, (binOp op t (.string s) (.string s')).run P w = .ok x w ∧ VRel S m w v x := by
  subst hs
  subst hs'
  intro t
  have e1 : s.toList = s.data.toList := ByteArray.toList_eq s
  have e2 : s'.toList = s'.data.toList := ByteArray.toList_eq s'
  cases op <;> simp only [astr, bytesEq_eq, bytesLt_eq] at h <;> first
    | (cases h; exact ⟨_, by simp only [binOp, Op.stringOp, e1, e2]; rfl, by constructor⟩)
    | (split at h
       · rename_i hl
         cases h
         refine ⟨.string (s ++ s'), ?_, .str (by simp [ByteArray.data_append])⟩
         have : ¬ (((s.size + s'.size : Nat) : Int) > IntKind.i64.max) := by
           have := ByteArray.size_data (a := s); have := ByteArray.size_data (a := s'); simp at hl; simp [IntKind.max, IntKind.signed, IntKind.bits]; omega
         simp only [binOp, Op.stringOp]
         rw [if_neg this]
         rfl
       · cases h)
    | cases h
theorem abin_sound {op a b v x y} (h : abin op a b = some v) (hx : VRel S m w a x) (hy : VRel S m w b y) : ∀ t, ∃ z, (binOp op t x y).run P w = .ok z w ∧ VRel S m w v z := by
  intro t
  unfold abin at h
  split at h
  · rename_i k a k' b
    have hx := vint hx; have hy := vint hy
    subst hx; subst hy
    split at h
    · split at h
      · cases h
      · rename_i hb; cases h; exact ⟨_, by simp only [binOp_shl, Op.shift, if_neg hb]; rfl, by constructor⟩
    · split at h
      · cases h
      · rename_i hb; cases h; exact ⟨_, by simp only [binOp_shr, Op.shift, if_neg hb]; rfl, by constructor⟩
    · split at h
      · rename_i h1 h2 hk; subst hk; exact aint_sound h t (by intro e; exact h1 e) (by intro e; exact h2 e)
      · cases h
  · obtain ⟨s, rfl, h1⟩ := vstr hx
    obtain ⟨s', rfl, h2⟩ := vstr hy
    exact astr_sound h h1 h2 t
  · cases h
theorem guard_str {op t x y s v} : eqGuard op t x y (.string s) v = pure () := by cases op <;> rfl
theorem guard_int {op t x y k n v} : eqGuard op t x y (.int k n) v = pure () := by cases op <;> rfl
variable (hE : ∀ x y, compO x = some y → VRel S m w (ev y) (ρ x)) (r : Rep S m h w)
include hE
theorem good_mv {o : Oper} {ao v} (ho : (∃ x, o.op = .move x) ∨ ∃ x, o.op = .assign x) (hc : compOp P o = some ao) (hv : pOp ev h ao = some v) : PGood P S m w ρ o v := by
  rcases ho with ⟨x, ho⟩ | ⟨x, ho⟩
  all_goals
    simp only [compOp, ho, Option.map_eq_some_iff] at hc
    obtain ⟨y, h1, rfl⟩ := hc
    cases hv
    exact ⟨ρ x, by simp [execOp, ho], hE _ _ h1⟩
theorem good_pick {o : Oper} {ao v c a b} (ho : o.op = .pick c a b) (hc : compOp P o = some ao) (hv : pOp ev h ao = some v) : PGood P S m w ρ o v := by
  simp only [compOp, ho] at hc
  split at hc
  · rename_i c' a' b' h1 h2 h3
    cases hc
    have hcc := hE _ _ h1
    simp only [pOp] at hv
    split at hv
    · rename_i he; cases hv; rw [he] at hcc; exact ⟨ρ a, by simp [execOp, ho, vbool hcc, asBool], hE _ _ h2⟩
    · rename_i he; cases hv; rw [he] at hcc; exact ⟨ρ b, by simp [execOp, ho, vbool hcc, asBool], hE _ _ h3⟩
    · cases hv
  · cases hc
include r in
theorem good_load {o : Oper} {ao v t x} (ho : o.op = .load t x) (hc : compOp P o = some ao) (hv : pOp ev h ao = some v) : PGood P S m w ρ o v := by
  simp only [compOp, ho] at hc
  split at hc
  · rename_i n a h1 h2
    cases hc
    simp only [pOp, Option.bind_eq_some_iff] at hv
    obtain ⟨cs, h3, h4⟩ := hv
    obtain ⟨ad, vs, h5, h6, h7, h8⟩ := rdPtr_sound r h3 (hE _ _ h2) (var?_size h1).2
    refine PGood.of (s := Instr.loadAt t (ρ x)) (by simp [execOp, ho]) (x := if n.isSome then .agg vs.toArray else vs.headD undef) ?_ (asVar_sound h4 h6)
    rw [h5]
    simp [Instr.loadAt, Instr.sureAddr, loadVar_sound h1 h7 h8]
  · cases hc
theorem good_nilck {o : Oper} {ao v x} (ho : o.op = .nilCheck x) (hc : compOp P o = some ao) (hv : pOp ev h ao = some v) : PGood P S m w ρ o v := by
  simp only [compOp, ho, Option.map_eq_some_iff] at hc
  obtain ⟨y, h1, rfl⟩ := hc
  have hx := hE _ _ h1
  simp only [pOp] at hv
  split at hv
  · rename_i he; cases hv; rw [he] at hx
    obtain ⟨p, hp⟩ : ∃ p, ρ x = .pointer (some p) := by generalize ρ x = y at hx; cases hx; exact ⟨_, rfl⟩
    exact ⟨ρ x, by simp [execOp, ho, hp], hx⟩
  · rename_i he; cases hv; rw [he] at hx
    obtain ⟨p, hp⟩ : ∃ p, ρ x = .pointer (some p) := by generalize ρ x = y at hx; cases hx; exact ⟨_, rfl⟩
    exact ⟨ρ x, by simp [execOp, ho, hp], hx⟩
  · rename_i he
    split at hv
    · cases hv; rw [he] at hx
      obtain ⟨vs, us, h2, h3, h4⟩ := hx.fn_inv
      exact ⟨ρ x, by simp [execOp, ho, h2], hx⟩
    · cases hv
  · cases hv
theorem good_bin {o : Oper} {ao v op t x y u} (ho : o.op = .binOp op t x y u) (hc : compOp P o = some ao) (hv : pOp ev h ao = some v)
    (hk : (∃ a b, ao = .bin op a b ∧ compO x = some a ∧ compO y = some b)) : PGood P S m w ρ o v := by
  obtain ⟨a, b, rfl, h1, h2⟩ := hk
  obtain ⟨z, h3, h4⟩ := abin_sound (P := P) hv (hE _ _ h1) (hE _ _ h2) t
  refine PGood.of (s := do eqGuard op t x y (ρ x) (ρ y); binOp op t (ρ x) (ρ y)) (by simp only [execOp, ho]) (x := z) ?_ h4
  have hg : eqGuard op t x y (ρ x) (ρ y) = pure () := by
    have hx := hE _ _ h1
    simp only [pOp] at hv
    unfold abin at hv
    split at hv
    · rename_i he _; rw [he] at hx; rw [vint hx]; exact guard_int
    · rename_i he _; rw [he] at hx; obtain ⟨s, h5, _⟩ := vstr hx; rw [h5]; exact guard_str
    · cases hv
  rw [hg]
  simpa using h3
theorem good_beq {o : Oper} {v op t x y u a b} (ho : o.op = .binOp op t x y u) (hop : op = .eql ∨ op = .neq) (ht : P.underlying t = some .bool) (h1 : compO x = some a) (h2 : compO y = some b)
    (hv : pOp ev h (.beq (op = .neq) a b) = some v) : PGood P S m w ρ o v := by
  simp only [pOp] at hv
  split at hv
  · rename_i p q hp hq
    cases hv
    have hx := hE _ _ h1; rw [hp] at hx
    have hy := hE _ _ h2; rw [hq] at hy
    refine PGood.of (s := do eqGuard op t x y (ρ x) (ρ y); binOp op t (ρ x) (ρ y)) (by simp only [execOp, ho]) (x := .bool (if op = .neq then p != q else p == q)) ?_ (by rcases hop with rfl | rfl <;> exact .bool)
    rw [vbool hx, vbool hy]
    have hu : (Op.equal t (.bool p) (.bool q)).run P w = .ok (p == q) w := by
      unfold Op.equal
      rw [show Op.maxDepth = 9999 + 1 from rfl, Op.equalIn]
      simp only [Sem.run_bind, und_run ht, Result.andThen_ok, Sem.run_pure]
    rcases hop with rfl | rfl
    · simp [eqGuard, binOp, hu]
    · simp [eqGuard, binOp, hu, bne]
  · cases hv
omit hE in
theorem isNil_sound {kd d a v x y op t} {px py : Operand} (hd : descKind d = some kd) (ht : P.underlying t = some d) (hop : op = .eql ∨ op = .neq) (h : isNil kd a = some v) (hx : VRel S m w a x)
    (hy : (kd = 0 ∧ y = .pointer none) ∨ (kd = 1 ∧ ∃ n c, y = .slice none n c) ∨ (kd = 2 ∧ y = .map none) ∨ (kd = 3 ∧ y = .nilFunc)) :
    (do eqGuard op t px py x y; binOp op t x y : Sem Value).run P w = .ok (.bool (if op = .neq then !v else v)) w ∧ (do eqGuard op t px py y x; binOp op t y x : Sem Value).run P w = .ok (.bool (if op = .neq then !v else v)) w := by
  have hu : ∀ a b c, (Op.equalIn (9999 + 1) t a b).run P w = .ok c w → (Op.equal t a b).run P w = .ok c w := fun a b c h => h
  have fin : ∀ a b c, (Op.equal t a b).run P w = .ok c w → eqGuard op t px py a b = pure () → binOp op t a b = (if op = .neq then (do pure (.bool (!(← Op.equal t a b)))) else (do pure (.bool (← Op.equal t a b)))) →
      (do eqGuard op t px py a b; binOp op t a b : Sem Value).run P w = .ok (.bool (if op = .neq then !c else c)) w := by
    intro a b c h1 h2 h3
    rw [h2, h3]
    rcases hop with rfl | rfl <;> simp [h1]
  have gp : ∀ p b, eqGuard op t px py (.pointer p) b = pure () := fun p b => by cases op <;> rfl
  have gs : ∀ p n c b, eqGuard op t px py (.slice p n c) b = pure () := fun p n c b => by cases op <;> rfl
  have gm : ∀ p b, eqGuard op t px py (.map p) b = pure () := fun p b => by cases op <;> rfl
  have gf : ∀ f a c b, eqGuard op t px py (.func f a c) b = pure () := fun f a c b => by cases op <;> rfl
  have gn : ∀ b, eqGuard op t px py .nilFunc b = pure () := fun b => by cases op <;> rfl
  rcases hy with ⟨rfl, rfl⟩ | ⟨rfl, n, c, rfl⟩ | ⟨rfl, rfl⟩ | ⟨rfl, rfl⟩
  · have ⟨e, hde⟩ : ∃ e, d = .pointer e := by cases d <;> simp [descKind] at hd; exact ⟨_, rfl⟩
    subst hde
    have ⟨p, hxp, hpv⟩ : ∃ p, x = .pointer p ∧ p.isNone = v := by
      cases hx <;> simp only [isNil] at h <;> first | (cases h; done) | (cases h; exact ⟨_, rfl, rfl⟩)
    subst hxp; subst hpv
    refine ⟨fin _ _ _ ?_ (gp _ _) (by rcases hop with rfl | rfl <;> rfl), fin _ _ _ ?_ (gp _ _) (by rcases hop with rfl | rfl <;> rfl)⟩
    · refine hu _ _ _ ?_; cases p <;> (rw [Op.equalIn]; simp only [Sem.run_bind, und_run ht, Result.andThen_ok, Sem.run_pure, Option.isNone_none, Option.isNone_some])
    · refine hu _ _ _ ?_; cases p <;> (rw [Op.equalIn]; simp only [Sem.run_bind, und_run ht, Result.andThen_ok, Sem.run_pure, Option.isNone_none, Option.isNone_some])
  · have ⟨e, hde⟩ : ∃ e, d = .slice e := by cases d <;> simp [descKind] at hd; exact ⟨_, rfl⟩
    subst hde
    have ⟨p, n', c', hxp, hpv⟩ : ∃ p n' c', x = .slice p n' c' ∧ p.isNone = v := by
      cases hx <;> simp only [isNil] at h <;> first | (cases h; done) | (cases h; exact ⟨_, _, _, rfl, rfl⟩) | skip
      case sl => split at h <;> cases h; exact ⟨_, _, _, rfl, rfl⟩
      case sle id st off ex a h1 =>
        split at h
        · rename_i hc
          cases h
          simp only [Nat.lt_irrefl, decide_false, Bool.or_false] at hc
          have := h1 hc
          refine ⟨_, _, _, rfl, ?_⟩
          cases a with
          | none => cases this
          | some p => rfl
        · cases h
      case ro => split at h <;> cases h; exact ⟨_, _, _, rfl, rfl⟩
    subst hxp; subst hpv
    refine ⟨fin _ _ _ ?_ (gs _ _ _ _) (by rcases hop with rfl | rfl <;> rfl), fin _ _ _ ?_ (gs _ _ _ _) (by rcases hop with rfl | rfl <;> rfl)⟩
    · refine hu _ _ _ ?_; cases p <;> (rw [Op.equalIn]; simp only [Sem.run_bind, und_run ht, Result.andThen_ok, Sem.run_pure, Option.isNone_none, Option.isNone_some])
    · refine hu _ _ _ ?_; cases p <;> (rw [Op.equalIn]; simp only [Sem.run_bind, und_run ht, Result.andThen_ok, Sem.run_pure, Option.isNone_none, Option.isNone_some])
  · have ⟨e, e', hde⟩ : ∃ e e', d = .map e e' := by cases d <;> simp [descKind] at hd; exact ⟨_, _, rfl⟩
    subst hde
    have ⟨p, hxp, hpv⟩ : ∃ p, x = .map p ∧ p.isNone = v := by
      cases hx <;> simp only [isNil] at h <;> first | (cases h; done) | (cases h; exact ⟨_, rfl, rfl⟩)
    subst hxp; subst hpv
    refine ⟨fin _ _ _ ?_ (gm _ _) (by rcases hop with rfl | rfl <;> rfl), fin _ _ _ ?_ (gm _ _) (by rcases hop with rfl | rfl <;> rfl)⟩
    · refine hu _ _ _ ?_; cases p <;> (rw [Op.equalIn]; simp only [Sem.run_bind, und_run ht, Result.andThen_ok, Sem.run_pure, Option.isNone_none, Option.isNone_some])
    · refine hu _ _ _ ?_; cases p <;> (rw [Op.equalIn]; simp only [Sem.run_bind, und_run ht, Result.andThen_ok, Sem.run_pure, Option.isNone_none, Option.isNone_some])
  · have ⟨e, e', e'', hde⟩ : ∃ e e' e'', d = .func e e' e'' := by cases d <;> simp [descKind] at hd; exact ⟨_, _, _, rfl⟩
    subst hde
    have hxp : (x = .nilFunc ∧ v = true) ∨ ((∃ f a b, x = .func f a b) ∧ v = false) := by
      cases hx <;> simp only [isNil] at h <;> first | (cases h; done) | (cases h; exact .inl ⟨rfl, rfl⟩) | (cases h; exact .inr ⟨⟨_, _, _, rfl⟩, rfl⟩)
    rcases hxp with ⟨rfl, rfl⟩ | ⟨⟨f, a, b, rfl⟩, rfl⟩
    · exact ⟨fin _ _ _ (hu _ _ _ (by rw [Op.equalIn]; simp only [Sem.run_bind, und_run ht, Result.andThen_ok, Sem.run_pure, Option.isNone_none, Option.isNone_some])) (gn _) (by rcases hop with rfl | rfl <;> rfl), fin _ _ _ (hu _ _ _ (by rw [Op.equalIn]; simp only [Sem.run_bind, und_run ht, Result.andThen_ok, Sem.run_pure, Option.isNone_none, Option.isNone_some])) (gn _) (by rcases hop with rfl | rfl <;> rfl)⟩
    · exact ⟨fin _ _ _ (hu _ _ _ (by rw [Op.equalIn]; simp only [Sem.run_bind, und_run ht, Result.andThen_ok, Sem.run_pure, Option.isNone_none, Option.isNone_some])) (gf _ _ _ _) (by rcases hop with rfl | rfl <;> rfl), fin _ _ _ (hu _ _ _ (by rw [Op.equalIn]; simp only [Sem.run_bind, und_run ht, Result.andThen_ok, Sem.run_pure, Option.isNone_none, Option.isNone_some])) (gn _) (by rcases hop with rfl | rfl <;> rfl)⟩
end
open Go
section
variable {P : Program} {S : Nat → Prop} {m : Emb} {h : List Blk} {w : World} {ρ : Operand → Value} {ev : AO → AV}
theorem eq1_sound {k a b v x y d} (h1 : eq1 k a b = some v) (hx : VRel S m w a x) (hy : VRel S m w b y) {t} (hk : scalar? P t = some k) : (Op.equalIn (d + 1) t x y).run P w = .ok v w := by
 unfold scalar? at hk
 unfold eq1 at h1
 split at h1
 ·cases h1
  split at hk <;> first | (cases hk; done) | skip
  rename_i ht
  rw [vbool hx, vbool hy, run_equalIn_bool' _ _ _ _ _ ht]
 ·split at h1
  ·rename_i hkk
   subst hkk
   cases h1
   split at hk <;> first | (cases hk; done) | skip
   rename_i ht
   rw [vint hx, vint hy, run_equalIn_int _ _ _ _ _ _ _ ht]
  ·cases h1
 ·cases h1
  split at hk <;> first | (cases hk; done) | skip
  rename_i ht
  obtain ⟨s, rfl, rfl⟩ := vstr hx
  obtain ⟨s', rfl, rfl⟩ := vstr hy
  rw [run_equalIn_string _ _ _ _ _ ht, ByteArray.toList_eq, ByteArray.toList_eq, bytesEq_eq]
 ·cases h1
theorem eqL_sound {xs ys : Array Value} {d : Nat} : ∀ (fs : List Field) (i : Nat) (ks : List Nat) (a b : List AV) (v : Bool), flatL P fs i = some ks → eqL ks a b = some v →
  LRel S m w a (xs.toList.drop i) → LRel S m w b (ys.toList.drop i) → (Op.eqFields (d + 1) xs ys fs).run P w = .ok v w
 | [], i, ks, a, b, v, hf, he, ha, hb => by
  cases hf
  unfold eqL at he
  split at he
  ·cases he; simp [Op.eqFields]
  ·rename_i h1; cases h1
  ·cases he
 | f :: r, i, ks, a, b, v, hf, he, ha, hb => by
  rw [flatL] at hf
  split at hf
  ·rename_i k l hk hl
   split at hf
   ·rename_i hc
    cases hf
    simp only [Bool.and_eq_true, beq_iff_eq, bne_iff_ne, ne_eq] at hc
    obtain ⟨⟨ho, hn⟩, hz⟩ := hc
    cases a with
    | nil => simp [eqL] at he
    | cons a0 a1 =>
     cases b with
     | nil => simp [eqL] at he
     | cons b0 b1 =>
      obtain ⟨x, xr, hx, hx1, hx2⟩ := ha.head
      obtain ⟨y, yr, hy, hy1, hy2⟩ := hb.head
      have hxd : xs[i]? = some x := by rw [← Array.getElem?_toList, ← List.head?_drop, hx]; rfl
      have hyd : ys[i]? = some y := by rw [← Array.getElem?_toList, ← List.head?_drop, hy]; rfl
      have hxr : xr = xs.toList.drop (i + 1) := by rw [← List.tail_drop, hx]; rfl
      have hyr : yr = ys.toList.drop (i + 1) := by rw [← List.tail_drop, hy]; rfl
      have hvar : (isAgg f.type).run P w = .ok false w := by
       unfold scalar? at hk
       unfold isAgg
       split at hk <;> first | (cases hk; done) | (rename_i ht; simp [und_run ht])
      have hp : ∀ z : Array Value, ∀ q, z[i]? = some q → (part f.type z f.offset).run P w = .ok q w := by
       intro z q hq
       unfold part
       simp only [Sem.run_bind, hvar, Result.andThen_ok, Bool.false_eq_true, if_false, ho, hq]
       rfl
      rw [Op.eqFields]
      simp only [Sem.run_bind, Sem.run_ite, ne_eq, hn, not_false_eq_true, if_true, hp _ _ hxd, hp _ _ hyd, Result.andThen_ok]
      rw [eqL] at he
      split at he
      ·rename_i h1
       rw [eq1_sound h1 hx1 hy1 hk]
       simp only [Result.andThen_ok, Bool.not_true, Bool.false_eq_true, if_false]
       exact eqL_sound r (i + 1) l a1 b1 v hl he (hxr ▸ hx2) (hyr ▸ hy2)
      ·rename_i h1
       cases he
       rw [eq1_sound h1 hx1 hy1 hk]
       simp
      ·cases he
   ·cases hf
  ·cases hf
theorem toBytes_sound : ∀ (cs : List AV) (vs : List Value) (l : List UInt8), toBytes cs = some l → LRel S m w cs vs → ∀ s : ByteArray,
  (forIn (m := Sem) vs s fun c s => match c with | .int .u8 n => pure (.yield (s.push (UInt8.ofNat n.toNat))) | _ => do stuck "bytesToString: byte expected"; pure (.yield s)).run P w = .ok (⟨(s.data.toList ++ l).toArray⟩ : ByteArray) w
 | [], vs, l, hb, hL, s => by
  cases hb
  rw [hL.nil_r]
  simp
 | c :: r, vs, l, hb, hL, s => by
  obtain ⟨x, xr, rfl, h1, h2⟩ := hL.head
  cases c <;> try (simp [toBytes] at hb; done)
  rename_i k n
  cases k <;> try (simp [toBytes] at hb; done)
  simp only [toBytes, Option.map_eq_some_iff] at hb
  obtain ⟨l', hl, rfl⟩ := hb
  rw [vint h1]
  simp only [List.forIn_cons, Sem.run_bind, Sem.run_pure, Result.andThen_ok]
  rw [toBytes_sound r xr l' hl h2]
  simp [ByteArray.push]
theorem scalar_desc {t kk d} (hk : scalar? P t = some kk) (hd : P.underlying t = some d) : (kk = 0 ∧ d = .bool) ∨ (kk = 1 ∧ ∃ k, d = .int k) ∨ (kk = 2 ∧ d = .string) := by
 unfold scalar? at hk
 rw [hd] at hk
 split at hk <;> cases hk <;> (rename_i h; cases h; simp)
theorem findK_sound {kk : Nat} {k : AV} {x : Value} {t : TypeId} {d : TypeDesc} (hd : P.underlying t = some d) (hk : scalar? P t = some kk) (hx : VRel S m w k x) (hkey : isKey kk k = true) :
  ∀ (es : List (AV × AV)) (en : List MapEntry) (i : Nat) (res), findK kk k es i = some res → LRel S m w (es.map (·.1)) (en.map (·.key)) → LRel S m w (es.map (·.2)) (en.map (·.val)) →
   match res with
   | none => Instr.findNow d x en i = some none
   | some (j, v) => i ≤ j ∧ ∃ e ev', en[j - i]? = some e ∧ es[j - i]? = some (ev', v) ∧ eq1 kk k ev' = some true ∧ Instr.findNow d x en i = some (some (j, e.val)) ∧ VRel S m w v e.val
 | [], en, i, res, hf, h1, h2 => by
  cases hf
  have : en = [] := by have := h1.1; simp at this; exact List.eq_nil_of_length_eq_zero this.symm
  subst this
  rfl
 | e :: r, en, i, res, hf, h1, h2 => by
  cases en with
  | nil => have := h1.1; simp at this
  | cons e' r' =>
   obtain ⟨_, _, hh1, h3, h4⟩ := h1.head
   obtain ⟨_, _, hh2, h5, h6⟩ := h2.head
   simp only [List.map_cons, List.cons.injEq] at hh1 hh2
   obtain ⟨hh3, hh4⟩ := hh1
   obtain ⟨hh5, hh6⟩ := hh2
   subst hh3; subst hh4; subst hh5; subst hh6
   have key : ∀ b, eq1 kk k e.1 = some b → Instr.sameNow d x e'.key = some b := by
    intro b hb
    have h3' : VRel S m w e.1 e'.key := h3
    generalize e.1 = q at hb h3'
    generalize e'.key = y at h3'
    have hs := scalar_desc hk hd
    unfold eq1 at hb
    split at hb
    ·cases hb
     rcases hs with ⟨_, rfl⟩ | ⟨h0, _⟩ | ⟨h0, _⟩ <;> first | (cases h0; done) | skip
     rw [vbool hx, vbool h3']; rfl
    ·split at hb
     ·rename_i hkk
      cases hb
      subst hkk
      rcases hs with ⟨h0, _⟩ | ⟨_, k, rfl⟩ | ⟨h0, _⟩ <;> first | (cases h0; done) | skip
      rw [vint hx, vint h3']
      simp [Instr.sameNow]
     ·cases hb
    ·cases hb
     rcases hs with ⟨h0, _⟩ | ⟨h0, _⟩ | ⟨_, rfl⟩ <;> first | (cases h0; done) | skip
     obtain ⟨s, rfl, rfl⟩ := vstr hx
     obtain ⟨s', rfl, rfl⟩ := vstr h3'
     rw [bytesEq_eq]
     simp only [Instr.sameNow, beq_toListBytes, ByteArray.toList_eq]
    ·cases hb
   rw [findK] at hf
   split at hf
   ·rename_i hb
    cases hf
    exact ⟨Nat.le_refl _, e', e.1, by simp, by simp, hb, by rw [Instr.findNow, key _ hb], h5⟩
   ·rename_i hb
    have ih := findK_sound hd hk hx hkey r r' (i + 1) res hf h4 h6
    cases res with
    | none => simp only at ih ⊢; rw [Instr.findNow, key _ hb]; exact ih
    | some jv =>
     obtain ⟨j, v⟩ := jv
     obtain ⟨hle, e2, ev2, h7, h8, h9, h10, h11⟩ := ih
     refine ⟨by omega, e2, ev2, ?_, ?_, h9, by rw [Instr.findNow, key _ hb]; exact h10, h11⟩
     ·rw [show j - i = (j - (i + 1)) + 1 by omega]; simpa using h7
     ·rw [show j - i = (j - (i + 1)) + 1 by omega]; simpa using h8
   ·cases hf
end
end Go.Proofs.YtenpjpldjmoefaaGreat.AM
