/-
  THE ABSTRACT MACHINE: a function's code, brought into its form ('compFn'): types become numbers of cells.
-/
import Derived.Test.YtlogcjaigjcmiaaGreatAmA
import Derived.Test.YtlogcjaigjcmiaaGreatDrawn
set_option linter.unusedVariables false
namespace Go.Proofs.YtlogcjaigjcmiaaGreat.AM
open Go Go.Proofs.YtlogcjaigjcmiaaGreatW.PrintWords Go.Proofs.YtlogcjaigjcmiaaGreatW.PrintLast

def ofV1 : Value → Option AV
  | .bool b => some (.bool b)
  | .int k n => some (.int k n)
  | .string s => some (.str s.data.toList)
  | .pointer none => some .nilp
  | .slice none 0 0 => some .nils
  | .map none => some .nilm
  | .nilFunc => some .nilf
  | .func (.func f) first cap => if first.isEmpty && cap.isEmpty then some (.fn (.func f) [] []) else none
  | _ => none
def ofVL : List Value → Option (List AV)
  | [] => some []
  | v :: r => match ofV1 v, ofVL r with
    | some x, some l => some (x :: l)
    | _, _ => none
def ofV : Value → Option AV
  | .agg cs => (ofVL cs.toList).map .agg
  | .tuple cs => if cs.isEmpty then some (.tup []) else none
  | v => ofV1 v
def compO : Operand → Option AO
  | .tmp t => some (.t t)
  | .const v => (ofV v).map .c
  | .func f => some (.c (.fn (.func f) [] []))
  | .global _ => none
def compL {α β : Type} (f : α → Option β) : List α → Option (List β)
  | [] => some []
  | x :: r => match f x, compL f r with
    | some y, some l => some (y :: l)
    | _, _ => none
def compOpt : Option Operand → Option (Option AO)
  | none => some none
  | some x => (compO x).map some

section
variable (P : Program)
def size? (t : TypeId) : Option Nat := (P.info? t).map (·.size)
def zero? (t : TypeId) : Option (List AV) := ((P.info? t).bind (·.zero)).bind fun v => (ofV v).map AV.cells
def isAgg? (t : TypeId) : Option Bool := (P.underlying t).map fun | .struct _ | .array _ _ => true | _ => false
/-- How a variable of the type is read: one cell, or so many. -/
def var? (t : TypeId) : Option (Option Nat) :=
  match isAgg? P t, size? P t with
  | some true, some n => if n = 0 then none else some (some n)
  | some false, some 1 => some none
  | _, _ => none
/-- Cells of an element type: at least one, its zero cells. -/
def elem? (t : TypeId) : Option (Nat × List AV × Nat) :=
  match P.info? t, zero? P t with
  | some i, some z => if i.size = z.length && z.all AV.one && decide (0 < i.size) && decide (0 < i.bytes) then some (i.size, z, i.bytes) else none
  | _, _ => none
def scalar? (t : TypeId) : Option Nat := match P.underlying t with | some .bool => some 0 | some (.int _) => some 1 | some .string => some 2 | _ => none
def flatL : List Field → Nat → Option (List Nat)
  | [], _ => some []
  | f :: r, i => match scalar? P f.type, flatL r (i + 1) with
    | some k, some l => if f.offset == i && f.name != "_" && size? P f.type == some 1 then some (k :: l) else none
    | _, _ => none
/-- A struct of scalars alone, each of a cell. -/
def flat? (t : TypeId) : Option (List Nat) :=
  match P.underlying t with
  | some (.struct fs) => if !P.stoodInHeld t && !P.eqGuardType P.depth t then flatL P fs.toList 0 else none
  | _ => none
def part? (t : TypeId) (field : Nat) : Option (Field × Option Nat) :=
  match P.underlying t with
  | some (.struct fs) => match fs[field]? with
    | some f => (var? P f.type).map fun n => (f, n)
    | none => none
  | _ => none
def nilKind : Operand → Option Nat
  | .const (.pointer none) => some 0
  | .const (.slice none _ _) => some 1
  | .const (.map none) => some 2
  | .const .nilFunc => some 3
  | _ => none
def descKind : TypeDesc → Option Nat
  | .pointer _ => some 0
  | .slice _ => some 1
  | .map _ _ => some 2
  | .func .. => some 3
  | _ => none
def compBin (op : BinOp) (t : TypeId) (x y : Operand) : Option AOp :=
  if op = .eql || op = .neq then
    match P.underlying t with
    | some (.int _) | some .string => match compO x, compO y with | some a, some b => some (.bin op a b) | _, _ => none
    | some .bool => match compO x, compO y with | some a, some b => some (.beq (op = .neq) a b) | _, _ => none
    | some (.struct _) => match flat? P t, compO x, compO y with | some n, some a, some b => some (.eqS (op = .neq) n a b) | _, _, _ => none
    | some d => match descKind d with
      | some kd => if nilKind y = some kd then (compO x).map (.isNil kd (op = .neq)) else if nilKind x = some kd then (compO y).map (.isNil kd (op = .neq)) else none
      | none => none
    | none => none
  else match P.underlying t with
    | some (.int _) | some .string => match compO x, compO y with | some a, some b => some (.bin op a b) | _, _ => none
    | _ => none
def compOp (o : Oper) : Option AOp :=
  match o.op with
  | .move x | .assign x => (compO x).map .mv
  | .pick c a b => match compO c, compO a, compO b with | some c, some a, some b => some (.pick c a b) | _, _, _ => none
  | .alloc t => match elem? P t with | some (_, z, _) => some (.alloc z) | none => none
  | .box t x => match size? P t, compO x with | some n, some x => if n = 0 then none else some (.box x) | _, _ => none
  | .build t ps => match P.underlying t, zero? P t with
    | some (.struct fs), some z => match fs.toList.mapM (fun f => (P.info? f.type).map fun i => (f.offset, i.size)) with
      | some places => (compL (fun (p : Nat × Operand) => match places[p.1]?, compO p.2 with
        | some (off, n), some x => some (off, n, x)
        | _, _ => none) ps.toList).map (.build z)
      | none => none
    | _, _ => none
  | .buildSlice t len ps => match P.underlying t with
    | some (.slice e) => match elem? P e with
      | some (_, z, _) => (compL (fun (p : Nat × Operand) => (compO p.2).map fun x => (p.1, x)) ps.toList).map (.buildSl z len)
      | none => none
    | _ => none
  | .load t a => match var? P t, compO a with | some n, some a => some (.load n a) | _, _ => none
  | .store t a x => match size? P t, compO a, compO x with | some n, some a, some x => if n = 0 then none else some (.store n a x) | _, _, _ => none
  | .nilCheck x => (compO x).map .nilck
  | .binOp op t x y _ => compBin P op t x y
  | .unOp op _ x => if op = .plus then none else (compO x).map (.un op)
  | .convert src dst x => match P.underlying src, P.underlying dst, compO x with
    | some (.int _), some (.int k), some x => some (.conv k x)
    | some .string, some .string, some x => some (.convS x)
    | some .string, some (.slice e), some x => (match P.underlying e with | some (.int .u8) => some (.s2b x) | _ => none)
    | some (.slice e), some .string, some x => (match P.underlying e with | some (.int .u8) => some (.b2s x) | _ => none)
    | _, _, _ => none
  | .makeFunc f first cap => match compL compO first.toList, compL compO cap.toList with | some a, some b => some (.mkfn f a b) | _, _ => none
  | .makeMap t none => some .mkmap
  | .makeSlice t l c => match P.underlying t with
    | some (.slice e) => match elem? P e, compO l, compO c with | some (_, z, b), some l, some c => some (.mksl z b l c) | _, _, _ => none
    | _ => none
  | .slice t x lo hi mx => if mx.isSome && hi.isNone then none else match P.underlying t, compO x, compOpt lo, compOpt hi, compOpt mx with
    | some .string, some x, some lo, some hi, some none => some (.slcS x lo hi)
    | some (.slice e), some x, some lo, some hi, some mx => (match size? P e with | some n => if n = 0 then none else some (.slc n x lo hi mx) | none => none)
    | some (.array n e), some x, some lo, some hi, some mx => (match size? P e with | some st => if st = 0 then none else some (.slcA st n x lo hi mx) | none => none)
    | _, _, _, _, _ => none
  | .fieldAddr t x f => match part? P t f, compO x with | some (f, _), some x => some (.fieldAddr f.offset x) | _, _ => none
  | .field t x f => match part? P t f, compO x with | some (f, n), some x => some (.field n f.offset x) | _, _ => none
  | .indexAddr t x i => match P.underlying t, compO x, compO i with
    | some (.slice e), some x, some i => (match size? P e with | some n => if n = 0 then none else some (.idxAddr n x i) | none => none)
    | some (.array len e), some x, some i => (match size? P e with | some n => if n = 0 then none else some (.idxAddrA n len x i) | none => none)
    | _, _, _ => none
  | .index t x i => match P.underlying t, compO x, compO i with
    | some .string, some x, some i => some (.idxS x i)
    | some (.array len e), some x, some i => (match size? P e, var? P e with | some st, some n => some (.idxA n st len x i) | _, _ => none)
    | _, _, _ => none
  | .lookup t m k ok => match P.underlying t, compO m, compO k with
    | some (.map kt e), some m, some k => (match scalar? P kt, (P.info? e).bind (·.zero) with | some kk, some z => (ofV z).map fun z => .lookup z kk m k ok | _, _ => none)
    | _, _, _ => none
  | .mapUpdate t m k v | .insert t m k v => match P.underlying t, compO m, compO k, compO v with
    | some (.map kt _), some m, some k, some v => (scalar? P kt).map fun kk => .mapUpd kk m k v
    | _, _, _, _ => none
  | .extract x i => (compO x).map fun x => .extract x i
  | .call { callee := .value f, args, .. } => match compO f, compL compO args.toList with | some f, some l => some (.call f l) | _, _ => none
  | .call { callee := .builtin b, args, argTypes } => match b, argTypes.toList, compL compO args.toList with
    | .len, t :: _, some (x :: _) => (match P.underlying t with | some .string => some (.len 0 x) | some (.slice _) => some (.len 1 x) | some (.map _ _) => some (.len 2 x) | _ => none)
    | .append, t :: u :: _, some [s, x] => (match P.underlying t, P.underlying u with
      | some (.slice e), some (.slice _) | some (.slice e), some .string => (match elem? P e with | some (st, _, b) => some (.append st b s x) | none => none)
      | _, _ => none)
    | .copy, t :: _, some [d, s] => (match P.underlying t with
      | some (.slice e) => (match elem? P e with | some (st, _, b) => some (.copy st d s) | none => none)
      | _ => none)
    | .delete, t :: _, some [m, k] => (match P.underlying t with | some (.map kt _) => (scalar? P kt).map fun kk => .del kk m k | _ => none)
    | .max, _, some l => some (.mxmn true l)
    | .min, _, some l => some (.mxmn false l)
    | _, _, _ => none
  | _ => none
def compOper (ops : Array Oper) (o : Oper) : Option AOper :=
  match o.guard with
  | none => some { d := o.dst, o := (compOp P o).getD .bad, g := none }
  | some (j, want) => match (ops[j]?).bind (·.dst) with
    | some d => some { d := o.dst, o := (compOp P o).getD .bad, g := some (d, want) }
    | none => none
def loudAt (l : List AOper) (j : Nat) : Bool := match l[j]? with | some o => o.o.loud | none => false
/-- How many loud ones come ahead of the i-th, by the edges. -/
def ahead (l : List AOper) (B : List Nat) (i : Nat) : Nat := ((List.range l.length).filter fun j => loudAt l j && (B.getD i 0).testBit j).length
/-- How many loud ones stand ahead in the text. -/
def cntL (l : List AOper) (i : Nat) : Nat := ((l.take i).filter fun o => o.o.loud).length
/-- How many loud ones may come ahead of the i-th. -/
def latest (l : List AOper) (B : List Nat) (i : Nat) : Nat := ((List.range l.length).filter fun j => loudAt l j && (B.getD j 0).testBit i).foldl (fun m j => Nat.min m (cntL l j)) (cntL l l.length)
def mark (l : List AOper) (B : List Nat) (i : Nat) (o : AOper) : AOper := { o with k := if o.o.loud then 0 else ahead l B i, e := if o.o.loud then 0 else latest l B i }
def marksK (l : List AOper) (B : List Nat) : List AOper := l.zipIdx.map fun (o, i) => mark l B i o
/-- Those that make or write memory stand in one order. -/
def loudOk (l : List AOper) (B : List Nat) : Bool :=
  (List.range l.length).all fun j => (List.range j).all fun i => !(loudAt l i && loudAt l j) || (B.getD j 0).testBit i
/-- The slots that an operation looks at. -/
def AOper.looks (o : AOper) : List Nat := (match o.g with | none => [] | some (j, _) => [j]) ++ o.o.slots
def hitsD (d : Option Nat) (l : List Nat) : Bool := match d with | none => false | some d => l.contains d
def clash (x y : AOper) : Bool := hitsD x.d y.looks || hitsD y.d x.looks || (x.d.isSome && x.d == y.d)
/-- Operations that look at each other's slots stand in one order. -/
def slotsOk (l : List AOper) (B : List Nat) : Bool :=
  (List.range l.length).all fun j => (List.range j).all fun i => match l[i]?, l[j]? with
    | some x, some y => !clash x y || (B.getD j 0).testBit i
    | _, _ => false
/-- Of those that make or write memory an operation has the first ones ahead. -/
def aheadOk (l : List AOper) (B : List Nat) : Bool :=
  (List.range l.length).all fun i => (List.range l.length).all fun j => (List.range j).all fun k =>
    !(loudAt l j && loudAt l k && (B.getD i 0).testBit j) || (B.getD i 0).testBit k
def orderOk (ops : Array Oper) (B : List Nat) : Bool := waitsOk (rtab .any ops).2 B && baseOk (rtab .any ops).2 (List.range ops.size)
def compReg (ops : Array Oper) (draw : Bool) : Option ACode :=
  match compL (compOper P ops) ops.toList with
  | none => some .bad
  | some l =>
    if draw then
      let B := (Region.before ops).toList
      if orderOk ops B && loudOk l B && slotsOk l B && aheadOk l B then some (.dreg (marksK l B)) else some .bad
    else some (.reg l)
def compC : Code → Option ACode
  | .skip | .label _ => some .skip
  | .region _ ops draw => compReg P ops draw
  | .seq a b => match compC a, compC b with | some a, some b => some (.seq a b) | _, _ => none
  | .cond c a b => match compO c, compC a, compC b with | some c, some a, some b => some (.cond c a b) | _, _, _ => none
  | .block id b => (compC b).map (.block id)
  | .loop b => (compC b).map .loop
  | .exit id => some (.exit id)
  | .ret => some .ret
  | _ => some .bad
def compRes : ResultVar → Option ARes
  | .tmp t => some (.t t)
  | .cell a t => (var? P t).map fun n => .cell a n
def compFn (fn : Func) : Option AFunc :=
  match fn.body with
  | none => none
  | some c => if fn.name == "runtime.NumGoroutine" then none else match compC P c, compL (compRes P) fn.results.toList with
    | some b, some r => some { nt := fn.ntmps, body := b, res := r }
    | _, _ => none
end

/-! To print a function's form. -/
end Go.Proofs.YtlogcjaigjcmiaaGreat.AM
