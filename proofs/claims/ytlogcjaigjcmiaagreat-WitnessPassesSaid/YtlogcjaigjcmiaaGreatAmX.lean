/-
  THE ABSTRACT MACHINE, a form of it that the kernel evaluates quickly ('callX'): the same, operation by operation, in small definitions, with lists read by recursors.
-/
import Derived.Test.YtlogcjaigjcmiaaGreatAmV
set_option linter.unusedVariables false
set_option linter.unusedSimpArgs false
namespace Go.Proofs.YtlogcjaigjcmiaaGreat.AM
open Go

def xp_mv (x : AO) (ev : AO → AV) (h : List Blk) : Option AV := some (ev x)
def xp_pick (c : AO) (a : AO) (b : AO) (ev : AO → AV) (h : List Blk) : Option AV := match ev c with | .bool true => some (ev a) | .bool false => some (ev b) | _ => none
def xp_build (z : List AV) (ps : List (Nat × Nat × AO)) (ev : AO → AV) (h : List Blk) : Option AV :=
    let l := ps.map fun (off, n, x) => (off, (ev x).cells)
    if (ps.all fun (off, n, x) => (ev x).cells.length == n && n != 0) && goodFill z.length l then some (.agg (fillL z l)) else none
def xp_load (n : Option Nat) (a : AO) (ev : AO → AV) (h : List Blk) : Option AV := (rdPtr h (cellsN n) (ev a)).bind (asVar n)
def xp_nilck (x : AO) (ev : AO → AV) (h : List Blk) : Option AV := match ev x with | .ptr id off => some (.ptr id off) | .rop es st i off => some (.rop es st i off) | .fn f a c => (match f with | .func _ => some (.fn f a c) | _ => none) | _ => none
def xp_bin (op : BinOp) (x : AO) (y : AO) (ev : AO → AV) (h : List Blk) : Option AV := abin op (ev x) (ev y)
def xp_beq (neg : Bool) (x : AO) (y : AO) (ev : AO → AV) (h : List Blk) : Option AV := match ev x, ev y with | .bool a, .bool b => some (.bool (if neg then a != b else a == b)) | _, _ => none
def xp_isNil (kd : Nat) (neg : Bool) (x : AO) (ev : AO → AV) (h : List Blk) : Option AV := (isNil kd (ev x)).map fun b => .bool (if neg then !b else b)
def xp_eqS (neg : Bool) (ks : List Nat) (x : AO) (y : AO) (ev : AO → AV) (h : List Blk) : Option AV := match ev x, ev y with
    | .agg a, .agg b => (eqL ks a b).map fun r => .bool (if neg then !r else r)
    | _, _ => none
def xp_un (op : UnOp) (x : AO) (ev : AO → AV) (h : List Blk) : Option AV := match op, ev x with
    | .neg, .int k n => some (.int k (k.wrap (0 - n)))
    | .xor, .int k n => some (.int k (k.wrap (BitVec.ofInt k.bits (if k.signed then -1 else k.max) ^^^ BitVec.ofInt k.bits n).toNat))
    | .not, .bool b => some (.bool !b)
    | _, _ => none
def xp_conv (k : IntKind) (x : AO) (ev : AO → AV) (h : List Blk) : Option AV := match ev x with | .int _ n => some (.int k (k.wrap n)) | _ => none
def xp_convS (x : AO) (ev : AO → AV) (h : List Blk) : Option AV := match ev x with | .str s => some (.str s) | _ => none
def xp_b2s (x : AO) (ev : AO → AV) (h : List Blk) : Option AV := match ev x with
    | .nils => some (.str [])
    | .ro es 1 _ => (toBytes (es.flatMap AV.cells)).map .str
    | .sl id 1 off len _ _ => if len = 0 then some (.str []) else (rdCells h id off len).bind fun cs => (toBytes cs).map .str
    | _ => none
def xp_mkfn (f : Fn) (first : List AO) (cap : List AO) (ev : AO → AV) (h : List Blk) : Option AV := some (.fn f (first.map ev) (cap.map ev))
def xp_slcS (x : AO) (lo : Option AO) (hi : Option AO) (ev : AO → AV) (h : List Blk) : Option AV := match ev x with
    | .str s => (optNat s.length (hi.map ev)).bind fun h => if h ≤ s.length then (optNat 0 (lo.map ev)).bind fun l => if l ≤ h then some (.str ((s.take h).drop l)) else none else none
    | _ => none
def xp_slc (st : Nat) (x : AO) (lo : Option AO) (hi : Option AO) (mx : Option AO) (ev : AO → AV) (h : List Blk) : Option AV := match ev x with
    | .nils => (optNat 0 (mx.map ev)).bind fun m => (optNat 0 (hi.map ev)).bind fun h => (optNat 0 (lo.map ev)).bind fun l => if m = 0 && h = 0 && l = 0 then some .nils else none
    | .sl id st' off len cap ex =>
      if st = st' then
        (optNat cap (mx.map ev)).bind fun m => if m ≤ cap then
          (optNat len (hi.map ev)).bind fun h => if h ≤ m then
            (optNat 0 (lo.map ev)).bind fun l => if l ≤ h then (if mx.isSome && !ex && m - l == 0 then some (.ro [] st true) else some (.sl id st (off + l * st) (h - l) (m - l) (ex || mx.isSome))) else none
          else none
        else none
      else none
    | .ro es st' ex =>
      if st = st' then
        (optNat es.length (hi.map ev)).bind fun h => if h ≤ es.length then
          (match mx.map ev with
           | none => some (ex && h == es.length)
           | some v => (asNat v).bind fun m => if m = h then some true else none).bind fun ex' =>
          (optNat 0 (lo.map ev)).bind fun l => if l ≤ h then some (.ro ((es.take h).drop l) st ex') else none
        else none
      else none
    | _ => none
def xp_slcA (st : Nat) (n : Nat) (x : AO) (lo : Option AO) (hi : Option AO) (mx : Option AO) (ev : AO → AV) (h : List Blk) : Option AV := match ev x with
    | .ptr id off =>
      if hasRow h id (off + n * st) then
      (optNat n (mx.map ev)).bind fun m => if m ≤ n then
        (optNat n (hi.map ev)).bind fun h => if h ≤ m then
          (optNat 0 (lo.map ev)).bind fun l => if l ≤ h then some (.sl id st (off + l * st) (h - l) (m - l) true) else none
        else none
      else none
      else none
    | _ => none
def xp_fieldAddr (off : Nat) (x : AO) (ev : AO → AV) (h : List Blk) : Option AV := match ev x with
    | .ptr id o => some (.ptr id (o + off))
    | .rop es st i o => some (.rop es st i (o + off))
    | _ => none
def xp_field (n : Option Nat) (off : Nat) (x : AO) (ev : AO → AV) (h : List Blk) : Option AV := match ev x with
    | .agg cs => if off + cellsN n ≤ cs.length then asVar n ((cs.drop off).take (cellsN n)) else none
    | _ => none
def xp_idxAddr (st : Nat) (x : AO) (i : AO) (ev : AO → AV) (h : List Blk) : Option AV := match ev x, ev i with
    | .sl id st' off len _ _, .int _ n => if st = st' && decide (0 ≤ n) && decide (n < (len : Int)) then some (.ptr id (off + n.toNat * st)) else none
    | .ro es st' _, .int _ n => if st = st' && decide (0 ≤ n) && decide (n < (es.length : Int)) then some (.rop es st n.toNat 0) else none
    | _, _ => none
def xp_idxAddrA (st : Nat) (len : Nat) (x : AO) (i : AO) (ev : AO → AV) (h : List Blk) : Option AV := match ev x, ev i with
    | .ptr id off, .int _ n => if decide (0 ≤ n) && decide (n < (len : Int)) then some (.ptr id (off + n.toNat * st)) else none
    | .rop es s j off, .int _ n => if decide (0 ≤ n) && decide (n < (len : Int)) then some (.rop es s j (off + n.toNat * st)) else none
    | _, _ => none
def xp_idxS (x : AO) (i : AO) (ev : AO → AV) (h : List Blk) : Option AV := match ev x, ev i with
    | .str s, .int _ n => if 0 ≤ n then (s[n.toNat]?).map fun b => .int .u8 b.toNat else none
    | _, _ => none
def xp_idxA (n : Option Nat) (st : Nat) (len : Nat) (x : AO) (i : AO) (ev : AO → AV) (h : List Blk) : Option AV := match ev x, ev i with
    | .agg cs, .int _ j => if decide (0 ≤ j) && decide (j < (len : Int)) && decide (j.toNat * st + cellsN n ≤ cs.length) then asVar n ((cs.drop (j.toNat * st)).take (cellsN n)) else none
    | _, _ => none
def xp_lookup (z : AV) (kk : Nat) (m : AO) (k : AO) (ok : Bool) (ev : AO → AV) (h : List Blk) : Option AV :=
    let r := if isKey kk (ev k) then match ev m with
      | .nilm => some none
      | .map id => (match h[id]? with | some (.map es) => findK kk (ev k) es 0 | _ => none)
      | _ => none
      else none
    r.map fun
      | some (_, v) => if ok then .tup [v, .bool true] else v
      | none => if ok then .tup [z, .bool false] else z
def xp_extract (x : AO) (i : Nat) (ev : AO → AV) (h : List Blk) : Option AV := match ev x with | .tup vs => vs[i]? | _ => none
def xp_len (kd : Nat) (x : AO) (ev : AO → AV) (h : List Blk) : Option AV := match kd, ev x with
    | 0, .str s => some (.int .i64 s.length)
    | 1, .nils => some (.int .i64 0)
    | 1, .sl _ _ _ len _ _ => some (.int .i64 len)
    | 1, .ro es _ _ => some (.int .i64 es.length)
    | 2, .nilm => some (.int .i64 0)
    | 2, .map id => (match h[id]? with | some (.map es) => some (.int .i64 es.length) | _ => none)
    | _, _ => none
def xp_mxmn (mx : Bool) (args : List AO) (ev : AO → AV) (h : List Blk) : Option AV := match args.map ev with
    | .int k a :: r => r.foldlM (fun acc v => match acc, v with
      | .int k x, .int _ y => some (.int k (if mx then (if y > x then y else x) else (if y < x then y else x)))
      | _, _ => none) (.int k a)
    | _ => none
def xw_alloc (z : List AV) (ev : AO → AV) (h : List Blk) : Option (AV × List Blk × Option Nat) := some (.ptr h.length 0, h ++ [.cells z], none)
def xw_box (x : AO) (ev : AO → AV) (h : List Blk) : Option (AV × List Blk × Option Nat) := some (.ptr h.length 0, h ++ [.cells (ev x).cells], none)
def xw_buildSl (z : List AV) (len : Nat) (ps : List (Nat × AO)) (ev : AO → AV) (h : List Blk) : Option (AV × List Blk × Option Nat) :=
    let l := ps.map fun (i, x) => (i * z.length, (ev x).cells)
    let zs := (List.replicate len z).flatten
    if (ps.all fun (i, x) => (ev x).cells.length == z.length) && goodFill zs.length l && decide (len * z.length ≤ 16777216) then some (.sl h.length z.length 0 len len true, h ++ [.cells (fillL zs l)], none) else none
def xw_store (n : Nat) (a : AO) (x : AO) (ev : AO → AV) (h : List Blk) : Option (AV × List Blk × Option Nat) := match ev a with
    | .ptr id off => if (ev x).cells.length = n then (wrCells h id off (ev x).cells).map fun h' => (.tup [], h', some id) else none
    | _ => none
def xw_s2b (x : AO) (ev : AO → AV) (h : List Blk) : Option (AV × List Blk × Option Nat) := match ev x with
    | .str s => some (.sl h.length 1 0 s.length s.length false, h ++ [.cells (s.map fun b => .int .u8 b.toNat)], none)
    | _ => none
def xw_mkmap  (ev : AO → AV) (h : List Blk) : Option (AV × List Blk × Option Nat) := some (.map h.length, h ++ [.map []], none)
def xw_mksl (z : List AV) (by_ : Nat) (len : AO) (cap : AO) (ev : AO → AV) (h : List Blk) : Option (AV × List Blk × Option Nat) := match ev len, ev cap with
    | .int _ l, .int _ c =>
      if 0 ≤ l && l ≤ c && by_ * c ≤ 140737488355328 && c ≤ 9223372036854775807 then some (.sl h.length z.length 0 l.toNat c.toNat true, h ++ [.cells ((List.replicate c.toNat z).flatten)], none) else none
    | _, _ => none
def xw_mapUpd (kk : Nat) (m : AO) (k : AO) (v : AO) (ev : AO → AV) (h : List Blk) : Option (AV × List Blk × Option Nat) := match ev m with
    | .map id => match h[id]? with
      | some (.map es) => if isKey kk (ev k) then (findK kk (ev k) es 0).map fun
          | some (i, _) => (.tup [], h.set id (.map (es.set i (ev k, ev v))), some id)
          | none => (.tup [], h.set id (.map (es ++ [(ev k, ev v)])), some id)
        else none
      | _ => none
    | _ => none
def xw_del (kk : Nat) (m : AO) (k : AO) (ev : AO → AV) (h : List Blk) : Option (AV × List Blk × Option Nat) := if isKey kk (ev k) then match ev m with
    | .nilm => some (.tup [], h, none)
    | .map id => match h[id]? with
      | some (.map es) => (findK kk (ev k) es 0).map fun
          | some (i, _) => (.tup [], h.set id (.map (es.eraseIdx i)), some id)
          | none => (.tup [], h, none)
      | _ => none
    | _ => none
    else none
def xw_append (st : Nat) (by_ : Nat) (s : AO) (x : AO) (ev : AO → AV) (h : List Blk) : Option (AV × List Blk × Option Nat) :=
    match lenOf (ev x), elems h st (ev x) with
    | some n, some xs =>
      if n = 0 then (match ev s with | .nils | .ro .. | .sl .. => some (ev s, h, none) | _ => none)
      else match ev s with
      | .nils => if n * by_ ≤ 140737488355328 && xs.all AV.one then some (.sl h.length st 0 n n false, h ++ [.cells xs], none) else none
      | .ro es st' true => if st = st' && decide ((es.length + n) * by_ ≤ 140737488355328) && xs.all AV.one then some (.sl h.length st 0 (es.length + n) (es.length + n) false, h ++ [.cells (es.flatMap AV.cells ++ xs)], none) else none
      | .sl id st' off len cap ex =>
        if st = st' && decide ((len + n) * by_ ≤ 140737488355328) && xs.all AV.one then
          if len + n ≤ cap then (wrCells h id (off + len * st) xs).map fun h' => (.sl id st off (len + n) cap ex, h', some id)
          else match elems h st (ev s) with
            | some os => if ex then some (.sl h.length st 0 (len + n) (len + n) false, h ++ [.cells (os ++ xs)], none)
              else if hasRow h id 0 then some (.sl h.length st 0 (len + n) (len + n) false, (h.set id .gone) ++ [.cells (os ++ xs)], some id) else none
            | none => none
        else none
      | _ => none
    | _, _ => none
def xw_copy (st : Nat) (d : AO) (s : AO) (ev : AO → AV) (h : List Blk) : Option (AV × List Blk × Option Nat) :=
    match lenOf (ev d), lenOf (ev s), elems h st (ev s) with
    | some n, some k, some xs =>
      let c := if k ≤ n then k else n
      match ev d with
      | .nils => some (.int .i64 0, h, none)
      | .sl id st' off _ _ _ => if st = st' then (if c = 0 then some (.int .i64 0, h, none) else (wrCells h id off (xs.take (c * st))).map fun h' => (.int .i64 c, h', some id)) else none
      | _ => none
    | _, _, _ => none
def xw_clear (z : List AV) (x : AO) (ev : AO → AV) (h : List Blk) : Option (AV × List Blk × Option Nat) := match ev x with
    | .nils => some (.tup [], h, none)
    | .sl id st off len _ _ => if st = z.length then (if len = 0 then some (.tup [], h, none) else (wrCells h id off ((List.replicate len z).flatten)).map fun h' => (.tup [], h', some id)) else none
    | _ => none
def xw_call (f : AO) (args : List AO) (call : CallF) (ev : AO → AV) (h : List Blk) : Option (AV × List Blk × Option Nat) := match ev f with
    | .fn (.func g) first cap => (call g (first ++ (args.map ev ++ cap)) h).map fun r => (r.1, r.2.1, r.2.2.bind fun l => if l < h.length then some l else none)
    | _ => none
def onlyV (f : (AO → AV) → List Blk → Option AV) (_call : CallF) (ev : AO → AV) (h : List Blk) : Option (AV × List Blk × Option Nat) := match f ev h with | some v => some (v, h, none) | none => none
def noCall (f : (AO → AV) → List Blk → Option (AV × List Blk × Option Nat)) (_call : CallF) : (AO → AV) → List Blk → Option (AV × List Blk × Option Nat) := f
def noOp (_call : CallF) (_ev : AO → AV) (_h : List Blk) : Option (AV × List Blk × Option Nat) := none
/-- One operation of either kind. -/
def anyOp (o : AOp) : CallF → (AO → AV) → List Blk → Option (AV × List Blk × Option Nat) := match o with
  | .mv x => onlyV (xp_mv x)
  | .pick c a b => onlyV (xp_pick c a b)
  | .alloc z => noCall (xw_alloc z)
  | .box x => noCall (xw_box x)
  | .build z ps => onlyV (xp_build z ps)
  | .buildSl z len ps => noCall (xw_buildSl z len ps)
  | .load n a => onlyV (xp_load n a)
  | .store n a x => noCall (xw_store n a x)
  | .nilck x => onlyV (xp_nilck x)
  | .bin op x y => onlyV (xp_bin op x y)
  | .beq neg x y => onlyV (xp_beq neg x y)
  | .isNil kd neg x => onlyV (xp_isNil kd neg x)
  | .eqS neg ks x y => onlyV (xp_eqS neg ks x y)
  | .un op x => onlyV (xp_un op x)
  | .conv k x => onlyV (xp_conv k x)
  | .convS x => onlyV (xp_convS x)
  | .s2b x => noCall (xw_s2b x)
  | .b2s x => onlyV (xp_b2s x)
  | .mkfn f first cap => onlyV (xp_mkfn f first cap)
  | .mkmap => noCall (xw_mkmap)
  | .mksl z by_ len cap => noCall (xw_mksl z by_ len cap)
  | .slcS x lo hi => onlyV (xp_slcS x lo hi)
  | .slc st x lo hi mx => onlyV (xp_slc st x lo hi mx)
  | .slcA st n x lo hi mx => onlyV (xp_slcA st n x lo hi mx)
  | .fieldAddr off x => onlyV (xp_fieldAddr off x)
  | .field n off x => onlyV (xp_field n off x)
  | .idxAddr st x i => onlyV (xp_idxAddr st x i)
  | .idxAddrA st len x i => onlyV (xp_idxAddrA st len x i)
  | .idxS x i => onlyV (xp_idxS x i)
  | .idxA n st len x i => onlyV (xp_idxA n st len x i)
  | .lookup z kk m k ok => onlyV (xp_lookup z kk m k ok)
  | .mapUpd kk m k v => noCall (xw_mapUpd kk m k v)
  | .extract x i => onlyV (xp_extract x i)
  | .call f l => xw_call f l
  | .len kd x => onlyV (xp_len kd x)
  | .append st by_ s x => noCall (xw_append st by_ s x)
  | .copy st d s => noCall (xw_copy st d s)
  | .del kk m k => noCall (xw_del kk m k)
  | .clear z x => noCall (xw_clear z x)
  | .mxmn mx args => onlyV (xp_mxmn mx args)
  | .bad => noOp

theorem anyOp_eq (o : AOp) (call : CallF) (ev : AO → AV) (h : List Blk) : anyOp o call ev h = if o.loud then lOp call ev h o else match pOp ev h o with | some v => some (v, h, none) | none => none := by
  cases o <;> rfl

/-! Slots. -/
noncomputable def getX : List AV → Nat → AV := List.rec (fun _ => .dead) (fun a _ ih n => Nat.rec a (fun n _ => ih n) n)
noncomputable def setX : List AV → Nat → AV → List AV := List.rec (fun _ _ => []) (fun a r ih n v => Nat.rec (v :: r) (fun n _ => a :: ih n v) n)
theorem getX_eq : ∀ (t : List AV) (n : Nat), getX t n = (t[n]?).getD .dead
  | [], n => by cases n <;> rfl
  | a :: r, 0 => rfl
  | a :: r, n + 1 => (getX_eq r n).trans (by rw [List.getElem?_cons_succ])
theorem setX_eq : ∀ (t : List AV) (n : Nat) (v : AV), setX t n v = t.set n v
  | [], n, v => by cases n <;> rfl
  | a :: r, 0, v => rfl
  | a :: r, n + 1, v => congrArg (a :: ·) (setX_eq r n v)
noncomputable def evX (t : List AV) (x : AO) : AV := AO.rec (fun n => getX t n) (fun v => v) x
theorem evX_eq (t : List AV) : evX t = evalO t := by
  funext x
  cases x
  · exact getX_eq t _
  · rfl
noncomputable def putX (t : List AV) (d : Option Nat) (v : AV) : List AV := Option.rec t (fun d => setX t d v) d
theorem putX_eq (t : List AV) (d : Option Nat) (v : AV) : putX t d v = put t d v := by
  cases d
  · rfl
  · exact setX_eq t _ v
def wantT (want : Bool) (v : AV) : Option Bool := match v with
  | .bool b => some (b == want)
  | .tup [] => some false
  | _ => none
noncomputable def wantX (t : List AV) (g : Option (Nat × Bool)) : Option Bool := Option.rec (some true) (fun g => wantT g.2 (getX t g.1)) g
theorem wantX_eq (t : List AV) (g : Option (Nat × Bool)) : wantX t g = wanted t g := by
  cases g with
  | none => rfl
  | some g =>
    obtain ⟨j, want⟩ := g
    show wantT want (getX t j) = _
    rw [getX_eq]
    unfold wanted wantT
    simp only
    cases h : t[j]? with
    | none => rfl
    | some v =>
      simp only [Option.getD_some]
      split
      · simp_all
      · rfl
      · rename_i h1 h2
        split
        · rename_i h3; cases h3; exact absurd rfl (h1 _)
        · rename_i h3; cases h3; exact absurd rfl h2
        · rfl

/-! A region in the order of the text. -/
def goX (ih : St → Option St) (t : List AV → AV → List AV) (s : St) (r : Option (AV × List Blk × Option Nat)) : Option St := match r with
  | some (v, h, l) => ih { t := t s.t v, h := h, lo := omin s.lo l }
  | none => none
noncomputable def stepX (call : CallF) (o : AOper) (ih : St → Option St) (s : St) (w : Option Bool) : Option St := match w with
  | some true => goX ih (fun t v => putX t o.d v) s (anyOp o.o call (evX s.t) s.h)
  | some false => ih { s with t := putX s.t o.d (.tup []) }
  | none => none
noncomputable def runX (call : CallF) : List AOper → St → Option St := List.rec (fun s => some s) (fun o _ ih s => stepX call o ih s (wantX s.t o.g))
theorem omin_none (a : Option Nat) : omin a none = a := by cases a <;> rfl
theorem runX_eq (call : CallF) : ∀ (l : List AOper) (s : St), runX call l s = runOps call l s
  | [], s => rfl
  | o :: l, s => by
    show stepX call o (runX call l) s (wantX s.t o.g) = _
    have ih : runX call l = runOps call l := funext (runX_eq call l)
    rw [ih, wantX_eq, runOps]
    unfold stepX
    cases hw : wanted s.t o.g with
    | none => rfl
    | some b =>
      cases b with
      | false => simp only [putX_eq]
      | true =>
        simp only [anyOp_eq, evX_eq]
        by_cases hl : o.o.loud = true
        · simp only [hl, if_true]
          cases lOp call (evalO s.t) s.h o.o with
          | none => rfl
          | some r => obtain ⟨v, h, lo⟩ := r; simp only [goX, putX_eq]
        · simp only [hl, if_false, Bool.false_eq_true]
          cases pOp (evalO s.t) s.h o.o with
          | none => rfl
          | some v => simp only [goX, putX_eq, omin_none]

/-! Code. -/
abbrev RX := Option (AExit × St)
def cSkip (_ : CallF) (_ : ACode → St → RX) (s : St) : RX := some (.normal, s)
def normX (s : Option St) : RX := match s with | some s => some (.normal, s) | none => none
noncomputable def cReg (ops : List AOper) (call : CallF) (_ : ACode → St → RX) (s : St) : RX := normX (runX call ops s)
def cDreg (ops : List AOper) (call : CallF) (_ : ACode → St → RX) (s : St) : RX := (runDraw call ops s [s.h]).map fun s => (.normal, s.1)
def thenX (ih : ACode → St → RX) (b : ACode) (r : RX) : RX := match r with
  | some (.normal, s) => ih b s
  | r => r
def cSeq (a b : ACode) (_ : CallF) (ih : ACode → St → RX) (s : St) : RX := thenX ih b (ih a s)
def condX (ih : ACode → St → RX) (a b : ACode) (s : St) (v : AV) : RX := match v with
  | .bool true => ih a s
  | .bool false => ih b s
  | _ => none
noncomputable def cCond (c : AO) (a b : ACode) (_ : CallF) (ih : ACode → St → RX) (s : St) : RX := condX ih a b s (evX s.t c)
def blockX (id : Nat) (r : RX) : RX := match r with
  | some (.exit i, s) => some (if i = id then .normal else .exit i, s)
  | r => r
def cBlock (id : Nat) (b : ACode) (_ : CallF) (ih : ACode → St → RX) (s : St) : RX := blockX id (ih b s)
def cLoop (b : ACode) (_ : CallF) (ih : ACode → St → RX) (s : St) : RX := thenX ih (.loop b) (ih b s)
def cExit (i : Nat) (_ : CallF) (_ : ACode → St → RX) (s : St) : RX := some (.exit i, s)
def cRet (_ : CallF) (_ : ACode → St → RX) (s : St) : RX := some (.ret, s)
def cBad (_ : CallF) (_ : ACode → St → RX) (_ : St) : RX := none
noncomputable def codeX (c : ACode) : CallF → (ACode → St → RX) → St → RX := match c with
  | .skip => cSkip
  | .reg ops => cReg ops
  | .dreg ops => cDreg ops
  | .seq a b => cSeq a b
  | .cond c a b => cCond c a b
  | .block id b => cBlock id b
  | .loop b => cLoop b
  | .exit i => cExit i
  | .ret => cRet
  | .bad => cBad
noncomputable def execX (call : CallF) (n : Nat) : ACode → St → RX := Nat.rec (fun _ _ => none) (fun _ ih c s => codeX c call ih s) n
theorem execX_eq (call : CallF) : ∀ (n : Nat) (c : ACode) (s : St), execX call n c s = exec call n c s
  | 0, c, s => by rw [exec]; rfl
  | n + 1, c, s => by
    show codeX c call (execX call n) s = _
    have ih : execX call n = exec call n := by funext c s; exact execX_eq call n c s
    rw [ih]
    cases c <;> rw [exec] <;> try rfl
    case reg ops =>
      simp only [codeX, cReg, runX_eq]
      cases runOps call ops s <;> rfl
    case cond c a b =>
      simp only [codeX, cCond, evX_eq]
      rfl

/-! Calls. -/
noncomputable def resX (s : St) (r : ARes) : Option AV := match r with
  | .t n => some (getX s.t n)
  | .cell a n => (rdPtr s.h (cellsN n) (getX s.t a)).bind (asVar n)
theorem resX_eq (s : St) (r : ARes) : resX s r = resOf s r := by cases r <;> simp only [resX, resOf, getX_eq]
noncomputable def resAllX (s : St) : List ARes → Option (List AV)
  | [] => some []
  | r :: l => match resX s r, resAllX s l with
    | some v, some vs => some (v :: vs)
    | _, _ => none
theorem resAllX_eq (s : St) : ∀ l, resAllX s l = resAll s l
  | [] => rfl
  | r :: l => by rw [resAllX, resAll, resX_eq, resAllX_eq s l]; rfl
noncomputable def endX (af : AFunc) (r : RX) : Option (AV × List Blk × Option Nat) := match r with
  | some (.exit _, _) => none
  | some (_, s) => (resAllX s af.res).map fun vs => (packRes vs, s.h, s.lo)
  | none => none
section
variable (Γ : FuncId → Option (List AV → List Blk → Option (AV × List Blk × Option Nat))) (tbl : FuncId → Option AFunc)
noncomputable def bodyX (call : CallF) (n : Nat) (args : List AV) (h : List Blk) (af : Option AFunc) : Option (AV × List Blk × Option Nat) := match af with
  | some af => bif Nat.ble args.length af.nt then endX af (execX call n af.body { t := args ++ List.replicate (af.nt - args.length) (.tup []), h := h }) else none
  | none => none
noncomputable def byX (call : CallF) (n : Nat) (f : FuncId) (args : List AV) (h : List Blk) (g : Option (List AV → List Blk → Option (AV × List Blk × Option Nat))) : Option (AV × List Blk × Option Nat) := match g with
  | some g => g args h
  | none => bodyX call n args h (tbl f)
noncomputable def callX (n : Nat) : CallF := Nat.rec (fun _ _ _ => none) (fun n ih f args h => byX tbl ih n f args h (Γ f)) n
theorem callX_eq : ∀ n, callX Γ tbl n = callF Γ tbl n
  | 0 => by funext f a h; rw [callF]; rfl
  | n + 1 => by
    funext f args h
    show byX tbl (callX Γ tbl n) n f args h (Γ f) = _
    rw [callX_eq n, callF]
    unfold byX
    cases Γ f with
    | some g => rfl
    | none =>
      simp only [bodyX]
      cases tbl f with
      | none => rfl
      | some af =>
        simp only [execX_eq]
        by_cases hl : args.length ≤ af.nt
        · rw [if_pos hl, Nat.ble_eq_true_of_le hl]
          simp only [cond_true]
          cases exec (callF Γ tbl n) n af.body { t := args ++ List.replicate (af.nt - args.length) (.tup []), h := h } with
          | none => rfl
          | some r =>
            obtain ⟨e, s⟩ := r
            cases e <;> simp only [endX, resAllX_eq]
        · rw [if_neg hl]
          have : Nat.ble args.length af.nt = false := by
            cases hb : Nat.ble args.length af.nt with
            | false => rfl
            | true => exact absurd (Nat.le_of_ble_eq_true hb) hl
          rw [this]
          rfl
end
end Go.Proofs.YtlogcjaigjcmiaaGreat.AM
