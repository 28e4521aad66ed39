/-
  'gauger's law ChainExact holds of every input: it returns true, and each argument reads behind the call as it read before.
  This text: part 9 of 14 of the proof (ChD, ChE, ChF, ChG).
-/
import Derived.Test.YtlhbfikfnecknaaMah
import Derived.Test.YtlhbfikfnecknaaMaf
set_option linter.unusedVariables false
set_option linter.unusedSimpArgs false
set_option maxRecDepth 100000
set_option maxHeartbeats 4000000
namespace Go.Proofs.Ytlhbfikfnecknaa.AM.Ch
open Go
abbrev nil0 : List Blk := []
abbrev encS (s : Stm) : AV := .agg (enS s)
def LIs (v : AV) (l : List Stm) : Prop := (v = .nils ∧ l = []) ∨ ∃ ex, v = .ro (l.map encS) 12 ex
theorem hangs_st {pre : List Stm} {s : Stm} (h : hangsB pre s = true) : lastOf pre < s.st := by
 unfold hangsB at h
 by_cases hs : s.st ≤ lastOf pre
 ·rw [if_pos hs] at h; cases h
 ·omega
theorem wrongB_cons (pre : List Stm) (s : Stm) (l : List Stm) (i : Nat) : wrongB pre (s :: l) i = if hangsB pre s = true then wrongB (pre ++ [s]) l (i + 1) else (i : Int) := by rw [wrongB]
section
variable {Γ : FuncId → Option GF} (u : Un Γ)
include u
omit u in
theorem len_ro {α : Type} (l : List α) (g : α → AV) (st : Nat) (ex : Bool) (H : List Blk) : pOp evC H (.len 1 (.c (.ro (l.map g) st ex))) = some (.int .i64 (l.length : Int)) := by
 simp [pOp, evC]
omit u in
theorem oneS {s : Stm} (h : One s.r) : (AV.agg (enS s)).cells.all AV.one = true := by
 show (AV.int .i64 s.st :: enR s.r).all AV.one = true
 rw [List.all_cons, h.all]
 rfl
theorem wrong_cl (h8 : Γ 8 = none) {v : AV} {l : List Stm} (hM : ∀ i, i < l.length → MarkAt Γ (l.take i)) (hv : LIs v l) (hone : ∀ s ∈ l, One s.r ∧ s.r.op.length ≤ 1000) (hlen : l.length ≤ 1000) : ∃ H' lo, Cl Γ T 8 [v] [] (.int .i64 (wrongB [] l 0), H', lo) := by
 rcases hv with ⟨rfl, rfl⟩ | ⟨ex, rfl⟩
 ·have hx : ∃ lo, Cl Γ T 8 [.nils] [] (.int .i64 (-1), (ap (apm nil0) [(.int .i64 0), (.map (List.length nil0))]), lo) := clP (af := a8) [.w (.map (List.length nil0)) (apm nil0) none, .w (.ptr (List.length (apm nil0)) 0) (ap (apm nil0) [(.int .i64 0), (.map (List.length nil0))]) none, .b false] [wOp evC nil0 .mkmap = some ((.map (List.length nil0)), (apm nil0), none), wOp evC (apm nil0) (.box (.c (.agg [(.int .i64 0), (.map (List.length nil0))]))) = some ((.ptr (List.length (apm nil0)) 0), (ap (apm nil0) [(.int .i64 0), (.map (List.length nil0))]), none), cB (decide (0 < 0)) false] h8 (by kernel_rfl) (by kernel_rfl) (by kernel_rfl) ⟨rfl, rfl, rfl, trivial⟩
  obtain ⟨lo, hx⟩ := hx
  exact ⟨_, lo, hx⟩
 have hb := clB (Γ := Γ) (tbl := T) (f := 8) (af := a8) (args := [.ro (l.map encS) 12 ex]) (h := []) h8 (by kernel_rfl) (by kernel_rfl) (fun r h' => r = .int .i64 (wrongB [] l 0)) ?_
 ·obtain ⟨r, h', lo, rfl, h2⟩ := hb
  exact ⟨h', lo, h2⟩
 have fin : ∀ (t : List AV) (G : List Blk) (lo : Option Nat), getX t 2 = .int .i64 (wrongB [] l 0) → (∀ i, AExit.ret ≠ .exit i) ∧ ∃ vs, resAll { t := t, h := G, lo := lo } a8.res = some vs ∧ packRes vs = .int .i64 (wrongB [] l 0) := fun t G lo h => by
  refine ⟨(fun i hi => by cases hi), [.int .i64 (wrongB [] l 0)], ?_, rfl⟩
  rw [getX_eq] at h
  simp [a8, resAll, resOf, h]
 refine Wp.seq ((path4 (nt := 25) (live := [(0, (.ro (l.map encS) 12 ex))]) [] [0] (e := .normal) (vals := [(.ro (l.map encS) 12 ex)]) (h' := nil0) [] ⟨by simp [a8], by simp [getX_eq]⟩ (fun t0 => by kernel_rfl) trivial).mono ?_)
 rintro e s ⟨rfl, t0, lo0, rfl, hl0⟩
 refine Wp.seq ((path4 (nt := 25) [.w (.map (List.length nil0)) (apm nil0) none, .w (.ptr (List.length (apm nil0)) 0) (ap (apm nil0) [(.int .i64 0), (.map (List.length nil0))]) none] [0, 3] (e := .normal) (vals := [(.ro (l.map encS) 12 ex), (.ptr (List.length (apm nil0)) 0)]) (h' := (ap (apm nil0) [(.int .i64 0), (.map (List.length nil0))])) [wOp evC nil0 .mkmap = some ((.map (List.length nil0)), (apm nil0), none), wOp evC (apm nil0) (.box (.c (.agg [(.int .i64 0), (.map (List.length nil0))]))) = some ((.ptr (List.length (apm nil0)) 0), (ap (apm nil0) [(.int .i64 0), (.map (List.length nil0))]), none)] hl0 (fun t0 => by kernel_rfl) ⟨rfl, rfl, trivial⟩).mono ?_)
 rintro e s ⟨rfl, t1, lo1, rfl, hl1⟩
 refine Wp.seq (Wp.seq ((path4 (nt := 25) [.g (.int .i64 (l.length : Int))] [0, 3, 9, 10, 11] (e := .normal) (vals := [(.ro (l.map encS) 12 ex), (.ptr (List.length (apm nil0)) 0), (.ro (l.map encS) 12 ex), (.int .i64 (l.length : Int)), (.int .i64 0)]) (h' := (ap (apm nil0) [(.int .i64 0), (.map (List.length nil0))])) [pOp evC (ap (apm nil0) [(.int .i64 0), (.map (List.length nil0))]) (.len 1 (.c (.ro (l.map encS) 12 ex))) = some (.int .i64 (l.length : Int))] hl1 (fun t0 => by kernel_rfl) ⟨(len_ro l _ 12 ex _), trivial⟩).mono ?_))
 rintro e s ⟨rfl, t2, lo2, rfl, hl2⟩
 refine Wp.block ?_
 have hL0 : LookAt (ap (apm nil0) [(.int .i64 0), (.map (List.length nil0))]) (apm nil0).length 0 (lastOf []) [] [] := ⟨rfl, rfl, (fun e he => by cases he), (fun e he => by cases he), (fun e he => by cases he), (fun e he => by cases he), (fun s hs => by cases hs)⟩
 have hG0 := GoodP.nil
 generalize (apm nil0).length = a at hl2 hL0
 refine Wp.loop (fun k s => ∃ (i : Nat) (t : List AV) (G : List Blk) (lo : Option Nat) (es : List E), s = { t := t, h := G, lo := lo } ∧ k = l.length - i ∧ i ≤ l.length ∧ Lv 25 [(0, (.ro (l.map encS) 12 ex)), (3, (.ptr a 0)), (9, (.ro (l.map encS) 12 ex)), (10, (.int .i64 (l.length : Int))), (11, (.int .i64 (i : Int)))] t ∧ LookAt G a 0 (lastOf (l.take i)) (l.take i) es ∧ GoodP (l.take i) ∧ wrongB [] l 0 = wrongB (l.take i) (l.drop i) i) ?_ l.length _ ⟨0, t2, _, lo2, [], rfl, rfl, by omega, hl2, hL0, hG0, rfl⟩
 rintro k s ⟨i, t, G, lo, es, rfl, rfl, hile, hl, hL, hG, hw⟩
 by_cases hlt : i < l.length
 ·have hi : (i : Int) < (l.length : Int) := by omega
  have hg := List.getElem?_eq_getElem hlt
  have hm : l[i] ∈ l := List.getElem_mem hlt
  have htk : l.take (i + 1) = l.take i ++ [l[i]] := by rw [List.take_add_one, hg]; rfl
  rw [List.drop_eq_getElem_cons hlt, wrongB_cons] at hw
  have hget : (l.map encS)[(i : Int).toNat]? = some (.agg (enS l[i])) := by rw [Int.toNat_natCast, List.getElem?_map, hg]; rfl
  generalize l[i] = s at hw hget hm htk
  obtain ⟨hr, hop⟩ := hone s hm
  have hs1 := oneS hr
  obtain ⟨G2, lo2, es2, hc2, hl2, hf2⟩ := hangs_cl u (hM i hlt) (hL.up (Up.app G (.cells (enS s)))) hG hr hop
  have fb2 := hf2.2 G.length _ (by have := glt hL.hm; omega) (gl (H := G) (b := .cells (enS s)))
  cases hh : hangsB (l.take i) s with
  | false =>
   rw [hh] at hc2
   rw [hh, if_neg (by decide)] at hw
   refine (path4 (nt := 25) [.b true, .v (.agg (enS s)), .w (.ptr (List.length G) 0) (ap G [(.int .i64 0), (.int .i64 0), (.int .i64 0), (.int .i64 0), (.int .i64 0), .nils, (.int .i64 0), (.int .i64 0), (.str []), (.str []), .nils, .nils]) none, .w (.tup []) (ap G (enS s)) (some (List.length G)), .f (.agg (enS s)), .r (.bool false) G2 lo2] [2] (e := .ret) (vals := [(.int .i64 (i : Int))]) (h' := G2) [cB (decide ((i : Int) < (l.length : Int))) true, 12 = 12, 0 ≤ (i : Int), (i : Int) < (List.length (l.map encS) : Int), ((l.map encS))[(Int.toNat (i : Int))]? = some (.agg (enS s)), wOp evC G (.alloc [(.int .i64 0), (.int .i64 0), (.int .i64 0), (.int .i64 0), (.int .i64 0), .nils, (.int .i64 0), (.int .i64 0), (.str []), (.str []), .nils, .nils]) = some ((.ptr (List.length G) 0), (ap G [(.int .i64 0), (.int .i64 0), (.int .i64 0), (.int .i64 0), (.int .i64 0), .nils, (.int .i64 0), (.int .i64 0), (.str []), (.str []), .nils, .nils]), none), wOp evC (ap G [(.int .i64 0), (.int .i64 0), (.int .i64 0), (.int .i64 0), (.int .i64 0), .nils, (.int .i64 0), (.int .i64 0), (.str []), (.str []), .nils, .nils]) (.store 12 (.c (.ptr (List.length G) 0)) (.c (.agg (enS s)))) = some ((.tup []), (ap G (enS s)), (some (List.length G))), pOp evC (ap G (enS s)) (.load (some 12) (.c (.ptr (List.length G) 0))) = some (.agg (enS s)), Cl Γ T 16 [(.ptr a 0), (.agg (enS s))] (ap G (enS s)) ((.bool false), G2, lo2)] hl (fun t0 => by kernel_rfl) ⟨(cT hi), rfl, (by omega), (by simp; omega), hget, rfl, (stLast (by kernel_rfl) (by kernel_rfl) hs1), (ldC gl (by kernel_rfl)), hc2, trivial⟩).mono ?_
   rintro e s' ⟨rfl, t4, lo4, rfl, hl4⟩
   exact fin t4 _ lo4 (by rw [hw]; exact hl4.get (2, _) (by simp))
  | true =>
   rw [hh] at hc2
   rw [hh, if_pos rfl] at hw
   have hst := hangs_st hh
   obtain ⟨G3, lo3, es3, hc3, hl3⟩ := add_cl u hl2 hr (fun x hx => by have := hG.up x hx; omega)
   refine (path4 (nt := 25) [.b true, .v (.agg (enS s)), .w (.ptr (List.length G) 0) (ap G [(.int .i64 0), (.int .i64 0), (.int .i64 0), (.int .i64 0), (.int .i64 0), .nils, (.int .i64 0), (.int .i64 0), (.str []), (.str []), .nils, .nils]) none, .w (.tup []) (ap G (enS s)) (some (List.length G)), .f (.agg (enS s)), .r (.bool true) G2 lo2, .f (.agg (enS s)), .r (.tup []) G3 lo3] [0, 3, 9, 10, 11] (e := .normal) (vals := [(.ro (l.map encS) 12 ex), (.ptr a 0), (.ro (l.map encS) 12 ex), (.int .i64 (l.length : Int)), (.int .i64 (IntKind.i64.wrap ((i : Int) + 1)))]) (h' := G3) [cB (decide ((i : Int) < (l.length : Int))) true, 12 = 12, 0 ≤ (i : Int), (i : Int) < (List.length (l.map encS) : Int), ((l.map encS))[(Int.toNat (i : Int))]? = some (.agg (enS s)), wOp evC G (.alloc [(.int .i64 0), (.int .i64 0), (.int .i64 0), (.int .i64 0), (.int .i64 0), .nils, (.int .i64 0), (.int .i64 0), (.str []), (.str []), .nils, .nils]) = some ((.ptr (List.length G) 0), (ap G [(.int .i64 0), (.int .i64 0), (.int .i64 0), (.int .i64 0), (.int .i64 0), .nils, (.int .i64 0), (.int .i64 0), (.str []), (.str []), .nils, .nils]), none), wOp evC (ap G [(.int .i64 0), (.int .i64 0), (.int .i64 0), (.int .i64 0), (.int .i64 0), .nils, (.int .i64 0), (.int .i64 0), (.str []), (.str []), .nils, .nils]) (.store 12 (.c (.ptr (List.length G) 0)) (.c (.agg (enS s)))) = some ((.tup []), (ap G (enS s)), (some (List.length G))), pOp evC (ap G (enS s)) (.load (some 12) (.c (.ptr (List.length G) 0))) = some (.agg (enS s)), Cl Γ T 16 [(.ptr a 0), (.agg (enS s))] (ap G (enS s)) ((.bool true), G2, lo2), pOp evC G2 (.load (some 12) (.c (.ptr (List.length G) 0))) = some (.agg (enS s)), Cl Γ T 17 [(.ptr a 0), (.agg (enS s))] G2 ((.tup []), G3, lo3)] hl (fun t0 => by kernel_rfl) ⟨(cT hi), rfl, (by omega), (by simp; omega), hget, rfl, (stLast (by kernel_rfl) (by kernel_rfl) hs1), (ldC gl (by kernel_rfl)), hc2, (ldC fb2 (by kernel_rfl)), hc3, trivial⟩).mono ?_
   rintro e s' ⟨rfl, t4, lo4, rfl, hl4⟩
   have hwp : IntKind.i64.wrap ((i : Int) + 1) = ((i + 1 : Nat) : Int) := by rw [IntWalk.i64_in _ (by omega)]; rfl
   rw [hwp] at hl4
   refine ⟨l.length - (i + 1), by omega, i + 1, t4, _, lo4, es3, rfl, rfl, by omega, hl4, ?_, ?_, ?_⟩
   ·rw [htk]; exact hl3
   ·rw [htk]; exact hG.snoc hr hst (by rw [List.length_take]; omega)
   ·rw [htk]; exact hw
 ·have hi : ¬ (i : Int) < (l.length : Int) := by omega
  have hie : l.drop i = [] := List.drop_eq_nil_of_le (by omega)
  rw [hie, wrongB] at hw
  refine (path4 (nt := 25) [.b false] [0] (e := (.exit 0)) (vals := [(.ro (l.map encS) 12 ex)]) (h' := G) [cB (decide ((i : Int) < (l.length : Int))) false] hl (fun t0 => by kernel_rfl) ⟨(cF hi), trivial⟩).mono ?_
  rintro e s ⟨rfl, t4, lo4, rfl, hl4⟩
  refine (path4 (nt := 25) [] [2] (e := .ret) (vals := [(.int .i64 (-1))]) (h' := G) [] hl4 (fun t0 => by kernel_rfl) trivial).mono ?_
  rintro e s ⟨rfl, t5, lo5, rfl, hl5⟩
  exact fin t5 _ lo5 (by rw [hw]; exact hl5.get (2, AV.int .i64 (-1)) (by simp))
end
open Go
abbrev kvT (o : Int × Int) : AV × AV := (.int .i64 o.1, .bool true)
def prevO (op : List (Int × Int)) (i : Nat) : Option Int := if i = 0 then none else (op[i - 1]?).map Prod.fst
theorem LookAt.other {H : List Blk} {a m : Nat} {st : Int} {pre : List Stm} {es : List E} (h : LookAt H a m st pre es) {i : Nat} {b : Blk} {xs : List (AV × AV)} (hi : H[i]? = some (.map xs)) (hm : i ≠ m) (hq : ∀ e ∈ es, e.q ≠ i) : LookAt (H.set i b) a m st pre es :=
 ⟨gne (fun x => by have := h.ha; rw [← x, hi] at this; cases this) h.ha, gne hm h.hm, fun e he => gne (fun x => by have := h.hp e he; rw [← x, hi] at this; cases this) (h.hp e he), fun e he => gne (Ne.symm (hq e he)) (h.hq e he), h.qm, h.inj, h.all⟩
theorem LookAt.fr {H H' : List Blk} {a m : Nat} {st : Int} {pre : List Stm} {es : List E} (h : LookAt H a m st pre es) (hf : Fr m H H') (hm : H'[m]? = some (.map (es.map kvE))) : LookAt H' a m st pre es :=
 ⟨hf.2 _ _ h.am h.ha, hm, fun e he => hf.2 _ _ (h.pm he) (h.hp e he), fun e he => hf.2 _ _ (h.qm e he) (h.hq e he), h.qm, h.inj, h.all⟩
def tst (pre : List Stm) (op : List (Int × Int)) (e : E) : Bool := !decide (lastOf (own pre e.id) > 0) || (endOf (own pre e.id) || op.any fun o => decide (o.1 = e.id))
theorem tst_all {H : List Blk} {a m : Nat} {st : Int} {pre : List Stm} {es : List E} (h : LookAt H a m st pre es) (op : List (Int × Int)) : pre.all (toldB pre op) = true ↔ ∀ e ∈ es, tst pre op e = true := by
 rw [List.all_eq_true]
 constructor
 ·intro hp e he
  cases ho : own pre e.id with
  | nil => unfold tst; rw [ho]; rfl
  | cons s l =>
   have hs : s ∈ own pre e.id := by rw [ho]; simp
   obtain ⟨h1, h2, h3⟩ := own_mem hs
   have := hp s h1
   unfold toldB at this
   rw [h2, h3] at this
   unfold tst
   simpa using this
 ·intro he s hs
  unfold toldB
  cases ho : isOwn s.r with
  | false => rfl
  | true =>
   obtain ⟨e, h1, h2⟩ := h.all s hs ho
   have := he e h1
   unfold tst at this
   rw [h2] at this
   simpa using this
def MidQ (H : List Blk) (a m : Nat) (st : Int) (pre : List Stm) (op : List (Int × Int)) (e : AExit) (s : St) : Prop :=
 (e = .ret ∧ s.t.length = 83 ∧ getX s.t 4 = .bool false ∧ openB pre none op = false ∧ ∃ es, LookAt s.h a m st pre es ∧ Fr m H s.h) ∨
 (e = .normal ∧ Lv 83 [(0, .ptr a 0), (4, .bool false), (5, .map H.length)] s.t ∧ openB pre none op = true ∧ (∀ x ∈ op, ∀ y ∈ op, x.1 = y.1 → x = y) ∧ H.length ≠ m ∧ s.h[H.length]? = some (.map (op.map kvT)) ∧ ∃ es, LookAt s.h a m st pre es ∧ Fr m H s.h ∧ ∀ e ∈ es, e.q ≠ H.length)
section
variable {Γ : FuncId → Option GF} (u : Un Γ)
include u
theorem mark_mid {H : List Blk} {a m : Nat} {st : Int} {pre : List Stm} {es : List E} (hL : LookAt H a m st pre es) {v : AV} {op : List (Int × Int)} (hv : OpIs v op) (hol : op.length ≤ 1000) {t : List AV} {lo : Option Nat} (hl2 : Lv 83 [(0, (.ptr a 0)), (1, v), (4, (.bool false)), (5, (.map (List.length H)))] t) :
  Wp Γ T (hd (tl (tl a25.body))) { t := t, h := apm H, lo := lo } (MidQ H a m st pre op) := by
 have hlen : pOp evC (apm H) (.len 1 (.c v)) = some (.int .i64 (op.length : Int)) := by
  rcases hv with ⟨rfl, rfl⟩ | ⟨ex, rfl⟩
  ·rfl
  ·exact len_ro op _ 2 ex _
 refine Wp.seq ((path4 (nt := 83) [.g (.int .i64 (op.length : Int))] [0, 1, 4, 5, 12, 13, 14] (e := .normal) (vals := [(.ptr a 0), v, (.bool false), (.map (List.length H)), v, (.int .i64 (op.length : Int)), (.int .i64 0)]) (h' := (apm H)) [pOp evC (apm H) (.len 1 (.c v)) = some (.int .i64 (op.length : Int))] hl2 (fun t0 => by kernel_rfl) ⟨hlen, trivial⟩).mono ?_)
 rintro e s ⟨rfl, t2, lo2, rfl, hl3⟩
 have htm : H.length ≠ m := by have := glt hL.hm; omega
 have hq0 : ∀ e ∈ es, e.q ≠ H.length := fun e he => by have := glt (hL.hq e he); omega
 have hTm : (apm H)[H.length]? = some (.map ((op.take 0).map kvT)) := by rw [List.take_zero]; exact gl
 have hfr : Fr m H (apm H) := (Up.app _ _).fr
 have hL0 : LookAt (apm H) a m st pre es := hL.up (Up.app _ _)
 refine Wp.block (Wp.mono (Wp.loop (Q := fun e s => match e with | .exit j => MidQ H a m st pre op (if j = 0 then .normal else .exit j) s | e => MidQ H a m st pre op e s) (fun k s => ∃ (i : Nat) (t : List AV) (G : List Blk) (lo : Option Nat) (es : List E), s = { t := t, h := G, lo := lo } ∧ k = op.length - i ∧ i ≤ op.length ∧ Lv 83 [(0, .ptr a 0), (1, v), (4, .bool false), (5, .map H.length), (12, v), (13, .int .i64 (op.length : Int)), (14, .int .i64 (i : Int))] t ∧ LookAt G a m st pre es ∧ G[H.length]? = some (.map ((op.take i).map kvT)) ∧ Fr m H G ∧ (∀ e ∈ es, e.q ≠ H.length) ∧ H.length ≠ m ∧ openB pre none op = openB pre (prevO op i) (op.drop i) ∧
  ((∀ x ∈ op.take i, ∀ d, prevO op i = some d → x.1 ≤ d) ∧ ∀ x ∈ op.take i, ∀ y ∈ op.take i, x.1 = y.1 → x = y)) ?_ op.length _ ⟨0, t2, apm H, lo2, es, rfl, rfl, by omega, hl3, hL0, hTm, hfr, hq0, htm, rfl, by simp⟩) fun e s h => h)
 clear hl3 hl2 hTm hfr hL0 hq0 hL htm hlen
 rintro k s ⟨i, t, G, lo, es, rfl, rfl, hile, hl, hL, hT, hF, hq, htm, hw, hs1, hs2⟩
 by_cases hlt : i < op.length
 ·have hi : (i : Int) < (op.length : Int) := by omega
  have hx := List.getElem?_eq_getElem hlt
  have htk : op.take (i + 1) = op.take i ++ [op[i]] := by rw [List.take_add_one, hx]; rfl
  rw [List.drop_eq_getElem_cons hlt] at hw
  rcases hv with ⟨rfl, rfl⟩ | ⟨ex, rfl⟩
  ·simp at hlt
  have hget : (op.map enO)[(i : Int).toNat]? = some (enO op[i]) := by rw [Int.toNat_natCast, List.getElem?_map, hx]; rfl
  have hp1 : prevO op (i + 1) = some op[i].1 := by
   unfold prevO
   rw [if_neg (by omega), Nat.add_sub_cancel, hx]
   rfl
  generalize op[i] = o at hget htk hw hp1
  have hwp : IntKind.i64.wrap ((i : Int) + 1) = ((i + 1 : Nat) : Int) := by rw [IntWalk.i64_in _ (by omega)]; rfl
  obtain ⟨G2, lo2, e, es2, hc, hl2, he, hid, hf, hqn⟩ := deal_cl u (hL.up (Up.app G (.cells [.int .i64 o.1, .int .i64 o.2]))) o.1
  have hf2 : Fr m H G2 := hF.trans ((Up.app _ _).fr.trans hf)
  have fb2 := hf.2 G.length _ (by have := glt hL.hm; omega) (gl (H := G) (b := .cells [.int .i64 o.1, .int .i64 o.2]))
  have hT2 := hf.2 H.length _ htm (ga (b := .cells [.int .i64 o.1, .int .i64 o.2]) hT)
  have hHG := glt hT
  have hq2 : ∀ e ∈ es2, e.q ≠ H.length := fun e he => by
   rcases hqn e he with h | h
   ·exact hq e h
   ·simp at h; omega
  have hpe := hl2.hp e he
  rw [hid] at hpe
  have hl5 := hl2.other (b := .map ((op.take i).map kvT ++ [(AV.int .i64 o.1, AV.bool true)])) hT2 htm hq2
  have hf5 : Fr m H (G2.set H.length (.map ((op.take i).map kvT ++ [(AV.int .i64 o.1, AV.bool true)]))) := ⟨by have := hf2.1; simpa using this, fun j x hj hx => gne (by have := glt hx; omega) (hf2.2 j x hj hx)⟩
  have hT5 : (G2.set H.length (.map ((op.take i).map kvT ++ [(AV.int .i64 o.1, AV.bool true)])))[H.length]? = some (.map ((op.take (i + 1)).map kvT)) := by rw [gset hT2, htk, List.map_append]; rfl
  have hq5 := hq2
  have hob : ∀ p, openB pre p (o :: op.drop (i + 1)) = (!(match p with | some x => decide (x ≥ o.1) | none => false) && (!endOf (own pre o.1) && (decide (lastOf (own pre o.1) = o.2) && openB pre (some o.1) (op.drop (i + 1))))) := fun p => by cases p <;> rw [openB]
  rw [hob] at hw
  have srt : (∀ x ∈ op.take i, x.1 < o.1) → ((∀ x ∈ op.take (i + 1), ∀ d, prevO op (i + 1) = some d → x.1 ≤ d) ∧ ∀ x ∈ op.take (i + 1), ∀ y ∈ op.take (i + 1), x.1 = y.1 → x = y) := fun hlo => by
   rw [hp1, htk]
   constructor
   ·intro x hx d hd
    cases hd
    rcases List.mem_append.1 hx with hx | hx
    ·have := hlo x hx; omega
    ·rw [List.mem_singleton.1 hx]; exact Int.le_refl _
   ·intro x hx y hy hxy
    rcases List.mem_append.1 hx with hx | hx <;> rcases List.mem_append.1 hy with hy | hy
    ·exact hs2 x hx y hy hxy
    ·rw [List.mem_singleton.1 hy] at hxy; have := hlo x hx; omega
    ·rw [List.mem_singleton.1 hx] at hxy; have := hlo y hy; omega
    ·rw [List.mem_singleton.1 hx, List.mem_singleton.1 hy]
  rw [← hp1] at hw
  generalize hH : H.length = tm at hl hT2 hT5 hf5 hl5 hq5 htm hT hq hq2 hHG
  by_cases hi0 : (i : Int) > 0
  ·have hwi : IntKind.i64.wrap ((i : Int) - 1) = ((i - 1 : Nat) : Int) := by rw [IntWalk.i64_in _ (by omega)]; omega
   have hxp := List.getElem?_eq_getElem (show i - 1 < op.length by omega)
   have hpi : prevO op i = some op[i - 1].1 := by
    unfold prevO
    rw [if_neg (by omega), hxp]
    rfl
   have hgp : (op.map enO)[((i - 1 : Nat) : Int).toNat]? = some (enO op[i - 1]) := by rw [Int.toNat_natCast, List.getElem?_map, hxp]; rfl
   generalize op[i - 1] = p at hgp hpi
   rw [hpi] at hw hs1
   simp only at hw
   by_cases hps : p.1 ≥ o.1
   ·rw [decide_eq_true hps] at hw
    cases hE : endOf (own pre o.1) with
    | true =>
     rw [hE] at hpe
     refine (path4 (nt := 83) [.b true, .v (.agg [(.int .i64 o.1), (.int .i64 o.2)]), .w (.ptr (List.length G) 0) (ap G [(.int .i64 0), (.int .i64 0)]) none, .w (.tup []) (ap G [(.int .i64 o.1), (.int .i64 o.2)]) (some (List.length G)), .f (.int .i64 o.1), .r (.ptr e.p 0) G2 lo2, .b true, .v (.agg [(.int .i64 p.1), (.int .i64 p.2)]), .f (.int .i64 o.1), .b true] [4] (e := .ret) (vals := [(.bool false)]) (h' := G2) [cB (decide ((i : Int) < (op.length : Int))) true, 2 = 2, 0 ≤ (i : Int), (i : Int) < (List.length (op.map enO) : Int), ((op.map enO))[(Int.toNat (i : Int))]? = some (.agg [(.int .i64 o.1), (.int .i64 o.2)]), wOp evC G (.alloc [(.int .i64 0), (.int .i64 0)]) = some ((.ptr (List.length G) 0), (ap G [(.int .i64 0), (.int .i64 0)]), none), wOp evC (ap G [(.int .i64 0), (.int .i64 0)]) (.store 2 (.c (.ptr (List.length G) 0)) (.c (.agg [(.int .i64 o.1), (.int .i64 o.2)]))) = some ((.tup []), (ap G [(.int .i64 o.1), (.int .i64 o.2)]), (some (List.length G))), pOp evC (ap G [(.int .i64 o.1), (.int .i64 o.2)]) (.load none (.c (.ptr (List.length G) 0))) = some (.int .i64 o.1), Cl Γ T 26 [(.ptr a 0), (.int .i64 o.1)] (ap G [(.int .i64 o.1), (.int .i64 o.2)]) ((.ptr e.p 0), G2, lo2), cB (decide ((i : Int) > 0)) true, 2 = 2, 0 ≤ (IntKind.i64.wrap ((i : Int) - 1)), (IntKind.i64.wrap ((i : Int) - 1)) < (List.length (op.map enO) : Int), ((op.map enO))[(Int.toNat (IntKind.i64.wrap ((i : Int) - 1)))]? = some (.agg [(.int .i64 p.1), (.int .i64 p.2)]), pOp evC G2 (.load none (.c (.ptr (List.length G) 0))) = some (.int .i64 o.1), cB (decide (p.1 ≥ o.1)) true] hl (fun t0 => by kernel_rfl) ⟨(cT hi), rfl, (by omega), (by simp; omega), hget, rfl, (stLast (by kernel_rfl) (by kernel_rfl) (by kernel_rfl)), (ldC gl (by kernel_rfl)), hc, (cT hi0), rfl, (by rw [hwi]; omega), (by rw [hwi]; simp; omega), (by rw [hwi]; exact hgp), (ldC fb2 (by kernel_rfl)), (cT hps), trivial⟩).mono ?_
     rintro e' s' ⟨rfl, t4, lo4, rfl, hl4⟩
     exact .inl ⟨rfl, hl4.len, hl4.get (4, _) (by simp), by rw [hw]; rfl, es2, hl2, hf2⟩
    | false =>
     rw [hE] at hpe
     refine (path4 (nt := 83) [.b true, .v (.agg [(.int .i64 o.1), (.int .i64 o.2)]), .w (.ptr (List.length G) 0) (ap G [(.int .i64 0), (.int .i64 0)]) none, .w (.tup []) (ap G [(.int .i64 o.1), (.int .i64 o.2)]) (some (List.length G)), .f (.int .i64 o.1), .r (.ptr e.p 0) G2 lo2, .b true, .v (.agg [(.int .i64 p.1), (.int .i64 p.2)]), .f (.int .i64 o.1), .b true] [4] (e := .ret) (vals := [(.bool false)]) (h' := G2) [cB (decide ((i : Int) < (op.length : Int))) true, 2 = 2, 0 ≤ (i : Int), (i : Int) < (List.length (op.map enO) : Int), ((op.map enO))[(Int.toNat (i : Int))]? = some (.agg [(.int .i64 o.1), (.int .i64 o.2)]), wOp evC G (.alloc [(.int .i64 0), (.int .i64 0)]) = some ((.ptr (List.length G) 0), (ap G [(.int .i64 0), (.int .i64 0)]), none), wOp evC (ap G [(.int .i64 0), (.int .i64 0)]) (.store 2 (.c (.ptr (List.length G) 0)) (.c (.agg [(.int .i64 o.1), (.int .i64 o.2)]))) = some ((.tup []), (ap G [(.int .i64 o.1), (.int .i64 o.2)]), (some (List.length G))), pOp evC (ap G [(.int .i64 o.1), (.int .i64 o.2)]) (.load none (.c (.ptr (List.length G) 0))) = some (.int .i64 o.1), Cl Γ T 26 [(.ptr a 0), (.int .i64 o.1)] (ap G [(.int .i64 o.1), (.int .i64 o.2)]) ((.ptr e.p 0), G2, lo2), cB (decide ((i : Int) > 0)) true, 2 = 2, 0 ≤ (IntKind.i64.wrap ((i : Int) - 1)), (IntKind.i64.wrap ((i : Int) - 1)) < (List.length (op.map enO) : Int), ((op.map enO))[(Int.toNat (IntKind.i64.wrap ((i : Int) - 1)))]? = some (.agg [(.int .i64 p.1), (.int .i64 p.2)]), pOp evC G2 (.load none (.c (.ptr (List.length G) 0))) = some (.int .i64 o.1), cB (decide (p.1 ≥ o.1)) true] hl (fun t0 => by kernel_rfl) ⟨(cT hi), rfl, (by omega), (by simp; omega), hget, rfl, (stLast (by kernel_rfl) (by kernel_rfl) (by kernel_rfl)), (ldC gl (by kernel_rfl)), hc, (cT hi0), rfl, (by rw [hwi]; omega), (by rw [hwi]; simp; omega), (by rw [hwi]; exact hgp), (ldC fb2 (by kernel_rfl)), (cT hps), trivial⟩).mono ?_
     rintro e' s' ⟨rfl, t4, lo4, rfl, hl4⟩
     exact .inl ⟨rfl, hl4.len, hl4.get (4, _) (by simp), by rw [hw]; rfl, es2, hl2, hf2⟩
   ·rw [decide_eq_false hps] at hw
    have hlo : ∀ x ∈ op.take i, x.1 < o.1 := fun x hx => by have := hs1 x hx _ rfl; omega
    have hnew : ∀ x ∈ op.take i, x.1 ≠ o.1 := fun x hx => by have := hlo x hx; omega
    have hs5 := srt hlo
    cases hE : endOf (own pre o.1) with
    | true =>
     rw [hE] at hpe hw
     refine (path4 (nt := 83) [.b true, .v (.agg [(.int .i64 o.1), (.int .i64 o.2)]), .w (.ptr (List.length G) 0) (ap G [(.int .i64 0), (.int .i64 0)]) none, .w (.tup []) (ap G [(.int .i64 o.1), (.int .i64 o.2)]) (some (List.length G)), .f (.int .i64 o.1), .r (.ptr e.p 0) G2 lo2, .b true, .v (.agg [(.int .i64 p.1), (.int .i64 p.2)]), .f (.int .i64 o.1), .b false, .f (.bool true)] [4] (e := .ret) (vals := [(.bool false)]) (h' := G2) [cB (decide ((i : Int) < (op.length : Int))) true, 2 = 2, 0 ≤ (i : Int), (i : Int) < (List.length (op.map enO) : Int), ((op.map enO))[(Int.toNat (i : Int))]? = some (.agg [(.int .i64 o.1), (.int .i64 o.2)]), wOp evC G (.alloc [(.int .i64 0), (.int .i64 0)]) = some ((.ptr (List.length G) 0), (ap G [(.int .i64 0), (.int .i64 0)]), none), wOp evC (ap G [(.int .i64 0), (.int .i64 0)]) (.store 2 (.c (.ptr (List.length G) 0)) (.c (.agg [(.int .i64 o.1), (.int .i64 o.2)]))) = some ((.tup []), (ap G [(.int .i64 o.1), (.int .i64 o.2)]), (some (List.length G))), pOp evC (ap G [(.int .i64 o.1), (.int .i64 o.2)]) (.load none (.c (.ptr (List.length G) 0))) = some (.int .i64 o.1), Cl Γ T 26 [(.ptr a 0), (.int .i64 o.1)] (ap G [(.int .i64 o.1), (.int .i64 o.2)]) ((.ptr e.p 0), G2, lo2), cB (decide ((i : Int) > 0)) true, 2 = 2, 0 ≤ (IntKind.i64.wrap ((i : Int) - 1)), (IntKind.i64.wrap ((i : Int) - 1)) < (List.length (op.map enO) : Int), ((op.map enO))[(Int.toNat (IntKind.i64.wrap ((i : Int) - 1)))]? = some (.agg [(.int .i64 p.1), (.int .i64 p.2)]), pOp evC G2 (.load none (.c (.ptr (List.length G) 0))) = some (.int .i64 o.1), cB (decide (p.1 ≥ o.1)) false, pOp evC G2 (.load none (.c (.ptr e.p 1))) = some (.bool true)] hl (fun t0 => by kernel_rfl) ⟨(cT hi), rfl, (by omega), (by simp; omega), hget, rfl, (stLast (by kernel_rfl) (by kernel_rfl) (by kernel_rfl)), (ldC gl (by kernel_rfl)), hc, (cT hi0), rfl, (by rw [hwi]; omega), (by rw [hwi]; simp; omega), (by rw [hwi]; exact hgp), (ldC fb2 (by kernel_rfl)), (cF hps), (ldC hpe (by kernel_rfl)), trivial⟩).mono ?_
     rintro e' s' ⟨rfl, t4, lo4, rfl, hl4⟩
     exact .inl ⟨rfl, hl4.len, hl4.get (4, _) (by simp), by rw [hw]; rfl, es2, hl2, hf2⟩
    | false =>
     rw [hE] at hpe hw
     by_cases hne : lastOf (own pre o.1) = o.2
     ·rw [decide_eq_true hne] at hw
      refine (path4 (nt := 83) [.b true, .v (.agg [(.int .i64 o.1), (.int .i64 o.2)]), .w (.ptr (List.length G) 0) (ap G [(.int .i64 0), (.int .i64 0)]) none, .w (.tup []) (ap G [(.int .i64 o.1), (.int .i64 o.2)]) (some (List.length G)), .f (.int .i64 o.1), .r (.ptr e.p 0) G2 lo2, .b true, .v (.agg [(.int .i64 p.1), (.int .i64 p.2)]), .f (.int .i64 o.1), .b false, .f (.bool false), .f (.int .i64 (lastOf (own pre o.1))), .f (.int .i64 o.2), .b false, .f (.int .i64 o.1), .w (.tup []) (List.set G2 tm (.map ((op.take i).map kvT ++ [(.int .i64 o.1, .bool true)]))) (some tm)] [0, 1, 4, 5, 12, 13, 14] (e := .normal) (vals := [(.ptr a 0), (.ro (op.map enO) 2 ex), (.bool false), (.map tm), (.ro (op.map enO) 2 ex), (.int .i64 (op.length : Int)), (.int .i64 (IntKind.i64.wrap ((i : Int) + 1)))]) (h' := (List.set G2 tm (.map ((op.take i).map kvT ++ [(.int .i64 o.1, .bool true)])))) [cB (decide ((i : Int) < (op.length : Int))) true, 2 = 2, 0 ≤ (i : Int), (i : Int) < (List.length (op.map enO) : Int), ((op.map enO))[(Int.toNat (i : Int))]? = some (.agg [(.int .i64 o.1), (.int .i64 o.2)]), wOp evC G (.alloc [(.int .i64 0), (.int .i64 0)]) = some ((.ptr (List.length G) 0), (ap G [(.int .i64 0), (.int .i64 0)]), none), wOp evC (ap G [(.int .i64 0), (.int .i64 0)]) (.store 2 (.c (.ptr (List.length G) 0)) (.c (.agg [(.int .i64 o.1), (.int .i64 o.2)]))) = some ((.tup []), (ap G [(.int .i64 o.1), (.int .i64 o.2)]), (some (List.length G))), pOp evC (ap G [(.int .i64 o.1), (.int .i64 o.2)]) (.load none (.c (.ptr (List.length G) 0))) = some (.int .i64 o.1), Cl Γ T 26 [(.ptr a 0), (.int .i64 o.1)] (ap G [(.int .i64 o.1), (.int .i64 o.2)]) ((.ptr e.p 0), G2, lo2), cB (decide ((i : Int) > 0)) true, 2 = 2, 0 ≤ (IntKind.i64.wrap ((i : Int) - 1)), (IntKind.i64.wrap ((i : Int) - 1)) < (List.length (op.map enO) : Int), ((op.map enO))[(Int.toNat (IntKind.i64.wrap ((i : Int) - 1)))]? = some (.agg [(.int .i64 p.1), (.int .i64 p.2)]), pOp evC G2 (.load none (.c (.ptr (List.length G) 0))) = some (.int .i64 o.1), cB (decide (p.1 ≥ o.1)) false, pOp evC G2 (.load none (.c (.ptr e.p 1))) = some (.bool false), pOp evC G2 (.load none (.c (.ptr e.p 0))) = some (.int .i64 (lastOf (own pre o.1))), pOp evC G2 (.load none (.c (.ptr (List.length G) 1))) = some (.int .i64 o.2), cB ((lastOf (own pre o.1)) != o.2) false, pOp evC G2 (.load none (.c (.ptr (List.length G) 0))) = some (.int .i64 o.1), wOp evC G2 (.mapUpd 1 (.c (.map tm)) (.c (.int .i64 o.1)) (.c (.bool true))) = some ((.tup []), (List.set G2 tm (.map ((op.take i).map kvT ++ [(.int .i64 o.1, .bool true)]))), (some tm))] hl (fun t0 => by kernel_rfl) ⟨(cT hi), rfl, (by omega), (by simp; omega), hget, rfl, (stLast (by kernel_rfl) (by kernel_rfl) (by kernel_rfl)), (ldC gl (by kernel_rfl)), hc, (cT hi0), rfl, (by rw [hwi]; omega), (by rw [hwi]; simp; omega), (by rw [hwi]; exact hgp), (ldC fb2 (by kernel_rfl)), (cF hps), (ldC hpe (by kernel_rfl)), (ldC hpe (by kernel_rfl)), (ldC fb2 (by kernel_rfl)), (cS hne), (ldC fb2 (by kernel_rfl)), (up_new (k := Prod.fst) (v := fun _ => AV.bool true) hT2 hnew), trivial⟩).mono ?_
      rintro e' s' ⟨rfl, t4, lo4, rfl, hl4⟩
      rw [hwp] at hl4
      exact ⟨op.length - (i + 1), by omega, i + 1, t4, _, lo4, es2, rfl, rfl, by omega, hl4, hl5, hT5, hf5, hq5, htm, by rw [hw]; rfl, hs5⟩
     ·rw [decide_eq_false hne] at hw
      refine (path4 (nt := 83) [.b true, .v (.agg [(.int .i64 o.1), (.int .i64 o.2)]), .w (.ptr (List.length G) 0) (ap G [(.int .i64 0), (.int .i64 0)]) none, .w (.tup []) (ap G [(.int .i64 o.1), (.int .i64 o.2)]) (some (List.length G)), .f (.int .i64 o.1), .r (.ptr e.p 0) G2 lo2, .b true, .v (.agg [(.int .i64 p.1), (.int .i64 p.2)]), .f (.int .i64 o.1), .b false, .f (.bool false), .f (.int .i64 (lastOf (own pre o.1))), .f (.int .i64 o.2), .b true] [4] (e := .ret) (vals := [(.bool false)]) (h' := G2) [cB (decide ((i : Int) < (op.length : Int))) true, 2 = 2, 0 ≤ (i : Int), (i : Int) < (List.length (op.map enO) : Int), ((op.map enO))[(Int.toNat (i : Int))]? = some (.agg [(.int .i64 o.1), (.int .i64 o.2)]), wOp evC G (.alloc [(.int .i64 0), (.int .i64 0)]) = some ((.ptr (List.length G) 0), (ap G [(.int .i64 0), (.int .i64 0)]), none), wOp evC (ap G [(.int .i64 0), (.int .i64 0)]) (.store 2 (.c (.ptr (List.length G) 0)) (.c (.agg [(.int .i64 o.1), (.int .i64 o.2)]))) = some ((.tup []), (ap G [(.int .i64 o.1), (.int .i64 o.2)]), (some (List.length G))), pOp evC (ap G [(.int .i64 o.1), (.int .i64 o.2)]) (.load none (.c (.ptr (List.length G) 0))) = some (.int .i64 o.1), Cl Γ T 26 [(.ptr a 0), (.int .i64 o.1)] (ap G [(.int .i64 o.1), (.int .i64 o.2)]) ((.ptr e.p 0), G2, lo2), cB (decide ((i : Int) > 0)) true, 2 = 2, 0 ≤ (IntKind.i64.wrap ((i : Int) - 1)), (IntKind.i64.wrap ((i : Int) - 1)) < (List.length (op.map enO) : Int), ((op.map enO))[(Int.toNat (IntKind.i64.wrap ((i : Int) - 1)))]? = some (.agg [(.int .i64 p.1), (.int .i64 p.2)]), pOp evC G2 (.load none (.c (.ptr (List.length G) 0))) = some (.int .i64 o.1), cB (decide (p.1 ≥ o.1)) false, pOp evC G2 (.load none (.c (.ptr e.p 1))) = some (.bool false), pOp evC G2 (.load none (.c (.ptr e.p 0))) = some (.int .i64 (lastOf (own pre o.1))), pOp evC G2 (.load none (.c (.ptr (List.length G) 1))) = some (.int .i64 o.2), cB ((lastOf (own pre o.1)) != o.2) true] hl (fun t0 => by kernel_rfl) ⟨(cT hi), rfl, (by omega), (by simp; omega), hget, rfl, (stLast (by kernel_rfl) (by kernel_rfl) (by kernel_rfl)), (ldC gl (by kernel_rfl)), hc, (cT hi0), rfl, (by rw [hwi]; omega), (by rw [hwi]; simp; omega), (by rw [hwi]; exact hgp), (ldC fb2 (by kernel_rfl)), (cF hps), (ldC hpe (by kernel_rfl)), (ldC hpe (by kernel_rfl)), (ldC fb2 (by kernel_rfl)), (cD hne), trivial⟩).mono ?_
      rintro e' s' ⟨rfl, t4, lo4, rfl, hl4⟩
      exact .inl ⟨rfl, hl4.len, hl4.get (4, _) (by simp), by rw [hw]; rfl, es2, hl2, hf2⟩
  ·have hi00 : i = 0 := by omega
   have hpi : prevO op i = none := by unfold prevO; rw [if_pos hi00]
   rw [hpi] at hw
   simp only at hw
   have hlo : ∀ x ∈ op.take i, x.1 < o.1 := fun x hx => by rw [hi00] at hx; simp at hx
   have hnew : ∀ x ∈ op.take i, x.1 ≠ o.1 := fun x hx => by have := hlo x hx; omega
   have hs5 := srt hlo
   cases hE : endOf (own pre o.1) with
   | true =>
    rw [hE] at hpe hw
    refine (path4 (nt := 83) [.b true, .v (.agg [(.int .i64 o.1), (.int .i64 o.2)]), .w (.ptr (List.length G) 0) (ap G [(.int .i64 0), (.int .i64 0)]) none, .w (.tup []) (ap G [(.int .i64 o.1), (.int .i64 o.2)]) (some (List.length G)), .f (.int .i64 o.1), .r (.ptr e.p 0) G2 lo2, .b false, .f (.bool true)] [4] (e := .ret) (vals := [(.bool false)]) (h' := G2) [cB (decide ((i : Int) < (op.length : Int))) true, 2 = 2, 0 ≤ (i : Int), (i : Int) < (List.length (op.map enO) : Int), ((op.map enO))[(Int.toNat (i : Int))]? = some (.agg [(.int .i64 o.1), (.int .i64 o.2)]), wOp evC G (.alloc [(.int .i64 0), (.int .i64 0)]) = some ((.ptr (List.length G) 0), (ap G [(.int .i64 0), (.int .i64 0)]), none), wOp evC (ap G [(.int .i64 0), (.int .i64 0)]) (.store 2 (.c (.ptr (List.length G) 0)) (.c (.agg [(.int .i64 o.1), (.int .i64 o.2)]))) = some ((.tup []), (ap G [(.int .i64 o.1), (.int .i64 o.2)]), (some (List.length G))), pOp evC (ap G [(.int .i64 o.1), (.int .i64 o.2)]) (.load none (.c (.ptr (List.length G) 0))) = some (.int .i64 o.1), Cl Γ T 26 [(.ptr a 0), (.int .i64 o.1)] (ap G [(.int .i64 o.1), (.int .i64 o.2)]) ((.ptr e.p 0), G2, lo2), cB (decide ((i : Int) > 0)) false, pOp evC G2 (.load none (.c (.ptr e.p 1))) = some (.bool true)] hl (fun t0 => by kernel_rfl) ⟨(cT hi), rfl, (by omega), (by simp; omega), hget, rfl, (stLast (by kernel_rfl) (by kernel_rfl) (by kernel_rfl)), (ldC gl (by kernel_rfl)), hc, (cF hi0), (ldC hpe (by kernel_rfl)), trivial⟩).mono ?_
    rintro e' s' ⟨rfl, t4, lo4, rfl, hl4⟩
    exact .inl ⟨rfl, hl4.len, hl4.get (4, _) (by simp), by rw [hw]; rfl, es2, hl2, hf2⟩
   | false =>
    rw [hE] at hpe hw
    by_cases hne : lastOf (own pre o.1) = o.2
    ·rw [decide_eq_true hne] at hw
     refine (path4 (nt := 83) [.b true, .v (.agg [(.int .i64 o.1), (.int .i64 o.2)]), .w (.ptr (List.length G) 0) (ap G [(.int .i64 0), (.int .i64 0)]) none, .w (.tup []) (ap G [(.int .i64 o.1), (.int .i64 o.2)]) (some (List.length G)), .f (.int .i64 o.1), .r (.ptr e.p 0) G2 lo2, .b false, .f (.bool false), .f (.int .i64 (lastOf (own pre o.1))), .f (.int .i64 o.2), .b false, .f (.int .i64 o.1), .w (.tup []) (List.set G2 tm (.map ((op.take i).map kvT ++ [(.int .i64 o.1, .bool true)]))) (some tm)] [0, 1, 4, 5, 12, 13, 14] (e := .normal) (vals := [(.ptr a 0), (.ro (op.map enO) 2 ex), (.bool false), (.map tm), (.ro (op.map enO) 2 ex), (.int .i64 (op.length : Int)), (.int .i64 (IntKind.i64.wrap ((i : Int) + 1)))]) (h' := (List.set G2 tm (.map ((op.take i).map kvT ++ [(.int .i64 o.1, .bool true)])))) [cB (decide ((i : Int) < (op.length : Int))) true, 2 = 2, 0 ≤ (i : Int), (i : Int) < (List.length (op.map enO) : Int), ((op.map enO))[(Int.toNat (i : Int))]? = some (.agg [(.int .i64 o.1), (.int .i64 o.2)]), wOp evC G (.alloc [(.int .i64 0), (.int .i64 0)]) = some ((.ptr (List.length G) 0), (ap G [(.int .i64 0), (.int .i64 0)]), none), wOp evC (ap G [(.int .i64 0), (.int .i64 0)]) (.store 2 (.c (.ptr (List.length G) 0)) (.c (.agg [(.int .i64 o.1), (.int .i64 o.2)]))) = some ((.tup []), (ap G [(.int .i64 o.1), (.int .i64 o.2)]), (some (List.length G))), pOp evC (ap G [(.int .i64 o.1), (.int .i64 o.2)]) (.load none (.c (.ptr (List.length G) 0))) = some (.int .i64 o.1), Cl Γ T 26 [(.ptr a 0), (.int .i64 o.1)] (ap G [(.int .i64 o.1), (.int .i64 o.2)]) ((.ptr e.p 0), G2, lo2), cB (decide ((i : Int) > 0)) false, pOp evC G2 (.load none (.c (.ptr e.p 1))) = some (.bool false), pOp evC G2 (.load none (.c (.ptr e.p 0))) = some (.int .i64 (lastOf (own pre o.1))), pOp evC G2 (.load none (.c (.ptr (List.length G) 1))) = some (.int .i64 o.2), cB ((lastOf (own pre o.1)) != o.2) false, pOp evC G2 (.load none (.c (.ptr (List.length G) 0))) = some (.int .i64 o.1), wOp evC G2 (.mapUpd 1 (.c (.map tm)) (.c (.int .i64 o.1)) (.c (.bool true))) = some ((.tup []), (List.set G2 tm (.map ((op.take i).map kvT ++ [(.int .i64 o.1, .bool true)]))), (some tm))] hl (fun t0 => by kernel_rfl) ⟨(cT hi), rfl, (by omega), (by simp; omega), hget, rfl, (stLast (by kernel_rfl) (by kernel_rfl) (by kernel_rfl)), (ldC gl (by kernel_rfl)), hc, (cF hi0), (ldC hpe (by kernel_rfl)), (ldC hpe (by kernel_rfl)), (ldC fb2 (by kernel_rfl)), (cS hne), (ldC fb2 (by kernel_rfl)), (up_new (k := Prod.fst) (v := fun _ => AV.bool true) hT2 hnew), trivial⟩).mono ?_
     rintro e' s' ⟨rfl, t4, lo4, rfl, hl4⟩
     rw [hwp] at hl4
     exact ⟨op.length - (i + 1), by omega, i + 1, t4, _, lo4, es2, rfl, rfl, by omega, hl4, hl5, hT5, hf5, hq5, htm, by rw [hw]; rfl, hs5⟩
    ·rw [decide_eq_false hne] at hw
     refine (path4 (nt := 83) [.b true, .v (.agg [(.int .i64 o.1), (.int .i64 o.2)]), .w (.ptr (List.length G) 0) (ap G [(.int .i64 0), (.int .i64 0)]) none, .w (.tup []) (ap G [(.int .i64 o.1), (.int .i64 o.2)]) (some (List.length G)), .f (.int .i64 o.1), .r (.ptr e.p 0) G2 lo2, .b false, .f (.bool false), .f (.int .i64 (lastOf (own pre o.1))), .f (.int .i64 o.2), .b true] [4] (e := .ret) (vals := [(.bool false)]) (h' := G2) [cB (decide ((i : Int) < (op.length : Int))) true, 2 = 2, 0 ≤ (i : Int), (i : Int) < (List.length (op.map enO) : Int), ((op.map enO))[(Int.toNat (i : Int))]? = some (.agg [(.int .i64 o.1), (.int .i64 o.2)]), wOp evC G (.alloc [(.int .i64 0), (.int .i64 0)]) = some ((.ptr (List.length G) 0), (ap G [(.int .i64 0), (.int .i64 0)]), none), wOp evC (ap G [(.int .i64 0), (.int .i64 0)]) (.store 2 (.c (.ptr (List.length G) 0)) (.c (.agg [(.int .i64 o.1), (.int .i64 o.2)]))) = some ((.tup []), (ap G [(.int .i64 o.1), (.int .i64 o.2)]), (some (List.length G))), pOp evC (ap G [(.int .i64 o.1), (.int .i64 o.2)]) (.load none (.c (.ptr (List.length G) 0))) = some (.int .i64 o.1), Cl Γ T 26 [(.ptr a 0), (.int .i64 o.1)] (ap G [(.int .i64 o.1), (.int .i64 o.2)]) ((.ptr e.p 0), G2, lo2), cB (decide ((i : Int) > 0)) false, pOp evC G2 (.load none (.c (.ptr e.p 1))) = some (.bool false), pOp evC G2 (.load none (.c (.ptr e.p 0))) = some (.int .i64 (lastOf (own pre o.1))), pOp evC G2 (.load none (.c (.ptr (List.length G) 1))) = some (.int .i64 o.2), cB ((lastOf (own pre o.1)) != o.2) true] hl (fun t0 => by kernel_rfl) ⟨(cT hi), rfl, (by omega), (by simp; omega), hget, rfl, (stLast (by kernel_rfl) (by kernel_rfl) (by kernel_rfl)), (ldC gl (by kernel_rfl)), hc, (cF hi0), (ldC hpe (by kernel_rfl)), (ldC hpe (by kernel_rfl)), (ldC fb2 (by kernel_rfl)), (cD hne), trivial⟩).mono ?_
     rintro e' s' ⟨rfl, t4, lo4, rfl, hl4⟩
     exact .inl ⟨rfl, hl4.len, hl4.get (4, _) (by simp), by rw [hw]; rfl, es2, hl2, hf2⟩
 ·have hi : ¬ (i : Int) < (op.length : Int) := by omega
  have hie : i = op.length := by omega
  have hd : op.drop i = [] := List.drop_eq_nil_of_le (by omega)
  have hta : op.take i = op := List.take_of_length_le (by omega)
  rw [hd] at hw
  rw [hta] at hT hs2
  have hw1 : openB pre none op = true := by rw [hw]; cases prevO op i <;> rfl
  generalize hH : H.length = tm at hl hT
  refine (path4 (nt := 83) [.b false] [0, 4, 5] (e := (.exit 0)) (vals := [(.ptr a 0), (.bool false), (.map tm)]) (h' := G) [cB (decide ((i : Int) < (op.length : Int))) false] hl (fun t0 => by kernel_rfl) ⟨(cF hi), trivial⟩).mono ?_
  rintro e s ⟨rfl, t4, lo4, rfl, hl4⟩
  subst hH
  exact .inr ⟨rfl, hl4, hw1, hs2, htm, hT, es, hL, hF, hq⟩
end
open Go
noncomputable def gB : Code := (Try.f25.body).getD .skip
noncomputable def gR : Code := ghd (gtl (gtl (gtl gB)))
noncomputable def gI : Code := glp (gblk (gtl gR))
noncomputable def gE : Code := gblk (gtl (gtl gI))
noncomputable def oR : List Oper := gops (ghd gR)
noncomputable def oN : List Oper := gops (ghd gI)
noncomputable def oE : List Oper := gops (ghd gE)
noncomputable def oG (l : List Oper) (i : Nat) : Oper := l.getD i ⟨none, .assign (.tmp 0), 0, "", #[], none⟩
noncomputable def tyR : TypeId := match (oG oR 4).op with
 | .range t _ => t
 | _ => 0
noncomputable def kR : TypeId := match Try.prog.underlying tyR with
 | some (.map k _) => k
 | _ => 0
noncomputable def vR : TypeId := match Try.prog.underlying tyR with
 | some (.map _ v) => v
 | _ => 0
theorem gB_is : gB = .seq (ghd gB) (.seq (ghd (gtl gB)) (.seq (ghd (gtl (gtl gB))) (.seq (.seq (.region (gid (ghd gR)) oR.toArray false) (.block 2 (.loop (.seq (.region (gid (ghd gI)) #[oG oN 0, oG oN 1] false) (.seq (.cond (.tmp 61) .skip (.exit 2)) (.block 3 (.seq (.region (gid (ghd gE)) #[oG oE 0, oG oE 1, oG oE 2, oG oE 3, oG oE 4] false) (gtl gE)))))))) (gtl (gtl (gtl (gtl gB))))))) := by kernel_rfl
theorem anyT {op : List (Int × Int)} {id : Int} (h : (op.any fun o => decide (o.1 = id)) = true) : ∃ o ∈ op, o.1 = id := by
 obtain ⟨o, h1, h2⟩ := List.any_eq_true.1 h
 exact ⟨o, h1, by simpa using h2⟩
theorem anyF {op : List (Int × Int)} {id : Int} (h : (op.any fun o => decide (o.1 = id)) = false) : ∀ o ∈ op, o.1 ≠ id := fun o ho e => by
 have := List.any_eq_false.1 h o ho
 simp [e] at this
section
variable {Γ : FuncId → Option GF}
theorem mark_body {G : List Blk} {st : Int} {pre : List Stm} {op : List (Int × Int)} {e : E} {t : List AV} {tm : Nat} {w : AV} (hl : Lv 83 [(5, .map tm), (9, .int .i64 e.id), (10, .ptr e.p 0), (59, w)] t) (hpe : G[e.p]? = some (.cells [.int .i64 (lastOf (own pre e.id)), .bool (endOf (own pre e.id)), .map e.q])) (hT : G[tm]? = some (.map (op.map kvT))) (hu : ∀ x ∈ op, ∀ y ∈ op, x.1 = y.1 → x = y) :
  Wp Γ T (tl (blk (tl (tl (lp (blk (tl (hd (tl (tl (tl a25.body)))))))))))  { t := t, h := G, lo := none } fun e2 s => s.h = G ∧ ((e2 = .normal ∧ tst pre op e = true ∧ Lv 83 [(5, .map tm), (59, w)] s.t) ∨ (e2 = .ret ∧ tst pre op e = false ∧ s.t.length = 83 ∧ getX s.t 4 = .bool false)) := by
 by_cases hlt : lastOf (own pre e.id) > 0
 ·cases hE : endOf (own pre e.id) with
  | true =>
   rw [hE] at hpe
   refine (path4 (nt := 83) [.f (.int .i64 (lastOf (own pre e.id))), .b true, .f (.bool true)] [5, 59] (e := .normal) (vals := [(.map tm), w]) (h' := G) [pOp evC G (.load none (.c (.ptr e.p 0))) = some (.int .i64 (lastOf (own pre e.id))), cB (decide ((lastOf (own pre e.id)) > 0)) true, pOp evC G (.load none (.c (.ptr e.p 1))) = some (.bool true)] hl (fun t0 => by kernel_rfl) ⟨(ldC hpe (by kernel_rfl)), (cT hlt), (ldC hpe (by kernel_rfl)), trivial⟩).mono ?_
   rintro e' s ⟨rfl, t4, lo4, rfl, hl4⟩
   exact ⟨rfl, .inl ⟨rfl, by unfold tst; rw [decide_eq_true hlt, hE]; rfl, hl4⟩⟩
  | false =>
   rw [hE] at hpe
   cases ha : op.any fun o => decide (o.1 = e.id) with
   | true =>
    obtain ⟨o, ho, hoi⟩ := anyT ha
    have hou : ∀ x ∈ op, x.1 = e.id → x = o := fun x hx h => hu x hx o ho (h.trans hoi.symm)
    refine (path4 (nt := 83) [.f (.int .i64 (lastOf (own pre e.id))), .b true, .f (.bool false), .f (.bool true)] [5, 59] (e := .normal) (vals := [(.map tm), w]) (h' := G) [pOp evC G (.load none (.c (.ptr e.p 0))) = some (.int .i64 (lastOf (own pre e.id))), cB (decide ((lastOf (own pre e.id)) > 0)) true, pOp evC G (.load none (.c (.ptr e.p 1))) = some (.bool false), pOp evC G (.lookup (.bool false) 1 (.c (.map tm)) (.c (.int .i64 e.id)) false) = some (.bool true)] hl (fun t0 => by kernel_rfl) ⟨(ldC hpe (by kernel_rfl)), (cT hlt), (ldC hpe (by kernel_rfl)), (lk_some (k := Prod.fst) (v := fun _ => AV.bool true) hT ho hoi hou), trivial⟩).mono ?_
    rintro e' s ⟨rfl, t4, lo4, rfl, hl4⟩
    exact ⟨rfl, .inl ⟨rfl, by unfold tst; rw [decide_eq_true hlt, hE, ha]; rfl, hl4⟩⟩
   | false =>
    have hno := anyF ha
    refine (path4 (nt := 83) [.f (.int .i64 (lastOf (own pre e.id))), .b true, .f (.bool false), .f (.bool false)] [4] (e := .ret) (vals := [(.bool false)]) (h' := G) [pOp evC G (.load none (.c (.ptr e.p 0))) = some (.int .i64 (lastOf (own pre e.id))), cB (decide ((lastOf (own pre e.id)) > 0)) true, pOp evC G (.load none (.c (.ptr e.p 1))) = some (.bool false), pOp evC G (.lookup (.bool false) 1 (.c (.map tm)) (.c (.int .i64 e.id)) false) = some (.bool false)] hl (fun t0 => by kernel_rfl) ⟨(ldC hpe (by kernel_rfl)), (cT hlt), (ldC hpe (by kernel_rfl)), (lk_none (k := Prod.fst) (v := fun _ => AV.bool true) hT hno), trivial⟩).mono ?_
    rintro e' s ⟨rfl, t4, lo4, rfl, hl4⟩
    exact ⟨rfl, .inr ⟨rfl, by unfold tst; rw [decide_eq_true hlt, hE, ha]; rfl, hl4.len, hl4.get (4, _) (by simp)⟩⟩
 ·have ht : tst pre op e = true := by unfold tst; rw [decide_eq_false hlt]; rfl
  cases hE : endOf (own pre e.id) with
  | true =>
   rw [hE] at hpe
   refine (path4 (nt := 83) [.f (.int .i64 (lastOf (own pre e.id))), .b false] [5, 59] (e := .normal) (vals := [(.map tm), w]) (h' := G) [pOp evC G (.load none (.c (.ptr e.p 0))) = some (.int .i64 (lastOf (own pre e.id))), cB (decide ((lastOf (own pre e.id)) > 0)) false] hl (fun t0 => by kernel_rfl) ⟨(ldC hpe (by kernel_rfl)), (cF hlt), trivial⟩).mono ?_
   rintro e' s ⟨rfl, t4, lo4, rfl, hl4⟩
   exact ⟨rfl, .inl ⟨rfl, ht, hl4⟩⟩
  | false =>
   rw [hE] at hpe
   refine (path4 (nt := 83) [.f (.int .i64 (lastOf (own pre e.id))), .b false] [5, 59] (e := .normal) (vals := [(.map tm), w]) (h' := G) [pOp evC G (.load none (.c (.ptr e.p 0))) = some (.int .i64 (lastOf (own pre e.id))), cB (decide ((lastOf (own pre e.id)) > 0)) false] hl (fun t0 => by kernel_rfl) ⟨(ldC hpe (by kernel_rfl)), (cF hlt), trivial⟩).mono ?_
   rintro e' s ⟨rfl, t4, lo4, rfl, hl4⟩
   exact ⟨rfl, .inl ⟨rfl, ht, hl4⟩⟩
theorem getX_some {t : List AV} {i : Nat} {v : AV} (h : t[i]? = some v) : getX t i = v := by rw [getX_eq, h]; rfl
theorem some_getX {t : List AV} {i : Nat} {v : AV} (hlt : i < t.length) (h : getX t i = v) : t[i]? = some v := by
 rw [getX_eq, List.getElem?_eq_getElem hlt] at h
 rw [List.getElem?_eq_getElem hlt]
 exact congrArg some h
theorem getX_put {t : List AV} {d n : Nat} {x : AV} (hne : d ≠ n) : getX (put t (some d) x) n = getX t n := by rw [getX_eq, getX_eq, put_ne hne]
theorem getX_put' {t : List AV} {d : Nat} {x : AV} (hlt : d < t.length) : getX (put t (some d) x) d = x := by
 rw [getX_eq, put, List.getElem?_set_self hlt]
 rfl
theorem mark_ams (K : Known Γ T Try.prog) (u : Un Γ) {H : List Blk} {a m : Nat} {st : Int} {pre : List Stm} {es : List E} (hL : LookAt H a m st pre es) {v : AV} {op : List (Int × Int)} (hv : OpIs v op) (hol : op.length ≤ 1000) :
  ∃ h', AMS Try.prog 25 [.ptr a 0, v] H (.bool (markB pre op)) h' ∧ H.length ≤ h'.length ∧ ∃ es', LookAt h' a m st pre es' ∧ Fr m H h' := by
 have hl0 : Lv 83 [(0, .ptr a 0), (1, v)] ([AV.ptr a 0, v] ++ List.replicate (Try.f25.ntmps - 2) (.tup [])) := ⟨by kernel_rfl, by simp [getX_eq]⟩
 have w0 := path4 (Γ := Γ) (tbl := T) (k := hd a25.body) (h := H) (lo := none) (nt := 83) [] [0, 1, 4] (e := .normal) (vals := [(.ptr a 0), v, (.bool false)]) (h' := H) [] hl0 (fun t0 => by kernel_rfl) trivial
 obtain ⟨e0, s0, ⟨rfl, t0, lo0, rfl, hl1⟩, d0⟩ := DC.det K (P := Try.prog) (code := ghd gB) (c := hd a25.body) (by kernel_rfl) w0
 have w1 := path4 (Γ := Γ) (tbl := T) (k := hd (tl a25.body)) (h := H) (lo := lo0) (nt := 83) [.w (.map (List.length H)) (apm H) none] [0, 1, 4, 5] (e := .normal) (vals := [(.ptr a 0), v, (.bool false), (.map (List.length H))]) (h' := (apm H)) [wOp evC H .mkmap = some ((.map (List.length H)), (apm H), none)] hl1 (fun t0 => by kernel_rfl) ⟨rfl, trivial⟩
 obtain ⟨e1, s1, ⟨rfl, t1, lo1, rfl, hl2⟩, d1⟩ := DC.det K (P := Try.prog) (code := ghd (gtl gB)) (c := hd (tl a25.body)) (by kernel_rfl) w1
 have w2 := mark_mid u hL hv hol (lo := lo1) hl2
 obtain ⟨e2, s2, hQ, d2⟩ := DC.det K (P := Try.prog) (code := ghd (gtl (gtl gB))) (c := hd (tl (tl a25.body))) (by kernel_rfl) w2
 have key : ∀ {r : AV} {h' : List Blk} {X : AExit → St → Prop}, DC Try.prog gB { t := [AV.ptr a 0, v] ++ List.replicate (Try.f25.ntmps - 2) (.tup []), h := H } X → (∀ e s, X e s → e = .ret ∧ getX s.t 4 = r ∧ h' = s.h) → AMS Try.prog 25 [.ptr a 0, v] H r h' := by
  intro r h' X hd hX
  refine DC.ams (fn := Try.f25) (body := gB) (rs := [.t 4]) Try.func25 (by kernel_rfl) (by kernel_rfl) (hd.mono fun e s h => ?_)
  obtain ⟨rfl, h1, h2⟩ := hX e s h
  refine ⟨(fun i hi => by cases hi), [r], ?_, rfl, h2⟩
  rw [getX_eq] at h1
  simp [resAll, resOf, h1]
 have pref : ∀ {X : AExit → St → Prop}, DC Try.prog (.seq (ghd (gtl (gtl gB))) (.seq (.seq (.region (gid (ghd gR)) oR.toArray false) (.block 2 (.loop (.seq (.region (gid (ghd gI)) #[oG oN 0, oG oN 1] false) (.seq (.cond (.tmp 61) .skip (.exit 2)) (.block 3 (.seq (.region (gid (ghd gE)) #[oG oE 0, oG oE 1, oG oE 2, oG oE 3, oG oE 4] false) (gtl gE)))))))) (gtl (gtl (gtl (gtl gB)))))) { t := t1, h := apm H, lo := lo1 } X → DC Try.prog gB { t := [AV.ptr a 0, v] ++ List.replicate (Try.f25.ntmps - 2) (.tup []), h := H } X := by
  intro X hX
  rw [gB_is]
  refine DC.seq d0 (fun s' h => ?_) (fun e s' hne h => absurd h.1 hne)
  obtain ⟨_, rfl⟩ := h
  refine DC.seq d1 (fun s' h => ?_) (fun e s' hne h => absurd h.1 hne)
  obtain ⟨_, rfl⟩ := h
  exact hX
 rcases hQ with ⟨rfl, _, h4, hob, es', hL2, hF2⟩ | ⟨rfl, hl3, hob, hinj, htm, hT, es', hL2, hF2, hqn⟩
 ·refine ⟨s2.h, ?_, hF2.1, es', hL2, hF2⟩
  rw [show markB pre op = false by unfold markB; rw [hob]; rfl]
  refine key (pref (DC.seq (R := fun e s => e = .ret ∧ s = s2) d2 (fun s' h => by cases h.1) (fun e s' hne h => h))) ?_
  rintro e s ⟨rfl, rfl⟩
  exact ⟨rfl, h4, rfl⟩
 ·obtain ⟨t, G, lo⟩ := s2
  simp only at hl3 hT hL2 hF2
  generalize hH : H.length = tm at hl3 hT htm hqn
  have hm2 := hL2.hm
  have hmg := glt hm2
  have hfin : LookAt (((G ++ [Blk.gone]).set m .gone).set m (.map (es'.map kvE))) a m st pre es' ∧ Fr m H (((G ++ [Blk.gone]).set m .gone).set m (.map (es'.map kvE))) := by
   rw [List.set_set]
   have f1 : Fr m G ((G ++ [Blk.gone]).set m (.map (es'.map kvE))) := ⟨by simp, fun i x hi hx => gne (Ne.symm hi) (ga hx)⟩
   exact ⟨hL2.fr f1 (gset (ga hm2)), hF2.trans f1⟩
  refine ⟨((G ++ [Blk.gone]).set m .gone).set m (.map (es'.map kvE)), ?_, (by have := hfin.2.1; omega), es', hfin.1, hfin.2⟩
  obtain ⟨n, t3, lo3, hrun, hl4⟩ := pathO (Γ := Γ) (tbl := T) (k := [⟨some 55, (.mv (.t 0)), none, 0, 0⟩, ⟨some 56, (.nilck (.t 55)), none, 0, 0⟩, ⟨some 57, (.fieldAddr 1 (.t 56)), none, 0, 0⟩, ⟨some 58, (.load none (.t 57)), none, 0, 0⟩]) (t := t) (lo := lo) (nt := 83) [.f (.map m)] [5, 58] (vals := [(.map tm), (.map m)]) (h' := G) [pOp evC G (.load none (.c (.ptr a 1))) = some (.map m)] hl3 (fun t0 => by kernel_rfl) ⟨(ldC hL2.ha (by kernel_rfl)), trivial⟩
  have ht3 : t3.length = 83 := hl4.len
  have hr := DC.range (P := Try.prog) (call := callF Γ T n) (callF_sound Γ T K n) (i0 := gid (ghd gR)) (i1 := gid (ghd gI)) (i2 := gid (ghd gE)) (out := 2) (nxt := 3) (it := 59) (nx := 60) (more := 61) (pair := 62) (kx := 63) (vx := 64) (k := 9) (v := 10) (ops0 := oR.toArray) (body := gtl gE)
   (o0 := oG oR 4) (o1 := oG oN 0) (o2 := oG oN 1) (o3 := oG oE 0) (o4 := oG oE 1) (o5 := oG oE 2) (o6 := oG oE 3) (o7 := oG oE 4) (T := tyR) (kt := kR) (vt := vR) (tm := 58) (oR.take 4) (by kernel_rfl)
   ⟨by kernel_rfl, by kernel_rfl, by kernel_rfl⟩ ⟨by kernel_rfl, by kernel_rfl, by kernel_rfl⟩ ⟨by kernel_rfl, by kernel_rfl, by kernel_rfl⟩ ⟨by kernel_rfl, by kernel_rfl, by kernel_rfl⟩ ⟨by kernel_rfl, by kernel_rfl, by kernel_rfl⟩ ⟨by kernel_rfl, by kernel_rfl, by kernel_rfl⟩ ⟨by kernel_rfl, by kernel_rfl, by kernel_rfl⟩ ⟨by kernel_rfl, by kernel_rfl, by kernel_rfl⟩ (by kernel_rfl)
   (s := { t := t, h := G, lo := lo }) (s1 := { t := t3, h := G, lo := lo3 }) (by kernel_rfl) hrun (id := m) (es := es'.map kvE) (by have := hl4.get (58, .map m) (by simp); rw [getX_eq] at this; exact this) hm2
   (by simp only [ht3]; decide) (by decide)
   (fun is t h => Lv 83 [(5, .map tm)] t ∧ h = (G ++ [Blk.gone]).set m .gone ∧ ∀ i ∈ is, ∀ e, es'[i]? = some e → tst pre op e = true)
   (fun t h => t.length = 83 ∧ getX t 4 = .bool false ∧ h = (G ++ [Blk.gone]).set m .gone ∧ ∃ e ∈ es', tst pre op e = false)
   (fun is t h hi => hi.1.len.trans ht3.symm)
   ⟨⟨by rw [put_len]; exact ht3, fun p hp => by rw [List.mem_singleton.1 hp]; show getX _ 5 = _; exact (getX_put (by decide)).trans (hl4.get (5, _) (by simp))⟩, rfl, (fun i hi => by cases hi)⟩
   (fun is t h i kv hkv hni hit hgone hinv => ?_)
  ·-- behind the loop
   have ht4 : ∀ (t' : List AV), t'.length = 83 → Wp Γ T (tl (tl (tl (tl a25.body)))) { t := t', h := ((G ++ [Blk.gone]).set m .gone).set m (.map (es'.map kvE)), lo := none } fun e s => e = .ret ∧ getX s.t 4 = .bool true ∧ s.h = ((G ++ [Blk.gone]).set m .gone).set m (.map (es'.map kvE)) := by
    intro t' hlen
    generalize ((G ++ [Blk.gone]).set m .gone).set m (.map (es'.map kvE)) = G
    have hl : Lv 83 [] t' := ⟨hlen, by simp⟩
    refine (path4 (nt := 83) [] [4] (e := .ret) (vals := [(.bool true)]) (h' := G) [] hl (fun t0 => by kernel_rfl) trivial).mono ?_
    rintro e s ⟨rfl, t5, lo5, rfl, hl5⟩
    exact ⟨rfl, hl5.get (4, _) (by simp), rfl⟩
   by_cases hall : ∀ e ∈ es', tst pre op e = true
   ·rw [show markB pre op = true by unfold markB; rw [hob, (tst_all hL2 op).2 hall]; rfl]
    refine key (pref (DC.seq (R := fun e s => e = .ret ∧ getX s.t 4 = .bool true ∧ s.h = ((G ++ [Blk.gone]).set m .gone).set m (.map (es'.map kvE))) d2 (fun s' h => ?_) (fun e s' hne h => absurd h.1 hne))) (fun e s h => ⟨h.1, h.2.1, h.2.2.symm⟩)
    obtain ⟨_, rfl⟩ := h
    refine DC.seq hr (fun s' h => ?_) (fun e s' hne h => ?_)
    ·rcases h with ⟨_, is, t, h, _, _, hi, _, h1, h2⟩ | ⟨h, _⟩
     ·obtain ⟨t', h', lo'⟩ := s'
      simp only at h1 h2
      rw [hi.2.1] at h2
      subst h2
      have hw := ht4 t' (by rw [h1, put_len, put_len]; exact hi.1.len)
      exact DC.wp K (by kernel_rfl) (Wp.lo (fun e s y h => h) hw)
     ·cases h
    ·rcases h with ⟨h, _⟩ | ⟨_, t, h, ⟨_, _, _, e, he, hf⟩, _⟩
     ·exact absurd h hne
     ·rw [hall e he] at hf; cases hf
   ·rw [show markB pre op = false by
     unfold markB
     rw [hob, Bool.true_and, ← Bool.not_eq_true, tst_all hL2 op]
     exact hall]
    refine key (pref (DC.seq (R := fun e s => e = .ret ∧ getX s.t 4 = .bool false ∧ s.h = ((G ++ [Blk.gone]).set m .gone).set m (.map (es'.map kvE))) d2 (fun s' h => ?_) (fun e s' hne h => absurd h.1 hne))) (fun e s h => ⟨h.1, h.2.1, h.2.2.symm⟩)
    obtain ⟨_, rfl⟩ := h
    refine DC.seq hr (fun s' h => ?_) (fun e s' hne h => ?_)
    ·rcases h with ⟨_, is, t, h, _, hiall, hi, _, _, _⟩ | ⟨h, _⟩
     ·refine absurd (fun e he => ?_) hall
      obtain ⟨j, hj, rfl⟩ := List.getElem_of_mem he
      exact hi.2.2 j (hiall j (by simpa using hj)) _ (List.getElem?_eq_getElem hj)
     ·cases h
    ·rcases h with ⟨h, _⟩ | ⟨_, t, h, ⟨_, h4, h5, _⟩, _, h6, h7⟩
     ·exact absurd h hne
     ·exact ⟨‹_›, by rw [h6]; exact h4, by rw [h7, h5]⟩
  ·-- a round
   obtain ⟨hv5, rfl, his⟩ := hinv
   rw [List.getElem?_map, Option.map_eq_some_iff] at hkv
   obtain ⟨e, hei, rfl⟩ := hkv
   have hem := List.mem_of_getElem? hei
   have hlt := hv5.len
   have keep : ∀ {j : Nat} {x : Blk}, j ≠ m → G[j]? = some x → ((G ++ [Blk.gone]).set m .gone)[j]? = some x := fun hj hx => gne (Ne.symm hj) (ga hx)
   have hlv : Lv 83 [(5, .map tm), (9, .int .i64 e.id), (10, .ptr e.p 0), (59, .ptr G.length 0)] (ent 60 61 62 63 64 9 10 t (kvE e)) := by
    refine ⟨by simp only [ent, put_len]; exact hlt, fun p hp => ?_⟩
    unfold ent
    simp only [List.mem_cons, List.not_mem_nil, or_false] at hp
    rcases hp with rfl | rfl | rfl | rfl
    ·show getX _ 5 = _
     rw [getX_put (by decide), getX_put (by decide), getX_put (by decide), getX_put (by decide), getX_put (by decide), getX_put (by decide), getX_put (by decide)]
     exact hv5.get (5, _) (by simp)
    ·show getX _ 9 = _
     rw [getX_put (by decide), getX_put' (by simp only [put_len, hlt]; decide)]
    ·show getX _ 10 = _
     rw [getX_put' (by simp only [put_len, hlt]; decide)]
    ·show getX _ 59 = _
     rw [getX_put (by decide), getX_put (by decide), getX_put (by decide), getX_put (by decide), getX_put (by decide), getX_put (by decide), getX_put (by decide)]
     exact getX_some hit
   have hw := mark_body (Γ := Γ) (st := st) (pre := pre) (op := op) hlv (keep (hL2.pm hem) (hL2.hp e hem)) (keep htm hT) hinj
   refine (DC.wp K (P := Try.prog) (code := gtl gE) (by kernel_rfl) hw).mono fun e2 s' h => ?_
   obtain ⟨h1, ⟨rfl, h2, h3⟩ | ⟨rfl, h2, h3, h4⟩⟩ := h
   ·refine .inl ⟨.inl rfl, some_getX (by rw [h3.len]; decide) (h3.get (59, _) (by simp)), by rw [h1]; exact gset (ga hm2), ⟨h3.len, fun p hp => by rw [List.mem_singleton.1 hp]; exact h3.get (5, _) (by simp)⟩, h1, fun j hj e' he' => ?_⟩
    rcases List.mem_cons.1 hj with rfl | hj
    ·rw [hei] at he'; cases he'; exact h2
    ·exact his j hj e' he'
   ·exact .inr ⟨rfl, by rw [h1]; exact gset (ga hm2), h3, h4, h1, e, hem, h2⟩
end
open Go
theorem OpIs.uniq {v : AV} {l l' : List (Int × Int)} (h : OpIs v l) (h' : OpIs v l') : l = l' := by
 rcases h with ⟨rfl, rfl⟩ | ⟨ex, rfl⟩ <;> rcases h' with ⟨h1, rfl⟩ | ⟨ex', h1⟩
 ·rfl
 ·cases h1
 ·cases h1
 ·injection h1 with h1 _ _
  refine map_inj (fun a b h => ?_) h1
  simp only [enO, AV.agg.injEq, List.cons.injEq, AV.int.injEq, true_and, and_true] at h
  exact Prod.ext h.1 h.2
def IM (l : List Stm) (args : List AV) (h : List Blk) (r : AV) (h' : List Blk) : Prop :=
 ∃ i a m es v op, i ≤ l.length ∧ args = [.ptr a 0, v] ∧ LookAt h a m (lastOf (l.take i)) (l.take i) es ∧ GoodP (l.take i) ∧ OpIs v op ∧ r = .bool (markB (l.take i) op) ∧ ∃ es', LookAt h' a m (lastOf (l.take i)) (l.take i) es' ∧ Fr m h h'
noncomputable def gam0 : List (Nat × GF) := []
theorem K0 : Known (gGet gam0) T Try.prog := known_of (by kernel_rfl) trivial all
noncomputable def gam1 (l : List Stm) : List (Nat × GF) := [(25, anyG Try.prog 25 (IM l))]
theorem K1 (l : List Stm) : Known (gGet (gam1 l)) T Try.prog := known_of (by kernel_rfl) ⟨anyG_ok ⟨_, Try.func25, by kernel_rfl, by kernel_rfl⟩, trivial⟩ all
theorem U0 : Un (gGet gam0) := ⟨rfl, rfl, rfl, rfl, rfl, rfl, rfl, rfl, rfl, rfl, rfl⟩
theorem U1 (l : List Stm) : Un (gGet (gam1 l)) := ⟨rfl, rfl, rfl, rfl, rfl, rfl, rfl, rfl, rfl, rfl, rfl⟩
theorem mark_at (l : List Stm) (i : Nat) (hi : i < l.length) : MarkAt (gGet (gam1 l)) (l.take i) := by
 intro H a m es v op hL hG hv hol
 obtain ⟨h', ha, hlen, es', hL', hF'⟩ := mark_ams K0 U0 hL hv hol
 obtain ⟨r, h2, lo, hI, hc⟩ := anyG_cl (Γ := gGet (gam1 l)) (tbl := T) (f := 25) (I := IM l) rfl (args := [.ptr a 0, v]) (h := H) ⟨i, a, m, es, v, op, by omega, rfl, hL, hG, hv, rfl, es', hL', hF'⟩ ha hlen
 obtain ⟨i', a', m', es2, v', op', h1, h3, h4, h5, h6, rfl, es3, h7, h8⟩ := hI
 injection h3 with h3 h9
 injection h9 with h9 _
 injection h3 with h3 _
 subst h3; subst h9
 have hb := h4.ha
 rw [hL.ha] at hb
 simp only [Option.some.injEq, Blk.cells.injEq, List.cons.injEq, AV.int.injEq, AV.map.injEq, true_and, and_true] at hb
 obtain ⟨hst, rfl⟩ := hb
 have : i = i' := take_eq (by omega) h1 hG h5 hst
 subst this
 have := hv.uniq h6
 subst this
 exact ⟨h2, lo, es3, hc, h7, h8⟩
structure OkL (l : List Stm) : Prop where
 one : ∀ s ∈ l, One s.r ∧ s.r.op.length ≤ 1000
 len : l.length ≤ 1000
theorem wrong_pure {v : AV} {l : List Stm} (hv : LIs v l) (h : OkL l) : PureS Try.prog 8 [v] (.int .i64 (wrongB [] l 0)) := by
 obtain ⟨h', lo, hc⟩ := wrong_cl (U1 l) rfl (mark_at l) hv h.one h.len
 exact pureS_cl (K1 l) hc rfl rfl
end Go.Proofs.Ytlhbfikfnecknaa.AM.Ch
