/-
  'gauger's law ArkExact holds of every input: it returns true, and each argument reads behind the call as it read before.
  This text: part 16 of 19 of the proof (AxC, AxD, AxE, AxF, AxG, AxH, AxI).
-/
import Derived.Test.YtfkkeddjfiljfaaMao
import Derived.Test.YtfkkeddjfiljfaaMam
set_option linter.unusedVariables false
set_option linter.unusedSimpArgs false
set_option maxRecDepth 100000
namespace Go.Proofs.Ytfkkeddjfiljfaa.AM.Ax
open Go
abbrev Vw := Int × Int × List Int
abbrev wV (v : Vw) : AV := .agg [.int .i64 v.1, .int .i64 v.2.1, .ro (v.2.2.map iV) 1 false]
def colsOk (c : List Int) : Bool := c.all fun k => k == 1 || k == 2
def tabOk (c : List Int) : Bool := !decide ((c.length : Int) < 1) && (!decide ((c.length : Int) > 4) && colsOk c)
def sumsOk (c : List Int) : Option Int → List Int → Bool
 | _, [] => true
 | p, s :: r => if s < 0 then false else if s ≥ (c.length : Int) then false else match c[s.toNat]? with
  | some x => if x = 1 then (match p with
   | some q => if s ≤ q then false else sumsOk c (some s) r
   | none => sumsOk c (some s) r) else false
  | none => false
theorem sumsOk_cons (c : List Int) (p : Option Int) (s : Int) (r : List Int) : sumsOk c p (s :: r) = if s < 0 then false else if s ≥ (c.length : Int) then false else match c[s.toNat]? with
  | some x => if x = 1 then (match p with
   | some q => if s ≤ q then false else sumsOk c (some s) r
   | none => sumsOk c (some s) r) else false
  | none => false := by cases p <;> rw [sumsOk]
def viewOk (T : List (List Int)) (v : Vw) : Bool := if v.1 < 0 then false else match T[v.1.toNat]? with
 | some c => if v.2.1 < 0 then false else if v.2.1 ≥ (c.length : Int) then false else if (v.2.2.length : Int) > 2 then false else sumsOk c none v.2.2
 | none => false
def planOk (T : List (List Int)) (V : List Vw) : Bool := !decide ((T.length : Int) < 1) && (!decide ((T.length : Int) > 3) && (!decide ((V.length : Int) > 4) && (T.all tabOk && V.all (viewOk T))))
abbrev bG : ACode := a18.body
def L1 : ACode := lp (blk (tl (hd (tl (tl bG)))))
def L1i : ACode := lp (blk (tl (tl (tl (blk (hd (tl L1)))))))
def L2 : ACode := lp (blk (tl (hd (tl (tl (tl bG))))))
def L2i : ACode := lp (blk (tl (tl (tl (tl (tl (blk (hd (tl L2)))))))))
def QG (r : Bool) (e : AExit) (s : St) : Prop := e = .ret ∧ getX s.t 2 = .bool r
theorem QG_of {t : List AV} {h : List Blk} {lo} {r : Bool} (hl : Lv 153 [(2, .bool r)] t) : QG r .ret { t := t, h := h, lo := lo } := ⟨rfl, hl.get _ (List.mem_singleton.2 rfl)⟩
theorem l1i_ok {c : List Int} (hc : c.length ≤ 9223372036854775807) {h : List Blk} {n : Int} {t0 : List AV} (hlv : Lv 153 [(1, .ptr 0 0), (3, .int .i64 n), (4, .ro (c.map iV) 1 false), (5, .int .i64 0)] t0) :
  Wp G1 T (.loop L1i) { t := t0, h := h, lo := none } fun e s => (QG false e s ∧ colsOk c = false) ∨ (e = .exit 2 ∧ colsOk c = true ∧ ∃ t2, s = { t := t2, h := h, lo := none } ∧ Lv 153 [(1, .ptr 0 0), (3, .int .i64 n)] t2) := by
 refine Wp.loop (fun k s => ∃ (i : Nat) (t1 : List AV), s = { t := t1, h := h, lo := none } ∧ k = c.length - i ∧ i ≤ c.length ∧ Lv 153 [(1, .ptr 0 0), (3, .int .i64 n), (4, .ro (c.map iV) 1 false), (5, .int .i64 (i : Int))] t1 ∧ colsOk (c.drop i) = colsOk c) ?_ c.length _ ⟨0, t0, rfl, by omega, by omega, hlv, rfl⟩
 rintro k s ⟨i, t1, rfl, rfl, hi, hl, hF⟩
 by_cases hlt : i < c.length
 ·have e1 := List.getElem?_eq_getElem hlt
  rw [List.drop_eq_getElem_cons hlt] at hF
  generalize c[i] = x at e1 hF
  have g1 : (i : Int) < ((c.map iV).length : Int) := by simp; omega
  have g2 : (c.map iV)[(i : Int).toNat]? = some (iV x) := by simp [e1]
  by_cases h1 : x = 1
  ·refine (path2 [1, 3, 4, 5] (e := .normal) (vals := [.ptr 0 0, .int .i64 n, .ro (c.map iV) 1 false, .int .i64 (IntKind.i64.wrap ((i : Int) + 1))]) (h' := h) (ds := [.b true, .v (iV x), .b false])
    (cs := [cB (decide ((i : Int) < ((c.map iV).length : Int))) true, 1 = 1, 0 ≤ (i : Int), (i : Int) < ((c.map iV).length : Int), (c.map iV)[(i : Int).toNat]? = some (iV x), cB (x != 1) false]) hl (fun t0 => by kernel_rfl) ⟨cT g1, rfl, by omega, g1, g2, cS h1, trivial⟩).mono ?_
   rintro e s ⟨rfl, t3, rfl, hl3⟩
   rw [i64_succ (by omega) (by omega)] at hl3
   exact ⟨c.length - (i + 1), by omega, i + 1, t3, rfl, rfl, by omega, hl3, by rw [← hF]; simp [colsOk, h1]⟩
  ·by_cases h2 : x = 2
   ·refine (path2 [1, 3, 4, 5] (e := .normal) (vals := [.ptr 0 0, .int .i64 n, .ro (c.map iV) 1 false, .int .i64 (IntKind.i64.wrap ((i : Int) + 1))]) (h' := h) (ds := [.b true, .v (iV x), .b true, .v (iV x), .b false])
     (cs := [cB (decide ((i : Int) < ((c.map iV).length : Int))) true, 1 = 1, 0 ≤ (i : Int), (i : Int) < ((c.map iV).length : Int), (c.map iV)[(i : Int).toNat]? = some (iV x), cB (x != 1) true, 1 = 1, 0 ≤ (i : Int), (i : Int) < ((c.map iV).length : Int), (c.map iV)[(i : Int).toNat]? = some (iV x), cB (x != 2) false]) hl (fun t0 => by kernel_rfl) ⟨cT g1, rfl, by omega, g1, g2, cD h1, rfl, by omega, g1, g2, cS h2, trivial⟩).mono ?_
    rintro e s ⟨rfl, t3, rfl, hl3⟩
    rw [i64_succ (by omega) (by omega)] at hl3
    exact ⟨c.length - (i + 1), by omega, i + 1, t3, rfl, rfl, by omega, hl3, by rw [← hF]; simp [colsOk, h2]⟩
   ·refine (path2 [2] (e := .ret) (vals := [.bool false]) (h' := h) (ds := [.b true, .v (iV x), .b true, .v (iV x), .b true])
     (cs := [cB (decide ((i : Int) < ((c.map iV).length : Int))) true, 1 = 1, 0 ≤ (i : Int), (i : Int) < ((c.map iV).length : Int), (c.map iV)[(i : Int).toNat]? = some (iV x), cB (x != 1) true, 1 = 1, 0 ≤ (i : Int), (i : Int) < ((c.map iV).length : Int), (c.map iV)[(i : Int).toNat]? = some (iV x), cB (x != 2) true]) hl (fun t0 => by kernel_rfl) ⟨cT g1, rfl, by omega, g1, g2, cD h1, rfl, by omega, g1, g2, cD h2, trivial⟩).mono ?_
    rintro e s ⟨rfl, t3, rfl, hl3⟩
    exact .inl ⟨QG_of hl3, by rw [← hF]; simp [colsOk, h1, h2]⟩
 ·refine (path2 [1, 3] (e := .exit 2) (vals := [.ptr 0 0, .int .i64 n]) (h' := h) (ds := [.b false]) (cs := [cB (decide ((i : Int) < ((c.map iV).length : Int))) false]) hl (fun t0 => by kernel_rfl) ⟨cF (by simp; omega), trivial⟩).mono ?_
  rintro e s ⟨rfl, t3, rfl, hl3⟩
  exact .inr ⟨rfl, by rw [← hF, List.drop_of_length_le (by omega)]; rfl, t3, rfl, hl3⟩
theorem l1_ok {T : List (List Int)} {vs : AV} (hT : T.length ≤ 9223372036854775807) (hc : ∀ c ∈ T, c.length ≤ 9223372036854775807) {t0 : List AV} (hlv : Lv 153 [(1, .ptr 0 0), (3, .int .i64 0)] t0) :
  Wp G1 Ax.T (.loop L1) { t := t0, h := [pH T vs], lo := none } fun e s => (QG false e s ∧ T.all tabOk = false) ∨ (e = .exit 0 ∧ T.all tabOk = true ∧ ∃ t2, s = { t := t2, h := [pH T vs], lo := none } ∧ Lv 153 [(1, .ptr 0 0)] t2) := by
 refine Wp.loop (fun k s => ∃ (i : Nat) (t1 : List AV), s = { t := t1, h := [pH T vs], lo := none } ∧ k = T.length - i ∧ i ≤ T.length ∧ Lv 153 [(1, .ptr 0 0), (3, .int .i64 (i : Int))] t1 ∧ (T.drop i).all tabOk = T.all tabOk) ?_ T.length _ ⟨0, t0, rfl, by omega, by omega, hlv, rfl⟩
 rintro k s ⟨i, t1, rfl, rfl, hi, hl, hF⟩
 refine Wp.seq ?_
 by_cases hlt : i < T.length
 ·have e1 := List.getElem?_eq_getElem hlt
  have hm : T[i] ∈ T := List.getElem_mem hlt
  rw [List.drop_eq_getElem_cons hlt, List.all_cons] at hF
  generalize T[i] = c at e1 hF hm
  have hcl := hc c hm
  have g1 : (i : Int) < ((T.map tV).length : Int) := by simp; omega
  have g2 : (T.map tV)[(i : Int).toNat]? = some (tV c) := by simp [e1]
  refine (path2 [1, 3] (e := .normal) (vals := [.ptr 0 0, .int .i64 (i : Int)]) (h' := [pH T vs]) (ds := [.b true]) (cs := [cB (decide ((i : Int) < ((T.map tV).length : Int))) true]) hl (fun t0 => by kernel_rfl) ⟨cT g1, trivial⟩).mono ?_
  rintro e s ⟨rfl, t2, rfl, hl2⟩
  refine Wp.seq (Wp.block (Wp.seq ?_))
  refine (path2 [1, 3, 4] (e := .normal) (vals := [.ptr 0 0, .int .i64 (i : Int), .ro (c.map iV) 1 false]) (h' := [pH T vs]) (ds := [.v (tV c)]) (cs := [1 = 1, 0 ≤ (i : Int), (i : Int) < ((T.map tV).length : Int), (T.map tV)[(i : Int).toNat]? = some (tV c)]) hl2 (fun t0 => by kernel_rfl) ⟨rfl, by omega, g1, g2, trivial⟩).mono ?_
  rintro e s ⟨rfl, t3, rfl, hl3⟩
  refine Wp.seq ?_
  have hlm : ((c.map iV).length : Int) = (c.length : Int) := by simp
  by_cases h1 : ((c.map iV).length : Int) < 1
  ·refine (path2 [2] (e := .ret) (vals := [.bool false]) (h' := [pH T vs]) (ds := [.b true]) (cs := [cB (decide (((c.map iV).length : Int) < 1)) true]) hl3 (fun t0 => by kernel_rfl) ⟨cT h1, trivial⟩).mono ?_
   rintro e s ⟨rfl, t4, rfl, hl4⟩
   refine .inl ⟨QG_of hl4, ?_⟩
   rw [hlm] at h1
   rw [← hF, tabOk, decide_eq_true h1]
   rfl
  by_cases h2 : ((c.map iV).length : Int) > 4
  ·refine (path2 [2] (e := .ret) (vals := [.bool false]) (h' := [pH T vs]) (ds := [.b false, .b true]) (cs := [cB (decide (((c.map iV).length : Int) < 1)) false, cB (decide (((c.map iV).length : Int) > 4)) true]) hl3 (fun t0 => by kernel_rfl) ⟨cF h1, cT h2, trivial⟩).mono ?_
   rintro e s ⟨rfl, t4, rfl, hl4⟩
   refine .inl ⟨QG_of hl4, ?_⟩
   rw [hlm] at h2
   rw [← hF, tabOk, decide_eq_true h2]
   simp
  refine (path2 [1, 3, 4] (e := .normal) (vals := [.ptr 0 0, .int .i64 (i : Int), .ro (c.map iV) 1 false]) (h' := [pH T vs]) (ds := [.b false, .b false]) (cs := [cB (decide (((c.map iV).length : Int) < 1)) false, cB (decide (((c.map iV).length : Int) > 4)) false]) hl3 (fun t0 => by kernel_rfl) ⟨cF h1, cF h2, trivial⟩).mono ?_
  rintro e s ⟨rfl, t4, rfl, hl4⟩
  refine Wp.seq ?_
  refine (path2 [1, 3, 4, 5] (e := .normal) (vals := [.ptr 0 0, .int .i64 (i : Int), .ro (c.map iV) 1 false, .int .i64 0]) (h' := [pH T vs]) (ds := []) (cs := []) hl4 (fun t0 => by kernel_rfl) trivial).mono ?_
  rintro e s ⟨rfl, t5, rfl, hl5⟩
  refine Wp.block ?_
  have htab : tabOk c = colsOk c := by
   rw [hlm] at h1 h2
   rw [tabOk, decide_eq_false h1, decide_eq_false h2]
   simp
  refine (l1i_ok hcl hl5).mono ?_
  rintro e s (⟨⟨rfl, h3⟩, h4⟩ | ⟨rfl, h4, t6, rfl, hl6⟩)
  ·exact .inl ⟨⟨rfl, h3⟩, by rw [← hF, htab, h4]; rfl⟩
  ·refine (path2 [1, 3] (e := .normal) (vals := [.ptr 0 0, .int .i64 (IntKind.i64.wrap ((i : Int) + 1))]) (h' := [pH T vs]) (ds := []) (cs := []) hl6 (fun t0 => by kernel_rfl) trivial).mono ?_
   rintro e s ⟨rfl, t7, rfl, hl7⟩
   rw [i64_succ (by omega) (by omega)] at hl7
   exact ⟨T.length - (i + 1), by omega, i + 1, t7, rfl, rfl, by omega, hl7, by rw [← hF, htab, h4]; rfl⟩
 ·refine (path2 [1] (e := .exit 0) (vals := [.ptr 0 0]) (h' := [pH T vs]) (ds := [.b false]) (cs := [cB (decide ((i : Int) < ((T.map tV).length : Int))) false]) hl (fun t0 => by kernel_rfl) ⟨cF (by simp; omega), trivial⟩).mono ?_
  rintro e s ⟨rfl, t3, rfl, hl3⟩
  exact .inr ⟨rfl, by rw [← hF, List.drop_of_length_le (by omega)]; rfl, t3, rfl, hl3⟩
open Go
abbrev wC (v : Vw) : List AV := [.int .i64 v.1, .int .i64 v.2.1, .ro (v.2.2.map iV) 1 false]
abbrev ldC (h : List Blk) (id off : Nat) (x : AV) : Prop := (rdCells h id off 1).bind (asVar none) = some x
abbrev hW (T : List (List Int)) (vs : AV) (junk : List Blk) (v : Vw) : List Blk := pH T vs :: (junk ++ [.cells (wC v)])
theorem ld0 (T vs junk v) : ldC (hW T vs junk v) (junk.length + 1) 0 (.int .i64 v.1) := by simp [ldC, hW, rdCells, asVar, one?]
theorem ld1 (T vs junk v) : ldC (hW T vs junk v) (junk.length + 1) 1 (.int .i64 v.2.1) := by simp [ldC, hW, rdCells, asVar, one?]
theorem ld2 (T vs junk v) : ldC (hW T vs junk v) (junk.length + 1) 2 (.ro (v.2.2.map iV) 1 false) := by simp [ldC, hW, rdCells, asVar, one?]
theorem ldP (T vs junk v) : ldC (hW T vs junk v) 0 0 (.ro (T.map tV) 1 false) := rfl
def prev (l : List Int) (i : Nat) : Option Int := if i = 0 then none else l[i - 1]?
theorem l2i_ok {T : List (List Int)} {vs : AV} {junk : List Blk} {v : Vw} {c : List Int} {n : Int} (hs : v.2.2.length ≤ 9223372036854775807) {t0 : List AV} (hlv : Lv 153 [(1, .ptr 0 0), (6, .int .i64 n), (7, .ptr (junk.length + 1) 0), (8, .ro (c.map iV) 1 false), (9, .int .i64 0)] t0) :
  Wp G1 Ax.T (.loop L2i) { t := t0, h := hW T vs junk v, lo := some (junk.length + 1) } fun e s => (QG false e s ∧ sumsOk c none v.2.2 = false) ∨ (e = .exit 6 ∧ sumsOk c none v.2.2 = true ∧ ∃ t2, s = { t := t2, h := hW T vs junk v, lo := some (junk.length + 1) } ∧ Lv 153 [(1, .ptr 0 0), (6, .int .i64 n)] t2) := by
 obtain ⟨vt, vb, l⟩ := v
 have hs : l.length ≤ 9223372036854775807 := hs
 refine Wp.loop (fun k s => ∃ (i : Nat) (t1 : List AV), s = { t := t1, h := hW T vs junk (vt, vb, l), lo := some (junk.length + 1) } ∧ k = l.length - i ∧ i ≤ l.length ∧ Lv 153 [(1, .ptr 0 0), (6, .int .i64 n), (7, .ptr (junk.length + 1) 0), (8, .ro (c.map iV) 1 false), (9, .int .i64 (i : Int))] t1 ∧ sumsOk c (prev l i) (l.drop i) = sumsOk c none l) ?_ l.length _ ⟨0, t0, rfl, by omega, by omega, hlv, rfl⟩
 rintro k s ⟨i, t1, rfl, rfl, hi, hl, hF⟩
 have r2 := ld2 T vs junk (vt, vb, l)
 by_cases hlt : i < l.length
 ·have e1 := List.getElem?_eq_getElem hlt
  rw [List.drop_eq_getElem_cons hlt, sumsOk_cons] at hF
  have hpn : prev l (i + 1) = some l[i] := by simp [prev, e1]
  generalize l[i] = x at e1 hF hpn
  have g1 : (i : Int) < ((l.map iV).length : Int) := by simp; omega
  have g2 : (l.map iV)[(i : Int).toNat]? = some (iV x) := by simp [e1]
  by_cases h1 : x < 0
  ·rw [if_pos h1] at hF
   refine (path3 [2] (e := .ret) (vals := [.bool false]) (h' := hW T vs junk (vt, vb, l)) (lo' := some (junk.length + 1)) (ds := [.f (.ro (l.map iV) 1 false), .b true, .f (.ro (l.map iV) 1 false), .v (iV x), .b true])
    (cs := [ldC (hW T vs junk (vt, vb, l)) (junk.length + 1) 2 (.ro (l.map iV) 1 false), cB (decide ((i : Int) < ((l.map iV).length : Int))) true, ldC (hW T vs junk (vt, vb, l)) (junk.length + 1) 2 (.ro (l.map iV) 1 false), 1 = 1, 0 ≤ (i : Int), (i : Int) < ((l.map iV).length : Int), (l.map iV)[(i : Int).toNat]? = some (iV x), cB (decide (x < 0)) true]) hl (fun t0 => by kernel_rfl) ⟨r2, cT g1, r2, rfl, by omega, g1, g2, cT h1, trivial⟩).mono ?_
   rintro e s ⟨rfl, t3, rfl, hl3⟩
   exact .inl ⟨QG_of hl3, hF.symm⟩
  rw [if_neg h1] at hF
  have hcm : ((c.map iV).length : Int) = (c.length : Int) := by simp
  by_cases h2 : x ≥ ((c.map iV).length : Int)
  ·have h2' := h2
   rw [hcm] at h2'
   rw [if_pos h2'] at hF
   refine (path3 [2] (e := .ret) (vals := [.bool false]) (h' := hW T vs junk (vt, vb, l)) (lo' := some (junk.length + 1)) (ds := [.f (.ro (l.map iV) 1 false), .b true, .f (.ro (l.map iV) 1 false), .v (iV x), .b false, .b true])
    (cs := [ldC (hW T vs junk (vt, vb, l)) (junk.length + 1) 2 (.ro (l.map iV) 1 false), cB (decide ((i : Int) < ((l.map iV).length : Int))) true, ldC (hW T vs junk (vt, vb, l)) (junk.length + 1) 2 (.ro (l.map iV) 1 false), 1 = 1, 0 ≤ (i : Int), (i : Int) < ((l.map iV).length : Int), (l.map iV)[(i : Int).toNat]? = some (iV x), cB (decide (x < 0)) false, cB (decide (x ≥ ((c.map iV).length : Int))) true]) hl (fun t0 => by kernel_rfl) ⟨r2, cT g1, r2, rfl, by omega, g1, g2, cF h1, cT h2, trivial⟩).mono ?_
   rintro e s ⟨rfl, t3, rfl, hl3⟩
   exact .inl ⟨QG_of hl3, hF.symm⟩
  rw [if_neg (by rw [← hcm]; exact h2)] at hF
  have hxl : x.toNat < c.length := by omega
  have e2 := List.getElem?_eq_getElem hxl
  generalize c[x.toNat] = y at e2
  rw [e2] at hF
  simp only at hF
  have g3 : x < ((c.map iV).length : Int) := by omega
  have g4 : (c.map iV)[x.toNat]? = some (iV y) := by simp [e2]
  by_cases h3 : y = 1
  case neg =>
   rw [if_neg h3] at hF
   refine (path3 [2] (e := .ret) (vals := [.bool false]) (h' := hW T vs junk (vt, vb, l)) (lo' := some (junk.length + 1)) (ds := [.f (.ro (l.map iV) 1 false), .b true, .f (.ro (l.map iV) 1 false), .v (iV x), .b false, .b false, .v (iV y), .b true])
    (cs := [ldC (hW T vs junk (vt, vb, l)) (junk.length + 1) 2 (.ro (l.map iV) 1 false), cB (decide ((i : Int) < ((l.map iV).length : Int))) true, ldC (hW T vs junk (vt, vb, l)) (junk.length + 1) 2 (.ro (l.map iV) 1 false), 1 = 1, 0 ≤ (i : Int), (i : Int) < ((l.map iV).length : Int), (l.map iV)[(i : Int).toNat]? = some (iV x), cB (decide (x < 0)) false, cB (decide (x ≥ ((c.map iV).length : Int))) false, 1 = 1, 0 ≤ x, x < ((c.map iV).length : Int), (c.map iV)[x.toNat]? = some (iV y), cB (y != 1) true]) hl (fun t0 => by kernel_rfl) ⟨r2, cT g1, r2, rfl, by omega, g1, g2, cF h1, cF h2, rfl, by omega, g3, g4, cD h3, trivial⟩).mono ?_
   rintro e s ⟨rfl, t3, rfl, hl3⟩
   exact .inl ⟨QG_of hl3, hF.symm⟩
  rw [if_pos h3] at hF
  by_cases h4 : (i : Int) > 0
  ·have hp : prev l i = l[i - 1]? := by rw [prev, if_neg (by omega)]
   have hi1 : i - 1 < l.length := by omega
   have e3 := List.getElem?_eq_getElem hi1
   generalize l[i - 1] = q at e3
   rw [hp, e3] at hF
   simp only at hF
   have hw : IntKind.i64.wrap ((i : Int) - 1) = (i : Int) - 1 := IntWalk.i64_in _ (by omega)
   have g5 : 0 ≤ IntKind.i64.wrap ((i : Int) - 1) := by rw [hw]; omega
   have g6 : IntKind.i64.wrap ((i : Int) - 1) < ((l.map iV).length : Int) := by rw [hw]; simp; omega
   have g7 : (l.map iV)[(IntKind.i64.wrap ((i : Int) - 1)).toNat]? = some (iV q) := by
    rw [hw, show ((i : Int) - 1).toNat = i - 1 by omega]
    simp [e3]
   by_cases h5 : x ≤ q
   ·rw [if_pos h5] at hF
    refine (path3 [2] (e := .ret) (vals := [.bool false]) (h' := hW T vs junk (vt, vb, l)) (lo' := some (junk.length + 1)) (ds := [.f (.ro (l.map iV) 1 false), .b true, .f (.ro (l.map iV) 1 false), .v (iV x), .b false, .b false, .v (iV y), .b false, .b true, .f (.ro (l.map iV) 1 false), .v (iV q), .b true])
     (cs := [ldC (hW T vs junk (vt, vb, l)) (junk.length + 1) 2 (.ro (l.map iV) 1 false), cB (decide ((i : Int) < ((l.map iV).length : Int))) true, ldC (hW T vs junk (vt, vb, l)) (junk.length + 1) 2 (.ro (l.map iV) 1 false), 1 = 1, 0 ≤ (i : Int), (i : Int) < ((l.map iV).length : Int), (l.map iV)[(i : Int).toNat]? = some (iV x), cB (decide (x < 0)) false, cB (decide (x ≥ ((c.map iV).length : Int))) false, 1 = 1, 0 ≤ x, x < ((c.map iV).length : Int), (c.map iV)[x.toNat]? = some (iV y), cB (y != 1) false,
      cB (decide ((i : Int) > 0)) true, ldC (hW T vs junk (vt, vb, l)) (junk.length + 1) 2 (.ro (l.map iV) 1 false), 1 = 1, 0 ≤ IntKind.i64.wrap ((i : Int) - 1), IntKind.i64.wrap ((i : Int) - 1) < ((l.map iV).length : Int), (l.map iV)[(IntKind.i64.wrap ((i : Int) - 1)).toNat]? = some (iV q), cB (decide (x ≤ q)) true]) hl (fun t0 => by kernel_rfl) ⟨r2, cT g1, r2, rfl, by omega, g1, g2, cF h1, cF h2, rfl, by omega, g3, g4, cS h3, cT h4, r2, rfl, g5, g6, g7, cT h5, trivial⟩).mono ?_
    rintro e s ⟨rfl, t3, rfl, hl3⟩
    exact .inl ⟨QG_of hl3, hF.symm⟩
   ·rw [if_neg h5] at hF
    refine (path3 [1, 6, 7, 8, 9] (e := .normal) (vals := [.ptr 0 0, .int .i64 n, .ptr (junk.length + 1) 0, .ro (c.map iV) 1 false, .int .i64 (IntKind.i64.wrap ((i : Int) + 1))]) (h' := hW T vs junk (vt, vb, l)) (lo' := some (junk.length + 1)) (ds := [.f (.ro (l.map iV) 1 false), .b true, .f (.ro (l.map iV) 1 false), .v (iV x), .b false, .b false, .v (iV y), .b false, .b true, .f (.ro (l.map iV) 1 false), .v (iV q), .b false])
     (cs := [ldC (hW T vs junk (vt, vb, l)) (junk.length + 1) 2 (.ro (l.map iV) 1 false), cB (decide ((i : Int) < ((l.map iV).length : Int))) true, ldC (hW T vs junk (vt, vb, l)) (junk.length + 1) 2 (.ro (l.map iV) 1 false), 1 = 1, 0 ≤ (i : Int), (i : Int) < ((l.map iV).length : Int), (l.map iV)[(i : Int).toNat]? = some (iV x), cB (decide (x < 0)) false, cB (decide (x ≥ ((c.map iV).length : Int))) false, 1 = 1, 0 ≤ x, x < ((c.map iV).length : Int), (c.map iV)[x.toNat]? = some (iV y), cB (y != 1) false,
      cB (decide ((i : Int) > 0)) true, ldC (hW T vs junk (vt, vb, l)) (junk.length + 1) 2 (.ro (l.map iV) 1 false), 1 = 1, 0 ≤ IntKind.i64.wrap ((i : Int) - 1), IntKind.i64.wrap ((i : Int) - 1) < ((l.map iV).length : Int), (l.map iV)[(IntKind.i64.wrap ((i : Int) - 1)).toNat]? = some (iV q), cB (decide (x ≤ q)) false]) hl (fun t0 => by kernel_rfl) ⟨r2, cT g1, r2, rfl, by omega, g1, g2, cF h1, cF h2, rfl, by omega, g3, g4, cS h3, cT h4, r2, rfl, g5, g6, g7, cF h5, trivial⟩).mono ?_
    rintro e s ⟨rfl, t3, rfl, hl3⟩
    rw [i64_succ (by omega) (by omega)] at hl3
    exact ⟨l.length - (i + 1), by omega, i + 1, t3, rfl, rfl, by omega, hl3, by rw [hpn]; exact hF⟩
  ·have hi0 : i = 0 := by omega
   have hp : prev l i = none := by rw [prev, if_pos hi0]
   rw [hp] at hF
   simp only at hF
   refine (path3 [1, 6, 7, 8, 9] (e := .normal) (vals := [.ptr 0 0, .int .i64 n, .ptr (junk.length + 1) 0, .ro (c.map iV) 1 false, .int .i64 (IntKind.i64.wrap ((i : Int) + 1))]) (h' := hW T vs junk (vt, vb, l)) (lo' := some (junk.length + 1)) (ds := [.f (.ro (l.map iV) 1 false), .b true, .f (.ro (l.map iV) 1 false), .v (iV x), .b false, .b false, .v (iV y), .b false, .b false])
     (cs := [ldC (hW T vs junk (vt, vb, l)) (junk.length + 1) 2 (.ro (l.map iV) 1 false), cB (decide ((i : Int) < ((l.map iV).length : Int))) true, ldC (hW T vs junk (vt, vb, l)) (junk.length + 1) 2 (.ro (l.map iV) 1 false), 1 = 1, 0 ≤ (i : Int), (i : Int) < ((l.map iV).length : Int), (l.map iV)[(i : Int).toNat]? = some (iV x), cB (decide (x < 0)) false, cB (decide (x ≥ ((c.map iV).length : Int))) false, 1 = 1, 0 ≤ x, x < ((c.map iV).length : Int), (c.map iV)[x.toNat]? = some (iV y), cB (y != 1) false,
      cB (decide ((i : Int) > 0)) false]) hl (fun t0 => by kernel_rfl) ⟨r2, cT g1, r2, rfl, by omega, g1, g2, cF h1, cF h2, rfl, by omega, g3, g4, cS h3, cF h4, trivial⟩).mono ?_
   rintro e s ⟨rfl, t3, rfl, hl3⟩
   rw [i64_succ (by omega) (by omega)] at hl3
   exact ⟨l.length - (i + 1), by omega, i + 1, t3, rfl, rfl, by omega, hl3, by rw [hpn]; exact hF⟩
 ·refine (path3 [1, 6] (e := .exit 6) (vals := [.ptr 0 0, .int .i64 n]) (h' := hW T vs junk (vt, vb, l)) (lo' := some (junk.length + 1)) (ds := [.f (.ro (l.map iV) 1 false), .b false]) (cs := [ldC (hW T vs junk (vt, vb, l)) (junk.length + 1) 2 (.ro (l.map iV) 1 false), cB (decide ((i : Int) < ((l.map iV).length : Int))) false]) hl (fun t0 => by kernel_rfl) ⟨r2, cF (by simp; omega), trivial⟩).mono ?_
  rintro e s ⟨rfl, t3, rfl, hl3⟩
  exact .inr ⟨rfl, by rw [← hF, List.drop_of_length_le (by omega)]; rfl, t3, rfl, hl3⟩
abbrev vsV (V : List Vw) : AV := .ro (V.map wV) 3 false
theorem l2_ok {T : List (List Int)} {V : List Vw} (hV : V.length ≤ 9223372036854775807) (hs : ∀ v ∈ V, v.2.2.length ≤ 9223372036854775807) {t0 : List AV} (hlv : Lv 153 [(1, .ptr 0 0), (6, .int .i64 0)] t0) :
  Wp G1 Ax.T (.loop L2) { t := t0, h := [pH T (vsV V)], lo := none } fun e s => (QG false e s ∧ V.all (viewOk T) = false) ∨ (e = .exit 4 ∧ V.all (viewOk T) = true ∧ s.t.length = 153) := by
 refine Wp.loop (fun k s => ∃ (i : Nat) (t1 : List AV) (junk : List Blk) (lo : Option Nat), s = { t := t1, h := pH T (vsV V) :: junk, lo := lo } ∧ k = V.length - i ∧ i ≤ V.length ∧ Lv 153 [(1, .ptr 0 0), (6, .int .i64 (i : Int))] t1 ∧ (V.drop i).all (viewOk T) = V.all (viewOk T)) ?_ V.length _ ⟨0, t0, [], none, rfl, by omega, by omega, hlv, rfl⟩
 rintro k s ⟨i, t1, junk, lo, rfl, rfl, hi, hl, hF⟩
 refine Wp.lo ?_ ?_
 ·rintro e s y hq
  cases e with
  | normal =>
   obtain ⟨j, hj, i2, t2, j2, l2, rfl, h2, h3, h4, h5⟩ := hq
   exact ⟨j, hj, i2, t2, j2, y, rfl, h2, h3, h4, h5⟩
  | exit n => exact hq
  | ret => exact hq
 refine Wp.seq ?_
 by_cases hlt : i < V.length
 ·have e1 := List.getElem?_eq_getElem hlt
  have hm : V[i] ∈ V := List.getElem_mem hlt
  rw [List.drop_eq_getElem_cons hlt, List.all_cons] at hF
  generalize V[i] = v at e1 hF hm
  have hsv := hs v hm
  obtain ⟨vt, vb, l⟩ := v
  have g1 : (i : Int) < ((V.map wV).length : Int) := by simp; omega
  have g2 : (V.map wV)[(i : Int).toNat]? = some (wV (vt, vb, l)) := by simp [e1]
  have r0 := ld0 T (vsV V) junk (vt, vb, l)
  have r1 := ld1 T (vsV V) junk (vt, vb, l)
  have r2 := ld2 T (vsV V) junk (vt, vb, l)
  have rP := ldP T (vsV V) junk (vt, vb, l)
  refine (path2 [1, 6] (e := .normal) (vals := [.ptr 0 0, .int .i64 (i : Int)]) (h' := pH T (vsV V) :: junk) (ds := [.b true]) (cs := [cB (decide ((i : Int) < ((V.map wV).length : Int))) true]) hl (fun t0 => by kernel_rfl) ⟨cT g1, trivial⟩).mono ?_
  rintro e s ⟨rfl, t2, rfl, hl2⟩
  refine Wp.seq (Wp.block (Wp.seq ?_))
  refine (path3 [1, 6, 7] (e := .normal) (vals := [.ptr 0 0, .int .i64 (i : Int), .ptr (junk.length + 1) 0]) (h' := hW T (vsV V) junk (vt, vb, l)) (lo' := some (junk.length + 1)) (ds := [.v (wV (vt, vb, l)), .w (.ptr (junk.length + 1) 0) (pH T (vsV V) :: (junk ++ [.cells [.int .i64 0, .int .i64 0, .nils]])) none, .w (.tup []) (hW T (vsV V) junk (vt, vb, l)) (some (junk.length + 1))])
   (cs := [3 = 3, 0 ≤ (i : Int), (i : Int) < ((V.map wV).length : Int), (V.map wV)[(i : Int).toNat]? = some (wV (vt, vb, l)), some (AV.ptr (List.length (pH T (vsV V) :: junk)) 0, (pH T (vsV V) :: junk) ++ [.cells [.int .i64 0, .int .i64 0, .nils]], (none : Option Nat)) = some (AV.ptr (junk.length + 1) 0, pH T (vsV V) :: (junk ++ [.cells [.int .i64 0, .int .i64 0, .nils]]), none),
    (if (wC (vt, vb, l)).length = 3 then (wrCells (pH T (vsV V) :: (junk ++ [.cells [.int .i64 0, .int .i64 0, .nils]])) (junk.length + 1) 0 (wC (vt, vb, l))).map (fun h' => (AV.tup [], h', some (junk.length + 1))) else none) = some (AV.tup [], hW T (vsV V) junk (vt, vb, l), some (junk.length + 1))]) hl2 (fun t0 => by kernel_rfl)
   ⟨rfl, by omega, g1, g2, rfl, by simp [wrCells, splice, AV.one, hW], trivial⟩).mono ?_
  rintro e s ⟨rfl, t3, rfl, hl3⟩
  refine Wp.seq ?_
  by_cases h1 : vt < 0
  ·refine (path3 [2] (e := .ret) (vals := [.bool false]) (h' := hW T (vsV V) junk (vt, vb, l)) (lo' := some (junk.length + 1)) (ds := [.f (.int .i64 vt), .b true]) (cs := [ldC (hW T (vsV V) junk (vt, vb, l)) (junk.length + 1) 0 (.int .i64 vt), cB (decide (vt < 0)) true]) hl3 (fun t0 => by kernel_rfl) ⟨r0, cT h1, trivial⟩).mono ?_
   rintro e s ⟨rfl, t4, rfl, hl4⟩
   exact .inl ⟨QG_of hl4, by rw [← hF]; simp [viewOk, h1]⟩
  have hTm : ((T.map tV).length : Int) = (T.length : Int) := by simp
  by_cases h2 : vt ≥ ((T.map tV).length : Int)
  ·refine (path3 [2] (e := .ret) (vals := [.bool false]) (h' := hW T (vsV V) junk (vt, vb, l)) (lo' := some (junk.length + 1)) (ds := [.f (.int .i64 vt), .b false, .f (.int .i64 vt), .f (.ro (T.map tV) 1 false), .b true]) (cs := [ldC (hW T (vsV V) junk (vt, vb, l)) (junk.length + 1) 0 (.int .i64 vt), cB (decide (vt < 0)) false, ldC (hW T (vsV V) junk (vt, vb, l)) (junk.length + 1) 0 (.int .i64 vt), ldC (hW T (vsV V) junk (vt, vb, l)) 0 0 (.ro (T.map tV) 1 false), cB (decide (vt ≥ ((T.map tV).length : Int))) true]) hl3 (fun t0 => by kernel_rfl) ⟨r0, cF h1, r0, rP, cT h2, trivial⟩).mono ?_
   rintro e s ⟨rfl, t4, rfl, hl4⟩
   exact .inl ⟨QG_of hl4, by rw [← hF]; simp [viewOk, h1, List.getElem?_eq_none (show T.length ≤ vt.toNat by omega)]⟩
  refine (path3 [1, 6, 7] (e := .normal) (vals := [.ptr 0 0, .int .i64 (i : Int), .ptr (junk.length + 1) 0]) (h' := hW T (vsV V) junk (vt, vb, l)) (lo' := some (junk.length + 1)) (ds := [.f (.int .i64 vt), .b false, .f (.int .i64 vt), .f (.ro (T.map tV) 1 false), .b false]) (cs := [ldC (hW T (vsV V) junk (vt, vb, l)) (junk.length + 1) 0 (.int .i64 vt), cB (decide (vt < 0)) false, ldC (hW T (vsV V) junk (vt, vb, l)) (junk.length + 1) 0 (.int .i64 vt), ldC (hW T (vsV V) junk (vt, vb, l)) 0 0 (.ro (T.map tV) 1 false), cB (decide (vt ≥ ((T.map tV).length : Int))) false]) hl3 (fun t0 => by kernel_rfl) ⟨r0, cF h1, r0, rP, cF h2, trivial⟩).mono ?_
  rintro e s ⟨rfl, t4, rfl, hl4⟩
  have h2' : vt.toNat < T.length := by omega
  have e2 := List.getElem?_eq_getElem h2'
  generalize T[vt.toNat] = c at e2
  have g3 : vt < ((T.map tV).length : Int) := by omega
  have g4 : (T.map tV)[vt.toNat]? = some (tV c) := by simp [e2]
  have hvo : viewOk T (vt, vb, l) = if vb < 0 then false else if vb ≥ (c.length : Int) then false else if (l.length : Int) > 2 then false else sumsOk c none l := by simp [viewOk, h1, e2]
  refine Wp.seq ?_
  refine (path3 [1, 6, 7, 8] (e := .normal) (vals := [.ptr 0 0, .int .i64 (i : Int), .ptr (junk.length + 1) 0, .ro (c.map iV) 1 false]) (h' := hW T (vsV V) junk (vt, vb, l)) (lo' := some (junk.length + 1)) (ds := [.f (.ro (T.map tV) 1 false), .f (.int .i64 vt), .v (tV c)]) (cs := [ldC (hW T (vsV V) junk (vt, vb, l)) 0 0 (.ro (T.map tV) 1 false), ldC (hW T (vsV V) junk (vt, vb, l)) (junk.length + 1) 0 (.int .i64 vt), 1 = 1, 0 ≤ vt, vt < ((T.map tV).length : Int), (T.map tV)[vt.toNat]? = some (tV c)]) hl4 (fun t0 => by kernel_rfl) ⟨rP, r0, rfl, by omega, g3, g4, trivial⟩).mono ?_
  rintro e s ⟨rfl, t5, rfl, hl5⟩
  refine Wp.seq ?_
  have hcm : ((c.map iV).length : Int) = (c.length : Int) := by simp
  have hlm : ((l.map iV).length : Int) = (l.length : Int) := by simp
  by_cases h3 : vb < 0
  ·refine (path3 [2] (e := .ret) (vals := [.bool false]) (h' := hW T (vsV V) junk (vt, vb, l)) (lo' := some (junk.length + 1)) (ds := [.f (.int .i64 vb), .b true]) (cs := [ldC (hW T (vsV V) junk (vt, vb, l)) (junk.length + 1) 1 (.int .i64 vb), cB (decide (vb < 0)) true]) hl5 (fun t0 => by kernel_rfl) ⟨r1, cT h3, trivial⟩).mono ?_
   rintro e s ⟨rfl, t6, rfl, hl6⟩
   exact .inl ⟨QG_of hl6, by rw [← hF, hvo, if_pos h3]; rfl⟩
  rw [if_neg h3] at hvo
  by_cases h4 : vb ≥ ((c.map iV).length : Int)
  ·refine (path3 [2] (e := .ret) (vals := [.bool false]) (h' := hW T (vsV V) junk (vt, vb, l)) (lo' := some (junk.length + 1)) (ds := [.f (.int .i64 vb), .b false, .f (.int .i64 vb), .b true]) (cs := [ldC (hW T (vsV V) junk (vt, vb, l)) (junk.length + 1) 1 (.int .i64 vb), cB (decide (vb < 0)) false, ldC (hW T (vsV V) junk (vt, vb, l)) (junk.length + 1) 1 (.int .i64 vb), cB (decide (vb ≥ ((c.map iV).length : Int))) true]) hl5 (fun t0 => by kernel_rfl) ⟨r1, cF h3, r1, cT h4, trivial⟩).mono ?_
   rintro e s ⟨rfl, t6, rfl, hl6⟩
   exact .inl ⟨QG_of hl6, by rw [← hF, hvo, if_pos (by rw [← hcm]; exact h4)]; rfl⟩
  rw [if_neg (by rw [← hcm]; exact h4)] at hvo
  by_cases h5 : ((l.map iV).length : Int) > 2
  ·refine (path3 [2] (e := .ret) (vals := [.bool false]) (h' := hW T (vsV V) junk (vt, vb, l)) (lo' := some (junk.length + 1)) (ds := [.f (.int .i64 vb), .b false, .f (.int .i64 vb), .b false, .f (.ro (l.map iV) 1 false), .b true]) (cs := [ldC (hW T (vsV V) junk (vt, vb, l)) (junk.length + 1) 1 (.int .i64 vb), cB (decide (vb < 0)) false, ldC (hW T (vsV V) junk (vt, vb, l)) (junk.length + 1) 1 (.int .i64 vb), cB (decide (vb ≥ ((c.map iV).length : Int))) false, ldC (hW T (vsV V) junk (vt, vb, l)) (junk.length + 1) 2 (.ro (l.map iV) 1 false), cB (decide (((l.map iV).length : Int) > 2)) true]) hl5 (fun t0 => by kernel_rfl) ⟨r1, cF h3, r1, cF h4, r2, cT h5, trivial⟩).mono ?_
   rintro e s ⟨rfl, t6, rfl, hl6⟩
   exact .inl ⟨QG_of hl6, by rw [← hF, hvo, if_pos (by rw [← hlm]; exact h5)]; rfl⟩
  rw [if_neg (by rw [← hlm]; exact h5)] at hvo
  refine (path3 [1, 6, 7, 8] (e := .normal) (vals := [.ptr 0 0, .int .i64 (i : Int), .ptr (junk.length + 1) 0, .ro (c.map iV) 1 false]) (h' := hW T (vsV V) junk (vt, vb, l)) (lo' := some (junk.length + 1)) (ds := [.f (.int .i64 vb), .b false, .f (.int .i64 vb), .b false, .f (.ro (l.map iV) 1 false), .b false]) (cs := [ldC (hW T (vsV V) junk (vt, vb, l)) (junk.length + 1) 1 (.int .i64 vb), cB (decide (vb < 0)) false, ldC (hW T (vsV V) junk (vt, vb, l)) (junk.length + 1) 1 (.int .i64 vb), cB (decide (vb ≥ ((c.map iV).length : Int))) false, ldC (hW T (vsV V) junk (vt, vb, l)) (junk.length + 1) 2 (.ro (l.map iV) 1 false), cB (decide (((l.map iV).length : Int) > 2)) false]) hl5 (fun t0 => by kernel_rfl) ⟨r1, cF h3, r1, cF h4, r2, cF h5, trivial⟩).mono ?_
  rintro e s ⟨rfl, t6, rfl, hl6⟩
  refine Wp.seq ?_
  refine (path3 [1, 6, 7, 8, 9] (e := .normal) (vals := [.ptr 0 0, .int .i64 (i : Int), .ptr (junk.length + 1) 0, .ro (c.map iV) 1 false, .int .i64 0]) (h' := hW T (vsV V) junk (vt, vb, l)) (lo' := some (junk.length + 1)) (ds := []) (cs := []) hl6 (fun t0 => by kernel_rfl) trivial).mono ?_
  rintro e s ⟨rfl, t7, rfl, hl7⟩
  refine Wp.block ?_
  refine (l2i_ok (v := (vt, vb, l)) hsv hl7).mono ?_
  rintro e s (⟨⟨rfl, h6⟩, h7⟩ | ⟨rfl, h7, t8, rfl, hl8⟩)
  ·exact .inl ⟨⟨rfl, h6⟩, by rw [← hF, hvo, h7]; rfl⟩
  ·refine (path3 [1, 6] (e := .normal) (vals := [.ptr 0 0, .int .i64 (IntKind.i64.wrap ((i : Int) + 1))]) (h' := hW T (vsV V) junk (vt, vb, l)) (lo' := some (junk.length + 1)) (ds := []) (cs := []) hl8 (fun t0 => by kernel_rfl) trivial).mono ?_
   rintro e s ⟨rfl, t9, rfl, hl9⟩
   rw [i64_succ (by omega) (by omega)] at hl9
   exact ⟨V.length - (i + 1), by omega, i + 1, t9, _, _, rfl, rfl, by omega, hl9, by rw [← hF, hvo, h7]; rfl⟩
 ·refine (path2 [1] (e := .exit 4) (vals := [.ptr 0 0]) (h' := pH T (vsV V) :: junk) (ds := [.b false]) (cs := [cB (decide ((i : Int) < ((V.map wV).length : Int))) false]) hl (fun t0 => by kernel_rfl) ⟨cF (by simp; omega), trivial⟩).mono ?_
  rintro e s ⟨rfl, t3, rfl, hl3⟩
  exact .inr ⟨rfl, by rw [← hF, List.drop_of_length_le (by omega)]; rfl, hl3.len⟩
structure OkP (T : List (List Int)) (V : List Vw) : Prop where
 t : T.length ≤ 9223372036854775807
 c : ∀ c ∈ T, c.length ≤ 9223372036854775807
 v : V.length ≤ 9223372036854775807
 s : ∀ v ∈ V, v.2.2.length ≤ 9223372036854775807
theorem good17_cl {T : List (List Int)} {V : List Vw} (ok : OkP T V) : ∃ h' lo, Cl G1 Ax.T 18 [pA T (vsV V)] [] (.bool (planOk T V), h', lo) := by
 suffices hw : Wp G1 Ax.T bG { t := [pA T (vsV V)] ++ List.replicate 152 (.tup []), h := [] } (QG (planOk T V)) by
  obtain ⟨r, h', lo, rfl, hc⟩ := Cl.slot' (Γ := G1) (tbl := Ax.T) (af := a18) (args := [pA T (vsV V)]) (h := []) (by kernel_rfl) (by kernel_rfl) rfl rfl (fun r h' => r = .bool (planOk T V)) hw
  exact ⟨h', lo, hc⟩
 refine Wp.seq ?_
 refine (path2 (nt := 153) (live := [(0, pA T (vsV V))]) [1] (e := .normal) (vals := [.ptr 0 0]) (h' := [pH T (vsV V)]) (ds := []) (cs := []) ⟨by simp, by simp [getX_eq]⟩ (fun t0 => by kernel_rfl) trivial).mono ?_
 rintro e s ⟨rfl, t1, rfl, hl1⟩
 refine Wp.seq ?_
 have hTm : ((T.map tV).length : Int) = (T.length : Int) := by simp
 have hVm : ((V.map wV).length : Int) = (V.length : Int) := by simp
 by_cases h1 : ((T.map tV).length : Int) < 1
 ·rw [show planOk T V = false by rw [planOk, ← hTm, decide_eq_true h1]; rfl]
  refine (path2 [2] (e := .ret) (vals := [.bool false]) (h' := [pH T (vsV V)]) (ds := [.b true]) (cs := [cB (decide (((T.map tV).length : Int) < 1)) true]) hl1 (fun t0 => by kernel_rfl) ⟨cT h1, trivial⟩).mono ?_
  rintro e s ⟨rfl, t3, rfl, hl3⟩
  exact QG_of hl3
 by_cases h2 : ((T.map tV).length : Int) > 3
 ·rw [show planOk T V = false by rw [planOk, ← hTm, decide_eq_true h2]; simp]
  refine (path2 [2] (e := .ret) (vals := [.bool false]) (h' := [pH T (vsV V)]) (ds := [.b false, .b true]) (cs := [cB (decide (((T.map tV).length : Int) < 1)) false, cB (decide (((T.map tV).length : Int) > 3)) true]) hl1 (fun t0 => by kernel_rfl) ⟨cF h1, cT h2, trivial⟩).mono ?_
  rintro e s ⟨rfl, t3, rfl, hl3⟩
  exact QG_of hl3
 by_cases h3 : ((V.map wV).length : Int) > 4
 ·rw [show planOk T V = false by rw [planOk, ← hVm, decide_eq_true h3]; simp]
  refine (path2 [2] (e := .ret) (vals := [.bool false]) (h' := [pH T (vsV V)]) (ds := [.b false, .b false, .b true]) (cs := [cB (decide (((T.map tV).length : Int) < 1)) false, cB (decide (((T.map tV).length : Int) > 3)) false, cB (decide (((V.map wV).length : Int) > 4)) true]) hl1 (fun t0 => by kernel_rfl) ⟨cF h1, cF h2, cT h3, trivial⟩).mono ?_
  rintro e s ⟨rfl, t3, rfl, hl3⟩
  exact QG_of hl3
 have hpo : planOk T V = (T.all tabOk && V.all (viewOk T)) := by rw [planOk, ← hTm, ← hVm, decide_eq_false h1, decide_eq_false h2, decide_eq_false h3]; simp
 rw [hpo]
 refine (path2 [1] (e := .normal) (vals := [.ptr 0 0]) (h' := [pH T (vsV V)]) (ds := [.b false, .b false, .b false]) (cs := [cB (decide (((T.map tV).length : Int) < 1)) false, cB (decide (((T.map tV).length : Int) > 3)) false, cB (decide (((V.map wV).length : Int) > 4)) false]) hl1 (fun t0 => by kernel_rfl) ⟨cF h1, cF h2, cF h3, trivial⟩).mono ?_
 rintro e s ⟨rfl, t2, rfl, hl2⟩
 refine Wp.seq (Wp.seq ?_)
 refine (path2 [1, 3] (e := .normal) (vals := [.ptr 0 0, .int .i64 0]) (h' := [pH T (vsV V)]) (ds := []) (cs := []) hl2 (fun t0 => by kernel_rfl) trivial).mono ?_
 rintro e s ⟨rfl, t3, rfl, hl3⟩
 refine Wp.block ?_
 refine (l1_ok ok.t ok.c hl3).mono ?_
 rintro e s (⟨⟨rfl, h4⟩, h5⟩ | ⟨rfl, h5, t4, rfl, hl4⟩)
 ·rw [h5]; exact ⟨rfl, h4⟩
 rw [h5]
 refine Wp.seq (Wp.seq ?_)
 refine (path2 [1, 6] (e := .normal) (vals := [.ptr 0 0, .int .i64 0]) (h' := [pH T (vsV V)]) (ds := []) (cs := []) hl4 (fun t0 => by kernel_rfl) trivial).mono ?_
 rintro e s ⟨rfl, t5, rfl, hl5⟩
 refine Wp.block ?_
 refine (l2_ok ok.v ok.s hl5).mono ?_
 rintro e s (⟨⟨rfl, h6⟩, h7⟩ | ⟨rfl, h7, hl6⟩)
 ·rw [h7]; exact ⟨rfl, h6⟩
 rw [h7]
 obtain ⟨t6, h6, lo6⟩ := s
 refine Wp.lo (fun e s y hq => hq) ?_
 refine (path2 (nt := 153) (live := []) [2] (e := .ret) (vals := [.bool true]) (h' := h6) (ds := []) (cs := []) ⟨hl6, by simp⟩ (fun t0 => by kernel_rfl) trivial).mono ?_
 rintro e s ⟨rfl, t7, rfl, hl7⟩
 exact QG_of hl7
open Go
theorem iV_inj (a b : Int) (h : iV a = iV b) : a = b := by cases h; rfl
theorem vV_inj (a b : Val) (h : vV a = vV b) : a = b := by
 obtain ⟨a1, a2, a3⟩ := a; obtain ⟨b1, b2, b3⟩ := b
 simpa [vV] using h
theorem tV_inj (a b : List Int) (h : tV a = tV b) : a = b := by
 simp only [tV, AV.agg.injEq, List.cons.injEq, AV.ro.injEq, and_true] at h
 exact map_inj iV_inj h
theorem rV_inj (a b : List Val) (h : rV a = rV b) : a = b := by
 simp only [rV, AV.ro.injEq, and_true] at h
 exact map_inj vV_inj h
theorem wV_inj (a b : Vw) (h : wV a = wV b) : a = b := by
 obtain ⟨a1, a2, a3⟩ := a; obtain ⟨b1, b2, b3⟩ := b
 simp only [wV, AV.agg.injEq, List.cons.injEq, AV.ro.injEq, AV.int.injEq, and_true, true_and] at h
 obtain ⟨h1, h2, h3⟩ := h
 rw [h1, h2, map_inj iV_inj h3]
theorem clo_iV (n : Int) : clo (iV n) = true := rfl
theorem clo_vV (v : Val) : clo (vV v) = true := rfl
theorem clo_tV (c : List Int) : clo (tV c) = true := by simp [tV, clo, cloL, cloL_map clo_iV c]
theorem clo_wV (v : Vw) : clo (wV v) = true := by simp [wV, clo, cloL, cloL_map clo_iV v.2.2]
theorem clo_rV (r : List Val) : clo (rV r) = true := by simp [rV, clo, cloL_map clo_vV r]
theorem clo_pA (T V) : clo (pA T (vsV V)) = true := by simp [pA, vsV, clo, cloL, cloL_map clo_tV T, cloL_map clo_wV V]
abbrev okCmp (x : Val × Val) : Prop := OkStr x.1 ∧ OkStr x.2
abbrev enCmp (x : Val × Val) : List AV := [vV x.1, vV x.2]
abbrev fCmp (x : Val × Val) : AV := .int .i64 (cmpVal x.1 x.2)
abbrev okFit (x : List (List Int) × List Vw × Int × List Val) : Prop := x.1.length ≤ 9223372036854775807 ∧ x.2.2.2.length ≤ 9223372036854775807
abbrev enFit (x : List (List Int) × List Vw × Int × List Val) : List AV := [pA x.1 (vsV x.2.1), .int .i64 x.2.2.1, rV x.2.2.2]
abbrev fFit (x : List (List Int) × List Vw × Int × List Val) : AV := .bool (fitsB x.1 x.2.2.1 x.2.2.2)
abbrev okG17 (x : List (List Int) × List Vw) : Prop := OkP x.1 x.2
abbrev enG17 (x : List (List Int) × List Vw) : List AV := [pA x.1 (vsV x.2)]
abbrev fG17 (x : List (List Int) × List Vw) : AV := .bool (planOk x.1 x.2)
noncomputable def gam2 : List (Nat × GF) := (20, pureG (gOf okCmp enCmp fCmp)) :: (19, pureG (gOf okFit enFit fFit)) :: (18, pureG (gOf okG17 enG17 fG17)) :: gam1
theorem cmp_ok : GOk Try.prog 20 (pureG (gOf okCmp enCmp fCmp)) :=
 gOf_ok ⟨_, Try.func20, by kernel_rfl, by kernel_rfl⟩ fun a ha => pureS_cl K1 (compare_cl ha.1 ha.2) (by kernel_rfl) rfl
theorem fit_ok : GOk Try.prog 19 (pureG (gOf okFit enFit fFit)) :=
 gOf_ok ⟨_, Try.func19, by kernel_rfl, by kernel_rfl⟩ fun a ha => pureS_cl K1 (fits_cl ha.1 ha.2) (by kernel_rfl) rfl
theorem g17_ok : GOk Try.prog 18 (pureG (gOf okG17 enG17 fG17)) :=
 gOf_ok ⟨_, Try.func18, by kernel_rfl, by kernel_rfl⟩ fun a ha => by
  obtain ⟨h', lo, hc⟩ := good17_cl ha
  exact pureS_cl K1 hc (by kernel_rfl) rfl
theorem K2 : Known (gGet gam2) tree.get Try.prog := known_of (by kernel_rfl) ⟨cmp_ok, fit_ok, g17_ok, good_ok, trivial⟩ all
noncomputable abbrev G2 : FuncId → Option GF := gGet gam2
theorem cmp2 {a b : Val} (ha : OkStr a) (hb : OkStr b) (h : List Blk) : Cl G2 T 20 [vV a, vV b] h (.int .i64 (cmpVal a b), h, none) :=
 Cl.pure (g := gOf okCmp enCmp fCmp) (by kernel_rfl) (gOf_eq (a := (a, b)) (fun x y _ _ he => by
  simp only [enCmp, List.cons.injEq, and_true] at he
  show fCmp x = fCmp y
  simp only [fCmp, vV_inj _ _ he.1, vV_inj _ _ he.2]) ⟨ha, hb⟩) rfl rfl h
theorem fit2 {T : List (List Int)} {V : List Vw} {t : Int} {row : List Val} (hT : T.length ≤ 9223372036854775807) (hr : row.length ≤ 9223372036854775807) (h : List Blk) : Cl G2 Ax.T 19 [pA T (vsV V), .int .i64 t, rV row] h (.bool (fitsB T t row), h, none) :=
 Cl.pure (g := gOf okFit enFit fFit) (by kernel_rfl) (gOf_eq (a := (T, V, t, row)) (fun x y _ _ he => by
  simp only [enFit, pA, List.cons.injEq, and_true, AV.agg.injEq, AV.ro.injEq, AV.int.injEq, true_and] at he
  obtain ⟨⟨h1, _⟩, h3, h4⟩ := he
  show fFit x = fFit y
  simp only [fFit, map_inj tV_inj h1, h3, map_inj vV_inj h4]) ⟨hT, hr⟩) (by simp [cloL, clo_pA, clo_rV]; rfl) rfl h
theorem g172 {T : List (List Int)} {V : List Vw} (ok : OkP T V) (h : List Blk) : Cl G2 Ax.T 18 [pA T (vsV V)] h (.bool (planOk T V), h, none) :=
 Cl.pure (g := gOf okG17 enG17 fG17) (by kernel_rfl) (gOf_eq (a := (T, V)) (fun x y _ _ he => by
  simp only [enG17, pA, vsV, List.cons.injEq, and_true, AV.agg.injEq, AV.ro.injEq, true_and] at he
  show fG17 x = fG17 y
  simp only [fG17, map_inj tV_inj he.1, map_inj wV_inj he.2]) ok) (by simp [cloL, clo_pA]) rfl h
abbrev bV (x : List (List Val)) : AV := .ro (x.map rV) 1 false
abbrev sV (l : List (List (List Val))) : AV := .ro (l.map bV) 1 false
def hd0 (r : List Val) : Val := r.headD (0, 0, [])
def rowsG (T : List (List Int)) (t : Int) : Option (List Val) → List (List Val) → Int → Option Int
 | _, [], n => some n
 | p, r :: rs, n => if n + 1 > 1000 then none else if fitsB T t r = false then none else if (match p with | some q => decide (cmpVal (hd0 q) (hd0 r) ≥ 0) | none => false) = true then none else rowsG T t (some r) rs (n + 1)
def tabsG (T : List (List Int)) : Int → List (List (List Val)) → Int → Bool
 | _, [], _ => true
 | t, x :: xs, n => match rowsG T t none x n with
  | some n' => tabsG T (t + 1) xs n'
  | none => false
def goodT (T : List (List Int)) (V : List Vw) (l : List (List (List Val))) : Bool := planOk T V && (decide (l.length = T.length) && tabsG T 0 l 0)
structure OkT (l : List (List (List Val))) : Prop where
 len : l.length ≤ 9223372036854775807
 rl : ∀ x ∈ l, x.length ≤ 9223372036854775807
 vl : ∀ x ∈ l, ∀ r ∈ x, r.length ≤ 9223372036854775807
 sl : ∀ x ∈ l, ∀ r ∈ x, ∀ v ∈ r, OkStr v
abbrev b35 : ACode := a7.body
def M1 : ACode := lp (blk (tl (hd (tl (tl (tl b35))))))
def M2 : ACode := lp (blk (tl (blk (hd (tl M1)))))
def Q35 (r : Bool) (e : AExit) (s : St) : Prop := e = .ret ∧ s.lo = none ∧ getX s.t 4 = .bool r
theorem Q35_of {t : List AV} {h : List Blk} {r : Bool} (hl : Lv 78 [(4, .bool r)] t) : Q35 r .ret { t := t, h := h, lo := none } := ⟨rfl, rfl, hl.get _ (List.mem_singleton.2 rfl)⟩
def prevR (x : List (List Val)) (i : Nat) : Option (List Val) := if i = 0 then none else x[i - 1]?
theorem rowsG_cons (T : List (List Int)) (t : Int) (p r rs n) : rowsG T t p (r :: rs) n = if n + 1 > 1000 then none else if fitsB T t r = false then none else if (match p with | some q => decide (cmpVal (hd0 q) (hd0 r) ≥ 0) | none => false) = true then none else rowsG T t (some r) rs (n + 1) := by
 cases p <;> rw [rowsG]
theorem fitsB_pos {T : List (List Int)} (hc : ∀ c ∈ T, 1 ≤ c.length) {t : Int} {r : List Val} (h : fitsB T t r = true) : ∃ u r', r = u :: r' := by
 unfold fitsB at h
 split at h
 ·cases h
 split at h
 ·rename_i c hcc
  have h1 := fitsRow_len h
  have h2 := hc c (List.mem_of_getElem? hcc)
  cases r with
  | nil => simp at h1; omega
  | cons u r' => exact ⟨u, r', rfl⟩
 ·cases h
theorem m2_ok {T : List (List Int)} {V : List Vw} {l : List (List (List Val))} (ok : OkT l) (hT : T.length ≤ 9223372036854775807) (hc : ∀ c ∈ T, 1 ≤ c.length) {t : Nat} {x : List (List Val)} (ht : l[t]? = some x) {n0 : Int} (hn0 : 0 ≤ n0 ∧ n0 ≤ 1000) {t0 : List AV}
  (hlv : Lv 78 [(1, sV l), (2, .ptr 0 0), (5, .int .i64 n0), (6, .int .i64 (t : Int)), (7, .int .i64 0)] t0) :
  Wp G2 Ax.T (.loop M2) { t := t0, h := [pH T (vsV V)], lo := none } fun e s => (Q35 false e s ∧ rowsG T t none x n0 = none) ∨ (e = .exit 2 ∧ ∃ n t2, rowsG T t none x n0 = some n ∧ (0 ≤ n ∧ n ≤ 1000) ∧ s = { t := t2, h := [pH T (vsV V)], lo := none } ∧ Lv 78 [(1, sV l), (2, .ptr 0 0), (5, .int .i64 n), (6, .int .i64 (t : Int))] t2) := by
 have hxm := List.mem_of_getElem? ht
 have hxl := ok.rl x hxm
 have htl : t < l.length := (List.getElem?_eq_some_iff.1 ht).1
 have k1 : (t : Int) < ((l.map bV).length : Int) := by simp; omega
 have k2 : (l.map bV)[(t : Int).toNat]? = some (bV x) := by simp [ht]
 refine Wp.loop (fun k s => ∃ (i : Nat) (n : Int) (t1 : List AV), s = { t := t1, h := [pH T (vsV V)], lo := none } ∧ k = x.length - i ∧ i ≤ x.length ∧ (0 ≤ n ∧ n ≤ 1000) ∧ Lv 78 [(1, sV l), (2, .ptr 0 0), (5, .int .i64 n), (6, .int .i64 (t : Int)), (7, .int .i64 (i : Int))] t1 ∧ rowsG T t (prevR x i) (x.drop i) n = rowsG T t none x n0 ∧ (0 < i → ∃ u q, x[i - 1]? = some (u :: q))) ?_ x.length _ ⟨0, n0, t0, rfl, by omega, by omega, hn0, hlv, rfl, fun h => absurd h (by omega)⟩
 rintro k s ⟨i, n, t1, rfl, rfl, hi, ⟨hn1, hn2⟩, hl, hF, hprev⟩
 by_cases hlt : i < x.length
 ·have e1 := List.getElem?_eq_getElem hlt
  have hrm : x[i] ∈ x := List.getElem_mem hlt
  rw [List.drop_eq_getElem_cons hlt, rowsG_cons] at hF
  have hpn : prevR x (i + 1) = some x[i] := by simp [prevR, e1]
  generalize x[i] = r at e1 hF hpn hrm
  have g1 : (i : Int) < ((x.map rV).length : Int) := by simp; omega
  have g2 : (x.map rV)[(i : Int).toNat]? = some (rV r) := by simp [e1]
  have hw : IntKind.i64.wrap (n + 1) = n + 1 := IntWalk.i64_in _ (by omega)
  refine Wp.seq ?_
  refine (path2 [1, 2, 5, 6, 7] (e := .normal) (vals := [sV l, .ptr 0 0, .int .i64 n, .int .i64 (t : Int), .int .i64 (i : Int)]) (h' := [pH T (vsV V)]) (ds := [.v (bV x), .b true]) (cs := [1 = 1, 0 ≤ (t : Int), (t : Int) < ((l.map bV).length : Int), (l.map bV)[(t : Int).toNat]? = some (bV x), cB (decide ((i : Int) < ((x.map rV).length : Int))) true]) hl (fun t0 => by kernel_rfl) ⟨rfl, by omega, k1, k2, cT g1, trivial⟩).mono ?_
  rintro e s ⟨rfl, t2, rfl, hl2⟩
  refine Wp.seq (Wp.block (Wp.seq ?_))
  refine (path2 [1, 2, 5, 6, 7] (e := .normal) (vals := [sV l, .ptr 0 0, .int .i64 (IntKind.i64.wrap (n + 1)), .int .i64 (t : Int), .int .i64 (i : Int)]) (h' := [pH T (vsV V)]) (ds := []) (cs := []) hl2 (fun t0 => by kernel_rfl) trivial).mono ?_
  rintro e s ⟨rfl, t3, rfl, hl3⟩
  rw [hw] at hl3
  by_cases h1 : n + 1 > 1000
  ·rw [if_pos h1] at hF
   refine (path2 [4] (e := .ret) (vals := [.bool false]) (h' := [pH T (vsV V)]) (ds := [.b true]) (cs := [cB (decide (n + 1 > 1000)) true]) hl3 (fun t0 => by kernel_rfl) ⟨cT h1, trivial⟩).mono ?_
   rintro e s ⟨rfl, t4, rfl, hl4⟩
   exact .inl ⟨Q35_of hl4, hF.symm⟩
  rw [if_neg h1] at hF
  have hfit := fit2 (V := V) (t := (t : Int)) hT (ok.vl x hxm r hrm) [pH T (vsV V)]
  cases h2 : fitsB T t r with
  | false =>
   rw [h2] at hfit hF
   rw [if_pos rfl] at hF
   refine (path2 [4] (e := .ret) (vals := [.bool false]) (h' := [pH T (vsV V)]) (ds := [.b false, .v (bV x), .v (rV r), .r (.bool false) [pH T (vsV V)] none])
    (cs := [cB (decide (n + 1 > 1000)) false, 1 = 1, 0 ≤ (t : Int), (t : Int) < ((l.map bV).length : Int), (l.map bV)[(t : Int).toNat]? = some (bV x), 1 = 1, 0 ≤ (i : Int), (i : Int) < ((x.map rV).length : Int), (x.map rV)[(i : Int).toNat]? = some (rV r), Cl G2 Ax.T 19 [pA T (vsV V), .int .i64 (t : Int), rV r] [pH T (vsV V)] (.bool false, [pH T (vsV V)], none)]) hl3 (fun t0 => by kernel_rfl) ⟨cF h1, rfl, by omega, k1, k2, rfl, by omega, g1, g2, hfit, trivial⟩).mono ?_
   rintro e s ⟨rfl, t4, rfl, hl4⟩
   exact .inl ⟨Q35_of hl4, hF.symm⟩
  | true =>
   rw [h2] at hfit hF
   rw [if_neg (by decide)] at hF
   obtain ⟨u, r', hr⟩ := fitsB_pos hc h2
   have hsu : OkStr u := ok.sl x hxm r hrm u (by rw [hr]; simp)
   have hru : (r.map vV)[(0 : Int).toNat]? = some (vV u) := by rw [hr]; rfl
   have hrl : (0 : Int) < ((r.map vV).length : Int) := by rw [hr]; simp
   by_cases h3 : (i : Int) > 0
   ·obtain ⟨u2, q', hq⟩ := hprev (by omega)
    have hp : prevR x i = some (u2 :: q') := by rw [prevR, if_neg (by omega)]; exact hq
    rw [hp] at hF
    have hqm : (u2 :: q') ∈ x := List.mem_of_getElem? hq
    have hsu2 : OkStr u2 := ok.sl x hxm _ hqm u2 (by simp)
    have hcm := cmp2 hsu2 hsu [pH T (vsV V)]
    have hF' : (if decide (cmpVal u2 u ≥ 0) = true then none else rowsG T t (some r) (x.drop (i + 1)) (n + 1)) = rowsG T t none x n0 := by
     rw [← hF, hr]
     rfl
    have hw2 : IntKind.i64.wrap ((i : Int) - 1) = (i : Int) - 1 := IntWalk.i64_in _ (by omega)
    have g5 : 0 ≤ IntKind.i64.wrap ((i : Int) - 1) := by rw [hw2]; omega
    have g6 : IntKind.i64.wrap ((i : Int) - 1) < ((x.map rV).length : Int) := by rw [hw2]; simp; omega
    have g7 : (x.map rV)[(IntKind.i64.wrap ((i : Int) - 1)).toNat]? = some (rV (u2 :: q')) := by
     rw [hw2, show ((i : Int) - 1).toNat = i - 1 by omega]
     simp [hq]
    have g8 : (0 : Int) < (((u2 :: q').map vV).length : Int) := by simp
    by_cases h4 : cmpVal u2 u ≥ 0
    ·rw [if_pos (decide_eq_true h4)] at hF'
     refine (path2 [4] (e := .ret) (vals := [.bool false]) (h' := [pH T (vsV V)]) (ds := [.b false, .v (bV x), .v (rV r), .r (.bool true) [pH T (vsV V)] none, .b true, .v (bV x), .v (rV (u2 :: q')), .v (vV u2), .v (bV x), .v (rV r), .v (vV u), .r (.int .i64 (cmpVal u2 u)) [pH T (vsV V)] none, .b true])
      (cs := [cB (decide (n + 1 > 1000)) false, 1 = 1, 0 ≤ (t : Int), (t : Int) < ((l.map bV).length : Int), (l.map bV)[(t : Int).toNat]? = some (bV x), 1 = 1, 0 ≤ (i : Int), (i : Int) < ((x.map rV).length : Int), (x.map rV)[(i : Int).toNat]? = some (rV r), Cl G2 Ax.T 19 [pA T (vsV V), .int .i64 (t : Int), rV r] [pH T (vsV V)] (.bool true, [pH T (vsV V)], none),
       cB (decide ((i : Int) > 0)) true, 1 = 1, 0 ≤ (t : Int), (t : Int) < ((l.map bV).length : Int), (l.map bV)[(t : Int).toNat]? = some (bV x), 1 = 1, 0 ≤ IntKind.i64.wrap ((i : Int) - 1), IntKind.i64.wrap ((i : Int) - 1) < ((x.map rV).length : Int), (x.map rV)[(IntKind.i64.wrap ((i : Int) - 1)).toNat]? = some (rV (u2 :: q')), 3 = 3, (0 : Int) ≤ 0, (0 : Int) < (((u2 :: q').map vV).length : Int), ((u2 :: q').map vV)[(0 : Int).toNat]? = some (vV u2),
       1 = 1, 0 ≤ (t : Int), (t : Int) < ((l.map bV).length : Int), (l.map bV)[(t : Int).toNat]? = some (bV x), 1 = 1, 0 ≤ (i : Int), (i : Int) < ((x.map rV).length : Int), (x.map rV)[(i : Int).toNat]? = some (rV r), 3 = 3, (0 : Int) ≤ 0, (0 : Int) < ((r.map vV).length : Int), (r.map vV)[(0 : Int).toNat]? = some (vV u), Cl G2 Ax.T 20 [vV u2, vV u] [pH T (vsV V)] (.int .i64 (cmpVal u2 u), [pH T (vsV V)], none), cB (decide (cmpVal u2 u ≥ 0)) true]) hl3 (fun t0 => by kernel_rfl)
      ⟨cF h1, rfl, by omega, k1, k2, rfl, by omega, g1, g2, hfit, cT h3, rfl, by omega, k1, k2, rfl, g5, g6, g7, rfl, by omega, g8, rfl, rfl, by omega, k1, k2, rfl, by omega, g1, g2, rfl, by omega, hrl, hru, hcm, cT h4, trivial⟩).mono ?_
     rintro e s ⟨rfl, t4, rfl, hl4⟩
     exact .inl ⟨Q35_of hl4, hF'.symm⟩
    ·rw [if_neg (by rw [decide_eq_false h4]; decide)] at hF'
     refine (path2 [1, 2, 5, 6, 7] (e := .normal) (vals := [sV l, .ptr 0 0, .int .i64 (n + 1), .int .i64 (t : Int), .int .i64 (i : Int)]) (h' := [pH T (vsV V)]) (ds := [.b false, .v (bV x), .v (rV r), .r (.bool true) [pH T (vsV V)] none, .b true, .v (bV x), .v (rV (u2 :: q')), .v (vV u2), .v (bV x), .v (rV r), .v (vV u), .r (.int .i64 (cmpVal u2 u)) [pH T (vsV V)] none, .b false])
      (cs := [cB (decide (n + 1 > 1000)) false, 1 = 1, 0 ≤ (t : Int), (t : Int) < ((l.map bV).length : Int), (l.map bV)[(t : Int).toNat]? = some (bV x), 1 = 1, 0 ≤ (i : Int), (i : Int) < ((x.map rV).length : Int), (x.map rV)[(i : Int).toNat]? = some (rV r), Cl G2 Ax.T 19 [pA T (vsV V), .int .i64 (t : Int), rV r] [pH T (vsV V)] (.bool true, [pH T (vsV V)], none),
       cB (decide ((i : Int) > 0)) true, 1 = 1, 0 ≤ (t : Int), (t : Int) < ((l.map bV).length : Int), (l.map bV)[(t : Int).toNat]? = some (bV x), 1 = 1, 0 ≤ IntKind.i64.wrap ((i : Int) - 1), IntKind.i64.wrap ((i : Int) - 1) < ((x.map rV).length : Int), (x.map rV)[(IntKind.i64.wrap ((i : Int) - 1)).toNat]? = some (rV (u2 :: q')), 3 = 3, (0 : Int) ≤ 0, (0 : Int) < (((u2 :: q').map vV).length : Int), ((u2 :: q').map vV)[(0 : Int).toNat]? = some (vV u2),
       1 = 1, 0 ≤ (t : Int), (t : Int) < ((l.map bV).length : Int), (l.map bV)[(t : Int).toNat]? = some (bV x), 1 = 1, 0 ≤ (i : Int), (i : Int) < ((x.map rV).length : Int), (x.map rV)[(i : Int).toNat]? = some (rV r), 3 = 3, (0 : Int) ≤ 0, (0 : Int) < ((r.map vV).length : Int), (r.map vV)[(0 : Int).toNat]? = some (vV u), Cl G2 Ax.T 20 [vV u2, vV u] [pH T (vsV V)] (.int .i64 (cmpVal u2 u), [pH T (vsV V)], none), cB (decide (cmpVal u2 u ≥ 0)) false]) hl3 (fun t0 => by kernel_rfl)
      ⟨cF h1, rfl, by omega, k1, k2, rfl, by omega, g1, g2, hfit, cT h3, rfl, by omega, k1, k2, rfl, g5, g6, g7, rfl, by omega, g8, rfl, rfl, by omega, k1, k2, rfl, by omega, g1, g2, rfl, by omega, hrl, hru, hcm, cF h4, trivial⟩).mono ?_
     rintro e s ⟨rfl, t4, rfl, hl4⟩
     refine (path2 [1, 2, 5, 6, 7] (e := .normal) (vals := [sV l, .ptr 0 0, .int .i64 (n + 1), .int .i64 (t : Int), .int .i64 (IntKind.i64.wrap ((i : Int) + 1))]) (h' := [pH T (vsV V)]) (ds := []) (cs := []) hl4 (fun t0 => by kernel_rfl) trivial).mono ?_
     rintro e s ⟨rfl, t5, rfl, hl5⟩
     rw [i64_succ (by omega) (by omega)] at hl5
     exact ⟨x.length - (i + 1), by omega, i + 1, n + 1, t5, rfl, rfl, by omega, by omega, hl5, by rw [hpn]; exact hF', fun _ => ⟨u, r', by rw [Nat.add_sub_cancel, e1, hr]⟩⟩
   ·have hp : prevR x i = none := by rw [prevR, if_pos (by omega)]
    rw [hp] at hF
    have hF' : rowsG T t (some r) (x.drop (i + 1)) (n + 1) = rowsG T t none x n0 := by rw [← hF]; rfl
    refine (path2 [1, 2, 5, 6, 7] (e := .normal) (vals := [sV l, .ptr 0 0, .int .i64 (n + 1), .int .i64 (t : Int), .int .i64 (i : Int)]) (h' := [pH T (vsV V)]) (ds := [.b false, .v (bV x), .v (rV r), .r (.bool true) [pH T (vsV V)] none, .b false])
      (cs := [cB (decide (n + 1 > 1000)) false, 1 = 1, 0 ≤ (t : Int), (t : Int) < ((l.map bV).length : Int), (l.map bV)[(t : Int).toNat]? = some (bV x), 1 = 1, 0 ≤ (i : Int), (i : Int) < ((x.map rV).length : Int), (x.map rV)[(i : Int).toNat]? = some (rV r), Cl G2 Ax.T 19 [pA T (vsV V), .int .i64 (t : Int), rV r] [pH T (vsV V)] (.bool true, [pH T (vsV V)], none),
       cB (decide ((i : Int) > 0)) false]) hl3 (fun t0 => by kernel_rfl) ⟨cF h1, rfl, by omega, k1, k2, rfl, by omega, g1, g2, hfit, cF h3, trivial⟩).mono ?_
    rintro e s ⟨rfl, t4, rfl, hl4⟩
    refine (path2 [1, 2, 5, 6, 7] (e := .normal) (vals := [sV l, .ptr 0 0, .int .i64 (n + 1), .int .i64 (t : Int), .int .i64 (IntKind.i64.wrap ((i : Int) + 1))]) (h' := [pH T (vsV V)]) (ds := []) (cs := []) hl4 (fun t0 => by kernel_rfl) trivial).mono ?_
    rintro e s ⟨rfl, t5, rfl, hl5⟩
    rw [i64_succ (by omega) (by omega)] at hl5
    exact ⟨x.length - (i + 1), by omega, i + 1, n + 1, t5, rfl, rfl, by omega, by omega, hl5, by rw [hpn]; exact hF', fun _ => ⟨u, r', by rw [Nat.add_sub_cancel, e1, hr]⟩⟩
 ·refine Wp.seq ?_
  refine (path2 [1, 2, 5, 6] (e := .exit 2) (vals := [sV l, .ptr 0 0, .int .i64 n, .int .i64 (t : Int)]) (h' := [pH T (vsV V)]) (ds := [.v (bV x), .b false]) (cs := [1 = 1, 0 ≤ (t : Int), (t : Int) < ((l.map bV).length : Int), (l.map bV)[(t : Int).toNat]? = some (bV x), cB (decide ((i : Int) < ((x.map rV).length : Int))) false]) hl (fun t0 => by kernel_rfl) ⟨rfl, by omega, k1, k2, cF (by simp; omega), trivial⟩).mono ?_
  rintro e s ⟨rfl, t3, rfl, hl3⟩
  refine .inr ⟨rfl, n, t3, ?_, ⟨hn1, hn2⟩, rfl, hl3⟩
  rw [← hF, List.drop_of_length_le (by omega), rowsG]
open Go
theorem m1_ok {T : List (List Int)} {V : List Vw} {l : List (List (List Val))} (ok : OkT l) (hT : T.length ≤ 9223372036854775807) (hc : ∀ c ∈ T, 1 ≤ c.length) {t0 : List AV} (hlv : Lv 78 [(1, sV l), (2, .ptr 0 0), (5, .int .i64 0), (6, .int .i64 0)] t0) :
  Wp G2 Ax.T (.loop M1) { t := t0, h := [pH T (vsV V)], lo := none } fun e s => (Q35 false e s ∧ tabsG T 0 l 0 = false) ∨ (e = .exit 0 ∧ tabsG T 0 l 0 = true ∧ ∃ t2, s = { t := t2, h := [pH T (vsV V)], lo := none } ∧ t2.length = 78) := by
 have hll := ok.len
 refine Wp.loop (fun k s => ∃ (t : Nat) (n : Int) (t1 : List AV), s = { t := t1, h := [pH T (vsV V)], lo := none } ∧ k = l.length - t ∧ t ≤ l.length ∧ (0 ≤ n ∧ n ≤ 1000) ∧ Lv 78 [(1, sV l), (2, .ptr 0 0), (5, .int .i64 n), (6, .int .i64 (t : Int))] t1 ∧ tabsG T t (l.drop t) n = tabsG T 0 l 0) ?_ l.length _ ⟨0, 0, t0, rfl, by omega, by omega, by omega, hlv, rfl⟩
 rintro k s ⟨t, n, t1, rfl, rfl, hi, hn, hl, hF⟩
 refine Wp.seq ?_
 by_cases hlt : t < l.length
 ·have e1 := List.getElem?_eq_getElem hlt
  rw [List.drop_eq_getElem_cons hlt, tabsG] at hF
  generalize l[t] = x at e1 hF
  refine (path2 [1, 2, 5, 6] (e := .normal) (vals := [sV l, .ptr 0 0, .int .i64 n, .int .i64 (t : Int)]) (h' := [pH T (vsV V)]) (ds := [.b true]) (cs := [cB (decide ((t : Int) < ((l.map bV).length : Int))) true]) hl (fun t0 => by kernel_rfl) ⟨cT (by simp; omega), trivial⟩).mono ?_
  rintro e s ⟨rfl, t2, rfl, hl2⟩
  refine Wp.seq (Wp.block (Wp.seq ?_))
  refine (path2 [1, 2, 5, 6, 7] (e := .normal) (vals := [sV l, .ptr 0 0, .int .i64 n, .int .i64 (t : Int), .int .i64 0]) (h' := [pH T (vsV V)]) (ds := []) (cs := []) hl2 (fun t0 => by kernel_rfl) trivial).mono ?_
  rintro e s ⟨rfl, t3, rfl, hl3⟩
  refine Wp.block ?_
  refine (m2_ok ok hT hc e1 hn hl3).mono ?_
  rintro e s (⟨⟨rfl, h3⟩, h4⟩ | ⟨rfl, n', t4, h4, hn', rfl, hl4⟩)
  ·refine .inl ⟨⟨rfl, h3⟩, ?_⟩
   rw [h4] at hF
   exact hF.symm
  ·rw [h4] at hF
   refine (path2 [1, 2, 5, 6] (e := .normal) (vals := [sV l, .ptr 0 0, .int .i64 n', .int .i64 (IntKind.i64.wrap ((t : Int) + 1))]) (h' := [pH T (vsV V)]) (ds := []) (cs := []) hl4 (fun t0 => by kernel_rfl) trivial).mono ?_
   rintro e s ⟨rfl, t5, rfl, hl5⟩
   rw [i64_succ (by omega) (by omega)] at hl5
   exact ⟨l.length - (t + 1), by omega, t + 1, n', t5, rfl, rfl, by omega, hn', hl5, hF⟩
 ·refine (path2 [1] (e := .exit 0) (vals := [sV l]) (h' := [pH T (vsV V)]) (ds := [.b false]) (cs := [cB (decide ((t : Int) < ((l.map bV).length : Int))) false]) hl (fun t0 => by kernel_rfl) ⟨cF (by simp; omega), trivial⟩).mono ?_
  rintro e s ⟨rfl, t3, rfl, hl3⟩
  exact .inr ⟨rfl, by rw [← hF, List.drop_of_length_le (by omega)]; rfl, t3, rfl, hl3.len⟩
theorem planOk_pos {T : List (List Int)} {V : List Vw} (h : planOk T V = true) : ∀ c ∈ T, 1 ≤ c.length := by
 simp only [planOk, Bool.and_eq_true] at h
 intro c hc
 have := List.all_eq_true.1 h.2.2.2.1 c hc
 simp only [tabOk, Bool.and_eq_true, Bool.not_eq_true', decide_eq_false_iff_not] at this
 omega
theorem good35_cl {T : List (List Int)} {V : List Vw} {l : List (List (List Val))} (okp : OkP T V) (ok : OkT l) : ∃ h', Cl G2 Ax.T 7 [pA T (vsV V), sV l] [] (.bool (goodT T V l), h', none) := by
 suffices hw : Wp G2 Ax.T b35 { t := [pA T (vsV V), sV l] ++ List.replicate 76 (.tup []), h := [] } (Q35 (goodT T V l)) by
  obtain ⟨r, h', rfl, hc⟩ := Cl.slot (Γ := G2) (tbl := Ax.T) (af := a7) (args := [pA T (vsV V), sV l]) (h := []) (by kernel_rfl) (by kernel_rfl) rfl rfl (fun r h' => r = .bool (goodT T V l)) hw
  exact ⟨h', hc⟩
 have hg := g172 okp [pH T (vsV V)]
 have hlm : ((l.map bV).length : Int) = (l.length : Int) := by simp
 have hTm : ((T.map tV).length : Int) = (T.length : Int) := by simp
 refine Wp.seq ?_
 refine (path2 (nt := 78) (live := [(0, pA T (vsV V)), (1, sV l)]) [1, 2] (e := .normal) (vals := [sV l, .ptr 0 0]) (h' := [pH T (vsV V)]) (ds := []) (cs := []) ⟨by simp, by simp [getX_eq]⟩ (fun t0 => by kernel_rfl) trivial).mono ?_
 rintro e s ⟨rfl, t1, rfl, hl1⟩
 refine Wp.seq ?_
 cases hp : planOk T V with
 | false =>
  rw [hp] at hg
  rw [show goodT T V l = false by simp [goodT, hp]]
  refine (path2 [4] (e := .ret) (vals := [.bool false]) (h' := [pH T (vsV V)]) (ds := [.r (.bool false) [pH T (vsV V)] none]) (cs := [Cl G2 Ax.T 18 [pA T (vsV V)] [pH T (vsV V)] (.bool false, [pH T (vsV V)], none)]) hl1 (fun t0 => by kernel_rfl) ⟨hg, trivial⟩).mono ?_
  rintro e s ⟨rfl, t3, rfl, hl3⟩
  exact Q35_of hl3
 | true =>
  rw [hp] at hg
  by_cases h1 : ((l.map bV).length : Int) = ((T.map tV).length : Int)
  case neg =>
   rw [show goodT T V l = false by simp [goodT, hp]; intro h; omega]
   refine (path2 [4] (e := .ret) (vals := [.bool false]) (h' := [pH T (vsV V)]) (ds := [.r (.bool true) [pH T (vsV V)] none, .b true]) (cs := [Cl G2 Ax.T 18 [pA T (vsV V)] [pH T (vsV V)] (.bool true, [pH T (vsV V)], none), cB (((l.map bV).length : Int) != ((T.map tV).length : Int)) true]) hl1 (fun t0 => by kernel_rfl) ⟨hg, cD h1, trivial⟩).mono ?_
   rintro e s ⟨rfl, t3, rfl, hl3⟩
   exact Q35_of hl3
  have hgt : goodT T V l = tabsG T 0 l 0 := by rw [goodT, hp, decide_eq_true (show l.length = T.length by omega)]; rfl
  rw [hgt]
  refine (path2 [1, 2] (e := .normal) (vals := [sV l, .ptr 0 0]) (h' := [pH T (vsV V)]) (ds := [.r (.bool true) [pH T (vsV V)] none, .b false]) (cs := [Cl G2 Ax.T 18 [pA T (vsV V)] [pH T (vsV V)] (.bool true, [pH T (vsV V)], none), cB (((l.map bV).length : Int) != ((T.map tV).length : Int)) false]) hl1 (fun t0 => by kernel_rfl) ⟨hg, cS h1, trivial⟩).mono ?_
  rintro e s ⟨rfl, t2, rfl, hl2⟩
  refine Wp.seq ?_
  refine (path2 [1, 2, 5] (e := .normal) (vals := [sV l, .ptr 0 0, .int .i64 0]) (h' := [pH T (vsV V)]) (ds := []) (cs := []) hl2 (fun t0 => by kernel_rfl) trivial).mono ?_
  rintro e s ⟨rfl, t3, rfl, hl3⟩
  refine Wp.seq (Wp.seq ?_)
  refine (path2 [1, 2, 5, 6] (e := .normal) (vals := [sV l, .ptr 0 0, .int .i64 0, .int .i64 0]) (h' := [pH T (vsV V)]) (ds := []) (cs := []) hl3 (fun t0 => by kernel_rfl) trivial).mono ?_
  rintro e s ⟨rfl, t4, rfl, hl4⟩
  refine Wp.block ?_
  refine ((m1_ok ok okp.t (planOk_pos hp) hl4)).mono ?_
  rintro e s (⟨⟨rfl, h5⟩, h6⟩ | ⟨rfl, h6, t5, rfl, hl5⟩)
  ·rw [h6]
   exact ⟨rfl, h5⟩
  ·rw [h6]
   refine (path2 (nt := 78) (live := []) [4] (e := .ret) (vals := [.bool true]) (h' := [pH T (vsV V)]) (ds := []) (cs := []) ⟨hl5, by simp⟩ (fun t0 => by kernel_rfl) trivial).mono ?_
   rintro e s ⟨rfl, t6, rfl, hl6⟩
   exact Q35_of hl6
open Go
def and1 (c : Int) : Int := IntKind.u32.wrap ((BitVec.ofInt IntKind.u32.bits c &&& BitVec.ofInt IntKind.u32.bits 1).toNat : Int)
def shr1 (c : Int) : Int := c.fdiv (2 ^ (min (1 : Int).toNat IntKind.u32.bits))
def xor32 (a b : Int) : Int := IntKind.u32.wrap ((BitVec.ofInt IntKind.u32.bits a ^^^ BitVec.ofInt IntKind.u32.bits b).toNat : Int)
def crcBit (c : Int) : Int := if and1 c = 1 then xor32 (shr1 c) 3988292384 else shr1 c
def iter (f : Int → Int) : Nat → Int → Int
 | 0, c => c
 | n + 1, c => iter f n (f c)
def crcByte (c : Int) (b : UInt8) : Int := iter crcBit 8 (xor32 c (IntKind.u32.wrap b.toNat))
def crcFold : List UInt8 → Int → Int
 | [], c => c
 | b :: s, c => crcFold s (crcByte c b)
def crcSum (s : List UInt8) : Int := xor32 (crcFold s 4294967295) 4294967295
abbrev bS : ACode := a23.body
def S1 : ACode := lp (blk (tl (hd (tl (tl bS)))))
def S2 : ACode := lp (blk (tl (tl (blk (hd (tl S1))))))
section
variable {Γ : FuncId → Option GF}
theorem s2_ok {s : List UInt8} {n : Int} {h : List Blk} {c0 : Int} {t0 : List AV} (hlv : Lv 33 [(0, .str s), (3, .int .u32 c0), (4, .int .i64 n), (5, .int .i64 0)] t0) :
  Wp Γ T (.loop S2) { t := t0, h := h, lo := none } fun e s' => e = .exit 2 ∧ ∃ t2, s' = { t := t2, h := h, lo := none } ∧ Lv 33 [(0, .str s), (3, .int .u32 (iter crcBit 8 c0)), (4, .int .i64 n)] t2 := by
 refine Wp.loop (fun k s' => ∃ (i : Nat) (c : Int) (t1 : List AV), s' = { t := t1, h := h, lo := none } ∧ k = 8 - i ∧ i ≤ 8 ∧ Lv 33 [(0, .str s), (3, .int .u32 c), (4, .int .i64 n), (5, .int .i64 (i : Int))] t1 ∧ iter crcBit (8 - i) c = iter crcBit 8 c0) ?_ 8 _ ⟨0, c0, t0, rfl, by omega, by omega, hlv, rfl⟩
 rintro k s' ⟨i, c, t1, rfl, rfl, hi, hl, hF⟩
 by_cases hlt : (i : Int) < 8
 ·rw [show 8 - i = (8 - (i + 1)) + 1 by omega, iter] at hF
  by_cases h1 : and1 c = 1
  ·rw [crcBit, if_pos h1] at hF
   refine (path2 [0, 3, 4, 5] (e := .normal) (vals := [.str s, .int .u32 (xor32 (shr1 c) 3988292384), .int .i64 n, .int .i64 (IntKind.i64.wrap ((i : Int) + 1))]) (h' := h) (ds := [.b true, .b true]) (cs := [cB (decide ((i : Int) < 8)) true, cB (and1 c == 1) true]) hl (fun t0 => by kernel_rfl) ⟨cT hlt, cE h1, trivial⟩).mono ?_
   rintro e s ⟨rfl, t3, rfl, hl3⟩
   rw [i64_succ (by omega) (by omega)] at hl3
   exact ⟨8 - (i + 1), by omega, i + 1, _, t3, rfl, rfl, by omega, hl3, hF⟩
  ·rw [crcBit, if_neg h1] at hF
   refine (path2 [0, 3, 4, 5] (e := .normal) (vals := [.str s, .int .u32 (shr1 c), .int .i64 n, .int .i64 (IntKind.i64.wrap ((i : Int) + 1))]) (h' := h) (ds := [.b true, .b false]) (cs := [cB (decide ((i : Int) < 8)) true, cB (and1 c == 1) false]) hl (fun t0 => by kernel_rfl) ⟨cT hlt, cN h1, trivial⟩).mono ?_
   rintro e s ⟨rfl, t3, rfl, hl3⟩
   rw [i64_succ (by omega) (by omega)] at hl3
   exact ⟨8 - (i + 1), by omega, i + 1, _, t3, rfl, rfl, by omega, hl3, hF⟩
 ·have hi8 : i = 8 := by omega
  subst hi8
  have hF' : c = iter crcBit 8 c0 := hF
  rw [← hF']
  refine (path2 [0, 3, 4] (e := .exit 2) (vals := [.str s, .int .u32 c, .int .i64 n]) (h' := h) (ds := [.b false]) (cs := [cB (decide (((8 : Nat) : Int) < 8)) false]) hl (fun t0 => by kernel_rfl) ⟨cF hlt, trivial⟩).mono ?_
  rintro e s ⟨rfl, t3, rfl, hl3⟩
  exact ⟨rfl, t3, rfl, hl3⟩
theorem sum_cl (hg : Γ 23 = none) {s : List UInt8} (hs : s.length ≤ 9223372036854775807) (h : List Blk) : Cl Γ T 23 [.str s] h (.int .u32 (crcSum s), h, none) := by
 suffices hw : Wp Γ T bS { t := [.str s] ++ List.replicate 32 (.tup []), h := h } (fun e s' => e = .ret ∧ s'.lo = none ∧ getX s'.t 2 = .int .u32 (crcSum s) ∧ s'.h = h) by
  obtain ⟨r, h', ⟨rfl, rfl⟩, hc⟩ := Cl.slot (Γ := Γ) (tbl := T) (af := a23) (args := [.str s]) (h := h) hg (by kernel_rfl) rfl rfl (fun r h' => r = .int .u32 (crcSum s) ∧ h' = h) hw
  exact hc
 refine Wp.seq ?_
 refine (path2 (nt := 33) (live := [(0, .str s)]) [0] (e := .normal) (vals := [.str s]) (h' := h) (ds := []) (cs := []) ⟨by simp, by simp [getX_eq]⟩ (fun t0 => by kernel_rfl) trivial).mono ?_
 rintro e s' ⟨rfl, t1, rfl, hl1⟩
 refine Wp.seq ?_
 refine (path2 [0, 3] (e := .normal) (vals := [.str s, .int .u32 4294967295]) (h' := h) (ds := []) (cs := []) hl1 (fun t0 => by kernel_rfl) trivial).mono ?_
 rintro e s' ⟨rfl, t2, rfl, hl2⟩
 refine Wp.seq (Wp.seq ?_)
 refine (path2 [0, 3, 4] (e := .normal) (vals := [.str s, .int .u32 4294967295, .int .i64 0]) (h' := h) (ds := []) (cs := []) hl2 (fun t0 => by kernel_rfl) trivial).mono ?_
 rintro e s' ⟨rfl, t3, rfl, hl3⟩
 refine Wp.block ?_
 refine (Wp.loop (Q := fun e s' => e = .exit 0 ∧ ∃ t, s' = { t := t, h := h, lo := none } ∧ Lv 33 [(3, .int .u32 (crcFold s 4294967295))] t) (fun k s' => ∃ (i : Nat) (c : Int) (t1 : List AV), s' = { t := t1, h := h, lo := none } ∧ k = s.length - i ∧ i ≤ s.length ∧ Lv 33 [(0, .str s), (3, .int .u32 c), (4, .int .i64 (i : Int))] t1 ∧ crcFold (s.drop i) c = crcFold s 4294967295) ?_ s.length _ ⟨0, _, t3, rfl, by omega, by omega, hl3, rfl⟩).mono ?_
 ·rintro k s' ⟨i, c, t1, rfl, rfl, hi, hl, hF⟩
  refine Wp.seq ?_
  by_cases hlt : i < s.length
  ·have e1 := List.getElem?_eq_getElem hlt
   rw [List.drop_eq_getElem_cons hlt, crcFold] at hF
   generalize s[i] = b at e1 hF
   refine (path2 [0, 3, 4] (e := .normal) (vals := [.str s, .int .u32 c, .int .i64 (i : Int)]) (h' := h) (ds := [.b true]) (cs := [cB (decide ((i : Int) < (s.length : Int))) true]) hl (fun t0 => by kernel_rfl) ⟨cT (by omega), trivial⟩).mono ?_
   rintro e s' ⟨rfl, t4, rfl, hl4⟩
   refine Wp.seq (Wp.block (Wp.seq ?_))
   refine (path2 [0, 3, 4] (e := .normal) (vals := [.str s, .int .u32 (xor32 c (IntKind.u32.wrap b.toNat)), .int .i64 (i : Int)]) (h' := h) (ds := [.f (.int .u8 b.toNat)]) (cs := [(if 0 ≤ (i : Int) then (s[(i : Int).toNat]?).map (fun b => AV.int .u8 b.toNat) else none) = some (.int .u8 b.toNat)]) hl4 (fun t0 => by kernel_rfl) ⟨by simp [e1], trivial⟩).mono ?_
   rintro e s' ⟨rfl, t5, rfl, hl5⟩
   refine Wp.seq ?_
   refine (path2 [0, 3, 4, 5] (e := .normal) (vals := [.str s, .int .u32 (xor32 c (IntKind.u32.wrap b.toNat)), .int .i64 (i : Int), .int .i64 0]) (h' := h) (ds := []) (cs := []) hl5 (fun t0 => by kernel_rfl) trivial).mono ?_
   rintro e s' ⟨rfl, t6, rfl, hl6⟩
   refine Wp.block ?_
   refine (s2_ok hl6).mono ?_
   rintro e s' ⟨rfl, t7, rfl, hl7⟩
   refine (path2 [0, 3, 4] (e := .normal) (vals := [.str s, .int .u32 (crcByte c b), .int .i64 (IntKind.i64.wrap ((i : Int) + 1))]) (h' := h) (ds := []) (cs := []) hl7 (fun t0 => by kernel_rfl) trivial).mono ?_
   rintro e s' ⟨rfl, t8, rfl, hl8⟩
   rw [i64_succ (by omega) (by omega)] at hl8
   exact ⟨s.length - (i + 1), by omega, i + 1, _, t8, rfl, rfl, by omega, hl8, hF⟩
  ·rw [List.drop_of_length_le (by omega)] at hF
   have hF' : c = crcFold s 4294967295 := hF
   rw [← hF']
   refine (path2 [3] (e := .exit 0) (vals := [.int .u32 c]) (h' := h) (ds := [.b false]) (cs := [cB (decide ((i : Int) < (s.length : Int))) false]) hl (fun t0 => by kernel_rfl) ⟨cF (by omega), trivial⟩).mono ?_
   rintro e s' ⟨rfl, t4, rfl, hl4⟩
   exact ⟨rfl, t4, rfl, hl4⟩
 ·rintro e s' ⟨rfl, t4, rfl, hl4⟩
  refine (path2 [2] (e := .ret) (vals := [.int .u32 (crcSum s)]) (h' := h) (ds := []) (cs := []) hl4 (fun t0 => by kernel_rfl) trivial).mono ?_
  rintro e s' ⟨rfl, t5, rfl, hl5⟩
  exact ⟨rfl, rfl, hl5.get _ (List.mem_singleton.2 rfl), rfl⟩
def tailB (n : Int) (k : Nat) : UInt8 := UInt8.ofNat (IntKind.u8.wrap (n.fdiv (2 ^ k))).toNat
def tailL (n : Int) : List UInt8 := [UInt8.ofNat (IntKind.u8.wrap n).toNat, tailB n 8, tailB n 16, tailB n 24]
theorem tail_cl (hg : Γ 22 = none) (n : Int) : ∃ h', Cl Γ T 22 [.int .u32 n] [] (.str (tailL n), h', none) :=
 ⟨_, clPath (h' := [.cells [.int .u8 (IntKind.u8.wrap n), .int .u8 (IntKind.u8.wrap (n.fdiv (2 ^ 8))), .int .u8 (IntKind.u8.wrap (n.fdiv (2 ^ 16))), .int .u8 (IntKind.u8.wrap (n.fdiv (2 ^ 24)))]]) (af := a22) (ds := []) [] hg (by kernel_rfl) rfl (by kernel_rfl) trivial⟩
end
def byteAt (n : Int) (k : Nat) : Int := IntKind.u8.wrap ((IntKind.u64.wrap n).fdiv (2 ^ k))
def u8b (n : Int) : UInt8 := UInt8.ofNat n.toNat
def codeNum (n : Int) : List UInt8 := [1, u8b (IntKind.u8.wrap ((BitVec.ofInt IntKind.u8.bits (byteAt n 56) ^^^ BitVec.ofInt IntKind.u8.bits 128).toNat : Int)), u8b (byteAt n 48), u8b (byteAt n 40), u8b (byteAt n 32), u8b (byteAt n 24), u8b (byteAt n 16), u8b (byteAt n 8), u8b (byteAt n 0)]
def res1 : Option (AV × List Blk × Option Nat) → Option AV
 | some r => some r.1
 | none => none
theorem res1_some {x r} (h : res1 x = some r) : ∃ h' lo, x = some (r, h', lo) := by
 cases x with
 | none => cases h
 | some y => obtain ⟨a, b, c⟩ := y; cases h; exact ⟨b, c, rfl⟩
theorem code1_ev (n : Int) (s : List UInt8) : res1 (callX G2 T 100 21 [vV (1, n, s)] []) = some (.str (codeNum n)) := by kernel_rfl
def cp (b : UInt8) : UInt8 := UInt8.ofNat (Int.toNat (b.toNat : Int))
theorem cp_eq (b : UInt8) : cp b = b := by simp [cp]
theorem code2_ev0 : res1 (callX G2 T 100 21 [vV (2, 0, [])] []) = some (.str [2, 0, 0, 0, 0, 0, 0, 0, 0]) := by kernel_rfl
theorem code2_ev1 (a : UInt8) : res1 (callX G2 T 100 21 [vV (2, 0, [a])] []) = some (.str [2, cp a, 0, 0, 0, 0, 0, 0, 1]) := by kernel_rfl
theorem code2_ev2 (a b : UInt8) : res1 (callX G2 T 100 21 [vV (2, 0, [a, b])] []) = some (.str [2, cp a, cp b, 0, 0, 0, 0, 0, 2]) := by kernel_rfl
theorem code2_ev3 (a b c : UInt8) : res1 (callX G2 T 100 21 [vV (2, 0, [a, b, c])] []) = some (.str [2, cp a, cp b, cp c, 0, 0, 0, 0, 3]) := by kernel_rfl
theorem code2_ev4 (a b c d : UInt8) : res1 (callX G2 T 100 21 [vV (2, 0, [a, b, c, d])] []) = some (.str [2, cp a, cp b, cp c, cp d, 0, 0, 0, 4]) := by kernel_rfl
theorem code2_ev5 (a b c d e : UInt8) : res1 (callX G2 T 100 21 [vV (2, 0, [a, b, c, d, e])] []) = some (.str [2, cp a, cp b, cp c, cp d, cp e, 0, 0, 5]) := by kernel_rfl
theorem code2_ev6 (a b c d e f : UInt8) : res1 (callX G2 T 100 21 [vV (2, 0, [a, b, c, d, e, f])] []) = some (.str [2, cp a, cp b, cp c, cp d, cp e, cp f, 0, 6]) := by kernel_rfl
theorem code2_ev7 (a b c d e f g : UInt8) : res1 (callX G2 T 100 21 [vV (2, 0, [a, b, c, d, e, f, g])] []) = some (.str [2, cp a, cp b, cp c, cp d, cp e, cp f, cp g, 7]) := by kernel_rfl
def codeL (v : Val) : List UInt8 := if v.1 = 1 then codeNum v.2.1 else 2 :: (v.2.2 ++ (List.replicate (7 - v.2.2.length) 0 ++ [UInt8.ofNat v.2.2.length]))
theorem code_cl {v : Val} (hv : goodVal v = true) : ∃ h' lo, Cl G2 T 21 [vV v] [] (.str (codeL v), h', lo) := by
 obtain ⟨k, n, s⟩ := v
 have go : ∀ {r : List UInt8}, res1 (callX G2 T 100 21 [vV (k, n, s)] []) = some (.str r) → r = codeL (k, n, s) → ∃ h' lo, Cl G2 T 21 [vV (k, n, s)] [] (.str (codeL (k, n, s)), h', lo) := by
  intro r h1 h2
  obtain ⟨h', lo, h3⟩ := res1_some h1
  exact ⟨h', lo, by rw [← h2]; exact Cl.ev h3⟩
 by_cases h1 : k = 1
 ·subst h1
  exact go (code1_ev n s) rfl
 ·simp only [goodVal, if_neg h1, Bool.and_eq_true, decide_eq_true_eq] at hv
  obtain ⟨rfl, rfl, h3⟩ := hv
  rcases s with _ | ⟨a, _ | ⟨b, _ | ⟨c, _ | ⟨d, _ | ⟨e, _ | ⟨f, _ | ⟨g, _ | ⟨x, r⟩⟩⟩⟩⟩⟩⟩⟩
  ·exact go code2_ev0 rfl
  ·exact go (code2_ev1 a) (by rw [cp_eq]; rfl)
  ·exact go (code2_ev2 a b) (by rw [cp_eq, cp_eq]; rfl)
  ·exact go (code2_ev3 a b c) (by rw [cp_eq, cp_eq, cp_eq]; rfl)
  ·exact go (code2_ev4 a b c d) (by rw [cp_eq, cp_eq, cp_eq, cp_eq]; rfl)
  ·exact go (code2_ev5 a b c d e) (by rw [cp_eq, cp_eq, cp_eq, cp_eq, cp_eq]; rfl)
  ·exact go (code2_ev6 a b c d e f) (by rw [cp_eq, cp_eq, cp_eq, cp_eq, cp_eq, cp_eq]; rfl)
  ·exact go (code2_ev7 a b c d e f g) (by rw [cp_eq, cp_eq, cp_eq, cp_eq, cp_eq, cp_eq, cp_eq]; rfl)
  ·simp at h3; omega
open Go
theorem bytesEq_iff : ∀ a b : List UInt8, bytesEq a b = decide (a = b)
 | [], [] => by simp [bytesEq]
 | [], _ :: _ => by simp [bytesEq]
 | _ :: _, [] => by simp [bytesEq]
 | a :: x, b :: y => by
  rw [bytesEq, bytesEq_iff x y]
  by_cases h : a = b
  ·subst h; simp
  ·have : ¬ a.toNat = b.toNat := fun h' => h (UInt8.toNat_inj.1 h')
   simp [h, this]
abbrev enInt (n : Int) : List AV := [.int .u32 n]
abbrev fTail (n : Int) : AV := .str (tailL n)
abbrev okCode (v : Val) : Prop := goodVal v = true
abbrev enCode (v : Val) : List AV := [vV v]
abbrev fCode (v : Val) : AV := .str (codeL v)
theorem tail_ok : GOk Try.prog 22 (pureG (gOf (fun _ => True) enInt fTail)) :=
 gOf_ok ⟨_, Try.func22, by kernel_rfl, by kernel_rfl⟩ fun a _ => by
  obtain ⟨h', hc⟩ := tail_cl (Γ := gGet gam2) (by kernel_rfl) a
  exact pureS_cl K2 hc (by kernel_rfl) rfl
theorem code_ok : GOk Try.prog 21 (pureG (gOf okCode enCode fCode)) :=
 gOf_ok ⟨_, Try.func21, by kernel_rfl, by kernel_rfl⟩ fun a ha => by
  obtain ⟨h', lo, hc⟩ := code_cl ha
  exact pureS_cl K2 hc (by kernel_rfl) rfl
noncomputable def gam3 : List (Nat × GF) := (22, pureG (gOf (fun _ => True) enInt fTail)) :: (21, pureG (gOf okCode enCode fCode)) :: gam2
theorem K3 : Known (gGet gam3) tree.get Try.prog := known_of (by kernel_rfl) ⟨tail_ok, code_ok, cmp_ok, fit_ok, g17_ok, good_ok, trivial⟩ all
noncomputable abbrev G3 : FuncId → Option GF := gGet gam3
theorem code3 {v : Val} (hv : goodVal v = true) (h : List Blk) : Cl G3 T 21 [vV v] h (.str (codeL v), h, none) :=
 Cl.pure (g := gOf okCode enCode fCode) (by kernel_rfl) (gOf_eq (a := v) (fun x y _ _ he => by
  simp only [enCode, List.cons.injEq, and_true] at he
  rw [vV_inj _ _ he]) hv) rfl rfl h
abbrev slcC (s : List UInt8) (lo hi : Option AV) (r : AV) : Prop := ((optNat s.length hi).bind fun h => if h ≤ s.length then (optNat 0 lo).bind fun l => if l ≤ h then some (AV.str ((s.take h).drop l)) else none else none) = some r
def openL (s : List UInt8) : List UInt8 × Bool := if (s.length : Int) < 4 then ([], false) else if tailL (crcSum (s.take (s.length - 4))) = s.drop (s.length - 4) then (s.take (s.length - 4), true) else ([], false)
theorem open_clG {Γ : FuncId → Option GF} (hgo : Γ 27 = none) (hgs : Γ 23 = none) (htl : ∀ (n : Int) (h : List Blk), Cl Γ T 22 [.int .u32 n] h (.str (tailL n), h, none)) {s : List UInt8} (hs : s.length ≤ 9223372036854775807) (h : List Blk) : Cl Γ T 27 [.str s] h (.tup [.str (openL s).1, .bool (openL s).2], h, none) := by
 by_cases h1 : (s.length : Int) < 4
 ·rw [show openL s = ([], false) by rw [openL, if_pos h1]]
  exact clPath (af := a27) (ds := [.b true]) [cB (decide ((s.length : Int) < 4)) true] hgo (by kernel_rfl) rfl (by kernel_rfl) ⟨cT h1, trivial⟩
 ·have hw : IntKind.i64.wrap ((s.length : Int) - 4) = ((s.length - 4 : Nat) : Int) := by rw [IntWalk.i64_in _ (by omega)]; omega
  have c1 : slcC s none (some (.int .i64 (IntKind.i64.wrap ((s.length : Int) - 4)))) (.str (s.take (s.length - 4))) := by
   simp only [slcC, hw, optNat, asNat, Int.natCast_nonneg, if_true, Int.toNat_natCast, Option.bind_some, Option.map_none]
   rw [if_pos (by omega), if_pos (Nat.zero_le _)]
   rfl
  have c2 : slcC s (some (.int .i64 (IntKind.i64.wrap ((s.length : Int) - 4)))) none (.str (s.drop (s.length - 4))) := by
   simp only [slcC, hw, optNat, asNat, Int.natCast_nonneg, if_true, Int.toNat_natCast, Option.bind_some]
   rw [if_pos (Nat.le_refl _), if_pos (by omega)]
   simp
  have hsum := sum_cl (Γ := Γ) hgs (s := s.take (s.length - 4)) (by simp; omega) h
  have htl := htl (crcSum (s.take (s.length - 4))) h
  have c3 : (eqv (.int .i64 (s.length : Int)) (.int .i64 (s.length : Int)) && (eqv (.int .i64 (s.length : Int)) (.int .i64 (s.length : Int)) && (eqv (.int .i64 (s.length : Int)) (.int .i64 (s.length : Int)) && true))) = true := by simp [eqv]
  by_cases h2 : tailL (crcSum (s.take (s.length - 4))) = s.drop (s.length - 4)
  ·rw [show openL s = (s.take (s.length - 4), true) by rw [openL, if_neg h1, if_pos h2]]
   exact clPath (af := a27) (ds := [.b false, .f (.str (s.take (s.length - 4))), .r (.int .u32 (crcSum (s.take (s.length - 4)))) h none, .r (.str (tailL (crcSum (s.take (s.length - 4))))) h none, .f (.str (s.drop (s.length - 4))), .b false])
    [cB (decide ((s.length : Int) < 4)) false, slcC s none (some (.int .i64 (IntKind.i64.wrap ((s.length : Int) - 4)))) (.str (s.take (s.length - 4))), Cl Γ T 23 [.str (s.take (s.length - 4))] h (.int .u32 (crcSum (s.take (s.length - 4))), h, none), Cl Γ T 22 [.int .u32 (crcSum (s.take (s.length - 4)))] h (.str (tailL (crcSum (s.take (s.length - 4)))), h, none),
     (eqv (.int .i64 (s.length : Int)) (.int .i64 (s.length : Int)) && (eqv (.int .i64 (s.length : Int)) (.int .i64 (s.length : Int)) && (eqv (.int .i64 (s.length : Int)) (.int .i64 (s.length : Int)) && true))) = true,
     slcC s (some (.int .i64 (IntKind.i64.wrap ((s.length : Int) - 4)))) none (.str (s.drop (s.length - 4))), cB (!bytesEq (tailL (crcSum (s.take (s.length - 4)))) (s.drop (s.length - 4))) false] hgo (by kernel_rfl) rfl (by kernel_rfl)
    ⟨cF h1, c1, hsum, htl, c3, c2, by rw [bytesEq_iff, decide_eq_true h2]; rfl, trivial⟩
  ·rw [show openL s = ([], false) by rw [openL, if_neg h1, if_neg h2]]
   exact clPath (af := a27) (ds := [.b false, .f (.str (s.take (s.length - 4))), .r (.int .u32 (crcSum (s.take (s.length - 4)))) h none, .r (.str (tailL (crcSum (s.take (s.length - 4))))) h none, .f (.str (s.drop (s.length - 4))), .b true])
    [cB (decide ((s.length : Int) < 4)) false, slcC s none (some (.int .i64 (IntKind.i64.wrap ((s.length : Int) - 4)))) (.str (s.take (s.length - 4))), Cl Γ T 23 [.str (s.take (s.length - 4))] h (.int .u32 (crcSum (s.take (s.length - 4))), h, none), Cl Γ T 22 [.int .u32 (crcSum (s.take (s.length - 4)))] h (.str (tailL (crcSum (s.take (s.length - 4)))), h, none),
     (eqv (.int .i64 (s.length : Int)) (.int .i64 (s.length : Int)) && (eqv (.int .i64 (s.length : Int)) (.int .i64 (s.length : Int)) && (eqv (.int .i64 (s.length : Int)) (.int .i64 (s.length : Int)) && true))) = true,
     slcC s (some (.int .i64 (IntKind.i64.wrap ((s.length : Int) - 4)))) none (.str (s.drop (s.length - 4))), cB (!bytesEq (tailL (crcSum (s.take (s.length - 4)))) (s.drop (s.length - 4))) true] hgo (by kernel_rfl) rfl (by kernel_rfl)
    ⟨cF h1, c1, hsum, htl, c3, c2, by rw [bytesEq_iff, decide_eq_false h2]; rfl, trivial⟩
def xor64 (a b : Int) : Int := IntKind.u64.wrap ((BitVec.ofInt IntKind.u64.bits a ^^^ BitVec.ofInt IntKind.u64.bits b).toNat : Int)
def numF (u : Int) (b : UInt8) : Int := IntKind.u64.wrap (IntKind.u64.wrap (u * 256) + IntKind.u64.wrap b.toNat)
def numL (l : List UInt8) : Int := IntKind.i64.wrap (xor64 (l.foldl numF 0) 9223372036854775808)
def parse9 : List UInt8 → Option Val
 | [b0, b1, b2, b3, b4, b5, b6, b7, b8] => if b0 = 1 then some (1, numL [b1, b2, b3, b4, b5, b6, b7, b8], []) else if b0 = 2 then (if b8.toNat > 7 then none else some (2, 0, [b1, b2, b3, b4, b5, b6, b7].take b8.toNat)) else none
 | _ => none
def z3 : Val := (0, 0, [])
def readL (s : List UInt8) : Val × Bool := match parse9 s with
 | some v => if codeL v = s then (v, true) else (z3, false)
 | none => (z3, false)
abbrev bR : ACode := a47.body
abbrev vC (v : Val) : List AV := [.int .i64 v.1, .int .i64 v.2.1, .str v.2.2]
def QR (r : Val × Bool) (e : AExit) (s : St) : Prop := e = .ret ∧ getX s.t 2 = .ptr 0 0 ∧ getX s.t 3 = .bool r.2 ∧ ∃ c, s.h = [.cells (vC r.1), c]
theorem QR_of {t : List AV} {v : Val} {b : Bool} {c : Blk} {lo} (hl : Lv 54 [(2, .ptr 0 0), (3, .bool b)] t) : QR (v, b) .ret { t := t, h := [.cells (vC v), c], lo := lo } :=
 ⟨rfl, hl.get (2, _) (by simp), hl.get (3, _) (by simp), c, rfl⟩
theorem read_end {s : List UInt8} {v : Val} (hv : goodVal v = true) (hp : parse9 s = some v) {t : List AV} {lo : Nat} (hl : Lv 54 [(0, .str s), (2, .ptr 0 0), (4, .ptr 1 0)] t) :
  Wp G3 T (tl (tl (tl (tl bR)))) { t := t, h := [.cells (vC z3), .cells (vC v)], lo := some lo } (QR (readL s)) := by
 have hc := code3 hv [.cells (vC z3), .cells (vC v)]
 by_cases h1 : codeL v = s
 ·rw [show readL s = (v, true) by rw [readL, hp]; simp [h1]]
  refine (path3 [2, 3] (e := .ret) (vals := [.ptr 0 0, .bool true]) (h' := [.cells (vC v), .cells (vC v)]) (lo' := some (if lo ≤ 0 then lo else 0)) (ds := [.r (.str (codeL v)) [.cells (vC z3), .cells (vC v)] none, .b false]) (cs := [Cl G3 T 21 [vV v] [.cells (vC z3), .cells (vC v)] (.str (codeL v), [.cells (vC z3), .cells (vC v)], none), cB (!bytesEq (codeL v) s) false]) hl (fun t0 => by kernel_rfl) ⟨hc, by rw [bytesEq_iff, decide_eq_true h1]; rfl, trivial⟩).mono ?_
  rintro e s ⟨rfl, t3, rfl, hl3⟩
  exact QR_of hl3
 ·rw [show readL s = (z3, false) by rw [readL, hp]; simp [h1]]
  refine (path3 [2, 3] (e := .ret) (vals := [.ptr 0 0, .bool false]) (h' := [.cells (vC z3), .cells (vC v)]) (lo' := some (if lo ≤ 0 then lo else 0)) (ds := [.r (.str (codeL v)) [.cells (vC z3), .cells (vC v)] none, .b true]) (cs := [Cl G3 T 21 [vV v] [.cells (vC z3), .cells (vC v)] (.str (codeL v), [.cells (vC z3), .cells (vC v)], none), cB (!bytesEq (codeL v) s) true]) hl (fun t0 => by kernel_rfl) ⟨hc, by rw [bytesEq_iff, decide_eq_false h1]; rfl, trivial⟩).mono ?_
  rintro e s ⟨rfl, t3, rfl, hl3⟩
  exact QR_of hl3
open Go
theorem ten {α : Type} {l : List α} (h : l.length = 9) : ∃ a b c d e f g i j, l = [a, b, c, d, e, f, g, i, j] := by
 rcases l with _ | ⟨a, _ | ⟨b, _ | ⟨c, _ | ⟨d, _ | ⟨e, _ | ⟨f, _ | ⟨g, _ | ⟨i, _ | ⟨j, _ | ⟨k, r⟩⟩⟩⟩⟩⟩⟩⟩⟩⟩ <;> simp at h
 ·exact ⟨a, b, c, d, e, f, g, i, j, rfl⟩
theorem goodNum (n : Int) : goodVal (1, n, []) = true := rfl
theorem goodTxt {s : List UInt8} (h : s.length ≤ 7) : goodVal (2, 0, s) = true := by simp [goodVal]; omega
theorem read_num {b1 b2 b3 b4 b5 b6 b7 b8 : UInt8} {t : List AV} (hl : Lv 54 [(0, .str [1, b1, b2, b3, b4, b5, b6, b7, b8])] t) : Wp G3 T bR { t := t, h := [], lo := none } (QR (readL [1, b1, b2, b3, b4, b5, b6, b7, b8])) := by
 refine Wp.seq ?_
 refine (path3 [0, 2] (e := .normal) (vals := [.str [1, b1, b2, b3, b4, b5, b6, b7, b8], .ptr 0 0]) (h' := [.cells (vC z3)]) (lo' := none) (ds := []) (cs := []) hl (fun t0 => by kernel_rfl) trivial).mono ?_
 rintro e s ⟨rfl, t1, rfl, hl1⟩
 refine Wp.seq ?_
 refine (path3 [0, 2] (e := .normal) (vals := [.str [1, b1, b2, b3, b4, b5, b6, b7, b8], .ptr 0 0]) (h' := [.cells (vC z3)]) (lo' := none) (ds := [.b false]) (cs := [cB ((9 : Int) != 9) false]) hl1 (fun t0 => by kernel_rfl) ⟨rfl, trivial⟩).mono ?_
 rintro e s ⟨rfl, t2, rfl, hl2⟩
 refine Wp.seq ?_
 refine (path3 [0, 2, 4] (e := .normal) (vals := [.str [1, b1, b2, b3, b4, b5, b6, b7, b8], .ptr 0 0, .ptr 1 0]) (h' := [.cells (vC z3), .cells (vC (1, 0, []))]) (lo' := some 1) (ds := []) (cs := []) hl2 (fun t0 => by kernel_rfl) trivial).mono ?_
 rintro e s ⟨rfl, t3, rfl, hl3⟩
 refine Wp.seq ?_
 refine (pathX 40 [0, 2, 4] (e := .normal) (vals := [.str [1, b1, b2, b3, b4, b5, b6, b7, b8], .ptr 0 0, .ptr 1 0]) (h' := [.cells (vC z3), .cells (vC (1, numL [b1, b2, b3, b4, b5, b6, b7, b8], []))]) (lo' := some 1) hl3 (fun t0 => by kernel_rfl)).mono ?_
 rintro e s ⟨rfl, t4, rfl, hl4⟩
 exact read_end (goodNum _) rfl hl4
theorem read_txt {b1 b2 b3 b4 b5 b6 b7 b8 : UInt8} {t : List AV} (hl : Lv 54 [(0, .str [2, b1, b2, b3, b4, b5, b6, b7, b8])] t) : Wp G3 T bR { t := t, h := [], lo := none } (QR (readL [2, b1, b2, b3, b4, b5, b6, b7, b8])) := by
 refine Wp.seq ?_
 refine (path3 [0, 2] (e := .normal) (vals := [.str [2, b1, b2, b3, b4, b5, b6, b7, b8], .ptr 0 0]) (h' := [.cells (vC z3)]) (lo' := none) (ds := []) (cs := []) hl (fun t0 => by kernel_rfl) trivial).mono ?_
 rintro e s ⟨rfl, t1, rfl, hl1⟩
 refine Wp.seq ?_
 refine (path3 [0, 2] (e := .normal) (vals := [.str [2, b1, b2, b3, b4, b5, b6, b7, b8], .ptr 0 0]) (h' := [.cells (vC z3)]) (lo' := none) (ds := [.b false]) (cs := [cB ((9 : Int) != 9) false]) hl1 (fun t0 => by kernel_rfl) ⟨rfl, trivial⟩).mono ?_
 rintro e s ⟨rfl, t2, rfl, hl2⟩
 refine Wp.seq ?_
 refine (path3 [0, 2, 4] (e := .normal) (vals := [.str [2, b1, b2, b3, b4, b5, b6, b7, b8], .ptr 0 0, .ptr 1 0]) (h' := [.cells (vC z3), .cells (vC (2, 0, []))]) (lo' := some 1) (ds := []) (cs := []) hl2 (fun t0 => by kernel_rfl) trivial).mono ?_
 rintro e s ⟨rfl, t3, rfl, hl3⟩
 refine Wp.seq ?_
 by_cases h1 : (b8.toNat : Int) > 7
 ·have h1' : b8.toNat > 7 := by omega
  rw [show readL [2, b1, b2, b3, b4, b5, b6, b7, b8] = (z3, false) by rw [readL, parse9]; simp [h1']]
  refine (path3 [2, 3] (e := .ret) (vals := [.ptr 0 0, .bool false]) (h' := [.cells (vC z3), .cells (vC (2, 0, []))]) (lo' := some 0) (ds := [.b false, .b true, .b true]) (cs := [cB ((2 : Int) == 1) false, cB ((2 : Int) == 2) true, cB (decide ((b8.toNat : Int) > 7)) true]) hl3 (fun t0 => by kernel_rfl) ⟨rfl, rfl, cT h1, trivial⟩).mono ?_
  rintro e s ⟨rfl, t4, rfl, hl4⟩
  exact QR_of hl4
 ·have hb : b8 = 0 ∨ b8 = 1 ∨ b8 = 2 ∨ b8 = 3 ∨ b8 = 4 ∨ b8 = 5 ∨ b8 = 6 ∨ b8 = 7 := by
   have hq : b8.toNat = 0 ∨ b8.toNat = 1 ∨ b8.toNat = 2 ∨ b8.toNat = 3 ∨ b8.toNat = 4 ∨ b8.toNat = 5 ∨ b8.toNat = 6 ∨ b8.toNat = 7 := by omega
   rcases hq with h | h | h | h | h | h | h | h
   ·exact .inl (UInt8.toNat_inj.1 h)
   ·exact .inr (.inl (UInt8.toNat_inj.1 h))
   ·exact .inr (.inr (.inl (UInt8.toNat_inj.1 h)))
   ·exact .inr (.inr (.inr (.inl (UInt8.toNat_inj.1 h))))
   ·exact .inr (.inr (.inr (.inr (.inl (UInt8.toNat_inj.1 h)))))
   ·exact .inr (.inr (.inr (.inr (.inr (.inl (UInt8.toNat_inj.1 h))))))
   ·exact .inr (.inr (.inr (.inr (.inr (.inr (.inl (UInt8.toNat_inj.1 h)))))))
   ·exact .inr (.inr (.inr (.inr (.inr (.inr (.inr (UInt8.toNat_inj.1 h)))))))
  have go : ∀ (k : Nat), b8.toNat = k → k ≤ 7 → (∀ t0, (execX (callX G3 T 40) 40 (hd (tl (tl (tl bR)))) { t := mkT 54 ([0, 2, 4].zip [.str [2, b1, b2, b3, b4, b5, b6, b7, b8], .ptr 0 0, .ptr 1 0]) t0, h := [.cells (vC z3), .cells (vC (2, 0, []))], lo := some 1 }).map (fun x => (x.1, x.2.t.length, [0, 2, 4].map (getX x.2.t), x.2.h, x.2.lo)) = some (.normal, 54, [.str [2, b1, b2, b3, b4, b5, b6, b7, b8], .ptr 0 0, .ptr 1 0], [.cells (vC z3), .cells (vC (2, 0, [b1, b2, b3, b4, b5, b6, b7].take k))], some 1)) →
    Wp G3 T (hd (tl (tl (tl bR)))) { t := t3, h := [.cells (vC z3), .cells (vC (2, 0, []))], lo := some 1 } fun e s => match e with | .normal => Wp G3 T (tl (tl (tl (tl bR)))) s (QR (readL [2, b1, b2, b3, b4, b5, b6, b7, b8])) | e => QR (readL [2, b1, b2, b3, b4, b5, b6, b7, b8]) e s := by
   intro k hk hk7 hx
   refine (pathX 40 [0, 2, 4] (e := .normal) (vals := [.str [2, b1, b2, b3, b4, b5, b6, b7, b8], .ptr 0 0, .ptr 1 0]) (h' := [.cells (vC z3), .cells (vC (2, 0, [b1, b2, b3, b4, b5, b6, b7].take k))]) (lo' := some 1) hl3 hx).mono ?_
   rintro e s ⟨rfl, t4, rfl, hl4⟩
   exact read_end (goodTxt (by simp; omega)) (by rw [parse9, if_neg (by decide), if_pos rfl, if_neg (by omega), hk]) hl4
  rcases hb with rfl | rfl | rfl | rfl | rfl | rfl | rfl | rfl
  ·exact go 0 rfl (by omega) (fun t0 => by kernel_rfl)
  ·exact go 1 rfl (by omega) (fun t0 => by kernel_rfl)
  ·exact go 2 rfl (by omega) (fun t0 => by kernel_rfl)
  ·exact go 3 rfl (by omega) (fun t0 => by kernel_rfl)
  ·exact go 4 rfl (by omega) (fun t0 => by kernel_rfl)
  ·exact go 5 rfl (by omega) (fun t0 => by kernel_rfl)
  ·exact go 6 rfl (by omega) (fun t0 => by kernel_rfl)
  ·exact go 7 rfl (by omega) (fun t0 => by kernel_rfl)
theorem read_wp {s : List UInt8} {t : List AV} (hl : Lv 54 [(0, .str s)] t) : Wp G3 T bR { t := t, h := [], lo := none } fun e s' => e = .ret ∧ getX s'.t 2 = .ptr 0 0 ∧ getX s'.t 3 = .bool (readL s).2 ∧ ∃ r, s'.h = .cells (vC (readL s).1) :: r := by
 by_cases h1 : (s.length : Int) = 9
 ·obtain ⟨b0, b1, b2, b3, b4, b5, b6, b7, b8, rfl⟩ := ten (l := s) (by omega)
  have wk : ∀ {x : Val × Bool} {t : List AV}, Wp G3 T bR { t := t, h := [], lo := none } (QR x) → Wp G3 T bR { t := t, h := [], lo := none } fun e s' => e = .ret ∧ getX s'.t 2 = .ptr 0 0 ∧ getX s'.t 3 = .bool x.2 ∧ ∃ r, s'.h = .cells (vC x.1) :: r := by
   intro x t hw
   refine hw.mono ?_
   rintro e s ⟨h1, h2, h3, c, h4⟩
   exact ⟨h1, h2, h3, [c], h4⟩
  by_cases h2 : b0 = 1
  ·subst h2; exact wk (read_num hl)
  by_cases h3 : b0 = 2
  ·subst h3; exact wk (read_txt hl)
  refine wk ?_
  have n2 : ¬ (b0.toNat : Int) = 1 := fun h => h2 (UInt8.toNat_inj.1 (by show b0.toNat = 1; omega))
  have n3 : ¬ (b0.toNat : Int) = 2 := fun h => h3 (UInt8.toNat_inj.1 (by show b0.toNat = 2; omega))
  rw [show readL [b0, b1, b2, b3, b4, b5, b6, b7, b8] = (z3, false) by rw [readL, parse9]; simp [h2, h3]]
  refine (path3 [2, 3] (e := .ret) (vals := [.ptr 0 0, .bool false]) (h' := [.cells (vC z3), .cells [.int .i64 (IntKind.i64.wrap b0.toNat), .int .i64 0, .str []]]) (lo' := some 0) (ds := [.b false, .b false, .b false]) (cs := [cB ((9 : Int) != 9) false, cB ((b0.toNat : Int) == 1) false, cB ((b0.toNat : Int) == 2) false]) hl (fun t0 => by kernel_rfl) ⟨rfl, cN n2, cN n3, trivial⟩).mono ?_
  rintro e s ⟨rfl, t4, rfl, hl4⟩
  exact QR_of hl4
 ·have hne : parse9 s = none := by
   unfold parse9
   split
   ·simp at h1
   ·rfl
  rw [show readL s = (z3, false) by rw [readL, hne]]
  refine (path3 [2, 3] (e := .ret) (vals := [.ptr 0 0, .bool false]) (h' := [.cells (vC z3)]) (lo' := some 0) (ds := [.b true]) (cs := [cB ((s.length : Int) != 9) true]) hl (fun t0 => by kernel_rfl) ⟨cD h1, trivial⟩).mono ?_
  rintro e s ⟨rfl, t4, rfl, hl4⟩
  exact ⟨rfl, hl4.get (2, _) (by simp), hl4.get (3, _) (by simp), [], rfl⟩
theorem read_cl (s : List UInt8) : ∃ h' lo, Cl G3 T 47 [.str s] [] (.tup [vV (readL s).1, .bool (readL s).2], h', lo) := by
 obtain ⟨n, e, s', h1, rfl, h2, h3, r, h4⟩ := read_wp (s := s) (t := [.str s] ++ List.replicate 53 (.tup [])) ⟨by simp, by simp [getX_eq]⟩
 refine ⟨s'.h, s'.lo, Cl.of (af := a47) (by kernel_rfl) (by kernel_rfl) (by show 1 ≤ 54; omega) ⟨n, _, s', h1, (fun i hi => by cases hi), [vV (readL s).1, .bool (readL s).2], ?_, rfl, rfl, rfl⟩⟩
 rw [getX_eq] at h2 h3
 show resAll s' [.cell 2 (some 3), .t 3] = _
 simp only [resAll, resOf, h2, h3, h4, rdPtr, rdCells, List.getElem?_cons_zero, cellsN]
 rfl
end Go.Proofs.Ytfkkeddjfiljfaa.AM.Ax
