/-
  'gauger's law WitnessPasses: it comes to true, of every error and plan.
-/
import Derived.Test.YtlogcjaigjcmiaaGreatWpB
set_option linter.unusedVariables false
set_option linter.unusedSimpArgs false
set_option maxRecDepth 100000
namespace Go.Proofs.YtlogcjaigjcmiaaGreat.AM.Wp
open Go

theorem eqvL_refl : ∀ {l : List AV}, (∀ v ∈ l, eqv v v = true) → eqvL l l = true
  | [], _ => rfl
  | v :: r, h => by rw [eqvL, h v (by simp), eqvL_refl fun x hx => h x (by simp [hx])]; rfl
theorem OkI.eqv {v} (h : OkI v) : eqv v v = true := by obtain ⟨n, rfl⟩ := h; simp [AM.eqv]
theorem OkTab.eqv {v} (h : OkTab v) : eqv v v = true := by obtain ⟨es, ex, rfl, h1, _⟩ := h; simp [AM.eqv, eqvL, eqvL_refl fun x hx => (h1 x hx).eqv]
theorem OkView.eqv {v} (h : OkView v) : eqv v v = true := by obtain ⟨t, b, es, ex, rfl, h1, _⟩ := h; simp [AM.eqv, eqvL, eqvL_refl fun x hx => (h1 x hx).eqv]
theorem OkPlan.eqv {v} (h : OkPlan v) : eqv v v = true := by
  obtain ⟨t, vs, ex, rfl, ⟨ts, ex', rfl, h1, _⟩, h2, _⟩ := h
  simp [AM.eqv, eqvL, eqvL_refl fun x hx => (h1 x hx).eqv, eqvL_refl fun x hx => (h2 x hx).eqv]
abbrev pB (cs : List AV) : Blk := .cells cs
abbrev fB : Blk := .cells [.int .i64 0, .int .i64 0]
/-- model.New, where a Serial calls it. -/
def newV : Bool → AV
  | true => .ptr 5 0
  | false => .nilp
def newH (ts : List AV) (ex : Bool) (vs : List AV) (ex' : Bool) : Bool → List Blk
  | true => [pB [.ro ts 1 ex, .ro vs 3 ex'], pB [.ro ts 1 ex, .ro vs 3 ex'], fB, pB [.ro ts 1 ex, .ro vs 3 ex'], .cells (List.replicate ts.length [AV.nils]).flatten, .cells [.ro ts 1 ex, .ro vs 3 ex', .bool true, .sl 4 1 0 ts.length ts.length true, .nils, .nils]]
  | false => [pB [.ro ts 1 ex, .ro vs 3 ex'], pB [.ro ts 1 ex, .ro vs 3 ex'], fB, pB [.ro ts 1 ex, .ro vs 3 ex']]
theorem new_cl {ts vs : List AV} {ex ex' : Bool} (hv : OkPlan (.agg [.ro ts 1 ex, .ro vs 3 ex'])) (hl : ts.length ≤ 10) :
    Cl G3 T 12 [.agg [.ro ts 1 ex, .ro vs 3 ex'], .bool true] [pB [.ro ts 1 ex, .ro vs 3 ex'], pB [.ro ts 1 ex, .ro vs 3 ex'], fB] (newV (goodB (.agg [.ro ts 1 ex, .ro vs 3 ex'])), newH ts ex vs ex' (goodB (.agg [.ro ts 1 ex, .ro vs 3 ex'])), none) := by
  have hc : ∀ h, Cl G3 T 13 [.agg [.ro ts 1 ex, .ro vs 3 ex']] h (.bool (goodB (.agg [.ro ts 1 ex, .ro vs 3 ex'])), h, none) := fun h => Cl.pure (g := gGood) (by kernel_rfl) (by simp [gGood, hv]) (by have := hv.clo; simp [cloL, this]) rfl h
  cases hg : goodB (.agg [.ro ts 1 ex, .ro vs 3 ex']) with
  | false =>
    rw [hg] at hc
    exact clPath (af := a12) (ds := [.r (.bool false) [pB [.ro ts 1 ex, .ro vs 3 ex'], pB [.ro ts 1 ex, .ro vs 3 ex'], fB, pB [.ro ts 1 ex, .ro vs 3 ex']] none]) [Cl G3 T 13 [.agg [.ro ts 1 ex, .ro vs 3 ex']] [pB [.ro ts 1 ex, .ro vs 3 ex'], pB [.ro ts 1 ex, .ro vs 3 ex'], fB, pB [.ro ts 1 ex, .ro vs 3 ex']] (.bool false, [pB [.ro ts 1 ex, .ro vs 3 ex'], pB [.ro ts 1 ex, .ro vs 3 ex'], fB, pB [.ro ts 1 ex, .ro vs 3 ex']], none)] (by kernel_rfl) (by kernel_rfl) rfl (by kernel_rfl) ⟨hc _, trivial⟩
  | true =>
    rw [hg] at hc
    exact clPath (af := a12) (ds := [.r (.bool true) [pB [.ro ts 1 ex, .ro vs 3 ex'], pB [.ro ts 1 ex, .ro vs 3 ex'], fB, pB [.ro ts 1 ex, .ro vs 3 ex']] none,
        .w (.sl 4 1 0 ts.length ts.length true) [pB [.ro ts 1 ex, .ro vs 3 ex'], pB [.ro ts 1 ex, .ro vs 3 ex'], fB, pB [.ro ts 1 ex, .ro vs 3 ex'], .cells (List.replicate ts.length [AV.nils]).flatten] none])
      [Cl G3 T 13 [.agg [.ro ts 1 ex, .ro vs 3 ex']] [pB [.ro ts 1 ex, .ro vs 3 ex'], pB [.ro ts 1 ex, .ro vs 3 ex'], fB, pB [.ro ts 1 ex, .ro vs 3 ex']] (.bool true, [pB [.ro ts 1 ex, .ro vs 3 ex'], pB [.ro ts 1 ex, .ro vs 3 ex'], fB, pB [.ro ts 1 ex, .ro vs 3 ex']], none),
       (eqv (.agg [.ro ts 1 ex, .ro vs 3 ex']) (.agg [.ro ts 1 ex, .ro vs 3 ex']) && (eqv (.agg [.ro ts 1 ex, .ro vs 3 ex']) (.agg [.ro ts 1 ex, .ro vs 3 ex']) && true)) = true,
       (if 0 ≤ (ts.length : Int) && (ts.length : Int) ≤ (ts.length : Int) && ((24 : Nat) : Int) * (ts.length : Int) ≤ 140737488355328 && (ts.length : Int) ≤ 9223372036854775807 then some (AV.sl 4 1 0 (ts.length : Int).toNat (ts.length : Int).toNat true, [pB [.ro ts 1 ex, .ro vs 3 ex'], pB [.ro ts 1 ex, .ro vs 3 ex'], fB, pB [.ro ts 1 ex, .ro vs 3 ex'], .cells (List.replicate (ts.length : Int).toNat [AV.nils]).flatten], (none : Option Nat)) else none) = some (AV.sl 4 1 0 ts.length ts.length true, [pB [.ro ts 1 ex, .ro vs 3 ex'], pB [.ro ts 1 ex, .ro vs 3 ex'], fB, pB [.ro ts 1 ex, .ro vs 3 ex'], .cells (List.replicate ts.length [AV.nils]).flatten], none)]
      (by kernel_rfl) (by kernel_rfl) rfl (by kernel_rfl) ⟨hc _, by rw [hv.eqv]; rfl, by rw [if_pos (by simp; omega)]; simp, trivial⟩
/-- witness.Serial, where the law calls it. -/
def serV (b : Bool) : AV := .tup [newV b, .agg [.int .i64 0, .int .i64 0], .bool b]
theorem serial_cl {ts vs : List AV} {ex ex' : Bool} (hv : OkPlan (.agg [.ro ts 1 ex, .ro vs 3 ex'])) (hl : ts.length ≤ 10) :
    Cl G3 T 52 [.agg [.ro ts 1 ex, .ro vs 3 ex'], .nils, .nils] [pB [.ro ts 1 ex, .ro vs 3 ex']] (serV (goodB (.agg [.ro ts 1 ex, .ro vs 3 ex'])), newH ts ex vs ex' (goodB (.agg [.ro ts 1 ex, .ro vs 3 ex'])), some 2) := by
  have hc := new_cl hv hl
  cases hg : goodB (.agg [.ro ts 1 ex, .ro vs 3 ex']) with
  | false =>
    rw [hg] at hc
    exact clPath (af := a52) (ds := [.r (newV false) (newH ts ex vs ex' false) none, .b true]) [Cl G3 T 12 [.agg [.ro ts 1 ex, .ro vs 3 ex'], .bool true] [pB [.ro ts 1 ex, .ro vs 3 ex'], pB [.ro ts 1 ex, .ro vs 3 ex'], fB] (newV false, newH ts ex vs ex' false, none), some (AV.bool true) = some (.bool true)] (by kernel_rfl) (by kernel_rfl) rfl (by kernel_rfl) ⟨hc, rfl, trivial⟩
  | true =>
    rw [hg] at hc
    exact clPath (af := a52) (ds := [.r (newV true) (newH ts ex vs ex' true) none, .b false, .b false]) [Cl G3 T 12 [.agg [.ro ts 1 ex, .ro vs 3 ex'], .bool true] [pB [.ro ts 1 ex, .ro vs 3 ex'], pB [.ro ts 1 ex, .ro vs 3 ex'], fB] (newV true, newH ts ex vs ex' true, none), some (AV.bool false) = some (.bool false), some (AV.bool false) = some (.bool false)] (by kernel_rfl) (by kernel_rfl) rfl (by kernel_rfl) ⟨hc, rfl, rfl, trivial⟩
def pass (e : Int) : Bool := e == 1 || (e == 5 || (e == 8 || e == 10))
theorem passes_cl (e : Int) (h : List Blk) : Cl G3 T 53 [.int .i64 e] h (.bool (pass e), h, none) := by
  by_cases h1 : e = 1
  · rw [show pass e = true by simp [pass, h1]]
    exact clPath (af := a53) (ds := [.b true]) [some (AV.bool (e == 1)) = some (.bool true)] (by kernel_rfl) (by kernel_rfl) rfl (by kernel_rfl) ⟨by simp [h1], trivial⟩
  by_cases h2 : e = 5
  · rw [show pass e = true by simp [pass, h2]]
    exact clPath (af := a53) (ds := [.b false, .b true]) [some (AV.bool (e == 1)) = some (.bool false), some (AV.bool (e == 5)) = some (.bool true)] (by kernel_rfl) (by kernel_rfl) rfl (by kernel_rfl) ⟨by simp [h1], by simp [h2], trivial⟩
  by_cases h3 : e = 8
  · rw [show pass e = true by simp [pass, h3]]
    exact clPath (af := a53) (ds := [.b false, .b false, .b true]) [some (AV.bool (e == 1)) = some (.bool false), some (AV.bool (e == 5)) = some (.bool false), some (AV.bool (e == 8)) = some (.bool true)] (by kernel_rfl) (by kernel_rfl) rfl (by kernel_rfl) ⟨by simp [h1], by simp [h2], by simp [h3], trivial⟩
  by_cases h4 : e = 10
  · rw [show pass e = true by simp [pass, h4]]
    exact clPath (af := a53) (ds := [.b false, .b false, .b false, .b true]) [some (AV.bool (e == 1)) = some (.bool false), some (AV.bool (e == 5)) = some (.bool false), some (AV.bool (e == 8)) = some (.bool false), some (AV.bool (e == 10)) = some (.bool true)] (by kernel_rfl) (by kernel_rfl) rfl (by kernel_rfl) ⟨by simp [h1], by simp [h2], by simp [h3], by simp [h4], trivial⟩
  rw [show pass e = false by simp [pass, h1, h2, h3, h4]]
  exact clPath (af := a53) (ds := [.b false, .b false, .b false, .b false]) [some (AV.bool (e == 1)) = some (.bool false), some (AV.bool (e == 5)) = some (.bool false), some (AV.bool (e == 8)) = some (.bool false), some (AV.bool (e == 10)) = some (.bool false)] (by kernel_rfl) (by kernel_rfl) rfl (by kernel_rfl) ⟨by simp [h1], by simp [h2], by simp [h3], by simp [h4], trivial⟩

/-! The law. -/
abbrev bL : ACode := a7.body
def loop1 : ACode := lp (blk (tl (hd (tl (tl (tl bL))))))
def loop2 : ACode := lp (blk (tl (hd (tl (tl (tl (tl bL)))))))
def rest : ACode := tl (tl (tl (tl (tl bL))))
def QL (e : AExit) (s : St) : Prop := e = .ret ∧ getX s.t 4 = .bool true
theorem QL_of {t : List AV} {h : List Blk} {lo} (hl : Lv 94 [(4, .bool true)] t) : QL .ret { t := t, h := h, lo := lo } := ⟨rfl, hl.get _ (List.mem_singleton.2 rfl)⟩
abbrev hL (ts : List AV) (ex : Bool) (vs : List AV) (ex' : Bool) : List Blk := [pB [.ro ts 1 ex, .ro vs 3 ex']]
theorem loop1_ok {er : Int} {ts vs : List AV} {ex ex' : Bool} (hts : ∀ x ∈ ts, OkTab x) (hl : ts.length ≤ 9223372036854775807) {t0 : List AV} (hlv : Lv 94 [(0, .int .i64 er), (3, .ptr 0 0), (5, .int .i64 0)] t0) :
    Wp G3 T (.loop loop1) { t := t0, h := hL ts ex vs ex', lo := none } fun e s => QL e s ∨ (e = .exit 0 ∧ ∃ t2, s = { t := t2, h := hL ts ex vs ex', lo := none } ∧ Lv 94 [(0, .int .i64 er), (3, .ptr 0 0)] t2) := by
  refine Wp.loop (fun k s => ∃ (i : Nat) (t1 : List AV), s = { t := t1, h := hL ts ex vs ex', lo := none } ∧ k = ts.length - i ∧ i ≤ ts.length ∧ Lv 94 [(0, .int .i64 er), (3, .ptr 0 0), (5, .int .i64 (i : Int))] t1) ?_ ts.length _ ⟨0, t0, rfl, by omega, by omega, hlv⟩
  rintro k s ⟨i, t1, rfl, rfl, hi, hlv⟩
  by_cases hlt : i < ts.length
  · have hxi := List.getElem?_eq_getElem hlt
    have hxm : ts[i] ∈ ts := List.getElem_mem hlt
    generalize ts[i] = x at hxi hxm
    obtain ⟨es, exs, rfl, hes, hle⟩ := hts x hxm
    have c1 : some (AV.bool (decide ((i : Int) < (ts.length : Int)))) = some (.bool true) := by simp; omega
    have c2 : ts[(i : Int).toNat]? = some (.agg [.ro es 1 exs]) := by simpa using hxi
    by_cases d1 : (es.length : Int) > 10
    · refine (path2 [4] (e := .ret) (vals := [.bool true]) (h' := hL ts ex vs ex') (ds := [.b true, .v (.agg [.ro es 1 exs]), .b true])
        (cs := [some (AV.bool (decide ((i : Int) < (ts.length : Int)))) = some (.bool true), 1 = 1, 0 ≤ (i : Int), (i : Int) < (ts.length : Int), ts[(i : Int).toNat]? = some (.agg [.ro es 1 exs]), some (AV.bool (decide ((es.length : Int) > 10))) = some (.bool true)]) hlv (fun t0 => by kernel_rfl) ⟨c1, rfl, by omega, by omega, c2, by rw [decide_eq_true d1], trivial⟩).mono ?_
      rintro e s ⟨rfl, t3, rfl, hl3⟩
      exact .inl (QL_of hl3)
    · refine (path2 [0, 3, 5] (e := .normal) (vals := [.int .i64 er, .ptr 0 0, .int .i64 (IntKind.i64.wrap ((i : Int) + 1))]) (h' := hL ts ex vs ex') (ds := [.b true, .v (.agg [.ro es 1 exs]), .b false])
        (cs := [some (AV.bool (decide ((i : Int) < (ts.length : Int)))) = some (.bool true), 1 = 1, 0 ≤ (i : Int), (i : Int) < (ts.length : Int), ts[(i : Int).toNat]? = some (.agg [.ro es 1 exs]), some (AV.bool (decide ((es.length : Int) > 10))) = some (.bool false)]) hlv (fun t0 => by kernel_rfl) ⟨c1, rfl, by omega, by omega, c2, by rw [decide_eq_false d1], trivial⟩).mono ?_
      rintro e s ⟨rfl, t3, rfl, hl3⟩
      rw [i64_succ (by omega) (by omega)] at hl3
      exact ⟨ts.length - (i + 1), by omega, i + 1, t3, rfl, rfl, by omega, hl3⟩
  · refine (path2 [0, 3] (e := .exit 0) (vals := [.int .i64 er, .ptr 0 0]) (h' := hL ts ex vs ex') (ds := [.b false]) (cs := [some (AV.bool (decide ((i : Int) < (ts.length : Int)))) = some (.bool false)]) hlv (fun t0 => by kernel_rfl) ⟨by simp; omega, trivial⟩).mono ?_
    rintro e s ⟨rfl, t3, rfl, hl3⟩
    exact .inr ⟨rfl, t3, rfl, hl3⟩
theorem loop2_ok {er : Int} {ts vs : List AV} {ex ex' : Bool} (hvs : ∀ x ∈ vs, OkView x) (hl : vs.length ≤ 9223372036854775807) {t0 : List AV} (hlv : Lv 94 [(0, .int .i64 er), (3, .ptr 0 0), (6, .int .i64 0)] t0) :
    Wp G3 T (.loop loop2) { t := t0, h := hL ts ex vs ex', lo := none } fun e s => QL e s ∨ (e = .exit 2 ∧ ∃ t2, s = { t := t2, h := hL ts ex vs ex', lo := none } ∧ Lv 94 [(0, .int .i64 er), (3, .ptr 0 0)] t2) := by
  refine Wp.loop (fun k s => ∃ (i : Nat) (t1 : List AV), s = { t := t1, h := hL ts ex vs ex', lo := none } ∧ k = vs.length - i ∧ i ≤ vs.length ∧ Lv 94 [(0, .int .i64 er), (3, .ptr 0 0), (6, .int .i64 (i : Int))] t1) ?_ vs.length _ ⟨0, t0, rfl, by omega, by omega, hlv⟩
  rintro k s ⟨i, t1, rfl, rfl, hi, hlv⟩
  by_cases hlt : i < vs.length
  · have hxi := List.getElem?_eq_getElem hlt
    have hxm : vs[i] ∈ vs := List.getElem_mem hlt
    generalize vs[i] = x at hxi hxm
    obtain ⟨vt, vb, es, exs, rfl, hes, hle⟩ := hvs x hxm
    have c1 : some (AV.bool (decide ((i : Int) < (vs.length : Int)))) = some (.bool true) := by simp; omega
    have c2 : vs[(i : Int).toNat]? = some (.agg [.int .i64 vt, .int .i64 vb, .ro es 1 exs]) := by simpa using hxi
    by_cases d1 : (es.length : Int) > 10
    · refine (path2 [4] (e := .ret) (vals := [.bool true]) (h' := hL ts ex vs ex') (ds := [.b true, .v (.agg [.int .i64 vt, .int .i64 vb, .ro es 1 exs]), .b true])
        (cs := [some (AV.bool (decide ((i : Int) < (vs.length : Int)))) = some (.bool true), 3 = 3, 0 ≤ (i : Int), (i : Int) < (vs.length : Int), vs[(i : Int).toNat]? = some (.agg [.int .i64 vt, .int .i64 vb, .ro es 1 exs]), some (AV.bool (decide ((es.length : Int) > 10))) = some (.bool true)]) hlv (fun t0 => by kernel_rfl) ⟨c1, rfl, by omega, by omega, c2, by rw [decide_eq_true d1], trivial⟩).mono ?_
      rintro e s ⟨rfl, t3, rfl, hl3⟩
      exact .inl (QL_of hl3)
    · refine (path2 [0, 3, 6] (e := .normal) (vals := [.int .i64 er, .ptr 0 0, .int .i64 (IntKind.i64.wrap ((i : Int) + 1))]) (h' := hL ts ex vs ex') (ds := [.b true, .v (.agg [.int .i64 vt, .int .i64 vb, .ro es 1 exs]), .b false])
        (cs := [some (AV.bool (decide ((i : Int) < (vs.length : Int)))) = some (.bool true), 3 = 3, 0 ≤ (i : Int), (i : Int) < (vs.length : Int), vs[(i : Int).toNat]? = some (.agg [.int .i64 vt, .int .i64 vb, .ro es 1 exs]), some (AV.bool (decide ((es.length : Int) > 10))) = some (.bool false)]) hlv (fun t0 => by kernel_rfl) ⟨c1, rfl, by omega, by omega, c2, by rw [decide_eq_false d1], trivial⟩).mono ?_
      rintro e s ⟨rfl, t3, rfl, hl3⟩
      rw [i64_succ (by omega) (by omega)] at hl3
      exact ⟨vs.length - (i + 1), by omega, i + 1, t3, rfl, rfl, by omega, hl3⟩
  · refine (path2 [0, 3] (e := .exit 2) (vals := [.int .i64 er, .ptr 0 0]) (h' := hL ts ex vs ex') (ds := [.b false]) (cs := [some (AV.bool (decide ((i : Int) < (vs.length : Int)))) = some (.bool false)]) hlv (fun t0 => by kernel_rfl) ⟨by simp; omega, trivial⟩).mono ?_
    rintro e s ⟨rfl, t3, rfl, hl3⟩
    exact .inr ⟨rfl, t3, rfl, hl3⟩
/-- Which one it is, by the law's own comparisons. -/
theorem want_ok {er : Int} {t0 : List AV} {h : List Blk} {lo : Nat} {v7 v8 v9 : AV} (hlv : Lv 94 [(0, .int .i64 er), (3, .ptr 0 0), (7, v7), (8, v8), (9, v9)] t0) :
    Wp G3 T (hd (tl rest)) { t := t0, h := h, lo := some lo } fun e s => e = .normal ∧ ∃ t2, s = { t := t2, h := h, lo := some lo } ∧ Lv 94 [(0, .int .i64 er), (3, .ptr 0 0), (7, v7), (8, v8), (9, v9), (10, .bool (pass er))] t2 := by
  by_cases h1 : er = 1
  · rw [show pass er = true by simp [pass, h1]]
    exact path3 [0, 3, 7, 8, 9, 10] (e := .normal) (vals := [.int .i64 er, .ptr 0 0, v7, v8, v9, .bool true]) (h' := h) (lo' := some lo) (ds := [.b true]) (cs := [some (AV.bool (er == 1)) = some (.bool true)]) hlv (fun t0 => by kernel_rfl) ⟨by simp [h1], trivial⟩
  by_cases h2 : er = 5
  · rw [show pass er = true by simp [pass, h2]]
    exact path3 [0, 3, 7, 8, 9, 10] (e := .normal) (vals := [.int .i64 er, .ptr 0 0, v7, v8, v9, .bool true]) (h' := h) (lo' := some lo) (ds := [.b false, .b true]) (cs := [some (AV.bool (er == 1)) = some (.bool false), some (AV.bool (er == 5)) = some (.bool true)]) hlv (fun t0 => by kernel_rfl) ⟨by simp [h1], by simp [h2], trivial⟩
  by_cases h3 : er = 8
  · rw [show pass er = true by simp [pass, h3]]
    exact path3 [0, 3, 7, 8, 9, 10] (e := .normal) (vals := [.int .i64 er, .ptr 0 0, v7, v8, v9, .bool true]) (h' := h) (lo' := some lo) (ds := [.b false, .b false, .b true]) (cs := [some (AV.bool (er == 1)) = some (.bool false), some (AV.bool (er == 5)) = some (.bool false), some (AV.bool (er == 8)) = some (.bool true)]) hlv (fun t0 => by kernel_rfl) ⟨by simp [h1], by simp [h2], by simp [h3], trivial⟩
  have e : pass er = (er == 10) := by unfold pass; rw [beq_eq_false_iff_ne.2 h1, beq_eq_false_iff_ne.2 h2, beq_eq_false_iff_ne.2 h3]; rfl
  rw [e]
  exact path3 [0, 3, 7, 8, 9, 10] (e := .normal) (vals := [.int .i64 er, .ptr 0 0, v7, v8, v9, .bool (er == 10)]) (h' := h) (lo' := some lo) (ds := [.b false, .b false, .b false, .b (er == 10)]) (cs := [some (AV.bool (er == 1)) = some (.bool false), some (AV.bool (er == 5)) = some (.bool false), some (AV.bool (er == 8)) = some (.bool false), some (AV.bool (er == 10)) = some (.bool (er == 10))]) hlv (fun t0 => by kernel_rfl) ⟨by simp [h1], by simp [h2], by simp [h3], rfl, trivial⟩
def fPtr : Bool → Nat
  | true => 6
  | false => 4
theorem law_cl (er : Int) {v : AV} (hv : OkPlan v) : ∃ h' lo, Cl G3 T 7 [.int .i64 er, v] [] (.bool true, h', lo) := by
  have hv' := hv
  obtain ⟨t, vs, ex', rfl, ⟨ts, ex, rfl, hts, hlt⟩, hvs, hlv⟩ := hv'
  suffices hw : Wp G3 T bL { t := [.int .i64 er, .agg [.ro ts 1 ex, .ro vs 3 ex']] ++ List.replicate 92 (.tup []), h := [] } QL by
    obtain ⟨r, h', lo, rfl, hc⟩ := Cl.slot' (Γ := G3) (tbl := T) (af := a7) (args := [.int .i64 er, .agg [.ro ts 1 ex, .ro vs 3 ex']]) (h := []) (by kernel_rfl) (by kernel_rfl) rfl rfl (fun r h' => r = .bool true) hw
    exact ⟨h', lo, hc⟩
  refine Wp.seq ?_
  refine (path2 (nt := 94) (live := [(0, .int .i64 er), (1, .agg [.ro ts 1 ex, .ro vs 3 ex'])]) [0, 3] (e := .normal) (vals := [.int .i64 er, .ptr 0 0]) (h' := hL ts ex vs ex') (ds := []) (cs := []) ⟨by simp, by simp [getX_eq]⟩ (fun t0 => by kernel_rfl) trivial).mono ?_
  rintro e s ⟨rfl, t1, rfl, hl1⟩
  refine Wp.seq ?_
  refine (path2 [0, 3] (e := .normal) (vals := [.int .i64 er, .ptr 0 0]) (h' := hL ts ex vs ex') (ds := [.r (.bool true) (hL ts ex vs ex') none]) (cs := [Cl G3 T 51 [] (hL ts ex vs ex') (.bool true, hL ts ex vs ex', none)]) hl1 (fun t0 => by kernel_rfl) ⟨Cl.pure (g := gAwake) (by kernel_rfl) rfl rfl rfl _, trivial⟩).mono ?_
  rintro e s ⟨rfl, t2, rfl, hl2⟩
  refine Wp.seq ?_
  by_cases d1 : (ts.length : Int) > 6
  · refine (path2 [4] (e := .ret) (vals := [.bool true]) (h' := hL ts ex vs ex') (ds := [.b true]) (cs := [some (AV.bool (decide ((ts.length : Int) > 6))) = some (.bool true)]) hl2 (fun t0 => by kernel_rfl) ⟨by rw [decide_eq_true d1], trivial⟩).mono ?_
    rintro e s ⟨rfl, t3, rfl, hl3⟩
    exact QL_of hl3
  by_cases d2 : (vs.length : Int) > 8
  · refine (path2 [4] (e := .ret) (vals := [.bool true]) (h' := hL ts ex vs ex') (ds := [.b false, .b true]) (cs := [some (AV.bool (decide ((ts.length : Int) > 6))) = some (.bool false), some (AV.bool (decide ((vs.length : Int) > 8))) = some (.bool true)]) hl2 (fun t0 => by kernel_rfl) ⟨by rw [decide_eq_false d1], by rw [decide_eq_true d2], trivial⟩).mono ?_
    rintro e s ⟨rfl, t3, rfl, hl3⟩
    exact QL_of hl3
  refine (path2 [0, 3] (e := .normal) (vals := [.int .i64 er, .ptr 0 0]) (h' := hL ts ex vs ex') (ds := [.b false, .b false]) (cs := [some (AV.bool (decide ((ts.length : Int) > 6))) = some (.bool false), some (AV.bool (decide ((vs.length : Int) > 8))) = some (.bool false)]) hl2 (fun t0 => by kernel_rfl) ⟨by rw [decide_eq_false d1], by rw [decide_eq_false d2], trivial⟩).mono ?_
  rintro e s ⟨rfl, t3, rfl, hl3⟩
  refine Wp.seq (Wp.seq ?_)
  refine (path2 [0, 3, 5] (e := .normal) (vals := [.int .i64 er, .ptr 0 0, .int .i64 0]) (h' := hL ts ex vs ex') (ds := []) (cs := []) hl3 (fun t0 => by kernel_rfl) trivial).mono ?_
  rintro e s ⟨rfl, t4, rfl, hl4⟩
  refine Wp.block ?_
  refine (loop1_ok hts hlt hl4).mono ?_
  rintro e s (h1 | ⟨rfl, t5, rfl, hl5⟩)
  · obtain ⟨rfl, h2⟩ := h1
    exact ⟨rfl, h2⟩
  refine Wp.seq (Wp.seq ?_)
  refine (path2 [0, 3, 6] (e := .normal) (vals := [.int .i64 er, .ptr 0 0, .int .i64 0]) (h' := hL ts ex vs ex') (ds := []) (cs := []) hl5 (fun t0 => by kernel_rfl) trivial).mono ?_
  rintro e s ⟨rfl, t6, rfl, hl6⟩
  refine Wp.block ?_
  refine (loop2_ok hvs hlv hl6).mono ?_
  rintro e s (h1 | ⟨rfl, t7, rfl, hl7⟩)
  · obtain ⟨rfl, h2⟩ := h1
    exact ⟨rfl, h2⟩
  have hs := serial_cl hv (by omega)
  have hc : ∀ h, Cl G3 T 13 [.agg [.ro ts 1 ex, .ro vs 3 ex']] h (.bool (goodB (.agg [.ro ts 1 ex, .ro vs 3 ex'])), h, none) := fun h => Cl.pure (g := gGood) (by kernel_rfl) (by simp [gGood, hv]) (by have := hv.clo; simp [cloL, this]) rfl h
  refine Wp.seq ?_
  generalize goodB (.agg [.ro ts 1 ex, .ro vs 3 ex']) = g at hs hc
  have hp : Wp G3 T (hd rest) { t := t7, h := hL ts ex vs ex', lo := none } fun e s => e = .normal ∧ ∃ t2, s = { t := t2, h := newH ts ex vs ex' g ++ [fB], lo := some (fPtr g) } ∧ Lv 94 [(0, .int .i64 er), (3, .ptr 0 0), (7, newV g), (8, .ptr (fPtr g) 0), (9, .bool g)] t2 := by
    cases g with
    | true => exact path3 [0, 3, 7, 8, 9] (e := .normal) (lo' := some 6) (vals := [.int .i64 er, .ptr 0 0, newV true, .ptr 6 0, .bool true]) (h' := newH ts ex vs ex' true ++ [fB]) (ds := [.r (serV true) (newH ts ex vs ex' true) (some 2)]) (cs := [Cl G3 T 52 [.agg [.ro ts 1 ex, .ro vs 3 ex'], .nils, .nils] [pB [.ro ts 1 ex, .ro vs 3 ex']] (serV true, newH ts ex vs ex' true, some 2)]) hl7 (fun t0 => by kernel_rfl) ⟨hs, trivial⟩
    | false => exact path3 [0, 3, 7, 8, 9] (e := .normal) (lo' := some 4) (vals := [.int .i64 er, .ptr 0 0, newV false, .ptr 4 0, .bool false]) (h' := newH ts ex vs ex' false ++ [fB]) (ds := [.r (serV false) (newH ts ex vs ex' false) (some 2)]) (cs := [Cl G3 T 52 [.agg [.ro ts 1 ex, .ro vs 3 ex'], .nils, .nils] [pB [.ro ts 1 ex, .ro vs 3 ex']] (serV false, newH ts ex vs ex' false, some 2)]) hl7 (fun t0 => by kernel_rfl) ⟨hs, trivial⟩
  refine hp.mono ?_
  rintro e s ⟨rfl, t8, rfl, hl8⟩
  refine Wp.seq ?_
  refine (want_ok hl8).mono ?_
  rintro e s ⟨rfl, t9, rfl, hl9⟩
  have hpa := passes_cl er (newH ts ex vs ex' g ++ [fB])
  have hgo := hc (newH ts ex vs ex' g ++ [fB])
  generalize pass er = b at hpa hl9
  have hq : Wp G3 T (tl (tl rest)) { t := t9, h := newH ts ex vs ex' g ++ [fB], lo := some (fPtr g) } fun e s => e = .ret ∧ ∃ t2, s = { t := t2, h := newH ts ex vs ex' g ++ [fB], lo := some (fPtr g) } ∧ Lv 94 [(4, .bool true)] t2 := by
    cases g with
    | true => exact path3 [4] (e := .ret) (vals := [.bool true]) (lo' := some 6) (h' := newH ts ex vs ex' true ++ [fB]) (ds := [.r (.bool b) (newH ts ex vs ex' true ++ [fB]) none, .b true, .r (.bool true) (newH ts ex vs ex' true ++ [fB]) none, .b true, .b true, .b true, .b true]) (cs := [Cl G3 T 53 [.int .i64 er] (newH ts ex vs ex' true ++ [fB]) (.bool b, newH ts ex vs ex' true ++ [fB], none), some (AV.bool (b == b)) = some (.bool true), Cl G3 T 13 [.agg [.ro ts 1 ex, .ro vs 3 ex']] (newH ts ex vs ex' true ++ [fB]) (.bool true, newH ts ex vs ex' true ++ [fB], none), some (AV.bool true) = some (.bool true), some (AV.bool true) = some (.bool true), some (AV.bool true) = some (.bool true), some (AV.bool true) = some (.bool true)]) hl9 (fun t0 => by kernel_rfl) ⟨hpa, by simp, hgo, rfl, rfl, rfl, rfl, trivial⟩
    | false => exact path3 [4] (e := .ret) (vals := [.bool true]) (lo' := some 4) (h' := newH ts ex vs ex' false ++ [fB]) (ds := [.r (.bool b) (newH ts ex vs ex' false ++ [fB]) none, .b true, .r (.bool false) (newH ts ex vs ex' false ++ [fB]) none, .b true, .b false, .b true, .b true]) (cs := [Cl G3 T 53 [.int .i64 er] (newH ts ex vs ex' false ++ [fB]) (.bool b, newH ts ex vs ex' false ++ [fB], none), some (AV.bool (b == b)) = some (.bool true), Cl G3 T 13 [.agg [.ro ts 1 ex, .ro vs 3 ex']] (newH ts ex vs ex' false ++ [fB]) (.bool false, newH ts ex vs ex' false ++ [fB], none), some (AV.bool true) = some (.bool true), some (AV.bool false) = some (.bool false), some (AV.bool true) = some (.bool true), some (AV.bool true) = some (.bool true)]) hl9 (fun t0 => by kernel_rfl) ⟨hpa, by simp, hgo, rfl, rfl, rfl, rfl, trivial⟩
  refine hq.mono ?_
  rintro e s ⟨rfl, t10, rfl, hl10⟩
  exact QL_of hl10
end Go.Proofs.YtlogcjaigjcmiaaGreat.AM.Wp
