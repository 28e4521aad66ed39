/-
  'gauger's law WitnessPasses: whether a plan can be (plan.Good), by the abstract machine: it answers with a bool, of every plan.
-/
import Derived.Test.YtlogcjaigjcmiaaGreatWp
import Derived.Test.YtlogcjaigjcmiaaGreatAmCt
import Derived.IntWalk
set_option linter.unusedVariables false
set_option linter.unusedSimpArgs false
set_option maxRecDepth 100000
namespace Go.Proofs.YtlogcjaigjcmiaaGreat.AM.Wp
open Go

def OkI (v : AV) : Prop := ∃ n, v = .int .i64 n
def OkTab (v : AV) : Prop := ∃ es ex, v = .agg [.ro es 1 ex] ∧ (∀ x ∈ es, OkI x) ∧ es.length ≤ 9223372036854775807
def OkView (v : AV) : Prop := ∃ t b es ex, v = .agg [.int .i64 t, .int .i64 b, .ro es 1 ex] ∧ (∀ x ∈ es, OkI x) ∧ es.length ≤ 9223372036854775807
def OkTabs (v : AV) : Prop := ∃ ts ex, v = .ro ts 1 ex ∧ (∀ x ∈ ts, OkTab x) ∧ ts.length ≤ 9223372036854775807
def OkPlan (v : AV) : Prop := ∃ ts vs ex, v = .agg [ts, .ro vs 3 ex] ∧ OkTabs ts ∧ (∀ x ∈ vs, OkView x) ∧ vs.length ≤ 9223372036854775807
theorem OkI.clo {v} (h : OkI v) : clo v = true := by obtain ⟨n, rfl⟩ := h; rfl
theorem cloL_of {l : List AV} {p : AV → Prop} (h : ∀ x ∈ l, p x) (hp : ∀ x, p x → clo x = true) : cloL l = true := cloL_all.2 fun v hv => hp v (h v hv)
theorem OkTab.clo {v} (h : OkTab v) : clo v = true := by
  obtain ⟨es, ex, rfl, h1, h2⟩ := h
  simp [AM.clo, cloL, cloL_of h1 fun x => OkI.clo]
theorem OkView.clo {v} (h : OkView v) : clo v = true := by
  obtain ⟨t, b, es, ex, rfl, h1, h2⟩ := h
  simp [AM.clo, cloL, cloL_of h1 fun x => OkI.clo]
theorem OkTabs.clo {v} (h : OkTabs v) : clo v = true := by
  obtain ⟨es, ex, rfl, h1, h2⟩ := h
  simp [AM.clo, cloL, cloL_of h1 fun x => OkTab.clo]
theorem OkPlan.clo {v} (h : OkPlan v) : clo v = true := by
  obtain ⟨ts, vs, ex, rfl, h1, h2, h3⟩ := h
  simp [AM.clo, cloL, cloL_of h2 fun x => OkView.clo, h1.clo]
def badI : AV → Bool
  | .int _ n => n != 1 && n != 2
  | _ => false
def isTab : AV → Bool
  | .agg [.ro es _ _] => decide (1 ≤ (es.length : Int)) && (decide ((es.length : Int) ≤ 4) && !es.any badI)
  | _ => false

noncomputable abbrev T : FuncId → Option AFunc := tree.get
section
variable {Γ : FuncId → Option GF}
theorem bad_cl (hg : Γ 143 = none) (n : Int) (h : List Blk) : Cl Γ T 143 [.int .i64 n] h (.bool (badI (.int .i64 n)), h, none) := by
  by_cases h1 : n = 1
  · have e : badI (.int .i64 n) = false := by simp [badI, h1]
    rw [e]
    exact clPath (af := a143) (ds := [.b false]) [some (AV.bool (n != 1)) = some (.bool false)] hg (by kernel_rfl) rfl (by kernel_rfl) ⟨by simp [h1], trivial⟩
  · have e : badI (.int .i64 n) = (n != 2) := by simp [badI, h1]
    rw [e]
    exact clPath (af := a143) (ds := [.b true, .b (n != 2)]) [some (AV.bool (n != 1)) = some (.bool true), some (AV.bool (n != 2)) = some (.bool (n != 2))] hg (by kernel_rfl) rfl (by kernel_rfl) ⟨by simp [h1], rfl, trivial⟩
theorem cols_cl (hg : Γ 143 = none) (hg1 : Γ 144 = none) (hg2 : Γ 204 = none) {es : List AV} {ex : Bool} (hes : ∀ x ∈ es, OkI x) (hl : es.length ≤ 9223372036854775807) (h : List Blk) :
    Cl Γ T 144 [.ro es 1 ex, .fn (.func 143) [] []] h (.bool (es.any badI), h, none) := by
  obtain ⟨h', rfl, hc⟩ := conF_cl (st := 1) (ld := none) (Γ := Γ) (tbl := T) (g' := 204) (ex := ex) (first := []) (cap := []) (g := 143) hg1 (by kernel_rfl) hg2 (by kernel_rfl) hl badI (· = h)
    (fun x hx => by obtain ⟨n, rfl⟩ := hes x hx; exact ⟨by simp [AV.cells, cellsN], rfl⟩)
    (fun x hx h1 hh => by subst hh; obtain ⟨n, rfl⟩ := hes x hx; exact ⟨h1, rfl, bad_cl hg n h1⟩) h rfl
  exact hc
theorem isTable_cl (hg0 : Γ 73 = none) (hg : Γ 143 = none) (hg1 : Γ 144 = none) (hg2 : Γ 204 = none) {v : AV} (hv : OkTab v) :
    ∃ h', Cl Γ T 73 [v] [] (.bool (isTab v), h', none) := by
  obtain ⟨es, ex, rfl, hes, hl⟩ := hv
  by_cases h1 : (1 : Int) ≤ (es.length : Int)
  · by_cases h2 : (es.length : Int) ≤ 4
    · have e : isTab (.agg [.ro es 1 ex]) = !es.any badI := by simp only [isTab, decide_eq_true h1, decide_eq_true h2, Bool.true_and]
      rw [e]
      exact ⟨_, clPath (h' := [.cells [.ro es 1 ex]]) (af := a73) (ds := [.b true, .b true, .r (.bool (es.any badI)) [.cells [.ro es 1 ex]] none]) [some (AV.bool (decide ((es.length : Int) ≥ 1))) = some (.bool true), some (AV.bool (decide ((es.length : Int) ≤ 4))) = some (.bool true), Cl Γ T 144 [.ro es 1 ex, .fn (.func 143) [] []] [.cells [.ro es 1 ex]] (.bool (es.any badI), [.cells [.ro es 1 ex]], none)] hg0 (by kernel_rfl) rfl (by kernel_rfl)
        ⟨by simpa using h1, by simpa using h2, cols_cl hg hg1 hg2 hes hl _, trivial⟩⟩
    · have e : isTab (.agg [.ro es 1 ex]) = false := by simp only [isTab, decide_eq_false h2, Bool.false_and, Bool.and_false]
      rw [e]
      exact ⟨_, clPath (h' := [.cells [.ro es 1 ex]]) (af := a73) (ds := [.b true, .b false]) [some (AV.bool (decide ((es.length : Int) ≥ 1))) = some (.bool true), some (AV.bool (decide ((es.length : Int) ≤ 4))) = some (.bool false)] hg0 (by kernel_rfl) rfl (by kernel_rfl)
        ⟨by simpa using h1, by simpa using h2, trivial⟩⟩
  · have e : isTab (.agg [.ro es 1 ex]) = false := by simp only [isTab, decide_eq_false h1, Bool.false_and]
    rw [e]
    exact ⟨_, clPath (h' := [.cells [.ro es 1 ex]]) (af := a73) (ds := [.b false]) [some (AV.bool (decide ((es.length : Int) ≥ 1))) = some (.bool false)] hg0 (by kernel_rfl) rfl (by kernel_rfl)
        ⟨by simpa using h1, trivial⟩⟩

/-! isView. -/
abbrev bV : ACode := a75.body
def bLoop : ACode := lp (blk (tl (hd (tl (tl (tl (tl bV)))))))
abbrev hV (t b : Int) (es : List AV) (ex : Bool) : List Blk := [.cells [.int .i64 t, .int .i64 b, .ro es 1 ex]]
def QV (e : AExit) (s : St) : Prop := e = .ret ∧ s.lo = none ∧ ∃ b, getX s.t 4 = .bool b
theorem QV_of {t : List AV} {h : List Blk} {b : Bool} (hl : Lv 66 [(4, .bool b)] t) : QV .ret { t := t, h := h, lo := none } := ⟨rfl, rfl, b, hl.get _ (List.mem_singleton.2 rfl)⟩
theorem view_loop {t b : Int} {es : List AV} {ex : Bool} (hes : ∀ x ∈ es, OkI x) (hl : es.length ≤ 9223372036854775807) {cs : List AV} {exc : Bool} (hcs : ∀ x ∈ cs, OkI x) {t0 : List AV} {last : Int} (hla : -1 ≤ last)
    (hlv : Lv 66 [(2, .ptr 0 0), (5, .ro cs 1 exc), (6, .int .i64 last), (32, .ro es 1 ex), (33, .int .i64 es.length), (34, .int .i64 0)] t0) :
    Wp Γ T (.loop bLoop) { t := t0, h := hV t b es ex, lo := none } fun e s => QV e s ∨ (e = .exit 0 ∧ ∃ t2, s = { t := t2, h := hV t b es ex, lo := none } ∧ Lv 66 [(2, .ptr 0 0), (5, .ro cs 1 exc)] t2) := by
  refine Wp.loop (fun k s => ∃ (i : Nat) (last : Int) (t1 : List AV), s = { t := t1, h := hV t b es ex, lo := none } ∧ k = es.length - i ∧ i ≤ es.length ∧ -1 ≤ last ∧ Lv 66 [(2, .ptr 0 0), (5, .ro cs 1 exc), (6, .int .i64 last), (32, .ro es 1 ex), (33, .int .i64 es.length), (34, .int .i64 (i : Int))] t1) ?_ es.length _ ⟨0, last, t0, rfl, by omega, by omega, hla, hlv⟩
  rintro k s ⟨i, last, t1, rfl, rfl, hi, hla, hlv⟩
  by_cases hlt : i < es.length
  · have hxi := List.getElem?_eq_getElem hlt
    have hxm : es[i] ∈ es := List.getElem_mem hlt
    generalize es[i] = x at hxi hxm
    obtain ⟨n, rfl⟩ := hes x hxm
    have c1 : some (AV.bool (decide ((i : Int) < (es.length : Int)))) = some (.bool true) := by simp; omega
    have c2 : es[(i : Int).toNat]? = some (.int .i64 n) := by simpa using hxi
    by_cases d1 : n ≤ last
    · refine (path2 [4] (e := .ret) (vals := [.bool false]) (h' := hV t b es ex) (ds := [.b true, .v (.int .i64 n), .b true])
        (cs := [some (AV.bool (decide ((i : Int) < (es.length : Int)))) = some (.bool true), 1 = 1, 0 ≤ (i : Int), (i : Int) < (es.length : Int), es[(i : Int).toNat]? = some (.int .i64 n), some (AV.bool (decide (n ≤ last))) = some (.bool true)]) hlv (fun t0 => by kernel_rfl) ⟨c1, rfl, by omega, by omega, c2, by simp [d1], trivial⟩).mono ?_
      rintro e s ⟨rfl, t3, rfl, hl3⟩
      exact .inl (QV_of hl3)
    · by_cases d2 : n ≥ (cs.length : Int)
      · refine (path2 [4] (e := .ret) (vals := [.bool false]) (h' := hV t b es ex) (ds := [.b true, .v (.int .i64 n), .b false, .b true])
          (cs := [some (AV.bool (decide ((i : Int) < (es.length : Int)))) = some (.bool true), 1 = 1, 0 ≤ (i : Int), (i : Int) < (es.length : Int), es[(i : Int).toNat]? = some (.int .i64 n), some (AV.bool (decide (n ≤ last))) = some (.bool false), some (AV.bool (decide (n ≥ (cs.length : Int)))) = some (.bool true)]) hlv (fun t0 => by kernel_rfl) ⟨c1, rfl, by omega, by omega, c2, by simp [d1], by simp; omega, trivial⟩).mono ?_
        rintro e s ⟨rfl, t3, rfl, hl3⟩
        exact .inl (QV_of hl3)
      · have hn0 : 0 ≤ n := by omega
        have hnl : n.toNat < cs.length := by omega
        have hci := List.getElem?_eq_getElem hnl
        have hcm : cs[n.toNat] ∈ cs := List.getElem_mem hnl
        generalize cs[n.toNat] = y at hci hcm
        obtain ⟨c, rfl⟩ := hcs y hcm
        by_cases d3 : c = 1
        · refine (path2 [2, 5, 6, 32, 33, 34] (e := .normal) (vals := [.ptr 0 0, .ro cs 1 exc, .int .i64 n, .ro es 1 ex, .int .i64 es.length, .int .i64 (IntKind.i64.wrap ((i : Int) + 1))]) (h' := hV t b es ex) (ds := [.b true, .v (.int .i64 n), .b false, .b false, .v (.int .i64 c), .b false])
            (cs := [some (AV.bool (decide ((i : Int) < (es.length : Int)))) = some (.bool true), 1 = 1, 0 ≤ (i : Int), (i : Int) < (es.length : Int), es[(i : Int).toNat]? = some (.int .i64 n), some (AV.bool (decide (n ≤ last))) = some (.bool false), some (AV.bool (decide (n ≥ (cs.length : Int)))) = some (.bool false), 1 = 1, 0 ≤ n, n < (cs.length : Int), cs[n.toNat]? = some (.int .i64 c), some (AV.bool (c != 1)) = some (.bool false)]) hlv (fun t0 => by kernel_rfl) ⟨c1, rfl, by omega, by omega, c2, by simp [d1], by simp; omega, rfl, hn0, by omega, hci, by simp [d3], trivial⟩).mono ?_
          rintro e s ⟨rfl, t3, rfl, hl3⟩
          rw [i64_succ (by omega) (by omega)] at hl3
          exact ⟨es.length - (i + 1), by omega, i + 1, n, t3, rfl, rfl, by omega, by omega, hl3⟩
        · refine (path2 [4] (e := .ret) (vals := [.bool false]) (h' := hV t b es ex) (ds := [.b true, .v (.int .i64 n), .b false, .b false, .v (.int .i64 c), .b true])
            (cs := [some (AV.bool (decide ((i : Int) < (es.length : Int)))) = some (.bool true), 1 = 1, 0 ≤ (i : Int), (i : Int) < (es.length : Int), es[(i : Int).toNat]? = some (.int .i64 n), some (AV.bool (decide (n ≤ last))) = some (.bool false), some (AV.bool (decide (n ≥ (cs.length : Int)))) = some (.bool false), 1 = 1, 0 ≤ n, n < (cs.length : Int), cs[n.toNat]? = some (.int .i64 c), some (AV.bool (c != 1)) = some (.bool true)]) hlv (fun t0 => by kernel_rfl) ⟨c1, rfl, by omega, by omega, c2, by simp [d1], by simp; omega, rfl, hn0, by omega, hci, by simp [d3], trivial⟩).mono ?_
          rintro e s ⟨rfl, t3, rfl, hl3⟩
          exact .inl (QV_of hl3)
  · refine (path2 [2, 5] (e := .exit 0) (vals := [.ptr 0 0, .ro cs 1 exc]) (h' := hV t b es ex) (ds := [.b false]) (cs := [some (AV.bool (decide ((i : Int) < (es.length : Int)))) = some (.bool false)]) hlv (fun t0 => by kernel_rfl) ⟨by simp; omega, trivial⟩).mono ?_
    rintro e s ⟨rfl, t3, rfl, hl3⟩
    exact .inr ⟨rfl, t3, rfl, hl3⟩
theorem isView_cl (hg : Γ 75 = none) {v ts : AV} (hv : OkView v) (ht : OkTabs ts) : ∃ b h', Cl Γ T 75 [v, ts] [] (.bool b, h', none) := by
  obtain ⟨t, b, es, ex, rfl, hes, hl⟩ := hv
  obtain ⟨tl, ext, rfl, htl, hll⟩ := ht
  suffices hw : Wp Γ T bV { t := [.agg [.int .i64 t, .int .i64 b, .ro es 1 ex], .ro tl 1 ext] ++ List.replicate 64 (.tup []), h := [] } QV by
    obtain ⟨r, h', ⟨q, rfl⟩, hc⟩ := Cl.slot (Γ := Γ) (tbl := T) (af := a75) (args := [.agg [.int .i64 t, .int .i64 b, .ro es 1 ex], .ro tl 1 ext]) (h := []) hg (by kernel_rfl) rfl rfl (fun r h' => ∃ b, r = .bool b) hw
    exact ⟨q, h', hc⟩
  refine Wp.seq ?_
  refine (path2 (nt := 66) (live := [(0, .agg [.int .i64 t, .int .i64 b, .ro es 1 ex]), (1, .ro tl 1 ext)]) [1, 2] (e := .normal) (vals := [.ro tl 1 ext, .ptr 0 0]) (h' := hV t b es ex) (ds := []) (cs := []) ⟨by simp, by simp [getX_eq]⟩ (fun t0 => by kernel_rfl) trivial).mono ?_
  rintro e s ⟨rfl, t1, rfl, hl1⟩
  refine Wp.seq ?_
  by_cases d1 : t < 0
  · refine (path2 [4] (e := .ret) (vals := [.bool false]) (h' := hV t b es ex) (ds := [.b true]) (cs := [some (AV.bool (decide (t < 0))) = some (.bool true)]) hl1 (fun t0 => by kernel_rfl) ⟨by simp [d1], trivial⟩).mono ?_
    rintro e s ⟨rfl, t3, rfl, hl3⟩
    exact QV_of hl3
  by_cases d2 : t ≥ (tl.length : Int)
  · refine (path2 [4] (e := .ret) (vals := [.bool false]) (h' := hV t b es ex) (ds := [.b false, .b true]) (cs := [some (AV.bool (decide (t < 0))) = some (.bool false), some (AV.bool (decide (t ≥ (tl.length : Int)))) = some (.bool true)]) hl1 (fun t0 => by kernel_rfl) ⟨by simp; omega, by simp; omega, trivial⟩).mono ?_
    rintro e s ⟨rfl, t3, rfl, hl3⟩
    exact QV_of hl3
  by_cases d3 : (es.length : Int) > 2
  · refine (path2 [4] (e := .ret) (vals := [.bool false]) (h' := hV t b es ex) (ds := [.b false, .b false, .b true]) (cs := [some (AV.bool (decide (t < 0))) = some (.bool false), some (AV.bool (decide (t ≥ (tl.length : Int)))) = some (.bool false), some (AV.bool (decide ((es.length : Int) > 2))) = some (.bool true)]) hl1 (fun t0 => by kernel_rfl) ⟨by simp; omega, by simp; omega, by simp; omega, trivial⟩).mono ?_
    rintro e s ⟨rfl, t3, rfl, hl3⟩
    exact QV_of hl3
  refine (path2 [1, 2] (e := .normal) (vals := [.ro tl 1 ext, .ptr 0 0]) (h' := hV t b es ex) (ds := [.b false, .b false, .b false]) (cs := [some (AV.bool (decide (t < 0))) = some (.bool false), some (AV.bool (decide (t ≥ (tl.length : Int)))) = some (.bool false), some (AV.bool (decide ((es.length : Int) > 2))) = some (.bool false)]) hl1 (fun t0 => by kernel_rfl) ⟨by simp; omega, by simp; omega, by simp; omega, trivial⟩).mono ?_
  rintro e s ⟨rfl, t2, rfl, hl2⟩
  have hnl : t.toNat < tl.length := by omega
  have hti := List.getElem?_eq_getElem hnl
  have htm : tl[t.toNat] ∈ tl := List.getElem_mem hnl
  generalize tl[t.toNat] = y at hti htm
  obtain ⟨cs, exc, rfl, hcs, hcl⟩ := htl y htm
  refine Wp.seq ?_
  refine (path2 [2, 5] (e := .normal) (vals := [.ptr 0 0, .ro cs 1 exc]) (h' := hV t b es ex) (ds := [.v (.agg [.ro cs 1 exc])]) (cs := [1 = 1, 0 ≤ t, t < (tl.length : Int), tl[t.toNat]? = some (.agg [.ro cs 1 exc])]) hl2 (fun t0 => by kernel_rfl) ⟨rfl, by omega, by omega, hti, trivial⟩).mono ?_
  rintro e s ⟨rfl, t3, rfl, hl3⟩
  refine Wp.seq ?_
  refine (path2 [2, 5, 6] (e := .normal) (vals := [.ptr 0 0, .ro cs 1 exc, .int .i64 (-1)]) (h' := hV t b es ex) (ds := []) (cs := []) hl3 (fun t0 => by kernel_rfl) trivial).mono ?_
  rintro e s ⟨rfl, t4, rfl, hl4⟩
  refine Wp.seq ?_
  refine Wp.seq ?_
  refine (path2 [2, 5, 6, 32, 33, 34] (e := .normal) (vals := [.ptr 0 0, .ro cs 1 exc, .int .i64 (-1), .ro es 1 ex, .int .i64 es.length, .int .i64 0]) (h' := hV t b es ex) (ds := []) (cs := []) hl4 (fun t0 => by kernel_rfl) trivial).mono ?_
  rintro e s ⟨rfl, t5, rfl, hl5⟩
  refine Wp.block ?_
  refine (view_loop (Γ := Γ) (t := t) (b := b) hes hl hcs (by omega) hl5).mono ?_
  rintro e s (h1 | ⟨rfl, t6, rfl, hl6⟩)
  · obtain ⟨rfl, h2⟩ := h1
    exact ⟨rfl, h2⟩
  · by_cases d4 : b ≥ 0
    · refine (path2 [4] (e := .ret) (vals := [.bool (decide (b < (cs.length : Int)))]) (h' := hV t b es ex) (ds := [.b true, .b (decide (b < (cs.length : Int)))]) (cs := [some (AV.bool (decide (b ≥ 0))) = some (.bool true), some (AV.bool (decide (b < (cs.length : Int)))) = some (.bool (decide (b < (cs.length : Int))))]) hl6 (fun t0 => by kernel_rfl) ⟨by simp; omega, rfl, trivial⟩).mono ?_
      rintro e s ⟨rfl, t3, rfl, hl3⟩
      exact QV_of hl3
    · refine (path2 [4] (e := .ret) (vals := [.bool false]) (h' := hV t b es ex) (ds := [.b false]) (cs := [some (AV.bool (decide (b ≥ 0))) = some (.bool false)]) hl6 (fun t0 => by kernel_rfl) ⟨by simp; omega, trivial⟩).mono ?_
      rintro e s ⟨rfl, t3, rfl, hl3⟩
      exact QV_of hl3
end
end Go.Proofs.YtlogcjaigjcmiaaGreat.AM.Wp
