/-
  'gauger's law WitnessPasses: plan.Good answers with a bool, of every plan.
-/
import Derived.Test.YtlogcjaigjcmiaaGreatWpA
import Derived.Test.YtlogcjaigjcmiaaGreatAmBits
set_option linter.unusedVariables false
set_option linter.unusedSimpArgs false
set_option maxRecDepth 100000
namespace Go.Proofs.YtlogcjaigjcmiaaGreat.AM.Wp
open Go

noncomputable def gam0 : List (Nat × GF) := [(301, extG xSub), (302, extG xAdd)]
theorem K0 : Known (gGet gam0) tree.get Tryz.prog := known_of (by kernel_rfl) ⟨xSub_ok, xAdd_ok, trivial⟩ all
theorem awake_ev : okB (callX (gGet gam0) tree.get 100000 51 [] []) = true := by kernel_rfl
theorem awake_pure : PureS Tryz.prog 51 [] (.bool true) := by
  obtain ⟨h', lo, h⟩ := okB_some awake_ev
  rw [callX_eq] at h
  exact pureS_of K0 h (by kernel_rfl) rfl
def gAwake : List AV → Option AV
  | [] => some (.bool true)
  | _ => none
theorem awake_ok : GOk Tryz.prog 51 (pureG gAwake) := by
  refine pureG_known ⟨_, Tryz.func51, by kernel_rfl, by kernel_rfl⟩ fun args r hr _ => ?_
  unfold gAwake at hr
  split at hr <;> cases hr
  exact awake_pure
open Classical in
noncomputable def gTab : List AV → Option AV
  | [v] => if OkTab v then some (.bool (isTab v)) else none
  | _ => none
theorem tab_ok : GOk Tryz.prog 73 (pureG gTab) := by
  refine pureG_known ⟨_, Tryz.func73, by kernel_rfl, by kernel_rfl⟩ fun args r hr _ => ?_
  unfold gTab at hr
  split at hr <;> first | (cases hr; done) | skip
  split at hr <;> cases hr
  rename_i v hv
  obtain ⟨h', hc⟩ := isTable_cl (Γ := gGet gam0) (by kernel_rfl) (by kernel_rfl) (by kernel_rfl) (by kernel_rfl) hv
  exact pureS_cl K0 hc (by kernel_rfl) rfl
open Classical in
noncomputable def viewB (v ts : AV) : Bool := if h : ∃ b h', Cl (gGet gam0) T 75 [v, ts] [] (.bool b, h', none) then h.choose else false
theorem viewB_cl {v ts : AV} (hv : OkView v) (ht : OkTabs ts) : ∃ h', Cl (gGet gam0) T 75 [v, ts] [] (.bool (viewB v ts), h', none) := by
  have h := isView_cl (Γ := gGet gam0) (by kernel_rfl) hv ht
  unfold viewB
  rw [dif_pos h]
  exact h.choose_spec
open Classical in
noncomputable def gView : List AV → Option AV
  | [v, ts] => if OkView v ∧ OkTabs ts then some (.bool (viewB v ts)) else none
  | _ => none
theorem view_ok : GOk Tryz.prog 75 (pureG gView) := by
  refine pureG_known ⟨_, Tryz.func75, by kernel_rfl, by kernel_rfl⟩ fun args r hr _ => ?_
  unfold gView at hr
  split at hr <;> first | (cases hr; done) | skip
  split at hr <;> cases hr
  rename_i v ts hv
  obtain ⟨h', hc⟩ := viewB_cl hv.1 hv.2
  exact pureS_cl K0 hc (by kernel_rfl) rfl
noncomputable def gam1 : List (Nat × GF) := (73, pureG gTab) :: (75, pureG gView) :: gam0
theorem K1 : Known (gGet gam1) tree.get Tryz.prog := known_of (by kernel_rfl) ⟨tab_ok, view_ok, xSub_ok, xAdd_ok, trivial⟩ all

/-! The functions that Good hands over. -/
theorem good1_cl {v : AV} (hv : OkTab v) : ∃ h', Cl (gGet gam1) T 72 [v] [] (.bool (!isTab v), h', none) := by
  have hc := hv.clo
  have hv' := hv
  obtain ⟨es, ex, rfl, _, _⟩ := hv'
  refine ⟨_, clPath (h' := [.cells [.ro es 1 ex]]) (af := a72) (ds := [.r (.bool (isTab (.agg [.ro es 1 ex]))) [.cells [.ro es 1 ex]] none])
    [Cl (gGet gam1) T 73 [.agg [.ro es 1 ex]] [.cells [.ro es 1 ex]] (.bool (isTab (.agg [.ro es 1 ex])), [.cells [.ro es 1 ex]], none)] (by kernel_rfl) (by kernel_rfl) rfl (by kernel_rfl) ⟨?_, trivial⟩⟩
  exact Cl.pure (g := gTab) (by kernel_rfl) (by simp [gTab, hv]) (by simp [cloL, hc]) rfl _
open Classical in
noncomputable def gGood1 : List AV → Option AV
  | [v] => if OkTab v then some (.bool (!isTab v)) else none
  | _ => none
theorem good1_ok : GOk Tryz.prog 72 (pureG gGood1) := by
  refine pureG_known ⟨_, Tryz.func72, by kernel_rfl, by kernel_rfl⟩ fun args r hr _ => ?_
  unfold gGood1 at hr
  split at hr <;> first | (cases hr; done) | skip
  split at hr <;> cases hr
  rename_i v hv
  obtain ⟨h', hc⟩ := good1_cl hv
  exact pureS_cl K1 hc (by kernel_rfl) rfl
noncomputable def gam2 : List (Nat × GF) := (72, pureG gGood1) :: gam1
theorem K2 : Known (gGet gam2) tree.get Tryz.prog := known_of (by kernel_rfl) ⟨good1_ok, tab_ok, view_ok, xSub_ok, xAdd_ok, trivial⟩ all
noncomputable abbrev G2 : FuncId → Option GF := gGet gam2
theorem rd_last (h : List Blk) (cs : List AV) : rdCells (h ++ [.cells cs]) h.length 0 cs.length = some cs := by simp [rdCells]
theorem good2_cl {v ts vs : AV} (hv : OkView v) (ht : OkTabs ts) (junk : List Blk) :
    Cl G2 T 74 [v, .ptr 0 0] (.cells [ts, vs] :: junk) (.bool (!viewB v ts), .cells [ts, vs] :: (junk ++ [.cells v.cells]), none) := by
  have hc := hv.clo
  have ho := ht.clo
  have hv' := hv
  obtain ⟨t, b, es, ex, rfl, _, _⟩ := hv'
  obtain ⟨tl, ext, rfl, h1, h2⟩ := ht
  have ht : OkTabs (.ro tl 1 ext) := ⟨tl, ext, rfl, h1, h2⟩
  refine clPath (af := a74) (ds := [.f (.agg [.int .i64 t, .int .i64 b, .ro es 1 ex]), .r (.bool (viewB (.agg [.int .i64 t, .int .i64 b, .ro es 1 ex]) (.ro tl 1 ext))) (.cells [.ro tl 1 ext, vs] :: (junk ++ [.cells [.int .i64 t, .int .i64 b, .ro es 1 ex]])) none])
    [(rdCells ((.cells [.ro tl 1 ext, vs] :: junk) ++ [.cells [.int .i64 t, .int .i64 b, .ro es 1 ex]]) (List.length (.cells [.ro tl 1 ext, vs] :: junk)) 0 3).bind (asVar (some 3)) = some (.agg [.int .i64 t, .int .i64 b, .ro es 1 ex]),
     Cl G2 T 75 [.agg [.int .i64 t, .int .i64 b, .ro es 1 ex], .ro tl 1 ext] (.cells [.ro tl 1 ext, vs] :: (junk ++ [.cells [.int .i64 t, .int .i64 b, .ro es 1 ex]])) (.bool (viewB (.agg [.int .i64 t, .int .i64 b, .ro es 1 ex]) (.ro tl 1 ext)), .cells [.ro tl 1 ext, vs] :: (junk ++ [.cells [.int .i64 t, .int .i64 b, .ro es 1 ex]]), none)]
    (by kernel_rfl) (by kernel_rfl) rfl (by kernel_rfl) ⟨?_, ?_, trivial⟩
  · rw [show (3 : Nat) = [AV.int .i64 t, .int .i64 b, .ro es 1 ex].length from rfl, rd_last]; rfl
  · exact Cl.pure (g := gView) (by kernel_rfl) (by simp [gView, hv, ht]) (by simp [cloL, hc, ho]) rfl _
/-- Good, of a plan's two rows. -/
def tabsBad (ts : List AV) : Bool := ts.any fun v => !isTab v
noncomputable def viewsBad (t : AV) (vs : List AV) : Bool := vs.any fun v => !viewB v t
noncomputable def goodB : AV → Bool
  | .agg [.ro ts st ex, .ro vs _ _] => !decide ((ts.length : Int) < 1) && (!decide ((ts.length : Int) > 3) && (!decide ((vs.length : Int) > 4) && (!tabsBad ts && !viewsBad (.ro ts st ex) vs)))
  | _ => false
theorem good_cl {v : AV} (hv : OkPlan v) : ∃ h', Cl G2 T 13 [v] [] (.bool (goodB v), h', none) := by
  obtain ⟨t, vs, ex', rfl, hts, hvs, hlv⟩ := hv
  have hts' := hts
  obtain ⟨ts, ex, rfl, htt, hlt⟩ := hts'
  have e : ∀ {b : Bool}, (!decide ((ts.length : Int) < 1) && (!decide ((ts.length : Int) > 3) && (!decide ((vs.length : Int) > 4) && (!tabsBad ts && !viewsBad (.ro ts 1 ex) vs)))) = b → goodB (.agg [.ro ts 1 ex, .ro vs 3 ex']) = b := fun h => h
  by_cases d1 : (ts.length : Int) < 1
  · rw [e (b := false) (by rw [decide_eq_true d1]; rfl)]
    exact ⟨_, clPath (h' := [.cells [.ro ts 1 ex, .ro vs 3 ex']]) (af := a13) (ds := [.b true]) [some (AV.bool (decide ((ts.length : Int) < 1))) = some (.bool true)] (by kernel_rfl) (by kernel_rfl) rfl (by kernel_rfl) ⟨by rw [decide_eq_true d1], trivial⟩⟩
  by_cases d2 : (ts.length : Int) > 3
  · rw [e (b := false) (by rw [decide_eq_true d2]; simp)]
    exact ⟨_, clPath (h' := [.cells [.ro ts 1 ex, .ro vs 3 ex']]) (af := a13) (ds := [.b false, .b true]) [some (AV.bool (decide ((ts.length : Int) < 1))) = some (.bool false), some (AV.bool (decide ((ts.length : Int) > 3))) = some (.bool true)] (by kernel_rfl) (by kernel_rfl) rfl (by kernel_rfl) ⟨by rw [decide_eq_false d1], by rw [decide_eq_true d2], trivial⟩⟩
  by_cases d3 : (vs.length : Int) > 4
  · rw [e (b := false) (by rw [decide_eq_true d3]; simp)]
    exact ⟨_, clPath (h' := [.cells [.ro ts 1 ex, .ro vs 3 ex']]) (af := a13) (ds := [.b false, .b false, .b true]) [some (AV.bool (decide ((ts.length : Int) < 1))) = some (.bool false), some (AV.bool (decide ((ts.length : Int) > 3))) = some (.bool false), some (AV.bool (decide ((vs.length : Int) > 4))) = some (.bool true)] (by kernel_rfl) (by kernel_rfl) rfl (by kernel_rfl) ⟨by rw [decide_eq_false d1], by rw [decide_eq_false d2], by rw [decide_eq_true d3], trivial⟩⟩
  have hc1 : Cl G2 T 76 [.ro ts 1 ex, .fn (.func 72) [] []] [.cells [.ro ts 1 ex, .ro vs 3 ex']] (.bool (tabsBad ts), [.cells [.ro ts 1 ex, .ro vs 3 ex']], none) := by
    obtain ⟨h', rfl, hc⟩ := conF_cl (st := 1) (ld := some 1) (Γ := G2) (tbl := T) (f := 76) (g' := 145) (ex := ex) (first := []) (cap := []) (g := 72) (by kernel_rfl) (by kernel_rfl) (by kernel_rfl) (by kernel_rfl) hlt (fun v => !isTab v) (· = [.cells [.ro ts 1 ex, .ro vs 3 ex']])
      (fun x hx => by obtain ⟨es, ex, rfl, _, _⟩ := htt x hx; exact ⟨by simp [AV.cells, cellsN], rfl⟩)
      (fun x hx h1 hh => by subst hh; exact ⟨_, rfl, Cl.pure (g := gGood1) (by kernel_rfl) (by simp [gGood1, htt x hx]) (by simp [cloL, (htt x hx).clo]) rfl _⟩) _ rfl
    exact hc
  obtain ⟨h', ⟨junk, rfl⟩, hc2⟩ : ∃ h', (∃ junk, h' = .cells [.ro ts 1 ex, .ro vs 3 ex'] :: junk) ∧ Cl G2 T 77 [.ro vs 3 ex', .fn (.func 74) [] [.ptr 0 0]] [.cells [.ro ts 1 ex, .ro vs 3 ex']] (.bool (viewsBad (.ro ts 1 ex) vs), h', none) :=
    conF_cl (st := 3) (ld := some 3) (Γ := G2) (tbl := T) (f := 77) (g' := 146) (ex := ex') (first := []) (cap := [.ptr 0 0]) (g := 74) (by kernel_rfl) (by kernel_rfl) (by kernel_rfl) (by kernel_rfl) hlv (fun v => !viewB v (.ro ts 1 ex)) (fun h => ∃ junk, h = .cells [.ro ts 1 ex, .ro vs 3 ex'] :: junk)
      (fun x hx => by obtain ⟨t, b, es, ex, rfl, _, _⟩ := hvs x hx; exact ⟨by simp [AV.cells, cellsN], rfl⟩)
      (fun x hx h1 hh => by obtain ⟨junk, rfl⟩ := hh; exact ⟨_, ⟨_, rfl⟩, good2_cl (hvs x hx) hts junk⟩) _ ⟨[], rfl⟩
  cases d4 : tabsBad ts with
  | true =>
    rw [d4] at hc1
    rw [e (b := false) (by rw [d4]; simp)]
    exact ⟨_, clPath (h' := [.cells [.ro ts 1 ex, .ro vs 3 ex']]) (af := a13) (ds := [.b false, .b false, .b false, .r (.bool true) [.cells [.ro ts 1 ex, .ro vs 3 ex']] none]) [some (AV.bool (decide ((ts.length : Int) < 1))) = some (.bool false), some (AV.bool (decide ((ts.length : Int) > 3))) = some (.bool false), some (AV.bool (decide ((vs.length : Int) > 4))) = some (.bool false), Cl G2 T 76 [.ro ts 1 ex, .fn (.func 72) [] []] [.cells [.ro ts 1 ex, .ro vs 3 ex']] (.bool true, [.cells [.ro ts 1 ex, .ro vs 3 ex']], none)] (by kernel_rfl) (by kernel_rfl) rfl (by kernel_rfl)
      ⟨by rw [decide_eq_false d1], by rw [decide_eq_false d2], by rw [decide_eq_false d3], hc1, trivial⟩⟩
  | false =>
    rw [d4] at hc1
    rw [e (b := !viewsBad (.ro ts 1 ex) vs) (by rw [d4, decide_eq_false d1, decide_eq_false d2, decide_eq_false d3]; simp)]
    exact ⟨_, clPath (h' := .cells [.ro ts 1 ex, .ro vs 3 ex'] :: junk) (af := a13) (ds := [.b false, .b false, .b false, .r (.bool false) [.cells [.ro ts 1 ex, .ro vs 3 ex']] none, .r (.bool (viewsBad (.ro ts 1 ex) vs)) (.cells [.ro ts 1 ex, .ro vs 3 ex'] :: junk) none]) [some (AV.bool (decide ((ts.length : Int) < 1))) = some (.bool false), some (AV.bool (decide ((ts.length : Int) > 3))) = some (.bool false), some (AV.bool (decide ((vs.length : Int) > 4))) = some (.bool false), Cl G2 T 76 [.ro ts 1 ex, .fn (.func 72) [] []] [.cells [.ro ts 1 ex, .ro vs 3 ex']] (.bool false, [.cells [.ro ts 1 ex, .ro vs 3 ex']], none), Cl G2 T 77 [.ro vs 3 ex', .fn (.func 74) [] [.ptr 0 0]] [.cells [.ro ts 1 ex, .ro vs 3 ex']] (.bool (viewsBad (.ro ts 1 ex) vs), .cells [.ro ts 1 ex, .ro vs 3 ex'] :: junk, none)] (by kernel_rfl) (by kernel_rfl) rfl (by kernel_rfl)
      ⟨by rw [decide_eq_false d1], by rw [decide_eq_false d2], by rw [decide_eq_false d3], hc1, hc2, trivial⟩⟩
open Classical in
noncomputable def gGood : List AV → Option AV
  | [v] => if OkPlan v then some (.bool (goodB v)) else none
  | _ => none
theorem good_ok : GOk Tryz.prog 13 (pureG gGood) := by
  refine pureG_known ⟨_, Tryz.func13, by kernel_rfl, by kernel_rfl⟩ fun args r hr _ => ?_
  unfold gGood at hr
  split at hr <;> first | (cases hr; done) | skip
  split at hr <;> cases hr
  rename_i v hv
  obtain ⟨h', hc⟩ := good_cl hv
  exact pureS_cl K2 hc (by kernel_rfl) rfl
noncomputable def gam3 : List (Nat × GF) := (13, pureG gGood) :: (51, pureG gAwake) :: gam0
theorem K3 : Known (gGet gam3) tree.get Tryz.prog := known_of (by kernel_rfl) ⟨good_ok, awake_ok, xSub_ok, xAdd_ok, trivial⟩ all
noncomputable abbrev G3 : FuncId → Option GF := gGet gam3
end Go.Proofs.YtlogcjaigjcmiaaGreat.AM.Wp
