/-
  'gauger's law ModelBack holds of every input: it returns true, and each argument reads behind the call as it read before.
  This text: part 21 of 22 of the proof (MoAk, MoAl, MoAm, MoAn).
-/
import Derived.Test.YtenpjpldjmoefaaGreatMat
import Derived.Test.YtenpjpldjmoefaaGreatMai
set_option linter.unusedVariables false
set_option linter.unusedSimpArgs false
set_option maxRecDepth 100000
set_option maxHeartbeats 4000000
namespace Go.Proofs.YtenpjpldjmoefaaGreat.AM.Mo
open Go
theorem Cl.detM {Γ : FuncId → Option GF} {tbl : FuncId → Option AFunc} {f : FuncId} {a : List AV} {h : List Blk} {r r' : AV × List Blk × Option Nat} (h1 : Cl Γ tbl f a h r) (h2 : Cl Γ tbl f a h r') : r = r' := by
 obtain ⟨n, h1⟩ := h1
 obtain ⟨m, h2⟩ := h2
 have e1 := callF_mono (Γ := Γ) (tbl := tbl) n (max n m) (Nat.le_max_left _ _) f a h _ h1
 have e2 := callF_mono (Γ := Γ) (tbl := tbl) m (max n m) (Nat.le_max_right _ _) f a h _ h2
 rw [e1] at e2
 exact Option.some.inj e2
theorem readK_5 : readK (codeNum 5) = (⟨1, 5, []⟩, 0) := by
 have key : res1 (callX G3 Mo.T 100 98 [.str (codeNum 5)] []) = some (.tup [vV ⟨1, 5, []⟩, .int .i64 0]) := by kernel_rfl
 obtain ⟨h', lo, h⟩ := res1_some key
 rw [callX_eq] at h
 obtain ⟨H', lo', h2⟩ := readK_cl (k := codeNum 5) ⟨5, rfl⟩
 have := Cl.detM ⟨100, h⟩ h2
 simp only [Prod.mk.injEq, AV.tup.injEq, List.cons.injEq, AV.int.injEq, AV.agg.injEq, AV.str.injEq, true_and, and_true] at this
 obtain ⟨⟨⟨h1, h2, h3⟩, h4⟩, _⟩ := this
 have e : readK (codeNum 5) = (⟨(readK (codeNum 5)).1.k, (readK (codeNum 5)).1.n, (readK (codeNum 5)).1.s⟩, (readK (codeNum 5)).2) := rfl
 rw [e, ← h1, ← h2, ← h3, ← h4]
abbrev v5 : Val := ⟨1, 5, []⟩
def T1 : List (List Int) := [[1]]
def V1 : List Vw := [(0, 0, [0])]
def w1 : Wi := ⟨1, 0, ⟨0, 0, []⟩, ⟨0, 0, []⟩, [v5], 0, ⟨0, 0, []⟩, 0⟩
def w2 : Wi := ⟨6, 0, v5, ⟨0, 0, []⟩, [], 0, ⟨0, 0, []⟩, 0⟩
def s1 : DS := ⟨[[]], some [[]], []⟩
def s2 : DS := ⟨[[[v5]]], some [[]], []⟩
theorem okP1 : OkP T1 V1 where
 tl := by decide
 cl := by decide
 vl := by decide
 vw := by
  intro w hw
  simp only [V1, List.mem_cons, List.not_mem_nil, or_false] at hw
  subst hw
  exact ⟨by decide, by decide, by decide, [1], rfl, by decide, by decide⟩
 num := by
  intro w hw c hc
  simp only [V1, List.mem_cons, List.not_mem_nil, or_false] at hw
  subst hw
  cases hc
  rfl
theorem okTb_of {T : List (List Int)} {k : Nat} {ts : Tabs} (hl : ts.length = T.length) (h : ∀ t (ht : t < ts.length), ts[t].length ≤ k ∧ ∀ r ∈ ts[t], fitsB T (t : Int) r = true) : OkTb T k ts := ⟨hl, fun t rows hr => by
 obtain ⟨ht, rfl⟩ := List.getElem?_eq_some_iff.1 hr
 exact h t ht⟩
theorem okE1 : OkTb T1 1 [[]] := okTb_of rfl fun t ht => by
 match t, ht with
 | 0, _ => exact ⟨by show ([] : List (List Val)).length ≤ 1; decide, fun r hr => by cases hr⟩
theorem okN1 : OkTb T1 1 [[[v5]]] := okTb_of rfl fun t ht => by
 match t, ht with
 | 0, _ =>
  refine ⟨by show ([[v5]] : List (List Val)).length ≤ 1; decide, fun r hr => ?_⟩
  have : r = [v5] := by simpa using hr
  subst this
  decide
theorem okS1 : OkS T1 1 s1 := ⟨okE1, fun ts h => by cases h; exact okE1, (fun ts h => by cases h), by decide⟩
theorem okS2 : OkS T1 1 s2 := ⟨okN1, fun ts h => by cases h; exact okE1, (fun ts h => by cases h), by decide⟩
theorem bsK_nil (v : Val) : bsK [] v = (0, false) := by
 obtain ⟨_, _, h, _⟩ := bsK_spec (x := ([], v)) ⟨by simp, fun r hr => by cases hr⟩
 simp only [List.length_nil, Nat.le_zero] at h
 obtain ⟨h1, h2⟩ := h
 cases hb : (bsK [] v).2 with
 | true => have := h2 hb; omega
 | false => exact Prod.ext h1 hb
theorem view5 : viewS T1 V1 0 [[v5]] = [(codeNum 5, ⟨(0, 1), [(0, 5)]⟩)] := by
 have e1 : foldS T1 V1 0 (0, 0, [0]) [[v5]] = [(codeNum 5, ⟨(0, 1), [(0, 5)]⟩)] := by kernel_rfl
 have e2 : viewS T1 V1 0 [[v5]] = grpL (foldS T1 V1 0 (0, 0, [0]) [[v5]]) := rfl
 rw [e2, e1]
 simp [grpL, keysL, lkK]
theorem aw1 : doA T1 V1 false s1 w1 = (⟨0, [], [], 0⟩, s2) := by
 have hw : wishB T1 V1 w1 = true := by decide
 have hov : overB T1 V1 [[[v5]]] 0 = false := by
  have e1 : viewsOf V1 0 = [0] := by decide
  rw [overB, e1]
  show (ovV T1 V1 [[[v5]]] 0 || false) = false
  have e2 : ovV T1 V1 [[[v5]]] 0 = ovG1 (viewS T1 V1 0 [[v5]]) := rfl
  rw [e2, view5]
  decide
 have hins : insS T1 V1 false [[]] w1 = (0, [[[v5]]]) := by
  have e1 : insS T1 V1 false [[]] w1 = if (bsK [] v5).2 then (6, [[]]) else chS T1 V1 false [[]] 0 (insL [] (bsK [] v5).1 [v5]) := rfl
  rw [e1, bsK_nil]
  show chS T1 V1 false [[]] 0 [[v5]] = _
  have e2 : chS T1 V1 false [[]] 0 [[v5]] = if (!false && overB T1 V1 [[[v5]]] 0) = true then (8, [[]]) else (0, [[[v5]]]) := rfl
  rw [e2, hov]
  rfl
 rw [show doA T1 V1 false s1 w1 = if wishB T1 V1 w1 = true then kdA T1 V1 false s1 w1 else (⟨1, [], [], 0⟩, s1) from rfl, if_pos hw]
 show ((⟨(insS T1 V1 false [[]] w1).1, [], [], 0⟩, { s1 with now := (insS T1 V1 false [[]] w1).2 }) : An × DS) = _
 rw [hins]
 rfl
theorem aw2 : doA T1 V1 false s2 w2 = (⟨0, [], [⟨v5, 1, [5]⟩], 0⟩, s2) := by
 have hw : wishB T1 V1 w2 = true := by decide
 have hs : sumsS (groupsS T1 V1 [[[v5]]] 0) v5 v5 = [⟨v5, 1, [5]⟩] := by
  have e1 : groupsS T1 V1 [[[v5]]] 0 = viewS T1 V1 0 [[v5]] := rfl
  rw [e1, view5]
  have e2 : inSum v5 v5 (codeNum 5, ⟨(0, 1), [(0, 5)]⟩) = true := by
   unfold inSum
   simp only [readK_5]
   decide
  have e3 : sumOf (codeNum 5, ⟨(0, 1), [(0, 5)]⟩) = ⟨v5, 1, [5]⟩ := by
   unfold sumOf
   simp only [readK_5]
   rfl
  rw [sumsS, List.filter_cons_of_pos e2, List.filter_nil, List.map_cons, List.map_nil, e3]
 rw [show doA T1 V1 false s2 w2 = if wishB T1 V1 w2 = true then kdA T1 V1 false s2 w2 else (⟨1, [], [], 0⟩, s2) from rfl, if_pos hw]
 show ((⟨0, [], sumsS (groupsS T1 V1 [[[v5]]] 0) v5 v5, 0⟩, s2) : An × DS) = _
 rw [hs]
theorem good1 : okG9 (T1, V1) := by
 have key : res1 (callX (gGet gam0) Mo.T 100 9 [pA T1 V1] []) = some (.bool true) := by kernel_rfl
 obtain ⟨h', lo, h⟩ := res1_some key
 rw [callX_eq] at h
 exact pureS_cl K0 ⟨100, h⟩ (by kernel_rfl) rfl
def g43 : List AV → Option AV
 | [.int .i64 n] => some (vV ⟨1, n, []⟩)
 | _ => none
theorem num_cl (n : Int) (H : List Blk) : ∃ lo, Cl GA Mo.T 43 [.int .i64 n] H (vV ⟨1, n, []⟩, (ap H [(.int .i64 1), (.int .i64 n), (.str [])]), lo) := clV 1 (af := a43) (r := (.agg [(.int .i64 1), (.int .i64 n), (.str [])])) (h' := (ap H [(.int .i64 1), (.int .i64 n), (.str [])])) [.w (.alloc [(.int .i64 0), (.int .i64 0), (.str [])]) (.ptr H.length 0) (ap H [(.int .i64 0), (.int .i64 0), (.str [])]) none, .w (.store 3 (.c (.ptr H.length 0)) (.c (.agg [(.int .i64 1), (.int .i64 n), (.str [])]))) (.tup []) (ap H [(.int .i64 1), (.int .i64 n), (.str [])]) (some H.length), .l (.load (some 3) (.c (.ptr H.length 0))) (.agg [(.int .i64 1), (.int .i64 n), (.str [])])] [(.agg [(.int .i64 1), (.int .i64 n), (.str [])])] (by kernel_rfl) ⟨rfl, stZ, (ldV gl), trivial⟩
theorem num_ok : GOk Tryz.prog 43 (pureG g43) := by
 refine pureG_known ⟨_, Tryz.func43, by kernel_rfl, by kernel_rfl⟩ fun args r hr _ => ?_
 unfold g43 at hr
 split at hr <;> cases hr
 rename_i n _
 obtain ⟨lo, h⟩ := num_cl n []
 exact pureS_cl KA h (by kernel_rfl) rfl
theorem num_e {Γ : FuncId → Option GF} (hg : Γ 43 = some (pureG g43)) (n : Int) (H : List Blk) : Cl Γ Mo.T 43 [.int .i64 n] H (vV ⟨1, n, []⟩, H, none) := Cl.pure (g := g43) hg rfl rfl rfl H
noncomputable def gamC : List (Nat × GF) := (43, pureG g43) :: gamA
theorem KC : Known (gGet gamC) tree.get Tryz.prog := known_of (by kernel_rfl) ⟨num_ok, anyG_ok ⟨_, Tryz.func8, by kernel_rfl, by kernel_rfl⟩, anyG_ok ⟨_, Tryz.func12, by kernel_rfl, by kernel_rfl⟩, anyG_ok ⟨_, Tryz.func14, by kernel_rfl, by kernel_rfl⟩, anyG_ok ⟨_, Tryz.func16, by kernel_rfl, by kernel_rfl⟩, anyG_ok ⟨_, Tryz.func19, by kernel_rfl, by kernel_rfl⟩, anyG_ok ⟨_, Tryz.func28, by kernel_rfl, by kernel_rfl⟩, anyG_ok ⟨_, Tryz.func29, by kernel_rfl, by kernel_rfl⟩, anyG_ok ⟨_, Tryz.func23, by kernel_rfl, by kernel_rfl⟩, told_ok, eq17_ok, great_ok, plans_ok, oft_ok, ofv_ok, isVal_ok, view_ok, grp_ok, tot_ok, adt_ok, fit_ok, code_ok, int_ok, of_ok, add_ok, cmp_ok, good_ok, xSub_ok, xAdd_ok, trivial⟩ all
noncomputable abbrev GC : FuncId → Option GF := gGet gamC
abbrev HP : List Blk := (ap (ap (ap (ap (ap ([] : List Blk) [(.int .i64 1)]) [(.sl (List.length ([] : List Blk)) 1 0 1 1 true)]) [(.int .i64 0)]) [(.int .i64 0), (.int .i64 0), (.sl (List.length (ap (ap ([] : List Blk) [(.int .i64 1)]) [(.sl (List.length ([] : List Blk)) 1 0 1 1 true)])) 1 0 1 1 true)]) [(.sl (List.length (ap ([] : List Blk) [(.int .i64 1)])) 1 0 1 1 true), (.sl (List.length (ap (ap (ap ([] : List Blk) [(.int .i64 1)]) [(.sl (List.length ([] : List Blk)) 1 0 1 1 true)]) [(.int .i64 0)])) 3 0 1 1 true)])
abbrev xP : AV := (.agg [(.sl (List.length (ap ([] : List Blk) [(.int .i64 1)])) 1 0 1 1 true), (.sl (List.length (ap (ap (ap ([] : List Blk) [(.int .i64 1)]) [(.sl (List.length ([] : List Blk)) 1 0 1 1 true)]) [(.int .i64 0)])) 3 0 1 1 true)])
theorem paP : PA HP xP T1 V1 := ⟨.agg [.ro [.ro [iV 1] 1 true] 1 true, .ro [.agg [iV 0, iV 0, .ro [iV 0] 1 true]] 3 true], by kernel_rfl, by kernel_rfl⟩
theorem frz_v5 {F : List Blk} {b : Nat} (hb : F[b]? = some (.cells [.int .i64 1, .int .i64 5, .str []])) : AM.frz F 7 (.sl b 3 0 1 1 true) = some (.ro [vV v5] 3 true) := by
 rw [AM.frz, if_neg (by omega), hb]
 rfl
theorem wa1 {h : List Blk} {b : Nat} (hb : h[b]? = some (.cells [.int .i64 1, .int .i64 5, .str []])) : WA h (.agg [.int .i64 1, .int .i64 0, .int .i64 0, .int .i64 0, .str [], .int .i64 0, .int .i64 0, .str [], .sl b 3 0 1 1 true, .int .i64 0, .int .i64 0, .int .i64 0, .str [], .int .i64 0]) w1 ∧ rB 6 h (.agg [.int .i64 1, .int .i64 0, .int .i64 0, .int .i64 0, .str [], .int .i64 0, .int .i64 0, .str [], .sl b 3 0 1 1 true, .int .i64 0, .int .i64 0, .int .i64 0, .str [], .int .i64 0]) = [b] := by
 have hr : rB 6 h (.agg [.int .i64 1, .int .i64 0, .int .i64 0, .int .i64 0, .str [], .int .i64 0, .int .i64 0, .str [], .sl b 3 0 1 1 true, .int .i64 0, .int .i64 0, .int .i64 0, .str [], .int .i64 0]) = [b] := by
  simp [rB, hb]
 refine ⟨?_, hr⟩
 unfold WA
 rw [hr]
 have e1 : ∀ i, AM.frz (subB [b] h) 7 (.int .i64 i) = some (.int .i64 i) := fun _ => rfl
 have e2 : ∀ s, AM.frz (subB [b] h) 7 (.str s) = some (.str s) := fun _ => rfl
 have e3 := frz_v5 (subB_get (B := [b]) hb (by simp))
 rw [AM.frz]
 simp only [mapO, e1, e2, e3, Option.map_some]
 exact ⟨_, rfl, rfl⟩
theorem wa2 {h : List Blk} : WA h (.agg [(.int .i64 6), (.int .i64 0), (.int .i64 1), (.int .i64 5), (.str []), (.int .i64 0), (.int .i64 0), (.str []), .nils, (.int .i64 0), (.int .i64 0), (.int .i64 0), (.str []), (.int .i64 0)]) w2 := ⟨_, rfl, rfl⟩
theorem last_keep {T : List (List Int)} {V : List Vw} {free : Bool} {p : Nat} {s : DS} {H : List Blk} (hd : DBA T V free H p s) {c : List AV} : DBA T V free (ap H c) p s ∧ ids (ap H c) p = ids H p ∧ H.length ∉ ids H p := ⟨hd.keep fun i x _ hx => ga hx, hd.ids_keep fun i x _ hx => ga hx, fun h => by have := hd.lt _ h; omega⟩
set_option maxHeartbeats 8000000 in
theorem awake_cl : ∃ H' lo, Cl GC Mo.T 7 [] [] (.bool true, H', lo) := by
 obtain ⟨G1, l1, h1, d1, hl1, -, -⟩ := nw_e (Γ := GC) (by kernel_rfl) false good1 (by decide) paP (by intro h; cases h)
 obtain ⟨p, hp⟩ : ∃ p, HP.length + 2 = p := ⟨_, rfl⟩
 rw [hp] at h1 d1
 obtain ⟨l2, h2⟩ := nw_nil (Γ := GC) (by kernel_rfl) G1
 have d1 : DBA T1 V1 false G1 p ⟨[[]], none, []⟩ := d1
 obtain ⟨G2, l3, h3, d2, st2⟩ := mrn_e (Γ := GC) (nr := .int .i64 2) (x := ()) encU_inj (by kernel_rfl) d1 (beg_m okP1.toOkPl (k := 1) ⟨okE1, (fun ts h => by cases h), (fun ts h => by cases h), by decide⟩ (by decide) d1)
 have d2 : DBA T1 V1 false G2 p s1 := d2
 have h3 : Cl GC Mo.T 12 [.ptr p 0] G1 (.int .i64 0, G2, l3) := h3
 -- a row
 obtain ⟨hw1, hr1⟩ := wa1 (h := (ap G2 [(.int .i64 1), (.int .i64 5), (.str [])])) (b := G2.length) gl
 obtain ⟨d3, i3, n3⟩ := last_keep d2 (c := [.int .i64 1, .int .i64 5, .str []])
 obtain ⟨G4, l4, h4, d4, hl4, -, -⟩ := md_e (Γ := GC) (by kernel_rfl) okP1 okS1 (by decide) (by decide) d3 hw1 (fun i hi => by rw [hr1]; rw [i3] at hi; intro h; rw [List.mem_singleton.1 h] at hi; exact n3 hi)
 rw [aw1] at h4 d4
 -- its group
 obtain ⟨d5, i5, n5⟩ := last_keep d4 (c := [(.int .i64 0), (.ro ([] : List AV) 1 false), (.ro ([] : List AV) 5 false), (.int .i64 0)])
 obtain ⟨G6, l5, h5, d6, hl6, hi6, hk6⟩ := md_e (Γ := GC) (H := (ap G4 [(.int .i64 0), (.ro ([] : List AV) 1 false), (.ro ([] : List AV) 5 false), (.int .i64 0)])) (by kernel_rfl) okP1 okS2 (by decide) (by decide) d5 wa2 (fun i hi h => by cases h)
 rw [aw2] at h5 d6
 have k6_a : ∀ {c}, ((ap G4 [(.int .i64 0), (.ro ([] : List AV) 1 false), (.ro ([] : List AV) 5 false), (.int .i64 0)]))[G4.length]? = some c → G6[G4.length]? = some c := fun h => hk6 _ _ (by rw [i5]; exact n5) (by intro h; cases h) h
 have hl46 : G4.length < G6.length := by simp at hl6; omega
 have n6 : G4.length ∉ ids G6 p := fun h => by
  rcases hi6 _ h with h | h
  ·rw [i5] at h; exact n5 h
  ·simp at h; omega
 obtain ⟨d7, i7, n7⟩ := last_keep d6 (c := [(.int .i64 0), (.ro ([] : List AV) 1 false), (.ro ([(.agg [(.int .i64 1), (.int .i64 5), (.str []), (.int .i64 1), (.ro [(.int .i64 5)] 1 false)])] : List AV) 5 false), (.int .i64 0)])
 obtain ⟨G8, l6, h6, d8, st8⟩ := mrn_e (Γ := GC) (nr := .int .i64 2) (H := (ap G6 [(.int .i64 0), (.ro ([] : List AV) 1 false), (.ro ([(.agg [(.int .i64 1), (.int .i64 5), (.str []), (.int .i64 1), (.ro [(.int .i64 5)] 1 false)])] : List AV) 5 false), (.int .i64 0)])) (x := ()) encU_inj (by kernel_rfl) d7 (abo_m d7)
 have h6 : Cl GC Mo.T 16 [.ptr p 0] (ap G6 [(.int .i64 0), (.ro ([] : List AV) 1 false), (.ro ([(.agg [(.int .i64 1), (.int .i64 5), (.str []), (.int .i64 1), (.ro [(.int .i64 5)] 1 false)])] : List AV) 5 false), (.int .i64 0)]) (.int .i64 0, G8, l6) := h6
 have d8 : DBA T1 V1 false G8 p ⟨[[]], none, []⟩ := d8
 have k8_a : ∀ {c}, ((ap G6 [(.int .i64 0), (.ro ([] : List AV) 1 false), (.ro ([(.agg [(.int .i64 1), (.int .i64 5), (.str []), (.int .i64 1), (.ro [(.int .i64 5)] 1 false)])] : List AV) 5 false), (.int .i64 0)]))[G4.length]? = some c → G8[G4.length]? = some c := fun h => st8.2.2 _ _ (by rw [i7]; exact n6) h
 have k8_b : ∀ {c}, ((ap G6 [(.int .i64 0), (.ro ([] : List AV) 1 false), (.ro ([(.agg [(.int .i64 1), (.int .i64 5), (.str []), (.int .i64 1), (.ro [(.int .i64 5)] 1 false)])] : List AV) 5 false), (.int .i64 0)]))[G6.length]? = some c → G8[G6.length]? = some c := fun h => st8.2.2 _ _ (by rw [i7]; exact n7) h
 obtain ⟨G9, l7, h7, hk9⟩ := tbn_e (Γ := GC) (k := 1) (by kernel_rfl) okP1.toOkPl okE1 (by decide) d8
 have d9 := d8.keep fun i x _ hx => hk9.2 i x hx
 obtain ⟨G10, l8, h8, hk10⟩ := tbn_e (Γ := GC) (k := 1) (by kernel_rfl) okP1.toOkPl okE1 (by decide) d9
 have d10 := d9.keep fun i x _ hx => hk10.2 i x hx
 obtain ⟨G11, l9, h9, -, -⟩ := mrn_e (Γ := GC) (nr := .int .i64 2) (x := ()) encU_inj (by kernel_rfl) d10 (abo_m d10)
 have h9 : Cl GC Mo.T 16 [.ptr p 0] G10 (.int .i64 13, G11, l9) := h9
 exact ⟨_, clV 1 (af := a7) (r := (.bool true)) (h' := G11) (.w (.buildSl [(.int .i64 0)] 1 [(0, (.c (.int .i64 1)))]) (.sl (List.length ([] : List Blk)) 1 0 1 1 true) (ap ([] : List Blk) [(.int .i64 1)]) none :: .w (.buildSl [.nils] 1 [(0, (.c (.agg [(.sl (List.length ([] : List Blk)) 1 0 1 1 true)])))]) (.sl (List.length (ap ([] : List Blk) [(.int .i64 1)])) 1 0 1 1 true) (ap (ap ([] : List Blk) [(.int .i64 1)]) [(.sl (List.length ([] : List Blk)) 1 0 1 1 true)]) none :: .w (.buildSl [(.int .i64 0)] 1 [(0, (.c (.int .i64 0)))]) (.sl (List.length (ap (ap ([] : List Blk) [(.int .i64 1)]) [(.sl (List.length ([] : List Blk)) 1 0 1 1 true)])) 1 0 1 1 true) (ap (ap (ap ([] : List Blk) [(.int .i64 1)]) [(.sl (List.length ([] : List Blk)) 1 0 1 1 true)]) [(.int .i64 0)]) none :: .w (.buildSl [(.int .i64 0), (.int .i64 0), .nils] 1 [(0, (.c (.agg [(.int .i64 0), (.int .i64 0), (.sl (List.length (ap (ap ([] : List Blk) [(.int .i64 1)]) [(.sl (List.length ([] : List Blk)) 1 0 1 1 true)])) 1 0 1 1 true)])))]) (.sl (List.length (ap (ap (ap ([] : List Blk) [(.int .i64 1)]) [(.sl (List.length ([] : List Blk)) 1 0 1 1 true)]) [(.int .i64 0)])) 3 0 1 1 true) (ap (ap (ap (ap ([] : List Blk) [(.int .i64 1)]) [(.sl (List.length ([] : List Blk)) 1 0 1 1 true)]) [(.int .i64 0)]) [(.int .i64 0), (.int .i64 0), (.sl (List.length (ap (ap ([] : List Blk) [(.int .i64 1)]) [(.sl (List.length ([] : List Blk)) 1 0 1 1 true)])) 1 0 1 1 true)]) none :: .w (.alloc [.nils, .nils]) (.ptr (List.length (ap (ap (ap (ap ([] : List Blk) [(.int .i64 1)]) [(.sl (List.length ([] : List Blk)) 1 0 1 1 true)]) [(.int .i64 0)]) [(.int .i64 0), (.int .i64 0), (.sl (List.length (ap (ap ([] : List Blk) [(.int .i64 1)]) [(.sl (List.length ([] : List Blk)) 1 0 1 1 true)])) 1 0 1 1 true)])) 0) (ap (ap (ap (ap (ap ([] : List Blk) [(.int .i64 1)]) [(.sl (List.length ([] : List Blk)) 1 0 1 1 true)]) [(.int .i64 0)]) [(.int .i64 0), (.int .i64 0), (.sl (List.length (ap (ap ([] : List Blk) [(.int .i64 1)]) [(.sl (List.length ([] : List Blk)) 1 0 1 1 true)])) 1 0 1 1 true)]) [.nils, .nils]) none :: .w (.store 2 (.c (.ptr (List.length (ap (ap (ap (ap ([] : List Blk) [(.int .i64 1)]) [(.sl (List.length ([] : List Blk)) 1 0 1 1 true)]) [(.int .i64 0)]) [(.int .i64 0), (.int .i64 0), (.sl (List.length (ap (ap ([] : List Blk) [(.int .i64 1)]) [(.sl (List.length ([] : List Blk)) 1 0 1 1 true)])) 1 0 1 1 true)])) 0)) (.c (.agg [(.sl (List.length (ap ([] : List Blk) [(.int .i64 1)])) 1 0 1 1 true), (.sl (List.length (ap (ap (ap ([] : List Blk) [(.int .i64 1)]) [(.sl (List.length ([] : List Blk)) 1 0 1 1 true)]) [(.int .i64 0)])) 3 0 1 1 true)]))) (.tup []) (ap (ap (ap (ap (ap ([] : List Blk) [(.int .i64 1)]) [(.sl (List.length ([] : List Blk)) 1 0 1 1 true)]) [(.int .i64 0)]) [(.int .i64 0), (.int .i64 0), (.sl (List.length (ap (ap ([] : List Blk) [(.int .i64 1)]) [(.sl (List.length ([] : List Blk)) 1 0 1 1 true)])) 1 0 1 1 true)]) [(.sl (List.length (ap ([] : List Blk) [(.int .i64 1)])) 1 0 1 1 true), (.sl (List.length (ap (ap (ap ([] : List Blk) [(.int .i64 1)]) [(.sl (List.length ([] : List Blk)) 1 0 1 1 true)]) [(.int .i64 0)])) 3 0 1 1 true)]) (some (List.length (ap (ap (ap (ap ([] : List Blk) [(.int .i64 1)]) [(.sl (List.length ([] : List Blk)) 1 0 1 1 true)]) [(.int .i64 0)]) [(.int .i64 0), (.int .i64 0), (.sl (List.length (ap (ap ([] : List Blk) [(.int .i64 1)]) [(.sl (List.length ([] : List Blk)) 1 0 1 1 true)])) 1 0 1 1 true)]))) :: .f (.load (some 2) (.c (.ptr (List.length (ap (ap (ap (ap ([] : List Blk) [(.int .i64 1)]) [(.sl (List.length ([] : List Blk)) 1 0 1 1 true)]) [(.int .i64 0)]) [(.int .i64 0), (.int .i64 0), (.sl (List.length (ap (ap ([] : List Blk) [(.int .i64 1)]) [(.sl (List.length ([] : List Blk)) 1 0 1 1 true)])) 1 0 1 1 true)])) 0))) (.agg [(.sl (List.length (ap ([] : List Blk) [(.int .i64 1)])) 1 0 1 1 true), (.sl (List.length (ap (ap (ap ([] : List Blk) [(.int .i64 1)]) [(.sl (List.length ([] : List Blk)) 1 0 1 1 true)]) [(.int .i64 0)])) 3 0 1 1 true)]) :: .r 8 [(.agg [(.sl (List.length (ap ([] : List Blk) [(.int .i64 1)])) 1 0 1 1 true), (.sl (List.length (ap (ap (ap ([] : List Blk) [(.int .i64 1)]) [(.sl (List.length ([] : List Blk)) 1 0 1 1 true)]) [(.int .i64 0)])) 3 0 1 1 true)]), (.bool false)] (.ptr p 0) G1 l1 :: .q (.isNil 0 false (.c (.ptr p 0))) false :: .r 8 [(.agg [.nils, .nils]), (.bool false)] .nilp G1 l2 :: .q (.isNil 0 true (.c .nilp)) false :: .r 12 [(.ptr p 0)] (.int .i64 0) G2 l3 :: .r 43 [(.int .i64 5)] (.agg [(.int .i64 1), (.int .i64 5), (.str [])]) G2 none :: .w (.buildSl [(.int .i64 0), (.int .i64 0), (.str [])] 1 [(0, (.c (.agg [(.int .i64 1), (.int .i64 5), (.str [])])))]) (.sl G2.length 3 0 1 1 true) (ap G2 [(.int .i64 1), (.int .i64 5), (.str [])]) none :: .r 19 [(.ptr p 0), (.agg [(.int .i64 1), (.int .i64 0), (.int .i64 0), (.int .i64 0), (.str []), (.int .i64 0), (.int .i64 0), (.str []), (.sl G2.length 3 0 1 1 true), (.int .i64 0), (.int .i64 0), (.int .i64 0), (.str []), (.int .i64 0)])] (.agg [(.int .i64 0), (.ro ([] : List AV) 1 false), (.ro ([] : List AV) 5 false), (.int .i64 0)]) G4 l4 :: .w (.alloc [(.int .i64 0), .nils, .nils, (.int .i64 0)]) (.ptr G4.length 0) (ap G4 [(.int .i64 0), .nils, .nils, (.int .i64 0)]) none :: .w (.store 4 (.c (.ptr G4.length 0)) (.c (.agg [(.int .i64 0), (.ro ([] : List AV) 1 false), (.ro ([] : List AV) 5 false), (.int .i64 0)]))) (.tup []) (ap G4 [(.int .i64 0), (.ro ([] : List AV) 1 false), (.ro ([] : List AV) 5 false), (.int .i64 0)]) (some G4.length) :: .r 43 [(.int .i64 5)] (.agg [(.int .i64 1), (.int .i64 5), (.str [])]) (ap G4 [(.int .i64 0), (.ro ([] : List AV) 1 false), (.ro ([] : List AV) 5 false), (.int .i64 0)]) none :: .r 19 [(.ptr p 0), (.agg [(.int .i64 6), (.int .i64 0), (.int .i64 1), (.int .i64 5), (.str []), (.int .i64 0), (.int .i64 0), (.str []), .nils, (.int .i64 0), (.int .i64 0), (.int .i64 0), (.str []), (.int .i64 0)])] (.agg [(.int .i64 0), (.ro ([] : List AV) 1 false), (.ro ([(.agg [(.int .i64 1), (.int .i64 5), (.str []), (.int .i64 1), (.ro [(.int .i64 5)] 1 false)])] : List AV) 5 false), (.int .i64 0)]) G6 l5 :: .w (.alloc [(.int .i64 0), .nils, .nils, (.int .i64 0)]) (.ptr G6.length 0) (ap G6 [(.int .i64 0), .nils, .nils, (.int .i64 0)]) none :: .w (.store 4 (.c (.ptr G6.length 0)) (.c (.agg [(.int .i64 0), (.ro ([] : List AV) 1 false), (.ro ([(.agg [(.int .i64 1), (.int .i64 5), (.str []), (.int .i64 1), (.ro [(.int .i64 5)] 1 false)])] : List AV) 5 false), (.int .i64 0)]))) (.tup []) (ap G6 [(.int .i64 0), (.ro ([] : List AV) 1 false), (.ro ([(.agg [(.int .i64 1), (.int .i64 5), (.str []), (.int .i64 1), (.ro [(.int .i64 5)] 1 false)])] : List AV) 5 false), (.int .i64 0)]) (some G6.length) :: .r 16 [(.ptr p 0)] (.int .i64 0) G8 l6 :: .b ((0 : Int) == 0) true :: .f (.load none (.c (.ptr G4.length 0))) (.int .i64 0) :: .b ((0 : Int) == 0) true :: .f (.load none (.c (.ptr G6.length 2))) (.ro ([(.agg [(.int .i64 1), (.int .i64 5), (.str []), (.int .i64 1), (.ro [(.int .i64 5)] 1 false)])] : List AV) 5 false) :: .b (((List.length ([(.agg [(.int .i64 1), (.int .i64 5), (.str []), (.int .i64 1), (.ro [(.int .i64 5)] 1 false)])] : List AV)) : Int) == 1) true :: .f (.load none (.c (.ptr G6.length 2))) (.ro ([(.agg [(.int .i64 1), (.int .i64 5), (.str []), (.int .i64 1), (.ro [(.int .i64 5)] 1 false)])] : List AV) 5 false) :: [.p (5 = 5), .p ((0 : Int) ≤ 0), .p ((0 : Int) < (List.length ([(.agg [(.int .i64 1), (.int .i64 5), (.str []), (.int .i64 1), (.ro [(.int .i64 5)] 1 false)])] : List AV) : Int)), .e ([(.agg [(.int .i64 1), (.int .i64 5), (.str []), (.int .i64 1), (.ro [(.int .i64 5)] 1 false)])] : List AV) 0 (.agg [(.int .i64 1), (.int .i64 5), (.str []), (.int .i64 1), (.ro [(.int .i64 5)] 1 false)]), .b ((1 : Int) == 1) true, .b ((0 : Int) == 0) true, .r 23 [(.ptr p 0)] (.ro ([(.ro ([] : List AV) 1 false)] : List AV) 1 false) G9 l7, .b (((List.length ([(.ro ([] : List AV) 1 false)] : List AV)) : Int) == 1) true, .r 23 [(.ptr p 0)] (.ro ([(.ro ([] : List AV) 1 false)] : List AV) 1 false) G10 l8, .p (1 = 1), .p ((0 : Int) ≤ 0), .p ((0 : Int) < (List.length ([(.ro ([] : List AV) 1 false)] : List AV) : Int)), .e ([(.ro ([] : List AV) 1 false)] : List AV) 0 (.ro ([] : List AV) 1 false), .b (((List.length ([] : List AV)) : Int) == 0) true, .r 16 [(.ptr p 0)] (.int .i64 13) G11 l9, .b ((13 : Int) == 13) true]) [] (by kernel_rfl) ⟨rfl, rfl, rfl, rfl, rfl, stZ, (ldV gl), h1, rfl, h2, rfl, h3, (num_e (by kernel_rfl) 5 _), rfl, h4, rfl, stZ, (num_e (by kernel_rfl) 5 _), h5, rfl, stZ, h6, rfl, (ldV (k8_a (ga (k6_a gl)))), rfl, (ldV (k8_b gl)), rfl, (ldV (k8_b gl)), rfl, (by omega), (by decide), rfl, rfl, rfl, h7, rfl, h8, rfl, (by omega), (by decide), rfl, rfl, h9, rfl, trivial⟩⟩
def g7 : List AV → Option AV
 | [] => some (.bool true)
 | _ => none
theorem awake_ok : GOk Tryz.prog 7 (pureG g7) := by
 refine pureG_known ⟨_, Tryz.func7, by kernel_rfl, by kernel_rfl⟩ fun args r hr _ => ?_
 unfold g7 at hr
 split at hr <;> cases hr
 obtain ⟨H', lo, h⟩ := awake_cl
 exact pureS_cl KC h (by kernel_rfl) rfl
theorem awake_e {Γ : FuncId → Option GF} (hg : Γ 7 = some (pureG g7)) (H : List Blk) : Cl Γ Mo.T 7 [] H (.bool true, H, none) := Cl.pure (g := g7) hg rfl rfl rfl H
open Go
def Sep (H : List Blk) (p p2 : Nat) : Prop := ∀ i ∈ ids H p, i ∉ ids H p2
theorem doA_was {T : List (List Int)} {V : List Vw} {free : Bool} {s : DS} {w : Wi} : (doA T V free s w).2.was = s.was := by
 cases h : s.was with
 | none => simp only [doA, h]
 | some ts =>
  simp only [doA, h]
  by_cases hw : wishB T V w = true
  ·rw [if_pos hw]
   unfold kdA
   split
   ·exact h
   split
   ·exact h
   split
   ·exact h
   split
   ·exact h
   split
   ·exact h
   split
   ·exact h
   split
   ·split <;> exact h
   split
   ·unfold backS
    split <;> exact h
   ·exact h
  ·rw [if_neg hw]; exact h
def g25 : List AV → Option AV
 | [.nilp, .int .i64 0] => some .nils
 | _ => none
theorem g25_ok : GOk Tryz.prog 25 (pureG g25) := by
 refine pureG_known ⟨_, Tryz.func25, by kernel_rfl, by kernel_rfl⟩ fun args r hr _ => ?_
 unfold g25 at hr
 split at hr <;> cases hr
 have key : res1 (callX (gGet gam0) Mo.T 100 25 [.nilp, .int .i64 0] []) = some .nils := by kernel_rfl
 obtain ⟨h', lo, h⟩ := res1_some key
 rw [callX_eq] at h
 exact pureS_cl K0 ⟨100, h⟩ (by kernel_rfl) rfl
noncomputable def gamL : List (Nat × GF) := (25, pureG g25) :: (7, pureG g7) :: gamA
theorem KL : Known (gGet gamL) tree.get Tryz.prog := known_of (by kernel_rfl) ⟨g25_ok, awake_ok, anyG_ok ⟨_, Tryz.func8, by kernel_rfl, by kernel_rfl⟩, anyG_ok ⟨_, Tryz.func12, by kernel_rfl, by kernel_rfl⟩, anyG_ok ⟨_, Tryz.func14, by kernel_rfl, by kernel_rfl⟩, anyG_ok ⟨_, Tryz.func16, by kernel_rfl, by kernel_rfl⟩, anyG_ok ⟨_, Tryz.func19, by kernel_rfl, by kernel_rfl⟩, anyG_ok ⟨_, Tryz.func28, by kernel_rfl, by kernel_rfl⟩, anyG_ok ⟨_, Tryz.func29, by kernel_rfl, by kernel_rfl⟩, anyG_ok ⟨_, Tryz.func23, by kernel_rfl, by kernel_rfl⟩, told_ok, eq17_ok, great_ok, plans_ok, oft_ok, ofv_ok, isVal_ok, view_ok, grp_ok, tot_ok, adt_ok, fit_ok, code_ok, int_ok, of_ok, add_ok, cmp_ok, good_ok, xSub_ok, xAdd_ok, trivial⟩ all
noncomputable abbrev GL : FuncId → Option GF := gGet gamL
abbrev wiV (w : Wi) : AV := .agg (enWi w)
open Go
theorem md_x {Γ : FuncId → Option GF} (hg : Γ 19 = some (anyG Tryz.prog 19 MD)) {T : List (List Int)} {V : List Vw} {free : Bool} {k p : Nat} {s : DS} {H : List Blk} {w : Wi} {x : AV} (pl : OkP T V) (ok : OkS T k s) (hk9 : k ≤ 99999) (hrl : w.row.length ≤ 9223372036854775807) (hd : DBA T V free H p s) (hx : WA H x w) (hr : rB 6 H x = []) :
  ∃ H' lo, Cl Γ Mo.T 19 [.ptr p 0, x] H (anV (doA T V free s w).1, H', lo) ∧ DBA T V free H' p (doA T V free s w).2 ∧ Step H p H' := by
 obtain ⟨H', lo, g1, g2, g3, g4, g5⟩ := md_e hg pl ok hk9 hrl hd hx (fun i _ h => by rw [hr] at h; cases h)
 exact ⟨H', lo, g1, g2, g3, g4, fun i y hi hy => g5 i y hi (by rw [hr]; simp) hy⟩
theorem other' {T2 : List (List Int)} {V2 : List Vw} {free2 : Bool} {H H' : List Blk} {p p2 : Nat} {s2 : DS} (h2 : DBA T2 V2 free2 H p2 s2) (hs : Step H p H') (hsep : Sep H p p2) : DBA T2 V2 free2 H' p2 s2 ∧ Sep H' p p2 := by
 have hk : ∀ i x, i ∈ ids H p2 → H[i]? = some x → H'[i]? = some x := fun i x hi hx => hs.2.2 i x (fun h => hsep i h hi) hx
 have e := h2.ids_keep hk
 refine ⟨h2.keep hk, fun i hi hi2 => ?_⟩
 rw [e] at hi2
 rcases hs.2.1 i hi with h1 | h1
 ·exact hsep i h1 hi2
 ·have := h2.lt i hi2; omega
def wS : Wi := ⟨8, 0, ⟨0, 0, []⟩, ⟨0, 0, []⟩, [], 0, ⟨0, 0, []⟩, 0⟩
def wB (n : Int) : Wi := ⟨9, 0, ⟨0, 0, []⟩, ⟨0, 0, []⟩, [], 0, ⟨0, 0, []⟩, n⟩
theorem waS {h : List Blk} : WA h (.agg [(.int .i64 8), (.int .i64 0), (.int .i64 0), (.int .i64 0), (.str []), (.int .i64 0), (.int .i64 0), (.str []), .nils, (.int .i64 0), (.int .i64 0), (.int .i64 0), (.str []), (.int .i64 0)]) wS := ⟨_, rfl, rfl⟩
theorem waB {h : List Blk} (n : Int) : WA h (.agg [(.int .i64 9), (.int .i64 0), (.int .i64 0), (.int .i64 0), (.str []), (.int .i64 0), (.int .i64 0), (.str []), .nils, (.int .i64 0), (.int .i64 0), (.int .i64 0), (.str []), (.int .i64 n)]) (wB n) := ⟨_, rfl, rfl⟩
theorem doS_save {T : List (List Int)} {V : List Vw} {free : Bool} {s : DS} (hw : s.was ≠ none) : doA T V free s wS = if 4 ≤ s.marks.length then (⟨5, [], [], 0⟩, s) else (⟨0, [], [], (s.marks.length : Int)⟩, { s with marks := s.marks ++ [s.now] }) := by
 obtain ⟨now, was, marks⟩ := s
 cases was with
 | none => exact absurd rfl hw
 | some ts => rfl
theorem doS_back {T : List (List Int)} {V : List Vw} {free : Bool} {s : DS} (hw : s.was ≠ none) (n : Int) : doA T V free s (wB n) = (⟨(backS s n).1, [], [], 0⟩, (backS s n).2) := by
 obtain ⟨now, was, marks⟩ := s
 cases was with
 | none => exact absurd rfl hw
 | some ts => rfl
theorem doA_marks {T : List (List Int)} {V : List Vw} {free : Bool} {s : DS} {w : Wi} (hw : w.kd ≠ 9) : ∃ l, (doA T V free s w).2.marks = s.marks ++ l := by
 have z : ∀ {s' : DS}, s'.marks = s.marks → ∃ l, s'.marks = s.marks ++ l := fun h => ⟨[], by rw [h, List.append_nil]⟩
 cases h : s.was with
 | none => simp only [doA, h]; exact z rfl
 | some ts =>
  simp only [doA, h]
  by_cases hb : wishB T V w = true
  ·rw [if_pos hb]
   unfold kdA
   split
   ·exact z rfl
   split
   ·exact z rfl
   split
   ·exact z rfl
   split
   ·exact z rfl
   split
   ·exact z rfl
   split
   ·exact z rfl
   split
   ·split
    ·exact z rfl
    ·exact ⟨_, rfl⟩
   exact z rfl
  ·rw [if_neg hb]; exact z rfl
set_option maxHeartbeats 16000000 in
theorem back_law {ws vs : List Wi} {sv : Bool} (hws : ws.length ≤ 9223372036854775807) (hwr : ∀ w ∈ ws, w.row.length ≤ 9223372036854775807) (hvs : vs.length ≤ 9223372036854775807) (hvr : ∀ w ∈ vs, w.row.length ≤ 9223372036854775807) : ∃ H' lo, Cl GL Mo.T 4 [(.ro (List.map wiV ws) 14 false), (.ro (List.map wiV vs) 14 false), .bool sv] [] (.bool true, H', lo) := by
 have key : ∃ r H' lo, r = .bool true ∧ Cl GL Mo.T 4 [(.ro (List.map wiV ws) 14 false), (.ro (List.map wiV vs) 14 false), .bool sv] [] (r, H', lo) := by
  refine clE (Γ := GL) (tbl := Mo.T) (f := 4) (af := a4) (args := [(.ro (List.map wiV ws) 14 false), (.ro (List.map wiV vs) 14 false), .bool sv]) (h := []) (by kernel_rfl) (by kernel_rfl) (by kernel_rfl) (fun r h' => r = .bool true) ?_
  have fin : ∀ {t : List AV} {h : List Blk} {lo : Option Nat}, Lv 112 [(6, .bool true)] t → ∃ vs, resAll ({ t := t, h := h, lo := lo } : St) a4.res = some vs ∧ packRes vs = .bool true := fun {t h lo} hl => by
   have := hl.get (6, .bool true) (by simp)
   rw [getX_eq] at this
   exact ⟨[.bool true], by show resAll _ [.t 6] = _; simp only [resAll, resOf, this], rfl⟩
  refine Wp.seq ((pathE (nt := 112) (live := [(0, (.ro (ws.map wiV) 14 false)), (1, (.ro (vs.map wiV) 14 false)), (2, (.bool sv))]) [] [0, 1, 2] (e := .normal) (vals := [(.ro (ws.map wiV) 14 false), (.ro (vs.map wiV) 14 false), (.bool sv)]) (h' := ([] : List Blk)) (Lv.start (by rfl) (by simp)) (fun _ => by kernel_rfl) trivial).mono ?_)
  rintro e s ⟨rfl, t1, lo1, rfl, hl1⟩
  refine Wp.seq ((pathE (nt := 112) [.r 7 [] (.bool true) ([] : List Blk) none] [0, 1, 2] (e := .normal) (vals := [(.ro (ws.map wiV) 14 false), (.ro (vs.map wiV) 14 false), (.bool sv)]) (h' := ([] : List Blk)) hl1 (fun _ => by kernel_rfl) ⟨(awake_e (by kernel_rfl) _), trivial⟩).mono ?_)
  rintro e s ⟨rfl, t2, lo2, rfl, hl2⟩
  obtain ⟨G1, ln, hn, d1, gl1, kp1, ib1⟩ := nw_e (Γ := GL) (H := []) (by kernel_rfl) false good0 (by decide) (pa_pA [] T0 V0) (by intro h; cases h)
  obtain ⟨p, hp2⟩ : ∃ p, ([] : List Blk).length + 2 = p := ⟨_, rfl⟩
  rw [hp2] at hn d1 ib1
  have d1 : DBA T0 V0 false G1 p (newS T0) := d1
  refine Wp.seq ((pathE (nt := 112) [.r 27 [] (.agg (pL T0 V0)) ([] : List Blk) none, .r 8 [(.agg (pL T0 V0)), (.bool false)] (.ptr p 0) G1 ln] [0, 1, 2, 7] (e := .normal) (vals := [(.ro (ws.map wiV) 14 false), (.ro (vs.map wiV) 14 false), (.bool sv), (.ptr p 0)]) (h' := G1) hl2 (fun _ => by kernel_rfl) ⟨(plans_e (by kernel_rfl) _), hn, trivial⟩).mono ?_)
  rintro e s ⟨rfl, t3, lo3, rfl, hl3⟩
  have okE0 : OkTb T0 0 [[], []] := okTb_of rfl fun t ht => by
   match t, ht with
   | 0, _ => exact ⟨Nat.le_refl _, fun r hr => by cases hr⟩
   | 1, _ => exact ⟨Nat.le_refl _, fun r hr => by cases hr⟩
  obtain ⟨G2, lb, hb, d2, st2⟩ := mrn_e (Γ := GL) (nr := .int .i64 2) (x := ()) encU_inj (by kernel_rfl) d1 (beg_m okP0.toOkPl (k := 0) ⟨okE0, (fun ts h => by cases h), (fun ts h => by cases h), by decide⟩ (by decide) d1)
  have hb : Cl GL Mo.T 12 [.ptr p 0] G1 (.int .i64 0, G2, lb) := hb
  have d2 : DBA T0 V0 false G2 p ⟨[[], []], some [[], []], []⟩ := d2
  refine Wp.seq ((pathE (nt := 112) [.r 12 [(.ptr p 0)] (.int .i64 0) G2 lb, .b ((0 : Int) != 0) false] [0, 1, 2, 7] (e := .normal) (vals := [(.ro (ws.map wiV) 14 false), (.ro (vs.map wiV) 14 false), (.bool sv), (.ptr p 0)]) (h' := G2) hl3 (fun _ => by kernel_rfl) ⟨hb, rfl, trivial⟩).mono ?_)
  rintro e s ⟨rfl, t4, lo4, rfl, hl4⟩
  refine Wp.seq (Wp.seq ((pathE (nt := 112) [] [8, 0, 1, 2, 7] (e := .normal) (vals := [(.int .i64 0), (.ro (ws.map wiV) 14 false), (.ro (vs.map wiV) 14 false), (.bool sv), (.ptr p 0)]) (h' := G2) hl4 (fun _ => by kernel_rfl) trivial).mono ?_))
  rintro e s ⟨rfl, t5, lo5, rfl, hl5⟩
  obtain ⟨N, hN⟩ : ∃ N, min ws.length 20 = N := ⟨_, rfl⟩
  refine (forL (i := 8) (a := 29) (b := 30) (X := List Blk × DS) (N := N) (fun _ _ => [(0, (.ro (List.map wiV ws) 14 false)), (1, (.ro (List.map wiV vs) 14 false)), (2, .bool sv), (7, .ptr p 0)]) (fun _ x => x.1) (fun k x => DBA T0 V0 false x.1 p x.2 ∧ OkS T0 k x.2 ∧ x.2.was ≠ none) (fun s => ∃ vs, resAll s a4.res = some vs ∧ packRes vs = .bool true)
   (by omega) (by decide) (by decide) (by decide) (by decide) (by decide) (fun _ _ => rfl) ?_ ?_ ?_ (x0 := (G2, ⟨[[], []], some [[], []], []⟩)) ⟨d2, ⟨okE0, fun ts h => by cases h; exact okE0, (fun ts h => by cases h), Nat.zero_le _⟩, (by intro h; cases h)⟩ hl5).mono ?_
  ·rintro k ⟨G, s⟩ t7 lo7 hkN - hlb
   refine (pathE (nt := 112) [.b (decide ((k : Int) < ((List.length (ws.map wiV)) : Int))) true, .b (decide ((k : Int) < 20)) true] [8, 0, 1, 2, 7] (e := .normal) (vals := [(.int .i64 (k : Int)), (.ro (ws.map wiV) 14 false), (.ro (vs.map wiV) 14 false), (.bool sv), (.ptr p 0)]) (h' := G) hlb (fun _ => by kernel_rfl) ⟨(cT (by simp; omega)), (cT (by omega)), trivial⟩).mono ?_
   rintro e s' ⟨rfl, t8, lo8, rfl, hl8⟩
   exact ⟨rfl, t8, lo8, rfl, hl8⟩
  ·rintro ⟨G, s⟩ t7 lo7 - hlb
   by_cases hlt : N = ws.length
   ·refine (pathE (nt := 112) [.b (decide ((N : Int) < ((List.length (ws.map wiV)) : Int))) false] [0, 1, 2, 7] (e := (.exit 0)) (vals := [(.ro (ws.map wiV) 14 false), (.ro (vs.map wiV) 14 false), (.bool sv), (.ptr p 0)]) (h' := G) hlb (fun _ => by kernel_rfl) ⟨(cF (by simp; omega)), trivial⟩).mono ?_
    rintro e s' ⟨rfl, t8, lo8, rfl, hl8⟩
    exact ⟨rfl, t8, lo8, rfl, hl8⟩
   ·refine (pathE (nt := 112) [.b (decide ((N : Int) < ((List.length (ws.map wiV)) : Int))) true, .b (decide ((N : Int) < 20)) false] [0, 1, 2, 7] (e := (.exit 0)) (vals := [(.ro (ws.map wiV) 14 false), (.ro (vs.map wiV) 14 false), (.bool sv), (.ptr p 0)]) (h' := G) hlb (fun _ => by kernel_rfl) ⟨(cT (by simp; omega)), (cF (by omega)), trivial⟩).mono ?_
    rintro e s' ⟨rfl, t8, lo8, rfl, hl8⟩
    exact ⟨rfl, t8, lo8, rfl, hl8⟩
  ·rintro k ⟨G, s⟩ t7 lo7 hkN ⟨D, ok, hwas⟩ hlb
   simp only at D ok hwas
   have hkw : k < ws.length := by omega
   have hv : (List.map wiV ws)[(k : Int).toNat]? = some (.agg (enWi ws[k])) := by simp [hkw]
   have hrw : ws[k].row.length ≤ 9223372036854775807 := hwr _ (List.getElem_mem hkw)
   generalize ws[k] = w at hv hrw
   cases hgw : greatB w with
   | true =>
    refine (pathE (nt := 112) [.p (14 = 14), .p ((0 : Int) ≤ (k : Int)), .p (((k : Int) : Int) < (List.length (ws.map wiV) : Int)), .e (ws.map wiV) (Int.toNat (k : Int)) (.agg (enWi w)), .r 11 [(.agg (enWi w))] (.bool true) G none] [6] (e := .ret) (vals := [(.bool true)]) (h' := G) hlb (fun _ => by kernel_rfl) ⟨rfl, (by omega), (by simp; omega), hv, (hgw ▸ great_e (by kernel_rfl) hrw _), trivial⟩).mono ?_
    rintro e s' ⟨rfl, t8, lo8, rfl, hl8⟩
    exact .inr ⟨rfl, fin hl8⟩
   | false =>
    obtain ⟨K, ld, hdo, dK, stK⟩ := md_w (Γ := GL) (w := w) (by kernel_rfl) okP0 ok (by omega) (by omega) D
    have hok2 := doA_ok (w := w) (free := false) okP0 ok (by omega)
    have hwas2 : (doA T0 V0 false s w).2.was ≠ none := by rw [doA_was]; exact hwas
    generalize (doA T0 V0 false s w).2 = s2 at dK hok2 hwas2
    generalize (doA T0 V0 false s w).1 = aa at hdo
    refine (pathE (nt := 112) [.p (14 = 14), .p ((0 : Int) ≤ (k : Int)), .p (((k : Int) : Int) < (List.length (ws.map wiV) : Int)), .e (ws.map wiV) (Int.toNat (k : Int)) (.agg (enWi w)), .r 11 [(.agg (enWi w))] (.bool false) G none, .p (14 = 14), .p ((0 : Int) ≤ (k : Int)), .p (((k : Int) : Int) < (List.length (ws.map wiV) : Int)), .e (ws.map wiV) (Int.toNat (k : Int)) (.agg (enWi w)), .r 19 [(.ptr p 0), (.agg (enWi w))] (.agg (anL aa)) K ld] [8, 0, 1, 2, 7] (e := .normal) (vals := [(.int .i64 (k : Int)), (.ro (ws.map wiV) 14 false), (.ro (vs.map wiV) 14 false), (.bool sv), (.ptr p 0)]) (h' := K) hlb (fun _ => by kernel_rfl) ⟨rfl, (by omega), (by simp; omega), hv, (hgw ▸ great_e (by kernel_rfl) hrw _), rfl, (by omega), (by simp; omega), hv, hdo, trivial⟩).mono ?_
    rintro e s' ⟨rfl, t8, lo8, rfl, hl8⟩
    exact .inl ⟨rfl, (K, s2), t8, lo8, rfl, ⟨dK, hok2, hwas2⟩, hl8⟩
  rintro e s (⟨rfl, ⟨G, s⟩, t7, lo7, rfl, ⟨D, ok, hwas⟩, hl5⟩ | ⟨rfl, h⟩)
  rotate_left
  ·exact ⟨rfl, h⟩
  simp only at D ok hwas
  have hN9 : N ≤ 20 := by omega
  refine Wp.seq ((pathE (nt := 112) [] [9, 0, 1, 2, 7] (e := .normal) (vals := [(.int .i64 0), (.ro (ws.map wiV) 14 false), (.ro (vs.map wiV) 14 false), (.bool sv), (.ptr p 0)]) (h' := G) hl5 (fun _ => by kernel_rfl) trivial).mono ?_)
  rintro e s' ⟨rfl, t8, lo8, rfl, hl6⟩
  -- a savepoint, or a transaction anew
  have hcond : Wp GL Mo.T (hd (tl (tl (tl (tl (tl (tl a4.body))))))) { t := t8, h := G, lo := lo8 } fun e s2 => (e = .normal ∧ ∃ G0 s0 n t lo, s2 = { t := t, h := G0, lo := lo } ∧ Lv 112 [(9, .int .i64 n), (0, (.ro (List.map wiV ws) 14 false)), (1, (.ro (List.map wiV vs) 14 false)), (2, .bool sv), (7, .ptr p 0)] t ∧ DBA T0 V0 false G0 p s0 ∧ OkS T0 (N + 1) s0 ∧ s0.was ≠ none ∧ (sv = true → ∃ ms, s0.marks = ms ++ [s0.now] ∧ n = (ms.length : Int)) ∧ (sv = false → s0.was = some s0.now)) ∨ (e = .ret ∧ ∃ vs, resAll s2 a4.res = some vs ∧ packRes vs = .bool true) := by
   cases sv with
   | true =>
    obtain ⟨K, ld, hdo, dK, stK⟩ := md_x (Γ := GL) (by kernel_rfl) okP0 ok (by omega) (by decide) D waS rfl
    rw [doS_save hwas] at hdo dK
    by_cases h4 : 4 ≤ s.marks.length
    ·rw [if_pos h4] at hdo dK
     obtain ⟨aa, haa⟩ : ∃ aa : An, (⟨5, [], [], 0⟩ : An) = aa := ⟨_, rfl⟩
     have he : ¬ aa.e = 0 := by rw [← haa]; decide
     have h5 : aa.e = 5 := by rw [← haa]
     simp only at hdo
     rw [haa] at hdo
     refine (pathE (nt := 112) [.r 19 [(.ptr p 0), (.agg [(.int .i64 8), (.int .i64 0), (.int .i64 0), (.int .i64 0), (.str []), (.int .i64 0), (.int .i64 0), (.str []), .nils, (.int .i64 0), (.int .i64 0), (.int .i64 0), (.str []), (.int .i64 0)])] (.agg (anL aa)) K ld, .w (.alloc [(.int .i64 0), .nils, .nils, (.int .i64 0)]) (.ptr K.length 0) (ap K [(.int .i64 0), .nils, .nils, (.int .i64 0)]) none, .w (.store 4 (.c (.ptr K.length 0)) (.c (.agg (anL aa)))) (.tup []) (ap K (anL aa)) (some K.length), .f (.load none (.c (.ptr K.length 0))) (.int .i64 aa.e), .b (aa.e != 0) true, .f (.load none (.c (.ptr K.length 0))) (.int .i64 aa.e), .b (aa.e == 5) true] [6] (e := .ret) (vals := [(.bool true)]) (h' := (ap K (anL aa))) hl6 (fun _ => by kernel_rfl) ⟨hdo, rfl, stZ, (ldV gl), (cD he), (ldV gl), (cE h5), trivial⟩).mono ?_
     rintro e s' ⟨rfl, t9, lo9, rfl, hl7⟩
     exact .inr ⟨rfl, fin hl7⟩
    ·rw [if_neg h4] at hdo dK
     obtain ⟨aa, haa⟩ : ∃ aa : An, (⟨0, [], [], (s.marks.length : Int)⟩ : An) = aa := ⟨_, rfl⟩
     have he : aa.e = 0 := by rw [← haa]
     have h5 : aa.n = (s.marks.length : Int) := by rw [← haa]
     simp only at hdo dK
     rw [haa] at hdo
     refine (pathE (nt := 112) [.r 19 [(.ptr p 0), (.agg [(.int .i64 8), (.int .i64 0), (.int .i64 0), (.int .i64 0), (.str []), (.int .i64 0), (.int .i64 0), (.str []), .nils, (.int .i64 0), (.int .i64 0), (.int .i64 0), (.str []), (.int .i64 0)])] (.agg (anL aa)) K ld, .w (.alloc [(.int .i64 0), .nils, .nils, (.int .i64 0)]) (.ptr K.length 0) (ap K [(.int .i64 0), .nils, .nils, (.int .i64 0)]) none, .w (.store 4 (.c (.ptr K.length 0)) (.c (.agg (anL aa)))) (.tup []) (ap K (anL aa)) (some K.length), .f (.load none (.c (.ptr K.length 0))) (.int .i64 aa.e), .b (aa.e != 0) false, .f (.load none (.c (.ptr K.length 3))) (.int .i64 aa.n)] [9, 0, 1, 2, 7] (e := .normal) (vals := [(.int .i64 aa.n), (.ro (ws.map wiV) 14 false), (.ro (vs.map wiV) 14 false), (.bool true), (.ptr p 0)]) (h' := (ap K (anL aa))) hl6 (fun _ => by kernel_rfl) ⟨hdo, rfl, stZ, (ldV gl), (cS he), (ldV gl), trivial⟩).mono ?_
     rintro e s' ⟨rfl, t9, lo9, rfl, hl7⟩
     refine .inl ⟨rfl, _, { s with marks := s.marks ++ [s.now] }, aa.n, t9, lo9, rfl, hl7, dK.keep fun i x _ hx => ga hx, ⟨ok.now.mono (Nat.le_succ N), fun ts h => (ok.was ts h).mono (Nat.le_succ N), fun ts h => ?_, by simp; omega⟩, hwas, fun _ => ⟨s.marks, rfl, h5⟩, fun h => by cases h⟩
     rcases List.mem_append.1 h with h | h
     ·exact (ok.marks ts h).mono (Nat.le_succ N)
     ·rw [List.mem_singleton.1 h]; exact ok.now.mono (Nat.le_succ N)
   | false =>
    obtain ⟨K, lc, hc, dK, stK⟩ := mrn_e (Γ := GL) (nr := .int .i64 2) (x := ()) encU_inj (by kernel_rfl) D (com_m D)
    obtain ⟨ts, hts⟩ : ∃ ts, s.was = some ts := by
     cases h : s.was with
     | none => exact absurd h hwas
     | some ts => exact ⟨ts, rfl⟩
    have ee : endS s true = (0, ⟨s.now, none, []⟩) := by simp [endS, hts]
    have hc : Cl GL Mo.T 14 [.ptr p 0] G (.int .i64 0, K, lc) := by simp only [comM, ee] at hc; exact hc
    have dK : DBA T0 V0 false K p ⟨s.now, none, []⟩ := by simp only [comM, ee] at dK; exact dK
    obtain ⟨K1, lb, hb, dK1, stK1⟩ := mrn_e (Γ := GL) (nr := .int .i64 2) (x := ()) encU_inj (by kernel_rfl) dK (beg_m okP0.toOkPl (k := N) ⟨ok.now, (fun ts h => by cases h), (fun ts h => by cases h), Nat.zero_le _⟩ (by omega) dK)
    have hb : Cl GL Mo.T 12 [.ptr p 0] K (.int .i64 0, K1, lb) := hb
    have dK1 : DBA T0 V0 false K1 p ⟨s.now, some s.now, []⟩ := dK1
    refine (pathE (nt := 112) [.r 14 [(.ptr p 0)] (.int .i64 0) K lc, .b ((0 : Int) != 0) false, .r 12 [(.ptr p 0)] (.int .i64 0) K1 lb, .b ((0 : Int) != 0) false] [9, 0, 1, 2, 7] (e := .normal) (vals := [(.int .i64 0), (.ro (ws.map wiV) 14 false), (.ro (vs.map wiV) 14 false), (.bool false), (.ptr p 0)]) (h' := K1) hl6 (fun _ => by kernel_rfl) ⟨hc, rfl, hb, rfl, trivial⟩).mono ?_
    rintro e s' ⟨rfl, t9, lo9, rfl, hl7⟩
    have okn := ok.now.mono (Nat.le_succ N)
    exact .inl ⟨rfl, K1, ⟨s.now, some s.now, []⟩, 0, t9, lo9, rfl, hl7, dK1, ⟨okn, fun ts h => by cases h; exact okn, (fun ts h => by cases h), Nat.zero_le _⟩, (by intro h; cases h), (fun h => by cases h), fun _ => rfl⟩
  refine Wp.seq (hcond.mono ?_)
  rintro e s' (⟨rfl, G0, s0, n, t9, lo9, rfl, hl7, D0, ok0, hwas0, hsv, hnv⟩ | ⟨rfl, h⟩)
  rotate_left
  ·exact ⟨rfl, h⟩
  clear hcond D ok hwas
  -- the copy
  obtain ⟨pc, K1, l1, hc1, dc1, kc1, ic1⟩ := cpy_e (Γ := GL) (by kernel_rfl) okP0.toOkPl ok0 (by omega) D0
  have E1 : DBA T0 V0 false K1 p s0 := D0.keep fun i x _ hx => kc1.2 i x hx
  have eE1 : ids K1 p = ids G0 p := D0.ids_keep fun i x _ hx => kc1.2 i x hx
  have sp1 : Sep K1 p pc := fun i hi hi2 => by rw [eE1] at hi; have := D0.lt i hi; have := ic1 i hi2; omega
  refine Wp.seq ((pathE (nt := 112) [.r 28 [(.ptr p 0)] (.ptr pc 0) K1 l1] [9, 0, 1, 2, 7, 11] (e := .normal) (vals := [(.int .i64 n), (.ro (ws.map wiV) 14 false), (.ro (vs.map wiV) 14 false), (.bool sv), (.ptr p 0), (.ptr pc 0)]) (h' := K1) hl7 (fun _ => by kernel_rfl) ⟨hc1, trivial⟩).mono ?_)
  rintro e s' ⟨rfl, t10, lo10, rfl, hl8⟩
  refine Wp.seq (Wp.seq ((pathE (nt := 112) [] [12, 9, 0, 1, 2, 7, 11] (e := .normal) (vals := [(.int .i64 0), (.int .i64 n), (.ro (ws.map wiV) 14 false), (.ro (vs.map wiV) 14 false), (.bool sv), (.ptr p 0), (.ptr pc 0)]) (h' := K1) hl8 (fun _ => by kernel_rfl) trivial).mono ?_))
  rintro e s' ⟨rfl, t11, lo11, rfl, hl9⟩
  have hN21 : N + 1 ≤ 21 := by omega
  generalize N + 1 = M at ok0 hN21
  clear hN
  obtain ⟨N, hN⟩ : ∃ N, min vs.length 20 = N := ⟨_, rfl⟩
  refine (forL (i := 12) (a := 72) (b := 73) (X := List Blk × DS) (N := N) (fun _ _ => [(9, .int .i64 n), (0, (.ro (List.map wiV ws) 14 false)), (1, (.ro (List.map wiV vs) 14 false)), (2, .bool sv), (7, .ptr p 0), (11, .ptr pc 0)]) (fun _ x => x.1) (fun k x => DBA T0 V0 false x.1 p x.2 ∧ OkS T0 (M + k) x.2 ∧ x.2.was = s0.was ∧ (∃ l, x.2.marks = s0.marks ++ l) ∧ DBA T0 V0 false x.1 pc s0 ∧ Sep x.1 p pc) (fun s => ∃ vs, resAll s a4.res = some vs ∧ packRes vs = .bool true)
   (by omega) (by decide) (by decide) (by decide) (by decide) (by decide) (fun _ _ => rfl) ?_ ?_ ?_ (x0 := (K1, s0)) ⟨E1, ok0, rfl, ⟨[], (List.append_nil _).symm⟩, dc1, sp1⟩ hl9).mono ?_
  ·rintro k ⟨G, s⟩ t7 lo7 hkN - hlb
   refine (pathE (nt := 112) [.b (decide ((k : Int) < ((List.length (vs.map wiV)) : Int))) true, .b (decide ((k : Int) < 20)) true] [12, 9, 0, 1, 2, 7, 11] (e := .normal) (vals := [(.int .i64 (k : Int)), (.int .i64 n), (.ro (ws.map wiV) 14 false), (.ro (vs.map wiV) 14 false), (.bool sv), (.ptr p 0), (.ptr pc 0)]) (h' := G) hlb (fun _ => by kernel_rfl) ⟨(cT (by simp; omega)), (cT (by omega)), trivial⟩).mono ?_
   rintro e s' ⟨rfl, t8, lo8, rfl, hl8⟩
   exact ⟨rfl, t8, lo8, rfl, hl8⟩
  ·rintro ⟨G, s⟩ t7 lo7 - hlb
   by_cases hlt : N = vs.length
   ·refine (pathE (nt := 112) [.b (decide ((N : Int) < ((List.length (vs.map wiV)) : Int))) false] [9, 0, 1, 2, 7, 11] (e := (.exit 2)) (vals := [(.int .i64 n), (.ro (ws.map wiV) 14 false), (.ro (vs.map wiV) 14 false), (.bool sv), (.ptr p 0), (.ptr pc 0)]) (h' := G) hlb (fun _ => by kernel_rfl) ⟨(cF (by simp; omega)), trivial⟩).mono ?_
    rintro e s' ⟨rfl, t8, lo8, rfl, hl8⟩
    exact ⟨rfl, t8, lo8, rfl, hl8⟩
   ·refine (pathE (nt := 112) [.b (decide ((N : Int) < ((List.length (vs.map wiV)) : Int))) true, .b (decide ((N : Int) < 20)) false] [9, 0, 1, 2, 7, 11] (e := (.exit 2)) (vals := [(.int .i64 n), (.ro (ws.map wiV) 14 false), (.ro (vs.map wiV) 14 false), (.bool sv), (.ptr p 0), (.ptr pc 0)]) (h' := G) hlb (fun _ => by kernel_rfl) ⟨(cT (by simp; omega)), (cF (by omega)), trivial⟩).mono ?_
    rintro e s' ⟨rfl, t8, lo8, rfl, hl8⟩
    exact ⟨rfl, t8, lo8, rfl, hl8⟩
  ·rintro k ⟨G, s⟩ t7 lo7 hkN ⟨D, ok, hwas, ⟨l, hl⟩, dc, sp⟩ hlb
   simp only at D ok hwas hl dc sp
   have hkw : k < vs.length := by omega
   have hv : (List.map wiV vs)[(k : Int).toNat]? = some (.agg (enWi vs[k])) := by simp [hkw]
   have hrw : vs[k].row.length ≤ 9223372036854775807 := hvr _ (List.getElem_mem hkw)
   generalize vs[k] = w at hv hrw
   cases hgw : greatB w with
   | true =>
    refine (pathE (nt := 112) [.p (14 = 14), .p ((0 : Int) ≤ (k : Int)), .p (((k : Int) : Int) < (List.length (vs.map wiV) : Int)), .e (vs.map wiV) (Int.toNat (k : Int)) (.agg (enWi w)), .r 11 [(.agg (enWi w))] (.bool true) G none] [6] (e := .ret) (vals := [(.bool true)]) (h' := G) hlb (fun _ => by kernel_rfl) ⟨rfl, (by omega), (by simp; omega), hv, (hgw ▸ great_e (by kernel_rfl) hrw _), trivial⟩).mono ?_
    rintro e s' ⟨rfl, t8, lo8, rfl, hl8⟩
    exact .inr ⟨rfl, fin hl8⟩
   | false =>
    by_cases h9 : w.kd = 9
    ·refine (pathE (nt := 112) [.p (14 = 14), .p ((0 : Int) ≤ (k : Int)), .p (((k : Int) : Int) < (List.length (vs.map wiV) : Int)), .e (vs.map wiV) (Int.toNat (k : Int)) (.agg (enWi w)), .r 11 [(.agg (enWi w))] (.bool false) G none, .p (14 = 14), .p ((0 : Int) ≤ (k : Int)), .p (((k : Int) : Int) < (List.length (vs.map wiV) : Int)), .e (vs.map wiV) (Int.toNat (k : Int)) (.agg (enWi w)), .b (w.kd == 9) true] [6] (e := .ret) (vals := [(.bool true)]) (h' := G) hlb (fun _ => by kernel_rfl) ⟨rfl, (by omega), (by simp; omega), hv, (hgw ▸ great_e (by kernel_rfl) hrw _), rfl, (by omega), (by simp; omega), hv, (cE h9), trivial⟩).mono ?_
     rintro e s' ⟨rfl, t8, lo8, rfl, hl8⟩
     exact .inr ⟨rfl, fin hl8⟩
    ·obtain ⟨K, ld, hdo, dK, stK⟩ := md_w (Γ := GL) (w := w) (by kernel_rfl) okP0 ok (by omega) (by omega) D
     have hok2 := doA_ok (w := w) (free := false) okP0 ok (by omega)
     have hwas2 : (doA T0 V0 false s w).2.was = s0.was := by rw [doA_was]; exact hwas
     obtain ⟨l2, hl2⟩ := doA_marks (T := T0) (V := V0) (free := false) (s := s) h9
     obtain ⟨dc2, sp2⟩ := other' dc stK sp
     generalize (doA T0 V0 false s w).2 = s2 at dK hok2 hwas2 hl2
     generalize (doA T0 V0 false s w).1 = aa at hdo
     refine (pathE (nt := 112) [.p (14 = 14), .p ((0 : Int) ≤ (k : Int)), .p (((k : Int) : Int) < (List.length (vs.map wiV) : Int)), .e (vs.map wiV) (Int.toNat (k : Int)) (.agg (enWi w)), .r 11 [(.agg (enWi w))] (.bool false) G none, .p (14 = 14), .p ((0 : Int) ≤ (k : Int)), .p (((k : Int) : Int) < (List.length (vs.map wiV) : Int)), .e (vs.map wiV) (Int.toNat (k : Int)) (.agg (enWi w)), .b (w.kd == 9) false, .p (14 = 14), .p ((0 : Int) ≤ (k : Int)), .p (((k : Int) : Int) < (List.length (vs.map wiV) : Int)), .e (vs.map wiV) (Int.toNat (k : Int)) (.agg (enWi w)), .r 19 [(.ptr p 0), (.agg (enWi w))] (.agg (anL aa)) K ld] [12, 9, 0, 1, 2, 7, 11] (e := .normal) (vals := [(.int .i64 (k : Int)), (.int .i64 n), (.ro (ws.map wiV) 14 false), (.ro (vs.map wiV) 14 false), (.bool sv), (.ptr p 0), (.ptr pc 0)]) (h' := K) hlb (fun _ => by kernel_rfl) ⟨rfl, (by omega), (by simp; omega), hv, (hgw ▸ great_e (by kernel_rfl) hrw _), rfl, (by omega), (by simp; omega), hv, (cN h9), rfl, (by omega), (by simp; omega), hv, hdo, trivial⟩).mono ?_
     rintro e s' ⟨rfl, t8, lo8, rfl, hl8⟩
     exact .inl ⟨rfl, (K, s2), t8, lo8, rfl, ⟨dK, hok2, hwas2, ⟨l ++ l2, by rw [hl2, hl, List.append_assoc]⟩, dc2, sp2⟩, hl8⟩
  rintro e s (⟨rfl, ⟨G, s⟩, t7, lo7, rfl, ⟨D, ok, hwas, ⟨l, hl⟩, dc, sp⟩, hl9⟩ | ⟨rfl, h⟩)
  rotate_left
  ·exact ⟨rfl, h⟩
  simp only at D ok hwas hl dc sp
  have hwasn : s.was ≠ none := by rw [hwas]; exact hwas0
  -- back again
  have hcond : Wp GL Mo.T (hd (tl (tl (tl (tl (tl (tl (tl (tl (tl a4.body)))))))))) { t := t7, h := G, lo := lo7 } fun e s2 => e = .normal ∧ ∃ G1 s1 t lo, s2 = { t := t, h := G1, lo := lo } ∧ Lv 112 [(7, .ptr p 0), (11, .ptr pc 0)] t ∧ DBA T0 V0 false G1 p s1 ∧ DBA T0 V0 false G1 pc s0 ∧ OkTb T0 (M + N) s1.now ∧ s1.now = s0.now := by
   cases sv with
   | true =>
    obtain ⟨ms, hms, hn⟩ := hsv rfl
    obtain ⟨K, ld, hdo, dK, stK⟩ := md_x (Γ := GL) (w := wB n) (by kernel_rfl) okP0 ok (by omega) (Nat.zero_le _) D (waB n) rfl
    have hbk : backS s n = (0, { s with now := s0.now, marks := s.marks.take (n.toNat + 1) }) := by
     have hlen : s.marks.length = ms.length + 1 + l.length := by rw [hl, hms]; simp; omega
     have hg : s.marks.getD n.toNat [] = s0.now := by
      rw [hn, Int.toNat_natCast, List.getD_eq_getElem?_getD, hl, hms, List.append_assoc, List.getElem?_append_right (Nat.le_refl _), Nat.sub_self]
      rfl
     unfold backS
     rw [if_neg (by omega), hg]
    rw [doS_back hwasn] at hdo dK
    rw [hbk] at hdo dK
    obtain ⟨aa, haa⟩ : ∃ aa : An, (⟨0, [], [], 0⟩ : An) = aa := ⟨_, rfl⟩
    have he : aa.e = 0 := by rw [← haa]
    simp only at hdo dK
    rw [haa] at hdo
    obtain ⟨dc2, sp2⟩ := other' dc stK sp
    refine (pathE (nt := 112) [.r 19 [(.ptr p 0), (.agg [(.int .i64 9), (.int .i64 0), (.int .i64 0), (.int .i64 0), (.str []), (.int .i64 0), (.int .i64 0), (.str []), .nils, (.int .i64 0), (.int .i64 0), (.int .i64 0), (.str []), (.int .i64 n)])] (.agg (anL aa)) K ld, .w (.alloc [(.int .i64 0), .nils, .nils, (.int .i64 0)]) (.ptr K.length 0) (ap K [(.int .i64 0), .nils, .nils, (.int .i64 0)]) none, .w (.store 4 (.c (.ptr K.length 0)) (.c (.agg (anL aa)))) (.tup []) (ap K (anL aa)) (some K.length), .f (.load none (.c (.ptr K.length 0))) (.int .i64 aa.e), .b (aa.e != 0) false] [7, 11] (e := .normal) (vals := [(.ptr p 0), (.ptr pc 0)]) (h' := (ap K (anL aa))) hl9 (fun _ => by kernel_rfl) ⟨hdo, rfl, stZ, (ldV gl), (cS he), trivial⟩).mono ?_
    rintro e s' ⟨rfl, t9, lo9, rfl, hl10⟩
    exact ⟨rfl, _, _, t9, lo9, rfl, hl10, dK.keep fun i x _ hx => ga hx, dc2.keep fun i x _ hx => ga hx, ok0.now.mono (by omega), rfl⟩
   | false =>
    obtain ⟨K, lc, hc, dK, stK⟩ := mrn_e (Γ := GL) (nr := .int .i64 2) (x := ()) encU_inj (by kernel_rfl) D (abo_m D)
    have hts : s.was = some s0.now := by rw [hwas]; exact hnv rfl
    have ee : endS s false = (0, ⟨s0.now, none, []⟩) := by simp [endS, hts]
    have hc : Cl GL Mo.T 16 [.ptr p 0] G (.int .i64 0, K, lc) := by simp only [aboM, ee] at hc; exact hc
    have dK : DBA T0 V0 false K p ⟨s0.now, none, []⟩ := by simp only [aboM, ee] at dK; exact dK
    obtain ⟨dc2, sp2⟩ := other' dc stK sp
    refine (pathE (nt := 112) [.r 16 [(.ptr p 0)] (.int .i64 0) K lc, .b ((0 : Int) != 0) false] [7, 11] (e := .normal) (vals := [(.ptr p 0), (.ptr pc 0)]) (h' := K) hl9 (fun _ => by kernel_rfl) ⟨hc, rfl, trivial⟩).mono ?_
    rintro e s' ⟨rfl, t9, lo9, rfl, hl10⟩
    exact ⟨rfl, K, _, t9, lo9, rfl, hl10, dK, dc2, ok0.now.mono (by omega), rfl⟩
  refine Wp.seq (hcond.mono ?_)
  rintro e s' ⟨rfl, G1, s1, t9, lo9, rfl, hl10, D1, dc1, ok1, hnow⟩
  obtain ⟨Ka, l5, hs1, hka⟩ := sm_e (Γ := GL) (by kernel_rfl) okP0.toOkPl okP0.toOkPl ok1 (hnow ▸ ok1) (by omega) D1 dc1 hnow
  obtain ⟨Kb, l6, hs2, hkb⟩ := sm_e (Γ := GL) (by kernel_rfl) okP0.toOkPl okP0.toOkPl (hnow ▸ ok1) ok1 (by omega) (dc1.keep fun i x _ hx => hka.2 i x hx) (D1.keep fun i x _ hx => hka.2 i x hx) hnow.symm
  refine (pathE (nt := 112) [.r 29 [(.ptr p 0), (.ptr pc 0)] (.bool true) Ka l5, .r 29 [(.ptr pc 0), (.ptr p 0)] (.bool true) Kb l6] [6] (e := .ret) (vals := [(.bool true)]) (h' := Kb) hl10 (fun _ => by kernel_rfl) ⟨hs1, hs2, trivial⟩).mono ?_
  rintro e s' ⟨rfl, t10, lo10, rfl, hl11⟩
  exact ⟨rfl, fin hl11⟩
 obtain ⟨r, H', lo, rfl, h⟩ := key
 exact ⟨H', lo, h⟩
open Go
abbrev w64 (n : Int) : Prop := (Lit.int .i64 n).wf = true
theorem rI : ARd Tryz.prog 3 iV w64 := ard_int Tryz.underlying3
theorem rStr : ARd Tryz.prog 9 AV.str (fun s => s.length ≤ maxLen) := ard_string Tryz.underlying9
theorem ard_as {α β : Type} {P : Program} {T : TypeId} {en : α → AV} {en' : β → AV} {Q : α → Prop} {Q' : β → Prop} (hr : ARd P T en Q) (h : ∀ a, Q a → ∃ b, en' b = en a ∧ Q' b) : ARd P T en' Q' := by
 intro H enc w base spare held fuel cs x hx
 obtain ⟨a, h1, h2⟩ := hr hx
 obtain ⟨b, h3, h4⟩ := h a h2
 exact ⟨b, by rw [h3]; exact h1, h4⟩
abbrev QV (v : Val) : Prop := w64 v.k ∧ w64 v.n ∧ v.s.length ≤ maxLen
theorem rVal : ARd Tryz.prog 39 vV QV :=
 ard_as (ard_struct (sz := 3) (fun v : Int × Int × List UInt8 => (⟨v.1, v.2.1, v.2.2⟩ : Val)) vV (fun v => rfl) Tryz.underlying39 (by kernel_rfl)
  (ardF_cons (sz := 1) (sz' := 2) (en := iV) (by kernel_rfl) (by kernel_rfl) rI (ardF_cons (sz := 1) (sz' := 1) (en := iV) (by kernel_rfl) (by kernel_rfl) rI (ardF_one (sz := 1) (en := AV.str) (by kernel_rfl) (by kernel_rfl) rStr)))) fun a h => ⟨a, rfl, by
   obtain ⟨b, rfl, h1, h2, h3⟩ := h
   exact ⟨h1, h2, h3⟩⟩
theorem rRow : ARd Tryz.prog 40 rV (fun l => l.length ≤ maxLen ∧ ∀ v ∈ l, QV v) := ard_slice Tryz.underlying40 (by kernel_rfl) (by omega) rVal
abbrev WV := Int × Int × Val × Val × List Val × Int × Val × Int
def mkW (v : WV) : Wi := ⟨v.1, v.2.1, v.2.2.1, v.2.2.2.1, v.2.2.2.2.1, v.2.2.2.2.2.1, v.2.2.2.2.2.2.1, v.2.2.2.2.2.2.2⟩
abbrev QW (w : Wi) : Prop := w.row.length ≤ maxLen
theorem rWish : ARd Tryz.prog 42 wiV QW :=
 ard_as (ard_struct (sz := 14) mkW wiV (fun v => rfl) Tryz.underlying42 (by kernel_rfl)
  (ardF_cons (sz := 1) (sz' := 13) (en := iV) (by kernel_rfl) (by kernel_rfl) rI (ardF_cons (sz := 1) (sz' := 12) (en := iV) (by kernel_rfl) (by kernel_rfl) rI
   (ardF_cons (sz := 3) (sz' := 9) (en := vV) (by kernel_rfl) (by kernel_rfl) rVal (ardF_cons (sz := 3) (sz' := 6) (en := vV) (by kernel_rfl) (by kernel_rfl) rVal
    (ardF_cons (sz := 1) (sz' := 5) (en := rV) (by kernel_rfl) (by kernel_rfl) rRow (ardF_cons (sz := 1) (sz' := 4) (en := iV) (by kernel_rfl) (by kernel_rfl) rI
     (ardF_cons (sz := 3) (sz' := 1) (en := vV) (by kernel_rfl) (by kernel_rfl) rVal (ardF_one (sz := 1) (en := iV) (by kernel_rfl) (by kernel_rfl) rI))))))))) fun a h => ⟨a, rfl, by
   obtain ⟨b, rfl, h1, h2, h3, h4, h5, h6⟩ := h
   exact h5.1⟩
theorem rWishes : ARd Tryz.prog 76 (fun l : List Wi => AV.ro (l.map wiV) 14 false) (fun l => l.length ≤ maxLen ∧ ∀ w ∈ l, QW w) := ard_slice Tryz.underlying76 (by kernel_rfl) (by omega) rWish
theorem law4 {l v : List Wi} {sv : Bool} {w : World} {A A2 : Option Addr} {n c n2 c2 : Nat} (hl : LRel (Lies w) (fun _ => none) w (AV.ro (l.map wiV) 14 false).cells (Value.slice A n c).cells.toList) (okl : l.length ≤ maxLen ∧ ∀ s ∈ l, QW s)
  (hv : LRel (Lies w) (fun _ => none) w (AV.ro (v.map wiV) 14 false).cells (Value.slice A2 n2 c2).cells.toList) (okv : v.length ≤ maxLen ∧ ∀ s ∈ v, QW s) :
  Calls Tryz.prog 4 #[.slice A n c, .slice A2 n2 c2, .bool sv] w fun e w' => e = .returned (.bool true) ∧ RowKit.Below w.heap.size w w' := by
 obtain ⟨h', lo, k, hc⟩ := back_law (sv := sv) okl.1 okl.2 okv.1 okv.2
 exact law_true KL (n := k) (by rw [hc]; rfl) (by kernel_rfl) (S := Lies w) (fun b hb => hb) (LRel.cons (ard_one hl rfl) (LRel.cons (ard_one hv rfl) (LRel.cons .bool LRel.nil)))
end Go.Proofs.YtenpjpldjmoefaaGreat.AM.Mo
