/-
  'gauger's law ModelBack holds of every input: it returns true, and each argument reads behind the call as it read before.
  This text: part 20 of 22 of the proof (MoAg, MoAh, MoAi, MoAj).
-/
import Derived.Test.YtenpjpldjmoefaaGreatMas
import Derived.Test.YtenpjpldjmoefaaGreatMah
set_option linter.unusedVariables false
set_option linter.unusedSimpArgs false
set_option maxRecDepth 100000
set_option maxHeartbeats 4000000
namespace Go.Proofs.YtenpjpldjmoefaaGreat.AM.Mo
open Go
theorem eqSV (v : Val) {H : List Blk} : pOp evC H (.eqS true [1, 1, 2] (.c (.agg (enV v))) (.c (.agg (enV v)))) = some (.bool false) := by
 simp [pOp, evC, eqL, eq1, bytesEq_refl]
theorem eq69_cl {r : List Val} (hl : r.length ≤ 1000000) (H : List Blk) : ∃ lo, Cl G8 Mo.T 69 [rV r, rV r] H (.bool true, H, lo) := by
 have key : ∃ r2 h' lo, (r2 = .bool true ∧ h' = H) ∧ Cl G8 Mo.T 69 [(.ro (List.map vV r) 3 false), (.ro (List.map vV r) 3 false)] H (r2, h', lo) := by
  refine clE (Γ := G8) (tbl := Mo.T) (f := 69) (af := a69) (args := [(.ro (List.map vV r) 3 false), (.ro (List.map vV r) 3 false)]) (h := H) (by kernel_rfl) (by kernel_rfl) (by kernel_rfl) (fun r h' => r = .bool true ∧ h' = H) ?_
  refine Wp.seq ((pathE (nt := 26) (live := [(0, (.ro (r.map vV) 3 false)), (1, (.ro (r.map vV) 3 false))]) [] [0, 1] (e := .normal) (vals := [(.ro (r.map vV) 3 false), (.ro (r.map vV) 3 false)]) (h' := H) (Lv.start (by rfl) (by simp)) (fun _ => by kernel_rfl) trivial).mono ?_)
  rintro e s ⟨rfl, t1, lo1, rfl, hl1⟩
  refine Wp.seq ((pathE (nt := 26) [.b (((List.length (r.map vV)) : Int) != ((List.length (r.map vV)) : Int)) false] [0, 1] (e := .normal) (vals := [(.ro (r.map vV) 3 false), (.ro (r.map vV) 3 false)]) (h' := H) hl1 (fun _ => by kernel_rfl) ⟨(cS rfl), trivial⟩).mono ?_)
  rintro e s ⟨rfl, t2, lo2, rfl, hl2⟩
  refine Wp.seq (Wp.seq ((pathE (nt := 26) [] [13, 0, 1, 11, 12] (e := .normal) (vals := [(.int .i64 0), (.ro (r.map vV) 3 false), (.ro (r.map vV) 3 false), (.ro (r.map vV) 3 false), (.int .i64 ((List.length (r.map vV)) : Int))]) (h' := H) hl2 (fun _ => by kernel_rfl) trivial).mono ?_))
  rintro e s ⟨rfl, t3, lo3, rfl, hl3⟩
  refine (rangeL (i := 13) (n := 12) (c := 14) (d := 25) (X := Unit) (N := ((List.map vV r)).length) (fun _ _ => [(0, (.ro (List.map vV r) 3 false)), (1, (.ro (List.map vV r) 3 false)), (11, (.ro (List.map vV r) 3 false)), (12, (.int .i64 (List.length (List.map vV r) : Int)))]) (fun _ _ => H) (fun _ _ => True) (fun _ => False)
   (by simp; omega) (by decide) (by decide) (by decide) (by decide) (by decide) (fun _ _ => rfl) (fun _ _ => rfl) ?_ (x0 := ()) trivial hl3).mono ?_
  ·rintro k ⟨⟩ t4 lo4 hkN - hlb
   have hkr : k < r.length := by simpa using hkN
   have hv : (List.map vV r)[(k : Int).toNat]? = some (.agg (enV r[k])) := by simp [hkr]
   generalize r[k] = v at hv
   refine (pathE (nt := 26) [.p (3 = 3), .p ((0 : Int) ≤ (k : Int)), .p (((k : Int) : Int) < (List.length (r.map vV) : Int)), .e (r.map vV) (Int.toNat (k : Int)) (.agg (enV v)), .p (3 = 3), .p ((0 : Int) ≤ (k : Int)), .p (((k : Int) : Int) < (List.length (r.map vV) : Int)), .e (r.map vV) (Int.toNat (k : Int)) (.agg (enV v)), .q (.eqS true [1, 1, 2] (.c (.agg [(.int .i64 v.k), (.int .i64 v.n), (.str v.s)])) (.c (.agg [(.int .i64 v.k), (.int .i64 v.n), (.str v.s)]))) false] [13, 0, 1, 11, 12] (e := .normal) (vals := [(.int .i64 (k : Int)), (.ro (r.map vV) 3 false), (.ro (r.map vV) 3 false), (.ro (r.map vV) 3 false), (.int .i64 (List.length (r.map vV) : Int))]) (h' := H) hlb (fun _ => by kernel_rfl) ⟨rfl, (by omega), (by omega), hv, rfl, (by omega), (by omega), hv, (eqSV v), trivial⟩).mono ?_
   rintro e s' ⟨rfl, t5, lo5, rfl, hl5⟩
   exact .inl ⟨rfl, (), t5, lo5, rfl, trivial, hl5⟩
  ·rintro e s (⟨rfl, _, t5, lo5, rfl, -, hle⟩ | ⟨rfl, h⟩)
   ·refine (pathE (nt := 26) [] [4] (e := .ret) (vals := [(.bool true)]) (h' := H) hle (fun _ => by kernel_rfl) trivial).mono ?_
    rintro e s ⟨rfl, t6, lo6, rfl, hl6⟩
    refine ⟨rfl, [.bool true], ?_, rfl, rfl⟩
    have := hl6.get (4, .bool true) (by simp)
    rw [getX_eq] at this
    show resAll _ [.t 4] = _
    simp only [resAll, resOf, this]
   ·exact h.elim
 obtain ⟨r2, h', lo, ⟨rfl, rfl⟩, h⟩ := key
 exact ⟨lo, h⟩
def ok69 (r : List Val) : Prop := r.length ≤ 1000000
abbrev en69 (r : List Val) : List AV := [rV r, rV r]
abbrev f69 (r : List Val) : AV := .bool true
noncomputable def g69 : List AV → Option AV := gOf ok69 en69 f69
theorem inj69 (a b : List Val) (_ : ok69 a) (_ : ok69 b) (h : en69 a = en69 b) : f69 a = f69 b := rfl
theorem eq69_ok : GOk Tryz.prog 69 (pureG g69) := gOf_ok ⟨_, Tryz.func69, by kernel_rfl, by kernel_rfl⟩ fun x hx => by
 obtain ⟨lo, h⟩ := eq69_cl hx []
 exact pureS_cl K8 h (by kernel_rfl) rfl
theorem eq69_e {Γ : FuncId → Option GF} (hg : Γ 69 = some (pureG g69)) {r : List Val} (hl : r.length ≤ 1000000) (H : List Blk) : Cl Γ Mo.T 69 [rV r, rV r] H (.bool true, H, none) := Cl.pure (g := g69) hg (gOf_eq inj69 (a := r) hl) (by simp [cloL, clo_rV]) rfl H
noncomputable def gam16 : List (Nat × GF) := (69, pureG g69) :: gam8
theorem K16 : Known (gGet gam16) tree.get Tryz.prog := known_of (by kernel_rfl) ⟨eq69_ok, oft_ok, ofv_ok, isVal_ok, view_ok, grp_ok, tot_ok, adt_ok, fit_ok, code_ok, int_ok, of_ok, add_ok, cmp_ok, good_ok, xSub_ok, xAdd_ok, trivial⟩ all
noncomputable abbrev G16 : FuncId → Option GF := gGet gam16
theorem eq68_cl {r : List Val} (hl : r.length ≤ 1000000) (H : List Blk) : ∃ lo, Cl G16 Mo.T 68 [rV r, rV r] H (.bool true, H, lo) := clV 1 (af := a68) (r := (.bool true)) (h' := H) [.r 69 [(.ro (r.map vV) 3 false), (.ro (r.map vV) 3 false)] (.bool true) H none] [] (by kernel_rfl) ⟨(eq69_e (by kernel_rfl) hl _), trivial⟩
theorem eq71_cl {x : List (List Val)} (hl : x.length ≤ 1000000) (hr : ∀ r ∈ x, r.length ≤ 1000000) (H : List Blk) : ∃ lo, Cl G16 Mo.T 71 [bV x, bV x, .fn (.func 68) [] []] H (.bool true, H, lo) := by
 have key : ∃ r2 h' lo, (r2 = .bool true ∧ h' = H) ∧ Cl G16 Mo.T 71 [(.ro (List.map rV x) 1 false), (.ro (List.map rV x) 1 false), (.fn (.func 68) [] [])] H (r2, h', lo) := by
  refine clE (Γ := G16) (tbl := Mo.T) (f := 71) (af := a71) (args := [(.ro (List.map rV x) 1 false), (.ro (List.map rV x) 1 false), (.fn (.func 68) [] [])]) (h := H) (by kernel_rfl) (by kernel_rfl) (by kernel_rfl) (fun r h' => r = .bool true ∧ h' = H) ?_
  refine Wp.seq ((pathE (nt := 32) (live := [(0, (.ro (x.map rV) 1 false)), (1, (.ro (x.map rV) 1 false)), (2, (.fn (.func 68) [] []))]) [] [0, 1, 2] (e := .normal) (vals := [(.ro (x.map rV) 1 false), (.ro (x.map rV) 1 false), (.fn (.func 68) [] [])]) (h' := H) (Lv.start (by rfl) (by simp)) (fun _ => by kernel_rfl) trivial).mono ?_)
  rintro e s ⟨rfl, t1, lo1, rfl, hl1⟩
  refine Wp.seq ((pathE (nt := 32) [.b (((List.length (x.map rV)) : Int) != ((List.length (x.map rV)) : Int)) false] [0, 1, 2] (e := .normal) (vals := [(.ro (x.map rV) 1 false), (.ro (x.map rV) 1 false), (.fn (.func 68) [] [])]) (h' := H) hl1 (fun _ => by kernel_rfl) ⟨(cS rfl), trivial⟩).mono ?_)
  rintro e s ⟨rfl, t2, lo2, rfl, hl2⟩
  refine Wp.seq (Wp.seq ((pathE (nt := 32) [] [17, 0, 1, 2, 15, 16] (e := .normal) (vals := [(.int .i64 0), (.ro (x.map rV) 1 false), (.ro (x.map rV) 1 false), (.fn (.func 68) [] []), (.ro (x.map rV) 1 false), (.int .i64 ((List.length (x.map rV)) : Int))]) (h' := H) hl2 (fun _ => by kernel_rfl) trivial).mono ?_))
  rintro e s ⟨rfl, t3, lo3, rfl, hl3⟩
  refine (rangeL (i := 17) (n := 16) (c := 18) (d := 31) (X := Unit) (N := ((List.map rV x)).length) (fun _ _ => [(0, (.ro (List.map rV x) 1 false)), (1, (.ro (List.map rV x) 1 false)), (2, (.fn (.func 68) [] [])), (15, (.ro (List.map rV x) 1 false)), (16, (.int .i64 (List.length (List.map rV x) : Int)))]) (fun _ _ => H) (fun _ _ => True) (fun _ => False)
   (by simp; omega) (by decide) (by decide) (by decide) (by decide) (by decide) (fun _ _ => rfl) (fun _ _ => rfl) ?_ (x0 := ()) trivial hl3).mono ?_
  ·rintro k ⟨⟩ t4 lo4 hkN - hlb
   have hkr : k < x.length := by simpa using hkN
   have hv : (List.map rV x)[(k : Int).toNat]? = some (rV x[k]) := by simp [hkr]
   obtain ⟨l68, h68⟩ := eq68_cl (hr _ (List.getElem_mem hkr)) H
   generalize x[k] = r at hv h68
   refine (pathE (nt := 32) [.p (1 = 1), .p ((0 : Int) ≤ (k : Int)), .p (((k : Int) : Int) < (List.length (x.map rV) : Int)), .e (x.map rV) (Int.toNat (k : Int)) (.ro (r.map vV) 3 false), .p (1 = 1), .p ((0 : Int) ≤ (k : Int)), .p (((k : Int) : Int) < (List.length (x.map rV) : Int)), .e (x.map rV) (Int.toNat (k : Int)) (.ro (r.map vV) 3 false), .r 68 [(.ro (r.map vV) 3 false), (.ro (r.map vV) 3 false)] (.bool true) H l68] [17, 0, 1, 2, 15, 16] (e := .normal) (vals := [(.int .i64 (k : Int)), (.ro (x.map rV) 1 false), (.ro (x.map rV) 1 false), (.fn (.func 68) [] []), (.ro (x.map rV) 1 false), (.int .i64 (List.length (x.map rV) : Int))]) (h' := H) hlb (fun _ => by kernel_rfl) ⟨rfl, (by omega), (by omega), hv, rfl, (by omega), (by omega), hv, h68, trivial⟩).mono ?_
   rintro e s' ⟨rfl, t5, lo5, rfl, hl5⟩
   exact .inl ⟨rfl, (), t5, lo5, rfl, trivial, hl5⟩
  ·rintro e s (⟨rfl, _, t5, lo5, rfl, -, hle⟩ | ⟨rfl, h⟩)
   ·refine (pathE (nt := 32) [] [6] (e := .ret) (vals := [(.bool true)]) (h' := H) hle (fun _ => by kernel_rfl) trivial).mono ?_
    rintro e s ⟨rfl, t6, lo6, rfl, hl6⟩
    refine ⟨rfl, [.bool true], ?_, rfl, rfl⟩
    have := hl6.get (6, .bool true) (by simp)
    rw [getX_eq] at this
    show resAll _ [.t 6] = _
    simp only [resAll, resOf, this]
   ·exact h.elim
 obtain ⟨r2, h', lo, ⟨rfl, rfl⟩, h⟩ := key
 exact ⟨lo, h⟩
def ok71 (x : List (List Val)) : Prop := x.length ≤ 1000000 ∧ ∀ r ∈ x, r.length ≤ 1000000
abbrev en71 (x : List (List Val)) : List AV := [bV x, bV x, .fn (.func 68) [] []]
abbrev f71 (r : List (List Val)) : AV := .bool true
noncomputable def g71 : List AV → Option AV := gOf ok71 en71 f71
theorem inj71 (a b : List (List Val)) (_ : ok71 a) (_ : ok71 b) (h : en71 a = en71 b) : f71 a = f71 b := rfl
theorem eq71_ok : GOk Tryz.prog 71 (pureG g71) := gOf_ok ⟨_, Tryz.func71, by kernel_rfl, by kernel_rfl⟩ fun x hx => by
 obtain ⟨lo, h⟩ := eq71_cl hx.1 hx.2 []
 exact pureS_cl K16 h (by kernel_rfl) rfl
theorem eq71_e {Γ : FuncId → Option GF} (hg : Γ 71 = some (pureG g71)) {x : List (List Val)} (hl : ok71 x) (H : List Blk) : Cl Γ Mo.T 71 [bV x, bV x, .fn (.func 68) [] []] H (.bool true, H, none) := Cl.pure (g := g71) hg (gOf_eq inj71 (a := x) hl) (by simp only [cloL, clo_bV]; rfl) rfl H
def TB (args : List AV) (h : List Blk) (r : AV) (h' : List Blk) : Prop := ∃ T V free p s, args = [.ptr p 0] ∧ DBA T V free h p s ∧ r = tsV s.now ∧ Kept h h'
theorem tb_e {Γ : FuncId → Option GF} (hg : Γ 23 = some (anyG Tryz.prog 23 TB)) {T : List (List Int)} {V : List Vw} {free : Bool} {k p : Nat} {s : DS} {H : List Blk} (pl : OkPl T V) (ok : OkTb T k s.now) (hk : k ≤ 99999) (hd : DBA T V free H p s) : ∃ H' lo, Cl Γ Mo.T 23 [.ptr p 0] H (tsV s.now, H', lo) ∧ Kept H H' := by
 obtain ⟨h', g1, g2⟩ := tables_m pl ok hk hd
 obtain ⟨r, H', lo, ⟨T', V', free', p', s', h1, h2, rfl, h3⟩, hc⟩ := anyG_cl (Γ := Γ) (tbl := Mo.T) (args := [.ptr p 0]) hg ⟨T, V, free, p, s, rfl, hd, rfl, g2⟩ g1 g2.1
 simp only [List.cons.injEq, AV.ptr.injEq, and_true] at h1
 subst h1
 obtain ⟨rfl, rfl, rfl, rfl⟩ := hd.inj h2
 exact ⟨H', lo, hc, h3⟩
noncomputable def gam17 : List (Nat × GF) := (23, anyG Tryz.prog 23 TB) :: (71, pureG g71) :: gam8
theorem K17 : Known (gGet gam17) tree.get Tryz.prog := known_of (by kernel_rfl) ⟨anyG_ok ⟨_, Tryz.func23, by kernel_rfl, by kernel_rfl⟩, eq71_ok, oft_ok, ofv_ok, isVal_ok, view_ok, grp_ok, tot_ok, adt_ok, fit_ok, code_ok, int_ok, of_ok, add_ok, cmp_ok, good_ok, xSub_ok, xAdd_ok, trivial⟩ all
noncomputable abbrev G17 : FuncId → Option GF := gGet gam17
theorem eq70_cl {x : List (List Val)} (hl : ok71 x) {H : List Blk} {c : Nat} (hc : H[c]? = some (.cells [.fn (.func 68) [] []])) : ∃ lo, Cl G17 Mo.T 70 [bV x, bV x, .ptr c 0] H (.bool true, H, lo) := clV 1 (af := a70) (r := (.bool true)) (h' := H) [.f (.load none (.c (.ptr c 0))) (.fn (.func 68) [] []), .r 71 [(.ro (x.map rV) 1 false), (.ro (x.map rV) 1 false), (.fn (.func 68) [] [])] (.bool true) H none] [] (by kernel_rfl) ⟨(ldV hc), (eq71_e (by kernel_rfl) hl _), trivial⟩
theorem eq72_cl {ts : Tabs} (hl : ts.length ≤ 1000000) (hr : ∀ x ∈ ts, ok71 x) {H : List Blk} {c : Nat} (hc : H[c]? = some (.cells [.fn (.func 68) [] []])) : ∃ lo, Cl G17 Mo.T 72 [tsV ts, tsV ts, .fn (.func 70) [] [.ptr c 0]] H (.bool true, H, lo) := by
 have key : ∃ r2 h' lo, (r2 = .bool true ∧ h' = H) ∧ Cl G17 Mo.T 72 [(.ro (List.map bV ts) 1 false), (.ro (List.map bV ts) 1 false), (.fn (.func 70) [] [(.ptr c 0)])] H (r2, h', lo) := by
  refine clE (Γ := G17) (tbl := Mo.T) (f := 72) (af := a72) (args := [(.ro (List.map bV ts) 1 false), (.ro (List.map bV ts) 1 false), (.fn (.func 70) [] [(.ptr c 0)])]) (h := H) (by kernel_rfl) (by kernel_rfl) (by kernel_rfl) (fun r h' => r = .bool true ∧ h' = H) ?_
  refine Wp.seq ((pathE (nt := 32) (live := [(0, (.ro (ts.map bV) 1 false)), (1, (.ro (ts.map bV) 1 false)), (2, (.fn (.func 70) [] [(.ptr c 0)]))]) [] [0, 1, 2] (e := .normal) (vals := [(.ro (ts.map bV) 1 false), (.ro (ts.map bV) 1 false), (.fn (.func 70) [] [(.ptr c 0)])]) (h' := H) (Lv.start (by rfl) (by simp)) (fun _ => by kernel_rfl) trivial).mono ?_)
  rintro e s ⟨rfl, t1, lo1, rfl, hl1⟩
  refine Wp.seq ((pathE (nt := 32) [.b (((List.length (ts.map bV)) : Int) != ((List.length (ts.map bV)) : Int)) false] [0, 1, 2] (e := .normal) (vals := [(.ro (ts.map bV) 1 false), (.ro (ts.map bV) 1 false), (.fn (.func 70) [] [(.ptr c 0)])]) (h' := H) hl1 (fun _ => by kernel_rfl) ⟨(cS rfl), trivial⟩).mono ?_)
  rintro e s ⟨rfl, t2, lo2, rfl, hl2⟩
  refine Wp.seq (Wp.seq ((pathE (nt := 32) [] [17, 0, 1, 2, 15, 16] (e := .normal) (vals := [(.int .i64 0), (.ro (ts.map bV) 1 false), (.ro (ts.map bV) 1 false), (.fn (.func 70) [] [(.ptr c 0)]), (.ro (ts.map bV) 1 false), (.int .i64 ((List.length (ts.map bV)) : Int))]) (h' := H) hl2 (fun _ => by kernel_rfl) trivial).mono ?_))
  rintro e s ⟨rfl, t3, lo3, rfl, hl3⟩
  refine (rangeL (i := 17) (n := 16) (c := 18) (d := 31) (X := Unit) (N := ((List.map bV ts)).length) (fun _ _ => [(0, (.ro (List.map bV ts) 1 false)), (1, (.ro (List.map bV ts) 1 false)), (2, (.fn (.func 70) [] [(.ptr c 0)])), (15, (.ro (List.map bV ts) 1 false)), (16, (.int .i64 (List.length (List.map bV ts) : Int)))]) (fun _ _ => H) (fun _ _ => True) (fun _ => False)
   (by simp; omega) (by decide) (by decide) (by decide) (by decide) (by decide) (fun _ _ => rfl) (fun _ _ => rfl) ?_ (x0 := ()) trivial hl3).mono ?_
  ·rintro k ⟨⟩ t4 lo4 hkN - hlb
   have hkr : k < ts.length := by simpa using hkN
   have hv : (List.map bV ts)[(k : Int).toNat]? = some (bV ts[k]) := by simp [hkr]
   obtain ⟨l70, h70⟩ := eq70_cl (hr _ (List.getElem_mem hkr)) hc
   generalize ts[k] = x at hv h70
   refine (pathE (nt := 32) [.p (1 = 1), .p ((0 : Int) ≤ (k : Int)), .p (((k : Int) : Int) < (List.length (ts.map bV) : Int)), .e (ts.map bV) (Int.toNat (k : Int)) (.ro (x.map rV) 1 false), .p (1 = 1), .p ((0 : Int) ≤ (k : Int)), .p (((k : Int) : Int) < (List.length (ts.map bV) : Int)), .e (ts.map bV) (Int.toNat (k : Int)) (.ro (x.map rV) 1 false), .r 70 [(.ro (x.map rV) 1 false), (.ro (x.map rV) 1 false), (.ptr c 0)] (.bool true) H l70] [17, 0, 1, 2, 15, 16] (e := .normal) (vals := [(.int .i64 (k : Int)), (.ro (ts.map bV) 1 false), (.ro (ts.map bV) 1 false), (.fn (.func 70) [] [(.ptr c 0)]), (.ro (ts.map bV) 1 false), (.int .i64 (List.length (ts.map bV) : Int))]) (h' := H) hlb (fun _ => by kernel_rfl) ⟨rfl, (by omega), (by omega), hv, rfl, (by omega), (by omega), hv, h70, trivial⟩).mono ?_
   rintro e s' ⟨rfl, t5, lo5, rfl, hl5⟩
   exact .inl ⟨rfl, (), t5, lo5, rfl, trivial, hl5⟩
  ·rintro e s (⟨rfl, _, t5, lo5, rfl, -, hle⟩ | ⟨rfl, h⟩)
   ·refine (pathE (nt := 32) [] [6] (e := .ret) (vals := [(.bool true)]) (h' := H) hle (fun _ => by kernel_rfl) trivial).mono ?_
    rintro e s ⟨rfl, t6, lo6, rfl, hl6⟩
    refine ⟨rfl, [.bool true], ?_, rfl, rfl⟩
    have := hl6.get (6, .bool true) (by simp)
    rw [getX_eq] at this
    show resAll _ [.t 6] = _
    simp only [resAll, resOf, this]
   ·exact h.elim
 obtain ⟨r2, h', lo, ⟨rfl, rfl⟩, h⟩ := key
 exact ⟨lo, h⟩
theorem same_cl {T T2 : List (List Int)} {V V2 : List Vw} {free free2 : Bool} {k p p2 : Nat} {s s2 : DS} {H : List Blk} (pl : OkPl T V) (pl2 : OkPl T2 V2) (ok : OkTb T k s.now) (ok2 : OkTb T2 k s2.now) (hk : k ≤ 99999) (hd : DBA T V free H p s) (hd2 : DBA T2 V2 free2 H p2 s2) (he : s.now = s2.now) :
  ∃ H' lo, Cl G17 Mo.T 29 [.ptr p 0, .ptr p2 0] H (.bool true, H', lo) ∧ Kept H H' := by
 have hK0 : Kept H (ap H [(.fn (.func 68) [] [])]) := (Kept.refl H).ap
 obtain ⟨G1, l1, h1, hk1⟩ := tb_e (Γ := G17) (by kernel_rfl) pl ok hk (hd.keep fun i x _ hx => hK0.2 i x hx)
 obtain ⟨G2, l2, h2, hk2⟩ := tb_e (Γ := G17) (by kernel_rfl) pl2 ok2 hk (hd2.keep fun i x _ hx => hk1.2 i x (hK0.2 i x hx))
 have hokT := ok.okTs pl (by omega)
 have hrr : ∀ x ∈ s.now, ok71 x := fun x hx => ⟨hokT.2 x hx, fun r hr => by
  obtain ⟨i, hi⟩ := List.mem_iff_getElem?.1 hx
  have := (fit_len pl ((ok.rows i x hi).2 r hr)).2.1
  omega⟩
 rw [← he] at h2
 generalize s.now = now at h1 h2 hokT hrr
 obtain ⟨l3, h3⟩ := eq72_cl (by have := hokT.1; omega) hrr (c := H.length) (hk2.2 _ _ (hk1.2 _ _ gl))
 obtain ⟨l, h⟩ := (clV 1 (af := a29) (r := (.bool true)) (h' := G2) [.w (.alloc [.nilf]) (.ptr H.length 0) (ap H [.nilf]) none, .w (.store 1 (.c (.ptr H.length 0)) (.c (.fn (.func 68) [] []))) (.tup []) (ap H [(.fn (.func 68) [] [])]) (some H.length), .r 23 [(.ptr p 0)] (.ro (now.map bV) 1 false) G1 l1, .r 23 [(.ptr p2 0)] (.ro (now.map bV) 1 false) G2 l2, .r 72 [(.ro (now.map bV) 1 false), (.ro (now.map bV) 1 false), (.fn (.func 70) [] [(.ptr H.length 0)])] (.bool true) G2 l3] [] (by kernel_rfl) ⟨rfl, stZ, h1, h2, h3, trivial⟩ : ∃ l, Cl G17 Mo.T 29 [.ptr p 0, .ptr p2 0] H (.bool true, G2, l))
 exact ⟨G2, l, h, (hK0.trans hk1).trans hk2⟩
def SM (args : List AV) (h : List Blk) (r : AV) (h' : List Blk) : Prop := r = .bool true ∧ Kept h h'
theorem sm_e {Γ : FuncId → Option GF} (hg : Γ 29 = some (anyG Tryz.prog 29 SM)) {T T2 : List (List Int)} {V V2 : List Vw} {free free2 : Bool} {k p p2 : Nat} {s s2 : DS} {H : List Blk} (pl : OkPl T V) (pl2 : OkPl T2 V2) (ok : OkTb T k s.now) (ok2 : OkTb T2 k s2.now) (hk : k ≤ 99999) (hd : DBA T V free H p s) (hd2 : DBA T2 V2 free2 H p2 s2) (he : s.now = s2.now) :
  ∃ H' lo, Cl Γ Mo.T 29 [.ptr p 0, .ptr p2 0] H (.bool true, H', lo) ∧ Kept H H' := by
 obtain ⟨H1, lo1, g1, g2⟩ := same_cl pl pl2 ok ok2 hk hd hd2 he
 obtain ⟨r, H', lo, ⟨rfl, h3⟩, hc⟩ := anyG_cl (Γ := Γ) (tbl := Mo.T) (args := [.ptr p 0, .ptr p2 0]) hg ⟨rfl, g2⟩ (Cl.ams K17 g1 (by kernel_rfl)) g2.1
 exact ⟨H', lo, hc, h3⟩
open Go
structure An where
 e : Int
 rows : List (List Val)
 sums : List SumT
 n : Int
abbrev anL (a : An) : List AV := [.int .i64 a.e, .ro (a.rows.map rV) 1 false, .ro (a.sums.map suV) 5 false, .int .i64 a.n]
abbrev anV (a : An) : AV := .agg (anL a)
structure OkAn (a : An) : Prop where
 r : a.rows.length ≤ 1000000
 rr : ∀ x ∈ a.rows, x.length ≤ 1000000
 s : a.sums.length ≤ 1000000
 ss : ∀ x ∈ a.sums, x.sums.length ≤ 1000000
theorem cv_err (e : Int) : Cv (errA e) (anV ⟨e, [], [], 0⟩) := Cv.agg (.cons (.refl _) (.cons Cv.nils (.cons Cv.nils (.cons (.refl _) .nil))))
theorem cv_num (n : Int) : Cv (.agg [.int .i64 0, .nils, .nils, .int .i64 n]) (anV ⟨0, [], [], n⟩) := Cv.agg (.cons (.refl _) (.cons Cv.nils (.cons Cv.nils (.cons (.refl _) .nil))))
theorem cv_rows (xs : List (List Val)) : Cv (rowsA xs) (anV ⟨0, xs, [], 0⟩) := Cv.agg (.cons (.refl _) (.cons (.refl _) (.cons Cv.nils (.cons (.refl _) .nil))))
theorem cv_sums (l : List SumT) : Cv (sumsA l) (anV ⟨0, [], l, 0⟩) := Cv.agg (.cons (.refl _) (.cons Cv.nils (.cons (.refl _) (.cons (.refl _) .nil))))
abbrev suL (s : SumT) : List AV := [.int .i64 s.by_.k, .int .i64 s.by_.n, .str s.by_.s, .int .i64 s.count, .ro (s.sums.map iV) 1 false]
theorem suL_elt (l : List SumT) : (l.map suL).map (elt 5) = l.map suV := by rw [List.map_map]; rfl
theorem suL_frz {h : List Blk} {n : Nat} {l : List SumT} : ∀ e ∈ l.map suL, mapO (AM.frz h (n + 2)) e = some e := fun e he => by
 obtain ⟨s, _, rfl⟩ := List.mem_map.1 he
 have e1 : ∀ i, AM.frz h (n + 2) (.int .i64 i) = some (.int .i64 i) := fun _ => rfl
 have e2 : AM.frz h (n + 2) (.str s.by_.s) = some (.str s.by_.s) := rfl
 have e3 : AM.frz h (n + 2) (.ro (s.sums.map iV) 1 false) = some (.ro (s.sums.map iV) 1 false) := by
  have e : mapO (AM.frz h (n + 1)) (s.sums.map iV) = some (s.sums.map iV) := mapO_of rfl fun i x y h1 h2 => by
   rw [h1] at h2; cases h2
   obtain ⟨z, _, rfl⟩ := List.mem_map.1 (List.mem_of_getElem? h1)
   rfl
  show ((mapO (AM.frz h (n + 1)) (s.sums.map iV)).bind fun es' => if (es'.all fun e => Nat.beq e.cells.length 1) then some (AV.ro es' 1 false) else none) = _
  rw [e, Option.bind_some, if_pos]
  rw [List.all_eq_true]
  intro x hx
  obtain ⟨y, _, rfl⟩ := List.mem_map.1 hx
  rfl
 simp only [mapO, e1, e2, e3]
theorem rows_frz {h : List Blk} {n : Nat} (x : List (List Val)) : AM.frz h (n + 4) (.ro (x.map rV) 1 false) = some (.ro (x.map rV) 1 false) := frz_bs x
theorem eq54_cl {r : List Val} (hl : r.length ≤ 1000000) (H : List Blk) : ∃ lo, Cl G8 Mo.T 54 [rV r, rV r] H (.bool true, H, lo) := by
 have key : ∃ r2 h' lo, (r2 = .bool true ∧ h' = H) ∧ Cl G8 Mo.T 54 [rV r, rV r] H (r2, h', lo) := by
  refine clE (Γ := G8) (tbl := Mo.T) (f := 54) (af := a54) (args := [rV r, rV r]) (h := H) (by kernel_rfl) (by kernel_rfl) (by kernel_rfl) (fun r h' => r = .bool true ∧ h' = H) ?_
  refine Wp.seq ((pathE (nt := 26) (live := [(0, (.ro (r.map vV) 3 false)), (1, (.ro (r.map vV) 3 false))]) [] [0, 1] (e := .normal) (vals := [(.ro (r.map vV) 3 false), (.ro (r.map vV) 3 false)]) (h' := H) (Lv.start (by rfl) (by simp)) (fun _ => by kernel_rfl) trivial).mono ?_)
  rintro e s ⟨rfl, t1, lo1, rfl, hl1⟩
  refine Wp.seq ((pathE (nt := 26) [.b (((List.length (r.map vV)) : Int) != ((List.length (r.map vV)) : Int)) false] [0, 1] (e := .normal) (vals := [(.ro (r.map vV) 3 false), (.ro (r.map vV) 3 false)]) (h' := H) hl1 (fun _ => by kernel_rfl) ⟨(cS rfl), trivial⟩).mono ?_)
  rintro e s ⟨rfl, t2, lo2, rfl, hl2⟩
  refine Wp.seq (Wp.seq ((pathE (nt := 26) [] [5, 0, 1] (e := .normal) (vals := [(.int .i64 0), (.ro (r.map vV) 3 false), (.ro (r.map vV) 3 false)]) (h' := H) hl2 (fun _ => by kernel_rfl) trivial).mono ?_))
  rintro e s ⟨rfl, t3, lo3, rfl, hl3⟩
  refine (forL (i := 5) (a := 15) (b := 16) (X := Unit) (N := r.length) (fun _ _ => [(0, (.ro (List.map vV r) 3 false)), (1, (.ro (List.map vV r) 3 false))]) (fun _ _ => H) (fun _ _ => True) (fun _ => False)
   (by omega) (by decide) (by decide) (by decide) (by decide) (by decide) (fun _ _ => rfl) ?_ ?_ ?_ (x0 := ()) trivial hl3).mono ?_
  ·rintro k ⟨⟩ t4 lo4 hkN - hlb
   refine (pathE (nt := 26) [.b (decide ((k : Int) < ((List.length (r.map vV)) : Int))) true] [5, 0, 1] (e := .normal) (vals := [(.int .i64 (k : Int)), (.ro (r.map vV) 3 false), (.ro (r.map vV) 3 false)]) (h' := H) hlb (fun _ => by kernel_rfl) ⟨(cT (by simp; omega)), trivial⟩).mono ?_
   rintro e s' ⟨rfl, t5, lo5, rfl, hl5⟩
   exact ⟨rfl, t5, lo5, rfl, hl5⟩
  ·rintro ⟨⟩ t4 lo4 - hlb
   refine (pathE (nt := 26) [.b (decide ((List.length r : Int) < ((List.length (r.map vV)) : Int))) false] [0, 1] (e := (.exit 0)) (vals := [(.ro (r.map vV) 3 false), (.ro (r.map vV) 3 false)]) (h' := H) hlb (fun _ => by kernel_rfl) ⟨(cF (by simp)), trivial⟩).mono ?_
   rintro e s' ⟨rfl, t5, lo5, rfl, hl5⟩
   exact ⟨rfl, t5, lo5, rfl, hl5⟩
  ·rintro k ⟨⟩ t4 lo4 hkr - hlb
   have hv : (List.map vV r)[(k : Int).toNat]? = some (.agg (enV r[k])) := by simp [hkr]
   generalize r[k] = v at hv
   refine (pathE (nt := 26) [.p (3 = 3), .p ((0 : Int) ≤ (k : Int)), .p (((k : Int) : Int) < (List.length (r.map vV) : Int)), .e (r.map vV) (Int.toNat (k : Int)) (.agg (enV v)), .p (3 = 3), .p ((0 : Int) ≤ (k : Int)), .p (((k : Int) : Int) < (List.length (r.map vV) : Int)), .e (r.map vV) (Int.toNat (k : Int)) (.agg (enV v)), .q (.eqS true [1, 1, 2] (.c (.agg [(.int .i64 v.k), (.int .i64 v.n), (.str v.s)])) (.c (.agg [(.int .i64 v.k), (.int .i64 v.n), (.str v.s)]))) false] [5, 0, 1] (e := .normal) (vals := [(.int .i64 (k : Int)), (.ro (r.map vV) 3 false), (.ro (r.map vV) 3 false)]) (h' := H) hlb (fun _ => by kernel_rfl) ⟨rfl, (by omega), (by simp; omega), hv, rfl, (by omega), (by simp; omega), hv, (eqSV v), trivial⟩).mono ?_
   rintro e s' ⟨rfl, t5, lo5, rfl, hl5⟩
   exact .inl ⟨rfl, (), t5, lo5, rfl, trivial, hl5⟩
  ·rintro e s (⟨rfl, _, t5, lo5, rfl, -, hle⟩ | ⟨rfl, h⟩)
   ·refine (pathE (nt := 26) [] [4] (e := .ret) (vals := [(.bool true)]) (h' := H) hle (fun _ => by kernel_rfl) trivial).mono ?_
    rintro e s ⟨rfl, t6, lo6, rfl, hl6⟩
    refine ⟨rfl, [.bool true], ?_, rfl, rfl⟩
    have := hl6.get (4, .bool true) (by simp)
    rw [getX_eq] at this
    show resAll _ [.t 4] = _
    simp only [resAll, resOf, this]
   ·exact h.elim
 obtain ⟨r2, h', lo, ⟨rfl, rfl⟩, h⟩ := key
 exact ⟨lo, h⟩
noncomputable def g54 : List AV → Option AV := gOf ok69 en69 f69
theorem eq54_ok : GOk Tryz.prog 54 (pureG g54) := gOf_ok ⟨_, Tryz.func54, by kernel_rfl, by kernel_rfl⟩ fun x hx => by
 obtain ⟨lo, h⟩ := eq54_cl hx []
 exact pureS_cl K8 h (by kernel_rfl) rfl
theorem eq54_e {Γ : FuncId → Option GF} (hg : Γ 54 = some (pureG g54)) {r : List Val} (hl : r.length ≤ 1000000) (H : List Blk) : Cl Γ Mo.T 54 [rV r, rV r] H (.bool true, H, none) := Cl.pure (g := g54) hg (gOf_eq inj69 (a := r) hl) (by simp [cloL, clo_rV]) rfl H
noncomputable def gam18 : List (Nat × GF) := (54, pureG g54) :: gam8
theorem K18 : Known (gGet gam18) tree.get Tryz.prog := known_of (by kernel_rfl) ⟨eq54_ok, oft_ok, ofv_ok, isVal_ok, view_ok, grp_ok, tot_ok, adt_ok, fit_ok, code_ok, int_ok, of_ok, add_ok, cmp_ok, good_ok, xSub_ok, xAdd_ok, trivial⟩ all
noncomputable abbrev G18 : FuncId → Option GF := gGet gam18
theorem eq17_cl {a : An} (ok : OkAn a) : ∃ H' lo, Cl G18 Mo.T 17 [anV a, anV a] [] (.bool true, H', lo) := by
 have key : ∃ r h' lo, (r = .bool true) ∧ Cl G18 Mo.T 17 [anV a, anV a] [] (r, h', lo) := by
  refine clE (Γ := G18) (tbl := Mo.T) (f := 17) (af := a17) (args := [anV a, anV a]) (h := []) (by kernel_rfl) (by kernel_rfl) (by kernel_rfl) (fun r h' => r = .bool true) ?_
  have hrl0 := ok.r
  have hsl0 := ok.s
  refine Wp.seq ((pathE (nt := 139) (live := [(0, (.agg (anL a))), (1, (.agg (anL a)))]) [.w (.box (.c (.agg (anL a)))) (.ptr (List.length ([] : List Blk)) 0) (ap ([] : List Blk) (anL a)) none, .w (.box (.c (.agg (anL a)))) (.ptr (List.length (ap ([] : List Blk) (anL a))) 0) (ap (ap ([] : List Blk) (anL a)) (anL a)) none] [2, 3] (e := .normal) (vals := [(.ptr (List.length ([] : List Blk)) 0), (.ptr (List.length (ap ([] : List Blk) (anL a))) 0)]) (h' := (ap (ap ([] : List Blk) (anL a)) (anL a))) (Lv.start (by rfl) (by simp)) (fun _ => by kernel_rfl) ⟨rfl, rfl, trivial⟩).mono ?_)
  rintro e s ⟨rfl, t1, lo1, rfl, hl1⟩
  have h0 : ((ap (ap ([] : List Blk) (anL a)) (anL a)))[((List.length ([] : List Blk)))]? = some (.cells (anL a)) := ga gl
  have h1 : ((ap (ap ([] : List Blk) (anL a)) (anL a)))[((List.length (ap ([] : List Blk) (anL a))))]? = some (.cells (anL a)) := gl
  generalize (ap (ap ([] : List Blk) (anL a)) (anL a)) = G at h0 h1 hl1 ⊢
  generalize (List.length (ap ([] : List Blk) (anL a))) = b1 at h1 hl1
  generalize (List.length ([] : List Blk)) = b0 at h0 hl1
  refine Wp.seq ((pathE (nt := 139) [.f (.load none (.c (.ptr b0 0))) (.int .i64 a.e), .f (.load none (.c (.ptr b1 0))) (.int .i64 a.e), .b (a.e != a.e) false, .f (.load none (.c (.ptr b0 3))) (.int .i64 a.n), .f (.load none (.c (.ptr b1 3))) (.int .i64 a.n), .b (a.n != a.n) false, .f (.load none (.c (.ptr b0 1))) (.ro (a.rows.map rV) 1 false), .f (.load none (.c (.ptr b1 1))) (.ro (a.rows.map rV) 1 false), .b (((List.length (a.rows.map rV)) : Int) != ((List.length (a.rows.map rV)) : Int)) false, .f (.load none (.c (.ptr b0 2))) (.ro (a.sums.map suV) 5 false), .f (.load none (.c (.ptr b1 2))) (.ro (a.sums.map suV) 5 false), .b (((List.length (a.sums.map suV)) : Int) != ((List.length (a.sums.map suV)) : Int)) false] [2, 3] (e := .normal) (vals := [(.ptr b0 0), (.ptr b1 0)]) (h' := G) hl1 (fun _ => by kernel_rfl) ⟨(ldV h0), (ldV h1), (cS rfl), (ldV h0), (ldV h1), (cS rfl), (ldV h0), (ldV h1), (cS rfl), (ldV h0), (ldV h1), (cS rfl), trivial⟩).mono ?_)
  rintro e s ⟨rfl, t2, lo2, rfl, hl2⟩
  refine Wp.seq (Wp.seq ((pathE (nt := 139) [] [5, 2, 3] (e := .normal) (vals := [(.int .i64 0), (.ptr b0 0), (.ptr b1 0)]) (h' := G) hl2 (fun _ => by kernel_rfl) trivial).mono ?_))
  rintro e s ⟨rfl, t3, lo3, rfl, hl3⟩
  refine (forL (i := 5) (a := 43) (b := 44) (X := Unit) (N := a.rows.length) (fun _ _ => [(2, .ptr b0 0), (3, .ptr b1 0)]) (fun _ _ => G) (fun _ _ => True) (fun _ => False)
   (by omega) (by decide) (by decide) (by decide) (by decide) (by decide) (fun _ _ => rfl) ?_ ?_ ?_ (x0 := ()) trivial hl3).mono ?_
  ·rintro k ⟨⟩ t4 lo4 hkN - hlb
   refine (pathE (nt := 139) [.f (.load none (.c (.ptr b0 1))) (.ro (a.rows.map rV) 1 false), .b (decide ((k : Int) < ((List.length (a.rows.map rV)) : Int))) true] [5, 2, 3] (e := .normal) (vals := [(.int .i64 (k : Int)), (.ptr b0 0), (.ptr b1 0)]) (h' := G) hlb (fun _ => by kernel_rfl) ⟨(ldV h0), (cT (by simp; omega)), trivial⟩).mono ?_
   rintro e s' ⟨rfl, t5, lo5, rfl, hl5⟩
   exact ⟨rfl, t5, lo5, rfl, hl5⟩
  ·rintro ⟨⟩ t4 lo4 - hlb
   refine (pathE (nt := 139) [.f (.load none (.c (.ptr b0 1))) (.ro (a.rows.map rV) 1 false), .b (decide ((List.length a.rows : Int) < ((List.length (a.rows.map rV)) : Int))) false] [2, 3] (e := (.exit 0)) (vals := [(.ptr b0 0), (.ptr b1 0)]) (h' := G) hlb (fun _ => by kernel_rfl) ⟨(ldV h0), (cF (by simp)), trivial⟩).mono ?_
   rintro e s' ⟨rfl, t5, lo5, rfl, hl5⟩
   exact ⟨rfl, t5, lo5, rfl, hl5⟩
  ·rintro k ⟨⟩ t4 lo4 hkr - hlb
   have hv : (List.map rV a.rows)[(k : Int).toNat]? = some (rV a.rows[k]) := by simp [hkr]
   have hrl := ok.rr _ (List.getElem_mem hkr)
   generalize a.rows[k] = r at hv hrl
   refine (pathE (nt := 139) [.f (.load none (.c (.ptr b0 1))) (.ro (a.rows.map rV) 1 false), .p (1 = 1), .p ((0 : Int) ≤ (k : Int)), .p (((k : Int) : Int) < (List.length (a.rows.map rV) : Int)), .e (a.rows.map rV) (Int.toNat (k : Int)) (.ro (r.map vV) 3 false), .f (.load none (.c (.ptr b1 1))) (.ro (a.rows.map rV) 1 false), .p (1 = 1), .p ((0 : Int) ≤ (k : Int)), .p (((k : Int) : Int) < (List.length (a.rows.map rV) : Int)), .e (a.rows.map rV) (Int.toNat (k : Int)) (.ro (r.map vV) 3 false), .r 54 [(.ro (r.map vV) 3 false), (.ro (r.map vV) 3 false)] (.bool true) G none] [5, 2, 3] (e := .normal) (vals := [(.int .i64 (k : Int)), (.ptr b0 0), (.ptr b1 0)]) (h' := G) hlb (fun _ => by kernel_rfl) ⟨(ldV h0), rfl, (by omega), (by simp; omega), hv, (ldV h1), rfl, (by omega), (by simp; omega), hv, (eq54_e (by kernel_rfl) hrl _), trivial⟩).mono ?_
   rintro e s' ⟨rfl, t5, lo5, rfl, hl5⟩
   exact .inl ⟨rfl, (), t5, lo5, rfl, trivial, hl5⟩
  rintro e s (⟨rfl, _, t5, lo5, rfl, -, hl5⟩ | ⟨rfl, h⟩)
  rotate_left
  ·exact h.elim
  refine Wp.seq (Wp.seq ((pathE (nt := 139) [] [6, 2, 3] (e := .normal) (vals := [(.int .i64 0), (.ptr b0 0), (.ptr b1 0)]) (h' := G) hl5 (fun _ => by kernel_rfl) trivial).mono ?_))
  rintro e s ⟨rfl, t6, lo6, rfl, hl6⟩
  refine (forL (i := 6) (a := 62) (b := 63) (X := Unit) (N := a.sums.length) (fun _ _ => [(2, .ptr b0 0), (3, .ptr b1 0)]) (fun _ _ => G) (fun _ _ => True) (fun _ => False)
   (by omega) (by decide) (by decide) (by decide) (by decide) (by decide) (fun _ _ => rfl) ?_ ?_ ?_ (x0 := ()) trivial hl6).mono ?_
  ·rintro k ⟨⟩ t4 lo4 hkN - hlb
   refine (pathE (nt := 139) [.f (.load none (.c (.ptr b0 2))) (.ro (a.sums.map suV) 5 false), .b (decide ((k : Int) < ((List.length (a.sums.map suV)) : Int))) true] [6, 2, 3] (e := .normal) (vals := [(.int .i64 (k : Int)), (.ptr b0 0), (.ptr b1 0)]) (h' := G) hlb (fun _ => by kernel_rfl) ⟨(ldV h0), (cT (by simp; omega)), trivial⟩).mono ?_
   rintro e s' ⟨rfl, t5, lo5, rfl, hl5⟩
   exact ⟨rfl, t5, lo5, rfl, hl5⟩
  ·rintro ⟨⟩ t4 lo4 - hlb
   refine (pathE (nt := 139) [.f (.load none (.c (.ptr b0 2))) (.ro (a.sums.map suV) 5 false), .b (decide ((List.length a.sums : Int) < ((List.length (a.sums.map suV)) : Int))) false] [2, 3] (e := (.exit 2)) (vals := [(.ptr b0 0), (.ptr b1 0)]) (h' := G) hlb (fun _ => by kernel_rfl) ⟨(ldV h0), (cF (by simp)), trivial⟩).mono ?_
   rintro e s' ⟨rfl, t5, lo5, rfl, hl5⟩
   exact ⟨rfl, t5, lo5, rfl, hl5⟩
  ·rintro k ⟨⟩ t7 lo7 hkr - hlb
   have hs : (List.map suV a.sums)[(k : Int).toNat]? = some (suV a.sums[k]) := by simp [hkr]
   have hsl := ok.ss _ (List.getElem_mem hkr)
   generalize a.sums[k] = s at hs hsl
   have hblk : ∀ {Q : AExit → St → Prop}, Wp G18 Mo.T (blk (hd (tl (lp (blk (tl (hd (tl (tl (tl a17.body)))))))))) { t := t7, h := G, lo := lo7 } (fun e s => e = .normal ∧ Q .normal s) → Wp G18 Mo.T (hd (tl (lp (blk (tl (hd (tl (tl (tl a17.body))))))))) { t := t7, h := G, lo := lo7 } (fun e s => e = .normal ∧ Q .normal s) := fun h => Wp.block (h.mono fun e s h => by obtain ⟨rfl, h⟩ := h; exact ⟨rfl, h⟩)
   refine (hblk (Q := fun _ s => ∃ t' lo', s = { t := t', h := G, lo := lo' } ∧ Lv 139 [(6, .int .i64 (k : Int)), (2, .ptr b0 0), (3, .ptr b1 0)] t') ?_).mono ?_
   ·refine Wp.seq ((pathE (nt := 139) (.f (.load none (.c (.ptr b0 2))) (.ro (a.sums.map suV) 5 false) :: .p (5 = 5) :: .p ((0 : Int) ≤ (k : Int)) :: .p (((k : Int) : Int) < (List.length (a.sums.map suV) : Int)) :: .e (a.sums.map suV) (Int.toNat (k : Int)) (.agg [(.int .i64 s.by_.k), (.int .i64 s.by_.n), (.str s.by_.s), (.int .i64 s.count), (.ro (s.sums.map iV) 1 false)]) :: .f (.load none (.c (.ptr b1 2))) (.ro (a.sums.map suV) 5 false) :: .p (5 = 5) :: .p ((0 : Int) ≤ (k : Int)) :: .p (((k : Int) : Int) < (List.length (a.sums.map suV) : Int)) :: .e (a.sums.map suV) (Int.toNat (k : Int)) (.agg [(.int .i64 s.by_.k), (.int .i64 s.by_.n), (.str s.by_.s), (.int .i64 s.count), (.ro (s.sums.map iV) 1 false)]) :: .q (.eqS true [1, 1, 2] (.c (.agg [(.int .i64 s.by_.k), (.int .i64 s.by_.n), (.str s.by_.s)])) (.c (.agg [(.int .i64 s.by_.k), (.int .i64 s.by_.n), (.str s.by_.s)]))) false :: .f (.load none (.c (.ptr b0 2))) (.ro (a.sums.map suV) 5 false) :: .p (5 = 5) :: .p ((0 : Int) ≤ (k : Int)) :: .p (((k : Int) : Int) < (List.length (a.sums.map suV) : Int)) :: .e (a.sums.map suV) (Int.toNat (k : Int)) (.agg [(.int .i64 s.by_.k), (.int .i64 s.by_.n), (.str s.by_.s), (.int .i64 s.count), (.ro (s.sums.map iV) 1 false)]) :: .f (.load none (.c (.ptr b1 2))) (.ro (a.sums.map suV) 5 false) :: [.p (5 = 5), .p ((0 : Int) ≤ (k : Int)), .p (((k : Int) : Int) < (List.length (a.sums.map suV) : Int)), .e (a.sums.map suV) (Int.toNat (k : Int)) (.agg [(.int .i64 s.by_.k), (.int .i64 s.by_.n), (.str s.by_.s), (.int .i64 s.count), (.ro (s.sums.map iV) 1 false)]), .b (s.count != s.count) false, .f (.load none (.c (.ptr b0 2))) (.ro (a.sums.map suV) 5 false), .p (5 = 5), .p ((0 : Int) ≤ (k : Int)), .p (((k : Int) : Int) < (List.length (a.sums.map suV) : Int)), .e (a.sums.map suV) (Int.toNat (k : Int)) (.agg [(.int .i64 s.by_.k), (.int .i64 s.by_.n), (.str s.by_.s), (.int .i64 s.count), (.ro (s.sums.map iV) 1 false)]), .f (.load none (.c (.ptr b1 2))) (.ro (a.sums.map suV) 5 false), .p (5 = 5), .p ((0 : Int) ≤ (k : Int)), .p (((k : Int) : Int) < (List.length (a.sums.map suV) : Int)), .e (a.sums.map suV) (Int.toNat (k : Int)) (.agg [(.int .i64 s.by_.k), (.int .i64 s.by_.n), (.str s.by_.s), (.int .i64 s.count), (.ro (s.sums.map iV) 1 false)]), .b (((List.length (s.sums.map iV)) : Int) != ((List.length (s.sums.map iV)) : Int)) false]) [6, 2, 3] (e := .normal) (vals := [(.int .i64 (k : Int)), (.ptr b0 0), (.ptr b1 0)]) (h' := G) hlb (fun _ => by kernel_rfl) ⟨(ldV h0), rfl, (by omega), (by simp; omega), hs, (ldV h1), rfl, (by omega), (by simp; omega), hs, (eqSV s.by_), (ldV h0), rfl, (by omega), (by simp; omega), hs, (ldV h1), rfl, (by omega), (by simp; omega), hs, (cS rfl), (ldV h0), rfl, (by omega), (by simp; omega), hs, (ldV h1), rfl, (by omega), (by simp; omega), hs, (cS rfl), trivial⟩).mono ?_)
    rintro e s' ⟨rfl, t8, lo8, rfl, hl7⟩
    refine Wp.seq ((pathE (nt := 139) [] [7, 6, 2, 3] (e := .normal) (vals := [(.int .i64 0), (.int .i64 (k : Int)), (.ptr b0 0), (.ptr b1 0)]) (h' := G) hl7 (fun _ => by kernel_rfl) trivial).mono ?_)
    rintro e s' ⟨rfl, t9, lo9, rfl, hl9⟩
    refine (forL (i := 7) (a := 118) (b := 119) (X := Unit) (N := s.sums.length) (fun _ _ => [(6, .int .i64 (k : Int)), (2, .ptr b0 0), (3, .ptr b1 0)]) (fun _ _ => G) (fun _ _ => True) (fun _ => False)
     (by omega) (by decide) (by decide) (by decide) (by decide) (by decide) (fun _ _ => rfl) ?_ ?_ ?_ (x0 := ()) trivial hl9).mono ?_
    ·rintro j ⟨⟩ t4 lo4 hjN - hlj
     refine (pathE (nt := 139) [.f (.load none (.c (.ptr b0 2))) (.ro (a.sums.map suV) 5 false), .p (5 = 5), .p ((0 : Int) ≤ (k : Int)), .p (((k : Int) : Int) < (List.length (a.sums.map suV) : Int)), .e (a.sums.map suV) (Int.toNat (k : Int)) (.agg [(.int .i64 s.by_.k), (.int .i64 s.by_.n), (.str s.by_.s), (.int .i64 s.count), (.ro (s.sums.map iV) 1 false)]), .b (decide ((j : Int) < ((List.length (s.sums.map iV)) : Int))) true] [7, 6, 2, 3] (e := .normal) (vals := [(.int .i64 (j : Int)), (.int .i64 (k : Int)), (.ptr b0 0), (.ptr b1 0)]) (h' := G) hlj (fun _ => by kernel_rfl) ⟨(ldV h0), rfl, (by omega), (by simp; omega), hs, (cT (by simp; omega)), trivial⟩).mono ?_
     rintro e s' ⟨rfl, t5, lo5, rfl, hl5⟩
     exact ⟨rfl, t5, lo5, rfl, hl5⟩
    ·rintro ⟨⟩ t4 lo4 - hlj
     refine (pathE (nt := 139) [.f (.load none (.c (.ptr b0 2))) (.ro (a.sums.map suV) 5 false), .p (5 = 5), .p ((0 : Int) ≤ (k : Int)), .p (((k : Int) : Int) < (List.length (a.sums.map suV) : Int)), .e (a.sums.map suV) (Int.toNat (k : Int)) (.agg [(.int .i64 s.by_.k), (.int .i64 s.by_.n), (.str s.by_.s), (.int .i64 s.count), (.ro (s.sums.map iV) 1 false)]), .b (decide ((List.length s.sums : Int) < ((List.length (s.sums.map iV)) : Int))) false] [6, 2, 3] (e := (.exit 4)) (vals := [(.int .i64 (k : Int)), (.ptr b0 0), (.ptr b1 0)]) (h' := G) hlj (fun _ => by kernel_rfl) ⟨(ldV h0), rfl, (by omega), (by simp; omega), hs, (cF (by simp)), trivial⟩).mono ?_
     rintro e s' ⟨rfl, t5, lo5, rfl, hl5⟩
     exact ⟨rfl, t5, lo5, rfl, hl5⟩
    ·rintro j ⟨⟩ t4 lo4 hjr - hlj
     have hy : (List.map iV s.sums)[(j : Int).toNat]? = some (iV s.sums[j]) := by simp [hjr]
     generalize s.sums[j] = y at hy
     refine (pathE (nt := 139) [.f (.load none (.c (.ptr b0 2))) (.ro (a.sums.map suV) 5 false), .p (5 = 5), .p ((0 : Int) ≤ (k : Int)), .p (((k : Int) : Int) < (List.length (a.sums.map suV) : Int)), .e (a.sums.map suV) (Int.toNat (k : Int)) (.agg [(.int .i64 s.by_.k), (.int .i64 s.by_.n), (.str s.by_.s), (.int .i64 s.count), (.ro (s.sums.map iV) 1 false)]), .p (1 = 1), .p ((0 : Int) ≤ (j : Int)), .p (((j : Int) : Int) < (List.length (s.sums.map iV) : Int)), .e (s.sums.map iV) (Int.toNat (j : Int)) (.int .i64 y), .f (.load none (.c (.ptr b1 2))) (.ro (a.sums.map suV) 5 false), .p (5 = 5), .p ((0 : Int) ≤ (k : Int)), .p (((k : Int) : Int) < (List.length (a.sums.map suV) : Int)), .e (a.sums.map suV) (Int.toNat (k : Int)) (.agg [(.int .i64 s.by_.k), (.int .i64 s.by_.n), (.str s.by_.s), (.int .i64 s.count), (.ro (s.sums.map iV) 1 false)]), .p (1 = 1), .p ((0 : Int) ≤ (j : Int)), .p (((j : Int) : Int) < (List.length (s.sums.map iV) : Int)), .e (s.sums.map iV) (Int.toNat (j : Int)) (.int .i64 y), .b (y != y) false] [7, 6, 2, 3] (e := .normal) (vals := [(.int .i64 (j : Int)), (.int .i64 (k : Int)), (.ptr b0 0), (.ptr b1 0)]) (h' := G) hlj (fun _ => by kernel_rfl) ⟨(ldV h0), rfl, (by omega), (by simp; omega), hs, rfl, (by omega), (by simp; omega), hy, (ldV h1), rfl, (by omega), (by simp; omega), hs, rfl, (by omega), (by simp; omega), hy, (cS rfl), trivial⟩).mono ?_
     rintro e s' ⟨rfl, t5, lo5, rfl, hl5⟩
     exact .inl ⟨rfl, (), t5, lo5, rfl, trivial, hl5⟩
    ·rintro e s' (⟨rfl, _, t5, lo5, rfl, -, hl5⟩ | ⟨rfl, h⟩)
     ·exact ⟨rfl, t5, lo5, rfl, hl5⟩
     ·exact h.elim
   ·rintro e s' ⟨rfl, t8, lo8, rfl, hl8⟩
    exact .inl ⟨rfl, (), t8, lo8, rfl, trivial, hl8⟩
  rintro e s (⟨rfl, _, t7, lo7, rfl, -, hle⟩ | ⟨rfl, h⟩)
  rotate_left
  ·exact h.elim
  refine (pathE (nt := 139) [] [4] (e := .ret) (vals := [(.bool true)]) (h' := G) hle (fun _ => by kernel_rfl) trivial).mono ?_
  rintro e s ⟨rfl, t8, lo8, rfl, hl8⟩
  refine ⟨rfl, [.bool true], ?_, rfl⟩
  have := hl8.get (4, .bool true) (by simp)
  rw [getX_eq] at this
  show resAll _ [.t 4] = _
  simp only [resAll, resOf, this]
 obtain ⟨r, h', lo, rfl, h⟩ := key
 exact ⟨h', lo, h⟩
abbrev en17 (a : An) : List AV := [anV a, anV a]
abbrev f17 (a : An) : AV := .bool true
noncomputable def g17 : List AV → Option AV := gOf OkAn en17 f17
theorem eq17_ok : GOk Tryz.prog 17 (pureG g17) := gOf_ok ⟨_, Tryz.func17, by kernel_rfl, by kernel_rfl⟩ fun x hx => by
 obtain ⟨H', lo, h⟩ := eq17_cl hx
 exact pureS_cl K18 h (by kernel_rfl) rfl
theorem told_pure {a : An} (ok : OkAn a) : PureS Tryz.prog 18 [anV a] (anV a) := by
 have key : ∃ r h' lo, (∃ sv, r = (.agg [(.int .i64 a.e), (.ro (List.map rV a.rows) 1 false), sv, (.int .i64 a.n)]) ∧ Gro 5 (a.sums.map suL) h' sv) ∧ Cl G18 Mo.T 18 [anV a] [] (r, h', lo) := by
  refine clE (Γ := G18) (tbl := Mo.T) (f := 18) (af := a18) (args := [anV a]) (h := []) (by kernel_rfl) (by kernel_rfl) (by kernel_rfl) (fun r h' => ∃ sv, r = (.agg [(.int .i64 a.e), (.ro (List.map rV a.rows) 1 false), sv, (.int .i64 a.n)]) ∧ Gro 5 (a.sums.map suL) h' sv) ?_
  have hsl0 := ok.s
  refine Wp.seq ((pathE (nt := 44) (live := [(0, (.agg (anL a)))]) [.w (.box (.c (.agg (anL a)))) (.ptr (List.length ([] : List Blk)) 0) (ap ([] : List Blk) (anL a)) none, .w (.alloc [(.int .i64 0), .nils, .nils, (.int .i64 0)]) (.ptr (List.length (ap ([] : List Blk) (anL a))) 0) (ap (ap ([] : List Blk) (anL a)) [(.int .i64 0), .nils, .nils, (.int .i64 0)]) none] [1, 2] (e := .normal) (vals := [(.ptr (List.length ([] : List Blk)) 0), (.ptr (List.length (ap ([] : List Blk) (anL a))) 0)]) (h' := (ap (ap ([] : List Blk) (anL a)) [(.int .i64 0), .nils, .nils, (.int .i64 0)])) (Lv.start (by rfl) (by simp)) (fun _ => by kernel_rfl) ⟨rfl, rfl, trivial⟩).mono ?_)
  rintro e s ⟨rfl, t1, lo1, rfl, hl1⟩
  have h0 : ((ap (ap ([] : List Blk) (anL a)) [(.int .i64 0), .nils, .nils, (.int .i64 0)]))[((List.length ([] : List Blk)))]? = some (.cells (anL a)) := ga gl
  have h1 : ((ap (ap ([] : List Blk) (anL a)) [(.int .i64 0), .nils, .nils, (.int .i64 0)]))[((List.length (ap ([] : List Blk) (anL a))))]? = some (.cells [(.int .i64 0), .nils, .nils, (.int .i64 0)]) := gl
  have g0 : (List.length ([] : List Blk)) = 0 := rfl
  have g1 : (List.length (ap ([] : List Blk) (anL a))) = 1 := rfl
  have gG : ((ap (ap ([] : List Blk) (anL a)) [(.int .i64 0), .nils, .nils, (.int .i64 0)])).length = 2 := rfl
  generalize (ap (ap ([] : List Blk) (anL a)) [(.int .i64 0), .nils, .nils, (.int .i64 0)]) = G at h0 h1 hl1 gG ⊢
  generalize (List.length (ap ([] : List Blk) (anL a))) = b1 at h1 hl1 g1
  generalize (List.length ([] : List Blk)) = b0 at h0 hl1 g0
  refine Wp.seq ((pathE (nt := 44) [.f (.load none (.c (.ptr b0 0))) (.int .i64 a.e), .f (.load none (.c (.ptr b0 1))) (.ro (a.rows.map rV) 1 false), .f (.load none (.c (.ptr b0 3))) (.int .i64 a.n), .w (.alloc [(.int .i64 0), .nils, .nils, (.int .i64 0)]) (.ptr G.length 0) (ap G [(.int .i64 0), .nils, .nils, (.int .i64 0)]) none, .w (.store 4 (.c (.ptr G.length 0)) (.c (.agg [(.int .i64 a.e), (.ro (a.rows.map rV) 1 false), .nils, (.int .i64 a.n)]))) (.tup []) (ap G [(.int .i64 a.e), (.ro (a.rows.map rV) 1 false), .nils, (.int .i64 a.n)]) (some G.length)] [1, 2, 3] (e := .normal) (vals := [(.ptr b0 0), (.ptr b1 0), (.ptr G.length 0)]) (h' := (ap G [(.int .i64 a.e), (.ro (a.rows.map rV) 1 false), .nils, (.int .i64 a.n)])) hl1 (fun _ => by kernel_rfl) ⟨(ldV h0), (ldV h0), (ldV h0), rfl, stZ, trivial⟩).mono ?_)
  rintro e s ⟨rfl, t2, lo2, rfl, hl2⟩
  have h0' : ((ap G [(.int .i64 a.e), (.ro (List.map rV a.rows) 1 false), .nils, (.int .i64 a.n)]))[b0]? = some (.cells (anL a)) := ga h0
  have h1' : ((ap G [(.int .i64 a.e), (.ro (List.map rV a.rows) 1 false), .nils, (.int .i64 a.n)]))[b1]? = some (.cells [(.int .i64 0), .nils, .nils, (.int .i64 0)]) := ga h1
  have h2' : ((ap G [(.int .i64 a.e), (.ro (List.map rV a.rows) 1 false), .nils, (.int .i64 a.n)]))[G.length]? = some (.cells [(.int .i64 a.e), (.ro (List.map rV a.rows) 1 false), .nils, (.int .i64 a.n)]) := gl
  have gG1 : ((ap G [(.int .i64 a.e), (.ro (List.map rV a.rows) 1 false), .nils, (.int .i64 a.n)])).length = 3 := by simp [gG]
  generalize (ap G [(.int .i64 a.e), (.ro (List.map rV a.rows) 1 false), .nils, (.int .i64 a.n)]) = G1 at h0' h1' h2' hl2 gG1 ⊢
  rw [gG] at h2' hl2
  obtain ⟨b2, g2⟩ : ∃ b2, 2 = b2 := ⟨2, rfl⟩
  have hl2 : Lv 44 [(1, .ptr b0 0), (2, .ptr b1 0), (3, .ptr b2 0)] t2 := by rw [← g2]; exact hl2
  rw [g2] at h2'
  refine Wp.seq (Wp.seq ((pathE (nt := 44) [] [4, 1, 2, 3] (e := .normal) (vals := [(.int .i64 0), (.ptr b0 0), (.ptr b1 0), (.ptr b2 0)]) (h' := G1) hl2 (fun _ => by kernel_rfl) trivial).mono ?_))
  rintro e s ⟨rfl, t3, lo3, rfl, hl3⟩
  refine (forL (i := 4) (a := 17) (b := 18) (X := List Blk × AV) (N := a.sums.length) (fun _ _ => [(1, .ptr b0 0), (2, .ptr b1 0), (3, .ptr b2 0)]) (fun _ x => x.1) (fun k x => x.1[b0]? = some (.cells (anL a)) ∧ x.1[b1]? = some (.cells [(.int .i64 0), .nils, .nils, (.int .i64 0)]) ∧ x.1[b2]? = some (.cells [(.int .i64 a.e), (.ro (List.map rV a.rows) 1 false), x.2, (.int .i64 a.n)]) ∧ Gro 5 ((a.sums.take k).map suL) x.1 x.2 ∧ (∀ i, svId x.2 = some i → 3 ≤ i) ∧ 3 ≤ x.1.length) (fun _ => False)
   (by omega) (by decide) (by decide) (by decide) (by decide) (by decide) (fun _ _ => rfl) ?_ ?_ ?_ (x0 := (G1, .nils)) ⟨h0', h1', h2', Gro.nil _ _, (fun i h => by cases h), (by show 3 ≤ G1.length; omega)⟩ hl3).mono ?_
  ·rintro k ⟨G, sv⟩ t4 lo4 hkN ⟨h0, h1, h2, -⟩ hlb
   simp only at h0 h1 h2
   refine (pathE (nt := 44) [.f (.load none (.c (.ptr b0 2))) (.ro (a.sums.map suV) 5 false), .b (decide ((k : Int) < ((List.length (a.sums.map suV)) : Int))) true] [4, 1, 2, 3] (e := .normal) (vals := [(.int .i64 (k : Int)), (.ptr b0 0), (.ptr b1 0), (.ptr b2 0)]) (h' := G) hlb (fun _ => by kernel_rfl) ⟨(ldV h0), (cT (by simp; omega)), trivial⟩).mono ?_
   rintro e s' ⟨rfl, t5, lo5, rfl, hl5⟩
   exact ⟨rfl, t5, lo5, rfl, hl5⟩
  ·rintro ⟨G, sv⟩ t4 lo4 ⟨h0, h1, h2, -⟩ hlb
   simp only at h0 h1 h2
   refine (pathE (nt := 44) [.f (.load none (.c (.ptr b0 2))) (.ro (a.sums.map suV) 5 false), .b (decide ((List.length a.sums : Int) < ((List.length (a.sums.map suV)) : Int))) false] [1, 2, 3] (e := (.exit 0)) (vals := [(.ptr b0 0), (.ptr b1 0), (.ptr b2 0)]) (h' := G) hlb (fun _ => by kernel_rfl) ⟨(ldV h0), (cF (by simp)), trivial⟩).mono ?_
   rintro e s' ⟨rfl, t5, lo5, rfl, hl5⟩
   exact ⟨rfl, t5, lo5, rfl, hl5⟩
  ·rintro k ⟨G, sv⟩ t4 lo4 hkr ⟨h0, h1, h2, hg, hid, hlen⟩ hlb
   simp only at h0 h1 h2 hg hid hlen
   have hs : (List.map suV a.sums)[(k : Int).toNat]? = some (suV a.sums[k]) := by simp [hkr]
   have htk : a.sums.take (k + 1) = a.sums.take k ++ [a.sums[k]] := List.take_succ_eq_append_getElem hkr
   generalize a.sums[k] = s at hs htk
   have hsv := hg.eqv
   have hg1 : Gro 5 ((a.sums.take k).map suL) (ap G (suL s)) sv := hg.grow fun i _ x hx => ga hx
   have hrsl : (a.sums.take k).length = k := by rw [List.length_take]; omega
   obtain ⟨sv', H1, lo1, happ, hg2, hi2, hl2, hfr⟩ := hg1.app (by_ := 64) (e := suL s) rfl rfl (jd := G.length) gl (by rw [List.length_map]; omega)
   have f0 := hfr b0 _ (fun h => by have := hid b0 h; omega) (ga h0)
   have f1 := hfr b1 _ (fun h => by have := hid b1 h; omega) (ga h1)
   have f2 := hfr b2 _ (fun h => by have := hid b2 h; omega) (ga h2)
   generalize hjd : ((ap G (suL s))).length = jd at hi2 hl2
   have hjd2 : jd = G.length + 1 := by rw [← hjd]; simp
   generalize (((a.sums.take k).map suL).length + 1) = nn at hi2
   subst hi2
   refine (pathE (nt := 44) [.p (stays evC (AOper.mk (some 20) (.load none (.c (.ptr b2 2))) none 0 1) sv [G, (ap G [(.int .i64 s.by_.k), (.int .i64 s.by_.n), (.str s.by_.s), (.int .i64 s.count), (.ro (s.sums.map iV) 1 false)]), H1, (H1.set b2 (.cells [(.int .i64 a.e), (.ro (a.rows.map rV) 1 false), (.sl jd 5 0 nn nn false), (.int .i64 a.n)]))] = true), .f (.load none (.c (.ptr b2 2))) sv, .f (.load none (.c (.ptr b0 2))) (.ro (a.sums.map suV) 5 false), .p (5 = 5), .p ((0 : Int) ≤ (k : Int)), .p (((k : Int) : Int) < (List.length (a.sums.map suV) : Int)), .e (a.sums.map suV) (Int.toNat (k : Int)) (.agg [(.int .i64 s.by_.k), (.int .i64 s.by_.n), (.str s.by_.s), (.int .i64 s.count), (.ro (s.sums.map iV) 1 false)]), .f (.load none (.c (.ptr b0 2))) (.ro (a.sums.map suV) 5 false), .p (5 = 5), .p ((0 : Int) ≤ (k : Int)), .p (((k : Int) : Int) < (List.length (a.sums.map suV) : Int)), .e (a.sums.map suV) (Int.toNat (k : Int)) (.agg [(.int .i64 s.by_.k), (.int .i64 s.by_.n), (.str s.by_.s), (.int .i64 s.count), (.ro (s.sums.map iV) 1 false)]), .f (.load none (.c (.ptr b0 2))) (.ro (a.sums.map suV) 5 false), .p (5 = 5), .p ((0 : Int) ≤ (k : Int)), .p (((k : Int) : Int) < (List.length (a.sums.map suV) : Int)), .e (a.sums.map suV) (Int.toNat (k : Int)) (.agg [(.int .i64 s.by_.k), (.int .i64 s.by_.n), (.str s.by_.s), (.int .i64 s.count), (.ro (s.sums.map iV) 1 false)]), .w (.buildSl [(.int .i64 0), (.int .i64 0), (.str []), (.int .i64 0), .nils] 1 [(0, (.c (.agg [(.int .i64 s.by_.k), (.int .i64 s.by_.n), (.str s.by_.s), (.int .i64 s.count), (.ro (s.sums.map iV) 1 false)])))]) (.sl G.length 5 0 1 1 true) (ap G [(.int .i64 s.by_.k), (.int .i64 s.by_.n), (.str s.by_.s), (.int .i64 s.count), (.ro (s.sums.map iV) 1 false)]) none, .w (.append 5 64 (.c sv) (.c (.sl G.length 5 0 1 1 true))) (.sl jd 5 0 nn nn false) H1 lo1, .w (.store 1 (.c (.ptr b2 2)) (.c (.sl jd 5 0 nn nn false))) (.tup []) (H1.set b2 (.cells [(.int .i64 a.e), (.ro (a.rows.map rV) 1 false), (.sl jd 5 0 nn nn false), (.int .i64 a.n)])) (some b2)] [4, 1, 2, 3] (e := .normal) (vals := [(.int .i64 (k : Int)), (.ptr b0 0), (.ptr b1 0), (.ptr b2 0)]) (h' := (H1.set b2 (.cells [(.int .i64 a.e), (.ro (a.rows.map rV) 1 false), (.sl jd 5 0 nn nn false), (.int .i64 a.n)]))) hlb (fun _ => by kernel_rfl) ⟨(stays2 hsv (And.intro (ldV h2) (And.intro (ldV (ga h2)) trivial))), (ldV h2), (ldV h0), rfl, (by omega), (by simp; omega), hs, (ldV h0), rfl, (by omega), (by simp; omega), hs, (ldV h0), rfl, (by omega), (by simp; omega), hs, rfl, happ, (stK f2), trivial⟩).mono ?_
   rintro e s' ⟨rfl, t5, lo5, rfl, hl5⟩
   refine .inl ⟨rfl, ((List.set H1 b2 (.cells [(.int .i64 a.e), (.ro (List.map rV a.rows) 1 false), (.sl jd 5 0 nn nn false), (.int .i64 a.n)])), .sl jd 5 0 nn nn false), t5, lo5, rfl, ⟨gne (by omega) f0, gne (by omega) f1, gset f2, ?_, (fun i hi => by cases hi; omega), by simp; omega⟩, hl5⟩
   rw [htk, List.map_append]
   exact hg2.grow fun i hi x hx => by cases hi; exact gne (by omega) hx
  ·rintro e s (⟨rfl, ⟨G, sv⟩, t5, lo5, rfl, ⟨h0, h1, h2, hg, hid, hlen⟩, hle⟩ | ⟨rfl, h⟩)
   ·simp only at h0 h1 h2 hg hid hlen hle
    rw [List.take_of_length_le (Nat.le_refl _)] at hg
    have hone : ((AV.agg [(.int .i64 a.e), (.ro (List.map rV a.rows) 1 false), sv, (.int .i64 a.n)])).cells.all AV.one = true := by
     simp only [AV.cells, List.all_cons, hg.one]
     rfl
    refine (pathE (nt := 44) [.f (.load (some 4) (.c (.ptr b2 0))) (.agg [(.int .i64 a.e), (.ro (a.rows.map rV) 1 false), sv, (.int .i64 a.n)]), .w (.store 4 (.c (.ptr b1 0)) (.c (.agg [(.int .i64 a.e), (.ro (a.rows.map rV) 1 false), sv, (.int .i64 a.n)]))) (.tup []) (G.set b1 (.cells [(.int .i64 a.e), (.ro (a.rows.map rV) 1 false), sv, (.int .i64 a.n)])) (some b1)] [2] (e := .ret) (vals := [(.ptr b1 0)]) (h' := (G.set b1 (.cells [(.int .i64 a.e), (.ro (a.rows.map rV) 1 false), sv, (.int .i64 a.n)]))) hle (fun _ => by kernel_rfl) ⟨(ldV h2), (stC h1 (by kernel_rfl) (by kernel_rfl) hone), trivial⟩).mono ?_
    rintro e s ⟨rfl, t6, lo6, rfl, hl6⟩
    refine ⟨rfl, _, resCell (hl6.ev List.mem_cons_self) (ldC (gset h1) (by kernel_rfl)), sv, rfl, ?_⟩
    exact hg.grow fun i hi x hx => gne (by have := hid i hi; omega) hx
   ·exact h.elim
 obtain ⟨r, h', lo, ⟨sv, rfl, hg⟩, h⟩ := key
 obtain ⟨r2, hf, hcv⟩ := hg.frz (n := 3) (by omega) (fun e he => suL_frz (n := 1) e he)
 rw [suL_elt] at hcv
 have e1 : ∀ i, AM.frz h' 4 (.int .i64 i) = some (.int .i64 i) := fun _ => rfl
 have e2 := rows_frz (h := h') (n := 0) a.rows
 have hfz : AM.frz h' 5 (.agg [(.int .i64 a.e), (.ro (List.map rV a.rows) 1 false), sv, (.int .i64 a.n)]) = some (.agg [.int .i64 a.e, .ro (List.map rV a.rows) 1 false, r2, .int .i64 a.n]) := by
  rw [AM.frz]
  simp only [mapO, e1, e2, hf, Option.map_some]
 exact (pureS_clf K18 h (by kernel_rfl) hfz).cv (Cv.agg (.cons (.refl _) (.cons (.refl _) (.cons hcv (.cons (.refl _) .nil)))))
abbrev en18 (a : An) : List AV := [anV a]
noncomputable def g18 : List AV → Option AV := gOf OkAn en18 anV
theorem told_ok : GOk Tryz.prog 18 (pureG g18) := gOf_ok ⟨_, Tryz.func18, by kernel_rfl, by kernel_rfl⟩ fun x hx => told_pure hx
open Go
theorem great_ex (w : Wi) (hr : w.row.length ≤ 9223372036854775807) : ∃ (b : Bool) (H' : List Blk) (lo : Option Nat), Cl G8 Mo.T 11 [.agg (enWi w)] [] (.bool b, H', lo) := by
 have key : ∃ r h' lo, (∃ b, r = .bool b) ∧ Cl G8 Mo.T 11 [.agg (enWi w)] [] (r, h', lo) := by
  refine clE (Γ := G8) (tbl := Mo.T) (f := 11) (af := a11) (args := [.agg (enWi w)]) (h := []) (by kernel_rfl) (by kernel_rfl) (by kernel_rfl) (fun r h' => ∃ b, r = .bool b) ?_
  have fin : ∀ {t : List AV} {h : List Blk} {lo : Option Nat} {b : Bool}, Lv 40 [(2, .bool b)] t → ∃ vs, resAll ({ t := t, h := h, lo := lo } : St) a11.res = some vs ∧ ∃ b, packRes vs = .bool b := fun {t h lo b} hl => by
   have := hl.get (2, .bool b) (by simp)
   rw [getX_eq] at this
   exact ⟨[.bool b], by show resAll _ [.t 2] = _; simp only [resAll, resOf, this], b, rfl⟩
  refine Wp.seq ((pathE (nt := 40) (live := [(0, (.agg (enWi w)))]) [.w (.box (.c (.agg (enWi w)))) (.ptr (List.length ([] : List Blk)) 0) (ap ([] : List Blk) (enWi w)) none] [1, 2] (e := .normal) (vals := [(.ptr (List.length ([] : List Blk)) 0), (.bool false)]) (h' := (ap ([] : List Blk) (enWi w))) (Lv.start (by rfl) (by simp)) (fun _ => by kernel_rfl) ⟨rfl, trivial⟩).mono ?_)
  rintro e s ⟨rfl, t1, lo1, rfl, hl1⟩
  have h0 : ((ap ([] : List Blk) (enWi w)))[((List.length ([] : List Blk)))]? = some (.cells (enWi w)) := gl
  generalize (ap ([] : List Blk) (enWi w)) = G at h0 hl1 ⊢
  generalize (List.length ([] : List Blk)) = b0 at h0 hl1
  by_cases hrl : w.row.length > 8
  ·refine Wp.seq ((pathE (nt := 40) [.f (.load none (.c (.ptr b0 8))) (.ro (w.row.map vV) 3 false), .b (decide (((List.length (w.row.map vV)) : Int) > 8)) true] [2] (e := .ret) (vals := [(.bool true)]) (h' := G) hl1 (fun _ => by kernel_rfl) ⟨(ldV h0), (cT (by simp; omega)), trivial⟩).mono ?_)
   rintro e s ⟨rfl, t2, lo2, rfl, hl2⟩
   exact ⟨rfl, fin hl2⟩
  by_cases hb : IntKind.i64.wrap ((IntKind.i64.wrap ((List.length w.key.s : Int) + (List.length w.hi.s : Int))) + (List.length w.vl.s : Int)) > 100
  ·refine Wp.seq ((pathE (nt := 40) [.f (.load none (.c (.ptr b0 8))) (.ro (w.row.map vV) 3 false), .b (decide (((List.length (w.row.map vV)) : Int) > 8)) false, .f (.load none (.c (.ptr b0 4))) (.str w.key.s), .g (.len 0 (.c (.str w.key.s))) (.int .i64 (List.length w.key.s : Int)), .f (.load none (.c (.ptr b0 7))) (.str w.hi.s), .g (.len 0 (.c (.str w.hi.s))) (.int .i64 (List.length w.hi.s : Int)), .f (.load none (.c (.ptr b0 12))) (.str w.vl.s), .g (.len 0 (.c (.str w.vl.s))) (.int .i64 (List.length w.vl.s : Int)), .b (decide ((IntKind.i64.wrap ((IntKind.i64.wrap ((List.length w.key.s : Int) + (List.length w.hi.s : Int))) + (List.length w.vl.s : Int))) > 100)) true] [2] (e := .ret) (vals := [(.bool true)]) (h' := G) hl1 (fun _ => by kernel_rfl) ⟨(ldV h0), (cF (by simp; omega)), (ldV h0), rfl, (ldV h0), rfl, (ldV h0), rfl, (cT hb), trivial⟩).mono ?_)
   rintro e s ⟨rfl, t2, lo2, rfl, hl2⟩
   exact ⟨rfl, fin hl2⟩
  refine Wp.seq ((pathE (nt := 40) [.f (.load none (.c (.ptr b0 8))) (.ro (w.row.map vV) 3 false), .b (decide (((List.length (w.row.map vV)) : Int) > 8)) false, .f (.load none (.c (.ptr b0 4))) (.str w.key.s), .g (.len 0 (.c (.str w.key.s))) (.int .i64 (List.length w.key.s : Int)), .f (.load none (.c (.ptr b0 7))) (.str w.hi.s), .g (.len 0 (.c (.str w.hi.s))) (.int .i64 (List.length w.hi.s : Int)), .f (.load none (.c (.ptr b0 12))) (.str w.vl.s), .g (.len 0 (.c (.str w.vl.s))) (.int .i64 (List.length w.vl.s : Int)), .b (decide ((IntKind.i64.wrap ((IntKind.i64.wrap ((List.length w.key.s : Int) + (List.length w.hi.s : Int))) + (List.length w.vl.s : Int))) > 100)) false] [1, 2] (e := .normal) (vals := [(.ptr b0 0), (.bool false)]) (h' := G) hl1 (fun _ => by kernel_rfl) ⟨(ldV h0), (cF (by simp; omega)), (ldV h0), rfl, (ldV h0), rfl, (ldV h0), rfl, (cF hb), trivial⟩).mono ?_)
  rintro e s ⟨rfl, t2, lo2, rfl, hl2⟩
  refine Wp.seq (Wp.seq ((pathE (nt := 40) [] [3, 1, 2] (e := .normal) (vals := [(.int .i64 0), (.ptr b0 0), (.bool false)]) (h' := G) hl2 (fun _ => by kernel_rfl) trivial).mono ?_))
  rintro e s ⟨rfl, t3, lo3, rfl, hl3⟩
  refine (forL (i := 3) (a := 30) (b := 31) (X := Unit) (N := w.row.length) (fun _ _ => [(1, .ptr b0 0), (2, .bool false)]) (fun _ _ => G) (fun _ _ => True) (fun s => ∃ vs, resAll s a11.res = some vs ∧ ∃ b, packRes vs = .bool b)
   (by omega) (by decide) (by decide) (by decide) (by decide) (by decide) (fun _ _ => rfl) ?_ ?_ ?_ (x0 := ()) trivial hl3).mono ?_
  ·rintro k ⟨⟩ t4 lo4 hkN - hlb
   refine (pathE (nt := 40) [.f (.load none (.c (.ptr b0 8))) (.ro (w.row.map vV) 3 false), .b (decide ((k : Int) < ((List.length (w.row.map vV)) : Int))) true] [3, 1, 2] (e := .normal) (vals := [(.int .i64 (k : Int)), (.ptr b0 0), (.bool false)]) (h' := G) hlb (fun _ => by kernel_rfl) ⟨(ldV h0), (cT (by simp; omega)), trivial⟩).mono ?_
   rintro e s' ⟨rfl, t5, lo5, rfl, hl5⟩
   exact ⟨rfl, t5, lo5, rfl, hl5⟩
  ·rintro ⟨⟩ t4 lo4 - hlb
   refine (pathE (nt := 40) [.f (.load none (.c (.ptr b0 8))) (.ro (w.row.map vV) 3 false), .b (decide ((List.length w.row : Int) < ((List.length (w.row.map vV)) : Int))) false] [1, 2] (e := (.exit 0)) (vals := [(.ptr b0 0), (.bool false)]) (h' := G) hlb (fun _ => by kernel_rfl) ⟨(ldV h0), (cF (by simp)), trivial⟩).mono ?_
   rintro e s' ⟨rfl, t5, lo5, rfl, hl5⟩
   exact ⟨rfl, t5, lo5, rfl, hl5⟩
  ·rintro k ⟨⟩ t4 lo4 hkr - hlb
   have hv : (List.map vV w.row)[(k : Int).toNat]? = some (vV w.row[k]) := by simp [hkr]
   generalize w.row[k] = v at hv
   by_cases hb : (List.length v.s : Int) > 60
   ·refine (pathE (nt := 40) [.f (.load none (.c (.ptr b0 8))) (.ro (w.row.map vV) 3 false), .p (3 = 3), .p ((0 : Int) ≤ (k : Int)), .p (((k : Int) : Int) < (List.length (w.row.map vV) : Int)), .e (w.row.map vV) (Int.toNat (k : Int)) (.agg [(.int .i64 v.k), (.int .i64 v.n), (.str v.s)]), .g (.len 0 (.c (.str v.s))) (.int .i64 (List.length v.s : Int)), .b (decide ((List.length v.s : Int) > 60)) true] [2] (e := .ret) (vals := [(.bool true)]) (h' := G) hlb (fun _ => by kernel_rfl) ⟨(ldV h0), rfl, (by omega), (by simp; omega), hv, rfl, (cT hb), trivial⟩).mono ?_
    rintro e s' ⟨rfl, t5, lo5, rfl, hl5⟩
    exact .inr ⟨rfl, fin hl5⟩
   ·refine (pathE (nt := 40) [.f (.load none (.c (.ptr b0 8))) (.ro (w.row.map vV) 3 false), .p (3 = 3), .p ((0 : Int) ≤ (k : Int)), .p (((k : Int) : Int) < (List.length (w.row.map vV) : Int)), .e (w.row.map vV) (Int.toNat (k : Int)) (.agg [(.int .i64 v.k), (.int .i64 v.n), (.str v.s)]), .g (.len 0 (.c (.str v.s))) (.int .i64 (List.length v.s : Int)), .b (decide ((List.length v.s : Int) > 60)) false] [3, 1, 2] (e := .normal) (vals := [(.int .i64 (k : Int)), (.ptr b0 0), (.bool false)]) (h' := G) hlb (fun _ => by kernel_rfl) ⟨(ldV h0), rfl, (by omega), (by simp; omega), hv, rfl, (cF hb), trivial⟩).mono ?_
    rintro e s' ⟨rfl, t5, lo5, rfl, hl5⟩
    exact .inl ⟨rfl, (), t5, lo5, rfl, trivial, hl5⟩
  ·rintro e s (⟨rfl, _, t5, lo5, rfl, -, hle⟩ | ⟨rfl, h⟩)
   ·refine (pathE (nt := 40) [] [2] (e := .ret) (vals := [(.bool false)]) (h' := G) hle (fun _ => by kernel_rfl) trivial).mono ?_
    rintro e s ⟨rfl, t6, lo6, rfl, hl6⟩
    exact ⟨rfl, fin hl6⟩
   ·exact ⟨rfl, h⟩
 obtain ⟨r, h', lo, ⟨b, rfl⟩, h⟩ := key
 exact ⟨b, h', lo, h⟩
open Classical in
noncomputable def greatB (w : Wi) : Bool := if h : w.row.length ≤ 9223372036854775807 then (great_ex w h).choose else false
def okG (w : Wi) : Prop := w.row.length ≤ 9223372036854775807
abbrev enG1 (w : Wi) : List AV := [.agg (enWi w)]
noncomputable abbrev fG1 (w : Wi) : AV := .bool (greatB w)
noncomputable def g11 : List AV → Option AV := gOf okG enG1 fG1
theorem injG (a b : Wi) (_ : okG a) (_ : okG b) (h : enG1 a = enG1 b) : fG1 a = fG1 b := by
 rw [wi_inj (AV.agg.inj (List.cons.inj h).1)]
theorem great_ok : GOk Tryz.prog 11 (pureG g11) := gOf_ok ⟨_, Tryz.func11, by kernel_rfl, by kernel_rfl⟩ fun w hw => by
 obtain ⟨H', lo, h⟩ := (great_ex w hw).choose_spec
 have e : greatB w = (great_ex w hw).choose := dif_pos hw
 show PureS _ _ _ (.bool (greatB w))
 rw [e]
 exact pureS_cl K8 h (by kernel_rfl) rfl
theorem great_e {Γ : FuncId → Option GF} (hg : Γ 11 = some (pureG g11)) {w : Wi} (hw : okG w) (H : List Blk) : Cl Γ Mo.T 11 [.agg (enWi w)] H (.bool (greatB w), H, none) := Cl.pure (g := g11) hg (gOf_eq injG (a := w) hw) (by simp only [cloL, clo_wi]; rfl) rfl H
def T0 : List (List Int) := [[1, 1, 1], [1]]
def V0 : List Vw := [(0, 1, [2]), (0, 2, [])]
theorem plans_pure : PureS Tryz.prog 27 [] (pA T0 V0) := by
 have key : ((callX (gGet gam8) Mo.T 50 27 [] []).bind fun x => AM.frz x.2.1 8 x.1) = some (.agg [.ro [.ro [iV 1, iV 1, iV 1] 1 true, .ro [iV 1] 1 true] 1 true, .ro [.agg [iV 0, iV 1, .ro [iV 2] 1 true], .agg [iV 0, iV 2, .nils]] 3 true]) := by kernel_rfl
 obtain ⟨⟨r, h', lo⟩, h1, h2⟩ := Option.bind_eq_some_iff.1 key
 rw [callX_eq] at h1
 have hr : ∀ {es es' : List AV} {st : Nat} {ex : Bool}, es.length = es'.length → (∀ i, i < es.length → CvL (es.getD i .dead).cells (es'.getD i .dead).cells) → Cv (.ro es st ex) (.ro es' st false) := Cv.ro
 refine (pureS_clf K8 ⟨50, h1⟩ (by kernel_rfl) h2).cv (Cv.agg (.cons (hr rfl fun i hi => ?_) (.cons (hr rfl fun i hi => ?_) .nil)))
 ·match i, hi with
  | 0, _ => exact .cons Cv.ex .nil
  | 1, _ => exact .cons Cv.ex .nil
 ·match i, hi with
  | 0, _ => exact .cons (.refl _) (.cons (.refl _) (.cons Cv.ex .nil))
  | 1, _ => exact .cons (.refl _) (.cons (.refl _) (.cons Cv.nils .nil))
def g27 : List AV → Option AV
 | [] => some (pA T0 V0)
 | _ => none
theorem plans_ok : GOk Tryz.prog 27 (pureG g27) := by
 refine pureG_known ⟨_, Tryz.func27, by kernel_rfl, by kernel_rfl⟩ fun args r hr _ => ?_
 unfold g27 at hr
 split at hr <;> cases hr
 exact plans_pure
theorem plans_e {Γ : FuncId → Option GF} (hg : Γ 27 = some (pureG g27)) (H : List Blk) : Cl Γ Mo.T 27 [] H (pA T0 V0, H, none) := Cl.pure (g := g27) hg rfl rfl (clo_pA _ _) H
theorem okP0 : OkP T0 V0 where
 tl := by decide
 cl := by decide
 vl := by decide
 vw := by
  intro w hw
  simp only [V0, List.mem_cons, List.not_mem_nil, or_false] at hw
  rcases hw with rfl | rfl
  ·exact ⟨by decide, by decide, by decide, [1, 1, 1], rfl, by decide, by decide⟩
  ·exact ⟨by decide, by decide, by decide, [1, 1, 1], rfl, by decide, by decide⟩
 num := by
  intro w hw c hc
  simp only [V0, List.mem_cons, List.not_mem_nil, or_false] at hw
  rcases hw with rfl | rfl <;> (cases hc; rfl)
def okG9 (x : List (List Int) × List Vw) : Prop := PureS Tryz.prog 9 [pA x.1 x.2] (.bool true)
abbrev enG9 (x : List (List Int) × List Vw) : List AV := [pA x.1 x.2]
noncomputable def g9 : List AV → Option AV := gOf okG9 enG9 (fun _ => .bool true)
theorem g9_ok : GOk Tryz.prog 9 (pureG g9) := gOf_ok ⟨_, Tryz.func9, by kernel_rfl, by kernel_rfl⟩ fun x hx => hx
theorem g9_e {Γ : FuncId → Option GF} (hg : Γ 9 = some (pureG g9)) {T : List (List Int)} {V : List Vw} (h : okG9 (T, V)) (H : List Blk) : Cl Γ Mo.T 9 [pA T V] H (.bool true, H, none) := Cl.pure (g := g9) hg (gOf_eq (fun _ _ _ _ _ => rfl) (a := (T, V)) h) (by simp only [cloL, clo_pA]; rfl) rfl H
noncomputable def gam19 : List (Nat × GF) := (9, pureG g9) :: gam8
theorem K19 : Known (gGet gam19) tree.get Tryz.prog := known_of (by kernel_rfl) ⟨g9_ok, oft_ok, ofv_ok, isVal_ok, view_ok, grp_ok, tot_ok, adt_ok, fit_ok, code_ok, int_ok, of_ok, add_ok, cmp_ok, good_ok, xSub_ok, xAdd_ok, trivial⟩ all
noncomputable abbrev G19 : FuncId → Option GF := gGet gam19
theorem good0 : okG9 (T0, V0) := by
 have key : res1 (callX (gGet gam0) Mo.T 100 9 [pA T0 V0] []) = some (.bool true) := by kernel_rfl
 obtain ⟨h', lo, h⟩ := res1_some key
 rw [callX_eq] at h
 exact pureS_cl K0 ⟨100, h⟩ (by kernel_rfl) rfl
theorem new_cl {T : List (List Int)} {V : List Vw} (free : Bool) (hg9 : okG9 (T, V)) (hT : T.length ≤ 1000) (H : List Blk) : ∃ lo, Cl G19 Mo.T 8 [pA T V, .bool free] H (.ptr (((ap H [(.ro (List.map tV T) 1 false), (.ro (List.map vwV V) 3 false)]) ++ [(Blk.cells (List.replicate (List.length T) AV.nils))])).length 0, (ap ((ap H [(.ro (List.map tV T) 1 false), (.ro (List.map vwV V) 3 false)]) ++ [(.cells (List.replicate (List.length T) .nils))]) [(.ro (List.map tV T) 1 false), (.ro (List.map vwV V) 3 false), (.bool free), (.sl (List.length (ap H [(.ro (List.map tV T) 1 false), (.ro (List.map vwV V) 3 false)])) 1 0 (List.length T) (List.length T) true), .nils, .nils]), lo) := by
 have hmk : wOp evC (ap H [(.ro (List.map tV T) 1 false), (.ro (List.map vwV V) 3 false)]) (.mksl [.nils] 24 (.c (.int .i64 (List.length T : Int))) (.c (.int .i64 (List.length T : Int)))) = some ((.sl (List.length (ap H [(.ro (List.map tV T) 1 false), (.ro (List.map vwV V) 3 false)])) 1 0 (List.length T) (List.length T) true), ((ap H [(.ro (List.map tV T) 1 false), (.ro (List.map vwV V) 3 false)]) ++ [(Blk.cells (List.replicate (List.length T) AV.nils))]), none) := by
  have hfl : (List.replicate T.length [AV.nils]).flatten = List.replicate T.length .nils := by
   have : ∀ n, (List.replicate n [AV.nils]).flatten = List.replicate n AV.nils := fun n => by
    induction n with
    | zero => rfl
    | succ k ih => rw [List.replicate_succ, List.flatten_cons, ih]; rfl
   rw [this]
  simp only [wOp, evC]
  rw [if_pos (by simp; omega)]
  simp only [Int.toNat_natCast, hfl, List.length_singleton]
 exact clV 1 (af := a8) (r := (.ptr (List.length ((ap H [(.ro (T.map tV) 1 false), (.ro (V.map vwV) 3 false)]) ++ [(.cells (List.replicate T.length .nils))])) 0)) (h' := (ap ((ap H [(.ro (T.map tV) 1 false), (.ro (V.map vwV) 3 false)]) ++ [(.cells (List.replicate T.length .nils))]) [(.ro (T.map tV) 1 false), (.ro (V.map vwV) 3 false), (.bool free), (.sl (List.length (ap H [(.ro (T.map tV) 1 false), (.ro (V.map vwV) 3 false)])) 1 0 T.length T.length true), .nils, .nils])) [.w (.box (.c (.agg [(.ro (T.map tV) 1 false), (.ro (V.map vwV) 3 false)]))) (.ptr H.length 0) (ap H [(.ro (T.map tV) 1 false), (.ro (V.map vwV) 3 false)]) none, .f (.load (some 2) (.c (.ptr H.length 0))) (.agg [(.ro (T.map tV) 1 false), (.ro (V.map vwV) 3 false)]), .r 9 [(.agg [(.ro (T.map tV) 1 false), (.ro (V.map vwV) 3 false)])] (.bool true) (ap H [(.ro (T.map tV) 1 false), (.ro (V.map vwV) 3 false)]) none, .p (stays evC (AOper.mk (some 8) (.load (some 2) (.c (.ptr H.length 0))) none 0 1) (.agg [(.ro (T.map tV) 1 false), (.ro (V.map vwV) 3 false)]) [(ap H [(.ro (T.map tV) 1 false), (.ro (V.map vwV) 3 false)]), ((ap H [(.ro (T.map tV) 1 false), (.ro (V.map vwV) 3 false)]) ++ [(.cells (List.replicate T.length .nils))]), (ap ((ap H [(.ro (T.map tV) 1 false), (.ro (V.map vwV) 3 false)]) ++ [(.cells (List.replicate T.length .nils))]) [(.ro (T.map tV) 1 false), (.ro (V.map vwV) 3 false), (.bool free), (.sl (List.length (ap H [(.ro (T.map tV) 1 false), (.ro (V.map vwV) 3 false)])) 1 0 T.length T.length true), .nils, .nils])] = true), .f (.load (some 2) (.c (.ptr H.length 0))) (.agg [(.ro (T.map tV) 1 false), (.ro (V.map vwV) 3 false)]), .f (.load none (.c (.ptr H.length 0))) (.ro (T.map tV) 1 false), .g (.len 1 (.c (.ro (T.map tV) 1 false))) (.int .i64 (List.length T : Int)), .w (.mksl [.nils] 24 (.c (.int .i64 (List.length T : Int))) (.c (.int .i64 (List.length T : Int)))) (.sl (List.length (ap H [(.ro (T.map tV) 1 false), (.ro (V.map vwV) 3 false)])) 1 0 T.length T.length true) ((ap H [(.ro (T.map tV) 1 false), (.ro (V.map vwV) 3 false)]) ++ [(.cells (List.replicate T.length .nils))]) none, .w (.box (.c (.agg [(.ro (T.map tV) 1 false), (.ro (V.map vwV) 3 false), (.bool free), (.sl (List.length (ap H [(.ro (T.map tV) 1 false), (.ro (V.map vwV) 3 false)])) 1 0 T.length T.length true), .nils, .nils]))) (.ptr (List.length ((ap H [(.ro (T.map tV) 1 false), (.ro (V.map vwV) 3 false)]) ++ [(.cells (List.replicate T.length .nils))])) 0) (ap ((ap H [(.ro (T.map tV) 1 false), (.ro (V.map vwV) 3 false)]) ++ [(.cells (List.replicate T.length .nils))]) [(.ro (T.map tV) 1 false), (.ro (V.map vwV) 3 false), (.bool free), (.sl (List.length (ap H [(.ro (T.map tV) 1 false), (.ro (V.map vwV) 3 false)])) 1 0 T.length T.length true), .nils, .nils]) none] [] (by kernel_rfl) ⟨rfl, (ldV gl), (g9_e (by kernel_rfl) hg9 _), (stays2 eqv_plan (And.intro (ldV gl) (And.intro (ldV (ga gl)) trivial))), (ldV gl), (ldV gl), (by simp [pOp, evC]), hmk, rfl, trivial⟩
def newS (T : List (List Int)) : DS := ⟨T.map fun _ => [], none, []⟩
theorem new_m {T : List (List Int)} {V : List Vw} (free : Bool) (hg9 : okG9 (T, V)) (hT : T.length ≤ 1000) (H : List Blk) : ∃ h', AMS Tryz.prog 8 [pA T V, .bool free] H (.ptr (H.length + 2) 0) h' ∧ DBA T V free h' (H.length + 2) (newS T) ∧ Kept H h' ∧ ∀ i ∈ ids h' (H.length + 2), H.length ≤ i := by
 obtain ⟨lo, h⟩ := new_cl free hg9 hT H
 have e0 : (((ap H [(.ro (List.map tV T) 1 false), (.ro (List.map vwV V) 3 false)]) ++ [(Blk.cells (List.replicate (List.length T) AV.nils))])).length = H.length + 2 := by simp
 have e1 : ((ap H [(.ro (List.map tV T) 1 false), (.ro (List.map vwV V) 3 false)])).length = H.length + 1 := by simp
 rw [e0, e1] at h
 have hs := Cl.ams K19 h (by kernel_rfl)
 have hcv : CvH ((((ap H [(.ro (List.map tV T) 1 false), (.ro (List.map vwV V) 3 false)]) ++ [(Blk.cells (List.replicate (List.length T) AV.nils))])) ++ [.cells (dbC T V free (H.length + 1) T.length .nils .nils)]) (((ap H [(.ro (List.map tV T) 1 false), (.ro (List.map vwV V) 3 false)])) ++ [.cells (tsC (newS T).now)] ++ [.cells (dbC T V free (H.length + 1) T.length .nils .nils)]) := by
  refine ⟨by simp, fun i b' hb => ?_⟩
  by_cases hi : i = H.length + 1
  ·subst hi
   have h1 : (((ap H [(.ro (List.map tV T) 1 false), (.ro (List.map vwV V) 3 false)])) ++ [.cells (tsC (newS T).now)] ++ [.cells (dbC T V free (H.length + 1) T.length .nils .nils)])[H.length + 1]? = some (.cells (tsC (newS T).now)) := by rw [← e1]; exact ga gl
   have h2 : ((((ap H [(.ro (List.map tV T) 1 false), (.ro (List.map vwV V) 3 false)]) ++ [(Blk.cells (List.replicate (List.length T) AV.nils))])) ++ [.cells (dbC T V free (H.length + 1) T.length .nils .nils)])[H.length + 1]? = some (.cells (List.replicate T.length .nils)) := by rw [← e1]; exact ga gl
   rw [h1] at hb
   cases hb
   refine ⟨_, h2, .cells ⟨by simp [newS], fun j hj => ?_⟩⟩
   have hj2 : j < T.length := by simpa using hj
   have a1 : (List.replicate T.length AV.nils).getD j .dead = .nils := by simp [List.getD_eq_getElem?_getD, hj2]
   have a2 : (tsC (newS T).now).getD j .dead = bV [] := by simp [newS, List.getD_eq_getElem?_getD, hj2]
   rw [a1, a2]
   exact Cv.nils
  ·refine ⟨b', ?_, .refl _⟩
   rcases Nat.lt_or_ge i (H.length + 1) with hlt | hge
   ·rw [List.getElem?_append_left (by simp; omega), List.getElem?_append_left (by simp; omega)] at hb ⊢
    exact hb
   ·have : i = H.length + 2 := by
     have := (List.getElem?_eq_some_iff.1 hb).1
     simp at this; omega
    subst this
    have e2 : (((ap H [(.ro (List.map tV T) 1 false), (.ro (List.map vwV V) 3 false)])) ++ [Blk.cells (tsC (newS T).now)]).length = H.length + 2 := by simp
    have h1 : (((ap H [(.ro (List.map tV T) 1 false), (.ro (List.map vwV V) 3 false)])) ++ [.cells (tsC (newS T).now)] ++ [.cells (dbC T V free (H.length + 1) T.length .nils .nils)])[H.length + 2]? = some (.cells (dbC T V free (H.length + 1) T.length .nils .nils)) := by rw [← e2]; exact gl
    rw [h1] at hb
    rw [← hb, ← e0]
    exact gl
 have e2 : (((ap H [(.ro (List.map tV T) 1 false), (.ro (List.map vwV V) 3 false)])) ++ [Blk.cells (tsC (newS T).now)]).length = H.length + 2 := by simp
 have hp : (((ap H [(.ro (List.map tV T) 1 false), (.ro (List.map vwV V) 3 false)])) ++ [.cells (tsC (newS T).now)] ++ [.cells (dbC T V free (H.length + 1) T.length .nils .nils)])[H.length + 2]? = some (.cells (dbC T V free (H.length + 1) (newS T).now.length .nils .nils)) := by
  rw [← e2, show (newS T).now.length = T.length by simp [newS]]; exact gl
 have hids := ids_of hp
 refine ⟨_, hs.cv hcv (.refl _), ⟨H.length + 1, .nils, .nils, ⟨hp, by rw [← e1]; exact ga gl, rfl, .inl ⟨rfl, rfl⟩, by rw [hids]; simp [slId]⟩⟩, ((Kept.refl H).ap.ap).ap, fun i hi => ?_⟩
 rw [hids] at hi
 simp [slId] at hi
 omega
open Go
noncomputable def kdA (T : List (List Int)) (V : List Vw) (free : Bool) (s : DS) (w : Wi) : An × DS :=
 if w.kd = 1 then (⟨(insS T V free s.now w).1, [], [], 0⟩, { s with now := (insS T V free s.now w).2 })
 else if w.kd = 2 ∨ w.kd = 3 then (⟨(cgS T V free s.now w).1, [], [], 0⟩, { s with now := (cgS T V free s.now w).2 })
 else if w.kd = 4 then (⟨0, rowsS (s.now.getD w.tb.toNat []) w.key w.key, [], 0⟩, s)
 else if w.kd = 5 then (⟨0, rowsS (s.now.getD w.tb.toNat []) w.key w.hi, [], 0⟩, s)
 else if w.kd = 6 then (⟨0, [], sumsS (groupsS T V s.now w.tb) w.key w.key, 0⟩, s)
 else if w.kd = 7 then (⟨0, [], sumsS (groupsS T V s.now w.tb) w.key w.hi, 0⟩, s)
 else if w.kd = 8 then (if 4 ≤ s.marks.length then (⟨5, [], [], 0⟩, s) else (⟨0, [], [], (s.marks.length : Int)⟩, { s with marks := s.marks ++ [s.now] }))
 else if w.kd = 9 then (⟨(backS s w.n).1, [], [], 0⟩, (backS s w.n).2) else (⟨0, [], [], 0⟩, s)
noncomputable def doA (T : List (List Int)) (V : List Vw) (free : Bool) (s : DS) (w : Wi) : An × DS := match s.was with
 | none => (⟨13, [], [], 0⟩, s)
 | some _ => if wishB T V w then kdA T V free s w else (⟨1, [], [], 0⟩, s)
theorem kd_cv {T : List (List Int)} {V : List Vw} {free : Bool} {s : DS} {w : Wi} : Cv (kdS T V free s w).1 (anV (kdA T V free s w).1) ∧ (kdS T V free s w).2 = (kdA T V free s w).2 := by
 unfold kdS kdA
 split
 ·exact ⟨cv_err _, rfl⟩
 split
 ·exact ⟨cv_err _, rfl⟩
 split
 ·exact ⟨cv_rows _, rfl⟩
 split
 ·exact ⟨cv_rows _, rfl⟩
 split
 ·exact ⟨cv_sums _, rfl⟩
 split
 ·exact ⟨cv_sums _, rfl⟩
 split
 ·unfold saveM saveS
  split
  ·exact ⟨cv_err _, rfl⟩
  ·exact ⟨cv_num _, rfl⟩
 split
 ·exact ⟨cv_err _, rfl⟩
 ·exact ⟨cv_err _, rfl⟩
theorem do_cv {T : List (List Int)} {V : List Vw} {free : Bool} {s : DS} {w : Wi} : Cv (doS T V free s w).1 (anV (doA T V free s w).1) ∧ (doS T V free s w).2 = (doA T V free s w).2 := by
 cases h : s.was with
 | none =>
  simp only [doS, doA, h]
  exact ⟨cv_err _, trivial⟩
 | some ts =>
  simp only [doS, doA, h]
  by_cases hw : wishB T V w = true
  ·rw [if_pos hw, if_pos hw]; exact kd_cv
  ·rw [if_neg hw, if_neg hw]; exact ⟨cv_err _, rfl⟩
theorem doA_ok {T : List (List Int)} {V : List Vw} {free : Bool} {k : Nat} {s : DS} {w : Wi} (pl : OkP T V) (ok : OkS T k s) (hk : k ≤ 99999) : OkS T (k + 1) (doA T V free s w).2 := do_cv.2 ▸ do_ok pl ok hk
theorem doA_m {T : List (List Int)} {V : List Vw} {free : Bool} {k p : Nat} {s : DS} {H : List Blk} {w : Wi} (pl : OkP T V) (ok : OkS T k s) (hk9 : k ≤ 99999) (hrl : w.row.length ≤ 9223372036854775807) (hd : DBA T V free H p s) :
  ∃ h', AMS Tryz.prog 19 [.ptr p 0, .agg (enWi w)] H (anV (doA T V free s w).1) h' ∧ DBA T V free h' p (doA T V free s w).2 ∧ Step H p h' := by
 obtain ⟨h', g1, g2, g3⟩ := do_m pl ok hk9 hrl hd (w := w)
 exact ⟨h', g1.cv (CvH.refl _) do_cv.1, do_cv.2 ▸ g2, g3⟩
theorem AMS.cvA {P : Program} {f : FuncId} {args args' : List AV} {h h' : List Blk} {r : AV} (hs : AMS P f args' h r h') (hc : CvL args args') : AMS P f args h r h' := fun S m w vals r0 hL => hs S m w vals r0 (hL.cvl hc)
def rB : Nat → List Blk → AV → List Nat
 | n + 1, h, .agg cs => cs.flatMap (rB n h)
 | n + 1, h, .sl id _ _ _ _ _ => id :: (match h[id]? with | some (.cells cs) => cs.flatMap (rB n h) | _ => [])
 | _, _, _ => []
def nr1 : AV → AV
 | .nils => .ro [] 3 false
 | .ro es st _ => .ro es st false
 | v => v
theorem nr1_cv (v : AV) : Cv v (nr1 v) := by
 cases v <;> first | exact .refl _ | exact Cv.nils | exact Cv.ex
def nrW : AV → AV
 | .agg cs => .agg (cs.map nr1)
 | v => v
theorem cvl_map {f : AV → AV} (h : ∀ v, Cv v (f v)) : ∀ l : List AV, CvL l (l.map f)
 | [] => .nil
 | v :: r => .cons (h v) (cvl_map h r)
theorem nrW_cv (v : AV) : Cv v (nrW v) := by
 cases v <;> first | exact .refl _ | exact Cv.agg (cvl_map nr1_cv _)
def nrT : AV → AV
 | .agg [.ro c st _] => .agg [.ro c st false]
 | .agg [.nils] => .agg [.ro [] 1 false]
 | .ro c st _ => .agg [.ro c st false]
 | .nils => .agg [.ro [] 1 false]
 | v => v
def nrV : AV → AV
 | .agg [a, b, .ro c st _] => .agg [a, b, .ro c st false]
 | .agg [a, b, .nils] => .agg [a, b, .ro [] 1 false]
 | v => v
theorem nrT_cv (v : AV) : CvL v.cells (nrT v).cells := by
 unfold nrT
 split
 ·exact .cons Cv.ex .nil
 ·exact .cons Cv.nils .nil
 ·exact .cons Cv.ex .nil
 ·exact .cons Cv.nils .nil
 ·exact .refl _
theorem nrV_cv (v : AV) : CvL v.cells (nrV v).cells := by
 unfold nrV
 split
 ·exact .cons (.refl _) (.cons (.refl _) (.cons Cv.ex .nil))
 ·exact .cons (.refl _) (.cons (.refl _) (.cons Cv.nils .nil))
 ·exact .refl _
def nrP : AV → AV
 | .agg [.ro t st _, .ro v sv _] => .agg [.ro (t.map nrT) st false, .ro (v.map nrV) sv false]
 | v => v
theorem cv_rmap {f : AV → AV} (h : ∀ v, CvL v.cells (f v).cells) (l : List AV) (st : Nat) (ex : Bool) : Cv (.ro l st ex) (.ro (l.map f) st false) := Cv.ro (by simp) fun i hi => by
 have e1 : l.getD i .dead = l[i] := by simp [List.getD_eq_getElem?_getD, hi]
 have e2 : (l.map f).getD i .dead = f l[i] := by simp [List.getD_eq_getElem?_getD, hi]
 rw [e1, e2]
 exact h _
theorem nrP_cv (v : AV) : Cv v (nrP v) := by
 unfold nrP
 split
 ·exact Cv.agg (.cons (cv_rmap nrT_cv _ _ _) (.cons (cv_rmap nrV_cv _ _ _) .nil))
 ·exact .refl _
def WA (h : List Blk) (x : AV) (w : Wi) : Prop := ∃ y, AM.frz (subB (rB 6 h x) h) 8 x = some y ∧ nrW y = .agg (enWi w)
def PA (h : List Blk) (x : AV) (T : List (List Int)) (V : List Vw) : Prop := ∃ y, AM.frz (subB (rB 6 h x) h) 8 x = some y ∧ nrP y = pA T V
theorem WA.inj {h x w w'} (a : WA h x w) (b : WA h x w') : w = w' := by
 obtain ⟨y, h1, h2⟩ := a
 obtain ⟨y', h3, h4⟩ := b
 rw [h1] at h3
 cases h3
 rw [h2] at h4
 exact wi_inj (AV.agg.inj h4)
theorem PA.inj {h x T V T' V'} (a : PA h x T V) (b : PA h x T' V') : T = T' ∧ V = V' := by
 obtain ⟨y, h1, h2⟩ := a
 obtain ⟨y', h3, h4⟩ := b
 rw [h1] at h3
 cases h3
 rw [h2] at h4
 exact pA_inj h4
theorem frz_wi {F : List Blk} (w : Wi) : AM.frz F 8 (.agg (enWi w)) = some (.agg (enWi w)) := by
 have e1 : ∀ i, AM.frz F 7 (.int .i64 i) = some (.int .i64 i) := fun _ => rfl
 have e2 : ∀ s, AM.frz F 7 (.str s) = some (.str s) := fun _ => rfl
 have e3 := frz_vs (h := F) (n := 4) w.row
 rw [AM.frz]
 simp only [mapO, e1, e2, e3, Option.map_some]
theorem wa_wi (h : List Blk) (w : Wi) : WA h (.agg (enWi w)) w := ⟨_, frz_wi w, rfl⟩
theorem rB_wi (h : List Blk) (w : Wi) : rB 6 h (.agg (enWi w)) = [] := rfl
theorem frz_iV {F : List Blk} {n : Nat} (c : List Int) : AM.frz F (n + 2) (.ro (c.map iV) 1 false) = some (.ro (c.map iV) 1 false) := by
 have e : mapO (AM.frz F (n + 1)) (c.map iV) = some (c.map iV) := mapO_of rfl fun i x y h1 h2 => by
  rw [h1] at h2; cases h2
  obtain ⟨z, _, rfl⟩ := List.mem_map.1 (List.mem_of_getElem? h1)
  rfl
 show ((mapO (AM.frz F (n + 1)) (c.map iV)).bind fun es' => if (es'.all fun e => Nat.beq e.cells.length 1) then some (AV.ro es' 1 false) else none) = _
 rw [e, Option.bind_some, if_pos]
 rw [List.all_eq_true]
 intro x hx
 obtain ⟨y, _, rfl⟩ := List.mem_map.1 hx
 rfl
theorem frz_pA {F : List Blk} (T : List (List Int)) (V : List Vw) : AM.frz F 8 (pA T V) = some (pA T V) := by
 have h1 : ∀ c, AM.frz F 6 (tV c) = some (tV c) := fun c => by
  rw [AM.frz]
  simp only [mapO, frz_iV (n := 3), Option.map_some]
 have h2 : ∀ v, AM.frz F 6 (vwV v) = some (vwV v) := fun v => by
  have e1 : ∀ i, AM.frz F 5 (.int .i64 i) = some (.int .i64 i) := fun _ => rfl
  rw [AM.frz]
  simp only [mapO, frz_iV (n := 3), e1, Option.map_some]
 have e1 : AM.frz F 7 (.ro (T.map tV) 1 false) = some (.ro (T.map tV) 1 false) := by
  have e : mapO (AM.frz F 6) (T.map tV) = some (T.map tV) := mapO_of rfl fun i x y a1 a2 => by
   rw [a1] at a2; cases a2
   obtain ⟨z, _, rfl⟩ := List.mem_map.1 (List.mem_of_getElem? a1)
   exact h1 z
  show ((mapO (AM.frz F 6) (T.map tV)).bind fun es' => if (es'.all fun e => Nat.beq e.cells.length 1) then some (AV.ro es' 1 false) else none) = _
  rw [e, Option.bind_some, if_pos]
  rw [List.all_eq_true]
  intro x hx
  obtain ⟨y, _, rfl⟩ := List.mem_map.1 hx
  rfl
 have e2 : AM.frz F 7 (.ro (V.map vwV) 3 false) = some (.ro (V.map vwV) 3 false) := by
  have e : mapO (AM.frz F 6) (V.map vwV) = some (V.map vwV) := mapO_of rfl fun i x y a1 a2 => by
   rw [a1] at a2; cases a2
   obtain ⟨z, _, rfl⟩ := List.mem_map.1 (List.mem_of_getElem? a1)
   exact h2 z
  show ((mapO (AM.frz F 6) (V.map vwV)).bind fun es' => if (es'.all fun e => Nat.beq e.cells.length 3) then some (AV.ro es' 3 false) else none) = _
  rw [e, Option.bind_some, if_pos]
  rw [List.all_eq_true]
  intro x hx
  obtain ⟨y, _, rfl⟩ := List.mem_map.1 hx
  rfl
 rw [AM.frz]
 simp only [mapO, e1, e2, Option.map_some]
theorem nrP_pA (T : List (List Int)) (V : List Vw) : nrP (pA T V) = pA T V := by
 have e1 : (T.map tV).map nrT = T.map tV := by rw [List.map_map]; exact List.map_congr_left fun c _ => rfl
 have e2 : (V.map vwV).map nrV = V.map vwV := by rw [List.map_map]; exact List.map_congr_left fun c _ => rfl
 show AV.agg [.ro ((T.map tV).map nrT) 1 false, .ro ((V.map vwV).map nrV) 3 false] = _
 rw [e1, e2]
theorem pa_pA (h : List Blk) (T : List (List Int)) (V : List Vw) : PA h (pA T V) T V := ⟨_, frz_pA T V, nrP_pA T V⟩
def NW (args : List AV) (h : List Blk) (r : AV) (h' : List Blk) : Prop :=
 (args = [.agg [.nils, .nils], .bool false] ∧ r = .nilp ∧ h' = h) ∨
 ∃ T V free x, args = [x, .bool free] ∧ x ≠ .agg [.nils, .nils] ∧ PA h x T V ∧ r = .ptr (h.length + 2) 0 ∧ DBA T V free h' (h.length + 2) (newS T) ∧ h.length ≤ h'.length ∧ (∀ i y, i ∉ rB 6 h x → h[i]? = some y → h'[i]? = some y) ∧ ∀ i ∈ ids h' (h.length + 2), h.length ≤ i
theorem nw_e {Γ : FuncId → Option GF} (hg : Γ 8 = some (anyG Tryz.prog 8 NW)) {T : List (List Int)} {V : List Vw} {x : AV} (free : Bool) (hg9 : okG9 (T, V)) (hT : T.length ≤ 1000) {H : List Blk} (hx : PA H x T V) (hne : x ≠ .agg [.nils, .nils]) :
  ∃ H' lo, Cl Γ Mo.T 8 [x, .bool free] H (.ptr (H.length + 2) 0, H', lo) ∧ DBA T V free H' (H.length + 2) (newS T) ∧ H.length ≤ H'.length ∧ (∀ i y, i ∉ rB 6 H x → H[i]? = some y → H'[i]? = some y) ∧ ∀ i ∈ ids H' (H.length + 2), H.length ≤ i := by
 have hx0 := hx
 obtain ⟨y, hf, hy⟩ := hx
 obtain ⟨h', g1, g2, g3, g4⟩ := new_m free hg9 hT (offB (rB 6 H x) H)
 rw [offB_len] at g1 g2 g4
 have ha := AMS.freezeA (k := 8) (args := [x, .bool free]) (subB_ok (rB 6 H x) H) (offB_ok (rB 6 H x) H) (.cons (.inr hf) (.cons (.inl rfl) .nil)) (AMS.cvA g1 (.cons (hy ▸ nrP_cv y) (.cons (.refl _) .nil)))
 have hl : H.length ≤ h'.length := by have := g3.1; rw [offB_len] at this; exact this
 have hk : ∀ i z, i ∉ rB 6 H x → H[i]? = some z → h'[i]? = some z := fun i z hi hz => g3.2 i z (offB_get hz hi)
 obtain ⟨r, H', lo, hI, hc⟩ := anyG_cl (Γ := Γ) (tbl := Mo.T) (args := [x, .bool free]) hg (.inr ⟨T, V, free, x, rfl, hne, hx0, rfl, g2, hl, hk, g4⟩) ha hl
 rcases hI with ⟨h1, _⟩ | ⟨T', V', free', x', h1, _, h2, rfl, h3, h4, h5, h6⟩
 ·simp only [List.cons.injEq, and_true] at h1
  exact absurd h1.1 hne
 ·simp only [List.cons.injEq, AV.bool.injEq, and_true] at h1
  obtain ⟨rfl, rfl⟩ := h1
  obtain ⟨rfl, rfl⟩ := hx0.inj h2
  exact ⟨H', lo, hc, h3, h4, h5, h6⟩
theorem nw_nil {Γ : FuncId → Option GF} (hg : Γ 8 = some (anyG Tryz.prog 8 NW)) (H : List Blk) : ∃ lo, Cl Γ Mo.T 8 [.agg [.nils, .nils], .bool false] H (.nilp, H, lo) := by
 have key : res1 (callX (gGet gam0) Mo.T 100 8 [.agg [.nils, .nils], .bool false] []) = some .nilp := by kernel_rfl
 obtain ⟨h', lo, h⟩ := res1_some key
 rw [callX_eq] at h
 have hp := pureS_cl K0 ⟨100, h⟩ (by kernel_rfl) rfl
 obtain ⟨r, H', lo, hI, hc⟩ := anyG_cl (Γ := Γ) (tbl := Mo.T) (args := [.agg [.nils, .nils], .bool false]) hg (.inl ⟨rfl, rfl, rfl⟩) (hp.ams rfl rfl H) (Nat.le_refl _)
 rcases hI with ⟨_, rfl, rfl⟩ | ⟨T', V', free', x', h1, h2, _⟩
 ·exact ⟨lo, hc⟩
 ·simp only [List.cons.injEq, and_true] at h1
  exact absurd h1.1.symm h2
def MRN {X : Type} (nr : AV) (enc : X → List AV) (step : List (List Int) → List Vw → Bool → DS → X → AV × DS) (args : List AV) (h : List Blk) (r : AV) (h' : List Blk) : Prop := (args.head? = some .nilp ∧ r = nr ∧ Kept h h') ∨ MR enc step args h r h'
section
variable {X : Type} {nr : AV} {enc : X → List AV} {step : List (List Int) → List Vw → Bool → DS → X → AV × DS} {Γ : FuncId → Option GF} {f : FuncId}
theorem mrn_e (hinj : ∀ a b, enc a = enc b → a = b) (hg : Γ f = some (anyG Tryz.prog f (MRN nr enc step))) {T : List (List Int)} {V : List Vw} {free : Bool} {p : Nat} {s : DS} {x : X} {H : List Blk} (hd : DBA T V free H p s)
  (ha : ∃ h', AMS Tryz.prog f (.ptr p 0 :: enc x) H (step T V free s x).1 h' ∧ DBA T V free h' p (step T V free s x).2 ∧ Step H p h') : ∃ H' lo, Cl Γ Mo.T f (.ptr p 0 :: enc x) H ((step T V free s x).1, H', lo) ∧ DBA T V free H' p (step T V free s x).2 ∧ Step H p H' := by
 obtain ⟨h', ha, hd', hs⟩ := ha
 obtain ⟨r, H', lo, hI, hc⟩ := anyG_cl (Γ := Γ) (tbl := Mo.T) hg (.inr ⟨T, V, free, p, s, x, rfl, hd, rfl, hd', hs⟩) ha hs.1
 rcases hI with ⟨h1, _⟩ | ⟨T2, V2, free2, p2, s2, x2, h1, h2, rfl, h4, h5⟩
 ·cases h1
 ·simp only [List.cons.injEq, AV.ptr.injEq, and_true] at h1
  obtain ⟨rfl, hx⟩ := h1
  have := hinj _ _ hx
  subst this
  obtain ⟨rfl, rfl, rfl, rfl⟩ := hd.inj h2
  exact ⟨H', lo, hc, h4, h5⟩
end
def begM (T : List (List Int)) (V : List Vw) (free : Bool) (s : DS) (x : Unit) : AV × DS := (.int .i64 (begS s).1, (begS s).2)
def comM (T : List (List Int)) (V : List Vw) (free : Bool) (s : DS) (x : Unit) : AV × DS := (.int .i64 (endS s true).1, (endS s true).2)
def aboM (T : List (List Int)) (V : List Vw) (free : Bool) (s : DS) (x : Unit) : AV × DS := (.int .i64 (endS s false).1, (endS s false).2)
noncomputable def gam20 : List (Nat × GF) := (51, anyG Tryz.prog 51 (CP false true)) :: gam8
theorem K20 : Known (gGet gam20) tree.get Tryz.prog := known_of (by kernel_rfl) ⟨anyG_ok ⟨_, Tryz.func51, by kernel_rfl, by kernel_rfl⟩, oft_ok, ofv_ok, isVal_ok, view_ok, grp_ok, tot_ok, adt_ok, fit_ok, code_ok, int_ok, of_ok, add_ok, cmp_ok, good_ok, xSub_ok, xAdd_ok, trivial⟩ all
section
variable {T : List (List Int)} {V : List Vw} {free : Bool} {k p : Nat} {s : DS} {H : List Blk}
theorem beg_m (pl : OkPl T V) (ok : OkS T k s) (hk : k ≤ 99999) (hd : DBA T V free H p s) : ∃ h', AMS Tryz.prog 12 [.ptr p 0] H (begM T V free s ()).1 h' ∧ DBA T V free h' p (begM T V free s ()).2 ∧ Step H p h' := by
 obtain ⟨H', lo, g1, g2⟩ := begin_cl (Γ := gGet gam20) (by kernel_rfl) (by kernel_rfl) hd (ok.now.okTs pl (by omega))
 exact ⟨H', Cl.ams K20 g1 (by kernel_rfl), g2⟩
theorem com_m (hd : DBA T V free H p s) : ∃ h', AMS Tryz.prog 14 [.ptr p 0] H (comM T V free s ()).1 h' ∧ DBA T V free h' p (comM T V free s ()).2 ∧ Step H p h' := by
 obtain ⟨H', lo, g1, g2⟩ := commit_cl (Γ := gGet gam20) (by kernel_rfl) (by kernel_rfl) hd
 exact ⟨H', Cl.ams K20 g1 (by kernel_rfl), g2⟩
theorem abo_m (hd : DBA T V free H p s) : ∃ h', AMS Tryz.prog 16 [.ptr p 0] H (aboM T V free s ()).1 h' ∧ DBA T V free h' p (aboM T V free s ()).2 ∧ Step H p h' := by
 obtain ⟨H', lo, g1, g2⟩ := abort_cl (Γ := gGet gam20) (by kernel_rfl) (by kernel_rfl) hd
 exact ⟨H', Cl.ams K20 g1 (by kernel_rfl), g2⟩
end
def MD (args : List AV) (h : List Blk) (r : AV) (h' : List Blk) : Prop :=
 (args.head? = some .nilp ∧ r = anV ⟨2, [], [], 0⟩ ∧ Kept h h') ∨
 ∃ T V free p s w x, args = [.ptr p 0, x] ∧ DBA T V free h p s ∧ WA h x w ∧ r = anV (doA T V free s w).1 ∧ DBA T V free h' p (doA T V free s w).2 ∧ h.length ≤ h'.length ∧ (∀ i ∈ ids h' p, i ∈ ids h p ∨ h.length ≤ i) ∧ ∀ i y, i ∉ ids h p → i ∉ rB 6 h x → h[i]? = some y → h'[i]? = some y
theorem md_e {Γ : FuncId → Option GF} (hg : Γ 19 = some (anyG Tryz.prog 19 MD)) {T : List (List Int)} {V : List Vw} {free : Bool} {k p : Nat} {s : DS} {H : List Blk} {w : Wi} {x : AV} (pl : OkP T V) (ok : OkS T k s) (hk9 : k ≤ 99999) (hrl : w.row.length ≤ 9223372036854775807) (hd : DBA T V free H p s) (hx : WA H x w) (hdis : ∀ i ∈ ids H p, i ∉ rB 6 H x) :
  ∃ H' lo, Cl Γ Mo.T 19 [.ptr p 0, x] H (anV (doA T V free s w).1, H', lo) ∧ DBA T V free H' p (doA T V free s w).2 ∧ H.length ≤ H'.length ∧ (∀ i ∈ ids H' p, i ∈ ids H p ∨ H.length ≤ i) ∧ ∀ i y, i ∉ ids H p → i ∉ rB 6 H x → H[i]? = some y → H'[i]? = some y := by
 have hx0 := hx
 obtain ⟨y, hf, hy⟩ := hx
 have hk1 : ∀ i z, i ∈ ids H p → H[i]? = some z → (offB (rB 6 H x) H)[i]? = some z := fun i z hi hz => offB_get hz (hdis i hi)
 have hd1 := hd.keep hk1
 have hid := hd.ids_keep hk1
 obtain ⟨h', g1, g2, g3⟩ := doA_m pl ok hk9 hrl hd1 (w := w)
 have ha := AMS.freezeA (k := 8) (args := [.ptr p 0, x]) (subB_ok (rB 6 H x) H) (offB_ok (rB 6 H x) H) (.cons (.inl rfl) (.cons (.inr hf) .nil)) (AMS.cvA g1 (.cons (.refl _) (.cons (hy ▸ nrW_cv y) .nil)))
 obtain ⟨s1, s2, s3⟩ := g3
 rw [offB_len] at s1 s2
 rw [hid] at s2 s3
 have s4 : ∀ i z, i ∉ ids H p → i ∉ rB 6 H x → H[i]? = some z → h'[i]? = some z := fun i z hi hB hz => s3 i z hi (offB_get hz hB)
 obtain ⟨r, H', lo, hI, hc⟩ := anyG_cl (Γ := Γ) (tbl := Mo.T) (args := [.ptr p 0, x]) hg (.inr ⟨T, V, free, p, s, w, x, rfl, hd, hx0, rfl, g2, s1, s2, s4⟩) ha s1
 rcases hI with ⟨h1, _⟩ | ⟨T2, V2, free2, p2, s2', w2, x2, h1, h2, h3, rfl, h4, h5, h6, h7⟩
 ·cases h1
 ·simp only [List.cons.injEq, AV.ptr.injEq, and_true] at h1
  obtain ⟨rfl, rfl⟩ := h1
  obtain ⟨rfl, rfl, rfl, rfl⟩ := hd.inj h2
  have := hx0.inj h3
  subst this
  exact ⟨H', lo, hc, h4, h5, h6, h7⟩
theorem md_w {Γ : FuncId → Option GF} (hg : Γ 19 = some (anyG Tryz.prog 19 MD)) {T : List (List Int)} {V : List Vw} {free : Bool} {k p : Nat} {s : DS} {H : List Blk} {w : Wi} (pl : OkP T V) (ok : OkS T k s) (hk9 : k ≤ 99999) (hrl : w.row.length ≤ 9223372036854775807) (hd : DBA T V free H p s) :
  ∃ H' lo, Cl Γ Mo.T 19 [.ptr p 0, .agg (enWi w)] H (anV (doA T V free s w).1, H', lo) ∧ DBA T V free H' p (doA T V free s w).2 ∧ Step H p H' := by
 obtain ⟨H', lo, g1, g2, g3, g4, g5⟩ := md_e hg pl ok hk9 hrl hd (wa_wi H w) (fun i _ h => by rw [rB_wi] at h; cases h)
 exact ⟨H', lo, g1, g2, g3, g4, fun i y hi hy => g5 i y hi (by rw [rB_wi]; simp) hy⟩
def CPY (args : List AV) (h : List Blk) (r : AV) (h' : List Blk) : Prop :=
 (args = [.nilp] ∧ r = .nilp ∧ h' = h) ∨
 ∃ T V free p s p2, args = [.ptr p 0] ∧ DBA T V free h p s ∧ r = .ptr p2 0 ∧ DBA T V free h' p2 s ∧ Kept h h' ∧ ∀ i ∈ ids h' p2, h.length ≤ i
theorem cpy_e {Γ : FuncId → Option GF} (hg : Γ 28 = some (anyG Tryz.prog 28 CPY)) {T : List (List Int)} {V : List Vw} {free : Bool} {k p : Nat} {s : DS} {H : List Blk} (pl : OkPl T V) (ok : OkS T k s) (hk : k ≤ 99999) (hd : DBA T V free H p s) :
  ∃ p2 H' lo, Cl Γ Mo.T 28 [.ptr p 0] H (.ptr p2 0, H', lo) ∧ DBA T V free H' p2 s ∧ Kept H H' ∧ ∀ i ∈ ids H' p2, H.length ≤ i := by
 obtain ⟨p2, H1, lo1, g1, g2, g3, g4⟩ := copy_cl (Γ := gGet gam20) (by kernel_rfl) (by kernel_rfl) hd (ok.now.okTs pl (by omega)) (fun ts h => (ok.was ts h).okTs pl (by omega)) (fun ts h => (ok.marks ts h).okTs pl (by omega)) (by have := ok.ml; omega)
 obtain ⟨r, H', lo, hI, hc⟩ := anyG_cl (Γ := Γ) (tbl := Mo.T) (args := [.ptr p 0]) hg (.inr ⟨T, V, free, p, s, p2, rfl, hd, rfl, g2, g3, g4⟩) (Cl.ams K20 g1 (by kernel_rfl)) g3.1
 rcases hI with ⟨h1, _⟩ | ⟨T2, V2, free2, p', s2, p3, h1, h2, rfl, h4, h5, h6⟩
 ·cases h1
 ·simp only [List.cons.injEq, AV.ptr.injEq, and_true] at h1
  subst h1
  obtain ⟨rfl, rfl, rfl, rfl⟩ := hd.inj h2
  exact ⟨p3, H', lo, hc, h4, h5, h6⟩
def TBN (args : List AV) (h : List Blk) (r : AV) (h' : List Blk) : Prop := (args = [.nilp] ∧ r = .nils ∧ h' = h) ∨ TB args h r h'
theorem tbn_e {Γ : FuncId → Option GF} (hg : Γ 23 = some (anyG Tryz.prog 23 TBN)) {T : List (List Int)} {V : List Vw} {free : Bool} {k p : Nat} {s : DS} {H : List Blk} (pl : OkPl T V) (ok : OkTb T k s.now) (hk : k ≤ 99999) (hd : DBA T V free H p s) : ∃ H' lo, Cl Γ Mo.T 23 [.ptr p 0] H (tsV s.now, H', lo) ∧ Kept H H' := by
 obtain ⟨h', g1, g2⟩ := tables_m pl ok hk hd
 obtain ⟨r, H', lo, hI, hc⟩ := anyG_cl (Γ := Γ) (tbl := Mo.T) (args := [.ptr p 0]) hg (.inr ⟨T, V, free, p, s, rfl, hd, rfl, g2⟩) g1 g2.1
 rcases hI with ⟨h1, _⟩ | ⟨T', V', free', p', s', h1, h2, rfl, h3⟩
 ·cases h1
 ·simp only [List.cons.injEq, AV.ptr.injEq, and_true] at h1
  subst h1
  obtain ⟨rfl, rfl, rfl, rfl⟩ := hd.inj h2
  exact ⟨H', lo, hc, h3⟩
noncomputable def gamA : List (Nat × GF) := (8, anyG Tryz.prog 8 NW) :: (12, anyG Tryz.prog 12 (MRN (.int .i64 2) encU begM)) :: (14, anyG Tryz.prog 14 (MRN (.int .i64 2) encU comM)) :: (16, anyG Tryz.prog 16 (MRN (.int .i64 2) encU aboM)) :: (19, anyG Tryz.prog 19 MD) :: (28, anyG Tryz.prog 28 CPY) :: (29, anyG Tryz.prog 29 SM) :: (23, anyG Tryz.prog 23 TBN) :: (18, pureG g18) :: (17, pureG g17) :: (11, pureG g11) :: (27, pureG g27) :: gam8
theorem KA : Known (gGet gamA) tree.get Tryz.prog := known_of (by kernel_rfl) ⟨anyG_ok ⟨_, Tryz.func8, by kernel_rfl, by kernel_rfl⟩, anyG_ok ⟨_, Tryz.func12, by kernel_rfl, by kernel_rfl⟩, anyG_ok ⟨_, Tryz.func14, by kernel_rfl, by kernel_rfl⟩, anyG_ok ⟨_, Tryz.func16, by kernel_rfl, by kernel_rfl⟩, anyG_ok ⟨_, Tryz.func19, by kernel_rfl, by kernel_rfl⟩, anyG_ok ⟨_, Tryz.func28, by kernel_rfl, by kernel_rfl⟩, anyG_ok ⟨_, Tryz.func29, by kernel_rfl, by kernel_rfl⟩, anyG_ok ⟨_, Tryz.func23, by kernel_rfl, by kernel_rfl⟩, told_ok, eq17_ok, great_ok, plans_ok, oft_ok, ofv_ok, isVal_ok, view_ok, grp_ok, tot_ok, adt_ok, fit_ok, code_ok, int_ok, of_ok, add_ok, cmp_ok, good_ok, xSub_ok, xAdd_ok, trivial⟩ all
noncomputable abbrev GA : FuncId → Option GF := gGet gamA
end Go.Proofs.YtenpjpldjmoefaaGreat.AM.Mo
