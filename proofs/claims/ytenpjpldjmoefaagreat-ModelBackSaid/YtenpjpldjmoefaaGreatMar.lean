/-
  'gauger's law ModelBack holds of every input: it returns true, and each argument reads behind the call as it read before.
  This text: part 18 of 22 of the proof (MoY, MoZ, MoAa, MoAb, MoAc).
-/
import Derived.Test.YtenpjpldjmoefaaGreatMaq
set_option linter.unusedVariables false
set_option linter.unusedSimpArgs false
set_option maxRecDepth 100000
set_option maxHeartbeats 4000000
namespace Go.Proofs.YtenpjpldjmoefaaGreat.AM.Mo
open Go
noncomputable def gamS : List (Nat × GF) := (51, anyG Tryz.prog 51 (CP true true)) :: gam8
theorem KS : Known (gGet gamS) tree.get Tryz.prog := known_of (by kernel_rfl) ⟨anyG_ok ⟨_, Tryz.func51, by kernel_rfl, by kernel_rfl⟩, oft_ok, ofv_ok, isVal_ok, view_ok, grp_ok, tot_ok, adt_ok, fit_ok, code_ok, int_ok, of_ok, add_ok, cmp_ok, good_ok, xSub_ok, xAdd_ok, trivial⟩ all
noncomputable def gamB : List (Nat × GF) := (51, anyG Tryz.prog 51 (CP false false)) :: gam8
theorem KB : Known (gGet gamB) tree.get Tryz.prog := known_of (by kernel_rfl) ⟨anyG_ok ⟨_, Tryz.func51, by kernel_rfl, by kernel_rfl⟩, oft_ok, ofv_ok, isVal_ok, view_ok, grp_ok, tot_ok, adt_ok, fit_ok, code_ok, int_ok, of_ok, add_ok, cmp_ok, good_ok, xSub_ok, xAdd_ok, trivial⟩ all
section
variable {G : List Blk} {b vb m c : Nat} {zs : List AV} {x : AV}
theorem mk_nil (hv : G[vb]? = some (.cells [x])) (h1 : x.one = true) : wOp evC G (.append 1 24 (.c .nils) (.c (.sl vb 1 0 1 1 true))) = some (.sl G.length 1 0 1 1 false, G ++ [.cells [x]], none) := by
 have hx : elems G 1 (.sl vb 1 0 1 1 true) = some [x] := sl_el hv (by simp)
 simp only [wOp, evC, lenOf, hx, Nat.one_ne_zero, if_false]
 rw [if_pos (by simp [h1])]
theorem mk_in (hb : G[b]? = some (.cells zs)) (hv : G[vb]? = some (.cells [x])) (hc : m + 1 ≤ c) (hz : zs.length = c) (h1 : x.one = true) (hcl : m ≤ 1000000) :
  wOp evC G (.append 1 24 (.c (.sl b 1 0 m c false)) (.c (.sl vb 1 0 1 1 true))) = some (.sl b 1 0 (m + 1) c false, G.set b (.cells (splice zs m [x])), some b) := by
 have hx : elems G 1 (.sl vb 1 0 1 1 true) = some [x] := sl_el hv (by simp)
 have hone : ([x] : List AV).all AV.one = true := by simp [h1]
 simp only [wOp, evC, lenOf, hx, Nat.one_ne_zero, if_false]
 rw [if_pos (by simp [hone]; omega), if_pos hc]
 simp only [wrCells, hb, Nat.zero_add, Nat.mul_one]
 rw [if_pos (by simp [h1]; omega)]
 rfl
theorem mk_new (hb : G[b]? = some (.cells zs)) (hv : G[vb]? = some (.cells [x])) (hc : ¬ m + 1 ≤ c) (hz : m ≤ zs.length) (h1 : x.one = true) (hcl : m ≤ 1000000) :
  wOp evC G (.append 1 24 (.c (.sl b 1 0 m c false)) (.c (.sl vb 1 0 1 1 true))) = some (.sl G.length 1 0 (m + 1) (m + 1) false, (G.set b .gone) ++ [.cells (zs.take m ++ [x])], some b) := by
 have hx : elems G 1 (.sl vb 1 0 1 1 true) = some [x] := sl_el hv (by simp)
 have hs : elems G 1 (.sl b 1 0 m c false) = some (zs.take m) := by rw [sl_el hb (by omega)]; simp
 have hone : ([x] : List AV).all AV.one = true := by simp [h1]
 have hr : hasRow G b 0 = true := by simp [hasRow, hb]
 simp only [wOp, evC, lenOf, hx, Nat.one_ne_zero, if_false]
 rw [if_pos (by simp [hone]; omega), if_neg (by omega), hs]
 simp [hr]
end
theorem wr0 {m : Nat} (h : m ≤ 1000) : IntKind.i64.wrap ((m : Int) + 1 - 1) = (m : Int) := by rw [IntWalk.i64_in _ (by omega)]; omega
theorem geF {a b : Nat} (h : a < b) : cB (decide ((a : Int) ≥ (b : Int))) false := by simp [cB]; omega
theorem save_cl {Γ : FuncId → Option GF} (hn : Γ 60 = none) (hg : Γ 51 = some (anyG Tryz.prog 51 (CP true true))) {T : List (List Int)} {V : List Vw} {free : Bool} {p : Nat} {s : DS} {H : List Blk} (hd : DBA T V free H p s) (ok : okTs s.now) (hml : s.marks.length ≤ 1000) :
  ∃ H' lo, Cl Γ Mo.T 60 [.ptr p 0] H ((saveS s).1, H', lo) ∧ DBA T V free H' p (saveS s).2 ∧ Step H p H' := by
 obtain ⟨q, wv, mv, hb⟩ := hd
 obtain ⟨hqp, hwn, hmn⟩ := hb.ne
 have hw := hb.hw
 have hm := hb.hm
 have hp := hb.hp
 have hq := hb.hq
 have hlt := DBA.lt ⟨q, wv, mv, hb⟩
 rw [ids_of hp] at hlt
 have hnd := hb.nd
 rw [ids_of hp] at hnd
 have hpl := glt hp
 have hql := glt hq
 obtain ⟨now, was, marks⟩ := s
 simp only at hp hq hw hm ok hml
 obtain ⟨lc, hcp⟩ := cp_s (fs := true) (fr := true) hg (H := (ap H [(.int .i64 0), .nils, .nils, (.int .i64 0)])) (ga hq) ok
 simp only [if_true, slA] at hcp
 have hwl : ∀ i, slId wv = some i → i < H.length ∧ i ≠ p ∧ i ≠ q := fun i hi => ⟨hlt i (by simp [hi]), hwn i hi⟩
 rcases hm with ⟨h0, rfl⟩ | ⟨h0, mk, cap, zs, rfl, hmk, hz, htk⟩
 ·subst h0
  obtain ⟨l, h⟩ := (clV 1 (af := a60) (r := (.agg [(.int .i64 0), .nils, .nils, (.int .i64 0)])) (h' := (List.set (List.set ((ap ((ap H [(.int .i64 0), .nils, .nils, (.int .i64 0)]) ++ [.gone]) [(.ro (now.map bV) 1 false)]) ++ [(.cells [(.ro (now.map bV) 1 false)])]) p (.cells [(.ro (T.map tV) 1 false), (.ro (V.map vwV) 3 false), (.bool free), (.sl q 1 0 now.length now.length true), wv, (.sl (List.length (ap ((ap H [(.int .i64 0), .nils, .nils, (.int .i64 0)]) ++ [.gone]) [(.ro (now.map bV) 1 false)])) 1 0 1 1 false)])) H.length (.cells [(.int .i64 0), .nils, .nils, (.int .i64 0)]))) [.w (.alloc [(.int .i64 0), .nils, .nils, (.int .i64 0)]) (.ptr H.length 0) (ap H [(.int .i64 0), .nils, .nils, (.int .i64 0)]) none, .f (.load none (.c (.ptr p 5))) .nils, .b (decide ((0 : Int) ≥ 4)) false, .p (stays evC (AOper.mk (some 14) (.load none (.c (.ptr p 5))) none 0 2) .nils [(ap H [(.int .i64 0), .nils, .nils, (.int .i64 0)]), ((ap H [(.int .i64 0), .nils, .nils, (.int .i64 0)]) ++ [.gone]), (ap ((ap H [(.int .i64 0), .nils, .nils, (.int .i64 0)]) ++ [.gone]) [(.ro (now.map bV) 1 false)]), ((ap ((ap H [(.int .i64 0), .nils, .nils, (.int .i64 0)]) ++ [.gone]) [(.ro (now.map bV) 1 false)]) ++ [(.cells [(.ro (now.map bV) 1 false)])]), (List.set ((ap ((ap H [(.int .i64 0), .nils, .nils, (.int .i64 0)]) ++ [.gone]) [(.ro (now.map bV) 1 false)]) ++ [(.cells [(.ro (now.map bV) 1 false)])]) p (.cells [(.ro (T.map tV) 1 false), (.ro (V.map vwV) 3 false), (.bool free), (.sl q 1 0 now.length now.length true), wv, (.sl (List.length (ap ((ap H [(.int .i64 0), .nils, .nils, (.int .i64 0)]) ++ [.gone]) [(.ro (now.map bV) 1 false)])) 1 0 1 1 false)]))] = true), .f (.load none (.c (.ptr p 5))) .nils, .f (.load none (.c (.ptr p 3))) (.sl q 1 0 now.length now.length true), .r 51 [(.sl q 1 0 now.length now.length true)] (.ro (now.map bV) 1 false) ((ap H [(.int .i64 0), .nils, .nils, (.int .i64 0)]) ++ [.gone]) lc, .w (.buildSl [.nils] 1 [(0, (.c (.ro (now.map bV) 1 false)))]) (.sl (List.length ((ap H [(.int .i64 0), .nils, .nils, (.int .i64 0)]) ++ [.gone])) 1 0 1 1 true) (ap ((ap H [(.int .i64 0), .nils, .nils, (.int .i64 0)]) ++ [.gone]) [(.ro (now.map bV) 1 false)]) none, .w (.append 1 24 (.c .nils) (.c (.sl (List.length ((ap H [(.int .i64 0), .nils, .nils, (.int .i64 0)]) ++ [.gone])) 1 0 1 1 true))) (.sl (List.length (ap ((ap H [(.int .i64 0), .nils, .nils, (.int .i64 0)]) ++ [.gone]) [(.ro (now.map bV) 1 false)])) 1 0 1 1 false) ((ap ((ap H [(.int .i64 0), .nils, .nils, (.int .i64 0)]) ++ [.gone]) [(.ro (now.map bV) 1 false)]) ++ [(.cells [(.ro (now.map bV) 1 false)])]) none, .w (.store 1 (.c (.ptr p 5)) (.c (.sl (List.length (ap ((ap H [(.int .i64 0), .nils, .nils, (.int .i64 0)]) ++ [.gone]) [(.ro (now.map bV) 1 false)])) 1 0 1 1 false))) (.tup []) (List.set ((ap ((ap H [(.int .i64 0), .nils, .nils, (.int .i64 0)]) ++ [.gone]) [(.ro (now.map bV) 1 false)]) ++ [(.cells [(.ro (now.map bV) 1 false)])]) p (.cells [(.ro (T.map tV) 1 false), (.ro (V.map vwV) 3 false), (.bool free), (.sl q 1 0 now.length now.length true), wv, (.sl (List.length (ap ((ap H [(.int .i64 0), .nils, .nils, (.int .i64 0)]) ++ [.gone]) [(.ro (now.map bV) 1 false)])) 1 0 1 1 false)])) (some p), .f (.load none (.c (.ptr p 5))) (.sl (List.length (ap ((ap H [(.int .i64 0), .nils, .nils, (.int .i64 0)]) ++ [.gone]) [(.ro (now.map bV) 1 false)])) 1 0 1 1 false), .w (.store 4 (.c (.ptr H.length 0)) (.c (.agg [(.int .i64 0), .nils, .nils, (.int .i64 0)]))) (.tup []) (List.set (List.set ((ap ((ap H [(.int .i64 0), .nils, .nils, (.int .i64 0)]) ++ [.gone]) [(.ro (now.map bV) 1 false)]) ++ [(.cells [(.ro (now.map bV) 1 false)])]) p (.cells [(.ro (T.map tV) 1 false), (.ro (V.map vwV) 3 false), (.bool free), (.sl q 1 0 now.length now.length true), wv, (.sl (List.length (ap ((ap H [(.int .i64 0), .nils, .nils, (.int .i64 0)]) ++ [.gone]) [(.ro (now.map bV) 1 false)])) 1 0 1 1 false)])) H.length (.cells [(.int .i64 0), .nils, .nils, (.int .i64 0)])) (some H.length), .l (.load (some 4) (.c (.ptr H.length 0))) (.agg [(.int .i64 0), .nils, .nils, (.int .i64 0)])] [(.agg [(.int .i64 0), .nils, .nils, (.int .i64 0)])] hn ⟨rfl, (ldV (ga hp)), rfl, (stays2 (by simp [eqv, eqvL]) (And.intro (ldV (ga hp)) (And.intro (ldV (ga (ga hp))) (And.intro (ldV (ga (ga (ga hp)))) trivial)))), (ldV (ga hp)), (ldV (ga hp)), hcp, rfl, (mk_nil gl rfl), (stK (ga (ga (ga (ga hp))))), (ldV (gset (ga (ga (ga (ga hp)))))), (stK (gne (by omega) (ga (ga (ga gl))))), (ldV (gset (gne (by omega) (ga (ga (ga gl)))))), trivial⟩ : ∃ l, Cl Γ Mo.T 60 [.ptr p 0] H (.agg [.int .i64 0, .nils, .nils, .int .i64 0], _, l))
  have hp' : ((List.set (List.set ((ap ((ap H [(.int .i64 0), .nils, .nils, (.int .i64 0)]) ++ [.gone]) [(.ro (List.map bV now) 1 false)]) ++ [(.cells [(.ro (List.map bV now) 1 false)])]) p (.cells [(.ro (List.map tV T) 1 false), (.ro (List.map vwV V) 3 false), (.bool free), (.sl q 1 0 (List.length now) (List.length now) true), wv, (.sl (List.length (ap ((ap H [(.int .i64 0), .nils, .nils, (.int .i64 0)]) ++ [.gone]) [(.ro (List.map bV now) 1 false)])) 1 0 1 1 false)])) (List.length H) (.cells [(.int .i64 0), .nils, .nils, (.int .i64 0)])))[p]? = some (.cells (dbC T V free q now.length wv (.sl (List.length (ap ((ap H [(.int .i64 0), .nils, .nils, (.int .i64 0)]) ++ [.gone]) [(.ro (List.map bV now) 1 false)])) 1 0 1 1 false))) := gne (by omega) (gset (ga (ga (ga (ga hp)))))
  refine ⟨_, l, h, ⟨q, wv, _, ⟨hp', gne (by omega) (gne (Ne.symm hqp) (ga (ga (ga (ga hq))))), hw.keep fun i x hi hx => ?_, .inr ⟨by simp [saveS], _, 1, [tsV now], rfl, gne (by simp <;> omega) (gne (by simp <;> omega) gl), rfl, rfl⟩, ?_⟩⟩, Step.of hp hp' (by simp) (fun i hi => ?_) fun i x hi hx => ?_⟩
  ·have := hwl i hi
   exact gne (by omega) (gne (Ne.symm this.2.1) (ga (ga (ga (ga hx)))))
  ·rw [ids_of hp']
   cases hwv : slId wv with
   | none => simp [hwv, slId] at hnd ⊢; omega
   | some i => have := hwl i hwv; simp [hwv, slId] at hnd ⊢; omega
  ·simp only [slId, Option.toList_some, List.mem_cons, List.mem_append, List.not_mem_nil, or_false] at hi ⊢
   rcases hi with rfl | hi | rfl
   ·exact .inl (.inl rfl)
   ·exact .inl (.inr (.inl hi))
   ·exact .inr (by simp <;> omega)
  ·exact gne (by have := glt hx; omega) (gne (fun e => hi (by rw [ids_of hp, e]; simp)) (ga (ga (ga (ga hx)))))
 ·have hkl : mk < H.length := glt hmk
  obtain ⟨hkp, hkq, hkw⟩ := hmn mk rfl
  have hm0 : 0 < marks.length := List.length_pos_iff.2 h0
  have hmz : marks.length ≤ zs.length := by
   have := congrArg List.length htk
   rw [List.length_take, List.length_map] at this
   omega
  obtain ⟨m, hme⟩ : ∃ m, marks.length = m := ⟨_, rfl⟩
  rw [hme] at hmz hm0 htk hml hp hb hnd hlt
  by_cases hm4 : m < 4
  ·have hsv : saveS { now := now, was := was, marks := marks } = (.agg [.int .i64 0, .nils, .nils, .int .i64 (m : Int)], { now := now, was := was, marks := marks ++ [now] }) := by
    unfold saveS
    rw [if_neg (by simp only; omega), hme]
   rw [hsv]
   have hnl : (marks ++ [now]).length = m + 1 := by simp [hme]
   by_cases hc : m + 1 ≤ cap
   ·obtain ⟨l, h⟩ := (clV 1 (af := a60) (r := (.agg [(.int .i64 0), .nils, .nils, (.int .i64 (IntKind.i64.wrap (((m + 1) : Int) - 1)))])) (h' := (List.set (List.set (List.set (ap ((ap H [(.int .i64 0), .nils, .nils, (.int .i64 0)]) ++ [.gone]) [(.ro (now.map bV) 1 false)]) mk (.cells (splice zs m [(.ro (now.map bV) 1 false)]))) p (.cells [(.ro (T.map tV) 1 false), (.ro (V.map vwV) 3 false), (.bool free), (.sl q 1 0 now.length now.length true), wv, (.sl mk 1 0 (m + 1) cap false)])) H.length (.cells [(.int .i64 0), .nils, .nils, (.int .i64 (IntKind.i64.wrap (((m + 1) : Int) - 1)))]))) [.w (.alloc [(.int .i64 0), .nils, .nils, (.int .i64 0)]) (.ptr H.length 0) (ap H [(.int .i64 0), .nils, .nils, (.int .i64 0)]) none, .f (.load none (.c (.ptr p 5))) (.sl mk 1 0 m cap false), .b (decide ((m : Int) ≥ 4)) false, .p (stays evC (AOper.mk (some 14) (.load none (.c (.ptr p 5))) none 0 2) (.sl mk 1 0 m cap false) [(ap H [(.int .i64 0), .nils, .nils, (.int .i64 0)]), ((ap H [(.int .i64 0), .nils, .nils, (.int .i64 0)]) ++ [.gone]), (ap ((ap H [(.int .i64 0), .nils, .nils, (.int .i64 0)]) ++ [.gone]) [(.ro (now.map bV) 1 false)]), (List.set (ap ((ap H [(.int .i64 0), .nils, .nils, (.int .i64 0)]) ++ [.gone]) [(.ro (now.map bV) 1 false)]) mk (.cells (splice zs m [(.ro (now.map bV) 1 false)]))), (List.set (List.set (ap ((ap H [(.int .i64 0), .nils, .nils, (.int .i64 0)]) ++ [.gone]) [(.ro (now.map bV) 1 false)]) mk (.cells (splice zs m [(.ro (now.map bV) 1 false)]))) p (.cells [(.ro (T.map tV) 1 false), (.ro (V.map vwV) 3 false), (.bool free), (.sl q 1 0 now.length now.length true), wv, (.sl mk 1 0 (m + 1) cap false)]))] = true), .f (.load none (.c (.ptr p 5))) (.sl mk 1 0 m cap false), .f (.load none (.c (.ptr p 3))) (.sl q 1 0 now.length now.length true), .r 51 [(.sl q 1 0 now.length now.length true)] (.ro (now.map bV) 1 false) ((ap H [(.int .i64 0), .nils, .nils, (.int .i64 0)]) ++ [.gone]) lc, .w (.buildSl [.nils] 1 [(0, (.c (.ro (now.map bV) 1 false)))]) (.sl (List.length ((ap H [(.int .i64 0), .nils, .nils, (.int .i64 0)]) ++ [.gone])) 1 0 1 1 true) (ap ((ap H [(.int .i64 0), .nils, .nils, (.int .i64 0)]) ++ [.gone]) [(.ro (now.map bV) 1 false)]) none, .w (.append 1 24 (.c (.sl mk 1 0 m cap false)) (.c (.sl (List.length ((ap H [(.int .i64 0), .nils, .nils, (.int .i64 0)]) ++ [.gone])) 1 0 1 1 true))) (.sl mk 1 0 (m + 1) cap false) (List.set (ap ((ap H [(.int .i64 0), .nils, .nils, (.int .i64 0)]) ++ [.gone]) [(.ro (now.map bV) 1 false)]) mk (.cells (splice zs m [(.ro (now.map bV) 1 false)]))) (some mk), .w (.store 1 (.c (.ptr p 5)) (.c (.sl mk 1 0 (m + 1) cap false))) (.tup []) (List.set (List.set (ap ((ap H [(.int .i64 0), .nils, .nils, (.int .i64 0)]) ++ [.gone]) [(.ro (now.map bV) 1 false)]) mk (.cells (splice zs m [(.ro (now.map bV) 1 false)]))) p (.cells [(.ro (T.map tV) 1 false), (.ro (V.map vwV) 3 false), (.bool free), (.sl q 1 0 now.length now.length true), wv, (.sl mk 1 0 (m + 1) cap false)])) (some p), .f (.load none (.c (.ptr p 5))) (.sl mk 1 0 (m + 1) cap false), .w (.store 4 (.c (.ptr H.length 0)) (.c (.agg [(.int .i64 0), .nils, .nils, (.int .i64 (IntKind.i64.wrap (((m + 1) : Int) - 1)))]))) (.tup []) (List.set (List.set (List.set (ap ((ap H [(.int .i64 0), .nils, .nils, (.int .i64 0)]) ++ [.gone]) [(.ro (now.map bV) 1 false)]) mk (.cells (splice zs m [(.ro (now.map bV) 1 false)]))) p (.cells [(.ro (T.map tV) 1 false), (.ro (V.map vwV) 3 false), (.bool free), (.sl q 1 0 now.length now.length true), wv, (.sl mk 1 0 (m + 1) cap false)])) H.length (.cells [(.int .i64 0), .nils, .nils, (.int .i64 (IntKind.i64.wrap (((m + 1) : Int) - 1)))])) (some H.length), .l (.load (some 4) (.c (.ptr H.length 0))) (.agg [(.int .i64 0), .nils, .nils, (.int .i64 (IntKind.i64.wrap (((m + 1) : Int) - 1)))])] [(.agg [(.int .i64 0), .nils, .nils, (.int .i64 (IntKind.i64.wrap (((m + 1) : Int) - 1)))])] hn ⟨rfl, (ldV (ga hp)), (geF (b := 4) hm4), (stays2 (by simp [eqv, eqvL]) (And.intro (ldV (ga hp)) (And.intro (ldV (ga (ga hp))) (And.intro (ldV (ga (ga (ga hp)))) trivial)))), (ldV (ga hp)), (ldV (ga hp)), hcp, rfl, (mk_in (ga (ga (ga hmk))) gl hc hz rfl (by omega)), (stK (gne hkp (ga (ga (ga hp))))), (ldV (gset (gne hkp (ga (ga (ga hp)))))), (stK (gne (by omega) (gne (by omega) (ga (ga gl))))), (ldV (gset (gne (by omega) (gne (by omega) (ga (ga gl)))))), trivial⟩ : ∃ l, Cl Γ Mo.T 60 [.ptr p 0] H (_, _, l))
    rw [wr0 hml] at h
    have hp' : ((List.set (List.set (List.set (ap ((ap H [(.int .i64 0), .nils, .nils, (.int .i64 0)]) ++ [.gone]) [(.ro (List.map bV now) 1 false)]) mk (.cells (splice zs m [(.ro (List.map bV now) 1 false)]))) p (.cells [(.ro (List.map tV T) 1 false), (.ro (List.map vwV V) 3 false), (.bool free), (.sl q 1 0 (List.length now) (List.length now) true), wv, (.sl mk 1 0 (m + 1) cap false)])) (List.length H) (.cells [(.int .i64 0), .nils, .nils, (.int .i64 (IntKind.i64.wrap (((m + 1) : Int) - 1)))])))[p]? = some (.cells (dbC T V free q now.length wv (.sl mk 1 0 (m + 1) cap false))) := gne (by omega) (gset (gne hkp (ga (ga (ga hp)))))
    rw [wr0 hml] at hp'
    refine ⟨_, l, h, ⟨q, wv, _, ⟨hp', gne (by omega) (gne (Ne.symm hqp) (gne hkq (ga (ga (ga hq))))), hw.keep fun i x hi hx => ?_, .inr ⟨by simp, mk, cap, splice zs m [tsV now], by rw [hnl], gne (by omega) (gne (Ne.symm hkp) (gset (ga (ga (ga hmk))))), ?_, ?_⟩, ?_⟩⟩, Step.of hp hp' (by simp) (fun i hi => .inl hi) fun i x hi hx => ?_⟩
    ·have := hwl i hi
     exact gne (by omega) (gne (Ne.symm this.2.1) (gne (hkw i hi) (ga (ga (ga hx)))))
    ·rw [splice_len (by simp <;> omega), hz]
    ·rw [hnl, List.map_append]
     exact spl_app htk (by simp [hme]) (by omega)
    ·rw [ids_of hp']
     simpa [slId] using hnd
    ·rw [ids_of hp] at hi
     simp only [slId, Option.toList_some, List.mem_cons, List.mem_append, List.not_mem_nil, or_false, not_or] at hi
     exact gne (by have := glt hx; omega) (gne (Ne.symm hi.1) (gne (Ne.symm hi.2.2.2) (ga (ga (ga hx)))))
   ·obtain ⟨l, h⟩ := (clV 1 (af := a60) (r := (.agg [(.int .i64 0), .nils, .nils, (.int .i64 (IntKind.i64.wrap (((m + 1) : Int) - 1)))])) (h' := (List.set (List.set ((List.set (ap ((ap H [(.int .i64 0), .nils, .nils, (.int .i64 0)]) ++ [.gone]) [(.ro (now.map bV) 1 false)]) mk .gone) ++ [(.cells (List.take m zs ++ [(.ro (now.map bV) 1 false)]))]) p (.cells [(.ro (T.map tV) 1 false), (.ro (V.map vwV) 3 false), (.bool free), (.sl q 1 0 now.length now.length true), wv, (.sl (List.length (ap ((ap H [(.int .i64 0), .nils, .nils, (.int .i64 0)]) ++ [.gone]) [(.ro (now.map bV) 1 false)])) 1 0 (m + 1) (m + 1) false)])) H.length (.cells [(.int .i64 0), .nils, .nils, (.int .i64 (IntKind.i64.wrap (((m + 1) : Int) - 1)))]))) [.w (.alloc [(.int .i64 0), .nils, .nils, (.int .i64 0)]) (.ptr H.length 0) (ap H [(.int .i64 0), .nils, .nils, (.int .i64 0)]) none, .f (.load none (.c (.ptr p 5))) (.sl mk 1 0 m cap false), .b (decide ((m : Int) ≥ 4)) false, .p (stays evC (AOper.mk (some 14) (.load none (.c (.ptr p 5))) none 0 2) (.sl mk 1 0 m cap false) [(ap H [(.int .i64 0), .nils, .nils, (.int .i64 0)]), ((ap H [(.int .i64 0), .nils, .nils, (.int .i64 0)]) ++ [.gone]), (ap ((ap H [(.int .i64 0), .nils, .nils, (.int .i64 0)]) ++ [.gone]) [(.ro (now.map bV) 1 false)]), ((List.set (ap ((ap H [(.int .i64 0), .nils, .nils, (.int .i64 0)]) ++ [.gone]) [(.ro (now.map bV) 1 false)]) mk .gone) ++ [(.cells (List.take m zs ++ [(.ro (now.map bV) 1 false)]))]), (List.set ((List.set (ap ((ap H [(.int .i64 0), .nils, .nils, (.int .i64 0)]) ++ [.gone]) [(.ro (now.map bV) 1 false)]) mk .gone) ++ [(.cells (List.take m zs ++ [(.ro (now.map bV) 1 false)]))]) p (.cells [(.ro (T.map tV) 1 false), (.ro (V.map vwV) 3 false), (.bool free), (.sl q 1 0 now.length now.length true), wv, (.sl (List.length (ap ((ap H [(.int .i64 0), .nils, .nils, (.int .i64 0)]) ++ [.gone]) [(.ro (now.map bV) 1 false)])) 1 0 (m + 1) (m + 1) false)]))] = true), .f (.load none (.c (.ptr p 5))) (.sl mk 1 0 m cap false), .f (.load none (.c (.ptr p 3))) (.sl q 1 0 now.length now.length true), .r 51 [(.sl q 1 0 now.length now.length true)] (.ro (now.map bV) 1 false) ((ap H [(.int .i64 0), .nils, .nils, (.int .i64 0)]) ++ [.gone]) lc, .w (.buildSl [.nils] 1 [(0, (.c (.ro (now.map bV) 1 false)))]) (.sl (List.length ((ap H [(.int .i64 0), .nils, .nils, (.int .i64 0)]) ++ [.gone])) 1 0 1 1 true) (ap ((ap H [(.int .i64 0), .nils, .nils, (.int .i64 0)]) ++ [.gone]) [(.ro (now.map bV) 1 false)]) none, .w (.append 1 24 (.c (.sl mk 1 0 m cap false)) (.c (.sl (List.length ((ap H [(.int .i64 0), .nils, .nils, (.int .i64 0)]) ++ [.gone])) 1 0 1 1 true))) (.sl (List.length (ap ((ap H [(.int .i64 0), .nils, .nils, (.int .i64 0)]) ++ [.gone]) [(.ro (now.map bV) 1 false)])) 1 0 (m + 1) (m + 1) false) ((List.set (ap ((ap H [(.int .i64 0), .nils, .nils, (.int .i64 0)]) ++ [.gone]) [(.ro (now.map bV) 1 false)]) mk .gone) ++ [(.cells (List.take m zs ++ [(.ro (now.map bV) 1 false)]))]) (some mk), .w (.store 1 (.c (.ptr p 5)) (.c (.sl (List.length (ap ((ap H [(.int .i64 0), .nils, .nils, (.int .i64 0)]) ++ [.gone]) [(.ro (now.map bV) 1 false)])) 1 0 (m + 1) (m + 1) false))) (.tup []) (List.set ((List.set (ap ((ap H [(.int .i64 0), .nils, .nils, (.int .i64 0)]) ++ [.gone]) [(.ro (now.map bV) 1 false)]) mk .gone) ++ [(.cells (List.take m zs ++ [(.ro (now.map bV) 1 false)]))]) p (.cells [(.ro (T.map tV) 1 false), (.ro (V.map vwV) 3 false), (.bool free), (.sl q 1 0 now.length now.length true), wv, (.sl (List.length (ap ((ap H [(.int .i64 0), .nils, .nils, (.int .i64 0)]) ++ [.gone]) [(.ro (now.map bV) 1 false)])) 1 0 (m + 1) (m + 1) false)])) (some p), .f (.load none (.c (.ptr p 5))) (.sl (List.length (ap ((ap H [(.int .i64 0), .nils, .nils, (.int .i64 0)]) ++ [.gone]) [(.ro (now.map bV) 1 false)])) 1 0 (m + 1) (m + 1) false), .w (.store 4 (.c (.ptr H.length 0)) (.c (.agg [(.int .i64 0), .nils, .nils, (.int .i64 (IntKind.i64.wrap (((m + 1) : Int) - 1)))]))) (.tup []) (List.set (List.set ((List.set (ap ((ap H [(.int .i64 0), .nils, .nils, (.int .i64 0)]) ++ [.gone]) [(.ro (now.map bV) 1 false)]) mk .gone) ++ [(.cells (List.take m zs ++ [(.ro (now.map bV) 1 false)]))]) p (.cells [(.ro (T.map tV) 1 false), (.ro (V.map vwV) 3 false), (.bool free), (.sl q 1 0 now.length now.length true), wv, (.sl (List.length (ap ((ap H [(.int .i64 0), .nils, .nils, (.int .i64 0)]) ++ [.gone]) [(.ro (now.map bV) 1 false)])) 1 0 (m + 1) (m + 1) false)])) H.length (.cells [(.int .i64 0), .nils, .nils, (.int .i64 (IntKind.i64.wrap (((m + 1) : Int) - 1)))])) (some H.length), .l (.load (some 4) (.c (.ptr H.length 0))) (.agg [(.int .i64 0), .nils, .nils, (.int .i64 (IntKind.i64.wrap (((m + 1) : Int) - 1)))])] [(.agg [(.int .i64 0), .nils, .nils, (.int .i64 (IntKind.i64.wrap (((m + 1) : Int) - 1)))])] hn ⟨rfl, (ldV (ga hp)), (geF (b := 4) hm4), (stays2 (by simp [eqv, eqvL]) (And.intro (ldV (ga hp)) (And.intro (ldV (ga (ga hp))) (And.intro (ldV (ga (ga (ga hp)))) trivial)))), (ldV (ga hp)), (ldV (ga hp)), hcp, rfl, (mk_new (ga (ga (ga hmk))) gl hc (by omega) rfl (by omega)), (stK (ga (gne hkp (ga (ga (ga hp)))))), (ldV (gset (ga (gne hkp (ga (ga (ga hp))))))), (stK (gne (by omega) (ga (gne (by omega) (ga (ga gl)))))), (ldV (gset (gne (by omega) (ga (gne (by omega) (ga (ga gl))))))), trivial⟩ : ∃ l, Cl Γ Mo.T 60 [.ptr p 0] H (_, _, l))
    rw [wr0 hml] at h
    have hp' : ((List.set (List.set ((List.set (ap ((ap H [(.int .i64 0), .nils, .nils, (.int .i64 0)]) ++ [.gone]) [(.ro (List.map bV now) 1 false)]) mk .gone) ++ [(.cells (List.take m zs ++ [(.ro (List.map bV now) 1 false)]))]) p (.cells [(.ro (List.map tV T) 1 false), (.ro (List.map vwV V) 3 false), (.bool free), (.sl q 1 0 (List.length now) (List.length now) true), wv, (.sl (List.length (ap ((ap H [(.int .i64 0), .nils, .nils, (.int .i64 0)]) ++ [.gone]) [(.ro (List.map bV now) 1 false)])) 1 0 (m + 1) (m + 1) false)])) (List.length H) (.cells [(.int .i64 0), .nils, .nils, (.int .i64 (IntKind.i64.wrap (((m + 1) : Int) - 1)))])))[p]? = some (.cells (dbC T V free q now.length wv (.sl (List.length (ap ((ap H [(.int .i64 0), .nils, .nils, (.int .i64 0)]) ++ [.gone]) [(.ro (List.map bV now) 1 false)])) 1 0 (m + 1) (m + 1) false))) := gne (by omega) (gset (ga (gne hkp (ga (ga (ga hp))))))
    rw [wr0 hml] at hp'
    have hnb : ((List.set (List.set ((List.set (ap ((ap H [(.int .i64 0), .nils, .nils, (.int .i64 0)]) ++ [.gone]) [(.ro (List.map bV now) 1 false)]) mk .gone) ++ [(.cells (List.take m zs ++ [(.ro (List.map bV now) 1 false)]))]) p (.cells [(.ro (List.map tV T) 1 false), (.ro (List.map vwV V) 3 false), (.bool free), (.sl q 1 0 (List.length now) (List.length now) true), wv, (.sl (List.length (ap ((ap H [(.int .i64 0), .nils, .nils, (.int .i64 0)]) ++ [.gone]) [(.ro (List.map bV now) 1 false)])) 1 0 (m + 1) (m + 1) false)])) (List.length H) (.cells [(.int .i64 0), .nils, .nils, (.int .i64 (IntKind.i64.wrap (((m + 1) : Int) - 1)))])))[(List.length (ap ((ap H [(.int .i64 0), .nils, .nils, (.int .i64 0)]) ++ [.gone]) [(.ro (List.map bV now) 1 false)]))]? = some (.cells (List.take m zs ++ [tsV now])) := by
     have e0 : (List.length (List.set (ap ((ap H [(.int .i64 0), .nils, .nils, (.int .i64 0)]) ++ [.gone]) [(.ro (List.map bV now) 1 false)]) mk .gone)) = (List.length (ap ((ap H [(.int .i64 0), .nils, .nils, (.int .i64 0)]) ++ [.gone]) [(.ro (List.map bV now) 1 false)])) := by simp
     exact gne (by simp <;> omega) (gne (by simp <;> omega) (by rw [← e0]; exact gl))
    rw [wr0 hml] at hnb
    refine ⟨_, l, h, ⟨q, wv, _, ⟨hp', gne (by omega) (gne (Ne.symm hqp) (ga (gne hkq (ga (ga (ga hq)))))), hw.keep fun i x hi hx => ?_, .inr ⟨by simp, _, m + 1, List.take m zs ++ [tsV now], by rw [hnl], hnb, (by simp <;> omega), ?_⟩, ?_⟩⟩, Step.of hp hp' (by simp <;> omega) (fun i hi => ?_) fun i x hi hx => ?_⟩
    ·have := hwl i hi
     exact gne (by omega) (gne (Ne.symm this.2.1) (ga (gne (hkw i hi) (ga (ga (ga hx))))))
    ·rw [hnl, List.map_append, htk]
     exact List.take_of_length_le (by simp [hme])
    ·rw [ids_of hp']
     cases hwv : slId wv with
     | none => simp [hwv, slId] at hnd ⊢; omega
     | some i => have := hwl i hwv; simp [hwv, slId] at hnd ⊢; omega
    ·simp only [slId, Option.toList_some, List.mem_cons, List.mem_append, List.not_mem_nil, or_false] at hi ⊢
     rcases hi with rfl | hi | rfl
     ·exact .inl (.inl rfl)
     ·exact .inl (.inr (.inl hi))
     ·exact .inr (by simp <;> omega)
    ·rw [ids_of hp] at hi
     simp only [slId, Option.toList_some, List.mem_cons, List.mem_append, List.not_mem_nil, or_false, not_or] at hi
     exact gne (by have := glt hx; omega) (gne (Ne.symm hi.1) (ga (gne (Ne.symm hi.2.2.2) (ga (ga (ga hx))))))
  ·have hsv : saveS { now := now, was := was, marks := marks } = (errA 5, { now := now, was := was, marks := marks }) := by
    unfold saveS
    rw [if_pos (by simp only; omega)]
   rw [hsv]
   obtain ⟨l, h⟩ := (clV 1 (af := a60) (r := (.agg [(.int .i64 5), .nils, .nils, (.int .i64 0)])) (h' := (ap H [(.int .i64 5), .nils, .nils, (.int .i64 0)])) [.w (.alloc [(.int .i64 0), .nils, .nils, (.int .i64 0)]) (.ptr H.length 0) (ap H [(.int .i64 0), .nils, .nils, (.int .i64 0)]) none, .f (.load none (.c (.ptr p 5))) (.sl mk 1 0 m cap false), .b (decide ((m : Int) ≥ 4)) true, .w (.store 4 (.c (.ptr H.length 0)) (.c (.agg [(.int .i64 5), .nils, .nils, (.int .i64 0)]))) (.tup []) (ap H [(.int .i64 5), .nils, .nils, (.int .i64 0)]) (some H.length), .l (.load (some 4) (.c (.ptr H.length 0))) (.agg [(.int .i64 5), .nils, .nils, (.int .i64 0)])] [(.agg [(.int .i64 5), .nils, .nils, (.int .i64 0)])] hn ⟨rfl, (ldV (ga hp)), (cT (show (m : Int) ≥ 4 by omega)), stZ, (ldV gl), trivial⟩ : ∃ l, Cl Γ Mo.T 60 [.ptr p 0] H (errA 5, _, l))
   have hk : ∀ i x, i < H.length → H[i]? = some x → ((ap H [(.int .i64 5), .nils, .nils, (.int .i64 0)]))[i]? = some x := fun i x hi hx => ga hx
   rw [← hme] at hb
   have hd : DBA T V free H p { now := now, was := was, marks := marks } := ⟨q, wv, _, hb⟩
   have hkk : Kept H (ap H [(.int .i64 5), .nils, .nils, (.int .i64 0)]) := ⟨by simp, fun i x hx => hk i x (glt hx) hx⟩
   exact ⟨_, l, h, (Step.kept hd hkk).2, (Step.kept hd hkk).1⟩
open Go
theorem back_cl {Γ : FuncId → Option GF} (hn : Γ 61 = none) (hg : Γ 51 = some (anyG Tryz.prog 51 (CP false false))) {T : List (List Int)} {V : List Vw} {free : Bool} {p : Nat} {s : DS} {H : List Blk} (hd : DBA T V free H p s) (n : Int) (ok : ∀ ts ∈ s.marks, okTs ts ∧ ts.length = s.now.length) (hml : s.marks.length ≤ 1000) :
  ∃ H' lo, Cl Γ Mo.T 61 [.ptr p 0, .int .i64 n] H (errA (backS s n).1, H', lo) ∧ DBA T V free H' p (backS s n).2 ∧ Step H p H' := by
 obtain ⟨q, wv, mv, hb⟩ := hd
 obtain ⟨hqp, hwn, hmn⟩ := hb.ne
 have hw := hb.hw
 have hm := hb.hm
 have hp := hb.hp
 have hq := hb.hq
 have hlt := DBA.lt ⟨q, wv, mv, hb⟩
 rw [ids_of hp] at hlt
 have hnd := hb.nd
 rw [ids_of hp] at hnd
 have hpl := glt hp
 have hql := glt hq
 have hd : DBA T V free H p s := ⟨q, wv, mv, hb⟩
 obtain ⟨now, was, marks⟩ := s
 simp only at hp hq hw hm ok hml
 have hk : Kept H (ap H [(.int .i64 1), .nils, .nils, (.int .i64 0)]) := by
  refine ⟨by simp, fun i x hx => ?_⟩
  first | exact ga hx | exact gne (by have := glt hx; omega) (ga hx)
 by_cases hneg : n < 0
 ·have e : backS { now := now, was := was, marks := marks } n = (1, { now := now, was := was, marks := marks }) := by unfold backS; rw [if_pos (.inl hneg)]
  rw [e]
  obtain ⟨l, h⟩ := (clV 1 (af := a61) (r := (.agg [(.int .i64 1), .nils, .nils, (.int .i64 0)])) (h' := (ap H [(.int .i64 1), .nils, .nils, (.int .i64 0)])) [.w (.alloc [(.int .i64 0), .nils, .nils, (.int .i64 0)]) (.ptr H.length 0) (ap H [(.int .i64 0), .nils, .nils, (.int .i64 0)]) none, .b (decide (n < 0)) true, .w (.store 4 (.c (.ptr H.length 0)) (.c (.agg [(.int .i64 1), .nils, .nils, (.int .i64 0)]))) (.tup []) (ap H [(.int .i64 1), .nils, .nils, (.int .i64 0)]) (some H.length), .l (.load (some 4) (.c (.ptr H.length 0))) (.agg [(.int .i64 1), .nils, .nils, (.int .i64 0)])] [(.agg [(.int .i64 1), .nils, .nils, (.int .i64 0)])] hn ⟨rfl, (cT hneg), stZ, (ldV gl), trivial⟩ : ∃ l, Cl Γ Mo.T 61 [.ptr p 0, .int .i64 n] H (errA 1, _, l))
  exact ⟨_, l, h, (Step.kept hd hk).2, (Step.kept hd hk).1⟩
 by_cases hgm : (marks.length : Int) ≤ n
 ·have e : backS { now := now, was := was, marks := marks } n = (1, { now := now, was := was, marks := marks }) := by unfold backS; rw [if_pos (.inr hgm)]
  rw [e]
  rcases hm with ⟨h0, rfl⟩ | ⟨h0, mk, cap, zs, rfl, hmk, hz, htk⟩
  ·have hge : n ≥ 0 := by omega
   obtain ⟨l, h⟩ := (clV 1 (af := a61) (r := (.agg [(.int .i64 1), .nils, .nils, (.int .i64 0)])) (h' := (ap H [(.int .i64 1), .nils, .nils, (.int .i64 0)])) [.w (.alloc [(.int .i64 0), .nils, .nils, (.int .i64 0)]) (.ptr H.length 0) (ap H [(.int .i64 0), .nils, .nils, (.int .i64 0)]) none, .b (decide (n < 0)) false, .f (.load none (.c (.ptr p 5))) .nils, .b (decide (n ≥ 0)) true, .w (.store 4 (.c (.ptr H.length 0)) (.c (.agg [(.int .i64 1), .nils, .nils, (.int .i64 0)]))) (.tup []) (ap H [(.int .i64 1), .nils, .nils, (.int .i64 0)]) (some H.length), .l (.load (some 4) (.c (.ptr H.length 0))) (.agg [(.int .i64 1), .nils, .nils, (.int .i64 0)])] [(.agg [(.int .i64 1), .nils, .nils, (.int .i64 0)])] hn ⟨rfl, (cF hneg), (ldV (ga hp)), (cT hge), stZ, (ldV gl), trivial⟩ : ∃ l, Cl Γ Mo.T 61 [.ptr p 0, .int .i64 n] H (errA 1, _, l))
   exact ⟨_, l, h, (Step.kept hd hk).2, (Step.kept hd hk).1⟩
  ·obtain ⟨m, hme⟩ : ∃ m, marks.length = m := ⟨_, rfl⟩
   rw [hme] at hp hgm
   have hge : n ≥ (m : Int) := hgm
   obtain ⟨l, h⟩ := (clV 1 (af := a61) (r := (.agg [(.int .i64 1), .nils, .nils, (.int .i64 0)])) (h' := (ap H [(.int .i64 1), .nils, .nils, (.int .i64 0)])) [.w (.alloc [(.int .i64 0), .nils, .nils, (.int .i64 0)]) (.ptr H.length 0) (ap H [(.int .i64 0), .nils, .nils, (.int .i64 0)]) none, .b (decide (n < 0)) false, .f (.load none (.c (.ptr p 5))) (.sl mk 1 0 m cap false), .b (decide (n ≥ (m : Int))) true, .w (.store 4 (.c (.ptr H.length 0)) (.c (.agg [(.int .i64 1), .nils, .nils, (.int .i64 0)]))) (.tup []) (ap H [(.int .i64 1), .nils, .nils, (.int .i64 0)]) (some H.length), .l (.load (some 4) (.c (.ptr H.length 0))) (.agg [(.int .i64 1), .nils, .nils, (.int .i64 0)])] [(.agg [(.int .i64 1), .nils, .nils, (.int .i64 0)])] hn ⟨rfl, (cF hneg), (ldV (ga hp)), (cT hge), stZ, (ldV gl), trivial⟩ : ∃ l, Cl Γ Mo.T 61 [.ptr p 0, .int .i64 n] H (errA 1, _, l))
   exact ⟨_, l, h, (Step.kept hd hk).2, (Step.kept hd hk).1⟩
 ·have e : backS { now := now, was := was, marks := marks } n = (0, { now := marks.getD n.toNat [], was := was, marks := marks.take (n.toNat + 1) }) := by unfold backS; rw [if_neg (by simp only; omega)]
  rw [e]
  rcases hm with ⟨h0, rfl⟩ | ⟨h0, mk, cap, zs, rfl, hmk, hz, htk⟩
  ·rw [h0] at hgm; simp at hgm; omega
  obtain ⟨k, rfl⟩ : ∃ k : Nat, n = (k : Int) := ⟨n.toNat, by omega⟩
  rw [show ((k : Int)).toNat = k from rfl]
  have hkl : mk < H.length := glt hmk
  obtain ⟨hkp, hkq, hkw⟩ := hmn mk rfl
  have hkm : k < marks.length := by omega
  obtain ⟨ts, hts⟩ : ∃ ts, marks[k]? = some ts := ⟨marks[k], by simp [hkm]⟩
  have hgd : marks.getD k [] = ts := by simp [List.getD_eq_getElem?_getD, hts]
  rw [hgd]
  obtain ⟨okt, htl⟩ := ok ts (List.mem_of_getElem? hts)
  have hmz : marks.length ≤ zs.length := by
   have := congrArg List.length htk
   rw [List.length_take, List.length_map] at this
   omega
  have hzk : zs[k]? = some (tsV ts) := by
   have := congrArg (fun l => l[k]?) htk
   simp only [List.getElem?_take, if_pos hkm, List.getElem?_map, hts, Option.map_some] at this
   exact this
  have hwl : ∀ i, slId wv = some i → i < H.length ∧ i ≠ p ∧ i ≠ q := fun i hi => ⟨hlt i (by simp [hi]), hwn i hi⟩
  obtain ⟨m, hme⟩ : ∃ m, marks.length = m := ⟨_, rfl⟩
  rw [hme] at hp hkm hmz hml hnd htk
  have hge : ¬ (k : Int) ≥ (m : Int) := by omega
  obtain ⟨lc, hcp⟩ := cp_r (fs := false) (fr := false) hg (H := (ap H [(.int .i64 0), .nils, .nils, (.int .i64 0)])) okt
  simp only [Bool.false_eq_true, if_false, slA] at hcp
  obtain ⟨l, h⟩ := (clV 1 (af := a61) (r := (.agg [(.int .i64 0), .nils, .nils, (.int .i64 0)])) (h' := (List.set (List.set (List.set ((ap H [(.int .i64 0), .nils, .nils, (.int .i64 0)]) ++ [.cells (tsC ts)]) p (.cells [(.ro (T.map tV) 1 false), (.ro (V.map vwV) 3 false), (.bool free), (.sl (List.length (ap H [(.int .i64 0), .nils, .nils, (.int .i64 0)])) 1 0 ts.length ts.length true), wv, (.sl mk 1 0 m cap false)])) p (.cells [(.ro (T.map tV) 1 false), (.ro (V.map vwV) 3 false), (.bool free), (.sl (List.length (ap H [(.int .i64 0), .nils, .nils, (.int .i64 0)])) 1 0 ts.length ts.length true), wv, (.sl mk 1 0 (k + 1) cap false)])) H.length (.cells [(.int .i64 0), .nils, .nils, (.int .i64 0)]))) [.w (.alloc [(.int .i64 0), .nils, .nils, (.int .i64 0)]) (.ptr H.length 0) (ap H [(.int .i64 0), .nils, .nils, (.int .i64 0)]) none, .b (decide ((k : Int) < 0)) false, .f (.load none (.c (.ptr p 5))) (.sl mk 1 0 m cap false), .b (decide ((k : Int) ≥ (m : Int))) false, .f (.load none (.c (.ptr p 5))) (.sl mk 1 0 m cap false), .p (1 = 1), .p ((0 : Int) ≤ (k : Int)), .p (((k : Int) : Int) < ((m : Nat) : Int)), .f (.load none (.c (.ptr mk (0 + (Int.toNat (k : Int)) * 1)))) (.ro (ts.map bV) 1 false), .r 51 [(.ro (ts.map bV) 1 false)] (.sl (List.length (ap H [(.int .i64 0), .nils, .nils, (.int .i64 0)])) 1 0 ts.length ts.length true) ((ap H [(.int .i64 0), .nils, .nils, (.int .i64 0)]) ++ [.cells (tsC ts)]) lc, .w (.store 1 (.c (.ptr p 3)) (.c (.sl (List.length (ap H [(.int .i64 0), .nils, .nils, (.int .i64 0)])) 1 0 ts.length ts.length true))) (.tup []) (List.set ((ap H [(.int .i64 0), .nils, .nils, (.int .i64 0)]) ++ [.cells (tsC ts)]) p (.cells [(.ro (T.map tV) 1 false), (.ro (V.map vwV) 3 false), (.bool free), (.sl (List.length (ap H [(.int .i64 0), .nils, .nils, (.int .i64 0)])) 1 0 ts.length ts.length true), wv, (.sl mk 1 0 m cap false)])) (some p), .f (.load none (.c (.ptr p 5))) (.sl mk 1 0 m cap false), .f (.slc 1 (.c (.sl mk 1 0 m cap false)) none (some (.c (.int .i64 (IntKind.i64.wrap ((k : Int) + 1))))) none) (.sl mk 1 0 (k + 1) cap false), .w (.store 1 (.c (.ptr p 5)) (.c (.sl mk 1 0 (k + 1) cap false))) (.tup []) (List.set (List.set ((ap H [(.int .i64 0), .nils, .nils, (.int .i64 0)]) ++ [.cells (tsC ts)]) p (.cells [(.ro (T.map tV) 1 false), (.ro (V.map vwV) 3 false), (.bool free), (.sl (List.length (ap H [(.int .i64 0), .nils, .nils, (.int .i64 0)])) 1 0 ts.length ts.length true), wv, (.sl mk 1 0 m cap false)])) p (.cells [(.ro (T.map tV) 1 false), (.ro (V.map vwV) 3 false), (.bool free), (.sl (List.length (ap H [(.int .i64 0), .nils, .nils, (.int .i64 0)])) 1 0 ts.length ts.length true), wv, (.sl mk 1 0 (k + 1) cap false)])) (some p), .w (.store 4 (.c (.ptr H.length 0)) (.c (.agg [(.int .i64 0), .nils, .nils, (.int .i64 0)]))) (.tup []) (List.set (List.set (List.set ((ap H [(.int .i64 0), .nils, .nils, (.int .i64 0)]) ++ [.cells (tsC ts)]) p (.cells [(.ro (T.map tV) 1 false), (.ro (V.map vwV) 3 false), (.bool free), (.sl (List.length (ap H [(.int .i64 0), .nils, .nils, (.int .i64 0)])) 1 0 ts.length ts.length true), wv, (.sl mk 1 0 m cap false)])) p (.cells [(.ro (T.map tV) 1 false), (.ro (V.map vwV) 3 false), (.bool free), (.sl (List.length (ap H [(.int .i64 0), .nils, .nils, (.int .i64 0)])) 1 0 ts.length ts.length true), wv, (.sl mk 1 0 (k + 1) cap false)])) H.length (.cells [(.int .i64 0), .nils, .nils, (.int .i64 0)])) (some H.length), .l (.load (some 4) (.c (.ptr H.length 0))) (.agg [(.int .i64 0), .nils, .nils, (.int .i64 0)])] [(.agg [(.int .i64 0), .nils, .nils, (.int .i64 0)])] hn ⟨rfl, (cF hneg), (ldV (ga hp)), (cF hge), (ldV (ga hp)), rfl, (by omega), (by omega), (ldX (k := k) (ga hmk) hzk), hcp, (stK (ga (ga hp))), (ldV (gset (ga (ga hp)))), (by rw [wr1 (by omega)]; exact sl_to (by omega)), (stK (gset (ga (ga hp)))), (stK (gne (by omega) (gne (by omega) (ga gl)))), (ldV (gset (gne (by omega) (gne (by omega) (ga gl))))), trivial⟩ : ∃ l, Cl Γ Mo.T 61 [.ptr p 0, .int .i64 (k : Int)] H (errA 0, _, l))
  have hp' : ((List.set (List.set (List.set ((ap H [(.int .i64 0), .nils, .nils, (.int .i64 0)]) ++ [.cells (tsC ts)]) p (.cells [(.ro (List.map tV T) 1 false), (.ro (List.map vwV V) 3 false), (.bool free), (.sl (List.length (ap H [(.int .i64 0), .nils, .nils, (.int .i64 0)])) 1 0 (List.length ts) (List.length ts) true), wv, (.sl mk 1 0 m cap false)])) p (.cells [(.ro (List.map tV T) 1 false), (.ro (List.map vwV V) 3 false), (.bool free), (.sl (List.length (ap H [(.int .i64 0), .nils, .nils, (.int .i64 0)])) 1 0 (List.length ts) (List.length ts) true), wv, (.sl mk 1 0 (k + 1) cap false)])) (List.length H) (.cells [(.int .i64 0), .nils, .nils, (.int .i64 0)])))[p]? = some (.cells (dbC T V free (List.length (ap H [(.int .i64 0), .nils, .nils, (.int .i64 0)])) ts.length wv (.sl mk 1 0 (k + 1) cap false))) := gne (by omega) (gset (gset (ga (ga hp))))
  have hnb : ((List.set (List.set (List.set ((ap H [(.int .i64 0), .nils, .nils, (.int .i64 0)]) ++ [.cells (tsC ts)]) p (.cells [(.ro (List.map tV T) 1 false), (.ro (List.map vwV V) 3 false), (.bool free), (.sl (List.length (ap H [(.int .i64 0), .nils, .nils, (.int .i64 0)])) 1 0 (List.length ts) (List.length ts) true), wv, (.sl mk 1 0 m cap false)])) p (.cells [(.ro (List.map tV T) 1 false), (.ro (List.map vwV V) 3 false), (.bool free), (.sl (List.length (ap H [(.int .i64 0), .nils, .nils, (.int .i64 0)])) 1 0 (List.length ts) (List.length ts) true), wv, (.sl mk 1 0 (k + 1) cap false)])) (List.length H) (.cells [(.int .i64 0), .nils, .nils, (.int .i64 0)])))[(List.length (ap H [(.int .i64 0), .nils, .nils, (.int .i64 0)]))]? = some (.cells (tsC ts)) := gne (by simp) (gne (by simp; omega) (gne (by simp; omega) gl))
  refine ⟨_, l, h, ⟨_, wv, _, ⟨hp', hnb, ?_, .inr ⟨?_, mk, cap, zs, ?_, gne (by omega) (gne (Ne.symm hkp) (gne (Ne.symm hkp) (ga (ga hmk)))), hz, ?_⟩, ?_⟩⟩, Step.of hp hp' (by simp) (fun i hi => ?_) fun i x hi hx => ?_⟩
  ·simp only
   rw [htl]
   refine hw.keep fun i x hi hx => ?_
   have := hwl i hi
   exact gne (by omega) (gne (Ne.symm this.2.1) (gne (Ne.symm this.2.1) (ga (ga hx))))
  ·simp only
   intro h
   have := congrArg List.length h
   simp at this
   exact h0 this
  ·simp only [List.length_take]
   rw [Nat.min_eq_left (by omega)]
  ·simp only [List.length_take]
   rw [Nat.min_eq_left (by omega), List.map_take, ← htk, List.take_take, Nat.min_eq_left (by omega)]
  ·rw [ids_of hp']
   cases hwv : slId wv with
   | none => simp [hwv, slId] at hnd ⊢; omega
   | some i => have := hwl i hwv; have := hkw i hwv; simp [hwv, slId] at hnd ⊢; omega
  ·simp only [slId, Option.toList_some, List.mem_cons, List.mem_append, List.not_mem_nil, or_false] at hi ⊢
   rcases hi with rfl | hi | rfl
   ·exact .inr (by simp)
   ·exact .inl (.inr (.inl hi))
   ·exact .inl (.inr (.inr rfl))
  ·have hip : p ≠ i := fun e => hi (by rw [ids_of hp, e]; simp)
   exact gne (by have := glt hx; omega) (gne hip (gne hip (ga (ga hx))))
open Go
abbrev iA (n : Int) : AV := .int .i64 n
theorem frz_ans1 {F : List Blk} {n : Nat} {v r : AV} (h : AM.frz F n v = some r) (hn : 0 < n) : AM.frz F (n + 1) (.agg [iA 0, v, .nils, iA 0]) = some (.agg [iA 0, r, .nils, iA 0]) := by
 obtain ⟨k, rfl⟩ : ∃ k, n = k + 1 := ⟨n - 1, by omega⟩
 have e1 : ∀ i, AM.frz F (k + 1) (iA i) = some (iA i) := fun _ => rfl
 have e2 : AM.frz F (k + 1) .nils = some .nils := rfl
 rw [AM.frz]
 simp only [mapO, h, e1, e2, Option.bind_some, Option.map_some]
theorem frz_ans2 {F : List Blk} {n : Nat} {v r : AV} (h : AM.frz F n v = some r) (hn : 0 < n) : AM.frz F (n + 1) (.agg [iA 0, .nils, v, iA 0]) = some (.agg [iA 0, .nils, r, iA 0]) := by
 obtain ⟨k, rfl⟩ : ∃ k, n = k + 1 := ⟨n - 1, by omega⟩
 have e1 : ∀ i, AM.frz F (k + 1) (iA i) = some (iA i) := fun _ => rfl
 have e2 : AM.frz F (k + 1) .nils = some .nils := rfl
 rw [AM.frz]
 simp only [mapO, h, e1, e2, Option.bind_some, Option.map_some]
theorem CvH.refl (h : List Blk) : CvH h h := ⟨rfl, fun i b' hb => ⟨b', hb, .refl _⟩⟩
theorem kept_off {H H' : List Blk} {B : List Nat} (hk : Kept H H') (hB : ∀ i ∈ B, H.length ≤ i) : Kept H (offB B H') := ⟨by rw [offB_len]; exact hk.1, fun i x hx => offB_get (hk.2 i x hx) fun h => by have := hB i h; have := glt hx; omega⟩
abbrev rowsA (xs : List (List Val)) : AV := .agg [iA 0, bV xs, .nils, iA 0]
theorem rows_ams {T : List (List Int)} {V : List Vw} {free : Bool} {p q n : Nat} {wv mv : AV} {now : Tabs} {t : Int} {rows : List (List Val)} {lo hi : Val} {H : List Blk} (hp : H[p]? = some (.cells (dbC T V free q n wv mv))) (hq : H[q]? = some (.cells (tsC now))) (hn : now.length = n) (ht0 : 0 ≤ t) (hrows : now[t.toNat]? = some rows) (hrl0 : rows.length ≤ 1000000) (hr : ∀ r ∈ rows, 0 < r.length ∧ r.length ≤ 1000) :
  ∃ h', AMS Tryz.prog 58 [.ptr p 0, .int .i64 t, vV lo, vV hi] H (rowsA (rowsS rows lo hi)) h' ∧ Kept H h' := by
 obtain ⟨sv, H', l, hc, hg, hid, hk⟩ := rows_cl u11.toUnN.toUnM (lo := lo) (hi := hi) hp hq hn ht0 hrows hrl0 hr
 have ha := Cl.ams K11 hc (by kernel_rfl)
 have hg2 : Gro 1 (lsR (rowsS rows lo hi)) (subB (svId sv).toList H') sv := hg.grow fun i hi x hx => subB_get hx (by simp [hi])
 obtain ⟨r, hf, hcv⟩ := hg2.frz (n := 3) (by omega) (fun e he => lsR_frz (n := 0) e he)
 rw [lsR_elt] at hcv
 refine ⟨_, (AMS.freezeR (subB_ok _ H') (offB_ok _ H') (frz_ans1 hf (by omega)) ha).cv (CvH.refl _) (Cv.agg (.cons (.refl _) (.cons hcv (.refl _)))), kept_off hk fun i hi => hid i (by simpa using hi)⟩
abbrev suV (s : SumT) : AV := .agg [.int .i64 s.by_.k, .int .i64 s.by_.n, .str s.by_.s, .int .i64 s.count, .ro (s.sums.map iV) 1 false]
abbrev suR (l : List SumT) : AV := .ro (l.map suV) 5 false
abbrev sumsA (l : List SumT) : AV := .agg [iA 0, .nils, suR l, iA 0]
theorem inC_elt (l : List Int) : (inC l).map (elt 1) = l.map iV := by rw [List.map_map]; rfl
theorem su_frz {F : List Blk} {base : Nat} {sv : AV} {out : List SumT} {vs : List AV} (hl : vs.length = out.length) (hg : Gro 5 (List.zipWith suC out vs) F sv) (hel : ∀ (j : Nat) (s : SumT) (v : AV), out[j]? = some s → vs[j]? = some v → Gro 1 (inC s.sums) F v) : ∃ r, AM.frz F 5 sv = some r ∧ Cv r (suR out) := by
 rcases hg with ⟨h0, rfl⟩ | ⟨id, rfl, hb⟩
 ·have : out = [] := by
   cases out with
   | nil => rfl
   | cons a r => cases vs with
    | nil => simp at hl
    | cons b s => simp at h0
  subst this
  exact ⟨.nils, rfl, Cv.nils⟩
 ·have hin : ∀ (j : Nat) (s : SumT) (v : AV), out[j]? = some s → vs[j]? = some v → ∃ r, AM.frz F 4 v = some r ∧ Cv r (.ro (s.sums.map iV) 1 false) ∧ r.one = true := fun j s v h1 h2 => by
   have hg := hel j s v h1 h2
   obtain ⟨r, h3, h4⟩ := hg.frz (n := 3) (by omega) (fun e he => by obtain ⟨x, _, rfl⟩ := List.mem_map.1 he; rfl)
   rw [inC_elt] at h4
   refine ⟨r, h3, h4, ?_⟩
   rcases hg with ⟨_, rfl⟩ | ⟨id, rfl, hb⟩
   ·cases h3; rfl
   ·rw [AM.frz] at h3
    split at h3
    ·first | (split at h3 <;> cases h3 <;> rfl) | (cases h3; rfl)
    ·split at h3
     ·split at h3
      ·rw [Option.bind_eq_some_iff] at h3
       obtain ⟨l, _, h3⟩ := h3
       split at h3
       ·cases h3; rfl
       ·cases h3
      ·cases h3
     ·cases h3
  let ws := vs.map fun v => (AM.frz F 4 v).getD .dead
  have hws : ∀ (j : Nat) (s : SumT) (v w : AV), out[j]? = some s → vs[j]? = some v → ws[j]? = some w → AM.frz F 4 v = some w ∧ Cv w (.ro (s.sums.map iV) 1 false) ∧ w.one = true := fun j s v w h1 h2 h3 => by
   obtain ⟨r, g1, g2, g3⟩ := hin j s v h1 h2
   simp only [ws, List.getElem?_map, h2, Option.map_some, g1, Option.getD_some, Option.some.injEq] at h3
   subst h3
   exact ⟨g1, g2, g3⟩
  have hwl : ws.length = out.length := by simp [ws, hl]
  generalize ws = ws at hws hwl
  have hz : ∀ (vs : List AV), vs.length = out.length → ∀ (j : Nat) (e : List AV), (List.zipWith suC out vs)[j]? = some e → ∃ s v, out[j]? = some s ∧ vs[j]? = some v ∧ e = suC s v := fun vs hl j e h => by
   rw [List.getElem?_zipWith] at h
   cases h1 : out[j]? with
   | none => rw [h1] at h; cases h
   | some s =>
    cases h2 : vs[j]? with
    | none => rw [h1, h2] at h; cases h
    | some v => rw [h1, h2] at h; cases h; exact ⟨s, v, rfl, rfl, rfl⟩
  obtain ⟨ex', he⟩ := hb.frz (n := 4) (es' := List.zipWith suC out ws) (by omega) (by simp [hl, hwl]) (fun j e e' h1 h2 => by
   obtain ⟨s, v, a1, a2, rfl⟩ := hz vs hl j e h1
   obtain ⟨s', w, b1, b2, rfl⟩ := hz ws hwl j e' h2
   rw [a1] at b1
   cases b1
   obtain ⟨g1, _, _⟩ := hws j s v w a1 a2 b2
   have e1 : ∀ i, AM.frz F 4 (.int .i64 i) = some (.int .i64 i) := fun _ => rfl
   have e2 : AM.frz F 4 (.str s.by_.s) = some (.str s.by_.s) := rfl
   simp only [suC, mapO, e1, e2, g1, Option.bind_some, Option.map_some]) (fun e h => by
    obtain ⟨j, h⟩ := List.mem_iff_getElem?.1 h
    obtain ⟨s, w, _, _, rfl⟩ := hz ws hwl j e h
    rfl) (fun e h => by
    obtain ⟨j, h⟩ := List.mem_iff_getElem?.1 h
    obtain ⟨s, w, b1, b2, rfl⟩ := hz ws hwl j e h
    obtain ⟨v, hv⟩ : ∃ v, vs[j]? = some v := ⟨vs[j]'(by have := (List.getElem?_eq_some_iff.1 b1).1; omega), List.getElem?_eq_getElem _⟩
    obtain ⟨_, _, g3⟩ := hws j s v w b1 hv b2
    show (true && (true && (true && (true && (w.one && true))))) = true
    rw [g3]; rfl)
  refine ⟨_, he, Cv.ro (by simp [hwl]) fun j hj => ?_⟩
  have hj2 : j < out.length := by simpa [hwl] using hj
  have hjw : j < ws.length := by omega
  have hjv : j < vs.length := by omega
  obtain ⟨_, g2, _⟩ := hws j _ _ _ (List.getElem?_eq_getElem hj2) (List.getElem?_eq_getElem hjv) (List.getElem?_eq_getElem hjw)
  have e1 : ((List.zipWith suC out ws).map (elt 5)).getD j .dead = elt 5 (suC out[j] ws[j]) := by
   simp [List.getD_eq_getElem?_getD, List.getElem?_zipWith, hj2, hjw]
  have e2 : (out.map suV).getD j .dead = suV out[j] := by simp [List.getD_eq_getElem?_getD, hj2]
  rw [e1, e2]
  exact .cons (.refl _) (.cons (.refl _) (.cons (.refl _) (.cons (.refl _) (.cons g2 .nil))))
theorem sums_ams {T : List (List Int)} {V : List Vw} {p : Nat} {t : Int} {gs : List KT} {lo hi : Val} {H : List Blk} (hgr0 : ∀ G, Kept H G → ∃ l, Cl G11 Mo.T 25 [.ptr p 0, .int .i64 t] G (gsV gs, G, l)) (hgl : gs.length ≤ 100000) (hky : ∀ e ∈ gs, okRd e.1) (hts : ∀ e ∈ gs, e.2.s.length ≤ 1000) :
  ∃ h', AMS Tryz.prog 59 [.ptr p 0, .int .i64 t, vV lo, vV hi] H (sumsA (sumsS gs lo hi)) h' ∧ Kept H h' := by
 obtain ⟨sv, vs, H', l, hc, hs, hk⟩ := sums_cl u11.toUnN (T := T) (V := V) (lo := lo) (hi := hi) hgr0 hgl hky hts
 have ha := Cl.ams K11 hc (by kernel_rfl)
 let B := (svId sv).toList ++ vs.filterMap svId
 have hB1 : ∀ i, svId sv = some i → i ∈ B := fun i h => by simp [B, h]
 have hB2 : ∀ (j : Nat) (v : AV) (i : Nat), vs[j]? = some v → svId v = some i → i ∈ B := fun j v i h1 h2 => by
  refine List.mem_append_right _ (List.mem_filterMap.2 ⟨v, List.mem_of_getElem? h1, h2⟩)
 have hBB : ∀ i ∈ B, H.length ≤ i := fun i h => by
  rcases List.mem_append.1 h with h | h
  ·exact hs.id i (by simpa using h)
  ·obtain ⟨v, hv, hvi⟩ := List.mem_filterMap.1 h
   obtain ⟨j, hj⟩ := List.mem_iff_getElem?.1 hv
   have hjl : j < (sumsS gs lo hi).length := by have := (List.getElem?_eq_some_iff.1 hj).1; rw [← hs.len]; exact this
   exact ((hs.el j _ v (List.getElem?_eq_getElem hjl) hj).2 i hvi).1
 generalize B = B at hB1 hB2 hBB
 obtain ⟨r, hf, hcv⟩ := su_frz (F := subB B H') (base := 0) hs.len (hs.gro.grow fun i h x hx => subB_get hx (hB1 i h)) fun j s v h1 h2 => (hs.el j s v h1 h2).1.grow fun i h x hx => subB_get hx (hB2 j v i h2 h)
 exact ⟨_, (AMS.freezeR (subB_ok B H') (offB_ok B H') (frz_ans2 hf (by omega)) ha).cv (CvH.refl _) (Cv.agg (.cons (.refl _) (.cons (.refl _) (.cons hcv (.refl _))))), kept_off hk hBB⟩
open Go
theorem fitsRow_get : ∀ {c : List Int} {r : List Val} {i : Nat} {ci : Int}, fitsRow c r = true → c[i]? = some ci → ∃ v, r[i]? = some v ∧ v.k = ci ∧ goodVal v = true
 | [], _, _, _, _, h => by simp at h
 | c :: cs, [], _, _, h, _ => by simp [fitsRow] at h
 | c :: cs, v :: vs, 0, ci, h, hc => by
  simp only [fitsRow, Bool.and_eq_true, decide_eq_true_eq] at h
  simp only [List.getElem?_cons_zero, Option.some.injEq] at hc
  exact ⟨v, rfl, h.1.trans hc, h.2.1⟩
 | c :: cs, v :: vs, i + 1, ci, h, hc => by
  simp only [fitsRow, Bool.and_eq_true, decide_eq_true_eq] at h
  simp only [List.getElem?_cons_succ] at hc ⊢
  exact fitsRow_get h.2.2 hc
theorem fitsRow_set : ∀ {c : List Int} {r : List Val} {i : Nat} {ci : Int} {v : Val}, fitsRow c r = true → c[i]? = some ci → v.k = ci → goodVal v = true → fitsRow c (r.set i v) = true
 | [], _, _, _, _, _, h, _, _ => by simp at h
 | c :: cs, [], _, _, _, h, _, _, _ => by simp [fitsRow] at h
 | c :: cs, x :: vs, 0, ci, v, h, hc, hk, hg => by
  simp only [fitsRow, Bool.and_eq_true, decide_eq_true_eq] at h
  simp only [List.getElem?_cons_zero, Option.some.injEq] at hc
  simp only [List.set_cons_zero, fitsRow, Bool.and_eq_true, decide_eq_true_eq]
  exact ⟨hk.trans hc.symm, hg, h.2.2⟩
 | c :: cs, x :: vs, i + 1, ci, v, h, hc, hk, hg => by
  simp only [fitsRow, Bool.and_eq_true, decide_eq_true_eq] at h
  simp only [List.getElem?_cons_succ] at hc
  simp only [List.set_cons_succ, fitsRow, Bool.and_eq_true, decide_eq_true_eq]
  exact ⟨h.1, h.2.1, fitsRow_set h.2.2 hc hk hg⟩
theorem fitsB_nat {T : List (List Int)} {t : Nat} {row : List Val} : fitsB T (t : Int) row = (match T[t]? with | some c => fitsRow c row | none => false) := by
 have : ¬ ((t : Int) < 0) := by omega
 simp only [fitsB, this, if_false, Int.toNat_natCast]
 cases T[t]? <;> rfl
theorem fitsB_at {T : List (List Int)} {t : Int} (h : 0 ≤ t) (row : List Val) : fitsB T t row = fitsB T (t.toNat : Int) row := by rw [show ((t.toNat : Nat) : Int) = t by omega]
structure OkTb (T : List (List Int)) (k : Nat) (ts : Tabs) : Prop where
 len : ts.length = T.length
 rows : ∀ (t : Nat) (rows : List (List Val)), ts[t]? = some rows → rows.length ≤ k ∧ ∀ r ∈ rows, fitsB T (t : Int) r = true
structure OkP (T : List (List Int)) (V : List Vw) : Prop extends OkPl T V where
 num : ∀ w ∈ V, ∀ c, T[w.1.toNat]? = some c → c[w.2.1.toNat]? = some 1
structure OkS (T : List (List Int)) (k : Nat) (s : DS) : Prop where
 now : OkTb T k s.now
 was : ∀ ts, s.was = some ts → OkTb T k ts
 marks : ∀ ts ∈ s.marks, OkTb T k ts
 ml : s.marks.length ≤ 4
theorem OkTb.mono {T : List (List Int)} {k k' : Nat} {ts : Tabs} (h : OkTb T k ts) (hk : k ≤ k') : OkTb T k' ts := ⟨h.len, fun t rows hr => ⟨Nat.le_trans (h.rows t rows hr).1 hk, (h.rows t rows hr).2⟩⟩
theorem OkS.mono {T : List (List Int)} {k k' : Nat} {s : DS} (h : OkS T k s) (hk : k ≤ k') : OkS T k' s := ⟨h.now.mono hk, fun ts e => (h.was ts e).mono hk, fun ts e => (h.marks ts e).mono hk, h.ml⟩
section
variable {T : List (List Int)} {V : List Vw} {k : Nat} {ts : Tabs} {s : DS}
theorem fit_len (pl : OkPl T V) {t : Int} {r : List Val} (h : fitsB T t r = true) : 0 < r.length ∧ r.length ≤ 1000 ∧ 0 ≤ t ∧ ∃ c, T[t.toNat]? = some c ∧ r.length = c.length := by
 unfold fitsB at h
 split at h
 ·cases h
 ·split at h
  ·rename_i h0 c hc
   have hl := fitsRow_len h
   have := pl.cl c (List.mem_of_getElem? hc)
   exact ⟨by omega, by omega, by omega, c, hc, hl⟩
  ·cases h
theorem okGr (pl : OkP T V) (row : List Val) : OkGr T V row := fun w hw hf => by
 obtain ⟨h1, h2, h3, c, hc, hcl, _⟩ := pl.vw w hw
 refine ⟨h2, ?_⟩
 rw [fitsB_at h1, fitsB_nat, hc] at hf
 obtain ⟨v, hv, hk, hg⟩ := fitsRow_get hf (pl.num w hw c hc)
 refine ⟨v, hv, ?_⟩
 simp only [goodVal, hk, if_true] at hg
 simp [isNum, hk, hg]
theorem okRow (pl : OkP T V) {w : Vw} (hw : w ∈ V) {r : List Val} (h : fitsB T w.1 r = true) : OkRow T V w r where
 len := (fit_len pl.toOkPl h).2.1
 fit := h
 gr := okGr pl r
 sm := fun x hx => by
  obtain ⟨h1, h2, h3, c, hc, hcl, hs⟩ := pl.vw w hw
  obtain ⟨_, _, _, c', hc', hl⟩ := fit_len pl.toOkPl h
  rw [hc] at hc'
  cases hc'
  have := hs x hx
  exact ⟨this.1, by omega⟩
theorem OkTb.okNow (pl : OkP T V) (h : OkTb T k ts) (hk : k ≤ 100000) : OkNow T V ts := fun v w hv => by
 have hw := List.mem_of_getElem? hv
 obtain ⟨h1, h2, h3, c, hc, hcl, hs⟩ := pl.vw w hw
 have ht := (List.getElem?_eq_some_iff.1 hc).1
 have hr : ts[w.1.toNat]? = some (ts[w.1.toNat]'(by rw [h.len]; exact ht)) := List.getElem?_eq_getElem _
 refine ⟨_, ⟨pl.tl, by omega, by simpa using hv, h3, fun r hm => okRow pl hw ?_, ?_⟩, h1, hr⟩
 ·have := (h.rows _ _ hr).2 r hm
  rw [fitsB_at h1]
  exact this
 ·exact Nat.le_trans (h.rows _ _ hr).1 hk
theorem OkTb.set (h : OkTb T k ts) {t : Nat} {rows : List (List Val)} (hl : rows.length ≤ k) (hf : ∀ r ∈ rows, fitsB T (t : Int) r = true) : OkTb T k (ts.set t rows) := by
 refine ⟨by rw [List.length_set]; exact h.len, fun t' rows' hr => ?_⟩
 by_cases ht : t = t'
 ·subst ht
  by_cases hlt : t < ts.length
  ·rw [List.getElem?_set_self hlt] at hr
   cases hr
   exact ⟨hl, hf⟩
  ·rw [List.getElem?_eq_none (by simp; omega)] at hr
   cases hr
 ·rw [List.getElem?_set_ne ht] at hr
  exact h.rows t' rows' hr
theorem OkTb.okTs (h : OkTb T k ts) (pl : OkPl T V) (hk : k ≤ 1000000) : okTs ts := ⟨by rw [h.len]; exact pl.tl, fun x hx => by
 obtain ⟨i, hi⟩ := List.mem_iff_getElem?.1 hx
 exact Nat.le_trans (h.rows i x hi).1 hk⟩
theorem OkTb.okBs (pl : OkPl T V) (h : OkTb T k ts) (hk : k ≤ 1000000) {t : Nat} {rows : List (List Val)} (hr : ts[t]? = some rows) (v : Val) : okBs (rows, v) := ⟨Nat.le_trans (h.rows t rows hr).1 hk, fun r hm => (fit_len pl ((h.rows t rows hr).2 r hm)).1⟩
theorem OkTb.at (h : OkTb T k ts) {t : Int} {c : List Int} (hc : T[t.toNat]? = some c) : ∃ rows, ts[t.toNat]? = some rows ∧ ts.getD t.toNat [] = rows := by
 have ht := (List.getElem?_eq_some_iff.1 hc).1
 have hr : ts[t.toNat]? = some (ts[t.toNat]'(by rw [h.len]; exact ht)) := List.getElem?_eq_getElem _
 exact ⟨_, hr, by rw [List.getD_eq_getElem?_getD, hr]; rfl⟩
theorem wish_tb {w : Wi} (h : wishB T V w = true) (hk : w.kd = 1 ∨ w.kd = 2 ∨ w.kd = 3 ∨ w.kd = 4 ∨ w.kd = 5) : 0 ≤ w.tb ∧ ∃ c, T[w.tb.toNat]? = some c ∧ (w.kd = 1 → fitsB T w.tb w.row = true) ∧ (w.kd = 3 → 1 ≤ w.cl ∧ ∃ cc, c[w.cl.toNat]? = some cc ∧ w.vl.k = cc ∧ goodVal w.vl = true) := by
 have h2 : ofTableB T w = true := by
  unfold wishB at h
  rw [if_neg (by omega), if_neg (by omega), if_pos (by omega)] at h
  exact h
 unfold ofTableB at h2
 split at h2
 ·cases h2
 ·rename_i h0
  split at h2
  ·cases h2
  ·rename_i c hc
   refine ⟨by omega, c, hc, fun h1 => ?_, fun h3 => ?_⟩
   ·rw [if_pos h1] at h2
    exact fitsE_0.1 (by simpa using h2)
   ·rw [if_neg (by omega)] at h2
    split at h2
    ·cases h2
    ·rw [if_neg (by omega), if_pos h3] at h2
     simp only [Bool.and_eq_true, decide_eq_true_eq] at h2
     obtain ⟨_, h4, h5⟩ := h2
     split at h5
     ·rename_i cc hcc
      simp only [isValB, Bool.and_eq_true, decide_eq_true_eq] at h5
      exact ⟨h4, cc, hcc, h5.1, h5.2⟩
     ·cases h5
theorem wish_vw {w : Wi} (h : wishB T V w = true) (hk : w.kd = 6 ∨ w.kd = 7) : 0 ≤ w.tb ∧ ∃ vw, V[w.tb.toNat]? = some vw := by
 have h2 : ofViewB T V w = true := by
  unfold wishB at h
  rw [if_pos hk] at h
  exact h
 unfold ofViewB at h2
 split at h2
 ·cases h2
 ·split at h2
  ·cases h2
  ·rename_i vw hv
   exact ⟨by omega, vw, hv⟩
theorem insL_mem {rows : List (List Val)} {i : Nat} {row r : List Val} (h : r ∈ insL rows i row) : r = row ∨ r ∈ rows := by
 simp only [insL, List.mem_append, List.mem_cons] at h
 rcases h with h | h | h
 ·exact .inr (List.mem_of_mem_take h)
 ·exact .inl h
 ·exact .inr (List.mem_of_mem_drop h)
theorem insL_len {rows : List (List Val)} {i : Nat} {row : List Val} (h : i ≤ rows.length) : (insL rows i row).length = rows.length + 1 := by
 simp [insL]; omega
theorem chS_ok {free : Bool} {t : Int} {rows : List (List Val)} (h : OkTb T k ts) (h' : OkTb T k (ts.set t.toNat rows)) : OkTb T k (chS T V free ts t rows).2 := by
 unfold chS
 split
 ·exact h
 ·exact h'
theorem chS_len {free : Bool} {t : Int} {rows : List (List Val)} : (chS T V free ts t rows).2.length = ts.length := by
 unfold chS
 split <;> simp
theorem ins_set (pl : OkP T V) (h : OkTb T k ts) (hk : k ≤ 100000) {w : Wi} (hw : wishB T V w = true) (h1 : w.kd = 1) {rows : List (List Val)} (hr : ts[w.tb.toNat]? = some rows) {i : Nat} (hi : i ≤ rows.length) : OkTb T (k + 1) (ts.set w.tb.toNat (insL rows i w.row)) := by
 obtain ⟨h0, c, hc, hf, _⟩ := wish_tb hw (.inl h1)
 refine (h.mono (Nat.le_succ k)).set (by rw [insL_len hi]; have := (h.rows _ _ hr).1; omega) fun r hm => ?_
 rcases insL_mem hm with rfl | hm
 ·rw [← fitsB_at h0]; exact hf h1
 ·exact (h.rows _ _ hr).2 r hm
theorem chg_set (pl : OkP T V) (h : OkTb T k ts) {w : Wi} (hw : wishB T V w = true) (h1 : w.kd = 2 ∨ w.kd = 3) {rows : List (List Val)} (hr : ts[w.tb.toNat]? = some rows) {i : Nat} {row : List Val} (hi : rows[i]? = some row) : OkTb T k (ts.set w.tb.toNat (if w.kd = 2 then rows.eraseIdx i else rows.set i (row.set w.cl.toNat w.vl))) := by
 obtain ⟨h0, c, hc, _, hv⟩ := wish_tb hw (by omega)
 have hrr := h.rows _ _ hr
 split
 ·exact h.set (Nat.le_trans (List.length_eraseIdx_le _ _) hrr.1) fun r hm => hrr.2 r (List.mem_of_mem_eraseIdx hm)
 ·rename_i hne
  refine h.set (by rw [List.length_set]; exact hrr.1) fun r hm => ?_
  rcases List.mem_or_eq_of_mem_set hm with hm | rfl
  ·exact hrr.2 r hm
  ·obtain ⟨_, cc, hcc, e1, e2⟩ := hv (h1.resolve_left hne)
   have := hrr.2 row (List.mem_of_getElem? hi)
   rw [fitsB_nat, hc] at this ⊢
   exact fitsRow_set this hcc e1 e2
end
open Go
noncomputable def groupsS (T : List (List Int)) (V : List Vw) (now : Tabs) (v : Int) : List KT := match V[v.toNat]? with
 | some w => viewS T V v (now.getD w.1.toNat [])
 | none => []
noncomputable def insM (T : List (List Int)) (V : List Vw) (free : Bool) (s : DS) (w : Wi) : AV × DS := (errA (insS T V free s.now w).1, { s with now := (insS T V free s.now w).2 })
noncomputable def chgM (T : List (List Int)) (V : List Vw) (free : Bool) (s : DS) (w : Wi) : AV × DS := (errA (cgS T V free s.now w).1, { s with now := (cgS T V free s.now w).2 })
def rowsM (T : List (List Int)) (V : List Vw) (free : Bool) (s : DS) (x : Int × Val × Val) : AV × DS := (rowsA (rowsS (s.now.getD x.1.toNat []) x.2.1 x.2.2), s)
noncomputable def sumsM (T : List (List Int)) (V : List Vw) (free : Bool) (s : DS) (x : Int × Val × Val) : AV × DS := (sumsA (sumsS (groupsS T V s.now x.1) x.2.1 x.2.2), s)
def saveM (T : List (List Int)) (V : List Vw) (free : Bool) (s : DS) (x : Unit) : AV × DS := saveS s
def backM (T : List (List Int)) (V : List Vw) (free : Bool) (s : DS) (n : Int) : AV × DS := (errA (backS s n).1, (backS s n).2)
noncomputable def gam13 : List (Nat × GF) := (95, anyG Tryz.prog 95 II) :: (90, g90m) :: gam11
noncomputable abbrev G13 : FuncId → Option GF := gGet gam13
theorem K13 : Known (gGet gam13) tree.get Tryz.prog := known_of (by kernel_rfl) ⟨anyG_ok ⟨_, Tryz.func95, by kernel_rfl, by kernel_rfl⟩, cloneM90_ok, bs_ok, read_ok, views_ok, con_ok, ov1_ok, wish_ok, clone64_ok, clone90_ok, isVal_ok, view_ok, grp_ok, tot_ok, adt_ok, fit_ok, code_ok, int_ok, of_ok, add_ok, cmp_ok, good_ok, xSub_ok, xAdd_ok, trivial⟩ all
theorem u13 : UnT G13 := { n97 := by kernel_rfl, n58 := by kernel_rfl, n25 := by kernel_rfl, e120 := by kernel_rfl, e64 := by kernel_rfl, e66 := by kernel_rfl, n59 := by kernel_rfl, e98 := by kernel_rfl, n121 := by kernel_rfl, n94 := by kernel_rfl, e148 := by kernel_rfl, e149 := by kernel_rfl, n93 := by kernel_rfl, e118 := by kernel_rfl, n56 := by kernel_rfl, e90 := by kernel_rfl, e95 := by kernel_rfl }
theorem DBB.onto {T : List (List Int)} {V : List Vw} {free : Bool} {p q : Nat} {wv mv : AV} {s : DS} {H H' : List Blk} {ts : Tabs} (hb : DBB T V free H p q wv mv s) (hq' : H'[q]? = some (.cells (tsC ts))) (hl : ts.length = s.now.length) (ho : Onto q H H') : DBA T V free H' p { s with now := ts } ∧ Step H p H' := by
 obtain ⟨hqp, hwn, hmn⟩ := hb.ne
 have hp' := ho.2 p _ (Ne.symm hqp) hb.hp
 have hn : DBB T V free H' p q wv mv { s with now := ts } := by
  refine ⟨by rw [show ({ s with now := ts } : DS).now.length = s.now.length from hl]; exact hp', hq', ?_, hb.hm.keep fun i x hi hx => ho.2 i x (hmn i hi).2.1 hx, ?_⟩
  ·rw [show ({ s with now := ts } : DS).now.length = s.now.length from hl]
   exact hb.hw.keep fun i x hi hx => ho.2 i x (hwn i hi).2 hx
  ·rw [ids_of hp', ← ids_of hb.hp]; exact hb.nd
 refine ⟨⟨q, wv, mv, hn⟩, ho.1, fun i hi => ?_, fun i x hi hx => ho.2 i x (fun e => hi (by rw [ids_of hb.hp, e]; simp)) hx⟩
 rw [ids_of hp', ← ids_of hb.hp] at hi
 exact .inl hi
section
variable {T : List (List Int)} {V : List Vw} {free : Bool} {k p : Nat} {s : DS} {H : List Blk} {w : Wi}
theorem insS_len {ts : Tabs} : (insS T V free ts w).2.length = ts.length := by
 unfold insS
 split
 ·rfl
 ·exact chS_len
theorem cgS_len {ts : Tabs} : (cgS T V free ts w).2.length = ts.length := by
 unfold cgS
 split
 ·exact chS_len
 ·rfl
theorem ins_m (pl : OkP T V) (ok : OkS T k s) (hk : k ≤ 99999) (hd : DBA T V free H p s) (hw : wishB T V w = true) (h1 : w.kd = 1) : ∃ h', AMS Tryz.prog 56 [.ptr p 0, .agg (enWi w)] H (insM T V free s w).1 h' ∧ DBA T V free h' p (insM T V free s w).2 ∧ Step H p h' := by
 obtain ⟨q, wv, mv, hb⟩ := hd
 obtain ⟨h0, c, hc, hf, _⟩ := wish_tb hw (.inl h1)
 obtain ⟨rows, hr, _⟩ := ok.now.at hc
 obtain ⟨e1, e2, _⟩ := fit_len pl.toOkPl (hf h1)
 obtain ⟨H', l, g1, g2, g3⟩ := insert_cl u13 hb.hp hb.hq hb.ne.1 rfl h0 hr ⟨e1, e2⟩ (ok.now.okBs pl.toOkPl (by omega) hr _) (by have := pl.vl; omega) (free := free) fun i hi => (ins_set pl ok.now (by omega) hw h1 hr hi).okNow pl (by omega)
 exact ⟨H', Cl.ams K13 g1 (by kernel_rfl), hb.onto g2 insS_len g3⟩
theorem chg_m (pl : OkP T V) (ok : OkS T k s) (hk : k ≤ 99999) (hd : DBA T V free H p s) (hw : wishB T V w = true) (h1 : w.kd = 2 ∨ w.kd = 3) : ∃ h', AMS Tryz.prog 57 [.ptr p 0, .agg (enWi w)] H (chgM T V free s w).1 h' ∧ DBA T V free h' p (chgM T V free s w).2 ∧ Step H p h' := by
 obtain ⟨q, wv, mv, hb⟩ := hd
 obtain ⟨h0, c, hc, _, hv⟩ := wish_tb hw (by omega)
 obtain ⟨rows, hr, _⟩ := ok.now.at hc
 obtain ⟨H', l, g1, g2, g3⟩ := change_cl u12 hb.hp hb.hq hb.ne.1 rfl h0 hr (ok.now.okBs pl.toOkPl (by omega) hr _) (by have := pl.vl; omega) (free := free) (fun hne r hm => by
  obtain ⟨h4, cc, hcc, _⟩ := hv (h1.resolve_left hne)
  have hfr := (ok.now.rows _ _ hr).2 r hm
  obtain ⟨e1, e2, _, c', hc', e3⟩ := fit_len pl.toOkPl hfr
  rw [Int.toNat_natCast, hc] at hc'
  cases hc'
  have := (List.getElem?_eq_some_iff.1 hcc).1
  omega) fun i row hi => (chg_set pl ok.now hw h1 hr hi).okNow pl (by omega)
 exact ⟨H', Cl.ams K12 g1 (by kernel_rfl), hb.onto g2 cgS_len g3⟩
theorem rows_m (pl : OkP T V) (ok : OkS T k s) (hk : k ≤ 99999) (hd : DBA T V free H p s) {x : Int × Val × Val} (h0 : 0 ≤ x.1) {c : List Int} (hc : T[x.1.toNat]? = some c) : ∃ h', AMS Tryz.prog 58 [.ptr p 0, .int .i64 x.1, vV x.2.1, vV x.2.2] H (rowsM T V free s x).1 h' ∧ DBA T V free h' p (rowsM T V free s x).2 ∧ Step H p h' := by
 have hd0 := hd
 obtain ⟨q, wv, mv, hb⟩ := hd
 obtain ⟨rows, hr, hg⟩ := ok.now.at hc
 have hrr := ok.now.rows _ _ hr
 obtain ⟨h', g1, g2⟩ := rows_ams (lo := x.2.1) (hi := x.2.2) hb.hp hb.hq rfl h0 hr (by omega) fun r hm => by
  obtain ⟨e1, e2, _⟩ := fit_len pl.toOkPl (hrr.2 r hm)
  exact ⟨e1, e2⟩
 refine ⟨h', ?_, (Step.kept hd0 g2).symm⟩
 rw [show (rowsM T V free s x).1 = rowsA (rowsS rows x.2.1 x.2.2) by rw [rowsM, hg]]
 exact g1
theorem groups_m (pl : OkP T V) (ok : OkTb T k s.now) (hk : k ≤ 99999) (hd : DBA T V free H p s) {v : Int} (h0 : 0 ≤ v) {vw : Vw} (hv : V[v.toNat]? = some vw) : (∀ G, Kept H G → ∃ l, Cl G11 Mo.T 25 [.ptr p 0, .int .i64 v] G (gsV (groupsS T V s.now v), G, l)) ∧ (groupsS T V s.now v).length ≤ 100000 ∧ (∀ e ∈ groupsS T V s.now v, okRd e.1) ∧ ∀ e ∈ groupsS T V s.now v, e.2.s.length ≤ 1000 := by
 obtain ⟨q, wv, mv, hb⟩ := hd
 obtain ⟨rows, hok, h1, hr⟩ := ok.okNow pl (by omega) v.toNat vw hv
 have ev : ((v.toNat : Nat) : Int) = v := by omega
 rw [ev] at hok
 have e : groupsS T V s.now v = viewS T V v rows := by
  rw [groupsS, hv]
  simp only [List.getD_eq_getElem?_getD, hr, Option.getD_some]
 rw [e]
 refine ⟨fun G hk => ?_, Nat.le_trans (viewS_len hok) hok.len, viewS_keys hok, viewS_tot hok⟩
 exact groupsM_cl u11.toUnN.toUnM (hk.2 _ _ hb.hp) (hk.2 _ _ hb.hq) rfl hok h1 hr
theorem sums_m (pl : OkP T V) (ok : OkS T k s) (hk : k ≤ 99999) (hd : DBA T V free H p s) {x : Int × Val × Val} (h0 : 0 ≤ x.1) {vw : Vw} (hv : V[x.1.toNat]? = some vw) : ∃ h', AMS Tryz.prog 59 [.ptr p 0, .int .i64 x.1, vV x.2.1, vV x.2.2] H (sumsM T V free s x).1 h' ∧ DBA T V free h' p (sumsM T V free s x).2 ∧ Step H p h' := by
 obtain ⟨g1, g2, g3, g4⟩ := groups_m pl ok.now hk hd h0 hv
 obtain ⟨h', a1, a2⟩ := sums_ams (T := T) (V := V) (lo := x.2.1) (hi := x.2.2) g1 g2 g3 g4
 exact ⟨h', a1, (Step.kept hd a2).symm⟩
theorem save_m (pl : OkP T V) (ok : OkS T k s) (hk : k ≤ 99999) (hd : DBA T V free H p s) : ∃ h', AMS Tryz.prog 60 [.ptr p 0] H (saveM T V free s ()).1 h' ∧ DBA T V free h' p (saveM T V free s ()).2 ∧ Step H p h' := by
 obtain ⟨H', lo, g1, g2, g3⟩ := save_cl (Γ := gGet gamS) (by kernel_rfl) (by kernel_rfl) hd (ok.now.okTs pl.toOkPl (by omega)) (by have := ok.ml; omega)
 exact ⟨H', Cl.ams KS g1 (by kernel_rfl), g2, g3⟩
theorem back_m (pl : OkP T V) (ok : OkS T k s) (hk : k ≤ 99999) (hd : DBA T V free H p s) (n : Int) : ∃ h', AMS Tryz.prog 61 [.ptr p 0, .int .i64 n] H (backM T V free s n).1 h' ∧ DBA T V free h' p (backM T V free s n).2 ∧ Step H p h' := by
 obtain ⟨H', lo, g1, g2, g3⟩ := back_cl (Γ := gGet gamB) (by kernel_rfl) (by kernel_rfl) hd n (fun ts hm => ⟨(ok.marks ts hm).okTs pl.toOkPl (by omega), by rw [(ok.marks ts hm).len, ok.now.len]⟩) (by have := ok.ml; omega)
 exact ⟨H', Cl.ams KB g1 (by kernel_rfl), g2, g3⟩
theorem ins_ok (pl : OkP T V) (ok : OkS T k s) (hk : k ≤ 99999) (hw : wishB T V w = true) (h1 : w.kd = 1) : OkS T (k + 1) (insM T V free s w).2 := by
 obtain ⟨h0, c, hc, hf, _⟩ := wish_tb hw (.inl h1)
 obtain ⟨rows, hr, hg⟩ := ok.now.at hc
 refine ⟨?_, fun ts h => (ok.was ts h).mono (Nat.le_succ k), fun ts h => (ok.marks ts h).mono (Nat.le_succ k), ok.ml⟩
 show OkTb T (k + 1) (insS T V free s.now w).2
 unfold insS
 split
 ·exact ok.now.mono (Nat.le_succ k)
 ·rw [hg]
  obtain ⟨_, _, hsp, _⟩ := bsK_spec (ok.now.okBs pl.toOkPl (by omega) hr (hdV w.row))
  exact chS_ok (ok.now.mono (Nat.le_succ k)) (ins_set pl ok.now (by omega) hw h1 hr hsp.1)
theorem chg_ok (pl : OkP T V) (ok : OkS T k s) (hk : k ≤ 99999) (hw : wishB T V w = true) (h1 : w.kd = 2 ∨ w.kd = 3) : OkS T k (chgM T V free s w).2 := by
 obtain ⟨h0, c, hc, hf, _⟩ := wish_tb hw (by omega)
 obtain ⟨rows, hr, hg⟩ := ok.now.at hc
 refine ⟨?_, ok.was, ok.marks, ok.ml⟩
 show OkTb T k (cgS T V free s.now w).2
 unfold cgS
 split
 ·rename_i hb
  rw [hg] at hb ⊢
  obtain ⟨_, _, hsp, _⟩ := bsK_spec (ok.now.okBs pl.toOkPl (by omega) hr w.key)
  have hlt := hsp.2 hb
  simp only at hlt
  have hi : rows[(bsK rows w.key).1]? = some (rows.getD (bsK rows w.key).1 []) := by rw [List.getD_eq_getElem?_getD, List.getElem?_eq_getElem hlt]; rfl
  exact chS_ok ok.now (chg_set pl ok.now hw h1 hr hi)
 ·exact ok.now
theorem save_ok (ok : OkS T k s) : OkS T k (saveS s).2 := by
 unfold saveS
 split
 ·exact ok
 ·refine ⟨ok.now, ok.was, fun ts h => ?_, by simp; omega⟩
  rcases List.mem_append.1 h with h | h
  ·exact ok.marks ts h
  ·rw [List.mem_singleton.1 h]; exact ok.now
theorem back_ok (ok : OkS T k s) (n : Int) : OkS T k (backS s n).2 := by
 unfold backS
 split
 ·exact ok
 ·rename_i h
  have hlt : n.toNat < s.marks.length := by omega
  refine ⟨?_, ok.was, fun ts h => ok.marks ts (List.mem_of_mem_take h), ?_⟩
  ·show OkTb T k (s.marks.getD n.toNat [])
   rw [List.getD_eq_getElem?_getD, List.getElem?_eq_getElem hlt]
   exact ok.marks _ (List.getElem_mem hlt)
  ·show (s.marks.take (n.toNat + 1)).length ≤ 4
   have := ok.ml
   rw [List.length_take]; omega
end
end Go.Proofs.YtenpjpldjmoefaaGreat.AM.Mo
