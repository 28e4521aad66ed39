/-
  'gauger's law ModelBack holds of every input: it returns true, and each argument reads behind the call as it read before.
  This text: part 14 of 22 of the proof (MoI, MoJ, MoK0).
-/
import Derived.Test.YtenpjpldjmoefaaGreatMam
import Derived.Test.YtenpjpldjmoefaaGreatMah
import Derived.Lib.Overlaps
import Derived.Laws.Externs
set_option linter.unusedVariables false
set_option linter.unusedSimpArgs false
set_option maxRecDepth 100000
set_option maxHeartbeats 4000000
namespace Go.Proofs.YtenpjpldjmoefaaGreat.AM.Mo
open Go
structure Wi where
 kd : Int
 tb : Int
 key : Val
 hi : Val
 row : List Val
 cl : Int
 vl : Val
 n : Int
abbrev enWi (w : Wi) : List AV := [.int .i64 w.kd, .int .i64 w.tb, .int .i64 w.key.k, .int .i64 w.key.n, .str w.key.s, .int .i64 w.hi.k, .int .i64 w.hi.n, .str w.hi.s, rV w.row, .int .i64 w.cl, .int .i64 w.vl.k, .int .i64 w.vl.n, .str w.vl.s, .int .i64 w.n]
def isValB (v : Val) (k : Int) : Bool := decide (v.k = k) && goodVal v
theorem isVal_cl (v : Val) (c : Int) (H : List Blk) : ∃ H' lo, Cl G5 Mo.T 116 [vV v, .int .i64 c] H (.bool (isValB v c), H', lo) := by
 by_cases h1 : v.k = c
 ·rw [show isValB v c = goodVal v by simp [isValB, h1]]
  exact ⟨(ap H [(.int .i64 v.k), (.int .i64 v.n), (.str v.s)]), clV 1 (af := a116) (r := (.bool (goodVal v))) (h' := (ap H [(.int .i64 v.k), (.int .i64 v.n), (.str v.s)])) [.w (.box (.c (.agg (enV v)))) (.ptr H.length 0) (ap H (enV v)) none, .f (.load none (.c (.ptr H.length 0))) (.int .i64 v.k), .b (v.k == c) true, .f (.load (some 3) (.c (.ptr H.length 0))) (.agg (enV v)), .r 142 [(.agg (enV v))] (.bool (goodVal v)) (ap H [(.int .i64 v.k), (.int .i64 v.n), (.str v.s)]) none] [] (by kernel_rfl) ⟨rfl, (ldV gl), (cE h1), (ldV gl), (good_e (by kernel_rfl) v _), trivial⟩⟩
 ·rw [show isValB v c = false by simp [isValB, h1]]
  exact ⟨(ap H (enV v)), clV 1 (af := a116) (r := (.bool false)) (h' := (ap H (enV v))) [.w (.box (.c (.agg (enV v)))) (.ptr H.length 0) (ap H (enV v)) none, .f (.load none (.c (.ptr H.length 0))) (.int .i64 v.k), .b (v.k == c) false] [] (by kernel_rfl) ⟨rfl, (ldV gl), (cN h1), trivial⟩⟩
def g116 : List AV → Option AV
 | [.agg [.int .i64 k, .int .i64 n, .str s], .int .i64 c] => some (.bool (isValB ⟨k, n, s⟩ c))
 | _ => none
theorem isVal_ok : GOk Tryz.prog 116 (pureG g116) := by
 refine pureG_known ⟨_, Tryz.func116, by kernel_rfl, by kernel_rfl⟩ fun args r hr _ => ?_
 unfold g116 at hr
 split at hr <;> cases hr
 rename_i k n s c _
 obtain ⟨H', lo, h⟩ := isVal_cl ⟨k, n, s⟩ c []
 exact pureS_cl K5 h (by kernel_rfl) rfl
theorem isVal_e {Γ : FuncId → Option GF} (hg : Γ 116 = some (pureG g116)) (v : Val) (c : Int) (H : List Blk) : Cl Γ Mo.T 116 [vV v, .int .i64 c] H (.bool (isValB v c), H, none) := Cl.pure (g := g116) hg rfl rfl rfl H
noncomputable def gam7 : List (Nat × GF) := (116, pureG g116) :: (66, pureG g66) :: gam5
theorem K7 : Known (gGet gam7) tree.get Tryz.prog := known_of (by kernel_rfl) ⟨isVal_ok, view_ok, grp_ok, tot_ok, adt_ok, fit_ok, code_ok, int_ok, of_ok, add_ok, cmp_ok, good_ok, xSub_ok, xAdd_ok, trivial⟩ all
noncomputable abbrev G7 : FuncId → Option GF := gGet gam7
def ofTableB (T : List (List Int)) (w : Wi) : Bool := if w.tb < 0 then false else match T[w.tb.toNat]? with
 | none => false
 | some c => if w.kd = 1 then fitsE T w.tb w.row == 0 else match c[0]? with
  | none => false
  | some c0 => if w.kd = 5 then isValB w.key c0 && isValB w.hi c0 else if w.kd = 3 then (isValB w.key c0 && (decide (w.cl ≥ 1) && (match c[w.cl.toNat]? with | some cc => isValB w.vl cc | none => false))) else if w.kd = 10 then decide (w.n = 3) || w.n == 5 else isValB w.key c0
def ofViewB (T : List (List Int)) (V : List Vw) (w : Wi) : Bool := if w.tb < 0 then false else match V[w.tb.toNat]? with
 | none => false
 | some vw => match T[vw.1.toNat]? with
  | none => false
  | some c => match c[vw.2.1.toNat]? with
   | none => false
   | some cc => isValB w.key cc && (decide (w.kd = 6) || isValB w.hi cc)
def wishB (T : List (List Int)) (V : List Vw) (w : Wi) : Bool := if w.kd = 6 ∨ w.kd = 7 then ofViewB T V w else if w.kd = 8 ∨ w.kd = 9 then true else if w.kd = 1 ∨ w.kd = 2 ∨ w.kd = 3 ∨ w.kd = 4 ∨ w.kd = 5 ∨ w.kd = 10 then ofTableB T w else false
structure OkPl (T : List (List Int)) (V : List Vw) : Prop where
 tl : T.length ≤ 1000
 cl : ∀ c ∈ T, 1 ≤ c.length ∧ c.length ≤ 1000
 vl : V.length ≤ 1000
 vw : ∀ w ∈ V, 0 ≤ w.1 ∧ 0 ≤ w.2.1 ∧ w.2.2.length ≤ 1000 ∧ ∃ c, T[w.1.toNat]? = some c ∧ w.2.1.toNat < c.length ∧ ∀ s ∈ w.2.2, 0 ≤ s ∧ s.toNat < c.length
theorem ofTable_cl {T : List (List Int)} {V : List Vw} (ok : OkPl T V) {w : Wi} (hrl : w.row.length ≤ 9223372036854775807) : ∃ H' lo, Cl G7 Mo.T 92 [pA T V, .agg (enWi w)] [] (.bool (ofTableB T w), H', lo) := by
 have hTl : T.length ≤ 9223372036854775807 := by have := ok.tl; omega
 by_cases h1 : w.tb < 0
 ·rw [show ofTableB T w = false by simp [ofTableB, h1]]
  exact ⟨(ap (ap ([] : List Blk) (pL T V)) (enWi w)), clV 1 (af := a92) (r := (.bool false)) (h' := (ap (ap ([] : List Blk) (pL T V)) (enWi w))) [.w (.box (.c (.agg (pL T V)))) (.ptr (List.length ([] : List Blk)) 0) (ap ([] : List Blk) (pL T V)) none, .w (.box (.c (.agg (enWi w)))) (.ptr (List.length (ap ([] : List Blk) (pL T V))) 0) (ap (ap ([] : List Blk) (pL T V)) (enWi w)) none, .f (.load none (.c (.ptr (List.length (ap ([] : List Blk) (pL T V))) 1))) (.int .i64 w.tb), .b (decide (w.tb < 0)) true] [] (by kernel_rfl) ⟨rfl, rfl, (ldV gl), (cT h1), trivial⟩⟩
 by_cases h2 : w.tb ≥ ((List.map tV T).length : Int)
 ·rw [show ofTableB T w = false by rw [List.length_map] at h2; simp [ofTableB, h1, List.getElem?_eq_none (show T.length ≤ w.tb.toNat by omega)]]
  exact ⟨(ap (ap ([] : List Blk) (pL T V)) (enWi w)), clV 1 (af := a92) (r := (.bool false)) (h' := (ap (ap ([] : List Blk) (pL T V)) (enWi w))) [.w (.box (.c (.agg (pL T V)))) (.ptr (List.length ([] : List Blk)) 0) (ap ([] : List Blk) (pL T V)) none, .w (.box (.c (.agg (enWi w)))) (.ptr (List.length (ap ([] : List Blk) (pL T V))) 0) (ap (ap ([] : List Blk) (pL T V)) (enWi w)) none, .f (.load none (.c (.ptr (List.length (ap ([] : List Blk) (pL T V))) 1))) (.int .i64 w.tb), .b (decide (w.tb < 0)) false, .f (.load none (.c (.ptr (List.length (ap ([] : List Blk) (pL T V))) 1))) (.int .i64 w.tb), .f (.load none (.c (.ptr (List.length ([] : List Blk)) 0))) (.ro (T.map tV) 1 false), .b (decide (w.tb ≥ ((List.length (T.map tV)) : Int))) true] [] (by kernel_rfl) ⟨rfl, rfl, (ldV gl), (cF h1), (ldV gl), (ldV (ga gl)), (cT h2), trivial⟩⟩
 have h2' : w.tb.toNat < T.length := by rw [List.length_map] at h2; omega
 have hc := List.getElem?_eq_getElem h2'
 have hcl := ok.cl _ (List.getElem_mem h2')
 generalize T[w.tb.toNat] = c at hc hcl
 have hT : (List.map tV T)[w.tb.toNat]? = some (.agg [.ro (c.map iV) 1 false]) := by simp [hc]
 by_cases k1 : w.kd = 1
 ·rw [show ofTableB T w = (fitsE T w.tb w.row == 0) by simp [ofTableB, h1, hc, k1]]
  exact ⟨(ap (ap ([] : List Blk) (pL T V)) (enWi w)), clV 1 (af := a92) (r := (.bool ((fitsE T w.tb w.row) == 0))) (h' := (ap (ap ([] : List Blk) (pL T V)) (enWi w))) [.w (.box (.c (.agg (pL T V)))) (.ptr (List.length ([] : List Blk)) 0) (ap ([] : List Blk) (pL T V)) none, .w (.box (.c (.agg (enWi w)))) (.ptr (List.length (ap ([] : List Blk) (pL T V))) 0) (ap (ap ([] : List Blk) (pL T V)) (enWi w)) none, .f (.load none (.c (.ptr (List.length (ap ([] : List Blk) (pL T V))) 1))) (.int .i64 w.tb), .b (decide (w.tb < 0)) false, .f (.load none (.c (.ptr (List.length (ap ([] : List Blk) (pL T V))) 1))) (.int .i64 w.tb), .f (.load none (.c (.ptr (List.length ([] : List Blk)) 0))) (.ro (T.map tV) 1 false), .b (decide (w.tb ≥ ((List.length (T.map tV)) : Int))) false, .f (.load none (.c (.ptr (List.length ([] : List Blk)) 0))) (.ro (T.map tV) 1 false), .f (.load none (.c (.ptr (List.length (ap ([] : List Blk) (pL T V))) 1))) (.int .i64 w.tb), .p (1 = 1), .p ((0 : Int) ≤ w.tb), .p ((w.tb : Int) < (List.length (T.map tV) : Int)), .e (T.map tV) (Int.toNat w.tb) (.agg [(.ro (c.map iV) 1 false)]), .f (.load none (.c (.ptr (List.length (ap ([] : List Blk) (pL T V))) 0))) (.int .i64 w.kd), .b (w.kd == 1) true, .f (.load (some 2) (.c (.ptr (List.length ([] : List Blk)) 0))) (.agg (pL T V)), .f (.load none (.c (.ptr (List.length (ap ([] : List Blk) (pL T V))) 1))) (.int .i64 w.tb), .f (.load none (.c (.ptr (List.length (ap ([] : List Blk) (pL T V))) 8))) (.ro (w.row.map vV) 3 false), .r 117 [(.agg (pL T V)), (.int .i64 w.tb), (.ro (w.row.map vV) 3 false)] (.int .i64 (fitsE T w.tb w.row)) (ap (ap ([] : List Blk) (pL T V)) (enWi w)) none] [] (by kernel_rfl) ⟨rfl, rfl, (ldV gl), (cF h1), (ldV gl), (ldV (ga gl)), (cF h2), (ldV (ga gl)), (ldV gl), rfl, (by omega), (by simp; omega), hT, (ldV gl), (cE k1), (ldV (ga gl)), (ldV gl), (ldV gl), (fit_e (by kernel_rfl) hTl hrl _), trivial⟩⟩
 have h0l : 0 < c.length := by omega
 have h00 := List.getElem?_eq_getElem h0l
 generalize c[0] = c0 at h00
 have h0c : (List.map iV c)[0]? = some (.int .i64 c0) := by simp [h00]
 by_cases k5 : w.kd = 5
 ·cases hb : isValB w.key c0 with
  | false =>
   rw [show ofTableB T w = false by simp [ofTableB, h1, hc, k5, h00, hb]]
   exact ⟨(ap (ap ([] : List Blk) (pL T V)) (enWi w)), clV 1 (af := a92) (r := (.bool false)) (h' := (ap (ap ([] : List Blk) (pL T V)) (enWi w))) (.w (.box (.c (.agg (pL T V)))) (.ptr (List.length ([] : List Blk)) 0) (ap ([] : List Blk) (pL T V)) none :: .w (.box (.c (.agg (enWi w)))) (.ptr (List.length (ap ([] : List Blk) (pL T V))) 0) (ap (ap ([] : List Blk) (pL T V)) (enWi w)) none :: .f (.load none (.c (.ptr (List.length (ap ([] : List Blk) (pL T V))) 1))) (.int .i64 w.tb) :: .b (decide (w.tb < 0)) false :: .f (.load none (.c (.ptr (List.length (ap ([] : List Blk) (pL T V))) 1))) (.int .i64 w.tb) :: .f (.load none (.c (.ptr (List.length ([] : List Blk)) 0))) (.ro (T.map tV) 1 false) :: [.b (decide (w.tb ≥ ((List.length (T.map tV)) : Int))) false, .f (.load none (.c (.ptr (List.length ([] : List Blk)) 0))) (.ro (T.map tV) 1 false), .f (.load none (.c (.ptr (List.length (ap ([] : List Blk) (pL T V))) 1))) (.int .i64 w.tb), .p (1 = 1), .p ((0 : Int) ≤ w.tb), .p ((w.tb : Int) < (List.length (T.map tV) : Int)), .e (T.map tV) (Int.toNat w.tb) (.agg [(.ro (c.map iV) 1 false)]), .f (.load none (.c (.ptr (List.length (ap ([] : List Blk) (pL T V))) 0))) (.int .i64 w.kd), .b (w.kd == 1) false, .b (w.kd == 5) true, .f (.load (some 3) (.c (.ptr (List.length (ap ([] : List Blk) (pL T V))) 2))) (.agg (enV w.key)), .p (1 = 1), .p ((0 : Int) ≤ 0), .p ((0 : Int) < (List.length (c.map iV) : Int)), .e (c.map iV) 0 (.int .i64 c0), .r 116 [(.agg (enV w.key)), (.int .i64 c0)] (.bool false) (ap (ap ([] : List Blk) (pL T V)) (enWi w)) none]) [] (by kernel_rfl) ⟨rfl, rfl, (ldV gl), (cF h1), (ldV gl), (ldV (ga gl)), (cF h2), (ldV (ga gl)), (ldV gl), rfl, (by omega), (by simp; omega), hT, (ldV gl), (cN k1), (cE k5), (ldV gl), rfl, (by omega), (by simp; omega), h0c, (hb ▸ isVal_e (by kernel_rfl) w.key c0 _), trivial⟩⟩
  | true =>
   rw [show ofTableB T w = isValB w.hi c0 by simp [ofTableB, h1, hc, k5, h00, hb]]
   exact ⟨(ap (ap ([] : List Blk) (pL T V)) (enWi w)), clV 1 (af := a92) (r := (.bool (isValB w.hi c0))) (h' := (ap (ap ([] : List Blk) (pL T V)) (enWi w))) (.w (.box (.c (.agg (pL T V)))) (.ptr (List.length ([] : List Blk)) 0) (ap ([] : List Blk) (pL T V)) none :: .w (.box (.c (.agg (enWi w)))) (.ptr (List.length (ap ([] : List Blk) (pL T V))) 0) (ap (ap ([] : List Blk) (pL T V)) (enWi w)) none :: .f (.load none (.c (.ptr (List.length (ap ([] : List Blk) (pL T V))) 1))) (.int .i64 w.tb) :: .b (decide (w.tb < 0)) false :: .f (.load none (.c (.ptr (List.length (ap ([] : List Blk) (pL T V))) 1))) (.int .i64 w.tb) :: .f (.load none (.c (.ptr (List.length ([] : List Blk)) 0))) (.ro (T.map tV) 1 false) :: .b (decide (w.tb ≥ ((List.length (T.map tV)) : Int))) false :: .f (.load none (.c (.ptr (List.length ([] : List Blk)) 0))) (.ro (T.map tV) 1 false) :: .f (.load none (.c (.ptr (List.length (ap ([] : List Blk) (pL T V))) 1))) (.int .i64 w.tb) :: .p (1 = 1) :: .p ((0 : Int) ≤ w.tb) :: .p ((w.tb : Int) < (List.length (T.map tV) : Int)) :: [.e (T.map tV) (Int.toNat w.tb) (.agg [(.ro (c.map iV) 1 false)]), .f (.load none (.c (.ptr (List.length (ap ([] : List Blk) (pL T V))) 0))) (.int .i64 w.kd), .b (w.kd == 1) false, .b (w.kd == 5) true, .f (.load (some 3) (.c (.ptr (List.length (ap ([] : List Blk) (pL T V))) 2))) (.agg (enV w.key)), .p (1 = 1), .p ((0 : Int) ≤ 0), .p ((0 : Int) < (List.length (c.map iV) : Int)), .e (c.map iV) 0 (.int .i64 c0), .r 116 [(.agg (enV w.key)), (.int .i64 c0)] (.bool true) (ap (ap ([] : List Blk) (pL T V)) (enWi w)) none, .f (.load (some 3) (.c (.ptr (List.length (ap ([] : List Blk) (pL T V))) 5))) (.agg (enV w.hi)), .p (1 = 1), .p ((0 : Int) ≤ 0), .p ((0 : Int) < (List.length (c.map iV) : Int)), .e (c.map iV) 0 (.int .i64 c0), .r 116 [(.agg (enV w.hi)), (.int .i64 c0)] (.bool (isValB w.hi c0)) (ap (ap ([] : List Blk) (pL T V)) (enWi w)) none]) [] (by kernel_rfl) ⟨rfl, rfl, (ldV gl), (cF h1), (ldV gl), (ldV (ga gl)), (cF h2), (ldV (ga gl)), (ldV gl), rfl, (by omega), (by simp; omega), hT, (ldV gl), (cN k1), (cE k5), (ldV gl), rfl, (by omega), (by simp; omega), h0c, (hb ▸ isVal_e (by kernel_rfl) w.key c0 _), (ldV gl), rfl, (by omega), (by simp; omega), h0c, (isVal_e (by kernel_rfl) w.hi c0 _), trivial⟩⟩
 by_cases k3 : w.kd = 3
 ·cases hb : isValB w.key c0 with
  | false =>
   rw [show ofTableB T w = false by simp [ofTableB, h1, hc, k3, h00, hb]]
   exact ⟨(ap (ap ([] : List Blk) (pL T V)) (enWi w)), clV 1 (af := a92) (r := (.bool false)) (h' := (ap (ap ([] : List Blk) (pL T V)) (enWi w))) (.w (.box (.c (.agg (pL T V)))) (.ptr (List.length ([] : List Blk)) 0) (ap ([] : List Blk) (pL T V)) none :: .w (.box (.c (.agg (enWi w)))) (.ptr (List.length (ap ([] : List Blk) (pL T V))) 0) (ap (ap ([] : List Blk) (pL T V)) (enWi w)) none :: .f (.load none (.c (.ptr (List.length (ap ([] : List Blk) (pL T V))) 1))) (.int .i64 w.tb) :: .b (decide (w.tb < 0)) false :: .f (.load none (.c (.ptr (List.length (ap ([] : List Blk) (pL T V))) 1))) (.int .i64 w.tb) :: .f (.load none (.c (.ptr (List.length ([] : List Blk)) 0))) (.ro (T.map tV) 1 false) :: .b (decide (w.tb ≥ ((List.length (T.map tV)) : Int))) false :: [.f (.load none (.c (.ptr (List.length ([] : List Blk)) 0))) (.ro (T.map tV) 1 false), .f (.load none (.c (.ptr (List.length (ap ([] : List Blk) (pL T V))) 1))) (.int .i64 w.tb), .p (1 = 1), .p ((0 : Int) ≤ w.tb), .p ((w.tb : Int) < (List.length (T.map tV) : Int)), .e (T.map tV) (Int.toNat w.tb) (.agg [(.ro (c.map iV) 1 false)]), .f (.load none (.c (.ptr (List.length (ap ([] : List Blk) (pL T V))) 0))) (.int .i64 w.kd), .b (w.kd == 1) false, .b (w.kd == 5) false, .b (w.kd == 3) true, .f (.load (some 3) (.c (.ptr (List.length (ap ([] : List Blk) (pL T V))) 2))) (.agg (enV w.key)), .p (1 = 1), .p ((0 : Int) ≤ 0), .p ((0 : Int) < (List.length (c.map iV) : Int)), .e (c.map iV) 0 (.int .i64 c0), .r 116 [(.agg (enV w.key)), (.int .i64 c0)] (.bool false) (ap (ap ([] : List Blk) (pL T V)) (enWi w)) none]) [] (by kernel_rfl) ⟨rfl, rfl, (ldV gl), (cF h1), (ldV gl), (ldV (ga gl)), (cF h2), (ldV (ga gl)), (ldV gl), rfl, (by omega), (by simp; omega), hT, (ldV gl), (cN k1), (cN k5), (cE k3), (ldV gl), rfl, (by omega), (by simp; omega), h0c, (hb ▸ isVal_e (by kernel_rfl) w.key c0 _), trivial⟩⟩
  | true =>
   by_cases hc1 : w.cl ≥ 1
   ·by_cases hc2 : w.cl < ((List.map iV c).length : Int)
    ·have hcl2 : w.cl.toNat < c.length := by rw [List.length_map] at hc2; omega
     have hcc0 := List.getElem?_eq_getElem hcl2
     generalize c[w.cl.toNat] = cc at hcc0
     have hcc : (List.map iV c)[w.cl.toNat]? = some (.int .i64 cc) := by simp [hcc0]
     rw [show ofTableB T w = isValB w.vl cc by simp [ofTableB, h1, hc, k3, h00, hb, hc1, hcc0]]
     exact ⟨(ap (ap ([] : List Blk) (pL T V)) (enWi w)), clV 1 (af := a92) (r := (.bool (isValB w.vl cc))) (h' := (ap (ap ([] : List Blk) (pL T V)) (enWi w))) (.w (.box (.c (.agg (pL T V)))) (.ptr (List.length ([] : List Blk)) 0) (ap ([] : List Blk) (pL T V)) none :: .w (.box (.c (.agg (enWi w)))) (.ptr (List.length (ap ([] : List Blk) (pL T V))) 0) (ap (ap ([] : List Blk) (pL T V)) (enWi w)) none :: .f (.load none (.c (.ptr (List.length (ap ([] : List Blk) (pL T V))) 1))) (.int .i64 w.tb) :: .b (decide (w.tb < 0)) false :: .f (.load none (.c (.ptr (List.length (ap ([] : List Blk) (pL T V))) 1))) (.int .i64 w.tb) :: .f (.load none (.c (.ptr (List.length ([] : List Blk)) 0))) (.ro (T.map tV) 1 false) :: .b (decide (w.tb ≥ ((List.length (T.map tV)) : Int))) false :: .f (.load none (.c (.ptr (List.length ([] : List Blk)) 0))) (.ro (T.map tV) 1 false) :: .f (.load none (.c (.ptr (List.length (ap ([] : List Blk) (pL T V))) 1))) (.int .i64 w.tb) :: .p (1 = 1) :: .p ((0 : Int) ≤ w.tb) :: .p ((w.tb : Int) < (List.length (T.map tV) : Int)) :: .e (T.map tV) (Int.toNat w.tb) (.agg [(.ro (c.map iV) 1 false)]) :: .f (.load none (.c (.ptr (List.length (ap ([] : List Blk) (pL T V))) 0))) (.int .i64 w.kd) :: .b (w.kd == 1) false :: .b (w.kd == 5) false :: .b (w.kd == 3) true :: .f (.load (some 3) (.c (.ptr (List.length (ap ([] : List Blk) (pL T V))) 2))) (.agg (enV w.key)) :: [.p (1 = 1), .p ((0 : Int) ≤ 0), .p ((0 : Int) < (List.length (c.map iV) : Int)), .e (c.map iV) 0 (.int .i64 c0), .r 116 [(.agg (enV w.key)), (.int .i64 c0)] (.bool true) (ap (ap ([] : List Blk) (pL T V)) (enWi w)) none, .f (.load none (.c (.ptr (List.length (ap ([] : List Blk) (pL T V))) 9))) (.int .i64 w.cl), .b (decide (w.cl ≥ 1)) true, .f (.load none (.c (.ptr (List.length (ap ([] : List Blk) (pL T V))) 9))) (.int .i64 w.cl), .b (decide (w.cl < ((List.length (c.map iV)) : Int))) true, .f (.load (some 3) (.c (.ptr (List.length (ap ([] : List Blk) (pL T V))) 10))) (.agg (enV w.vl)), .f (.load none (.c (.ptr (List.length (ap ([] : List Blk) (pL T V))) 9))) (.int .i64 w.cl), .p (1 = 1), .p ((0 : Int) ≤ w.cl), .p ((w.cl : Int) < (List.length (c.map iV) : Int)), .e (c.map iV) (Int.toNat w.cl) (.int .i64 cc), .r 116 [(.agg (enV w.vl)), (.int .i64 cc)] (.bool (isValB w.vl cc)) (ap (ap ([] : List Blk) (pL T V)) (enWi w)) none]) [] (by kernel_rfl) ⟨rfl, rfl, (ldV gl), (cF h1), (ldV gl), (ldV (ga gl)), (cF h2), (ldV (ga gl)), (ldV gl), rfl, (by omega), (by simp; omega), hT, (ldV gl), (cN k1), (cN k5), (cE k3), (ldV gl), rfl, (by omega), (by simp; omega), h0c, (hb ▸ isVal_e (by kernel_rfl) w.key c0 _), (ldV gl), (cT hc1), (ldV gl), (cT hc2), (ldV gl), (ldV gl), rfl, (by omega), (by simp; omega), hcc, (isVal_e (by kernel_rfl) w.vl cc _), trivial⟩⟩
    ·rw [show ofTableB T w = false by rw [List.length_map] at hc2; simp [ofTableB, h1, hc, k3, h00, hb, hc1, List.getElem?_eq_none (show c.length ≤ w.cl.toNat by omega)]]
     exact ⟨(ap (ap ([] : List Blk) (pL T V)) (enWi w)), clV 1 (af := a92) (r := (.bool false)) (h' := (ap (ap ([] : List Blk) (pL T V)) (enWi w))) (.w (.box (.c (.agg (pL T V)))) (.ptr (List.length ([] : List Blk)) 0) (ap ([] : List Blk) (pL T V)) none :: .w (.box (.c (.agg (enWi w)))) (.ptr (List.length (ap ([] : List Blk) (pL T V))) 0) (ap (ap ([] : List Blk) (pL T V)) (enWi w)) none :: .f (.load none (.c (.ptr (List.length (ap ([] : List Blk) (pL T V))) 1))) (.int .i64 w.tb) :: .b (decide (w.tb < 0)) false :: .f (.load none (.c (.ptr (List.length (ap ([] : List Blk) (pL T V))) 1))) (.int .i64 w.tb) :: .f (.load none (.c (.ptr (List.length ([] : List Blk)) 0))) (.ro (T.map tV) 1 false) :: .b (decide (w.tb ≥ ((List.length (T.map tV)) : Int))) false :: .f (.load none (.c (.ptr (List.length ([] : List Blk)) 0))) (.ro (T.map tV) 1 false) :: .f (.load none (.c (.ptr (List.length (ap ([] : List Blk) (pL T V))) 1))) (.int .i64 w.tb) :: .p (1 = 1) :: .p ((0 : Int) ≤ w.tb) :: [.p ((w.tb : Int) < (List.length (T.map tV) : Int)), .e (T.map tV) (Int.toNat w.tb) (.agg [(.ro (c.map iV) 1 false)]), .f (.load none (.c (.ptr (List.length (ap ([] : List Blk) (pL T V))) 0))) (.int .i64 w.kd), .b (w.kd == 1) false, .b (w.kd == 5) false, .b (w.kd == 3) true, .f (.load (some 3) (.c (.ptr (List.length (ap ([] : List Blk) (pL T V))) 2))) (.agg (enV w.key)), .p (1 = 1), .p ((0 : Int) ≤ 0), .p ((0 : Int) < (List.length (c.map iV) : Int)), .e (c.map iV) 0 (.int .i64 c0), .r 116 [(.agg (enV w.key)), (.int .i64 c0)] (.bool true) (ap (ap ([] : List Blk) (pL T V)) (enWi w)) none, .f (.load none (.c (.ptr (List.length (ap ([] : List Blk) (pL T V))) 9))) (.int .i64 w.cl), .b (decide (w.cl ≥ 1)) true, .f (.load none (.c (.ptr (List.length (ap ([] : List Blk) (pL T V))) 9))) (.int .i64 w.cl), .b (decide (w.cl < ((List.length (c.map iV)) : Int))) false]) [] (by kernel_rfl) ⟨rfl, rfl, (ldV gl), (cF h1), (ldV gl), (ldV (ga gl)), (cF h2), (ldV (ga gl)), (ldV gl), rfl, (by omega), (by simp; omega), hT, (ldV gl), (cN k1), (cN k5), (cE k3), (ldV gl), rfl, (by omega), (by simp; omega), h0c, (hb ▸ isVal_e (by kernel_rfl) w.key c0 _), (ldV gl), (cT hc1), (ldV gl), (cF hc2), trivial⟩⟩
   ·rw [show ofTableB T w = false by simp [ofTableB, h1, hc, k3, h00, hb, hc1]]
    exact ⟨(ap (ap ([] : List Blk) (pL T V)) (enWi w)), clV 1 (af := a92) (r := (.bool false)) (h' := (ap (ap ([] : List Blk) (pL T V)) (enWi w))) (.w (.box (.c (.agg (pL T V)))) (.ptr (List.length ([] : List Blk)) 0) (ap ([] : List Blk) (pL T V)) none :: .w (.box (.c (.agg (enWi w)))) (.ptr (List.length (ap ([] : List Blk) (pL T V))) 0) (ap (ap ([] : List Blk) (pL T V)) (enWi w)) none :: .f (.load none (.c (.ptr (List.length (ap ([] : List Blk) (pL T V))) 1))) (.int .i64 w.tb) :: .b (decide (w.tb < 0)) false :: .f (.load none (.c (.ptr (List.length (ap ([] : List Blk) (pL T V))) 1))) (.int .i64 w.tb) :: .f (.load none (.c (.ptr (List.length ([] : List Blk)) 0))) (.ro (T.map tV) 1 false) :: .b (decide (w.tb ≥ ((List.length (T.map tV)) : Int))) false :: .f (.load none (.c (.ptr (List.length ([] : List Blk)) 0))) (.ro (T.map tV) 1 false) :: .f (.load none (.c (.ptr (List.length (ap ([] : List Blk) (pL T V))) 1))) (.int .i64 w.tb) :: [.p (1 = 1), .p ((0 : Int) ≤ w.tb), .p ((w.tb : Int) < (List.length (T.map tV) : Int)), .e (T.map tV) (Int.toNat w.tb) (.agg [(.ro (c.map iV) 1 false)]), .f (.load none (.c (.ptr (List.length (ap ([] : List Blk) (pL T V))) 0))) (.int .i64 w.kd), .b (w.kd == 1) false, .b (w.kd == 5) false, .b (w.kd == 3) true, .f (.load (some 3) (.c (.ptr (List.length (ap ([] : List Blk) (pL T V))) 2))) (.agg (enV w.key)), .p (1 = 1), .p ((0 : Int) ≤ 0), .p ((0 : Int) < (List.length (c.map iV) : Int)), .e (c.map iV) 0 (.int .i64 c0), .r 116 [(.agg (enV w.key)), (.int .i64 c0)] (.bool true) (ap (ap ([] : List Blk) (pL T V)) (enWi w)) none, .f (.load none (.c (.ptr (List.length (ap ([] : List Blk) (pL T V))) 9))) (.int .i64 w.cl), .b (decide (w.cl ≥ 1)) false]) [] (by kernel_rfl) ⟨rfl, rfl, (ldV gl), (cF h1), (ldV gl), (ldV (ga gl)), (cF h2), (ldV (ga gl)), (ldV gl), rfl, (by omega), (by simp; omega), hT, (ldV gl), (cN k1), (cN k5), (cE k3), (ldV gl), rfl, (by omega), (by simp; omega), h0c, (hb ▸ isVal_e (by kernel_rfl) w.key c0 _), (ldV gl), (cF hc1), trivial⟩⟩
 by_cases k10 : w.kd = 10
 ·by_cases n3 : w.n = 3
  ·rw [show ofTableB T w = true by simp [ofTableB, h1, hc, k10, h00, n3]]
   exact ⟨(ap (ap ([] : List Blk) (pL T V)) (enWi w)), clV 1 (af := a92) (r := (.bool true)) (h' := (ap (ap ([] : List Blk) (pL T V)) (enWi w))) [.w (.box (.c (.agg (pL T V)))) (.ptr (List.length ([] : List Blk)) 0) (ap ([] : List Blk) (pL T V)) none, .w (.box (.c (.agg (enWi w)))) (.ptr (List.length (ap ([] : List Blk) (pL T V))) 0) (ap (ap ([] : List Blk) (pL T V)) (enWi w)) none, .f (.load none (.c (.ptr (List.length (ap ([] : List Blk) (pL T V))) 1))) (.int .i64 w.tb), .b (decide (w.tb < 0)) false, .f (.load none (.c (.ptr (List.length (ap ([] : List Blk) (pL T V))) 1))) (.int .i64 w.tb), .f (.load none (.c (.ptr (List.length ([] : List Blk)) 0))) (.ro (T.map tV) 1 false), .b (decide (w.tb ≥ ((List.length (T.map tV)) : Int))) false, .f (.load none (.c (.ptr (List.length ([] : List Blk)) 0))) (.ro (T.map tV) 1 false), .f (.load none (.c (.ptr (List.length (ap ([] : List Blk) (pL T V))) 1))) (.int .i64 w.tb), .p (1 = 1), .p ((0 : Int) ≤ w.tb), .p ((w.tb : Int) < (List.length (T.map tV) : Int)), .e (T.map tV) (Int.toNat w.tb) (.agg [(.ro (c.map iV) 1 false)]), .f (.load none (.c (.ptr (List.length (ap ([] : List Blk) (pL T V))) 0))) (.int .i64 w.kd), .b (w.kd == 1) false, .b (w.kd == 5) false, .b (w.kd == 3) false, .b (w.kd == 10) true, .f (.load none (.c (.ptr (List.length (ap ([] : List Blk) (pL T V))) 13))) (.int .i64 w.n), .b (w.n == 3) true] [] (by kernel_rfl) ⟨rfl, rfl, (ldV gl), (cF h1), (ldV gl), (ldV (ga gl)), (cF h2), (ldV (ga gl)), (ldV gl), rfl, (by omega), (by simp; omega), hT, (ldV gl), (cN k1), (cN k5), (cN k3), (cE k10), (ldV gl), (cE n3), trivial⟩⟩
  ·rw [show ofTableB T w = (w.n == 5) by simp [ofTableB, h1, hc, k10, h00, n3]]
   exact ⟨(ap (ap ([] : List Blk) (pL T V)) (enWi w)), clV 1 (af := a92) (r := (.bool (w.n == 5))) (h' := (ap (ap ([] : List Blk) (pL T V)) (enWi w))) (.w (.box (.c (.agg (pL T V)))) (.ptr (List.length ([] : List Blk)) 0) (ap ([] : List Blk) (pL T V)) none :: .w (.box (.c (.agg (enWi w)))) (.ptr (List.length (ap ([] : List Blk) (pL T V))) 0) (ap (ap ([] : List Blk) (pL T V)) (enWi w)) none :: .f (.load none (.c (.ptr (List.length (ap ([] : List Blk) (pL T V))) 1))) (.int .i64 w.tb) :: .b (decide (w.tb < 0)) false :: .f (.load none (.c (.ptr (List.length (ap ([] : List Blk) (pL T V))) 1))) (.int .i64 w.tb) :: [.f (.load none (.c (.ptr (List.length ([] : List Blk)) 0))) (.ro (T.map tV) 1 false), .b (decide (w.tb ≥ ((List.length (T.map tV)) : Int))) false, .f (.load none (.c (.ptr (List.length ([] : List Blk)) 0))) (.ro (T.map tV) 1 false), .f (.load none (.c (.ptr (List.length (ap ([] : List Blk) (pL T V))) 1))) (.int .i64 w.tb), .p (1 = 1), .p ((0 : Int) ≤ w.tb), .p ((w.tb : Int) < (List.length (T.map tV) : Int)), .e (T.map tV) (Int.toNat w.tb) (.agg [(.ro (c.map iV) 1 false)]), .f (.load none (.c (.ptr (List.length (ap ([] : List Blk) (pL T V))) 0))) (.int .i64 w.kd), .b (w.kd == 1) false, .b (w.kd == 5) false, .b (w.kd == 3) false, .b (w.kd == 10) true, .f (.load none (.c (.ptr (List.length (ap ([] : List Blk) (pL T V))) 13))) (.int .i64 w.n), .b (w.n == 3) false, .f (.load none (.c (.ptr (List.length (ap ([] : List Blk) (pL T V))) 13))) (.int .i64 w.n)]) [] (by kernel_rfl) ⟨rfl, rfl, (ldV gl), (cF h1), (ldV gl), (ldV (ga gl)), (cF h2), (ldV (ga gl)), (ldV gl), rfl, (by omega), (by simp; omega), hT, (ldV gl), (cN k1), (cN k5), (cN k3), (cE k10), (ldV gl), (cN n3), (ldV gl), trivial⟩⟩
 ·rw [show ofTableB T w = isValB w.key c0 by simp [ofTableB, h1, hc, k1, k5, k3, k10, h00]]
  exact ⟨(ap (ap ([] : List Blk) (pL T V)) (enWi w)), clV 1 (af := a92) (r := (.bool (isValB w.key c0))) (h' := (ap (ap ([] : List Blk) (pL T V)) (enWi w))) (.w (.box (.c (.agg (pL T V)))) (.ptr (List.length ([] : List Blk)) 0) (ap ([] : List Blk) (pL T V)) none :: .w (.box (.c (.agg (enWi w)))) (.ptr (List.length (ap ([] : List Blk) (pL T V))) 0) (ap (ap ([] : List Blk) (pL T V)) (enWi w)) none :: .f (.load none (.c (.ptr (List.length (ap ([] : List Blk) (pL T V))) 1))) (.int .i64 w.tb) :: .b (decide (w.tb < 0)) false :: .f (.load none (.c (.ptr (List.length (ap ([] : List Blk) (pL T V))) 1))) (.int .i64 w.tb) :: .f (.load none (.c (.ptr (List.length ([] : List Blk)) 0))) (.ro (T.map tV) 1 false) :: .b (decide (w.tb ≥ ((List.length (T.map tV)) : Int))) false :: .f (.load none (.c (.ptr (List.length ([] : List Blk)) 0))) (.ro (T.map tV) 1 false) :: [.f (.load none (.c (.ptr (List.length (ap ([] : List Blk) (pL T V))) 1))) (.int .i64 w.tb), .p (1 = 1), .p ((0 : Int) ≤ w.tb), .p ((w.tb : Int) < (List.length (T.map tV) : Int)), .e (T.map tV) (Int.toNat w.tb) (.agg [(.ro (c.map iV) 1 false)]), .f (.load none (.c (.ptr (List.length (ap ([] : List Blk) (pL T V))) 0))) (.int .i64 w.kd), .b (w.kd == 1) false, .b (w.kd == 5) false, .b (w.kd == 3) false, .b (w.kd == 10) false, .f (.load (some 3) (.c (.ptr (List.length (ap ([] : List Blk) (pL T V))) 2))) (.agg (enV w.key)), .p (1 = 1), .p ((0 : Int) ≤ 0), .p ((0 : Int) < (List.length (c.map iV) : Int)), .e (c.map iV) 0 (.int .i64 c0), .r 116 [(.agg (enV w.key)), (.int .i64 c0)] (.bool (isValB w.key c0)) (ap (ap ([] : List Blk) (pL T V)) (enWi w)) none]) [] (by kernel_rfl) ⟨rfl, rfl, (ldV gl), (cF h1), (ldV gl), (ldV (ga gl)), (cF h2), (ldV (ga gl)), (ldV gl), rfl, (by omega), (by simp; omega), hT, (ldV gl), (cN k1), (cN k5), (cN k3), (cN k10), (ldV gl), rfl, (by omega), (by simp; omega), h0c, (isVal_e (by kernel_rfl) w.key c0 _), trivial⟩⟩
theorem ofView_cl {T : List (List Int)} {V : List Vw} (ok : OkPl T V) {w : Wi} : ∃ H' lo, Cl G7 Mo.T 91 [pA T V, .agg (enWi w)] [] (.bool (ofViewB T V w), H', lo) := by
 by_cases h1 : w.tb < 0
 ·rw [show ofViewB T V w = false by simp [ofViewB, h1]]
  exact ⟨(ap (ap ([] : List Blk) (pL T V)) (enWi w)), clV 1 (af := a91) (r := (.bool false)) (h' := (ap (ap ([] : List Blk) (pL T V)) (enWi w))) [.w (.box (.c (.agg (pL T V)))) (.ptr (List.length ([] : List Blk)) 0) (ap ([] : List Blk) (pL T V)) none, .w (.box (.c (.agg (enWi w)))) (.ptr (List.length (ap ([] : List Blk) (pL T V))) 0) (ap (ap ([] : List Blk) (pL T V)) (enWi w)) none, .f (.load none (.c (.ptr (List.length (ap ([] : List Blk) (pL T V))) 1))) (.int .i64 w.tb), .b (decide (w.tb < 0)) true] [] (by kernel_rfl) ⟨rfl, rfl, (ldV gl), (cT h1), trivial⟩⟩
 by_cases h2 : w.tb ≥ ((List.map vwV V).length : Int)
 ·rw [show ofViewB T V w = false by rw [List.length_map] at h2; simp [ofViewB, h1, List.getElem?_eq_none (show V.length ≤ w.tb.toNat by omega)]]
  exact ⟨(ap (ap ([] : List Blk) (pL T V)) (enWi w)), clV 1 (af := a91) (r := (.bool false)) (h' := (ap (ap ([] : List Blk) (pL T V)) (enWi w))) [.w (.box (.c (.agg (pL T V)))) (.ptr (List.length ([] : List Blk)) 0) (ap ([] : List Blk) (pL T V)) none, .w (.box (.c (.agg (enWi w)))) (.ptr (List.length (ap ([] : List Blk) (pL T V))) 0) (ap (ap ([] : List Blk) (pL T V)) (enWi w)) none, .f (.load none (.c (.ptr (List.length (ap ([] : List Blk) (pL T V))) 1))) (.int .i64 w.tb), .b (decide (w.tb < 0)) false, .f (.load none (.c (.ptr (List.length (ap ([] : List Blk) (pL T V))) 1))) (.int .i64 w.tb), .f (.load none (.c (.ptr (List.length ([] : List Blk)) 1))) (.ro (V.map vwV) 3 false), .b (decide (w.tb ≥ ((List.length (V.map vwV)) : Int))) true] [] (by kernel_rfl) ⟨rfl, rfl, (ldV gl), (cF h1), (ldV gl), (ldV (ga gl)), (cT h2), trivial⟩⟩
 have h2' : w.tb.toNat < V.length := by rw [List.length_map] at h2; omega
 have hc := List.getElem?_eq_getElem h2'
 obtain ⟨hv1, hv2, _, c, hTc, hcb, _⟩ := ok.vw _ (List.getElem_mem h2')
 generalize V[w.tb.toNat] = vw at hc hv1 hv2 hTc hcb
 have hV : (List.map vwV V)[w.tb.toNat]? = some (.agg [(.int .i64 (Prod.fst vw)), (.int .i64 (Prod.fst (Prod.snd vw))), (.ro (List.map iV (Prod.snd (Prod.snd vw))) 1 false)]) := by simp [hc]
 have hT : (List.map tV T)[vw.1.toNat]? = some (.agg [.ro (c.map iV) 1 false]) := by simp [hTc]
 have hTlt := (List.getElem?_eq_some_iff.1 hTc).1
 have hcc0 := List.getElem?_eq_getElem hcb
 generalize c[vw.2.1.toNat] = cc at hcc0
 have hcc : (List.map iV c)[vw.2.1.toNat]? = some (.int .i64 cc) := by simp [hcc0]
 cases hb : isValB w.key cc with
 | false =>
  rw [show ofViewB T V w = false by simp [ofViewB, h1, hc, hTc, hcc0, hb]]
  exact ⟨(ap (ap (ap ([] : List Blk) (pL T V)) (enWi w)) [(.int .i64 (Prod.fst vw)), (.int .i64 (Prod.fst (Prod.snd vw))), (.ro (List.map iV (Prod.snd (Prod.snd vw))) 1 false)]), clV 1 (af := a91) (r := (.bool false)) (h' := (ap (ap (ap ([] : List Blk) (pL T V)) (enWi w)) [(.int .i64 (Prod.fst vw)), (.int .i64 (Prod.fst (Prod.snd vw))), (.ro (List.map iV (Prod.snd (Prod.snd vw))) 1 false)])) (.w (.box (.c (.agg (pL T V)))) (.ptr (List.length ([] : List Blk)) 0) (ap ([] : List Blk) (pL T V)) none :: .w (.box (.c (.agg (enWi w)))) (.ptr (List.length (ap ([] : List Blk) (pL T V))) 0) (ap (ap ([] : List Blk) (pL T V)) (enWi w)) none :: .f (.load none (.c (.ptr (List.length (ap ([] : List Blk) (pL T V))) 1))) (.int .i64 w.tb) :: .b (decide (w.tb < 0)) false :: .f (.load none (.c (.ptr (List.length (ap ([] : List Blk) (pL T V))) 1))) (.int .i64 w.tb) :: .f (.load none (.c (.ptr (List.length ([] : List Blk)) 1))) (.ro (V.map vwV) 3 false) :: .b (decide (w.tb ≥ ((List.length (V.map vwV)) : Int))) false :: .f (.load none (.c (.ptr (List.length ([] : List Blk)) 1))) (.ro (V.map vwV) 3 false) :: .f (.load none (.c (.ptr (List.length (ap ([] : List Blk) (pL T V))) 1))) (.int .i64 w.tb) :: .p (3 = 3) :: .p ((0 : Int) ≤ w.tb) :: .p ((w.tb : Int) < (List.length (V.map vwV) : Int)) :: [.e (V.map vwV) (Int.toNat w.tb) (.agg [(.int .i64 (Prod.fst vw)), (.int .i64 (Prod.fst (Prod.snd vw))), (.ro (List.map iV (Prod.snd (Prod.snd vw))) 1 false)]), .w (.alloc [(.int .i64 0), (.int .i64 0), .nils]) (.ptr (List.length (ap (ap ([] : List Blk) (pL T V)) (enWi w))) 0) (ap (ap (ap ([] : List Blk) (pL T V)) (enWi w)) [(.int .i64 0), (.int .i64 0), .nils]) none, .w (.store 3 (.c (.ptr (List.length (ap (ap ([] : List Blk) (pL T V)) (enWi w))) 0)) (.c (.agg [(.int .i64 (Prod.fst vw)), (.int .i64 (Prod.fst (Prod.snd vw))), (.ro (List.map iV (Prod.snd (Prod.snd vw))) 1 false)]))) (.tup []) (ap (ap (ap ([] : List Blk) (pL T V)) (enWi w)) [(.int .i64 (Prod.fst vw)), (.int .i64 (Prod.fst (Prod.snd vw))), (.ro (List.map iV (Prod.snd (Prod.snd vw))) 1 false)]) (some (List.length (ap (ap ([] : List Blk) (pL T V)) (enWi w)))), .f (.load none (.c (.ptr (List.length ([] : List Blk)) 0))) (.ro (T.map tV) 1 false), .f (.load none (.c (.ptr (List.length (ap (ap ([] : List Blk) (pL T V)) (enWi w))) 0))) (.int .i64 (Prod.fst vw)), .p (1 = 1), .p ((0 : Int) ≤ (Prod.fst vw)), .p (((Prod.fst vw) : Int) < (List.length (T.map tV) : Int)), .e (T.map tV) (Int.toNat (Prod.fst vw)) (.agg [(.ro (c.map iV) 1 false)]), .f (.load none (.c (.ptr (List.length (ap (ap ([] : List Blk) (pL T V)) (enWi w))) 1))) (.int .i64 (Prod.fst (Prod.snd vw))), .p (1 = 1), .p ((0 : Int) ≤ (Prod.fst (Prod.snd vw))), .p (((Prod.fst (Prod.snd vw)) : Int) < (List.length (c.map iV) : Int)), .e (c.map iV) (Int.toNat (Prod.fst (Prod.snd vw))) (.int .i64 cc), .f (.load (some 3) (.c (.ptr (List.length (ap ([] : List Blk) (pL T V))) 2))) (.agg (enV w.key)), .r 116 [(.agg (enV w.key)), (.int .i64 cc)] (.bool false) (ap (ap (ap ([] : List Blk) (pL T V)) (enWi w)) [(.int .i64 (Prod.fst vw)), (.int .i64 (Prod.fst (Prod.snd vw))), (.ro (List.map iV (Prod.snd (Prod.snd vw))) 1 false)]) none]) [] (by kernel_rfl) ⟨rfl, rfl, (ldV gl), (cF h1), (ldV gl), (ldV (ga gl)), (cF h2), (ldV (ga gl)), (ldV gl), rfl, (by omega), (by simp; omega), hV, rfl, stZ, (ldV (ga (ga gl))), (ldV gl), rfl, hv1, (by simp; omega), hT, (ldV gl), rfl, hv2, (by simp; omega), hcc, (ldV (ga gl)), (hb ▸ isVal_e (by kernel_rfl) w.key cc _), trivial⟩⟩
 | true =>
  by_cases k6 : w.kd = 6
  ·rw [show ofViewB T V w = true by simp [ofViewB, h1, hc, hTc, hcc0, hb, k6]]
   exact ⟨(ap (ap (ap ([] : List Blk) (pL T V)) (enWi w)) [(.int .i64 (Prod.fst vw)), (.int .i64 (Prod.fst (Prod.snd vw))), (.ro (List.map iV (Prod.snd (Prod.snd vw))) 1 false)]), clV 1 (af := a91) (r := (.bool true)) (h' := (ap (ap (ap ([] : List Blk) (pL T V)) (enWi w)) [(.int .i64 (Prod.fst vw)), (.int .i64 (Prod.fst (Prod.snd vw))), (.ro (List.map iV (Prod.snd (Prod.snd vw))) 1 false)])) (.w (.box (.c (.agg (pL T V)))) (.ptr (List.length ([] : List Blk)) 0) (ap ([] : List Blk) (pL T V)) none :: .w (.box (.c (.agg (enWi w)))) (.ptr (List.length (ap ([] : List Blk) (pL T V))) 0) (ap (ap ([] : List Blk) (pL T V)) (enWi w)) none :: .f (.load none (.c (.ptr (List.length (ap ([] : List Blk) (pL T V))) 1))) (.int .i64 w.tb) :: .b (decide (w.tb < 0)) false :: .f (.load none (.c (.ptr (List.length (ap ([] : List Blk) (pL T V))) 1))) (.int .i64 w.tb) :: .f (.load none (.c (.ptr (List.length ([] : List Blk)) 1))) (.ro (V.map vwV) 3 false) :: .b (decide (w.tb ≥ ((List.length (V.map vwV)) : Int))) false :: .f (.load none (.c (.ptr (List.length ([] : List Blk)) 1))) (.ro (V.map vwV) 3 false) :: .f (.load none (.c (.ptr (List.length (ap ([] : List Blk) (pL T V))) 1))) (.int .i64 w.tb) :: .p (3 = 3) :: .p ((0 : Int) ≤ w.tb) :: .p ((w.tb : Int) < (List.length (V.map vwV) : Int)) :: .e (V.map vwV) (Int.toNat w.tb) (.agg [(.int .i64 (Prod.fst vw)), (.int .i64 (Prod.fst (Prod.snd vw))), (.ro (List.map iV (Prod.snd (Prod.snd vw))) 1 false)]) :: .w (.alloc [(.int .i64 0), (.int .i64 0), .nils]) (.ptr (List.length (ap (ap ([] : List Blk) (pL T V)) (enWi w))) 0) (ap (ap (ap ([] : List Blk) (pL T V)) (enWi w)) [(.int .i64 0), (.int .i64 0), .nils]) none :: [.w (.store 3 (.c (.ptr (List.length (ap (ap ([] : List Blk) (pL T V)) (enWi w))) 0)) (.c (.agg [(.int .i64 (Prod.fst vw)), (.int .i64 (Prod.fst (Prod.snd vw))), (.ro (List.map iV (Prod.snd (Prod.snd vw))) 1 false)]))) (.tup []) (ap (ap (ap ([] : List Blk) (pL T V)) (enWi w)) [(.int .i64 (Prod.fst vw)), (.int .i64 (Prod.fst (Prod.snd vw))), (.ro (List.map iV (Prod.snd (Prod.snd vw))) 1 false)]) (some (List.length (ap (ap ([] : List Blk) (pL T V)) (enWi w)))), .f (.load none (.c (.ptr (List.length ([] : List Blk)) 0))) (.ro (T.map tV) 1 false), .f (.load none (.c (.ptr (List.length (ap (ap ([] : List Blk) (pL T V)) (enWi w))) 0))) (.int .i64 (Prod.fst vw)), .p (1 = 1), .p ((0 : Int) ≤ (Prod.fst vw)), .p (((Prod.fst vw) : Int) < (List.length (T.map tV) : Int)), .e (T.map tV) (Int.toNat (Prod.fst vw)) (.agg [(.ro (c.map iV) 1 false)]), .f (.load none (.c (.ptr (List.length (ap (ap ([] : List Blk) (pL T V)) (enWi w))) 1))) (.int .i64 (Prod.fst (Prod.snd vw))), .p (1 = 1), .p ((0 : Int) ≤ (Prod.fst (Prod.snd vw))), .p (((Prod.fst (Prod.snd vw)) : Int) < (List.length (c.map iV) : Int)), .e (c.map iV) (Int.toNat (Prod.fst (Prod.snd vw))) (.int .i64 cc), .f (.load (some 3) (.c (.ptr (List.length (ap ([] : List Blk) (pL T V))) 2))) (.agg (enV w.key)), .r 116 [(.agg (enV w.key)), (.int .i64 cc)] (.bool true) (ap (ap (ap ([] : List Blk) (pL T V)) (enWi w)) [(.int .i64 (Prod.fst vw)), (.int .i64 (Prod.fst (Prod.snd vw))), (.ro (List.map iV (Prod.snd (Prod.snd vw))) 1 false)]) none, .f (.load none (.c (.ptr (List.length (ap ([] : List Blk) (pL T V))) 0))) (.int .i64 w.kd), .b (w.kd == 6) true]) [] (by kernel_rfl) ⟨rfl, rfl, (ldV gl), (cF h1), (ldV gl), (ldV (ga gl)), (cF h2), (ldV (ga gl)), (ldV gl), rfl, (by omega), (by simp; omega), hV, rfl, stZ, (ldV (ga (ga gl))), (ldV gl), rfl, hv1, (by simp; omega), hT, (ldV gl), rfl, hv2, (by simp; omega), hcc, (ldV (ga gl)), (hb ▸ isVal_e (by kernel_rfl) w.key cc _), (ldV (ga gl)), (cE k6), trivial⟩⟩
  ·rw [show ofViewB T V w = isValB w.hi cc by simp [ofViewB, h1, hc, hTc, hcc0, hb, k6]]
   exact ⟨(ap (ap (ap ([] : List Blk) (pL T V)) (enWi w)) [(.int .i64 (Prod.fst vw)), (.int .i64 (Prod.fst (Prod.snd vw))), (.ro (List.map iV (Prod.snd (Prod.snd vw))) 1 false)]), clV 1 (af := a91) (r := (.bool (isValB w.hi cc))) (h' := (ap (ap (ap ([] : List Blk) (pL T V)) (enWi w)) [(.int .i64 (Prod.fst vw)), (.int .i64 (Prod.fst (Prod.snd vw))), (.ro (List.map iV (Prod.snd (Prod.snd vw))) 1 false)])) (.w (.box (.c (.agg (pL T V)))) (.ptr (List.length ([] : List Blk)) 0) (ap ([] : List Blk) (pL T V)) none :: .w (.box (.c (.agg (enWi w)))) (.ptr (List.length (ap ([] : List Blk) (pL T V))) 0) (ap (ap ([] : List Blk) (pL T V)) (enWi w)) none :: .f (.load none (.c (.ptr (List.length (ap ([] : List Blk) (pL T V))) 1))) (.int .i64 w.tb) :: .b (decide (w.tb < 0)) false :: .f (.load none (.c (.ptr (List.length (ap ([] : List Blk) (pL T V))) 1))) (.int .i64 w.tb) :: .f (.load none (.c (.ptr (List.length ([] : List Blk)) 1))) (.ro (V.map vwV) 3 false) :: .b (decide (w.tb ≥ ((List.length (V.map vwV)) : Int))) false :: .f (.load none (.c (.ptr (List.length ([] : List Blk)) 1))) (.ro (V.map vwV) 3 false) :: .f (.load none (.c (.ptr (List.length (ap ([] : List Blk) (pL T V))) 1))) (.int .i64 w.tb) :: .p (3 = 3) :: .p ((0 : Int) ≤ w.tb) :: .p ((w.tb : Int) < (List.length (V.map vwV) : Int)) :: .e (V.map vwV) (Int.toNat w.tb) (.agg [(.int .i64 (Prod.fst vw)), (.int .i64 (Prod.fst (Prod.snd vw))), (.ro (List.map iV (Prod.snd (Prod.snd vw))) 1 false)]) :: .w (.alloc [(.int .i64 0), (.int .i64 0), .nils]) (.ptr (List.length (ap (ap ([] : List Blk) (pL T V)) (enWi w))) 0) (ap (ap (ap ([] : List Blk) (pL T V)) (enWi w)) [(.int .i64 0), (.int .i64 0), .nils]) none :: .w (.store 3 (.c (.ptr (List.length (ap (ap ([] : List Blk) (pL T V)) (enWi w))) 0)) (.c (.agg [(.int .i64 (Prod.fst vw)), (.int .i64 (Prod.fst (Prod.snd vw))), (.ro (List.map iV (Prod.snd (Prod.snd vw))) 1 false)]))) (.tup []) (ap (ap (ap ([] : List Blk) (pL T V)) (enWi w)) [(.int .i64 (Prod.fst vw)), (.int .i64 (Prod.fst (Prod.snd vw))), (.ro (List.map iV (Prod.snd (Prod.snd vw))) 1 false)]) (some (List.length (ap (ap ([] : List Blk) (pL T V)) (enWi w)))) :: .f (.load none (.c (.ptr (List.length ([] : List Blk)) 0))) (.ro (T.map tV) 1 false) :: [.f (.load none (.c (.ptr (List.length (ap (ap ([] : List Blk) (pL T V)) (enWi w))) 0))) (.int .i64 (Prod.fst vw)), .p (1 = 1), .p ((0 : Int) ≤ (Prod.fst vw)), .p (((Prod.fst vw) : Int) < (List.length (T.map tV) : Int)), .e (T.map tV) (Int.toNat (Prod.fst vw)) (.agg [(.ro (c.map iV) 1 false)]), .f (.load none (.c (.ptr (List.length (ap (ap ([] : List Blk) (pL T V)) (enWi w))) 1))) (.int .i64 (Prod.fst (Prod.snd vw))), .p (1 = 1), .p ((0 : Int) ≤ (Prod.fst (Prod.snd vw))), .p (((Prod.fst (Prod.snd vw)) : Int) < (List.length (c.map iV) : Int)), .e (c.map iV) (Int.toNat (Prod.fst (Prod.snd vw))) (.int .i64 cc), .f (.load (some 3) (.c (.ptr (List.length (ap ([] : List Blk) (pL T V))) 2))) (.agg (enV w.key)), .r 116 [(.agg (enV w.key)), (.int .i64 cc)] (.bool true) (ap (ap (ap ([] : List Blk) (pL T V)) (enWi w)) [(.int .i64 (Prod.fst vw)), (.int .i64 (Prod.fst (Prod.snd vw))), (.ro (List.map iV (Prod.snd (Prod.snd vw))) 1 false)]) none, .f (.load none (.c (.ptr (List.length (ap ([] : List Blk) (pL T V))) 0))) (.int .i64 w.kd), .b (w.kd == 6) false, .f (.load (some 3) (.c (.ptr (List.length (ap ([] : List Blk) (pL T V))) 5))) (.agg (enV w.hi)), .r 116 [(.agg (enV w.hi)), (.int .i64 cc)] (.bool (isValB w.hi cc)) (ap (ap (ap ([] : List Blk) (pL T V)) (enWi w)) [(.int .i64 (Prod.fst vw)), (.int .i64 (Prod.fst (Prod.snd vw))), (.ro (List.map iV (Prod.snd (Prod.snd vw))) 1 false)]) none]) [] (by kernel_rfl) ⟨rfl, rfl, (ldV gl), (cF h1), (ldV gl), (ldV (ga gl)), (cF h2), (ldV (ga gl)), (ldV gl), rfl, (by omega), (by simp; omega), hV, rfl, stZ, (ldV (ga (ga gl))), (ldV gl), rfl, hv1, (by simp; omega), hT, (ldV gl), rfl, hv2, (by simp; omega), hcc, (ldV (ga gl)), (hb ▸ isVal_e (by kernel_rfl) w.key cc _), (ldV (ga gl)), (cN k6), (ldV (ga gl)), (isVal_e (by kernel_rfl) w.hi cc _), trivial⟩⟩
theorem wi_inj {a b : Wi} (h : enWi a = enWi b) : a = b := by
 obtain ⟨a1, a2, ⟨a3, a4, a5⟩, ⟨a6, a7, a8⟩, a9, a10, ⟨a11, a12, a13⟩, a14⟩ := a
 obtain ⟨b1, b2, ⟨b3, b4, b5⟩, ⟨b6, b7, b8⟩, b9, b10, ⟨b11, b12, b13⟩, b14⟩ := b
 simp only [List.cons.injEq, AV.int.injEq, AV.str.injEq, true_and, and_true] at h
 obtain ⟨h1, h2, h3, h4, h5, h6, h7, h8, h9, h10, h11, h12, h13, h14⟩ := h
 rw [h1, h2, h3, h4, h5, h6, h7, h8, rV_inj _ _ h9, h10, h11, h12, h13, h14]
theorem clo_wi (w : Wi) : clo (.agg (enWi w)) = true := by
 have := clo_rV w.row
 simp only [clo, cloL] at this ⊢
 rw [this]
 rfl
abbrev WiA := List (List Int) × List Vw × Wi
def okWi (x : WiA) : Prop := OkPl x.1 x.2.1 ∧ x.2.2.row.length ≤ 9223372036854775807
abbrev enWA (x : WiA) : List AV := [pA x.1 x.2.1, .agg (enWi x.2.2)]
abbrev fTb (x : WiA) : AV := .bool (ofTableB x.1 x.2.2)
abbrev fVb (x : WiA) : AV := .bool (ofViewB x.1 x.2.1 x.2.2)
abbrev fWb (x : WiA) : AV := .bool (wishB x.1 x.2.1 x.2.2)
theorem enWA_inj {a b : WiA} (h : enWA a = enWA b) : a = b := by
 obtain ⟨a1, a2, a3⟩ := a
 obtain ⟨b1, b2, b3⟩ := b
 have h := And.intro (List.cons.inj h).1 (List.cons.inj (List.cons.inj h).2)
 have e : enWi a3 = enWi b3 := AV.agg.inj h.2.1
 have e1 : a1 = b1 := (pA_inj h.1).1
 have e2 : a2 = b2 := (pA_inj h.1).2
 rw [e1, e2, wi_inj e]
theorem clo_WA (T V) (w : Wi) : cloL [pA T V, .agg (enWi w)] = true := by
 simp only [cloL, clo_pA, clo_wi, Bool.and_true]
theorem oft_ok : GOk Tryz.prog 92 (pureG (gOf okWi enWA fTb)) := gOf_ok ⟨_, Tryz.func92, by kernel_rfl, by kernel_rfl⟩ fun x hx => by
 obtain ⟨H', lo, h⟩ := ofTable_cl (V := x.2.1) hx.1 hx.2
 exact pureS_cl K7 h (by kernel_rfl) rfl
theorem ofv_ok : GOk Tryz.prog 91 (pureG (gOf okWi enWA fVb)) := gOf_ok ⟨_, Tryz.func91, by kernel_rfl, by kernel_rfl⟩ fun x hx => by
 obtain ⟨H', lo, h⟩ := ofView_cl (w := x.2.2) hx.1
 exact pureS_cl K7 h (by kernel_rfl) rfl
noncomputable def gam8 : List (Nat × GF) := (92, pureG (gOf okWi enWA fTb)) :: (91, pureG (gOf okWi enWA fVb)) :: gam7
theorem K8 : Known (gGet gam8) tree.get Tryz.prog := known_of (by kernel_rfl) ⟨oft_ok, ofv_ok, isVal_ok, view_ok, grp_ok, tot_ok, adt_ok, fit_ok, code_ok, int_ok, of_ok, add_ok, cmp_ok, good_ok, xSub_ok, xAdd_ok, trivial⟩ all
noncomputable abbrev G8 : FuncId → Option GF := gGet gam8
theorem oft_e {T V} {w : Wi} (ok : OkPl T V) (hr : w.row.length ≤ 9223372036854775807) (H : List Blk) : Cl G8 Mo.T 92 [pA T V, .agg (enWi w)] H (.bool (ofTableB T w), H, none) :=
 Cl.pure (g := gOf okWi enWA fTb) (by kernel_rfl) (gOf_eq (fun a b _ _ h => by rw [enWA_inj h]) (a := (T, V, w)) ⟨ok, hr⟩) (clo_WA T V w) rfl H
theorem ofv_e {T V} {w : Wi} (ok : OkPl T V) (hr : w.row.length ≤ 9223372036854775807) (H : List Blk) : Cl G8 Mo.T 91 [pA T V, .agg (enWi w)] H (.bool (ofViewB T V w), H, none) :=
 Cl.pure (g := gOf okWi enWA fVb) (by kernel_rfl) (gOf_eq (fun a b _ _ h => by rw [enWA_inj h]) (a := (T, V, w)) ⟨ok, hr⟩) (clo_WA T V w) rfl H
theorem wish_cl {T : List (List Int)} {V : List Vw} (ok : OkPl T V) {w : Wi} (hr : w.row.length ≤ 9223372036854775807) : ∃ H' lo, Cl G8 Mo.T 55 [pA T V, .agg (enWi w)] [] (.bool (wishB T V w), H', lo) := by
 by_cases k6 : w.kd = 6
 ·rw [show wishB T V w = ofViewB T V w by simp [wishB, k6]]
  exact ⟨(ap (ap ([] : List Blk) (pL T V)) (enWi w)), clV 1 (af := a55) (r := (.bool (ofViewB T V w))) (h' := (ap (ap ([] : List Blk) (pL T V)) (enWi w))) [.w (.box (.c (.agg (pL T V)))) (.ptr (List.length ([] : List Blk)) 0) (ap ([] : List Blk) (pL T V)) none, .w (.box (.c (.agg (enWi w)))) (.ptr (List.length (ap ([] : List Blk) (pL T V))) 0) (ap (ap ([] : List Blk) (pL T V)) (enWi w)) none, .f (.load none (.c (.ptr (List.length (ap ([] : List Blk) (pL T V))) 0))) (.int .i64 w.kd), .b (w.kd == 6) true, .f (.load (some 2) (.c (.ptr (List.length ([] : List Blk)) 0))) (.agg (pL T V)), .f (.load (some 14) (.c (.ptr (List.length (ap ([] : List Blk) (pL T V))) 0))) (.agg (enWi w)), .r 91 [(.agg (pL T V)), (.agg (enWi w))] (.bool (ofViewB T V w)) (ap (ap ([] : List Blk) (pL T V)) (enWi w)) none] [] (by kernel_rfl) ⟨rfl, rfl, (ldV gl), (cE k6), (ldV (ga gl)), (ldV gl), (ofv_e ok hr _), trivial⟩⟩
 by_cases k7 : w.kd = 7
 ·rw [show wishB T V w = ofViewB T V w by simp [wishB, k7]]
  exact ⟨(ap (ap ([] : List Blk) (pL T V)) (enWi w)), clV 1 (af := a55) (r := (.bool (ofViewB T V w))) (h' := (ap (ap ([] : List Blk) (pL T V)) (enWi w))) [.w (.box (.c (.agg (pL T V)))) (.ptr (List.length ([] : List Blk)) 0) (ap ([] : List Blk) (pL T V)) none, .w (.box (.c (.agg (enWi w)))) (.ptr (List.length (ap ([] : List Blk) (pL T V))) 0) (ap (ap ([] : List Blk) (pL T V)) (enWi w)) none, .f (.load none (.c (.ptr (List.length (ap ([] : List Blk) (pL T V))) 0))) (.int .i64 w.kd), .b (w.kd == 6) false, .b (w.kd == 7) true, .f (.load (some 2) (.c (.ptr (List.length ([] : List Blk)) 0))) (.agg (pL T V)), .f (.load (some 14) (.c (.ptr (List.length (ap ([] : List Blk) (pL T V))) 0))) (.agg (enWi w)), .r 91 [(.agg (pL T V)), (.agg (enWi w))] (.bool (ofViewB T V w)) (ap (ap ([] : List Blk) (pL T V)) (enWi w)) none] [] (by kernel_rfl) ⟨rfl, rfl, (ldV gl), (cN k6), (cE k7), (ldV (ga gl)), (ldV gl), (ofv_e ok hr _), trivial⟩⟩
 by_cases k8 : w.kd = 8
 ·rw [show wishB T V w = true by simp [wishB, k8]]
  exact ⟨(ap (ap ([] : List Blk) (pL T V)) (enWi w)), clV 1 (af := a55) (r := (.bool true)) (h' := (ap (ap ([] : List Blk) (pL T V)) (enWi w))) [.w (.box (.c (.agg (pL T V)))) (.ptr (List.length ([] : List Blk)) 0) (ap ([] : List Blk) (pL T V)) none, .w (.box (.c (.agg (enWi w)))) (.ptr (List.length (ap ([] : List Blk) (pL T V))) 0) (ap (ap ([] : List Blk) (pL T V)) (enWi w)) none, .f (.load none (.c (.ptr (List.length (ap ([] : List Blk) (pL T V))) 0))) (.int .i64 w.kd), .b (w.kd == 6) false, .b (w.kd == 7) false, .b (w.kd == 8) true] [] (by kernel_rfl) ⟨rfl, rfl, (ldV gl), (cN k6), (cN k7), (cE k8), trivial⟩⟩
 by_cases k9 : w.kd = 9
 ·rw [show wishB T V w = true by simp [wishB, k9]]
  exact ⟨(ap (ap ([] : List Blk) (pL T V)) (enWi w)), clV 1 (af := a55) (r := (.bool true)) (h' := (ap (ap ([] : List Blk) (pL T V)) (enWi w))) [.w (.box (.c (.agg (pL T V)))) (.ptr (List.length ([] : List Blk)) 0) (ap ([] : List Blk) (pL T V)) none, .w (.box (.c (.agg (enWi w)))) (.ptr (List.length (ap ([] : List Blk) (pL T V))) 0) (ap (ap ([] : List Blk) (pL T V)) (enWi w)) none, .f (.load none (.c (.ptr (List.length (ap ([] : List Blk) (pL T V))) 0))) (.int .i64 w.kd), .b (w.kd == 6) false, .b (w.kd == 7) false, .b (w.kd == 8) false, .b (w.kd == 9) true] [] (by kernel_rfl) ⟨rfl, rfl, (ldV gl), (cN k6), (cN k7), (cN k8), (cE k9), trivial⟩⟩
 by_cases k1 : w.kd = 1
 ·rw [show wishB T V w = ofTableB T w by simp [wishB, k1]]
  exact ⟨(ap (ap ([] : List Blk) (pL T V)) (enWi w)), clV 1 (af := a55) (r := (.bool (ofTableB T w))) (h' := (ap (ap ([] : List Blk) (pL T V)) (enWi w))) [.w (.box (.c (.agg (pL T V)))) (.ptr (List.length ([] : List Blk)) 0) (ap ([] : List Blk) (pL T V)) none, .w (.box (.c (.agg (enWi w)))) (.ptr (List.length (ap ([] : List Blk) (pL T V))) 0) (ap (ap ([] : List Blk) (pL T V)) (enWi w)) none, .f (.load none (.c (.ptr (List.length (ap ([] : List Blk) (pL T V))) 0))) (.int .i64 w.kd), .b (w.kd == 6) false, .b (w.kd == 7) false, .b (w.kd == 8) false, .b (w.kd == 9) false, .b (w.kd == 1) true, .f (.load (some 2) (.c (.ptr (List.length ([] : List Blk)) 0))) (.agg (pL T V)), .f (.load (some 14) (.c (.ptr (List.length (ap ([] : List Blk) (pL T V))) 0))) (.agg (enWi w)), .r 92 [(.agg (pL T V)), (.agg (enWi w))] (.bool (ofTableB T w)) (ap (ap ([] : List Blk) (pL T V)) (enWi w)) none] [] (by kernel_rfl) ⟨rfl, rfl, (ldV gl), (cN k6), (cN k7), (cN k8), (cN k9), (cE k1), (ldV (ga gl)), (ldV gl), (oft_e ok hr _), trivial⟩⟩
 by_cases k2 : w.kd = 2
 ·rw [show wishB T V w = ofTableB T w by simp [wishB, k2]]
  exact ⟨(ap (ap ([] : List Blk) (pL T V)) (enWi w)), clV 1 (af := a55) (r := (.bool (ofTableB T w))) (h' := (ap (ap ([] : List Blk) (pL T V)) (enWi w))) [.w (.box (.c (.agg (pL T V)))) (.ptr (List.length ([] : List Blk)) 0) (ap ([] : List Blk) (pL T V)) none, .w (.box (.c (.agg (enWi w)))) (.ptr (List.length (ap ([] : List Blk) (pL T V))) 0) (ap (ap ([] : List Blk) (pL T V)) (enWi w)) none, .f (.load none (.c (.ptr (List.length (ap ([] : List Blk) (pL T V))) 0))) (.int .i64 w.kd), .b (w.kd == 6) false, .b (w.kd == 7) false, .b (w.kd == 8) false, .b (w.kd == 9) false, .b (w.kd == 1) false, .b (w.kd == 2) true, .f (.load (some 2) (.c (.ptr (List.length ([] : List Blk)) 0))) (.agg (pL T V)), .f (.load (some 14) (.c (.ptr (List.length (ap ([] : List Blk) (pL T V))) 0))) (.agg (enWi w)), .r 92 [(.agg (pL T V)), (.agg (enWi w))] (.bool (ofTableB T w)) (ap (ap ([] : List Blk) (pL T V)) (enWi w)) none] [] (by kernel_rfl) ⟨rfl, rfl, (ldV gl), (cN k6), (cN k7), (cN k8), (cN k9), (cN k1), (cE k2), (ldV (ga gl)), (ldV gl), (oft_e ok hr _), trivial⟩⟩
 by_cases k3 : w.kd = 3
 ·rw [show wishB T V w = ofTableB T w by simp [wishB, k3]]
  exact ⟨(ap (ap ([] : List Blk) (pL T V)) (enWi w)), clV 1 (af := a55) (r := (.bool (ofTableB T w))) (h' := (ap (ap ([] : List Blk) (pL T V)) (enWi w))) [.w (.box (.c (.agg (pL T V)))) (.ptr (List.length ([] : List Blk)) 0) (ap ([] : List Blk) (pL T V)) none, .w (.box (.c (.agg (enWi w)))) (.ptr (List.length (ap ([] : List Blk) (pL T V))) 0) (ap (ap ([] : List Blk) (pL T V)) (enWi w)) none, .f (.load none (.c (.ptr (List.length (ap ([] : List Blk) (pL T V))) 0))) (.int .i64 w.kd), .b (w.kd == 6) false, .b (w.kd == 7) false, .b (w.kd == 8) false, .b (w.kd == 9) false, .b (w.kd == 1) false, .b (w.kd == 2) false, .b (w.kd == 3) true, .f (.load (some 2) (.c (.ptr (List.length ([] : List Blk)) 0))) (.agg (pL T V)), .f (.load (some 14) (.c (.ptr (List.length (ap ([] : List Blk) (pL T V))) 0))) (.agg (enWi w)), .r 92 [(.agg (pL T V)), (.agg (enWi w))] (.bool (ofTableB T w)) (ap (ap ([] : List Blk) (pL T V)) (enWi w)) none] [] (by kernel_rfl) ⟨rfl, rfl, (ldV gl), (cN k6), (cN k7), (cN k8), (cN k9), (cN k1), (cN k2), (cE k3), (ldV (ga gl)), (ldV gl), (oft_e ok hr _), trivial⟩⟩
 by_cases k4 : w.kd = 4
 ·rw [show wishB T V w = ofTableB T w by simp [wishB, k4]]
  exact ⟨(ap (ap ([] : List Blk) (pL T V)) (enWi w)), clV 1 (af := a55) (r := (.bool (ofTableB T w))) (h' := (ap (ap ([] : List Blk) (pL T V)) (enWi w))) [.w (.box (.c (.agg (pL T V)))) (.ptr (List.length ([] : List Blk)) 0) (ap ([] : List Blk) (pL T V)) none, .w (.box (.c (.agg (enWi w)))) (.ptr (List.length (ap ([] : List Blk) (pL T V))) 0) (ap (ap ([] : List Blk) (pL T V)) (enWi w)) none, .f (.load none (.c (.ptr (List.length (ap ([] : List Blk) (pL T V))) 0))) (.int .i64 w.kd), .b (w.kd == 6) false, .b (w.kd == 7) false, .b (w.kd == 8) false, .b (w.kd == 9) false, .b (w.kd == 1) false, .b (w.kd == 2) false, .b (w.kd == 3) false, .b (w.kd == 4) true, .f (.load (some 2) (.c (.ptr (List.length ([] : List Blk)) 0))) (.agg (pL T V)), .f (.load (some 14) (.c (.ptr (List.length (ap ([] : List Blk) (pL T V))) 0))) (.agg (enWi w)), .r 92 [(.agg (pL T V)), (.agg (enWi w))] (.bool (ofTableB T w)) (ap (ap ([] : List Blk) (pL T V)) (enWi w)) none] [] (by kernel_rfl) ⟨rfl, rfl, (ldV gl), (cN k6), (cN k7), (cN k8), (cN k9), (cN k1), (cN k2), (cN k3), (cE k4), (ldV (ga gl)), (ldV gl), (oft_e ok hr _), trivial⟩⟩
 by_cases k5 : w.kd = 5
 ·rw [show wishB T V w = ofTableB T w by simp [wishB, k5]]
  exact ⟨(ap (ap ([] : List Blk) (pL T V)) (enWi w)), clV 1 (af := a55) (r := (.bool (ofTableB T w))) (h' := (ap (ap ([] : List Blk) (pL T V)) (enWi w))) [.w (.box (.c (.agg (pL T V)))) (.ptr (List.length ([] : List Blk)) 0) (ap ([] : List Blk) (pL T V)) none, .w (.box (.c (.agg (enWi w)))) (.ptr (List.length (ap ([] : List Blk) (pL T V))) 0) (ap (ap ([] : List Blk) (pL T V)) (enWi w)) none, .f (.load none (.c (.ptr (List.length (ap ([] : List Blk) (pL T V))) 0))) (.int .i64 w.kd), .b (w.kd == 6) false, .b (w.kd == 7) false, .b (w.kd == 8) false, .b (w.kd == 9) false, .b (w.kd == 1) false, .b (w.kd == 2) false, .b (w.kd == 3) false, .b (w.kd == 4) false, .b (w.kd == 5) true, .f (.load (some 2) (.c (.ptr (List.length ([] : List Blk)) 0))) (.agg (pL T V)), .f (.load (some 14) (.c (.ptr (List.length (ap ([] : List Blk) (pL T V))) 0))) (.agg (enWi w)), .r 92 [(.agg (pL T V)), (.agg (enWi w))] (.bool (ofTableB T w)) (ap (ap ([] : List Blk) (pL T V)) (enWi w)) none] [] (by kernel_rfl) ⟨rfl, rfl, (ldV gl), (cN k6), (cN k7), (cN k8), (cN k9), (cN k1), (cN k2), (cN k3), (cN k4), (cE k5), (ldV (ga gl)), (ldV gl), (oft_e ok hr _), trivial⟩⟩
 by_cases k10 : w.kd = 10
 ·rw [show wishB T V w = ofTableB T w by simp [wishB, k10]]
  exact ⟨(ap (ap ([] : List Blk) (pL T V)) (enWi w)), clV 1 (af := a55) (r := (.bool (ofTableB T w))) (h' := (ap (ap ([] : List Blk) (pL T V)) (enWi w))) [.w (.box (.c (.agg (pL T V)))) (.ptr (List.length ([] : List Blk)) 0) (ap ([] : List Blk) (pL T V)) none, .w (.box (.c (.agg (enWi w)))) (.ptr (List.length (ap ([] : List Blk) (pL T V))) 0) (ap (ap ([] : List Blk) (pL T V)) (enWi w)) none, .f (.load none (.c (.ptr (List.length (ap ([] : List Blk) (pL T V))) 0))) (.int .i64 w.kd), .b (w.kd == 6) false, .b (w.kd == 7) false, .b (w.kd == 8) false, .b (w.kd == 9) false, .b (w.kd == 1) false, .b (w.kd == 2) false, .b (w.kd == 3) false, .b (w.kd == 4) false, .b (w.kd == 5) false, .b (w.kd == 10) true, .f (.load (some 2) (.c (.ptr (List.length ([] : List Blk)) 0))) (.agg (pL T V)), .f (.load (some 14) (.c (.ptr (List.length (ap ([] : List Blk) (pL T V))) 0))) (.agg (enWi w)), .r 92 [(.agg (pL T V)), (.agg (enWi w))] (.bool (ofTableB T w)) (ap (ap ([] : List Blk) (pL T V)) (enWi w)) none] [] (by kernel_rfl) ⟨rfl, rfl, (ldV gl), (cN k6), (cN k7), (cN k8), (cN k9), (cN k1), (cN k2), (cN k3), (cN k4), (cN k5), (cE k10), (ldV (ga gl)), (ldV gl), (oft_e ok hr _), trivial⟩⟩
 rw [show wishB T V w = false by simp [wishB, k6, k7, k8, k9, k1, k2, k3, k4, k5, k10]]
 exact ⟨(ap (ap ([] : List Blk) (pL T V)) (enWi w)), clV 1 (af := a55) (r := (.bool false)) (h' := (ap (ap ([] : List Blk) (pL T V)) (enWi w))) [.w (.box (.c (.agg (pL T V)))) (.ptr (List.length ([] : List Blk)) 0) (ap ([] : List Blk) (pL T V)) none, .w (.box (.c (.agg (enWi w)))) (.ptr (List.length (ap ([] : List Blk) (pL T V))) 0) (ap (ap ([] : List Blk) (pL T V)) (enWi w)) none, .f (.load none (.c (.ptr (List.length (ap ([] : List Blk) (pL T V))) 0))) (.int .i64 w.kd), .b (w.kd == 6) false, .b (w.kd == 7) false, .b (w.kd == 8) false, .b (w.kd == 9) false, .b (w.kd == 1) false, .b (w.kd == 2) false, .b (w.kd == 3) false, .b (w.kd == 4) false, .b (w.kd == 5) false, .b (w.kd == 10) false] [] (by kernel_rfl) ⟨rfl, rfl, (ldV gl), (cN k6), (cN k7), (cN k8), (cN k9), (cN k1), (cN k2), (cN k3), (cN k4), (cN k5), (cN k10), trivial⟩⟩
theorem wish_ok : GOk Tryz.prog 55 (pureG (gOf okWi enWA fWb)) := gOf_ok ⟨_, Tryz.func55, by kernel_rfl, by kernel_rfl⟩ fun x hx => by
 obtain ⟨H', lo, h⟩ := wish_cl hx.1 hx.2
 exact pureS_cl K8 h (by kernel_rfl) rfl
noncomputable def g55 : List AV → Option AV := gOf okWi enWA fWb
theorem wish_e {Γ : FuncId → Option GF} (hg : Γ 55 = some (pureG g55)) {T V} {w : Wi} (ok : OkPl T V) (hr : w.row.length ≤ 9223372036854775807) (H : List Blk) : Cl Γ Mo.T 55 [pA T V, .agg (enWi w)] H (.bool (wishB T V w), H, none) :=
 Cl.pure (g := gOf okWi enWA fWb) hg (gOf_eq (fun a b _ _ h => by rw [enWA_inj h]) (a := (T, V, w)) ⟨ok, hr⟩) (clo_WA T V w) rfl H
open Go
noncomputable def uO (o : Oper) : TypeId := match o.op with
 | .binOp _ _ _ _ u => u
 | _ => 0
theorem nn_ro {H : List Blk} {es : List AV} {st : Nat} {ex : Bool} (h : es ≠ []) : pOp evC H (.isNil 1 false (.c (.ro es st ex))) = some (.bool false) := by
 have : es.isEmpty = false := by cases es; exact absurd rfl h; rfl
 simp [pOp, evC, isNil, this]
theorem apRo {H : List Blk} {es : List AV} {ls : List (List AV)} {st by_ id : Nat} (hne : es ≠ []) (hl : es.length = ls.length) (hc : es.flatMap AV.cells = ls.flatten) (hb : es.length * by_ ≤ 140737488355328) (h1 : ∀ e ∈ ls, e.all AV.one = true) :
  wOp evC H (.append st by_ (.c (.sl id st 0 0 0 true)) (.c (.ro es st false))) = some (bSl st ls H.length false, H ++ [.cells ls.flatten], none) := by
 have h0 : 0 < es.length := List.length_pos_iff.2 hne
 have hall : ls.flatten.all AV.one = true := by
  rw [List.all_eq_true]
  intro v hv
  obtain ⟨e, he, hve⟩ := List.mem_flatten.1 hv
  exact List.all_eq_true.1 (h1 e he) v hve
 simp only [wOp, evC, lenOf, elems, if_pos, hc]
 rw [if_neg (by omega), if_pos (by simp [hb, hall]), if_neg (by omega)]
 simp [bSl, hl]
theorem frz_vs {h : List Blk} {n : Nat} (row : List Val) : AM.frz h (n + 3) (rV row) = some (rV row) := by
 have e : mapO (AM.frz h (n + 2)) (row.map vV) = some (row.map vV) := by
  induction row with
  | nil => rfl
  | cons a r ih =>
   rw [List.map_cons, mapO, ih]
   rfl
 show ((mapO (AM.frz h (n + 2)) (row.map vV)).bind fun es' => if (es'.all fun e => Nat.beq e.cells.length 3) then some (AV.ro es' 3 false) else none) = _
 rw [e, Option.bind_some, if_pos]
 rw [List.all_eq_true]
 intro x hx
 obtain ⟨y, _, rfl⟩ := List.mem_map.1 hx
 rfl
theorem frz_bs {h : List Blk} {n : Nat} (x : List (List Val)) : AM.frz h (n + 4) (bV x) = some (bV x) := by
 have e : mapO (AM.frz h (n + 3)) (x.map rV) = some (x.map rV) := by
  induction x with
  | nil => rfl
  | cons a r ih =>
   rw [List.map_cons, mapO, ih, frz_vs]
 show ((mapO (AM.frz h (n + 3)) (x.map rV)).bind fun es' => if (es'.all fun e => Nat.beq e.cells.length 1) then some (AV.ro es' 1 false) else none) = _
 rw [e, Option.bind_some, if_pos]
 rw [List.all_eq_true]
 intro y hy
 obtain ⟨z, _, rfl⟩ := List.mem_map.1 hy
 rfl
abbrev lsV (row : List Val) : List (List AV) := row.map enV
abbrev lsR (x : List (List Val)) : List (List AV) := x.map fun r => [rV r]
theorem flat_vs (row : List Val) : (row.map vV).flatMap AV.cells = (lsV row).flatten := by
 induction row with
 | nil => rfl
 | cons a r ih => simp [lsV, List.flatMap_cons, AV.cells] at ih ⊢; exact ih
theorem flat_rs (x : List (List Val)) : (x.map rV).flatMap AV.cells = (lsR x).flatten := by
 induction x with
 | nil => rfl
 | cons a r ih => simp [lsR, List.flatMap_cons, AV.cells] at ih ⊢; exact ih
theorem lsV_ok {row : List Val} : ∀ e ∈ lsV row, e.length = 3 ∧ e.all AV.one = true := fun e he => by
 obtain ⟨v, _, rfl⟩ := List.mem_map.1 he
 exact ⟨rfl, rfl⟩
theorem lsR_ok {x : List (List Val)} : ∀ e ∈ lsR x, e.length = 1 ∧ e.all AV.one = true := fun e he => by
 obtain ⟨v, _, rfl⟩ := List.mem_map.1 he
 exact ⟨rfl, rfl⟩
theorem lsV_elt (row : List Val) : (lsV row).map (elt 3) = row.map vV := by rw [List.map_map]; rfl
theorem lsR_elt (x : List (List Val)) : (lsR x).map (elt 1) = x.map rV := by rw [List.map_map]; rfl
theorem lsV_frz {h : List Blk} {n : Nat} {row : List Val} : ∀ e ∈ lsV row, mapO (AM.frz h (n + 1)) e = some e := fun e he => by
 obtain ⟨v, _, rfl⟩ := List.mem_map.1 he
 rfl
theorem lsR_frz {h : List Blk} {n : Nat} {x : List (List Val)} : ∀ e ∈ lsR x, mapO (AM.frz h (n + 3)) e = some e := fun e he => by
 obtain ⟨v, _, rfl⟩ := List.mem_map.1 he
 rw [mapO, frz_vs]
 rfl
theorem built_of {st : Nat} {ls : List (List AV)} {H : List Blk} (hne : ls ≠ []) (h : ∀ e ∈ ls, e.length = st ∧ e.all AV.one = true) : Built st ls (H ++ [.cells ls.flatten]) H.length false :=
 ⟨gl, (fun h => by cases h), (fun _ => hne), fun e he => (h e he).1, fun e he => (h e he).2⟩
theorem clone64_ne {row : List Val} (hne : row ≠ []) (hl : row.length * 32 ≤ 140737488355328) : PureS Tryz.prog 64 [.ro (row.map vV) 3 false] (.ro (row.map vV) 3 false) := by
 have hne2 : List.map vV row ≠ [] := fun h => hne (List.map_eq_nil_iff.1 h)
 obtain ⟨lo, hc⟩ := (clV 1 (af := a64) (r := (bSl 3 (lsV row) (List.length (ap ([] : List Blk) [])) false)) (h' := (ap (ap ([] : List Blk) []) (List.flatten (lsV row)))) [.q (.isNil 1 false (.c (.ro (row.map vV) 3 false))) false, .w (.buildSl [(.int .i64 0), (.int .i64 0), (.str [])] 0 []) (.sl (List.length ([] : List Blk)) 3 0 0 0 true) (ap ([] : List Blk) []) none, .w (.append 3 32 (.c (.sl (List.length ([] : List Blk)) 3 0 0 0 true)) (.c (.ro (row.map vV) 3 false))) (bSl 3 (lsV row) (List.length (ap ([] : List Blk) [])) false) (ap (ap ([] : List Blk) []) (List.flatten (lsV row))) none] [] (by kernel_rfl) ⟨(nn_ro hne2), rfl, (apRo hne2 (by simp) (flat_vs row) (by simpa using hl) (fun e he => (lsV_ok e he).2)), trivial⟩ : ∃ lo, Cl G8 Mo.T 64 [.ro (row.map vV) 3 false] [] (_, _, lo))
 have hb := built_of (st := 3) (ls := lsV row) (H := (ap ([] : List Blk) [])) (fun h => hne (List.map_eq_nil_iff.1 h)) lsV_ok
 obtain ⟨ex', he⟩ := hb.frz (n := 3) (es' := lsV row) (by decide) rfl (fun i e e' h1 h2 => by rw [h1] at h2; cases h2; exact lsV_frz e (List.mem_of_getElem? h1)) hb.len hb.one
 rw [lsV_elt] at he
 exact (pureS_clf K8 hc (by kernel_rfl) he).cv Cv.ex
noncomputable def hB64 : Code := (Tryz.f64.body).getD .skip
noncomputable def hR64 : Code := ghd (ghd (gtl hB64))
noncomputable def oK64 : List Oper := gops hR64
noncomputable def oN64 : Oper := oK64.getD 1 ⟨none, .assign (.tmp 0), 0, "", #[], none⟩
theorem hB64_is : hB64 = .seq (ghd hB64) (.seq (.seq (.region (gid hR64) oK64.toArray false) (gtl (ghd (gtl hB64)))) (gtl (gtl hB64))) := by kernel_rfl
theorem clone64_nil : PureS Tryz.prog 64 [.ro [] 3 false] (.ro [] 3 true) := by
 have K := K8
 have hl0 : Lv 8 [(0, .ro [] 3 false)] ([AV.ro [] 3 false] ++ List.replicate (Tryz.f64.ntmps - 1) (.tup [])) := ⟨by kernel_rfl, by simp [getX_eq]⟩
 have w0 := pathE (Γ := G8) (tbl := Mo.T) (k := hd a64.body) (h := []) (lo := none) (nt := 8) [] [0, 2] (e := .normal) (vals := [(.ro [] 3 false), .nils]) (h' := ([] : List Blk)) hl0 (fun _ => by kernel_rfl) trivial
 obtain ⟨e0, s0, ⟨rfl, t1, lo1, rfl, hl1⟩, d0⟩ := DC.det K (P := Tryz.prog) (code := ghd hB64) (c := hd a64.body) (by kernel_rfl) w0
 have hl2 : Lv 8 [(3, .ro [] 3 false), (0, .ro [] 3 false), (2, .nils)] (put t1 (some 3) (.ro [] 3 false)) := hl1.put' (by decide) (by simp)
 have hrun : runOps (callF G8 Mo.T 0) [⟨some 3, .mv (.t 0), none, 0, 0⟩] { t := t1, h := [], lo := lo1 } = some { t := put t1 (some 3) (.ro [] 3 false), h := [], lo := lo1 } := by
  have : evalO t1 (.t 0) = .ro [] 3 false := hl1.ev (by simp)
  simp [runOps, wanted, AOp.loud, pOp, this]
 have d1 := DC.nilAny (P := Tryz.prog) (call := callF G8 Mo.T 0) (callF_sound _ Mo.T K _) (i0 := gid hR64) (tx := 3) (d := 4) (ops := oK64.toArray) (oK64.take 1) [] (o := oN64) (n := 0) (c := 0) (u := uO oN64) (by kernel_rfl) (by kernel_rfl) (by kernel_rfl) (by kernel_rfl) (.inl rfl) Tryz.underlying40 (by kernel_rfl) hrun (st := 3) (ex := false) (hl2.ev (n := 3) (by simp)) rfl (fun b => { t := put (put t1 (some 3) (.ro [] 3 false)) (some 4) (.bool b), h := [] }) (fun b => rfl)
 have w2 : ∀ b, Wp G8 Mo.T (tl (hd (tl a64.body))) { t := put (put t1 (some 3) (.ro [] 3 false)) (some 4) (.bool b), h := [] } fun e s => (e = .ret ∧ ∃ t lo, s = { t := t, h := [], lo := lo } ∧ Lv 8 [(2, .nils)] t) ∨ (e = .normal ∧ ∃ t lo, s = { t := t, h := [], lo := lo } ∧ Lv 8 [(0, .ro [] 3 false), (2, .nils)] t) := by
  intro b
  have hlb : Lv 8 [(4, .bool b), (3, .ro [] 3 false), (0, .ro [] 3 false), (2, .nils)] (put (put t1 (some 3) (.ro [] 3 false)) (some 4) (.bool b)) := hl2.put' (by decide) (by simp)
  cases b with
  | true =>
   have hlT : Lv 8 [(0, .ro [] 3 false), (2, .nils), (4, .bool true)] _ := hlb.sub (by simp)
   refine (pathE (nt := 8) [] [2] (e := .ret) (vals := [.nils]) (h' := ([] : List Blk)) hlT (fun _ => by kernel_rfl) trivial).mono ?_
   rintro e s ⟨rfl, t2, lo2, rfl, h⟩
   exact .inl ⟨rfl, _, _, rfl, h⟩
  | false =>
   have hlF : Lv 8 [(0, .ro [] 3 false), (2, .nils), (4, .bool false)] _ := hlb.sub (by simp)
   refine (pathE (nt := 8) [] [0, 2] (e := .normal) (vals := [(.ro [] 3 false), .nils]) (h' := ([] : List Blk)) hlF (fun _ => by kernel_rfl) trivial).mono ?_
   rintro e s ⟨rfl, t2, lo2, rfl, h⟩
   exact .inr ⟨rfl, _, _, rfl, h⟩
 refine DC.pureS (fn := Tryz.f64) (body := hB64) (rs := [.t 2]) (k := 3) Tryz.func64 (by kernel_rfl) (by kernel_rfl) ?_
 have fin : ∀ {t : List AV} {h : List Blk} {lo : Option Nat} {v r1 : AV}, Lv 8 [(2, v)] t → frz h 3 v = some r1 → Cv r1 (.ro [] 3 true) → (∀ i, AExit.ret ≠ .exit i) ∧ ∃ vs r1, resAll ({ t := t, h := h, lo := lo } : St) [.t 2] = some vs ∧ frz h 3 (packRes vs) = some r1 ∧ Cv r1 (.ro [] 3 true) := by
  intro t h lo v r1 hl hf hc
  refine ⟨(fun i h => by cases h), [v], r1, ?_, hf, hc⟩
  have := hl.get _ List.mem_cons_self
  simp only [getX_eq] at this
  simp only [resAll, resOf, this]
 rw [hB64_is]
 refine DC.seq d0 (fun s' h => ?_) (fun e s' hne h => absurd h.1 hne)
 obtain ⟨_, rfl⟩ := h
 refine DC.seq (Q := fun e s => (e = .ret ∧ ∃ t lo, s = { t := t, h := [], lo := lo } ∧ Lv 8 [(2, .nils)] t) ∨ (e = .normal ∧ ∃ t lo, s = { t := t, h := [], lo := lo } ∧ Lv 8 [(0, .ro [] 3 false), (2, .nils)] t)) ?_ (fun s' h => ?_) (fun e s' hne h => ?_)
 ·refine DC.seq d1 (fun s' h => ?_) (fun e s' hne h => absurd h.1 hne)
  obtain ⟨_, b, rfl⟩ := h
  exact DC.wp K (by kernel_rfl) (w2 b)
 ·obtain ⟨h, _⟩ | ⟨_, t, lo, rfl, hlN⟩ := h
  ·cases h
  ·refine DC.wp K (c := tl (tl a64.body)) (by kernel_rfl) ((pathE (nt := 8) [.w (.buildSl [(.int .i64 0), (.int .i64 0), (.str [])] 0 []) (.sl (List.length ([] : List Blk)) 3 0 0 0 true) (ap ([] : List Blk) []) none, .w (.append 3 32 (.c (.sl (List.length ([] : List Blk)) 3 0 0 0 true)) (.c (.ro [] 3 false))) (.sl 0 3 0 0 0 true) (ap ([] : List Blk) []) none] [2] (e := .ret) (vals := [(.sl 0 3 0 0 0 true)]) (h' := (ap ([] : List Blk) [])) hlN (fun _ => by kernel_rfl) ⟨rfl, rfl, trivial⟩).mono ?_)
   rintro e s ⟨rfl, t2, lo2, rfl, h⟩
   exact fin h (by rfl) (Cv.refl _)
 ·obtain ⟨rfl, t, lo, rfl, h⟩ | ⟨rfl, _⟩ := h
  ·exact fin h (by rfl) Cv.nilsT
  ·exact absurd rfl hne
theorem clone64_pure (row : List Val) (hl : row.length * 32 ≤ 140737488355328) : PureS Tryz.prog 64 [.ro (row.map vV) 3 false] (.ro (row.map vV) 3 false) := by
 by_cases h : row = []
 ·subst h; exact clone64_nil.cv Cv.ex
 ·exact clone64_ne h hl
noncomputable def g64 : List AV → Option AV := gOf (fun row : List Val => row.length * 32 ≤ 140737488355328) (fun row => [.ro (row.map vV) 3 false]) (fun row => .ro (row.map vV) 3 false)
theorem clone64_ok : GOk Tryz.prog 64 (pureG g64) := gOf_ok ⟨_, Tryz.func64, by kernel_rfl, by kernel_rfl⟩ fun x hx => clone64_pure x hx
theorem clone64_e {Γ : FuncId → Option GF} (hg : Γ 64 = some (pureG g64)) (row : List Val) (hl : row.length * 32 ≤ 140737488355328) (H : List Blk) : Cl Γ Mo.T 64 [.ro (row.map vV) 3 false] H (.ro (row.map vV) 3 false, H, none) :=
 Cl.pure (g := g64) hg (gOf_eq (fun a b _ _ h => by
  have h := (List.cons.inj h).1
  rw [h]) (a := row) hl) (by simp only [cloL, Bool.and_true]; exact clo_rV row) (clo_rV row) H
theorem clone90_ne {x : List (List Val)} (hne : x ≠ []) (hl : x.length * 24 ≤ 140737488355328) : PureS Tryz.prog 90 [.ro (x.map rV) 1 false] (.ro (x.map rV) 1 false) := by
 have hne2 : List.map rV x ≠ [] := fun h => hne (List.map_eq_nil_iff.1 h)
 obtain ⟨lo, hc⟩ := (clV 1 (af := a90) (r := (bSl 1 (lsR x) (List.length (ap ([] : List Blk) [])) false)) (h' := (ap (ap ([] : List Blk) []) (List.flatten (lsR x)))) [.q (.isNil 1 false (.c (.ro (x.map rV) 1 false))) false, .w (.buildSl [.nils] 0 []) (.sl (List.length ([] : List Blk)) 1 0 0 0 true) (ap ([] : List Blk) []) none, .w (.append 1 24 (.c (.sl (List.length ([] : List Blk)) 1 0 0 0 true)) (.c (.ro (x.map rV) 1 false))) (bSl 1 (lsR x) (List.length (ap ([] : List Blk) [])) false) (ap (ap ([] : List Blk) []) (List.flatten (lsR x))) none] [] (by kernel_rfl) ⟨(nn_ro hne2), rfl, (apRo hne2 (by simp) (flat_rs x) (by simpa using hl) (fun e he => (lsR_ok e he).2)), trivial⟩ : ∃ lo, Cl G8 Mo.T 90 [.ro (x.map rV) 1 false] [] (_, _, lo))
 have hb := built_of (st := 1) (ls := lsR x) (H := (ap ([] : List Blk) [])) (fun h => hne (List.map_eq_nil_iff.1 h)) lsR_ok
 obtain ⟨ex', he⟩ := hb.frz (n := 5) (es' := lsR x) (by decide) rfl (fun i e e' h1 h2 => by rw [h1] at h2; cases h2; exact lsR_frz e (List.mem_of_getElem? h1)) hb.len hb.one
 rw [lsR_elt] at he
 exact (pureS_clf K8 hc (by kernel_rfl) he).cv Cv.ex
noncomputable def hB90 : Code := (Tryz.f90.body).getD .skip
noncomputable def hR90 : Code := ghd (ghd (gtl hB90))
noncomputable def oK90 : List Oper := gops hR90
noncomputable def oN90 : Oper := oK90.getD 1 ⟨none, .assign (.tmp 0), 0, "", #[], none⟩
theorem hB90_is : hB90 = .seq (ghd hB90) (.seq (.seq (.region (gid hR90) oK90.toArray false) (gtl (ghd (gtl hB90)))) (gtl (gtl hB90))) := by kernel_rfl
theorem clone90_nil : PureS Tryz.prog 90 [.ro [] 1 false] (.ro [] 1 true) := by
 have K := K8
 have hl0 : Lv 8 [(0, .ro [] 1 false)] ([AV.ro [] 1 false] ++ List.replicate (Tryz.f90.ntmps - 1) (.tup [])) := ⟨by kernel_rfl, by simp [getX_eq]⟩
 have w0 := pathE (Γ := G8) (tbl := Mo.T) (k := hd a90.body) (h := []) (lo := none) (nt := 8) [] [0, 2] (e := .normal) (vals := [(.ro [] 1 false), .nils]) (h' := ([] : List Blk)) hl0 (fun _ => by kernel_rfl) trivial
 obtain ⟨e0, s0, ⟨rfl, t1, lo1, rfl, hl1⟩, d0⟩ := DC.det K (P := Tryz.prog) (code := ghd hB90) (c := hd a90.body) (by kernel_rfl) w0
 have hl2 : Lv 8 [(3, .ro [] 1 false), (0, .ro [] 1 false), (2, .nils)] (put t1 (some 3) (.ro [] 1 false)) := hl1.put' (by decide) (by simp)
 have hrun : runOps (callF G8 Mo.T 0) [⟨some 3, .mv (.t 0), none, 0, 0⟩] { t := t1, h := [], lo := lo1 } = some { t := put t1 (some 3) (.ro [] 1 false), h := [], lo := lo1 } := by
  have : evalO t1 (.t 0) = .ro [] 1 false := hl1.ev (by simp)
  simp [runOps, wanted, AOp.loud, pOp, this]
 have d1 := DC.nilAny (P := Tryz.prog) (call := callF G8 Mo.T 0) (callF_sound _ Mo.T K _) (i0 := gid hR90) (tx := 3) (d := 4) (ops := oK90.toArray) (oK90.take 1) [] (o := oN90) (n := 0) (c := 0) (u := uO oN90) (by kernel_rfl) (by kernel_rfl) (by kernel_rfl) (by kernel_rfl) (.inl rfl) Tryz.underlying51 (by kernel_rfl) hrun (st := 1) (ex := false) (hl2.ev (n := 3) (by simp)) rfl (fun b => { t := put (put t1 (some 3) (.ro [] 1 false)) (some 4) (.bool b), h := [] }) (fun b => rfl)
 have w2 : ∀ b, Wp G8 Mo.T (tl (hd (tl a90.body))) { t := put (put t1 (some 3) (.ro [] 1 false)) (some 4) (.bool b), h := [] } fun e s => (e = .ret ∧ ∃ t lo, s = { t := t, h := [], lo := lo } ∧ Lv 8 [(2, .nils)] t) ∨ (e = .normal ∧ ∃ t lo, s = { t := t, h := [], lo := lo } ∧ Lv 8 [(0, .ro [] 1 false), (2, .nils)] t) := by
  intro b
  have hlb : Lv 8 [(4, .bool b), (3, .ro [] 1 false), (0, .ro [] 1 false), (2, .nils)] (put (put t1 (some 3) (.ro [] 1 false)) (some 4) (.bool b)) := hl2.put' (by decide) (by simp)
  cases b with
  | true =>
   have hlT : Lv 8 [(0, .ro [] 1 false), (2, .nils), (4, .bool true)] _ := hlb.sub (by simp)
   refine (pathE (nt := 8) [] [2] (e := .ret) (vals := [.nils]) (h' := ([] : List Blk)) hlT (fun _ => by kernel_rfl) trivial).mono ?_
   rintro e s ⟨rfl, t2, lo2, rfl, h⟩
   exact .inl ⟨rfl, _, _, rfl, h⟩
  | false =>
   have hlF : Lv 8 [(0, .ro [] 1 false), (2, .nils), (4, .bool false)] _ := hlb.sub (by simp)
   refine (pathE (nt := 8) [] [0, 2] (e := .normal) (vals := [(.ro [] 1 false), .nils]) (h' := ([] : List Blk)) hlF (fun _ => by kernel_rfl) trivial).mono ?_
   rintro e s ⟨rfl, t2, lo2, rfl, h⟩
   exact .inr ⟨rfl, _, _, rfl, h⟩
 refine DC.pureS (fn := Tryz.f90) (body := hB90) (rs := [.t 2]) (k := 3) Tryz.func90 (by kernel_rfl) (by kernel_rfl) ?_
 have fin : ∀ {t : List AV} {h : List Blk} {lo : Option Nat} {v r1 : AV}, Lv 8 [(2, v)] t → frz h 3 v = some r1 → Cv r1 (.ro [] 1 true) → (∀ i, AExit.ret ≠ .exit i) ∧ ∃ vs r1, resAll ({ t := t, h := h, lo := lo } : St) [.t 2] = some vs ∧ frz h 3 (packRes vs) = some r1 ∧ Cv r1 (.ro [] 1 true) := by
  intro t h lo v r1 hl hf hc
  refine ⟨(fun i h => by cases h), [v], r1, ?_, hf, hc⟩
  have := hl.get _ List.mem_cons_self
  simp only [getX_eq] at this
  simp only [resAll, resOf, this]
 rw [hB90_is]
 refine DC.seq d0 (fun s' h => ?_) (fun e s' hne h => absurd h.1 hne)
 obtain ⟨_, rfl⟩ := h
 refine DC.seq (Q := fun e s => (e = .ret ∧ ∃ t lo, s = { t := t, h := [], lo := lo } ∧ Lv 8 [(2, .nils)] t) ∨ (e = .normal ∧ ∃ t lo, s = { t := t, h := [], lo := lo } ∧ Lv 8 [(0, .ro [] 1 false), (2, .nils)] t)) ?_ (fun s' h => ?_) (fun e s' hne h => ?_)
 ·refine DC.seq d1 (fun s' h => ?_) (fun e s' hne h => absurd h.1 hne)
  obtain ⟨_, b, rfl⟩ := h
  exact DC.wp K (by kernel_rfl) (w2 b)
 ·obtain ⟨h, _⟩ | ⟨_, t, lo, rfl, hlN⟩ := h
  ·cases h
  ·refine DC.wp K (c := tl (tl a90.body)) (by kernel_rfl) ((pathE (nt := 8) [.w (.buildSl [.nils] 0 []) (.sl (List.length ([] : List Blk)) 1 0 0 0 true) (ap ([] : List Blk) []) none, .w (.append 1 24 (.c (.sl (List.length ([] : List Blk)) 1 0 0 0 true)) (.c (.ro [] 1 false))) (.sl 0 1 0 0 0 true) (ap ([] : List Blk) []) none] [2] (e := .ret) (vals := [(.sl 0 1 0 0 0 true)]) (h' := (ap ([] : List Blk) [])) hlN (fun _ => by kernel_rfl) ⟨rfl, rfl, trivial⟩).mono ?_)
   rintro e s ⟨rfl, t2, lo2, rfl, h⟩
   exact fin h (by rfl) (Cv.refl _)
 ·obtain ⟨rfl, t, lo, rfl, h⟩ | ⟨rfl, _⟩ := h
  ·exact fin h (by rfl) Cv.nilsT
  ·exact absurd rfl hne
theorem clone90_pure (x : List (List Val)) (hl : x.length * 24 ≤ 140737488355328) : PureS Tryz.prog 90 [.ro (x.map rV) 1 false] (.ro (x.map rV) 1 false) := by
 by_cases h : x = []
 ·subst h; exact clone90_nil.cv Cv.ex
 ·exact clone90_ne h hl
noncomputable def g90 : List AV → Option AV := gOf (fun x : List (List Val) => x.length * 24 ≤ 140737488355328) (fun x => [.ro (x.map rV) 1 false]) (fun x => .ro (x.map rV) 1 false)
theorem clone90_ok : GOk Tryz.prog 90 (pureG g90) := gOf_ok ⟨_, Tryz.func90, by kernel_rfl, by kernel_rfl⟩ fun x hx => clone90_pure x hx
theorem clone90_e {Γ : FuncId → Option GF} (hg : Γ 90 = some (pureG g90)) (x : List (List Val)) (hl : x.length * 24 ≤ 140737488355328) (H : List Blk) : Cl Γ Mo.T 90 [.ro (x.map rV) 1 false] H (.ro (x.map rV) 1 false, H, none) :=
 Cl.pure (g := g90) hg (gOf_eq (fun a b _ _ h => by
  have h := (List.cons.inj h).1
  rw [h]) (a := x) hl) (by simp only [cloL, Bool.and_true]; exact clo_bV x) (clo_bV x) H
open Go
def isCells (h : List Blk) (i : Nat) : Bool := match h[i]? with
 | some (.cells _) => true
 | _ => false
def ovG : GF := fun args h => match args with
 | [.sl a 1 _ la _ _, .sl b 1 _ lb _ _] => if (a ≠ b ∧ isCells h a = true) ∧ (isCells h b = true ∧ (0 < la ∧ 0 < lb)) then some (.bool false, h, none) else none
 | _ => none
theorem isCells_get {h : List Blk} {i : Nat} (hc : isCells h i = true) : ∃ cs, h[i]? = some (.cells cs) := by
 unfold isCells at hc
 split at hc
 ·exact ⟨_, by assumption⟩
 ·cases hc
theorem ov_ok : GOk Tryz.prog 122 ovG := by
 intro args h r h' lo hc
 unfold ovG at hc
 split at hc
 ·split at hc <;> cases hc
  rename_i a oa la ca ea b ob lb cb eb hcond
  obtain ⟨⟨hne, hca⟩, hcb, hla, hlb⟩ := hcond
  refine ⟨Pre.refl _ _, .inr ⟨rfl, fun S m w vals r0 hL => ⟨.bool false, ?_, .bool⟩⟩⟩
  obtain ⟨x, q, h0, h1, h2⟩ := hL.head
  obtain ⟨y, q2, rfl, h3, h4⟩ := h2.head
  rw [h4.nil_r] at h0
  have hvals : vals = #[x, y] := Array.toList_inj.1 h0
  subst hvals
  obtain ⟨csa, hga⟩ := isCells_get hca
  obtain ⟨csb, hgb⟩ := isCells_get hcb
  cases h1 with
  | sle => omega
  | @sl _ _ _ _ _ _ ba da za rca a1 a2 a3 a4 a5 =>
   cases h3 with
   | sle => omega
   | @sl _ _ _ _ _ _ bb db zb rcb b1 b2 b3 b4 b5 =>
    obtain ⟨ba', da', ta, fza, ca', k1, k2, k3, k4, k5, k6⟩ := r0.blk _ _ hga
    obtain ⟨bb', db', tb, fzb, cb', l1, l2, l3, l4, l5, l6⟩ := r0.blk _ _ hgb
    rw [a1] at k1
    rw [b1] at l1
    cases k1
    cases l1
    have hbne : ba ≠ bb := fun e => hne (r0.inj _ _ ba ⟨⟨_, _, a1⟩, _, hga, by intro h; cases h⟩ ⟨⟨_, _, by rw [e]; exact b1⟩, _, hgb, by intro h; cases h⟩)
    have hsa : w.shape? ba = some (ta, ca'.size) := by simp [World.shape?, k2]
    have hsb : w.shape? bb = some (tb, cb'.size) := by simp [World.shape?, l2]
    have hfr : ∀ j, da ≤ j → w.frozen? ⟨ba, j, none⟩ = false := fun j hj => by
     have := k4 j hj
     simp only [World.frozen?, k2]
     simp only [Bool.and_eq_false_iff, decide_eq_false_iff_not]
     by_cases h : fza.1 ≤ j
     ·exact .inr fun h2 => this ⟨h, h2⟩
     ·exact .inl h
    rw [run_callFunc_extern Tryz.func122 (by kernel_rfl) (by kernel_rfl) (by kernel_rfl) (e := Extern.SlicesOverlaps.overlaps #[51, 51] #[4]) (by kernel_rfl),
     Lib.run_overlaps_apart w 51 4 40 Tryz.underlying51 1 (fun w => Tryz.sizeOf40 w) ⟨ba, da + oa, none⟩ ⟨bb, db + ob, none⟩ la rca lb rcb hbne ta tb ca'.size cb'.size hsa hsb (by omega) (hfr _ (by omega)) (hfr _ (by omega))]
    rfl
 ·cases hc
end Go.Proofs.YtenpjpldjmoefaaGreat.AM.Mo
