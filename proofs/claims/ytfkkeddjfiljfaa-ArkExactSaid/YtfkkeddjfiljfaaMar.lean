/-
  'gauger's law ArkExact holds of every input: it returns true, and each argument reads behind the call as it read before.
  This text: part 18 of 19 of the proof (AxQ, AxR, AxS, AxT, AxU, AxV).
-/
import Derived.Test.YtfkkeddjfiljfaaMaq
set_option linter.unusedVariables false
set_option linter.unusedSimpArgs false
set_option maxRecDepth 100000
namespace Go.Proofs.Ytfkkeddjfiljfaa.AM.Ax
open Go
section
variable {Γ : FuncId → Option GF}
theorem same01 (hg : Γ 62 = none) {r : List Val} (hr : r.length ≤ 9223372036854775807) (h : List Blk) : Cl Γ T 62 [rV r, rV r] h (.bool true, h, none) := by
 suffices hw : Wp Γ T a62.body { t := [rV r, rV r] ++ List.replicate 24 (.tup []), h := h } (fun e s' => e = .ret ∧ s'.lo = none ∧ getX s'.t 4 = .bool true ∧ s'.h = h) by
  obtain ⟨x, h', ⟨rfl, rfl⟩, hc⟩ := Cl.slot (Γ := Γ) (tbl := T) (af := a62) (args := [rV r, rV r]) (h := h) hg (by kernel_rfl) rfl rfl (fun x h' => x = .bool true ∧ h' = h) hw
  exact hc
 refine Wp.seq ?_
 refine (path2 (nt := 26) (live := [(0, rV r), (1, rV r)]) [0, 1] (e := .normal) (vals := [rV r, rV r]) (h' := h) (ds := []) (cs := []) ⟨by simp, by simp [getX_eq]⟩ (fun t0 => by kernel_rfl) trivial).mono ?_
 rintro e s ⟨rfl, t1, rfl, hl1⟩
 refine Wp.seq ?_
 refine (path2 [0, 1] (e := .normal) (vals := [rV r, rV r]) (h' := h) (ds := [.b false]) (cs := [cB (((r.map vV).length : Int) != ((r.map vV).length : Int)) false]) hl1 (fun t0 => by kernel_rfl) ⟨cS rfl, trivial⟩).mono ?_
 rintro e s ⟨rfl, t2, rfl, hl2⟩
 refine Wp.seq (Wp.seq ?_)
 refine (path2 [0, 1, 5] (e := .normal) (vals := [rV r, rV r, .int .i64 0]) (h' := h) (ds := []) (cs := []) hl2 (fun t0 => by kernel_rfl) trivial).mono ?_
 rintro e s ⟨rfl, t3, rfl, hl3⟩
 refine Wp.block ?_
 refine (Wp.loop (Q := fun e s => e = .exit 0 ∧ ∃ t, s = { t := t, h := h, lo := none } ∧ t.length = 26) (fun k s => ∃ (i : Nat) (t1 : List AV), s = { t := t1, h := h, lo := none } ∧ k = r.length - i ∧ i ≤ r.length ∧ Lv 26 [(0, rV r), (1, rV r), (5, .int .i64 (i : Int))] t1) ?_ r.length _ ⟨0, t3, rfl, by omega, by omega, hl3⟩).mono ?_
 ·rintro k s ⟨i, t1, rfl, rfl, hi, hl⟩
  by_cases hlt : i < r.length
  ·have e1 := List.getElem?_eq_getElem hlt
   generalize r[i] = v at e1
   have g1 : (i : Int) < ((r.map vV).length : Int) := by simp; omega
   have g2 : (r.map vV)[(i : Int).toNat]? = some (vV v) := by simp [e1]
   refine (path2 [0, 1, 5] (e := .normal) (vals := [rV r, rV r, .int .i64 (IntKind.i64.wrap ((i : Int) + 1))]) (h' := h) (ds := [.b true, .v (vV v), .v (vV v), .b false]) (cs := [cB (decide ((i : Int) < ((r.map vV).length : Int))) true, 3 = 3, 0 ≤ (i : Int), (i : Int) < ((r.map vV).length : Int), (r.map vV)[(i : Int).toNat]? = some (vV v), 3 = 3, 0 ≤ (i : Int), (i : Int) < ((r.map vV).length : Int), (r.map vV)[(i : Int).toNat]? = some (vV v), (eqL [1, 1, 2] [.int .i64 v.1, .int .i64 v.2.1, .str v.2.2] [.int .i64 v.1, .int .i64 v.2.1, .str v.2.2]).map (fun r => AV.bool (!r)) = some (.bool false)]) hl (fun t0 => by kernel_rfl) ⟨cT g1, rfl, by omega, g1, g2, rfl, by omega, g1, g2, by simp [eqL, eq1, bytesEq_iff], trivial⟩).mono ?_
   rintro e s ⟨rfl, t3, rfl, hl3⟩
   rw [i64_succ (by omega) (by omega)] at hl3
   exact ⟨r.length - (i + 1), by omega, i + 1, t3, rfl, rfl, by omega, hl3⟩
  ·refine (path2 [0] (e := .exit 0) (vals := [rV r]) (h' := h) (ds := [.b false]) (cs := [cB (decide ((i : Int) < ((r.map vV).length : Int))) false]) hl (fun t0 => by kernel_rfl) ⟨cF (by simp; omega), trivial⟩).mono ?_
   rintro e s ⟨rfl, t3, rfl, hl3⟩
   exact ⟨rfl, t3, rfl, hl3.len⟩
 ·rintro e s ⟨rfl, t4, rfl, hl4⟩
  refine (path2 (nt := 26) (live := []) [4] (e := .ret) (vals := [.bool true]) (h' := h) (ds := []) (cs := []) ⟨hl4, by simp⟩ (fun t0 => by kernel_rfl) trivial).mono ?_
  rintro e s ⟨rfl, t5, rfl, hl5⟩
  exact ⟨rfl, rfl, hl5.get _ (List.mem_singleton.2 rfl), rfl⟩
abbrev anV (x : List (List Val)) : AV := .agg [.int .i64 0, bV x, .nils, .int .i64 0]
abbrev anC (x : List (List Val)) : Blk := .cells [.int .i64 0, bV x, .nils, .int .i64 0]
theorem same24 (hg : Γ 48 = none) (hg1 : Γ 62 = none) {x : List (List Val)} (hx : x.length ≤ 9223372036854775807) (hr : ∀ r ∈ x, r.length ≤ 9223372036854775807) : Cl Γ T 48 [anV x, anV x] [] (.bool true, [anC x, anC x], none) := by
 suffices hw : Wp Γ T a48.body { t := [anV x, anV x] ++ List.replicate 137 (.tup []), h := [] } (fun e s' => e = .ret ∧ s'.lo = none ∧ getX s'.t 4 = .bool true ∧ s'.h = [anC x, anC x]) by
  obtain ⟨q, h', ⟨rfl, rfl⟩, hc⟩ := Cl.slot (Γ := Γ) (tbl := T) (af := a48) (args := [anV x, anV x]) (h := []) hg (by kernel_rfl) rfl rfl (fun q h' => q = .bool true ∧ h' = [anC x, anC x]) hw
  exact hc
 refine Wp.seq ?_
 refine (path2 (nt := 139) (live := [(0, anV x), (1, anV x)]) [2, 3] (e := .normal) (vals := [.ptr 0 0, .ptr 1 0]) (h' := [anC x, anC x]) (ds := []) (cs := []) ⟨by simp, by simp [getX_eq]⟩ (fun t0 => by kernel_rfl) trivial).mono ?_
 rintro e s ⟨rfl, t1, rfl, hl1⟩
 refine Wp.seq ?_
 refine (path2 [2, 3] (e := .normal) (vals := [.ptr 0 0, .ptr 1 0]) (h' := [anC x, anC x]) (ds := [.b false, .b false, .b false, .b false]) (cs := [cB ((0 : Int) != 0) false, cB ((0 : Int) != 0) false, cB (((x.map rV).length : Int) != ((x.map rV).length : Int)) false, cB ((0 : Int) != 0) false]) hl1 (fun t0 => by kernel_rfl) ⟨rfl, rfl, cS rfl, rfl, trivial⟩).mono ?_
 rintro e s ⟨rfl, t2, rfl, hl2⟩
 refine Wp.seq (Wp.seq ?_)
 refine (path2 [2, 3, 5] (e := .normal) (vals := [.ptr 0 0, .ptr 1 0, .int .i64 0]) (h' := [anC x, anC x]) (ds := []) (cs := []) hl2 (fun t0 => by kernel_rfl) trivial).mono ?_
 rintro e s ⟨rfl, t3, rfl, hl3⟩
 refine Wp.block ?_
 refine (Wp.loop (Q := fun e s => e = .exit 0 ∧ ∃ t, s = { t := t, h := [anC x, anC x], lo := none } ∧ Lv 139 [(2, .ptr 0 0), (3, .ptr 1 0)] t) (fun k s => ∃ (i : Nat) (t1 : List AV), s = { t := t1, h := [anC x, anC x], lo := none } ∧ k = x.length - i ∧ i ≤ x.length ∧ Lv 139 [(2, .ptr 0 0), (3, .ptr 1 0), (5, .int .i64 (i : Int))] t1) ?_ x.length _ ⟨0, t3, rfl, by omega, by omega, hl3⟩).mono ?_
 ·rintro k s ⟨i, t1, rfl, rfl, hi, hl⟩
  by_cases hlt : i < x.length
  ·have e1 := List.getElem?_eq_getElem hlt
   have hrm := hr x[i] (List.getElem_mem hlt)
   generalize x[i] = r at e1 hrm
   have g1 : (i : Int) < ((x.map rV).length : Int) := by simp; omega
   have g2 : (x.map rV)[(i : Int).toNat]? = some (rV r) := by simp [e1]
   refine (path2 [2, 3, 5] (e := .normal) (vals := [.ptr 0 0, .ptr 1 0, .int .i64 (IntKind.i64.wrap ((i : Int) + 1))]) (h' := [anC x, anC x]) (ds := [.b true, .v (rV r), .v (rV r), .r (.bool true) [anC x, anC x] none]) (cs := [cB (decide ((i : Int) < ((x.map rV).length : Int))) true, 1 = 1, 0 ≤ (i : Int), (i : Int) < ((x.map rV).length : Int), (x.map rV)[(i : Int).toNat]? = some (rV r), 1 = 1, 0 ≤ (i : Int), (i : Int) < ((x.map rV).length : Int), (x.map rV)[(i : Int).toNat]? = some (rV r), Cl Γ T 62 [rV r, rV r] [anC x, anC x] (.bool true, [anC x, anC x], none)]) hl (fun t0 => by kernel_rfl) ⟨cT g1, rfl, by omega, g1, g2, rfl, by omega, g1, g2, same01 hg1 hrm _, trivial⟩).mono ?_
   rintro e s ⟨rfl, t3, rfl, hl3⟩
   rw [i64_succ (by omega) (by omega)] at hl3
   exact ⟨x.length - (i + 1), by omega, i + 1, t3, rfl, rfl, by omega, hl3⟩
  ·refine (path2 [2, 3] (e := .exit 0) (vals := [.ptr 0 0, .ptr 1 0]) (h' := [anC x, anC x]) (ds := [.b false]) (cs := [cB (decide ((i : Int) < ((x.map rV).length : Int))) false]) hl (fun t0 => by kernel_rfl) ⟨cF (by simp; omega), trivial⟩).mono ?_
   rintro e s ⟨rfl, t3, rfl, hl3⟩
   exact ⟨rfl, t3, rfl, hl3⟩
 ·rintro e s ⟨rfl, t4, rfl, hl4⟩
  refine (path2 [4] (e := .ret) (vals := [.bool true]) (h' := [anC x, anC x]) (ds := [.b false]) (cs := [cB (decide ((0 : Int) < 0)) false]) hl4 (fun t0 => by kernel_rfl) ⟨cF (by omega), trivial⟩).mono ?_
  rintro e s ⟨rfl, t5, rfl, hl5⟩
  exact ⟨rfl, rfl, hl5.get _ (List.mem_singleton.2 rfl), rfl⟩
end
abbrev okX24 (x : List (List Val)) : Prop := x.length ≤ 9223372036854775807 ∧ ∀ r ∈ x, r.length ≤ 9223372036854775807
abbrev enX24 (x : List (List Val)) : List AV := [anV x, anV x]
theorem s24_ok : GOk Try.prog 48 (pureG (gOf okX24 enX24 fun _ => .bool true)) :=
 gOf_ok ⟨_, Try.func48, by kernel_rfl, by kernel_rfl⟩ fun a ha => pureS_cl K6 (same24 (Γ := G6) (by kernel_rfl) (by kernel_rfl) ha.1 ha.2) (by kernel_rfl) rfl
noncomputable def gam7 : List (Nat × GF) := (48, pureG (gOf okX24 enX24 fun _ => .bool true)) :: gam6
theorem K7 : Known (gGet gam7) tree.get Try.prog := known_of (by kernel_rfl) ⟨s24_ok, g35_ok, bytes_ok, row_ok, read_ok, tail_ok, code_ok, cmp_ok, fit_ok, g17_ok, good_ok, trivial⟩ all
noncomputable abbrev G7 : FuncId → Option GF := gGet gam7
theorem clo_anV (x : List (List Val)) : clo (anV x) = true := by simp [anV, clo, cloL, bV, cloL_map clo_rV x]
theorem same7 {x : List (List Val)} (h1 : x.length ≤ 9223372036854775807) (h2 : ∀ r ∈ x, r.length ≤ 9223372036854775807) (h : List Blk) : Cl G7 T 48 [anV x, anV x] h (.bool true, h, none) :=
 Cl.pure (g := gOf okX24 enX24 fun _ => .bool true) (by kernel_rfl) (gOf_eq (a := x) (fun _ _ _ _ _ => rfl) ⟨h1, h2⟩) (by simp [cloL, clo_anV]) rfl h
abbrev dbC (l : List (List (List Val))) : Blk := .cells [.nils, .nils, sV l, .bool false]
theorem same_cl {l : List (List (List Val))} (ok : OkT l) : ∃ h', Cl G7 T 11 [sV l, sV l] [] (.bool true, h', none) := by
 have hll := ok.len
 have ht : Cl G7 T 29 [.ptr 0 0, .ptr 1 0] [dbC l, dbC l] (.bool true, [dbC l, dbC l], none) := by
  suffices hw : Wp G7 T a29.body { t := [.ptr 0 0, .ptr 1 0] ++ List.replicate 42 (.tup []), h := [dbC l, dbC l] } (fun e s' => e = .ret ∧ s'.lo = none ∧ getX s'.t 4 = .bool true ∧ s'.h = [dbC l, dbC l]) by
   obtain ⟨q, h', ⟨rfl, rfl⟩, hc⟩ := Cl.slot (Γ := G7) (tbl := T) (af := a29) (args := [.ptr 0 0, .ptr 1 0]) (h := [dbC l, dbC l]) (by kernel_rfl) (by kernel_rfl) rfl rfl (fun q h' => q = .bool true ∧ h' = [dbC l, dbC l]) hw
   exact hc
  refine Wp.seq ?_
  refine (path2 (nt := 44) (live := [(0, .ptr 0 0), (1, .ptr 1 0)]) [0, 1] (e := .normal) (vals := [.ptr 0 0, .ptr 1 0]) (h' := [dbC l, dbC l]) (ds := []) (cs := []) ⟨by simp, by simp [getX_eq]⟩ (fun t0 => by kernel_rfl) trivial).mono ?_
  rintro e s ⟨rfl, t1, rfl, hl1⟩
  refine Wp.seq ?_
  refine (path2 [0, 1] (e := .normal) (vals := [.ptr 0 0, .ptr 1 0]) (h' := [dbC l, dbC l]) (ds := [.b false]) (cs := [cB (((l.map bV).length : Int) != ((l.map bV).length : Int)) false]) hl1 (fun t0 => by kernel_rfl) ⟨cS rfl, trivial⟩).mono ?_
  rintro e s ⟨rfl, t2, rfl, hl2⟩
  refine Wp.seq (Wp.seq ?_)
  refine (path2 [0, 1, 5] (e := .normal) (vals := [.ptr 0 0, .ptr 1 0, .int .i64 0]) (h' := [dbC l, dbC l]) (ds := []) (cs := []) hl2 (fun t0 => by kernel_rfl) trivial).mono ?_
  rintro e s ⟨rfl, t3, rfl, hl3⟩
  refine Wp.block ?_
  refine (Wp.loop (Q := fun e s => e = .exit 0 ∧ ∃ t, s = { t := t, h := [dbC l, dbC l], lo := none } ∧ t.length = 44) (fun k s => ∃ (i : Nat) (t1 : List AV), s = { t := t1, h := [dbC l, dbC l], lo := none } ∧ k = l.length - i ∧ i ≤ l.length ∧ Lv 44 [(0, .ptr 0 0), (1, .ptr 1 0), (5, .int .i64 (i : Int))] t1) ?_ l.length _ ⟨0, t3, rfl, by omega, by omega, hl3⟩).mono ?_
  ·rintro k s ⟨i, t1, rfl, rfl, hi, hl⟩
   by_cases hlt : i < l.length
   ·have e1 := List.getElem?_eq_getElem hlt
    have hxm : l[i] ∈ l := List.getElem_mem hlt
    generalize l[i] = x at e1 hxm
    have g1 : (i : Int) < ((l.map bV).length : Int) := by simp; omega
    have g2 : (l.map bV)[(i : Int).toNat]? = some (bV x) := by simp [e1]
    refine (path2 [0, 1, 5] (e := .normal) (vals := [.ptr 0 0, .ptr 1 0, .int .i64 (IntKind.i64.wrap ((i : Int) + 1))]) (h' := [dbC l, dbC l]) (ds := [.b true, .v (bV x), .v (bV x), .r (.bool true) [dbC l, dbC l] none]) (cs := [cB (decide ((i : Int) < ((l.map bV).length : Int))) true, 1 = 1, 0 ≤ (i : Int), (i : Int) < ((l.map bV).length : Int), (l.map bV)[(i : Int).toNat]? = some (bV x), 1 = 1, 0 ≤ (i : Int), (i : Int) < ((l.map bV).length : Int), (l.map bV)[(i : Int).toNat]? = some (bV x), Cl G7 T 48 [anV x, anV x] [dbC l, dbC l] (.bool true, [dbC l, dbC l], none)]) hl (fun t0 => by kernel_rfl) ⟨cT g1, rfl, by omega, g1, g2, rfl, by omega, g1, g2, same7 (ok.rl x hxm) (ok.vl x hxm) _, trivial⟩).mono ?_
    rintro e s ⟨rfl, t3, rfl, hl3⟩
    rw [i64_succ (by omega) (by omega)] at hl3
    exact ⟨l.length - (i + 1), by omega, i + 1, t3, rfl, rfl, by omega, hl3⟩
   ·refine (path2 [0] (e := .exit 0) (vals := [.ptr 0 0]) (h' := [dbC l, dbC l]) (ds := [.b false]) (cs := [cB (decide ((i : Int) < ((l.map bV).length : Int))) false]) hl (fun t0 => by kernel_rfl) ⟨cF (by simp; omega), trivial⟩).mono ?_
    rintro e s ⟨rfl, t3, rfl, hl3⟩
    exact ⟨rfl, t3, rfl, hl3.len⟩
  ·rintro e s ⟨rfl, t4, rfl, hl4⟩
   refine (path2 (nt := 44) (live := []) [4] (e := .ret) (vals := [.bool true]) (h' := [dbC l, dbC l]) (ds := []) (cs := []) ⟨hl4, by simp⟩ (fun t0 => by kernel_rfl) trivial).mono ?_
   rintro e s ⟨rfl, t5, rfl, hl5⟩
   exact ⟨rfl, rfl, hl5.get _ (List.mem_singleton.2 rfl), rfl⟩
 exact ⟨_, clPath (h' := [dbC l, dbC l]) (af := a11) (ds := [.r (.bool true) [dbC l, dbC l] none]) [Cl G7 T 29 [.ptr 0 0, .ptr 1 0] [dbC l, dbC l] (.bool true, [dbC l, dbC l], none)] (by kernel_rfl) (by kernel_rfl) rfl (by kernel_rfl) ⟨ht, trivial⟩⟩
open Go
def BdR (r : List Val) : Prop := r.length ≤ 8 ∧ ∀ v ∈ r, v.2.2.length ≤ 60
def BdX (x : List (List Val)) : Prop := x.length ≤ 60 ∧ ∀ r ∈ x, BdR r
def Bd (l : List (List (List Val))) : Prop := l.length ≤ 6 ∧ ∀ x ∈ l, BdX x
abbrev bGr : ACode := a5.body
def W1 : ACode := lp (blk (tl (hd (tl (tl bGr)))))
def W2 : ACode := lp (blk (tl (hd (tl (tl (tl bGr))))))
def W3 : ACode := lp (blk (tl (hd (tl (tl (tl (tl bGr)))))))
def W4 : ACode := lp (blk (tl (tl (blk (hd (tl W3))))))
def W5 : ACode := lp (blk (tl (tl (blk (hd (tl W4))))))
def QT1 (e : AExit) (s : St) : Prop := e = .ret ∧ s.lo = none ∧ getX s.t 4 = .bool true
theorem QT1_of {t : List AV} {h : List Blk} (hl : Lv 110 [(4, .bool true)] t) : QT1 .ret { t := t, h := h, lo := none } := ⟨rfl, rfl, hl.get _ (List.mem_singleton.2 rfl)⟩
theorem all_step {α : Type} {p : α → Prop} {l : List α} {i : Nat} {a : α} (h : ∀ j b, j < i → l[j]? = some b → p b) (he : l[i]? = some a) (ha : p a) : ∀ j b, j < i + 1 → l[j]? = some b → p b := fun j b hj hb => by
 by_cases hji : j = i
 ·subst hji; rw [he] at hb; cases hb; exact ha
 ·exact h j b (by omega) hb
theorem all_end {α : Type} {p : α → Prop} {l : List α} {i : Nat} (h : ∀ j b, j < i → l[j]? = some b → p b) (hi : l.length ≤ i) : ∀ b ∈ l, p b := fun b hb => by
 obtain ⟨j, hj, rfl⟩ := List.getElem_of_mem hb
 exact h j _ (by omega) (List.getElem?_eq_getElem hj)
section
variable {T : List (List Int)} {V : List Vw} {l : List (List (List Val))}
theorem w1_ok (hT : T.length ≤ 9223372036854775807) {vs : AV} {t0 : List AV} (hlv : Lv 110 [(1, sV l), (2, .ptr 0 0), (5, .int .i64 0)] t0) :
  Wp G7 Ax.T (.loop W1) { t := t0, h := [pH T vs], lo := none } fun e s => QT1 e s ∨ (e = .exit 0 ∧ ∃ t2, s = { t := t2, h := [pH T vs], lo := none } ∧ Lv 110 [(1, sV l), (2, .ptr 0 0)] t2) := by
 refine Wp.loop (fun k s => ∃ (i : Nat) (t1 : List AV), s = { t := t1, h := [pH T vs], lo := none } ∧ k = T.length - i ∧ i ≤ T.length ∧ Lv 110 [(1, sV l), (2, .ptr 0 0), (5, .int .i64 (i : Int))] t1) ?_ T.length _ ⟨0, t0, rfl, by omega, by omega, hlv⟩
 rintro k s ⟨i, t1, rfl, rfl, hi, hl⟩
 by_cases hlt : i < T.length
 ·have e1 := List.getElem?_eq_getElem hlt
  generalize T[i] = c at e1
  have g1 : (i : Int) < ((T.map tV).length : Int) := by simp; omega
  have g2 : (T.map tV)[(i : Int).toNat]? = some (tV c) := by simp [e1]
  by_cases d1 : ((c.map iV).length : Int) > 10
  ·refine (path2 [4] (e := .ret) (vals := [.bool true]) (h' := [pH T vs]) (ds := [.b true, .v (tV c), .b true]) (cs := [cB (decide ((i : Int) < ((T.map tV).length : Int))) true, 1 = 1, 0 ≤ (i : Int), (i : Int) < ((T.map tV).length : Int), (T.map tV)[(i : Int).toNat]? = some (tV c), cB (decide (((c.map iV).length : Int) > 10)) true]) hl (fun t0 => by kernel_rfl) ⟨cT g1, rfl, by omega, g1, g2, cT d1, trivial⟩).mono ?_
   rintro e s ⟨rfl, t3, rfl, hl3⟩
   exact .inl (QT1_of hl3)
  ·refine (path2 [1, 2, 5] (e := .normal) (vals := [sV l, .ptr 0 0, .int .i64 (IntKind.i64.wrap ((i : Int) + 1))]) (h' := [pH T vs]) (ds := [.b true, .v (tV c), .b false]) (cs := [cB (decide ((i : Int) < ((T.map tV).length : Int))) true, 1 = 1, 0 ≤ (i : Int), (i : Int) < ((T.map tV).length : Int), (T.map tV)[(i : Int).toNat]? = some (tV c), cB (decide (((c.map iV).length : Int) > 10)) false]) hl (fun t0 => by kernel_rfl) ⟨cT g1, rfl, by omega, g1, g2, cF d1, trivial⟩).mono ?_
   rintro e s ⟨rfl, t3, rfl, hl3⟩
   rw [i64_succ (by omega) (by omega)] at hl3
   exact ⟨T.length - (i + 1), by omega, i + 1, t3, rfl, rfl, by omega, hl3⟩
 ·refine (path2 [1, 2] (e := .exit 0) (vals := [sV l, .ptr 0 0]) (h' := [pH T vs]) (ds := [.b false]) (cs := [cB (decide ((i : Int) < ((T.map tV).length : Int))) false]) hl (fun t0 => by kernel_rfl) ⟨cF (by simp; omega), trivial⟩).mono ?_
  rintro e s ⟨rfl, t3, rfl, hl3⟩
  exact .inr ⟨rfl, t3, rfl, hl3⟩
theorem w2_ok (hV : V.length ≤ 9223372036854775807) {t0 : List AV} (hlv : Lv 110 [(1, sV l), (2, .ptr 0 0), (6, .int .i64 0)] t0) :
  Wp G7 Ax.T (.loop W2) { t := t0, h := [pH T (vsV V)], lo := none } fun e s => QT1 e s ∨ (e = .exit 2 ∧ ∃ t2, s = { t := t2, h := [pH T (vsV V)], lo := none } ∧ Lv 110 [(1, sV l), (2, .ptr 0 0)] t2) := by
 refine Wp.loop (fun k s => ∃ (i : Nat) (t1 : List AV), s = { t := t1, h := [pH T (vsV V)], lo := none } ∧ k = V.length - i ∧ i ≤ V.length ∧ Lv 110 [(1, sV l), (2, .ptr 0 0), (6, .int .i64 (i : Int))] t1) ?_ V.length _ ⟨0, t0, rfl, by omega, by omega, hlv⟩
 rintro k s ⟨i, t1, rfl, rfl, hi, hl⟩
 by_cases hlt : i < V.length
 ·have e1 := List.getElem?_eq_getElem hlt
  generalize V[i] = c at e1
  have g1 : (i : Int) < ((V.map wV).length : Int) := by simp; omega
  have g2 : (V.map wV)[(i : Int).toNat]? = some (wV c) := by simp [e1]
  by_cases d1 : ((c.2.2.map iV).length : Int) > 10
  ·refine (path2 [4] (e := .ret) (vals := [.bool true]) (h' := [pH T (vsV V)]) (ds := [.b true, .v (wV c), .b true]) (cs := [cB (decide ((i : Int) < ((V.map wV).length : Int))) true, 3 = 3, 0 ≤ (i : Int), (i : Int) < ((V.map wV).length : Int), (V.map wV)[(i : Int).toNat]? = some (wV c), cB (decide (((c.2.2.map iV).length : Int) > 10)) true]) hl (fun t0 => by kernel_rfl) ⟨cT g1, rfl, by omega, g1, g2, cT d1, trivial⟩).mono ?_
   rintro e s ⟨rfl, t3, rfl, hl3⟩
   exact .inl (QT1_of hl3)
  ·refine (path2 [1, 2, 6] (e := .normal) (vals := [sV l, .ptr 0 0, .int .i64 (IntKind.i64.wrap ((i : Int) + 1))]) (h' := [pH T (vsV V)]) (ds := [.b true, .v (wV c), .b false]) (cs := [cB (decide ((i : Int) < ((V.map wV).length : Int))) true, 3 = 3, 0 ≤ (i : Int), (i : Int) < ((V.map wV).length : Int), (V.map wV)[(i : Int).toNat]? = some (wV c), cB (decide (((c.2.2.map iV).length : Int) > 10)) false]) hl (fun t0 => by kernel_rfl) ⟨cT g1, rfl, by omega, g1, g2, cF d1, trivial⟩).mono ?_
   rintro e s ⟨rfl, t3, rfl, hl3⟩
   rw [i64_succ (by omega) (by omega)] at hl3
   exact ⟨V.length - (i + 1), by omega, i + 1, t3, rfl, rfl, by omega, hl3⟩
 ·refine (path2 [1, 2] (e := .exit 2) (vals := [sV l, .ptr 0 0]) (h' := [pH T (vsV V)]) (ds := [.b false]) (cs := [cB (decide ((i : Int) < ((V.map wV).length : Int))) false]) hl (fun t0 => by kernel_rfl) ⟨cF (by simp; omega), trivial⟩).mono ?_
  rintro e s ⟨rfl, t3, rfl, hl3⟩
  exact .inr ⟨rfl, t3, rfl, hl3⟩
variable {H : List Blk} {t i : Nat} {x : List (List Val)} {r : List Val}
theorem w5_ok (ht : l[t]? = some x) (hi : x[i]? = some r) (hr : r.length ≤ 8) {t0 : List AV} (hlv : Lv 110 [(1, sV l), (7, .int .i64 (t : Int)), (8, .int .i64 (i : Int)), (9, .int .i64 0)] t0) :
  Wp G7 Ax.T (.loop W5) { t := t0, h := H, lo := none } fun e s => QT1 e s ∨ (e = .exit 8 ∧ BdR r ∧ ∃ t2, s = { t := t2, h := H, lo := none } ∧ Lv 110 [(1, sV l), (7, .int .i64 (t : Int)), (8, .int .i64 (i : Int))] t2) := by
 have htl : t < l.length := (List.getElem?_eq_some_iff.1 ht).1
 have hil : i < x.length := (List.getElem?_eq_some_iff.1 hi).1
 have k1 : (t : Int) < ((l.map bV).length : Int) := by simp; omega
 have k2 : (l.map bV)[(t : Int).toNat]? = some (bV x) := by simp [ht]
 have k3 : (i : Int) < ((x.map rV).length : Int) := by simp; omega
 have k4 : (x.map rV)[(i : Int).toNat]? = some (rV r) := by simp [hi]
 refine Wp.loop (fun k s => ∃ (j : Nat) (t1 : List AV), s = { t := t1, h := H, lo := none } ∧ k = r.length - j ∧ j ≤ r.length ∧ Lv 110 [(1, sV l), (7, .int .i64 (t : Int)), (8, .int .i64 (i : Int)), (9, .int .i64 (j : Int))] t1 ∧ ∀ m v, m < j → r[m]? = some v → v.2.2.length ≤ 60) ?_ r.length _ ⟨0, t0, rfl, by omega, by omega, hlv, fun m v hm => by omega⟩
 rintro k s ⟨j, t1, rfl, rfl, hj, hl, hA⟩
 by_cases hlt : j < r.length
 ·have e1 := List.getElem?_eq_getElem hlt
  generalize r[j] = v at e1
  have k5 : (j : Int) < ((r.map vV).length : Int) := by simp; omega
  have k6 : (r.map vV)[(j : Int).toNat]? = some (vV v) := by simp [e1]
  by_cases d1 : (v.2.2.length : Int) > 60
  ·refine (path2 [4] (e := .ret) (vals := [.bool true]) (h' := H) (ds := [.v (bV x), .v (rV r), .b true, .v (bV x), .v (rV r), .v (vV v), .b true]) (cs := [1 = 1, 0 ≤ (t : Int), (t : Int) < ((l.map bV).length : Int), (l.map bV)[(t : Int).toNat]? = some (bV x), 1 = 1, 0 ≤ (i : Int), (i : Int) < ((x.map rV).length : Int), (x.map rV)[(i : Int).toNat]? = some (rV r), cB (decide ((j : Int) < ((r.map vV).length : Int))) true, 1 = 1, 0 ≤ (t : Int), (t : Int) < ((l.map bV).length : Int), (l.map bV)[(t : Int).toNat]? = some (bV x), 1 = 1, 0 ≤ (i : Int), (i : Int) < ((x.map rV).length : Int), (x.map rV)[(i : Int).toNat]? = some (rV r), 3 = 3, 0 ≤ (j : Int), (j : Int) < ((r.map vV).length : Int), (r.map vV)[(j : Int).toNat]? = some (vV v), cB (decide ((v.2.2.length : Int) > 60)) true]) hl (fun t0 => by kernel_rfl)
    ⟨rfl, by omega, k1, k2, rfl, by omega, k3, k4, cT k5, rfl, by omega, k1, k2, rfl, by omega, k3, k4, rfl, by omega, k5, k6, cT d1, trivial⟩).mono ?_
   rintro e s ⟨rfl, t3, rfl, hl3⟩
   exact .inl (QT1_of hl3)
  ·refine (path2 [1, 7, 8, 9] (e := .normal) (vals := [sV l, .int .i64 (t : Int), .int .i64 (i : Int), .int .i64 (IntKind.i64.wrap ((j : Int) + 1))]) (h' := H) (ds := [.v (bV x), .v (rV r), .b true, .v (bV x), .v (rV r), .v (vV v), .b false]) (cs := [1 = 1, 0 ≤ (t : Int), (t : Int) < ((l.map bV).length : Int), (l.map bV)[(t : Int).toNat]? = some (bV x), 1 = 1, 0 ≤ (i : Int), (i : Int) < ((x.map rV).length : Int), (x.map rV)[(i : Int).toNat]? = some (rV r), cB (decide ((j : Int) < ((r.map vV).length : Int))) true, 1 = 1, 0 ≤ (t : Int), (t : Int) < ((l.map bV).length : Int), (l.map bV)[(t : Int).toNat]? = some (bV x), 1 = 1, 0 ≤ (i : Int), (i : Int) < ((x.map rV).length : Int), (x.map rV)[(i : Int).toNat]? = some (rV r), 3 = 3, 0 ≤ (j : Int), (j : Int) < ((r.map vV).length : Int), (r.map vV)[(j : Int).toNat]? = some (vV v), cB (decide ((v.2.2.length : Int) > 60)) false]) hl (fun t0 => by kernel_rfl)
    ⟨rfl, by omega, k1, k2, rfl, by omega, k3, k4, cT k5, rfl, by omega, k1, k2, rfl, by omega, k3, k4, rfl, by omega, k5, k6, cF d1, trivial⟩).mono ?_
   rintro e s ⟨rfl, t3, rfl, hl3⟩
   rw [i64_succ (by omega) (by omega)] at hl3
   exact ⟨r.length - (j + 1), by omega, j + 1, t3, rfl, rfl, by omega, hl3, all_step hA e1 (by omega)⟩
 ·refine (path2 [1, 7, 8] (e := .exit 8) (vals := [sV l, .int .i64 (t : Int), .int .i64 (i : Int)]) (h' := H) (ds := [.v (bV x), .v (rV r), .b false]) (cs := [1 = 1, 0 ≤ (t : Int), (t : Int) < ((l.map bV).length : Int), (l.map bV)[(t : Int).toNat]? = some (bV x), 1 = 1, 0 ≤ (i : Int), (i : Int) < ((x.map rV).length : Int), (x.map rV)[(i : Int).toNat]? = some (rV r), cB (decide ((j : Int) < ((r.map vV).length : Int))) false]) hl (fun t0 => by kernel_rfl) ⟨rfl, by omega, k1, k2, rfl, by omega, k3, k4, cF (by simp; omega), trivial⟩).mono ?_
  rintro e s ⟨rfl, t3, rfl, hl3⟩
  exact .inr ⟨rfl, ⟨hr, all_end hA (by omega)⟩, t3, rfl, hl3⟩
theorem w4_ok (ht : l[t]? = some x) (hx : x.length ≤ 60) {t0 : List AV} (hlv : Lv 110 [(1, sV l), (7, .int .i64 (t : Int)), (8, .int .i64 0)] t0) :
  Wp G7 Ax.T (.loop W4) { t := t0, h := H, lo := none } fun e s => QT1 e s ∨ (e = .exit 6 ∧ BdX x ∧ ∃ t2, s = { t := t2, h := H, lo := none } ∧ Lv 110 [(1, sV l), (7, .int .i64 (t : Int))] t2) := by
 have htl : t < l.length := (List.getElem?_eq_some_iff.1 ht).1
 have k1 : (t : Int) < ((l.map bV).length : Int) := by simp; omega
 have k2 : (l.map bV)[(t : Int).toNat]? = some (bV x) := by simp [ht]
 refine Wp.loop (fun k s => ∃ (i : Nat) (t1 : List AV), s = { t := t1, h := H, lo := none } ∧ k = x.length - i ∧ i ≤ x.length ∧ Lv 110 [(1, sV l), (7, .int .i64 (t : Int)), (8, .int .i64 (i : Int))] t1 ∧ ∀ m r, m < i → x[m]? = some r → BdR r) ?_ x.length _ ⟨0, t0, rfl, by omega, by omega, hlv, fun m v hm => by omega⟩
 rintro k s ⟨i, t1, rfl, rfl, hi, hl, hA⟩
 refine Wp.seq ?_
 by_cases hlt : i < x.length
 ·have e1 := List.getElem?_eq_getElem hlt
  generalize x[i] = r at e1
  have k3 : (i : Int) < ((x.map rV).length : Int) := by simp; omega
  have k4 : (x.map rV)[(i : Int).toNat]? = some (rV r) := by simp [e1]
  refine (path2 [1, 7, 8] (e := .normal) (vals := [sV l, .int .i64 (t : Int), .int .i64 (i : Int)]) (h' := H) (ds := [.v (bV x), .b true]) (cs := [1 = 1, 0 ≤ (t : Int), (t : Int) < ((l.map bV).length : Int), (l.map bV)[(t : Int).toNat]? = some (bV x), cB (decide ((i : Int) < ((x.map rV).length : Int))) true]) hl (fun t0 => by kernel_rfl) ⟨rfl, by omega, k1, k2, cT k3, trivial⟩).mono ?_
  rintro e s ⟨rfl, t2, rfl, hl2⟩
  refine Wp.seq (Wp.block (Wp.seq ?_))
  by_cases d1 : ((r.map vV).length : Int) > 8
  ·refine (path2 [4] (e := .ret) (vals := [.bool true]) (h' := H) (ds := [.v (bV x), .v (rV r), .b true]) (cs := [1 = 1, 0 ≤ (t : Int), (t : Int) < ((l.map bV).length : Int), (l.map bV)[(t : Int).toNat]? = some (bV x), 1 = 1, 0 ≤ (i : Int), (i : Int) < ((x.map rV).length : Int), (x.map rV)[(i : Int).toNat]? = some (rV r), cB (decide (((r.map vV).length : Int) > 8)) true]) hl2 (fun t0 => by kernel_rfl) ⟨rfl, by omega, k1, k2, rfl, by omega, k3, k4, cT d1, trivial⟩).mono ?_
   rintro e s ⟨rfl, t3, rfl, hl3⟩
   exact .inl (QT1_of hl3)
  ·refine (path2 [1, 7, 8] (e := .normal) (vals := [sV l, .int .i64 (t : Int), .int .i64 (i : Int)]) (h' := H) (ds := [.v (bV x), .v (rV r), .b false]) (cs := [1 = 1, 0 ≤ (t : Int), (t : Int) < ((l.map bV).length : Int), (l.map bV)[(t : Int).toNat]? = some (bV x), 1 = 1, 0 ≤ (i : Int), (i : Int) < ((x.map rV).length : Int), (x.map rV)[(i : Int).toNat]? = some (rV r), cB (decide (((r.map vV).length : Int) > 8)) false]) hl2 (fun t0 => by kernel_rfl) ⟨rfl, by omega, k1, k2, rfl, by omega, k3, k4, cF d1, trivial⟩).mono ?_
   rintro e s ⟨rfl, t3, rfl, hl3⟩
   refine Wp.seq ?_
   refine (path2 [1, 7, 8, 9] (e := .normal) (vals := [sV l, .int .i64 (t : Int), .int .i64 (i : Int), .int .i64 0]) (h' := H) (ds := []) (cs := []) hl3 (fun t0 => by kernel_rfl) trivial).mono ?_
   rintro e s ⟨rfl, t4, rfl, hl4⟩
   refine Wp.block ?_
   refine (w5_ok ht e1 (by simp at d1; omega) hl4).mono ?_
   rintro e s (⟨rfl, h1⟩ | ⟨rfl, h1, t5, rfl, hl5⟩)
   ·exact .inl ⟨rfl, h1⟩
   ·refine (path2 [1, 7, 8] (e := .normal) (vals := [sV l, .int .i64 (t : Int), .int .i64 (IntKind.i64.wrap ((i : Int) + 1))]) (h' := H) (ds := []) (cs := []) hl5 (fun t0 => by kernel_rfl) trivial).mono ?_
    rintro e s ⟨rfl, t6, rfl, hl6⟩
    rw [i64_succ (by omega) (by omega)] at hl6
    exact ⟨x.length - (i + 1), by omega, i + 1, t6, rfl, rfl, by omega, hl6, all_step hA e1 h1⟩
 ·refine (path2 [1, 7] (e := .exit 6) (vals := [sV l, .int .i64 (t : Int)]) (h' := H) (ds := [.v (bV x), .b false]) (cs := [1 = 1, 0 ≤ (t : Int), (t : Int) < ((l.map bV).length : Int), (l.map bV)[(t : Int).toNat]? = some (bV x), cB (decide ((i : Int) < ((x.map rV).length : Int))) false]) hl (fun t0 => by kernel_rfl) ⟨rfl, by omega, k1, k2, cF (by simp; omega), trivial⟩).mono ?_
  rintro e s ⟨rfl, t3, rfl, hl3⟩
  exact .inr ⟨rfl, ⟨hx, all_end hA (by omega)⟩, t3, rfl, hl3⟩
theorem w3_ok (hll : l.length ≤ 6) {t0 : List AV} (hlv : Lv 110 [(1, sV l), (7, .int .i64 0)] t0) :
  Wp G7 Ax.T (.loop W3) { t := t0, h := H, lo := none } fun e s => QT1 e s ∨ (e = .exit 4 ∧ Bd l ∧ ∃ t2, s = { t := t2, h := H, lo := none } ∧ t2.length = 110) := by
 refine Wp.loop (fun k s => ∃ (t : Nat) (t1 : List AV), s = { t := t1, h := H, lo := none } ∧ k = l.length - t ∧ t ≤ l.length ∧ Lv 110 [(1, sV l), (7, .int .i64 (t : Int))] t1 ∧ ∀ m x, m < t → l[m]? = some x → BdX x) ?_ l.length _ ⟨0, t0, rfl, by omega, by omega, hlv, fun m v hm => by omega⟩
 rintro k s ⟨t, t1, rfl, rfl, hi, hl, hA⟩
 refine Wp.seq ?_
 by_cases hlt : t < l.length
 ·have e1 := List.getElem?_eq_getElem hlt
  generalize l[t] = x at e1
  have k1 : (t : Int) < ((l.map bV).length : Int) := by simp; omega
  have k2 : (l.map bV)[(t : Int).toNat]? = some (bV x) := by simp [e1]
  refine (path2 [1, 7] (e := .normal) (vals := [sV l, .int .i64 (t : Int)]) (h' := H) (ds := [.b true]) (cs := [cB (decide ((t : Int) < ((l.map bV).length : Int))) true]) hl (fun t0 => by kernel_rfl) ⟨cT k1, trivial⟩).mono ?_
  rintro e s ⟨rfl, t2, rfl, hl2⟩
  refine Wp.seq (Wp.block (Wp.seq ?_))
  by_cases d1 : ((x.map rV).length : Int) > 60
  ·refine (path2 [4] (e := .ret) (vals := [.bool true]) (h' := H) (ds := [.v (bV x), .b true]) (cs := [1 = 1, 0 ≤ (t : Int), (t : Int) < ((l.map bV).length : Int), (l.map bV)[(t : Int).toNat]? = some (bV x), cB (decide (((x.map rV).length : Int) > 60)) true]) hl2 (fun t0 => by kernel_rfl) ⟨rfl, by omega, k1, k2, cT d1, trivial⟩).mono ?_
   rintro e s ⟨rfl, t3, rfl, hl3⟩
   exact .inl (QT1_of hl3)
  ·refine (path2 [1, 7] (e := .normal) (vals := [sV l, .int .i64 (t : Int)]) (h' := H) (ds := [.v (bV x), .b false]) (cs := [1 = 1, 0 ≤ (t : Int), (t : Int) < ((l.map bV).length : Int), (l.map bV)[(t : Int).toNat]? = some (bV x), cB (decide (((x.map rV).length : Int) > 60)) false]) hl2 (fun t0 => by kernel_rfl) ⟨rfl, by omega, k1, k2, cF d1, trivial⟩).mono ?_
   rintro e s ⟨rfl, t3, rfl, hl3⟩
   refine Wp.seq ?_
   refine (path2 [1, 7, 8] (e := .normal) (vals := [sV l, .int .i64 (t : Int), .int .i64 0]) (h' := H) (ds := []) (cs := []) hl3 (fun t0 => by kernel_rfl) trivial).mono ?_
   rintro e s ⟨rfl, t4, rfl, hl4⟩
   refine Wp.block ?_
   refine (w4_ok e1 (by simp at d1; omega) hl4).mono ?_
   rintro e s (⟨rfl, h1⟩ | ⟨rfl, h1, t5, rfl, hl5⟩)
   ·exact .inl ⟨rfl, h1⟩
   ·refine (path2 [1, 7] (e := .normal) (vals := [sV l, .int .i64 (IntKind.i64.wrap ((t : Int) + 1))]) (h' := H) (ds := []) (cs := []) hl5 (fun t0 => by kernel_rfl) trivial).mono ?_
    rintro e s ⟨rfl, t6, rfl, hl6⟩
    rw [i64_succ (by omega) (by omega)] at hl6
    exact ⟨l.length - (t + 1), by omega, t + 1, t6, rfl, rfl, by omega, hl6, all_step hA e1 h1⟩
 ·refine (path2 [1] (e := .exit 4) (vals := [sV l]) (h' := H) (ds := [.b false]) (cs := [cB (decide ((t : Int) < ((l.map bV).length : Int))) false]) hl (fun t0 => by kernel_rfl) ⟨cF (by simp; omega), trivial⟩).mono ?_
  rintro e s ⟨rfl, t3, rfl, hl3⟩
  exact .inr ⟨rfl, ⟨hll, all_end hA (by omega)⟩, t3, rfl, hl3.len⟩
theorem great_cl (okp : OkP T V) (ok : OkT l) : ∃ b h', Cl G7 Ax.T 5 [pA T (vsV V), sV l] [] (.bool b, h', none) ∧ (b = false → Bd l) := by
 suffices hw : Wp G7 Ax.T bGr { t := [pA T (vsV V), sV l] ++ List.replicate 108 (.tup []), h := [] } (fun e s => e = .ret ∧ s.lo = none ∧ ∃ b, getX s.t 4 = .bool b ∧ (b = false → Bd l)) by
  obtain ⟨r, h', ⟨b, rfl, hb⟩, hc⟩ := Cl.slot (Γ := G7) (tbl := Ax.T) (af := a5) (args := [pA T (vsV V), sV l]) (h := []) (by kernel_rfl) (by kernel_rfl) rfl rfl (fun r h' => ∃ b, r = .bool b ∧ (b = false → Bd l)) hw
  exact ⟨b, h', hc, hb⟩
 have tr : ∀ {e s}, QT1 e s → (e = .ret ∧ s.lo = none ∧ ∃ b, getX s.t 4 = .bool b ∧ (b = false → Bd l)) := fun h => ⟨h.1, h.2.1, true, h.2.2, fun hb => by cases hb⟩
 refine Wp.seq ?_
 refine (path2 (nt := 110) (live := [(0, pA T (vsV V)), (1, sV l)]) [1, 2] (e := .normal) (vals := [sV l, .ptr 0 0]) (h' := [pH T (vsV V)]) (ds := []) (cs := []) ⟨by simp, by simp [getX_eq]⟩ (fun t0 => by kernel_rfl) trivial).mono ?_
 rintro e s ⟨rfl, t1, rfl, hl1⟩
 refine Wp.seq ?_
 by_cases d1 : ((T.map tV).length : Int) > 6
 ·refine (path2 [4] (e := .ret) (vals := [.bool true]) (h' := [pH T (vsV V)]) (ds := [.b true]) (cs := [cB (decide (((T.map tV).length : Int) > 6)) true]) hl1 (fun t0 => by kernel_rfl) ⟨cT d1, trivial⟩).mono ?_
  rintro e s ⟨rfl, t3, rfl, hl3⟩
  exact tr (QT1_of hl3)
 by_cases d2 : ((V.map wV).length : Int) > 8
 ·refine (path2 [4] (e := .ret) (vals := [.bool true]) (h' := [pH T (vsV V)]) (ds := [.b false, .b true]) (cs := [cB (decide (((T.map tV).length : Int) > 6)) false, cB (decide (((V.map wV).length : Int) > 8)) true]) hl1 (fun t0 => by kernel_rfl) ⟨cF d1, cT d2, trivial⟩).mono ?_
  rintro e s ⟨rfl, t3, rfl, hl3⟩
  exact tr (QT1_of hl3)
 by_cases d3 : ((l.map bV).length : Int) > 6
 ·refine (path2 [4] (e := .ret) (vals := [.bool true]) (h' := [pH T (vsV V)]) (ds := [.b false, .b false, .b true]) (cs := [cB (decide (((T.map tV).length : Int) > 6)) false, cB (decide (((V.map wV).length : Int) > 8)) false, cB (decide (((l.map bV).length : Int) > 6)) true]) hl1 (fun t0 => by kernel_rfl) ⟨cF d1, cF d2, cT d3, trivial⟩).mono ?_
  rintro e s ⟨rfl, t3, rfl, hl3⟩
  exact tr (QT1_of hl3)
 refine (path2 [1, 2] (e := .normal) (vals := [sV l, .ptr 0 0]) (h' := [pH T (vsV V)]) (ds := [.b false, .b false, .b false]) (cs := [cB (decide (((T.map tV).length : Int) > 6)) false, cB (decide (((V.map wV).length : Int) > 8)) false, cB (decide (((l.map bV).length : Int) > 6)) false]) hl1 (fun t0 => by kernel_rfl) ⟨cF d1, cF d2, cF d3, trivial⟩).mono ?_
 rintro e s ⟨rfl, t2, rfl, hl2⟩
 refine Wp.seq (Wp.seq ?_)
 refine (path2 [1, 2, 5] (e := .normal) (vals := [sV l, .ptr 0 0, .int .i64 0]) (h' := [pH T (vsV V)]) (ds := []) (cs := []) hl2 (fun t0 => by kernel_rfl) trivial).mono ?_
 rintro e s ⟨rfl, t3, rfl, hl3⟩
 refine Wp.block ?_
 refine (w1_ok okp.t hl3).mono ?_
 rintro e s (⟨rfl, h1⟩ | ⟨rfl, t4, rfl, hl4⟩)
 ·exact tr ⟨rfl, h1⟩
 refine Wp.seq (Wp.seq ?_)
 refine (path2 [1, 2, 6] (e := .normal) (vals := [sV l, .ptr 0 0, .int .i64 0]) (h' := [pH T (vsV V)]) (ds := []) (cs := []) hl4 (fun t0 => by kernel_rfl) trivial).mono ?_
 rintro e s ⟨rfl, t5, rfl, hl5⟩
 refine Wp.block ?_
 refine (w2_ok okp.v hl5).mono ?_
 rintro e s (⟨rfl, h1⟩ | ⟨rfl, t6, rfl, hl6⟩)
 ·exact tr ⟨rfl, h1⟩
 refine Wp.seq (Wp.seq ?_)
 refine (path2 [1, 7] (e := .normal) (vals := [sV l, .int .i64 0]) (h' := [pH T (vsV V)]) (ds := []) (cs := []) hl6 (fun t0 => by kernel_rfl) trivial).mono ?_
 rintro e s ⟨rfl, t7, rfl, hl7⟩
 refine Wp.block ?_
 refine (w3_ok (by simp at d3; omega) hl7).mono ?_
 rintro e s (⟨rfl, h1⟩ | ⟨rfl, h1, t8, rfl, hl8⟩)
 ·exact tr ⟨rfl, h1⟩
 refine (path2 (nt := 110) (live := []) [4] (e := .ret) (vals := [.bool false]) (h' := [pH T (vsV V)]) (ds := []) (cs := []) ⟨hl8, by simp⟩ (fun t0 => by kernel_rfl) trivial).mono ?_
 rintro e s ⟨rfl, t9, rfl, hl9⟩
 exact ⟨rfl, rfl, false, hl9.get _ (List.mem_singleton.2 rfl), fun _ => h1⟩
end
open Go
def OkN (l : List (List (List Val))) : Prop := ∀ x ∈ l, ∀ r ∈ x, ∀ v ∈ r, -9223372036854775808 ≤ v.2.1 ∧ v.2.1 ≤ 9223372036854775807
abbrev okGr (x : X35) : Prop := OkP x.1 x.2.1 ∧ OkT x.2.2
open Classical in
noncomputable def greatB (x : X35) : Bool := if h : ∃ b h', Cl G7 T 5 [pA x.1 (vsV x.2.1), sV x.2.2] [] (.bool b, h', none) ∧ (b = false → Bd x.2.2) then h.choose else true
theorem greatB_cl {x : X35} (ok : okGr x) : (∃ h', Cl G7 T 5 [pA x.1 (vsV x.2.1), sV x.2.2] [] (.bool (greatB x), h', none)) ∧ (greatB x = false → Bd x.2.2) := by
 have h := great_cl ok.1 ok.2
 unfold greatB
 rw [dif_pos h]
 obtain ⟨h', h1, h2⟩ := h.choose_spec
 exact ⟨⟨h', h1⟩, h2⟩
theorem greatB_inj {x y : X35} (h : enG35 x = enG35 y) : x = y := by
 obtain ⟨a, b, c⟩ := x
 obtain ⟨a', b', c'⟩ := y
 simp only [enG35, pA, vsV, List.cons.injEq, and_true, AV.agg.injEq, AV.ro.injEq, true_and] at h
 rw [map_inj tV_inj h.1.1, map_inj wV_inj h.1.2, map_inj bV_inj h.2]
def packT (x : X35) : List UInt8 × Int := if goodT x.1 x.2.1 x.2.2 = true then (bytesT x.2.2, 0) else ([], 1)
abbrev XU := List (List Int) × List Vw × List UInt8
def unpT (x : XU) : List (List (List Val)) × Int := match readT x.1 x.2.1 x.2.2 with
 | some l => (l, 0)
 | none => ([], 3)
abbrev okPk (x : X35) : Prop := OkP x.1 x.2.1 ∧ OkT x.2.2 ∧ Bd x.2.2 ∧ OkN x.2.2
abbrev fPk (x : X35) : AV := .tup [.str (packT x).1, .int .i64 (packT x).2]
abbrev okUn (x : XU) : Prop := OkP x.1 x.2.1 ∧ x.2.2.length ≤ 2048
abbrev enUn (x : XU) : List AV := [pA x.1 (vsV x.2.1), .str x.2.2]
abbrev fUn (x : XU) : AV := .tup [sV (unpT x).1, .int .i64 (unpT x).2]
abbrev fRd (x : XU) : AV := resTabs (readT x.1 x.2.1 x.2.2)
theorem enUn_inj {x y : XU} (h : enUn x = enUn y) : x = y := by
 obtain ⟨a, b, c⟩ := x
 obtain ⟨a', b', c'⟩ := y
 simp only [enUn, pA, vsV, List.cons.injEq, and_true, AV.agg.injEq, AV.ro.injEq, AV.str.injEq, true_and] at h
 rw [map_inj tV_inj h.1.1, map_inj wV_inj h.1.2, h.2]
abbrev enSame (l : List (List (List Val))) : List AV := [sV l, sV l]
def gAwake : List AV → Option AV
 | [] => some (.bool true)
 | _ => none
noncomputable def gam8 : List (Nat × GF) := (4, pureG gAwake) :: (5, pureG (gOf okGr enG35 fun x => .bool (greatB x))) :: (11, pureG (gOf OkT enSame fun _ => .bool true)) ::
 (6, pureG (gOf okPk enG35 fPk)) :: (9, pureG (gOf okUn enUn fUn)) :: (10, pureG (gOf okUn enUn fRd)) :: gam6
noncomputable abbrev G8 : FuncId → Option GF := gGet gam8
theorem clo_bV (x : List (List Val)) : clo (bV x) = true := by simp [bV, clo, cloL_map clo_rV x]
theorem clo_sV (l : List (List (List Val))) : clo (sV l) = true := by simp [sV, clo, cloL_map clo_bV l]
theorem clo_fUn (x : XU) : clo (fUn x) = true := by
 show (clo (sV _) && (true && true)) = true
 rw [clo_sV]
 rfl
theorem clo_res (o : Option (List (List (List Val)))) : clo (resTabs o) = true := by
 cases o with
 | none => rfl
 | some l =>
  show (clo (sV _) && (true && true)) = true
  rw [clo_sV]
  rfl
theorem clo_enUn (T : List (List Int)) (V : List Vw) (s : List UInt8) : cloL [pA T (vsV V), .str s] = true := by
 show (clo (pA T (vsV V)) && (true && true)) = true
 rw [clo_pA]
 rfl
theorem great8 {x : X35} (ok : okGr x) (h : List Blk) : Cl G8 T 5 [pA x.1 (vsV x.2.1), sV x.2.2] h (.bool (greatB x), h, none) :=
 Cl.pure (g := gOf okGr enG35 fun x => .bool (greatB x)) (by kernel_rfl) (gOf_eq (a := x) (fun a b _ _ he => by rw [greatB_inj he]) ok) (by simp [cloL, clo_pA, clo_sV]) rfl h
theorem same8 {l : List (List (List Val))} (ok : OkT l) (h : List Blk) : Cl G8 T 11 [sV l, sV l] h (.bool true, h, none) :=
 Cl.pure (g := gOf OkT enSame fun _ => .bool true) (by kernel_rfl) (gOf_eq (a := l) (fun _ _ _ _ _ => rfl) ok) (by simp [cloL, clo_sV]) rfl h
theorem pack8 {x : X35} (ok : okPk x) (h : List Blk) : Cl G8 T 6 [pA x.1 (vsV x.2.1), sV x.2.2] h (fPk x, h, none) :=
 Cl.pure (g := gOf okPk enG35 fPk) (by kernel_rfl) (gOf_eq (a := x) (fun a b _ _ he => by rw [greatB_inj he]) ok) (by simp [cloL, clo_pA, clo_sV]) rfl h
theorem unpack8 {x : XU} (ok : okUn x) (h : List Blk) : Cl G8 T 9 [pA x.1 (vsV x.2.1), .str x.2.2] h (fUn x, h, none) :=
 Cl.pure (g := gOf okUn enUn fUn) (by kernel_rfl) (gOf_eq (a := x) (fun a b _ _ he => by rw [enUn_inj he]) ok) (clo_enUn _ _ _) (clo_fUn x) h
theorem read8 {x : XU} (ok : okUn x) (h : List Blk) : Cl G8 T 10 [pA x.1 (vsV x.2.1), .str x.2.2] h (fRd x, h, none) :=
 Cl.pure (g := gOf okUn enUn fRd) (by kernel_rfl) (gOf_eq (a := x) (fun a b _ _ he => by rw [enUn_inj he]) ok) (clo_enUn _ _ _) (clo_res _) h
theorem g358 {T : List (List Int)} {V : List Vw} {l : List (List (List Val))} (okp : OkP T V) (ok : OkT l) (H : List Blk) : Cl G8 Ax.T 7 [pA T (vsV V), sV l] H (.bool (goodT T V l), H, none) :=
 Cl.pureF (k := 10) (g := gOf okG35 enG35 fG35) (by kernel_rfl) (args' := [pA T (vsV V), sV l]) (by simp only [mapO, frz_pA H 5, frz_sV H 5]) (by
  rw [show wknL [pA T (vsV V), sV l] = enG35 (T, V, l) by simp only [wknL, wkn_pA, wkn_sV]]
  exact gOf_eq (a := (T, V, l)) (fun x y _ _ he => by rw [greatB_inj he]) ⟨okp, ok⟩) rfl
theorem bytes8 {l : List (List (List Val))} (ok : OkB l) (H : List Blk) : Cl G8 T 8 [sV l] H (.str (bytesT l), H, none) :=
 Cl.pureF (k := 10) (g := gOf OkB enTabs fBytes) (by kernel_rfl) (args' := [sV l]) (by simp only [mapO, frz_sV H 5]) (by
  rw [show wknL [sV l] = enTabs l by simp only [wknL, wkn_sV]]
  exact gOf_eq (a := l) (fun x y _ _ he => by
   simp only [enTabs, List.cons.injEq, and_true] at he
   show fBytes x = fBytes y
   rw [sV_inj _ _ he]) ok) rfl
theorem rowsG_all {T : List (List Int)} {t : Int} : ∀ {x : List (List Val)} {p : Option (List Val)} {n n' : Int}, rowsG T t p x n = some n' → ∀ r ∈ x, fitsB T t r = true
 | [], p, n, n', h, r, hr => by cases hr
 | a :: x, p, n, n', h, r, hr => by
  rw [rowsG_cons] at h
  by_cases h1 : n + 1 > 1000
  ·rw [if_pos h1] at h; cases h
  rw [if_neg h1] at h
  by_cases h2 : fitsB T t a = false
  ·rw [if_pos h2] at h; cases h
  rw [if_neg h2] at h
  have h : rowsG T t (some a) x (n + 1) = some n' := by
   cases p with
   | none => simpa using h
   | some q =>
    by_cases h3 : cmpVal (hd0 q) (hd0 a) ≥ 0
    ·rw [if_pos (by simpa using h3)] at h; cases h
    ·rw [if_neg (by simpa using h3)] at h; exact h
  rcases List.mem_cons.1 hr with rfl | hr
  ·simpa using h2
  ·exact rowsG_all h r hr
theorem fitsRow_good : ∀ {c : List Int} {r : List Val}, fitsRow c r = true → ∀ v ∈ r, goodVal v = true
 | [], [], _, v, hv => by cases hv
 | k :: c, a :: r, h, v, hv => by
  rw [fitsRow, Bool.and_eq_true, Bool.and_eq_true] at h
  rcases List.mem_cons.1 hv with rfl | hv
  ·exact h.2.1
  ·exact fitsRow_good h.2.2 v hv
 | [], _ :: _, h, _, _ => by cases h
 | _ :: _, [], h, _, _ => by cases h
theorem fitsB_good {T : List (List Int)} {t : Int} {r : List Val} (h : fitsB T t r = true) : ∀ v ∈ r, goodVal v = true := by
 unfold fitsB at h
 split at h
 ·cases h
 split at h
 ·exact fitsRow_good h
 ·cases h
theorem tabsG_all {T : List (List Int)} : ∀ {l : List (List (List Val))} {t n : Int}, tabsG T t l n = true → ∀ x ∈ l, ∀ r ∈ x, ∀ v ∈ r, goodVal v = true
 | [], t, n, h, x, hx => by cases hx
 | a :: l, t, n, h, x, hx => by
  rw [tabsG] at h
  split at h <;> first | (cases h; done) | skip
  rename_i n' hr
  rcases List.mem_cons.1 hx with rfl | hx
  ·exact fun r hr' => fitsB_good (rowsG_all hr r hr')
  ·exact tabsG_all h x hx
theorem goodT_good {T : List (List Int)} {V : List Vw} {l : List (List (List Val))} (h : goodT T V l = true) : ∀ x ∈ l, ∀ r ∈ x, ∀ v ∈ r, goodVal v = true := by
 rw [goodT, Bool.and_eq_true, Bool.and_eq_true] at h
 exact tabsG_all h.2.2
theorem flatMap_len {α : Type} {f : α → List UInt8} {k : Nat} : ∀ {l : List α}, (∀ a ∈ l, (f a).length ≤ k) → (l.flatMap f).length ≤ k * l.length
 | [], _ => by simp
 | a :: l, h => by
  have h1 := flatMap_len (l := l) fun x hx => h x (by simp [hx])
  have h2 := h a (by simp)
  rw [List.flatMap_cons, List.length_append, List.length_cons, Nat.mul_succ]
  omega
theorem okB_of {l : List (List (List Val))} (hb : Bd l) (hg : ∀ x ∈ l, ∀ r ∈ x, ∀ v ∈ r, goodVal v = true) : OkB l := by
 refine ⟨by have := hb.1; omega, fun x hx => by have := (hb.2 x hx).1; omega, fun x hx r hr => by have := ((hb.2 x hx).2 r hr).1; omega, hg, ?_⟩
 have h1 : ∀ x ∈ l, (tabBy x).length ≤ 5000 := fun x hx => by
  have h2 : (rowsBy x).length ≤ 72 * x.length := flatMap_len fun r hr => by
   have h3 : (rowBy r).length ≤ 9 * r.length := flatMap_len fun v hv => by rw [codeL_len (hg x hx r hr v hv)]; omega
   have := ((hb.2 x hx).2 r hr).1
   omega
  have := (hb.2 x hx).1
  rw [tabBy, List.length_append, show (by2 (x.length : Int)).length = 2 from rfl]
  omega
 have h2 : (bodyBy l).length ≤ 5000 * l.length := flatMap_len h1
 have := hb.1
 omega
theorem readT_ok {T : List (List Int)} {V : List Vw} {s : List UInt8} {l : List (List (List Val))} (h : readT T V s = some l) : OkT l := by
 unfold readT at h
 by_cases ho : (openL s).2 = true
 case neg => rw [if_neg ho] at h; cases h
 rw [if_pos ho] at h
 by_cases hp : planOk T V = true
 case neg => rw [if_neg hp] at h; cases h
 rw [if_pos hp] at h
 split at h <;> first | (cases h; done) | skip
 rename_i l' rest ht
 split at h <;> first | (cases h; done) | skip
 split at h <;> first | (cases h; done) | skip
 cases h
 obtain ⟨q1, q2, q3⟩ := tabsF_good ht
 simp only [planOk, Bool.and_eq_true, Bool.not_eq_true', decide_eq_false_iff_not] at hp
 refine ⟨by omega, fun x hx => by have := (q2 x hx).1; omega, fun x hx r hr => by have := ((q2 x hx).2 r hr).1; omega, fun x hx r hr v hv => ?_⟩
 have hgv := ((q2 x hx).2 r hr).2 v hv
 unfold OkStr
 obtain ⟨a, b, c⟩ := v
 by_cases ha : a = 1
 ·simp only [goodVal, ha, if_true] at hgv
  rw [bytesEq_iff, decide_eq_true_eq] at hgv
  subst hgv
  simp
 ·simp only [goodVal, if_neg ha, Bool.and_eq_true, decide_eq_true_eq] at hgv
  show c.length ≤ _
  omega
abbrev bLw : ACode := a3.body
def QL (e : AExit) (s : St) : Prop := e = .ret ∧ s.lo = none ∧ getX s.t 6 = .bool true
theorem QL_of {t : List AV} {h : List Blk} (hl : Lv 74 [(6, .bool true)] t) : QL .ret { t := t, h := h, lo := none } := ⟨rfl, rfl, hl.get _ (List.mem_singleton.2 rfl)⟩
theorem law_cl {T : List (List Int)} {V : List Vw} {l : List (List (List Val))} {s : List UInt8} (okp : OkP T V) (ok : OkT l) (okn : OkN l) (hs : s.length ≤ 9223372036854775807) : ∃ h', Cl G8 Ax.T 3 [pA T (vsV V), sV l, .str s] [] (.bool true, h', none) := by
 suffices hw : Wp G8 Ax.T bLw { t := [pA T (vsV V), sV l, .str s] ++ List.replicate 71 (.tup []), h := [] } QL by
  obtain ⟨r, h', rfl, hc⟩ := Cl.slot (Γ := G8) (tbl := Ax.T) (af := a3) (args := [pA T (vsV V), sV l, .str s]) (h := []) (by kernel_rfl) (by kernel_rfl) rfl rfl (fun r h' => r = .bool true) hw
  exact ⟨h', hc⟩
 refine Wp.seq ?_
 refine (path2 (nt := 74) (live := [(0, pA T (vsV V)), (1, sV l), (2, .str s)]) [1, 2, 3] (e := .normal) (vals := [sV l, .str s, .ptr 0 0]) (h' := [pH T (vsV V)]) (ds := []) (cs := []) ⟨by simp, by simp [getX_eq]⟩ (fun t0 => by kernel_rfl) trivial).mono ?_
 rintro e s' ⟨rfl, t1, rfl, hl1⟩
 refine Wp.seq ?_
 refine (path2 [1, 2, 3] (e := .normal) (vals := [sV l, .str s, .ptr 0 0]) (h' := [pH T (vsV V)]) (ds := [.r (.bool true) [pH T (vsV V)] none]) (cs := [Cl G8 Ax.T 4 [] [pH T (vsV V)] (.bool true, [pH T (vsV V)], none)]) hl1 (fun t0 => by kernel_rfl) ⟨Cl.pure (g := gAwake) (by kernel_rfl) rfl rfl rfl _, trivial⟩).mono ?_
 rintro e s' ⟨rfl, t2, rfl, hl2⟩
 refine Wp.seq ?_
 have hgr := great8 (x := (T, V, l)) ⟨okp, ok⟩ [pH T (vsV V)]
 have hgb := (greatB_cl (x := (T, V, l)) ⟨okp, ok⟩).2
 cases hb : greatB (T, V, l) with
 | true =>
  rw [hb] at hgr
  refine (path2 [6] (e := .ret) (vals := [.bool true]) (h' := [pH T (vsV V)]) (ds := [.r (.bool true) [pH T (vsV V)] none]) (cs := [Cl G8 Ax.T 5 [pA T (vsV V), sV l] [pH T (vsV V)] (.bool true, [pH T (vsV V)], none)]) hl2 (fun t0 => by kernel_rfl) ⟨hgr, trivial⟩).mono ?_
  rintro e s' ⟨rfl, t3, rfl, hl3⟩
  exact QL_of hl3
 | false =>
 rw [hb] at hgr
 have hbd : Bd l := hgb hb
 by_cases d1 : (s.length : Int) > 2048
 ·refine (path2 [6] (e := .ret) (vals := [.bool true]) (h' := [pH T (vsV V)]) (ds := [.r (.bool false) [pH T (vsV V)] none, .b true]) (cs := [Cl G8 Ax.T 5 [pA T (vsV V), sV l] [pH T (vsV V)] (.bool false, [pH T (vsV V)], none), cB (decide ((s.length : Int) > 2048)) true]) hl2 (fun t0 => by kernel_rfl) ⟨hgr, cT d1, trivial⟩).mono ?_
  rintro e s' ⟨rfl, t3, rfl, hl3⟩
  exact QL_of hl3
 refine (path2 [1, 2, 3] (e := .normal) (vals := [sV l, .str s, .ptr 0 0]) (h' := [pH T (vsV V)]) (ds := [.r (.bool false) [pH T (vsV V)] none, .b false]) (cs := [Cl G8 Ax.T 5 [pA T (vsV V), sV l] [pH T (vsV V)] (.bool false, [pH T (vsV V)], none), cB (decide ((s.length : Int) > 2048)) false]) hl2 (fun t0 => by kernel_rfl) ⟨hgr, cF d1, trivial⟩).mono ?_
 rintro e s' ⟨rfl, t3, rfl, hl3⟩
 have hpk := pack8 (x := (T, V, l)) ⟨okp, ok, hbd, okn⟩ [pH T (vsV V)]
 refine Wp.seq ?_
 refine (path2 [1, 2, 3, 7, 8] (e := .normal) (vals := [sV l, .str s, .ptr 0 0, .str (packT (T, V, l)).1, .int .i64 (packT (T, V, l)).2]) (h' := [pH T (vsV V)]) (ds := [.r (fPk (T, V, l)) [pH T (vsV V)] none]) (cs := [Cl G8 Ax.T 6 [pA T (vsV V), sV l] [pH T (vsV V)] (fPk (T, V, l), [pH T (vsV V)], none)]) hl3 (fun t0 => by kernel_rfl) ⟨hpk, trivial⟩).mono ?_
 rintro e s' ⟨rfl, t4, rfl, hl4⟩
 have hgd := g358 okp ok [pH T (vsV V)]
 refine Wp.seq ?_
 have hD : Wp G8 Ax.T (hd (tl (tl (tl (tl bLw))))) { t := t4, h := [pH T (vsV V)], lo := none } fun e s' => e = .normal ∧ ∃ t5, s' = { t := t5, h := [pH T (vsV V)], lo := none } ∧ Lv 74 ([1, 2, 3].zip [sV l, .str s, .ptr 0 0]) t5 := by
  cases hg : goodT T V l with
  | true =>
   have hp : packT (T, V, l) = (bytesT l, 0) := by simp [packT, hg]
   rw [hp] at hl4
   rw [hg] at hgd
   have hby := bytes8 (okB_of hbd (goodT_good hg)) [pH T (vsV V)]
   exact path2 [1, 2, 3] (e := .normal) (vals := [sV l, .str s, .ptr 0 0]) (h' := [pH T (vsV V)]) (ds := [.r (.bool true) [pH T (vsV V)] none, .b false, .r (.str (bytesT l)) [pH T (vsV V)] none, .b false]) (cs := [Cl G8 Ax.T 7 [pA T (vsV V), sV l] [pH T (vsV V)] (.bool true, [pH T (vsV V)], none), cB ((0 : Int) != 0) false, Cl G8 Ax.T 8 [sV l] [pH T (vsV V)] (.str (bytesT l), [pH T (vsV V)], none), cB (!bytesEq (bytesT l) (bytesT l)) false]) hl4 (fun t0 => by kernel_rfl) ⟨hgd, rfl, hby, by rw [bytesEq_iff, decide_eq_true rfl]; rfl, trivial⟩
  | false =>
   have hp : packT (T, V, l) = ([], 1) := by simp [packT, hg]
   rw [hp] at hl4
   rw [hg] at hgd
   exact path2 [1, 2, 3] (e := .normal) (vals := [sV l, .str s, .ptr 0 0]) (h' := [pH T (vsV V)]) (ds := [.r (.bool false) [pH T (vsV V)] none, .b false, .b false]) (cs := [Cl G8 Ax.T 7 [pA T (vsV V), sV l] [pH T (vsV V)] (.bool false, [pH T (vsV V)], none), cB ((1 : Int) != 1) false, cB (!bytesEq [] []) false]) hl4 (fun t0 => by kernel_rfl) ⟨hgd, rfl, rfl, trivial⟩
 refine hD.mono ?_
 rintro e s' ⟨rfl, t5, rfl, hl5⟩
 have hun := unpack8 (x := (T, V, s)) ⟨okp, by show s.length ≤ 2048; omega⟩ [pH T (vsV V)]
 have hrd := read8 (x := (T, V, s)) ⟨okp, by show s.length ≤ 2048; omega⟩ [pH T (vsV V)]
 refine Wp.seq ?_
 refine (path2 [1, 2, 3, 9, 10] (e := .normal) (vals := [sV l, .str s, .ptr 0 0, sV (unpT (T, V, s)).1, .int .i64 (unpT (T, V, s)).2]) (h' := [pH T (vsV V)]) (ds := [.r (fUn (T, V, s)) [pH T (vsV V)] none]) (cs := [Cl G8 Ax.T 9 [pA T (vsV V), .str s] [pH T (vsV V)] (fUn (T, V, s), [pH T (vsV V)], none)]) hl5 (fun t0 => by kernel_rfl) ⟨hun, trivial⟩).mono ?_
 rintro e s' ⟨rfl, t6, rfl, hl6⟩
 refine Wp.seq ?_
 cases hr : readT T V s with
 | none =>
  have hu : unpT (T, V, s) = ([], 3) := by simp [unpT, hr]
  rw [hu] at hl6
  rw [show fRd (T, V, s) = .tup [.nils, .bool false] by simp [fRd, hr, resTabs]] at hrd
  refine (path2 [9, 10, 11, 12] (e := .normal) (vals := [sV [], .int .i64 3, .nils, .bool false]) (h' := [pH T (vsV V)]) (ds := [.r (.tup [.nils, .bool false]) [pH T (vsV V)] none]) (cs := [Cl G8 Ax.T 10 [pA T (vsV V), .str s] [pH T (vsV V)] (.tup [.nils, .bool false], [pH T (vsV V)], none)]) hl6 (fun t0 => by kernel_rfl) ⟨hrd, trivial⟩).mono ?_
  rintro e s' ⟨rfl, t7, rfl, hl7⟩
  refine Wp.seq ?_
  refine (path2 [6] (e := .ret) (vals := [.bool true]) (h' := [pH T (vsV V)]) (ds := [.b true, .b true]) (cs := [cB ((3 : Int) == 3) true, cB ((0 : Int) == 0) true]) hl7 (fun t0 => by kernel_rfl) ⟨rfl, rfl, trivial⟩).mono ?_
  rintro e s' ⟨rfl, t8, rfl, hl8⟩
  exact QL_of hl8
 | some y =>
  have hu : unpT (T, V, s) = (y, 0) := by simp [unpT, hr]
  rw [hu] at hl6
  rw [show fRd (T, V, s) = .tup [sV y, .bool true] by simp [fRd, hr, resTabs]] at hrd
  refine (path2 [9, 10, 11, 12] (e := .normal) (vals := [sV y, .int .i64 0, sV y, .bool true]) (h' := [pH T (vsV V)]) (ds := [.r (.tup [sV y, .bool true]) [pH T (vsV V)] none]) (cs := [Cl G8 Ax.T 10 [pA T (vsV V), .str s] [pH T (vsV V)] (.tup [sV y, .bool true], [pH T (vsV V)], none)]) hl6 (fun t0 => by kernel_rfl) ⟨hrd, trivial⟩).mono ?_
  rintro e s' ⟨rfl, t7, rfl, hl7⟩
  refine Wp.seq ?_
  refine (path2 [9, 10, 11] (e := .normal) (vals := [sV y, .int .i64 0, sV y]) (h' := [pH T (vsV V)]) (ds := []) (cs := []) hl7 (fun t0 => by kernel_rfl) trivial).mono ?_
  rintro e s' ⟨rfl, t8, rfl, hl8⟩
  refine (path2 [6] (e := .ret) (vals := [.bool true]) (h' := [pH T (vsV V)]) (ds := [.b true, .r (.bool true) [pH T (vsV V)] none]) (cs := [cB ((0 : Int) == 0) true, Cl G8 Ax.T 11 [sV y, sV y] [pH T (vsV V)] (.bool true, [pH T (vsV V)], none)]) hl8 (fun t0 => by kernel_rfl) ⟨rfl, same8 (readT_ok hr) _, trivial⟩).mono ?_
  rintro e s' ⟨rfl, t9, rfl, hl9⟩
  exact QL_of hl9
open Go Go.RowKit Go.Shelf Go.Proofs.YtfkkeddjfiljfaaW.PrintWords Go.Proofs.Ytfkkeddjfiljfaa.PArk
theorem goodV_to (v : Val) : goodV (toV v) = goodVal v := by
 obtain ⟨k, n, s⟩ := v
 unfold goodV goodVal toV
 by_cases h1 : k = 1
 ·simp only [if_pos h1]
  rw [toList_data, ofL_data, bytesEq_iff]
  cases s <;> rfl
 ·simp only [if_neg h1]
  by_cases h2 : k = 2
  ·by_cases h3 : n = 0
   ·rw [if_pos h2, if_pos h3, ofL_size, decide_eq_true h2, decide_eq_true h3]
    rfl
   ·rw [if_pos h2, if_neg h3, decide_eq_false h3]
    simp
  ·rw [if_neg h2, decide_eq_false h2]
   rfl
theorem cols_to : ∀ c : List Int, (!c.any badCol) = colsOk c
 | [] => rfl
 | k :: c => by
  have ih := cols_to c
  unfold colsOk at ih ⊢
  rw [List.any_cons, List.all_cons, Bool.not_or, ih, badCol]
  cases k == 1 <;> cases k == 2 <;> rfl
theorem tab_to (c : List Int) : okTab c = tabOk c := by
 unfold okTab tabOk
 rw [cols_to]
 by_cases h1 : 1 ≤ c.length
 ·by_cases h2 : c.length ≤ 4
  ·rw [decide_eq_true h1, decide_eq_true h2, decide_eq_false (show ¬ (c.length : Int) < 1 by omega), decide_eq_false (show ¬ (c.length : Int) > 4 by omega)]
   rfl
  ·rw [decide_eq_true h1, decide_eq_false h2, decide_eq_false (show ¬ (c.length : Int) < 1 by omega), decide_eq_true (show (c.length : Int) > 4 by omega)]
   rfl
 ·rw [decide_eq_false h1, decide_eq_true (show (c.length : Int) < 1 by omega)]
  rfl
theorem rd_some {c : List Int} {s x : Int} (h : c[s.toNat]? = some x) : rd c s = x := by
 show c.getD s.toNat 0 = x
 rw [List.getD_eq_getElem?_getD, h]
 rfl
theorem sums_to (c : List Int) : ∀ (l : List Int) (p : Option Int) (q : Int), (p = none ∧ q = -1) ∨ (p = some q ∧ 0 ≤ q) → Proofs.Ytfkkeddjfiljfaa.sumsOk c q l = sumsOk c p l
 | [], p, q, h => by cases p <;> rfl
 | s :: r, p, q, h => by
  rw [sumsOk_cons, Proofs.Ytfkkeddjfiljfaa.sumsOk]
  have hq : -1 ≤ q := by rcases h with ⟨_, h⟩ | ⟨_, h⟩ <;> omega
  by_cases h1 : s < 0
  ·rw [if_pos h1, decide_eq_false (by omega)]
   rfl
  rw [if_neg h1]
  by_cases h2 : s ≥ (c.length : Int)
  ·rw [if_pos h2, decide_eq_false (show ¬ s < (c.length : Int) by omega)]
   simp
  rw [if_neg h2, decide_eq_true (show s < (c.length : Int) by omega)]
  have hx := List.getElem?_eq_getElem (show s.toNat < c.length by omega)
  generalize c[s.toNat] = x at hx
  rw [hx, rd_some hx]
  simp only
  by_cases h3 : x = 1
  ·rw [if_pos h3, h3, sums_to c r (some s) s (.inr ⟨rfl, by omega⟩)]
   rcases h with ⟨rfl, rfl⟩ | ⟨rfl, h4⟩
   ·rw [decide_eq_true (by omega)]
    simp
   ·simp only
    by_cases h5 : s ≤ q
    ·rw [if_pos h5, decide_eq_false (by omega)]
     rfl
    ·rw [if_neg h5, decide_eq_true (by omega)]
     simp
  ·rw [if_neg h3, beq_eq_false_iff_ne.2 h3]
   simp
theorem rdT_to {T : List (List Int)} {i : Int} {c : List Int} (h : T[i.toNat]? = some c) : rd_T41 (T.map toT) i = toT c := by
 show (T.map toT).getD i.toNat _ = toT c
 rw [List.getD_eq_getElem?_getD, List.getElem?_map, h]
 rfl
theorem view_to (T : List (List Int)) (v : Vw) : okView (T.map toT) (toW v) = viewOk T v := by
 obtain ⟨t, c, u⟩ := v
 unfold okView viewOk
 show (decide (0 ≤ t) && (decide (t < ((T.map toT).length : Int)) && (decide (u.length ≤ 2) && (Proofs.Ytfkkeddjfiljfaa.sumsOk (colsAt (T.map toT) t) (-1) u && (decide (0 ≤ c) && decide (c < ((colsAt (T.map toT) t).length : Int))))))) = _
 rw [List.length_map]
 simp only
 by_cases h1 : t < 0
 ·rw [if_pos h1, decide_eq_false (by omega)]
  rfl
 rw [if_neg h1, decide_eq_true (show 0 ≤ t by omega)]
 by_cases h2 : t < (T.length : Int)
 case neg =>
  rw [decide_eq_false h2, List.getElem?_eq_none (show T.length ≤ t.toNat by omega)]
  rfl
 have hx := List.getElem?_eq_getElem (show t.toNat < T.length by omega)
 generalize T[t.toNat] = x at hx
 rw [decide_eq_true h2, hx]
 have hc : colsAt (T.map toT) t = x := by unfold colsAt; rw [rdT_to hx]; rfl
 rw [hc, sums_to x u none (-1) (.inl ⟨rfl, rfl⟩)]
 simp only
 by_cases h3 : c < 0
 ·rw [if_pos h3, decide_eq_false (show ¬ 0 ≤ c by omega)]
  simp
 rw [if_neg h3, decide_eq_true (show 0 ≤ c by omega)]
 by_cases h4 : c ≥ (x.length : Int)
 ·rw [if_pos h4, decide_eq_false (show ¬ c < (x.length : Int) by omega)]
  simp
 rw [if_neg h4, decide_eq_true (show c < (x.length : Int) by omega)]
 by_cases h5 : (u.length : Int) > 2
 ·rw [if_pos h5, decide_eq_false (by omega)]
  rfl
 ·rw [if_neg h5, decide_eq_true (by omega)]
  simp
theorem any_not {α β : Type} {f : α → Bool} {g : β → Bool} {m : β → α} (h : ∀ x, f (m x) = !g x) : ∀ l : List β, (!(l.map m).any f) = l.all g
 | [] => rfl
 | x :: l => by
  rw [List.map_cons, List.any_cons, List.all_cons, Bool.not_or, any_not h l, h, Bool.not_not]
theorem plan_to (T : List (List Int)) (V : List Vw) : okPlan (T.map toT) (V.map toW) = planOk T V := by
 unfold okPlan planOk
 rw [any_not (f := badTab) (g := tabOk) (m := toT) (fun c => by unfold badTab; rw [← tab_to]; rfl), any_not (f := badVw (T.map toT)) (g := viewOk T) (m := toW) (fun v => by unfold badVw; rw [← view_to])]
 rw [List.length_map, List.length_map]
 by_cases h1 : 1 ≤ T.length
 ·rw [decide_eq_true h1, decide_eq_false (show ¬ (T.length : Int) < 1 by omega)]
  by_cases h2 : T.length ≤ 3
  ·rw [decide_eq_true h2, decide_eq_false (show ¬ (T.length : Int) > 3 by omega)]
   by_cases h3 : V.length ≤ 4
   ·rw [decide_eq_true h3, decide_eq_false (show ¬ (V.length : Int) > 4 by omega)]
    rfl
   ·rw [decide_eq_false h3, decide_eq_true (show (V.length : Int) > 4 by omega)]
    rfl
  ·rw [decide_eq_false h2, decide_eq_true (show (T.length : Int) > 3 by omega)]
   rfl
 ·rw [decide_eq_false h1, decide_eq_true (show (T.length : Int) < 1 by omega)]
  rfl
theorem or_three (a b c : Int) : Ev (fun k => cmp_Or_int.f k [a, b, c]) (if a ≠ 0 then a else if b ≠ 0 then b else c) := by
 have w1 : wrap64 1 = 1 := by unfold wrap64; omega
 have w2 : wrap64 2 = 2 := by unfold wrap64; omega
 have w3 : wrap64 3 = 3 := by unfold wrap64; omega
 by_cases h1 : a = 0
 ·rw [if_neg (by simpa using h1)]
  by_cases h2 : b = 0
  ·rw [if_neg (by simpa using h2)]
   by_cases h3 : c = 0
   ·refine Ev.step (f := fun k => cmp_Or_int.l0 k 0 [a, b, c] 3 1) (fun k => ?_) (Ev.step (f := fun k => cmp_Or_int.l0 k 0 [a, b, c] 3 2) (fun k => ?_) (Ev.step (f := fun k => cmp_Or_int.l0 k 0 [a, b, c] 3 3) (fun k => ?_) (Ev.one fun k => ?_)))
    ·rw [cmp_Or_int.f, cmp_Or_int.l0]; simp [rd, h1, w1]
    ·rw [cmp_Or_int.l0]; simp [rd, h2, w2]
    ·rw [cmp_Or_int.l0]; simp [rd, h3, w3]
    ·rw [cmp_Or_int.l0]; simp [h3]
   ·refine Ev.step (f := fun k => cmp_Or_int.l0 k 0 [a, b, c] 3 1) (fun k => ?_) (Ev.step (f := fun k => cmp_Or_int.l0 k 0 [a, b, c] 3 2) (fun k => ?_) (Ev.one fun k => ?_))
    ·rw [cmp_Or_int.f, cmp_Or_int.l0]; simp [rd, h1, w1]
    ·rw [cmp_Or_int.l0]; simp [rd, h2, w2]
    ·rw [cmp_Or_int.l0]; simp [rd, h3]
  ·rw [if_pos h2]
   refine Ev.step (f := fun k => cmp_Or_int.l0 k 0 [a, b, c] 3 1) (fun k => ?_) (Ev.one fun k => ?_)
   ·rw [cmp_Or_int.f, cmp_Or_int.l0]; simp [rd, h1, w1]
   ·rw [cmp_Or_int.l0]; simp [rd, h2]
 ·rw [if_pos h1]
  refine Ev.one fun k => ?_
  rw [cmp_Or_int.f, cmp_Or_int.l0]; simp [rd, h1]
def cmpI (a b : Int) : Int := if a < b then -1 else if a > b then 1 else 0
theorem cmpInt_to (a b : Int) : cmp_Compare_int.f a b = some (cmpI a b) := by
 unfold cmp_Compare_int.f cmp_isNaN_int.f cmpI
 simp only [Option.bind_some]
 split
 ·rename_i h; simp at h
 ·split
  ·rename_i h; simp at h
  ·split
   ·rfl
   ·split <;> rfl
theorem texts_less : ∀ a b : List UInt8, (if Op.bytesLess a b = true then (-1 : Int) else if (a == b) = true then 0 else 1) = texts a b
 | [], [] => rfl
 | [], _ :: _ => rfl
 | _ :: _, [] => rfl
 | a :: x, b :: y => by
  have ih := texts_less x y
  rw [texts, ← ih, Op.bytesLess]
  by_cases h1 : (a.toNat : Int) < b.toNat
  ·have : a < b := by rw [UInt8.lt_iff_toNat_lt]; omega
   simp [this, h1]
  ·have g1 : ¬ a < b := by rw [UInt8.lt_iff_toNat_lt]; omega
   by_cases h2 : (a.toNat : Int) > b.toNat
   ·have g2 : b < a := by rw [UInt8.lt_iff_toNat_lt]; omega
    have g3 : a ≠ b := fun h => by subst h; omega
    simp [g1, g2, g3, h1, h2]
   ·have g2 : a = b := UInt8.toNat_inj.1 (by omega)
    subst g2
    simp [h1]
theorem cmpStr_to (a b : List UInt8) : cmp_Compare_string.f (ofL a) (ofL b) = some (texts a b) := by
 rw [← texts_less]
 unfold cmp_Compare_string.f
 rw [toList_data, toList_data, ofL_data, ofL_data]
theorem compare_to {a b : Val} (ha : goodVal a = true) (hb : goodVal b = true) : Ev (fun k => sign_Compare.f k (toV a).f0 (toV a).f1 (toV a).f2 (toV b).f0 (toV b).f1 (toV b).f2) (cmpVal a b) := by
 have hv : cmpVal a b = (if cmpI a.1 b.1 ≠ 0 then cmpI a.1 b.1 else if cmpI a.2.1 b.2.1 ≠ 0 then cmpI a.2.1 b.2.1 else texts a.2.2 b.2.2) := by
  obtain ⟨k, n, s⟩ := a
  obtain ⟨k', n', s'⟩ := b
  have g := ha
  have g' := hb
  unfold cmpVal
  rw [ha, hb]
  simp only [goodVal, Bool.not_true, Bool.false_eq_true, if_false] at g g' ⊢
  by_cases h1 : k = 1
  ·rw [if_pos h1, bytesEq_iff, decide_eq_true_eq] at g
   by_cases h2 : k' = 1
   ·rw [if_pos h2, bytesEq_iff, decide_eq_true_eq] at g'
    subst h1 h2 g g'
    unfold cmpI
    simp only [texts]
    by_cases q1 : n < n'
    ·simp [q1]
    ·by_cases q2 : n > n'
     ·simp [q1, q2]
     ·simp [q1, q2]
   ·rw [if_neg h2] at g'
    simp only [Bool.and_eq_true, decide_eq_true_eq] at g'
    rw [h1, g'.1]
    simp [cmpI]
  ·rw [if_neg h1] at g
   simp only [Bool.and_eq_true, decide_eq_true_eq] at g
   by_cases h2 : k' = 1
   ·rw [h2, g.1]
    simp [cmpI]
   ·rw [if_neg h2] at g'
    simp only [Bool.and_eq_true, decide_eq_true_eq] at g'
    rw [g.1, g'.1, g.2.1, g'.2.1]
    simp [cmpI]
 rw [hv]
 refine Ev.congr (f := fun k => sign_Compare.j0 k false (toV a).f0 (toV a).f1 (toV a).f2 (toV b).f0 (toV b).f1 (toV b).f2) (fun k => ?_) (Ev.step (f := fun k => (cmp_Or_int.f k [cmpI a.1 b.1, cmpI a.2.1 b.2.1, texts a.2.2 b.2.2]).bind fun t => some t) (fun k => ?_) (Ev.bind (or_three _ _ _) (Ev.now _)))
 ·unfold sign_Compare.f
  rw [good_is (toV a), goodV_to, ha, Option.bind_some, if_pos rfl, good_is (toV b), goodV_to, hb, Option.bind_some]
  rfl
 ·rw [sign_Compare.j0, if_neg (by decide)]
  simp only [toV]
  rw [cmpInt_to, Option.bind_some, cmpInt_to, Option.bind_some, cmpStr_to, Option.bind_some]
open Go Go.RowKit Go.Shelf Go.Proofs.YtfkkeddjfiljfaaW.PrintWords Go.Proofs.Ytfkkeddjfiljfaa.PArk
theorem rdV_to {r : List Val} {i : Nat} {v : Val} (h : r[i]? = some v) : rd_T47 (r.map toV) (i : Int) = toV v := by
 show (r.map toV).getD (i : Int).toNat _ = toV v
 rw [List.getD_eq_getElem?_getD, List.getElem?_map, Int.toNat_natCast, h]
 rfl
theorem fits0_to {T : List (List Int)} {V : List sVw} {t : Nat} {c : List Int} (hc : T[t]? = some c) {r : List Val} (hl : r.length = c.length) (hb : r.length ≤ 1000000) :
  ∀ d i : Nat, i + d = r.length → Ev (fun k => plan_Fits.l0 k (t : Int) (r.map toV) ((r.map toV).length : Int) (i : Int) (T.map toT) V) (if fitsRow (c.drop i) (r.drop i) = true then 0 else 1)
 | 0, i, h => by
  rw [List.drop_eq_nil_of_le (by omega), List.drop_eq_nil_of_le (by omega)]
  refine Ev.one fun k => ?_
  rw [plan_Fits.l0, if_neg (by simp; omega)]
  rfl
 | d + 1, i, h => by
  have ih := fits0_to (V := V) hc hl hb d (i + 1) (by omega)
  have hw : wrap64 ((i : Int) + 1) = ((i + 1 : Nat) : Int) := by unfold wrap64; omega
  have ht : t < T.length := (List.getElem?_eq_some_iff.1 hc).1
  have e1 := List.getElem?_eq_getElem (show i < r.length by omega)
  have e2 := List.getElem?_eq_getElem (show i < c.length by omega)
  rw [List.drop_eq_getElem_cons (show i < r.length by omega), List.drop_eq_getElem_cons (show i < c.length by omega), fitsRow]
  generalize r[i] = v at e1
  generalize c[i] = m at e2
  have h1 : rd_T41 (T.map toT) (t : Int) = toT c := rdT_to (by rw [Int.toNat_natCast]; exact hc)
  have h2 : rd c (i : Int) = m := rd_some (by rw [Int.toNat_natCast]; exact e2)
  have hhead : ∀ k, plan_Fits.l0 (k + 1) (t : Int) (r.map toV) ((r.map toV).length : Int) (i : Int) (T.map toT) V = if v.1 = m then (if goodVal v = true then plan_Fits.l0 k (t : Int) (r.map toV) ((r.map toV).length : Int) ((i + 1 : Nat) : Int) (T.map toT) V else some 1) else some 1 := by
   intro k
   rw [plan_Fits.l0, if_pos (by simp; omega), if_pos (by omega), if_pos (by simp; omega), if_pos (by omega), if_pos (by simp; omega), h1, if_pos (by show (i : Int) < (c.length : Int); omega), rdV_to e1]
   show (if v.1 = rd c (i : Int) then _ else _) = _
   rw [h2, good_is (toV v), goodV_to, Option.bind_some, hw]
  by_cases hk : v.1 = m
  ·by_cases hg : goodVal v = true
   ·rw [decide_eq_true hk, hg]
    exact Ev.step (fun k => by rw [hhead, if_pos hk, if_pos hg]) ih
   ·rw [Bool.not_eq_true] at hg
    rw [hg, decide_eq_true hk]
    exact Ev.one fun k => by rw [hhead, if_pos hk, if_neg (by rw [hg]; decide)]; rfl
  ·rw [decide_eq_false hk]
   exact Ev.one fun k => by rw [hhead, if_neg hk]; rfl
theorem fitsB_at {T : List (List Int)} {t : Nat} {c : List Int} (hc : T[t]? = some c) (r : List Val) : fitsB T (t : Int) r = fitsRow c r := by
 unfold fitsB
 rw [if_neg (by omega), Int.toNat_natCast, hc]
theorem fits_to {T : List (List Int)} {V : List sVw} {t : Nat} (ht : t < T.length) {r : List Val} (hb : r.length ≤ 1000000) : Ev (fun k => plan_Fits.f k (T.map toT) V (t : Int) (r.map toV)) (if fitsB T (t : Int) r = true then 0 else 1) := by
 have hc := List.getElem?_eq_getElem ht
 generalize T[t] = c at hc
 rw [fitsB_at hc]
 have h1 : rd_T41 (T.map toT) (t : Int) = toT c := rdT_to (by rw [Int.toNat_natCast]; exact hc)
 have hf : ∀ k, plan_Fits.f k (T.map toT) V (t : Int) (r.map toV) = plan_Fits.j0 k (t : Int) (r.map toV) ((r.length : Int) != (c.length : Int)) (T.map toT) V := by
  intro k
  rw [plan_Fits.f, if_neg (by omega), if_neg (by simp; omega), if_pos (by omega), if_pos (by simp; omega), h1, List.length_map]
  rfl
 by_cases hl : r.length = c.length
 ·have hd : ((r.length : Int) != (c.length : Int)) = false := by simp [hl]
  refine Ev.congr (fun k => by rw [hf, hd]) (Ev.step (fun k => by rw [plan_Fits.j0, if_neg (by decide)]; rfl) (fits0_to (V := V) hc hl hb r.length 0 (by omega)))
 ·have hd : ((r.length : Int) != (c.length : Int)) = true := by simp; omega
  have hF : fitsRow c r = false := by
   rw [← Bool.not_eq_true]
   exact fun h => hl (fitsRow_len h)
  rw [hF]
  exact Ev.congr (fun k => by rw [hf, hd]) (Ev.one fun k => by rw [plan_Fits.j0, if_pos rfl]; rfl)
def badAfter (p : Option (List Val)) (r : List Val) : Bool := match p with
 | some q => decide (cmpVal (hd0 q) (hd0 r) ≥ 0)
 | none => false
def rowsB (T : List (List Int)) (t : Int) : Option (List Val) → List (List Val) → Bool
 | _, [] => true
 | p, r :: rs => fitsB T t r && (!badAfter p r && rowsB T t (some r) rs)
theorem rowsG_cons' (T : List (List Int)) (t : Int) (p r rs n) : rowsG T t p (r :: rs) n = if n + 1 > 1000 then none else if fitsB T t r = false then none else if badAfter p r = true then none else rowsG T t (some r) rs (n + 1) := by
 cases p <;> rw [rowsG] <;> rfl
theorem rowsG_is (T : List (List Int)) (t : Int) : ∀ (x : List (List Val)) (p : Option (List Val)) (n : Int), n ≤ 1000 → rowsG T t p x n = if n + x.length ≤ 1000 ∧ rowsB T t p x = true then some (n + x.length) else none
 | [], p, n, h => by cases p <;> rw [rowsG, if_pos ⟨by simpa using h, by rw [rowsB]⟩] <;> simp
 | r :: x, p, n, h => by
  rw [rowsG_cons']
  by_cases h1 : n + 1 > 1000
  ·rw [if_pos h1, if_neg (by simp only [List.length_cons]; omega)]
  rw [if_neg h1, rowsG_is T t x (some r) (n + 1) (by omega)]
  have e : rowsB T t p (r :: x) = (fitsB T t r && (!badAfter p r && rowsB T t (some r) x)) := by cases p <;> rfl
  rw [e]
  cases h2 : fitsB T t r with
  | false =>
   rw [if_pos rfl, if_neg (by simp)]
  | true =>
   rw [if_neg (by decide)]
   cases h4 : badAfter p r with
   | true =>
    rw [if_pos rfl, if_neg (by simp)]
   | false =>
    rw [if_neg (by decide)]
    have e2 : n + 1 + (x.length : Int) = n + ((r :: x).length : Int) := by simp only [List.length_cons]; omega
    rw [e2]
    rfl
def tabsB (T : List (List Int)) : Int → List (List (List Val)) → Bool
 | _, [] => true
 | t, x :: xs => rowsB T t none x && tabsB T (t + 1) xs
def rowsN (l : List (List (List Val))) : Nat := (l.map List.length).sum
theorem tabsG_is (T : List (List Int)) : ∀ (l : List (List (List Val))) (t n : Int), n ≤ 1000 → tabsG T t l n = (tabsB T t l && decide (n + rowsN l ≤ 1000))
 | [], t, n, h => by
  rw [tabsG, decide_eq_true (by simpa [rowsN] using h)]
  rfl
 | x :: l, t, n, h => by
  have e : rowsN (x :: l) = x.length + rowsN l := by simp [rowsN]
  rw [tabsG, rowsG_is T t x none n h, tabsB, e]
  by_cases h1 : n + x.length ≤ 1000
  ·cases h2 : rowsB T t none x with
   | true =>
    rw [if_pos ⟨h1, rfl⟩]
    simp only
    rw [tabsG_is T l (t + 1) (n + x.length) h1]
    have : (n + (x.length : Int) + (rowsN l : Int) ≤ 1000) ↔ (n + ((x.length + rowsN l : Nat) : Int) ≤ 1000) := by omega
    rw [decide_eq_decide.2 this]
    rfl
   | false =>
    rw [if_neg (by simp)]
    rfl
  ·rw [if_neg (by omega), decide_eq_false (show ¬ n + ((x.length + rowsN l : Nat) : Int) ≤ 1000 by omega), Bool.and_false]
theorem hd_to {q : List Val} {u : Val} {q' : List Val} (h : q = u :: q') : rd_T47 (q.map toV) 0 = toV (hd0 q) := by subst h; rfl
theorem rdR_to {x : List (List Val)} {i : Nat} {r : List Val} (h : x[i]? = some r) : rd_L10 (x.map fun r => r.map toV) (i : Int) = r.map toV := by
 show (x.map fun r => r.map toV).getD (i : Int).toNat _ = _
 rw [List.getD_eq_getElem?_getD, List.getElem?_map, Int.toNat_natCast, h]
 rfl
theorem good1_to {T : List (List Int)} (hc : ∀ c ∈ T, 1 ≤ c.length) {V : List sVw} {t : Nat} (ht : t < T.length) (htl : t ≤ 1000) {tabs : List (List (List sVl))} {m : Int} {x : List (List Val)} (hx : x.length ≤ 1000000) (hr : ∀ r ∈ x, r.length ≤ 1000000) {n : Int} {b : Bool} (hn : Ev (fun k => ark_isGood.l0 k n tabs m ((t + 1 : Nat) : Int) (T.map toT) V) b) :
  ∀ d i : Nat, i + d = x.length → (∀ q, prevR x i = some q → fitsB T (t : Int) q = true) → Ev (fun k => ark_isGood.l1 k n (t : Int) (x.map fun r => r.map toV) tabs m (t : Int) (x.map fun r => r.map toV) ((x.map fun r => r.map toV).length : Int) (i : Int) (T.map toT) V) (rowsB T (t : Int) (prevR x i) (x.drop i) && b)
 | 0, i, h, _ => by
  have hw : wrap64 ((t : Int) + 1) = ((t + 1 : Nat) : Int) := by unfold wrap64; omega
  rw [List.drop_eq_nil_of_le (by omega), rowsB, Bool.true_and]
  exact Ev.step (fun k => by rw [ark_isGood.l1, if_neg (by simp; omega), hw]) hn
 | d + 1, i, h, hp => by
  have hw : wrap64 ((i : Int) + 1) = ((i + 1 : Nat) : Int) := by unfold wrap64; omega
  have ih := good1_to hc ht htl hx hr hn d (i + 1) (by omega)
  have e1 := List.getElem?_eq_getElem (show i < x.length by omega)
  have hmem : x[i] ∈ x := List.getElem_mem _
  rw [List.drop_eq_getElem_cons (show i < x.length by omega)]
  have hpn : prevR x (i + 1) = some x[i] := by simp [prevR, e1]
  generalize x[i] = r at e1 hmem hpn
  rw [hpn] at ih
  have hf := fits_to (V := V) ht (hr r hmem)
  rw [show rowsB T (t : Int) (prevR x i) (r :: x.drop (i + 1)) = (fitsB T (t : Int) r && (!badAfter (prevR x i) r && rowsB T (t : Int) (some r) (x.drop (i + 1)))) by cases prevR x i <;> rfl]
  cases hfr : fitsB T (t : Int) r with
  | false =>
   rw [hfr] at hf
   have hh : ∃ X : Nat → Option Bool, ∀ k, ark_isGood.l1 (k + 1) n (t : Int) (x.map fun r => r.map toV) tabs m (t : Int) (x.map fun r => r.map toV) ((x.map fun r => r.map toV).length : Int) (i : Int) (T.map toT) V = (plan_Fits.f k (T.map toT) V (t : Int) (r.map toV)).bind fun z => if z = 0 then X k else some false :=
    ⟨_, fun k => by rw [ark_isGood.l1, if_pos (by simp; omega), if_pos (by omega), if_pos (by simp; omega), rdR_to e1]⟩
   obtain ⟨X, hX⟩ := hh
   exact Ev.step hX (Ev.bind hf (Ev.congr (fun k => if_neg (by decide)) (Ev.now false)))
  | true =>
   rw [hfr] at hf
   have ih := ih (fun q hq => by cases hq; exact hfr)
   by_cases hi : 0 < i
   ·have hw2 : wrap64 ((i : Int) - 1) = ((i - 1 : Nat) : Int) := by unfold wrap64; omega
    have e0 := List.getElem?_eq_getElem (show i - 1 < x.length by omega)
    have hq : prevR x i = some x[i - 1] := by simp [prevR, e0]; omega
    have hgq := hp _ hq
    generalize x[i - 1] = q at e0 hq hgq
    obtain ⟨u, q', hqu⟩ := fitsB_pos hc hgq
    obtain ⟨u', r', hru⟩ := fitsB_pos hc hfr
    have gq : goodVal (hd0 q) = true := by rw [hqu]; exact fitsB_good hgq u (by rw [hqu]; simp)
    have gr : goodVal (hd0 r) = true := by rw [hru]; exact fitsB_good hfr u' (by rw [hru]; simp)
    have hcm := compare_to gq gr
    rw [hq]
    have lq : 0 < (q.map toV).length := by rw [hqu]; simp
    have lr : 0 < (r.map toV).length := by rw [hru]; simp
    have hhead : ∀ k, ark_isGood.l1 (k + 1) n (t : Int) (x.map fun r => r.map toV) tabs m (t : Int) (x.map fun r => r.map toV) ((x.map fun r => r.map toV).length : Int) (i : Int) (T.map toT) V = (plan_Fits.f k (T.map toT) V (t : Int) (r.map toV)).bind fun z => if z = 0 then (sign_Compare.f k (toV (hd0 q)).f0 (toV (hd0 q)).f1 (toV (hd0 q)).f2 (toV (hd0 r)).f0 (toV (hd0 r)).f1 (toV (hd0 r)).f2).bind fun y => (if y ≥ 0 then some false else ark_isGood.l1 k n (t : Int) (x.map fun r => r.map toV) tabs m (t : Int) (x.map fun r => r.map toV) ((x.map fun r => r.map toV).length : Int) ((i + 1 : Nat) : Int) (T.map toT) V) else some false := by
     intro k
     rw [ark_isGood.l1, if_pos (by simp; omega), if_pos (by omega), if_pos (by simp; omega), rdR_to e1]
     refine congrArg (fun f => Option.bind _ f) (funext fun z => ?_)
     by_cases hz : z = 0
     ·rw [if_pos hz, if_pos hz, if_pos (by omega), hw2, if_pos (by omega), if_pos (by simp; omega), rdR_to e0, if_pos (by omega), if_pos (by omega), hw, hd_to hqu, hd_to hru]
     ·rw [if_neg hz, if_neg hz]
    refine Ev.step hhead (Ev.bind hf (Ev.congr (fun k => if_pos rfl) (Ev.bind hcm ?_)))
    by_cases hcc : cmpVal (hd0 q) (hd0 r) ≥ 0
    ·rw [show badAfter (some q) r = true from decide_eq_true hcc]
     exact Ev.congr (fun k => if_pos hcc) (Ev.now false)
    ·rw [show badAfter (some q) r = false from decide_eq_false hcc]
     exact Ev.congr (fun k => if_neg hcc) ih
   ·have hq : prevR x i = none := by simp [prevR]; omega
    rw [hq]
    refine Ev.step (f := fun k => (plan_Fits.f k (T.map toT) V (t : Int) (r.map toV)).bind fun z => if z = 0 then ark_isGood.l1 k n (t : Int) (x.map fun r => r.map toV) tabs m (t : Int) (x.map fun r => r.map toV) ((x.map fun r => r.map toV).length : Int) ((i + 1 : Nat) : Int) (T.map toT) V else some false) (fun k => ?_) (Ev.bind hf (Ev.congr (fun k => if_pos rfl) ih))
    rw [ark_isGood.l1, if_pos (by simp; omega), if_pos (by omega), if_pos (by simp; omega), rdR_to e1]
    refine congrArg (fun f => Option.bind _ f) (funext fun z => ?_)
    by_cases hz : z = 0
    ·rw [if_pos hz, if_pos hz, if_neg (by omega), hw]
    ·rw [if_neg hz, if_neg hz]
theorem rdX_to {l : List (List (List Val))} {t : Nat} {x : List (List Val)} (h : l[t]? = some x) : rd_L11 (toTabs l) (t : Int) = x.map fun r => r.map toV := by
 show (toTabs l).getD (t : Int).toNat _ = _
 rw [List.getD_eq_getElem?_getD, List.getElem?_map, Int.toNat_natCast, h]
 rfl
theorem rowsN_cons (x : List (List Val)) (l : List (List (List Val))) : rowsN (x :: l) = x.length + rowsN l := by simp [rowsN]
theorem good0_to {T : List (List Int)} (hc : ∀ c ∈ T, 1 ≤ c.length) {V : List sVw} {l : List (List (List Val))} (hT : l.length = T.length) (htl : T.length ≤ 100) (hx : ∀ x ∈ l, x.length ≤ 1000000 ∧ ∀ r ∈ x, r.length ≤ 1000000) :
  ∀ d t n : Nat, t + d = T.length → n + rowsN (l.drop t) ≤ 1000000000 → Ev (fun k => ark_isGood.l0 k (n : Int) (toTabs l) ((toTabs l).length : Int) (t : Int) (T.map toT) V) (tabsB T (t : Int) (l.drop t) && decide ((n : Int) + rowsN (l.drop t) ≤ 1000))
 | 0, t, n, h, hn => by
  rw [List.drop_eq_nil_of_le (by omega)]
  refine Ev.one fun k => ?_
  rw [ark_isGood.l0, if_neg (by simp; omega)]
  simp [rowsN, tabsB]
 | d + 1, t, n, h, hn => by
  have e1 := List.getElem?_eq_getElem (show t < l.length by omega)
  have hmem : l[t] ∈ l := List.getElem_mem _
  rw [List.drop_eq_getElem_cons (show t < l.length by omega)] at hn ⊢
  generalize l[t] = x at e1 hmem hn
  rw [rowsN_cons] at hn ⊢
  have hlx : (x.map fun r => r.map toV).length = x.length := by simp
  have hw : wrap64 ((n : Int) + ((x.map fun r => r.map toV).length : Int)) = ((n + x.length : Nat) : Int) := by rw [hlx]; unfold wrap64; omega
  have ih := good0_to hc (V := V) hT htl hx d (t + 1) (n + x.length) (by omega) (by omega)
  have h1 := good1_to hc (t := t) (by omega) (by omega) (hx x hmem).1 (hx x hmem).2 ih x.length 0 (by omega) (fun q hq => by simp [prevR] at hq)
  rw [tabsB]
  have e2 : ((n + x.length : Nat) : Int) + (rowsN (l.drop (t + 1)) : Int) = (n : Int) + ((x.length + rowsN (l.drop (t + 1)) : Nat) : Int) := by omega
  rw [e2] at h1
  rw [show (t : Int) + 1 = ((t + 1 : Nat) : Int) by omega, Bool.and_assoc]
  refine Ev.step (fun k => ?_) h1
  rw [ark_isGood.l0, if_pos (by simp; omega), if_pos (by omega), if_pos (by simp; omega), rdX_to e1, hw]
  rfl
theorem planOk_all {T : List (List Int)} {V : List Vw} (h : planOk T V = true) : T.length ≤ 3 ∧ ∀ c ∈ T, 1 ≤ c.length ∧ c.length ≤ 4 := by
 unfold planOk at h
 simp only [Bool.and_eq_true, Bool.not_eq_true', decide_eq_false_iff_not] at h
 refine ⟨by omega, fun c hc => ?_⟩
 have := List.all_eq_true.1 h.2.2.2.1 c hc
 unfold tabOk at this
 simp only [Bool.and_eq_true, Bool.not_eq_true', decide_eq_false_iff_not] at this
 omega
theorem isGood_to {T : List (List Int)} {V : List Vw} {l : List (List (List Val))} (hx : ∀ x ∈ l, x.length ≤ 1000000 ∧ ∀ r ∈ x, r.length ≤ 1000000) (hn : rowsN l ≤ 1000000000) : Ev (fun k => ark_isGood.f k (T.map toT) (V.map toW) (toTabs l)) (goodT T V l) := by
 unfold goodT
 have hj : ∀ k, ark_isGood.j0 (k + 1) (toTabs l) true (T.map toT) (V.map toW) = some false := fun k => by rw [ark_isGood.j0, if_pos rfl]
 cases hp : planOk T V with
 | false =>
  refine Ev.congr (f := fun k => ark_isGood.j0 k (toTabs l) true (T.map toT) (V.map toW)) (fun k => ?_) (Ev.one hj)
  rw [ark_isGood.f, plan_Good.f, plan_to, hp, Option.bind_some, if_neg (by decide)]
 | true =>
  have hf : ∀ k, ark_isGood.f k (T.map toT) (V.map toW) (toTabs l) = ark_isGood.j0 k (toTabs l) ((l.length : Int) != (T.length : Int)) (T.map toT) (V.map toW) := fun k => by rw [ark_isGood.f, plan_Good.f, plan_to, hp, Option.bind_some, if_pos rfl, List.length_map, List.length_map]
  by_cases hT : l.length = T.length
  ·obtain ⟨p1, p2⟩ := planOk_all hp
   have h1 := good0_to (fun c hc => (p2 c hc).1) (V := V.map toW) hT (by omega) hx T.length 0 0 (by omega) (by rw [List.drop_zero]; omega)
   rw [List.drop_zero] at h1
   rw [decide_eq_true hT, tabsG_is T l 0 0 (by decide)]
   refine Ev.congr (fun k => by rw [hf, show ((l.length : Int) != (T.length : Int)) = false by simp [hT]]) (Ev.step (fun k => by rw [ark_isGood.j0, if_neg (by decide)]; rfl) h1)
  ·rw [decide_eq_false hT]
   exact Ev.congr (fun k => by rw [hf, show ((l.length : Int) != (T.length : Int)) = true by simp; omega]) (Ev.one hj)
open Go Go.RowKit Go.Shelf Go.Proofs.YtfkkeddjfiljfaaW.PrintWords Go.Proofs.Ytfkkeddjfiljfaa.PArk
theorem xor_low (k r : Nat) (h : r < 2 ^ k) : r ^^^ 2 ^ k = 2 ^ k + r := by
 apply Nat.eq_of_testBit_eq
 intro i
 have h2 := Nat.two_pow_add_eq_or_of_lt h 1
 rw [Nat.mul_one] at h2
 rw [Nat.testBit_xor, h2, Nat.testBit_or, Nat.testBit_two_pow]
 by_cases hi : k = i
 ·subst hi
  rw [Nat.testBit_lt_two_pow h]
  simp
 ·simp [hi]
theorem xor_top (k u : Nat) (h : u < 2 ^ (k + 1)) : u ^^^ 2 ^ k = (u + 2 ^ k) % 2 ^ (k + 1) := by
 have hp : 2 ^ (k + 1) = 2 ^ k * 2 := Nat.pow_succ 2 k
 by_cases hu : u < 2 ^ k
 ·rw [xor_low k u hu, Nat.mod_eq_of_lt (by omega)]
  omega
 ·have e := xor_low k (u - 2 ^ k) (by omega)
  rw [show 2 ^ k + (u - 2 ^ k) = u by omega] at e
  have : u ^^^ 2 ^ k = u - 2 ^ k := by
   conv => lhs; rw [← e]
   rw [Nat.xor_assoc, Nat.xor_self, Nat.xor_zero]
  rw [this, hp, show u + 2 ^ k = (u - 2 ^ k) + 2 ^ k * 2 by omega, Nat.add_mod_right, Nat.mod_eq_of_lt (by omega)]
theorem word_is (n : Int) : word n = (n + 9223372036854775808) % 18446744073709551616 := by
 unfold word
 rw [bits_xor_val, BitVec.toNat_xor, BitVec.toNat_ofInt, BitVec.toNat_ofInt, IntKind.wrap_u64]
 have h := xor_top 63 (n % 18446744073709551616 % 18446744073709551616).toNat (by omega)
 show (((n % 18446744073709551616 % 18446744073709551616).toNat ^^^ 2 ^ 63 : Nat) : Int) = _
 rw [h]
 omega
theorem top8 (b : Int) (h0 : 0 ≤ b) (h1 : b < 256) : IntKind.u8.wrap ((BitVec.ofInt IntKind.u8.bits b ^^^ BitVec.ofInt IntKind.u8.bits 128).toNat : Int) = (b + 128) % 256 := by
 show IntKind.u8.wrap ((BitVec.ofInt 8 b ^^^ BitVec.ofInt 8 128).toNat : Int) = _
 rw [BitVec.toNat_xor, BitVec.toNat_ofInt, BitVec.toNat_ofInt, IntKind.wrap_u8]
 have h := xor_top 7 (b % 256).toNat (by omega)
 show (((b % 256).toNat ^^^ 2 ^ 7 : Nat) : Int) % 256 = _
 rw [h]
 omega
theorem byteAt_is (n : Int) (k : Nat) : byteAt n k = n % 18446744073709551616 / 2 ^ k % 256 := by
 unfold byteAt
 rw [IntKind.wrap_u8, IntKind.wrap_u64, Int.fdiv_eq_ediv_of_nonneg _ (Int.pow_nonneg (by decide))]
theorem be8_list (x : Int) : be8 x = [x / 72057594037927936 % 256, x / 281474976710656 % 256, x / 1099511627776 % 256, x / 4294967296 % 256, x / 16777216 % 256, x / 65536 % 256, x / 256 % 256, x / 1 % 256] := rfl
theorem codeNum_to (n : Int) : 1 :: (be8 (word n)).map (fun n => UInt8.ofNat n.toNat) = codeNum n := by
 rw [be8_list, word_is]
 unfold codeNum u8b
 rw [top8 _ (by rw [byteAt_is]; omega) (by rw [byteAt_is]; omega), byteAt_is, byteAt_is, byteAt_is, byteAt_is, byteAt_is, byteAt_is, byteAt_is, byteAt_is]
 simp only [List.map_cons, List.map_nil]
 congr 2
 ·congr 2
  show _ = (n % 18446744073709551616 / 72057594037927936 % 256 + 128) % 256
  omega
 ·congr 1
  ·congr 2
   show _ = n % 18446744073709551616 / 281474976710656 % 256
   omega
  ·congr 1
   ·congr 2
    show _ = n % 18446744073709551616 / 1099511627776 % 256
    omega
   ·congr 1
    ·congr 2
     show _ = n % 18446744073709551616 / 4294967296 % 256
     omega
    ·congr 1
     ·congr 2
      show _ = n % 18446744073709551616 / 16777216 % 256
      omega
     ·congr 1
      ·congr 2
       show _ = n % 18446744073709551616 / 65536 % 256
       omega
      ·congr 1
       ·congr 2
        show _ = n % 18446744073709551616 / 256 % 256
        omega
       ·congr 3
        show _ = n % 18446744073709551616 / 1 % 256
        omega
theorem rep_zero : ∀ n : Nat, Lib.repeatL [0] n = List.replicate n (0 : UInt8)
 | 0 => rfl
 | n + 1 => by
  rw [Lib.repeatL, rep_zero n]
  first
  | rfl
  | simp [List.replicate_succ]
  | rw [List.replicate_succ']
theorem code_to {v : Val} (h : goodVal v = true) : (codeV (toV v)).data.toList = codeL v := by
 unfold codeV codeL
 by_cases h1 : v.1 = 1
 ·rw [if_pos h1, if_pos (show (toV v).f0 = 1 from h1), app_data, strOfNums_data, ← codeNum_to]
  rfl
 ·rw [if_neg h1, if_neg (show ¬ (toV v).f0 = 1 from h1), app_data, app_data, app_data, ← rep_zero]
  have : (toV v).f2.size = v.2.2.length := ofL_size _
  rw [this]
  show [2] ++ v.2.2 ++ Lib.repeatL [0] (7 - v.2.2.length) ++ [UInt8.ofNat v.2.2.length] = _
  simp
theorem row_to : ∀ {r : List Val}, (∀ v ∈ r, goodVal v = true) → codesL (r.map toV) = rowBy r
 | [], _ => rfl
 | v :: r, h => by
  show (codeV (toV v)).data.toList ++ codesL (r.map toV) = codeL v ++ rowBy r
  rw [code_to (h v (by simp)), row_to fun x hx => h x (by simp [hx])]
theorem rows_to : ∀ {x : List (List Val)}, (∀ r ∈ x, ∀ v ∈ r, goodVal v = true) → (x.map fun r => r.map toV).flatMap codesL = rowsBy x
 | [], _ => rfl
 | r :: x, h => by
  show codesL (r.map toV) ++ (x.map fun r => r.map toV).flatMap codesL = rowBy r ++ rowsBy x
  rw [row_to (h r (by simp)), rows_to fun y hy => h y (by simp [hy])]
theorem by2_to (n : Nat) : [UInt8.ofNat (n % 256), UInt8.ofNat (n / 256)] = by2 (n : Int) := by
 unfold by2 u8b
 rw [IntKind.wrap_u8, IntKind.wrap_u8, Int.fdiv_eq_ediv_of_nonneg _ (by decide)]
 congr 2
 rw [← UInt8.toNat_inj, UInt8.toNat_ofNat', UInt8.toNat_ofNat']
 show _ = ((n : Int) / 256 % 256).toNat % 256
 omega
theorem tabBy_to {x : List (List Val)} (h : ∀ r ∈ x, ∀ v ∈ r, goodVal v = true) : tabB (x.map fun r => r.map toV) = tabBy x := by
 unfold tabB tabBy
 rw [rows_to h, by2_to, List.length_map]
theorem body_to : ∀ {l : List (List (List Val))}, (∀ x ∈ l, ∀ r ∈ x, ∀ v ∈ r, goodVal v = true) → packB (toTabs l) = bodyBy l
 | [], _ => rfl
 | x :: l, h => by
  show tabB (x.map fun r => r.map toV) ++ packB (toTabs l) = tabBy x ++ bodyBy l
  rw [tabBy_to (h x (by simp)), body_to fun y hy => h y (by simp [hy])]
theorem xor32_range (a b : Int) : 0 ≤ xor32 a b ∧ xor32 a b < 4294967296 := by
 unfold xor32
 rw [IntKind.wrap_u32]
 omega
theorem xor32_zero (a : Int) (h0 : 0 ≤ a) (h1 : a < 4294967296) : xor32 a 0 = a := by
 show IntKind.u32.wrap ((BitVec.ofInt 32 a ^^^ BitVec.ofInt 32 0).toNat : Int) = a
 rw [show BitVec.ofInt 32 0 = 0#32 from rfl, BitVec.xor_zero, BitVec.toNat_ofInt, IntKind.wrap_u32]
 omega
theorem and1_is (c : Int) : and1 c = c % 2 := by
 show IntKind.u32.wrap ((BitVec.ofInt 32 c &&& BitVec.ofInt 32 1).toNat : Int) = _
 rw [IntKind.wrap_u32, BitVec.toNat_and, BitVec.toNat_ofInt, BitVec.toNat_ofInt]
 show (((c % 4294967296).toNat &&& 1 : Nat) : Int) % 4294967296 = _
 rw [Nat.and_one_is_mod]
 omega
theorem shr1_is (c : Int) : shr1 c = c / 2 := by
 show c.fdiv 2 = c / 2
 exact Int.fdiv_eq_ediv_of_nonneg _ (by decide)
theorem bit_range (c : Int) (h0 : 0 ≤ c) (h1 : c < 4294967296) : 0 ≤ crcBit c ∧ crcBit c < 4294967296 := by
 unfold crcBit
 split
 ·exact xor32_range _ _
 ·rw [shr1_is]; omega
theorem bit_to (c : Int) (h0 : 0 ≤ c) (h1 : c < 4294967296) : Go.bits .xor .u32 (c / 2) (Go.bits .and .u32 3988292384 ((-(Go.bits .and .u32 c 1)) % 4294967296)) = crcBit c := by
 have ha : Go.bits .and .u32 c 1 = and1 c := rfl
 rw [ha]
 unfold crcBit
 by_cases h : and1 c = 1
 ·rw [h, if_pos rfl, shr1_is]
  have : Go.bits .and .u32 3988292384 ((-(1 : Int)) % 4294967296) = 3988292384 := by rfl
  rw [this]
  rfl
 ·have h0' : and1 c = 0 := by rw [and1_is] at h ⊢; omega
  rw [h0', if_neg (by decide), shr1_is]
  have : Go.bits .and .u32 3988292384 ((-(0 : Int)) % 4294967296) = 0 := by rfl
  rw [this]
  exact xor32_zero _ (by omega) (by omega)
theorem shifted_to : ∀ (d i : Nat) (c : Int), i + d = 8 → 0 ≤ c → c < 4294967296 → Ev (fun k => crc_shifted.l0 k c (i : Int)) (iter crcBit d c)
 | 0, i, c, h, _, _ => Ev.one fun k => by rw [crc_shifted.l0, if_neg (by omega)]; rfl
 | d + 1, i, c, h, h0, h1 => by
  have hw : wrap64 ((i : Int) + 1) = ((i + 1 : Nat) : Int) := by unfold wrap64; omega
  obtain ⟨a, b⟩ := bit_range c h0 h1
  exact Ev.step (fun k => by rw [crc_shifted.l0, if_pos (by omega), hw, bit_to c h0 h1]) (shifted_to d (i + 1) (crcBit c) (by omega) a b)
theorem sum_to (s : List UInt8) (hs : s.length ≤ 1000000000) : ∀ (d i : Nat) (c : Int), i + d = s.length → Ev (fun k => crc_Sum.l0 k (ofL s) c (s.length : Int) (i : Int)) (xor32 (crcFold (s.drop i) c) 4294967295)
 | 0, i, c, h => by
  rw [List.drop_eq_nil_of_le (by omega)]
  exact Ev.one fun k => by rw [crc_Sum.l0, if_neg (by omega)]; rfl
 | d + 1, i, c, h => by
  have hw : wrap64 ((i : Int) + 1) = ((i + 1 : Nat) : Int) := by unfold wrap64; omega
  have e1 := List.getElem?_eq_getElem (show i < s.length by omega)
  rw [List.drop_eq_getElem_cons (show i < s.length by omega), crcFold]
  generalize s[i] = b at e1
  have hb : bt (ofL s) (i : Int) = (b.toNat : Int) := by rw [bt_data, ofL_data, e1]; rfl
  have hbb := b.toNat_lt
  obtain ⟨r0, r1⟩ := xor32_range c (IntKind.u32.wrap b.toNat)
  have hy : Ev (fun k => crc_shifted.f k (Go.bits .xor .u32 c ((bt (ofL s) (i : Int)) % 4294967296))) (crcByte c b) := by
   rw [hb]
   have : Go.bits .xor .u32 c ((b.toNat : Int) % 4294967296) = xor32 c (IntKind.u32.wrap b.toNat) := by rw [IntKind.wrap_u32]; rfl
   rw [this]
   exact shifted_to 8 0 _ rfl r0 r1
  refine Ev.step (f := fun k => (crc_shifted.f k (Go.bits .xor .u32 c ((bt (ofL s) (i : Int)) % 4294967296))).bind fun t => crc_Sum.l0 k (ofL s) t (s.length : Int) ((i + 1 : Nat) : Int)) (fun k => by rw [crc_Sum.l0, if_pos (by omega), if_pos (by omega), if_pos (by rw [ofL_size]; omega), hw]) (Ev.bind hy (sum_to s hs d (i + 1) _ (by omega)))
theorem tail_to (n : Int) : strOfNums (le4 n) = ofL (tailL n) := by
 refine bytes_ext ?_
 rw [strOfNums_data, ofL_data]
 have e : le4 n = [n / 1 % 256, n / 256 % 256, n / 65536 % 256, n / 16777216 % 256] := rfl
 rw [e]
 unfold tailL tailB
 simp only [IntKind.wrap_u8, List.map_cons, List.map_nil]
 rw [Int.fdiv_eq_ediv_of_nonneg _ (by decide), Int.fdiv_eq_ediv_of_nonneg _ (by decide), Int.fdiv_eq_ediv_of_nonneg _ (by decide), Int.ediv_one]
 rfl
theorem seal_to (s : List UInt8) (hs : s.length ≤ 900000000) : Ev (fun k => crc_Seal.f k (ofL s)) (ofL (s ++ tailL (crcSum s))) := by
 have h := sum_to s (by omega) s.length 0 4294967295 (by omega)
 rw [List.drop_zero] at h
 refine Ev.congr (f := fun k => (crc_Sum.l0 k (ofL s) 4294967295 (s.length : Int) ((0 : Nat) : Int)).bind fun t => (crc_Tail.f t).bind fun u => if (ofL s).size + u.size ≤ 9223372036854775807 then some (ofL s ++ u) else none) (fun k => ?_) (Ev.bind h (Ev.congr (fun k => ?_) (Ev.now _)))
 ·rw [crc_Seal.f, crc_Sum.f, ofL_size]
  rfl
 ·show (crc_Tail.f (crcSum s)).bind _ = _
  rw [crc_Tail.f, tail_to, Option.bind_some, ofL_size, ofL_size, if_pos (by show s.length + 4 ≤ _; omega)]
  refine congrArg some (bytes_ext ?_)
  rw [app_data]
  rfl
end Go.Proofs.Ytfkkeddjfiljfaa.AM.Ax
