/-
  THE ABSTRACT MACHINE: slices.IndexFunc and slices.ContainsFunc over rows that nobody writes.
-/
import Derived.Test.YtlogcjaigjcmiaaGreatAmLv
import Derived.KernelRfl
import Derived.IntWalk
set_option linter.unusedVariables false
set_option linter.unusedSimpArgs false
namespace Go.Proofs.YtlogcjaigjcmiaaGreat.AM
open Go

/-- slices.IndexFunc, of elements of st cells. -/
def idxF (st : Nat) (ld : Option Nat) : AFunc := ⟨19, (.seq (.reg [⟨some 4, .mv (.c (.int .i64 0)), none, 0, 0⟩])
 (.seq (.seq (.reg [⟨some 6, .mv (.t 0), none, 0, 0⟩, ⟨some 7, .len 1 (.t 6), none, 0, 0⟩, ⟨some 8, .mv (.c (.int .i64 0)), none, 0, 0⟩])
 (.block 0 (.loop (.seq (.reg [⟨some 9, .bin .lss (.t 8) (.t 7), none, 0, 0⟩])
  (.seq (.cond (.t 9) (.skip)
   (.exit 0))
  (.seq (.block 1 (.seq (.reg [⟨some 10, .mv (.t 8), none, 0, 0⟩, ⟨some 5, .mv (.t 10), none, 0, 0⟩])
  (.seq (.reg [⟨some 11, .mv (.t 1), none, 0, 0⟩, ⟨some 12, .mv (.t 0), none, 0, 0⟩, ⟨some 13, .mv (.t 5), none, 0, 0⟩, ⟨some 14, .idxAddr st (.t 12) (.t 13), none, 0, 0⟩, ⟨some 15, .load ld (.t 14), none, 0, 0⟩, ⟨some 16, .call (.t 11) [(.t 15)], none, 0, 0⟩])
  (.cond (.t 16) (.seq (.reg [⟨some 17, .mv (.t 5), none, 0, 0⟩, ⟨some 4, .mv (.t 17), none, 0, 0⟩])
   .ret)
   (.skip)))))
  (.reg [⟨some 18, .bin .add (.t 8) (.c (.int .i64 1)), none, 0, 0⟩, ⟨some 8, .mv (.t 18), none, 0, 0⟩])))))))
 (.seq (.reg [⟨some 4, .mv (.c (.int .i64 (-1))), none, 0, 0⟩])
 .ret))), [.t 4]⟩
/-- slices.ContainsFunc, by its IndexFunc. -/
def conF (g : Nat) : AFunc := ⟨9, (.seq (.reg [⟨some 4, .mv (.c (.bool false)), none, 0, 0⟩])
 (.seq (.reg [⟨some 5, .mv (.t 0), none, 0, 0⟩, ⟨some 6, .mv (.t 1), none, 0, 0⟩, ⟨some 7, .call (.c (.fn (.func g) [] [])) [(.t 5), (.t 6)], none, 0, 0⟩, ⟨some 8, .bin .geq (.t 7) (.c (.int .i64 0)), none, 0, 0⟩, ⟨some 4, .mv (.t 8), none, 0, 0⟩])
 .ret)), [.t 4]⟩
def hd : ACode → ACode
  | .seq a _ => a
  | c => c
def tl : ACode → ACode
  | .seq _ b => b
  | c => c
def blk : ACode → ACode
  | .block _ b => b
  | c => c
def lp : ACode → ACode
  | .loop b => b
  | c => c
section
variable {Γ : FuncId → Option (List AV → List Blk → Option (AV × List Blk × Option Nat))} {tbl : FuncId → Option AFunc}
theorem Lv.of {nt : Nat} {outs : List Nat} {vals : List AV} {t : List AV} (hl : t.length = nt) (h : outs.map (getX t) = vals) : Lv nt (outs.zip vals) t := by
  refine ⟨hl, fun p hp => ?_⟩
  subst h
  rw [List.zip_map_right, List.mem_map] at hp
  obtain ⟨q, hq, rfl⟩ := hp
  have : q.1 = q.2 := by
    clear hl
    induction outs with
    | nil => cases hq
    | cons a l ih =>
      rcases List.mem_cons.1 hq with h | h
      · rw [h]
      · exact ih h
  simp only [Prod.map]
  simp [this]
theorem i64_succ {i : Int} (h1 : 0 ≤ i) (h2 : i < 9223372036854775807) : IntKind.i64.wrap (i + 1) = i + 1 := IntWalk.i64_in _ (by omega)
/-- A path whose ends are known by names. -/
theorem path2 {nt live} {k : ACode} {t : List AV} {h : List Blk} {ds : List Dec} (outs : List Nat) {e : AExit} {vals : List AV} {h' : List Blk} {cs : List Prop} (hl : Lv nt live t)
    (hp : ∀ t0, (symC Γ tbl k { t := mkT nt live t0, h := h, lo := none } ds).map (fun x => (x.1, outs.map (getX x.2.1.t), x.2.1.h, x.2.1.lo, x.2.2.2)) = some (e, vals, h', none, cs)) (hc : allP cs) :
    Wp Γ tbl k { t := t, h := h, lo := none } fun e2 s2 => e2 = e ∧ ∃ t2, s2 = { t := t2, h := h', lo := none } ∧ Lv nt (outs.zip vals) t2 := by
  refine (path (s := { t := t, h := h, lo := none }) outs hl hp hc).mono ?_
  rintro e2 ⟨t2, h2, lo2⟩ ⟨h1, h3, h4, h5, h6⟩
  exact ⟨h1, t2, by simp_all, Lv.of h3 h4⟩
/-- The same, where own blocks were written. -/
theorem path3 {nt live} {k : ACode} {t : List AV} {h : List Blk} {lo : Option Nat} {ds : List Dec} (outs : List Nat) {e : AExit} {vals : List AV} {h' : List Blk} {lo' : Option Nat} {cs : List Prop} (hl : Lv nt live t)
    (hp : ∀ t0, (symC Γ tbl k { t := mkT nt live t0, h := h, lo := lo } ds).map (fun x => (x.1, outs.map (getX x.2.1.t), x.2.1.h, x.2.1.lo, x.2.2.2)) = some (e, vals, h', lo', cs)) (hc : allP cs) :
    Wp Γ tbl k { t := t, h := h, lo := lo } fun e2 s2 => e2 = e ∧ ∃ t2, s2 = { t := t2, h := h', lo := lo' } ∧ Lv nt (outs.zip vals) t2 := by
  refine (path (s := { t := t, h := h, lo := lo }) outs hl hp hc).mono ?_
  rintro e2 ⟨t2, h2, lo2⟩ ⟨h1, h3, h4, h5, h6⟩
  exact ⟨h1, t2, by simp_all, Lv.of h3 h4⟩
theorem idxF_cl {f st g : Nat} {ld : Option Nat} (hg : Γ f = none) (ht : tbl f = some (idxF st ld)) {xs : List AV} {ex : Bool} (hlen : xs.length ≤ 9223372036854775807) (F : AV → Bool) (I : List Blk → Prop) {first cap : List AV}
    (hld : ∀ x ∈ xs, cellsN ld ≤ x.cells.length ∧ asVar ld (x.cells.take (cellsN ld)) = some x)
    (hx : ∀ x ∈ xs, ∀ h, I h → ∃ h', I h' ∧ Cl Γ tbl g (first ++ ([x] ++ cap)) h (.bool (F x), h', none)) (h : List Blk) (hI : I h) :
    ∃ n h', I h' ∧ Cl Γ tbl f [.ro xs st ex, .fn (.func g) first cap] h (.int .i64 n, h', none) ∧ (decide (0 ≤ n) = xs.any F) := by
  suffices hw : Wp Γ tbl (idxF st ld).body { t := [.ro xs st ex, .fn (.func g) first cap] ++ List.replicate 17 (.tup []), h := h } fun e s => e = .ret ∧ s.lo = none ∧ I s.h ∧ ∃ n, getX s.t 4 = .int .i64 n ∧ (decide (0 ≤ n) = xs.any F) by
    obtain ⟨m, e, ⟨t2, h2, lo2⟩, h1, rfl, rfl, h3, n, h4, h5⟩ := hw
    refine ⟨n, h2, h3, ?_, h5⟩
    refine Cl.of hg ht (by simp [idxF]) ⟨m, _, _, h1, (fun i hi => by cases hi), [.int .i64 n], ?_, rfl, rfl, rfl⟩
    show (match resOf _ (.t 4), some [] with | some v, some vs => some (v :: vs) | _, _ => none) = _
    simp only [resOf]
    rw [getX_eq] at h4
    rw [h4]
  refine Wp.seq ?_
  refine (path2 (nt := 19) (live := [(0, .ro xs st ex), (1, .fn (.func g) first cap)]) [0, 1] (e := .normal) (vals := [.ro xs st ex, .fn (.func g) first cap]) (h' := h) (ds := []) (cs := []) ⟨by simp, by simp [getX_eq]⟩ (fun t0 => by kernel_rfl) trivial).mono ?_
  rintro e s ⟨rfl, t1, rfl, hl1⟩
  refine Wp.seq ?_
  refine Wp.seq ?_
  refine (path2 [0, 1, 7, 8] (e := .normal) (vals := [.ro xs st ex, .fn (.func g) first cap, .int .i64 xs.length, .int .i64 0]) (h' := h) (ds := []) (cs := []) hl1 (fun t0 => by kernel_rfl) trivial).mono ?_
  rintro e s ⟨rfl, t2, rfl, hl2⟩
  refine Wp.block ?_
  refine Wp.loop (fun k s => ∃ (i : Nat) (t : List AV) (h : List Blk), s = { t := t, h := h, lo := none } ∧ k = xs.length - i ∧ i ≤ xs.length ∧ I h ∧ Lv 19 [(0, .ro xs st ex), (1, .fn (.func g) first cap), (7, .int .i64 xs.length), (8, .int .i64 (i : Int))] t ∧ ∀ j x, j < i → xs[j]? = some x → F x = false) ?_ xs.length _ ⟨0, t2, h, rfl, by omega, by omega, hI, hl2, fun j x hj => by omega⟩
  rintro k s ⟨i, t, h, rfl, rfl, hi, hI, hl, hF⟩
  by_cases hlt : i < xs.length
  · have hxi := List.getElem?_eq_getElem hlt
    have hxm : xs[i] ∈ xs := List.getElem_mem hlt
    generalize xs[i] = x at hxi hxm
    obtain ⟨h', hI', hcl⟩ := hx x hxm h hI
    obtain ⟨hc1, hc2⟩ := hld x hxm
    cases hFx : F x with
    | true =>
      rw [hFx] at hcl
      refine (path2 [4] (e := .ret) (vals := [.int .i64 (i : Int)]) (h' := h') (ds := [.b true, .f x, .r (.bool true) h' none])
        (cs := [some (AV.bool (decide ((i : Int) < (xs.length : Int)))) = some (.bool true), st = st, 0 ≤ (i : Int), (i : Int) < (xs.length : Int), (rdPtr h (cellsN ld) (.rop xs st (i : Int).toNat 0)).bind (asVar ld) = some x, Cl Γ tbl g (first ++ ([x] ++ cap)) h (.bool true, h', none)]) hl (fun t0 => by kernel_rfl) ?_).mono ?_
      · refine ⟨by simp; omega, rfl, by omega, by omega, ?_, hcl, trivial⟩
        simp [rdPtr, hxi, hc1, hc2]
      · rintro e s ⟨rfl, t3, rfl, hl3⟩
        refine ⟨rfl, rfl, hI', (i : Int), hl3.get _ (List.mem_singleton.2 rfl), ?_⟩
        rw [List.any_eq_true.2 ⟨x, hxm, hFx⟩]
        simp
    | false =>
      rw [hFx] at hcl
      refine (path2 [0, 1, 7, 8] (e := .normal) (vals := [.ro xs st ex, .fn (.func g) first cap, .int .i64 xs.length, .int .i64 (IntKind.i64.wrap ((i : Int) + 1))]) (h' := h') (ds := [.b true, .f x, .r (.bool false) h' none])
        (cs := [some (AV.bool (decide ((i : Int) < (xs.length : Int)))) = some (.bool true), st = st, 0 ≤ (i : Int), (i : Int) < (xs.length : Int), (rdPtr h (cellsN ld) (.rop xs st (i : Int).toNat 0)).bind (asVar ld) = some x, Cl Γ tbl g (first ++ ([x] ++ cap)) h (.bool false, h', none)]) hl (fun t0 => by kernel_rfl) ?_).mono ?_
      · refine ⟨by simp; omega, rfl, by omega, by omega, ?_, hcl, trivial⟩
        simp [rdPtr, hxi, hc1, hc2]
      · rintro e s ⟨rfl, t3, rfl, hl3⟩
        refine ⟨xs.length - (i + 1), by omega, i + 1, t3, h', rfl, rfl, by omega, hI', ?_, ?_⟩
        · rw [i64_succ (by omega) (by omega)] at hl3
          exact hl3
        · intro j y hj hy
          by_cases hji : j = i
          · subst hji; rw [hxi] at hy; cases hy; exact hFx
          · exact hF j y (by omega) hy
  · refine (path2 [4] (e := .exit 0) (vals := [getX t 4]) (h' := h) (ds := [.b false])
        (cs := [some (AV.bool (decide ((i : Int) < (xs.length : Int)))) = some (.bool false)]) (live := [(0, .ro xs st ex), (1, .fn (.func g) first cap), (4, getX t 4), (7, .int .i64 xs.length), (8, .int .i64 (i : Int))]) ⟨hl.len, ?_⟩ (fun t0 => by kernel_rfl) ⟨by simp; omega, trivial⟩).mono ?_
    · intro p hp
      simp only [List.mem_cons, List.not_mem_nil, or_false] at hp
      rcases hp with rfl | rfl | rfl | rfl | rfl
      · exact hl.get (0, _) (by simp)
      · exact hl.get (1, _) (by simp)
      · rfl
      · exact hl.get (7, _) (by simp)
      · exact hl.get (8, _) (by simp)
    · rintro e s ⟨rfl, t3, rfl, hl3⟩
      refine (path2 (nt := 19) (live := []) [4] (e := .ret) (vals := [.int .i64 (-1)]) (h' := h) (ds := []) (cs := []) ⟨hl3.len, by simp⟩ (fun t0 => by kernel_rfl) trivial).mono ?_
      rintro e s ⟨rfl, t4, rfl, hl4⟩
      refine ⟨rfl, rfl, hI, -1, hl4.get _ (List.mem_singleton.2 rfl), ?_⟩
      have : xs.any F = false := by
        rw [List.any_eq_false]
        intro x hx
        obtain ⟨j, hj, rfl⟩ := List.getElem_of_mem hx
        have := hF j _ (by omega) (List.getElem?_eq_getElem hj)
        simp [this]
      rw [this]
      rfl
theorem conF_cl {f g' st g : Nat} {ld : Option Nat} (hg : Γ f = none) (ht : tbl f = some (conF g')) (hg' : Γ g' = none) (ht' : tbl g' = some (idxF st ld)) {xs : List AV} {ex : Bool} (hlen : xs.length ≤ 9223372036854775807) (F : AV → Bool) (I : List Blk → Prop) {first cap : List AV}
    (hld : ∀ x ∈ xs, cellsN ld ≤ x.cells.length ∧ asVar ld (x.cells.take (cellsN ld)) = some x)
    (hx : ∀ x ∈ xs, ∀ h, I h → ∃ h', I h' ∧ Cl Γ tbl g (first ++ ([x] ++ cap)) h (.bool (F x), h', none)) (h : List Blk) (hI : I h) :
    ∃ h', I h' ∧ Cl Γ tbl f [.ro xs st ex, .fn (.func g) first cap] h (.bool (xs.any F), h', none) := by
  obtain ⟨n, h', hI', hcl, hn⟩ := idxF_cl hg' ht' (ex := ex) hlen F I hld hx h hI
  refine ⟨h', hI', ?_⟩
  obtain ⟨m, e, ⟨t2, h2, lo2⟩, h1, rfl, t3, h3, hl3⟩ := path2 (nt := 9) (t := [.ro xs st ex, .fn (.func g) first cap] ++ List.replicate 7 (.tup [])) (live := [(0, .ro xs st ex), (1, .fn (.func g) first cap)]) (k := (conF g').body) [4] (e := .ret) (vals := [.bool (xs.any F)]) (h := h) (h' := h') (ds := [.r (.int .i64 n) h' none, .b (xs.any F)])
    (cs := [Cl Γ tbl g' [.ro xs st ex, .fn (.func g) first cap] h (.int .i64 n, h', none), some (AV.bool (decide (0 ≤ n))) = some (AV.bool (xs.any F))]) ⟨by simp, by simp [getX_eq]⟩ (fun t0 => by kernel_rfl) ⟨hcl, by rw [hn], trivial⟩
  cases h3
  refine Cl.of hg ht (by simp [conF]) ⟨m, _, _, h1, (fun i hi => by cases hi), [.bool (xs.any F)], ?_, rfl, rfl, rfl⟩
  have h4 := hl3.get (4, .bool (xs.any F)) (List.mem_singleton.2 rfl)
  simp only at h4
  rw [getX_eq] at h4
  show (match resOf _ (.t 4), some [] with | some v, some vs => some (v :: vs) | _, _ => none) = _
  simp only [resOf]
  rw [h4]
end
end Go.Proofs.YtlogcjaigjcmiaaGreat.AM
