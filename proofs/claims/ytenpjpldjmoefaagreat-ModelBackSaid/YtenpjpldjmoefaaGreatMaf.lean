/-
  'gauger's law ModelBack holds of every input: it returns true, and each argument reads behind the call as it read before.
  This text: part 6 of 22 of the proof (AmCt, AmFc, AmAp).
-/
import Derived.Test.YtenpjpldjmoefaaGreatMae
import Derived.KernelRfl
import Derived.IntWalk
set_option linter.unusedVariables false
set_option linter.unusedSimpArgs false
namespace Go.Proofs.YtenpjpldjmoefaaGreat.AM
open Go
def idxF (st : Nat) (ld : Option Nat) : AFunc := ⟨19, (.seq (.reg [⟨some 4, .mv (.c (.int .i64 0)), none, 0, 0⟩])
 (.seq (.seq (.reg [⟨some 6, .mv (.t 0), none, 0, 0⟩, ⟨some 7, .len 1 (.t 6), none, 0, 0⟩, ⟨some 8, .mv (.c (.int .i64 0)), none, 0, 0⟩])
 (.block 0 (.loop (.seq (.reg [⟨some 9, .bin .lss (.t 8) (.t 7), none, 0, 0⟩])
  (.seq (.cond (.t 9) (.skip)
   (.exit 0))
  (.seq (.block 1 (.seq (.reg [⟨some 10, .mv (.t 8), none, 0, 0⟩, ⟨some 5, .mv (.t 10), none, 0, 0⟩])
  (.seq (.reg [⟨some 11, .mv (.t 1), none, 0, 0⟩, ⟨some 12, .mv (.t 0), none, 0, 0⟩, ⟨some 13, .mv (.t 5), none, 0, 0⟩, ⟨some 14, .idxAddr st (.t 12) (.t 13), none, 0, 0⟩, ⟨some 15, .load ld (.t 14), none, 0, 0⟩, ⟨some 16, .call (.t 11) [(.t 15)], none, 0, 0⟩])
  (.cond (.t 16) (.seq (.reg [⟨some 17, .mv (.t 5), none, 0, 0⟩, ⟨some 4, .mv (.t 17), none, 0, 0⟩])
   .ret)
   (.skip)))))
  (.reg [⟨some 18, .bin .add (.t 8) (.c (.int .i64 1)), none, 0, 0⟩, ⟨some 8, .mv (.t 18), none, 0, 0⟩])))))))
 (.seq (.reg [⟨some 4, .mv (.c (.int .i64 (-1))), none, 0, 0⟩])
 .ret))), [.t 4]⟩
def conF (g : Nat) : AFunc := ⟨9, (.seq (.reg [⟨some 4, .mv (.c (.bool false)), none, 0, 0⟩])
 (.seq (.reg [⟨some 5, .mv (.t 0), none, 0, 0⟩, ⟨some 6, .mv (.t 1), none, 0, 0⟩, ⟨some 7, .call (.c (.fn (.func g) [] [])) [(.t 5), (.t 6)], none, 0, 0⟩, ⟨some 8, .bin .geq (.t 7) (.c (.int .i64 0)), none, 0, 0⟩, ⟨some 4, .mv (.t 8), none, 0, 0⟩])
 .ret)), [.t 4]⟩
def hd : ACode → ACode
  | .seq a _ => a
  | c => c
def tl : ACode → ACode
  | .seq _ b => b
  | c => c
def blk : ACode → ACode
  | .block _ b => b
  | c => c
def lp : ACode → ACode
  | .loop b => b
  | c => c
section
variable {Γ : FuncId → Option (List AV → List Blk → Option (AV × List Blk × Option Nat))} {tbl : FuncId → Option AFunc}
theorem Lv.of {nt : Nat} {outs : List Nat} {vals : List AV} {t : List AV} (hl : t.length = nt) (h : outs.map (getX t) = vals) : Lv nt (outs.zip vals) t := by
  refine ⟨hl, fun p hp => ?_⟩
  subst h
  rw [List.zip_map_right, List.mem_map] at hp
  obtain ⟨q, hq, rfl⟩ := hp
  have : q.1 = q.2 := by
    clear hl
    induction outs with
    | nil => cases hq
    | cons a l ih =>
      rcases List.mem_cons.1 hq with h | h
      · rw [h]
      · exact ih h
  simp only [Prod.map]
  simp [this]
theorem i64_succ {i : Int} (h1 : 0 ≤ i) (h2 : i < 9223372036854775807) : IntKind.i64.wrap (i + 1) = i + 1 := IntWalk.i64_in _ (by omega)
abbrev cB (x b : Bool) : Prop := some (AV.bool x) = some (AV.bool b)
theorem cT {p : Prop} [Decidable p] (h : p) : cB (decide p) true := by rw [decide_eq_true h]
theorem cF {p : Prop} [Decidable p] (h : ¬ p) : cB (decide p) false := by rw [decide_eq_false h]
theorem cE {a b : Int} (h : a = b) : cB (a == b) true := by simp [h]
theorem cN {a b : Int} (h : ¬ a = b) : cB (a == b) false := by simp [h]
theorem cD {a b : Int} (h : ¬ a = b) : cB (a != b) true := by simp [h]
theorem cS {a b : Int} (h : a = b) : cB (a != b) false := by simp [h]
theorem path2 {nt live} {k : ACode} {t : List AV} {h : List Blk} {ds : List Dec} (outs : List Nat) {e : AExit} {vals : List AV} {h' : List Blk} {cs : List Prop} (hl : Lv nt live t)
    (hp : ∀ t0, (symC Γ tbl k { t := mkT nt live t0, h := h, lo := none } ds).map (fun x => (x.1, outs.map (getX x.2.1.t), x.2.1.h, x.2.1.lo, x.2.2.2)) = some (e, vals, h', none, cs)) (hc : allP cs) :
    Wp Γ tbl k { t := t, h := h, lo := none } fun e2 s2 => e2 = e ∧ ∃ t2, s2 = { t := t2, h := h', lo := none } ∧ Lv nt (outs.zip vals) t2 := by
  refine (path (s := { t := t, h := h, lo := none }) outs hl hp hc).mono ?_
  rintro e2 ⟨t2, h2, lo2⟩ ⟨h1, h3, h4, h5, h6⟩
  exact ⟨h1, t2, by simp_all, Lv.of h3 h4⟩
theorem idxF_cl {f st g : Nat} {ld : Option Nat} (hg : Γ f = none) (ht : tbl f = some (idxF st ld)) {xs : List AV} {ex : Bool} (hlen : xs.length ≤ 9223372036854775807) (F : AV → Bool) (I : List Blk → Prop) {first cap : List AV}
    (hld : ∀ x ∈ xs, cellsN ld ≤ x.cells.length ∧ asVar ld (x.cells.take (cellsN ld)) = some x)
    (hx : ∀ x ∈ xs, ∀ h, I h → ∃ h', I h' ∧ Cl Γ tbl g (first ++ ([x] ++ cap)) h (.bool (F x), h', none)) (h : List Blk) (hI : I h) :
    ∃ n h', I h' ∧ Cl Γ tbl f [.ro xs st ex, .fn (.func g) first cap] h (.int .i64 n, h', none) ∧ (decide (0 ≤ n) = xs.any F) := by
  suffices hw : Wp Γ tbl (idxF st ld).body { t := [.ro xs st ex, .fn (.func g) first cap] ++ List.replicate 17 (.tup []), h := h } fun e s => e = .ret ∧ s.lo = none ∧ I s.h ∧ ∃ n, getX s.t 4 = .int .i64 n ∧ (decide (0 ≤ n) = xs.any F) by
    obtain ⟨m, e, ⟨t2, h2, lo2⟩, h1, rfl, rfl, h3, n, h4, h5⟩ := hw
    refine ⟨n, h2, h3, ?_, h5⟩
    refine Cl.of hg ht (by simp [idxF]) ⟨m, _, _, h1, (fun i hi => by cases hi), [.int .i64 n], ?_, rfl, rfl, rfl⟩
    show (match resOf _ (.t 4), some [] with | some v, some vs => some (v :: vs) | _, _ => none) = _
    simp only [resOf]
    rw [getX_eq] at h4
    rw [h4]
  refine Wp.seq ?_
  refine (path2 (nt := 19) (live := [(0, .ro xs st ex), (1, .fn (.func g) first cap)]) [0, 1] (e := .normal) (vals := [.ro xs st ex, .fn (.func g) first cap]) (h' := h) (ds := []) (cs := []) ⟨by simp, by simp [getX_eq]⟩ (fun t0 => by kernel_rfl) trivial).mono ?_
  rintro e s ⟨rfl, t1, rfl, hl1⟩
  refine Wp.seq ?_
  refine Wp.seq ?_
  refine (path2 [0, 1, 7, 8] (e := .normal) (vals := [.ro xs st ex, .fn (.func g) first cap, .int .i64 xs.length, .int .i64 0]) (h' := h) (ds := []) (cs := []) hl1 (fun t0 => by kernel_rfl) trivial).mono ?_
  rintro e s ⟨rfl, t2, rfl, hl2⟩
  refine Wp.block ?_
  refine Wp.loop (fun k s => ∃ (i : Nat) (t : List AV) (h : List Blk), s = { t := t, h := h, lo := none } ∧ k = xs.length - i ∧ i ≤ xs.length ∧ I h ∧ Lv 19 [(0, .ro xs st ex), (1, .fn (.func g) first cap), (7, .int .i64 xs.length), (8, .int .i64 (i : Int))] t ∧ ∀ j x, j < i → xs[j]? = some x → F x = false) ?_ xs.length _ ⟨0, t2, h, rfl, by omega, by omega, hI, hl2, fun j x hj => by omega⟩
  rintro k s ⟨i, t, h, rfl, rfl, hi, hI, hl, hF⟩
  by_cases hlt : i < xs.length
  · have hxi := List.getElem?_eq_getElem hlt
    have hxm : xs[i] ∈ xs := List.getElem_mem hlt
    generalize xs[i] = x at hxi hxm
    obtain ⟨h', hI', hcl⟩ := hx x hxm h hI
    obtain ⟨hc1, hc2⟩ := hld x hxm
    cases hFx : F x with
    | true =>
      rw [hFx] at hcl
      refine (path2 [4] (e := .ret) (vals := [.int .i64 (i : Int)]) (h' := h') (ds := [.b true, .f x, .r (.bool true) h' none])
        (cs := [some (AV.bool (decide ((i : Int) < (xs.length : Int)))) = some (.bool true), st = st, 0 ≤ (i : Int), (i : Int) < (xs.length : Int), (rdPtr h (cellsN ld) (.rop xs st (i : Int).toNat 0)).bind (asVar ld) = some x, Cl Γ tbl g (first ++ ([x] ++ cap)) h (.bool true, h', none)]) hl (fun t0 => by kernel_rfl) ?_).mono ?_
      · refine ⟨by simp; omega, rfl, by omega, by omega, ?_, hcl, trivial⟩
        simp [rdPtr, hxi, hc1, hc2]
      · rintro e s ⟨rfl, t3, rfl, hl3⟩
        refine ⟨rfl, rfl, hI', (i : Int), hl3.get _ (List.mem_singleton.2 rfl), ?_⟩
        rw [List.any_eq_true.2 ⟨x, hxm, hFx⟩]
        simp
    | false =>
      rw [hFx] at hcl
      refine (path2 [0, 1, 7, 8] (e := .normal) (vals := [.ro xs st ex, .fn (.func g) first cap, .int .i64 xs.length, .int .i64 (IntKind.i64.wrap ((i : Int) + 1))]) (h' := h') (ds := [.b true, .f x, .r (.bool false) h' none])
        (cs := [some (AV.bool (decide ((i : Int) < (xs.length : Int)))) = some (.bool true), st = st, 0 ≤ (i : Int), (i : Int) < (xs.length : Int), (rdPtr h (cellsN ld) (.rop xs st (i : Int).toNat 0)).bind (asVar ld) = some x, Cl Γ tbl g (first ++ ([x] ++ cap)) h (.bool false, h', none)]) hl (fun t0 => by kernel_rfl) ?_).mono ?_
      · refine ⟨by simp; omega, rfl, by omega, by omega, ?_, hcl, trivial⟩
        simp [rdPtr, hxi, hc1, hc2]
      · rintro e s ⟨rfl, t3, rfl, hl3⟩
        refine ⟨xs.length - (i + 1), by omega, i + 1, t3, h', rfl, rfl, by omega, hI', ?_, ?_⟩
        · rw [i64_succ (by omega) (by omega)] at hl3
          exact hl3
        · intro j y hj hy
          by_cases hji : j = i
          · subst hji; rw [hxi] at hy; cases hy; exact hFx
          · exact hF j y (by omega) hy
  · refine (path2 [4] (e := .exit 0) (vals := [getX t 4]) (h' := h) (ds := [.b false])
        (cs := [some (AV.bool (decide ((i : Int) < (xs.length : Int)))) = some (.bool false)]) (live := [(0, .ro xs st ex), (1, .fn (.func g) first cap), (4, getX t 4), (7, .int .i64 xs.length), (8, .int .i64 (i : Int))]) ⟨hl.len, ?_⟩ (fun t0 => by kernel_rfl) ⟨by simp; omega, trivial⟩).mono ?_
    · intro p hp
      simp only [List.mem_cons, List.not_mem_nil, or_false] at hp
      rcases hp with rfl | rfl | rfl | rfl | rfl
      · exact hl.get (0, _) (by simp)
      · exact hl.get (1, _) (by simp)
      · rfl
      · exact hl.get (7, _) (by simp)
      · exact hl.get (8, _) (by simp)
    · rintro e s ⟨rfl, t3, rfl, hl3⟩
      refine (path2 (nt := 19) (live := []) [4] (e := .ret) (vals := [.int .i64 (-1)]) (h' := h) (ds := []) (cs := []) ⟨hl3.len, by simp⟩ (fun t0 => by kernel_rfl) trivial).mono ?_
      rintro e s ⟨rfl, t4, rfl, hl4⟩
      refine ⟨rfl, rfl, hI, -1, hl4.get _ (List.mem_singleton.2 rfl), ?_⟩
      have : xs.any F = false := by
        rw [List.any_eq_false]
        intro x hx
        obtain ⟨j, hj, rfl⟩ := List.getElem_of_mem hx
        have := hF j _ (by omega) (List.getElem?_eq_getElem hj)
        simp [this]
      rw [this]
      rfl
theorem conF_cl {f g' st g : Nat} {ld : Option Nat} (hg : Γ f = none) (ht : tbl f = some (conF g')) (hg' : Γ g' = none) (ht' : tbl g' = some (idxF st ld)) {xs : List AV} {ex : Bool} (hlen : xs.length ≤ 9223372036854775807) (F : AV → Bool) (I : List Blk → Prop) {first cap : List AV}
    (hld : ∀ x ∈ xs, cellsN ld ≤ x.cells.length ∧ asVar ld (x.cells.take (cellsN ld)) = some x)
    (hx : ∀ x ∈ xs, ∀ h, I h → ∃ h', I h' ∧ Cl Γ tbl g (first ++ ([x] ++ cap)) h (.bool (F x), h', none)) (h : List Blk) (hI : I h) :
    ∃ h', I h' ∧ Cl Γ tbl f [.ro xs st ex, .fn (.func g) first cap] h (.bool (xs.any F), h', none) := by
  obtain ⟨n, h', hI', hcl, hn⟩ := idxF_cl hg' ht' (ex := ex) hlen F I hld hx h hI
  refine ⟨h', hI', ?_⟩
  obtain ⟨m, e, ⟨t2, h2, lo2⟩, h1, rfl, t3, h3, hl3⟩ := path2 (nt := 9) (t := [.ro xs st ex, .fn (.func g) first cap] ++ List.replicate 7 (.tup [])) (live := [(0, .ro xs st ex), (1, .fn (.func g) first cap)]) (k := (conF g').body) [4] (e := .ret) (vals := [.bool (xs.any F)]) (h := h) (h' := h') (ds := [.r (.int .i64 n) h' none, .b (xs.any F)])
    (cs := [Cl Γ tbl g' [.ro xs st ex, .fn (.func g) first cap] h (.int .i64 n, h', none), some (AV.bool (decide (0 ≤ n))) = some (AV.bool (xs.any F))]) ⟨by simp, by simp [getX_eq]⟩ (fun t0 => by kernel_rfl) ⟨hcl, by rw [hn], trivial⟩
  cases h3
  refine Cl.of hg ht (by simp [conF]) ⟨m, _, _, h1, (fun i hi => by cases hi), [.bool (xs.any F)], ?_, rfl, rfl, rfl⟩
  have h4 := hl3.get (4, .bool (xs.any F)) (List.mem_singleton.2 rfl)
  simp only at h4
  rw [getX_eq] at h4
  show (match resOf _ (.t 4), some [] with | some v, some vs => some (v :: vs) | _, _ => none) = _
  simp only [resOf]
  rw [h4]
end
open Classical in
noncomputable def gOf {α : Type} (ok : α → Prop) (en : α → List AV) (f : α → AV) : List AV → Option AV := fun args => if h : ∃ a, ok a ∧ en a = args then some (f h.choose) else none
theorem gOf_eq {α : Type} {ok : α → Prop} {en : α → List AV} {f : α → AV} (hi : ∀ a b, ok a → ok b → en a = en b → f a = f b) {a : α} (ha : ok a) : gOf ok en f (en a) = some (f a) := by
  have h : ∃ b, ok b ∧ en b = en a := ⟨a, ha, rfl⟩
  unfold gOf
  rw [dif_pos h]
  exact congrArg some (hi _ _ h.choose_spec.1 ha h.choose_spec.2)
theorem gOf_ok {α : Type} {P : Program} {fid : FuncId} {ok : α → Prop} {en : α → List AV} {f : α → AV} (hb : Body P fid) (hp : ∀ a, ok a → PureS P fid (en a) (f a)) : GOk P fid (pureG (gOf ok en f)) := by
  refine pureG_known hb fun args r hr _ => ?_
  unfold gOf at hr
  split at hr <;> cases hr
  rename_i h
  have := hp _ h.choose_spec.1
  rw [h.choose_spec.2] at this
  exact this
theorem cloL_map {α : Type} {f : α → AV} (hf : ∀ a, clo (f a) = true) (l : List α) : cloL (l.map f) = true := cloL_all.2 fun v hv => by
  obtain ⟨a, _, rfl⟩ := List.mem_map.1 hv
  exact hf a
theorem map_inj {α β : Type} {f : α → β} (hf : ∀ a b, f a = f b → a = b) {l m : List α} (h : l.map f = m.map f) : l = m := (List.map_inj_right hf).1 h
end Go.Proofs.YtenpjpldjmoefaaGreat.AM
section
namespace Go.Proofs.YtenpjpldjmoefaaGreat.AM
open Go
section
variable {Γ : FuncId → Option GF} {tbl : FuncId → Option AFunc}
theorem pathX {nt live} {k : ACode} {t : List AV} {h : List Blk} {lo : Option Nat} (n : Nat) (outs : List Nat) {e : AExit} {vals : List AV} {h' : List Blk} {lo' : Option Nat} (hl : Lv nt live t)
  (hp : ∀ t0, (execX (callX Γ tbl n) n k { t := mkT nt live t0, h := h, lo := lo }).map (fun x => (x.1, x.2.t.length, outs.map (getX x.2.t), x.2.h, x.2.lo)) = some (e, nt, vals, h', lo')) :
  Wp Γ tbl k { t := t, h := h, lo := lo } fun e2 s2 => e2 = e ∧ ∃ t2, s2 = { t := t2, h := h', lo := lo' } ∧ Lv nt (outs.zip vals) t2 := by
 have h1 := hp t
 rw [← hl.eq, Option.map_eq_some_iff] at h1
 obtain ⟨⟨e2, s2⟩, h2, h3⟩ := h1
 rw [execX_eq, callX_eq] at h2
 simp only [Prod.mk.injEq] at h3
 obtain ⟨rfl, h4, h5, rfl, rfl⟩ := h3
 exact ⟨n, e2, s2, h2, rfl, s2.t, rfl, Lv.of h4 h5⟩
end
end Go.Proofs.YtenpjpldjmoefaaGreat.AM
end
namespace Go.Proofs.YtenpjpldjmoefaaGreat.AM
open Go
abbrev evC : AO → AV
 | .c v => v
 | .t _ => .dead
structure Built (st : Nat) (es : List (List AV)) (H : List Blk) (id : Nat) (ex : Bool) : Prop where
 blk : H[id]? = some (.cells es.flatten)
 nil : ex = true → es = []
 cons : ex = false → es ≠ []
 len : ∀ e ∈ es, e.length = st
 one : ∀ e ∈ es, e.all AV.one = true
abbrev bSl (st : Nat) (es : List (List AV)) (id : Nat) (ex : Bool) : AV := .sl id st 0 es.length es.length ex
def appH (H : List Blk) (id : Nat) (ex : Bool) (cs : List AV) : List Blk := (if ex then H else H.set id .gone) ++ [.cells cs]
def appL (id : Nat) (ex : Bool) : Option Nat := if ex then none else some id
theorem flatn_len {st : Nat} : ∀ {es : List (List AV)}, (∀ e ∈ es, e.length = st) → es.flatten.length = es.length * st
 | [], _ => by simp
 | e :: es, h => by
  rw [List.flatten_cons, List.length_append, flatn_len fun x hx => h x (by simp [hx]), h e (by simp), List.length_cons, Nat.succ_mul]
  omega
theorem app_one {st by_ : Nat} {es : List (List AV)} {H : List Blk} {id : Nat} {ex : Bool} {e : List AV} {jd : Nat} (hb : Built st es H id ex) (he : e.length = st) (h1 : e.all AV.one = true) (hj : H[jd]? = some (.cells e)) (hl : (es.length + 1) * by_ ≤ 140737488355328) :
  wOp evC H (.append st by_ (.c (bSl st es id ex)) (.c (.sl jd st 0 1 1 true))) = some (.sl H.length st 0 (es.length + 1) (es.length + 1) false, appH H id ex (es ++ [e]).flatten, appL id ex) := by
 have hx : elems H st (.sl jd st 0 1 1 true) = some e := by
  simp only [elems, if_pos, Nat.one_ne_zero, if_false, rdCells, hj, Nat.one_mul, Nat.zero_add, List.drop_zero]
  rw [if_pos (by omega), List.take_of_length_le (by omega)]
 have hs : elems H st (bSl st es id ex) = some es.flatten := by
  simp only [elems, if_pos]
  split
  ·rename_i h0
   rw [List.eq_nil_of_length_eq_zero h0]
   rfl
  ·have hfl := flatn_len hb.len
   simp only [rdCells, hb.blk, Nat.zero_add, List.drop_zero]
   rw [if_pos (by omega), List.take_of_length_le (by omega)]
 have hfe : (es ++ [e]).flatten = es.flatten ++ e := by simp
 simp only [wOp, lenOf, hx, Nat.one_ne_zero, if_false]
 rw [if_pos (by simp [hl, h1])]
 rw [if_neg (by omega), hs]
 simp only
 cases ex with
 | true =>
  simp only [if_true, appH, appL, hfe]
 | false =>
  have hr : hasRow H id 0 = true := by simp [hasRow, hb.blk]
  simp only [Bool.false_eq_true, if_false, hr, if_true, appH, appL, hfe]
theorem Built.app {st : Nat} {es : List (List AV)} {H : List Blk} {id : Nat} {ex : Bool} {e : List AV} (hb : Built st es H id ex) (he : e.length = st) (h1 : e.all AV.one = true) : Built st (es ++ [e]) (appH H id ex (es ++ [e]).flatten) H.length false where
 blk := by
  have : (if ex then H else H.set id .gone).length = H.length := by cases ex <;> simp
  unfold appH
  rw [List.getElem?_append_right (by omega), this]
  simp
 nil := fun h => by cases h
 cons := fun _ => by simp
 len := fun x hx => by
  rcases List.mem_append.1 hx with hx | hx
  ·exact hb.len x hx
  ·rw [List.mem_singleton.1 hx]; exact he
 one := fun x hx => by
  rcases List.mem_append.1 hx with hx | hx
  ·exact hb.one x hx
  ·rw [List.mem_singleton.1 hx]; exact h1
theorem appH_len (H id ex cs) : (appH H id ex cs).length = H.length + 1 := by unfold appH; cases ex <;> simp
theorem appH_get {H : List Blk} {id : Nat} {ex : Bool} {cs : List AV} {i : Nat} (hi : i < H.length) (hne : i ≠ id) : (appH H id ex cs)[i]? = H[i]? := by
 unfold appH
 cases ex with
 | true => exact List.getElem?_append_left hi
 | false =>
  simp only [Bool.false_eq_true, if_false]
  rw [List.getElem?_append_left (by simpa using hi), List.getElem?_set_ne (by omega)]
theorem Built.grow {st : Nat} {es : List (List AV)} {H H' : List Blk} {id : Nat} {ex : Bool} (hb : Built st es H id ex) (h : H'[id]? = H[id]?) : Built st es H' id ex := ⟨h.trans hb.blk, hb.nil, hb.cons, hb.len, hb.one⟩
theorem Built.lt {st : Nat} {es : List (List AV)} {H : List Blk} {id : Nat} {ex : Bool} (hb : Built st es H id ex) : id < H.length := (List.getElem?_eq_some_iff.1 hb.blk).1
theorem elts_flat {st : Nat} : ∀ {es : List (List AV)}, (∀ e ∈ es, e.length = st) → elts st es.flatten es.length = es.map (elt st)
 | [], _ => rfl
 | e :: es, h => by
  have he := h e (by simp)
  rw [List.length_cons, elts, List.flatten_cons, List.take_append_of_le_length (by omega), List.take_of_length_le (by omega), List.drop_append_of_le_length (by omega), List.drop_of_length_le (by omega), List.nil_append, elts_flat fun x hx => h x (by simp [hx]), List.map_cons]
theorem mapO_append {f : AV → Option AV} : ∀ {a b a' b' : List AV}, mapO f a = some a' → mapO f b = some b' → mapO f (a ++ b) = some (a' ++ b')
 | [], b, a', b', ha, hb => by cases ha; exact hb
 | v :: a, b, a', b', ha, hb => by
  rw [mapO] at ha
  split at ha <;> first | (cases ha; done) | skip
  rename_i x l h1 h2
  cases ha
  rw [List.cons_append, mapO, h1, mapO_append h2 hb]
  rfl
theorem mapO_flat {f : AV → Option AV} : ∀ {es es' : List (List AV)}, es.length = es'.length → (∀ (i : Nat) (e e' : List AV), es[i]? = some e → es'[i]? = some e' → mapO f e = some e') → mapO f es.flatten = some es'.flatten
 | [], [], _, _ => rfl
 | e :: es, e' :: es', hl, h => by
  rw [List.flatten_cons, List.flatten_cons]
  exact mapO_append (h 0 e e' rfl rfl) (mapO_flat (by simpa using hl) fun i x x' h1 h2 => h (i + 1) x x' h1 h2)
 | [], _ :: _, hl, _ => by simp at hl
 | _ :: _, [], hl, _ => by simp at hl
theorem Built.frz {st n : Nat} {es es' : List (List AV)} {H : List Blk} {id : Nat} {ex : Bool} (hb : Built st es H id ex) (h0 : 0 < st) (hl : es.length = es'.length) (hf : ∀ (i : Nat) (e e' : List AV), es[i]? = some e → es'[i]? = some e' → mapO (AM.frz H n) e = some e') (hlen : ∀ e ∈ es', e.length = st) (hone : ∀ e ∈ es', e.all AV.one = true) :
  ∃ ex', AM.frz H (n + 1) (bSl st es id ex) = some (.ro (es'.map (elt st)) st ex') := by
 rw [AM.frz]
 split
 ·rename_i h1
  have : es' = [] := List.eq_nil_of_length_eq_zero (by omega)
  subst this
  exact ⟨ex, rfl⟩
 ·rename_i h1
  simp only [hb.blk, Nat.zero_add, List.drop_zero]
  have hfl := flatn_len hb.len
  rw [if_pos (by simp [hfl, h0]), List.take_of_length_le (by omega), mapO_flat hl hf, Option.bind_some, if_pos, hl, elts_flat hlen]
  ·exact ⟨_, rfl⟩
  ·rw [List.all_eq_true]
   intro v hv
   obtain ⟨e, he, hve⟩ := List.mem_flatten.1 hv
   exact List.all_eq_true.1 (hone e he) v hve
end Go.Proofs.YtenpjpldjmoefaaGreat.AM
