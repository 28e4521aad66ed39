/-
  'gauger's law ArkExact holds of every input: it returns true, and each argument reads behind the call as it read before.
  This text: part 17 of 19 of the proof (AxJ, AxK, AxL, AxM, AxN, BrA, AxP).
-/
import Derived.Test.YtfkkeddjfiljfaaMap
import Derived.Test.YtfkkeddjfiljfaaMam
import Derived.Test.YtfkkeddjfiljfaaMal
import Derived.Test.YtfkkeddjfiljfaaMaa
import Derived.Test.YtfkkeddjfiljfaaMai
set_option linter.unusedVariables false
set_option linter.unusedSimpArgs false
set_option maxRecDepth 100000
namespace Go.Proofs.Ytfkkeddjfiljfaa.AM.Ax
open Go
abbrev enStr (s : List UInt8) : List AV := [.str s]
abbrev fRead (s : List UInt8) : AV := .tup [vV (readL s).1, .bool (readL s).2]
theorem enStr_inj {a b : List UInt8} (h : enStr a = enStr b) : a = b := by simpa [enStr] using h
theorem read_ok : GOk Try.prog 47 (pureG (gOf (fun _ => True) enStr fRead)) :=
 gOf_ok ⟨_, Try.func47, by kernel_rfl, by kernel_rfl⟩ fun a _ => by
  obtain ⟨h', lo, hc⟩ := read_cl a
  exact pureS_cl K3 hc (by kernel_rfl) rfl
noncomputable def gam4 : List (Nat × GF) := (47, pureG (gOf (fun _ => True) enStr fRead)) :: gam3
theorem K4 : Known (gGet gam4) tree.get Try.prog := known_of (by kernel_rfl) ⟨read_ok, tail_ok, code_ok, cmp_ok, fit_ok, g17_ok, good_ok, trivial⟩ all
noncomputable abbrev G4 : FuncId → Option GF := gGet gam4
theorem read4 (s : List UInt8) (h : List Blk) : Cl G4 T 47 [.str s] h (.tup [vV (readL s).1, .bool (readL s).2], h, none) :=
 Cl.pure (g := gOf (fun _ => True) enStr fRead) (by kernel_rfl) (gOf_eq (a := s) (fun x y _ _ he => by rw [enStr_inj he]) trivial) rfl rfl h
def readRowF : Nat → List UInt8 → Option (List Val)
 | 0, _ => some []
 | n + 1, s => if (readL (s.take 9)).2 = true then (readRowF n (s.drop 9)).map ((readL (s.take 9)).1 :: ·) else none
def readRowL (s : List UInt8) : Option (List Val) := if s.length % 9 = 0 ∧ s.length ≤ 36 then readRowF (s.length / 9) s else none
abbrev bRR : ACode := a28.body
def R1 : ACode := lp (blk (tl (hd (tl (tl (tl bRR))))))
def resRow : Option (List Val) → AV
 | some l => .tup [rV l, .bool true]
 | none => .tup [.nils, .bool false]
def QRR (r : Option (List Val)) (e : AExit) (s : St) : Prop := e = .ret ∧ match r with
 | none => getX s.t 2 = .nils ∧ getX s.t 3 = .bool false
 | some l => ∃ id ex, getX s.t 2 = bSl 3 (l.map vC) id ex ∧ getX s.t 3 = .bool true ∧ Built 3 (l.map vC) s.h id ex
theorem rr_loop {s : List UInt8} (h9 : s.length % 9 = 0) (h36 : s.length ≤ 36) {H0 : List Blk} {id0 : Nat} (hb0 : Built 3 [] H0 id0 true) {t0 : List AV} (hlv : Lv 40 [(0, .str s), (4, bSl 3 [] id0 true), (5, .int .i64 0)] t0) :
  Wp G4 T (.loop R1) { t := t0, h := H0, lo := none } fun e s' => (QRR none e s' ∧ readRowF (s.length / 9) s = none) ∨ (e = .exit 0 ∧ s'.t.length = 40 ∧ ∃ l id ex, readRowF (s.length / 9) s = some l ∧ getX s'.t 4 = bSl 3 (l.map vC) id ex ∧ Built 3 (l.map vC) s'.h id ex) := by
 refine Wp.loop (fun k s' => ∃ (i : Nat) (l : List Val) (id : Nat) (ex : Bool) (H : List Blk) (lo : Option Nat) (t1 : List AV), s' = { t := t1, h := H, lo := lo } ∧ k = s.length / 9 - i ∧ i ≤ s.length / 9 ∧ l.length = i ∧ Built 3 (l.map vC) H id ex ∧ Lv 40 [(0, .str s), (4, bSl 3 (l.map vC) id ex), (5, .int .i64 ((9 * i : Nat) : Int))] t1 ∧ (readRowF (s.length / 9 - i) (s.drop (9 * i))).map (l ++ ·) = readRowF (s.length / 9) s) ?_ (s.length / 9) _ ⟨0, [], id0, true, H0, none, t0, rfl, by omega, by omega, rfl, hb0, hlv, by simp⟩
 rintro k s' ⟨i, l, id, ex, H, lo, t1, rfl, rfl, hi, hll, hb, hl, hF⟩
 refine Wp.lo ?_ ?_
 ·rintro e s' y hq
  cases e with
  | normal =>
   obtain ⟨j, hj, i2, l2, id2, ex2, H2, lo2, t2, rfl, h2⟩ := hq
   exact ⟨j, hj, i2, l2, id2, ex2, H2, y, t2, rfl, h2⟩
  | exit n => exact hq
  | ret => exact hq
 refine Wp.seq ?_
 by_cases hlt : i < s.length / 9
 ·have hl9 : 9 * i + 9 ≤ s.length := by omega
  obtain ⟨m, hm⟩ : ∃ m, s.length / 9 - i = m + 1 := ⟨s.length / 9 - i - 1, by omega⟩
  rw [hm, readRowF] at hF
  refine (path2 [0, 4, 5] (e := .normal) (vals := [.str s, bSl 3 (l.map vC) id ex, .int .i64 ((9 * i : Nat) : Int)]) (h' := H) (ds := [.b true]) (cs := [cB (decide (((9 * i : Nat) : Int) < (s.length : Int))) true]) hl (fun t0 => by kernel_rfl) ⟨cT (by omega), trivial⟩).mono ?_
  rintro e s' ⟨rfl, t2, rfl, hl2⟩
  have hpc : (s.take (9 * i + 9)).drop (9 * i) = (s.drop (9 * i)).take 9 := by rw [List.drop_take]; congr 1; omega
  have hw9 : IntKind.i64.wrap (((9 * i : Nat) : Int) + 9) = ((9 * i + 9 : Nat) : Int) := by rw [IntWalk.i64_in _ (by omega)]; omega
  have c1 : slcC s (some (.int .i64 ((9 * i : Nat) : Int))) (some (.int .i64 (IntKind.i64.wrap (((9 * i : Nat) : Int) + 9)))) (.str ((s.drop (9 * i)).take 9)) := by
   simp only [slcC, hw9, optNat, asNat, Int.natCast_nonneg, if_true, Int.toNat_natCast, Option.bind_some]
   rw [if_pos hl9, if_pos (by omega), hpc]
  generalize (s.drop (9 * i)).take 9 = pc at c1 hF
  have hrd := read4 pc H
  generalize readL pc = rp at hrd hF
  obtain ⟨v, b⟩ := rp
  simp only at hrd hF
  refine Wp.seq (Wp.block (Wp.seq ?_))
  have c2 : (if (vC v).length = 3 then (wrCells (H ++ [.cells [.int .i64 0, .int .i64 0, .str []]]) H.length 0 (vC v)).map (fun h' => (AV.tup [], h', some H.length)) else none) = some (AV.tup [], H ++ [Blk.cells (vC v)], some H.length) := by
   simp [wrCells, splice, AV.one]
  refine (path3 [0, 4, 5, 6, 7] (e := .normal) (vals := [.str s, bSl 3 (l.map vC) id ex, .int .i64 ((9 * i : Nat) : Int), .ptr H.length 0, .bool b]) (h' := H ++ [Blk.cells (vC v)]) (lo' := some H.length)
   (ds := [.f (.str pc), .r (.tup [vV v, .bool b]) H none, .w (.ptr H.length 0) (H ++ [.cells [.int .i64 0, .int .i64 0, .str []]]) none, .w (.tup []) (H ++ [Blk.cells (vC v)]) (some H.length)])
   (cs := [slcC s (some (.int .i64 ((9 * i : Nat) : Int))) (some (.int .i64 (IntKind.i64.wrap (((9 * i : Nat) : Int) + 9)))) (.str pc), Cl G4 T 47 [.str pc] H (.tup [vV v, .bool b], H, none), some (AV.ptr H.length 0, H ++ [.cells [.int .i64 0, .int .i64 0, .str []]], (none : Option Nat)) = some (AV.ptr H.length 0, H ++ [.cells [.int .i64 0, .int .i64 0, .str []]], none),
    (if (vC v).length = 3 then (wrCells (H ++ [.cells [.int .i64 0, .int .i64 0, .str []]]) H.length 0 (vC v)).map (fun h' => (AV.tup [], h', some H.length)) else none) = some (AV.tup [], H ++ [Blk.cells (vC v)], some H.length)]) hl2 (fun t0 => by kernel_rfl) ⟨c1, hrd, rfl, c2, trivial⟩).mono ?_
  rintro e s' ⟨rfl, t3, rfl, hl3⟩
  refine Wp.seq ?_
  cases b with
  | false =>
   refine (path3 [2, 3] (e := .ret) (vals := [.nils, .bool false]) (h' := H ++ [Blk.cells (vC v)]) (lo' := some H.length) (ds := []) (cs := []) hl3 (fun t0 => by kernel_rfl) trivial).mono ?_
   rintro e s' ⟨rfl, t4, rfl, hl4⟩
   exact .inl ⟨⟨rfl, hl4.get (2, _) (by simp), hl4.get (3, _) (by simp)⟩, by rw [← hF]; rfl⟩
  | true =>
   rw [if_pos rfl] at hF
   refine (path3 [0, 4, 5, 6] (e := .normal) (vals := [.str s, bSl 3 (l.map vC) id ex, .int .i64 ((9 * i : Nat) : Int), .ptr H.length 0]) (h' := H ++ [Blk.cells (vC v)]) (lo' := some H.length) (ds := []) (cs := []) hl3 (fun t0 => by kernel_rfl) trivial).mono ?_
   rintro e s' ⟨rfl, t4, rfl, hl4⟩
   have hH1 : Built 3 (l.map vC) (H ++ [Blk.cells (vC v)]) id ex := hb.grow (List.getElem?_append_left hb.lt)
   have hH2 : Built 3 (l.map vC) ((H ++ [Blk.cells (vC v)]) ++ [Blk.cells (vC v)]) id ex := hH1.grow (List.getElem?_append_left hH1.lt)
   have c3 : (rdCells (H ++ [Blk.cells (vC v)]) H.length 0 3).bind (asVar (some 3)) = some (vV v) := by simp [rdCells, asVar]
   have c4 : wOp evC (H ++ [Blk.cells (vC v)]) (.buildSl [.int .i64 0, .int .i64 0, .str []] 1 [(0, .c (vV v))]) = some (.sl (H ++ [Blk.cells (vC v)]).length 3 0 1 1 true, (H ++ [Blk.cells (vC v)]) ++ [Blk.cells (vC v)], none) := rfl
   have c5 := app_one (by_ := 32) hH2 (e := vC v) rfl rfl (jd := (H ++ [Blk.cells (vC v)]).length) (by simp) (by simp [hll]; omega)
   have hb' := hH2.app (e := vC v) rfl rfl
   rw [show l.map vC ++ [vC v] = (l ++ [v]).map vC by simp] at c5 hb'
   refine (path3 [0, 4, 5] (e := .normal) (vals := [.str s, .sl ((H ++ [Blk.cells (vC v)]) ++ [Blk.cells (vC v)]).length 3 0 ((l.map vC).length + 1) ((l.map vC).length + 1) false, .int .i64 ((9 * i : Nat) : Int)]) (h' := appH ((H ++ [Blk.cells (vC v)]) ++ [Blk.cells (vC v)]) id ex ((l ++ [v]).map vC).flatten) (lo' := omin (omin (some H.length) (appL id ex)) none)
    (ds := [.f (vV v), .w (.sl (H ++ [Blk.cells (vC v)]).length 3 0 1 1 true) ((H ++ [Blk.cells (vC v)]) ++ [Blk.cells (vC v)]) none, .w (.sl ((H ++ [Blk.cells (vC v)]) ++ [Blk.cells (vC v)]).length 3 0 ((l.map vC).length + 1) ((l.map vC).length + 1) false) (appH ((H ++ [Blk.cells (vC v)]) ++ [Blk.cells (vC v)]) id ex ((l ++ [v]).map vC).flatten) (appL id ex)])
    (cs := [(rdCells (H ++ [Blk.cells (vC v)]) H.length 0 3).bind (asVar (some 3)) = some (vV v), wOp evC (H ++ [Blk.cells (vC v)]) (.buildSl [.int .i64 0, .int .i64 0, .str []] 1 [(0, .c (vV v))]) = some (.sl (H ++ [Blk.cells (vC v)]).length 3 0 1 1 true, (H ++ [Blk.cells (vC v)]) ++ [Blk.cells (vC v)], none),
     wOp evC ((H ++ [Blk.cells (vC v)]) ++ [Blk.cells (vC v)]) (.append 3 32 (.c (bSl 3 (l.map vC) id ex)) (.c (.sl (H ++ [Blk.cells (vC v)]).length 3 0 1 1 true))) = some (.sl ((H ++ [Blk.cells (vC v)]) ++ [Blk.cells (vC v)]).length 3 0 ((l.map vC).length + 1) ((l.map vC).length + 1) false, appH ((H ++ [Blk.cells (vC v)]) ++ [Blk.cells (vC v)]) id ex ((l ++ [v]).map vC).flatten, appL id ex)]) hl4 (fun t0 => by kernel_rfl) ⟨c3, c4, c5, trivial⟩).mono ?_
   rintro e s' ⟨rfl, t5, rfl, hl5⟩
   refine Wp.lo ?_ ?_
   ·rintro e s' y hq
    cases e with
    | normal =>
     obtain ⟨j, hj, i2, l2, id2, ex2, H2, lo2, t2, rfl, h2⟩ := hq
     exact ⟨j, hj, i2, l2, id2, ex2, H2, y, t2, rfl, h2⟩
    | exit n => exact hq
    | ret => exact hq
   refine (path2 [0, 4, 5] (e := .normal) (vals := [.str s, .sl ((H ++ [Blk.cells (vC v)]) ++ [Blk.cells (vC v)]).length 3 0 ((l.map vC).length + 1) ((l.map vC).length + 1) false, .int .i64 (IntKind.i64.wrap (((9 * i : Nat) : Int) + 9))]) (h' := appH ((H ++ [Blk.cells (vC v)]) ++ [Blk.cells (vC v)]) id ex ((l ++ [v]).map vC).flatten) (ds := []) (cs := []) hl5 (fun t0 => by kernel_rfl) trivial).mono ?_
   rintro e s' ⟨rfl, t6, rfl, hl6⟩
   rw [hw9] at hl6
   refine ⟨m, by omega, i + 1, l ++ [v], _, false, _, none, t6, rfl, by omega, by omega, by simp [hll], hb', ?_, ?_⟩
   ·have e1 : ((l ++ [v]).map vC).length = (l.map vC).length + 1 := by simp
    simp only [bSl, e1]
    rw [show 9 * (i + 1) = 9 * i + 9 by omega]
    exact hl6
   ·rw [← hF, show s.length / 9 - (i + 1) = m by omega, show 9 * (i + 1) = 9 * i + 9 by omega, List.drop_drop]
    cases readRowF m (s.drop (9 * i + 9)) with
    | none => rfl
    | some q => simp
 ·have hie : i = s.length / 9 := by omega
  refine (path2 [4] (e := .exit 0) (vals := [bSl 3 (l.map vC) id ex]) (h' := H) (ds := [.b false]) (cs := [cB (decide (((9 * i : Nat) : Int) < (s.length : Int))) false]) hl (fun t0 => by kernel_rfl) ⟨cF (by omega), trivial⟩).mono ?_
  rintro e s' ⟨rfl, t2, rfl, hl2⟩
  refine .inr ⟨rfl, hl2.len, l, id, ex, ?_, hl2.get (4, _) (by simp), hb⟩
  rw [← hF, hie, Nat.sub_self, readRowF]
  simp
theorem rr_wp {s : List UInt8} (hs : s.length ≤ 9223372036854775807) {t : List AV} (hl : Lv 40 [(0, .str s)] t) : Wp G4 T bRR { t := t, h := [], lo := none } (QRR (readRowL s)) := by
 refine Wp.seq ?_
 refine (path2 [0] (e := .normal) (vals := [.str s]) (h' := []) (ds := []) (cs := []) hl (fun t0 => by kernel_rfl) trivial).mono ?_
 rintro e s' ⟨rfl, t1, rfl, hl1⟩
 refine Wp.seq ?_
 have hmod : (s.length : Int).tmod 9 = ((s.length % 9 : Nat) : Int) := by rw [Int.tmod_eq_emod_of_nonneg (by omega)]; omega
 by_cases h9 : s.length % 9 = 0
 ·by_cases h36 : (s.length : Int) > 36
  ·rw [show readRowL s = none by rw [readRowL, if_neg (by omega)]]
   refine (path2 [2, 3] (e := .ret) (vals := [.nils, .bool false]) (h' := []) (ds := [.b false, .b true]) (cs := [IntKind.i64 = IntKind.i64, (9 : Int) ≠ 0, cB ((s.length : Int).tmod 9 != 0) false, cB (decide ((s.length : Int) > 36)) true]) hl1 (fun t0 => by kernel_rfl) ⟨rfl, by decide, cS (by rw [hmod]; omega), cT h36, trivial⟩).mono ?_
   rintro e s' ⟨rfl, t2, rfl, hl2⟩
   exact ⟨rfl, hl2.get (2, _) (by simp), hl2.get (3, _) (by simp)⟩
  ·rw [show readRowL s = readRowF (s.length / 9) s by rw [readRowL, if_pos (by omega)]]
   refine (path2 [0] (e := .normal) (vals := [.str s]) (h' := []) (ds := [.b false, .b false]) (cs := [IntKind.i64 = IntKind.i64, (9 : Int) ≠ 0, cB ((s.length : Int).tmod 9 != 0) false, cB (decide ((s.length : Int) > 36)) false]) hl1 (fun t0 => by kernel_rfl) ⟨rfl, by decide, cS (by rw [hmod]; omega), cF h36, trivial⟩).mono ?_
   rintro e s' ⟨rfl, t2, rfl, hl2⟩
   refine Wp.seq ?_
   refine (path2 [0, 4] (e := .normal) (vals := [.str s, .sl 0 3 0 0 0 true]) (h' := [.cells []]) (ds := []) (cs := []) hl2 (fun t0 => by kernel_rfl) trivial).mono ?_
   rintro e s' ⟨rfl, t3, rfl, hl3⟩
   refine Wp.seq (Wp.seq ?_)
   refine (path2 [0, 4, 5] (e := .normal) (vals := [.str s, .sl 0 3 0 0 0 true, .int .i64 0]) (h' := [.cells []]) (ds := []) (cs := []) hl3 (fun t0 => by kernel_rfl) trivial).mono ?_
   rintro e s' ⟨rfl, t4, rfl, hl4⟩
   refine Wp.block ?_
   refine (rr_loop h9 (by omega) (Built.new 3 []) hl4).mono ?_
   rintro e s' (⟨⟨rfl, h1⟩, h2⟩ | ⟨rfl, h1, l, id, ex, h2, h3, h4⟩)
   ·rw [h2]
    exact ⟨rfl, h1⟩
   ·rw [h2]
    obtain ⟨t5, H, lo⟩ := s'
    refine Wp.lo (fun e s y hq => hq) ?_
    refine (path2 (nt := 40) (live := [(4, bSl 3 (l.map vC) id ex)]) [2, 3] (e := .ret) (vals := [bSl 3 (l.map vC) id ex, .bool true]) (h' := H) (ds := []) (cs := []) ⟨h1, by intro p hp; rw [List.mem_singleton.1 hp]; exact h3⟩ (fun t0 => by kernel_rfl) trivial).mono ?_
    rintro e s' ⟨rfl, t6, rfl, hl6⟩
    exact ⟨rfl, id, ex, hl6.get (2, _) (by simp), hl6.get (3, _) (by simp), h4⟩
 ·rw [show readRowL s = none by rw [readRowL, if_neg (by omega)]]
  refine (path2 [2, 3] (e := .ret) (vals := [.nils, .bool false]) (h' := []) (ds := [.b true]) (cs := [IntKind.i64 = IntKind.i64, (9 : Int) ≠ 0, cB ((s.length : Int).tmod 9 != 0) true]) hl1 (fun t0 => by kernel_rfl) ⟨rfl, by decide, cD (by rw [hmod]; omega), trivial⟩).mono ?_
  rintro e s' ⟨rfl, t2, rfl, hl2⟩
  exact ⟨rfl, hl2.get (2, _) (by simp), hl2.get (3, _) (by simp)⟩
theorem elt3_vC (l : List Val) : (l.map vC).map (elt 3) = l.map vV := by simp [elt]
theorem rr_pure {s : List UInt8} (hs : s.length ≤ 9223372036854775807) : PureS Try.prog 28 [.str s] (resRow (readRowL s)) := by
 obtain ⟨n, e, s', h1, rfl, h2⟩ := rr_wp hs (t := [.str s] ++ List.replicate 39 (.tup [])) ⟨by simp, by simp [getX_eq]⟩
 cases hr : readRowL s with
 | none =>
  rw [hr] at h2
  obtain ⟨h3, h4⟩ := h2
  have hc : Cl G4 T 28 [.str s] [] (.tup [.nils, .bool false], s'.h, s'.lo) := by
   refine Cl.of (af := a28) (by kernel_rfl) (by kernel_rfl) (by show 1 ≤ 40; omega) ⟨n, _, s', h1, (fun i hi => by cases hi), [.nils, .bool false], ?_, rfl, rfl, rfl⟩
   rw [getX_eq] at h3 h4
   show resAll s' [.t 2, .t 3] = _
   simp only [resAll, resOf, h3, h4]
  exact pureS_cl K4 hc (by kernel_rfl) rfl
 | some l =>
  rw [hr] at h2
  obtain ⟨id, ex, h3, h4, h5⟩ := h2
  have hc : Cl G4 T 28 [.str s] [] (.tup [bSl 3 (l.map vC) id ex, .bool true], s'.h, s'.lo) := by
   refine Cl.of (af := a28) (by kernel_rfl) (by kernel_rfl) (by show 1 ≤ 40; omega) ⟨n, _, s', h1, (fun i hi => by cases hi), [bSl 3 (l.map vC) id ex, .bool true], ?_, rfl, rfl, rfl⟩
   rw [getX_eq] at h3 h4
   show resAll s' [.t 2, .t 3] = _
   simp only [resAll, resOf, h3, h4]
  obtain ⟨m, hm⟩ := hc
  obtain ⟨ex', hf⟩ := h5.frz (n := 1) (es' := l.map vC) (by omega) rfl (fun i e e' he he' => by
   rw [he] at he'
   cases he'
   rw [List.getElem?_map, Option.map_eq_some_iff] at he
   obtain ⟨v, _, rfl⟩ := he
   rfl) h5.len h5.one
  rw [elt3_vC] at hf
  have hp := (pureS_frz K4 hm (by kernel_rfl) (k := 3) (r' := .tup [.ro (l.map vV) 3 ex', .bool true]) (by
   rw [frz, mapO, hf]
   rfl)).wkn
  have hwk : wknL (l.map vV) = l.map vV := by rw [wknL_map, List.map_map]; rfl
  simp only [wkn, wknL, hwk] at hp
  exact hp
open Go
abbrev okRow (s : List UInt8) : Prop := s.length ≤ 9223372036854775807
abbrev fRow (s : List UInt8) : AV := resRow (readRowL s)
theorem clo_resRow (o : Option (List Val)) : clo (resRow o) = true := by
 cases o with
 | none => rfl
 | some l => simp [resRow, clo, cloL, cloL_map clo_vV l]
theorem row_ok : GOk Try.prog 28 (pureG (gOf okRow enStr fRow)) :=
 gOf_ok ⟨_, Try.func28, by kernel_rfl, by kernel_rfl⟩ fun a ha => rr_pure ha
noncomputable def gam5 : List (Nat × GF) := (28, pureG (gOf okRow enStr fRow)) :: gam4
theorem K5 : Known (gGet gam5) tree.get Try.prog := known_of (by kernel_rfl) ⟨row_ok, read_ok, tail_ok, code_ok, cmp_ok, fit_ok, g17_ok, good_ok, trivial⟩ all
noncomputable abbrev G5 : FuncId → Option GF := gGet gam5
theorem code5 {v : Val} (hv : goodVal v = true) (h : List Blk) : Cl G5 T 21 [vV v] h (.str (codeL v), h, none) :=
 Cl.pure (g := gOf okCode enCode fCode) (by kernel_rfl) (gOf_eq (a := v) (fun x y _ _ he => by
  simp only [enCode, List.cons.injEq, and_true] at he
  rw [vV_inj _ _ he]) hv) rfl rfl h
theorem tail5 (n : Int) (h : List Blk) : Cl G5 T 22 [.int .u32 n] h (.str (tailL n), h, none) :=
 Cl.pure (g := gOf (fun _ => True) enInt fTail) (by kernel_rfl) (gOf_eq (a := n) (fun x y _ _ he => by
  simp only [enInt, List.cons.injEq, and_true, AV.int.injEq, true_and] at he
  rw [he]) trivial) rfl rfl h
def rowBy (r : List Val) : List UInt8 := r.flatMap codeL
def rowsBy (x : List (List Val)) : List UInt8 := x.flatMap rowBy
def by2 (n : Int) : List UInt8 := [u8b (IntKind.u8.wrap n), u8b (IntKind.u8.wrap (n.fdiv (2 ^ 8)))]
def tabBy (x : List (List Val)) : List UInt8 := by2 x.length ++ rowsBy x
def bodyBy (l : List (List (List Val))) : List UInt8 := l.flatMap tabBy
def bytesT (l : List (List (List Val))) : List UInt8 := bodyBy l ++ tailL (crcSum (bodyBy l))
abbrev addC (s b : List UInt8) : Prop := pOp evC [] (.bin .add (.c (.str s)) (.c (.str b))) = some (.str (s ++ b))
theorem addC_ok {s b : List UInt8} (h : (s ++ b).length ≤ 9223372036854775807) : addC s b := by
 rw [List.length_append] at h
 simp [addC, pOp, abin, astr, h]
abbrev bB : ACode := a8.body
def B1 : ACode := lp (blk (tl (hd (tl (tl bB)))))
def B2 : ACode := lp (blk (tl (tl (tl (blk (hd (tl B1)))))))
def B3 : ACode := lp (blk (tl (blk (hd (tl B2)))))
section
variable {l : List (List (List Val))} {x : List (List Val)} {r : List Val} {t i : Nat} {H : List Blk} {n : Int}
theorem b3_ok (ht : l[t]? = some x) (hi : x[i]? = some r) (hg : ∀ v ∈ r, goodVal v = true) (hrl : r.length ≤ 1000000) {s0 : List UInt8} (hm : (s0 ++ rowBy r).length ≤ 9223372036854775807) {t0 : List AV}
  (hlv : Lv 63 [(0, sV l), (3, .str s0), (4, .int .i64 (t : Int)), (5, .int .i64 n), (6, .int .i64 (i : Int)), (7, .int .i64 0)] t0) :
  Wp G5 T (.loop B3) { t := t0, h := H, lo := none } fun e s' => e = .exit 4 ∧ ∃ t2, s' = { t := t2, h := H, lo := none } ∧ Lv 63 [(0, sV l), (3, .str (s0 ++ rowBy r)), (4, .int .i64 (t : Int)), (5, .int .i64 n), (6, .int .i64 (i : Int))] t2 := by
 have htl : t < l.length := (List.getElem?_eq_some_iff.1 ht).1
 have hil : i < x.length := (List.getElem?_eq_some_iff.1 hi).1
 have k1 : (t : Int) < ((l.map bV).length : Int) := by simp; omega
 have k2 : (l.map bV)[(t : Int).toNat]? = some (bV x) := by simp [ht]
 have k3 : (i : Int) < ((x.map rV).length : Int) := by simp; omega
 have k4 : (x.map rV)[(i : Int).toNat]? = some (rV r) := by simp [hi]
 refine Wp.loop (fun k s' => ∃ (j : Nat) (s : List UInt8) (t1 : List AV), s' = { t := t1, h := H, lo := none } ∧ k = r.length - j ∧ j ≤ r.length ∧ Lv 63 [(0, sV l), (3, .str s), (4, .int .i64 (t : Int)), (5, .int .i64 n), (6, .int .i64 (i : Int)), (7, .int .i64 (j : Int))] t1 ∧ s ++ (r.drop j).flatMap codeL = s0 ++ rowBy r) ?_ r.length _ ⟨0, s0, t0, rfl, by omega, by omega, hlv, rfl⟩
 rintro k s' ⟨j, s, t1, rfl, rfl, hj, hl, hF⟩
 refine Wp.seq ?_
 by_cases hlt : j < r.length
 ·have e1 := List.getElem?_eq_getElem hlt
  have hgv := hg r[j] (List.getElem_mem hlt)
  rw [List.drop_eq_getElem_cons hlt, List.flatMap_cons] at hF
  generalize r[j] = v at e1 hgv hF
  have k5 : (j : Int) < ((r.map vV).length : Int) := by simp; omega
  have k6 : (r.map vV)[(j : Int).toNat]? = some (vV v) := by simp [e1]
  refine (path2 [0, 3, 4, 5, 6, 7] (e := .normal) (vals := [sV l, .str s, .int .i64 (t : Int), .int .i64 n, .int .i64 (i : Int), .int .i64 (j : Int)]) (h' := H) (ds := [.v (bV x), .v (rV r), .b true]) (cs := [1 = 1, 0 ≤ (t : Int), (t : Int) < ((l.map bV).length : Int), (l.map bV)[(t : Int).toNat]? = some (bV x), 1 = 1, 0 ≤ (i : Int), (i : Int) < ((x.map rV).length : Int), (x.map rV)[(i : Int).toNat]? = some (rV r), cB (decide ((j : Int) < ((r.map vV).length : Int))) true]) hl (fun t0 => by kernel_rfl) ⟨rfl, by omega, k1, k2, rfl, by omega, k3, k4, cT k5, trivial⟩).mono ?_
  rintro e s' ⟨rfl, t2, rfl, hl2⟩
  refine Wp.seq (Wp.block ?_)
  have hadd : addC s (codeL v) := addC_ok (by
   have : (s ++ (codeL v ++ (r.drop (j + 1)).flatMap codeL)).length = (s0 ++ rowBy r).length := by rw [hF]
   simp only [List.length_append] at this hm ⊢
   omega)
  refine (path2 [0, 3, 4, 5, 6, 7] (e := .normal) (vals := [sV l, .str (s ++ codeL v), .int .i64 (t : Int), .int .i64 n, .int .i64 (i : Int), .int .i64 (j : Int)]) (h' := H) (ds := [.v (bV x), .v (rV r), .v (vV v), .r (.str (codeL v)) H none, .g (.str (s ++ codeL v))])
   (cs := [1 = 1, 0 ≤ (t : Int), (t : Int) < ((l.map bV).length : Int), (l.map bV)[(t : Int).toNat]? = some (bV x), 1 = 1, 0 ≤ (i : Int), (i : Int) < ((x.map rV).length : Int), (x.map rV)[(i : Int).toNat]? = some (rV r), 3 = 3, 0 ≤ (j : Int), (j : Int) < ((r.map vV).length : Int), (r.map vV)[(j : Int).toNat]? = some (vV v), Cl G5 T 21 [vV v] H (.str (codeL v), H, none), addC s (codeL v)]) hl2 (fun t0 => by kernel_rfl)
   ⟨rfl, by omega, k1, k2, rfl, by omega, k3, k4, rfl, by omega, k5, k6, code5 hgv H, hadd, trivial⟩).mono ?_
  rintro e s' ⟨rfl, t3, rfl, hl3⟩
  refine (path2 [0, 3, 4, 5, 6, 7] (e := .normal) (vals := [sV l, .str (s ++ codeL v), .int .i64 (t : Int), .int .i64 n, .int .i64 (i : Int), .int .i64 (IntKind.i64.wrap ((j : Int) + 1))]) (h' := H) (ds := []) (cs := []) hl3 (fun t0 => by kernel_rfl) trivial).mono ?_
  rintro e s' ⟨rfl, t4, rfl, hl4⟩
  rw [i64_succ (by omega) (by omega)] at hl4
  exact ⟨r.length - (j + 1), by omega, j + 1, _, t4, rfl, rfl, by omega, hl4, by rw [← hF]; simp⟩
 ·have hs : s = s0 ++ rowBy r := by rw [← hF, List.drop_of_length_le (by omega)]; simp
  rw [← hs]
  refine (path2 [0, 3, 4, 5, 6] (e := .exit 4) (vals := [sV l, .str s, .int .i64 (t : Int), .int .i64 n, .int .i64 (i : Int)]) (h' := H) (ds := [.v (bV x), .v (rV r), .b false]) (cs := [1 = 1, 0 ≤ (t : Int), (t : Int) < ((l.map bV).length : Int), (l.map bV)[(t : Int).toNat]? = some (bV x), 1 = 1, 0 ≤ (i : Int), (i : Int) < ((x.map rV).length : Int), (x.map rV)[(i : Int).toNat]? = some (rV r), cB (decide ((j : Int) < ((r.map vV).length : Int))) false]) hl (fun t0 => by kernel_rfl) ⟨rfl, by omega, k1, k2, rfl, by omega, k3, k4, cF (by simp; omega), trivial⟩).mono ?_
  rintro e s' ⟨rfl, t2, rfl, hl2⟩
  exact ⟨rfl, t2, rfl, hl2⟩
theorem b2_ok (ht : l[t]? = some x) (hg : ∀ r ∈ x, ∀ v ∈ r, goodVal v = true) (hrl : ∀ r ∈ x, r.length ≤ 1000000) (hxl : x.length ≤ 1000000) {s0 : List UInt8} (hm : (s0 ++ rowsBy x).length ≤ 9223372036854775807) {t0 : List AV}
  (hlv : Lv 63 [(0, sV l), (3, .str s0), (4, .int .i64 (t : Int)), (5, .int .i64 x.length), (6, .int .i64 0)] t0) :
  Wp G5 T (.loop B2) { t := t0, h := H, lo := none } fun e s' => e = .exit 2 ∧ ∃ t2, s' = { t := t2, h := H, lo := none } ∧ Lv 63 [(0, sV l), (3, .str (s0 ++ rowsBy x)), (4, .int .i64 (t : Int))] t2 := by
 refine Wp.loop (fun k s' => ∃ (i : Nat) (s : List UInt8) (t1 : List AV), s' = { t := t1, h := H, lo := none } ∧ k = x.length - i ∧ i ≤ x.length ∧ Lv 63 [(0, sV l), (3, .str s), (4, .int .i64 (t : Int)), (5, .int .i64 x.length), (6, .int .i64 (i : Int))] t1 ∧ s ++ (x.drop i).flatMap rowBy = s0 ++ rowsBy x) ?_ x.length _ ⟨0, s0, t0, rfl, by omega, by omega, hlv, rfl⟩
 rintro k s' ⟨i, s, t1, rfl, rfl, hi, hl, hF⟩
 refine Wp.seq ?_
 by_cases hlt : i < x.length
 ·have e1 := List.getElem?_eq_getElem hlt
  have hgr := hg x[i] (List.getElem_mem hlt)
  have hlr := hrl x[i] (List.getElem_mem hlt)
  rw [List.drop_eq_getElem_cons hlt, List.flatMap_cons] at hF
  generalize x[i] = r at e1 hgr hF hlr
  refine (path2 [0, 3, 4, 5, 6] (e := .normal) (vals := [sV l, .str s, .int .i64 (t : Int), .int .i64 x.length, .int .i64 (i : Int)]) (h' := H) (ds := [.b true]) (cs := [cB (decide ((i : Int) < (x.length : Int))) true]) hl (fun t0 => by kernel_rfl) ⟨cT (by omega), trivial⟩).mono ?_
  rintro e s' ⟨rfl, t2, rfl, hl2⟩
  refine Wp.seq (Wp.block (Wp.seq ?_))
  refine (path2 [0, 3, 4, 5, 6, 7] (e := .normal) (vals := [sV l, .str s, .int .i64 (t : Int), .int .i64 x.length, .int .i64 (i : Int), .int .i64 0]) (h' := H) (ds := []) (cs := []) hl2 (fun t0 => by kernel_rfl) trivial).mono ?_
  rintro e s' ⟨rfl, t3, rfl, hl3⟩
  refine Wp.block ?_
  refine (b3_ok ht e1 hgr hlr (by
   have : (s ++ (rowBy r ++ (x.drop (i + 1)).flatMap rowBy)).length = (s0 ++ rowsBy x).length := by rw [hF]
   simp only [List.length_append] at this hm ⊢
   omega) hl3).mono ?_
  rintro e s' ⟨rfl, t4, rfl, hl4⟩
  refine (path2 [0, 3, 4, 5, 6] (e := .normal) (vals := [sV l, .str (s ++ rowBy r), .int .i64 (t : Int), .int .i64 x.length, .int .i64 (IntKind.i64.wrap ((i : Int) + 1))]) (h' := H) (ds := []) (cs := []) hl4 (fun t0 => by kernel_rfl) trivial).mono ?_
  rintro e s' ⟨rfl, t5, rfl, hl5⟩
  rw [i64_succ (by omega) (by omega)] at hl5
  exact ⟨x.length - (i + 1), by omega, i + 1, _, t5, rfl, rfl, by omega, hl5, by rw [← hF]; simp⟩
 ·have hs : s = s0 ++ rowsBy x := by rw [← hF, List.drop_of_length_le (by omega)]; simp
  rw [← hs]
  refine (path2 [0, 3, 4] (e := .exit 2) (vals := [sV l, .str s, .int .i64 (t : Int)]) (h' := H) (ds := [.b false]) (cs := [cB (decide ((i : Int) < (x.length : Int))) false]) hl (fun t0 => by kernel_rfl) ⟨cF (by omega), trivial⟩).mono ?_
  rintro e s' ⟨rfl, t2, rfl, hl2⟩
  exact ⟨rfl, t2, rfl, hl2⟩
end
structure OkB (l : List (List (List Val))) : Prop where
 len : l.length ≤ 1000000
 rl : ∀ x ∈ l, x.length ≤ 1000000
 vl : ∀ x ∈ l, ∀ r ∈ x, r.length ≤ 1000000
 gd : ∀ x ∈ l, ∀ r ∈ x, ∀ v ∈ r, goodVal v = true
 bd : (bodyBy l).length ≤ 1000000000
def QBy (r : List UInt8) (e : AExit) (s : St) : Prop := e = .ret ∧ getX s.t 2 = .str r
theorem tailL_len (n : Int) : (tailL n).length = 4 := rfl
theorem bytes_cl {l : List (List (List Val))} (ok : OkB l) : ∃ h' lo, Cl G5 T 8 [sV l] [] (.str (bytesT l), h', lo) := by
 suffices hw : Wp G5 T bB { t := [sV l] ++ List.replicate 62 (.tup []), h := [] } (QBy (bytesT l)) by
  obtain ⟨r, h', lo, rfl, hc⟩ := Cl.slot' (Γ := G5) (tbl := T) (af := a8) (args := [sV l]) (h := []) (by kernel_rfl) (by kernel_rfl) rfl rfl (fun r h' => r = .str (bytesT l)) hw
  exact ⟨h', lo, hc⟩
 have hbd := ok.bd
 have hll := ok.len
 refine Wp.seq ?_
 refine (path2 (nt := 63) (live := [(0, sV l)]) [0] (e := .normal) (vals := [sV l]) (h' := []) (ds := []) (cs := []) ⟨by simp, by simp [getX_eq]⟩ (fun t0 => by kernel_rfl) trivial).mono ?_
 rintro e s' ⟨rfl, t1, rfl, hl1⟩
 refine Wp.seq ?_
 refine (path2 [0, 3] (e := .normal) (vals := [sV l, .str []]) (h' := []) (ds := []) (cs := []) hl1 (fun t0 => by kernel_rfl) trivial).mono ?_
 rintro e s' ⟨rfl, t2, rfl, hl2⟩
 refine Wp.seq (Wp.seq ?_)
 refine (path2 [0, 3, 4] (e := .normal) (vals := [sV l, .str [], .int .i64 0]) (h' := []) (ds := []) (cs := []) hl2 (fun t0 => by kernel_rfl) trivial).mono ?_
 rintro e s' ⟨rfl, t3, rfl, hl3⟩
 refine Wp.block ?_
 refine (Wp.loop (Q := fun e s' => e = .exit 0 ∧ ∃ t H, s' = { t := t, h := H, lo := none } ∧ Lv 63 [(3, .str (bodyBy l))] t) (fun k s' => ∃ (t : Nat) (s : List UInt8) (H : List Blk) (t1 : List AV), s' = { t := t1, h := H, lo := none } ∧ k = l.length - t ∧ t ≤ l.length ∧ Lv 63 [(0, sV l), (3, .str s), (4, .int .i64 (t : Int))] t1 ∧ s ++ (l.drop t).flatMap tabBy = bodyBy l) ?_ l.length _ ⟨0, [], [], t3, rfl, by omega, by omega, hl3, rfl⟩).mono ?_
 ·rintro k s' ⟨t, s, H, t1, rfl, rfl, hi, hl, hF⟩
  refine Wp.seq ?_
  by_cases hlt : t < l.length
  ·have e1 := List.getElem?_eq_getElem hlt
   have hxm : l[t] ∈ l := List.getElem_mem hlt
   rw [List.drop_eq_getElem_cons hlt, List.flatMap_cons] at hF
   generalize l[t] = x at e1 hxm hF
   have hxl := ok.rl x hxm
   have k1 : (t : Int) < ((l.map bV).length : Int) := by simp; omega
   have k2 : (l.map bV)[(t : Int).toNat]? = some (bV x) := by simp [e1]
   have hlen : (s ++ tabBy x).length ≤ 1000000000 := by
    have : (s ++ (tabBy x ++ (l.drop (t + 1)).flatMap tabBy)).length = (bodyBy l).length := by rw [hF]
    simp only [List.length_append] at this ⊢
    omega
   have hadd : addC s (by2 x.length) := addC_ok (by
    simp only [tabBy, List.length_append] at hlen ⊢
    omega)
   refine (path2 [0, 3, 4] (e := .normal) (vals := [sV l, .str s, .int .i64 (t : Int)]) (h' := H) (ds := [.b true]) (cs := [cB (decide ((t : Int) < ((l.map bV).length : Int))) true]) hl (fun t0 => by kernel_rfl) ⟨cT k1, trivial⟩).mono ?_
   rintro e s' ⟨rfl, t2, rfl, hl2⟩
   refine Wp.seq (Wp.block (Wp.seq ?_))
   refine (path2 [0, 3, 4, 5] (e := .normal) (vals := [sV l, .str s, .int .i64 (t : Int), .int .i64 ((x.map rV).length : Int)]) (h' := H) (ds := [.v (bV x)]) (cs := [1 = 1, 0 ≤ (t : Int), (t : Int) < ((l.map bV).length : Int), (l.map bV)[(t : Int).toNat]? = some (bV x)]) hl2 (fun t0 => by kernel_rfl) ⟨rfl, by omega, k1, k2, trivial⟩).mono ?_
   rintro e s' ⟨rfl, t3, rfl, hl3⟩
   rw [List.length_map] at hl3
   refine Wp.seq ?_
   refine (path2 [0, 3, 4, 5] (e := .normal) (vals := [sV l, .str (s ++ by2 x.length), .int .i64 (t : Int), .int .i64 (x.length : Int)]) (h' := H ++ [Blk.cells [.int .u8 (IntKind.u8.wrap x.length), .int .u8 (IntKind.u8.wrap ((x.length : Int).fdiv (2 ^ 8)))]])
    (ds := [.w (.sl H.length 1 0 2 2 true) (H ++ [Blk.cells [.int .u8 (IntKind.u8.wrap x.length), .int .u8 (IntKind.u8.wrap ((x.length : Int).fdiv (2 ^ 8)))]]) none, .f (.str (by2 x.length)), .g (.str (s ++ by2 x.length))])
    (cs := [wOp evC H (.buildSl [.int .u8 0] 2 [(0, .c (.int .u8 (IntKind.u8.wrap x.length))), (1, .c (.int .u8 (IntKind.u8.wrap ((x.length : Int).fdiv (2 ^ 8)))))]) = some (.sl H.length 1 0 2 2 true, H ++ [Blk.cells [.int .u8 (IntKind.u8.wrap x.length), .int .u8 (IntKind.u8.wrap ((x.length : Int).fdiv (2 ^ 8)))]], none),
     pOp evC (H ++ [Blk.cells [.int .u8 (IntKind.u8.wrap x.length), .int .u8 (IntKind.u8.wrap ((x.length : Int).fdiv (2 ^ 8)))]]) (.b2s (.c (.sl H.length 1 0 2 2 true))) = some (.str (by2 x.length)), addC s (by2 x.length)]) hl3 (fun t0 => by kernel_rfl)
    ⟨rfl, by simp [pOp, rdCells, toBytes, by2, u8b], hadd, trivial⟩).mono ?_
   rintro e s' ⟨rfl, t4, rfl, hl4⟩
   refine Wp.seq ?_
   refine (path2 [0, 3, 4, 5, 6] (e := .normal) (vals := [sV l, .str (s ++ by2 x.length), .int .i64 (t : Int), .int .i64 (x.length : Int), .int .i64 0]) (h' := H ++ [Blk.cells [.int .u8 (IntKind.u8.wrap x.length), .int .u8 (IntKind.u8.wrap ((x.length : Int).fdiv (2 ^ 8)))]]) (ds := []) (cs := []) hl4 (fun t0 => by kernel_rfl) trivial).mono ?_
   rintro e s' ⟨rfl, t5, rfl, hl5⟩
   refine Wp.block ?_
   refine (b2_ok e1 (ok.gd x hxm) (ok.vl x hxm) hxl (by
    simp only [tabBy, List.length_append] at hlen ⊢
    omega) hl5).mono ?_
   rintro e s' ⟨rfl, t6, rfl, hl6⟩
   refine (path2 [0, 3, 4] (e := .normal) (vals := [sV l, .str (s ++ by2 x.length ++ rowsBy x), .int .i64 (IntKind.i64.wrap ((t : Int) + 1))]) (h' := H ++ [Blk.cells [.int .u8 (IntKind.u8.wrap x.length), .int .u8 (IntKind.u8.wrap ((x.length : Int).fdiv (2 ^ 8)))]]) (ds := []) (cs := []) hl6 (fun t0 => by kernel_rfl) trivial).mono ?_
   rintro e s' ⟨rfl, t7, rfl, hl7⟩
   rw [i64_succ (by omega) (by omega)] at hl7
   exact ⟨l.length - (t + 1), by omega, t + 1, _, _, t7, rfl, rfl, by omega, hl7, by rw [← hF]; simp [tabBy]⟩
  ·have hs : s = bodyBy l := by rw [← hF, List.drop_of_length_le (by omega)]; simp
   rw [← hs]
   refine (path2 [3] (e := .exit 0) (vals := [.str s]) (h' := H) (ds := [.b false]) (cs := [cB (decide ((t : Int) < ((l.map bV).length : Int))) false]) hl (fun t0 => by kernel_rfl) ⟨cF (by simp; omega), trivial⟩).mono ?_
   rintro e s' ⟨rfl, t2, rfl, hl2⟩
   exact ⟨rfl, t2, H, rfl, hl2⟩
 ·rintro e s' ⟨rfl, t4, H, rfl, hl4⟩
  have hsum := sum_cl (Γ := G5) (by kernel_rfl) (s := bodyBy l) (by omega) H
  have htl := tail5 (crcSum (bodyBy l)) H
  have hadd : addC (bodyBy l) (tailL (crcSum (bodyBy l))) := addC_ok (by rw [List.length_append, tailL_len]; omega)
  refine (path2 [2] (e := .ret) (vals := [.str (bytesT l)]) (h' := H) (ds := [.r (.int .u32 (crcSum (bodyBy l))) H none, .r (.str (tailL (crcSum (bodyBy l)))) H none, .g (.str (bodyBy l ++ tailL (crcSum (bodyBy l))))]) (cs := [Cl G5 T 23 [.str (bodyBy l)] H (.int .u32 (crcSum (bodyBy l)), H, none), Cl G5 T 22 [.int .u32 (crcSum (bodyBy l))] H (.str (tailL (crcSum (bodyBy l))), H, none), addC (bodyBy l) (tailL (crcSum (bodyBy l)))]) hl4 (fun t0 => by kernel_rfl) ⟨hsum, htl, hadd, trivial⟩).mono ?_
  rintro e s' ⟨rfl, t5, rfl, hl5⟩
  exact ⟨rfl, hl5.get _ (List.mem_singleton.2 rfl)⟩
open Go
theorem bV_inj (a b : List (List Val)) (h : bV a = bV b) : a = b := by
 simp only [bV, AV.ro.injEq, and_true] at h
 exact map_inj rV_inj h
theorem sV_inj (a b : List (List (List Val))) (h : sV a = sV b) : a = b := by
 simp only [sV, AV.ro.injEq, and_true] at h
 exact map_inj bV_inj h
abbrev X35 := List (List Int) × List Vw × List (List (List Val))
abbrev okG35 (x : X35) : Prop := OkP x.1 x.2.1 ∧ OkT x.2.2
abbrev enG35 (x : X35) : List AV := [pA x.1 (vsV x.2.1), sV x.2.2]
abbrev fG35 (x : X35) : AV := .bool (goodT x.1 x.2.1 x.2.2)
abbrev enTabs (l : List (List (List Val))) : List AV := [sV l]
abbrev fBytes (l : List (List (List Val))) : AV := .str (bytesT l)
theorem g35_ok : GOk Try.prog 7 (pureFG 10 (gOf okG35 enG35 fG35)) :=
 gOfF_ok ⟨_, Try.func7, by kernel_rfl, by kernel_rfl⟩ fun a ha => by
  obtain ⟨h', hc⟩ := good35_cl ha.1 ha.2
  exact pureS_cl K2 hc (by kernel_rfl) rfl
theorem bytes_ok : GOk Try.prog 8 (pureFG 10 (gOf OkB enTabs fBytes)) :=
 gOfF_ok ⟨_, Try.func8, by kernel_rfl, by kernel_rfl⟩ fun a ha => by
  obtain ⟨h', lo, hc⟩ := bytes_cl ha
  exact pureS_cl K5 hc (by kernel_rfl) rfl
noncomputable def gam6 : List (Nat × GF) := (7, pureFG 10 (gOf okG35 enG35 fG35)) :: (8, pureFG 10 (gOf OkB enTabs fBytes)) :: gam5
theorem K6 : Known (gGet gam6) tree.get Try.prog := known_of (by kernel_rfl) ⟨g35_ok, bytes_ok, row_ok, read_ok, tail_ok, code_ok, cmp_ok, fit_ok, g17_ok, good_ok, trivial⟩ all
noncomputable abbrev G6 : FuncId → Option GF := gGet gam6
theorem mapO_map {α : Type} {f : AV → Option AV} {g g' : α → AV} (h : ∀ a, f (g a) = some (g' a)) : ∀ l : List α, mapO f (l.map g) = some (l.map g')
 | [] => rfl
 | a :: l => by rw [List.map_cons, mapO, h a, mapO_map h l]; rfl
theorem frz_row {α : Type} {H : List Blk} {n st : Nat} {g : α → AV} (h : ∀ a, frz H n (g a) = some (g a)) (hc : ∀ a, (g a).cells.length = st) (l : List α) (ex : Bool) : frz H (n + 1) (.ro (l.map g) st ex) = some (.ro (l.map g) st ex) := by
 rw [frz, mapO_map h, Option.bind_some, if_pos]
 rw [List.all_eq_true]
 intro e he
 obtain ⟨a, _, rfl⟩ := List.mem_map.1 he
 rw [hc]
 exact Nat.beq_refl st
theorem frz_iV (H n) (x : Int) : frz H (n + 1) (iV x) = some (iV x) := rfl
theorem frz_vV (H n) (v : Val) : frz H (n + 2) (vV v) = some (vV v) := rfl
theorem frz_rV (H n) (r : List Val) : frz H (n + 3) (rV r) = some (rV r) := frz_row (frz_vV H n) (fun _ => rfl) r false
theorem frz_bV (H n) (x : List (List Val)) : frz H (n + 4) (bV x) = some (bV x) := frz_row (frz_rV H n) (fun _ => rfl) x false
theorem frz_sV (H n) (l : List (List (List Val))) : frz H (n + 5) (sV l) = some (sV l) := frz_row (frz_bV H n) (fun _ => rfl) l false
theorem frz_is (H n) (c : List Int) : frz H (n + 2) (.ro (c.map iV) 1 false) = some (.ro (c.map iV) 1 false) := frz_row (frz_iV H n) (fun _ => rfl) c false
theorem frz_tV (H n) (c : List Int) : frz H (n + 3) (tV c) = some (tV c) := by rw [tV, frz, mapO, frz_is]; rfl
theorem frz_wV (H n) (v : Vw) : frz H (n + 3) (wV v) = some (wV v) := by
 rw [wV, frz]
 simp only [mapO]
 rw [frz_is]
 rfl
theorem frz_pA (H n) (T V) : frz H (n + 5) (pA T (vsV V)) = some (pA T (vsV V)) := by
 have h1 : frz H (n + 4) (.ro (T.map tV) 1 false) = some (.ro (T.map tV) 1 false) := frz_row (frz_tV H n) (fun _ => rfl) T false
 have h2 : frz H (n + 4) (vsV V) = some (vsV V) := frz_row (frz_wV H n) (fun _ => rfl) V false
 rw [pA, frz]
 simp only [mapO]
 rw [h1, h2]
 rfl
theorem wknL_id {α : Type} {g : α → AV} (h : ∀ a, wkn (g a) = g a) (l : List α) : wknL (l.map g) = l.map g := by
 rw [wknL_map, List.map_map]
 exact List.map_congr_left fun a _ => h a
theorem wkn_vV (v : Val) : wkn (vV v) = vV v := rfl
theorem wkn_rV (r : List Val) : wkn (rV r) = rV r := by rw [rV, wkn, wknL_id wkn_vV]
theorem wkn_bV (x : List (List Val)) (ex) : wkn (.ro (x.map rV) 1 ex) = bV x := by rw [wkn, wknL_id wkn_rV]
theorem wkn_sV (l : List (List (List Val))) : wkn (sV l) = sV l := by rw [sV, wkn, wknL_id fun x => wkn_bV x false]
theorem wkn_is (c : List Int) : wkn (.ro (c.map iV) 1 false) = .ro (c.map iV) 1 false := by rw [wkn, wknL_id fun _ => rfl]
theorem wkn_tV (c : List Int) : wkn (tV c) = tV c := by rw [tV, wkn, wknL, wkn_is]; rfl
theorem wkn_wV (v : Vw) : wkn (wV v) = wV v := by
 rw [wV, wkn]
 simp only [wknL]
 rw [wkn_is]
 rfl
theorem wkn_pA (T V) : wkn (pA T (vsV V)) = pA T (vsV V) := by
 rw [pA, wkn]
 simp only [wknL]
 rw [wkn, wknL_id wkn_tV, vsV, wkn, wknL_id wkn_wV]
theorem g356 {T : List (List Int)} {V : List Vw} {l : List (List (List Val))} (okp : OkP T V) (ok : OkT l) {H : List Blk} {v v' : AV} (hf : frz H 10 v = some v') (hw : wkn v' = sV l) : Cl G6 Ax.T 7 [pA T (vsV V), v] H (.bool (goodT T V l), H, none) :=
 Cl.pureF (k := 10) (g := gOf okG35 enG35 fG35) (by kernel_rfl) (args' := [pA T (vsV V), v']) (by simp only [mapO, frz_pA H 5, hf]) (by
  rw [show wknL [pA T (vsV V), v'] = enG35 (T, V, l) by simp only [wknL, wkn_pA, hw]]
  exact gOf_eq (a := (T, V, l)) (fun x y _ _ he => by
   simp only [enG35, pA, vsV, List.cons.injEq, and_true, AV.agg.injEq, AV.ro.injEq, true_and] at he
   show fG35 x = fG35 y
   simp only [fG35, map_inj tV_inj he.1.1, map_inj wV_inj he.1.2, map_inj bV_inj he.2]) ⟨okp, ok⟩) rfl
theorem bytes6 {l : List (List (List Val))} (ok : OkB l) {H : List Blk} {v v' : AV} (hf : frz H 10 v = some v') (hw : wkn v' = sV l) : Cl G6 Ax.T 8 [v] H (.str (bytesT l), H, none) :=
 Cl.pureF (k := 10) (g := gOf OkB enTabs fBytes) (by kernel_rfl) (args' := [v']) (by simp only [mapO, hf]) (by
  rw [show wknL [v'] = enTabs l by simp only [wknL, hw]]
  exact gOf_eq (a := l) (fun x y _ _ he => by
   simp only [enTabs, List.cons.injEq, and_true] at he
   show fBytes x = fBytes y
   rw [sV_inj _ _ he]) ok) rfl
theorem codeL_len {v : Val} (h : goodVal v = true) : (codeL v).length = 9 := by
 obtain ⟨k, n, s⟩ := v
 by_cases h1 : k = 1
 ·simp [codeL, h1, codeNum]
 ·simp only [goodVal, if_neg h1, Bool.and_eq_true, decide_eq_true_eq] at h
  obtain ⟨_, _, h3⟩ := h
  simp [codeL, h1]
  omega
theorem parse9_good {s : List UInt8} {v : Val} (h : parse9 s = some v) : goodVal v = true := by
 unfold parse9 at h
 split at h
 ·split at h
  ·cases h; rfl
  ·split at h
   ·split at h
    ·cases h
    ·cases h; exact goodTxt (by simp; omega)
   ·cases h
 ·cases h
theorem readL_good {s : List UInt8} (h : (readL s).2 = true) : goodVal (readL s).1 = true ∧ codeL (readL s).1 = s := by
 unfold readL at h ⊢
 split at h
 ·rename_i v hv
  split at h
  ·rename_i hc
   rw [if_pos hc]
   exact ⟨parse9_good hv, hc⟩
  ·cases h
 ·cases h
theorem readRowF_good : ∀ {n : Nat} {s : List UInt8} {l : List Val}, readRowF n s = some l → l.length = n ∧ (∀ v ∈ l, goodVal v = true) ∧ (s.length = 9 * n → rowBy l = s)
 | 0, s, l, h => by
  cases h
  exact ⟨rfl, fun v hv => (by cases hv), fun hs => by rw [List.eq_nil_of_length_eq_zero (l := s) (by omega)]; rfl⟩
 | n + 1, s, l, h => by
  rw [readRowF] at h
  split at h <;> first | (cases h; done) | skip
  rename_i hr
  rw [Option.map_eq_some_iff] at h
  obtain ⟨q, h1, rfl⟩ := h
  obtain ⟨g1, g2⟩ := readL_good hr
  obtain ⟨i1, i2, i3⟩ := readRowF_good h1
  refine ⟨by simp [i1], fun v hv => ?_, fun hs => ?_⟩
  ·rcases List.mem_cons.1 hv with rfl | hv
   ·exact g1
   ·exact i2 v hv
  ·have := i3 (by rw [List.length_drop]; omega)
   rw [rowBy] at this ⊢
   rw [List.flatMap_cons, this, g2, List.take_append_drop]
theorem readRowL_good {s : List UInt8} {l : List Val} (h : readRowL s = some l) : l.length ≤ 4 ∧ 9 * l.length = s.length ∧ (∀ v ∈ l, goodVal v = true) ∧ rowBy l = s := by
 unfold readRowL at h
 split at h <;> first | (cases h; done) | skip
 rename_i hs
 obtain ⟨h1, h2, h3⟩ := readRowF_good h
 exact ⟨by omega, by omega, h2, h3 (by omega)⟩
def num2 (u : List UInt8) : Nat := (u.getD 0 0).toNat + (u.getD 1 0).toNat * 256
def rowsF (c : Nat) : Nat → List UInt8 → Option (List (List Val) × List UInt8)
 | 0, u => some ([], u)
 | n + 1, u => if u.length < 9 * c then none else match readRowL (u.take (9 * c)) with
  | some r => (rowsF c n (u.drop (9 * c))).map fun p => (r :: p.1, p.2)
  | none => none
def tabsF : List (List Int) → List UInt8 → Option (List (List (List Val)) × List UInt8)
 | [], u => some ([], u)
 | c :: T, u => if u.length < 2 then none else match rowsF c.length (num2 u) (u.drop 2) with
  | some (rows, rest) => (tabsF T rest).map fun p => (rows :: p.1, p.2)
  | none => none
theorem rowsF_good {c : Nat} : ∀ {n : Nat} {u : List UInt8} {rows : List (List Val)} {rest : List UInt8}, rowsF c n u = some (rows, rest) → rows.length = n ∧ (∀ r ∈ rows, r.length = c ∧ r.length ≤ 4 ∧ ∀ v ∈ r, goodVal v = true) ∧ u = rowsBy rows ++ rest
 | 0, u, rows, rest, h => by
  cases h
  exact ⟨rfl, fun r hr => (by cases hr), rfl⟩
 | n + 1, u, rows, rest, h => by
  rw [rowsF] at h
  split at h <;> first | (cases h; done) | skip
  rename_i hlt
  split at h <;> first | (cases h; done) | skip
  rename_i r hr
  rw [Option.map_eq_some_iff] at h
  obtain ⟨⟨q, w⟩, h1, h2⟩ := h
  cases h2
  obtain ⟨g1, g2, g3, g4⟩ := readRowL_good hr
  obtain ⟨i1, i2, i3⟩ := rowsF_good h1
  rw [List.length_take, Nat.min_eq_left (by omega)] at g2
  refine ⟨by simp [i1], fun x hx => ?_, ?_⟩
  ·rcases List.mem_cons.1 hx with rfl | hx
   ·exact ⟨by omega, g1, g3⟩
   ·exact i2 x hx
  ·rw [rowsBy, List.flatMap_cons, g4, List.append_assoc]
   rw [rowsBy] at i3
   rw [← i3, List.take_append_drop]
theorem tabsF_good : ∀ {T : List (List Int)} {u : List UInt8} {l : List (List (List Val))} {rest : List UInt8}, tabsF T u = some (l, rest) → l.length = T.length ∧ (∀ x ∈ l, x.length ≤ 65535 ∧ ∀ r ∈ x, r.length ≤ 4 ∧ ∀ v ∈ r, goodVal v = true) ∧ (bodyBy l).length + rest.length = u.length
 | [], u, l, rest, h => by
  cases h
  exact ⟨rfl, fun r hr => (by cases hr), by simp [bodyBy]⟩
 | c :: T, u, l, rest, h => by
  rw [tabsF] at h
  split at h <;> first | (cases h; done) | skip
  rename_i hlt
  split at h <;> first | (cases h; done) | skip
  rename_i rows rest1 hr
  rw [Option.map_eq_some_iff] at h
  obtain ⟨⟨q, w⟩, h1, h2⟩ := h
  cases h2
  obtain ⟨g1, g2, g3⟩ := rowsF_good hr
  obtain ⟨i1, i2, i3⟩ := tabsF_good h1
  have hn : num2 u ≤ 65535 := by
   have a1 := (u.getD 0 0).toNat_lt
   have a2 := (u.getD 1 0).toNat_lt
   unfold num2
   omega
  refine ⟨by simp [i1], fun x hx => ?_, ?_⟩
  ·rcases List.mem_cons.1 hx with rfl | hx
   ·exact ⟨by omega, fun r hr => (g2 r hr).2⟩
   ·exact i2 x hx
  ·have := congrArg List.length g3
   rw [List.length_drop, List.length_append] at this
   show (bodyBy (rows :: q)).length + w.length = u.length
   rw [bodyBy] at i3 ⊢
   rw [List.flatMap_cons, List.length_append, tabBy, List.length_append, show (by2 (rows.length : Int)).length = 2 from rfl]
   omega
open Go
theorem row6 {s : List UInt8} (hs : s.length ≤ 9223372036854775807) (h : List Blk) : Cl G6 T 28 [.str s] h (resRow (readRowL s), h, none) :=
 Cl.pure (g := gOf okRow enStr fRow) (by kernel_rfl) (gOf_eq (a := s) (fun x y _ _ he => by rw [enStr_inj he]) hs) rfl (clo_resRow _) h
theorem tail6 (n : Int) (h : List Blk) : Cl G6 T 22 [.int .u32 n] h (.str (tailL n), h, none) :=
 Cl.pure (g := gOf (fun _ => True) enInt fTail) (by kernel_rfl) (gOf_eq (a := n) (fun x y _ _ he => by
  simp only [enInt, List.cons.injEq, and_true, AV.int.injEq, true_and] at he
  rw [he]) trivial) rfl rfl h
theorem g176 {T : List (List Int)} {V : List Vw} (ok : OkP T V) (h : List Blk) : Cl G6 Ax.T 18 [pA T (vsV V)] h (.bool (planOk T V), h, none) :=
 Cl.pure (g := gOf okG17 enG17 fG17) (by kernel_rfl) (gOf_eq (a := (T, V)) (fun x y _ _ he => by
  simp only [enG17, pA, vsV, List.cons.injEq, and_true, AV.agg.injEq, AV.ro.injEq, true_and] at he
  show fG17 x = fG17 y
  simp only [fG17, map_inj tV_inj he.1, map_inj wV_inj he.2]) ok) (by simp [cloL, clo_pA]) rfl h
theorem slcC_to {u : List UInt8} {n : Nat} (h : n ≤ u.length) : slcC u none (some (.int .i64 (n : Int))) (.str (u.take n)) := by
 simp only [slcC, optNat, asNat, Int.natCast_nonneg, if_true, Int.toNat_natCast, Option.bind_some, Option.map_none]
 rw [if_pos h, if_pos (Nat.zero_le _)]
 rfl
theorem slcC_from {u : List UInt8} {n : Nat} (h : n ≤ u.length) : slcC u (some (.int .i64 (n : Int))) none (.str (u.drop n)) := by
 simp only [slcC, optNat, asNat, Int.natCast_nonneg, if_true, Int.toNat_natCast, Option.bind_some]
 rw [if_pos (Nat.le_refl _), if_pos h]
 simp
abbrev bRd : ACode := a10.body
def O1 : ACode := lp (blk (tl (hd (tl (tl (tl (tl bRd)))))))
def O2 : ACode := lp (blk (tl (hd (tl (tl (tl (tl (tl (blk (hd (tl O1))))))))))) 
def QRd (r : Option (List (List (List Val)))) (e : AExit) (s : St) : Prop := e = .ret ∧ match r with
 | none => getX s.t 4 = .nils ∧ getX s.t 5 = .bool false
 | some l => getX s.t 5 = .bool true ∧ ∃ v', frz s.h 10 (getX s.t 4) = some v' ∧ wkn v' = sV l
theorem QRd_none {t : List AV} {h : List Blk} {lo} (hl : Lv 98 [(4, .nils), (5, .bool false)] t) : QRd none .ret { t := t, h := h, lo := lo } := ⟨rfl, hl.get (4, _) (by simp), hl.get (5, _) (by simp)⟩
abbrev om (x : Option Nat) : Option Nat := omin x none
abbrev rC (r : List Val) : List AV := [rV r]
section
variable {s u0 : List UInt8} {out : AV} {t : Int}
theorem o2_ok {c n : Nat} (hc : c ≤ 4) (hn : n ≤ 65535) (hu : u0.length ≤ 1000000) {H1 : List Blk} {rid low : Nat} (hb1 : Built 1 [] H1 rid true) (hlow : low ≤ rid) {t0 : List AV}
  (hlv : Lv 98 [(1, .str s), (2, .ptr 0 0), (6, .str u0), (8, out), (9, .int .i64 t), (10, .int .i64 (n : Int)), (11, bSl 1 [] rid true), (12, .int .i64 ((9 * c : Nat) : Int)), (13, .int .i64 0)] t0) :
  Wp G6 T (.loop O2) { t := t0, h := H1, lo := none } fun e s' => (QRd none e s' ∧ rowsF c n u0 = none) ∨ (e = .exit 2 ∧ ∃ rows rest H lo rid' rex t2, rowsF c n u0 = some (rows, rest) ∧ s' = { t := t2, h := H, lo := lo } ∧ Lv 98 [(1, .str s), (2, .ptr 0 0), (6, .str rest), (8, out), (9, .int .i64 t), (11, bSl 1 (rows.map rC) rid' rex)] t2 ∧ Built 1 (rows.map rC) H rid' rex ∧ low ≤ rid' ∧ low ≤ H.length ∧ ∀ i, i < low → H[i]? = H1[i]?) := by
 refine Wp.loop (fun k s' => ∃ (i : Nat) (rows : List (List Val)) (u : List UInt8) (H : List Blk) (lo : Option Nat) (id : Nat) (ex : Bool) (t1 : List AV), s' = { t := t1, h := H, lo := lo } ∧ k = n - i ∧ i ≤ n ∧ rows.length = i ∧ u.length ≤ 1000000 ∧ Built 1 (rows.map rC) H id ex ∧ (low ≤ id ∧ low ≤ H.length ∧ ∀ i, i < low → H[i]? = H1[i]?) ∧
   Lv 98 [(1, .str s), (2, .ptr 0 0), (6, .str u), (8, out), (9, .int .i64 t), (10, .int .i64 (n : Int)), (11, bSl 1 (rows.map rC) id ex), (12, .int .i64 ((9 * c : Nat) : Int)), (13, .int .i64 (i : Int))] t1 ∧ (rowsF c (n - i) u).map (fun p => (rows ++ p.1, p.2)) = rowsF c n u0) ?_ n _
  ⟨0, [], u0, H1, none, rid, true, t0, rfl, by omega, by omega, rfl, hu, hb1, ⟨hlow, by have := hb1.lt; omega, fun i _ => rfl⟩, hlv, by simp⟩
 rintro k s' ⟨i, rows, u, H, lo, id, ex, t1, rfl, rfl, hi, hrl, hul, hb, ⟨hlo1, hlo2, hlo3⟩, hl, hF⟩
 have hins : ∀ (e : AExit) (s' : St) (y : Option Nat), (match e with
   | .normal => ∃ j, j < n - i ∧ ∃ (i : Nat) (rows : List (List Val)) (u : List UInt8) (H : List Blk) (lo : Option Nat) (id : Nat) (ex : Bool) (t1 : List AV), s' = { t := t1, h := H, lo := lo } ∧ j = n - i ∧ i ≤ n ∧ rows.length = i ∧ u.length ≤ 1000000 ∧ Built 1 (rows.map rC) H id ex ∧ (low ≤ id ∧ low ≤ H.length ∧ ∀ i, i < low → H[i]? = H1[i]?) ∧
    Lv 98 [(1, .str s), (2, .ptr 0 0), (6, .str u), (8, out), (9, .int .i64 t), (10, .int .i64 (n : Int)), (11, bSl 1 (rows.map rC) id ex), (12, .int .i64 ((9 * c : Nat) : Int)), (13, .int .i64 (i : Int))] t1 ∧ (rowsF c (n - i) u).map (fun p => (rows ++ p.1, p.2)) = rowsF c n u0
   | e => (QRd none e s' ∧ rowsF c n u0 = none) ∨ (e = .exit 2 ∧ ∃ rows rest H lo rid' rex t2, rowsF c n u0 = some (rows, rest) ∧ s' = { t := t2, h := H, lo := lo } ∧ Lv 98 [(1, .str s), (2, .ptr 0 0), (6, .str rest), (8, out), (9, .int .i64 t), (11, bSl 1 (rows.map rC) rid' rex)] t2 ∧ Built 1 (rows.map rC) H rid' rex ∧ low ≤ rid' ∧ low ≤ H.length ∧ ∀ i, i < low → H[i]? = H1[i]?)) →
   (match e with
   | .normal => ∃ j, j < n - i ∧ ∃ (i : Nat) (rows : List (List Val)) (u : List UInt8) (H : List Blk) (lo : Option Nat) (id : Nat) (ex : Bool) (t1 : List AV), ({ s' with lo := y } : St) = { t := t1, h := H, lo := lo } ∧ j = n - i ∧ i ≤ n ∧ rows.length = i ∧ u.length ≤ 1000000 ∧ Built 1 (rows.map rC) H id ex ∧ (low ≤ id ∧ low ≤ H.length ∧ ∀ i, i < low → H[i]? = H1[i]?) ∧
    Lv 98 [(1, .str s), (2, .ptr 0 0), (6, .str u), (8, out), (9, .int .i64 t), (10, .int .i64 (n : Int)), (11, bSl 1 (rows.map rC) id ex), (12, .int .i64 ((9 * c : Nat) : Int)), (13, .int .i64 (i : Int))] t1 ∧ (rowsF c (n - i) u).map (fun p => (rows ++ p.1, p.2)) = rowsF c n u0
   | e => (QRd none e { s' with lo := y } ∧ rowsF c n u0 = none) ∨ (e = .exit 2 ∧ ∃ rows rest H lo rid' rex t2, rowsF c n u0 = some (rows, rest) ∧ ({ s' with lo := y } : St) = { t := t2, h := H, lo := lo } ∧ Lv 98 [(1, .str s), (2, .ptr 0 0), (6, .str rest), (8, out), (9, .int .i64 t), (11, bSl 1 (rows.map rC) rid' rex)] t2 ∧ Built 1 (rows.map rC) H rid' rex ∧ low ≤ rid' ∧ low ≤ H.length ∧ ∀ i, i < low → H[i]? = H1[i]?)) := by
  rintro e s' y hq
  cases e with
  | normal =>
   obtain ⟨j, hj, i, rows, u, H, lo, id, ex, t1, rfl, h2⟩ := hq
   exact ⟨j, hj, i, rows, u, H, y, id, ex, t1, rfl, h2⟩
  | exit m =>
   rcases hq with hq | ⟨h1, rows, rest, H, lo, rid', rex, t2, h2, rfl, h3⟩
   ·exact .inl hq
   ·exact .inr ⟨h1, rows, rest, H, y, rid', rex, t2, h2, rfl, h3⟩
  | ret =>
   rcases hq with hq | ⟨h1, _⟩
   ·exact .inl hq
   ·cases h1
 refine Wp.lo hins ?_
 refine Wp.seq ?_
 by_cases hlt : i < n
 ·obtain ⟨m, hm⟩ : ∃ m, n - i = m + 1 := ⟨n - i - 1, by omega⟩
  rw [hm, rowsF] at hF
  refine (path2 [1, 2, 6, 8, 9, 10, 11, 12, 13] (e := .normal) (vals := [.str s, .ptr 0 0, .str u, out, .int .i64 t, .int .i64 (n : Int), bSl 1 (rows.map rC) id ex, .int .i64 ((9 * c : Nat) : Int), .int .i64 (i : Int)]) (h' := H) (ds := [.b true]) (cs := [cB (decide ((i : Int) < (n : Int))) true]) hl (fun t0 => by kernel_rfl) ⟨cT (by omega), trivial⟩).mono ?_
  rintro e s' ⟨rfl, t2, rfl, hl2⟩
  refine Wp.seq (Wp.block (Wp.seq ?_))
  by_cases h1 : (u.length : Int) < ((9 * c : Nat) : Int)
  ·rw [if_pos (by omega)] at hF
   refine (path2 [4, 5] (e := .ret) (vals := [.nils, .bool false]) (h' := H) (ds := [.b true]) (cs := [cB (decide ((u.length : Int) < ((9 * c : Nat) : Int))) true]) hl2 (fun t0 => by kernel_rfl) ⟨cT h1, trivial⟩).mono ?_
   rintro e s' ⟨rfl, t3, rfl, hl3⟩
   exact .inl ⟨QRd_none hl3, hF.symm⟩
  rw [if_neg (by omega)] at hF
  have h1' : 9 * c ≤ u.length := by omega
  refine (path2 [1, 2, 6, 8, 9, 10, 11, 12, 13] (e := .normal) (vals := [.str s, .ptr 0 0, .str u, out, .int .i64 t, .int .i64 (n : Int), bSl 1 (rows.map rC) id ex, .int .i64 ((9 * c : Nat) : Int), .int .i64 (i : Int)]) (h' := H) (ds := [.b false]) (cs := [cB (decide ((u.length : Int) < ((9 * c : Nat) : Int))) false]) hl2 (fun t0 => by kernel_rfl) ⟨cF h1, trivial⟩).mono ?_
  rintro e s' ⟨rfl, t3, rfl, hl3⟩
  have hrr := row6 (s := u.take (9 * c)) (by rw [List.length_take]; omega) H
  refine Wp.seq ?_
  cases hx : readRowL (u.take (9 * c)) with
  | none =>
   rw [hx] at hrr hF
   refine (path2 [1, 2, 6, 8, 9, 10, 11, 12, 13, 15] (e := .normal) (vals := [.str s, .ptr 0 0, .str u, out, .int .i64 t, .int .i64 (n : Int), bSl 1 (rows.map rC) id ex, .int .i64 ((9 * c : Nat) : Int), .int .i64 (i : Int), .bool false]) (h' := H) (ds := [.f (.str (u.take (9 * c))), .r (.tup [.nils, .bool false]) H none]) (cs := [slcC u none (some (.int .i64 ((9 * c : Nat) : Int))) (.str (u.take (9 * c))), Cl G6 T 28 [.str (u.take (9 * c))] H (.tup [.nils, .bool false], H, none)]) hl3 (fun t0 => by kernel_rfl) ⟨slcC_to h1', hrr, trivial⟩).mono ?_
   rintro e s' ⟨rfl, t4, rfl, hl4⟩
   refine Wp.seq ?_
   refine (path2 [4, 5] (e := .ret) (vals := [.nils, .bool false]) (h' := H) (ds := []) (cs := []) hl4 (fun t0 => by kernel_rfl) trivial).mono ?_
   rintro e s' ⟨rfl, t5, rfl, hl5⟩
   exact .inl ⟨QRd_none hl5, hF.symm⟩
  | some r =>
   rw [hx] at hrr hF
   refine (path2 [1, 2, 6, 8, 9, 10, 11, 12, 13, 14, 15] (e := .normal) (vals := [.str s, .ptr 0 0, .str u, out, .int .i64 t, .int .i64 (n : Int), bSl 1 (rows.map rC) id ex, .int .i64 ((9 * c : Nat) : Int), .int .i64 (i : Int), rV r, .bool true]) (h' := H) (ds := [.f (.str (u.take (9 * c))), .r (.tup [rV r, .bool true]) H none]) (cs := [slcC u none (some (.int .i64 ((9 * c : Nat) : Int))) (.str (u.take (9 * c))), Cl G6 T 28 [.str (u.take (9 * c))] H (.tup [rV r, .bool true], H, none)]) hl3 (fun t0 => by kernel_rfl) ⟨slcC_to h1', hrr, trivial⟩).mono ?_
   rintro e s' ⟨rfl, t4, rfl, hl4⟩
   refine Wp.seq ?_
   refine (path2 [1, 2, 6, 8, 9, 10, 11, 12, 13, 14] (e := .normal) (vals := [.str s, .ptr 0 0, .str u, out, .int .i64 t, .int .i64 (n : Int), bSl 1 (rows.map rC) id ex, .int .i64 ((9 * c : Nat) : Int), .int .i64 (i : Int), rV r]) (h' := H) (ds := []) (cs := []) hl4 (fun t0 => by kernel_rfl) trivial).mono ?_
   rintro e s' ⟨rfl, t5, rfl, hl5⟩
   refine Wp.seq ?_
   have hH1 : Built 1 (rows.map rC) (H ++ [Blk.cells (rC r)]) id ex := hb.grow (List.getElem?_append_left hb.lt)
   have c4 : wOp evC H (.buildSl [.nils] 1 [(0, .c (rV r))]) = some (.sl H.length 1 0 1 1 true, H ++ [Blk.cells (rC r)], none) := rfl
   have c5 := app_one (by_ := 24) hH1 (e := rC r) rfl rfl (jd := H.length) (by simp) (by simp [hrl]; omega)
   have hb' := hH1.app (e := rC r) rfl rfl
   rw [show rows.map rC ++ [rC r] = (rows ++ [r]).map rC by simp] at c5 hb'
   have hidl := hb.lt
   refine (path3 [1, 2, 6, 8, 9, 10, 11, 12, 13] (e := .normal) (vals := [.str s, .ptr 0 0, .str u, out, .int .i64 t, .int .i64 (n : Int), .sl (H ++ [Blk.cells (rC r)]).length 1 0 ((rows.map rC).length + 1) ((rows.map rC).length + 1) false, .int .i64 ((9 * c : Nat) : Int), .int .i64 (i : Int)]) (h' := appH (H ++ [Blk.cells (rC r)]) id ex ((rows ++ [r]).map rC).flatten) (lo' := om (omin none (appL id ex)))
    (ds := [.w (.sl H.length 1 0 1 1 true) (H ++ [Blk.cells (rC r)]) none, .w (.sl (H ++ [Blk.cells (rC r)]).length 1 0 ((rows.map rC).length + 1) ((rows.map rC).length + 1) false) (appH (H ++ [Blk.cells (rC r)]) id ex ((rows ++ [r]).map rC).flatten) (appL id ex)])
    (cs := [wOp evC H (.buildSl [.nils] 1 [(0, .c (rV r))]) = some (.sl H.length 1 0 1 1 true, H ++ [Blk.cells (rC r)], none), wOp evC (H ++ [Blk.cells (rC r)]) (.append 1 24 (.c (bSl 1 (rows.map rC) id ex)) (.c (.sl H.length 1 0 1 1 true))) = some (.sl (H ++ [Blk.cells (rC r)]).length 1 0 ((rows.map rC).length + 1) ((rows.map rC).length + 1) false, appH (H ++ [Blk.cells (rC r)]) id ex ((rows ++ [r]).map rC).flatten, appL id ex)]) hl5 (fun t0 => by kernel_rfl) ⟨c4, c5, trivial⟩).mono ?_
   rintro e s' ⟨rfl, t6, rfl, hl6⟩
   refine (path3 [1, 2, 6, 8, 9, 10, 11, 12, 13] (e := .normal) (lo' := om (om (om (om (om (omin none (appL id ex))))))) (vals := [.str s, .ptr 0 0, .str (u.drop (9 * c)), out, .int .i64 t, .int .i64 (n : Int), .sl (H ++ [Blk.cells (rC r)]).length 1 0 ((rows.map rC).length + 1) ((rows.map rC).length + 1) false, .int .i64 ((9 * c : Nat) : Int), .int .i64 (i : Int)]) (h' := appH (H ++ [Blk.cells (rC r)]) id ex ((rows ++ [r]).map rC).flatten) (ds := [.f (.str (u.drop (9 * c)))]) (cs := [slcC u (some (.int .i64 ((9 * c : Nat) : Int))) none (.str (u.drop (9 * c)))]) hl6 (fun t0 => by kernel_rfl) ⟨slcC_from h1', trivial⟩).mono ?_
   rintro e s' ⟨rfl, t7, rfl, hl7⟩
   refine (path3 [1, 2, 6, 8, 9, 10, 11, 12, 13] (e := .normal) (lo' := om (om (om (om (om (om (om (om (omin none (appL id ex)))))))))) (vals := [.str s, .ptr 0 0, .str (u.drop (9 * c)), out, .int .i64 t, .int .i64 (n : Int), .sl (H ++ [Blk.cells (rC r)]).length 1 0 ((rows.map rC).length + 1) ((rows.map rC).length + 1) false, .int .i64 ((9 * c : Nat) : Int), .int .i64 (IntKind.i64.wrap ((i : Int) + 1))]) (h' := appH (H ++ [Blk.cells (rC r)]) id ex ((rows ++ [r]).map rC).flatten) (ds := []) (cs := []) hl7 (fun t0 => by kernel_rfl) trivial).mono ?_
   rintro e s' ⟨rfl, t8, rfl, hl8⟩
   rw [i64_succ (by omega) (by omega)] at hl8
   refine ⟨m, by omega, i + 1, rows ++ [r], u.drop (9 * c), _, _, _, false, t8, rfl, by omega, by omega, by simp [hrl], by rw [List.length_drop]; omega, hb', ⟨by simp; omega, by rw [appH_len]; simp; omega, fun j hj => ?_⟩, ?_, ?_⟩
   ·rw [appH_get (by simp; omega) (by omega), List.getElem?_append_left (by omega)]
    exact hlo3 j hj
   ·have e1 : ((rows ++ [r]).map rC).length = (rows.map rC).length + 1 := by simp
    simp only [bSl, e1]
    exact hl8
   ·rw [← hF, show n - (i + 1) = m by omega]
    cases rowsF c m (u.drop (9 * c)) with
    | none => rfl
    | some q => simp
 ·have hin : i = n := by omega
  refine (path2 [1, 2, 6, 8, 9, 11] (e := .exit 2) (vals := [.str s, .ptr 0 0, .str u, out, .int .i64 t, bSl 1 (rows.map rC) id ex]) (h' := H) (ds := [.b false]) (cs := [cB (decide ((i : Int) < (n : Int))) false]) hl (fun t0 => by kernel_rfl) ⟨cF (by omega), trivial⟩).mono ?_
  rintro e s' ⟨rfl, t2, rfl, hl2⟩
  refine .inr ⟨rfl, rows, u, H, none, id, ex, t2, ?_, rfl, hl2, hb, hlo1, hlo2, hlo3⟩
  rw [← hF, hin, Nat.sub_self, rowsF]
  simp
end
open Go
abbrev Fin3 := List (List Val) × Nat × Bool
abbrev fv (p : Fin3) : AV := bSl 1 (p.1.map rC) p.2.1 p.2.2
abbrev fC (p : Fin3) : List AV := [fv p]
theorem idx2 (u : List UInt8) (k : Nat) (h : k < u.length) : (if 0 ≤ ((k : Nat) : Int) then (u[((k : Nat) : Int).toNat]?).map (fun b => AV.int .u8 b.toNat) else none) = some (.int .u8 ((u.getD k 0).toNat : Int)) := by
 simp [List.getElem?_eq_getElem h, List.getD_eq_getElem?_getD]
theorem num2_eq (u : List UInt8) : IntKind.i64.wrap (IntKind.i64.wrap ((u.getD 0 0).toNat : Int) + IntKind.i64.wrap (IntKind.i64.wrap ((u.getD 1 0).toNat : Int) * 256)) = ((num2 u : Nat) : Int) := by
 have a1 := (u.getD 0 0).toNat_lt
 have a2 := (u.getD 1 0).toNat_lt
 rw [IntWalk.i64_in ((u.getD 0 0).toNat : Int) (by omega), IntWalk.i64_in ((u.getD 1 0).toNat : Int) (by omega), IntWalk.i64_in (((u.getD 1 0).toNat : Int) * 256) (by omega), IntWalk.i64_in _ (by omega)]
 unfold num2
 omega
section
variable {T : List (List Int)} {V : List Vw} {s u0 : List UInt8}
theorem o1_ok (hT : T.length ≤ 3) (hc : ∀ c ∈ T, c.length ≤ 4) (hu : u0.length ≤ 1000000) {H0 : List Blk} {o0 : Nat} (hP0 : H0[0]? = some (pH T (vsV V))) (hb0 : Built 1 [] H0 o0 true) (ho0 : 0 < o0) {t0 : List AV}
  (hlv : Lv 98 [(1, .str s), (2, .ptr 0 0), (6, .str u0), (8, bSl 1 [] o0 true), (9, .int .i64 0)] t0) :
  Wp G6 Ax.T (.loop O1) { t := t0, h := H0, lo := none } fun e s' => (QRd none e s' ∧ tabsF T u0 = none) ∨ (e = .exit 0 ∧ ∃ (fin : List Fin3) (rest : List UInt8) (H : List Blk) (lo : Option Nat) (oid : Nat) (oex : Bool) (t2 : List AV), tabsF T u0 = some (fin.map (·.1), rest) ∧ s' = { t := t2, h := H, lo := lo } ∧ Lv 98 [(1, .str s), (2, .ptr 0 0), (8, bSl 1 (fin.map fC) oid oex)] t2 ∧ H[0]? = some (pH T (vsV V)) ∧ Built 1 (fin.map fC) H oid oex ∧ ∀ p ∈ fin, Built 1 (p.1.map rC) H p.2.1 p.2.2) := by
 refine Wp.loop (fun k s' => ∃ (i : Nat) (fin : List Fin3) (u : List UInt8) (H : List Blk) (lo : Option Nat) (oid : Nat) (oex : Bool) (t1 : List AV), s' = { t := t1, h := H, lo := lo } ∧ k = T.length - i ∧ i ≤ T.length ∧ fin.length = i ∧ u.length ≤ 1000000 ∧ H[0]? = some (pH T (vsV V)) ∧ 0 < oid ∧ Built 1 (fin.map fC) H oid oex ∧ (∀ p ∈ fin, Built 1 (p.1.map rC) H p.2.1 p.2.2 ∧ p.2.1 ≠ oid) ∧
   Lv 98 [(1, .str s), (2, .ptr 0 0), (6, .str u), (8, bSl 1 (fin.map fC) oid oex), (9, .int .i64 (i : Int))] t1 ∧ (tabsF (T.drop i) u).map (fun p => (fin.map (·.1) ++ p.1, p.2)) = tabsF T u0) ?_ T.length _
  ⟨0, [], u0, H0, none, o0, true, t0, rfl, by omega, by omega, rfl, hu, hP0, ho0, hb0, fun p hp => (by cases hp), hlv, by simp⟩
 rintro k s' ⟨i, fin, u, H, lo, oid, oex, t1, rfl, rfl, hi, hfl, hul, hP, hop, hb, hfin, hl, hF⟩
 refine Wp.lo ?_ ?_
 ·rintro e s' y hq
  cases e with
  | normal =>
   obtain ⟨j, hj, i, fin, u, H, lo, oid, oex, t1, rfl, h2⟩ := hq
   exact ⟨j, hj, i, fin, u, H, y, oid, oex, t1, rfl, h2⟩
  | exit m =>
   rcases hq with hq | ⟨h1, fin, rest, H, lo, oid, oex, t2, h2, rfl, h3⟩
   ·exact .inl hq
   ·exact .inr ⟨h1, fin, rest, H, y, oid, oex, t2, h2, rfl, h3⟩
  | ret =>
   rcases hq with hq | ⟨h1, _⟩
   ·exact .inl hq
   ·cases h1
 refine Wp.seq ?_
 have hP0' : ∀ {K : List Blk}, K[0]? = some (pH T (vsV V)) → ldC K 0 0 (.ro (T.map tV) 1 false) := by
  intro K hK
  simp [ldC, rdCells, hK, asVar, one?]
 by_cases hlt : i < T.length
 ·have e1 := List.getElem?_eq_getElem hlt
  have hcm : T[i] ∈ T := List.getElem_mem hlt
  rw [List.drop_eq_getElem_cons hlt, tabsF] at hF
  generalize T[i] = c at e1 hcm hF
  have hcl := hc c hcm
  have k1 : (i : Int) < ((T.map tV).length : Int) := by simp; omega
  have k2 : (T.map tV)[(i : Int).toNat]? = some (tV c) := by simp [e1]
  refine (path2 [1, 2, 6, 8, 9] (e := .normal) (vals := [.str s, .ptr 0 0, .str u, bSl 1 (fin.map fC) oid oex, .int .i64 (i : Int)]) (h' := H) (ds := [.f (.ro (T.map tV) 1 false), .b true]) (cs := [ldC H 0 0 (.ro (T.map tV) 1 false), cB (decide ((i : Int) < ((T.map tV).length : Int))) true]) hl (fun t0 => by kernel_rfl) ⟨hP0' hP, cT k1, trivial⟩).mono ?_
  rintro e s' ⟨rfl, t2, rfl, hl2⟩
  refine Wp.seq (Wp.block (Wp.seq ?_))
  by_cases h1 : (u.length : Int) < 2
  ·rw [if_pos (by omega)] at hF
   refine (path2 [4, 5] (e := .ret) (vals := [.nils, .bool false]) (h' := H) (ds := [.b true]) (cs := [cB (decide ((u.length : Int) < 2)) true]) hl2 (fun t0 => by kernel_rfl) ⟨cT h1, trivial⟩).mono ?_
   rintro e s' ⟨rfl, t3, rfl, hl3⟩
   exact .inl ⟨QRd_none hl3, hF.symm⟩
  rw [if_neg (by omega)] at hF
  have h1' : 2 ≤ u.length := by omega
  refine (path2 [1, 2, 6, 8, 9] (e := .normal) (vals := [.str s, .ptr 0 0, .str u, bSl 1 (fin.map fC) oid oex, .int .i64 (i : Int)]) (h' := H) (ds := [.b false]) (cs := [cB (decide ((u.length : Int) < 2)) false]) hl2 (fun t0 => by kernel_rfl) ⟨cF h1, trivial⟩).mono ?_
  rintro e s' ⟨rfl, t3, rfl, hl3⟩
  refine Wp.seq ?_
  refine (path2 [1, 2, 6, 8, 9, 10] (e := .normal) (vals := [.str s, .ptr 0 0, .str u, bSl 1 (fin.map fC) oid oex, .int .i64 (i : Int), .int .i64 (IntKind.i64.wrap (IntKind.i64.wrap ((u.getD 0 0).toNat : Int) + IntKind.i64.wrap (IntKind.i64.wrap ((u.getD 1 0).toNat : Int) * 256)))]) (h' := H) (ds := [.f (.int .u8 ((u.getD 0 0).toNat : Int)), .f (.int .u8 ((u.getD 1 0).toNat : Int))])
   (cs := [(if 0 ≤ ((0 : Nat) : Int) then (u[((0 : Nat) : Int).toNat]?).map (fun b => AV.int .u8 b.toNat) else none) = some (.int .u8 ((u.getD 0 0).toNat : Int)), (if 0 ≤ ((1 : Nat) : Int) then (u[((1 : Nat) : Int).toNat]?).map (fun b => AV.int .u8 b.toNat) else none) = some (.int .u8 ((u.getD 1 0).toNat : Int))]) hl3 (fun t0 => by kernel_rfl) ⟨idx2 u 0 (by omega), idx2 u 1 (by omega), trivial⟩).mono ?_
  rintro e s' ⟨rfl, t4, rfl, hl4⟩
  rw [num2_eq] at hl4
  have hn2 : num2 u ≤ 65535 := by
   have a1 := (u.getD 0 0).toNat_lt
   have a2 := (u.getD 1 0).toNat_lt
   unfold num2
   omega
  generalize num2 u = n at hl4 hF hn2
  refine Wp.seq ?_
  refine (path2 [1, 2, 6, 8, 9, 10] (e := .normal) (vals := [.str s, .ptr 0 0, .str (u.drop 2), bSl 1 (fin.map fC) oid oex, .int .i64 (i : Int), .int .i64 (n : Int)]) (h' := H) (ds := [.f (.str (u.drop 2))]) (cs := [slcC u (some (.int .i64 ((2 : Nat) : Int))) none (.str (u.drop 2))]) hl4 (fun t0 => by kernel_rfl) ⟨slcC_from h1', trivial⟩).mono ?_
  rintro e s' ⟨rfl, t5, rfl, hl5⟩
  refine Wp.seq ?_
  refine (path2 [1, 2, 6, 8, 9, 10, 11] (e := .normal) (vals := [.str s, .ptr 0 0, .str (u.drop 2), bSl 1 (fin.map fC) oid oex, .int .i64 (i : Int), .int .i64 (n : Int), bSl 1 [] H.length true]) (h' := H ++ [Blk.cells []]) (ds := []) (cs := []) hl5 (fun t0 => by kernel_rfl) trivial).mono ?_
  rintro e s' ⟨rfl, t6, rfl, hl6⟩
  have hHpos : 0 < H.length := (List.getElem?_eq_some_iff.1 hP).1
  have hP1 : (H ++ [Blk.cells []])[0]? = some (pH T (vsV V)) := by rw [List.getElem?_append_left hHpos]; exact hP
  have hcw : IntKind.i64.wrap (9 * ((c.map iV).length : Int)) = ((9 * c.length : Nat) : Int) := by rw [List.length_map, IntWalk.i64_in _ (by omega)]; omega
  refine Wp.seq ?_
  refine (path2 [1, 2, 6, 8, 9, 10, 11, 12] (e := .normal) (vals := [.str s, .ptr 0 0, .str (u.drop 2), bSl 1 (fin.map fC) oid oex, .int .i64 (i : Int), .int .i64 (n : Int), bSl 1 [] H.length true, .int .i64 (IntKind.i64.wrap (9 * ((c.map iV).length : Int)))]) (h' := H ++ [Blk.cells []]) (ds := [.f (.ro (T.map tV) 1 false), .v (tV c)]) (cs := [ldC (H ++ [Blk.cells []]) 0 0 (.ro (T.map tV) 1 false), 1 = 1, 0 ≤ (i : Int), (i : Int) < ((T.map tV).length : Int), (T.map tV)[(i : Int).toNat]? = some (tV c)]) hl6 (fun t0 => by kernel_rfl) ⟨hP0' hP1, rfl, by omega, k1, k2, trivial⟩).mono ?_
  rintro e s' ⟨rfl, t7, rfl, hl7⟩
  rw [hcw] at hl7
  refine Wp.seq (Wp.seq ?_)
  refine (path2 [1, 2, 6, 8, 9, 10, 11, 12, 13] (e := .normal) (vals := [.str s, .ptr 0 0, .str (u.drop 2), bSl 1 (fin.map fC) oid oex, .int .i64 (i : Int), .int .i64 (n : Int), bSl 1 [] H.length true, .int .i64 ((9 * c.length : Nat) : Int), .int .i64 0]) (h' := H ++ [Blk.cells []]) (ds := []) (cs := []) hl7 (fun t0 => by kernel_rfl) trivial).mono ?_
  rintro e s' ⟨rfl, t8, rfl, hl8⟩
  refine Wp.block ?_
  refine (o2_ok hcl hn2 (by rw [List.length_drop]; omega) (Built.new 1 H) (Nat.le_refl _) hl8).mono ?_
  rintro e s' (⟨⟨rfl, h3⟩, h4⟩ | ⟨rfl, rows, rest, H2, lo2, rid, rex, t9, h4, rfl, hl9, hb2, hr1, hr2, hr3⟩)
  ·rw [h4] at hF
   exact .inl ⟨⟨rfl, h3⟩, hF.symm⟩
  rw [h4] at hF
  simp only at hF
  have hoid := hb.lt
  have hpre : ∀ j, j < H.length → H2[j]? = H[j]? := fun j hj => by rw [hr3 j hj, List.getElem?_append_left hj]
  have hbo : Built 1 (fin.map fC) H2 oid oex := hb.grow (hpre oid hoid)
  have hH3 : Built 1 (fin.map fC) (H2 ++ [Blk.cells (fC (rows, rid, rex))]) oid oex := hbo.grow (List.getElem?_append_left hbo.lt)
  have c4 : wOp evC H2 (.buildSl [.nils] 1 [(0, .c (fv (rows, rid, rex)))]) = some (.sl H2.length 1 0 1 1 true, H2 ++ [Blk.cells (fC (rows, rid, rex))], none) := rfl
  have c5 := app_one (by_ := 24) hH3 (e := fC (rows, rid, rex)) rfl rfl (jd := H2.length) (by simp) (by simp [hfl]; omega)
  have hb' := hH3.app (e := fC (rows, rid, rex)) rfl rfl
  rw [show fin.map fC ++ [fC (rows, rid, rex)] = (fin ++ [(rows, rid, rex)]).map fC by simp] at c5 hb'
  refine (path3 [1, 2, 6, 8, 9] (e := .normal) (vals := [.str s, .ptr 0 0, .str rest, .sl (H2 ++ [Blk.cells (fC (rows, rid, rex))]).length 1 0 ((fin.map fC).length + 1) ((fin.map fC).length + 1) false, .int .i64 (i : Int)]) (h' := appH (H2 ++ [Blk.cells (fC (rows, rid, rex))]) oid oex ((fin ++ [(rows, rid, rex)]).map fC).flatten) (lo' := om (omin (om (om (om lo2))) (appL oid oex)))
   (ds := [.w (.sl H2.length 1 0 1 1 true) (H2 ++ [Blk.cells (fC (rows, rid, rex))]) none, .w (.sl (H2 ++ [Blk.cells (fC (rows, rid, rex))]).length 1 0 ((fin.map fC).length + 1) ((fin.map fC).length + 1) false) (appH (H2 ++ [Blk.cells (fC (rows, rid, rex))]) oid oex ((fin ++ [(rows, rid, rex)]).map fC).flatten) (appL oid oex)])
   (cs := [wOp evC H2 (.buildSl [.nils] 1 [(0, .c (fv (rows, rid, rex)))]) = some (.sl H2.length 1 0 1 1 true, H2 ++ [Blk.cells (fC (rows, rid, rex))], none), wOp evC (H2 ++ [Blk.cells (fC (rows, rid, rex))]) (.append 1 24 (.c (bSl 1 (fin.map fC) oid oex)) (.c (.sl H2.length 1 0 1 1 true))) = some (.sl (H2 ++ [Blk.cells (fC (rows, rid, rex))]).length 1 0 ((fin.map fC).length + 1) ((fin.map fC).length + 1) false, appH (H2 ++ [Blk.cells (fC (rows, rid, rex))]) oid oex ((fin ++ [(rows, rid, rex)]).map fC).flatten, appL oid oex)]) hl9 (fun t0 => by kernel_rfl) ⟨c4, c5, trivial⟩).mono ?_
  rintro e s' ⟨rfl, t10, rfl, hl10⟩
  refine (path3 [1, 2, 6, 8, 9] (e := .normal) (vals := [.str s, .ptr 0 0, .str rest, .sl (H2 ++ [Blk.cells (fC (rows, rid, rex))]).length 1 0 ((fin.map fC).length + 1) ((fin.map fC).length + 1) false, .int .i64 (IntKind.i64.wrap ((i : Int) + 1))]) (h' := appH (H2 ++ [Blk.cells (fC (rows, rid, rex))]) oid oex ((fin ++ [(rows, rid, rex)]).map fC).flatten) (lo' := om (om (om (om (omin (om (om (om lo2))) (appL oid oex)))))) (ds := []) (cs := []) hl10 (fun t0 => by kernel_rfl) trivial).mono ?_
  rintro e s' ⟨rfl, t11, rfl, hl11⟩
  rw [i64_succ (by omega) (by omega)] at hl11
  have hrest : rest.length ≤ 1000000 := by
   have := congrArg List.length (rowsF_good h4).2.2
   rw [List.length_drop, List.length_append] at this
   omega
  have hne0 : H.length ≤ rid := hr1
  have hkeep : ∀ j, j < H2.length → j ≠ oid → (appH (H2 ++ [Blk.cells (fC (rows, rid, rex))]) oid oex ((fin ++ [(rows, rid, rex)]).map fC).flatten)[j]? = H2[j]? := fun j hj hne => by
   rw [appH_get (by simp; omega) hne, List.getElem?_append_left hj]
  refine ⟨T.length - (i + 1), by omega, i + 1, fin ++ [(rows, rid, rex)], rest, _, _, _, false, t11, rfl, rfl, by omega, by simp [hfl], hrest, ?_, ?_, hb', ?_, ?_, ?_⟩
  ·rw [hkeep 0 (by omega) (by omega), hpre 0 hHpos]
   exact hP
  ·simp
  ·intro p hp
   rcases List.mem_append.1 hp with hp | hp
   ·obtain ⟨q1, q2⟩ := hfin p hp
    have q3 := q1.lt
    refine ⟨q1.grow (by rw [hkeep _ (by omega) q2, hpre _ q3]), ?_⟩
    simp
    omega
   ·rw [List.mem_singleton.1 hp]
    have q3 := hb2.lt
    refine ⟨hb2.grow (hkeep rid q3 (by omega)), ?_⟩
    simp
    omega
  ·have e2 : ((fin ++ [(rows, rid, rex)]).map fC).length = (fin.map fC).length + 1 := by simp
   simp only [bSl, e2]
   exact hl11
  ·rw [← hF]
   cases tabsF (T.drop (i + 1)) rest with
   | none => rfl
   | some q => simp
 ·have hie : i = T.length := by omega
  refine (path2 [1, 2, 8] (e := .exit 0) (vals := [.str s, .ptr 0 0, bSl 1 (fin.map fC) oid oex]) (h' := H) (ds := [.f (.ro (T.map tV) 1 false), .b false]) (cs := [ldC H 0 0 (.ro (T.map tV) 1 false), cB (decide ((i : Int) < ((T.map tV).length : Int))) false]) hl (fun t0 => by kernel_rfl) ⟨hP0' hP, cF (by simp; omega), trivial⟩).mono ?_
  rintro e s' ⟨rfl, t2, rfl, hl2⟩
  refine .inr ⟨rfl, fin, u, H, none, oid, oex, t2, ?_, rfl, hl2, hP, hb, fun p hp => (hfin p hp).1⟩
  rw [← hF, hie, List.drop_of_length_le (Nat.le_refl _), tabsF]
  simp
end
theorem open6 {s : List UInt8} (hs : s.length ≤ 9223372036854775807) (h : List Blk) : Cl G6 Ax.T 27 [.str s] h (.tup [.str (openL s).1, .bool (openL s).2], h, none) := open_clG (by kernel_rfl) (by kernel_rfl) (fun n h => tail6 n h) hs h
def readT (T : List (List Int)) (V : List Vw) (s : List UInt8) : Option (List (List (List Val))) := if (openL s).2 = true then (if planOk T V = true then match tabsF T (openL s).1 with
 | some (l, _) => if goodT T V l = true then (if bytesT l = s then some l else none) else none
 | none => none else none) else none
theorem fin_frz {H : List Blk} {p : Fin3} (h : Built 1 (p.1.map rC) H p.2.1 p.2.2) : ∃ ex', frz H 9 (fv p) = some (.ro (p.1.map rV) 1 ex') := by
 obtain ⟨ex', h1⟩ := h.frz (n := 8) (es' := p.1.map rC) (by omega) rfl (fun i e e' he he' => by
  rw [he] at he'
  cases he'
  rw [List.getElem?_map, Option.map_eq_some_iff] at he
  obtain ⟨r, _, rfl⟩ := he
  simp only [rC, mapO, frz_rV H 5]) h.len h.one
 exact ⟨ex', by rw [show p.1.map rV = (p.1.map rC).map (elt 1) by simp [elt]]; exact h1⟩
theorem out_frz {H : List Blk} {fin : List Fin3} {oid : Nat} {oex : Bool} (hb : Built 1 (fin.map fC) H oid oex) (hf : ∀ p ∈ fin, Built 1 (p.1.map rC) H p.2.1 p.2.2) : ∃ v', frz H 10 (bSl 1 (fin.map fC) oid oex) = some v' ∧ wkn v' = sV (fin.map (·.1)) := by
 have hch : ∀ p : Fin3, ∃ ex', p ∈ fin → frz H 9 (fv p) = some (.ro (p.1.map rV) 1 ex') := fun p => by
  by_cases hp : p ∈ fin
  ·obtain ⟨ex', h⟩ := fin_frz (hf p hp)
   exact ⟨ex', fun _ => h⟩
  ·exact ⟨true, fun h => absurd h hp⟩
 let xf : Fin3 → Bool := fun p => (hch p).choose
 have hxf : ∀ p ∈ fin, frz H 9 (fv p) = some (.ro (p.1.map rV) 1 (xf p)) := fun p hp => (hch p).choose_spec hp
 obtain ⟨ex', h1⟩ := hb.frz (n := 9) (es' := fin.map fun p => [AV.ro (p.1.map rV) 1 (xf p)]) (by omega) (by simp) (fun i e e' he he' => by
  rw [List.getElem?_map, Option.map_eq_some_iff] at he he'
  obtain ⟨p, hp, rfl⟩ := he
  obtain ⟨q, hq, rfl⟩ := he'
  rw [hp] at hq
  cases hq
  simp only [fC, mapO, hxf p (List.mem_of_getElem? hp)]) (fun e he => by
   obtain ⟨p, _, rfl⟩ := List.mem_map.1 he
   rfl) (fun e he => by
   obtain ⟨p, _, rfl⟩ := List.mem_map.1 he
   rfl)
 refine ⟨_, h1, ?_⟩
 rw [wkn, wknL_map]
 show AV.ro _ 1 false = AV.ro _ 1 false
 congr 1
 rw [List.map_map, List.map_map, List.map_map]
 refine List.map_congr_left fun p _ => ?_
 show wkn (elt 1 [AV.ro (p.1.map rV) 1 (xf p)]) = bV p.1
 exact wkn_bV p.1 (xf p)
theorem rd_wp {T : List (List Int)} {V : List Vw} {s : List UInt8} (okp : OkP T V) (hs : s.length ≤ 1000000) {t : List AV} (hl : Lv 98 [(0, pA T (vsV V)), (1, .str s)] t) : Wp G6 Ax.T bRd { t := t, h := [], lo := none } (QRd (readT T V s)) := by
 refine Wp.seq ?_
 refine (path2 [1, 2] (e := .normal) (vals := [.str s, .ptr 0 0]) (h' := [pH T (vsV V)]) (ds := []) (cs := []) hl (fun t0 => by kernel_rfl) trivial).mono ?_
 rintro e s' ⟨rfl, t1, rfl, hl1⟩
 have hop6 : Cl G6 Ax.T 27 [.str s] [pH T (vsV V)] (.tup [.str (openL s).1, .bool (openL s).2], [pH T (vsV V)], none) := open6 (by omega) _
 refine Wp.seq ?_
 refine (path2 [1, 2, 6, 7] (e := .normal) (vals := [.str s, .ptr 0 0, .str (openL s).1, .bool (openL s).2]) (h' := [pH T (vsV V)]) (ds := [.r (.tup [.str (openL s).1, .bool (openL s).2]) [pH T (vsV V)] none]) (cs := [Cl G6 Ax.T 27 [.str s] [pH T (vsV V)] (.tup [.str (openL s).1, .bool (openL s).2], [pH T (vsV V)], none)]) hl1 (fun t0 => by kernel_rfl) ⟨hop6, trivial⟩).mono ?_
 rintro e s' ⟨rfl, t2, rfl, hl2⟩
 refine Wp.seq ?_
 have hg := g176 okp [pH T (vsV V)]
 cases hob : (openL s).2 with
 | false =>
  rw [hob] at hl2
  rw [show readT T V s = none by rw [readT, hob]; rfl]
  refine (path2 [4, 5] (e := .ret) (vals := [.nils, .bool false]) (h' := [pH T (vsV V)]) (ds := []) (cs := []) hl2 (fun t0 => by kernel_rfl) trivial).mono ?_
  rintro e s' ⟨rfl, t3, rfl, hl3⟩
  exact QRd_none hl3
 | true =>
  rw [hob] at hl2
  cases hp : planOk T V with
  | false =>
   rw [hp] at hg
   rw [show readT T V s = none by rw [readT, hob, hp]; rfl]
   refine (path2 [4, 5] (e := .ret) (vals := [.nils, .bool false]) (h' := [pH T (vsV V)]) (ds := [.r (.bool false) [pH T (vsV V)] none]) (cs := [Cl G6 Ax.T 18 [pA T (vsV V)] [pH T (vsV V)] (.bool false, [pH T (vsV V)], none)]) hl2 (fun t0 => by kernel_rfl) ⟨hg, trivial⟩).mono ?_
   rintro e s' ⟨rfl, t3, rfl, hl3⟩
   exact QRd_none hl3
  | true =>
   rw [hp] at hg
   have hrt : readT T V s = match tabsF T (openL s).1 with
    | some (l, _) => if goodT T V l = true then (if bytesT l = s then some l else none) else none
    | none => none := by rw [readT, hob, hp]; rfl
   have hul : (openL s).1.length ≤ 1000000 := by
    unfold openL
    split
    ·simp
    ·split
     ·simp; omega
     ·simp
   refine (path2 [1, 2, 6] (e := .normal) (vals := [.str s, .ptr 0 0, .str (openL s).1]) (h' := [pH T (vsV V)]) (ds := [.r (.bool true) [pH T (vsV V)] none]) (cs := [Cl G6 Ax.T 18 [pA T (vsV V)] [pH T (vsV V)] (.bool true, [pH T (vsV V)], none)]) hl2 (fun t0 => by kernel_rfl) ⟨hg, trivial⟩).mono ?_
   rintro e s' ⟨rfl, t3, rfl, hl3⟩
   refine Wp.seq ?_
   refine (path2 [1, 2, 6, 8] (e := .normal) (vals := [.str s, .ptr 0 0, .str (openL s).1, bSl 1 [] 1 true]) (h' := [pH T (vsV V)] ++ [Blk.cells []]) (ds := []) (cs := []) hl3 (fun t0 => by kernel_rfl) trivial).mono ?_
   rintro e s' ⟨rfl, t4, rfl, hl4⟩
   refine Wp.seq (Wp.seq ?_)
   refine (path2 [1, 2, 6, 8, 9] (e := .normal) (vals := [.str s, .ptr 0 0, .str (openL s).1, bSl 1 [] 1 true, .int .i64 0]) (h' := [pH T (vsV V)] ++ [Blk.cells []]) (ds := []) (cs := []) hl4 (fun t0 => by kernel_rfl) trivial).mono ?_
   rintro e s' ⟨rfl, t5, rfl, hl5⟩
   refine Wp.block ?_
   have hp' := hp
   simp only [planOk, Bool.and_eq_true, Bool.not_eq_true', decide_eq_false_iff_not] at hp'
   have hT3 : T.length ≤ 3 := by omega
   have hc4 : ∀ c ∈ T, c.length ≤ 4 := by
    intro c hc
    have := List.all_eq_true.1 hp'.2.2.2.1 c hc
    simp only [tabOk, Bool.and_eq_true, Bool.not_eq_true', decide_eq_false_iff_not] at this
    omega
   refine (o1_ok (V := V) hT3 hc4 hul rfl (Built.new 1 [pH T (vsV V)]) (by simp) hl5).mono ?_
   rintro e s' (⟨⟨rfl, h3⟩, h4⟩ | ⟨rfl, fin, rest, H, lo, oid, oex, t6, h4, rfl, hl6, hP, hb, hfin⟩)
   ·rw [hrt, h4]
    exact ⟨rfl, h3⟩
   rw [h4] at hrt
   simp only at hrt
   obtain ⟨v', hv1, hv2⟩ := out_frz hb hfin
   obtain ⟨q1, q2, q3⟩ := tabsF_good h4
   have okT : OkT (fin.map (·.1)) := ⟨by omega, fun x hx => by have := (q2 x hx).1; omega, fun x hx r hr => by have := ((q2 x hx).2 r hr).1; omega, fun x hx r hr v hv => by
    have hgv := ((q2 x hx).2 r hr).2 v hv
    have := codeL_len hgv
    unfold OkStr
    obtain ⟨a, b, c⟩ := v
    by_cases ha : a = 1
    ·simp only [goodVal, ha, if_true] at hgv
     rw [bytesEq_iff, decide_eq_true_eq] at hgv
     subst hgv
     simp
    ·simp only [goodVal, if_neg ha, Bool.and_eq_true, decide_eq_true_eq] at hgv
     show c.length ≤ _
     omega⟩
   have okB : OkB (fin.map (·.1)) := ⟨by omega, fun x hx => by have := (q2 x hx).1; omega, fun x hx r hr => by have := ((q2 x hx).2 r hr).1; omega, fun x hx r hr v hv => ((q2 x hx).2 r hr).2 v hv, by omega⟩
   have hgd := g356 okp okT hv1 hv2
   have hby := bytes6 okB hv1 hv2
   have hldp : (rdCells H 0 0 2).bind (asVar (some 2)) = some (pA T (vsV V)) := by
    simp [rdCells, hP, asVar]
   refine Wp.seq (Wp.lo (fun e s y hq => ?_) ?_)
   ·cases e with
    | normal =>
     obtain ⟨n, e2, s2, h5, h6⟩ := hq
     obtain ⟨y', hy'⟩ := exec_lo n _ _ _ _ y h5
     exact ⟨n, e2, _, hy', h6⟩
    | exit m => exact hq
    | ret => exact hq
   cases hgt : goodT T V (fin.map (·.1)) with
   | false =>
    rw [hgt] at hgd hrt
    rw [hrt]
    refine (path2 [4, 5] (e := .ret) (vals := [.nils, .bool false]) (h' := H) (ds := [.f (pA T (vsV V)), .r (.bool false) H none]) (cs := [(rdCells H 0 0 2).bind (asVar (some 2)) = some (pA T (vsV V)), Cl G6 Ax.T 7 [pA T (vsV V), bSl 1 (fin.map fC) oid oex] H (.bool false, H, none)]) hl6 (fun t0 => by kernel_rfl) ⟨hldp, hgd, trivial⟩).mono ?_
    rintro e s' ⟨rfl, t7, rfl, hl7⟩
    exact QRd_none hl7
   | true =>
    rw [hgt, if_pos rfl] at hrt
    rw [hgt] at hgd
    by_cases hbs : bytesT (fin.map (·.1)) = s
    ·rw [if_pos hbs] at hrt
     rw [hrt]
     refine (path2 [8] (e := .normal) (vals := [bSl 1 (fin.map fC) oid oex]) (h' := H) (ds := [.f (pA T (vsV V)), .r (.bool true) H none, .r (.str (bytesT (fin.map (·.1)))) H none, .b false]) (cs := [(rdCells H 0 0 2).bind (asVar (some 2)) = some (pA T (vsV V)), Cl G6 Ax.T 7 [pA T (vsV V), bSl 1 (fin.map fC) oid oex] H (.bool true, H, none), Cl G6 Ax.T 8 [bSl 1 (fin.map fC) oid oex] H (.str (bytesT (fin.map (·.1))), H, none), cB (!bytesEq (bytesT (fin.map (·.1))) s) false]) hl6 (fun t0 => by kernel_rfl) ⟨hldp, hgd, hby, by rw [bytesEq_iff, decide_eq_true hbs]; rfl, trivial⟩).mono ?_
     rintro e s' ⟨rfl, t7, rfl, hl7⟩
     refine (path2 [4, 5] (e := .ret) (vals := [bSl 1 (fin.map fC) oid oex, .bool true]) (h' := H) (ds := []) (cs := []) hl7 (fun t0 => by kernel_rfl) trivial).mono ?_
     rintro e s' ⟨rfl, t8, rfl, hl8⟩
     refine ⟨rfl, hl8.get (5, _) (by simp), v', ?_, hv2⟩
     rw [hl8.get (4, bSl 1 (fin.map fC) oid oex) (by simp)]
     exact hv1
    ·rw [if_neg hbs] at hrt
     rw [hrt]
     refine (path2 [4, 5] (e := .ret) (vals := [.nils, .bool false]) (h' := H) (ds := [.f (pA T (vsV V)), .r (.bool true) H none, .r (.str (bytesT (fin.map (·.1)))) H none, .b true]) (cs := [(rdCells H 0 0 2).bind (asVar (some 2)) = some (pA T (vsV V)), Cl G6 Ax.T 7 [pA T (vsV V), bSl 1 (fin.map fC) oid oex] H (.bool true, H, none), Cl G6 Ax.T 8 [bSl 1 (fin.map fC) oid oex] H (.str (bytesT (fin.map (·.1))), H, none), cB (!bytesEq (bytesT (fin.map (·.1))) s) true]) hl6 (fun t0 => by kernel_rfl) ⟨hldp, hgd, hby, by rw [bytesEq_iff, decide_eq_false hbs]; rfl, trivial⟩).mono ?_
     rintro e s' ⟨rfl, t7, rfl, hl7⟩
     exact QRd_none hl7
def resTabs : Option (List (List (List Val))) → AV
 | some l => .tup [sV l, .bool true]
 | none => .tup [.nils, .bool false]
theorem rd_pure {T : List (List Int)} {V : List Vw} {s : List UInt8} (okp : OkP T V) (hs : s.length ≤ 1000000) : PureS Try.prog 10 [pA T (vsV V), .str s] (resTabs (readT T V s)) := by
 obtain ⟨n, e, s', h1, rfl, h2⟩ := rd_wp okp hs (t := [pA T (vsV V), .str s] ++ List.replicate 96 (.tup [])) ⟨by simp, by simp [getX_eq]⟩
 have hcl : ∀ {a b : AV}, getX s'.t 4 = a → getX s'.t 5 = b → Cl G6 Ax.T 10 [pA T (vsV V), .str s] [] (.tup [a, b], s'.h, s'.lo) := by
  intro a b ha hb
  refine Cl.of (af := a10) (by kernel_rfl) (by kernel_rfl) (by show 2 ≤ 98; omega) ⟨n, _, s', h1, (fun i hi => by cases hi), [a, b], ?_, rfl, rfl, rfl⟩
  rw [getX_eq] at ha hb
  show resAll s' [.t 4, .t 5] = _
  simp only [resAll, resOf, ha, hb]
 cases hr : readT T V s with
 | none =>
  rw [hr] at h2
  exact pureS_cl K6 (hcl h2.1 h2.2) (by kernel_rfl) rfl
 | some l =>
  rw [hr] at h2
  obtain ⟨h3, v', h4, h5⟩ := h2
  obtain ⟨m, hm⟩ := hcl rfl h3
  have hp := (pureS_frz K6 hm (by kernel_rfl) (k := 11) (r' := .tup [v', .bool true]) (by
   rw [frz]
   simp only [mapO, h4]
   rfl)).wkn
  simp only [wkn, wknL, h5] at hp
  exact hp
end Go.Proofs.Ytfkkeddjfiljfaa.AM.Ax
namespace Go.Proofs.Ytfkkeddjfiljfaa.AM
open Go Go.RowKit Go.Proofs.YtfkkeddjfiljfaaW.PrintWords
structure Br {α : Type} (d : Kd α) (en : α → List AV) (ok : α → Prop) : Prop where
 len : ∀ a, (en a).length = d.sz
 up : ∀ {S : Nat → Prop} {w : World} {a : α} {cs : List Value}, ok a → LRel S (fun _ => none) w (en a) cs → d.K w a cs
 dn : ∀ {w : World} {base : Nat} {o : Nat → Prop} {a : α} {cs : List Value}, d.M w base o a cs → LRel (fun b => base ≤ b ∧ b < w.heap.size) (fun _ => none) w (en a) cs
theorem LRel.one_inv {S m w v cs} (h : LRel S m w [v] cs) : ∃ x, cs = [x] ∧ VRel S m w v x := by
 obtain ⟨x, r, rfl, h1, h2⟩ := h.head
 rw [h2.nil_r]
 exact ⟨x, rfl, h1⟩
theorem br_int (k : IntKind) : Br (Kd.int k) (fun n => [AV.int k n]) (fun _ => True) where
 len := fun _ => rfl
 up := by
  rintro S w a cs _ h
  obtain ⟨x, rfl, h1⟩ := h.one_inv
  cases h1
  rfl
 dn := by
  rintro w base o a cs h
  obtain rfl : cs = [Value.int k a] := h
  exact LRel.cons .int LRel.nil
theorem bytes_eq {a b : ByteArray} (h : a.data.toList = b.data.toList) : a = b := by
 cases a; cases b
 simp only at h
 rw [Array.toList_inj] at h
 rw [h]
theorem br_str : Br Kd.string (fun s : ByteArray => [AV.str s.data.toList]) (fun _ => True) where
 len := fun _ => rfl
 up := by
  rintro S w a cs _ h
  obtain ⟨x, rfl, h1⟩ := h.one_inv
  cases h1
  rename_i s hs
  have := bytes_eq hs
  subst this
  rfl
 dn := by
  rintro w base o a cs h
  obtain rfl : cs = [Value.string a] := h
  exact LRel.cons (.str rfl) LRel.nil
theorem br_pair {α β : Type} {a : Kd α} {b : Kd β} {ea : α → List AV} {eb : β → List AV} {oa : α → Prop} {ob : β → Prop} (ha : Br a ea oa) (hb : Br b eb ob) : Br (Kd.pair a b) (fun x => ea x.1 ++ eb x.2) (fun x => oa x.1 ∧ ob x.2) where
 len := fun x => by rw [List.length_append, ha.len, hb.len]; rfl
 up := by
  rintro S w x cs ⟨h1, h2⟩ h
  have l1 := ha.len x.1
  have ht := h.take a.sz
  have hd := h.drop a.sz
  rw [List.take_append_of_le_length (by omega), List.take_of_length_le (by omega)] at ht
  rw [List.drop_append_of_le_length (by omega), List.drop_of_length_le (by omega), List.nil_append] at hd
  exact ⟨cs.take a.sz, cs.drop a.sz, (List.take_append_drop ..).symm, ha.up h1 ht, hb.up h2 hd⟩
 dn := by
  rintro w base o x cs ⟨c0, c1, rfl, h0, h1⟩
  exact (ha.dn h0).append (hb.dn h1)
theorem br_iso {α β : Type} {d : Kd α} {en : α → List AV} {ok : α → Prop} (h : Br d en ok) (f : β → α) : Br (Kd.iso d f) (fun b => en (f b)) (fun b => ok (f b)) where
 len := fun b => h.len (f b)
 up := fun ho hl => h.up ho hl
 dn := fun hm => h.dn hm
section
variable {α : Type} {d : Kd α} {en : α → List AV} {ok : α → Prop} (h : Br d en ok) {e1 : α → AV} (he : ∀ a, (e1 a).cells = en a)
include h he
theorem br_up {S : Nat → Prop} {w : World} {l : List α} {x : Value} (hl : l.length ≤ 9223372036854775807) (ho : ∀ a ∈ l, ok a) (hv : VRel S (fun _ => none) w (.ro (l.map e1) d.sz false) x) : ∃ A c, x = .slice A l.length c ∧ l.length ≤ c ∧ d.C w A l.length l := by
 generalize hes : l.map e1 = es at hv
 have hle : es.length = l.length := by rw [← hes]; simp
 cases hv with
 | ro f hS hc hl' hr hx hn =>
  rename_i b dd rc
  refine ⟨some ⟨b, dd, none⟩, rc, by rw [hle], by omega, rfl, hl, fun hpos => ⟨⟨b, dd, none⟩, rfl, fun j p hj => ?_⟩⟩
  have hjl : j < l.length := (List.getElem?_eq_some_iff.1 hj).1
  have hpj : es.getD j .dead = e1 p := by rw [← hes, List.getD_eq_getElem?_getD, List.getElem?_map, hj]; rfl
  have hlen := h.len p
  refine ⟨(List.range d.sz).map (f j), by simp, h.up (S := S) (ho p (List.mem_of_getElem? hj)) ⟨by simp [hlen], fun i hi => ?_⟩, fun i u hu => ?_⟩
  ·rw [hlen] at hi
   have h1 := hr j i (by omega) hi
   rw [hpj, he] at h1
   rw [show ((List.range d.sz).map (f j)).getD i undef = f j i by simp [List.getD_eq_getElem?_getD, hi]]
   exact h1
  ·rw [List.getElem?_map, Option.map_eq_some_iff] at hu
   obtain ⟨i', h1, rfl⟩ := hu
   obtain ⟨h2, h3⟩ := List.getElem?_eq_some_iff.1 h1
   simp only [List.length_range, List.getElem_range] at h2 h3
   subst h3
   rw [add_mk]
   exact hc j i (by omega) h2
 | ro0 hx =>
  rename_i a rc
  have : l = [] := List.eq_nil_of_length_eq_zero (by rw [← hle]; rfl)
  subst this
  exact ⟨a, rc, rfl, Nat.zero_le _, rfl, Nat.zero_le _, fun hp => absurd hp (Nat.lt_irrefl _)⟩
theorem br_dn {w : World} {e base : Nat} {o : Nat → Prop} {v : Value} {l : List α} (hR : d.R e w base o v l) : VRel (fun b => base ≤ b ∧ b < w.heap.size) (fun _ => none) w (.ro (l.map e1) d.sz false) v := by
 obtain ⟨_, inner, ⟨hn, hv⟩, hr1, hr⟩ := hR
 rcases hv with ⟨rfl, h0⟩ | ⟨g, cap, cur, rfl, hg, hh, hcap, _, hsz, hin⟩
 ·have : l = [] := List.eq_nil_of_length_eq_zero h0
  subst this
  exact .ro0 (fun hx => by cases hx)
 ·have hlt : g < w.heap.size := (Array.getElem?_eq_some_iff.1 hh).1
  have hlm : (l.map e1).length = l.length := by simp
  rw [← hlm]
  have hel : ∀ i, i < l.length → ∃ p, l[i]? = some p ∧ (l.map e1).getD i .dead = e1 p ∧ LRel (fun b => base ≤ b ∧ b < w.heap.size) (fun _ => none) w (en p) ((inner.drop (i * d.sz)).take d.sz) := by
   intro i hi
   refine ⟨l[i], List.getElem?_eq_getElem hi, by simp [List.getD_eq_getElem?_getD, hi], h.dn (hr i _ (List.getElem?_eq_getElem hi))⟩
  refine .ro (fun i j => inner.getD (i * d.sz + j) undef) ⟨hg, hlt⟩ ?_ ?_ ?_ (fun hx => by cases hx) (by rw [hlm]; exact hcap)
  ·intro i j hi hj
   rw [hlm] at hi
   have hb : i * d.sz + j < l.length * d.sz := by
    have : (i + 1) * d.sz ≤ l.length * d.sz := Nat.mul_le_mul_right _ hi
    rw [Nat.succ_mul] at this
    omega
   have hil : i * d.sz + j < inner.length := by rw [hn]; exact hb
   rw [World.cell?, hh]
   simp only [Nat.zero_add]
   have h1 : inner[i * d.sz + j]? = cur.toList[i * d.sz + j]? := by rw [← hin, List.getElem?_take_of_lt hb]
   rw [List.getD_eq_getElem?_getD, List.getElem?_eq_getElem hil]
   rw [List.getElem?_eq_getElem hil] at h1
   simp only [Option.getD_some]
   rw [h1]
   simp
  ·intro i hi
   rw [hlm] at hi
   obtain ⟨p, _, h2, _⟩ := hel i hi
   rw [h2, he, h.len]
  ·intro i j hi hj
   rw [hlm] at hi
   obtain ⟨p, _, h2, h3⟩ := hel i hi
   rw [h2, he]
   have h4 := h3.2 j (by rw [h.len]; exact hj)
   have e : ((inner.drop (i * d.sz)).take d.sz).getD j undef = inner.getD (i * d.sz + j) undef := by
    rw [List.getD_eq_getElem?_getD, List.getD_eq_getElem?_getD, List.getElem?_take_of_lt hj, List.getElem?_drop]
   rw [e] at h4
   exact h4
theorem br_slice (e : Nat) : Br (Kd.slice e d) (fun l => [AV.ro (l.map e1) d.sz false]) (fun l => l.length ≤ 9223372036854775807 ∧ ∀ a ∈ l, ok a) where
 len := fun _ => rfl
 up := by
  rintro S w l cs ⟨hl, ho⟩ hc
  obtain ⟨x, rfl, h1⟩ := hc.one_inv
  obtain ⟨A, c, rfl, h2, h3⟩ := br_up h he hl ho h1
  exact ⟨A, c, rfl, h2, h3⟩
 dn := by
  rintro w base o l cs ⟨v, rfl, hR⟩
  exact LRel.cons (br_dn h he hR) LRel.nil
end
end Go.Proofs.Ytfkkeddjfiljfaa.AM
namespace Go.Proofs.Ytfkkeddjfiljfaa.AM.Ax
open Go Go.RowKit Go.Proofs.YtfkkeddjfiljfaaW.PrintWords Go.Proofs.Ytfkkeddjfiljfaa.PArk
abbrev sTb := S41
abbrev sVw := S44
abbrev sVl := S47
def toT (c : List Int) : sTb := ⟨c⟩
def toW (v : Vw) : sVw := ⟨v.1, v.2.1, v.2.2⟩
def toV (v : Val) : sVl := ⟨v.1, v.2.1, ofL v.2.2⟩
abbrev toTabs (l : List (List (List Val))) : List (List (List sVl)) := l.map fun x => x.map fun r => r.map toV
abbrev eT (x : sTb) : AV := .agg [.ro (x.f0.map iV) 1 false]
abbrev eW (x : sVw) : AV := .agg [.int .i64 x.f0, .int .i64 x.f1, .ro (x.f2.map iV) 1 false]
abbrev eV (x : sVl) : AV := .agg [.int .i64 x.f0, .int .i64 x.f1, .str x.f2.data.toList]
abbrev eR (r : List sVl) : AV := .ro (r.map eV) 3 false
abbrev eB (x : List (List sVl)) : AV := .ro (x.map eR) 1 false
abbrev shortL (l : List Int) : Prop := l.length ≤ 9223372036854775807 ∧ ∀ a ∈ l, True
theorem brInts (e : Nat) : Br (Kd.slice e (Kd.int .i64)) (fun l : List Int => [AV.ro (l.map iV) 1 false]) shortL := br_slice (br_int .i64) (e1 := iV) (fun _ => rfl) e
theorem brT : Br k41 (fun x : sTb => [AV.ro (x.f0.map iV) 1 false]) (fun x => shortL x.f0) := br_iso (brInts _) (fun x : sTb => x.f0)
theorem brW : Br k44 (fun x : sVw => [AV.int .i64 x.f0] ++ ([AV.int .i64 x.f1] ++ [AV.ro (x.f2.map iV) 1 false])) (fun x => True ∧ (True ∧ shortL x.f2)) :=
 br_iso (br_pair (br_int .i64) (br_pair (br_int .i64) (brInts _))) (fun x : sVw => (x.f0, x.f1, x.f2))
theorem brV : Br k47 (fun x : sVl => [AV.int .i64 x.f0] ++ ([AV.int .i64 x.f1] ++ [AV.str x.f2.data.toList])) (fun x => True ∧ (True ∧ True)) :=
 br_iso (br_pair (br_int .i64) (br_pair (br_int .i64) br_str)) (fun x : sVl => (x.f0, x.f1, x.f2))
abbrev shortR (r : List sVl) : Prop := r.length ≤ 9223372036854775807 ∧ ∀ a ∈ r, (True ∧ (True ∧ True))
abbrev shortB (x : List (List sVl)) : Prop := x.length ≤ 9223372036854775807 ∧ ∀ a ∈ x, shortR a
theorem brR (e : Nat) : Br (Kd.slice e k47) (fun r : List sVl => [eR r]) shortR := br_slice brV (e1 := eV) (fun _ => rfl) e
theorem brB (e e' : Nat) : Br (Kd.slice e' (Kd.slice e k47)) (fun x : List (List sVl) => [eB x]) shortB := br_slice (brR e) (e1 := eR) (fun _ => rfl) e'
theorem eR_to (r : List Val) : eR (r.map toV) = rV r := by simp only [eR, List.map_map]; rfl
theorem eB_to (x : List (List Val)) : eB (x.map fun r => r.map toV) = bV x := by
 simp only [eB, bV, List.map_map]
 congr 1
 exact List.map_congr_left fun r _ => eR_to r
theorem sV_to (l : List (List (List Val))) : AV.ro ((toTabs l).map eB) 1 false = sV l := by
 simp only [toTabs, sV, List.map_map]
 congr 1
 exact List.map_congr_left fun x _ => eB_to x
theorem tabs_to (T : List (List Int)) : (T.map toT).map eT = T.map tV := by simp only [List.map_map]; rfl
theorem views_to (V : List Vw) : (V.map toW).map eW = V.map wV := by simp only [List.map_map]; rfl
theorem lrel_two {S m w} {a b : AV} {l : List Value} (h : LRel S m w [a, b] l) : ∃ x y, l = [x, y] ∧ VRel S m w a x ∧ VRel S m w b y := by
 obtain ⟨x, r, rfl, h1, h2⟩ := h.head
 obtain ⟨y, r', rfl, h3, h4⟩ := h2.head
 rw [h4.nil_r]
 exact ⟨x, y, rfl, h1, h3⟩
theorem plan_in {T : List (List Int)} {V : List Vw} (ok : OkP T V) {S : Nat → Prop} {w : World} {x : Value} (h : VRel S (fun _ => none) w (pA T (vsV V)) x) :
  ∃ A0 c0 A1 c1, x = .agg #[.slice A0 (T.map toT).length c0, .slice A1 (V.map toW).length c1] ∧ Kd.C k41 w A0 (T.map toT).length (T.map toT) ∧ (T.map toT).length ≤ c0 ∧ Kd.C k44 w A1 (V.map toW).length (V.map toW) ∧ (V.map toW).length ≤ c1 := by
 obtain ⟨vs, rfl, h1⟩ := h.agg_inv
 obtain ⟨a, b, h2, h3, h4⟩ := lrel_two h1
 have hvs : vs = #[a, b] := by rw [← Array.toList_inj]; exact h2
 subst hvs
 rw [← tabs_to] at h3
 rw [vsV, ← views_to] at h4
 obtain ⟨A0, c0, rfl, l0, k0⟩ := br_up brT (e1 := eT) (fun _ => rfl) (by simpa using ok.t) (fun y hy => by
  obtain ⟨c, hc, rfl⟩ := List.mem_map.1 hy
  exact ⟨ok.c c hc, fun _ _ => trivial⟩) h3
 obtain ⟨A1, c1, rfl, l1, k1⟩ := br_up brW (e1 := eW) (fun _ => rfl) (by simpa using ok.v) (fun y hy => by
  obtain ⟨v, hv, rfl⟩ := List.mem_map.1 hy
  exact ⟨trivial, trivial, ok.s v hv, fun _ _ => trivial⟩) h4
 exact ⟨A0, c0, A1, c1, rfl, k0, l0, k1, l1⟩
theorem pack_pure {T : List (List Int)} {V : List Vw} {l : List (List (List Val))} {b : List UInt8} {e : Int} (okp : OkP T V) (ok : OkT l) (h : Ev (fun k => ark_Pack.f k (T.map toT) (V.map toW) (toTabs l)) (ofL b, e)) :
  PureS Try.prog 6 [pA T (vsV V), sV l] (.tup [.str b, .int .i64 e]) := by
 intro S w vals hS hL
 obtain ⟨x, y, h1, h2, h3⟩ := lrel_two hL
 have hv : vals = #[x, y] := by rw [← Array.toList_inj]; exact h1
 subst hv
 obtain ⟨A0, c0, A1, c1, rfl, k0, l0, k1, l1⟩ := plan_in okp h2
 rw [← sV_to] at h3
 obtain ⟨A2, c2, rfl, l2, k2⟩ := br_up (brB _ _) (e1 := eB) (fun _ => rfl) (by simpa using ok.len) (fun z hz => by
  obtain ⟨q, hq, rfl⟩ := List.mem_map.1 hz
  refine ⟨by simpa using ok.rl q hq, fun r hr => ?_⟩
  obtain ⟨p, hp, rfl⟩ := List.mem_map.1 hr
  exact ⟨by simpa using ok.vl q hq p hp, fun _ _ => ⟨trivial, trivial, trivial⟩⟩) h3
 obtain ⟨k, hk⟩ := h.rounds
 refine Calls.mono (ark_Pack.calls k A0 c0 _ A1 c1 _ A2 c2 _ (ofL b) e w k0 l0 k1 l1 k2 l2 hk) fun e' w' he => ?_
 obtain ⟨rfl, hb⟩ := he
 refine ⟨_, S, rfl, LRel.tup (LRel.cons (.str rfl) (LRel.cons .int LRel.nil)), fun _ h => h, fun _ h => .inl h, fun b hb' => ?_, hb⟩
 have := hS b hb'
 have := hb.size
 omega
theorem unpack_pure {T : List (List Int)} {V : List Vw} {l : List (List (List Val))} {s : List UInt8} {e : Int} (okp : OkP T V) (h : Ev (fun k => ark_Unpack.f k (T.map toT) (V.map toW) (ofL s)) (toTabs l, e)) :
  PureS Try.prog 9 [pA T (vsV V), .str s] (.tup [sV l, .int .i64 e]) := by
 intro S w vals hS hL
 obtain ⟨x, y, h1, h2, h3⟩ := lrel_two hL
 have hv : vals = #[x, y] := by rw [← Array.toList_inj]; exact h1
 subst hv
 obtain ⟨A0, c0, A1, c1, rfl, k0, l0, k1, l1⟩ := plan_in okp h2
 cases h3 with
 | str hs =>
  rename_i s'
  have : s' = ofL s := bytes_eq hs
  subst this
  obtain ⟨k, hk⟩ := h.rounds
  refine Calls.mono (ark_Unpack.calls k A0 c0 _ A1 c1 _ (ofL s) (toTabs l) e w k0 l0 k1 l1 hk) fun e' w' he => ?_
  obtain ⟨v0, rfl, hR, hb⟩ := he
  have hv := br_dn (brB _ _) (e1 := eB) (fun _ => rfl) hR
  have hv' : VRel (fun b => S b ∨ (w.heap.size ≤ b ∧ b < w'.heap.size)) (fun _ => none) w' (sV l) v0 := by
   rw [← sV_to]
   exact hv.keep ⟨fun b hb => .inr hb, fun _ _ => rfl, fun _ _ h => h⟩
  refine ⟨_, _, rfl, LRel.tup (LRel.cons hv' (LRel.cons .int LRel.nil)), fun _ h => .inl h, fun b hb => hb.imp_right fun h => h.1, fun b hb' => ?_, hb⟩
  have := hb.size
  rcases hb' with h | h
  ·have := hS b h; omega
  ·exact h.2
end Go.Proofs.Ytfkkeddjfiljfaa.AM.Ax
