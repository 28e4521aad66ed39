/-
 LAYER 35: same, great, what ArkBack computes is true (no walk); ArkBack from what comes in to the answer.
-/
import Derived.Test.YtkcckhlchjmkkaaArkI
import Derived.Test.YtkcckhlchjmkkaaArkS
import Derived.Test.YtkcckhlchjmkkaaPArkx7
import Derived.Test.YtkcckhlchjmkkaaPArkx10
import Derived.Test.YtkcckhlchjmkkaaRdr
set_option linter.unusedVariables false
set_option linter.unusedSimpArgs false
namespace Go.Proofs.Ytkcckhlchjmkkaa
open Go.RowKit Go.Shelf Go.Proofs.YtkcckhlchjmkkaaW.PrintWords Go.Proofs.YtkcckhlchjmkkaaW.PrintMore Go.Proofs.Ytkcckhlchjmkkaa.PArk

/-- Two values are not one, as the reference asks it. -/
def neV (a b : Vl) : Bool := !(a.f0 == b.f0) || (!(a.f1 == b.f1) || !(a.f2.toList == b.f2.toList))
theorem neV_iff (a b : Vl) : neV a b = false ↔ a = b := by
 unfold neV
 constructor
 ·intro h
  simp only [Bool.or_eq_false_iff, Bool.not_eq_false', beq_iff_eq] at h
  obtain ⟨h0, h1, h2⟩ := h
  obtain ⟨a0, a1, a2⟩ := a
  obtain ⟨b0, b1, b2⟩ := b
  simp only at h0 h1 h2
  rw [toList_data, toList_data] at h2
  rw [h0, h1, bytes_ext h2]
 ·rintro rfl
  simp
theorem row_same0 (a b : List Vl) (hab : a.length = b.length) (hl : a.length ≤ 1000000) : ∀ d i : Nat, i + d = a.length → ∃ r, Ev (fun k => gaugerref01_Same.l0 k a b (i : Int)) r ∧ (r = true ↔ a.drop i = b.drop i)
 | 0, i, h => ⟨true, Ev.one fun k => by rw [gaugerref01_Same.l0, if_neg (by omega)], by rw [List.drop_eq_nil_of_le (by omega), List.drop_eq_nil_of_le (by omega)]; simp⟩
 | d + 1, i, h => by
  have hw : wrap64 ((i : Int) + 1) = ((i + 1 : Nat) : Int) := by unfold wrap64; omega
  obtain ⟨r, h1, h2⟩ := row_same0 a b hab hl d (i + 1) (by omega)
  rw [drop_cons a i z140 (by omega), drop_cons b i z140 (by omega)]
  have hh : ∀ k, gaugerref01_Same.l0 (k + 1) a b (i : Int) = if neV (a.getD i z140) (b.getD i z140) = true then some false else gaugerref01_Same.l0 k a b ((i + 1 : Nat) : Int) := by
   intro k
   rw [gaugerref01_Same.l0, if_pos (by omega), if_pos (by omega), if_pos (by omega), hw]
   rfl
  cases hn : neV (a.getD i z140) (b.getD i z140) with
  | false =>
   refine ⟨r, Ev.step (fun k => by rw [hh, hn, if_neg (by decide)]) h1, ?_⟩
   rw [h2, (neV_iff _ _).1 hn]
   simp
  | true =>
   refine ⟨false, Ev.one fun k => by rw [hh, hn, if_pos rfl], ?_⟩
   constructor
   ·intro h; cases h
   ·intro h
    have := (neV_iff _ _).2 (List.cons.inj h).1
    rw [hn] at this
    cases this
theorem row_same (a b : List Vl) (hl : a.length ≤ 1000000) : ∃ r, Ev (fun k => gaugerref01_Same.f k a b) r ∧ (r = true ↔ a = b) := by
 by_cases hab : a.length = b.length
 ·obtain ⟨r, h1, h2⟩ := row_same0 a b hab hl a.length 0 (by omega)
  rw [List.drop_zero, List.drop_zero] at h2
  exact ⟨r, Ev.congr (fun k => by rw [gaugerref01_Same.f, if_pos (by omega)]; rfl) h1, h2⟩
 ·refine ⟨false, Ev.congr (fun k => by rw [gaugerref01_Same.f, if_neg (by omega)]) (Ev.now false), ?_⟩
  constructor
  ·intro h; cases h
  ·rintro rfl; exact absurd rfl hab
theorem rows_same0 (a b : List (List Vl)) (hab : a.length = b.length) (hl : a.length ≤ 1000000) (hr : ∀ r ∈ a, r.length ≤ 1000000) : ∀ d i : Nat, i + d = a.length → ∃ r, Ev (fun k => gaugerref24_Same.l0 k (i : Int) 0 a [] 0 0 b [] 0) r ∧ (r = true ↔ a.drop i = b.drop i)
 | 0, i, h => ⟨true, Ev.step (f := fun k => gaugerref24_Same.l1 k 0 0 a [] 0 0 b [] 0) (fun k => by rw [gaugerref24_Same.l0, if_neg (by omega)]) (Ev.one fun k => by rw [gaugerref24_Same.l1, if_neg (by simp)]), by rw [List.drop_eq_nil_of_le (by omega), List.drop_eq_nil_of_le (by omega)]; simp⟩
 | d + 1, i, h => by
  have hw : wrap64 ((i : Int) + 1) = ((i + 1 : Nat) : Int) := by unfold wrap64; omega
  have hmem : a.getD i [] ∈ a := by
   rw [List.getD_eq_getElem?_getD, List.getElem?_eq_getElem (by omega)]
   exact List.getElem_mem _
  obtain ⟨r, h1, h2⟩ := rows_same0 a b hab hl hr d (i + 1) (by omega)
  obtain ⟨q, q1, q2⟩ := row_same (a.getD i []) (b.getD i []) (hr _ hmem)
  rw [drop_cons a i [] (by omega), drop_cons b i [] (by omega)]
  have hh : ∀ k, gaugerref24_Same.l0 (k + 1) (i : Int) 0 a [] 0 0 b [] 0 = (gaugerref01_Same.f k (a.getD i []) (b.getD i [])).bind fun t => if t = true then gaugerref24_Same.l0 k ((i + 1 : Nat) : Int) 0 a [] 0 0 b [] 0 else some false := by
   intro k
   rw [gaugerref24_Same.l0, if_pos (by omega), if_pos (by omega), if_pos (by omega), hw]
   rfl
  cases q with
  | true =>
   refine ⟨r, Ev.step hh (Ev.bind q1 (Ev.congr (fun k => if_pos rfl) h1)), ?_⟩
   rw [h2, q2.1 rfl]
   simp
  | false =>
   refine ⟨false, Ev.step hh (Ev.bind q1 (Ev.congr (fun k => if_neg (by decide)) (Ev.now false))), ?_⟩
   constructor
   ·intro h; cases h
   ·intro h
    have := q2.2 (List.cons.inj h).1
    cases this
theorem rows_same (a b : List (List Vl)) (hl : a.length ≤ 1000000) (hr : ∀ r ∈ a, r.length ≤ 1000000) : ∃ r, Ev (fun k => gaugerref24_Same.f k 0 a [] 0 0 b [] 0) r ∧ (r = true ↔ a = b) := by
 by_cases hab : a.length = b.length
 ·obtain ⟨r, h1, h2⟩ := rows_same0 a b hab hl hr a.length 0 (by omega)
  rw [List.drop_zero, List.drop_zero] at h2
  refine ⟨r, Ev.congr (f := fun k => gaugerref24_Same.j0 k false 0 a [] 0 0 b [] 0) (fun k => ?_) (Ev.step (fun k => by rw [gaugerref24_Same.j0, if_neg (by decide)]; rfl) h1), h2⟩
  rw [gaugerref24_Same.f, if_pos rfl, if_pos rfl, if_pos (by omega)]
  rfl
 ·refine ⟨false, Ev.congr (f := fun k => gaugerref24_Same.j0 k true 0 a [] 0 0 b [] 0) (fun k => ?_) (Ev.one fun k => by rw [gaugerref24_Same.j0, if_pos rfl]), ?_⟩
  ·rw [gaugerref24_Same.f, if_pos rfl, if_pos rfl, if_neg (by omega)]
  ·constructor
   ·intro h; cases h
   ·rintro rfl; exact absurd rfl hab
theorem tabs_same0 : ∀ (a b : List (List (List Vl))), a.length = b.length → (∀ x ∈ a, x.length ≤ 1000000 ∧ ∀ r ∈ x, r.length ≤ 1000000) → ∃ r, Ev (fun k => tabsL k a b) r ∧ (r = true ↔ a = b)
 | [], [], _, _ => ⟨true, Ev.congr (fun k => by rw [tabsL]; simp) (Ev.now true), by simp⟩
 | x :: a, y :: b, hl, hr => by
  obtain ⟨q, q1, q2⟩ := rows_same x y (hr x (by simp)).1 (hr x (by simp)).2
  obtain ⟨r, r1, r2⟩ := tabs_same0 a b (by simpa using hl) (fun z hz => hr z (by simp [hz]))
  cases q with
  | true =>
   refine ⟨r, Ev.congr (fun k => rfl) (Ev.bind q1 (Ev.congr (fun k => if_pos rfl) r1)), ?_⟩
   rw [r2, q2.1 rfl]
   simp
  | false =>
   refine ⟨false, Ev.congr (fun k => rfl) (Ev.bind q1 (Ev.congr (fun k => if_neg (by decide)) (Ev.now false))), ?_⟩
   constructor
   ·intro h; cases h
   ·intro h
    have := q2.2 (List.cons.inj h).1
    cases this
 | [], _ :: _, hl, _ => by simp at hl
 | _ :: _, [], hl, _ => by simp at hl
/-- WHETHER THEY ARE ONE. -/
theorem same_total (a b : List (List (List Vl))) (hr : ∀ x ∈ a, x.length ≤ 1000000 ∧ ∀ r ∈ x, r.length ≤ 1000000) : ∃ r, Ev (fun k => gaugerlaw35_same.f k a b) r ∧ (r = true ↔ a = b) := by
 by_cases hab : a.length = b.length
 ·obtain ⟨r, h1, h2⟩ := tabs_same0 a b hab hr
  exact ⟨r, Ev.congr (fun k => by rw [gaugerlaw35_same.f, tabsSame, if_pos hab]) h1, h2⟩
 ·refine ⟨false, Ev.congr (fun k => by rw [gaugerlaw35_same.f, tabsSame, if_neg hab]) (Ev.now false), ?_⟩
  constructor
  ·intro h; cases h
  ·rintro rfl; exact absurd rfl hab

def smallTabs (tabs : List (List (List S140))) : Prop := ∀ x ∈ tabs, x.length ≤ 60 ∧ ∀ r ∈ x, r.length ≤ 8
theorem Ev.one1 {α : Type} {g : Nat → Option α} {r : α} (h : ∀ k, g (k + 1) = some r) : Ev g r := Ev.step h (Ev.now r)
theorem great_l4 (tabs : List (List (List S140))) (t i : Nat) (ht : t < tabs.length) (hi : i < (rd_L11 tabs (t : Int)).length) (htl : tabs.length ≤ 6) (hx : (rd_L11 tabs (t : Int)).length ≤ 60) (hr : (rd_L10 (rd_L11 tabs (t : Int)) (i : Int)).length ≤ 8) (P : Prop)
  (hnext : ∃ b, Ev (fun k => gaugerlaw35_great.l3 k tabs (t : Int) ((i + 1 : Nat) : Int)) b ∧ (b = false → P)) :
  ∀ d j : Nat, j + d = (rd_L10 (rd_L11 tabs (t : Int)) (i : Int)).length → ∃ b, Ev (fun k => gaugerlaw35_great.l4 k tabs (t : Int) (i : Int) (j : Int)) b ∧ (b = false → P)
 | 0, j, h => by
  have hw : wrap64 ((i : Int) + 1) = ((i + 1 : Nat) : Int) := by unfold wrap64; omega
  obtain ⟨b, h1, h2⟩ := hnext
  exact ⟨b, Ev.step (fun k => by rw [gaugerlaw35_great.l4, if_pos (by omega), if_pos (by omega), if_pos (by omega), if_pos (by omega), if_neg (by omega), hw]) h1, h2⟩
 | d + 1, j, h => by
  have hw : wrap64 ((j : Int) + 1) = ((j + 1 : Nat) : Int) := by unfold wrap64; omega
  obtain ⟨b, h1, h2⟩ := great_l4 tabs t i ht hi htl hx hr P hnext d (j + 1) (by omega)
  by_cases hs : (((rd_T140 (rd_L10 (rd_L11 tabs (t : Int)) (i : Int)) (j : Int)).f2).size : Int) > 60
  ·exact ⟨true, Ev.one1 fun k => by rw [gaugerlaw35_great.l4, if_pos (by omega), if_pos (by omega), if_pos (by omega), if_pos (by omega), if_pos (by omega), if_pos (by omega), if_pos hs], fun hb => by cases hb⟩
  ·exact ⟨b, Ev.step (fun k => by rw [gaugerlaw35_great.l4, if_pos (by omega), if_pos (by omega), if_pos (by omega), if_pos (by omega), if_pos (by omega), if_pos (by omega), if_neg hs, hw]) h1, h2⟩
theorem great_l3 (tabs : List (List (List S140))) (t : Nat) (ht : t < tabs.length) (htl : tabs.length ≤ 6) (hx : (rd_L11 tabs (t : Int)).length ≤ 60) (P : Prop)
  (hnext : ∃ b, Ev (fun k => gaugerlaw35_great.l2 k tabs ((t + 1 : Nat) : Int)) b ∧ (b = false → P)) :
  ∀ d i : Nat, i + d = (rd_L11 tabs (t : Int)).length → ∃ b, Ev (fun k => gaugerlaw35_great.l3 k tabs (t : Int) (i : Int)) b ∧ (b = false → P ∧ ∀ r ∈ (rd_L11 tabs (t : Int)).drop i, r.length ≤ 8)
 | 0, i, h => by
  have hw : wrap64 ((t : Int) + 1) = ((t + 1 : Nat) : Int) := by unfold wrap64; omega
  obtain ⟨b, h1, h2⟩ := hnext
  refine ⟨b, Ev.step (fun k => by rw [gaugerlaw35_great.l3, if_pos (by omega), if_pos (by omega), if_neg (by omega), hw]) h1, fun hb => ⟨h2 hb, fun r hr => ?_⟩⟩
  rw [List.drop_eq_nil_of_le (by omega)] at hr
  cases hr
 | d + 1, i, h => by
  obtain ⟨b0, g1, g2⟩ := great_l3 tabs t ht htl hx P hnext d (i + 1) (by omega)
  by_cases hr : (rd_L10 (rd_L11 tabs (t : Int)) (i : Int)).length ≤ 8
  ·obtain ⟨b, h1, h2⟩ := great_l4 tabs t i ht (by omega) htl hx hr _ ⟨b0, g1, g2⟩ (rd_L10 (rd_L11 tabs (t : Int)) (i : Int)).length 0 (by omega)
   refine ⟨b, Ev.step (fun k => by rw [gaugerlaw35_great.l3, if_pos (by omega), if_pos (by omega), if_pos (by omega), if_pos (by omega), if_neg (by omega)]; rfl) h1, fun hb => ⟨(h2 hb).1, fun r hrr => ?_⟩⟩
   rw [drop_cons (rd_L11 tabs (t : Int)) i [] (by omega)] at hrr
   rcases List.mem_cons.1 hrr with rfl | hrr
   ·exact hr
   ·exact (h2 hb).2 r hrr
  ·exact ⟨true, Ev.one1 fun k => by rw [gaugerlaw35_great.l3, if_pos (by omega), if_pos (by omega), if_pos (by omega), if_pos (by omega), if_pos (by omega)], fun hb => by cases hb⟩
theorem great_l2 (tabs : List (List (List S140))) (htl : tabs.length ≤ 6) :
  ∀ d t : Nat, t + d = tabs.length → ∃ b, Ev (fun k => gaugerlaw35_great.l2 k tabs (t : Int)) b ∧ (b = false → smallTabs (tabs.drop t))
 | 0, t, h => by
  refine ⟨false, Ev.one1 fun k => by rw [gaugerlaw35_great.l2, if_neg (by omega)], fun _ x hx => ?_⟩
  rw [List.drop_eq_nil_of_le (by omega)] at hx
  cases hx
 | d + 1, t, h => by
  obtain ⟨b0, g1, g2⟩ := great_l2 tabs htl d (t + 1) (by omega)
  by_cases hx : (rd_L11 tabs (t : Int)).length ≤ 60
  ·obtain ⟨b, h1, h2⟩ := great_l3 tabs t (by omega) htl hx _ ⟨b0, g1, g2⟩ (rd_L11 tabs (t : Int)).length 0 (by omega)
   refine ⟨b, Ev.step (fun k => by rw [gaugerlaw35_great.l2, if_pos (by omega), if_pos (by omega), if_neg (by omega)]; rfl) h1, fun hb x hxx => ?_⟩
   rw [drop_cons tabs t [] (by omega)] at hxx
   rcases List.mem_cons.1 hxx with rfl | hxx
   ·refine ⟨hx, fun r hr => (h2 hb).2 r ?_⟩
    rw [List.drop_zero]
    exact hr
   ·exact (h2 hb).1 x hxx
  ·exact ⟨true, Ev.one1 fun k => by rw [gaugerlaw35_great.l2, if_pos (by omega), if_pos (by omega), if_pos (by omega)], fun hb => by cases hb⟩
theorem great_l1 (tabs : List (List (List S140))) (htl : tabs.length ≤ 6) (T : List S134) (V : List S137) (hV : V.length ≤ 8) :
  ∀ d i : Nat, i + d = V.length → ∃ b, Ev (fun k => gaugerlaw35_great.l1 k tabs (i : Int) T V) b ∧ (b = false → smallTabs tabs)
 | 0, i, h => by
  obtain ⟨b, h1, h2⟩ := great_l2 tabs htl tabs.length 0 (by omega)
  rw [List.drop_zero] at h2
  exact ⟨b, Ev.step (fun k => by rw [gaugerlaw35_great.l1, if_neg (by omega)]; rfl) h1, h2⟩
 | d + 1, i, h => by
  have hw : wrap64 ((i : Int) + 1) = ((i + 1 : Nat) : Int) := by unfold wrap64; omega
  obtain ⟨b, h1, h2⟩ := great_l1 tabs htl T V hV d (i + 1) (by omega)
  by_cases hs : (((rd_T137 V (i : Int)).f2).length : Int) > 10
  ·exact ⟨true, Ev.one1 fun k => by rw [gaugerlaw35_great.l1, if_pos (by omega), if_pos (by omega), if_pos hs], fun hb => by cases hb⟩
  ·exact ⟨b, Ev.step (fun k => by rw [gaugerlaw35_great.l1, if_pos (by omega), if_pos (by omega), if_neg hs, hw]) h1, h2⟩
theorem great_l0 (tabs : List (List (List S140))) (htl : tabs.length ≤ 6) (T : List S134) (V : List S137) (hT : T.length ≤ 6) (hV : V.length ≤ 8) :
  ∀ d i : Nat, i + d = T.length → ∃ b, Ev (fun k => gaugerlaw35_great.l0 k tabs (i : Int) T V) b ∧ (b = false → smallTabs tabs)
 | 0, i, h => by
  obtain ⟨b, h1, h2⟩ := great_l1 tabs htl T V hV V.length 0 (by omega)
  exact ⟨b, Ev.step (fun k => by rw [gaugerlaw35_great.l0, if_neg (by omega)]; rfl) h1, h2⟩
 | d + 1, i, h => by
  have hw : wrap64 ((i : Int) + 1) = ((i + 1 : Nat) : Int) := by unfold wrap64; omega
  obtain ⟨b, h1, h2⟩ := great_l0 tabs htl T V hT hV d (i + 1) (by omega)
  by_cases hs : (((rd_T134 T (i : Int)).f0).length : Int) > 10
  ·exact ⟨true, Ev.one1 fun k => by rw [gaugerlaw35_great.l0, if_pos (by omega), if_pos (by omega), if_pos hs], fun hb => by cases hb⟩
  ·exact ⟨b, Ev.step (fun k => by rw [gaugerlaw35_great.l0, if_pos (by omega), if_pos (by omega), if_neg hs, hw]) h1, h2⟩
/-- WHETHER IT IS MORE THAN IS ASKED: it comes to an end. -/
theorem great_total (T : List S134) (V : List S137) (tabs : List (List (List S140))) : ∃ b, Ev (fun k => gaugerlaw35_great.f k T V tabs) b ∧ (b = false → tabs.length ≤ 6 ∧ smallTabs tabs) := by
 have hj : ∀ k, gaugerlaw35_great.j0 (k + 1) tabs true T V = some true := fun k => by rw [gaugerlaw35_great.j0, if_pos rfl]
 by_cases hT : T.length ≤ 6
 ·by_cases hV : V.length ≤ 8
  ·by_cases hl : tabs.length ≤ 6
   ·obtain ⟨b, h1, h2⟩ := great_l0 tabs hl T V hT hV T.length 0 (by omega)
    refine ⟨b, Ev.congr (f := fun k => gaugerlaw35_great.j0 k tabs false T V) (fun k => ?_) (Ev.step (fun k => by rw [gaugerlaw35_great.j0, if_neg (by decide)]; rfl) h1), fun hb => ⟨hl, h2 hb⟩⟩
    rw [gaugerlaw35_great.f, if_neg (by omega), if_neg (by omega), show decide ((tabs.length : Int) > 6) = false from decide_eq_false (by omega)]
   ·refine ⟨true, Ev.congr (f := fun k => gaugerlaw35_great.j0 k tabs true T V) (fun k => ?_) (Ev.one1 hj), fun hb => by cases hb⟩
    rw [gaugerlaw35_great.f, if_neg (by omega), if_neg (by omega), show decide ((tabs.length : Int) > 6) = true from decide_eq_true (by omega)]
  ·refine ⟨true, Ev.congr (f := fun k => gaugerlaw35_great.j0 k tabs true T V) (fun k => ?_) (Ev.one1 hj), fun hb => by cases hb⟩
   rw [gaugerlaw35_great.f, if_neg (by omega), if_pos (by omega)]
 ·refine ⟨true, Ev.congr (f := fun k => gaugerlaw35_great.j0 k tabs true T V) (fun k => ?_) (Ev.one1 hj), fun hb => by cases hb⟩
  rw [gaugerlaw35_great.f, if_pos (by omega)]

set_option maxRecDepth 100000 in
theorem awake_ev : Ev (fun k => gaugerlaw35_awake.f k) true := Ev.of (fun k => gaugerlaw35_awake.mono k) (k := 40) (by kernel_rfl)
def okTabsN (a : List (List (List Vl))) : Prop := ∀ x ∈ a, ∀ r ∈ x, ∀ v ∈ r, okN v
theorem small_bounds {a : List (List (List Vl))} (hl : a.length ≤ 6) (hs : smallTabs a) : (∀ x ∈ a, x.length ≤ 1000000 ∧ ∀ r ∈ x, r.length ≤ 1000000) ∧ sumLen a ≤ 1000000000 ∧ a.length ≤ 1000000 := by
 refine ⟨fun x hx => ⟨by have := (hs x hx).1; omega, fun r hr => by have := (hs x hx).2 r hr; omega⟩, ?_, by omega⟩
 have := sumLen_le a (fun x hx => by have := (hs x hx).1; omega)
 omega
theorem j2_true (x1 x2 : List (List (List Vl))) (p q : ByteArray) (T : List Tb') (V : List S137) : Ev (fun k => gaugerlaw35_ArkBack.j2 k x1 x2 p q true T V) true :=
 Ev.one fun k => by rw [gaugerlaw35_ArkBack.j2, if_pos rfl]
theorem arkBack_j1 (T : List Tb') (V : List S137) (a b : List (List (List Vl))) (la : a.length ≤ 6) (sa : smallTabs a) (lb : b.length ≤ 6) (sb : smallTabs b) (na : okTabsN a) (nb : okTabsN b) : Ev (fun k => gaugerlaw35_ArkBack.j1 k a b T V) true := by
 obtain ⟨a1, a2, a3⟩ := small_bounds la sa
 obtain ⟨b1, b2, b3⟩ := small_bounds lb sb
 obtain ⟨ga, g1, g2⟩ := isGood_total T V a a1 a2 a3
 obtain ⟨gb, h1, h2⟩ := isGood_total T V b b1 b2 b3
 have hj : ∀ k, gaugerlaw35_ArkBack.j1 (k + 1) a b T V = (ark_Pack.f k T V a).bind fun p => (ark_Pack.f k T V b).bind fun q => if p.2 = 0 then gaugerlaw35_ArkBack.j2 k a b p.1 q.1 (q.2 != 0) T V else gaugerlaw35_ArkBack.j2 k a b p.1 q.1 true T V := fun k => by rw [gaugerlaw35_ArkBack.j1]
 have packb : ∃ q, Ev (fun k => ark_Pack.f k T V b) q ∧ (gb = true → q.2 = 0 ∧ Ev (fun k => crc_Seal.f k (ofL (packB b))) q.1) ∧ (gb = false → q.2 = 1) := by
  cases gb with
  | true =>
   obtain ⟨x, x1, x2, _⟩ := pack_good h1 (h2 rfl).1 (h2 rfl).2
   exact ⟨(x, 0), x1, fun _ => ⟨rfl, x2⟩, fun h => by cases h⟩
  | false => exact ⟨_, pack_bad h1, (fun h => by cases h), fun _ => rfl⟩
 obtain ⟨q, q1, q2, q3⟩ := packb
 cases ga with
 | false =>
  refine Ev.step hj (Ev.bind (pack_bad g1) (Ev.bind q1 ?_))
  exact Ev.congr (fun k => if_neg (by decide)) (j2_true _ _ _ _ _ _)
 | true =>
  obtain ⟨hp, fa⟩ := g2 rfl
  obtain ⟨p1, p2⟩ := okPlan_tabs hp
  obtain ⟨x, x1, x2, x3⟩ := pack_good g1 hp fa
  have fitA := fitG_fit T a fa (fun t ht => (p2 t ht).2) na
  refine Ev.step hj (Ev.bind x1 (Ev.bind q1 (Ev.congr (fun k => if_pos rfl) ?_)))
  simp only
  cases gb with
  | false =>
   rw [show (q.2 != 0) = true by rw [q3 rfl]; rfl]
   exact j2_true _ _ _ _ _ _
  | true =>
   obtain ⟨y0, y2⟩ := q2 rfl
   rw [show (q.2 != 0) = false by rw [y0]; rfl]
   obtain ⟨hpb, fb⟩ := h2 rfl
   have fitB := fitG_fit T b fb (fun t ht => (p2 t ht).2) nb
   obtain ⟨_, _, _, y3⟩ := pack_good h1 hpb fb
   have ua := unpack_fwd g1 hp fitA x3 x2
   have ub := unpack_fwd h1 hp fitB y3 y2
   obtain ⟨s1, t1, t2⟩ := same_total a a a1
   obtain ⟨s2, t3, t4⟩ := same_total a b a1
   obtain rfl : s1 = true := t2.2 rfl
   have hxy : (x.toList == q.1.toList) = s2 := by
    by_cases hab : a = b
    ·rw [t4.2 hab]
     subst hab
     rw [Ev.uniq x2 y2]
     simp
    ·have hs2 : s2 = false := by
      cases s2 with
      | false => rfl
      | true => exact absurd (t4.1 rfl) hab
     rw [hs2]
     refine beq_eq_false_iff_ne.mpr fun he => hab ?_
     rw [toList_data, toList_data] at he
     have hxq := bytes_ext he
     rw [hxq] at ua
     exact congrArg Prod.fst (Ev.uniq ua ub)
   refine Ev.step (f := fun k => (ark_Unpack.f k T V x).bind fun z => if z.2 = 0 then (gaugerlaw35_same.f k z.1 a).bind fun t => if t = true then (gaugerlaw35_same.f k a b).bind fun t' => some ((x.toList == q.1.toList) == t') else some false else some false) (fun k => by rw [gaugerlaw35_ArkBack.j2, if_neg (by decide)]) ?_
   refine Ev.bind ua (Ev.congr (fun k => if_pos rfl) (Ev.bind t1 (Ev.congr (fun k => if_pos rfl) (Ev.bind t3 ?_))))
   refine Ev.congr (fun k => ?_) (Ev.now true)
   rw [hxy]
   simp
/-- ARKBACK, PLAIN. -/
theorem arkBack_ev (T : List Tb') (V : List S137) (a b : List (List (List Vl))) (s : ByteArray) (na : okTabsN a) (nb : okTabsN b) : Ev (fun k => gaugerlaw35_ArkBack.f k T V a b s) true := by
 obtain ⟨ca, c1, c2⟩ := great_total T V a
 obtain ⟨cb, d1, d2⟩ := great_total T V b
 have hj0 : Ev (fun k => gaugerlaw35_ArkBack.j0 k a b s true T V) true := Ev.one fun k => by rw [gaugerlaw35_ArkBack.j0, if_pos rfl]
 refine Ev.congr (fun k => rfl) (Ev.bind awake_ev (Ev.congr (fun k => if_pos rfl) (Ev.bind c1 ?_)))
 cases ca with
 | true => exact Ev.congr (fun k => if_pos rfl) hj0
 | false =>
  refine Ev.congr (fun k => if_neg (by decide)) (Ev.bind d1 ?_)
  cases cb with
  | true => exact Ev.congr (fun k => if_pos rfl) hj0
  | false =>
   refine Ev.congr (fun k => if_neg (by decide)) ?_
   by_cases hs : (s.size : Int) > 2048
   ·rw [show decide ((s.size : Int) > 2048) = true from decide_eq_true hs]
    exact hj0
   ·rw [show decide ((s.size : Int) > 2048) = false from decide_eq_false hs]
    obtain ⟨la, sa⟩ := c2 rfl
    obtain ⟨lb, sb⟩ := d2 rfl
    have hj1 := arkBack_j1 T V a b la sa lb sb na nb
    obtain ⟨r, r1, r2⟩ := unpack_total T V s (by omega)
    refine Ev.step (f := fun k => (ark_Unpack.f k T V s).bind fun z => if z.2 = 0 then (ark_Pack.f k T V z.1).bind fun p => (if p.2 = 0 then (if p.1.toList = s.toList then gaugerlaw35_ArkBack.j1 k a b T V else some false) else some false) else gaugerlaw35_ArkBack.j1 k a b T V) (fun k => by rw [gaugerlaw35_ArkBack.j0, if_neg (by decide)]) ?_
    refine Ev.bind r1 ?_
    by_cases hr : r.2 = 0
    ·refine Ev.congr (fun k => if_pos hr) (Ev.bind (r2 hr) ?_)
     refine Ev.congr (fun k => if_pos rfl) (Ev.congr (fun k => if_pos rfl) hj1)
    ·exact Ev.congr (fun k => if_neg hr) hj1

theorem okN_of_wf {x : Int} (h : (Lit.int .i64 x).wf = true) : -9223372036854775808 ≤ x ∧ x ≤ 9223372036854775807 := by
 simp [Lit.wf, IntKind.min, IntKind.max, IntKind.signed, IntKind.bits] at h
 exact ⟨by omega, by omega⟩
theorem rVal : Rdr Try.prog 140 k140 (fun v => okN v) :=
 rdr_mono (fun v h => okN_of_wf h.2.1) (rdr_iso (f := fun x : S140 => (x.f0, x.f1, x.f2)) (fun a => ⟨a.1, a.2.1, a.2.2⟩) (fun _ => rfl) (rdr_struct Try.underlying140 (by kernel_rfl) (rdrF_cons rfl (by kernel_rfl) (rdr_int Try.underlying3) (rdrF_cons rfl (by kernel_rfl) (rdr_int Try.underlying3) (rdrF_one rfl (by kernel_rfl) (rdr_string Try.underlying9))))))
theorem rTabs : Rdr Try.prog 80 (Kd.slice 135 (Kd.slice 138 (Kd.slice 140 k140))) (fun l => l.length ≤ maxLen ∧ ∀ x ∈ l, x.length ≤ maxLen ∧ ∀ r ∈ x, r.length ≤ maxLen ∧ ∀ v ∈ r, okN v) :=
 rdr_slice Try.underlying80 (by kernel_rfl) (rdr_slice Try.underlying135 (by kernel_rfl) (rdr_slice Try.underlying138 (by kernel_rfl) rVal))
theorem rIntsA : Rdr Try.prog 57 (Kd.slice 3 (Kd.int .i64)) (fun _ => True) := rdr_mono (fun _ _ => trivial) (rdr_slice Try.underlying57 (by kernel_rfl) (rdr_int Try.underlying3))
theorem rTab : Rdr Try.prog 134 k134 (fun _ => True) :=
 rdr_mono (fun _ _ => trivial) (rdr_iso (f := fun x : S134 => x.f0) (fun a => ⟨a⟩) (fun _ => rfl) (rdr_struct Try.underlying134 (by kernel_rfl) (rdrF_one rfl (by kernel_rfl) rIntsA)))
theorem rVw : Rdr Try.prog 137 k137 (fun _ => True) :=
 rdr_mono (fun _ _ => trivial) (rdr_iso (f := fun x : S137 => (x.f0, x.f1, x.f2)) (fun a => ⟨a.1, a.2.1, a.2.2⟩) (fun _ => rfl) (rdr_struct Try.underlying137 (by kernel_rfl) (rdrF_cons rfl (by kernel_rfl) (rdr_int Try.underlying3) (rdrF_cons rfl (by kernel_rfl) (rdr_int Try.underlying3) (rdrF_one rfl (by kernel_rfl) rIntsA)))))
theorem rPlan : Rdr Try.prog 79 k79 (fun _ => True) :=
 rdr_mono (fun _ _ => trivial) (rdr_iso (f := fun x : S79 => (x.f0, x.f1)) (fun a => ⟨a.1, a.2⟩) (fun _ => rfl) (rdr_struct Try.underlying79 (by kernel_rfl) (rdrF_cons rfl (by kernel_rfl) (rdr_slice Try.underlying76 (by kernel_rfl) rTab) (rdrF_one rfl (by kernel_rfl) (rdr_slice Try.underlying77 (by kernel_rfl) rVw)))))
/-- A struct that came in. -/
theorem rdr_agg {α : Type} {P : Program} {T : TypeId} {d : Kd α} {Q : α → Prop} (hr : Rdr P T d Q) {H : Type} {enc : TypeId × Value → H} {w : World} {base : Nat} {spare : Nat → Bool} {held : Bool} {cs : Array Value} {x : DataW H} {ps : List MemPlace}
  (h : DataW.Trod enc P w base spare held T (.agg cs) x ps) : ∃ a : α, d.K w a cs.toList ∧ Q a := by
 obtain ⟨fuel, hf⟩ := h
 exact hr hf
theorem l_ArkBack (z : S79) (cs : Array Value) (a b : List (List (List S140))) (A1 A2 : Option Addr) (c1 c2 : Nat) (s : ByteArray) (w : World) (K : k79.K w z cs.toList) (C1 : Kd.C (Kd.slice 138 (Kd.slice 140 k140)) w A1 a.length a) (l1 : a.length ≤ c1) (C2 : Kd.C (Kd.slice 138 (Kd.slice 140 k140)) w A2 b.length b) (l2 : b.length ≤ c2)
  (q1 : ∀ x ∈ a, x.length ≤ maxLen ∧ ∀ r ∈ x, r.length ≤ maxLen ∧ ∀ v ∈ r, okN v) (q2 : ∀ x ∈ b, x.length ≤ maxLen ∧ ∀ r ∈ x, r.length ≤ maxLen ∧ ∀ v ∈ r, okN v) :
  Calls Try.prog 9 #[.agg cs, .slice A1 a.length c1, .slice A2 b.length c2, .string s] w fun e w' => e = .returned (.bool true) ∧ Below w.heap.size w w' := by
 obtain ⟨A0, e0, B0, f0, he, h1, h2, h3, h4⟩ := k79_open K
 obtain rfl : cs = #[.slice A0 z.f0.length e0, .slice B0 z.f1.length f0] := by rw [← Array.toArray_toList (xs := cs), he]
 obtain ⟨k, hk⟩ := (arkBack_ev z.f0 z.f1 a b s (fun x hx r hr => ((q1 x hx).2 r hr).2) (fun x hx r hr => ((q2 x hx).2 r hr).2)).rounds
 exact gaugerlaw35_ArkBack.calls k A0 e0 z.f0 B0 f0 z.f1 A1 c1 a A2 c2 b s true w h2 h1 h4 h3 C1 l1 C2 l2 hk
end Go.Proofs.Ytkcckhlchjmkkaa
