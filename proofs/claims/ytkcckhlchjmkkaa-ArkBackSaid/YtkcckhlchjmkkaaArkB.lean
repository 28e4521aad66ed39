/-
 LAYER 17: plan.Good (two closures handed to slices.ContainsFunc), as a contract that the print takes as given.
-/
import Derived.Test.YtkcckhlchjmkkaaArkA
import Derived.Test.YtkcckhlchjmkkaaPArkx2
set_option linter.unusedVariables false
set_option linter.unusedSimpArgs false
namespace Go.Proofs.Ytkcckhlchjmkkaa
open Go.RowKit Go.Proofs.YtkcckhlchjmkkaaW.PrintWords Go.Proofs.YtkcckhlchjmkkaaW.PrintMore Go.Proofs.Ytkcckhlchjmkkaa.PArk

abbrev Tb := S134
abbrev Vw := S137
abbrev kTb := k134
abbrev kVw := k137
/-- A view's sums: rising, of number columns. -/
def sumsOk (cols : List Int) : Int → List Int → Bool
 | _, [] => true
 | last, s :: r => decide (last < s) && (decide (s < (cols.length : Int)) && ((rd cols s == 1) && sumsOk cols s r))
def colsAt (tabs : List Tb) (i : Int) : List Int := (rd_T134 tabs i).f0
def okView (tabs : List Tb) (v : Vw) : Bool :=
 decide (0 ≤ v.f0) && (decide (v.f0 < (tabs.length : Int)) && (decide (v.f2.length ≤ 2) && (sumsOk (colsAt tabs v.f0) (-1) v.f2 && (decide (0 ≤ v.f1) && decide (v.f1 < ((colsAt tabs v.f0).length : Int))))))
theorem Ev.one' {α : Type} {g : Nat → Option α} {r : α} (h : ∀ k, g (k + 1) = some r) : Ev g r := Ev.step h (Ev.now r)
theorem drop_rd (l : List Int) (i : Nat) (h : i < l.length) : l.drop i = rd l (i : Int) :: l.drop (i + 1) := by
 rw [List.drop_eq_getElem_cons h]
 show _ = l.getD i 0 :: _
 rw [List.getD_eq_getElem?_getD, List.getElem?_eq_getElem h]
 rfl
theorem view_l0 (cols sums : List Int) (a b : Int) (q : List Int) (hs : sums.length ≤ 1000) : ∀ (d i : Nat) (last : Int), i + d = sums.length → -1 ≤ last →
  Ev (fun k => plan_isView.l0 k cols last sums (sums.length : Int) (i : Int) a b q) (sumsOk cols last (sums.drop i) && (decide (0 ≤ b) && decide (b < (cols.length : Int))))
 | 0, i, last, h, hl => by
  rw [List.drop_eq_nil_of_le (by omega)]
  refine Ev.one' fun k => ?_
  rw [plan_isView.l0, if_neg (by omega)]
  by_cases hb : b ≥ 0
  ·rw [if_pos hb]; simp [sumsOk, hb]
  ·rw [if_neg hb]; simp [sumsOk, hb]
 | d + 1, i, last, h, hl => by
  have hw : wrap64 ((i : Int) + 1) = ((i + 1 : Nat) : Int) := by unfold wrap64; omega
  rw [drop_rd sums i (by omega), sumsOk]
  have hr : ∀ k, plan_isView.l0 (k + 1) cols last sums (sums.length : Int) (i : Int) a b q = if rd sums (i : Int) ≤ last then some false else if rd sums (i : Int) ≥ (cols.length : Int) then some false else if rd cols (rd sums (i : Int)) = 1 then plan_isView.l0 k cols (rd sums (i : Int)) sums (sums.length : Int) ((i + 1 : Nat) : Int) a b q else some false := by
   intro k
   rw [plan_isView.l0, if_pos (by omega), if_pos (by omega), if_pos (by omega), hw]
   by_cases h1 : rd sums (i : Int) ≤ last
   ·rw [if_pos h1, if_pos h1]
   ·rw [if_neg h1, if_neg h1]
    by_cases h2 : rd sums (i : Int) ≥ (cols.length : Int)
    ·rw [if_pos h2, if_pos h2]
    ·rw [if_neg h2, if_neg h2, if_pos (by omega), if_pos (by omega)]
  by_cases h1 : rd sums (i : Int) ≤ last
  ·refine Ev.one' fun k => ?_
   rw [hr, if_pos h1, decide_eq_false (by omega)]
   rfl
  ·by_cases h2 : rd sums (i : Int) ≥ (cols.length : Int)
   ·refine Ev.one' fun k => ?_
    rw [hr, if_neg h1, if_pos h2, decide_eq_true (by omega), decide_eq_false (by omega : ¬ rd sums (i : Int) < (cols.length : Int))]
    rfl
   ·by_cases h3 : rd cols (rd sums (i : Int)) = 1
    ·have ih := view_l0 cols sums a b q hs d (i + 1) (rd sums (i : Int)) (by omega) (by omega)
     rw [decide_eq_true (by omega), decide_eq_true (by omega : rd sums (i : Int) < (cols.length : Int)), h3]
     refine Ev.step (fun k => ?_) ih
     rw [hr, if_neg h1, if_neg h2, if_pos h3]
    ·refine Ev.one' fun k => ?_
     rw [hr, if_neg h1, if_neg h2, if_neg h3, decide_eq_true (by omega), decide_eq_true (by omega : rd sums (i : Int) < (cols.length : Int)), beq_eq_false_iff_ne.2 h3]
     rfl
theorem ev_isView (tabs : List Tb) (v : Vw) : Ev (fun k => plan_isView.f k v.f0 v.f1 v.f2 tabs) (okView tabs v) := by
 have hT : Ev (fun k => plan_isView.j0 k tabs true v.f0 v.f1 v.f2) false := Ev.one' fun k => by rw [plan_isView.j0, if_pos rfl]
 unfold okView
 by_cases h0 : v.f0 < 0
 ·rw [decide_eq_false (by omega)]
  exact hT.congr (fun k => by unfold plan_isView.f; rw [if_pos h0])
 ·rw [decide_eq_true (by omega)]
  by_cases h1 : v.f0 ≥ (tabs.length : Int)
  ·rw [decide_eq_false (by omega)]
   exact hT.congr (fun k => by unfold plan_isView.f; rw [if_neg h0, if_pos h1])
  ·rw [decide_eq_true (by omega)]
   by_cases h2 : (v.f2.length : Int) > 2
   ·rw [decide_eq_false (by omega)]
    exact hT.congr (fun k => by unfold plan_isView.f; rw [if_neg h0, if_neg h1, decide_eq_true h2])
   ·rw [decide_eq_true (by omega)]
    refine Ev.congr (f := fun k => plan_isView.j0 k tabs false v.f0 v.f1 v.f2) (fun k => by unfold plan_isView.f; rw [if_neg h0, if_neg h1, decide_eq_false h2]) ?_
    have := view_l0 (colsAt tabs v.f0) v.f2 v.f0 v.f1 v.f2 (by omega) v.f2.length 0 (-1) (by omega) (by omega)
    rw [List.drop_zero] at this
    exact Ev.step (fun k => by rw [plan_isView.j0, if_neg (by simp), if_pos (by omega), if_pos (by omega)]; rfl) this
theorem c_isView (tabs : List Tb) (v : Vw) (A A1 : Option Addr) (c c1 : Nat) (w : World) (h : (Kd.int .i64).C w A v.f2.length v.f2) (hc : v.f2.length ≤ c) (h1 : kTb.C w A1 tabs.length tabs) (hc1 : tabs.length ≤ c1) :
  Calls Try.prog 122 #[.agg #[.int .i64 v.f0, .int .i64 v.f1, .slice A v.f2.length c], .slice A1 tabs.length c1] w fun e w' => e = .returned (.bool (okView tabs v)) ∧ Below w.heap.size w w' := by
 obtain ⟨k, hk⟩ := (ev_isView tabs v).rounds
 exact plan_isView.calls k v.f0 v.f1 A c v.f2 A1 c1 tabs _ w h hc h1 hc1 hk
/-! The closures' walks. -/
def badTab (t : Tb) : Bool := !okTab t.f0
def badVw (tabs : List Tb) (v : Vw) : Bool := !okView tabs v
theorem c_good1 (x : Tb) (A : Option Addr) (c : Nat) (w : World) (h : (Kd.int .i64).C w A x.f0.length x.f0) (hc : x.f0.length ≤ c) :
  Calls Try.prog 119 #[.agg #[.slice A x.f0.length c]] w fun e w' => e = .returned (.bool (badTab x)) ∧ Below w.heap.size w w' := by
 have H0 := Lib.hid h
 have HC := Lib.hid hc
 have hm := h.2.1
 clear h hc
 go_enter Try.func119, Try.ntmps119
 go_wp2_with (go_at_call 120; refine (c_isTable x.f0 A c _ (Kd.C_below H0.out (below_alloc (Below.refl _ _) _)) HC.out hm).mono ?_; rintro e w1 ⟨rfl, hb⟩; have HB := Lib.hid (below_step (below_alloc (Below.refl _ _) _) hb); clear hb)
 all_goals
  go_ret
  exact ⟨by simp_all [badTab], HB.out⟩
set_option maxRecDepth 100000 in
theorem c_IndexTable (L : List Tb) (A : Option Addr) (c : Nat) (w : World) (h : kTb.C w A L.length L) (hc : L.length ≤ c) (hm : L.length ≤ 1000) :
  Calls Try.prog 158 #[.slice A L.length c, .func (Fn.func 119) #[] #[]] w fun e w' => ∃ r, e = .returned (.int .i64 r) ∧ Idx (L.any badTab) r ∧ Below w.heap.size w w' := by
 have H0 := Lib.hid h
 have HC := Lib.hid hc
 clear h hc
 have hB : Hid (Below w.heap.size w w) := Below.refl _ _
 go_enter Try.func158, Try.ntmps158
 go_wp2
 go_loopw [8] (fun v wr => ∃ i : Nat, i ≤ L.length ∧ v = .int .i64 i ∧ Hid ((L.take i).any badTab = false) ∧ Hid (Below w.heap.size w wr)) (fun v _ => L.length - (intOf v).toNat)
 case atStart => exact ⟨0, by omega, rfl, Lib.hid rfl, hB⟩
 case round =>
  obtain ⟨i, hi, rfl, HA, HB⟩ := hrel
  by_cases hlt : i < L.length
  ·obtain ⟨ad, A0, c0, rfl, y0, l, g⟩ := at_T134 H0.out i (by omega) (by omega)
   simp only [Int.toNat_natCast] at y0
   replace y0 := (HB.out.cell (World.block_lt_of_cell? w _ y0)).trans y0
   have hsn : (L.take (i + 1)).any badTab = ((L.take i).any badTab || badTab (rd_T134 L i)) := by
    rw [List.take_add_one, List.getElem?_eq_getElem hlt, List.any_append]
    show _ = (_ || badTab (L.getD i _))
    rw [List.getD_eq_getElem?_getD, List.getElem?_eq_getElem hlt]
    simp
   have hmem : badTab (rd_T134 L i) = true → L.any badTab = true := fun hb => List.any_eq_true.2 ⟨rd_T134 L i, by
    show L.getD i _ ∈ L
    rw [List.getD_eq_getElem?_getD, List.getElem?_eq_getElem hlt]
    exact List.getElem_mem _, hb⟩
   rw [HA.out, Bool.false_or] at hsn
   generalize rd_T134 L i = x at *
   have G := Lib.hid g
   have LL := Lib.hid l
   have HSN := Lib.hid hsn
   have HM := Lib.hid hmem
   clear hsn hmem g l
   have W1 : wrap64 ((i : Int) + 1) = i + 1 := by unfold wrap64; omega
   cases hb : badTab x with
   | true =>
    have HBX := Lib.hid hb
    clear hb
    go_wp2_with (go_at_call 119; refine (c_good1 x A0 c0 _ (Kd.C_below G.out HB.out) LL.out).mono ?_; rintro e w1 ⟨rfl, hb⟩; rw [HBX.out]; have hB := Lib.hid (below_step HB.out hb); clear hb)
    go_ret
    exact ⟨_, rfl, Idx.yes (HM.out HBX.out) (by omega), hB.out⟩
   | false =>
    have HBX := Lib.hid hb
    clear hb
    have HLT := Lib.hid hlt
    go_wp2_with (go_at_call 119; refine (c_good1 x A0 c0 _ (Kd.C_below G.out HB.out) LL.out).mono ?_; rintro e w1 ⟨rfl, hb⟩; rw [HBX.out]; have hB := Lib.hid (below_step HB.out hb); clear hb)
    go_roundw
    case rel =>
     try rw [W1]
     exact ⟨i + 1, HLT.out, by rw [Int.natCast_succ], Lib.hid (by rw [HSN.out, HBX.out]), hB⟩
    case measure =>
     try rw [W1]
     show L.length - ((i : Int) + 1).toNat < L.length - (i : Int).toNat
     have := HLT.out
     omega
  ·have hil : i = L.length := by omega
   subst hil
   go_wp2
   go_ret
   have := HA.out
   rw [List.take_length] at this
   exact ⟨_, rfl, Idx.no this (by omega), HB.out⟩
theorem c_ContainsTable (L : List Tb) (A : Option Addr) (c : Nat) (w : World) (h : kTb.C w A L.length L) (hc : L.length ≤ c) (hm : L.length ≤ 1000) :
  Calls Try.prog 123 #[.slice A L.length c, .func (Fn.func 119) #[] #[]] w fun e w' => e = .returned (.bool (L.any badTab)) ∧ Below w.heap.size w w' := by
 have H0 := Lib.hid h
 have HC := Lib.hid hc
 clear h hc
 go_enter Try.func123, Try.ntmps123
 go_wp2_with fail
 refine (c_IndexTable L A c w H0.out HC.out hm).mono ?_
 rintro e w1 ⟨r, rfl, hr, hb⟩
 have HB := Lib.hid hb
 clear hb
 cases ha : L.any badTab with
 | true =>
  rw [ha] at hr
  have hd : decide (0 ≤ r) = true := decide_eq_true hr.t
  have HA := Lib.hid ha
  clear hr ha
  go_wp2
  go_ret
  exact ⟨by rw [← HA.out]; simp, HB.out⟩
 | false =>
  rw [ha] at hr
  have hd : decide (0 ≤ r) = false := decide_eq_false (by have := hr.f; omega)
  have HA := Lib.hid ha
  clear hr ha
  go_wp2
  go_ret
  exact ⟨by rw [← HA.out]; simp, HB.out⟩
theorem c_good2 (tabs : List Tb) (A1 A2 : Option Addr) (c1 c2 n2 gp : Nat) (x : Vw) (A : Option Addr) (c : Nat) (w : World) (hp : w.heap[gp]? = some (.cells #[.slice A1 tabs.length c1, .slice A2 n2 c2] 79 (0, 0))) (ht : kTb.C w A1 tabs.length tabs) (ht1 : tabs.length ≤ c1) (h : (Kd.int .i64).C w A x.f2.length x.f2) (hc : x.f2.length ≤ c) :
  Calls Try.prog 121 #[.agg #[.int .i64 x.f0, .int .i64 x.f1, .slice A x.f2.length c], .pointer (some ⟨gp, 0, none⟩)] w fun e w' => e = .returned (.bool (badVw tabs x)) ∧ Below w.heap.size w w' := by
 have H0 := Lib.hid h
 have HC := Lib.hid hc
 have HT := Lib.hid ht
 have HT1 := Lib.hid ht1
 have p0 : (w.alloc (.cells #[.int .i64 x.f0, .int .i64 x.f1, .slice A x.f2.length c] 137)).cell? ⟨gp, 0, none⟩ = some (.slice A1 tabs.length c1) := (blk_cell (blk_alloc hp _) 0).trans rfl
 clear h hc hp ht ht1
 go_enter Try.func121, Try.ntmps121
 go_wp2_with (go_at_call 122; refine (c_isView tabs x A A1 c c1 _ (Kd.C_below H0.out (below_alloc (Below.refl _ _) _)) HC.out (Kd.C_below HT.out (below_alloc (Below.refl _ _) _)) HT1.out).mono ?_; rintro e w1 ⟨rfl, hb⟩; have HB := Lib.hid (below_step (below_alloc (Below.refl _ _) _) hb); clear hb)
 all_goals
  go_ret
  exact ⟨by simp_all [badVw], HB.out⟩
set_option maxRecDepth 100000 in
theorem c_IndexView (tabs : List Tb) (A1 A2 : Option Addr) (c1 c2 n2 gp : Nat) (L : List Vw) (A : Option Addr) (c : Nat) (w : World) (hp : w.heap[gp]? = some (.cells #[.slice A1 tabs.length c1, .slice A2 n2 c2] 79 (0, 0))) (ht : kTb.C w A1 tabs.length tabs) (ht1 : tabs.length ≤ c1) (h : kVw.C w A L.length L) (hc : L.length ≤ c) (hm : L.length ≤ 1000) :
  Calls Try.prog 159 #[.slice A L.length c, .func (Fn.func 121) #[] #[.pointer (some ⟨gp, 0, none⟩)]] w fun e w' => ∃ r, e = .returned (.int .i64 r) ∧ Idx (L.any (badVw tabs)) r ∧ Below w.heap.size w w' := by
 have H0 := Lib.hid h
 have HC := Lib.hid hc
 clear h hc
 have hB : Hid (Below w.heap.size w w) := Below.refl _ _
 have HP := Lib.hid hp
 have HT := Lib.hid ht
 have HT1 := Lib.hid ht1
 clear hp ht ht1
 go_enter Try.func159, Try.ntmps159
 go_wp2
 go_loopw [8] (fun v wr => ∃ i : Nat, i ≤ L.length ∧ v = .int .i64 i ∧ Hid ((L.take i).any (badVw tabs) = false) ∧ Hid (Below w.heap.size w wr)) (fun v _ => L.length - (intOf v).toNat)
 case atStart => exact ⟨0, by omega, rfl, Lib.hid rfl, hB⟩
 case round =>
  obtain ⟨i, hi, rfl, HA, HB⟩ := hrel
  by_cases hlt : i < L.length
  ·obtain ⟨ad, A0, c0, rfl, y0, y1, y2, l, g⟩ := at_T137 H0.out i (by omega) (by omega)
   simp only [Int.toNat_natCast] at y0 y1 y2
   replace y0 := (HB.out.cell (World.block_lt_of_cell? w _ y0)).trans y0
   replace y1 := (HB.out.cell (World.block_lt_of_cell? w _ y1)).trans y1
   replace y2 := (HB.out.cell (World.block_lt_of_cell? w _ y2)).trans y2
   have hsn : (L.take (i + 1)).any (badVw tabs) = ((L.take i).any (badVw tabs) || (badVw tabs) (rd_T137 L i)) := by
    rw [List.take_add_one, List.getElem?_eq_getElem hlt, List.any_append]
    show _ = (_ || (badVw tabs) (L.getD i _))
    rw [List.getD_eq_getElem?_getD, List.getElem?_eq_getElem hlt]
    simp
   have hmem : (badVw tabs) (rd_T137 L i) = true → L.any (badVw tabs) = true := fun hb => List.any_eq_true.2 ⟨rd_T137 L i, by
    show L.getD i _ ∈ L
    rw [List.getD_eq_getElem?_getD, List.getElem?_eq_getElem hlt]
    exact List.getElem_mem _, hb⟩
   rw [HA.out, Bool.false_or] at hsn
   generalize rd_T137 L i = x at *
   have G := Lib.hid g
   have LL := Lib.hid l
   have HSN := Lib.hid hsn
   have HM := Lib.hid hmem
   clear hsn hmem g l
   have W1 : wrap64 ((i : Int) + 1) = i + 1 := by unfold wrap64; omega
   cases hb : (badVw tabs) x with
   | true =>
    have HBX := Lib.hid hb
    clear hb
    go_wp2_with (go_at_call 121; refine (c_good2 tabs A1 A2 c1 c2 n2 gp x A0 c0 _ (blk_below HP.out HB.out) (Kd.C_below HT.out HB.out) HT1.out (Kd.C_below G.out HB.out) LL.out).mono ?_; rintro e w1 ⟨rfl, hb⟩; rw [HBX.out]; have hB := Lib.hid (below_step HB.out hb); clear hb)
    go_ret
    exact ⟨_, rfl, Idx.yes (HM.out HBX.out) (by omega), hB.out⟩
   | false =>
    have HBX := Lib.hid hb
    clear hb
    have HLT := Lib.hid hlt
    go_wp2_with (go_at_call 121; refine (c_good2 tabs A1 A2 c1 c2 n2 gp x A0 c0 _ (blk_below HP.out HB.out) (Kd.C_below HT.out HB.out) HT1.out (Kd.C_below G.out HB.out) LL.out).mono ?_; rintro e w1 ⟨rfl, hb⟩; rw [HBX.out]; have hB := Lib.hid (below_step HB.out hb); clear hb)
    go_roundw
    case rel =>
     try rw [W1]
     exact ⟨i + 1, HLT.out, by rw [Int.natCast_succ], Lib.hid (by rw [HSN.out, HBX.out]), hB⟩
    case measure =>
     try rw [W1]
     show L.length - ((i : Int) + 1).toNat < L.length - (i : Int).toNat
     have := HLT.out
     omega
  ·have hil : i = L.length := by omega
   subst hil
   go_wp2
   go_ret
   have := HA.out
   rw [List.take_length] at this
   exact ⟨_, rfl, Idx.no this (by omega), HB.out⟩
theorem c_ContainsView (tabs : List Tb) (A1 A2 : Option Addr) (c1 c2 n2 gp : Nat) (L : List Vw) (A : Option Addr) (c : Nat) (w : World) (hp : w.heap[gp]? = some (.cells #[.slice A1 tabs.length c1, .slice A2 n2 c2] 79 (0, 0))) (ht : kTb.C w A1 tabs.length tabs) (ht1 : tabs.length ≤ c1) (h : kVw.C w A L.length L) (hc : L.length ≤ c) (hm : L.length ≤ 1000) :
  Calls Try.prog 124 #[.slice A L.length c, .func (Fn.func 121) #[] #[.pointer (some ⟨gp, 0, none⟩)]] w fun e w' => e = .returned (.bool (L.any (badVw tabs))) ∧ Below w.heap.size w w' := by
 have H0 := Lib.hid h
 have HC := Lib.hid hc
 clear h hc
 have HP := Lib.hid hp
 have HT := Lib.hid ht
 have HT1 := Lib.hid ht1
 clear hp ht ht1
 go_enter Try.func124, Try.ntmps124
 go_wp2_with fail
 refine (c_IndexView tabs A1 A2 c1 c2 n2 gp L A c w HP.out HT.out HT1.out H0.out HC.out hm).mono ?_
 rintro e w1 ⟨r, rfl, hr, hb⟩
 have HB := Lib.hid hb
 clear hb
 cases ha : L.any (badVw tabs) with
 | true =>
  rw [ha] at hr
  have hd : decide (0 ≤ r) = true := decide_eq_true hr.t
  have HA := Lib.hid ha
  clear hr ha
  go_wp2
  go_ret
  exact ⟨by rw [← HA.out]; simp, HB.out⟩
 | false =>
  rw [ha] at hr
  have hd : decide (0 ≤ r) = false := decide_eq_false (by have := hr.f; omega)
  have HA := Lib.hid ha
  clear hr ha
  go_wp2
  go_ret
  exact ⟨by rw [← HA.out]; simp, HB.out⟩
/-- Whether a plan can be. -/
def okPlan (T : List Tb) (V : List Vw) : Bool := decide (1 ≤ T.length) && (decide (T.length ≤ 3) && (decide (V.length ≤ 4) && (!T.any badTab && !V.any (badVw T))))
set_option maxRecDepth 100000 in
theorem c_planGood (T : List Tb) (V : List Vw) (A0 A1 : Option Addr) (c0 c1 : Nat) (w : World) (h0 : kTb.C w A0 T.length T) (hc0 : T.length ≤ c0) (h1 : kVw.C w A1 V.length V) (hc1 : V.length ≤ c1) :
  Calls Try.prog 84 #[.agg #[.slice A0 T.length c0, .slice A1 V.length c1]] w fun e w' => e = .returned (.bool (okPlan T V)) ∧ Below w.heap.size w w' := by
 have hm0 := h0.2.1
 have hm1 := h1.2.1
 have H0 := Lib.hid h0
 have H1 := Lib.hid h1
 have HC0 := Lib.hid hc0
 have HC1 := Lib.hid hc1
 clear h0 h1 hc0 hc1
 unfold okPlan
 by_cases a1 : 1 ≤ T.length
 ·by_cases a2 : T.length ≤ 3
  ·by_cases a3 : V.length ≤ 4
   ·have d1 : decide (T.length < 1) = false := decide_eq_false (by omega)
    have d2 : decide ((T.length : Int) < 1) = false := decide_eq_false (by omega)
    have d3 : decide (3 < T.length) = false := decide_eq_false (by omega)
    have d4 : decide (3 < (T.length : Int)) = false := decide_eq_false (by omega)
    have d5 : decide (4 < V.length) = false := decide_eq_false (by omega)
    have d6 : decide (4 < (V.length : Int)) = false := decide_eq_false (by omega)
    rw [decide_eq_true a1, decide_eq_true a2, decide_eq_true a3]
    have l1 : T.length ≤ 1000 := by omega
    have l2 : V.length ≤ 1000 := by omega
    clear a1 a2 a3
    have hB : Hid (Below w.heap.size w (w.alloc (.cells #[.slice A0 T.length c0, .slice A1 V.length c1] 79))) := below_alloc (Below.refl _ _) _
    have k1 := heap_alloc_new w (.cells #[.slice A0 T.length c0, .slice A1 V.length c1] 79)
    have K1 := Lib.hid k1
    clear k1
    cases hx : T.any badTab with
    | true =>
     have HX := Lib.hid hx
     clear hx
     go_enter Try.func84, Try.ntmps84
     go_wp2_with (go_at_call 123; refine (c_ContainsTable T A0 c0 _ (Kd.C_below H0.out hB.out) HC0.out l1).mono ?_; rintro e w1 ⟨rfl, hb⟩; rw [HX.out]; have hB := Lib.hid (below_step hB.out hb); clear hb)
     go_ret
     exact ⟨by simp, hB.out⟩
    | false =>
     have HX := Lib.hid hx
     clear hx
     go_enter Try.func84, Try.ntmps84
     go_wp2_with fail
     refine (c_ContainsTable T A0 c0 _ (Kd.C_below H0.out hB.out) HC0.out l1).mono ?_
     rintro e w1 ⟨rfl, hb⟩
     rw [HX.out]
     have hB := Lib.hid (below_step hB.out hb)
     have k1 := blk_below K1.out hb
     have p0 : w1.cell? ⟨w.heap.size, 0, none⟩ = some (.slice A0 T.length c0) := (blk_cell k1 0).trans rfl
     have p1 : w1.cell? ⟨w.heap.size, 1, none⟩ = some (.slice A1 V.length c1) := (blk_cell k1 1).trans rfl
     have K1 := Lib.hid k1
     clear hb k1
     go_wp2_with fail
     refine (c_ContainsView T A0 A1 c0 c1 V.length w.heap.size V A1 c1 _ K1.out (Kd.C_below H0.out hB.out) HC0.out (Kd.C_below H1.out hB.out) HC1.out l2).mono ?_
     rintro e w2 ⟨rfl, hb⟩
     have hB := Lib.hid (below_step hB.out hb)
     clear hb
     cases hx2 : V.any (badVw T) with
     | true =>
      have HX2 := Lib.hid hx2
      clear hx2
      go_wp2
      go_ret
      exact ⟨by rw [HX2.out]; simp, hB.out⟩
     | false =>
      have HX2 := Lib.hid hx2
      clear hx2
      go_wp2
      go_ret
      exact ⟨by rw [HX2.out]; simp, hB.out⟩
   ·have d1 : decide (T.length < 1) = false := decide_eq_false (by omega)
    have d2 : decide ((T.length : Int) < 1) = false := decide_eq_false (by omega)
    have d3 : decide (3 < T.length) = false := decide_eq_false (by omega)
    have d4 : decide (3 < (T.length : Int)) = false := decide_eq_false (by omega)
    have d5 : decide (4 < V.length) = true := decide_eq_true (by omega)
    have d6 : decide (4 < (V.length : Int)) = true := decide_eq_true (by omega)
    rw [decide_eq_true a1, decide_eq_true a2, decide_eq_false a3]
    go_enter Try.func84, Try.ntmps84
    go_wp2
    go_ret
    exact ⟨rfl, below_alloc (Below.refl _ _) _⟩
  ·have d1 : decide (T.length < 1) = false := decide_eq_false (by omega)
   have d2 : decide ((T.length : Int) < 1) = false := decide_eq_false (by omega)
   have d3 : decide (3 < T.length) = true := decide_eq_true (by omega)
   have d4 : decide (3 < (T.length : Int)) = true := decide_eq_true (by omega)
   rw [decide_eq_true a1, decide_eq_false a2]
   go_enter Try.func84, Try.ntmps84
   go_wp2
   go_ret
   exact ⟨rfl, below_alloc (Below.refl _ _) _⟩
 ·have d1 : decide (T.length < 1) = true := decide_eq_true (by omega)
  have d2 : decide ((T.length : Int) < 1) = true := decide_eq_true (by omega)
  rw [decide_eq_false a1]
  go_enter Try.func84, Try.ntmps84
  go_wp2
  go_ret
  exact ⟨rfl, below_alloc (Below.refl _ _) _⟩
namespace PArk
def plan_Good.f (l0_0 : List S134) (l0_1 : List S137) : Option Bool := some (okPlan l0_0 l0_1)
theorem plan_Good.calls (A0_0 : Option Addr) (c0_0 : Nat) (l0_0 : List S134) (A0_1 : Option Addr) (c0_1 : Nat) (l0_1 : List S137) (r : Bool) (w : World) (hr0_0 : Kd.C k134 w A0_0 l0_0.length l0_0) (hc0_0 : l0_0.length ≤ c0_0) (hr0_1 : Kd.C k137 w A0_1 l0_1.length l0_1) (hc0_1 : l0_1.length ≤ c0_1) (h : plan_Good.f l0_0 l0_1 = some r) :
  Calls Try.prog 84 #[.agg #[.slice A0_0 l0_0.length c0_0, .slice A0_1 l0_1.length c0_1]] w fun e w' => e = .returned (.bool r) ∧ Below w.heap.size w w' := by
 injection h with h
 subst h
 exact c_planGood l0_0 l0_1 A0_0 A0_1 c0_0 c0_1 w hr0_0 hc0_0 hr0_1 hc0_1
end PArk
end Go.Proofs.Ytkcckhlchjmkkaa
