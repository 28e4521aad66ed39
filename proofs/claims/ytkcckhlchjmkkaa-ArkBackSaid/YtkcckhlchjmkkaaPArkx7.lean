-- PRINTED by print.py, called for this group
import Derived.Test.YtkcckhlchjmkkaaPArkx0
namespace Go.Proofs.Ytkcckhlchjmkkaa.PArk
open Go.RowKit Go.Proofs.YtkcckhlchjmkkaaW.PrintWords Go.Proofs.YtkcckhlchjmkkaaW.PrintLast Go.Proofs.YtkcckhlchjmkkaaW.PrintMore
attribute [local go_sem] max2_int min2_int max_two min_two max_three min_three max_four min_four   -- for this text's walks alone
set_option linter.unusedVariables false
set_option linter.unusedSimpArgs false

/-! ### gaugerlaw35_great: function 36 -/
mutual
def gaugerlaw35_great.j0 : Nat → List (List (List (S140))) → Bool → List (S134) → List (S137) → Option (Bool)
 | 0, _, _, _, _ => none
 | k + 1, x1, x24, x171000, x171001 => if x24 = true then (some true) else (gaugerlaw35_great.l0 k x1 0 x171000 x171001)
def gaugerlaw35_great.l0 : Nat → List (List (List (S140))) → Int → List (S134) → List (S137) → Option (Bool)
 | 0, _, _, _, _ => none
 | k + 1, x1, x5, x171000, x171001 => if x5 < (x171000.length : Int) then (if 0 ≤ x5 then (if (((rd_T134 x171000 x5).f0).length : Int) > 10 then (some true) else (gaugerlaw35_great.l0 k x1 (wrap64 (x5 + 1)) x171000 x171001)) else (none)) else (gaugerlaw35_great.l1 k x1 0 x171000 x171001)
def gaugerlaw35_great.l1 : Nat → List (List (List (S140))) → Int → List (S134) → List (S137) → Option (Bool)
 | 0, _, _, _, _ => none
 | k + 1, x1, x6, x171000, x171001 => if x6 < (x171001.length : Int) then (if 0 ≤ x6 then (if (((rd_T137 x171001 x6).f2).length : Int) > 10 then (some true) else (gaugerlaw35_great.l1 k x1 (wrap64 (x6 + 1)) x171000 x171001)) else (none)) else (gaugerlaw35_great.l2 k x1 0)
def gaugerlaw35_great.l2 : Nat → List (List (List (S140))) → Int → Option (Bool)
 | 0, _, _ => none
 | k + 1, x1, x7 => if x7 < (x1.length : Int) then (if 0 ≤ x7 then (if ((rd_L11 x1 x7).length : Int) > 60 then (some true) else (gaugerlaw35_great.l3 k x1 x7 0)) else (none)) else (some false)
def gaugerlaw35_great.l3 : Nat → List (List (List (S140))) → Int → Int → Option (Bool)
 | 0, _, _, _ => none
 | k + 1, x1, x7, x8 => if 0 ≤ x7 then (if x7 < (x1.length : Int) then (if x8 < ((rd_L11 x1 x7).length : Int) then (if 0 ≤ x8 then (if ((rd_L10 (rd_L11 x1 x7) x8).length : Int) > 8 then (some true) else (gaugerlaw35_great.l4 k x1 x7 x8 0)) else (none)) else (gaugerlaw35_great.l2 k x1 (wrap64 (x7 + 1)))) else (none)) else (none)
def gaugerlaw35_great.l4 : Nat → List (List (List (S140))) → Int → Int → Int → Option (Bool)
 | 0, _, _, _, _ => none
 | k + 1, x1, x7, x8, x9 => if 0 ≤ x7 then (if x7 < (x1.length : Int) then (if 0 ≤ x8 then (if x8 < ((rd_L11 x1 x7).length : Int) then (if x9 < ((rd_L10 (rd_L11 x1 x7) x8).length : Int) then (if 0 ≤ x9 then (if (((rd_T140 (rd_L10 (rd_L11 x1 x7) x8) x9).f2).size : Int) > 60 then (some true) else (gaugerlaw35_great.l4 k x1 x7 x8 (wrap64 (x9 + 1)))) else (none)) else (gaugerlaw35_great.l3 k x1 x7 (wrap64 (x8 + 1)))) else (none)) else (none)) else (none)) else (none)
end
def gaugerlaw35_great.f (k : Nat) (l0_0 : List (S134)) (l0_1 : List (S137)) (l1 : List (List (List (S140)))) : Option (Bool) := if (l0_0.length : Int) > 6 then (gaugerlaw35_great.j0 k l1 true l0_0 l0_1) else (if (l0_1.length : Int) > 8 then (gaugerlaw35_great.j0 k l1 true l0_0 l0_1) else (gaugerlaw35_great.j0 k l1 (decide ((l1.length : Int) > 6)) l0_0 l0_1))
theorem gaugerlaw35_great.mono_l : ∀ k, (∀ y0 y1 y2 y3, LeO (gaugerlaw35_great.j0 k y0 y1 y2 y3) (gaugerlaw35_great.j0 (k + 1) y0 y1 y2 y3)) ∧ (∀ y0 y1 y2 y3, LeO (gaugerlaw35_great.l0 k y0 y1 y2 y3) (gaugerlaw35_great.l0 (k + 1) y0 y1 y2 y3)) ∧ (∀ y0 y1 y2 y3, LeO (gaugerlaw35_great.l1 k y0 y1 y2 y3) (gaugerlaw35_great.l1 (k + 1) y0 y1 y2 y3)) ∧ (∀ y0 y1, LeO (gaugerlaw35_great.l2 k y0 y1) (gaugerlaw35_great.l2 (k + 1) y0 y1)) ∧ (∀ y0 y1 y2, LeO (gaugerlaw35_great.l3 k y0 y1 y2) (gaugerlaw35_great.l3 (k + 1) y0 y1 y2)) ∧ (∀ y0 y1 y2 y3, LeO (gaugerlaw35_great.l4 k y0 y1 y2 y3) (gaugerlaw35_great.l4 (k + 1) y0 y1 y2 y3))
 | 0 => ⟨fun _ _ _ _ r h => by simp [gaugerlaw35_great.j0] at h, fun _ _ _ _ r h => by simp [gaugerlaw35_great.l0] at h, fun _ _ _ _ r h => by simp [gaugerlaw35_great.l1] at h, fun _ _ r h => by simp [gaugerlaw35_great.l2] at h, fun _ _ _ r h => by simp [gaugerlaw35_great.l3] at h, fun _ _ _ _ r h => by simp [gaugerlaw35_great.l4] at h⟩
 | k + 1 => by
  obtain ⟨ih0, ih1, ih2, ih3, ih4, ih5⟩ := gaugerlaw35_great.mono_l k
  refine ⟨?_, ?_, ?_, ?_, ?_, ?_⟩
  ·intro y0 y1 y2 y3
   unfold gaugerlaw35_great.j0
   repeat' first
   | (with_reducible exact ih0 _ _ _ _)
   | (with_reducible exact ih1 _ _ _ _)
   | (with_reducible exact ih2 _ _ _ _)
   | (with_reducible exact ih3 _ _)
   | (with_reducible exact ih4 _ _ _)
   | (with_reducible exact ih5 _ _ _ _)
   | (with_reducible exact LeO.refl _)
   | (with_reducible exact LeO.none _)
   | (with_reducible refine LeO.ite ?_ ?_)
   | (with_reducible refine LeO.bind ?_ (fun _ => ?_))
   | exact ih0 _ _ _ _
   | exact ih1 _ _ _ _
   | exact ih2 _ _ _ _
   | exact ih3 _ _
   | exact ih4 _ _ _
   | exact ih5 _ _ _ _
   | exact LeO.none _
   | refine LeO.ite ?_ ?_
   | refine LeO.bind ?_ (fun _ => ?_)
  ·intro y0 y1 y2 y3
   unfold gaugerlaw35_great.l0
   repeat' first
   | (with_reducible exact ih0 _ _ _ _)
   | (with_reducible exact ih1 _ _ _ _)
   | (with_reducible exact ih2 _ _ _ _)
   | (with_reducible exact ih3 _ _)
   | (with_reducible exact ih4 _ _ _)
   | (with_reducible exact ih5 _ _ _ _)
   | (with_reducible exact LeO.refl _)
   | (with_reducible exact LeO.none _)
   | (with_reducible refine LeO.ite ?_ ?_)
   | (with_reducible refine LeO.bind ?_ (fun _ => ?_))
   | exact ih0 _ _ _ _
   | exact ih1 _ _ _ _
   | exact ih2 _ _ _ _
   | exact ih3 _ _
   | exact ih4 _ _ _
   | exact ih5 _ _ _ _
   | exact LeO.none _
   | refine LeO.ite ?_ ?_
   | refine LeO.bind ?_ (fun _ => ?_)
  ·intro y0 y1 y2 y3
   unfold gaugerlaw35_great.l1
   repeat' first
   | (with_reducible exact ih0 _ _ _ _)
   | (with_reducible exact ih1 _ _ _ _)
   | (with_reducible exact ih2 _ _ _ _)
   | (with_reducible exact ih3 _ _)
   | (with_reducible exact ih4 _ _ _)
   | (with_reducible exact ih5 _ _ _ _)
   | (with_reducible exact LeO.refl _)
   | (with_reducible exact LeO.none _)
   | (with_reducible refine LeO.ite ?_ ?_)
   | (with_reducible refine LeO.bind ?_ (fun _ => ?_))
   | exact ih0 _ _ _ _
   | exact ih1 _ _ _ _
   | exact ih2 _ _ _ _
   | exact ih3 _ _
   | exact ih4 _ _ _
   | exact ih5 _ _ _ _
   | exact LeO.none _
   | refine LeO.ite ?_ ?_
   | refine LeO.bind ?_ (fun _ => ?_)
  ·intro y0 y1
   unfold gaugerlaw35_great.l2
   repeat' first
   | (with_reducible exact ih0 _ _ _ _)
   | (with_reducible exact ih1 _ _ _ _)
   | (with_reducible exact ih2 _ _ _ _)
   | (with_reducible exact ih3 _ _)
   | (with_reducible exact ih4 _ _ _)
   | (with_reducible exact ih5 _ _ _ _)
   | (with_reducible exact LeO.refl _)
   | (with_reducible exact LeO.none _)
   | (with_reducible refine LeO.ite ?_ ?_)
   | (with_reducible refine LeO.bind ?_ (fun _ => ?_))
   | exact ih0 _ _ _ _
   | exact ih1 _ _ _ _
   | exact ih2 _ _ _ _
   | exact ih3 _ _
   | exact ih4 _ _ _
   | exact ih5 _ _ _ _
   | exact LeO.none _
   | refine LeO.ite ?_ ?_
   | refine LeO.bind ?_ (fun _ => ?_)
  ·intro y0 y1 y2
   unfold gaugerlaw35_great.l3
   repeat' first
   | (with_reducible exact ih0 _ _ _ _)
   | (with_reducible exact ih1 _ _ _ _)
   | (with_reducible exact ih2 _ _ _ _)
   | (with_reducible exact ih3 _ _)
   | (with_reducible exact ih4 _ _ _)
   | (with_reducible exact ih5 _ _ _ _)
   | (with_reducible exact LeO.refl _)
   | (with_reducible exact LeO.none _)
   | (with_reducible refine LeO.ite ?_ ?_)
   | (with_reducible refine LeO.bind ?_ (fun _ => ?_))
   | exact ih0 _ _ _ _
   | exact ih1 _ _ _ _
   | exact ih2 _ _ _ _
   | exact ih3 _ _
   | exact ih4 _ _ _
   | exact ih5 _ _ _ _
   | exact LeO.none _
   | refine LeO.ite ?_ ?_
   | refine LeO.bind ?_ (fun _ => ?_)
  ·intro y0 y1 y2 y3
   unfold gaugerlaw35_great.l4
   repeat' first
   | (with_reducible exact ih0 _ _ _ _)
   | (with_reducible exact ih1 _ _ _ _)
   | (with_reducible exact ih2 _ _ _ _)
   | (with_reducible exact ih3 _ _)
   | (with_reducible exact ih4 _ _ _)
   | (with_reducible exact ih5 _ _ _ _)
   | (with_reducible exact LeO.refl _)
   | (with_reducible exact LeO.none _)
   | (with_reducible refine LeO.ite ?_ ?_)
   | (with_reducible refine LeO.bind ?_ (fun _ => ?_))
   | exact ih0 _ _ _ _
   | exact ih1 _ _ _ _
   | exact ih2 _ _ _ _
   | exact ih3 _ _
   | exact ih4 _ _ _
   | exact ih5 _ _ _ _
   | exact LeO.none _
   | refine LeO.ite ?_ ?_
   | refine LeO.bind ?_ (fun _ => ?_)
theorem gaugerlaw35_great.mono : ∀ a0 a1 a2 k, LeO (gaugerlaw35_great.f k a0 a1 a2) (gaugerlaw35_great.f (k + 1) a0 a1 a2) := by
 intro a0 a1 a2 k
 obtain ⟨ih0, ih1, ih2, ih3, ih4, ih5⟩ := gaugerlaw35_great.mono_l k
 unfold gaugerlaw35_great.f
 repeat' first
   | (with_reducible exact ih0 _ _ _ _)
   | (with_reducible exact ih1 _ _ _ _)
   | (with_reducible exact ih2 _ _ _ _)
   | (with_reducible exact ih3 _ _)
   | (with_reducible exact ih4 _ _ _)
   | (with_reducible exact ih5 _ _ _ _)
   | (with_reducible exact LeO.refl _)
   | (with_reducible exact LeO.none _)
   | (with_reducible refine LeO.ite ?_ ?_)
   | (with_reducible refine LeO.bind ?_ (fun _ => ?_))
   | exact ih0 _ _ _ _
   | exact ih1 _ _ _ _
   | exact ih2 _ _ _ _
   | exact ih3 _ _
   | exact ih4 _ _ _
   | exact ih5 _ _ _ _
   | exact LeO.none _
   | refine LeO.ite ?_ ?_
   | refine LeO.bind ?_ (fun _ => ?_)
set_option maxHeartbeats 8000000 in
set_option maxRecDepth 100000 in
theorem gaugerlaw35_great.calls (k : Nat) (A0_0 : Option Addr) (c0_0 : Nat) (l0_0 : List (S134)) (A0_1 : Option Addr) (c0_1 : Nat) (l0_1 : List (S137)) (A1 : Option Addr) (c1 : Nat) (l1 : List (List (List (S140)))) (r : Bool) (w : World) (hr0_0 : Kd.C k134 w A0_0 l0_0.length l0_0) (hc0_0 : l0_0.length ≤ c0_0) (hr0_1 : Kd.C k137 w A0_1 l0_1.length l0_1) (hc0_1 : l0_1.length ≤ c0_1) (hr1 : Kd.C (Kd.slice 138 (Kd.slice 140 k140)) w A1 l1.length l1) (hc1 : l1.length ≤ c1) (h : gaugerlaw35_great.f k l0_0 l0_1 l1 = some r) :
  Calls Try.prog 36 #[.agg #[.slice A0_0 l0_0.length c0_0, .slice A0_1 l0_1.length c0_1], .slice A1 l1.length c1] w fun e w' => e = .returned (.bool r) ∧ Below w.heap.size w w' := by
 have hu79 := Try.underlying79
 have HR0_0 := Aside0.mk hr0_0
 have HC0_0 := Aside0.mk hc0_0
 clear hr0_0 hc0_0
 have HR0_1 := Aside0.mk hr0_1
 have HC0_1 := Aside0.mk hc0_1
 clear hr0_1 hc0_1
 have HR1 := Aside0.mk hr1
 have HC1 := Aside0.mk hc1
 clear hr1 hc1
 have HB := Aside0.mk (Below.refl w.heap.size w)
 have H : (if (l0_0.length : Int) > 6 then (gaugerlaw35_great.j0 k l1 true l0_0 l0_1) else (if (l0_1.length : Int) > 8 then (gaugerlaw35_great.j0 k l1 true l0_0 l0_1) else (gaugerlaw35_great.j0 k l1 (decide ((l1.length : Int) > 6)) l0_0 l0_1))) = some r := h
 clear h
 have HC3 := Aside0.mk H
 clear H
 go_enter Try.func36, Try.ntmps36
 go_upto_region 1 with (first | ((with_reducible refine gate_dst (N := 2) rfl ?_); (try (refine gate_guard (by rfl) ?_; dsimp only)); refine box_event ?hg (N := 2) ?hd (cs := #[.slice A0_0 l0_0.length c0_0, .slice A0_1 l0_1.length c0_1]) (t := 79) ?hr ?_; (case hd => rfl); (case hg => rfl); (case hr => first | (go_simp; done) | (go_simp; rfl)); intro gb170 hg w4 hbox hb; have n0_ := Aside0.mk (below_step (by repeat (first | (with_reducible first | exact HB.out | apply below_alloc | apply pw_below_drewN | apply below_drew1) | exact HB.out)) hb); have n1_ := Aside0.mk (hbox); have n2_ := Aside0.mk ((by rw [hg]; exact (below_size (by repeat (first | (with_reducible first | exact HB.out | apply below_alloc | apply pw_below_drewN | apply below_drew1) | exact HB.out))) : w.heap.size ≤ gb170)); have n3_ := Aside0.mk ((by rw [hg]; exact (below_size (by repeat (first | (with_reducible first | exact HB.out | apply below_alloc | apply pw_below_drewN | apply below_drew1) | exact HB.out))) : w.heap.size ≤ gb170)); clear HB; have HB := n0_; have BK170 := n1_; have GW170 := n2_; have GE170 := n3_; clear n0_ n1_ n2_ n3_; clear hb hbox hg))
 (try simp only [Act.put, List.setIfInBounds_toArray, List.set_cons_zero, List.set_cons_succ])
 go_cut [24] (fun v24 wc => ∃ (kq : Nat) (x24_2 : Bool), v24 = .bool x24_2 ∧ Aside0 (gaugerlaw35_great.j0 kq l1 x24_2 l0_0 l0_1 = some r) ∧ Aside0 (kq ≤ k) ∧ Aside0 (wc.heap[gb170]? = some (.cells #[(.slice A0_0 l0_0.length c0_0), (.slice A0_1 l0_1.length c0_1)] 79 (0, 0))) ∧ Aside0 (Below w.heap.size w wc))
 case first =>
  have H := HC3.out
  clear HC3
  by_cases c5 : (l0_0.length : Int) > 6
  ·rw [if_pos c5] at H
   have c5b0 : decide (6 < (l0_0.length : Int)) = true := decide_eq_true c5
   have c5b1 : decide (6 < l0_0.length) = true := decide_eq_true (by omega)
   clear c5
   (first | rw [c5b0] | (simp only [i64_w, i32_w]; rw [c5b0]) | skip)
   have H' := Aside0.mk H
   clear H
   have hcz6_0 : w4.cell? ⟨gb170, 0, none⟩ = some (.slice A0_0 l0_0.length c0_0) := (blk_cell BK170.out 0).trans rfl
   have hcz6_1 : w4.cell? ⟨gb170, 1, none⟩ = some (.slice A0_1 l0_1.length c0_1) := (blk_cell BK170.out 1).trans rfl
   have hfz6_0 := blk_frozen BK170.out 0
   have hfz6_1 := blk_frozen BK170.out 1
   go_wp2
   go_meet
   case rel => exact ⟨_, (true), (by first | rfl | (simp; done) | (simp [*]; done)), H', ⟨by first | omega | exact Nat.le_refl _⟩, ⟨by (with_reducible repeat (first | refine blk_drewN ?_ _ | refine blk_drew ?_ | refine blk_alloc ?_ _)); exact BK170.out⟩, ⟨by repeat (first | (with_reducible first | exact HB.out | apply below_alloc | apply pw_below_drewN | apply below_drew1 | refine below_set ?_ GE170.out) | exact HB.out)⟩⟩
  ·rw [if_neg c5] at H
   have c5b0 : decide (6 < (l0_0.length : Int)) = false := decide_eq_false c5
   have c5b1 : decide (6 < l0_0.length) = false := decide_eq_false (by omega)
   clear c5
   (first | rw [c5b0] | (simp only [i64_w, i32_w]; rw [c5b0]) | skip)
   by_cases c7 : (l0_1.length : Int) > 8
   ·rw [if_pos c7] at H
    have c7b0 : decide (8 < (l0_1.length : Int)) = true := decide_eq_true c7
    have c7b1 : decide (8 < l0_1.length) = true := decide_eq_true (by omega)
    clear c7
    have H' := Aside0.mk H
    clear H
    have hcz8_0 : w4.cell? ⟨gb170, 0, none⟩ = some (.slice A0_0 l0_0.length c0_0) := (blk_cell BK170.out 0).trans rfl
    have hcz8_1 : w4.cell? ⟨gb170, 1, none⟩ = some (.slice A0_1 l0_1.length c0_1) := (blk_cell BK170.out 1).trans rfl
    have hfz8_0 := blk_frozen BK170.out 0
    have hfz8_1 := blk_frozen BK170.out 1
    go_wp2
    go_meet
    case rel => exact ⟨_, (true), (by first | rfl | (simp; done) | (simp [*]; done)), H', ⟨by first | omega | exact Nat.le_refl _⟩, ⟨by (with_reducible repeat (first | refine blk_drewN ?_ _ | refine blk_drew ?_ | refine blk_alloc ?_ _)); exact BK170.out⟩, ⟨by repeat (first | (with_reducible first | exact HB.out | apply below_alloc | apply pw_below_drewN | apply below_drew1 | refine below_set ?_ GE170.out) | exact HB.out)⟩⟩
   ·rw [if_neg c7] at H
    have c7b0 : decide (8 < (l0_1.length : Int)) = false := decide_eq_false c7
    have c7b1 : decide (8 < l0_1.length) = false := decide_eq_false (by omega)
    clear c7
    have H' := Aside0.mk H
    clear H
    have hcz9_0 : w4.cell? ⟨gb170, 0, none⟩ = some (.slice A0_0 l0_0.length c0_0) := (blk_cell BK170.out 0).trans rfl
    have hcz9_1 : w4.cell? ⟨gb170, 1, none⟩ = some (.slice A0_1 l0_1.length c0_1) := (blk_cell BK170.out 1).trans rfl
    have hfz9_0 := blk_frozen BK170.out 0
    have hfz9_1 := blk_frozen BK170.out 1
    go_wp2
    go_meet
    case rel => exact ⟨_, (decide ((l1.length : Int) > 6)), (by first | rfl | (simp; done) | (simp [*]; done)), H', ⟨by first | omega | exact Nat.le_refl _⟩, ⟨by (with_reducible repeat (first | refine blk_drewN ?_ _ | refine blk_drew ?_ | refine blk_alloc ?_ _)); exact BK170.out⟩, ⟨by repeat (first | (with_reducible first | exact HB.out | apply below_alloc | apply pw_below_drewN | apply below_drew1 | refine below_set ?_ GE170.out) | exact HB.out)⟩⟩
 case rest =>
  clear HC3
  (try clear c1); (try clear p2); (try clear c3); (try clear c5); (try clear c5b0); (try clear c5b1); (try clear c7); (try clear c7b0); (try clear c7b1); (try clear hcz6_0); (try clear hcz6_1); (try clear hcz8_0); (try clear hcz8_1); (try clear hcz9_0); (try clear hcz9_1); (try clear hfz6_0); (try clear hfz6_1); (try clear hfz8_0); (try clear hfz8_1); (try clear hfz9_0); (try clear hfz9_1)
  obtain ⟨kq, x24_2, rfl, HA, HJ2, BK170, HB⟩ := hcut
  cases kq with
  | zero => exact absurd HA.out (by simp [gaugerlaw35_great.j0])
  | succ kj2 =>
   have H := HA.out
   clear HA
   simp only [gaugerlaw35_great.j0] at H
   by_cases c10 : x24_2 = true
   ·subst c10
    have H1 : (some true) = some r := by rw [if_pos rfl] at H; exact H
    clear H
    have H := H1
    clear H1
    obtain rfl := Option.some.inj H
    go_wp2
    go_ret
    exact ⟨by first | rfl | (simp [errW_none, errW_some] <;> rfl) | (simp [*, errW_none, errW_some] <;> rfl), by repeat (first | (with_reducible first | exact HB.out | apply below_alloc | apply pw_below_drewN | apply below_drew1 | refine below_set ?_ GE170.out) | exact HB.out)⟩
   ·replace c10 := Bool.eq_false_iff.mpr c10
    subst c10
    have H1 : (gaugerlaw35_great.l0 kj2 l1 0 l0_0 l0_1) = some r := by rw [if_neg (show ¬ (false = true) by decide)] at H; exact H
    clear H
    have H := H1
    clear H1
    have H' := Aside0.mk H
    clear H
    go_wp2
    go_loopg [5] kj2 (fun kq v5 w' => ∃ (x5_2 : Int), v5 = .int .i64 x5_2 ∧ Aside0 (gaugerlaw35_great.l0 kq l1 x5_2 l0_0 l0_1 = some r) ∧ Aside0 (kq ≤ kj2) ∧ Aside0 (w'.heap[gb170]? = some (.cells #[(.slice A0_0 l0_0.length c0_0), (.slice A0_1 l0_1.length c0_1)] 79 (0, 0))) ∧ Aside0 (Below w.heap.size w w'))
    case atStart => exact ⟨(0), (by first | rfl | (simp; done) | (simp [*]; done)), H', ⟨Nat.le_refl _⟩, ⟨by (with_reducible repeat (first | refine blk_drewN ?_ _ | refine blk_drew ?_ | refine blk_alloc ?_ _)); exact BK170.out⟩, ⟨by repeat (first | (with_reducible first | exact HB.out | apply below_alloc | apply pw_below_drewN | apply below_drew1 | refine below_set ?_ GE170.out) | exact HB.out)⟩⟩
    case round =>
     clear H'
     (try clear c1); (try clear p2); (try clear c3); (try clear c5); (try clear c5b0); (try clear c5b1); (try clear c7); (try clear c7b0); (try clear c7b1); (try clear c10); (try clear hcz6_0); (try clear hcz6_1); (try clear hcz8_0); (try clear hcz8_1); (try clear hcz9_0); (try clear hcz9_1); (try clear hfz6_0); (try clear hfz6_1); (try clear hfz8_0); (try clear hfz8_1); (try clear hfz9_0); (try clear hfz9_1); (try clear p2)
     obtain ⟨x5_2, rfl, HA, HK2, BK170, HB⟩ := hrel
     cases gk with
     | zero => exact absurd HA.out (by simp [gaugerlaw35_great.l0])
     | succ k2 =>
      have H := HA.out
      clear HA
      simp only [gaugerlaw35_great.l0] at H
      by_cases c11 : x5_2 < (l0_0.length : Int)
      ·rw [if_pos c11] at H
       have c11b0 : decide (x5_2 < (l0_0.length : Int)) = true := decide_eq_true c11
       clear c11
       by_cases c12 : 0 ≤ x5_2
       ·rw [if_pos c12] at H
        have c12b0 : decide (0 ≤ x5_2) = true := decide_eq_true c12
        clear c12
        by_cases c13 : (((rd_T134 l0_0 x5_2).f0).length : Int) > 10
        ·rw [if_pos c13] at H
         have c13b0 : decide (10 < (((rd_T134 l0_0 x5_2).f0).length : Int)) = true := decide_eq_true c13
         have c13b1 : decide (10 < ((rd_T134 l0_0 x5_2).f0).length) = true := decide_eq_true (by omega)
         clear c13
         obtain rfl := Option.some.inj H
         have hcz14_0 : wr.cell? ⟨gb170, 0, none⟩ = some (.slice A0_0 l0_0.length c0_0) := (blk_cell BK170.out 0).trans rfl
         have hcz14_1 : wr.cell? ⟨gb170, 1, none⟩ = some (.slice A0_1 l0_1.length c0_1) := (blk_cell BK170.out 1).trans rfl
         have hfz14_0 := blk_frozen BK170.out 0
         have hfz14_1 := blk_frozen BK170.out 1
         have p171 : 0 ≤ (x5_2 : Int) := of_decide_eq_true (by first | (with_reducible assumption) | assumption)
         have q171 : x5_2 < (l0_0.length : Int) := of_decide_eq_true (by first | (with_reducible assumption) | assumption)
         obtain ⟨ad171, A171_0, c171_0, e171, hx171_0, hl171_0, hi171_0⟩ := at_T134 HR0_0.out x5_2 p171 q171
         cases e171
         replace hx171_0 := (HB.out.cell (World.block_lt_of_cell? w _ hx171_0)).trans hx171_0
         have HR171_0 := Aside0.mk hi171_0
         have HC171_0 := Aside0.mk hl171_0
         clear hi171_0 hl171_0
         replace p171 := eq_true p171
         replace q171 := eq_true q171
         go_wp2
         go_ret
         exact ⟨by first | rfl | (simp [errW_none, errW_some] <;> rfl) | (simp [*, errW_none, errW_some] <;> rfl), by repeat (first | (with_reducible first | exact HB.out | apply below_alloc | apply pw_below_drewN | apply below_drew1 | refine below_set ?_ GE170.out) | exact HB.out)⟩
        ·rw [if_neg c13] at H
         have c13b0 : decide (10 < (((rd_T134 l0_0 x5_2).f0).length : Int)) = false := decide_eq_false c13
         have c13b1 : decide (10 < ((rd_T134 l0_0 x5_2).f0).length) = false := decide_eq_false (by omega)
         clear c13
         have H' := Aside0.mk H
         clear H
         have hcz15_0 : wr.cell? ⟨gb170, 0, none⟩ = some (.slice A0_0 l0_0.length c0_0) := (blk_cell BK170.out 0).trans rfl
         have hcz15_1 : wr.cell? ⟨gb170, 1, none⟩ = some (.slice A0_1 l0_1.length c0_1) := (blk_cell BK170.out 1).trans rfl
         have hfz15_0 := blk_frozen BK170.out 0
         have hfz15_1 := blk_frozen BK170.out 1
         have p171 : 0 ≤ (x5_2 : Int) := of_decide_eq_true (by first | (with_reducible assumption) | assumption)
         have q171 : x5_2 < (l0_0.length : Int) := of_decide_eq_true (by first | (with_reducible assumption) | assumption)
         obtain ⟨ad171, A171_0, c171_0, e171, hx171_0, hl171_0, hi171_0⟩ := at_T134 HR0_0.out x5_2 p171 q171
         cases e171
         replace hx171_0 := (HB.out.cell (World.block_lt_of_cell? w _ hx171_0)).trans hx171_0
         have HR171_0 := Aside0.mk hi171_0
         have HC171_0 := Aside0.mk hl171_0
         clear hi171_0 hl171_0
         replace p171 := eq_true p171
         replace q171 := eq_true q171
         go_wp2
         go_roundg k2
         case measure => have := HJ2.out; have := HK2.out; omega
         case rel => exact ⟨(wrap64 (x5_2 + 1)), (by first | rfl | (simp; done) | (simp [*]; done)), H', ⟨by have := HJ2.out; have := HK2.out; omega⟩, ⟨by (with_reducible repeat (first | refine blk_drewN ?_ _ | refine blk_drew ?_ | refine blk_alloc ?_ _)); exact BK170.out⟩, ⟨by repeat (first | (with_reducible first | exact HB.out | apply below_alloc | apply pw_below_drewN | apply below_drew1 | refine below_set ?_ GE170.out) | exact HB.out)⟩⟩
       ·rw [if_neg c12] at H
        exact absurd H (by simp)
      ·rw [if_neg c11] at H
       have c11b0 : decide (x5_2 < (l0_0.length : Int)) = false := decide_eq_false c11
       clear c11
       have H' := Aside0.mk H
       clear H
       have hcz16_0 : wr.cell? ⟨gb170, 0, none⟩ = some (.slice A0_0 l0_0.length c0_0) := (blk_cell BK170.out 0).trans rfl
       have hcz16_1 : wr.cell? ⟨gb170, 1, none⟩ = some (.slice A0_1 l0_1.length c0_1) := (blk_cell BK170.out 1).trans rfl
       have hfz16_0 := blk_frozen BK170.out 0
       have hfz16_1 := blk_frozen BK170.out 1
       go_wp2
       go_loopg [6] k2 (fun kq v6 w' => ∃ (x6_3 : Int), v6 = .int .i64 x6_3 ∧ Aside0 (gaugerlaw35_great.l1 kq l1 x6_3 l0_0 l0_1 = some r) ∧ Aside0 (kq ≤ k2) ∧ Aside0 (w'.heap[gb170]? = some (.cells #[(.slice A0_0 l0_0.length c0_0), (.slice A0_1 l0_1.length c0_1)] 79 (0, 0))) ∧ Aside0 (Below w.heap.size w w'))
       case atStart => exact ⟨(0), (by first | rfl | (simp; done) | (simp [*]; done)), H', ⟨Nat.le_refl _⟩, ⟨by (with_reducible repeat (first | refine blk_drewN ?_ _ | refine blk_drew ?_ | refine blk_alloc ?_ _)); exact BK170.out⟩, ⟨by repeat (first | (with_reducible first | exact HB.out | apply below_alloc | apply pw_below_drewN | apply below_drew1 | refine below_set ?_ GE170.out) | exact HB.out)⟩⟩
       case round =>
        clear H'
        (try clear c1); (try clear p1); (try clear q1); (try clear hx1); (try clear p2); (try clear c3); (try clear c5); (try clear c5b0); (try clear c5b1); (try clear p6); (try clear c7); (try clear c7b0); (try clear c7b1); (try clear c10); (try clear c11); (try clear c11b0); (try clear c12); (try clear c12b0); (try clear c13); (try clear c13b0); (try clear c13b1); (try clear hcz14_0); (try clear hcz14_1); (try clear hcz15_0); (try clear hcz15_1); (try clear hcz16_0); (try clear hcz16_1); (try clear hcz6_0); (try clear hcz6_1); (try clear hcz8_0); (try clear hcz8_1); (try clear hcz9_0); (try clear hcz9_1); (try clear hfz14_0); (try clear hfz14_1); (try clear hfz15_0); (try clear hfz15_1); (try clear hfz16_0); (try clear hfz16_1); (try clear hfz6_0); (try clear hfz6_1); (try clear hfz8_0); (try clear hfz8_1); (try clear hfz9_0); (try clear hfz9_1); (try clear hx171_0); (try clear p171); (try clear p2); (try clear q171)
        obtain ⟨x6_3, rfl, HA, HK3, BK170, HB⟩ := hrel
        cases gk with
        | zero => exact absurd HA.out (by simp [gaugerlaw35_great.l1])
        | succ k3 =>
         have H := HA.out
         clear HA
         simp only [gaugerlaw35_great.l1] at H
         by_cases c17 : x6_3 < (l0_1.length : Int)
         ·rw [if_pos c17] at H
          have c17b0 : decide (x6_3 < (l0_1.length : Int)) = true := decide_eq_true c17
          clear c17
          by_cases c18 : 0 ≤ x6_3
          ·rw [if_pos c18] at H
           have c18b0 : decide (0 ≤ x6_3) = true := decide_eq_true c18
           clear c18
           by_cases c19 : (((rd_T137 l0_1 x6_3).f2).length : Int) > 10
           ·rw [if_pos c19] at H
            have c19b0 : decide (10 < (((rd_T137 l0_1 x6_3).f2).length : Int)) = true := decide_eq_true c19
            have c19b1 : decide (10 < ((rd_T137 l0_1 x6_3).f2).length) = true := decide_eq_true (by omega)
            clear c19
            obtain rfl := Option.some.inj H
            have hcz20_0 : wr.cell? ⟨gb170, 0, none⟩ = some (.slice A0_0 l0_0.length c0_0) := (blk_cell BK170.out 0).trans rfl
            have hcz20_1 : wr.cell? ⟨gb170, 1, none⟩ = some (.slice A0_1 l0_1.length c0_1) := (blk_cell BK170.out 1).trans rfl
            have hfz20_0 := blk_frozen BK170.out 0
            have hfz20_1 := blk_frozen BK170.out 1
            have p172 : 0 ≤ (x6_3 : Int) := of_decide_eq_true (by first | (with_reducible assumption) | assumption)
            have q172 : x6_3 < (l0_1.length : Int) := of_decide_eq_true (by first | (with_reducible assumption) | assumption)
            obtain ⟨ad172, A172_2, c172_2, e172, hx172_0, hx172_1, hx172_2, hl172_2, hi172_2⟩ := at_T137 HR0_1.out x6_3 p172 q172
            cases e172
            replace hx172_0 := (HB.out.cell (World.block_lt_of_cell? w _ hx172_0)).trans hx172_0
            replace hx172_1 := (HB.out.cell (World.block_lt_of_cell? w _ hx172_1)).trans hx172_1
            replace hx172_2 := (HB.out.cell (World.block_lt_of_cell? w _ hx172_2)).trans hx172_2
            have HR172_2 := Aside0.mk hi172_2
            have HC172_2 := Aside0.mk hl172_2
            clear hi172_2 hl172_2
            replace p172 := eq_true p172
            replace q172 := eq_true q172
            go_wp2
            go_ret
            exact ⟨by first | rfl | (simp [errW_none, errW_some] <;> rfl) | (simp [*, errW_none, errW_some] <;> rfl), by repeat (first | (with_reducible first | exact HB.out | apply below_alloc | apply pw_below_drewN | apply below_drew1 | refine below_set ?_ GE170.out) | exact HB.out)⟩
           ·rw [if_neg c19] at H
            have c19b0 : decide (10 < (((rd_T137 l0_1 x6_3).f2).length : Int)) = false := decide_eq_false c19
            have c19b1 : decide (10 < ((rd_T137 l0_1 x6_3).f2).length) = false := decide_eq_false (by omega)
            clear c19
            have H' := Aside0.mk H
            clear H
            have hcz21_0 : wr.cell? ⟨gb170, 0, none⟩ = some (.slice A0_0 l0_0.length c0_0) := (blk_cell BK170.out 0).trans rfl
            have hcz21_1 : wr.cell? ⟨gb170, 1, none⟩ = some (.slice A0_1 l0_1.length c0_1) := (blk_cell BK170.out 1).trans rfl
            have hfz21_0 := blk_frozen BK170.out 0
            have hfz21_1 := blk_frozen BK170.out 1
            have p172 : 0 ≤ (x6_3 : Int) := of_decide_eq_true (by first | (with_reducible assumption) | assumption)
            have q172 : x6_3 < (l0_1.length : Int) := of_decide_eq_true (by first | (with_reducible assumption) | assumption)
            obtain ⟨ad172, A172_2, c172_2, e172, hx172_0, hx172_1, hx172_2, hl172_2, hi172_2⟩ := at_T137 HR0_1.out x6_3 p172 q172
            cases e172
            replace hx172_0 := (HB.out.cell (World.block_lt_of_cell? w _ hx172_0)).trans hx172_0
            replace hx172_1 := (HB.out.cell (World.block_lt_of_cell? w _ hx172_1)).trans hx172_1
            replace hx172_2 := (HB.out.cell (World.block_lt_of_cell? w _ hx172_2)).trans hx172_2
            have HR172_2 := Aside0.mk hi172_2
            have HC172_2 := Aside0.mk hl172_2
            clear hi172_2 hl172_2
            replace p172 := eq_true p172
            replace q172 := eq_true q172
            go_wp2
            go_roundg k3
            case measure => have := HJ2.out; have := HK2.out; have := HK3.out; omega
            case rel => exact ⟨(wrap64 (x6_3 + 1)), (by first | rfl | (simp; done) | (simp [*]; done)), H', ⟨by have := HJ2.out; have := HK2.out; have := HK3.out; omega⟩, ⟨by (with_reducible repeat (first | refine blk_drewN ?_ _ | refine blk_drew ?_ | refine blk_alloc ?_ _)); exact BK170.out⟩, ⟨by repeat (first | (with_reducible first | exact HB.out | apply below_alloc | apply pw_below_drewN | apply below_drew1 | refine below_set ?_ GE170.out) | exact HB.out)⟩⟩
          ·rw [if_neg c18] at H
           exact absurd H (by simp)
         ·rw [if_neg c17] at H
          have c17b0 : decide (x6_3 < (l0_1.length : Int)) = false := decide_eq_false c17
          clear c17
          have H' := Aside0.mk H
          clear H
          have hcz22_0 : wr.cell? ⟨gb170, 0, none⟩ = some (.slice A0_0 l0_0.length c0_0) := (blk_cell BK170.out 0).trans rfl
          have hcz22_1 : wr.cell? ⟨gb170, 1, none⟩ = some (.slice A0_1 l0_1.length c0_1) := (blk_cell BK170.out 1).trans rfl
          have hfz22_0 := blk_frozen BK170.out 0
          have hfz22_1 := blk_frozen BK170.out 1
          go_wp2
          go_loopg [7] k3 (fun kq v7 w' => ∃ (x7_4 : Int), v7 = .int .i64 x7_4 ∧ Aside0 (gaugerlaw35_great.l2 kq l1 x7_4 = some r) ∧ Aside0 (kq ≤ k3) ∧ Aside0 (w'.heap[gb170]? = some (.cells #[(.slice A0_0 l0_0.length c0_0), (.slice A0_1 l0_1.length c0_1)] 79 (0, 0))) ∧ Aside0 (Below w.heap.size w w'))
          case atStart => exact ⟨(0), (by first | rfl | (simp; done) | (simp [*]; done)), H', ⟨Nat.le_refl _⟩, ⟨by (with_reducible repeat (first | refine blk_drewN ?_ _ | refine blk_drew ?_ | refine blk_alloc ?_ _)); exact BK170.out⟩, ⟨by repeat (first | (with_reducible first | exact HB.out | apply below_alloc | apply pw_below_drewN | apply below_drew1 | refine below_set ?_ GE170.out) | exact HB.out)⟩⟩
          case round =>
           clear H'
           (try clear c1); (try clear p1); (try clear q1); (try clear hx1); (try clear p2); (try clear c3); (try clear c5); (try clear c5b0); (try clear c5b1); (try clear p6); (try clear c7); (try clear c7b0); (try clear c7b1); (try clear c10); (try clear c11); (try clear c11b0); (try clear c12); (try clear c12b0); (try clear c13); (try clear c13b0); (try clear c13b1); (try clear c17); (try clear c17b0); (try clear p17); (try clear q17); (try clear hx17); (try clear c18); (try clear c18b0); (try clear c19); (try clear c19b0); (try clear c19b1); (try clear hcz14_0); (try clear hcz14_1); (try clear hcz15_0); (try clear hcz15_1); (try clear hcz16_0); (try clear hcz16_1); (try clear hcz20_0); (try clear hcz20_1); (try clear hcz21_0); (try clear hcz21_1); (try clear hcz22_0); (try clear hcz22_1); (try clear hcz6_0); (try clear hcz6_1); (try clear hcz8_0); (try clear hcz8_1); (try clear hcz9_0); (try clear hcz9_1); (try clear hfz14_0); (try clear hfz14_1); (try clear hfz15_0); (try clear hfz15_1); (try clear hfz16_0); (try clear hfz16_1); (try clear hfz20_0); (try clear hfz20_1); (try clear hfz21_0); (try clear hfz21_1); (try clear hfz22_0); (try clear hfz22_1); (try clear hfz6_0); (try clear hfz6_1); (try clear hfz8_0); (try clear hfz8_1); (try clear hfz9_0); (try clear hfz9_1); (try clear hx171_0); (try clear hx172_0); (try clear hx172_1); (try clear hx172_2); (try clear p1); (try clear p171); (try clear p172); (try clear p2); (try clear p6); (try clear q1); (try clear q171); (try clear q172)
           obtain ⟨x7_4, rfl, HA, HK4, BK170, HB⟩ := hrel
           cases gk with
           | zero => exact absurd HA.out (by simp [gaugerlaw35_great.l2])
           | succ k4 =>
            have H := HA.out
            clear HA
            simp only [gaugerlaw35_great.l2] at H
            by_cases c23 : x7_4 < (l1.length : Int)
            ·rw [if_pos c23] at H
             have c23b0 : decide (x7_4 < (l1.length : Int)) = true := decide_eq_true c23
             clear c23
             by_cases c24 : 0 ≤ x7_4
             ·rw [if_pos c24] at H
              have c24b0 : decide (0 ≤ x7_4) = true := decide_eq_true c24
              clear c24
              by_cases c25 : ((rd_L11 l1 x7_4).length : Int) > 60
              ·rw [if_pos c25] at H
               have c25b0 : decide (60 < ((rd_L11 l1 x7_4).length : Int)) = true := decide_eq_true c25
               have c25b1 : decide (60 < (rd_L11 l1 x7_4).length) = true := decide_eq_true (by omega)
               clear c25
               obtain rfl := Option.some.inj H
               have p173 : 0 ≤ (x7_4 : Int) := of_decide_eq_true (by first | (with_reducible assumption) | assumption)
               have q173 : x7_4 < (l1.length : Int) := of_decide_eq_true (by first | (with_reducible assumption) | assumption)
               obtain ⟨ad173, A173_0, c173_0, e173, hx173_0, hl173_0, hi173_0⟩ := at_L11 HR1.out x7_4 p173 q173
               cases e173
               replace hx173_0 := (HB.out.cell (World.block_lt_of_cell? w _ hx173_0)).trans hx173_0
               have HR173_0 := Aside0.mk hi173_0
               have HC173_0 := Aside0.mk hl173_0
               clear hi173_0 hl173_0
               replace p173 := eq_true p173
               replace q173 := eq_true q173
               go_wp2
               go_ret
               exact ⟨by first | rfl | (simp [errW_none, errW_some] <;> rfl) | (simp [*, errW_none, errW_some] <;> rfl), by repeat (first | (with_reducible first | exact HB.out | apply below_alloc | apply pw_below_drewN | apply below_drew1 | refine below_set ?_ GE170.out) | exact HB.out)⟩
              ·rw [if_neg c25] at H
               have c25b0 : decide (60 < ((rd_L11 l1 x7_4).length : Int)) = false := decide_eq_false c25
               have c25b1 : decide (60 < (rd_L11 l1 x7_4).length) = false := decide_eq_false (by omega)
               clear c25
               have H' := Aside0.mk H
               clear H
               have p173 : 0 ≤ (x7_4 : Int) := of_decide_eq_true (by first | (with_reducible assumption) | assumption)
               have q173 : x7_4 < (l1.length : Int) := of_decide_eq_true (by first | (with_reducible assumption) | assumption)
               obtain ⟨ad173, A173_0, c173_0, e173, hx173_0, hl173_0, hi173_0⟩ := at_L11 HR1.out x7_4 p173 q173
               cases e173
               replace hx173_0 := (HB.out.cell (World.block_lt_of_cell? w _ hx173_0)).trans hx173_0
               have HR173_0 := Aside0.mk hi173_0
               have HC173_0 := Aside0.mk hl173_0
               clear hi173_0 hl173_0
               replace p173 := eq_true p173
               replace q173 := eq_true q173
               go_wp2
               go_loopg [8] k4 (fun kq v8 w' => ∃ (x8_5 : Int), v8 = .int .i64 x8_5 ∧ Aside0 (gaugerlaw35_great.l3 kq l1 x7_4 x8_5 = some r) ∧ Aside0 (kq ≤ k4) ∧ Aside0 (w'.heap[gb170]? = some (.cells #[(.slice A0_0 l0_0.length c0_0), (.slice A0_1 l0_1.length c0_1)] 79 (0, 0))) ∧ Aside0 (Below w.heap.size w w'))
               case atStart => exact ⟨(0), (by first | rfl | (simp; done) | (simp [*]; done)), H', ⟨Nat.le_refl _⟩, ⟨by (with_reducible repeat (first | refine blk_drewN ?_ _ | refine blk_drew ?_ | refine blk_alloc ?_ _)); exact BK170.out⟩, ⟨by repeat (first | (with_reducible first | exact HB.out | apply below_alloc | apply pw_below_drewN | apply below_drew1 | refine below_set ?_ GE170.out) | exact HB.out)⟩⟩
               case round =>
                clear H'
                (try clear c1); (try clear p1); (try clear q1); (try clear hx1); (try clear c2); (try clear p2); (try clear c3); (try clear c5); (try clear c5b0); (try clear c5b1); (try clear p6); (try clear c7); (try clear c7b0); (try clear c7b1); (try clear c10); (try clear c11); (try clear c11b0); (try clear c12); (try clear c12b0); (try clear c13); (try clear c13b0); (try clear c13b1); (try clear c17); (try clear c17b0); (try clear p17); (try clear q17); (try clear hx17); (try clear c18); (try clear c18b0); (try clear c19); (try clear c19b0); (try clear c19b1); (try clear c23); (try clear c23b0); (try clear c24); (try clear c24b0); (try clear c25); (try clear c25b0); (try clear c25b1); (try clear hcz14_0); (try clear hcz14_1); (try clear hcz15_0); (try clear hcz15_1); (try clear hcz16_0); (try clear hcz16_1); (try clear hcz20_0); (try clear hcz20_1); (try clear hcz21_0); (try clear hcz21_1); (try clear hcz22_0); (try clear hcz22_1); (try clear hcz6_0); (try clear hcz6_1); (try clear hcz8_0); (try clear hcz8_1); (try clear hcz9_0); (try clear hcz9_1); (try clear hfz14_0); (try clear hfz14_1); (try clear hfz15_0); (try clear hfz15_1); (try clear hfz16_0); (try clear hfz16_1); (try clear hfz20_0); (try clear hfz20_1); (try clear hfz21_0); (try clear hfz21_1); (try clear hfz22_0); (try clear hfz22_1); (try clear hfz6_0); (try clear hfz6_1); (try clear hfz8_0); (try clear hfz8_1); (try clear hfz9_0); (try clear hfz9_1); (try clear hx171_0); (try clear hx172_0); (try clear hx172_1); (try clear hx172_2); (try clear hx173_0); (try clear p1); (try clear p17); (try clear p171); (try clear p172); (try clear p173); (try clear p2); (try clear p6); (try clear q1); (try clear q17); (try clear q171); (try clear q172); (try clear q173)
                obtain ⟨x8_5, rfl, HA, HK5, BK170, HB⟩ := hrel
                cases gk with
                | zero => exact absurd HA.out (by simp [gaugerlaw35_great.l3])
                | succ k5 =>
                 have H := HA.out
                 clear HA
                 simp only [gaugerlaw35_great.l3] at H
                 by_cases c26 : 0 ≤ x7_4
                 ·rw [if_pos c26] at H
                  have c26b0 : decide (0 ≤ x7_4) = true := decide_eq_true c26
                  clear c26
                  by_cases c27 : x7_4 < (l1.length : Int)
                  ·rw [if_pos c27] at H
                   have c27b0 : decide (x7_4 < (l1.length : Int)) = true := decide_eq_true c27
                   clear c27
                   by_cases c28 : x8_5 < ((rd_L11 l1 x7_4).length : Int)
                   ·rw [if_pos c28] at H
                    have c28b0 : decide (x8_5 < ((rd_L11 l1 x7_4).length : Int)) = true := decide_eq_true c28
                    clear c28
                    by_cases c29 : 0 ≤ x8_5
                    ·rw [if_pos c29] at H
                     have c29b0 : decide (0 ≤ x8_5) = true := decide_eq_true c29
                     clear c29
                     by_cases c30 : ((rd_L10 (rd_L11 l1 x7_4) x8_5).length : Int) > 8
                     ·rw [if_pos c30] at H
                      have c30b0 : decide (8 < ((rd_L10 (rd_L11 l1 x7_4) x8_5).length : Int)) = true := decide_eq_true c30
                      have c30b1 : decide (8 < (rd_L10 (rd_L11 l1 x7_4) x8_5).length) = true := decide_eq_true (by omega)
                      clear c30
                      obtain rfl := Option.some.inj H
                      have p174 : 0 ≤ (x7_4 : Int) := of_decide_eq_true (by first | (with_reducible assumption) | assumption)
                      have q174 : x7_4 < (l1.length : Int) := of_decide_eq_true (by first | (with_reducible assumption) | assumption)
                      obtain ⟨ad174, A174_0, c174_0, e174, hx174_0, hl174_0, hi174_0⟩ := at_L11 HR1.out x7_4 p174 q174
                      obtain rfl : ad173 = ad174 := (by injection e174)
                      replace hx174_0 := (HB.out.cell (World.block_lt_of_cell? w _ hx174_0)).trans hx174_0
                      have HR174_0 := Aside0.mk hi174_0
                      have HC174_0 := Aside0.mk hl174_0
                      clear hi174_0 hl174_0
                      (first | (have eb_ := Option.some.inj (hx173_0.symm.trans hx174_0); injection eb_ with ea_ en_ ec_; subst ea_; subst ec_; clear en_) | skip)
                      replace p174 := eq_true p174
                      replace q174 := eq_true q174
                      have p175 : 0 ≤ (x7_4 : Int) := of_decide_eq_true (by first | (with_reducible assumption) | assumption)
                      have q175 : x7_4 < (l1.length : Int) := of_decide_eq_true (by first | (with_reducible assumption) | assumption)
                      obtain ⟨ad175, A175_0, c175_0, e175, hx175_0, hl175_0, hi175_0⟩ := at_L11 HR1.out x7_4 p175 q175
                      obtain rfl : ad173 = ad175 := (by injection e175)
                      replace hx175_0 := (HB.out.cell (World.block_lt_of_cell? w _ hx175_0)).trans hx175_0
                      have HR175_0 := Aside0.mk hi175_0
                      have HC175_0 := Aside0.mk hl175_0
                      clear hi175_0 hl175_0
                      replace p175 := eq_true p175
                      replace q175 := eq_true q175
                      have ea_ := Option.some.inj (hx174_0.symm.trans hx175_0)
                      injection ea_ with ea_ en_ ec_
                      subst ea_
                      subst ec_
                      clear en_
                      have p176 : 0 ≤ (x8_5 : Int) := of_decide_eq_true (by first | (with_reducible assumption) | assumption)
                      have q176 : x8_5 < ((rd_L11 l1 x7_4).length : Int) := of_decide_eq_true (by first | (with_reducible assumption) | assumption)
                      obtain ⟨ad176, A176_0, c176_0, e176, hx176_0, hl176_0, hi176_0⟩ := at_L10 HR175_0.out x8_5 p176 q176
                      cases e176
                      replace hx176_0 := (HB.out.cell (World.block_lt_of_cell? w _ hx176_0)).trans hx176_0
                      have HR176_0 := Aside0.mk hi176_0
                      have HC176_0 := Aside0.mk hl176_0
                      clear hi176_0 hl176_0
                      replace p176 := eq_true p176
                      replace q176 := eq_true q176
                      go_wp2
                      go_ret
                      exact ⟨by first | rfl | (simp [errW_none, errW_some] <;> rfl) | (simp [*, errW_none, errW_some] <;> rfl), by repeat (first | (with_reducible first | exact HB.out | apply below_alloc | apply pw_below_drewN | apply below_drew1 | refine below_set ?_ GE170.out) | exact HB.out)⟩
                     ·rw [if_neg c30] at H
                      have c30b0 : decide (8 < ((rd_L10 (rd_L11 l1 x7_4) x8_5).length : Int)) = false := decide_eq_false c30
                      have c30b1 : decide (8 < (rd_L10 (rd_L11 l1 x7_4) x8_5).length) = false := decide_eq_false (by omega)
                      clear c30
                      have H' := Aside0.mk H
                      clear H
                      have p174 : 0 ≤ (x7_4 : Int) := of_decide_eq_true (by first | (with_reducible assumption) | assumption)
                      have q174 : x7_4 < (l1.length : Int) := of_decide_eq_true (by first | (with_reducible assumption) | assumption)
                      obtain ⟨ad174, A174_0, c174_0, e174, hx174_0, hl174_0, hi174_0⟩ := at_L11 HR1.out x7_4 p174 q174
                      obtain rfl : ad173 = ad174 := (by injection e174)
                      replace hx174_0 := (HB.out.cell (World.block_lt_of_cell? w _ hx174_0)).trans hx174_0
                      have HR174_0 := Aside0.mk hi174_0
                      have HC174_0 := Aside0.mk hl174_0
                      clear hi174_0 hl174_0
                      (first | (have eb_ := Option.some.inj (hx173_0.symm.trans hx174_0); injection eb_ with ea_ en_ ec_; subst ea_; subst ec_; clear en_) | skip)
                      replace p174 := eq_true p174
                      replace q174 := eq_true q174
                      have p175 : 0 ≤ (x7_4 : Int) := of_decide_eq_true (by first | (with_reducible assumption) | assumption)
                      have q175 : x7_4 < (l1.length : Int) := of_decide_eq_true (by first | (with_reducible assumption) | assumption)
                      obtain ⟨ad175, A175_0, c175_0, e175, hx175_0, hl175_0, hi175_0⟩ := at_L11 HR1.out x7_4 p175 q175
                      obtain rfl : ad173 = ad175 := (by injection e175)
                      replace hx175_0 := (HB.out.cell (World.block_lt_of_cell? w _ hx175_0)).trans hx175_0
                      have HR175_0 := Aside0.mk hi175_0
                      have HC175_0 := Aside0.mk hl175_0
                      clear hi175_0 hl175_0
                      replace p175 := eq_true p175
                      replace q175 := eq_true q175
                      have ea_ := Option.some.inj (hx174_0.symm.trans hx175_0)
                      injection ea_ with ea_ en_ ec_
                      subst ea_
                      subst ec_
                      clear en_
                      have p176 : 0 ≤ (x8_5 : Int) := of_decide_eq_true (by first | (with_reducible assumption) | assumption)
                      have q176 : x8_5 < ((rd_L11 l1 x7_4).length : Int) := of_decide_eq_true (by first | (with_reducible assumption) | assumption)
                      obtain ⟨ad176, A176_0, c176_0, e176, hx176_0, hl176_0, hi176_0⟩ := at_L10 HR175_0.out x8_5 p176 q176
                      cases e176
                      replace hx176_0 := (HB.out.cell (World.block_lt_of_cell? w _ hx176_0)).trans hx176_0
                      have HR176_0 := Aside0.mk hi176_0
                      have HC176_0 := Aside0.mk hl176_0
                      clear hi176_0 hl176_0
                      replace p176 := eq_true p176
                      replace q176 := eq_true q176
                      go_wp2
                      go_loopg [9] k5 (fun kq v9 w' => ∃ (x9_6 : Int), v9 = .int .i64 x9_6 ∧ Aside0 (gaugerlaw35_great.l4 kq l1 x7_4 x8_5 x9_6 = some r) ∧ Aside0 (kq ≤ k5) ∧ Aside0 (w'.heap[gb170]? = some (.cells #[(.slice A0_0 l0_0.length c0_0), (.slice A0_1 l0_1.length c0_1)] 79 (0, 0))) ∧ Aside0 (Below w.heap.size w w'))
                      case atStart => exact ⟨(0), (by first | rfl | (simp; done) | (simp [*]; done)), H', ⟨Nat.le_refl _⟩, ⟨by (with_reducible repeat (first | refine blk_drewN ?_ _ | refine blk_drew ?_ | refine blk_alloc ?_ _)); exact BK170.out⟩, ⟨by repeat (first | (with_reducible first | exact HB.out | apply below_alloc | apply pw_below_drewN | apply below_drew1 | refine below_set ?_ GE170.out) | exact HB.out)⟩⟩
                      case round =>
                       clear H'
                       (try clear c1); (try clear p1); (try clear q1); (try clear hx1); (try clear c2); (try clear p2); (try clear c3); (try clear c5); (try clear c5b0); (try clear c5b1); (try clear p6); (try clear c7); (try clear c7b0); (try clear c7b1); (try clear c10); (try clear c11); (try clear c11b0); (try clear c12); (try clear c12b0); (try clear c13); (try clear c13b0); (try clear c13b1); (try clear c17); (try clear c17b0); (try clear p17); (try clear q17); (try clear hx17); (try clear c18); (try clear c18b0); (try clear c19); (try clear c19b0); (try clear c19b1); (try clear c23); (try clear c23b0); (try clear c24); (try clear c24b0); (try clear c25); (try clear c25b0); (try clear c25b1); (try clear c26); (try clear c26b0); (try clear c27); (try clear c27b0); (try clear c28); (try clear c28b0); (try clear c29); (try clear c29b0); (try clear c30); (try clear c30b0); (try clear c30b1); (try clear hcz14_0); (try clear hcz14_1); (try clear hcz15_0); (try clear hcz15_1); (try clear hcz16_0); (try clear hcz16_1); (try clear hcz20_0); (try clear hcz20_1); (try clear hcz21_0); (try clear hcz21_1); (try clear hcz22_0); (try clear hcz22_1); (try clear hcz6_0); (try clear hcz6_1); (try clear hcz8_0); (try clear hcz8_1); (try clear hcz9_0); (try clear hcz9_1); (try clear hfz14_0); (try clear hfz14_1); (try clear hfz15_0); (try clear hfz15_1); (try clear hfz16_0); (try clear hfz16_1); (try clear hfz20_0); (try clear hfz20_1); (try clear hfz21_0); (try clear hfz21_1); (try clear hfz22_0); (try clear hfz22_1); (try clear hfz6_0); (try clear hfz6_1); (try clear hfz8_0); (try clear hfz8_1); (try clear hfz9_0); (try clear hfz9_1); (try clear hx171_0); (try clear hx172_0); (try clear hx172_1); (try clear hx172_2); (try clear hx173_0); (try clear hx174_0); (try clear hx175_0); (try clear hx176_0); (try clear p1); (try clear p17); (try clear p171); (try clear p172); (try clear p173); (try clear p174); (try clear p175); (try clear p176); (try clear p2); (try clear p6); (try clear q1); (try clear q17); (try clear q171); (try clear q172); (try clear q173); (try clear q174); (try clear q175); (try clear q176)
                       obtain ⟨x9_6, rfl, HA, HK6, BK170, HB⟩ := hrel
                       cases gk with
                       | zero => exact absurd HA.out (by simp [gaugerlaw35_great.l4])
                       | succ k6 =>
                        have H := HA.out
                        clear HA
                        simp only [gaugerlaw35_great.l4] at H
                        by_cases c31 : 0 ≤ x7_4
                        ·rw [if_pos c31] at H
                         have c31b0 : decide (0 ≤ x7_4) = true := decide_eq_true c31
                         clear c31
                         by_cases c32 : x7_4 < (l1.length : Int)
                         ·rw [if_pos c32] at H
                          have c32b0 : decide (x7_4 < (l1.length : Int)) = true := decide_eq_true c32
                          clear c32
                          by_cases c33 : 0 ≤ x8_5
                          ·rw [if_pos c33] at H
                           have c33b0 : decide (0 ≤ x8_5) = true := decide_eq_true c33
                           clear c33
                           by_cases c34 : x8_5 < ((rd_L11 l1 x7_4).length : Int)
                           ·rw [if_pos c34] at H
                            have c34b0 : decide (x8_5 < ((rd_L11 l1 x7_4).length : Int)) = true := decide_eq_true c34
                            clear c34
                            by_cases c35 : x9_6 < ((rd_L10 (rd_L11 l1 x7_4) x8_5).length : Int)
                            ·rw [if_pos c35] at H
                             have c35b0 : decide (x9_6 < ((rd_L10 (rd_L11 l1 x7_4) x8_5).length : Int)) = true := decide_eq_true c35
                             clear c35
                             by_cases c36 : 0 ≤ x9_6
                             ·rw [if_pos c36] at H
                              have c36b0 : decide (0 ≤ x9_6) = true := decide_eq_true c36
                              clear c36
                              by_cases c37 : (((rd_T140 (rd_L10 (rd_L11 l1 x7_4) x8_5) x9_6).f2).size : Int) > 60
                              ·rw [if_pos c37] at H
                               have c37b0 : decide (60 < (((rd_T140 (rd_L10 (rd_L11 l1 x7_4) x8_5) x9_6).f2).size : Int)) = true := decide_eq_true c37
                               have c37b1 : decide (60 < ((rd_T140 (rd_L10 (rd_L11 l1 x7_4) x8_5) x9_6).f2).size) = true := decide_eq_true (by omega)
                               clear c37
                               obtain rfl := Option.some.inj H
                               have p177 : 0 ≤ (x7_4 : Int) := of_decide_eq_true (by first | (with_reducible assumption) | assumption)
                               have q177 : x7_4 < (l1.length : Int) := of_decide_eq_true (by first | (with_reducible assumption) | assumption)
                               obtain ⟨ad177, A177_0, c177_0, e177, hx177_0, hl177_0, hi177_0⟩ := at_L11 HR1.out x7_4 p177 q177
                               obtain rfl : ad173 = ad177 := (by injection e177)
                               replace hx177_0 := (HB.out.cell (World.block_lt_of_cell? w _ hx177_0)).trans hx177_0
                               have HR177_0 := Aside0.mk hi177_0
                               have HC177_0 := Aside0.mk hl177_0
                               clear hi177_0 hl177_0
                               (first | (have eb_ := Option.some.inj (hx175_0.symm.trans hx177_0); injection eb_ with ea_ en_ ec_; subst ea_; subst ec_; clear en_) | skip)
                               replace p177 := eq_true p177
                               replace q177 := eq_true q177
                               have p178 : 0 ≤ (x8_5 : Int) := of_decide_eq_true (by first | (with_reducible assumption) | assumption)
                               have q178 : x8_5 < ((rd_L11 l1 x7_4).length : Int) := of_decide_eq_true (by first | (with_reducible assumption) | assumption)
                               obtain ⟨ad178, A178_0, c178_0, e178, hx178_0, hl178_0, hi178_0⟩ := at_L10 HR177_0.out x8_5 p178 q178
                               cases e178
                               replace hx178_0 := (HB.out.cell (World.block_lt_of_cell? w _ hx178_0)).trans hx178_0
                               have HR178_0 := Aside0.mk hi178_0
                               have HC178_0 := Aside0.mk hl178_0
                               clear hi178_0 hl178_0
                               (first | (have eb_ := Option.some.inj (hx176_0.symm.trans hx178_0); injection eb_ with ea_ en_ ec_; subst ea_; subst ec_; clear en_) | skip)
                               replace p178 := eq_true p178
                               replace q178 := eq_true q178
                               have p179 : 0 ≤ (x7_4 : Int) := of_decide_eq_true (by first | (with_reducible assumption) | assumption)
                               have q179 : x7_4 < (l1.length : Int) := of_decide_eq_true (by first | (with_reducible assumption) | assumption)
                               obtain ⟨ad179, A179_0, c179_0, e179, hx179_0, hl179_0, hi179_0⟩ := at_L11 HR1.out x7_4 p179 q179
                               obtain rfl : ad173 = ad179 := (by injection e179)
                               replace hx179_0 := (HB.out.cell (World.block_lt_of_cell? w _ hx179_0)).trans hx179_0
                               have HR179_0 := Aside0.mk hi179_0
                               have HC179_0 := Aside0.mk hl179_0
                               clear hi179_0 hl179_0
                               replace p179 := eq_true p179
                               replace q179 := eq_true q179
                               have ea_ := Option.some.inj (hx177_0.symm.trans hx179_0)
                               injection ea_ with ea_ en_ ec_
                               subst ea_
                               subst ec_
                               clear en_
                               have p180 : 0 ≤ (x8_5 : Int) := of_decide_eq_true (by first | (with_reducible assumption) | assumption)
                               have q180 : x8_5 < ((rd_L11 l1 x7_4).length : Int) := of_decide_eq_true (by first | (with_reducible assumption) | assumption)
                               obtain ⟨ad180, A180_0, c180_0, e180, hx180_0, hl180_0, hi180_0⟩ := at_L10 HR179_0.out x8_5 p180 q180
                               cases e180
                               replace hx180_0 := (HB.out.cell (World.block_lt_of_cell? w _ hx180_0)).trans hx180_0
                               have HR180_0 := Aside0.mk hi180_0
                               have HC180_0 := Aside0.mk hl180_0
                               clear hi180_0 hl180_0
                               (first | (have eb_ := Option.some.inj (hx178_0.symm.trans hx180_0); injection eb_ with ea_ en_ ec_; subst ea_; subst ec_; clear en_) | skip)
                               replace p180 := eq_true p180
                               replace q180 := eq_true q180
                               have p181 : 0 ≤ (x9_6 : Int) := of_decide_eq_true (by first | (with_reducible assumption) | assumption)
                               have q181 : x9_6 < ((rd_L10 (rd_L11 l1 x7_4) x8_5).length : Int) := of_decide_eq_true (by first | (with_reducible assumption) | assumption)
                               obtain ⟨ad181, e181, hx181_0, hx181_1, hx181_2⟩ := at_T140 HR180_0.out x9_6 p181 q181
                               cases e181
                               replace hx181_0 := (HB.out.cell (World.block_lt_of_cell? w _ hx181_0)).trans hx181_0
                               replace hx181_1 := (HB.out.cell (World.block_lt_of_cell? w _ hx181_1)).trans hx181_1
                               replace hx181_2 := (HB.out.cell (World.block_lt_of_cell? w _ hx181_2)).trans hx181_2
                               replace p181 := eq_true p181
                               replace q181 := eq_true q181
                               go_wp2
                               go_ret
                               exact ⟨by first | rfl | (simp [errW_none, errW_some] <;> rfl) | (simp [*, errW_none, errW_some] <;> rfl), by repeat (first | (with_reducible first | exact HB.out | apply below_alloc | apply pw_below_drewN | apply below_drew1 | refine below_set ?_ GE170.out) | exact HB.out)⟩
                              ·rw [if_neg c37] at H
                               have c37b0 : decide (60 < (((rd_T140 (rd_L10 (rd_L11 l1 x7_4) x8_5) x9_6).f2).size : Int)) = false := decide_eq_false c37
                               have c37b1 : decide (60 < ((rd_T140 (rd_L10 (rd_L11 l1 x7_4) x8_5) x9_6).f2).size) = false := decide_eq_false (by omega)
                               clear c37
                               have H' := Aside0.mk H
                               clear H
                               have p177 : 0 ≤ (x7_4 : Int) := of_decide_eq_true (by first | (with_reducible assumption) | assumption)
                               have q177 : x7_4 < (l1.length : Int) := of_decide_eq_true (by first | (with_reducible assumption) | assumption)
                               obtain ⟨ad177, A177_0, c177_0, e177, hx177_0, hl177_0, hi177_0⟩ := at_L11 HR1.out x7_4 p177 q177
                               obtain rfl : ad173 = ad177 := (by injection e177)
                               replace hx177_0 := (HB.out.cell (World.block_lt_of_cell? w _ hx177_0)).trans hx177_0
                               have HR177_0 := Aside0.mk hi177_0
                               have HC177_0 := Aside0.mk hl177_0
                               clear hi177_0 hl177_0
                               (first | (have eb_ := Option.some.inj (hx175_0.symm.trans hx177_0); injection eb_ with ea_ en_ ec_; subst ea_; subst ec_; clear en_) | skip)
                               replace p177 := eq_true p177
                               replace q177 := eq_true q177
                               have p178 : 0 ≤ (x8_5 : Int) := of_decide_eq_true (by first | (with_reducible assumption) | assumption)
                               have q178 : x8_5 < ((rd_L11 l1 x7_4).length : Int) := of_decide_eq_true (by first | (with_reducible assumption) | assumption)
                               obtain ⟨ad178, A178_0, c178_0, e178, hx178_0, hl178_0, hi178_0⟩ := at_L10 HR177_0.out x8_5 p178 q178
                               cases e178
                               replace hx178_0 := (HB.out.cell (World.block_lt_of_cell? w _ hx178_0)).trans hx178_0
                               have HR178_0 := Aside0.mk hi178_0
                               have HC178_0 := Aside0.mk hl178_0
                               clear hi178_0 hl178_0
                               (first | (have eb_ := Option.some.inj (hx176_0.symm.trans hx178_0); injection eb_ with ea_ en_ ec_; subst ea_; subst ec_; clear en_) | skip)
                               replace p178 := eq_true p178
                               replace q178 := eq_true q178
                               have p179 : 0 ≤ (x7_4 : Int) := of_decide_eq_true (by first | (with_reducible assumption) | assumption)
                               have q179 : x7_4 < (l1.length : Int) := of_decide_eq_true (by first | (with_reducible assumption) | assumption)
                               obtain ⟨ad179, A179_0, c179_0, e179, hx179_0, hl179_0, hi179_0⟩ := at_L11 HR1.out x7_4 p179 q179
                               obtain rfl : ad173 = ad179 := (by injection e179)
                               replace hx179_0 := (HB.out.cell (World.block_lt_of_cell? w _ hx179_0)).trans hx179_0
                               have HR179_0 := Aside0.mk hi179_0
                               have HC179_0 := Aside0.mk hl179_0
                               clear hi179_0 hl179_0
                               replace p179 := eq_true p179
                               replace q179 := eq_true q179
                               have ea_ := Option.some.inj (hx177_0.symm.trans hx179_0)
                               injection ea_ with ea_ en_ ec_
                               subst ea_
                               subst ec_
                               clear en_
                               have p180 : 0 ≤ (x8_5 : Int) := of_decide_eq_true (by first | (with_reducible assumption) | assumption)
                               have q180 : x8_5 < ((rd_L11 l1 x7_4).length : Int) := of_decide_eq_true (by first | (with_reducible assumption) | assumption)
                               obtain ⟨ad180, A180_0, c180_0, e180, hx180_0, hl180_0, hi180_0⟩ := at_L10 HR179_0.out x8_5 p180 q180
                               cases e180
                               replace hx180_0 := (HB.out.cell (World.block_lt_of_cell? w _ hx180_0)).trans hx180_0
                               have HR180_0 := Aside0.mk hi180_0
                               have HC180_0 := Aside0.mk hl180_0
                               clear hi180_0 hl180_0
                               (first | (have eb_ := Option.some.inj (hx178_0.symm.trans hx180_0); injection eb_ with ea_ en_ ec_; subst ea_; subst ec_; clear en_) | skip)
                               replace p180 := eq_true p180
                               replace q180 := eq_true q180
                               have p181 : 0 ≤ (x9_6 : Int) := of_decide_eq_true (by first | (with_reducible assumption) | assumption)
                               have q181 : x9_6 < ((rd_L10 (rd_L11 l1 x7_4) x8_5).length : Int) := of_decide_eq_true (by first | (with_reducible assumption) | assumption)
                               obtain ⟨ad181, e181, hx181_0, hx181_1, hx181_2⟩ := at_T140 HR180_0.out x9_6 p181 q181
                               cases e181
                               replace hx181_0 := (HB.out.cell (World.block_lt_of_cell? w _ hx181_0)).trans hx181_0
                               replace hx181_1 := (HB.out.cell (World.block_lt_of_cell? w _ hx181_1)).trans hx181_1
                               replace hx181_2 := (HB.out.cell (World.block_lt_of_cell? w _ hx181_2)).trans hx181_2
                               replace p181 := eq_true p181
                               replace q181 := eq_true q181
                               go_wp2
                               go_roundg k6
                               case measure => have := HJ2.out; have := HK2.out; have := HK3.out; have := HK4.out; have := HK5.out; have := HK6.out; omega
                               case rel => exact ⟨(wrap64 (x9_6 + 1)), (by first | rfl | (simp; done) | (simp [*]; done)), H', ⟨by have := HJ2.out; have := HK2.out; have := HK3.out; have := HK4.out; have := HK5.out; have := HK6.out; omega⟩, ⟨by (with_reducible repeat (first | refine blk_drewN ?_ _ | refine blk_drew ?_ | refine blk_alloc ?_ _)); exact BK170.out⟩, ⟨by repeat (first | (with_reducible first | exact HB.out | apply below_alloc | apply pw_below_drewN | apply below_drew1 | refine below_set ?_ GE170.out) | exact HB.out)⟩⟩
                             ·rw [if_neg c36] at H
                              exact absurd H (by simp)
                            ·rw [if_neg c35] at H
                             have c35b0 : decide (x9_6 < ((rd_L10 (rd_L11 l1 x7_4) x8_5).length : Int)) = false := decide_eq_false c35
                             clear c35
                             have H' := Aside0.mk H
                             clear H
                             have p177 : 0 ≤ (x7_4 : Int) := of_decide_eq_true (by first | (with_reducible assumption) | assumption)
                             have q177 : x7_4 < (l1.length : Int) := of_decide_eq_true (by first | (with_reducible assumption) | assumption)
                             obtain ⟨ad177, A177_0, c177_0, e177, hx177_0, hl177_0, hi177_0⟩ := at_L11 HR1.out x7_4 p177 q177
                             obtain rfl : ad173 = ad177 := (by injection e177)
                             replace hx177_0 := (HB.out.cell (World.block_lt_of_cell? w _ hx177_0)).trans hx177_0
                             have HR177_0 := Aside0.mk hi177_0
                             have HC177_0 := Aside0.mk hl177_0
                             clear hi177_0 hl177_0
                             (first | (have eb_ := Option.some.inj (hx175_0.symm.trans hx177_0); injection eb_ with ea_ en_ ec_; subst ea_; subst ec_; clear en_) | skip)
                             replace p177 := eq_true p177
                             replace q177 := eq_true q177
                             have p178 : 0 ≤ (x8_5 : Int) := of_decide_eq_true (by first | (with_reducible assumption) | assumption)
                             have q178 : x8_5 < ((rd_L11 l1 x7_4).length : Int) := of_decide_eq_true (by first | (with_reducible assumption) | assumption)
                             obtain ⟨ad178, A178_0, c178_0, e178, hx178_0, hl178_0, hi178_0⟩ := at_L10 HR177_0.out x8_5 p178 q178
                             cases e178
                             replace hx178_0 := (HB.out.cell (World.block_lt_of_cell? w _ hx178_0)).trans hx178_0
                             have HR178_0 := Aside0.mk hi178_0
                             have HC178_0 := Aside0.mk hl178_0
                             clear hi178_0 hl178_0
                             (first | (have eb_ := Option.some.inj (hx176_0.symm.trans hx178_0); injection eb_ with ea_ en_ ec_; subst ea_; subst ec_; clear en_) | skip)
                             replace p178 := eq_true p178
                             replace q178 := eq_true q178
                             go_wp2
                             go_roundg k6
                             case measure => have := HJ2.out; have := HK2.out; have := HK3.out; have := HK4.out; have := HK5.out; have := HK6.out; omega
                             case rel => exact ⟨(wrap64 (x8_5 + 1)), (by first | rfl | (simp; done) | (simp [*]; done)), H', ⟨by have := HJ2.out; have := HK2.out; have := HK3.out; have := HK4.out; have := HK5.out; have := HK6.out; omega⟩, ⟨by (with_reducible repeat (first | refine blk_drewN ?_ _ | refine blk_drew ?_ | refine blk_alloc ?_ _)); exact BK170.out⟩, ⟨by repeat (first | (with_reducible first | exact HB.out | apply below_alloc | apply pw_below_drewN | apply below_drew1 | refine below_set ?_ GE170.out) | exact HB.out)⟩⟩
                           ·rw [if_neg c34] at H
                            exact absurd H (by simp)
                          ·rw [if_neg c33] at H
                           exact absurd H (by simp)
                         ·rw [if_neg c32] at H
                          exact absurd H (by simp)
                        ·rw [if_neg c31] at H
                         exact absurd H (by simp)
                    ·rw [if_neg c29] at H
                     exact absurd H (by simp)
                   ·rw [if_neg c28] at H
                    have c28b0 : decide (x8_5 < ((rd_L11 l1 x7_4).length : Int)) = false := decide_eq_false c28
                    clear c28
                    have H' := Aside0.mk H
                    clear H
                    have p174 : 0 ≤ (x7_4 : Int) := of_decide_eq_true (by first | (with_reducible assumption) | assumption)
                    have q174 : x7_4 < (l1.length : Int) := of_decide_eq_true (by first | (with_reducible assumption) | assumption)
                    obtain ⟨ad174, A174_0, c174_0, e174, hx174_0, hl174_0, hi174_0⟩ := at_L11 HR1.out x7_4 p174 q174
                    obtain rfl : ad173 = ad174 := (by injection e174)
                    replace hx174_0 := (HB.out.cell (World.block_lt_of_cell? w _ hx174_0)).trans hx174_0
                    have HR174_0 := Aside0.mk hi174_0
                    have HC174_0 := Aside0.mk hl174_0
                    clear hi174_0 hl174_0
                    (first | (have eb_ := Option.some.inj (hx173_0.symm.trans hx174_0); injection eb_ with ea_ en_ ec_; subst ea_; subst ec_; clear en_) | skip)
                    replace p174 := eq_true p174
                    replace q174 := eq_true q174
                    go_wp2
                    go_roundg k5
                    case measure => have := HJ2.out; have := HK2.out; have := HK3.out; have := HK4.out; have := HK5.out; omega
                    case rel => exact ⟨(wrap64 (x7_4 + 1)), (by first | rfl | (simp; done) | (simp [*]; done)), H', ⟨by have := HJ2.out; have := HK2.out; have := HK3.out; have := HK4.out; have := HK5.out; omega⟩, ⟨by (with_reducible repeat (first | refine blk_drewN ?_ _ | refine blk_drew ?_ | refine blk_alloc ?_ _)); exact BK170.out⟩, ⟨by repeat (first | (with_reducible first | exact HB.out | apply below_alloc | apply pw_below_drewN | apply below_drew1 | refine below_set ?_ GE170.out) | exact HB.out)⟩⟩
                  ·rw [if_neg c27] at H
                   exact absurd H (by simp)
                 ·rw [if_neg c26] at H
                  exact absurd H (by simp)
             ·rw [if_neg c24] at H
              exact absurd H (by simp)
            ·rw [if_neg c23] at H
             have c23b0 : decide (x7_4 < (l1.length : Int)) = false := decide_eq_false c23
             clear c23
             obtain rfl := Option.some.inj H
             go_wp2
             go_ret
             exact ⟨by first | rfl | (simp [errW_none, errW_some] <;> rfl) | (simp [*, errW_none, errW_some] <;> rfl), by repeat (first | (with_reducible first | exact HB.out | apply below_alloc | apply pw_below_drewN | apply below_drew1 | refine below_set ?_ GE170.out) | exact HB.out)⟩

end Go.Proofs.Ytkcckhlchjmkkaa.PArk
