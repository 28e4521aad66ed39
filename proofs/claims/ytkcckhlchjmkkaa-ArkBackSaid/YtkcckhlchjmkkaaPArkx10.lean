-- PRINTED by print.py, called for this group
import Derived.Test.YtkcckhlchjmkkaaPArkx0
import Derived.Test.YtkcckhlchjmkkaaPArkx7
import Derived.Test.YtkcckhlchjmkkaaArkP
import Derived.Test.YtkcckhlchjmkkaaArkS
import Derived.Test.YtkcckhlchjmkkaaArkU
import Derived.Test.YtkcckhlchjmkkaaArkW
namespace Go.Proofs.Ytkcckhlchjmkkaa.PArk
open Go.RowKit Go.Proofs.YtkcckhlchjmkkaaW.PrintWords Go.Proofs.YtkcckhlchjmkkaaW.PrintLast Go.Proofs.YtkcckhlchjmkkaaW.PrintMore
attribute [local go_sem] max2_int min2_int max_two min_two max_three min_three max_four min_four   -- for this text's walks alone
set_option linter.unusedVariables false
set_option linter.unusedSimpArgs false

-- NOT PRINTED: function 88 (gaugerref24_Tables)

/-! ### gaugerlaw35_ArkBack: function 9 -/
mutual
def gaugerlaw35_ArkBack.j0 : Nat → List (List (List (S140))) → List (List (List (S140))) → ByteArray → Bool → List (S134) → List (S137) → Option (Bool)
 | 0, _, _, _, _, _, _ => none
 | k + 1, x1, x2, x3, x33, x201000, x201001 => if x33 = true then (some true) else ((ark_Unpack.f k x201000 x201001 x3).bind fun bt204 => (if bt204.2 = 0 then ((ark_Pack.f k x201000 x201001 bt204.1).bind fun bt208 => (if bt208.2 = 0 then (if bt208.1.toList = x3.toList then (gaugerlaw35_ArkBack.j1 k x1 x2 x201000 x201001) else (some false)) else (some false))) else (gaugerlaw35_ArkBack.j1 k x1 x2 x201000 x201001)))
def gaugerlaw35_ArkBack.j1 : Nat → List (List (List (S140))) → List (List (List (S140))) → List (S134) → List (S137) → Option (Bool)
 | 0, _, _, _, _ => none
 | k + 1, x1, x2, x201000, x201001 => (ark_Pack.f k x201000 x201001 x1).bind fun bt210 => ((ark_Pack.f k x201000 x201001 x2).bind fun bt212 => (if bt210.2 = 0 then (gaugerlaw35_ArkBack.j2 k x1 x2 bt210.1 bt212.1 (bt212.2 != 0) x201000 x201001) else (gaugerlaw35_ArkBack.j2 k x1 x2 bt210.1 bt212.1 true x201000 x201001)))
def gaugerlaw35_ArkBack.j2 : Nat → List (List (List (S140))) → List (List (List (S140))) → ByteArray → ByteArray → Bool → List (S134) → List (S137) → Option (Bool)
 | 0, _, _, _, _, _, _, _ => none
 | k + 1, x1, x2, x13, x15, x72, x201000, x201001 => if x72 = true then (some true) else ((ark_Unpack.f k x201000 x201001 x13).bind fun bt214 => (if bt214.2 = 0 then ((gaugerlaw35_same.f k bt214.1 x1).bind fun t218 => (if t218 = true then ((gaugerlaw35_same.f k x1 x2).bind fun t219 => (some ((x13.toList == x15.toList) == t219))) else (some false))) else (some false)))
end
def gaugerlaw35_ArkBack.f (k : Nat) (l0_0 : List (S134)) (l0_1 : List (S137)) (l1 : List (List (List (S140)))) (l2 : List (List (List (S140)))) (a3 : ByteArray) : Option (Bool) := (gaugerlaw35_awake.f k).bind fun t201 => (if t201 = true then ((gaugerlaw35_great.f k l0_0 l0_1 l1).bind fun t202 => (if t202 = true then (gaugerlaw35_ArkBack.j0 k l1 l2 a3 true l0_0 l0_1) else ((gaugerlaw35_great.f k l0_0 l0_1 l2).bind fun t203 => (if t203 = true then (gaugerlaw35_ArkBack.j0 k l1 l2 a3 true l0_0 l0_1) else (gaugerlaw35_ArkBack.j0 k l1 l2 a3 (decide ((a3.size : Int) > 2048)) l0_0 l0_1))))) else (some false))
theorem gaugerlaw35_ArkBack.mono_l : ∀ k, (∀ y0 y1 y2 y3 y4 y5, LeO (gaugerlaw35_ArkBack.j0 k y0 y1 y2 y3 y4 y5) (gaugerlaw35_ArkBack.j0 (k + 1) y0 y1 y2 y3 y4 y5)) ∧ (∀ y0 y1 y2 y3, LeO (gaugerlaw35_ArkBack.j1 k y0 y1 y2 y3) (gaugerlaw35_ArkBack.j1 (k + 1) y0 y1 y2 y3)) ∧ (∀ y0 y1 y2 y3 y4 y5 y6, LeO (gaugerlaw35_ArkBack.j2 k y0 y1 y2 y3 y4 y5 y6) (gaugerlaw35_ArkBack.j2 (k + 1) y0 y1 y2 y3 y4 y5 y6))
 | 0 => ⟨fun _ _ _ _ _ _ r h => by simp [gaugerlaw35_ArkBack.j0] at h, fun _ _ _ _ r h => by simp [gaugerlaw35_ArkBack.j1] at h, fun _ _ _ _ _ _ _ r h => by simp [gaugerlaw35_ArkBack.j2] at h⟩
 | k + 1 => by
  obtain ⟨ih0, ih1, ih2⟩ := gaugerlaw35_ArkBack.mono_l k
  refine ⟨?_, ?_, ?_⟩
  ·intro y0 y1 y2 y3 y4 y5
   unfold gaugerlaw35_ArkBack.j0
   repeat' first
   | (with_reducible exact ih0 _ _ _ _ _ _)
   | (with_reducible exact ih1 _ _ _ _)
   | (with_reducible exact ih2 _ _ _ _ _ _ _)
   | (with_reducible exact ark_Pack.mono _ _ _ _)
   | (with_reducible exact ark_Unpack.mono _ _ _ _)
   | (with_reducible exact gaugerlaw35_awake.mono _)
   | (with_reducible exact gaugerlaw35_great.mono _ _ _ _)
   | (with_reducible exact gaugerlaw35_same.mono _ _ _)
   | (with_reducible exact LeO.refl _)
   | (with_reducible exact LeO.none _)
   | (with_reducible refine LeO.ite ?_ ?_)
   | (with_reducible refine LeO.bind ?_ (fun _ => ?_))
   | exact ih0 _ _ _ _ _ _
   | exact ih1 _ _ _ _
   | exact ih2 _ _ _ _ _ _ _
   | exact ark_Pack.mono _ _ _ _
   | exact ark_Unpack.mono _ _ _ _
   | exact gaugerlaw35_awake.mono _
   | exact gaugerlaw35_great.mono _ _ _ _
   | exact gaugerlaw35_same.mono _ _ _
   | exact LeO.none _
   | refine LeO.ite ?_ ?_
   | refine LeO.bind ?_ (fun _ => ?_)
  ·intro y0 y1 y2 y3
   unfold gaugerlaw35_ArkBack.j1
   repeat' first
   | (with_reducible exact ih0 _ _ _ _ _ _)
   | (with_reducible exact ih1 _ _ _ _)
   | (with_reducible exact ih2 _ _ _ _ _ _ _)
   | (with_reducible exact ark_Pack.mono _ _ _ _)
   | (with_reducible exact ark_Unpack.mono _ _ _ _)
   | (with_reducible exact gaugerlaw35_awake.mono _)
   | (with_reducible exact gaugerlaw35_great.mono _ _ _ _)
   | (with_reducible exact gaugerlaw35_same.mono _ _ _)
   | (with_reducible exact LeO.refl _)
   | (with_reducible exact LeO.none _)
   | (with_reducible refine LeO.ite ?_ ?_)
   | (with_reducible refine LeO.bind ?_ (fun _ => ?_))
   | exact ih0 _ _ _ _ _ _
   | exact ih1 _ _ _ _
   | exact ih2 _ _ _ _ _ _ _
   | exact ark_Pack.mono _ _ _ _
   | exact ark_Unpack.mono _ _ _ _
   | exact gaugerlaw35_awake.mono _
   | exact gaugerlaw35_great.mono _ _ _ _
   | exact gaugerlaw35_same.mono _ _ _
   | exact LeO.none _
   | refine LeO.ite ?_ ?_
   | refine LeO.bind ?_ (fun _ => ?_)
  ·intro y0 y1 y2 y3 y4 y5 y6
   unfold gaugerlaw35_ArkBack.j2
   repeat' first
   | (with_reducible exact ih0 _ _ _ _ _ _)
   | (with_reducible exact ih1 _ _ _ _)
   | (with_reducible exact ih2 _ _ _ _ _ _ _)
   | (with_reducible exact ark_Pack.mono _ _ _ _)
   | (with_reducible exact ark_Unpack.mono _ _ _ _)
   | (with_reducible exact gaugerlaw35_awake.mono _)
   | (with_reducible exact gaugerlaw35_great.mono _ _ _ _)
   | (with_reducible exact gaugerlaw35_same.mono _ _ _)
   | (with_reducible exact LeO.refl _)
   | (with_reducible exact LeO.none _)
   | (with_reducible refine LeO.ite ?_ ?_)
   | (with_reducible refine LeO.bind ?_ (fun _ => ?_))
   | exact ih0 _ _ _ _ _ _
   | exact ih1 _ _ _ _
   | exact ih2 _ _ _ _ _ _ _
   | exact ark_Pack.mono _ _ _ _
   | exact ark_Unpack.mono _ _ _ _
   | exact gaugerlaw35_awake.mono _
   | exact gaugerlaw35_great.mono _ _ _ _
   | exact gaugerlaw35_same.mono _ _ _
   | exact LeO.none _
   | refine LeO.ite ?_ ?_
   | refine LeO.bind ?_ (fun _ => ?_)
theorem gaugerlaw35_ArkBack.mono : ∀ a0 a1 a2 a3 a4 k, LeO (gaugerlaw35_ArkBack.f k a0 a1 a2 a3 a4) (gaugerlaw35_ArkBack.f (k + 1) a0 a1 a2 a3 a4) := by
 intro a0 a1 a2 a3 a4 k
 obtain ⟨ih0, ih1, ih2⟩ := gaugerlaw35_ArkBack.mono_l k
 unfold gaugerlaw35_ArkBack.f
 repeat' first
   | (with_reducible exact ih0 _ _ _ _ _ _)
   | (with_reducible exact ih1 _ _ _ _)
   | (with_reducible exact ih2 _ _ _ _ _ _ _)
   | (with_reducible exact ark_Pack.mono _ _ _ _)
   | (with_reducible exact ark_Unpack.mono _ _ _ _)
   | (with_reducible exact gaugerlaw35_awake.mono _)
   | (with_reducible exact gaugerlaw35_great.mono _ _ _ _)
   | (with_reducible exact gaugerlaw35_same.mono _ _ _)
   | (with_reducible exact LeO.refl _)
   | (with_reducible exact LeO.none _)
   | (with_reducible refine LeO.ite ?_ ?_)
   | (with_reducible refine LeO.bind ?_ (fun _ => ?_))
   | exact ih0 _ _ _ _ _ _
   | exact ih1 _ _ _ _
   | exact ih2 _ _ _ _ _ _ _
   | exact ark_Pack.mono _ _ _ _
   | exact ark_Unpack.mono _ _ _ _
   | exact gaugerlaw35_awake.mono _
   | exact gaugerlaw35_great.mono _ _ _ _
   | exact gaugerlaw35_same.mono _ _ _
   | exact LeO.none _
   | refine LeO.ite ?_ ?_
   | refine LeO.bind ?_ (fun _ => ?_)
set_option maxHeartbeats 8000000 in
set_option maxRecDepth 100000 in
theorem gaugerlaw35_ArkBack.calls (k : Nat) (A0_0 : Option Addr) (c0_0 : Nat) (l0_0 : List (S134)) (A0_1 : Option Addr) (c0_1 : Nat) (l0_1 : List (S137)) (A1 : Option Addr) (c1 : Nat) (l1 : List (List (List (S140)))) (A2 : Option Addr) (c2 : Nat) (l2 : List (List (List (S140)))) (a3 : ByteArray) (r : Bool) (w : World) (hr0_0 : Kd.C k134 w A0_0 l0_0.length l0_0) (hc0_0 : l0_0.length ≤ c0_0) (hr0_1 : Kd.C k137 w A0_1 l0_1.length l0_1) (hc0_1 : l0_1.length ≤ c0_1) (hr1 : Kd.C (Kd.slice 138 (Kd.slice 140 k140)) w A1 l1.length l1) (hc1 : l1.length ≤ c1) (hr2 : Kd.C (Kd.slice 138 (Kd.slice 140 k140)) w A2 l2.length l2) (hc2 : l2.length ≤ c2) (h : gaugerlaw35_ArkBack.f k l0_0 l0_1 l1 l2 a3 = some r) :
  Calls Try.prog 9 #[.agg #[.slice A0_0 l0_0.length c0_0, .slice A0_1 l0_1.length c0_1], .slice A1 l1.length c1, .slice A2 l2.length c2, .string a3] w fun e w' => e = .returned (.bool r) ∧ Below w.heap.size w w' := by
 have hu79 := Try.underlying79
 have HR0_0 := Aside0.mk hr0_0
 have HC0_0 := Aside0.mk hc0_0
 clear hr0_0 hc0_0
 have HR0_1 := Aside0.mk hr0_1
 have HC0_1 := Aside0.mk hc0_1
 clear hr0_1 hc0_1
 have HR1 := Aside0.mk hr1
 have HC1 := Aside0.mk hc1
 clear hr1 hc1
 have HR2 := Aside0.mk hr2
 have HC2 := Aside0.mk hc2
 clear hr2 hc2
 have HB := Aside0.mk (Below.refl w.heap.size w)
 have H : ((gaugerlaw35_awake.f k).bind fun t201 => (if t201 = true then ((gaugerlaw35_great.f k l0_0 l0_1 l1).bind fun t202 => (if t202 = true then (gaugerlaw35_ArkBack.j0 k l1 l2 a3 true l0_0 l0_1) else ((gaugerlaw35_great.f k l0_0 l0_1 l2).bind fun t203 => (if t203 = true then (gaugerlaw35_ArkBack.j0 k l1 l2 a3 true l0_0 l0_1) else (gaugerlaw35_ArkBack.j0 k l1 l2 a3 (decide ((a3.size : Int) > 2048)) l0_0 l0_1))))) else (some false))) = some r := h
 clear h
 replace H := Option.bind_eq_some_iff.mp H
 obtain ⟨t201, A50, H⟩ := H
 replace H : (if t201 = true then ((gaugerlaw35_great.f k l0_0 l0_1 l1).bind fun t202 => (if t202 = true then (gaugerlaw35_ArkBack.j0 k l1 l2 a3 true l0_0 l0_1) else ((gaugerlaw35_great.f k l0_0 l0_1 l2).bind fun t203 => (if t203 = true then (gaugerlaw35_ArkBack.j0 k l1 l2 a3 true l0_0 l0_1) else (gaugerlaw35_ArkBack.j0 k l1 l2 a3 (decide ((a3.size : Int) > 2048)) l0_0 l0_1))))) else (some false)) = some r := H
 have A5 := Aside0.mk A50
 clear A50
 by_cases c6 : t201 = true
 ·subst c6
  have H1 : ((gaugerlaw35_great.f k l0_0 l0_1 l1).bind fun t202 => (if t202 = true then (gaugerlaw35_ArkBack.j0 k l1 l2 a3 true l0_0 l0_1) else ((gaugerlaw35_great.f k l0_0 l0_1 l2).bind fun t203 => (if t203 = true then (gaugerlaw35_ArkBack.j0 k l1 l2 a3 true l0_0 l0_1) else (gaugerlaw35_ArkBack.j0 k l1 l2 a3 (decide ((a3.size : Int) > 2048)) l0_0 l0_1))))) = some r := by rw [if_pos rfl] at H; exact H
  clear H
  have H := H1
  clear H1
  have HC7 := Aside0.mk H
  clear H
  go_enter Try.func9, Try.ntmps9
  go_upto_region 3 with (first | ((with_reducible refine gate_dst (N := 4) rfl ?_); (try (refine gate_guard (by rfl) ?_; dsimp only)); refine box_event ?hg (N := 4) ?hd (cs := #[.slice A0_0 l0_0.length c0_0, .slice A0_1 l0_1.length c0_1]) (t := 79) ?hr ?_; (case hd => rfl); (case hg => rfl); (case hr => first | (go_simp; done) | (go_simp; rfl)); intro gb200 hg w8 hbox hb; have n0_ := Aside0.mk (below_step (by repeat (first | (with_reducible first | exact HB.out | apply below_alloc | apply pw_below_drewN | apply below_drew1) | exact HB.out)) hb); have n1_ := Aside0.mk (hbox); have n2_ := Aside0.mk ((by rw [hg]; exact (below_size (by repeat (first | (with_reducible first | exact HB.out | apply below_alloc | apply pw_below_drewN | apply below_drew1) | exact HB.out))) : w.heap.size ≤ gb200)); have n3_ := Aside0.mk ((by rw [hg]; exact (below_size (by repeat (first | (with_reducible first | exact HB.out | apply below_alloc | apply pw_below_drewN | apply below_drew1) | exact HB.out))) : w.heap.size ≤ gb200)); clear HB; have HB := n0_; have BK200 := n1_; have GW200 := n2_; have GE200 := n3_; clear n0_ n1_ n2_ n3_; clear hb hbox hg) | ((with_reducible refine gate_callee (f := 35) rfl ?_); refine goesL_ (some 19) rfl rfl Try.func35 (by kernel_rfl) rfl #[] rfl (by (try simp only [List.map_toArray, List.map_cons, List.map_nil]); first | done | rfl | (simp only [List.length_drop, List.length_take]; rfl)) ?_; (with_reducible refine (gaugerlaw35_awake.calls k  true _ A5.out).mono ?_); rintro e w9 ⟨rfl, hb⟩; refine ⟨_, rfl, ?_⟩; have n0_ := Aside0.mk (blk_below (g := gb200) (o := .cells #[.slice A0_0 l0_0.length c0_0, .slice A0_1 l0_1.length c0_1] 79 (0, 0)) (by (with_reducible repeat (first | refine blk_drewN ?_ _ | refine blk_drew ?_ | refine blk_alloc ?_ _)); exact BK200.out) hb); have n1_ := Aside0.mk (below_step (by repeat (first | (with_reducible first | exact HB.out | apply below_alloc | apply pw_below_drewN | apply below_drew1 | refine below_set ?_ GE200.out) | exact HB.out)) hb); clear BK200; clear HB; have BK200 := n0_; have HB := n1_; clear n0_ n1_; (try clear hb); (try clear hb2); (try clear hk); (try clear hi)))
  (try simp only [Act.put, List.setIfInBounds_toArray, List.set_cons_zero, List.set_cons_succ])
  go_cut [33] (fun v33 wc => ∃ (kq : Nat) (x33_6 : Bool), v33 = .bool x33_6 ∧ Aside0 (gaugerlaw35_ArkBack.j0 kq l1 l2 a3 x33_6 l0_0 l0_1 = some r) ∧ Aside0 (kq ≤ k) ∧ Aside0 (wc.heap[gb200]? = some (.cells #[(.slice A0_0 l0_0.length c0_0), (.slice A0_1 l0_1.length c0_1)] 79 (0, 0))) ∧ Aside0 (Below w.heap.size w wc))
  case first =>
   have H := HC7.out
   clear HC7
   replace H := Option.bind_eq_some_iff.mp H
   obtain ⟨t202, A100, H⟩ := H
   replace H : (if t202 = true then (gaugerlaw35_ArkBack.j0 k l1 l2 a3 true l0_0 l0_1) else ((gaugerlaw35_great.f k l0_0 l0_1 l2).bind fun t203 => (if t203 = true then (gaugerlaw35_ArkBack.j0 k l1 l2 a3 true l0_0 l0_1) else (gaugerlaw35_ArkBack.j0 k l1 l2 a3 (decide ((a3.size : Int) > 2048)) l0_0 l0_1)))) = some r := H
   have A10 := Aside0.mk A100
   clear A100
   by_cases c11 : t202 = true
   ·subst c11
    have H1 : (gaugerlaw35_ArkBack.j0 k l1 l2 a3 true l0_0 l0_1) = some r := by rw [if_pos rfl] at H; exact H
    clear H
    have H := H1
    clear H1
    have H' := Aside0.mk H
    clear H
    have hcz12_0 : w9.cell? ⟨gb200, 0, none⟩ = some (.slice A0_0 l0_0.length c0_0) := (blk_cell BK200.out 0).trans rfl
    have hcz12_1 : w9.cell? ⟨gb200, 1, none⟩ = some (.slice A0_1 l0_1.length c0_1) := (blk_cell BK200.out 1).trans rfl
    have hfz12_0 := blk_frozen BK200.out 0
    have hfz12_1 := blk_frozen BK200.out 1
    go_wp2_with (first | ((with_reducible refine gate_callee (f := 36) rfl ?_); refine goesL_ (some 23) rfl rfl Try.func36 (by kernel_rfl) rfl #[.agg #[.slice A0_0 l0_0.length c0_0, .slice A0_1 l0_1.length c0_1], .slice A1 l1.length c1] rfl (by (try simp only [List.map_toArray, List.map_cons, List.map_nil]); first | done | rfl | (simp only [List.length_drop, List.length_take]; rfl)) ?_; (with_reducible refine (gaugerlaw35_great.calls k _ _ l0_0 _ _ l0_1 _ _ l1 true _ ?side1 ?side2 ?side3 ?side4 ?side5 ?side6 A10.out).mono ?_); (case side1 => repeat (first | exact (Kd.C_below HR0_0.out HB.out) | (with_reducible refine Kd.C_alloc ?_ _) | (with_reducible refine Kd.C_drewN ?_ _) | (with_reducible refine Kd.C_drew ?_))); (case side2 => exact HC0_0.out); (case side3 => repeat (first | exact (Kd.C_below HR0_1.out HB.out) | (with_reducible refine Kd.C_alloc ?_ _) | (with_reducible refine Kd.C_drewN ?_ _) | (with_reducible refine Kd.C_drew ?_))); (case side4 => exact HC0_1.out); (case side5 => repeat (first | exact (Kd.C_below HR1.out HB.out) | (with_reducible refine Kd.C_alloc ?_ _) | (with_reducible refine Kd.C_drewN ?_ _) | (with_reducible refine Kd.C_drew ?_))); (case side6 => exact HC1.out); rintro e w13 ⟨rfl, hb⟩; refine ⟨_, rfl, ?_⟩; have n0_ := Aside0.mk (blk_below (g := gb200) (o := .cells #[.slice A0_0 l0_0.length c0_0, .slice A0_1 l0_1.length c0_1] 79 (0, 0)) (by (with_reducible repeat (first | refine blk_drewN ?_ _ | refine blk_drew ?_ | refine blk_alloc ?_ _)); exact BK200.out) hb); have n1_ := Aside0.mk (below_step (by repeat (first | (with_reducible first | exact HB.out | apply below_alloc | apply pw_below_drewN | apply below_drew1 | refine below_set ?_ GE200.out) | exact HB.out)) hb); clear BK200; clear HB; have BK200 := n0_; have HB := n1_; clear n0_ n1_; (try clear hb); (try clear hb2); (try clear hk); (try clear hi)))
    go_meet
    case rel => exact ⟨_, (true), (by first | rfl | (simp; done) | (simp [*]; done)), H', ⟨by first | omega | exact Nat.le_refl _⟩, ⟨by (with_reducible repeat (first | refine blk_drewN ?_ _ | refine blk_drew ?_ | refine blk_alloc ?_ _)); exact BK200.out⟩, ⟨by repeat (first | (with_reducible first | exact HB.out | apply below_alloc | apply pw_below_drewN | apply below_drew1 | refine below_set ?_ GE200.out) | exact HB.out)⟩⟩
   ·replace c11 := Bool.eq_false_iff.mpr c11
    subst c11
    have H1 : ((gaugerlaw35_great.f k l0_0 l0_1 l2).bind fun t203 => (if t203 = true then (gaugerlaw35_ArkBack.j0 k l1 l2 a3 true l0_0 l0_1) else (gaugerlaw35_ArkBack.j0 k l1 l2 a3 (decide ((a3.size : Int) > 2048)) l0_0 l0_1))) = some r := by rw [if_neg (show ¬ (false = true) by decide)] at H; exact H
    clear H
    have H := H1
    clear H1
    replace H := Option.bind_eq_some_iff.mp H
    obtain ⟨t203, A140, H⟩ := H
    replace H : (if t203 = true then (gaugerlaw35_ArkBack.j0 k l1 l2 a3 true l0_0 l0_1) else (gaugerlaw35_ArkBack.j0 k l1 l2 a3 (decide ((a3.size : Int) > 2048)) l0_0 l0_1)) = some r := H
    have A14 := Aside0.mk A140
    clear A140
    by_cases c15 : t203 = true
    ·subst c15
     have H1 : (gaugerlaw35_ArkBack.j0 k l1 l2 a3 true l0_0 l0_1) = some r := by rw [if_pos rfl] at H; exact H
     clear H
     have H := H1
     clear H1
     have H' := Aside0.mk H
     clear H
     have hcz16_0 : w9.cell? ⟨gb200, 0, none⟩ = some (.slice A0_0 l0_0.length c0_0) := (blk_cell BK200.out 0).trans rfl
     have hcz16_1 : w9.cell? ⟨gb200, 1, none⟩ = some (.slice A0_1 l0_1.length c0_1) := (blk_cell BK200.out 1).trans rfl
     have hfz16_0 := blk_frozen BK200.out 0
     have hfz16_1 := blk_frozen BK200.out 1
     go_wp2_with (first | ((with_reducible refine gate_callee (f := 36) rfl ?_); refine goesL_ (some 23) rfl rfl Try.func36 (by kernel_rfl) rfl #[.agg #[.slice A0_0 l0_0.length c0_0, .slice A0_1 l0_1.length c0_1], .slice A1 l1.length c1] rfl (by (try simp only [List.map_toArray, List.map_cons, List.map_nil]); first | done | rfl | (simp only [List.length_drop, List.length_take]; rfl)) ?_; (with_reducible refine (gaugerlaw35_great.calls k _ _ l0_0 _ _ l0_1 _ _ l1 false _ ?side1 ?side2 ?side3 ?side4 ?side5 ?side6 A10.out).mono ?_); (case side1 => repeat (first | exact (Kd.C_below HR0_0.out HB.out) | (with_reducible refine Kd.C_alloc ?_ _) | (with_reducible refine Kd.C_drewN ?_ _) | (with_reducible refine Kd.C_drew ?_))); (case side2 => exact HC0_0.out); (case side3 => repeat (first | exact (Kd.C_below HR0_1.out HB.out) | (with_reducible refine Kd.C_alloc ?_ _) | (with_reducible refine Kd.C_drewN ?_ _) | (with_reducible refine Kd.C_drew ?_))); (case side4 => exact HC0_1.out); (case side5 => repeat (first | exact (Kd.C_below HR1.out HB.out) | (with_reducible refine Kd.C_alloc ?_ _) | (with_reducible refine Kd.C_drewN ?_ _) | (with_reducible refine Kd.C_drew ?_))); (case side6 => exact HC1.out); rintro e w17 ⟨rfl, hb⟩; refine ⟨_, rfl, ?_⟩; have n0_ := Aside0.mk (blk_below (g := gb200) (o := .cells #[.slice A0_0 l0_0.length c0_0, .slice A0_1 l0_1.length c0_1] 79 (0, 0)) (by (with_reducible repeat (first | refine blk_drewN ?_ _ | refine blk_drew ?_ | refine blk_alloc ?_ _)); exact BK200.out) hb); have n1_ := Aside0.mk (below_step (by repeat (first | (with_reducible first | exact HB.out | apply below_alloc | apply pw_below_drewN | apply below_drew1 | refine below_set ?_ GE200.out) | exact HB.out)) hb); clear BK200; clear HB; have BK200 := n0_; have HB := n1_; clear n0_ n1_; (try clear hb); (try clear hb2); (try clear hk); (try clear hi); have hcz18_0 : w17.cell? ⟨gb200, 0, none⟩ = some (.slice A0_0 l0_0.length c0_0) := (blk_cell BK200.out 0).trans rfl; have hcz18_1 : w17.cell? ⟨gb200, 1, none⟩ = some (.slice A0_1 l0_1.length c0_1) := (blk_cell BK200.out 1).trans rfl; have hfz18_0 := blk_frozen BK200.out 0; have hfz18_1 := blk_frozen BK200.out 1) | (go_at_call 36; (with_reducible refine (gaugerlaw35_great.calls k _ _ l0_0 _ _ l0_1 _ _ l2 true _ ?side1 ?side2 ?side3 ?side4 ?side5 ?side6 A14.out).mono ?_); (case side1 => repeat (first | exact (Kd.C_below HR0_0.out HB.out) | (with_reducible refine Kd.C_alloc ?_ _) | (with_reducible refine Kd.C_drewN ?_ _) | (with_reducible refine Kd.C_drew ?_))); (case side2 => exact HC0_0.out); (case side3 => repeat (first | exact (Kd.C_below HR0_1.out HB.out) | (with_reducible refine Kd.C_alloc ?_ _) | (with_reducible refine Kd.C_drewN ?_ _) | (with_reducible refine Kd.C_drew ?_))); (case side4 => exact HC0_1.out); (case side5 => repeat (first | exact (Kd.C_below HR2.out HB.out) | (with_reducible refine Kd.C_alloc ?_ _) | (with_reducible refine Kd.C_drewN ?_ _) | (with_reducible refine Kd.C_drew ?_))); (case side6 => exact HC2.out); rintro e w19 ⟨rfl, hb⟩; have n0_ := Aside0.mk (blk_below (g := gb200) (o := .cells #[.slice A0_0 l0_0.length c0_0, .slice A0_1 l0_1.length c0_1] 79 (0, 0)) (by (with_reducible repeat (first | refine blk_drewN ?_ _ | refine blk_drew ?_ | refine blk_alloc ?_ _)); exact BK200.out) hb); have n1_ := Aside0.mk (below_step (by repeat (first | (with_reducible first | exact HB.out | apply below_alloc | apply pw_below_drewN | apply below_drew1 | refine below_set ?_ GE200.out) | exact HB.out)) hb); clear BK200; clear HB; have BK200 := n0_; have HB := n1_; clear n0_ n1_; (try clear hb); (try clear hb2); (try clear hk); (try clear hi)))
     go_meet
     case rel => exact ⟨_, (true), (by first | rfl | (simp; done) | (simp [*]; done)), H', ⟨by first | omega | exact Nat.le_refl _⟩, ⟨by (with_reducible repeat (first | refine blk_drewN ?_ _ | refine blk_drew ?_ | refine blk_alloc ?_ _)); exact BK200.out⟩, ⟨by repeat (first | (with_reducible first | exact HB.out | apply below_alloc | apply pw_below_drewN | apply below_drew1 | refine below_set ?_ GE200.out) | exact HB.out)⟩⟩
    ·replace c15 := Bool.eq_false_iff.mpr c15
     subst c15
     have H1 : (gaugerlaw35_ArkBack.j0 k l1 l2 a3 (decide ((a3.size : Int) > 2048)) l0_0 l0_1) = some r := by rw [if_neg (show ¬ (false = true) by decide)] at H; exact H
     clear H
     have H := H1
     clear H1
     have H' := Aside0.mk H
     clear H
     have hcz20_0 : w9.cell? ⟨gb200, 0, none⟩ = some (.slice A0_0 l0_0.length c0_0) := (blk_cell BK200.out 0).trans rfl
     have hcz20_1 : w9.cell? ⟨gb200, 1, none⟩ = some (.slice A0_1 l0_1.length c0_1) := (blk_cell BK200.out 1).trans rfl
     have hfz20_0 := blk_frozen BK200.out 0
     have hfz20_1 := blk_frozen BK200.out 1
     go_wp2_with (first | ((with_reducible refine gate_callee (f := 36) rfl ?_); refine goesL_ (some 23) rfl rfl Try.func36 (by kernel_rfl) rfl #[.agg #[.slice A0_0 l0_0.length c0_0, .slice A0_1 l0_1.length c0_1], .slice A1 l1.length c1] rfl (by (try simp only [List.map_toArray, List.map_cons, List.map_nil]); first | done | rfl | (simp only [List.length_drop, List.length_take]; rfl)) ?_; (with_reducible refine (gaugerlaw35_great.calls k _ _ l0_0 _ _ l0_1 _ _ l1 false _ ?side1 ?side2 ?side3 ?side4 ?side5 ?side6 A10.out).mono ?_); (case side1 => repeat (first | exact (Kd.C_below HR0_0.out HB.out) | (with_reducible refine Kd.C_alloc ?_ _) | (with_reducible refine Kd.C_drewN ?_ _) | (with_reducible refine Kd.C_drew ?_))); (case side2 => exact HC0_0.out); (case side3 => repeat (first | exact (Kd.C_below HR0_1.out HB.out) | (with_reducible refine Kd.C_alloc ?_ _) | (with_reducible refine Kd.C_drewN ?_ _) | (with_reducible refine Kd.C_drew ?_))); (case side4 => exact HC0_1.out); (case side5 => repeat (first | exact (Kd.C_below HR1.out HB.out) | (with_reducible refine Kd.C_alloc ?_ _) | (with_reducible refine Kd.C_drewN ?_ _) | (with_reducible refine Kd.C_drew ?_))); (case side6 => exact HC1.out); rintro e w21 ⟨rfl, hb⟩; refine ⟨_, rfl, ?_⟩; have n0_ := Aside0.mk (blk_below (g := gb200) (o := .cells #[.slice A0_0 l0_0.length c0_0, .slice A0_1 l0_1.length c0_1] 79 (0, 0)) (by (with_reducible repeat (first | refine blk_drewN ?_ _ | refine blk_drew ?_ | refine blk_alloc ?_ _)); exact BK200.out) hb); have n1_ := Aside0.mk (below_step (by repeat (first | (with_reducible first | exact HB.out | apply below_alloc | apply pw_below_drewN | apply below_drew1 | refine below_set ?_ GE200.out) | exact HB.out)) hb); clear BK200; clear HB; have BK200 := n0_; have HB := n1_; clear n0_ n1_; (try clear hb); (try clear hb2); (try clear hk); (try clear hi); have hcz22_0 : w21.cell? ⟨gb200, 0, none⟩ = some (.slice A0_0 l0_0.length c0_0) := (blk_cell BK200.out 0).trans rfl; have hcz22_1 : w21.cell? ⟨gb200, 1, none⟩ = some (.slice A0_1 l0_1.length c0_1) := (blk_cell BK200.out 1).trans rfl; have hfz22_0 := blk_frozen BK200.out 0; have hfz22_1 := blk_frozen BK200.out 1) | (go_at_call 36; (with_reducible refine (gaugerlaw35_great.calls k _ _ l0_0 _ _ l0_1 _ _ l2 false _ ?side1 ?side2 ?side3 ?side4 ?side5 ?side6 A14.out).mono ?_); (case side1 => repeat (first | exact (Kd.C_below HR0_0.out HB.out) | (with_reducible refine Kd.C_alloc ?_ _) | (with_reducible refine Kd.C_drewN ?_ _) | (with_reducible refine Kd.C_drew ?_))); (case side2 => exact HC0_0.out); (case side3 => repeat (first | exact (Kd.C_below HR0_1.out HB.out) | (with_reducible refine Kd.C_alloc ?_ _) | (with_reducible refine Kd.C_drewN ?_ _) | (with_reducible refine Kd.C_drew ?_))); (case side4 => exact HC0_1.out); (case side5 => repeat (first | exact (Kd.C_below HR2.out HB.out) | (with_reducible refine Kd.C_alloc ?_ _) | (with_reducible refine Kd.C_drewN ?_ _) | (with_reducible refine Kd.C_drew ?_))); (case side6 => exact HC2.out); rintro e w23 ⟨rfl, hb⟩; have n0_ := Aside0.mk (blk_below (g := gb200) (o := .cells #[.slice A0_0 l0_0.length c0_0, .slice A0_1 l0_1.length c0_1] 79 (0, 0)) (by (with_reducible repeat (first | refine blk_drewN ?_ _ | refine blk_drew ?_ | refine blk_alloc ?_ _)); exact BK200.out) hb); have n1_ := Aside0.mk (below_step (by repeat (first | (with_reducible first | exact HB.out | apply below_alloc | apply pw_below_drewN | apply below_drew1 | refine below_set ?_ GE200.out) | exact HB.out)) hb); clear BK200; clear HB; have BK200 := n0_; have HB := n1_; clear n0_ n1_; (try clear hb); (try clear hb2); (try clear hk); (try clear hi)))
     go_meet
     case rel => exact ⟨_, (decide ((a3.size : Int) > 2048)), (by first | rfl | (simp; done) | (simp [*]; done)), H', ⟨by first | omega | exact Nat.le_refl _⟩, ⟨by (with_reducible repeat (first | refine blk_drewN ?_ _ | refine blk_drew ?_ | refine blk_alloc ?_ _)); exact BK200.out⟩, ⟨by repeat (first | (with_reducible first | exact HB.out | apply below_alloc | apply pw_below_drewN | apply below_drew1 | refine below_set ?_ GE200.out) | exact HB.out)⟩⟩
  case rest =>
   clear HC7
   (try clear c1); (try clear c2); (try clear p2); (try clear c3); (try clear c6); (try clear c9); (try clear c11); (try clear c15); (try clear hcz12_0); (try clear hcz12_1); (try clear hcz16_0); (try clear hcz16_1); (try clear hcz18_0); (try clear hcz18_1); (try clear hcz20_0); (try clear hcz20_1); (try clear hcz22_0); (try clear hcz22_1); (try clear hfz12_0); (try clear hfz12_1); (try clear hfz16_0); (try clear hfz16_1); (try clear hfz18_0); (try clear hfz18_1); (try clear hfz20_0); (try clear hfz20_1); (try clear hfz22_0); (try clear hfz22_1)
   obtain ⟨kq, x33_6, rfl, HA, HJ6, BK200, HB⟩ := hcut
   cases kq with
   | zero => exact absurd HA.out (by simp [gaugerlaw35_ArkBack.j0])
   | succ kj6 =>
    have H := HA.out
    clear HA
    simp only [gaugerlaw35_ArkBack.j0] at H
    by_cases c24 : x33_6 = true
    ·subst c24
     have H1 : (some true) = some r := by rw [if_pos rfl] at H; exact H
     clear H
     have H := H1
     clear H1
     obtain rfl := Option.some.inj H
     go_wp2
     go_ret
     exact ⟨by first | rfl | (simp [errW_none, errW_some] <;> rfl) | (simp [*, errW_none, errW_some] <;> rfl), by repeat (first | (with_reducible first | exact HB.out | apply below_alloc | apply pw_below_drewN | apply below_drew1 | refine below_set ?_ GE200.out) | exact HB.out)⟩
    ·replace c24 := Bool.eq_false_iff.mpr c24
     subst c24
     have H1 : ((ark_Unpack.f kj6 l0_0 l0_1 a3).bind fun bt204 => (if bt204.2 = 0 then ((ark_Pack.f kj6 l0_0 l0_1 bt204.1).bind fun bt208 => (if bt208.2 = 0 then (if bt208.1.toList = a3.toList then (gaugerlaw35_ArkBack.j1 kj6 l1 l2 l0_0 l0_1) else (some false)) else (some false))) else (gaugerlaw35_ArkBack.j1 kj6 l1 l2 l0_0 l0_1))) = some r := by rw [if_neg (show ¬ (false = true) by decide)] at H; exact H
     clear H
     have H := H1
     clear H1
     replace H := Option.bind_eq_some_iff.mp H
     obtain ⟨⟨t204, t207⟩, A250, H⟩ := H
     replace H : (if t207 = 0 then ((ark_Pack.f kj6 l0_0 l0_1 t204).bind fun bt208 => (if bt208.2 = 0 then (if bt208.1.toList = a3.toList then (gaugerlaw35_ArkBack.j1 kj6 l1 l2 l0_0 l0_1) else (some false)) else (some false))) else (gaugerlaw35_ArkBack.j1 kj6 l1 l2 l0_0 l0_1)) = some r := H
     have A25 := Aside0.mk A250
     clear A250
     have HC26 := Aside0.mk H
     clear H
     have hcz27_0 : wc.cell? ⟨gb200, 0, none⟩ = some (.slice A0_0 l0_0.length c0_0) := (blk_cell BK200.out 0).trans rfl
     have hcz27_1 : wc.cell? ⟨gb200, 1, none⟩ = some (.slice A0_1 l0_1.length c0_1) := (blk_cell BK200.out 1).trans rfl
     have hfz27_0 := blk_frozen BK200.out 0
     have hfz27_1 := blk_frozen BK200.out 1
     go_upto_if 41 with (first | ((with_reducible refine gate_callee (f := 40) rfl ?_); refine goesL_ (some 37) rfl rfl Try.func40 (by kernel_rfl) rfl #[.agg #[.slice A0_0 l0_0.length c0_0, .slice A0_1 l0_1.length c0_1], .string a3] rfl (by (try simp only [List.map_toArray, List.map_cons, List.map_nil]); first | done | rfl | (simp only [List.length_drop, List.length_take]; rfl)) ?_; (with_reducible refine (ark_Unpack.calls kj6 _ _ l0_0 _ _ l0_1 a3 t204 t207 _ ?side1 ?side2 ?side3 ?side4 A25.out).mono ?_); (case side1 => repeat (first | exact (Kd.C_below HR0_0.out HB.out) | (with_reducible refine Kd.C_alloc ?_ _) | (with_reducible refine Kd.C_drewN ?_ _) | (with_reducible refine Kd.C_drew ?_))); (case side2 => exact HC0_0.out); (case side3 => repeat (first | exact (Kd.C_below HR0_1.out HB.out) | (with_reducible refine Kd.C_alloc ?_ _) | (with_reducible refine Kd.C_drewN ?_ _) | (with_reducible refine Kd.C_drew ?_))); (case side4 => exact HC0_1.out); rintro e w28 ⟨v205, rfl, ho0, hb⟩; refine ⟨_, rfl, ?_⟩; have n0_ := Aside0.mk (Kd.R_lower ho0 (below_size (by repeat (first | (with_reducible first | exact HB.out | apply below_alloc | apply pw_below_drewN | apply below_drew1 | refine below_set ?_ GE200.out) | exact HB.out)))); have n1_ := Aside0.mk (blk_below (g := gb200) (o := .cells #[.slice A0_0 l0_0.length c0_0, .slice A0_1 l0_1.length c0_1] 79 (0, 0)) (by (with_reducible repeat (first | refine blk_drewN ?_ _ | refine blk_drew ?_ | refine blk_alloc ?_ _)); exact BK200.out) hb); have n2_ := Aside0.mk (below_step (by repeat (first | (with_reducible first | exact HB.out | apply below_alloc | apply pw_below_drewN | apply below_drew1 | refine below_set ?_ GE200.out) | exact HB.out)) hb); clear BK200; clear HB; have HO206 := n0_; have BK200 := n1_; have HB := n2_; clear n0_ n1_ n2_; (try clear hb); (try clear hb2); (try clear hk); (try clear hi); (try clear ho0)))
     (try simp only [Act.put, List.setIfInBounds_toArray, List.set_cons_zero, List.set_cons_succ])
     go_cut [] (fun wc => ∃ (kq : Nat), Aside0 (gaugerlaw35_ArkBack.j1 kq l1 l2 l0_0 l0_1 = some r) ∧ Aside0 (kq ≤ kj6) ∧ Aside0 (wc.heap[gb200]? = some (.cells #[(.slice A0_0 l0_0.length c0_0), (.slice A0_1 l0_1.length c0_1)] 79 (0, 0))) ∧ Aside0 (Below w.heap.size w wc))
     case first =>
      have H := HC26.out
      clear HC26
      by_cases c29 : t207 = 0
      ·rw [if_pos c29] at H
       have c29b0 : (t207 == 0) = true := beq_iff_eq.mpr c29
       have c29b1 : (t207 != 0) = false := bne_eq_false_iff_eq.mpr c29
       clear c29
       (first | rw [c29b0] | (simp only [i64_w, i32_w]; rw [c29b0]) | skip)
       replace H := Option.bind_eq_some_iff.mp H
       obtain ⟨⟨t208, t209⟩, A300, H⟩ := H
       replace H : (if t209 = 0 then (if t208.toList = a3.toList then (gaugerlaw35_ArkBack.j1 kj6 l1 l2 l0_0 l0_1) else (some false)) else (some false)) = some r := H
       have A30 := Aside0.mk A300
       clear A300
       by_cases c31 : t209 = 0
       ·rw [if_pos c31] at H
        have c31b0 : (t209 == 0) = true := beq_iff_eq.mpr c31
        have c31b1 : (t209 != 0) = false := bne_eq_false_iff_eq.mpr c31
        clear c31
        by_cases c32 : t208.toList = a3.toList
        ·rw [if_pos c32] at H
         have c32b0 : (t208.toList == a3.toList) = true := beq_iff_eq.mpr c32
         have c32b1 : (t208.toList != a3.toList) = false := bne_eq_false_iff_eq.mpr c32
         clear c32
         have H' := Aside0.mk H
         clear H
         have hcz33_0 : w28.cell? ⟨gb200, 0, none⟩ = some (.slice A0_0 l0_0.length c0_0) := (blk_cell BK200.out 0).trans rfl
         have hcz33_1 : w28.cell? ⟨gb200, 1, none⟩ = some (.slice A0_1 l0_1.length c0_1) := (blk_cell BK200.out 1).trans rfl
         have hfz33_0 := blk_frozen BK200.out 0
         have hfz33_1 := blk_frozen BK200.out 1
         obtain ⟨Ao34, co34, eo34⟩ := Kd.R_slice HO206.out
         subst eo34
         go_wp2_with (first | ((with_reducible refine gate_callee (f := 37) rfl ?_); refine goesL_ (some 45) rfl rfl Try.func37 (by kernel_rfl) rfl #[.agg #[.slice A0_0 l0_0.length c0_0, .slice A0_1 l0_1.length c0_1], .slice Ao34 t204.length co34] rfl (by (try simp only [List.map_toArray, List.map_cons, List.map_nil]); first | done | rfl | (simp only [List.length_drop, List.length_take]; rfl)) ?_; (with_reducible refine (ark_Pack.calls kj6 _ _ l0_0 _ _ l0_1 _ _ t204 t208 t209 _ ?side1 ?side2 ?side3 ?side4 ?side5 ?side6 A30.out).mono ?_); (case side1 => repeat (first | exact (Kd.C_below HR0_0.out HB.out) | (with_reducible refine Kd.C_alloc ?_ _) | (with_reducible refine Kd.C_drewN ?_ _) | (with_reducible refine Kd.C_drew ?_))); (case side2 => exact HC0_0.out); (case side3 => repeat (first | exact (Kd.C_below HR0_1.out HB.out) | (with_reducible refine Kd.C_alloc ?_ _) | (with_reducible refine Kd.C_drewN ?_ _) | (with_reducible refine Kd.C_drew ?_))); (case side4 => exact HC0_1.out); (case side5 => repeat (first | exact (Kd.R_reads' HO206.out).2.2 | (with_reducible refine Kd.C_alloc ?_ _) | (with_reducible refine Kd.C_drewN ?_ _) | (with_reducible refine Kd.C_drew ?_))); (case side6 => exact (Kd.R_reads' HO206.out).2.1); rintro e w35 ⟨rfl, hb⟩; refine ⟨_, rfl, ?_⟩; have n0_ := Aside0.mk (Kd.R_below (by (with_reducible repeat (first | apply Kd.R_alloc | apply Kd.R_drewN | apply Kd.R_drew)); exact HO206.out) hb); have n1_ := Aside0.mk (blk_below (g := gb200) (o := .cells #[.slice A0_0 l0_0.length c0_0, .slice A0_1 l0_1.length c0_1] 79 (0, 0)) (by (with_reducible repeat (first | refine blk_drewN ?_ _ | refine blk_drew ?_ | refine blk_alloc ?_ _)); exact BK200.out) hb); have n2_ := Aside0.mk (below_step (by repeat (first | (with_reducible first | exact HB.out | apply below_alloc | apply pw_below_drewN | apply below_drew1 | refine below_set ?_ GE200.out) | exact HB.out)) hb); clear HO206; clear BK200; clear HB; have HO206 := n0_; have BK200 := n1_; have HB := n2_; clear n0_ n1_ n2_; (try clear hb); (try clear hb2); (try clear hk); (try clear hi)))
         go_meet
         case rel => exact ⟨_, H', ⟨by have := HJ6.out; first | omega | exact Nat.le_refl _⟩, ⟨by (with_reducible repeat (first | refine blk_drewN ?_ _ | refine blk_drew ?_ | refine blk_alloc ?_ _)); exact BK200.out⟩, ⟨by repeat (first | (with_reducible first | exact HB.out | apply below_alloc | apply pw_below_drewN | apply below_drew1 | refine below_set ?_ GE200.out) | exact HB.out)⟩⟩
        ·rw [if_neg c32] at H
         have c32b0 : (t208.toList == a3.toList) = false := beq_eq_false_iff_ne.mpr c32
         have c32b1 : (t208.toList != a3.toList) = true := bne_iff_ne.mpr c32
         obtain rfl := Option.some.inj H
         have hcz36_0 : w28.cell? ⟨gb200, 0, none⟩ = some (.slice A0_0 l0_0.length c0_0) := (blk_cell BK200.out 0).trans rfl
         have hcz36_1 : w28.cell? ⟨gb200, 1, none⟩ = some (.slice A0_1 l0_1.length c0_1) := (blk_cell BK200.out 1).trans rfl
         have hfz36_0 := blk_frozen BK200.out 0
         have hfz36_1 := blk_frozen BK200.out 1
         obtain ⟨Ao37, co37, eo37⟩ := Kd.R_slice HO206.out
         subst eo37
         go_wp2_with (first | ((with_reducible refine gate_callee (f := 37) rfl ?_); refine goesL_ (some 45) rfl rfl Try.func37 (by kernel_rfl) rfl #[.agg #[.slice A0_0 l0_0.length c0_0, .slice A0_1 l0_1.length c0_1], .slice Ao37 t204.length co37] rfl (by (try simp only [List.map_toArray, List.map_cons, List.map_nil]); first | done | rfl | (simp only [List.length_drop, List.length_take]; rfl)) ?_; (with_reducible refine (ark_Pack.calls kj6 _ _ l0_0 _ _ l0_1 _ _ t204 t208 t209 _ ?side1 ?side2 ?side3 ?side4 ?side5 ?side6 A30.out).mono ?_); (case side1 => repeat (first | exact (Kd.C_below HR0_0.out HB.out) | (with_reducible refine Kd.C_alloc ?_ _) | (with_reducible refine Kd.C_drewN ?_ _) | (with_reducible refine Kd.C_drew ?_))); (case side2 => exact HC0_0.out); (case side3 => repeat (first | exact (Kd.C_below HR0_1.out HB.out) | (with_reducible refine Kd.C_alloc ?_ _) | (with_reducible refine Kd.C_drewN ?_ _) | (with_reducible refine Kd.C_drew ?_))); (case side4 => exact HC0_1.out); (case side5 => repeat (first | exact (Kd.R_reads' HO206.out).2.2 | (with_reducible refine Kd.C_alloc ?_ _) | (with_reducible refine Kd.C_drewN ?_ _) | (with_reducible refine Kd.C_drew ?_))); (case side6 => exact (Kd.R_reads' HO206.out).2.1); rintro e w38 ⟨rfl, hb⟩; refine ⟨_, rfl, ?_⟩; have n0_ := Aside0.mk (Kd.R_below (by (with_reducible repeat (first | apply Kd.R_alloc | apply Kd.R_drewN | apply Kd.R_drew)); exact HO206.out) hb); have n1_ := Aside0.mk (blk_below (g := gb200) (o := .cells #[.slice A0_0 l0_0.length c0_0, .slice A0_1 l0_1.length c0_1] 79 (0, 0)) (by (with_reducible repeat (first | refine blk_drewN ?_ _ | refine blk_drew ?_ | refine blk_alloc ?_ _)); exact BK200.out) hb); have n2_ := Aside0.mk (below_step (by repeat (first | (with_reducible first | exact HB.out | apply below_alloc | apply pw_below_drewN | apply below_drew1 | refine below_set ?_ GE200.out) | exact HB.out)) hb); clear HO206; clear BK200; clear HB; have HO206 := n0_; have BK200 := n1_; have HB := n2_; clear n0_ n1_ n2_; (try clear hb); (try clear hb2); (try clear hk); (try clear hi)))
         go_ret
         exact ⟨by first | rfl | (simp [errW_none, errW_some] <;> rfl) | (simp [*, errW_none, errW_some] <;> rfl), by repeat (first | (with_reducible first | exact HB.out | apply below_alloc | apply pw_below_drewN | apply below_drew1 | refine below_set ?_ GE200.out) | exact HB.out)⟩
       ·rw [if_neg c31] at H
        have c31b0 : (t209 == 0) = false := beq_eq_false_iff_ne.mpr c31
        have c31b1 : (t209 != 0) = true := bne_iff_ne.mpr c31
        obtain rfl := Option.some.inj H
        have hcz39_0 : w28.cell? ⟨gb200, 0, none⟩ = some (.slice A0_0 l0_0.length c0_0) := (blk_cell BK200.out 0).trans rfl
        have hcz39_1 : w28.cell? ⟨gb200, 1, none⟩ = some (.slice A0_1 l0_1.length c0_1) := (blk_cell BK200.out 1).trans rfl
        have hfz39_0 := blk_frozen BK200.out 0
        have hfz39_1 := blk_frozen BK200.out 1
        obtain ⟨Ao40, co40, eo40⟩ := Kd.R_slice HO206.out
        subst eo40
        go_wp2_with (first | ((with_reducible refine gate_callee (f := 37) rfl ?_); refine goesL_ (some 45) rfl rfl Try.func37 (by kernel_rfl) rfl #[.agg #[.slice A0_0 l0_0.length c0_0, .slice A0_1 l0_1.length c0_1], .slice Ao40 t204.length co40] rfl (by (try simp only [List.map_toArray, List.map_cons, List.map_nil]); first | done | rfl | (simp only [List.length_drop, List.length_take]; rfl)) ?_; (with_reducible refine (ark_Pack.calls kj6 _ _ l0_0 _ _ l0_1 _ _ t204 t208 t209 _ ?side1 ?side2 ?side3 ?side4 ?side5 ?side6 A30.out).mono ?_); (case side1 => repeat (first | exact (Kd.C_below HR0_0.out HB.out) | (with_reducible refine Kd.C_alloc ?_ _) | (with_reducible refine Kd.C_drewN ?_ _) | (with_reducible refine Kd.C_drew ?_))); (case side2 => exact HC0_0.out); (case side3 => repeat (first | exact (Kd.C_below HR0_1.out HB.out) | (with_reducible refine Kd.C_alloc ?_ _) | (with_reducible refine Kd.C_drewN ?_ _) | (with_reducible refine Kd.C_drew ?_))); (case side4 => exact HC0_1.out); (case side5 => repeat (first | exact (Kd.R_reads' HO206.out).2.2 | (with_reducible refine Kd.C_alloc ?_ _) | (with_reducible refine Kd.C_drewN ?_ _) | (with_reducible refine Kd.C_drew ?_))); (case side6 => exact (Kd.R_reads' HO206.out).2.1); rintro e w41 ⟨rfl, hb⟩; refine ⟨_, rfl, ?_⟩; have n0_ := Aside0.mk (Kd.R_below (by (with_reducible repeat (first | apply Kd.R_alloc | apply Kd.R_drewN | apply Kd.R_drew)); exact HO206.out) hb); have n1_ := Aside0.mk (blk_below (g := gb200) (o := .cells #[.slice A0_0 l0_0.length c0_0, .slice A0_1 l0_1.length c0_1] 79 (0, 0)) (by (with_reducible repeat (first | refine blk_drewN ?_ _ | refine blk_drew ?_ | refine blk_alloc ?_ _)); exact BK200.out) hb); have n2_ := Aside0.mk (below_step (by repeat (first | (with_reducible first | exact HB.out | apply below_alloc | apply pw_below_drewN | apply below_drew1 | refine below_set ?_ GE200.out) | exact HB.out)) hb); clear HO206; clear BK200; clear HB; have HO206 := n0_; have BK200 := n1_; have HB := n2_; clear n0_ n1_ n2_; (try clear hb); (try clear hb2); (try clear hk); (try clear hi)))
        go_ret
        exact ⟨by first | rfl | (simp [errW_none, errW_some] <;> rfl) | (simp [*, errW_none, errW_some] <;> rfl), by repeat (first | (with_reducible first | exact HB.out | apply below_alloc | apply pw_below_drewN | apply below_drew1 | refine below_set ?_ GE200.out) | exact HB.out)⟩
      ·rw [if_neg c29] at H
       have c29b0 : (t207 == 0) = false := beq_eq_false_iff_ne.mpr c29
       have c29b1 : (t207 != 0) = true := bne_iff_ne.mpr c29
       (first | rw [c29b0] | (simp only [i64_w, i32_w]; rw [c29b0]) | skip)
       have H' := Aside0.mk H
       clear H
       go_wp2
       go_meet
       case rel => exact ⟨_, H', ⟨by have := HJ6.out; first | omega | exact Nat.le_refl _⟩, ⟨by (with_reducible repeat (first | refine blk_drewN ?_ _ | refine blk_drew ?_ | refine blk_alloc ?_ _)); exact BK200.out⟩, ⟨by repeat (first | (with_reducible first | exact HB.out | apply below_alloc | apply pw_below_drewN | apply below_drew1 | refine below_set ?_ GE200.out) | exact HB.out)⟩⟩
     case rest =>
      clear HC26
      (try clear c1); (try clear c2); (try clear p2); (try clear c3); (try clear c4); (try clear c6); (try clear c9); (try clear c11); (try clear c15); (try clear c24); (try clear c29); (try clear c29b0); (try clear c29b1); (try clear c31); (try clear c31b0); (try clear c31b1); (try clear c32); (try clear c32b0); (try clear c32b1); (try clear c35); (try clear c36); (try clear c37); (try clear c40); (try clear hcz12_0); (try clear hcz12_1); (try clear hcz16_0); (try clear hcz16_1); (try clear hcz18_0); (try clear hcz18_1); (try clear hcz20_0); (try clear hcz20_1); (try clear hcz22_0); (try clear hcz22_1); (try clear hcz27_0); (try clear hcz27_1); (try clear hcz33_0); (try clear hcz33_1); (try clear hcz36_0); (try clear hcz36_1); (try clear hcz39_0); (try clear hcz39_1); (try clear hfz12_0); (try clear hfz12_1); (try clear hfz16_0); (try clear hfz16_1); (try clear hfz18_0); (try clear hfz18_1); (try clear hfz20_0); (try clear hfz20_1); (try clear hfz22_0); (try clear hfz22_1); (try clear hfz27_0); (try clear hfz27_1); (try clear hfz33_0); (try clear hfz33_1); (try clear hfz36_0); (try clear hfz36_1); (try clear hfz39_0); (try clear hfz39_1); (try clear p2)
      obtain ⟨kq, HA, HJ25, BK200, HB⟩ := hcut
      cases kq with
      | zero => exact absurd HA.out (by simp [gaugerlaw35_ArkBack.j1])
      | succ kj25 =>
       have H := HA.out
       clear HA
       simp only [gaugerlaw35_ArkBack.j1] at H
       replace H := Option.bind_eq_some_iff.mp H
       obtain ⟨⟨t210, t211⟩, A420, H⟩ := H
       replace H : ((ark_Pack.f kj25 l0_0 l0_1 l2).bind fun bt212 => (if t211 = 0 then (gaugerlaw35_ArkBack.j2 kj25 l1 l2 t210 bt212.1 (bt212.2 != 0) l0_0 l0_1) else (gaugerlaw35_ArkBack.j2 kj25 l1 l2 t210 bt212.1 true l0_0 l0_1))) = some r := H
       have A42 := Aside0.mk A420
       clear A420
       replace H := Option.bind_eq_some_iff.mp H
       obtain ⟨⟨t212, t213⟩, A430, H⟩ := H
       replace H : (if t211 = 0 then (gaugerlaw35_ArkBack.j2 kj25 l1 l2 t210 t212 (t213 != 0) l0_0 l0_1) else (gaugerlaw35_ArkBack.j2 kj25 l1 l2 t210 t212 true l0_0 l0_1)) = some r := H
       have A43 := Aside0.mk A430
       clear A430
       have HC44 := Aside0.mk H
       clear H
       have hcz45_0 : wc.cell? ⟨gb200, 0, none⟩ = some (.slice A0_0 l0_0.length c0_0) := (blk_cell BK200.out 0).trans rfl
       have hcz45_1 : wc.cell? ⟨gb200, 1, none⟩ = some (.slice A0_1 l0_1.length c0_1) := (blk_cell BK200.out 1).trans rfl
       have hfz45_0 := blk_frozen BK200.out 0
       have hfz45_1 := blk_frozen BK200.out 1
       go_upto_region 12 with (first | ((with_reducible refine gate_callee (f := 37) rfl ?_); refine goesL_ (some 58) rfl rfl Try.func37 (by kernel_rfl) rfl #[.agg #[.slice A0_0 l0_0.length c0_0, .slice A0_1 l0_1.length c0_1], .slice A1 l1.length c1] rfl (by (try simp only [List.map_toArray, List.map_cons, List.map_nil]); first | done | rfl | (simp only [List.length_drop, List.length_take]; rfl)) ?_; (with_reducible refine (ark_Pack.calls kj25 _ _ l0_0 _ _ l0_1 _ _ l1 t210 t211 _ ?side1 ?side2 ?side3 ?side4 ?side5 ?side6 A42.out).mono ?_); (case side1 => repeat (first | exact (Kd.C_below HR0_0.out HB.out) | (with_reducible refine Kd.C_alloc ?_ _) | (with_reducible refine Kd.C_drewN ?_ _) | (with_reducible refine Kd.C_drew ?_))); (case side2 => exact HC0_0.out); (case side3 => repeat (first | exact (Kd.C_below HR0_1.out HB.out) | (with_reducible refine Kd.C_alloc ?_ _) | (with_reducible refine Kd.C_drewN ?_ _) | (with_reducible refine Kd.C_drew ?_))); (case side4 => exact HC0_1.out); (case side5 => repeat (first | exact (Kd.C_below HR1.out HB.out) | (with_reducible refine Kd.C_alloc ?_ _) | (with_reducible refine Kd.C_drewN ?_ _) | (with_reducible refine Kd.C_drew ?_))); (case side6 => exact HC1.out); rintro e w46 ⟨rfl, hb⟩; refine ⟨_, rfl, ?_⟩; have n0_ := Aside0.mk (blk_below (g := gb200) (o := .cells #[.slice A0_0 l0_0.length c0_0, .slice A0_1 l0_1.length c0_1] 79 (0, 0)) (by (with_reducible repeat (first | refine blk_drewN ?_ _ | refine blk_drew ?_ | refine blk_alloc ?_ _)); exact BK200.out) hb); have n1_ := Aside0.mk (below_step (by repeat (first | (with_reducible first | exact HB.out | apply below_alloc | apply pw_below_drewN | apply below_drew1 | refine below_set ?_ GE200.out) | exact HB.out)) hb); clear BK200; clear HB; have BK200 := n0_; have HB := n1_; clear n0_ n1_; (try clear hb); (try clear hb2); (try clear hk); (try clear hi); have hcz47_0 : w46.cell? ⟨gb200, 0, none⟩ = some (.slice A0_0 l0_0.length c0_0) := (blk_cell BK200.out 0).trans rfl; have hcz47_1 : w46.cell? ⟨gb200, 1, none⟩ = some (.slice A0_1 l0_1.length c0_1) := (blk_cell BK200.out 1).trans rfl; have hfz47_0 := blk_frozen BK200.out 0; have hfz47_1 := blk_frozen BK200.out 1) | ((with_reducible refine gate_callee (f := 37) rfl ?_); refine goesL_ (some 64) rfl rfl Try.func37 (by kernel_rfl) rfl #[.agg #[.slice A0_0 l0_0.length c0_0, .slice A0_1 l0_1.length c0_1], .slice A2 l2.length c2] rfl (by (try simp only [List.map_toArray, List.map_cons, List.map_nil]); first | done | rfl | (simp only [List.length_drop, List.length_take]; rfl)) ?_; (with_reducible refine (ark_Pack.calls kj25 _ _ l0_0 _ _ l0_1 _ _ l2 t212 t213 _ ?side1 ?side2 ?side3 ?side4 ?side5 ?side6 A43.out).mono ?_); (case side1 => repeat (first | exact (Kd.C_below HR0_0.out HB.out) | (with_reducible refine Kd.C_alloc ?_ _) | (with_reducible refine Kd.C_drewN ?_ _) | (with_reducible refine Kd.C_drew ?_))); (case side2 => exact HC0_0.out); (case side3 => repeat (first | exact (Kd.C_below HR0_1.out HB.out) | (with_reducible refine Kd.C_alloc ?_ _) | (with_reducible refine Kd.C_drewN ?_ _) | (with_reducible refine Kd.C_drew ?_))); (case side4 => exact HC0_1.out); (case side5 => repeat (first | exact (Kd.C_below HR2.out HB.out) | (with_reducible refine Kd.C_alloc ?_ _) | (with_reducible refine Kd.C_drewN ?_ _) | (with_reducible refine Kd.C_drew ?_))); (case side6 => exact HC2.out); rintro e w48 ⟨rfl, hb⟩; refine ⟨_, rfl, ?_⟩; have n0_ := Aside0.mk (blk_below (g := gb200) (o := .cells #[.slice A0_0 l0_0.length c0_0, .slice A0_1 l0_1.length c0_1] 79 (0, 0)) (by (with_reducible repeat (first | refine blk_drewN ?_ _ | refine blk_drew ?_ | refine blk_alloc ?_ _)); exact BK200.out) hb); have n1_ := Aside0.mk (below_step (by repeat (first | (with_reducible first | exact HB.out | apply below_alloc | apply pw_below_drewN | apply below_drew1 | refine below_set ?_ GE200.out) | exact HB.out)) hb); clear BK200; clear HB; have BK200 := n0_; have HB := n1_; clear n0_ n1_; (try clear hb); (try clear hb2); (try clear hk); (try clear hi)))
       (try simp only [Act.put, List.setIfInBounds_toArray, List.set_cons_zero, List.set_cons_succ])
       go_cut [72] (fun v72 wc => ∃ (kq : Nat) (x72_43 : Bool), v72 = .bool x72_43 ∧ Aside0 (gaugerlaw35_ArkBack.j2 kq l1 l2 t210 t212 x72_43 l0_0 l0_1 = some r) ∧ Aside0 (kq ≤ kj25) ∧ Aside0 (wc.heap[gb200]? = some (.cells #[(.slice A0_0 l0_0.length c0_0), (.slice A0_1 l0_1.length c0_1)] 79 (0, 0))) ∧ Aside0 (Below w.heap.size w wc))
       case first =>
        have H := HC44.out
        clear HC44
        by_cases c49 : t211 = 0
        ·rw [if_pos c49] at H
         have c49b0 : (t211 == 0) = true := beq_iff_eq.mpr c49
         have c49b1 : (t211 != 0) = false := bne_eq_false_iff_eq.mpr c49
         clear c49
         (first | rw [c49b0] | (simp only [i64_w, i32_w]; rw [c49b0]) | skip)
         have H' := Aside0.mk H
         clear H
         go_wp2
         go_meet
         case rel => exact ⟨_, ((t213 != 0)), (by first | rfl | (simp; done) | (simp [*]; done)), H', ⟨by have := HJ6.out; have := HJ25.out; first | omega | exact Nat.le_refl _⟩, ⟨by (with_reducible repeat (first | refine blk_drewN ?_ _ | refine blk_drew ?_ | refine blk_alloc ?_ _)); exact BK200.out⟩, ⟨by repeat (first | (with_reducible first | exact HB.out | apply below_alloc | apply pw_below_drewN | apply below_drew1 | refine below_set ?_ GE200.out) | exact HB.out)⟩⟩
        ·rw [if_neg c49] at H
         have c49b0 : (t211 == 0) = false := beq_eq_false_iff_ne.mpr c49
         have c49b1 : (t211 != 0) = true := bne_iff_ne.mpr c49
         (first | rw [c49b0] | (simp only [i64_w, i32_w]; rw [c49b0]) | skip)
         have H' := Aside0.mk H
         clear H
         go_wp2
         go_meet
         case rel => exact ⟨_, (true), (by first | rfl | (simp; done) | (simp [*]; done)), H', ⟨by have := HJ6.out; have := HJ25.out; first | omega | exact Nat.le_refl _⟩, ⟨by (with_reducible repeat (first | refine blk_drewN ?_ _ | refine blk_drew ?_ | refine blk_alloc ?_ _)); exact BK200.out⟩, ⟨by repeat (first | (with_reducible first | exact HB.out | apply below_alloc | apply pw_below_drewN | apply below_drew1 | refine below_set ?_ GE200.out) | exact HB.out)⟩⟩
       case rest =>
        clear HC44
        (try clear c1); (try clear c2); (try clear p2); (try clear c3); (try clear c4); (try clear c6); (try clear c9); (try clear c11); (try clear c15); (try clear c24); (try clear c29); (try clear c29b0); (try clear c29b1); (try clear c31); (try clear c31b0); (try clear c31b1); (try clear c32); (try clear c32b0); (try clear c32b1); (try clear c35); (try clear c36); (try clear c37); (try clear c40); (try clear c49); (try clear c49b0); (try clear c49b1); (try clear hcz12_0); (try clear hcz12_1); (try clear hcz16_0); (try clear hcz16_1); (try clear hcz18_0); (try clear hcz18_1); (try clear hcz20_0); (try clear hcz20_1); (try clear hcz22_0); (try clear hcz22_1); (try clear hcz27_0); (try clear hcz27_1); (try clear hcz33_0); (try clear hcz33_1); (try clear hcz36_0); (try clear hcz36_1); (try clear hcz39_0); (try clear hcz39_1); (try clear hcz45_0); (try clear hcz45_1); (try clear hcz47_0); (try clear hcz47_1); (try clear hfz12_0); (try clear hfz12_1); (try clear hfz16_0); (try clear hfz16_1); (try clear hfz18_0); (try clear hfz18_1); (try clear hfz20_0); (try clear hfz20_1); (try clear hfz22_0); (try clear hfz22_1); (try clear hfz27_0); (try clear hfz27_1); (try clear hfz33_0); (try clear hfz33_1); (try clear hfz36_0); (try clear hfz36_1); (try clear hfz39_0); (try clear hfz39_1); (try clear hfz45_0); (try clear hfz45_1); (try clear hfz47_0); (try clear hfz47_1); (try clear p2)
        obtain ⟨kq, x72_43, rfl, HA, HJ43, BK200, HB⟩ := hcut
        cases kq with
        | zero => exact absurd HA.out (by simp [gaugerlaw35_ArkBack.j2])
        | succ kj43 =>
         have H := HA.out
         clear HA
         simp only [gaugerlaw35_ArkBack.j2] at H
         by_cases c50 : x72_43 = true
         ·subst c50
          have H1 : (some true) = some r := by rw [if_pos rfl] at H; exact H
          clear H
          have H := H1
          clear H1
          obtain rfl := Option.some.inj H
          go_wp2
          go_ret
          exact ⟨by first | rfl | (simp [errW_none, errW_some] <;> rfl) | (simp [*, errW_none, errW_some] <;> rfl), by repeat (first | (with_reducible first | exact HB.out | apply below_alloc | apply pw_below_drewN | apply below_drew1 | refine below_set ?_ GE200.out) | exact HB.out)⟩
         ·replace c50 := Bool.eq_false_iff.mpr c50
          subst c50
          have H1 : ((ark_Unpack.f kj43 l0_0 l0_1 t210).bind fun bt214 => (if bt214.2 = 0 then ((gaugerlaw35_same.f kj43 bt214.1 l1).bind fun t218 => (if t218 = true then ((gaugerlaw35_same.f kj43 l1 l2).bind fun t219 => (some ((t210.toList == t212.toList) == t219))) else (some false))) else (some false))) = some r := by rw [if_neg (show ¬ (false = true) by decide)] at H; exact H
          clear H
          have H := H1
          clear H1
          replace H := Option.bind_eq_some_iff.mp H
          obtain ⟨⟨t214, t217⟩, A510, H⟩ := H
          replace H : (if t217 = 0 then ((gaugerlaw35_same.f kj43 t214 l1).bind fun t218 => (if t218 = true then ((gaugerlaw35_same.f kj43 l1 l2).bind fun t219 => (some ((t210.toList == t212.toList) == t219))) else (some false))) else (some false)) = some r := H
          have A51 := Aside0.mk A510
          clear A510
          by_cases c52 : t217 = 0
          ·rw [if_pos c52] at H
           have c52b0 : (t217 == 0) = true := beq_iff_eq.mpr c52
           have c52b1 : (t217 != 0) = false := bne_eq_false_iff_eq.mpr c52
           clear c52
           replace H := Option.bind_eq_some_iff.mp H
           obtain ⟨t218, A530, H⟩ := H
           replace H : (if t218 = true then ((gaugerlaw35_same.f kj43 l1 l2).bind fun t219 => (some ((t210.toList == t212.toList) == t219))) else (some false)) = some r := H
           have A53 := Aside0.mk A530
           clear A530
           by_cases c54 : t218 = true
           ·subst c54
            have H1 : ((gaugerlaw35_same.f kj43 l1 l2).bind fun t219 => (some ((t210.toList == t212.toList) == t219))) = some r := by rw [if_pos rfl] at H; exact H
            clear H
            have H := H1
            clear H1
            replace H := Option.bind_eq_some_iff.mp H
            obtain ⟨t219, A550, H⟩ := H
            replace H : (some ((t210.toList == t212.toList) == t219)) = some r := H
            have A55 := Aside0.mk A550
            clear A550
            obtain rfl := Option.some.inj H
            have hcz56_0 : wc.cell? ⟨gb200, 0, none⟩ = some (.slice A0_0 l0_0.length c0_0) := (blk_cell BK200.out 0).trans rfl
            have hcz56_1 : wc.cell? ⟨gb200, 1, none⟩ = some (.slice A0_1 l0_1.length c0_1) := (blk_cell BK200.out 1).trans rfl
            have hfz56_0 := blk_frozen BK200.out 0
            have hfz56_1 := blk_frozen BK200.out 1
            go_wp2_with (first | ((with_reducible refine gate_callee (f := 40) rfl ?_); refine goesL_ (some 76) rfl rfl Try.func40 (by kernel_rfl) rfl #[.agg #[.slice A0_0 l0_0.length c0_0, .slice A0_1 l0_1.length c0_1], .string t210] rfl (by (try simp only [List.map_toArray, List.map_cons, List.map_nil]); first | done | rfl | (simp only [List.length_drop, List.length_take]; rfl)) ?_; (with_reducible refine (ark_Unpack.calls kj43 _ _ l0_0 _ _ l0_1 t210 t214 t217 _ ?side1 ?side2 ?side3 ?side4 A51.out).mono ?_); (case side1 => repeat (first | exact (Kd.C_below HR0_0.out HB.out) | (with_reducible refine Kd.C_alloc ?_ _) | (with_reducible refine Kd.C_drewN ?_ _) | (with_reducible refine Kd.C_drew ?_))); (case side2 => exact HC0_0.out); (case side3 => repeat (first | exact (Kd.C_below HR0_1.out HB.out) | (with_reducible refine Kd.C_alloc ?_ _) | (with_reducible refine Kd.C_drewN ?_ _) | (with_reducible refine Kd.C_drew ?_))); (case side4 => exact HC0_1.out); rintro e w57 ⟨v215, rfl, ho0, hb⟩; refine ⟨_, rfl, ?_⟩; have n0_ := Aside0.mk (Kd.R_lower ho0 (below_size (by repeat (first | (with_reducible first | exact HB.out | apply below_alloc | apply pw_below_drewN | apply below_drew1 | refine below_set ?_ GE200.out) | exact HB.out)))); have n1_ := Aside0.mk (blk_below (g := gb200) (o := .cells #[.slice A0_0 l0_0.length c0_0, .slice A0_1 l0_1.length c0_1] 79 (0, 0)) (by (with_reducible repeat (first | refine blk_drewN ?_ _ | refine blk_drew ?_ | refine blk_alloc ?_ _)); exact BK200.out) hb); have n2_ := Aside0.mk (below_step (by repeat (first | (with_reducible first | exact HB.out | apply below_alloc | apply pw_below_drewN | apply below_drew1 | refine below_set ?_ GE200.out) | exact HB.out)) hb); clear BK200; clear HB; have HO216 := n0_; have BK200 := n1_; have HB := n2_; clear n0_ n1_ n2_; (try clear hb); (try clear hb2); (try clear hk); (try clear hi); (try clear ho0); obtain ⟨Ao58, co58, eo58⟩ := Kd.R_slice HO216.out; subst eo58) | (go_at_call 42; (with_reducible refine (gaugerlaw35_same.calls kj43 _ _ t214 _ _ l1 true _ ?side1 ?side2 ?side3 ?side4 A53.out).mono ?_); (case side1 => repeat (first | exact (Kd.R_reads' HO216.out).2.2 | (with_reducible refine Kd.C_alloc ?_ _) | (with_reducible refine Kd.C_drewN ?_ _) | (with_reducible refine Kd.C_drew ?_))); (case side2 => exact (Kd.R_reads' HO216.out).2.1); (case side3 => repeat (first | exact (Kd.C_below HR1.out HB.out) | (with_reducible refine Kd.C_alloc ?_ _) | (with_reducible refine Kd.C_drewN ?_ _) | (with_reducible refine Kd.C_drew ?_))); (case side4 => exact HC1.out); rintro e w59 ⟨rfl, hb⟩; have n0_ := Aside0.mk (Kd.R_below (by (with_reducible repeat (first | apply Kd.R_alloc | apply Kd.R_drewN | apply Kd.R_drew)); exact HO216.out) hb); have n1_ := Aside0.mk (blk_below (g := gb200) (o := .cells #[.slice A0_0 l0_0.length c0_0, .slice A0_1 l0_1.length c0_1] 79 (0, 0)) (by (with_reducible repeat (first | refine blk_drewN ?_ _ | refine blk_drew ?_ | refine blk_alloc ?_ _)); exact BK200.out) hb); have n2_ := Aside0.mk (below_step (by repeat (first | (with_reducible first | exact HB.out | apply below_alloc | apply pw_below_drewN | apply below_drew1 | refine below_set ?_ GE200.out) | exact HB.out)) hb); clear HO216; clear BK200; clear HB; have HO216 := n0_; have BK200 := n1_; have HB := n2_; clear n0_ n1_ n2_; (try clear hb); (try clear hb2); (try clear hk); (try clear hi)) | (go_at_call 42; (with_reducible refine (gaugerlaw35_same.calls kj43 _ _ l1 _ _ l2 t219 _ ?side1 ?side2 ?side3 ?side4 A55.out).mono ?_); (case side1 => repeat (first | exact (Kd.C_below HR1.out HB.out) | (with_reducible refine Kd.C_alloc ?_ _) | (with_reducible refine Kd.C_drewN ?_ _) | (with_reducible refine Kd.C_drew ?_))); (case side2 => exact HC1.out); (case side3 => repeat (first | exact (Kd.C_below HR2.out HB.out) | (with_reducible refine Kd.C_alloc ?_ _) | (with_reducible refine Kd.C_drewN ?_ _) | (with_reducible refine Kd.C_drew ?_))); (case side4 => exact HC2.out); rintro e w60 ⟨rfl, hb⟩; have n0_ := Aside0.mk (Kd.R_below (by (with_reducible repeat (first | apply Kd.R_alloc | apply Kd.R_drewN | apply Kd.R_drew)); exact HO216.out) hb); have n1_ := Aside0.mk (blk_below (g := gb200) (o := .cells #[.slice A0_0 l0_0.length c0_0, .slice A0_1 l0_1.length c0_1] 79 (0, 0)) (by (with_reducible repeat (first | refine blk_drewN ?_ _ | refine blk_drew ?_ | refine blk_alloc ?_ _)); exact BK200.out) hb); have n2_ := Aside0.mk (below_step (by repeat (first | (with_reducible first | exact HB.out | apply below_alloc | apply pw_below_drewN | apply below_drew1 | refine below_set ?_ GE200.out) | exact HB.out)) hb); clear HO216; clear BK200; clear HB; have HO216 := n0_; have BK200 := n1_; have HB := n2_; clear n0_ n1_ n2_; (try clear hb); (try clear hb2); (try clear hk); (try clear hi)))
            go_ret
            exact ⟨by first | rfl | (simp [errW_none, errW_some] <;> rfl) | (simp [*, errW_none, errW_some] <;> rfl), by repeat (first | (with_reducible first | exact HB.out | apply below_alloc | apply pw_below_drewN | apply below_drew1 | refine below_set ?_ GE200.out) | exact HB.out)⟩
           ·replace c54 := Bool.eq_false_iff.mpr c54
            subst c54
            have H1 : (some false) = some r := by rw [if_neg (show ¬ (false = true) by decide)] at H; exact H
            clear H
            have H := H1
            clear H1
            obtain rfl := Option.some.inj H
            have hcz61_0 : wc.cell? ⟨gb200, 0, none⟩ = some (.slice A0_0 l0_0.length c0_0) := (blk_cell BK200.out 0).trans rfl
            have hcz61_1 : wc.cell? ⟨gb200, 1, none⟩ = some (.slice A0_1 l0_1.length c0_1) := (blk_cell BK200.out 1).trans rfl
            have hfz61_0 := blk_frozen BK200.out 0
            have hfz61_1 := blk_frozen BK200.out 1
            go_wp2_with (first | ((with_reducible refine gate_callee (f := 40) rfl ?_); refine goesL_ (some 76) rfl rfl Try.func40 (by kernel_rfl) rfl #[.agg #[.slice A0_0 l0_0.length c0_0, .slice A0_1 l0_1.length c0_1], .string t210] rfl (by (try simp only [List.map_toArray, List.map_cons, List.map_nil]); first | done | rfl | (simp only [List.length_drop, List.length_take]; rfl)) ?_; (with_reducible refine (ark_Unpack.calls kj43 _ _ l0_0 _ _ l0_1 t210 t214 t217 _ ?side1 ?side2 ?side3 ?side4 A51.out).mono ?_); (case side1 => repeat (first | exact (Kd.C_below HR0_0.out HB.out) | (with_reducible refine Kd.C_alloc ?_ _) | (with_reducible refine Kd.C_drewN ?_ _) | (with_reducible refine Kd.C_drew ?_))); (case side2 => exact HC0_0.out); (case side3 => repeat (first | exact (Kd.C_below HR0_1.out HB.out) | (with_reducible refine Kd.C_alloc ?_ _) | (with_reducible refine Kd.C_drewN ?_ _) | (with_reducible refine Kd.C_drew ?_))); (case side4 => exact HC0_1.out); rintro e w62 ⟨v215, rfl, ho0, hb⟩; refine ⟨_, rfl, ?_⟩; have n0_ := Aside0.mk (Kd.R_lower ho0 (below_size (by repeat (first | (with_reducible first | exact HB.out | apply below_alloc | apply pw_below_drewN | apply below_drew1 | refine below_set ?_ GE200.out) | exact HB.out)))); have n1_ := Aside0.mk (blk_below (g := gb200) (o := .cells #[.slice A0_0 l0_0.length c0_0, .slice A0_1 l0_1.length c0_1] 79 (0, 0)) (by (with_reducible repeat (first | refine blk_drewN ?_ _ | refine blk_drew ?_ | refine blk_alloc ?_ _)); exact BK200.out) hb); have n2_ := Aside0.mk (below_step (by repeat (first | (with_reducible first | exact HB.out | apply below_alloc | apply pw_below_drewN | apply below_drew1 | refine below_set ?_ GE200.out) | exact HB.out)) hb); clear BK200; clear HB; have HO216 := n0_; have BK200 := n1_; have HB := n2_; clear n0_ n1_ n2_; (try clear hb); (try clear hb2); (try clear hk); (try clear hi); (try clear ho0); obtain ⟨Ao63, co63, eo63⟩ := Kd.R_slice HO216.out; subst eo63) | (go_at_call 42; (with_reducible refine (gaugerlaw35_same.calls kj43 _ _ t214 _ _ l1 false _ ?side1 ?side2 ?side3 ?side4 A53.out).mono ?_); (case side1 => repeat (first | exact (Kd.R_reads' HO216.out).2.2 | (with_reducible refine Kd.C_alloc ?_ _) | (with_reducible refine Kd.C_drewN ?_ _) | (with_reducible refine Kd.C_drew ?_))); (case side2 => exact (Kd.R_reads' HO216.out).2.1); (case side3 => repeat (first | exact (Kd.C_below HR1.out HB.out) | (with_reducible refine Kd.C_alloc ?_ _) | (with_reducible refine Kd.C_drewN ?_ _) | (with_reducible refine Kd.C_drew ?_))); (case side4 => exact HC1.out); rintro e w64 ⟨rfl, hb⟩; have n0_ := Aside0.mk (Kd.R_below (by (with_reducible repeat (first | apply Kd.R_alloc | apply Kd.R_drewN | apply Kd.R_drew)); exact HO216.out) hb); have n1_ := Aside0.mk (blk_below (g := gb200) (o := .cells #[.slice A0_0 l0_0.length c0_0, .slice A0_1 l0_1.length c0_1] 79 (0, 0)) (by (with_reducible repeat (first | refine blk_drewN ?_ _ | refine blk_drew ?_ | refine blk_alloc ?_ _)); exact BK200.out) hb); have n2_ := Aside0.mk (below_step (by repeat (first | (with_reducible first | exact HB.out | apply below_alloc | apply pw_below_drewN | apply below_drew1 | refine below_set ?_ GE200.out) | exact HB.out)) hb); clear HO216; clear BK200; clear HB; have HO216 := n0_; have BK200 := n1_; have HB := n2_; clear n0_ n1_ n2_; (try clear hb); (try clear hb2); (try clear hk); (try clear hi)))
            go_ret
            exact ⟨by first | rfl | (simp [errW_none, errW_some] <;> rfl) | (simp [*, errW_none, errW_some] <;> rfl), by repeat (first | (with_reducible first | exact HB.out | apply below_alloc | apply pw_below_drewN | apply below_drew1 | refine below_set ?_ GE200.out) | exact HB.out)⟩
          ·rw [if_neg c52] at H
           have c52b0 : (t217 == 0) = false := beq_eq_false_iff_ne.mpr c52
           have c52b1 : (t217 != 0) = true := bne_iff_ne.mpr c52
           obtain rfl := Option.some.inj H
           have hcz65_0 : wc.cell? ⟨gb200, 0, none⟩ = some (.slice A0_0 l0_0.length c0_0) := (blk_cell BK200.out 0).trans rfl
           have hcz65_1 : wc.cell? ⟨gb200, 1, none⟩ = some (.slice A0_1 l0_1.length c0_1) := (blk_cell BK200.out 1).trans rfl
           have hfz65_0 := blk_frozen BK200.out 0
           have hfz65_1 := blk_frozen BK200.out 1
           go_wp2_with (first | ((with_reducible refine gate_callee (f := 40) rfl ?_); refine goesL_ (some 76) rfl rfl Try.func40 (by kernel_rfl) rfl #[.agg #[.slice A0_0 l0_0.length c0_0, .slice A0_1 l0_1.length c0_1], .string t210] rfl (by (try simp only [List.map_toArray, List.map_cons, List.map_nil]); first | done | rfl | (simp only [List.length_drop, List.length_take]; rfl)) ?_; (with_reducible refine (ark_Unpack.calls kj43 _ _ l0_0 _ _ l0_1 t210 t214 t217 _ ?side1 ?side2 ?side3 ?side4 A51.out).mono ?_); (case side1 => repeat (first | exact (Kd.C_below HR0_0.out HB.out) | (with_reducible refine Kd.C_alloc ?_ _) | (with_reducible refine Kd.C_drewN ?_ _) | (with_reducible refine Kd.C_drew ?_))); (case side2 => exact HC0_0.out); (case side3 => repeat (first | exact (Kd.C_below HR0_1.out HB.out) | (with_reducible refine Kd.C_alloc ?_ _) | (with_reducible refine Kd.C_drewN ?_ _) | (with_reducible refine Kd.C_drew ?_))); (case side4 => exact HC0_1.out); rintro e w66 ⟨v215, rfl, ho0, hb⟩; refine ⟨_, rfl, ?_⟩; have n0_ := Aside0.mk (Kd.R_lower ho0 (below_size (by repeat (first | (with_reducible first | exact HB.out | apply below_alloc | apply pw_below_drewN | apply below_drew1 | refine below_set ?_ GE200.out) | exact HB.out)))); have n1_ := Aside0.mk (blk_below (g := gb200) (o := .cells #[.slice A0_0 l0_0.length c0_0, .slice A0_1 l0_1.length c0_1] 79 (0, 0)) (by (with_reducible repeat (first | refine blk_drewN ?_ _ | refine blk_drew ?_ | refine blk_alloc ?_ _)); exact BK200.out) hb); have n2_ := Aside0.mk (below_step (by repeat (first | (with_reducible first | exact HB.out | apply below_alloc | apply pw_below_drewN | apply below_drew1 | refine below_set ?_ GE200.out) | exact HB.out)) hb); clear BK200; clear HB; have HO216 := n0_; have BK200 := n1_; have HB := n2_; clear n0_ n1_ n2_; (try clear hb); (try clear hb2); (try clear hk); (try clear hi); (try clear ho0)))
           go_ret
           exact ⟨by first | rfl | (simp [errW_none, errW_some] <;> rfl) | (simp [*, errW_none, errW_some] <;> rfl), by repeat (first | (with_reducible first | exact HB.out | apply below_alloc | apply pw_below_drewN | apply below_drew1 | refine below_set ?_ GE200.out) | exact HB.out)⟩
 ·replace c6 := Bool.eq_false_iff.mpr c6
  subst c6
  have H1 : (some false) = some r := by rw [if_neg (show ¬ (false = true) by decide)] at H; exact H
  clear H
  have H := H1
  clear H1
  obtain rfl := Option.some.inj H
  go_enter Try.func9, Try.ntmps9
  go_wp2_with (first | ((with_reducible refine gate_dst (N := 4) rfl ?_); (try (refine gate_guard (by rfl) ?_; dsimp only)); refine box_event ?hg (N := 4) ?hd (cs := #[.slice A0_0 l0_0.length c0_0, .slice A0_1 l0_1.length c0_1]) (t := 79) ?hr ?_; (case hd => rfl); (case hg => rfl); (case hr => first | (go_simp; done) | (go_simp; rfl)); intro gb200 hg w67 hbox hb; have n0_ := Aside0.mk (below_step (by repeat (first | (with_reducible first | exact HB.out | apply below_alloc | apply pw_below_drewN | apply below_drew1) | exact HB.out)) hb); have n1_ := Aside0.mk (hbox); have n2_ := Aside0.mk ((by rw [hg]; exact (below_size (by repeat (first | (with_reducible first | exact HB.out | apply below_alloc | apply pw_below_drewN | apply below_drew1) | exact HB.out))) : w.heap.size ≤ gb200)); have n3_ := Aside0.mk ((by rw [hg]; exact (below_size (by repeat (first | (with_reducible first | exact HB.out | apply below_alloc | apply pw_below_drewN | apply below_drew1) | exact HB.out))) : w.heap.size ≤ gb200)); clear HB; have HB := n0_; have BK200 := n1_; have GW200 := n2_; have GE200 := n3_; clear n0_ n1_ n2_ n3_; clear hb hbox hg) | ((with_reducible refine gate_callee (f := 35) rfl ?_); refine goesL_ (some 19) rfl rfl Try.func35 (by kernel_rfl) rfl #[] rfl (by (try simp only [List.map_toArray, List.map_cons, List.map_nil]); first | done | rfl | (simp only [List.length_drop, List.length_take]; rfl)) ?_; (with_reducible refine (gaugerlaw35_awake.calls k  false _ A5.out).mono ?_); rintro e w68 ⟨rfl, hb⟩; refine ⟨_, rfl, ?_⟩; have n0_ := Aside0.mk (blk_below (g := gb200) (o := .cells #[.slice A0_0 l0_0.length c0_0, .slice A0_1 l0_1.length c0_1] 79 (0, 0)) (by (with_reducible repeat (first | refine blk_drewN ?_ _ | refine blk_drew ?_ | refine blk_alloc ?_ _)); exact BK200.out) hb); have n1_ := Aside0.mk (below_step (by repeat (first | (with_reducible first | exact HB.out | apply below_alloc | apply pw_below_drewN | apply below_drew1 | refine below_set ?_ GE200.out) | exact HB.out)) hb); clear BK200; clear HB; have BK200 := n0_; have HB := n1_; clear n0_ n1_; (try clear hb); (try clear hb2); (try clear hk); (try clear hi)))
  go_ret
  exact ⟨by first | rfl | (simp [errW_none, errW_some] <;> rfl) | (simp [*, errW_none, errW_some] <;> rfl), by repeat (first | (with_reducible first | exact HB.out | apply below_alloc | apply pw_below_drewN | apply below_drew1 | refine below_set ?_ GE200.out) | exact HB.out)⟩

end Go.Proofs.Ytkcckhlchjmkkaa.PArk
