-- PRINTED by print.py, called for this group
import Derived.Test.YtkcckhlchjmkkaaPMarkRd0
namespace Go.Proofs.Ytkcckhlchjmkkaa.PMark
open Go.RowKit Go.Proofs.YtkcckhlchjmkkaaW.PrintWords Go.Proofs.YtkcckhlchjmkkaaW.PrintLast Go.Proofs.YtkcckhlchjmkkaaW.PrintMore
set_option linter.unusedVariables false
set_option linter.unusedSimpArgs false
set_option maxHeartbeats 8000000 in
set_option maxRecDepth 100000 in
theorem gaugerref22_Read.calls (k : Nat) (A0 : Option Addr) (c0 : Nat) (l0 : List (S53)) (A1 : Option Addr) (c1 : Nat) (l1 : List Int) (r1 : Int) (r2 : List (S55)) (r3 : Int) (r4 : List Int) (w : World) (hr0 : Kd.C k53 w A0 l0.length l0) (hc0 : l0.length ≤ c0) (hr1 : Kd.C (Kd.int .i64) w A1 l1.length l1) (hc1 : l1.length ≤ c1) (h : gaugerref22_Read.f k l0 l1 = some (r1, r2, r3, r4)) :
  Calls Try.prog 33 #[.slice A0 l0.length c0, .slice A1 l1.length c1] w fun e w' => ∃ v1_ v3_ : Value, e = .returned (.agg #[.int .i64 r1, v1_, .int .i64 r3, v3_]) ∧ Kd.R k55 55 w' w.heap.size (fun _ => True) v1_ r2 ∧ Kd.R (Kd.int .i64) 3 w' w.heap.size (fun _ => True) v3_ r4 ∧ Below w.heap.size w w' := by
 have VL := Try.underlying61
 have VM := Try.underlying55
 have VN := Try.underlying53
 have HR0 := Aside0.mk hr0
 have HC0 := Aside0.mk hc0
 clear hr0 hc0
 have HR1 := Aside0.mk hr1
 have HC1 := Aside0.mk hc1
 clear hr1 hc1
 have HB := Aside0.mk (Below.refl w.heap.size w)
 have H : (gaugerref22_Read.l0 k l0 l1 (-1) 0 0 1 ([] : List Int)) = some (r1, r2, r3, r4) := h
 clear h
 have H' := Aside0.mk H
 clear H
 go_enter Try.func33, Try.ntmps33
 go_wp2_with (first | ((with_reducible refine gate_dst (N := 4) rfl ?_); refine box_event ?hg (N := 4) ?hd (cs := #[.int .i64 0, .slice none 0 0, .int .i64 0, .slice none 0 0]) (t := 61) ?hr ?_; (case hd => rfl); (case hg => rfl); (case hr => first | (go_simp; done) | (go_simp; rfl)); intro AY hg w3 hbox hb; have n0_ := Aside0.mk (below_step (by repeat (first | (with_reducible first|exact HB.out|apply below_alloc|apply pw_below_drewN|apply below_drew1)|exact HB.out)) hb); have n1_ := Aside0.mk (hbox); have n2_ := Aside0.mk ((by rw [hg]; exact (below_size (by repeat (first | (with_reducible first|exact HB.out|apply below_alloc|apply pw_below_drewN|apply below_drew1)|exact HB.out))) : w.heap.size ≤ AY)); have n3_ := Aside0.mk ((by rw [hg]; exact (below_size (by repeat (first | (with_reducible first|exact HB.out|apply below_alloc|apply pw_below_drewN|apply below_drew1)|exact HB.out))) : w.heap.size ≤ AY)); clear HB; have HB := n0_; have AG := n1_; have Uc := n2_; have AX := n3_; clear n0_ n1_ n2_ n3_; clear hb hbox hg) | ((with_reducible refine gate_dst (N := 5) rfl ?_); refine box_event ?hg (N := 5) ?hd (cs := #[.int .i64 0, .slice none 0 0, .int .i64 0, .slice none 0 0]) (t := 61) ?hr ?_; (case hd => rfl); (case hg => rfl); (case hr => first | (go_simp; done) | (go_simp; rfl)); intro AC hg w4 hbox hb; have n0_ := Aside0.mk (blk_below (g := AY) (o := .cells #[.int .i64 0, .slice none 0 0, .int .i64 0, .slice none 0 0] 61 (0, 0)) (by (with_reducible repeat (first|refine dn_ ?_ _|refine dr_ ?_|refine al_ ?_ _)); exact AG.out) hb); have n1_ := Aside0.mk (below_step (by repeat (first | (with_reducible first|exact HB.out|apply below_alloc|apply pw_below_drewN|apply below_drew1|refine below_set ?_ AX.out)|exact HB.out)) hb); have n2_ := Aside0.mk (hbox); have n3_ := Aside0.mk ((by rw [hg]; exact (below_size (by repeat (first | (with_reducible first|exact HB.out|apply below_alloc|apply pw_below_drewN|apply below_drew1|refine below_set ?_ AX.out)|exact HB.out))) : w.heap.size ≤ AC)); have n4_ := Aside0.mk ((by rw [hg]; exact (below_size (by repeat (first | (with_reducible first|exact HB.out|apply below_alloc|apply pw_below_drewN|apply below_drew1|refine below_set ?_ AX.out)|exact HB.out))) : w.heap.size ≤ AC)); have n5_ := Aside0.mk ((by rw [hg]; exact Nat.ne_of_lt (blk_lt (g := AY) (o := .cells #[.int .i64 0, .slice none 0 0, .int .i64 0, .slice none 0 0] 61 (0, 0)) (by (with_reducible repeat (first|refine dn_ ?_ _|refine dr_ ?_|refine al_ ?_ _)); exact AG.out)) : AY ≠ AC)); have n6_ := Aside0.mk ((by rw [hg]; exact Nat.ne_of_gt (blk_lt (g := AY) (o := .cells #[.int .i64 0, .slice none 0 0, .int .i64 0, .slice none 0 0] 61 (0, 0)) (by (with_reducible repeat (first|refine dn_ ?_ _|refine dr_ ?_|refine al_ ?_ _)); exact AG.out)) : AC ≠ AY)); clear AG; clear HB; have AG := n0_; have HB := n1_; have AB := n2_; have JR := n3_; have AZ := n4_; have AQ := n5_; have Ab := n6_; clear n0_ n1_ n2_ n3_ n4_ n5_ n6_; clear hb hbox hg; have VO := Ab.out; have VP := AQ.out; have Nx : w4.cell? ⟨AC, 0, none⟩ = some (.int .i64 0) := (blk_cell AB.out 0).trans rfl; have Ny : w4.cell? ⟨AC, 1, none⟩ = some (.slice none 0 0) := (blk_cell AB.out 1).trans rfl; have Nz : w4.cell? ⟨AC, 2, none⟩ = some (.int .i64 0) := (blk_cell AB.out 2).trans rfl; have PA : w4.cell? ⟨AC, 3, none⟩ = some (.slice none 0 0) := (blk_cell AB.out 3).trans rfl; have PB := blk_frozen AB.out 0; have PC := blk_frozen AB.out 1; have PD := blk_frozen AB.out 2; have PE := blk_frozen AB.out 3))
 go_loopg [6, 7] k (fun kq v6 v7 w' => ∃ (AI : Int) (AD : Int) (AR : Int) (AJ : List Int) (AH : Value), v6 = .int .i64 AI ∧ v7 = .int .i64 AD ∧ Aside0 (gaugerref22_Read.l0 kq l0 l1 AI AD 0 AR AJ = some (r1, r2, r3, r4)) ∧ Aside0 (kq ≤ k) ∧ Aside0 (Kd.R (Kd.int .i64) 3 w' w.heap.size (fun _ => True) AH AJ) ∧ Aside0 (w'.heap[AY]? = some (.cells #[.int .i64 0, (.slice none 0 0), .int .i64 0, (.slice none 0 0)] 61 (0, 0))) ∧ Aside0 (w'.heap[AC]? = some (.cells #[.int .i64 0, (.slice none 0 0), .int .i64 AR, AH] 61 (0, 0))) ∧ Aside0 (Below w.heap.size w w'))
 case atStart => exact ⟨((-1)), (0), (1), (([] : List Int)), (.slice none 0 0), (by first | rfl | (simp; done) | (simp [*]; done)), (by first | rfl | (simp; done) | (simp [*]; done)), H', ⟨Nat.le_refl _⟩, ⟨by first|exact Kd.R_nil _ _ _ _ _|exact Kd.N_nil _ _ _ _ _|exact Kd.V_nil _ _ _ _ _|exact Kd.Q_nil _ _ _ _ _|exact Kd.S_nil _ _ _ _ _⟩, ⟨by (with_reducible repeat (first|refine dn_ ?_ _|refine dr_ ?_|refine al_ ?_ _)); refine blk_far ?_ AQ.out _; (with_reducible repeat (first|refine dn_ ?_ _|refine dr_ ?_|refine al_ ?_ _)); refine blk_far ?_ AQ.out _; (with_reducible repeat (first|refine dn_ ?_ _|refine dr_ ?_|refine al_ ?_ _)); refine blk_far ?_ AQ.out _; (with_reducible repeat (first|refine dn_ ?_ _|refine dr_ ?_|refine al_ ?_ _)); refine blk_far ?_ AQ.out _; (with_reducible repeat (first|refine dn_ ?_ _|refine dr_ ?_|refine al_ ?_ _)); exact AG.out⟩, ⟨by (with_reducible repeat (first|refine dn_ ?_ _|refine dr_ ?_|refine al_ ?_ _)); refine blk_put (cs := #[.int .i64 0, .slice none 0 0, .int .i64 1, .slice none 0 0]) ?_ 3 _ rfl; (with_reducible repeat (first|refine dn_ ?_ _|refine dr_ ?_|refine al_ ?_ _)); refine blk_put (cs := #[.int .i64 0, .slice none 0 0, .int .i64 0, .slice none 0 0]) ?_ 2 _ rfl; (with_reducible repeat (first|refine dn_ ?_ _|refine dr_ ?_|refine al_ ?_ _)); refine blk_put (cs := #[.int .i64 0, .slice none 0 0, .int .i64 0, .slice none 0 0]) ?_ 1 _ rfl; (with_reducible repeat (first|refine dn_ ?_ _|refine dr_ ?_|refine al_ ?_ _)); refine blk_put (cs := #[.int .i64 0, .slice none 0 0, .int .i64 0, .slice none 0 0]) ?_ 0 _ rfl; (with_reducible repeat (first|refine dn_ ?_ _|refine dr_ ?_|refine al_ ?_ _)); exact AB.out⟩, ⟨by repeat (first | (with_reducible first|exact HB.out|apply below_alloc|apply pw_below_drewN|apply below_drew1|refine below_set ?_ AX.out|refine below_set ?_ AZ.out)|exact HB.out)⟩⟩
 case round =>
  clear H'
  try clear c1
  try clear p2
  try clear c3
  try clear c5
  try clear Nx
  try clear Ny
  try clear Nz
  try clear PA
  try clear PB
  try clear PC
  try clear PD
  try clear PE
  obtain ⟨AI, AD, AR, AJ, AH, rfl, rfl, HA, HK1, HO_154003, AG, AB, HB⟩ := hrel
  cases gk with
  | zero => exact absurd HA.out (by simp [gaugerref22_Read.l0])
  | succ k1 =>
   have H := HA.out
   clear HA
   simp only [gaugerref22_Read.l0] at H
   by_cases c7 : AD < (l0.length : Int)
   ·rw [if_pos c7] at H
    have MQ : decide (AD < (l0.length : Int)) = true := decide_eq_true c7
    clear c7
    by_cases c8 : 0 ≤ AD
    ·rw [if_pos c8] at H
     have VQ : decide (0 ≤ AD) = true := decide_eq_true c8
     clear c8
     by_cases c9 : ((rd_T53 l0 AD).f0) = 6
     ·rw [if_pos c9] at H
      have Tx : (((rd_T53 l0 AD).f0) == 6) = true := beq_iff_eq.mpr c9
      have Ty : (((rd_T53 l0 AD).f0) != 6) = false := bne_eq_false_iff_eq.mpr c9
      clear c9
      obtain ⟨Ag, Ld⟩ : ∃ j_ : Int, (mx AR (wrap64 (((rd_T53 l0 AD).f1) + 1))) = j_ := ⟨_, rfl⟩
      replace H : (if ((rd_T53 l0 AD).f0) = 3 then (if AJ.length < 17592186044416 then (gaugerref22_Read.l0 k1 l0 l1 AD (wrap64 (AD + 1)) 0 Ag (AJ ++ [(rd_T53 l0 AD).f1])) else (none)) else (gaugerref22_Read.l0 k1 l0 l1 AD (wrap64 (AD + 1)) 0 Ag AJ)) = some (r1, r2, r3, r4) := by first | (rw [Ld] at H; exact H) | (simp only [Ld] at H ⊢; exact H)
      have Tz : (if AR < (wrap64 (((rd_T53 l0 AD).f1) + 1)) then (wrap64 (((rd_T53 l0 AD).f1) + 1)) else AR) = Ag := Ld
      by_cases c11 : ((rd_T53 l0 AD).f0) = 3
      ·rw [if_pos c11] at H
       have QG : (((rd_T53 l0 AD).f0) == 3) = true := beq_iff_eq.mpr c11
       have QH : (((rd_T53 l0 AD).f0) != 3) = false := bne_eq_false_iff_eq.mpr c11
       clear c11
       by_cases c12 : AJ.length < 17592186044416
       ·rw [if_pos c12] at H
        have QI := Aside0.mk c12
        clear c12
        obtain ⟨MR, IN⟩ : ∃ y_ : List Int, y_ = (AJ ++ [(rd_T53 l0 AD).f1]) := ⟨_, rfl⟩
        replace H : (gaugerref22_Read.l0 k1 l0 l1 AD (wrap64 (AD + 1)) 0 Ag MR) = some (r1, r2, r3, r4) := by first | (rw [IN]; with_reducible exact H) | (have H2_ := (Option.bind_some _ _).symm.trans H; rw [IN]; with_reducible exact H2_) | (have H2_ := (Option.bind_some _ _).symm.trans H; with_reducible exact H2_) | with_reducible exact H | (rw [IN]; exact H)|exact H
        have QJ := Aside0.mk IN
        clear IN
        have H' := Aside0.mk H
        clear H
        have DQ : 0 ≤ (AD : Int) := of_decide_eq_true (by first | (with_reducible assumption) | assumption)
        have DR : AD < (l0.length : Int) := of_decide_eq_true (by first | (with_reducible assumption) | assumption)
        obtain ⟨AF, Iv, Iw, Ix, Iy, Gw, Gx, Iz, Al, Am, An, Ao, Ap, Aq, Ar, As, At, Au, Af, Bf, Bg, Bh, Bi, Aw, Ax⟩ := at_T53 HR0.out AD DQ DR
        cases Iz
        replace Al := bce_ HB Al
        replace Am := bce_ HB Am
        replace An := bce_ HB An
        replace Ao := bce_ HB Ao
        replace Ap := bce_ HB Ap
        replace Aq := bce_ HB Aq
        replace Ar := bce_ HB Ar
        replace As := bce_ HB As
        replace At := bce_ HB At
        replace Au := bce_ HB Au
        replace Af := bce_ HB Af
        have Gy := Aside0.mk Bg
        have Gz := Aside0.mk Bf
        clear Bg Bf
        have HC := Aside0.mk Bi
        have HD := Aside0.mk Bh
        clear Bi Bh
        have Ge := Aside0.mk Ax
        have Gf := Aside0.mk Aw
        clear Ax Aw
        replace DQ := eq_true DQ
        replace DR := eq_true DR
        try go_wp2
        have n0_ := Aside0.mk (Kd.R_drew HO_154003.out)
        have n1_ := Aside0.mk (dr_ AG.out)
        have n2_ := Aside0.mk (dr_ AB.out)
        have n3_ := Aside0.mk (below_drew1 HB.out)
        clear HO_154003
        clear AG
        clear AB
        clear HB
        have HO_154003 := n0_
        have AG := n1_
        have AB := n2_
        have HB := n3_
        clear n0_ n1_ n2_ n3_
        have JA : 0 ≤ (AD : Int) := of_decide_eq_true (by first | (with_reducible assumption) | assumption)
        have JB : AD < (l0.length : Int) := of_decide_eq_true (by first | (with_reducible assumption) | assumption)
        obtain ⟨Le, JC, JD, JE, JF, HE, HF, PF, CX, CY, CZ, Ca, Cb, Cc, Cd, Ce, Cf, Cg, Bj, EA, EB, EC, ED, De, Df⟩ := at_T53 HR0.out AD JA JB
        have Gg := Bj
        have HG := Cg
        have HH := Cf
        have HI := Ce
        have HJ := Cd
        have HK := Cc
        have HL := Cb
        have HM := Ca
        have HN := CZ
        have HO := CY
        have HP := CX
        obtain rfl : AF = Le := (by injection PF)
        replace CX := bce_ HB CX
        replace CY := bce_ HB CY
        replace CZ := bce_ HB CZ
        replace Ca := bce_ HB Ca
        replace Cb := bce_ HB Cb
        replace Cc := bce_ HB Cc
        replace Cd := bce_ HB Cd
        replace Ce := bce_ HB Ce
        replace Cf := bce_ HB Cf
        replace Cg := bce_ HB Cg
        replace Bj := bce_ HB Bj
        have HQ := Aside0.mk EB
        have MS := Aside0.mk EA
        clear EB EA
        have HR := Aside0.mk ED
        have MT := Aside0.mk EC
        clear ED EC
        have Gh := Aside0.mk Df
        have Lf := Aside0.mk De
        clear Df De
        replace JA := eq_true JA
        replace JB := eq_true JB
        refine start_ (n := 11) (S := fun w' => w'.cell? ⟨AC, 0, none⟩ = some (.int .i64 0) ∧ w'.cell? ⟨AC, 1, none⟩ = some (.slice none 0 0) ∧ w'.cell? ⟨AC, 2, none⟩ = some (.int .i64 AR) ∧ w'.cell? ⟨AC, 3, none⟩ = some (AH) ∧ w'.cell? (AF.add ((AD).toNat * 11)) = some (.int .i64 ((rd_T53 l0 AD).f0)) ∧ w'.cell? ⟨(AF.add ((AD).toNat * 11)).block, (AF.add ((AD).toNat * 11)).off + 1, none⟩ = some (.int .i64 ((rd_T53 l0 AD).f1)) ∧ w'.cell? ⟨(AF.add ((AD).toNat * 11)).block, (AF.add ((AD).toNat * 11)).off + 2, none⟩ = some (.int .i64 ((rd_T53 l0 AD).f2)) ∧ w'.cell? ⟨(AF.add ((AD).toNat * 11)).block, (AF.add ((AD).toNat * 11)).off + 3, none⟩ = some (.int .i64 ((rd_T53 l0 AD).f3)) ∧ w'.cell? ⟨(AF.add ((AD).toNat * 11)).block, (AF.add ((AD).toNat * 11)).off + 4, none⟩ = some (.slice JC ((rd_T53 l0 AD).f4).length JD) ∧ w'.cell? ⟨(AF.add ((AD).toNat * 11)).block, (AF.add ((AD).toNat * 11)).off + 5, none⟩ = some (.int .i64 ((rd_T53 l0 AD).f5.f0)) ∧ w'.cell? ⟨(AF.add ((AD).toNat * 11)).block, (AF.add ((AD).toNat * 11)).off + 6, none⟩ = some (.int .i64 ((rd_T53 l0 AD).f5.f1)) ∧ w'.cell? ⟨(AF.add ((AD).toNat * 11)).block, (AF.add ((AD).toNat * 11)).off + 7, none⟩ = some (.string ((rd_T53 l0 AD).f5.f2)) ∧ w'.cell? ⟨(AF.add ((AD).toNat * 11)).block, (AF.add ((AD).toNat * 11)).off + 8, none⟩ = some (.string ((rd_T53 l0 AD).f5.f3)) ∧ w'.cell? ⟨(AF.add ((AD).toNat * 11)).block, (AF.add ((AD).toNat * 11)).off + 9, none⟩ = some (.slice JE ((rd_T53 l0 AD).f6).length JF) ∧ w'.cell? ⟨(AF.add ((AD).toNat * 11)).block, (AF.add ((AD).toNat * 11)).off + 10, none⟩ = some (.slice HE ((rd_T53 l0 AD).f7).length HF)) (ds := [10]) #[false, false, false, false, false, false, false, false, false, false, false] (by kernel_rfl) rfl rfl ⟨(blk_cell AB.out 0).trans rfl, (blk_cell AB.out 1).trans rfl, (blk_cell AB.out 2).trans rfl, (blk_cell AB.out 3).trans rfl, (bce_ HB HP), (bce_ HB HO), (bce_ HB HN), (bce_ HB HM), (bce_ HB HL), (bce_ HB HK), (bce_ HB HJ), (bce_ HB HI), (bce_ HB HH), (bce_ HB HG), (bce_ HB Gg)⟩ (fun hHeld => ?_); refine with_tabW gaugerref22_Read.tab8 gaugerref22_Read.bits8 (fun HT_ HW_ => ?_)
        generalize wr.drew = w13 at HO_154003 AG AB HB Gh HQ HR CX CY Bj CZ Ca Cb Cc Cd Ce Cf Cg hHeld ⊢
        refine pure_ (i := 0) (N := some 28) (v := ?_) (a' := ?_) #[true, false, false, false, false, false, false, false, false, false, false] rfl rfl (any_of HT_.out (by kernel_rfl)) (fun _ _ _ h => h) (Or.inl ⟨by rfl, ?_⟩) ?_ ?_
        rotate_left;·(intro w';go_simp;with_reducible rfl)
        rotate_left;·(simp only[Act.put,si_,s0_,s1_,i64_w,i32_w];rfl)
        refine pure_ (i := 2) (N := some 30) (v := ?_) (a' := ?_) #[true, false, true, false, false, false, false, false, false, false, false] rfl rfl (any_of HT_.out (by kernel_rfl)) (fun _ _ _ h => h) (Or.inl ⟨by rfl, ?_⟩) ?_ ?_
        rotate_left;·(intro w';go_simp;with_reducible rfl)
        rotate_left;·(simp only[Act.put,si_,s0_,s1_,i64_w,i32_w];rfl)
        refine pure_ (i := 3) (N := some 31) (v := ?_) (a' := ?_) #[true, false, true, true, false, false, false, false, false, false, false] rfl rfl (any_of HT_.out (by kernel_rfl)) (fun _ _ _ h => h) (Or.inl ⟨by rfl, ?_⟩) ?_ ?_
        rotate_left;·(intro w';go_simp;with_reducible rfl)
        rotate_left;·(simp only[Act.put,si_,s0_,s1_,i64_w,i32_w];rfl)
        refine pure_ (i := 4) (N := some 32) (v := ?_) (a' := ?_) #[true, false, true, true, true, false, false, false, false, false, false] rfl rfl (any_of HT_.out (by kernel_rfl)) (fun _ _ _ h => h) (Or.inl ⟨by rfl, ?_⟩) ?_ ?_
        rotate_left;·(intro w';go_simp;with_reducible rfl)
        rotate_left;·(simp only[Act.put,si_,s0_,s1_,i64_w,i32_w];rfl)
        refine pure_ (i := 5) (N := some 33) (v := ?_) (a' := ?_) #[true, false, true, true, true, true, false, false, false, false, false] rfl rfl (any_of HT_.out (by kernel_rfl)) (fun _ _ _ h => h) (Or.inl ⟨by rfl, ?_⟩) ?_ ?_
        rotate_left;·(intro w';go_simp;with_reducible rfl)
        rotate_left;·(simp only[Act.put,si_,s0_,s1_,i64_w,i32_w];rfl)
        refine take_ (i := 1) (N := some 29) (v := ?_) (a' := ?_) #[true, true, true, true, true, true, false, false, false, false, false] rfl rfl (take_ofW HT_.out HW_.out (by kernel_rfl)) (fun _ _ _ h => h) (Or.inl ⟨by rfl, ?_⟩) hHeld ?_ ?_
        rotate_left
        ·rintro w' ⟨s0, s1, s2, s3, s4, s5, s6, s7, s8, s9, s10, s11, s12, s13, s14⟩
         go_simp
         with_reducible rfl
        rotate_left
        ·simp only [Act.put, si_, s0_, s1_, i64_w, i32_w]
         rfl
        refine take_ (i := 6) (N := some 34) (v := ?_) (a' := ?_) #[true, true, true, true, true, true, true, false, false, false, false] rfl rfl (take_ofW HT_.out HW_.out (by kernel_rfl)) (fun _ _ _ h => h) (Or.inl ⟨by rfl, ?_⟩) hHeld ?_ ?_
        rotate_left
        ·rintro w' ⟨s0, s1, s2, s3, s4, s5, s6, s7, s8, s9, s10, s11, s12, s13, s14⟩
         go_simp
         with_reducible rfl
        rotate_left
        ·simp only [Act.put, si_, s0_, s1_, i64_w, i32_w]
         rfl
        refine pure_ (i := 7) (N := some 35) (v := ?_) (a' := ?_) #[true, true, true, true, true, true, true, true, false, false, false] rfl rfl (any_of HT_.out (by kernel_rfl)) (fun _ _ _ h => h) (Or.inl ⟨by rfl, ?_⟩) ?_ ?_
        rotate_left;·(intro w';go_simp;with_reducible rfl)
        rotate_left;·(simp only[Act.put,si_,s0_,s1_,i64_w,i32_w];rfl)
        refine pure_ (i := 8) (N := some 36) (v := ?_) (a' := ?_) #[true, true, true, true, true, true, true, true, true, false, false] rfl rfl (any_of HT_.out (by kernel_rfl)) (fun _ _ _ h => h) (Or.inl ⟨by rfl, ?_⟩) ?_ ?_
        rotate_left;·(intro w';go_simp;with_reducible rfl)
        rotate_left;·(simp only[Act.put,si_,s0_,s1_,i64_w,i32_w];rfl)
        refine pure_ (i := 9) (N := some 37) (v := ?_) (a' := ?_) #[true, true, true, true, true, true, true, true, true, true, false] rfl rfl (any_of HT_.out (by kernel_rfl)) (fun _ _ _ h => h) (Or.inl ⟨by rfl, ?_⟩) ?_ ?_
        rotate_left;·(intro w';go_simp;with_reducible rfl)
        rotate_left;·(simp only[Act.put,si_,s0_,s1_,i64_w,i32_w];rfl)
        refine last_ (i := 10) (N := none) #[true, true, true, true, true, true, true, true, true, true, true] rfl rfl (one_of HT_.out (by kernel_rfl)) (by decide) (fun K hK => ?_)
        have VR : w13.cell? ⟨AC, 2, none⟩ = some (.int .i64 AR) := (blk_cell AB.out 2).trans rfl
        have Ud := blk_frozen AB.out 2
        have Rt := AQ.out
        have Ru := Ab.out
        refine skip_ (w1 := ?_) (by rfl) rfl ?_ ?_
        rotate_left
        ·go_simp
         rfl
        refine hK.out _ _ ?_
        clear hK K
        refine done_ (done_of HT_.out (by kernel_rfl)) ?_
        have JG : 0 ≤ (AD : Int) := of_decide_eq_true (by first | (with_reducible assumption) | assumption)
        have JH : AD < (l0.length : Int) := of_decide_eq_true (by first | (with_reducible assumption) | assumption)
        obtain ⟨Lg, PG, PH, PI, PJ, MU, MV, PK, Bl, Ch, Ci, Cj, Cl, Cm, Cn, Co, Cp, Cq, Bm, EE, EF, EG, EH, Dg, Dh⟩ := at_T53 HR0.out AD JG JH
        obtain rfl : AF = Lg := (by injection PK)
        have AK : AF.block ≠ AC := Nat.ne_of_lt (Nat.lt_of_lt_of_le (by have := World.block_lt_of_cell? _ _ Bl; first | rwa [add_block] at this|exact this) JR.out)
        replace Bl := bce_ HB Bl
        replace Ch := bce_ HB Ch
        replace Ci := bce_ HB Ci
        replace Cj := bce_ HB Cj
        replace Cl := bce_ HB Cl
        replace Cm := bce_ HB Cm
        replace Cn := bce_ HB Cn
        replace Co := bce_ HB Co
        replace Cp := bce_ HB Cp
        replace Cq := bce_ HB Cq
        replace Bm := bce_ HB Bm
        have MW := Aside0.mk EF
        have MX := Aside0.mk EE
        clear EF EE
        have MY := Aside0.mk EH
        have MZ := Aside0.mk EG
        clear EH EG
        have Lh := Aside0.mk Dh
        have Li := Aside0.mk Dg
        clear Dh Dg
        replace Bl := (cell_far (p := ⟨AC, 2, none⟩) (by first | (rw [add_block]; exact AK) | (show (Addr.add _ _).block ≠ _; rw [add_block]; exact AK)|exact AK) (.int .i64 Ag)).trans Bl
        replace Ch := (cell_far (p := ⟨AC, 2, none⟩) (by first | (rw [add_block]; exact AK) | (show (Addr.add _ _).block ≠ _; rw [add_block]; exact AK)|exact AK) (.int .i64 Ag)).trans Ch
        replace Ci := (cell_far (p := ⟨AC, 2, none⟩) (by first | (rw [add_block]; exact AK) | (show (Addr.add _ _).block ≠ _; rw [add_block]; exact AK)|exact AK) (.int .i64 Ag)).trans Ci
        replace Cj := (cell_far (p := ⟨AC, 2, none⟩) (by first | (rw [add_block]; exact AK) | (show (Addr.add _ _).block ≠ _; rw [add_block]; exact AK)|exact AK) (.int .i64 Ag)).trans Cj
        replace Cl := (cell_far (p := ⟨AC, 2, none⟩) (by first | (rw [add_block]; exact AK) | (show (Addr.add _ _).block ≠ _; rw [add_block]; exact AK)|exact AK) (.int .i64 Ag)).trans Cl
        replace Cm := (cell_far (p := ⟨AC, 2, none⟩) (by first | (rw [add_block]; exact AK) | (show (Addr.add _ _).block ≠ _; rw [add_block]; exact AK)|exact AK) (.int .i64 Ag)).trans Cm
        replace Cn := (cell_far (p := ⟨AC, 2, none⟩) (by first | (rw [add_block]; exact AK) | (show (Addr.add _ _).block ≠ _; rw [add_block]; exact AK)|exact AK) (.int .i64 Ag)).trans Cn
        replace Co := (cell_far (p := ⟨AC, 2, none⟩) (by first | (rw [add_block]; exact AK) | (show (Addr.add _ _).block ≠ _; rw [add_block]; exact AK)|exact AK) (.int .i64 Ag)).trans Co
        replace Cp := (cell_far (p := ⟨AC, 2, none⟩) (by first | (rw [add_block]; exact AK) | (show (Addr.add _ _).block ≠ _; rw [add_block]; exact AK)|exact AK) (.int .i64 Ag)).trans Cp
        replace Cq := (cell_far (p := ⟨AC, 2, none⟩) (by first | (rw [add_block]; exact AK) | (show (Addr.add _ _).block ≠ _; rw [add_block]; exact AK)|exact AK) (.int .i64 Ag)).trans Cq
        replace Bm := (cell_far (p := ⟨AC, 2, none⟩) (by first | (rw [add_block]; exact AK) | (show (Addr.add _ _).block ≠ _; rw [add_block]; exact AK)|exact AK) (.int .i64 Ag)).trans Bm
        clear AK
        replace JG := eq_true JG
        replace JH := eq_true JH
        try go_wp2
        have n0_ : Aside0 (Kd.R (Kd.int .i64) 3 (w13.setCell ⟨AC, 2, none⟩ (.int .i64 Ag)) w.heap.size (fun _ => True) AH AJ) := ⟨by (with_reducible repeat (first|apply Kd.R_alloc|apply Kd.R_drewN|apply Kd.R_drew)); exact Kd.R_mono (Kd.R_far (p := ⟨AC, 2, none⟩) (Kd.R_types HO_154003.out AB.out (by decide)) (fun _ hk => hk.2) (.int .i64 Ag)) (fun _ hk => trivial)⟩
        have n1_ : Aside0 ((w13.setCell ⟨AC, 2, none⟩ (.int .i64 Ag)).heap[AY]? = some (.cells #[.int .i64 0, .slice none 0 0, .int .i64 0, .slice none 0 0] 61 (0, 0))) := ⟨by (with_reducible repeat (first|refine dn_ ?_ _|refine dr_ ?_|refine al_ ?_ _)); refine blk_far ?_ AQ.out _; (with_reducible repeat (first|refine dn_ ?_ _|refine dr_ ?_|refine al_ ?_ _)); exact AG.out⟩
        have n2_ : Aside0 ((w13.setCell ⟨AC, 2, none⟩ (.int .i64 Ag)).heap[AC]? = some (.cells #[.int .i64 0, .slice none 0 0, .int .i64 Ag, AH] 61 (0, 0))) := ⟨by (with_reducible repeat (first|refine dn_ ?_ _|refine dr_ ?_|refine al_ ?_ _)); refine blk_put (cs := #[.int .i64 0, .slice none 0 0, .int .i64 AR, AH]) ?_ 2 _ rfl; (with_reducible repeat (first|refine dn_ ?_ _|refine dr_ ?_|refine al_ ?_ _)); exact AB.out⟩
        have n3_ : Aside0 (Below w.heap.size w (w13.setCell ⟨AC, 2, none⟩ (.int .i64 Ag))) := ⟨by repeat (first | (with_reducible first|exact HB.out|apply below_alloc|apply pw_below_drewN|apply below_drew1|refine below_set ?_ AX.out|refine below_set ?_ AZ.out)|exact HB.out)⟩
        (try clear HO_154003)
        (try clear AG)
        (try clear AB)
        (try clear HB)
        generalize (w13.setCell ⟨AC, 2, none⟩ (.int .i64 Ag)) = w15 at n0_ n1_ n2_ n3_ ⊢
        have HO_154003 := n0_
        have AG := n1_
        have AB := n2_
        have HB := n3_
        clear n0_ n1_ n2_ n3_
        have n0_ := Aside0.mk (Kd.R_drew HO_154003.out)
        have n1_ := Aside0.mk (dr_ AG.out)
        have n2_ := Aside0.mk (dr_ AB.out)
        have n3_ := Aside0.mk (below_drew1 HB.out)
        clear HO_154003
        clear AG
        clear AB
        clear HB
        have HO_154003 := n0_
        have AG := n1_
        have AB := n2_
        have HB := n3_
        clear n0_ n1_ n2_ n3_
        have PL : 0 ≤ (AD : Int) := of_decide_eq_true (by first | (with_reducible assumption) | assumption)
        have PM : AD < (l0.length : Int) := of_decide_eq_true (by first | (with_reducible assumption) | assumption)
        obtain ⟨QK, PN, PO, PP, PQ, Ma, Mb, UA, Ey, Ez, GA, GB, GC, GD, GE, GF, GG, GH, EI, JS, JT, JU, JV, IO, IP⟩ := at_T53 HR0.out AD PL PM
        have EJ := EI
        have GI := GH
        have GJ := GG
        have GK := GF
        have GL := GE
        have GM := GD
        have GN := GC
        have GO := GB
        have GP := GA
        have GQ := Ez
        have GR := Ey
        obtain rfl : AF = QK := (by injection UA)
        replace Ey := bce_ HB Ey
        replace Ez := bce_ HB Ez
        replace GA := bce_ HB GA
        replace GB := bce_ HB GB
        replace GC := bce_ HB GC
        replace GD := bce_ HB GD
        replace GE := bce_ HB GE
        replace GF := bce_ HB GF
        replace GG := bce_ HB GG
        replace GH := bce_ HB GH
        replace EI := bce_ HB EI
        have Mc := Aside0.mk JT
        have Rv := Aside0.mk JS
        clear JT JS
        have Md := Aside0.mk JV
        have Rw := Aside0.mk JU
        clear JV JU
        have Lj := Aside0.mk IP
        have QL := Aside0.mk IO
        clear IP IO
        replace PL := eq_true PL
        replace PM := eq_true PM
        refine start_ (n := 11) (S := fun w' => w'.cell? ⟨AC, 0, none⟩ = some (.int .i64 0) ∧ w'.cell? ⟨AC, 1, none⟩ = some (.slice none 0 0) ∧ w'.cell? ⟨AC, 2, none⟩ = some (.int .i64 Ag) ∧ w'.cell? ⟨AC, 3, none⟩ = some (AH) ∧ w'.cell? (AF.add ((AD).toNat * 11)) = some (.int .i64 ((rd_T53 l0 AD).f0)) ∧ w'.cell? ⟨(AF.add ((AD).toNat * 11)).block, (AF.add ((AD).toNat * 11)).off + 1, none⟩ = some (.int .i64 ((rd_T53 l0 AD).f1)) ∧ w'.cell? ⟨(AF.add ((AD).toNat * 11)).block, (AF.add ((AD).toNat * 11)).off + 2, none⟩ = some (.int .i64 ((rd_T53 l0 AD).f2)) ∧ w'.cell? ⟨(AF.add ((AD).toNat * 11)).block, (AF.add ((AD).toNat * 11)).off + 3, none⟩ = some (.int .i64 ((rd_T53 l0 AD).f3)) ∧ w'.cell? ⟨(AF.add ((AD).toNat * 11)).block, (AF.add ((AD).toNat * 11)).off + 4, none⟩ = some (.slice PN ((rd_T53 l0 AD).f4).length PO) ∧ w'.cell? ⟨(AF.add ((AD).toNat * 11)).block, (AF.add ((AD).toNat * 11)).off + 5, none⟩ = some (.int .i64 ((rd_T53 l0 AD).f5.f0)) ∧ w'.cell? ⟨(AF.add ((AD).toNat * 11)).block, (AF.add ((AD).toNat * 11)).off + 6, none⟩ = some (.int .i64 ((rd_T53 l0 AD).f5.f1)) ∧ w'.cell? ⟨(AF.add ((AD).toNat * 11)).block, (AF.add ((AD).toNat * 11)).off + 7, none⟩ = some (.string ((rd_T53 l0 AD).f5.f2)) ∧ w'.cell? ⟨(AF.add ((AD).toNat * 11)).block, (AF.add ((AD).toNat * 11)).off + 8, none⟩ = some (.string ((rd_T53 l0 AD).f5.f3)) ∧ w'.cell? ⟨(AF.add ((AD).toNat * 11)).block, (AF.add ((AD).toNat * 11)).off + 9, none⟩ = some (.slice PP ((rd_T53 l0 AD).f6).length PQ) ∧ w'.cell? ⟨(AF.add ((AD).toNat * 11)).block, (AF.add ((AD).toNat * 11)).off + 10, none⟩ = some (.slice Ma ((rd_T53 l0 AD).f7).length Mb)) (ds := [10]) #[false, false, false, false, false, false, false, false, false, false, false] (by kernel_rfl) rfl rfl ⟨(blk_cell AB.out 0).trans rfl, (blk_cell AB.out 1).trans rfl, (blk_cell AB.out 2).trans rfl, (blk_cell AB.out 3).trans rfl, (bce_ HB GR), (bce_ HB GQ), (bce_ HB GP), (bce_ HB GO), (bce_ HB GN), (bce_ HB GM), (bce_ HB GL), (bce_ HB GK), (bce_ HB GJ), (bce_ HB GI), (bce_ HB EJ)⟩ (fun hHeld => ?_); refine with_tabW gaugerref22_Read.tab10 gaugerref22_Read.bits10 (fun HT_ HW_ => ?_)
        generalize w15.drew = w16 at HO_154003 AG AB HB Lj Mc Md Ey Ez EI GA GB GC GD GE GF GG GH hHeld ⊢
        refine pure_ (i := 0) (N := some 44) (v := ?_) (a' := ?_) #[true, false, false, false, false, false, false, false, false, false, false] rfl rfl (any_of HT_.out (by kernel_rfl)) (fun _ _ _ h => h) (Or.inl ⟨by rfl, ?_⟩) ?_ ?_
        rotate_left;·(intro w';go_simp;with_reducible rfl)
        rotate_left;·(simp only[Act.put,si_,s0_,s1_,i64_w,i32_w];rfl)
        refine pure_ (i := 2) (N := some 46) (v := ?_) (a' := ?_) #[true, false, true, false, false, false, false, false, false, false, false] rfl rfl (any_of HT_.out (by kernel_rfl)) (fun _ _ _ h => h) (Or.inl ⟨by rfl, ?_⟩) ?_ ?_
        rotate_left;·(intro w';go_simp;with_reducible rfl)
        rotate_left;·(simp only[Act.put,si_,s0_,s1_,i64_w,i32_w];rfl)
        refine pure_ (i := 3) (N := some 47) (v := ?_) (a' := ?_) #[true, false, true, true, false, false, false, false, false, false, false] rfl rfl (any_of HT_.out (by kernel_rfl)) (fun _ _ _ h => h) (Or.inl ⟨by rfl, ?_⟩) ?_ ?_
        rotate_left;·(intro w';go_simp;with_reducible rfl)
        rotate_left;·(simp only[Act.put,si_,s0_,s1_,i64_w,i32_w];rfl)
        refine pure_ (i := 4) (N := some 48) (v := ?_) (a' := ?_) #[true, false, true, true, true, false, false, false, false, false, false] rfl rfl (any_of HT_.out (by kernel_rfl)) (fun _ _ _ h => h) (Or.inl ⟨by rfl, ?_⟩) ?_ ?_
        rotate_left;·(intro w';go_simp;with_reducible rfl)
        rotate_left;·(simp only[Act.put,si_,s0_,s1_,i64_w,i32_w];rfl)
        refine pure_ (i := 5) (N := some 49) (v := ?_) (a' := ?_) #[true, false, true, true, true, true, false, false, false, false, false] rfl rfl (any_of HT_.out (by kernel_rfl)) (fun _ _ _ h => h) (Or.inl ⟨by rfl, ?_⟩) ?_ ?_
        rotate_left;·(intro w';go_simp;with_reducible rfl)
        rotate_left;·(simp only[Act.put,si_,s0_,s1_,i64_w,i32_w];rfl)
        refine take_ (i := 1) (N := some 45) (v := ?_) (a' := ?_) #[true, true, true, true, true, true, false, false, false, false, false] rfl rfl (take_ofW HT_.out HW_.out (by kernel_rfl)) (fun _ _ _ h => h) (Or.inl ⟨by rfl, ?_⟩) hHeld ?_ ?_
        rotate_left
        ·rintro w' ⟨s0, s1, s2, s3, s4, s5, s6, s7, s8, s9, s10, s11, s12, s13, s14⟩
         go_simp
         with_reducible rfl
        rotate_left
        ·simp only [Act.put, si_, s0_, s1_, i64_w, i32_w]
         rfl
        refine take_ (i := 6) (N := some 50) (v := ?_) (a' := ?_) #[true, true, true, true, true, true, true, false, false, false, false] rfl rfl (take_ofW HT_.out HW_.out (by kernel_rfl)) (fun _ _ _ h => h) (Or.inl ⟨by rfl, ?_⟩) hHeld ?_ ?_
        rotate_left
        ·rintro w' ⟨s0, s1, s2, s3, s4, s5, s6, s7, s8, s9, s10, s11, s12, s13, s14⟩
         go_simp
         with_reducible rfl
        rotate_left
        ·simp only [Act.put, si_, s0_, s1_, i64_w, i32_w]
         rfl
        refine one_ (i := 7) (N := some 51) #[true, true, true, true, true, true, true, true, false, false, false] rfl rfl (one_of HT_.out (by kernel_rfl)) (by decide) (fun K hK => ?_)
        refine value_ (w1 := ?_) (v := ?_) (by rfl) rfl ?_ ?_
        rotate_left 2
        ·go_simp
         constructor
         ·rfl
         ·rfl
        refine hK.out _ _ ⟨(blk_cell (al_ AB.out _) 0).trans rfl, (blk_cell (al_ AB.out _) 1).trans rfl, (blk_cell (al_ AB.out _) 2).trans rfl, (blk_cell (al_ AB.out _) 3).trans rfl, (World.cell?_alloc_lt _ _ _ (World.block_lt_of_cell? _ _ ((bce_ HB GR)))).trans ((bce_ HB GR)), (World.cell?_alloc_lt _ _ _ (World.block_lt_of_cell? _ _ ((bce_ HB GQ)))).trans ((bce_ HB GQ)), (World.cell?_alloc_lt _ _ _ (World.block_lt_of_cell? _ _ ((bce_ HB GP)))).trans ((bce_ HB GP)), (World.cell?_alloc_lt _ _ _ (World.block_lt_of_cell? _ _ ((bce_ HB GO)))).trans ((bce_ HB GO)), (World.cell?_alloc_lt _ _ _ (World.block_lt_of_cell? _ _ ((bce_ HB GN)))).trans ((bce_ HB GN)), (World.cell?_alloc_lt _ _ _ (World.block_lt_of_cell? _ _ ((bce_ HB GM)))).trans ((bce_ HB GM)), (World.cell?_alloc_lt _ _ _ (World.block_lt_of_cell? _ _ ((bce_ HB GL)))).trans ((bce_ HB GL)), (World.cell?_alloc_lt _ _ _ (World.block_lt_of_cell? _ _ ((bce_ HB GK)))).trans ((bce_ HB GK)), (World.cell?_alloc_lt _ _ _ (World.block_lt_of_cell? _ _ ((bce_ HB GJ)))).trans ((bce_ HB GJ)), (World.cell?_alloc_lt _ _ _ (World.block_lt_of_cell? _ _ ((bce_ HB GI)))).trans ((bce_ HB GI)), (World.cell?_alloc_lt _ _ _ (World.block_lt_of_cell? _ _ ((bce_ HB EJ)))).trans ((bce_ HB EJ))⟩ (fun hHeld => ?_)
        clear hK K
        refine norm_ (a' := ?_) ?_ ?_
        rotate_left
        ·show Act.put _ (some 51) _ = _
         simp only [Act.put, si_, s0_, s1_, i64_w, i32_w]
         rfl
        refine one_ (i := 8) (N := some 52) #[true, true, true, true, true, true, true, true, true, false, false] rfl rfl (one_of HT_.out (by kernel_rfl)) (by decide) (fun K hK => ?_)
        refine Kd.R_append_step (Kd.int .i64) (w0 := w) w.heap.size (by rfl) (.tmp 45) (.tmp 51) 57 3 (.int .i64 0) 8 rfl Try.underlying57 info3 rfl (by decide) (by omega) AH AJ ((rd_T53 l0 AD).f1) [.int .i64 ((rd_T53 l0 AD).f1)] (fun _ => True) (fun _ => False) rfl rfl ?aP (fun _ hk => hk.elim) ?aF ?aO ?aB ?aS ?aL ?_
        (case aP => exact rfl)
        (case aB => exact (by repeat (first | (with_reducible first|exact HB.out|apply below_alloc|apply pw_below_drewN|apply below_drew1|refine below_set ?_ AX.out|refine below_set ?_ AZ.out)|exact HB.out)))
        (case aF => exact (fun _ _ => trivial))
        (case aO => exact (by (with_reducible repeat (first|apply Kd.R_alloc|apply Kd.R_drewN|apply Kd.R_drew)); exact HO_154003.out))
        (case aS => exact (below_size (by repeat (first | (with_reducible first|exact HB.out|apply below_alloc|apply pw_below_drewN|apply below_drew1|refine below_set ?_ AX.out|refine below_set ?_ AZ.out)|exact HB.out))))
        (case aL => have := QI.out; omega)
        intro VS w17 ho hb hg hat
        rw [← QJ.out] at ho
        have n0_ := Aside0.mk (blk_grown (g := AY) (o := .cells #[.int .i64 0, .slice none 0 0, .int .i64 0, .slice none 0 0] 61 (0, 0)) (by (with_reducible repeat (first|refine dn_ ?_ _|refine dr_ ?_|refine al_ ?_ _)); exact AG.out) hg (Kd.R_ne HO_154003.out AG.out (by decide)))
        have n1_ := Aside0.mk (blk_grown (g := AC) (o := .cells #[.int .i64 0, .slice none 0 0, .int .i64 Ag, AH] 61 (0, 0)) (by (with_reducible repeat (first|refine dn_ ?_ _|refine dr_ ?_|refine al_ ?_ _)); exact AB.out) hg (Kd.R_ne HO_154003.out AB.out (by decide)))
        have n2_ := Aside0.mk (hb)
        have n3_ := Aside0.mk (ho)
        clear AG
        clear AB
        clear HB
        clear HO_154003
        have AG := n0_
        have AB := n1_
        have HB := n2_
        have No := n3_
        clear n0_ n1_ n2_ n3_
        clear ho hb hg hat
        obtain ⟨QM, QN, QO⟩ := Kd.R_slice No.out
        (first | subst QO | (injection QO with f1_ f2_ f3_; have f4_ := f1_.symm; have f5_ := f3_.symm; clear f1_ f2_ f3_; subst f4_; subst f5_))
        refine hK.out _ _ ⟨(blk_cell AB.out 0).trans rfl, (blk_cell AB.out 1).trans rfl, (blk_cell AB.out 2).trans rfl, (blk_cell AB.out 3).trans rfl, (bce_ HB GR), (bce_ HB GQ), (bce_ HB GP), (bce_ HB GO), (bce_ HB GN), (bce_ HB GM), (bce_ HB GL), (bce_ HB GK), (bce_ HB GJ), (bce_ HB GI), (bce_ HB EJ)⟩ (fun hHeld => ?_)
        clear hK K
        refine norm_ (a' := ?_) ?_ ?_
        rotate_left
        ·show Act.put _ (some 52) _ = _
         simp only [Act.put, si_, s0_, s1_, i64_w, i32_w]
         rfl
        refine pure_ (i := 9) (N := some 53) (v := ?_) (a' := ?_) #[true, true, true, true, true, true, true, true, true, true, false] rfl rfl (any_of HT_.out (by kernel_rfl)) (fun _ _ _ h => h) (Or.inl ⟨by rfl, ?_⟩) ?_ ?_
        rotate_left;·(intro w';go_simp;with_reducible rfl)
        rotate_left;·(simp only[Act.put,si_,s0_,s1_,i64_w,i32_w];rfl)
        refine last_ (i := 10) (N := none) #[true, true, true, true, true, true, true, true, true, true, true] rfl rfl (one_of HT_.out (by kernel_rfl)) (by decide) (fun K hK => ?_)
        have VT : w17.cell? ⟨AC, 3, none⟩ = some (AH) := (blk_cell AB.out 3).trans rfl
        have Ue := blk_frozen AB.out 3
        have Rx := AQ.out
        have Ry := Ab.out
        refine skip_ (w1 := ?_) (by rfl) rfl ?_ ?_
        rotate_left
        ·go_simp
         rfl
        refine hK.out _ _ ?_
        clear hK K
        refine done_ (done_of HT_.out (by kernel_rfl)) ?_
        try go_wp2
        go_roundg k1
        case measure => have := HK1.out; omega
        case rel => exact ⟨(AD), (wrap64 (AD + 1)), (Ag), (MR), (.slice QM MR.length QN), (by first | rfl | (simp; done) | (simp [*]; done)), (by first | rfl | (simp; done) | (simp [*]; done)), H', ⟨by have := HK1.out; omega⟩, ⟨by (with_reducible repeat (first|apply Kd.R_alloc|apply Kd.R_drewN|apply Kd.R_drew)); exact Kd.R_mono (Kd.R_far (p := ⟨AC, 3, none⟩) (Kd.R_types No.out AB.out (by decide)) (fun _ hk => hk.2) (.slice QM MR.length QN)) (fun _ hk => trivial)⟩, ⟨by (with_reducible repeat (first|refine dn_ ?_ _|refine dr_ ?_|refine al_ ?_ _)); refine blk_far ?_ AQ.out _; (with_reducible repeat (first|refine dn_ ?_ _|refine dr_ ?_|refine al_ ?_ _)); exact AG.out⟩, ⟨by (with_reducible repeat (first|refine dn_ ?_ _|refine dr_ ?_|refine al_ ?_ _)); refine blk_put (cs := #[.int .i64 0, .slice none 0 0, .int .i64 Ag, AH]) ?_ 3 _ rfl; (with_reducible repeat (first|refine dn_ ?_ _|refine dr_ ?_|refine al_ ?_ _)); exact AB.out⟩, ⟨by repeat (first | (with_reducible first|exact HB.out|apply below_alloc|apply pw_below_drewN|apply below_drew1|refine below_set ?_ AX.out|refine below_set ?_ AZ.out)|exact HB.out)⟩⟩
       ·rw [if_neg c12] at H
        exact absurd H (by simp)
      ·rw [if_neg c11] at H
       have QG : (((rd_T53 l0 AD).f0) == 3) = false := beq_eq_false_iff_ne.mpr c11
       have QH : (((rd_T53 l0 AD).f0) != 3) = true := bne_iff_ne.mpr c11
       have H' := Aside0.mk H
       clear H
       have DQ : 0 ≤ (AD : Int) := of_decide_eq_true (by first | (with_reducible assumption) | assumption)
       have DR : AD < (l0.length : Int) := of_decide_eq_true (by first | (with_reducible assumption) | assumption)
       obtain ⟨AF, Iv, Iw, Ix, Iy, Gw, Gx, Iz, Al, Am, An, Ao, Ap, Aq, Ar, As, At, Au, Af, Bf, Bg, Bh, Bi, Aw, Ax⟩ := at_T53 HR0.out AD DQ DR
       cases Iz
       replace Al := bce_ HB Al
       replace Am := bce_ HB Am
       replace An := bce_ HB An
       replace Ao := bce_ HB Ao
       replace Ap := bce_ HB Ap
       replace Aq := bce_ HB Aq
       replace Ar := bce_ HB Ar
       replace As := bce_ HB As
       replace At := bce_ HB At
       replace Au := bce_ HB Au
       replace Af := bce_ HB Af
       have Gy := Aside0.mk Bg
       have Gz := Aside0.mk Bf
       clear Bg Bf
       have HC := Aside0.mk Bi
       have HD := Aside0.mk Bh
       clear Bi Bh
       have Ge := Aside0.mk Ax
       have Gf := Aside0.mk Aw
       clear Ax Aw
       replace DQ := eq_true DQ
       replace DR := eq_true DR
       try go_wp2
       have n0_ := Aside0.mk (Kd.R_drew HO_154003.out)
       have n1_ := Aside0.mk (dr_ AG.out)
       have n2_ := Aside0.mk (dr_ AB.out)
       have n3_ := Aside0.mk (below_drew1 HB.out)
       clear HO_154003
       clear AG
       clear AB
       clear HB
       have HO_154003 := n0_
       have AG := n1_
       have AB := n2_
       have HB := n3_
       clear n0_ n1_ n2_ n3_
       have JA : 0 ≤ (AD : Int) := of_decide_eq_true (by first | (with_reducible assumption) | assumption)
       have JB : AD < (l0.length : Int) := of_decide_eq_true (by first | (with_reducible assumption) | assumption)
       obtain ⟨Le, JC, JD, JE, JF, HE, HF, PF, CX, CY, CZ, Ca, Cb, Cc, Cd, Ce, Cf, Cg, Bj, EA, EB, EC, ED, De, Df⟩ := at_T53 HR0.out AD JA JB
       have Gg := Bj
       have HG := Cg
       have HH := Cf
       have HI := Ce
       have HJ := Cd
       have HK := Cc
       have HL := Cb
       have HM := Ca
       have HN := CZ
       have HO := CY
       have HP := CX
       obtain rfl : AF = Le := (by injection PF)
       replace CX := bce_ HB CX
       replace CY := bce_ HB CY
       replace CZ := bce_ HB CZ
       replace Ca := bce_ HB Ca
       replace Cb := bce_ HB Cb
       replace Cc := bce_ HB Cc
       replace Cd := bce_ HB Cd
       replace Ce := bce_ HB Ce
       replace Cf := bce_ HB Cf
       replace Cg := bce_ HB Cg
       replace Bj := bce_ HB Bj
       have HQ := Aside0.mk EB
       have MS := Aside0.mk EA
       clear EB EA
       have HR := Aside0.mk ED
       have MT := Aside0.mk EC
       clear ED EC
       have Gh := Aside0.mk Df
       have Lf := Aside0.mk De
       clear Df De
       replace JA := eq_true JA
       replace JB := eq_true JB
       refine start_ (n := 11) (S := fun w' => w'.cell? ⟨AC, 0, none⟩ = some (.int .i64 0) ∧ w'.cell? ⟨AC, 1, none⟩ = some (.slice none 0 0) ∧ w'.cell? ⟨AC, 2, none⟩ = some (.int .i64 AR) ∧ w'.cell? ⟨AC, 3, none⟩ = some (AH) ∧ w'.cell? (AF.add ((AD).toNat * 11)) = some (.int .i64 ((rd_T53 l0 AD).f0)) ∧ w'.cell? ⟨(AF.add ((AD).toNat * 11)).block, (AF.add ((AD).toNat * 11)).off + 1, none⟩ = some (.int .i64 ((rd_T53 l0 AD).f1)) ∧ w'.cell? ⟨(AF.add ((AD).toNat * 11)).block, (AF.add ((AD).toNat * 11)).off + 2, none⟩ = some (.int .i64 ((rd_T53 l0 AD).f2)) ∧ w'.cell? ⟨(AF.add ((AD).toNat * 11)).block, (AF.add ((AD).toNat * 11)).off + 3, none⟩ = some (.int .i64 ((rd_T53 l0 AD).f3)) ∧ w'.cell? ⟨(AF.add ((AD).toNat * 11)).block, (AF.add ((AD).toNat * 11)).off + 4, none⟩ = some (.slice JC ((rd_T53 l0 AD).f4).length JD) ∧ w'.cell? ⟨(AF.add ((AD).toNat * 11)).block, (AF.add ((AD).toNat * 11)).off + 5, none⟩ = some (.int .i64 ((rd_T53 l0 AD).f5.f0)) ∧ w'.cell? ⟨(AF.add ((AD).toNat * 11)).block, (AF.add ((AD).toNat * 11)).off + 6, none⟩ = some (.int .i64 ((rd_T53 l0 AD).f5.f1)) ∧ w'.cell? ⟨(AF.add ((AD).toNat * 11)).block, (AF.add ((AD).toNat * 11)).off + 7, none⟩ = some (.string ((rd_T53 l0 AD).f5.f2)) ∧ w'.cell? ⟨(AF.add ((AD).toNat * 11)).block, (AF.add ((AD).toNat * 11)).off + 8, none⟩ = some (.string ((rd_T53 l0 AD).f5.f3)) ∧ w'.cell? ⟨(AF.add ((AD).toNat * 11)).block, (AF.add ((AD).toNat * 11)).off + 9, none⟩ = some (.slice JE ((rd_T53 l0 AD).f6).length JF) ∧ w'.cell? ⟨(AF.add ((AD).toNat * 11)).block, (AF.add ((AD).toNat * 11)).off + 10, none⟩ = some (.slice HE ((rd_T53 l0 AD).f7).length HF)) (ds := [10]) #[false, false, false, false, false, false, false, false, false, false, false] (by kernel_rfl) rfl rfl ⟨(blk_cell AB.out 0).trans rfl, (blk_cell AB.out 1).trans rfl, (blk_cell AB.out 2).trans rfl, (blk_cell AB.out 3).trans rfl, (bce_ HB HP), (bce_ HB HO), (bce_ HB HN), (bce_ HB HM), (bce_ HB HL), (bce_ HB HK), (bce_ HB HJ), (bce_ HB HI), (bce_ HB HH), (bce_ HB HG), (bce_ HB Gg)⟩ (fun hHeld => ?_); refine with_tabW gaugerref22_Read.tab8 gaugerref22_Read.bits8 (fun HT_ HW_ => ?_)
       generalize wr.drew = w20 at HO_154003 AG AB HB Gh HQ HR CX CY Bj CZ Ca Cb Cc Cd Ce Cf Cg hHeld ⊢
       refine pure_ (i := 0) (N := some 28) (v := ?_) (a' := ?_) #[true, false, false, false, false, false, false, false, false, false, false] rfl rfl (any_of HT_.out (by kernel_rfl)) (fun _ _ _ h => h) (Or.inl ⟨by rfl, ?_⟩) ?_ ?_
       rotate_left;·(intro w';go_simp;with_reducible rfl)
       rotate_left;·(simp only[Act.put,si_,s0_,s1_,i64_w,i32_w];rfl)
       refine pure_ (i := 2) (N := some 30) (v := ?_) (a' := ?_) #[true, false, true, false, false, false, false, false, false, false, false] rfl rfl (any_of HT_.out (by kernel_rfl)) (fun _ _ _ h => h) (Or.inl ⟨by rfl, ?_⟩) ?_ ?_
       rotate_left;·(intro w';go_simp;with_reducible rfl)
       rotate_left;·(simp only[Act.put,si_,s0_,s1_,i64_w,i32_w];rfl)
       refine pure_ (i := 3) (N := some 31) (v := ?_) (a' := ?_) #[true, false, true, true, false, false, false, false, false, false, false] rfl rfl (any_of HT_.out (by kernel_rfl)) (fun _ _ _ h => h) (Or.inl ⟨by rfl, ?_⟩) ?_ ?_
       rotate_left;·(intro w';go_simp;with_reducible rfl)
       rotate_left;·(simp only[Act.put,si_,s0_,s1_,i64_w,i32_w];rfl)
       refine pure_ (i := 4) (N := some 32) (v := ?_) (a' := ?_) #[true, false, true, true, true, false, false, false, false, false, false] rfl rfl (any_of HT_.out (by kernel_rfl)) (fun _ _ _ h => h) (Or.inl ⟨by rfl, ?_⟩) ?_ ?_
       rotate_left;·(intro w';go_simp;with_reducible rfl)
       rotate_left;·(simp only[Act.put,si_,s0_,s1_,i64_w,i32_w];rfl)
       refine pure_ (i := 5) (N := some 33) (v := ?_) (a' := ?_) #[true, false, true, true, true, true, false, false, false, false, false] rfl rfl (any_of HT_.out (by kernel_rfl)) (fun _ _ _ h => h) (Or.inl ⟨by rfl, ?_⟩) ?_ ?_
       rotate_left;·(intro w';go_simp;with_reducible rfl)
       rotate_left;·(simp only[Act.put,si_,s0_,s1_,i64_w,i32_w];rfl)
       refine take_ (i := 1) (N := some 29) (v := ?_) (a' := ?_) #[true, true, true, true, true, true, false, false, false, false, false] rfl rfl (take_ofW HT_.out HW_.out (by kernel_rfl)) (fun _ _ _ h => h) (Or.inl ⟨by rfl, ?_⟩) hHeld ?_ ?_
       rotate_left
       ·rintro w' ⟨s0, s1, s2, s3, s4, s5, s6, s7, s8, s9, s10, s11, s12, s13, s14⟩
        go_simp
        with_reducible rfl
       rotate_left
       ·simp only [Act.put, si_, s0_, s1_, i64_w, i32_w]
        rfl
       refine take_ (i := 6) (N := some 34) (v := ?_) (a' := ?_) #[true, true, true, true, true, true, true, false, false, false, false] rfl rfl (take_ofW HT_.out HW_.out (by kernel_rfl)) (fun _ _ _ h => h) (Or.inl ⟨by rfl, ?_⟩) hHeld ?_ ?_
       rotate_left
       ·rintro w' ⟨s0, s1, s2, s3, s4, s5, s6, s7, s8, s9, s10, s11, s12, s13, s14⟩
        go_simp
        with_reducible rfl
       rotate_left
       ·simp only [Act.put, si_, s0_, s1_, i64_w, i32_w]
        rfl
       refine pure_ (i := 7) (N := some 35) (v := ?_) (a' := ?_) #[true, true, true, true, true, true, true, true, false, false, false] rfl rfl (any_of HT_.out (by kernel_rfl)) (fun _ _ _ h => h) (Or.inl ⟨by rfl, ?_⟩) ?_ ?_
       rotate_left;·(intro w';go_simp;with_reducible rfl)
       rotate_left;·(simp only[Act.put,si_,s0_,s1_,i64_w,i32_w];rfl)
       refine pure_ (i := 8) (N := some 36) (v := ?_) (a' := ?_) #[true, true, true, true, true, true, true, true, true, false, false] rfl rfl (any_of HT_.out (by kernel_rfl)) (fun _ _ _ h => h) (Or.inl ⟨by rfl, ?_⟩) ?_ ?_
       rotate_left;·(intro w';go_simp;with_reducible rfl)
       rotate_left;·(simp only[Act.put,si_,s0_,s1_,i64_w,i32_w];rfl)
       refine pure_ (i := 9) (N := some 37) (v := ?_) (a' := ?_) #[true, true, true, true, true, true, true, true, true, true, false] rfl rfl (any_of HT_.out (by kernel_rfl)) (fun _ _ _ h => h) (Or.inl ⟨by rfl, ?_⟩) ?_ ?_
       rotate_left;·(intro w';go_simp;with_reducible rfl)
       rotate_left;·(simp only[Act.put,si_,s0_,s1_,i64_w,i32_w];rfl)
       refine last_ (i := 10) (N := none) #[true, true, true, true, true, true, true, true, true, true, true] rfl rfl (one_of HT_.out (by kernel_rfl)) (by decide) (fun K hK => ?_)
       have VU : w20.cell? ⟨AC, 2, none⟩ = some (.int .i64 AR) := (blk_cell AB.out 2).trans rfl
       have Uf := blk_frozen AB.out 2
       have Rz := AQ.out
       have TA := Ab.out
       refine skip_ (w1 := ?_) (by rfl) rfl ?_ ?_
       rotate_left
       ·go_simp
        rfl
       refine hK.out _ _ ?_
       clear hK K
       refine done_ (done_of HT_.out (by kernel_rfl)) ?_
       have JG : 0 ≤ (AD : Int) := of_decide_eq_true (by first | (with_reducible assumption) | assumption)
       have JH : AD < (l0.length : Int) := of_decide_eq_true (by first | (with_reducible assumption) | assumption)
       obtain ⟨Lg, PG, PH, PI, PJ, MU, MV, PK, Bl, Ch, Ci, Cj, Cl, Cm, Cn, Co, Cp, Cq, Bm, EE, EF, EG, EH, Dg, Dh⟩ := at_T53 HR0.out AD JG JH
       obtain rfl : AF = Lg := (by injection PK)
       have AK : AF.block ≠ AC := Nat.ne_of_lt (Nat.lt_of_lt_of_le (by have := World.block_lt_of_cell? _ _ Bl; first | rwa [add_block] at this|exact this) JR.out)
       replace Bl := bce_ HB Bl
       replace Ch := bce_ HB Ch
       replace Ci := bce_ HB Ci
       replace Cj := bce_ HB Cj
       replace Cl := bce_ HB Cl
       replace Cm := bce_ HB Cm
       replace Cn := bce_ HB Cn
       replace Co := bce_ HB Co
       replace Cp := bce_ HB Cp
       replace Cq := bce_ HB Cq
       replace Bm := bce_ HB Bm
       have MW := Aside0.mk EF
       have MX := Aside0.mk EE
       clear EF EE
       have MY := Aside0.mk EH
       have MZ := Aside0.mk EG
       clear EH EG
       have Lh := Aside0.mk Dh
       have Li := Aside0.mk Dg
       clear Dh Dg
       replace Bl := (cell_far (p := ⟨AC, 2, none⟩) (by first | (rw [add_block]; exact AK) | (show (Addr.add _ _).block ≠ _; rw [add_block]; exact AK)|exact AK) (.int .i64 Ag)).trans Bl
       replace Ch := (cell_far (p := ⟨AC, 2, none⟩) (by first | (rw [add_block]; exact AK) | (show (Addr.add _ _).block ≠ _; rw [add_block]; exact AK)|exact AK) (.int .i64 Ag)).trans Ch
       replace Ci := (cell_far (p := ⟨AC, 2, none⟩) (by first | (rw [add_block]; exact AK) | (show (Addr.add _ _).block ≠ _; rw [add_block]; exact AK)|exact AK) (.int .i64 Ag)).trans Ci
       replace Cj := (cell_far (p := ⟨AC, 2, none⟩) (by first | (rw [add_block]; exact AK) | (show (Addr.add _ _).block ≠ _; rw [add_block]; exact AK)|exact AK) (.int .i64 Ag)).trans Cj
       replace Cl := (cell_far (p := ⟨AC, 2, none⟩) (by first | (rw [add_block]; exact AK) | (show (Addr.add _ _).block ≠ _; rw [add_block]; exact AK)|exact AK) (.int .i64 Ag)).trans Cl
       replace Cm := (cell_far (p := ⟨AC, 2, none⟩) (by first | (rw [add_block]; exact AK) | (show (Addr.add _ _).block ≠ _; rw [add_block]; exact AK)|exact AK) (.int .i64 Ag)).trans Cm
       replace Cn := (cell_far (p := ⟨AC, 2, none⟩) (by first | (rw [add_block]; exact AK) | (show (Addr.add _ _).block ≠ _; rw [add_block]; exact AK)|exact AK) (.int .i64 Ag)).trans Cn
       replace Co := (cell_far (p := ⟨AC, 2, none⟩) (by first | (rw [add_block]; exact AK) | (show (Addr.add _ _).block ≠ _; rw [add_block]; exact AK)|exact AK) (.int .i64 Ag)).trans Co
       replace Cp := (cell_far (p := ⟨AC, 2, none⟩) (by first | (rw [add_block]; exact AK) | (show (Addr.add _ _).block ≠ _; rw [add_block]; exact AK)|exact AK) (.int .i64 Ag)).trans Cp
       replace Cq := (cell_far (p := ⟨AC, 2, none⟩) (by first | (rw [add_block]; exact AK) | (show (Addr.add _ _).block ≠ _; rw [add_block]; exact AK)|exact AK) (.int .i64 Ag)).trans Cq
       replace Bm := (cell_far (p := ⟨AC, 2, none⟩) (by first | (rw [add_block]; exact AK) | (show (Addr.add _ _).block ≠ _; rw [add_block]; exact AK)|exact AK) (.int .i64 Ag)).trans Bm
       clear AK
       replace JG := eq_true JG
       replace JH := eq_true JH
       try go_wp2
       go_roundg k1
       case measure => have := HK1.out; omega
       case rel => exact ⟨(AD), (wrap64 (AD + 1)), (Ag), (AJ), (AH), (by first | rfl | (simp; done) | (simp [*]; done)), (by first | rfl | (simp; done) | (simp [*]; done)), H', ⟨by have := HK1.out; omega⟩, ⟨by (with_reducible repeat (first|apply Kd.R_alloc|apply Kd.R_drewN|apply Kd.R_drew)); exact Kd.R_mono (Kd.R_far (p := ⟨AC, 2, none⟩) (Kd.R_types HO_154003.out AB.out (by decide)) (fun _ hk => hk.2) (.int .i64 Ag)) (fun _ hk => trivial)⟩, ⟨by (with_reducible repeat (first|refine dn_ ?_ _|refine dr_ ?_|refine al_ ?_ _)); refine blk_far ?_ AQ.out _; (with_reducible repeat (first|refine dn_ ?_ _|refine dr_ ?_|refine al_ ?_ _)); exact AG.out⟩, ⟨by (with_reducible repeat (first|refine dn_ ?_ _|refine dr_ ?_|refine al_ ?_ _)); refine blk_put (cs := #[.int .i64 0, .slice none 0 0, .int .i64 AR, AH]) ?_ 2 _ rfl; (with_reducible repeat (first|refine dn_ ?_ _|refine dr_ ?_|refine al_ ?_ _)); exact AB.out⟩, ⟨by repeat (first | (with_reducible first|exact HB.out|apply below_alloc|apply pw_below_drewN|apply below_drew1|refine below_set ?_ AX.out|refine below_set ?_ AZ.out)|exact HB.out)⟩⟩
     ·rw [if_neg c9] at H
      have Tx : (((rd_T53 l0 AD).f0) == 6) = false := beq_eq_false_iff_ne.mpr c9
      have Ty : (((rd_T53 l0 AD).f0) != 6) = true := bne_iff_ne.mpr c9
      obtain ⟨Ah, Ll⟩ : ∃ j_ : Int, (mx AR (wrap64 (((rd_T53 l0 AD).f1) + 1))) = j_ := ⟨_, rfl⟩
      replace H : (if ((rd_T53 l0 AD).f0) = 3 then (if AJ.length < 17592186044416 then (gaugerref22_Read.l0 k1 l0 l1 AI (wrap64 (AD + 1)) 0 Ah (AJ ++ [(rd_T53 l0 AD).f1])) else (none)) else (gaugerref22_Read.l0 k1 l0 l1 AI (wrap64 (AD + 1)) 0 Ah AJ)) = some (r1, r2, r3, r4) := by first | (rw [Ll] at H; exact H) | (simp only [Ll] at H ⊢; exact H)
      have UB : (if AR < (wrap64 (((rd_T53 l0 AD).f1) + 1)) then (wrap64 (((rd_T53 l0 AD).f1) + 1)) else AR) = Ah := Ll
      by_cases c23 : ((rd_T53 l0 AD).f0) = 3
      ·rw [if_pos c23] at H
       have JW : (((rd_T53 l0 AD).f0) == 3) = true := beq_iff_eq.mpr c23
       have JX : (((rd_T53 l0 AD).f0) != 3) = false := bne_eq_false_iff_eq.mpr c23
       clear c23
       by_cases c24 : AJ.length < 17592186044416
       ·rw [if_pos c24] at H
        have QP := Aside0.mk c24
        clear c24
        obtain ⟨Me, IQ⟩ : ∃ y_ : List Int, y_ = (AJ ++ [(rd_T53 l0 AD).f1]) := ⟨_, rfl⟩
        replace H : (gaugerref22_Read.l0 k1 l0 l1 AI (wrap64 (AD + 1)) 0 Ah Me) = some (r1, r2, r3, r4) := by first | (rw [IQ]; with_reducible exact H) | (have H2_ := (Option.bind_some _ _).symm.trans H; rw [IQ]; with_reducible exact H2_) | (have H2_ := (Option.bind_some _ _).symm.trans H; with_reducible exact H2_) | with_reducible exact H | (rw [IQ]; exact H)|exact H
        have QQ := Aside0.mk IQ
        clear IQ
        have H' := Aside0.mk H
        clear H
        have DQ : 0 ≤ (AD : Int) := of_decide_eq_true (by first | (with_reducible assumption) | assumption)
        have DR : AD < (l0.length : Int) := of_decide_eq_true (by first | (with_reducible assumption) | assumption)
        obtain ⟨AF, Iv, Iw, Ix, Iy, Gw, Gx, Iz, Al, Am, An, Ao, Ap, Aq, Ar, As, At, Au, Af, Bf, Bg, Bh, Bi, Aw, Ax⟩ := at_T53 HR0.out AD DQ DR
        cases Iz
        replace Al := bce_ HB Al
        replace Am := bce_ HB Am
        replace An := bce_ HB An
        replace Ao := bce_ HB Ao
        replace Ap := bce_ HB Ap
        replace Aq := bce_ HB Aq
        replace Ar := bce_ HB Ar
        replace As := bce_ HB As
        replace At := bce_ HB At
        replace Au := bce_ HB Au
        replace Af := bce_ HB Af
        have Gy := Aside0.mk Bg
        have Gz := Aside0.mk Bf
        clear Bg Bf
        have HC := Aside0.mk Bi
        have HD := Aside0.mk Bh
        clear Bi Bh
        have Ge := Aside0.mk Ax
        have Gf := Aside0.mk Aw
        clear Ax Aw
        replace DQ := eq_true DQ
        replace DR := eq_true DR
        try go_wp2
        have n0_ := Aside0.mk (Kd.R_drew HO_154003.out)
        have n1_ := Aside0.mk (dr_ AG.out)
        have n2_ := Aside0.mk (dr_ AB.out)
        have n3_ := Aside0.mk (below_drew1 HB.out)
        clear HO_154003
        clear AG
        clear AB
        clear HB
        have HO_154003 := n0_
        have AG := n1_
        have AB := n2_
        have HB := n3_
        clear n0_ n1_ n2_ n3_
        have Dw : 0 ≤ (AD : Int) := of_decide_eq_true (by first | (with_reducible assumption) | assumption)
        have Dx : AD < (l0.length : Int) := of_decide_eq_true (by first | (with_reducible assumption) | assumption)
        obtain ⟨Lm, JI, JJ, JK, JL, HS, HT, PR, BE, BF, BG, BH, BI, BJ, BK, BL, BM, BN, Ai, EK, EL, EM, EN, Di, Dj⟩ := at_T53 HR0.out AD Dw Dx
        have Gi := Ai
        have HU := BN
        have HV := BM
        have HW := BL
        have HX := BK
        have HY := BJ
        have HZ := BI
        have Ha := BH
        have Hb := BG
        have Hc := BF
        have Hd := BE
        obtain rfl : AF = Lm := (by injection PR)
        replace BE := bce_ HB BE
        replace BF := bce_ HB BF
        replace BG := bce_ HB BG
        replace BH := bce_ HB BH
        replace BI := bce_ HB BI
        replace BJ := bce_ HB BJ
        replace BK := bce_ HB BK
        replace BL := bce_ HB BL
        replace BM := bce_ HB BM
        replace BN := bce_ HB BN
        replace Ai := bce_ HB Ai
        have He := Aside0.mk EL
        have Mf := Aside0.mk EK
        clear EL EK
        have Hf := Aside0.mk EN
        have Mg := Aside0.mk EM
        clear EN EM
        have Gj := Aside0.mk Dj
        have Ln := Aside0.mk Di
        clear Dj Di
        replace Dw := eq_true Dw
        replace Dx := eq_true Dx
        refine start_ (n := 11) (S := fun w' => w'.cell? ⟨AC, 0, none⟩ = some (.int .i64 0) ∧ w'.cell? ⟨AC, 1, none⟩ = some (.slice none 0 0) ∧ w'.cell? ⟨AC, 2, none⟩ = some (.int .i64 AR) ∧ w'.cell? ⟨AC, 3, none⟩ = some (AH) ∧ w'.cell? (AF.add ((AD).toNat * 11)) = some (.int .i64 ((rd_T53 l0 AD).f0)) ∧ w'.cell? ⟨(AF.add ((AD).toNat * 11)).block, (AF.add ((AD).toNat * 11)).off + 1, none⟩ = some (.int .i64 ((rd_T53 l0 AD).f1)) ∧ w'.cell? ⟨(AF.add ((AD).toNat * 11)).block, (AF.add ((AD).toNat * 11)).off + 2, none⟩ = some (.int .i64 ((rd_T53 l0 AD).f2)) ∧ w'.cell? ⟨(AF.add ((AD).toNat * 11)).block, (AF.add ((AD).toNat * 11)).off + 3, none⟩ = some (.int .i64 ((rd_T53 l0 AD).f3)) ∧ w'.cell? ⟨(AF.add ((AD).toNat * 11)).block, (AF.add ((AD).toNat * 11)).off + 4, none⟩ = some (.slice JI ((rd_T53 l0 AD).f4).length JJ) ∧ w'.cell? ⟨(AF.add ((AD).toNat * 11)).block, (AF.add ((AD).toNat * 11)).off + 5, none⟩ = some (.int .i64 ((rd_T53 l0 AD).f5.f0)) ∧ w'.cell? ⟨(AF.add ((AD).toNat * 11)).block, (AF.add ((AD).toNat * 11)).off + 6, none⟩ = some (.int .i64 ((rd_T53 l0 AD).f5.f1)) ∧ w'.cell? ⟨(AF.add ((AD).toNat * 11)).block, (AF.add ((AD).toNat * 11)).off + 7, none⟩ = some (.string ((rd_T53 l0 AD).f5.f2)) ∧ w'.cell? ⟨(AF.add ((AD).toNat * 11)).block, (AF.add ((AD).toNat * 11)).off + 8, none⟩ = some (.string ((rd_T53 l0 AD).f5.f3)) ∧ w'.cell? ⟨(AF.add ((AD).toNat * 11)).block, (AF.add ((AD).toNat * 11)).off + 9, none⟩ = some (.slice JK ((rd_T53 l0 AD).f6).length JL) ∧ w'.cell? ⟨(AF.add ((AD).toNat * 11)).block, (AF.add ((AD).toNat * 11)).off + 10, none⟩ = some (.slice HS ((rd_T53 l0 AD).f7).length HT)) (ds := [10]) #[false, false, false, false, false, false, false, false, false, false, false] (by kernel_rfl) rfl rfl ⟨(blk_cell AB.out 0).trans rfl, (blk_cell AB.out 1).trans rfl, (blk_cell AB.out 2).trans rfl, (blk_cell AB.out 3).trans rfl, (bce_ HB Hd), (bce_ HB Hc), (bce_ HB Hb), (bce_ HB Ha), (bce_ HB HZ), (bce_ HB HY), (bce_ HB HX), (bce_ HB HW), (bce_ HB HV), (bce_ HB HU), (bce_ HB Gi)⟩ (fun hHeld => ?_); refine with_tabW gaugerref22_Read.tab8 gaugerref22_Read.bits8 (fun HT_ HW_ => ?_)
        generalize wr.drew = w25 at HO_154003 AG AB HB Gj He Hf BE BF Ai BG BH BI BJ BK BL BM BN hHeld ⊢
        refine pure_ (i := 0) (N := some 28) (v := ?_) (a' := ?_) #[true, false, false, false, false, false, false, false, false, false, false] rfl rfl (any_of HT_.out (by kernel_rfl)) (fun _ _ _ h => h) (Or.inl ⟨by rfl, ?_⟩) ?_ ?_
        rotate_left;·(intro w';go_simp;with_reducible rfl)
        rotate_left;·(simp only[Act.put,si_,s0_,s1_,i64_w,i32_w];rfl)
        refine pure_ (i := 2) (N := some 30) (v := ?_) (a' := ?_) #[true, false, true, false, false, false, false, false, false, false, false] rfl rfl (any_of HT_.out (by kernel_rfl)) (fun _ _ _ h => h) (Or.inl ⟨by rfl, ?_⟩) ?_ ?_
        rotate_left;·(intro w';go_simp;with_reducible rfl)
        rotate_left;·(simp only[Act.put,si_,s0_,s1_,i64_w,i32_w];rfl)
        refine pure_ (i := 3) (N := some 31) (v := ?_) (a' := ?_) #[true, false, true, true, false, false, false, false, false, false, false] rfl rfl (any_of HT_.out (by kernel_rfl)) (fun _ _ _ h => h) (Or.inl ⟨by rfl, ?_⟩) ?_ ?_
        rotate_left;·(intro w';go_simp;with_reducible rfl)
        rotate_left;·(simp only[Act.put,si_,s0_,s1_,i64_w,i32_w];rfl)
        refine pure_ (i := 4) (N := some 32) (v := ?_) (a' := ?_) #[true, false, true, true, true, false, false, false, false, false, false] rfl rfl (any_of HT_.out (by kernel_rfl)) (fun _ _ _ h => h) (Or.inl ⟨by rfl, ?_⟩) ?_ ?_
        rotate_left;·(intro w';go_simp;with_reducible rfl)
        rotate_left;·(simp only[Act.put,si_,s0_,s1_,i64_w,i32_w];rfl)
        refine pure_ (i := 5) (N := some 33) (v := ?_) (a' := ?_) #[true, false, true, true, true, true, false, false, false, false, false] rfl rfl (any_of HT_.out (by kernel_rfl)) (fun _ _ _ h => h) (Or.inl ⟨by rfl, ?_⟩) ?_ ?_
        rotate_left;·(intro w';go_simp;with_reducible rfl)
        rotate_left;·(simp only[Act.put,si_,s0_,s1_,i64_w,i32_w];rfl)
        refine take_ (i := 1) (N := some 29) (v := ?_) (a' := ?_) #[true, true, true, true, true, true, false, false, false, false, false] rfl rfl (take_ofW HT_.out HW_.out (by kernel_rfl)) (fun _ _ _ h => h) (Or.inl ⟨by rfl, ?_⟩) hHeld ?_ ?_
        rotate_left
        ·rintro w' ⟨s0, s1, s2, s3, s4, s5, s6, s7, s8, s9, s10, s11, s12, s13, s14⟩
         go_simp
         with_reducible rfl
        rotate_left
        ·simp only [Act.put, si_, s0_, s1_, i64_w, i32_w]
         rfl
        refine take_ (i := 6) (N := some 34) (v := ?_) (a' := ?_) #[true, true, true, true, true, true, true, false, false, false, false] rfl rfl (take_ofW HT_.out HW_.out (by kernel_rfl)) (fun _ _ _ h => h) (Or.inl ⟨by rfl, ?_⟩) hHeld ?_ ?_
        rotate_left
        ·rintro w' ⟨s0, s1, s2, s3, s4, s5, s6, s7, s8, s9, s10, s11, s12, s13, s14⟩
         go_simp
         with_reducible rfl
        rotate_left
        ·simp only [Act.put, si_, s0_, s1_, i64_w, i32_w]
         rfl
        refine pure_ (i := 7) (N := some 35) (v := ?_) (a' := ?_) #[true, true, true, true, true, true, true, true, false, false, false] rfl rfl (any_of HT_.out (by kernel_rfl)) (fun _ _ _ h => h) (Or.inl ⟨by rfl, ?_⟩) ?_ ?_
        rotate_left;·(intro w';go_simp;with_reducible rfl)
        rotate_left;·(simp only[Act.put,si_,s0_,s1_,i64_w,i32_w];rfl)
        refine pure_ (i := 8) (N := some 36) (v := ?_) (a' := ?_) #[true, true, true, true, true, true, true, true, true, false, false] rfl rfl (any_of HT_.out (by kernel_rfl)) (fun _ _ _ h => h) (Or.inl ⟨by rfl, ?_⟩) ?_ ?_
        rotate_left;·(intro w';go_simp;with_reducible rfl)
        rotate_left;·(simp only[Act.put,si_,s0_,s1_,i64_w,i32_w];rfl)
        refine pure_ (i := 9) (N := some 37) (v := ?_) (a' := ?_) #[true, true, true, true, true, true, true, true, true, true, false] rfl rfl (any_of HT_.out (by kernel_rfl)) (fun _ _ _ h => h) (Or.inl ⟨by rfl, ?_⟩) ?_ ?_
        rotate_left;·(intro w';go_simp;with_reducible rfl)
        rotate_left;·(simp only[Act.put,si_,s0_,s1_,i64_w,i32_w];rfl)
        refine last_ (i := 10) (N := none) #[true, true, true, true, true, true, true, true, true, true, true] rfl rfl (one_of HT_.out (by kernel_rfl)) (by decide) (fun K hK => ?_)
        have VV : w25.cell? ⟨AC, 2, none⟩ = some (.int .i64 AR) := (blk_cell AB.out 2).trans rfl
        have Ug := blk_frozen AB.out 2
        have TB := AQ.out
        have TC := Ab.out
        refine skip_ (w1 := ?_) (by rfl) rfl ?_ ?_
        rotate_left
        ·go_simp
         rfl
        refine hK.out _ _ ?_
        clear hK K
        refine done_ (done_of HT_.out (by kernel_rfl)) ?_
        have Dy : 0 ≤ (AD : Int) := of_decide_eq_true (by first | (with_reducible assumption) | assumption)
        have Dz : AD < (l0.length : Int) := of_decide_eq_true (by first | (with_reducible assumption) | assumption)
        obtain ⟨Lo, PS, PT, PU, PV, Mh, Mi, PW, Av, BO, BP, BQ, BR, BS, BT, BU, BV, BW, Aj, EO, EP, EQ, ER, Dl, Dm⟩ := at_T53 HR0.out AD Dy Dz
        obtain rfl : AF = Lo := (by injection PW)
        have AL : AF.block ≠ AC := Nat.ne_of_lt (Nat.lt_of_lt_of_le (by have := World.block_lt_of_cell? _ _ Av; first | rwa [add_block] at this|exact this) JR.out)
        replace Av := bce_ HB Av
        replace BO := bce_ HB BO
        replace BP := bce_ HB BP
        replace BQ := bce_ HB BQ
        replace BR := bce_ HB BR
        replace BS := bce_ HB BS
        replace BT := bce_ HB BT
        replace BU := bce_ HB BU
        replace BV := bce_ HB BV
        replace BW := bce_ HB BW
        replace Aj := bce_ HB Aj
        have Mj := Aside0.mk EP
        have Ml := Aside0.mk EO
        clear EP EO
        have Mm := Aside0.mk ER
        have Mn := Aside0.mk EQ
        clear ER EQ
        have Lp := Aside0.mk Dm
        have Lq := Aside0.mk Dl
        clear Dm Dl
        replace Av := (cell_far (p := ⟨AC, 2, none⟩) (by first | (rw [add_block]; exact AL) | (show (Addr.add _ _).block ≠ _; rw [add_block]; exact AL)|exact AL) (.int .i64 Ah)).trans Av
        replace BO := (cell_far (p := ⟨AC, 2, none⟩) (by first | (rw [add_block]; exact AL) | (show (Addr.add _ _).block ≠ _; rw [add_block]; exact AL)|exact AL) (.int .i64 Ah)).trans BO
        replace BP := (cell_far (p := ⟨AC, 2, none⟩) (by first | (rw [add_block]; exact AL) | (show (Addr.add _ _).block ≠ _; rw [add_block]; exact AL)|exact AL) (.int .i64 Ah)).trans BP
        replace BQ := (cell_far (p := ⟨AC, 2, none⟩) (by first | (rw [add_block]; exact AL) | (show (Addr.add _ _).block ≠ _; rw [add_block]; exact AL)|exact AL) (.int .i64 Ah)).trans BQ
        replace BR := (cell_far (p := ⟨AC, 2, none⟩) (by first | (rw [add_block]; exact AL) | (show (Addr.add _ _).block ≠ _; rw [add_block]; exact AL)|exact AL) (.int .i64 Ah)).trans BR
        replace BS := (cell_far (p := ⟨AC, 2, none⟩) (by first | (rw [add_block]; exact AL) | (show (Addr.add _ _).block ≠ _; rw [add_block]; exact AL)|exact AL) (.int .i64 Ah)).trans BS
        replace BT := (cell_far (p := ⟨AC, 2, none⟩) (by first | (rw [add_block]; exact AL) | (show (Addr.add _ _).block ≠ _; rw [add_block]; exact AL)|exact AL) (.int .i64 Ah)).trans BT
        replace BU := (cell_far (p := ⟨AC, 2, none⟩) (by first | (rw [add_block]; exact AL) | (show (Addr.add _ _).block ≠ _; rw [add_block]; exact AL)|exact AL) (.int .i64 Ah)).trans BU
        replace BV := (cell_far (p := ⟨AC, 2, none⟩) (by first | (rw [add_block]; exact AL) | (show (Addr.add _ _).block ≠ _; rw [add_block]; exact AL)|exact AL) (.int .i64 Ah)).trans BV
        replace BW := (cell_far (p := ⟨AC, 2, none⟩) (by first | (rw [add_block]; exact AL) | (show (Addr.add _ _).block ≠ _; rw [add_block]; exact AL)|exact AL) (.int .i64 Ah)).trans BW
        replace Aj := (cell_far (p := ⟨AC, 2, none⟩) (by first | (rw [add_block]; exact AL) | (show (Addr.add _ _).block ≠ _; rw [add_block]; exact AL)|exact AL) (.int .i64 Ah)).trans Aj
        clear AL
        replace Dy := eq_true Dy
        replace Dz := eq_true Dz
        try go_wp2
        have n0_ : Aside0 (Kd.R (Kd.int .i64) 3 (w25.setCell ⟨AC, 2, none⟩ (.int .i64 Ah)) w.heap.size (fun _ => True) AH AJ) := ⟨by (with_reducible repeat (first|apply Kd.R_alloc|apply Kd.R_drewN|apply Kd.R_drew)); exact Kd.R_mono (Kd.R_far (p := ⟨AC, 2, none⟩) (Kd.R_types HO_154003.out AB.out (by decide)) (fun _ hk => hk.2) (.int .i64 Ah)) (fun _ hk => trivial)⟩
        have n1_ : Aside0 ((w25.setCell ⟨AC, 2, none⟩ (.int .i64 Ah)).heap[AY]? = some (.cells #[.int .i64 0, .slice none 0 0, .int .i64 0, .slice none 0 0] 61 (0, 0))) := ⟨by (with_reducible repeat (first|refine dn_ ?_ _|refine dr_ ?_|refine al_ ?_ _)); refine blk_far ?_ AQ.out _; (with_reducible repeat (first|refine dn_ ?_ _|refine dr_ ?_|refine al_ ?_ _)); exact AG.out⟩
        have n2_ : Aside0 ((w25.setCell ⟨AC, 2, none⟩ (.int .i64 Ah)).heap[AC]? = some (.cells #[.int .i64 0, .slice none 0 0, .int .i64 Ah, AH] 61 (0, 0))) := ⟨by (with_reducible repeat (first|refine dn_ ?_ _|refine dr_ ?_|refine al_ ?_ _)); refine blk_put (cs := #[.int .i64 0, .slice none 0 0, .int .i64 AR, AH]) ?_ 2 _ rfl; (with_reducible repeat (first|refine dn_ ?_ _|refine dr_ ?_|refine al_ ?_ _)); exact AB.out⟩
        have n3_ : Aside0 (Below w.heap.size w (w25.setCell ⟨AC, 2, none⟩ (.int .i64 Ah))) := ⟨by repeat (first | (with_reducible first|exact HB.out|apply below_alloc|apply pw_below_drewN|apply below_drew1|refine below_set ?_ AX.out|refine below_set ?_ AZ.out)|exact HB.out)⟩
        (try clear HO_154003)
        (try clear AG)
        (try clear AB)
        (try clear HB)
        generalize (w25.setCell ⟨AC, 2, none⟩ (.int .i64 Ah)) = w27 at n0_ n1_ n2_ n3_ ⊢
        have HO_154003 := n0_
        have AG := n1_
        have AB := n2_
        have HB := n3_
        clear n0_ n1_ n2_ n3_
        have n0_ := Aside0.mk (Kd.R_drew HO_154003.out)
        have n1_ := Aside0.mk (dr_ AG.out)
        have n2_ := Aside0.mk (dr_ AB.out)
        have n3_ := Aside0.mk (below_drew1 HB.out)
        clear HO_154003
        clear AG
        clear AB
        clear HB
        have HO_154003 := n0_
        have AG := n1_
        have AB := n2_
        have HB := n3_
        clear n0_ n1_ n2_ n3_
        have Gl : 0 ≤ (AD : Int) := of_decide_eq_true (by first | (with_reducible assumption) | assumption)
        have Gm : AD < (l0.length : Int) := of_decide_eq_true (by first | (with_reducible assumption) | assumption)
        obtain ⟨QR, PX, PY, PZ, Pa, Mo, Mp, UC, DX, DY, DZ, Da, Db, BX, BY, BZ, Ba, Bb, DS, JY, JZ, Ja, Jb, IR, IS⟩ := at_T53 HR0.out AD Gl Gm
        have ES := DS
        have GS := Bb
        have GT := Ba
        have GU := BZ
        have GV := BY
        have GW := BX
        have GX := Db
        have GY := Da
        have GZ := DZ
        have Ga := DY
        have Gb := DX
        obtain rfl : AF = QR := (by injection UC)
        replace DX := bce_ HB DX
        replace DY := bce_ HB DY
        replace DZ := bce_ HB DZ
        replace Da := bce_ HB Da
        replace Db := bce_ HB Db
        replace BX := bce_ HB BX
        replace BY := bce_ HB BY
        replace BZ := bce_ HB BZ
        replace Ba := bce_ HB Ba
        replace Bb := bce_ HB Bb
        replace DS := bce_ HB DS
        have Mq := Aside0.mk JZ
        have TD := Aside0.mk JY
        clear JZ JY
        have Mr := Aside0.mk Jb
        have TE := Aside0.mk Ja
        clear Jb Ja
        have Lr := Aside0.mk IS
        have QS := Aside0.mk IR
        clear IS IR
        replace Gl := eq_true Gl
        replace Gm := eq_true Gm
        refine start_ (n := 11) (S := fun w' => w'.cell? ⟨AC, 0, none⟩ = some (.int .i64 0) ∧ w'.cell? ⟨AC, 1, none⟩ = some (.slice none 0 0) ∧ w'.cell? ⟨AC, 2, none⟩ = some (.int .i64 Ah) ∧ w'.cell? ⟨AC, 3, none⟩ = some (AH) ∧ w'.cell? (AF.add ((AD).toNat * 11)) = some (.int .i64 ((rd_T53 l0 AD).f0)) ∧ w'.cell? ⟨(AF.add ((AD).toNat * 11)).block, (AF.add ((AD).toNat * 11)).off + 1, none⟩ = some (.int .i64 ((rd_T53 l0 AD).f1)) ∧ w'.cell? ⟨(AF.add ((AD).toNat * 11)).block, (AF.add ((AD).toNat * 11)).off + 2, none⟩ = some (.int .i64 ((rd_T53 l0 AD).f2)) ∧ w'.cell? ⟨(AF.add ((AD).toNat * 11)).block, (AF.add ((AD).toNat * 11)).off + 3, none⟩ = some (.int .i64 ((rd_T53 l0 AD).f3)) ∧ w'.cell? ⟨(AF.add ((AD).toNat * 11)).block, (AF.add ((AD).toNat * 11)).off + 4, none⟩ = some (.slice PX ((rd_T53 l0 AD).f4).length PY) ∧ w'.cell? ⟨(AF.add ((AD).toNat * 11)).block, (AF.add ((AD).toNat * 11)).off + 5, none⟩ = some (.int .i64 ((rd_T53 l0 AD).f5.f0)) ∧ w'.cell? ⟨(AF.add ((AD).toNat * 11)).block, (AF.add ((AD).toNat * 11)).off + 6, none⟩ = some (.int .i64 ((rd_T53 l0 AD).f5.f1)) ∧ w'.cell? ⟨(AF.add ((AD).toNat * 11)).block, (AF.add ((AD).toNat * 11)).off + 7, none⟩ = some (.string ((rd_T53 l0 AD).f5.f2)) ∧ w'.cell? ⟨(AF.add ((AD).toNat * 11)).block, (AF.add ((AD).toNat * 11)).off + 8, none⟩ = some (.string ((rd_T53 l0 AD).f5.f3)) ∧ w'.cell? ⟨(AF.add ((AD).toNat * 11)).block, (AF.add ((AD).toNat * 11)).off + 9, none⟩ = some (.slice PZ ((rd_T53 l0 AD).f6).length Pa) ∧ w'.cell? ⟨(AF.add ((AD).toNat * 11)).block, (AF.add ((AD).toNat * 11)).off + 10, none⟩ = some (.slice Mo ((rd_T53 l0 AD).f7).length Mp)) (ds := [10]) #[false, false, false, false, false, false, false, false, false, false, false] (by kernel_rfl) rfl rfl ⟨(blk_cell AB.out 0).trans rfl, (blk_cell AB.out 1).trans rfl, (blk_cell AB.out 2).trans rfl, (blk_cell AB.out 3).trans rfl, (bce_ HB Gb), (bce_ HB Ga), (bce_ HB GZ), (bce_ HB GY), (bce_ HB GX), (bce_ HB GW), (bce_ HB GV), (bce_ HB GU), (bce_ HB GT), (bce_ HB GS), (bce_ HB ES)⟩ (fun hHeld => ?_); refine with_tabW gaugerref22_Read.tab10 gaugerref22_Read.bits10 (fun HT_ HW_ => ?_)
        generalize w27.drew = w28 at HO_154003 AG AB HB Lr Mq Mr DX DY DS DZ Da Db BX BY BZ Ba Bb hHeld ⊢
        refine pure_ (i := 0) (N := some 44) (v := ?_) (a' := ?_) #[true, false, false, false, false, false, false, false, false, false, false] rfl rfl (any_of HT_.out (by kernel_rfl)) (fun _ _ _ h => h) (Or.inl ⟨by rfl, ?_⟩) ?_ ?_
        rotate_left;·(intro w';go_simp;with_reducible rfl)
        rotate_left;·(simp only[Act.put,si_,s0_,s1_,i64_w,i32_w];rfl)
        refine pure_ (i := 2) (N := some 46) (v := ?_) (a' := ?_) #[true, false, true, false, false, false, false, false, false, false, false] rfl rfl (any_of HT_.out (by kernel_rfl)) (fun _ _ _ h => h) (Or.inl ⟨by rfl, ?_⟩) ?_ ?_
        rotate_left;·(intro w';go_simp;with_reducible rfl)
        rotate_left;·(simp only[Act.put,si_,s0_,s1_,i64_w,i32_w];rfl)
        refine pure_ (i := 3) (N := some 47) (v := ?_) (a' := ?_) #[true, false, true, true, false, false, false, false, false, false, false] rfl rfl (any_of HT_.out (by kernel_rfl)) (fun _ _ _ h => h) (Or.inl ⟨by rfl, ?_⟩) ?_ ?_
        rotate_left;·(intro w';go_simp;with_reducible rfl)
        rotate_left;·(simp only[Act.put,si_,s0_,s1_,i64_w,i32_w];rfl)
        refine pure_ (i := 4) (N := some 48) (v := ?_) (a' := ?_) #[true, false, true, true, true, false, false, false, false, false, false] rfl rfl (any_of HT_.out (by kernel_rfl)) (fun _ _ _ h => h) (Or.inl ⟨by rfl, ?_⟩) ?_ ?_
        rotate_left;·(intro w';go_simp;with_reducible rfl)
        rotate_left;·(simp only[Act.put,si_,s0_,s1_,i64_w,i32_w];rfl)
        refine pure_ (i := 5) (N := some 49) (v := ?_) (a' := ?_) #[true, false, true, true, true, true, false, false, false, false, false] rfl rfl (any_of HT_.out (by kernel_rfl)) (fun _ _ _ h => h) (Or.inl ⟨by rfl, ?_⟩) ?_ ?_
        rotate_left;·(intro w';go_simp;with_reducible rfl)
        rotate_left;·(simp only[Act.put,si_,s0_,s1_,i64_w,i32_w];rfl)
        refine take_ (i := 1) (N := some 45) (v := ?_) (a' := ?_) #[true, true, true, true, true, true, false, false, false, false, false] rfl rfl (take_ofW HT_.out HW_.out (by kernel_rfl)) (fun _ _ _ h => h) (Or.inl ⟨by rfl, ?_⟩) hHeld ?_ ?_
        rotate_left
        ·rintro w' ⟨s0, s1, s2, s3, s4, s5, s6, s7, s8, s9, s10, s11, s12, s13, s14⟩
         go_simp
         with_reducible rfl
        rotate_left
        ·simp only [Act.put, si_, s0_, s1_, i64_w, i32_w]
         rfl
        refine take_ (i := 6) (N := some 50) (v := ?_) (a' := ?_) #[true, true, true, true, true, true, true, false, false, false, false] rfl rfl (take_ofW HT_.out HW_.out (by kernel_rfl)) (fun _ _ _ h => h) (Or.inl ⟨by rfl, ?_⟩) hHeld ?_ ?_
        rotate_left
        ·rintro w' ⟨s0, s1, s2, s3, s4, s5, s6, s7, s8, s9, s10, s11, s12, s13, s14⟩
         go_simp
         with_reducible rfl
        rotate_left
        ·simp only [Act.put, si_, s0_, s1_, i64_w, i32_w]
         rfl
        refine one_ (i := 7) (N := some 51) #[true, true, true, true, true, true, true, true, false, false, false] rfl rfl (one_of HT_.out (by kernel_rfl)) (by decide) (fun K hK => ?_)
        refine value_ (w1 := ?_) (v := ?_) (by rfl) rfl ?_ ?_
        rotate_left 2
        ·go_simp
         constructor
         ·rfl
         ·rfl
        refine hK.out _ _ ⟨(blk_cell (al_ AB.out _) 0).trans rfl, (blk_cell (al_ AB.out _) 1).trans rfl, (blk_cell (al_ AB.out _) 2).trans rfl, (blk_cell (al_ AB.out _) 3).trans rfl, (World.cell?_alloc_lt _ _ _ (World.block_lt_of_cell? _ _ ((bce_ HB Gb)))).trans ((bce_ HB Gb)), (World.cell?_alloc_lt _ _ _ (World.block_lt_of_cell? _ _ ((bce_ HB Ga)))).trans ((bce_ HB Ga)), (World.cell?_alloc_lt _ _ _ (World.block_lt_of_cell? _ _ ((bce_ HB GZ)))).trans ((bce_ HB GZ)), (World.cell?_alloc_lt _ _ _ (World.block_lt_of_cell? _ _ ((bce_ HB GY)))).trans ((bce_ HB GY)), (World.cell?_alloc_lt _ _ _ (World.block_lt_of_cell? _ _ ((bce_ HB GX)))).trans ((bce_ HB GX)), (World.cell?_alloc_lt _ _ _ (World.block_lt_of_cell? _ _ ((bce_ HB GW)))).trans ((bce_ HB GW)), (World.cell?_alloc_lt _ _ _ (World.block_lt_of_cell? _ _ ((bce_ HB GV)))).trans ((bce_ HB GV)), (World.cell?_alloc_lt _ _ _ (World.block_lt_of_cell? _ _ ((bce_ HB GU)))).trans ((bce_ HB GU)), (World.cell?_alloc_lt _ _ _ (World.block_lt_of_cell? _ _ ((bce_ HB GT)))).trans ((bce_ HB GT)), (World.cell?_alloc_lt _ _ _ (World.block_lt_of_cell? _ _ ((bce_ HB GS)))).trans ((bce_ HB GS)), (World.cell?_alloc_lt _ _ _ (World.block_lt_of_cell? _ _ ((bce_ HB ES)))).trans ((bce_ HB ES))⟩ (fun hHeld => ?_)
        clear hK K
        refine norm_ (a' := ?_) ?_ ?_
        rotate_left
        ·show Act.put _ (some 51) _ = _
         simp only [Act.put, si_, s0_, s1_, i64_w, i32_w]
         rfl
        refine one_ (i := 8) (N := some 52) #[true, true, true, true, true, true, true, true, true, false, false] rfl rfl (one_of HT_.out (by kernel_rfl)) (by decide) (fun K hK => ?_)
        refine Kd.R_append_step (Kd.int .i64) (w0 := w) w.heap.size (by rfl) (.tmp 45) (.tmp 51) 57 3 (.int .i64 0) 8 rfl Try.underlying57 info3 rfl (by decide) (by omega) AH AJ ((rd_T53 l0 AD).f1) [.int .i64 ((rd_T53 l0 AD).f1)] (fun _ => True) (fun _ => False) rfl rfl ?aP (fun _ hk => hk.elim) ?aF ?aO ?aB ?aS ?aL ?_
        (case aP => exact rfl)
        (case aB => exact (by repeat (first | (with_reducible first|exact HB.out|apply below_alloc|apply pw_below_drewN|apply below_drew1|refine below_set ?_ AX.out|refine below_set ?_ AZ.out)|exact HB.out)))
        (case aF => exact (fun _ _ => trivial))
        (case aO => exact (by (with_reducible repeat (first|apply Kd.R_alloc|apply Kd.R_drewN|apply Kd.R_drew)); exact HO_154003.out))
        (case aS => exact (below_size (by repeat (first | (with_reducible first|exact HB.out|apply below_alloc|apply pw_below_drewN|apply below_drew1|refine below_set ?_ AX.out|refine below_set ?_ AZ.out)|exact HB.out))))
        (case aL => have := QP.out; omega)
        intro VW w29 ho hb hg hat
        rw [← QQ.out] at ho
        have n0_ := Aside0.mk (blk_grown (g := AY) (o := .cells #[.int .i64 0, .slice none 0 0, .int .i64 0, .slice none 0 0] 61 (0, 0)) (by (with_reducible repeat (first|refine dn_ ?_ _|refine dr_ ?_|refine al_ ?_ _)); exact AG.out) hg (Kd.R_ne HO_154003.out AG.out (by decide)))
        have n1_ := Aside0.mk (blk_grown (g := AC) (o := .cells #[.int .i64 0, .slice none 0 0, .int .i64 Ah, AH] 61 (0, 0)) (by (with_reducible repeat (first|refine dn_ ?_ _|refine dr_ ?_|refine al_ ?_ _)); exact AB.out) hg (Kd.R_ne HO_154003.out AB.out (by decide)))
        have n2_ := Aside0.mk (hb)
        have n3_ := Aside0.mk (ho)
        clear AG
        clear AB
        clear HB
        clear HO_154003
        have AG := n0_
        have AB := n1_
        have HB := n2_
        have Np := n3_
        clear n0_ n1_ n2_ n3_
        clear ho hb hg hat
        obtain ⟨QT, QU, QV⟩ := Kd.R_slice Np.out
        (first | subst QV | (injection QV with f1_ f2_ f3_; have f4_ := f1_.symm; have f5_ := f3_.symm; clear f1_ f2_ f3_; subst f4_; subst f5_))
        refine hK.out _ _ ⟨(blk_cell AB.out 0).trans rfl, (blk_cell AB.out 1).trans rfl, (blk_cell AB.out 2).trans rfl, (blk_cell AB.out 3).trans rfl, (bce_ HB Gb), (bce_ HB Ga), (bce_ HB GZ), (bce_ HB GY), (bce_ HB GX), (bce_ HB GW), (bce_ HB GV), (bce_ HB GU), (bce_ HB GT), (bce_ HB GS), (bce_ HB ES)⟩ (fun hHeld => ?_)
        clear hK K
        refine norm_ (a' := ?_) ?_ ?_
        rotate_left
        ·show Act.put _ (some 52) _ = _
         simp only [Act.put, si_, s0_, s1_, i64_w, i32_w]
         rfl
        refine pure_ (i := 9) (N := some 53) (v := ?_) (a' := ?_) #[true, true, true, true, true, true, true, true, true, true, false] rfl rfl (any_of HT_.out (by kernel_rfl)) (fun _ _ _ h => h) (Or.inl ⟨by rfl, ?_⟩) ?_ ?_
        rotate_left;·(intro w';go_simp;with_reducible rfl)
        rotate_left;·(simp only[Act.put,si_,s0_,s1_,i64_w,i32_w];rfl)
        refine last_ (i := 10) (N := none) #[true, true, true, true, true, true, true, true, true, true, true] rfl rfl (one_of HT_.out (by kernel_rfl)) (by decide) (fun K hK => ?_)
        have VX : w29.cell? ⟨AC, 3, none⟩ = some (AH) := (blk_cell AB.out 3).trans rfl
        have Uh := blk_frozen AB.out 3
        have TF := AQ.out
        have TG := Ab.out
        refine skip_ (w1 := ?_) (by rfl) rfl ?_ ?_
        rotate_left
        ·go_simp
         rfl
        refine hK.out _ _ ?_
        clear hK K
        refine done_ (done_of HT_.out (by kernel_rfl)) ?_
        try go_wp2
        go_roundg k1
        case measure => have := HK1.out; omega
        case rel => exact ⟨(AI), (wrap64 (AD + 1)), (Ah), (Me), (.slice QT Me.length QU), (by first | rfl | (simp; done) | (simp [*]; done)), (by first | rfl | (simp; done) | (simp [*]; done)), H', ⟨by have := HK1.out; omega⟩, ⟨by (with_reducible repeat (first|apply Kd.R_alloc|apply Kd.R_drewN|apply Kd.R_drew)); exact Kd.R_mono (Kd.R_far (p := ⟨AC, 3, none⟩) (Kd.R_types Np.out AB.out (by decide)) (fun _ hk => hk.2) (.slice QT Me.length QU)) (fun _ hk => trivial)⟩, ⟨by (with_reducible repeat (first|refine dn_ ?_ _|refine dr_ ?_|refine al_ ?_ _)); refine blk_far ?_ AQ.out _; (with_reducible repeat (first|refine dn_ ?_ _|refine dr_ ?_|refine al_ ?_ _)); exact AG.out⟩, ⟨by (with_reducible repeat (first|refine dn_ ?_ _|refine dr_ ?_|refine al_ ?_ _)); refine blk_put (cs := #[.int .i64 0, .slice none 0 0, .int .i64 Ah, AH]) ?_ 3 _ rfl; (with_reducible repeat (first|refine dn_ ?_ _|refine dr_ ?_|refine al_ ?_ _)); exact AB.out⟩, ⟨by repeat (first | (with_reducible first|exact HB.out|apply below_alloc|apply pw_below_drewN|apply below_drew1|refine below_set ?_ AX.out|refine below_set ?_ AZ.out)|exact HB.out)⟩⟩
       ·rw [if_neg c24] at H
        exact absurd H (by simp)
      ·rw [if_neg c23] at H
       have JW : (((rd_T53 l0 AD).f0) == 3) = false := beq_eq_false_iff_ne.mpr c23
       have JX : (((rd_T53 l0 AD).f0) != 3) = true := bne_iff_ne.mpr c23
       have H' := Aside0.mk H
       clear H
       have DQ : 0 ≤ (AD : Int) := of_decide_eq_true (by first | (with_reducible assumption) | assumption)
       have DR : AD < (l0.length : Int) := of_decide_eq_true (by first | (with_reducible assumption) | assumption)
       obtain ⟨AF, Iv, Iw, Ix, Iy, Gw, Gx, Iz, Al, Am, An, Ao, Ap, Aq, Ar, As, At, Au, Af, Bf, Bg, Bh, Bi, Aw, Ax⟩ := at_T53 HR0.out AD DQ DR
       cases Iz
       replace Al := bce_ HB Al
       replace Am := bce_ HB Am
       replace An := bce_ HB An
       replace Ao := bce_ HB Ao
       replace Ap := bce_ HB Ap
       replace Aq := bce_ HB Aq
       replace Ar := bce_ HB Ar
       replace As := bce_ HB As
       replace At := bce_ HB At
       replace Au := bce_ HB Au
       replace Af := bce_ HB Af
       have Gy := Aside0.mk Bg
       have Gz := Aside0.mk Bf
       clear Bg Bf
       have HC := Aside0.mk Bi
       have HD := Aside0.mk Bh
       clear Bi Bh
       have Ge := Aside0.mk Ax
       have Gf := Aside0.mk Aw
       clear Ax Aw
       replace DQ := eq_true DQ
       replace DR := eq_true DR
       try go_wp2
       have n0_ := Aside0.mk (Kd.R_drew HO_154003.out)
       have n1_ := Aside0.mk (dr_ AG.out)
       have n2_ := Aside0.mk (dr_ AB.out)
       have n3_ := Aside0.mk (below_drew1 HB.out)
       clear HO_154003
       clear AG
       clear AB
       clear HB
       have HO_154003 := n0_
       have AG := n1_
       have AB := n2_
       have HB := n3_
       clear n0_ n1_ n2_ n3_
       have Dw : 0 ≤ (AD : Int) := of_decide_eq_true (by first | (with_reducible assumption) | assumption)
       have Dx : AD < (l0.length : Int) := of_decide_eq_true (by first | (with_reducible assumption) | assumption)
       obtain ⟨Lm, JI, JJ, JK, JL, HS, HT, PR, BE, BF, BG, BH, BI, BJ, BK, BL, BM, BN, Ai, EK, EL, EM, EN, Di, Dj⟩ := at_T53 HR0.out AD Dw Dx
       have Gi := Ai
       have HU := BN
       have HV := BM
       have HW := BL
       have HX := BK
       have HY := BJ
       have HZ := BI
       have Ha := BH
       have Hb := BG
       have Hc := BF
       have Hd := BE
       obtain rfl : AF = Lm := (by injection PR)
       replace BE := bce_ HB BE
       replace BF := bce_ HB BF
       replace BG := bce_ HB BG
       replace BH := bce_ HB BH
       replace BI := bce_ HB BI
       replace BJ := bce_ HB BJ
       replace BK := bce_ HB BK
       replace BL := bce_ HB BL
       replace BM := bce_ HB BM
       replace BN := bce_ HB BN
       replace Ai := bce_ HB Ai
       have He := Aside0.mk EL
       have Mf := Aside0.mk EK
       clear EL EK
       have Hf := Aside0.mk EN
       have Mg := Aside0.mk EM
       clear EN EM
       have Gj := Aside0.mk Dj
       have Ln := Aside0.mk Di
       clear Dj Di
       replace Dw := eq_true Dw
       replace Dx := eq_true Dx
       refine start_ (n := 11) (S := fun w' => w'.cell? ⟨AC, 0, none⟩ = some (.int .i64 0) ∧ w'.cell? ⟨AC, 1, none⟩ = some (.slice none 0 0) ∧ w'.cell? ⟨AC, 2, none⟩ = some (.int .i64 AR) ∧ w'.cell? ⟨AC, 3, none⟩ = some (AH) ∧ w'.cell? (AF.add ((AD).toNat * 11)) = some (.int .i64 ((rd_T53 l0 AD).f0)) ∧ w'.cell? ⟨(AF.add ((AD).toNat * 11)).block, (AF.add ((AD).toNat * 11)).off + 1, none⟩ = some (.int .i64 ((rd_T53 l0 AD).f1)) ∧ w'.cell? ⟨(AF.add ((AD).toNat * 11)).block, (AF.add ((AD).toNat * 11)).off + 2, none⟩ = some (.int .i64 ((rd_T53 l0 AD).f2)) ∧ w'.cell? ⟨(AF.add ((AD).toNat * 11)).block, (AF.add ((AD).toNat * 11)).off + 3, none⟩ = some (.int .i64 ((rd_T53 l0 AD).f3)) ∧ w'.cell? ⟨(AF.add ((AD).toNat * 11)).block, (AF.add ((AD).toNat * 11)).off + 4, none⟩ = some (.slice JI ((rd_T53 l0 AD).f4).length JJ) ∧ w'.cell? ⟨(AF.add ((AD).toNat * 11)).block, (AF.add ((AD).toNat * 11)).off + 5, none⟩ = some (.int .i64 ((rd_T53 l0 AD).f5.f0)) ∧ w'.cell? ⟨(AF.add ((AD).toNat * 11)).block, (AF.add ((AD).toNat * 11)).off + 6, none⟩ = some (.int .i64 ((rd_T53 l0 AD).f5.f1)) ∧ w'.cell? ⟨(AF.add ((AD).toNat * 11)).block, (AF.add ((AD).toNat * 11)).off + 7, none⟩ = some (.string ((rd_T53 l0 AD).f5.f2)) ∧ w'.cell? ⟨(AF.add ((AD).toNat * 11)).block, (AF.add ((AD).toNat * 11)).off + 8, none⟩ = some (.string ((rd_T53 l0 AD).f5.f3)) ∧ w'.cell? ⟨(AF.add ((AD).toNat * 11)).block, (AF.add ((AD).toNat * 11)).off + 9, none⟩ = some (.slice JK ((rd_T53 l0 AD).f6).length JL) ∧ w'.cell? ⟨(AF.add ((AD).toNat * 11)).block, (AF.add ((AD).toNat * 11)).off + 10, none⟩ = some (.slice HS ((rd_T53 l0 AD).f7).length HT)) (ds := [10]) #[false, false, false, false, false, false, false, false, false, false, false] (by kernel_rfl) rfl rfl ⟨(blk_cell AB.out 0).trans rfl, (blk_cell AB.out 1).trans rfl, (blk_cell AB.out 2).trans rfl, (blk_cell AB.out 3).trans rfl, (bce_ HB Hd), (bce_ HB Hc), (bce_ HB Hb), (bce_ HB Ha), (bce_ HB HZ), (bce_ HB HY), (bce_ HB HX), (bce_ HB HW), (bce_ HB HV), (bce_ HB HU), (bce_ HB Gi)⟩ (fun hHeld => ?_); refine with_tabW gaugerref22_Read.tab8 gaugerref22_Read.bits8 (fun HT_ HW_ => ?_)
       generalize wr.drew = w32 at HO_154003 AG AB HB Gj He Hf BE BF Ai BG BH BI BJ BK BL BM BN hHeld ⊢
       refine pure_ (i := 0) (N := some 28) (v := ?_) (a' := ?_) #[true, false, false, false, false, false, false, false, false, false, false] rfl rfl (any_of HT_.out (by kernel_rfl)) (fun _ _ _ h => h) (Or.inl ⟨by rfl, ?_⟩) ?_ ?_
       rotate_left;·(intro w';go_simp;with_reducible rfl)
       rotate_left;·(simp only[Act.put,si_,s0_,s1_,i64_w,i32_w];rfl)
       refine pure_ (i := 2) (N := some 30) (v := ?_) (a' := ?_) #[true, false, true, false, false, false, false, false, false, false, false] rfl rfl (any_of HT_.out (by kernel_rfl)) (fun _ _ _ h => h) (Or.inl ⟨by rfl, ?_⟩) ?_ ?_
       rotate_left;·(intro w';go_simp;with_reducible rfl)
       rotate_left;·(simp only[Act.put,si_,s0_,s1_,i64_w,i32_w];rfl)
       refine pure_ (i := 3) (N := some 31) (v := ?_) (a' := ?_) #[true, false, true, true, false, false, false, false, false, false, false] rfl rfl (any_of HT_.out (by kernel_rfl)) (fun _ _ _ h => h) (Or.inl ⟨by rfl, ?_⟩) ?_ ?_
       rotate_left;·(intro w';go_simp;with_reducible rfl)
       rotate_left;·(simp only[Act.put,si_,s0_,s1_,i64_w,i32_w];rfl)
       refine pure_ (i := 4) (N := some 32) (v := ?_) (a' := ?_) #[true, false, true, true, true, false, false, false, false, false, false] rfl rfl (any_of HT_.out (by kernel_rfl)) (fun _ _ _ h => h) (Or.inl ⟨by rfl, ?_⟩) ?_ ?_
       rotate_left;·(intro w';go_simp;with_reducible rfl)
       rotate_left;·(simp only[Act.put,si_,s0_,s1_,i64_w,i32_w];rfl)
       refine pure_ (i := 5) (N := some 33) (v := ?_) (a' := ?_) #[true, false, true, true, true, true, false, false, false, false, false] rfl rfl (any_of HT_.out (by kernel_rfl)) (fun _ _ _ h => h) (Or.inl ⟨by rfl, ?_⟩) ?_ ?_
       rotate_left;·(intro w';go_simp;with_reducible rfl)
       rotate_left;·(simp only[Act.put,si_,s0_,s1_,i64_w,i32_w];rfl)
       refine take_ (i := 1) (N := some 29) (v := ?_) (a' := ?_) #[true, true, true, true, true, true, false, false, false, false, false] rfl rfl (take_ofW HT_.out HW_.out (by kernel_rfl)) (fun _ _ _ h => h) (Or.inl ⟨by rfl, ?_⟩) hHeld ?_ ?_
       rotate_left
       ·rintro w' ⟨s0, s1, s2, s3, s4, s5, s6, s7, s8, s9, s10, s11, s12, s13, s14⟩
        go_simp
        with_reducible rfl
       rotate_left
       ·simp only [Act.put, si_, s0_, s1_, i64_w, i32_w]
        rfl
       refine take_ (i := 6) (N := some 34) (v := ?_) (a' := ?_) #[true, true, true, true, true, true, true, false, false, false, false] rfl rfl (take_ofW HT_.out HW_.out (by kernel_rfl)) (fun _ _ _ h => h) (Or.inl ⟨by rfl, ?_⟩) hHeld ?_ ?_
       rotate_left
       ·rintro w' ⟨s0, s1, s2, s3, s4, s5, s6, s7, s8, s9, s10, s11, s12, s13, s14⟩
        go_simp
        with_reducible rfl
       rotate_left
       ·simp only [Act.put, si_, s0_, s1_, i64_w, i32_w]
        rfl
       refine pure_ (i := 7) (N := some 35) (v := ?_) (a' := ?_) #[true, true, true, true, true, true, true, true, false, false, false] rfl rfl (any_of HT_.out (by kernel_rfl)) (fun _ _ _ h => h) (Or.inl ⟨by rfl, ?_⟩) ?_ ?_
       rotate_left;·(intro w';go_simp;with_reducible rfl)
       rotate_left;·(simp only[Act.put,si_,s0_,s1_,i64_w,i32_w];rfl)
       refine pure_ (i := 8) (N := some 36) (v := ?_) (a' := ?_) #[true, true, true, true, true, true, true, true, true, false, false] rfl rfl (any_of HT_.out (by kernel_rfl)) (fun _ _ _ h => h) (Or.inl ⟨by rfl, ?_⟩) ?_ ?_
       rotate_left;·(intro w';go_simp;with_reducible rfl)
       rotate_left;·(simp only[Act.put,si_,s0_,s1_,i64_w,i32_w];rfl)
       refine pure_ (i := 9) (N := some 37) (v := ?_) (a' := ?_) #[true, true, true, true, true, true, true, true, true, true, false] rfl rfl (any_of HT_.out (by kernel_rfl)) (fun _ _ _ h => h) (Or.inl ⟨by rfl, ?_⟩) ?_ ?_
       rotate_left;·(intro w';go_simp;with_reducible rfl)
       rotate_left;·(simp only[Act.put,si_,s0_,s1_,i64_w,i32_w];rfl)
       refine last_ (i := 10) (N := none) #[true, true, true, true, true, true, true, true, true, true, true] rfl rfl (one_of HT_.out (by kernel_rfl)) (by decide) (fun K hK => ?_)
       have VY : w32.cell? ⟨AC, 2, none⟩ = some (.int .i64 AR) := (blk_cell AB.out 2).trans rfl
       have Ui := blk_frozen AB.out 2
       have TH := AQ.out
       have TI := Ab.out
       refine skip_ (w1 := ?_) (by rfl) rfl ?_ ?_
       rotate_left
       ·go_simp
        rfl
       refine hK.out _ _ ?_
       clear hK K
       refine done_ (done_of HT_.out (by kernel_rfl)) ?_
       have Dy : 0 ≤ (AD : Int) := of_decide_eq_true (by first | (with_reducible assumption) | assumption)
       have Dz : AD < (l0.length : Int) := of_decide_eq_true (by first | (with_reducible assumption) | assumption)
       obtain ⟨Lo, PS, PT, PU, PV, Mh, Mi, PW, Av, BO, BP, BQ, BR, BS, BT, BU, BV, BW, Aj, EO, EP, EQ, ER, Dl, Dm⟩ := at_T53 HR0.out AD Dy Dz
       obtain rfl : AF = Lo := (by injection PW)
       have AL : AF.block ≠ AC := Nat.ne_of_lt (Nat.lt_of_lt_of_le (by have := World.block_lt_of_cell? _ _ Av; first | rwa [add_block] at this|exact this) JR.out)
       replace Av := bce_ HB Av
       replace BO := bce_ HB BO
       replace BP := bce_ HB BP
       replace BQ := bce_ HB BQ
       replace BR := bce_ HB BR
       replace BS := bce_ HB BS
       replace BT := bce_ HB BT
       replace BU := bce_ HB BU
       replace BV := bce_ HB BV
       replace BW := bce_ HB BW
       replace Aj := bce_ HB Aj
       have Mj := Aside0.mk EP
       have Ml := Aside0.mk EO
       clear EP EO
       have Mm := Aside0.mk ER
       have Mn := Aside0.mk EQ
       clear ER EQ
       have Lp := Aside0.mk Dm
       have Lq := Aside0.mk Dl
       clear Dm Dl
       replace Av := (cell_far (p := ⟨AC, 2, none⟩) (by first | (rw [add_block]; exact AL) | (show (Addr.add _ _).block ≠ _; rw [add_block]; exact AL)|exact AL) (.int .i64 Ah)).trans Av
       replace BO := (cell_far (p := ⟨AC, 2, none⟩) (by first | (rw [add_block]; exact AL) | (show (Addr.add _ _).block ≠ _; rw [add_block]; exact AL)|exact AL) (.int .i64 Ah)).trans BO
       replace BP := (cell_far (p := ⟨AC, 2, none⟩) (by first | (rw [add_block]; exact AL) | (show (Addr.add _ _).block ≠ _; rw [add_block]; exact AL)|exact AL) (.int .i64 Ah)).trans BP
       replace BQ := (cell_far (p := ⟨AC, 2, none⟩) (by first | (rw [add_block]; exact AL) | (show (Addr.add _ _).block ≠ _; rw [add_block]; exact AL)|exact AL) (.int .i64 Ah)).trans BQ
       replace BR := (cell_far (p := ⟨AC, 2, none⟩) (by first | (rw [add_block]; exact AL) | (show (Addr.add _ _).block ≠ _; rw [add_block]; exact AL)|exact AL) (.int .i64 Ah)).trans BR
       replace BS := (cell_far (p := ⟨AC, 2, none⟩) (by first | (rw [add_block]; exact AL) | (show (Addr.add _ _).block ≠ _; rw [add_block]; exact AL)|exact AL) (.int .i64 Ah)).trans BS
       replace BT := (cell_far (p := ⟨AC, 2, none⟩) (by first | (rw [add_block]; exact AL) | (show (Addr.add _ _).block ≠ _; rw [add_block]; exact AL)|exact AL) (.int .i64 Ah)).trans BT
       replace BU := (cell_far (p := ⟨AC, 2, none⟩) (by first | (rw [add_block]; exact AL) | (show (Addr.add _ _).block ≠ _; rw [add_block]; exact AL)|exact AL) (.int .i64 Ah)).trans BU
       replace BV := (cell_far (p := ⟨AC, 2, none⟩) (by first | (rw [add_block]; exact AL) | (show (Addr.add _ _).block ≠ _; rw [add_block]; exact AL)|exact AL) (.int .i64 Ah)).trans BV
       replace BW := (cell_far (p := ⟨AC, 2, none⟩) (by first | (rw [add_block]; exact AL) | (show (Addr.add _ _).block ≠ _; rw [add_block]; exact AL)|exact AL) (.int .i64 Ah)).trans BW
       replace Aj := (cell_far (p := ⟨AC, 2, none⟩) (by first | (rw [add_block]; exact AL) | (show (Addr.add _ _).block ≠ _; rw [add_block]; exact AL)|exact AL) (.int .i64 Ah)).trans Aj
       clear AL
       replace Dy := eq_true Dy
       replace Dz := eq_true Dz
       try go_wp2
       go_roundg k1
       case measure => have := HK1.out; omega
       case rel => exact ⟨(AI), (wrap64 (AD + 1)), (Ah), (AJ), (AH), (by first | rfl | (simp; done) | (simp [*]; done)), (by first | rfl | (simp; done) | (simp [*]; done)), H', ⟨by have := HK1.out; omega⟩, ⟨by (with_reducible repeat (first|apply Kd.R_alloc|apply Kd.R_drewN|apply Kd.R_drew)); exact Kd.R_mono (Kd.R_far (p := ⟨AC, 2, none⟩) (Kd.R_types HO_154003.out AB.out (by decide)) (fun _ hk => hk.2) (.int .i64 Ah)) (fun _ hk => trivial)⟩, ⟨by (with_reducible repeat (first|refine dn_ ?_ _|refine dr_ ?_|refine al_ ?_ _)); refine blk_far ?_ AQ.out _; (with_reducible repeat (first|refine dn_ ?_ _|refine dr_ ?_|refine al_ ?_ _)); exact AG.out⟩, ⟨by (with_reducible repeat (first|refine dn_ ?_ _|refine dr_ ?_|refine al_ ?_ _)); refine blk_put (cs := #[.int .i64 0, .slice none 0 0, .int .i64 AR, AH]) ?_ 2 _ rfl; (with_reducible repeat (first|refine dn_ ?_ _|refine dr_ ?_|refine al_ ?_ _)); exact AB.out⟩, ⟨by repeat (first | (with_reducible first|exact HB.out|apply below_alloc|apply pw_below_drewN|apply below_drew1|refine below_set ?_ AX.out|refine below_set ?_ AZ.out)|exact HB.out)⟩⟩
    ·rw [if_neg c8] at H
     exact absurd H (by simp)
   ·rw [if_neg c7] at H
    have MQ : decide (AD < (l0.length : Int)) = false := decide_eq_false c7
    clear c7
    have Pb := Aside0.mk H
    clear H
    go_upto_if 56 with (fail)
    go_cut [] (fun wc => ∃ (kq : Nat) (Bz : Int), Aside0 (gaugerref22_Read.j1 kq l0 l1 AI Bz AR AJ = some (r1, r2, r3, r4)) ∧ Aside0 (kq ≤ k1) ∧ Aside0 (Kd.R (Kd.int .i64) 3 wc w.heap.size (fun _ => True) AH AJ) ∧ Aside0 (wc.heap[AY]? = some (.cells #[.int .i64 0, (.slice none 0 0), .int .i64 0, (.slice none 0 0)] 61 (0, 0))) ∧ Aside0 (wc.heap[AC]? = some (.cells #[.int .i64 Bz, (.slice none 0 0), .int .i64 AR, AH] 61 (0, 0))) ∧ Aside0 (Below w.heap.size w wc))
    case first =>
     have H := Pb.out
     clear Pb
     by_cases c35 : (l0.length : Int) > 0
     ·rw [if_pos c35] at H
      have Es : decide (0 < (l0.length : Int)) = true := decide_eq_true c35
      have Jc : decide (0 < l0.length) = true := decide_eq_true (by omega)
      have c35p : (0 < l0.length) = True := eq_true (by omega)
      clear c35
      (first | rw [Es] | (simp only [i64_w, i32_w]; rw [Es]) | skip)
      by_cases c36 : 0 < (l1.length : Int)
      ·rw [if_pos c36] at H
       have Ls : decide (0 < (l1.length : Int)) = true := decide_eq_true c36
       have Lt : decide (0 < l1.length) = true := decide_eq_true (by omega)
       clear c36
       have H' := Aside0.mk H
       clear H
       have Gn : 0 ≤ (0 : Int) := (by omega)
       have Gp : 0 < (l1.length : Int) := of_decide_eq_true (by first | (with_reducible assumption) | assumption)
       obtain ⟨Uj, UD, Bc⟩ := Kd.at_int HR1.out 0 Gn Gp
       cases UD
       have Ul : (0 < l1.length) = True := eq_true (by omega)
       (try rw [show ((0 : Int)).toNat = 0 from rfl] at Bc)
       (try rw [Addr.add_zero'] at Bc)
       replace Bc := bce_ HB Bc
       replace Gn := eq_true Gn
       replace Gp := eq_true Gp
       have Um := Ab.out
       have Un := AQ.out
       have Hg : wr.cell? ⟨AC, 0, none⟩ = some (.int .i64 0) := (blk_cell AB.out 0).trans rfl
       have Hh : wr.cell? ⟨AC, 1, none⟩ = some (.slice none 0 0) := (blk_cell AB.out 1).trans rfl
       have Hi : wr.cell? ⟨AC, 2, none⟩ = some (.int .i64 AR) := (blk_cell AB.out 2).trans rfl
       have Hj : wr.cell? ⟨AC, 3, none⟩ = some (AH) := (blk_cell AB.out 3).trans rfl
       have Hl := blk_frozen AB.out 0
       have Hm := blk_frozen AB.out 1
       have Hn := blk_frozen AB.out 2
       have Ho := blk_frozen AB.out 3
       go_wp2
       all_goals (first | (exact absurd (of_eq_true c35p) (by assumption)) | skip)
       go_meet
       case rel => exact ⟨_, (rd l1 0), H', ⟨by have := HK1.out; first | omega|exact Nat.le_refl _⟩, ⟨by (with_reducible repeat (first|apply Kd.R_alloc|apply Kd.R_drewN|apply Kd.R_drew)); exact Kd.R_mono (Kd.R_far (p := ⟨AC, 0, none⟩) (Kd.R_types HO_154003.out AB.out (by decide)) (fun _ hk => hk.2) (.int .i64 (rd l1 0))) (fun _ hk => trivial)⟩, ⟨by (with_reducible repeat (first|refine dn_ ?_ _|refine dr_ ?_|refine al_ ?_ _)); refine blk_far ?_ AQ.out _; (with_reducible repeat (first|refine dn_ ?_ _|refine dr_ ?_|refine al_ ?_ _)); exact AG.out⟩, ⟨by (with_reducible repeat (first|refine dn_ ?_ _|refine dr_ ?_|refine al_ ?_ _)); refine blk_put (cs := #[.int .i64 0, .slice none 0 0, .int .i64 AR, AH]) ?_ 0 _ rfl; (with_reducible repeat (first|refine dn_ ?_ _|refine dr_ ?_|refine al_ ?_ _)); exact AB.out⟩, ⟨by repeat (first | (with_reducible first|exact HB.out|apply below_alloc|apply pw_below_drewN|apply below_drew1|refine below_set ?_ AX.out|refine below_set ?_ AZ.out)|exact HB.out)⟩⟩
      ·rw [if_neg c36] at H
       exact absurd H (by simp)
     ·rw [if_neg c35] at H
      have Es : decide (0 < (l0.length : Int)) = false := decide_eq_false c35
      have Jc : decide (0 < l0.length) = false := decide_eq_false (by omega)
      have c35p : (0 < l0.length) = False := eq_false (by omega)
      clear c35
      (first | rw [Es] | (simp only [i64_w, i32_w]; rw [Es]) | skip)
      have H' := Aside0.mk H
      clear H
      go_wp2
      all_goals (first | (exact absurd (by assumption : 0 < l0.length) (of_eq_false c35p)) | skip)
      go_meet
      case rel => exact ⟨_, (0), H', ⟨by have := HK1.out; first | omega|exact Nat.le_refl _⟩, ⟨by (with_reducible repeat (first|apply Kd.R_alloc|apply Kd.R_drewN|apply Kd.R_drew)); exact HO_154003.out⟩, ⟨by (with_reducible repeat (first|refine dn_ ?_ _|refine dr_ ?_|refine al_ ?_ _)); exact AG.out⟩, ⟨by (with_reducible repeat (first|refine dn_ ?_ _|refine dr_ ?_|refine al_ ?_ _)); exact AB.out⟩, ⟨by repeat (first | (with_reducible first|exact HB.out|apply below_alloc|apply pw_below_drewN|apply below_drew1|refine below_set ?_ AX.out|refine below_set ?_ AZ.out)|exact HB.out)⟩⟩
    case rest =>
     clear Pb
     try clear c1
     try clear p1
     try clear q1
     try clear hx1
     try clear qi1
     try clear c2
     try clear p2
     try clear c3
     try clear p6
     try clear c7
     try clear MQ
     try clear c8
     try clear c15
     try clear p15
     try clear q15
     try clear QW
     try clear c16
     try clear p16
     try clear q16
     try clear JM
     try clear QX
     try clear c23
     try clear JW
     try clear JX
     try clear c24
     try clear c35
     try clear Es
     try clear Jc
     try clear c36
     try clear Ls
     try clear Lt
     try clear c37
     try clear Hg
     try clear Hh
     try clear Hi
     try clear Hj
     try clear Hl
     try clear Hm
     try clear Hn
     try clear Ho
     try clear Al
     try clear Am
     try clear Af
     try clear An
     try clear Ao
     try clear Ap
     try clear Aq
     try clear Ar
     try clear As
     try clear At
     try clear Au
     try clear BE
     try clear BF
     try clear Ai
     try clear BG
     try clear BH
     try clear BI
     try clear BJ
     try clear BK
     try clear BL
     try clear BM
     try clear BN
     try clear Av
     try clear BO
     try clear Aj
     try clear BP
     try clear BQ
     try clear BR
     try clear BS
     try clear BT
     try clear BU
     try clear BV
     try clear BW
     try clear DX
     try clear DY
     try clear DS
     try clear DZ
     try clear Da
     try clear Db
     try clear BX
     try clear BY
     try clear BZ
     try clear Ba
     try clear Bb
     try clear Bc
     try clear DQ
     try clear Dw
     try clear Dy
     try clear Gl
     try clear Gn
     try clear DR
     try clear Dx
     try clear Dz
     try clear Gm
     try clear Gp
     obtain ⟨kq, Bz, HA, DU, HO_154003, AG, AB, HB⟩ := hcut
     cases kq with
     | zero => exact absurd HA.out (by simp [gaugerref22_Read.j1])
     | succ Pc =>
      have H := HA.out
      clear HA
      simp only [gaugerref22_Read.j1] at H
      have Pd := Aside0.mk H
      clear H
      go_upto_if 62 with (fail)
      go_cut [] (fun wc => ∃ (kq : Nat) (AM : Int) (Dc : List (S55)) (AN : Int) (AV : Value), Aside0 (gaugerref22_Read.j4 kq l0 l1 AI AM Dc AN AJ = some (r1, r2, r3, r4)) ∧ Aside0 (kq ≤ Pc) ∧ Aside0 (Kd.R k55 55 wc w.heap.size (fun _ => True) AV Dc) ∧ Aside0 (Kd.R (Kd.int .i64) 3 wc w.heap.size (fun _ => True) AH AJ) ∧ Aside0 (wc.heap[AY]? = some (.cells #[.int .i64 0, (.slice none 0 0), .int .i64 0, (.slice none 0 0)] 61 (0, 0))) ∧ Aside0 (wc.heap[AC]? = some (.cells #[.int .i64 AM, AV, .int .i64 AN, AH] 61 (0, 0))) ∧ Aside0 (Below w.heap.size w wc))
      case first =>
       have H := Pd.out
       clear Pd
       by_cases c40 : AI ≥ 0
       ·rw [if_pos c40] at H
        have Dd : decide (0 ≤ AI) = true := decide_eq_true c40
        clear c40
        (first | rw [Dd] | (simp only [i64_w, i32_w]; rw [Dd]) | skip)
        by_cases c41 : 0 ≤ AI
        ·rw [if_pos c41] at H
         have Nq : decide (0 ≤ AI) = true := decide_eq_true c41
         clear c41
         by_cases c42 : AI < (l1.length : Int)
         ·rw [if_pos c42] at H
          have Nr : decide (AI < (l1.length : Int)) = true := decide_eq_true c42
          clear c42
          have H' := Aside0.mk H
          clear H
          have Gt : 0 ≤ (AI : Int) := of_decide_eq_true (by first | (with_reducible assumption) | assumption)
          have Gu : AI < (l1.length : Int) := of_decide_eq_true (by first | (with_reducible assumption) | assumption)
          obtain ⟨Uo, UE, Cr⟩ := Kd.at_int HR1.out AI Gt Gu
          cases UE
          replace Cr := bce_ HB Cr
          replace Gt := eq_true Gt
          replace Gu := eq_true Gu
          have Up := Ab.out
          have Uq := AQ.out
          have Jd : wc.cell? ⟨AC, 0, none⟩ = some (.int .i64 Bz) := (blk_cell AB.out 0).trans rfl
          have Je : wc.cell? ⟨AC, 1, none⟩ = some (.slice none 0 0) := (blk_cell AB.out 1).trans rfl
          have Jf : wc.cell? ⟨AC, 2, none⟩ = some (.int .i64 AR) := (blk_cell AB.out 2).trans rfl
          have Jg : wc.cell? ⟨AC, 3, none⟩ = some (AH) := (blk_cell AB.out 3).trans rfl
          have Jh := blk_frozen AB.out 0
          have Ji := blk_frozen AB.out 1
          have Jj := blk_frozen AB.out 2
          have Jl := blk_frozen AB.out 3
          go_wp2
          go_loopg [8] Pc (fun kq v8 w' => ∃ (DT : Int) (AW : Int), v8 = .int .i64 DT ∧ Aside0 (gaugerref22_Read.l1 kq l0 l1 AI DT AW AR AJ = some (r1, r2, r3, r4)) ∧ Aside0 (kq ≤ Pc) ∧ Aside0 (Kd.R (Kd.int .i64) 3 w' w.heap.size (fun _ => True) AH AJ) ∧ Aside0 (w'.heap[AY]? = some (.cells #[.int .i64 0, (.slice none 0 0), .int .i64 0, (.slice none 0 0)] 61 (0, 0))) ∧ Aside0 (w'.heap[AC]? = some (.cells #[.int .i64 AW, (.slice none 0 0), .int .i64 AR, AH] 61 (0, 0))) ∧ Aside0 (Below w.heap.size w w'))
          case atStart => exact ⟨(0), (rd l1 AI), (by first | rfl | (simp; done) | (simp [*]; done)), H', ⟨Nat.le_refl _⟩, ⟨by (with_reducible repeat (first|apply Kd.R_alloc|apply Kd.R_drewN|apply Kd.R_drew)); exact Kd.R_mono (Kd.R_far (p := ⟨AC, 0, none⟩) (Kd.R_types HO_154003.out AB.out (by decide)) (fun _ hk => hk.2) (.int .i64 (rd l1 AI))) (fun _ hk => trivial)⟩, ⟨by (with_reducible repeat (first|refine dn_ ?_ _|refine dr_ ?_|refine al_ ?_ _)); refine blk_far ?_ AQ.out _; (with_reducible repeat (first|refine dn_ ?_ _|refine dr_ ?_|refine al_ ?_ _)); exact AG.out⟩, ⟨by (with_reducible repeat (first|refine dn_ ?_ _|refine dr_ ?_|refine al_ ?_ _)); refine blk_put (cs := #[.int .i64 Bz, .slice none 0 0, .int .i64 AR, AH]) ?_ 0 _ rfl; (with_reducible repeat (first|refine dn_ ?_ _|refine dr_ ?_|refine al_ ?_ _)); exact AB.out⟩, ⟨by repeat (first | (with_reducible first|exact HB.out|apply below_alloc|apply pw_below_drewN|apply below_drew1|refine below_set ?_ AX.out|refine below_set ?_ AZ.out)|exact HB.out)⟩⟩
          case round =>
           clear H'
           try clear c1
           try clear p1
           try clear q1
           try clear hx1
           try clear qi1
           try clear c2
           try clear p2
           try clear c3
           try clear c4
           try clear p6
           try clear c7
           try clear MQ
           try clear c8
           try clear c15
           try clear p15
           try clear q15
           try clear QW
           try clear c16
           try clear p16
           try clear q16
           try clear JM
           try clear QX
           try clear c23
           try clear JW
           try clear JX
           try clear c24
           try clear c35
           try clear Es
           try clear Jc
           try clear c36
           try clear Ls
           try clear Lt
           try clear c37
           try clear c40
           try clear Dd
           try clear c41
           try clear Nq
           try clear c42
           try clear Nr
           try clear c43
           try clear Hg
           try clear Hh
           try clear Hi
           try clear Hj
           try clear Jd
           try clear Je
           try clear Jf
           try clear Jg
           try clear Hl
           try clear Hm
           try clear Hn
           try clear Ho
           try clear Jh
           try clear Ji
           try clear Jj
           try clear Jl
           try clear Al
           try clear Am
           try clear Af
           try clear An
           try clear Ao
           try clear Ap
           try clear Aq
           try clear Ar
           try clear As
           try clear At
           try clear Au
           try clear BE
           try clear BF
           try clear Ai
           try clear BG
           try clear BH
           try clear BI
           try clear BJ
           try clear BK
           try clear BL
           try clear BM
           try clear BN
           try clear Av
           try clear BO
           try clear Aj
           try clear BP
           try clear BQ
           try clear BR
           try clear BS
           try clear BT
           try clear BU
           try clear BV
           try clear BW
           try clear DX
           try clear DY
           try clear DS
           try clear DZ
           try clear Da
           try clear Db
           try clear BX
           try clear BY
           try clear BZ
           try clear Ba
           try clear Bb
           try clear Bc
           try clear Cr
           try clear p1
           try clear p15
           try clear DQ
           try clear p16
           try clear Dw
           try clear Dy
           try clear Gl
           try clear Gn
           try clear Gt
           try clear p2
           try clear p6
           try clear q1
           try clear q15
           try clear DR
           try clear q16
           try clear Dx
           try clear Dz
           try clear Gm
           try clear Gp
           try clear Gu
           obtain ⟨DT, AW, rfl, HA, HK3, HO_154003, AG, AB, HB⟩ := hrel
           cases gk with
           | zero => exact absurd HA.out (by simp [gaugerref22_Read.l1])
           | succ k3 =>
            have H := HA.out
            clear HA
            simp only [gaugerref22_Read.l1] at H
            by_cases c45 : 0 ≤ AI
            ·rw [if_pos c45] at H
             have QY : decide (0 ≤ AI) = true := decide_eq_true c45
             clear c45
             by_cases c46 : AI < (l0.length : Int)
             ·rw [if_pos c46] at H
              have QZ : decide (AI < (l0.length : Int)) = true := decide_eq_true c46
              clear c46
              by_cases c47 : DT < (((rd_T53 l0 AI).f7).length : Int)
              ·rw [if_pos c47] at H
               have Ns : decide (DT < (((rd_T53 l0 AI).f7).length : Int)) = true := decide_eq_true c47
               clear c47
               by_cases c48 : 0 ≤ DT
               ·rw [if_pos c48] at H
                have Qa : decide (0 ≤ DT) = true := decide_eq_true c48
                clear c48
                obtain ⟨Ms, Lu⟩ : ∃ j_ : Int, (mn AW ((rd_T72 ((rd_T53 l0 AI).f7) DT).f1)) = j_ := ⟨_, rfl⟩
                replace H : (gaugerref22_Read.l1 k3 l0 l1 AI (wrap64 (DT + 1)) Ms AR AJ) = some (r1, r2, r3, r4) := by first | (rw [Lu] at H; exact H) | (simp only [Lu] at H ⊢; exact H)
                have UF : (if ((rd_T72 ((rd_T53 l0 AI).f7) DT).f1) < AW then ((rd_T72 ((rd_T53 l0 AI).f7) DT).f1) else AW) = Ms := Lu
                have H' := Aside0.mk H
                clear H
                have Eq : 0 ≤ (AI : Int) := of_decide_eq_true (by first | (with_reducible assumption) | assumption)
                have Er : AI < (l0.length : Int) := of_decide_eq_true (by first | (with_reducible assumption) | assumption)
                obtain ⟨AS, Pe, Pf, Pg, Ph, Mt, Mu, Pi, Bn, Bo, Bp, Bq, Br, Bs, Bt, Bu, Bv, Bw, Ay, ET, EU, EV, EW, Dn, Do⟩ := at_T53 HR0.out AI Eq Er
                cases Pi
                replace Bn := bce_ HB Bn
                replace Bo := bce_ HB Bo
                replace Bp := bce_ HB Bp
                replace Bq := bce_ HB Bq
                replace Br := bce_ HB Br
                replace Bs := bce_ HB Bs
                replace Bt := bce_ HB Bt
                replace Bu := bce_ HB Bu
                replace Bv := bce_ HB Bv
                replace Bw := bce_ HB Bw
                replace Ay := bce_ HB Ay
                have Mv := Aside0.mk EU
                have Mw := Aside0.mk ET
                clear EU ET
                have Mx := Aside0.mk EW
                have My := Aside0.mk EV
                clear EW EV
                have Lv := Aside0.mk Do
                have Lw := Aside0.mk Dn
                clear Do Dn
                replace Eq := eq_true Eq
                replace Er := eq_true Er
                try go_wp2
                have n0_ := Aside0.mk (Kd.R_drew HO_154003.out)
                have n1_ := Aside0.mk (dr_ AG.out)
                have n2_ := Aside0.mk (dr_ AB.out)
                have n3_ := Aside0.mk (below_drew1 HB.out)
                clear HO_154003
                clear AG
                clear AB
                clear HB
                have HO_154003 := n0_
                have AG := n1_
                have AB := n2_
                have HB := n3_
                clear n0_ n1_ n2_ n3_
                have Hp : 0 ≤ (AI : Int) := of_decide_eq_true (by first | (with_reducible assumption) | assumption)
                have Hq : AI < (l0.length : Int) := of_decide_eq_true (by first | (with_reducible assumption) | assumption)
                obtain ⟨Qb, Pj, Pl, Pm, Pn, TJ, Mz, UG, CA, CB, CC, CD, CE, CF, CG, CH, CI, CJ, BC, Jm, Jn, Jo, Jp, IT, IU⟩ := at_T53 HR0.out AI Hp Hq
                have Lx := BC
                have NA := CJ
                have NB := CI
                have NC := CH
                have ND := CG
                have NE := CF
                have NF := CE
                have NG := CD
                have NH := CC
                have NI := CB
                have NJ := CA
                obtain rfl : AS = Qb := (by injection UG)
                replace CA := bce_ HB CA
                replace CB := bce_ HB CB
                replace CC := bce_ HB CC
                replace CD := bce_ HB CD
                replace CE := bce_ HB CE
                replace CF := bce_ HB CF
                replace CG := bce_ HB CG
                replace CH := bce_ HB CH
                replace CI := bce_ HB CI
                replace CJ := bce_ HB CJ
                replace BC := bce_ HB BC
                have NK := Aside0.mk Jn
                have TK := Aside0.mk Jm
                clear Jn Jm
                have NL := Aside0.mk Jp
                have TL := Aside0.mk Jo
                clear Jp Jo
                have IV := Aside0.mk IU
                have Qc := Aside0.mk IT
                clear IU IT
                replace Hp := eq_true Hp
                replace Hq := eq_true Hq
                have Hr : 0 ≤ (DT : Int) := of_decide_eq_true (by first | (with_reducible assumption) | assumption)
                have Hs : DT < (((rd_T53 l0 AI).f7).length : Int) := of_decide_eq_true (by first | (with_reducible assumption) | assumption)
                obtain ⟨Jq, UH, CK, CL⟩ := at_T72 IV.out DT Hr Hs
                have NM := CL
                have NN := CK
                cases UH
                replace CK := bce_ HB CK
                replace CL := bce_ HB CL
                replace Hr := eq_true Hr
                replace Hs := eq_true Hs
                refine start_ (n := 14) (S := fun w' => w'.cell? ⟨AC, 0, none⟩ = some (.int .i64 AW) ∧ w'.cell? ⟨AC, 1, none⟩ = some (.slice none 0 0) ∧ w'.cell? ⟨AC, 2, none⟩ = some (.int .i64 AR) ∧ w'.cell? ⟨AC, 3, none⟩ = some (AH) ∧ w'.cell? (AS.add ((AI).toNat * 11)) = some (.int .i64 ((rd_T53 l0 AI).f0)) ∧ w'.cell? ⟨(AS.add ((AI).toNat * 11)).block, (AS.add ((AI).toNat * 11)).off + 1, none⟩ = some (.int .i64 ((rd_T53 l0 AI).f1)) ∧ w'.cell? ⟨(AS.add ((AI).toNat * 11)).block, (AS.add ((AI).toNat * 11)).off + 2, none⟩ = some (.int .i64 ((rd_T53 l0 AI).f2)) ∧ w'.cell? ⟨(AS.add ((AI).toNat * 11)).block, (AS.add ((AI).toNat * 11)).off + 3, none⟩ = some (.int .i64 ((rd_T53 l0 AI).f3)) ∧ w'.cell? ⟨(AS.add ((AI).toNat * 11)).block, (AS.add ((AI).toNat * 11)).off + 4, none⟩ = some (.slice Pj ((rd_T53 l0 AI).f4).length Pl) ∧ w'.cell? ⟨(AS.add ((AI).toNat * 11)).block, (AS.add ((AI).toNat * 11)).off + 5, none⟩ = some (.int .i64 ((rd_T53 l0 AI).f5.f0)) ∧ w'.cell? ⟨(AS.add ((AI).toNat * 11)).block, (AS.add ((AI).toNat * 11)).off + 6, none⟩ = some (.int .i64 ((rd_T53 l0 AI).f5.f1)) ∧ w'.cell? ⟨(AS.add ((AI).toNat * 11)).block, (AS.add ((AI).toNat * 11)).off + 7, none⟩ = some (.string ((rd_T53 l0 AI).f5.f2)) ∧ w'.cell? ⟨(AS.add ((AI).toNat * 11)).block, (AS.add ((AI).toNat * 11)).off + 8, none⟩ = some (.string ((rd_T53 l0 AI).f5.f3)) ∧ w'.cell? ⟨(AS.add ((AI).toNat * 11)).block, (AS.add ((AI).toNat * 11)).off + 9, none⟩ = some (.slice Pm ((rd_T53 l0 AI).f6).length Pn) ∧ w'.cell? ⟨(AS.add ((AI).toNat * 11)).block, (AS.add ((AI).toNat * 11)).off + 10, none⟩ = some (.slice (some Jq) ((rd_T53 l0 AI).f7).length Mz) ∧ w'.cell? (Jq.add ((DT).toNat * 2)) = some (.int .i64 ((rd_T72 ((rd_T53 l0 AI).f7) DT).f0)) ∧ w'.cell? ⟨(Jq.add ((DT).toNat * 2)).block, (Jq.add ((DT).toNat * 2)).off + 1, none⟩ = some (.int .i64 ((rd_T72 ((rd_T53 l0 AI).f7) DT).f1))) (ds := [13]) #[false, false, false, false, false, false, false, false, false, false, false, false, false, false] (by kernel_rfl) rfl rfl ⟨(blk_cell AB.out 0).trans rfl, (blk_cell AB.out 1).trans rfl, (blk_cell AB.out 2).trans rfl, (blk_cell AB.out 3).trans rfl, (bce_ HB NJ), (bce_ HB NI), (bce_ HB NH), (bce_ HB NG), (bce_ HB NF), (bce_ HB NE), (bce_ HB ND), (bce_ HB NC), (bce_ HB NB), (bce_ HB NA), (bce_ HB Lx), (bce_ HB NN), (bce_ HB NM)⟩ (fun hHeld => ?_); refine with_tabW gaugerref22_Read.tab18 gaugerref22_Read.bits18 (fun HT_ HW_ => ?_)
                generalize wr.drew = w50 at HO_154003 AG AB HB IV NK NL CA CB BC CC CD CE CF CG CH CI CJ CK CL hHeld ⊢
                refine pure_ (i := 0) (N := some 78) (v := ?_) (a' := ?_) #[true, false, false, false, false, false, false, false, false, false, false, false, false, false] rfl rfl (any_of HT_.out (by kernel_rfl)) (fun _ _ _ h => h) (Or.inl ⟨by rfl, ?_⟩) ?_ ?_
                rotate_left;·(intro w';go_simp;with_reducible rfl)
                rotate_left;·(simp only[Act.put,si_,s0_,s1_,i64_w,i32_w];rfl)
                refine pure_ (i := 2) (N := some 80) (v := ?_) (a' := ?_) #[true, false, true, false, false, false, false, false, false, false, false, false, false, false] rfl rfl (any_of HT_.out (by kernel_rfl)) (fun _ _ _ h => h) (Or.inl ⟨by rfl, ?_⟩) ?_ ?_
                rotate_left;·(intro w';go_simp;with_reducible rfl)
                rotate_left;·(simp only[Act.put,si_,s0_,s1_,i64_w,i32_w];rfl)
                refine pure_ (i := 3) (N := some 81) (v := ?_) (a' := ?_) #[true, false, true, true, false, false, false, false, false, false, false, false, false, false] rfl rfl (any_of HT_.out (by kernel_rfl)) (fun _ _ _ h => h) (Or.inl ⟨by rfl, ?_⟩) ?_ ?_
                rotate_left;·(intro w';go_simp;with_reducible rfl)
                rotate_left;·(simp only[Act.put,si_,s0_,s1_,i64_w,i32_w];rfl)
                refine pure_ (i := 4) (N := some 82) (v := ?_) (a' := ?_) #[true, false, true, true, true, false, false, false, false, false, false, false, false, false] rfl rfl (any_of HT_.out (by kernel_rfl)) (fun _ _ _ h => h) (Or.inl ⟨by rfl, ?_⟩) ?_ ?_
                rotate_left;·(intro w';go_simp;with_reducible rfl)
                rotate_left;·(simp only[Act.put,si_,s0_,s1_,i64_w,i32_w];rfl)
                refine pure_ (i := 5) (N := some 83) (v := ?_) (a' := ?_) #[true, false, true, true, true, true, false, false, false, false, false, false, false, false] rfl rfl (any_of HT_.out (by kernel_rfl)) (fun _ _ _ h => h) (Or.inl ⟨by rfl, ?_⟩) ?_ ?_
                rotate_left;·(intro w';go_simp;with_reducible rfl)
                rotate_left;·(simp only[Act.put,si_,s0_,s1_,i64_w,i32_w];rfl)
                refine pure_ (i := 7) (N := some 85) (v := ?_) (a' := ?_) #[true, false, true, true, true, true, false, true, false, false, false, false, false, false] rfl rfl (any_of HT_.out (by kernel_rfl)) (fun _ _ _ h => h) (Or.inl ⟨by rfl, ?_⟩) ?_ ?_
                rotate_left;·(intro w';go_simp;with_reducible rfl)
                rotate_left;·(simp only[Act.put,si_,s0_,s1_,i64_w,i32_w];rfl)
                refine take_ (i := 1) (N := some 79) (v := ?_) (a' := ?_) #[true, true, true, true, true, true, false, true, false, false, false, false, false, false] rfl rfl (take_ofW HT_.out HW_.out (by kernel_rfl)) (fun _ _ _ h => h) (Or.inl ⟨by rfl, ?_⟩) hHeld ?_ ?_
                rotate_left
                ·rintro w' ⟨s0, s1, s2, s3, s4, s5, s6, s7, s8, s9, s10, s11, s12, s13, s14, s15, s16⟩
                 go_simp
                 with_reducible rfl
                rotate_left
                ·simp only [Act.put, si_, s0_, s1_, i64_w, i32_w]
                 rfl
                refine take_ (i := 6) (N := some 84) (v := ?_) (a' := ?_) #[true, true, true, true, true, true, true, true, false, false, false, false, false, false] rfl rfl (take_ofW HT_.out HW_.out (by kernel_rfl)) (fun _ _ _ h => h) (Or.inl ⟨by rfl, ?_⟩) hHeld ?_ ?_
                rotate_left
                ·rintro w' ⟨s0, s1, s2, s3, s4, s5, s6, s7, s8, s9, s10, s11, s12, s13, s14, s15, s16⟩
                 go_simp
                 with_reducible rfl
                rotate_left
                ·simp only [Act.put, si_, s0_, s1_, i64_w, i32_w]
                 rfl
                refine pure_ (i := 8) (N := some 86) (v := ?_) (a' := ?_) #[true, true, true, true, true, true, true, true, true, false, false, false, false, false] rfl rfl (any_of HT_.out (by kernel_rfl)) (fun _ _ _ h => h) (Or.inl ⟨by rfl, ?_⟩) ?_ ?_
                rotate_left;·(intro w';go_simp;with_reducible rfl)
                rotate_left;·(simp only[Act.put,si_,s0_,s1_,i64_w,i32_w];rfl)
                refine pure_ (i := 9) (N := some 87) (v := ?_) (a' := ?_) #[true, true, true, true, true, true, true, true, true, true, false, false, false, false] rfl rfl (any_of HT_.out (by kernel_rfl)) (fun _ _ _ h => h) (Or.inl ⟨by rfl, ?_⟩) ?_ ?_
                rotate_left;·(intro w';go_simp;with_reducible rfl)
                rotate_left;·(simp only[Act.put,si_,s0_,s1_,i64_w,i32_w];rfl)
                refine take_ (i := 10) (N := some 88) (v := ?_) (a' := ?_) #[true, true, true, true, true, true, true, true, true, true, true, false, false, false] rfl rfl (take_ofW HT_.out HW_.out (by kernel_rfl)) (fun _ _ _ h => h) (Or.inl ⟨by rfl, ?_⟩) hHeld ?_ ?_
                rotate_left
                ·rintro w' ⟨s0, s1, s2, s3, s4, s5, s6, s7, s8, s9, s10, s11, s12, s13, s14, s15, s16⟩
                 go_simp
                 with_reducible rfl
                rotate_left
                ·simp only [Act.put, si_, s0_, s1_, i64_w, i32_w]
                 rfl
                refine pure_ (i := 11) (N := some 89) (v := ?_) (a' := ?_) #[true, true, true, true, true, true, true, true, true, true, true, true, false, false] rfl rfl (any_of HT_.out (by kernel_rfl)) (fun _ _ _ h => h) (Or.inl ⟨by rfl, ?_⟩) ?_ ?_
                rotate_left;·(intro w';go_simp;with_reducible rfl)
                rotate_left;·(simp only[Act.put,si_,s0_,s1_,i64_w,i32_w];rfl)
                refine pure_ (i := 12) (N := some 90) (v := ?_) (a' := ?_) #[true, true, true, true, true, true, true, true, true, true, true, true, true, false] rfl rfl (any_of HT_.out (by kernel_rfl)) (fun _ _ _ h => h) (Or.inl ⟨by rfl, ?_⟩) ?_ ?_
                rotate_left;·(intro w';go_simp;with_reducible rfl)
                rotate_left;·(simp only[Act.put,si_,s0_,s1_,i64_w,i32_w];rfl)
                refine last_ (i := 13) (N := none) #[true, true, true, true, true, true, true, true, true, true, true, true, true, true] rfl rfl (one_of HT_.out (by kernel_rfl)) (by decide) (fun K hK => ?_)
                have VZ : w50.cell? ⟨AC, 0, none⟩ = some (.int .i64 AW) := (blk_cell AB.out 0).trans rfl
                have Ur := blk_frozen AB.out 0
                have TM := AQ.out
                have TN := Ab.out
                refine skip_ (w1 := ?_) (by rfl) rfl ?_ ?_
                rotate_left
                ·go_simp
                 rfl
                refine hK.out _ _ ?_
                clear hK K
                refine done_ (done_of HT_.out (by kernel_rfl)) ?_
                try go_wp2
                go_roundg k3
                case measure => have := HK1.out; have := DU.out; have := HK3.out; omega
                case rel => exact ⟨(wrap64 (DT + 1)), (Ms), (by first | rfl | (simp; done) | (simp [*]; done)), H', ⟨by have := HK1.out; have := DU.out; have := HK3.out; omega⟩, ⟨by (with_reducible repeat (first|apply Kd.R_alloc|apply Kd.R_drewN|apply Kd.R_drew)); exact Kd.R_mono (Kd.R_far (p := ⟨AC, 0, none⟩) (Kd.R_types HO_154003.out AB.out (by decide)) (fun _ hk => hk.2) (.int .i64 Ms)) (fun _ hk => trivial)⟩, ⟨by (with_reducible repeat (first|refine dn_ ?_ _|refine dr_ ?_|refine al_ ?_ _)); refine blk_far ?_ AQ.out _; (with_reducible repeat (first|refine dn_ ?_ _|refine dr_ ?_|refine al_ ?_ _)); exact AG.out⟩, ⟨by (with_reducible repeat (first|refine dn_ ?_ _|refine dr_ ?_|refine al_ ?_ _)); refine blk_put (cs := #[.int .i64 AW, .slice none 0 0, .int .i64 AR, AH]) ?_ 0 _ rfl; (with_reducible repeat (first|refine dn_ ?_ _|refine dr_ ?_|refine al_ ?_ _)); exact AB.out⟩, ⟨by repeat (first | (with_reducible first|exact HB.out|apply below_alloc|apply pw_below_drewN|apply below_drew1|refine below_set ?_ AX.out|refine below_set ?_ AZ.out)|exact HB.out)⟩⟩
               ·rw [if_neg c48] at H
                exact absurd H (by simp)
              ·rw [if_neg c47] at H
               have Ns : decide (DT < (((rd_T53 l0 AI).f7).length : Int)) = false := decide_eq_false c47
               clear c47
               have H' := Aside0.mk H
               clear H
               have Eq : 0 ≤ (AI : Int) := of_decide_eq_true (by first | (with_reducible assumption) | assumption)
               have Er : AI < (l0.length : Int) := of_decide_eq_true (by first | (with_reducible assumption) | assumption)
               obtain ⟨AS, Pe, Pf, Pg, Ph, Mt, Mu, Pi, Bn, Bo, Bp, Bq, Br, Bs, Bt, Bu, Bv, Bw, Ay, ET, EU, EV, EW, Dn, Do⟩ := at_T53 HR0.out AI Eq Er
               cases Pi
               replace Bn := bce_ HB Bn
               replace Bo := bce_ HB Bo
               replace Bp := bce_ HB Bp
               replace Bq := bce_ HB Bq
               replace Br := bce_ HB Br
               replace Bs := bce_ HB Bs
               replace Bt := bce_ HB Bt
               replace Bu := bce_ HB Bu
               replace Bv := bce_ HB Bv
               replace Bw := bce_ HB Bw
               replace Ay := bce_ HB Ay
               have Mv := Aside0.mk EU
               have Mw := Aside0.mk ET
               clear EU ET
               have Mx := Aside0.mk EW
               have My := Aside0.mk EV
               clear EW EV
               have Lv := Aside0.mk Do
               have Lw := Aside0.mk Dn
               clear Do Dn
               replace Eq := eq_true Eq
               replace Er := eq_true Er
               go_wp2
               go_loopg [9] k3 (fun kq v9 w' => ∃ (Az : Int) (AE : List (S55)) (Ac : Int) (AV : Value), v9 = .int .i64 Az ∧ Aside0 (gaugerref22_Read.l2 kq l0 l1 AI Az AW AE Ac AJ = some (r1, r2, r3, r4)) ∧ Aside0 (kq ≤ k3) ∧ Aside0 (Kd.R k55 55 w' w.heap.size (fun _ => True) AV AE) ∧ Aside0 (Kd.R (Kd.int .i64) 3 w' w.heap.size (fun _ => True) AH AJ) ∧ Aside0 (w'.heap[AY]? = some (.cells #[.int .i64 0, (.slice none 0 0), .int .i64 0, (.slice none 0 0)] 61 (0, 0))) ∧ Aside0 (w'.heap[AC]? = some (.cells #[.int .i64 AW, AV, .int .i64 Ac, AH] 61 (0, 0))) ∧ Aside0 (Below w.heap.size w w'))
               case atStart => exact ⟨(0), (([] : List (S55))), (AR), (.slice none 0 0), (by first | rfl | (simp; done) | (simp [*]; done)), H', ⟨Nat.le_refl _⟩, ⟨by first|exact Kd.R_nil _ _ _ _ _|exact Kd.N_nil _ _ _ _ _|exact Kd.V_nil _ _ _ _ _|exact Kd.Q_nil _ _ _ _ _|exact Kd.S_nil _ _ _ _ _⟩, ⟨by (with_reducible repeat (first|apply Kd.R_alloc|apply Kd.R_drewN|apply Kd.R_drew)); exact HO_154003.out⟩, ⟨by (with_reducible repeat (first|refine dn_ ?_ _|refine dr_ ?_|refine al_ ?_ _)); exact AG.out⟩, ⟨by (with_reducible repeat (first|refine dn_ ?_ _|refine dr_ ?_|refine al_ ?_ _)); exact AB.out⟩, ⟨by repeat (first | (with_reducible first|exact HB.out|apply below_alloc|apply pw_below_drewN|apply below_drew1|refine below_set ?_ AX.out|refine below_set ?_ AZ.out)|exact HB.out)⟩⟩
               case round =>
                clear H'
                try clear c1
                try clear p1
                try clear q1
                try clear hx1
                try clear qi1
                try clear c2
                try clear p2
                try clear c3
                try clear c4
                try clear p6
                try clear c7
                try clear MQ
                try clear c8
                try clear c15
                try clear p15
                try clear q15
                try clear QW
                try clear c16
                try clear p16
                try clear q16
                try clear JM
                try clear QX
                try clear c17
                try clear p17
                try clear q17
                try clear Ly
                try clear c23
                try clear JW
                try clear JX
                try clear c24
                try clear c35
                try clear Es
                try clear Jc
                try clear c36
                try clear Ls
                try clear Lt
                try clear c37
                try clear c40
                try clear Dd
                try clear c41
                try clear Nq
                try clear c42
                try clear Nr
                try clear c43
                try clear c45
                try clear QY
                try clear c46
                try clear QZ
                try clear c47
                try clear Ns
                try clear c48
                try clear Qa
                try clear Hg
                try clear Hh
                try clear Hi
                try clear Hj
                try clear Jd
                try clear Je
                try clear Jf
                try clear Jg
                try clear Hl
                try clear Hm
                try clear Hn
                try clear Ho
                try clear Jh
                try clear Ji
                try clear Jj
                try clear Jl
                try clear Al
                try clear Am
                try clear Af
                try clear An
                try clear Ao
                try clear Ap
                try clear Aq
                try clear Ar
                try clear As
                try clear At
                try clear Au
                try clear BE
                try clear BF
                try clear Ai
                try clear BG
                try clear BH
                try clear BI
                try clear BJ
                try clear BK
                try clear BL
                try clear BM
                try clear BN
                try clear Av
                try clear BO
                try clear Aj
                try clear BP
                try clear BQ
                try clear BR
                try clear BS
                try clear BT
                try clear BU
                try clear BV
                try clear BW
                try clear DX
                try clear DY
                try clear DS
                try clear DZ
                try clear Da
                try clear Db
                try clear BX
                try clear BY
                try clear BZ
                try clear Ba
                try clear Bb
                try clear Bc
                try clear Cr
                try clear Bn
                try clear Bo
                try clear Ay
                try clear Bp
                try clear Bq
                try clear Br
                try clear Bs
                try clear Bt
                try clear Bu
                try clear Bv
                try clear Bw
                try clear CA
                try clear CB
                try clear BC
                try clear CC
                try clear CD
                try clear CE
                try clear CF
                try clear CG
                try clear CH
                try clear CI
                try clear CJ
                try clear CK
                try clear CL
                try clear p1
                try clear p15
                try clear DQ
                try clear p16
                try clear Dw
                try clear Dy
                try clear Gl
                try clear Gn
                try clear Gt
                try clear Eq
                try clear Hp
                try clear Hr
                try clear p2
                try clear p6
                try clear q1
                try clear q15
                try clear DR
                try clear q16
                try clear Dx
                try clear Dz
                try clear Gm
                try clear Gp
                try clear Gu
                try clear Er
                try clear Hq
                try clear Hs
                obtain ⟨Az, AE, Ac, AV, rfl, HA, HK4, HO_154001, HO_154003, AG, AB, HB⟩ := hrel
                cases gk with
                | zero => exact absurd HA.out (by simp [gaugerref22_Read.l2])
                | succ k4 =>
                 have H := HA.out
                 clear HA
                 simp only [gaugerref22_Read.l2] at H
                 by_cases c52 : 0 ≤ AI
                 ·rw [if_pos c52] at H
                  have IW : decide (0 ≤ AI) = true := decide_eq_true c52
                  clear c52
                  by_cases c53 : AI < (l0.length : Int)
                  ·rw [if_pos c53] at H
                   have IX : decide (AI < (l0.length : Int)) = true := decide_eq_true c53
                   clear c53
                   by_cases c54 : Az < (((rd_T53 l0 AI).f6).length : Int)
                   ·rw [if_pos c54] at H
                    have Gv : decide (Az < (((rd_T53 l0 AI).f6).length : Int)) = true := decide_eq_true c54
                    clear c54
                    by_cases c55 : 0 ≤ Az
                    ·rw [if_pos c55] at H
                     have IY : decide (0 ≤ Az) = true := decide_eq_true c55
                     clear c55
                     replace H := Option.bind_eq_some_iff.mp H
                     obtain ⟨t175, Qd, H⟩ := H
                     replace H : (gaugerref22_Read.l2 k4 l0 l1 AI (wrap64 (Az + 1)) AW t175 (mx Ac (wrap64 (((rd_T55 ((rd_T53 l0 AI).f6) Az).f0) + 1))) AJ) = some (r1, r2, r3, r4) := H
                     have A56 := Aside0.mk Qd
                     clear Qd
                     obtain ⟨Lz, Jr⟩ : ∃ j_ : Int, (mx Ac (wrap64 (((rd_T55 ((rd_T53 l0 AI).f6) Az).f0) + 1))) = j_ := ⟨_, rfl⟩
                     replace H : (gaugerref22_Read.l2 k4 l0 l1 AI (wrap64 (Az + 1)) AW t175 Lz AJ) = some (r1, r2, r3, r4) := by first | (rw [Jr] at H; exact H) | (simp only [Jr] at H ⊢; exact H)
                     (try rw [Jr] at A56)
                     have UI : (if Ac < (wrap64 (((rd_T55 ((rd_T53 l0 AI).f6) Az).f0) + 1)) then (wrap64 (((rd_T55 ((rd_T53 l0 AI).f6) Az).f0) + 1)) else Ac) = Lz := Jr
                     have H' := Aside0.mk H
                     clear H
                     have Eu : 0 ≤ (AI : Int) := of_decide_eq_true (by first | (with_reducible assumption) | assumption)
                     have Ew : AI < (l0.length : Int) := of_decide_eq_true (by first | (with_reducible assumption) | assumption)
                     obtain ⟨MA, Po, Pp, Pq, Pr, NO, NP, Ps, CM, CN, CO, CP, CQ, CR, CS, CT, CU, CV, BD, EX, EY, EZ, Ea, Dp, Dq⟩ := at_T53 HR0.out AI Eu Ew
                     obtain rfl : AS = MA := (by injection Ps)
                     replace CM := bce_ HB CM
                     replace CN := bce_ HB CN
                     replace CO := bce_ HB CO
                     replace CP := bce_ HB CP
                     replace CQ := bce_ HB CQ
                     replace CR := bce_ HB CR
                     replace CS := bce_ HB CS
                     replace CT := bce_ HB CT
                     replace CU := bce_ HB CU
                     replace CV := bce_ HB CV
                     replace BD := bce_ HB BD
                     have NQ := Aside0.mk EY
                     have NR := Aside0.mk EX
                     clear EY EX
                     have NS := Aside0.mk Ea
                     have NT := Aside0.mk EZ
                     clear Ea EZ
                     have MB := Aside0.mk Dq
                     have MC := Aside0.mk Dp
                     clear Dq Dp
                     replace Eu := eq_true Eu
                     replace Ew := eq_true Ew
                     try go_wp2
                     have n0_ := Aside0.mk (Kd.R_drew HO_154001.out)
                     have n1_ := Aside0.mk (Kd.R_drew HO_154003.out)
                     have n2_ := Aside0.mk (dr_ AG.out)
                     have n3_ := Aside0.mk (dr_ AB.out)
                     have n4_ := Aside0.mk (below_drew1 HB.out)
                     clear HO_154001
                     clear HO_154003
                     clear AG
                     clear AB
                     clear HB
                     have HO_154001 := n0_
                     have HO_154003 := n1_
                     have AG := n2_
                     have AB := n3_
                     have HB := n4_
                     clear n0_ n1_ n2_ n3_ n4_
                     have IZ : 0 ≤ (AI : Int) := of_decide_eq_true (by first | (with_reducible assumption) | assumption)
                     have Ia : AI < (l0.length : Int) := of_decide_eq_true (by first | (with_reducible assumption) | assumption)
                     obtain ⟨Qe, Pt, Pu, UJ, Pv, NU, NV, UK, Cs, Ct, Cu, Cv, Cw, Cx, Cy, Cz, DA, DB, Bx, Js, Jt, Ju, Jv, Ib, Ic⟩ := at_T53 HR0.out AI IZ Ia
                     have Id := Bx
                     have Jw := DB
                     have Jx := DA
                     have Jy := Cz
                     have Jz := Cy
                     have LA := Cx
                     have LB := Cw
                     have LC := Cv
                     have LD := Cu
                     have LE := Ct
                     have LF := Cs
                     obtain rfl : AS = Qe := (by injection UK)
                     replace Cs := bce_ HB Cs
                     replace Ct := bce_ HB Ct
                     replace Cu := bce_ HB Cu
                     replace Cv := bce_ HB Cv
                     replace Cw := bce_ HB Cw
                     replace Cx := bce_ HB Cx
                     replace Cy := bce_ HB Cy
                     replace Cz := bce_ HB Cz
                     replace DA := bce_ HB DA
                     replace DB := bce_ HB DB
                     replace Bx := bce_ HB Bx
                     have NW := Aside0.mk Jt
                     have TO := Aside0.mk Js
                     clear Jt Js
                     have LG := Aside0.mk Jv
                     have TP := Aside0.mk Ju
                     clear Jv Ju
                     have MD := Aside0.mk Ic
                     have Qf := Aside0.mk Ib
                     clear Ic Ib
                     replace IZ := eq_true IZ
                     replace Ia := eq_true Ia
                     have Ie : 0 ≤ (Az : Int) := of_decide_eq_true (by first | (with_reducible assumption) | assumption)
                     have If : Az < (((rd_T53 l0 AI).f6).length : Int) := of_decide_eq_true (by first | (with_reducible assumption) | assumption)
                     obtain ⟨LH, UL, DC, DD⟩ := at_T55 LG.out Az Ie If
                     have LI := DD
                     have LJ := DC
                     cases UL
                     replace DC := bce_ HB DC
                     replace DD := bce_ HB DD
                     replace Ie := eq_true Ie
                     replace If := eq_true If
                     obtain ⟨JN, JO, Qg⟩ := Kd.R_slice HO_154001.out
                     (first | subst Qg | (injection Qg with f1_ f2_ f3_; have f4_ := f1_.symm; have f5_ := f3_.symm; clear f1_ f2_ f3_; subst f4_; subst f5_))
                     refine start_ (n := 13) (S := fun w' => w'.cell? ⟨AC, 0, none⟩ = some (.int .i64 AW) ∧ w'.cell? ⟨AC, 1, none⟩ = some (.slice JN AE.length JO) ∧ w'.cell? ⟨AC, 2, none⟩ = some (.int .i64 Ac) ∧ w'.cell? ⟨AC, 3, none⟩ = some (AH) ∧ w'.cell? (AS.add ((AI).toNat * 11)) = some (.int .i64 ((rd_T53 l0 AI).f0)) ∧ w'.cell? ⟨(AS.add ((AI).toNat * 11)).block, (AS.add ((AI).toNat * 11)).off + 1, none⟩ = some (.int .i64 ((rd_T53 l0 AI).f1)) ∧ w'.cell? ⟨(AS.add ((AI).toNat * 11)).block, (AS.add ((AI).toNat * 11)).off + 2, none⟩ = some (.int .i64 ((rd_T53 l0 AI).f2)) ∧ w'.cell? ⟨(AS.add ((AI).toNat * 11)).block, (AS.add ((AI).toNat * 11)).off + 3, none⟩ = some (.int .i64 ((rd_T53 l0 AI).f3)) ∧ w'.cell? ⟨(AS.add ((AI).toNat * 11)).block, (AS.add ((AI).toNat * 11)).off + 4, none⟩ = some (.slice Pt ((rd_T53 l0 AI).f4).length Pu) ∧ w'.cell? ⟨(AS.add ((AI).toNat * 11)).block, (AS.add ((AI).toNat * 11)).off + 5, none⟩ = some (.int .i64 ((rd_T53 l0 AI).f5.f0)) ∧ w'.cell? ⟨(AS.add ((AI).toNat * 11)).block, (AS.add ((AI).toNat * 11)).off + 6, none⟩ = some (.int .i64 ((rd_T53 l0 AI).f5.f1)) ∧ w'.cell? ⟨(AS.add ((AI).toNat * 11)).block, (AS.add ((AI).toNat * 11)).off + 7, none⟩ = some (.string ((rd_T53 l0 AI).f5.f2)) ∧ w'.cell? ⟨(AS.add ((AI).toNat * 11)).block, (AS.add ((AI).toNat * 11)).off + 8, none⟩ = some (.string ((rd_T53 l0 AI).f5.f3)) ∧ w'.cell? ⟨(AS.add ((AI).toNat * 11)).block, (AS.add ((AI).toNat * 11)).off + 9, none⟩ = some (.slice (some LH) ((rd_T53 l0 AI).f6).length Pv) ∧ w'.cell? ⟨(AS.add ((AI).toNat * 11)).block, (AS.add ((AI).toNat * 11)).off + 10, none⟩ = some (.slice NU ((rd_T53 l0 AI).f7).length NV) ∧ w'.cell? (LH.add ((Az).toNat * 2)) = some (.int .i64 ((rd_T55 ((rd_T53 l0 AI).f6) Az).f0)) ∧ w'.cell? ⟨(LH.add ((Az).toNat * 2)).block, (LH.add ((Az).toNat * 2)).off + 1, none⟩ = some (.int .i64 ((rd_T55 ((rd_T53 l0 AI).f6) Az).f1))) (ds := [12]) #[false, false, false, false, false, false, false, false, false, false, false, false, false] (by kernel_rfl) rfl rfl ⟨(blk_cell AB.out 0).trans rfl, (blk_cell AB.out 1).trans rfl, (blk_cell AB.out 2).trans rfl, (blk_cell AB.out 3).trans rfl, (bce_ HB LF), (bce_ HB LE), (bce_ HB LD), (bce_ HB LC), (bce_ HB LB), (bce_ HB LA), (bce_ HB Jz), (bce_ HB Jy), (bce_ HB Jx), (bce_ HB Jw), (bce_ HB Id), (bce_ HB LJ), (bce_ HB LI)⟩ (fun hHeld => ?_); refine with_tabW gaugerref22_Read.tab22 gaugerref22_Read.bits22 (fun HT_ HW_ => ?_)
                     generalize wr.drew = w58 at HO_154001 HO_154003 AG AB HB MD NW LG Cs Ct Bx Cu Cv Cw Cx Cy Cz DA DB DC DD hHeld ⊢
                     refine pure_ (i := 0) (N := some 101) (v := ?_) (a' := ?_) #[true, false, false, false, false, false, false, false, false, false, false, false, false] rfl rfl (any_of HT_.out (by kernel_rfl)) (fun _ _ _ h => h) (Or.inl ⟨by rfl, ?_⟩) ?_ ?_
                     rotate_left;·(intro w';go_simp;with_reducible rfl)
                     rotate_left;·(simp only[Act.put,si_,s0_,s1_,i64_w,i32_w];rfl)
                     refine pure_ (i := 2) (N := some 103) (v := ?_) (a' := ?_) #[true, false, true, false, false, false, false, false, false, false, false, false, false] rfl rfl (any_of HT_.out (by kernel_rfl)) (fun _ _ _ h => h) (Or.inl ⟨by rfl, ?_⟩) ?_ ?_
                     rotate_left;·(intro w';go_simp;with_reducible rfl)
                     rotate_left;·(simp only[Act.put,si_,s0_,s1_,i64_w,i32_w];rfl)
                     refine pure_ (i := 3) (N := some 104) (v := ?_) (a' := ?_) #[true, false, true, true, false, false, false, false, false, false, false, false, false] rfl rfl (any_of HT_.out (by kernel_rfl)) (fun _ _ _ h => h) (Or.inl ⟨by rfl, ?_⟩) ?_ ?_
                     rotate_left;·(intro w';go_simp;with_reducible rfl)
                     rotate_left;·(simp only[Act.put,si_,s0_,s1_,i64_w,i32_w];rfl)
                     refine pure_ (i := 4) (N := some 105) (v := ?_) (a' := ?_) #[true, false, true, true, true, false, false, false, false, false, false, false, false] rfl rfl (any_of HT_.out (by kernel_rfl)) (fun _ _ _ h => h) (Or.inl ⟨by rfl, ?_⟩) ?_ ?_
                     rotate_left;·(intro w';go_simp;with_reducible rfl)
                     rotate_left;·(simp only[Act.put,si_,s0_,s1_,i64_w,i32_w];rfl)
                     refine pure_ (i := 5) (N := some 106) (v := ?_) (a' := ?_) #[true, false, true, true, true, true, false, false, false, false, false, false, false] rfl rfl (any_of HT_.out (by kernel_rfl)) (fun _ _ _ h => h) (Or.inl ⟨by rfl, ?_⟩) ?_ ?_
                     rotate_left;·(intro w';go_simp;with_reducible rfl)
                     rotate_left;·(simp only[Act.put,si_,s0_,s1_,i64_w,i32_w];rfl)
                     refine pure_ (i := 7) (N := some 108) (v := ?_) (a' := ?_) #[true, false, true, true, true, true, false, true, false, false, false, false, false] rfl rfl (any_of HT_.out (by kernel_rfl)) (fun _ _ _ h => h) (Or.inl ⟨by rfl, ?_⟩) ?_ ?_
                     rotate_left;·(intro w';go_simp;with_reducible rfl)
                     rotate_left;·(simp only[Act.put,si_,s0_,s1_,i64_w,i32_w];rfl)
                     refine take_ (i := 1) (N := some 102) (v := ?_) (a' := ?_) #[true, true, true, true, true, true, false, true, false, false, false, false, false] rfl rfl (take_ofW HT_.out HW_.out (by kernel_rfl)) (fun _ _ _ h => h) (Or.inl ⟨by rfl, ?_⟩) hHeld ?_ ?_
                     rotate_left
                     ·rintro w' ⟨s0, s1, s2, s3, s4, s5, s6, s7, s8, s9, s10, s11, s12, s13, s14, s15, s16⟩
                      go_simp
                      with_reducible rfl
                     rotate_left
                     ·simp only [Act.put, si_, s0_, s1_, i64_w, i32_w]
                      rfl
                     refine take_ (i := 6) (N := some 107) (v := ?_) (a' := ?_) #[true, true, true, true, true, true, true, true, false, false, false, false, false] rfl rfl (take_ofW HT_.out HW_.out (by kernel_rfl)) (fun _ _ _ h => h) (Or.inl ⟨by rfl, ?_⟩) hHeld ?_ ?_
                     rotate_left
                     ·rintro w' ⟨s0, s1, s2, s3, s4, s5, s6, s7, s8, s9, s10, s11, s12, s13, s14, s15, s16⟩
                      go_simp
                      with_reducible rfl
                     rotate_left
                     ·simp only [Act.put, si_, s0_, s1_, i64_w, i32_w]
                      rfl
                     refine pure_ (i := 8) (N := some 109) (v := ?_) (a' := ?_) #[true, true, true, true, true, true, true, true, true, false, false, false, false] rfl rfl (any_of HT_.out (by kernel_rfl)) (fun _ _ _ h => h) (Or.inl ⟨by rfl, ?_⟩) ?_ ?_
                     rotate_left;·(intro w';go_simp;with_reducible rfl)
                     rotate_left;·(simp only[Act.put,si_,s0_,s1_,i64_w,i32_w];rfl)
                     refine take_ (i := 9) (N := some 110) (v := ?_) (a' := ?_) #[true, true, true, true, true, true, true, true, true, true, false, false, false] rfl rfl (take_ofW HT_.out HW_.out (by kernel_rfl)) (fun _ _ _ h => h) (Or.inl ⟨by rfl, ?_⟩) hHeld ?_ ?_
                     rotate_left
                     ·rintro w' ⟨s0, s1, s2, s3, s4, s5, s6, s7, s8, s9, s10, s11, s12, s13, s14, s15, s16⟩
                      go_simp
                      with_reducible rfl
                     rotate_left
                     ·simp only [Act.put, si_, s0_, s1_, i64_w, i32_w]
                      rfl
                     refine one_ (i := 10) (N := some 111) #[true, true, true, true, true, true, true, true, true, true, true, false, false] rfl rfl (one_of HT_.out (by kernel_rfl)) (by decide) (fun K hK => ?_)
                     refine goes_ Try.func69 (by kernel_rfl) rfl #[.slice JN AE.length JO, .agg #[.int .i64 ((rd_T55 ((rd_T53 l0 AI).f6) Az).f0), .int .i64 ((rd_T55 ((rd_T53 l0 AI).f6) Az).f1)]] (by rfl) rfl rfl (by (try simp only [List.map_toArray, List.map_cons, List.map_nil]); first | done | rfl | (simp only [List.length_drop, List.length_take]; rfl)) ?_
                     with_reducible refine (gaugerref22_set.calls k4 _ _ AE ((rd_T55 ((rd_T53 l0 AI).f6) Az).f0) ((rd_T55 ((rd_T53 l0 AI).f6) Az).f1) t175 _ ?side1 ?side2 A56.out).mono ?_
                     (case side1 => repeat (first|exact (Kd.R_reads' HO_154001.out).2.2 | (with_reducible refine Kd.C_alloc ?_ _) | (with_reducible refine Kd.C_drewN ?_ _) | (with_reducible refine Kd.C_drew ?_)))
                     (case side2 => exact (Kd.R_reads' HO_154001.out).2.1)
                     rintro e w60 ⟨Va, rfl, ho0, hb⟩
                     refine ⟨_, rfl, ?_⟩
                     have n0_ := Aside0.mk (Kd.R_elder' (by (with_reducible repeat (first|apply Kd.R_alloc|apply Kd.R_drewN|apply Kd.R_drew)); exact HO_154001.out) (Kd.R_base ho0) hb)
                     have n1_ := Aside0.mk (Kd.R_below (by (with_reducible repeat (first|apply Kd.R_alloc|apply Kd.R_drewN|apply Kd.R_drew)); exact HO_154003.out) hb)
                     have n2_ := Aside0.mk (Kd.R_lower (Kd.R_new' ho0 (Kd.R_lt (by (with_reducible repeat (first|apply Kd.R_alloc|apply Kd.R_drewN|apply Kd.R_drew)); exact HO_154001.out))) (below_size (by repeat (first | (with_reducible first|exact HB.out|apply below_alloc|apply pw_below_drewN|apply below_drew1|refine below_set ?_ AX.out|refine below_set ?_ AZ.out)|exact HB.out))))
                     have n3_ := Aside0.mk (blk_below (g := AY) (o := .cells #[.int .i64 0, .slice none 0 0, .int .i64 0, .slice none 0 0] 61 (0, 0)) (by (with_reducible repeat (first|refine dn_ ?_ _|refine dr_ ?_|refine al_ ?_ _)); exact AG.out) hb)
                     have n4_ := Aside0.mk (blk_below (g := AC) (o := .cells #[.int .i64 AW, .slice JN AE.length JO, .int .i64 Ac, AH] 61 (0, 0)) (by (with_reducible repeat (first|refine dn_ ?_ _|refine dr_ ?_|refine al_ ?_ _)); exact AB.out) hb)
                     have n5_ := Aside0.mk (below_step (by repeat (first | (with_reducible first|exact HB.out|apply below_alloc|apply pw_below_drewN|apply below_drew1|refine below_set ?_ AX.out|refine below_set ?_ AZ.out)|exact HB.out)) hb)
                     clear HO_154001
                     clear HO_154003
                     clear AG
                     clear AB
                     clear HB
                     have HO_154001 := n0_
                     have HO_154003 := n1_
                     have Eb := n2_
                     have AG := n3_
                     have AB := n4_
                     have HB := n5_
                     clear n0_ n1_ n2_ n3_ n4_ n5_
                     (try clear hb)
                     (try clear hb2)
                     (try clear hk)
                     (try clear hi)
                     (try clear ho0)
                     obtain ⟨Du, Dv, Qh⟩ := Kd.R_slice Eb.out
                     (first | subst Qh | (injection Qh with f1_ f2_ f3_; have f4_ := f1_.symm; have f5_ := f3_.symm; clear f1_ f2_ f3_; subst f4_; subst f5_))
                     refine hK.out _ _ ⟨(blk_cell AB.out 0).trans rfl, (blk_cell AB.out 1).trans rfl, (blk_cell AB.out 2).trans rfl, (blk_cell AB.out 3).trans rfl, (bce_ HB LF), (bce_ HB LE), (bce_ HB LD), (bce_ HB LC), (bce_ HB LB), (bce_ HB LA), (bce_ HB Jz), (bce_ HB Jy), (bce_ HB Jx), (bce_ HB Jw), (bce_ HB Id), (bce_ HB LJ), (bce_ HB LI)⟩ (fun hHeld => ?_)
                     clear hK K
                     refine norm_ (a' := ?_) ?_ ?_
                     rotate_left
                     ·show Act.put _ (some 111) _ = _
                      simp only [Act.put, si_, s0_, s1_, i64_w, i32_w]
                      rfl
                     refine pure_ (i := 11) (N := some 112) (v := ?_) (a' := ?_) #[true, true, true, true, true, true, true, true, true, true, true, true, false] rfl rfl (any_of HT_.out (by kernel_rfl)) (fun _ _ _ h => h) (Or.inl ⟨by rfl, ?_⟩) ?_ ?_
                     rotate_left;·(intro w';go_simp;with_reducible rfl)
                     rotate_left;·(simp only[Act.put,si_,s0_,s1_,i64_w,i32_w];rfl)
                     refine last_ (i := 12) (N := none) #[true, true, true, true, true, true, true, true, true, true, true, true, true] rfl rfl (one_of HT_.out (by kernel_rfl)) (by decide) (fun K hK => ?_)
                     have Vb : w60.cell? ⟨AC, 1, none⟩ = some (.slice JN AE.length JO) := (blk_cell AB.out 1).trans rfl
                     have Us := blk_frozen AB.out 1
                     have TQ := AQ.out
                     have TR := Ab.out
                     refine skip_ (w1 := ?_) (by rfl) rfl ?_ ?_
                     rotate_left
                     ·go_simp
                      rfl
                     refine hK.out _ _ ?_
                     clear hK K
                     refine done_ (done_of HT_.out (by kernel_rfl)) ?_
                     try go_wp2
                     have n0_ : Aside0 (Kd.R k55 55 (w60.setCell ⟨AC, 1, none⟩ (.slice Du t175.length Dv)) w.heap.size (fun k_ => some k_ ≠ (.slice Du t175.length Dv : Value).ownBlock) (.slice JN AE.length JO) AE) := ⟨by (with_reducible repeat (first|apply Kd.R_alloc|apply Kd.R_drewN|apply Kd.R_drew)); exact Kd.R_mono (Kd.R_far (p := ⟨AC, 1, none⟩) (Kd.R_types HO_154001.out AB.out (by decide)) (fun _ hk => hk.2) (.slice Du t175.length Dv)) (fun _ hk => hk.1.2)⟩
                     have n1_ : Aside0 (Kd.R (Kd.int .i64) 3 (w60.setCell ⟨AC, 1, none⟩ (.slice Du t175.length Dv)) w.heap.size (fun _ => True) AH AJ) := ⟨by (with_reducible repeat (first|apply Kd.R_alloc|apply Kd.R_drewN|apply Kd.R_drew)); exact Kd.R_mono (Kd.R_far (p := ⟨AC, 1, none⟩) (Kd.R_types HO_154003.out AB.out (by decide)) (fun _ hk => hk.2) (.slice Du t175.length Dv)) (fun _ hk => trivial)⟩
                     have n2_ : Aside0 (Kd.R k55 55 (w60.setCell ⟨AC, 1, none⟩ (.slice Du t175.length Dv)) w.heap.size (fun k_ => some k_ ≠ (.slice JN AE.length JO : Value).ownBlock) (.slice Du t175.length Dv) t175) := ⟨by (with_reducible repeat (first|apply Kd.R_alloc|apply Kd.R_drewN|apply Kd.R_drew)); exact Kd.R_mono (Kd.R_far (p := ⟨AC, 1, none⟩) (Kd.R_types Eb.out AB.out (by decide)) (fun _ hk => hk.2) (.slice Du t175.length Dv)) (fun _ hk => hk.1.2)⟩
                     have n3_ : Aside0 ((w60.setCell ⟨AC, 1, none⟩ (.slice Du t175.length Dv)).heap[AY]? = some (.cells #[.int .i64 0, .slice none 0 0, .int .i64 0, .slice none 0 0] 61 (0, 0))) := ⟨by (with_reducible repeat (first|refine dn_ ?_ _|refine dr_ ?_|refine al_ ?_ _)); refine blk_far ?_ AQ.out _; (with_reducible repeat (first|refine dn_ ?_ _|refine dr_ ?_|refine al_ ?_ _)); exact AG.out⟩
                     have n4_ : Aside0 ((w60.setCell ⟨AC, 1, none⟩ (.slice Du t175.length Dv)).heap[AC]? = some (.cells #[.int .i64 AW, .slice Du t175.length Dv, .int .i64 Ac, AH] 61 (0, 0))) := ⟨by (with_reducible repeat (first|refine dn_ ?_ _|refine dr_ ?_|refine al_ ?_ _)); refine blk_put (cs := #[.int .i64 AW, .slice JN AE.length JO, .int .i64 Ac, AH]) ?_ 1 _ rfl; (with_reducible repeat (first|refine dn_ ?_ _|refine dr_ ?_|refine al_ ?_ _)); exact AB.out⟩
                     have n5_ : Aside0 (Below w.heap.size w (w60.setCell ⟨AC, 1, none⟩ (.slice Du t175.length Dv))) := ⟨by repeat (first | (with_reducible first|exact HB.out|apply below_alloc|apply pw_below_drewN|apply below_drew1|refine below_set ?_ AX.out|refine below_set ?_ AZ.out)|exact HB.out)⟩
                     (try clear HO_154001)
                     (try clear HO_154003)
                     (try clear Eb)
                     (try clear AG)
                     (try clear AB)
                     (try clear HB)
                     generalize (w60.setCell ⟨AC, 1, none⟩ (.slice Du t175.length Dv)) = w63 at n0_ n1_ n2_ n3_ n4_ n5_ ⊢
                     have HO_154001 := n0_
                     have HO_154003 := n1_
                     have Eb := n2_
                     have AG := n3_
                     have AB := n4_
                     have HB := n5_
                     clear n0_ n1_ n2_ n3_ n4_ n5_
                     have n0_ := Aside0.mk (Kd.R_drew HO_154001.out)
                     have n1_ := Aside0.mk (Kd.R_drew HO_154003.out)
                     have n2_ := Aside0.mk (Kd.R_drew Eb.out)
                     have n3_ := Aside0.mk (dr_ AG.out)
                     have n4_ := Aside0.mk (dr_ AB.out)
                     have n5_ := Aside0.mk (below_drew1 HB.out)
                     clear HO_154001
                     clear HO_154003
                     clear Eb
                     clear AG
                     clear AB
                     clear HB
                     have HO_154001 := n0_
                     have HO_154003 := n1_
                     have Eb := n2_
                     have AG := n3_
                     have AB := n4_
                     have HB := n5_
                     clear n0_ n1_ n2_ n3_ n4_ n5_
                     have Ig : 0 ≤ (AI : Int) := of_decide_eq_true (by first | (with_reducible assumption) | assumption)
                     have Ih : AI < (l0.length : Int) := of_decide_eq_true (by first | (with_reducible assumption) | assumption)
                     obtain ⟨Qi, Pw, Px, UM, Py, NX, NY, UN, DE, DF, DG, DH, DI, DJ, DK, DL, DM, DN, By, LK, LL, LM, LN, Ii, Ij⟩ := at_T53 HR0.out AI Ig Ih
                     have ME := By
                     have NZ := DN
                     have Na := DM
                     have Nb := DL
                     have Nc := DK
                     have Nd := DJ
                     have Ne := DI
                     have Nf := DH
                     have Ng := DG
                     have Nh := DF
                     have Ni := DE
                     obtain rfl : AS = Qi := (by injection UN)
                     replace DE := bce_ HB DE
                     replace DF := bce_ HB DF
                     replace DG := bce_ HB DG
                     replace DH := bce_ HB DH
                     replace DI := bce_ HB DI
                     replace DJ := bce_ HB DJ
                     replace DK := bce_ HB DK
                     replace DL := bce_ HB DL
                     replace DM := bce_ HB DM
                     replace DN := bce_ HB DN
                     replace By := bce_ HB By
                     have Nj := Aside0.mk LL
                     have TS := Aside0.mk LK
                     clear LL LK
                     have LO := Aside0.mk LN
                     have TT := Aside0.mk LM
                     clear LN LM
                     have MF := Aside0.mk Ij
                     have Qj := Aside0.mk Ii
                     clear Ij Ii
                     replace Ig := eq_true Ig
                     replace Ih := eq_true Ih
                     have Il : 0 ≤ (Az : Int) := of_decide_eq_true (by first | (with_reducible assumption) | assumption)
                     have Im : Az < (((rd_T53 l0 AI).f6).length : Int) := of_decide_eq_true (by first | (with_reducible assumption) | assumption)
                     obtain ⟨LP, UO, DO, DP⟩ := at_T55 LO.out Az Il Im
                     have Nl := DP
                     have Nm := DO
                     cases UO
                     replace DO := bce_ HB DO
                     replace DP := bce_ HB DP
                     replace Il := eq_true Il
                     replace Im := eq_true Im
                     refine start_ (n := 15) (S := fun w' => w'.cell? ⟨AC, 0, none⟩ = some (.int .i64 AW) ∧ w'.cell? ⟨AC, 1, none⟩ = some (.slice Du t175.length Dv) ∧ w'.cell? ⟨AC, 2, none⟩ = some (.int .i64 Ac) ∧ w'.cell? ⟨AC, 3, none⟩ = some (AH) ∧ w'.cell? (AS.add ((AI).toNat * 11)) = some (.int .i64 ((rd_T53 l0 AI).f0)) ∧ w'.cell? ⟨(AS.add ((AI).toNat * 11)).block, (AS.add ((AI).toNat * 11)).off + 1, none⟩ = some (.int .i64 ((rd_T53 l0 AI).f1)) ∧ w'.cell? ⟨(AS.add ((AI).toNat * 11)).block, (AS.add ((AI).toNat * 11)).off + 2, none⟩ = some (.int .i64 ((rd_T53 l0 AI).f2)) ∧ w'.cell? ⟨(AS.add ((AI).toNat * 11)).block, (AS.add ((AI).toNat * 11)).off + 3, none⟩ = some (.int .i64 ((rd_T53 l0 AI).f3)) ∧ w'.cell? ⟨(AS.add ((AI).toNat * 11)).block, (AS.add ((AI).toNat * 11)).off + 4, none⟩ = some (.slice Pw ((rd_T53 l0 AI).f4).length Px) ∧ w'.cell? ⟨(AS.add ((AI).toNat * 11)).block, (AS.add ((AI).toNat * 11)).off + 5, none⟩ = some (.int .i64 ((rd_T53 l0 AI).f5.f0)) ∧ w'.cell? ⟨(AS.add ((AI).toNat * 11)).block, (AS.add ((AI).toNat * 11)).off + 6, none⟩ = some (.int .i64 ((rd_T53 l0 AI).f5.f1)) ∧ w'.cell? ⟨(AS.add ((AI).toNat * 11)).block, (AS.add ((AI).toNat * 11)).off + 7, none⟩ = some (.string ((rd_T53 l0 AI).f5.f2)) ∧ w'.cell? ⟨(AS.add ((AI).toNat * 11)).block, (AS.add ((AI).toNat * 11)).off + 8, none⟩ = some (.string ((rd_T53 l0 AI).f5.f3)) ∧ w'.cell? ⟨(AS.add ((AI).toNat * 11)).block, (AS.add ((AI).toNat * 11)).off + 9, none⟩ = some (.slice (some LP) ((rd_T53 l0 AI).f6).length Py) ∧ w'.cell? ⟨(AS.add ((AI).toNat * 11)).block, (AS.add ((AI).toNat * 11)).off + 10, none⟩ = some (.slice NX ((rd_T53 l0 AI).f7).length NY) ∧ w'.cell? (LP.add ((Az).toNat * 2)) = some (.int .i64 ((rd_T55 ((rd_T53 l0 AI).f6) Az).f0)) ∧ w'.cell? ⟨(LP.add ((Az).toNat * 2)).block, (LP.add ((Az).toNat * 2)).off + 1, none⟩ = some (.int .i64 ((rd_T55 ((rd_T53 l0 AI).f6) Az).f1))) (ds := [14]) #[false, false, false, false, false, false, false, false, false, false, false, false, false, false, false] (by kernel_rfl) rfl rfl ⟨(blk_cell AB.out 0).trans rfl, (blk_cell AB.out 1).trans rfl, (blk_cell AB.out 2).trans rfl, (blk_cell AB.out 3).trans rfl, (bce_ HB Ni), (bce_ HB Nh), (bce_ HB Ng), (bce_ HB Nf), (bce_ HB Ne), (bce_ HB Nd), (bce_ HB Nc), (bce_ HB Nb), (bce_ HB Na), (bce_ HB NZ), (bce_ HB ME), (bce_ HB Nm), (bce_ HB Nl)⟩ (fun hHeld => ?_); refine with_tabW gaugerref22_Read.tab23 gaugerref22_Read.bits23 (fun HT_ HW_ => ?_)
                     generalize w63.drew = w64 at HO_154001 HO_154003 Eb AG AB HB MF Nj LO DE DF By DG DH DI DJ DK DL DM DN DO DP hHeld ⊢
                     refine pure_ (i := 0) (N := some 113) (v := ?_) (a' := ?_) #[true, false, false, false, false, false, false, false, false, false, false, false, false, false, false] rfl rfl (any_of HT_.out (by kernel_rfl)) (fun _ _ _ h => h) (Or.inl ⟨by rfl, ?_⟩) ?_ ?_
                     rotate_left;·(intro w';go_simp;with_reducible rfl)
                     rotate_left;·(simp only[Act.put,si_,s0_,s1_,i64_w,i32_w];rfl)
                     refine pure_ (i := 2) (N := some 115) (v := ?_) (a' := ?_) #[true, false, true, false, false, false, false, false, false, false, false, false, false, false, false] rfl rfl (any_of HT_.out (by kernel_rfl)) (fun _ _ _ h => h) (Or.inl ⟨by rfl, ?_⟩) ?_ ?_
                     rotate_left;·(intro w';go_simp;with_reducible rfl)
                     rotate_left;·(simp only[Act.put,si_,s0_,s1_,i64_w,i32_w];rfl)
                     refine pure_ (i := 3) (N := some 116) (v := ?_) (a' := ?_) #[true, false, true, true, false, false, false, false, false, false, false, false, false, false, false] rfl rfl (any_of HT_.out (by kernel_rfl)) (fun _ _ _ h => h) (Or.inl ⟨by rfl, ?_⟩) ?_ ?_
                     rotate_left;·(intro w';go_simp;with_reducible rfl)
                     rotate_left;·(simp only[Act.put,si_,s0_,s1_,i64_w,i32_w];rfl)
                     refine pure_ (i := 4) (N := some 117) (v := ?_) (a' := ?_) #[true, false, true, true, true, false, false, false, false, false, false, false, false, false, false] rfl rfl (any_of HT_.out (by kernel_rfl)) (fun _ _ _ h => h) (Or.inl ⟨by rfl, ?_⟩) ?_ ?_
                     rotate_left;·(intro w';go_simp;with_reducible rfl)
                     rotate_left;·(simp only[Act.put,si_,s0_,s1_,i64_w,i32_w];rfl)
                     refine pure_ (i := 5) (N := some 118) (v := ?_) (a' := ?_) #[true, false, true, true, true, true, false, false, false, false, false, false, false, false, false] rfl rfl (any_of HT_.out (by kernel_rfl)) (fun _ _ _ h => h) (Or.inl ⟨by rfl, ?_⟩) ?_ ?_
                     rotate_left;·(intro w';go_simp;with_reducible rfl)
                     rotate_left;·(simp only[Act.put,si_,s0_,s1_,i64_w,i32_w];rfl)
                     refine pure_ (i := 7) (N := some 120) (v := ?_) (a' := ?_) #[true, false, true, true, true, true, false, true, false, false, false, false, false, false, false] rfl rfl (any_of HT_.out (by kernel_rfl)) (fun _ _ _ h => h) (Or.inl ⟨by rfl, ?_⟩) ?_ ?_
                     rotate_left;·(intro w';go_simp;with_reducible rfl)
                     rotate_left;·(simp only[Act.put,si_,s0_,s1_,i64_w,i32_w];rfl)
                     refine take_ (i := 1) (N := some 114) (v := ?_) (a' := ?_) #[true, true, true, true, true, true, false, true, false, false, false, false, false, false, false] rfl rfl (take_ofW HT_.out HW_.out (by kernel_rfl)) (fun _ _ _ h => h) (Or.inl ⟨by rfl, ?_⟩) hHeld ?_ ?_
                     rotate_left
                     ·rintro w' ⟨s0, s1, s2, s3, s4, s5, s6, s7, s8, s9, s10, s11, s12, s13, s14, s15, s16⟩
                      go_simp
                      with_reducible rfl
                     rotate_left
                     ·simp only [Act.put, si_, s0_, s1_, i64_w, i32_w]
                      rfl
                     refine take_ (i := 6) (N := some 119) (v := ?_) (a' := ?_) #[true, true, true, true, true, true, true, true, false, false, false, false, false, false, false] rfl rfl (take_ofW HT_.out HW_.out (by kernel_rfl)) (fun _ _ _ h => h) (Or.inl ⟨by rfl, ?_⟩) hHeld ?_ ?_
                     rotate_left
                     ·rintro w' ⟨s0, s1, s2, s3, s4, s5, s6, s7, s8, s9, s10, s11, s12, s13, s14, s15, s16⟩
                      go_simp
                      with_reducible rfl
                     rotate_left
                     ·simp only [Act.put, si_, s0_, s1_, i64_w, i32_w]
                      rfl
                     refine pure_ (i := 8) (N := some 121) (v := ?_) (a' := ?_) #[true, true, true, true, true, true, true, true, true, false, false, false, false, false, false] rfl rfl (any_of HT_.out (by kernel_rfl)) (fun _ _ _ h => h) (Or.inl ⟨by rfl, ?_⟩) ?_ ?_
                     rotate_left;·(intro w';go_simp;with_reducible rfl)
                     rotate_left;·(simp only[Act.put,si_,s0_,s1_,i64_w,i32_w];rfl)
                     refine pure_ (i := 9) (N := some 122) (v := ?_) (a' := ?_) #[true, true, true, true, true, true, true, true, true, true, false, false, false, false, false] rfl rfl (any_of HT_.out (by kernel_rfl)) (fun _ _ _ h => h) (Or.inl ⟨by rfl, ?_⟩) ?_ ?_
                     rotate_left;·(intro w';go_simp;with_reducible rfl)
                     rotate_left;·(simp only[Act.put,si_,s0_,s1_,i64_w,i32_w];rfl)
                     refine take_ (i := 10) (N := some 123) (v := ?_) (a' := ?_) #[true, true, true, true, true, true, true, true, true, true, true, false, false, false, false] rfl rfl (take_ofW HT_.out HW_.out (by kernel_rfl)) (fun _ _ _ h => h) (Or.inl ⟨by rfl, ?_⟩) hHeld ?_ ?_
                     rotate_left
                     ·rintro w' ⟨s0, s1, s2, s3, s4, s5, s6, s7, s8, s9, s10, s11, s12, s13, s14, s15, s16⟩
                      go_simp
                      with_reducible rfl
                     rotate_left
                     ·simp only [Act.put, si_, s0_, s1_, i64_w, i32_w]
                      rfl
                     refine pure_ (i := 11) (N := some 124) (v := ?_) (a' := ?_) #[true, true, true, true, true, true, true, true, true, true, true, true, false, false, false] rfl rfl (any_of HT_.out (by kernel_rfl)) (fun _ _ _ h => h) (Or.inl ⟨by rfl, ?_⟩) ?_ ?_
                     rotate_left;·(intro w';go_simp;with_reducible rfl)
                     rotate_left;·(simp only[Act.put,si_,s0_,s1_,i64_w,i32_w];rfl)
                     refine pure_ (i := 12) (N := some 125) (v := ?_) (a' := ?_) #[true, true, true, true, true, true, true, true, true, true, true, true, true, false, false] rfl rfl (any_of HT_.out (by kernel_rfl)) (fun _ _ _ h => h) (Or.inl ⟨by rfl, ?_⟩) ?_ ?_
                     rotate_left;·(intro w';go_simp;with_reducible rfl)
                     rotate_left;·(simp only[Act.put,si_,s0_,s1_,i64_w,i32_w];rfl)
                     refine pure_ (i := 13) (N := some 126) (v := ?_) (a' := ?_) #[true, true, true, true, true, true, true, true, true, true, true, true, true, true, false] rfl rfl (any_of HT_.out (by kernel_rfl)) (fun _ _ _ h => h) (Or.inl ⟨by rfl, ?_⟩) ?_ ?_
                     rotate_left;·(intro w';go_simp;with_reducible rfl)
                     rotate_left;·(simp only[Act.put,si_,s0_,s1_,i64_w,i32_w];rfl)
                     refine last_ (i := 14) (N := none) #[true, true, true, true, true, true, true, true, true, true, true, true, true, true, true] rfl rfl (one_of HT_.out (by kernel_rfl)) (by decide) (fun K hK => ?_)
                     have Vc : w64.cell? ⟨AC, 2, none⟩ = some (.int .i64 Ac) := (blk_cell AB.out 2).trans rfl
                     have Ut := blk_frozen AB.out 2
                     have TU := AQ.out
                     have TV := Ab.out
                     refine skip_ (w1 := ?_) (by rfl) rfl ?_ ?_
                     rotate_left
                     ·go_simp
                      rfl
                     refine hK.out _ _ ?_
                     clear hK K
                     refine done_ (done_of HT_.out (by kernel_rfl)) ?_
                     try go_wp2
                     go_roundg k4
                     case measure => have := HK1.out; have := DU.out; have := HK3.out; have := HK4.out; omega
                     case rel => exact ⟨(wrap64 (Az + 1)), (t175), (Lz), (.slice Du t175.length Dv), (by first | rfl | (simp; done) | (simp [*]; done)), H', ⟨by have := HK1.out; have := DU.out; have := HK3.out; have := HK4.out; omega⟩, ⟨by (with_reducible repeat (first|apply Kd.R_alloc|apply Kd.R_drewN|apply Kd.R_drew)); exact Kd.R_mono (Kd.R_far (p := ⟨AC, 2, none⟩) (Kd.R_types Eb.out AB.out (by decide)) (fun _ hk => hk.2) (.int .i64 Lz)) (fun _ hk => trivial)⟩, ⟨by (with_reducible repeat (first|apply Kd.R_alloc|apply Kd.R_drewN|apply Kd.R_drew)); exact Kd.R_mono (Kd.R_far (p := ⟨AC, 2, none⟩) (Kd.R_types HO_154003.out AB.out (by decide)) (fun _ hk => hk.2) (.int .i64 Lz)) (fun _ hk => trivial)⟩, ⟨by (with_reducible repeat (first|refine dn_ ?_ _|refine dr_ ?_|refine al_ ?_ _)); refine blk_far ?_ AQ.out _; (with_reducible repeat (first|refine dn_ ?_ _|refine dr_ ?_|refine al_ ?_ _)); exact AG.out⟩, ⟨by (with_reducible repeat (first|refine dn_ ?_ _|refine dr_ ?_|refine al_ ?_ _)); refine blk_put (cs := #[.int .i64 AW, .slice Du t175.length Dv, .int .i64 Ac, AH]) ?_ 2 _ rfl; (with_reducible repeat (first|refine dn_ ?_ _|refine dr_ ?_|refine al_ ?_ _)); exact AB.out⟩, ⟨by repeat (first | (with_reducible first|exact HB.out|apply below_alloc|apply pw_below_drewN|apply below_drew1|refine below_set ?_ AX.out|refine below_set ?_ AZ.out)|exact HB.out)⟩⟩
                    ·rw [if_neg c55] at H
                     exact absurd H (by simp)
                   ·rw [if_neg c54] at H
                    have Gv : decide (Az < (((rd_T53 l0 AI).f6).length : Int)) = false := decide_eq_false c54
                    clear c54
                    have H' := Aside0.mk H
                    clear H
                    have Eu : 0 ≤ (AI : Int) := of_decide_eq_true (by first | (with_reducible assumption) | assumption)
                    have Ew : AI < (l0.length : Int) := of_decide_eq_true (by first | (with_reducible assumption) | assumption)
                    obtain ⟨MA, Po, Pp, Pq, Pr, NO, NP, Ps, CM, CN, CO, CP, CQ, CR, CS, CT, CU, CV, BD, EX, EY, EZ, Ea, Dp, Dq⟩ := at_T53 HR0.out AI Eu Ew
                    obtain rfl : AS = MA := (by injection Ps)
                    replace CM := bce_ HB CM
                    replace CN := bce_ HB CN
                    replace CO := bce_ HB CO
                    replace CP := bce_ HB CP
                    replace CQ := bce_ HB CQ
                    replace CR := bce_ HB CR
                    replace CS := bce_ HB CS
                    replace CT := bce_ HB CT
                    replace CU := bce_ HB CU
                    replace CV := bce_ HB CV
                    replace BD := bce_ HB BD
                    have NQ := Aside0.mk EY
                    have NR := Aside0.mk EX
                    clear EY EX
                    have NS := Aside0.mk Ea
                    have NT := Aside0.mk EZ
                    clear Ea EZ
                    have MB := Aside0.mk Dq
                    have MC := Aside0.mk Dp
                    clear Dq Dp
                    replace Eu := eq_true Eu
                    replace Ew := eq_true Ew
                    go_wp2
                    go_meet
                    case rel => exact ⟨_, (AW), (AE), (Ac), (AV), H', ⟨by have := HK1.out; have := DU.out; have := HK3.out; have := HK4.out; first | omega|exact Nat.le_refl _⟩, ⟨by (with_reducible repeat (first|apply Kd.R_alloc|apply Kd.R_drewN|apply Kd.R_drew)); exact HO_154001.out⟩, ⟨by (with_reducible repeat (first|apply Kd.R_alloc|apply Kd.R_drewN|apply Kd.R_drew)); exact HO_154003.out⟩, ⟨by (with_reducible repeat (first|refine dn_ ?_ _|refine dr_ ?_|refine al_ ?_ _)); exact AG.out⟩, ⟨by (with_reducible repeat (first|refine dn_ ?_ _|refine dr_ ?_|refine al_ ?_ _)); exact AB.out⟩, ⟨by repeat (first | (with_reducible first|exact HB.out|apply below_alloc|apply pw_below_drewN|apply below_drew1|refine below_set ?_ AX.out|refine below_set ?_ AZ.out)|exact HB.out)⟩⟩
                  ·rw [if_neg c53] at H
                   exact absurd H (by simp)
                 ·rw [if_neg c52] at H
                  exact absurd H (by simp)
             ·rw [if_neg c46] at H
              exact absurd H (by simp)
            ·rw [if_neg c45] at H
             exact absurd H (by simp)
         ·rw [if_neg c42] at H
          exact absurd H (by simp)
        ·rw [if_neg c41] at H
         exact absurd H (by simp)
       ·rw [if_neg c40] at H
        have Dd : decide (0 ≤ AI) = false := decide_eq_false c40
        clear c40
        (first | rw [Dd] | (simp only [i64_w, i32_w]; rw [Dd]) | skip)
        have H' := Aside0.mk H
        clear H
        go_wp2
        go_meet
        case rel => exact ⟨_, (Bz), (([] : List (S55))), (AR), (.slice none 0 0), H', ⟨by have := HK1.out; have := DU.out; first | omega|exact Nat.le_refl _⟩, ⟨by first|exact Kd.R_nil _ _ _ _ _|exact Kd.N_nil _ _ _ _ _|exact Kd.V_nil _ _ _ _ _|exact Kd.Q_nil _ _ _ _ _|exact Kd.S_nil _ _ _ _ _⟩, ⟨by (with_reducible repeat (first|apply Kd.R_alloc|apply Kd.R_drewN|apply Kd.R_drew)); exact HO_154003.out⟩, ⟨by (with_reducible repeat (first|refine dn_ ?_ _|refine dr_ ?_|refine al_ ?_ _)); exact AG.out⟩, ⟨by (with_reducible repeat (first|refine dn_ ?_ _|refine dr_ ?_|refine al_ ?_ _)); exact AB.out⟩, ⟨by repeat (first | (with_reducible first|exact HB.out|apply below_alloc|apply pw_below_drewN|apply below_drew1|refine below_set ?_ AX.out|refine below_set ?_ AZ.out)|exact HB.out)⟩⟩
      case rest =>
       clear Pd
       try clear c1
       try clear p1
       try clear q1
       try clear hx1
       try clear p2
       try clear c4
       try clear c5
       try clear c6
       try clear p6
       try clear p15
       try clear q15
       try clear p16
       try clear q16
       try clear JM
       try clear c17
       try clear p17
       try clear q17
       try clear Ly
       try clear c40
       try clear Dd
       try clear c41
       try clear c42
       try clear c45
       try clear c46
       try clear c52
       try clear IW
       try clear c53
       try clear IX
       try clear c54
       try clear Gv
       try clear c55
       try clear IY
       try clear p64
       try clear BX
       try clear BY
       try clear BZ
       try clear Ba
       try clear Bb
       try clear Bc
       try clear Cr
       try clear Bn
       try clear Bo
       try clear Ay
       try clear Bp
       try clear Bq
       try clear Br
       try clear Bs
       try clear Bt
       try clear Bu
       try clear Bv
       try clear Bw
       try clear CA
       try clear CB
       try clear BC
       try clear CC
       try clear CD
       try clear CE
       try clear CF
       try clear CG
       try clear CH
       try clear CI
       try clear CJ
       try clear CK
       try clear CL
       try clear CM
       try clear CN
       try clear BD
       try clear CO
       try clear CP
       try clear CQ
       try clear CR
       try clear CS
       try clear CT
       try clear CU
       try clear CV
       try clear Cs
       try clear Ct
       try clear Bx
       try clear Cu
       try clear Cv
       try clear Cw
       try clear Cx
       try clear Cy
       try clear Cz
       try clear DA
       try clear DB
       try clear DC
       try clear DD
       try clear DE
       try clear DF
       try clear By
       try clear DG
       try clear DH
       try clear DI
       try clear DJ
       try clear DK
       try clear DL
       try clear DM
       try clear DN
       try clear DO
       try clear DP
       try clear p1
       try clear p15
       try clear DQ
       try clear p16
       try clear Dw
       try clear Dy
       try clear Gl
       try clear Gn
       try clear Gt
       try clear Eq
       try clear Hp
       try clear Hr
       try clear Eu
       try clear IZ
       try clear Ie
       try clear Ig
       try clear Il
       try clear p2
       try clear p6
       try clear q1
       try clear q15
       try clear DR
       try clear q16
       try clear Dx
       try clear Dz
       try clear Gm
       try clear Gp
       try clear Gu
       try clear Er
       try clear Hq
       try clear Hs
       try clear Ew
       try clear Ia
       try clear If
       try clear Ih
       try clear Im
       obtain ⟨kq, AM, Dc, AN, AV, HA, Ec, HO_154001, HO_154003, AG, AB, HB⟩ := hcut
       cases kq with
       | zero => exact absurd HA.out (by simp [gaugerref22_Read.j4])
       | succ Ql =>
        have H := HA.out
        clear HA
        simp only [gaugerref22_Read.j4] at H
        have H' := Aside0.mk H
        clear H
        go_wp2
        go_loopg [10] Ql (fun kq v10 w' => ∃ (AA : Int) (AE : List (S55)) (AV : Value), v10 = .int .i64 AA ∧ Aside0 (gaugerref22_Read.l3 kq l0 l1 AA AM AE AN AJ = some (r1, r2, r3, r4)) ∧ Aside0 (kq ≤ Ql) ∧ Aside0 (Kd.R k55 55 w' w.heap.size (fun _ => True) AV AE) ∧ Aside0 (Kd.R (Kd.int .i64) 3 w' w.heap.size (fun _ => True) AH AJ) ∧ Aside0 (w'.heap[AY]? = some (.cells #[.int .i64 0, (.slice none 0 0), .int .i64 0, (.slice none 0 0)] 61 (0, 0))) ∧ Aside0 (w'.heap[AC]? = some (.cells #[.int .i64 AM, AV, .int .i64 AN, AH] 61 (0, 0))) ∧ Aside0 (Below w.heap.size w w'))
        case atStart => exact ⟨(wrap64 (AI + 1)), (Dc), (AV), (by first | rfl | (simp; done) | (simp [*]; done)), H', ⟨Nat.le_refl _⟩, ⟨by (with_reducible repeat (first|apply Kd.R_alloc|apply Kd.R_drewN|apply Kd.R_drew)); exact HO_154001.out⟩, ⟨by (with_reducible repeat (first|apply Kd.R_alloc|apply Kd.R_drewN|apply Kd.R_drew)); exact HO_154003.out⟩, ⟨by (with_reducible repeat (first|refine dn_ ?_ _|refine dr_ ?_|refine al_ ?_ _)); exact AG.out⟩, ⟨by (with_reducible repeat (first|refine dn_ ?_ _|refine dr_ ?_|refine al_ ?_ _)); exact AB.out⟩, ⟨by repeat (first | (with_reducible first|exact HB.out|apply below_alloc|apply pw_below_drewN|apply below_drew1|refine below_set ?_ AX.out|refine below_set ?_ AZ.out)|exact HB.out)⟩⟩
        case round =>
         clear H'
         try clear c1
         try clear p1
         try clear q1
         try clear hx1
         try clear p2
         try clear c4
         try clear c5
         try clear c6
         try clear p6
         try clear p15
         try clear q15
         try clear p16
         try clear q16
         try clear JM
         try clear c17
         try clear p17
         try clear q17
         try clear Ly
         try clear c40
         try clear Dd
         try clear c41
         try clear c42
         try clear c45
         try clear c46
         try clear c52
         try clear IW
         try clear c53
         try clear IX
         try clear c54
         try clear Gv
         try clear c55
         try clear IY
         try clear p64
         try clear BX
         try clear BY
         try clear BZ
         try clear Ba
         try clear Bb
         try clear Bc
         try clear Cr
         try clear Bn
         try clear Bo
         try clear Ay
         try clear Bp
         try clear Bq
         try clear Br
         try clear Bs
         try clear Bt
         try clear Bu
         try clear Bv
         try clear Bw
         try clear CA
         try clear CB
         try clear BC
         try clear CC
         try clear CD
         try clear CE
         try clear CF
         try clear CG
         try clear CH
         try clear CI
         try clear CJ
         try clear CK
         try clear CL
         try clear CM
         try clear CN
         try clear BD
         try clear CO
         try clear CP
         try clear CQ
         try clear CR
         try clear CS
         try clear CT
         try clear CU
         try clear CV
         try clear Cs
         try clear Ct
         try clear Bx
         try clear Cu
         try clear Cv
         try clear Cw
         try clear Cx
         try clear Cy
         try clear Cz
         try clear DA
         try clear DB
         try clear DC
         try clear DD
         try clear DE
         try clear DF
         try clear By
         try clear DG
         try clear DH
         try clear DI
         try clear DJ
         try clear DK
         try clear DL
         try clear DM
         try clear DN
         try clear DO
         try clear DP
         try clear p1
         try clear p15
         try clear DQ
         try clear p16
         try clear Dw
         try clear Dy
         try clear Gl
         try clear Gn
         try clear Gt
         try clear Eq
         try clear p17
         try clear Hp
         try clear Hr
         try clear Eu
         try clear IZ
         try clear Ie
         try clear Ig
         try clear Il
         try clear p2
         try clear p6
         try clear p64
         try clear q1
         try clear q15
         try clear DR
         try clear q16
         try clear Dx
         try clear Dz
         try clear Gm
         try clear Gp
         try clear Gu
         try clear Er
         try clear q17
         try clear Hq
         try clear Hs
         try clear Ew
         try clear Ia
         try clear If
         try clear Ih
         try clear Im
         obtain ⟨AA, AE, AV, rfl, HA, HK4, HO_154001, HO_154003, AG, AB, HB⟩ := hrel
         cases gk with
         | zero => exact absurd HA.out (by simp [gaugerref22_Read.l3])
         | succ k4 =>
          have H := HA.out
          clear HA
          simp only [gaugerref22_Read.l3] at H
          by_cases c66 : AA < (l0.length : Int)
          ·rw [if_pos c66] at H
           have LQ : decide (AA < (l0.length : Int)) = true := decide_eq_true c66
           clear c66
           by_cases c67 : 0 ≤ AA
           ·rw [if_pos c67] at H
            have MG : decide (0 ≤ AA) = true := decide_eq_true c67
            clear c67
            have Pz := Aside0.mk H
            clear H
            have LY : 0 ≤ (AA : Int) := of_decide_eq_true (by first | (with_reducible assumption) | assumption)
            have LZ : AA < (l0.length : Int) := of_decide_eq_true (by first | (with_reducible assumption) | assumption)
            obtain ⟨Uu, Ad, Ae, Bd, Be, BA, BB, UP, Ed, Ee, Ef, Eg, Eh, Ei, Ej, El, Em, En, Dr, LR, LS, LT, LU, In, Io⟩ := at_T53 HR0.out AA LY LZ
            cases UP
            replace Ed := bce_ HB Ed
            replace Ee := bce_ HB Ee
            replace Ef := bce_ HB Ef
            replace Eg := bce_ HB Eg
            replace Eh := bce_ HB Eh
            replace Ei := bce_ HB Ei
            replace Ej := bce_ HB Ej
            replace El := bce_ HB El
            replace Em := bce_ HB Em
            replace En := bce_ HB En
            replace Dr := bce_ HB Dr
            have TW := Aside0.mk LS
            have TX := Aside0.mk LR
            clear LS LR
            have TY := Aside0.mk LU
            have TZ := Aside0.mk LT
            clear LU LT
            have Qm := Aside0.mk Io
            have Qn := Aside0.mk In
            clear Io In
            replace LY := eq_true LY
            replace LZ := eq_true LZ
            go_upto_if 141 with (first | ((with_reducible refine gate_dst (N := 11) rfl ?_); refine box_event ?hg (N := 11) ?hd (cs := #[.int .i64 0, .int .i64 0, .int .i64 0, .int .i64 0, .slice none 0 0, .int .i64 0, .int .i64 0, .string (⟨#[]⟩ : ByteArray), .string (⟨#[]⟩ : ByteArray), .slice none 0 0, .slice none 0 0]) (t := 53) ?hr ?_; (case hd => rfl); (case hg => rfl); (case hr => first | (go_simp; done) | (go_simp; rfl)); intro AP hg w69 hbox hb; have n0_ := Aside0.mk (Kd.R_below (by (with_reducible repeat (first|apply Kd.R_alloc|apply Kd.R_drewN|apply Kd.R_drew)); exact HO_154001.out) hb); have n1_ := Aside0.mk (Kd.R_below (by (with_reducible repeat (first|apply Kd.R_alloc|apply Kd.R_drewN|apply Kd.R_drew)); exact HO_154003.out) hb); have n2_ := Aside0.mk (blk_below (g := AY) (o := .cells #[.int .i64 0, .slice none 0 0, .int .i64 0, .slice none 0 0] 61 (0, 0)) (by (with_reducible repeat (first|refine dn_ ?_ _|refine dr_ ?_|refine al_ ?_ _)); exact AG.out) hb); have n3_ := Aside0.mk (blk_below (g := AC) (o := .cells #[.int .i64 AM, AV, .int .i64 AN, AH] 61 (0, 0)) (by (with_reducible repeat (first|refine dn_ ?_ _|refine dr_ ?_|refine al_ ?_ _)); exact AB.out) hb); have n4_ := Aside0.mk (below_step (by repeat (first | (with_reducible first|exact HB.out|apply below_alloc|apply pw_below_drewN|apply below_drew1|refine below_set ?_ AX.out|refine below_set ?_ AZ.out)|exact HB.out)) hb); have n5_ := Aside0.mk (hbox); have n6_ := Aside0.mk ((by rw [hg]; exact (below_size (by repeat (first | (with_reducible first|exact HB.out|apply below_alloc|apply pw_below_drewN|apply below_drew1|refine below_set ?_ AX.out|refine below_set ?_ AZ.out)|exact HB.out))) : w.heap.size ≤ AP)); have n7_ := Aside0.mk ((by rw [hg]; exact (below_size (by repeat (first | (with_reducible first|exact HB.out|apply below_alloc|apply pw_below_drewN|apply below_drew1|refine below_set ?_ AX.out|refine below_set ?_ AZ.out)|exact HB.out))) : w.heap.size ≤ AP)); have n8_ := Aside0.mk ((by rw [hg]; exact Nat.ne_of_lt (blk_lt (g := AY) (o := .cells #[.int .i64 0, .slice none 0 0, .int .i64 0, .slice none 0 0] 61 (0, 0)) (by (with_reducible repeat (first|refine dn_ ?_ _|refine dr_ ?_|refine al_ ?_ _)); exact AG.out)) : AY ≠ AP)); have n9_ := Aside0.mk ((by rw [hg]; exact Nat.ne_of_gt (blk_lt (g := AY) (o := .cells #[.int .i64 0, .slice none 0 0, .int .i64 0, .slice none 0 0] 61 (0, 0)) (by (with_reducible repeat (first|refine dn_ ?_ _|refine dr_ ?_|refine al_ ?_ _)); exact AG.out)) : AP ≠ AY)); have Qo := Aside0.mk ((by rw [hg]; exact Nat.ne_of_lt (blk_lt (g := AC) (o := .cells #[.int .i64 AM, AV, .int .i64 AN, AH] 61 (0, 0)) (by (with_reducible repeat (first|refine dn_ ?_ _|refine dr_ ?_|refine al_ ?_ _)); exact AB.out)) : AC ≠ AP)); have Qp := Aside0.mk ((by rw [hg]; exact Nat.ne_of_gt (blk_lt (g := AC) (o := .cells #[.int .i64 AM, AV, .int .i64 AN, AH] 61 (0, 0)) (by (with_reducible repeat (first|refine dn_ ?_ _|refine dr_ ?_|refine al_ ?_ _)); exact AB.out)) : AP ≠ AC)); clear HO_154001; clear HO_154003; clear AG; clear AB; clear HB; have HO_154001 := n0_; have HO_154003 := n1_; have AG := n2_; have AB := n3_; have HB := n4_; have AO := n5_; have Uv := n6_; have CW := n7_; have AU := n8_; have La := n9_; have AT := Qo; have DV := Qp; clear n0_ n1_ n2_ n3_ n4_ n5_ n6_ n7_ n8_ n9_ Qo Qp; clear hb hbox hg; have Uw := La.out; have Ux := AU.out; have Uy := DV.out; have Uz := AT.out; have Ht : w69.cell? ⟨AP, 0, none⟩ = some (.int .i64 0) := (blk_cell AO.out 0).trans rfl; have Hu : w69.cell? ⟨AP, 1, none⟩ = some (.int .i64 0) := (blk_cell AO.out 1).trans rfl; have Hv : w69.cell? ⟨AP, 2, none⟩ = some (.int .i64 0) := (blk_cell AO.out 2).trans rfl; have Hw : w69.cell? ⟨AP, 3, none⟩ = some (.int .i64 0) := (blk_cell AO.out 3).trans rfl; have Hx : w69.cell? ⟨AP, 4, none⟩ = some (.slice none 0 0) := (blk_cell AO.out 4).trans rfl; have Hy : w69.cell? ⟨AP, 5, none⟩ = some (.int .i64 0) := (blk_cell AO.out 5).trans rfl; have Hz : w69.cell? ⟨AP, 6, none⟩ = some (.int .i64 0) := (blk_cell AO.out 6).trans rfl; have IA : w69.cell? ⟨AP, 7, none⟩ = some (.string (⟨#[]⟩ : ByteArray)) := (blk_cell AO.out 7).trans rfl; have IB : w69.cell? ⟨AP, 8, none⟩ = some (.string (⟨#[]⟩ : ByteArray)) := (blk_cell AO.out 8).trans rfl; have IC : w69.cell? ⟨AP, 9, none⟩ = some (.slice none 0 0) := (blk_cell AO.out 9).trans rfl; have Gq : w69.cell? ⟨AP, 10, none⟩ = some (.slice none 0 0) := (blk_cell AO.out 10).trans rfl; have ID := blk_frozen AO.out 0; have IE := blk_frozen AO.out 1; have IF := blk_frozen AO.out 2; have IG := blk_frozen AO.out 3; have IH := blk_frozen AO.out 4; have II := blk_frozen AO.out 5; have IJ := blk_frozen AO.out 6; have IK := blk_frozen AO.out 7; have IL := blk_frozen AO.out 8; have IM := blk_frozen AO.out 9; have Gr := blk_frozen AO.out 10))
            (try simp only [Act.put, si_, s0_, s1_])
            go_cut [141] (fun UQ wc => ∃ (kq : Nat) (Gc : Bool), UQ = .bool Gc ∧ Aside0 (gaugerref22_Read.j6 kq l0 l1 AA ((rd_T53 l0 AA).f0) Gc AM AE AN AJ ((rd_T53 l0 AA).f0) ((rd_T53 l0 AA).f1) ((rd_T53 l0 AA).f2) ((rd_T53 l0 AA).f3) ((rd_T53 l0 AA).f4) ((rd_T53 l0 AA).f5.f0) ((rd_T53 l0 AA).f5.f1) ((rd_T53 l0 AA).f5.f2) ((rd_T53 l0 AA).f5.f3) ((rd_T53 l0 AA).f6) ((rd_T53 l0 AA).f7) = some (r1, r2, r3, r4)) ∧ Aside0 (kq ≤ k4) ∧ Aside0 (Kd.R k55 55 wc w.heap.size (fun _ => True) AV AE) ∧ Aside0 (Kd.R (Kd.int .i64) 3 wc w.heap.size (fun _ => True) AH AJ) ∧ Aside0 (wc.heap[AY]? = some (.cells #[.int .i64 0, (.slice none 0 0), .int .i64 0, (.slice none 0 0)] 61 (0, 0))) ∧ Aside0 (wc.heap[AC]? = some (.cells #[.int .i64 AM, AV, .int .i64 AN, AH] 61 (0, 0))) ∧ Aside0 (wc.heap[AP]? = some (.cells #[.int .i64 ((rd_T53 l0 AA).f0), .int .i64 ((rd_T53 l0 AA).f1), .int .i64 ((rd_T53 l0 AA).f2), .int .i64 ((rd_T53 l0 AA).f3), (.slice Ad ((rd_T53 l0 AA).f4).length Ae), .int .i64 ((rd_T53 l0 AA).f5.f0), .int .i64 ((rd_T53 l0 AA).f5.f1), .string ((rd_T53 l0 AA).f5.f2), .string ((rd_T53 l0 AA).f5.f3), (.slice Bd ((rd_T53 l0 AA).f6).length Be), (.slice BA ((rd_T53 l0 AA).f7).length BB)] 53 (0, 0))) ∧ Aside0 (Below w.heap.size w wc))
            case first =>
             have H := Pz.out
             clear Pz
             by_cases c73 : ((rd_T53 l0 AA).f0) = 1
             ·rw [if_pos c73] at H
              have Et : (((rd_T53 l0 AA).f0) == 1) = true := beq_iff_eq.mpr c73
              have LV : (((rd_T53 l0 AA).f0) != 1) = false := bne_eq_false_iff_eq.mpr c73
              clear c73
              (first | rw [Et] | (simp only [i64_w, i32_w]; rw [Et]) | skip)
              have H' := Aside0.mk H
              clear H
              go_wp2
              go_meet
              case rel => exact ⟨_, ((((rd_T53 l0 AA).f0) == 1)), (by first | rfl | (simp; done) | (simp [*]; done)), H', ⟨by have := HK1.out; have := DU.out; have := Ec.out; have := HK4.out; first | omega|exact Nat.le_refl _⟩, ⟨by (with_reducible repeat (first|apply Kd.R_alloc|apply Kd.R_drewN|apply Kd.R_drew)); exact Kd.R_mono (Kd.R_far (p := ⟨AP, 10, none⟩) (Kd.R_far (p := ⟨AP, 9, none⟩) (Kd.R_far (p := ⟨AP, 8, none⟩) (Kd.R_far (p := ⟨AP, 7, none⟩) (Kd.R_far (p := ⟨AP, 6, none⟩) (Kd.R_far (p := ⟨AP, 5, none⟩) (Kd.R_far (p := ⟨AP, 4, none⟩) (Kd.R_far (p := ⟨AP, 3, none⟩) (Kd.R_far (p := ⟨AP, 2, none⟩) (Kd.R_far (p := ⟨AP, 1, none⟩) (Kd.R_far (p := ⟨AP, 0, none⟩) (Kd.R_types HO_154001.out AO.out (by decide)) (fun _ hk => hk.2) (.int .i64 ((rd_T53 l0 AA).f0))) (fun _ hk => hk.2) (.int .i64 ((rd_T53 l0 AA).f1))) (fun _ hk => hk.2) (.int .i64 ((rd_T53 l0 AA).f2))) (fun _ hk => hk.2) (.int .i64 ((rd_T53 l0 AA).f3))) (fun _ hk => hk.2) (.slice Ad ((rd_T53 l0 AA).f4).length Ae)) (fun _ hk => hk.2) (.int .i64 ((rd_T53 l0 AA).f5.f0))) (fun _ hk => hk.2) (.int .i64 ((rd_T53 l0 AA).f5.f1))) (fun _ hk => hk.2) (.string ((rd_T53 l0 AA).f5.f2))) (fun _ hk => hk.2) (.string ((rd_T53 l0 AA).f5.f3))) (fun _ hk => hk.2) (.slice Bd ((rd_T53 l0 AA).f6).length Be)) (fun _ hk => hk.2) (.slice BA ((rd_T53 l0 AA).f7).length BB)) (fun _ hk => trivial)⟩, ⟨by (with_reducible repeat (first|apply Kd.R_alloc|apply Kd.R_drewN|apply Kd.R_drew)); exact Kd.R_mono (Kd.R_far (p := ⟨AP, 10, none⟩) (Kd.R_far (p := ⟨AP, 9, none⟩) (Kd.R_far (p := ⟨AP, 8, none⟩) (Kd.R_far (p := ⟨AP, 7, none⟩) (Kd.R_far (p := ⟨AP, 6, none⟩) (Kd.R_far (p := ⟨AP, 5, none⟩) (Kd.R_far (p := ⟨AP, 4, none⟩) (Kd.R_far (p := ⟨AP, 3, none⟩) (Kd.R_far (p := ⟨AP, 2, none⟩) (Kd.R_far (p := ⟨AP, 1, none⟩) (Kd.R_far (p := ⟨AP, 0, none⟩) (Kd.R_types HO_154003.out AO.out (by decide)) (fun _ hk => hk.2) (.int .i64 ((rd_T53 l0 AA).f0))) (fun _ hk => hk.2) (.int .i64 ((rd_T53 l0 AA).f1))) (fun _ hk => hk.2) (.int .i64 ((rd_T53 l0 AA).f2))) (fun _ hk => hk.2) (.int .i64 ((rd_T53 l0 AA).f3))) (fun _ hk => hk.2) (.slice Ad ((rd_T53 l0 AA).f4).length Ae)) (fun _ hk => hk.2) (.int .i64 ((rd_T53 l0 AA).f5.f0))) (fun _ hk => hk.2) (.int .i64 ((rd_T53 l0 AA).f5.f1))) (fun _ hk => hk.2) (.string ((rd_T53 l0 AA).f5.f2))) (fun _ hk => hk.2) (.string ((rd_T53 l0 AA).f5.f3))) (fun _ hk => hk.2) (.slice Bd ((rd_T53 l0 AA).f6).length Be)) (fun _ hk => hk.2) (.slice BA ((rd_T53 l0 AA).f7).length BB)) (fun _ hk => trivial)⟩, ⟨by (with_reducible repeat (first|refine dn_ ?_ _|refine dr_ ?_|refine al_ ?_ _)); refine blk_far ?_ AU.out _; (with_reducible repeat (first|refine dn_ ?_ _|refine dr_ ?_|refine al_ ?_ _)); refine blk_far ?_ AU.out _; (with_reducible repeat (first|refine dn_ ?_ _|refine dr_ ?_|refine al_ ?_ _)); refine blk_far ?_ AU.out _; (with_reducible repeat (first|refine dn_ ?_ _|refine dr_ ?_|refine al_ ?_ _)); refine blk_far ?_ AU.out _; (with_reducible repeat (first|refine dn_ ?_ _|refine dr_ ?_|refine al_ ?_ _)); refine blk_far ?_ AU.out _; (with_reducible repeat (first|refine dn_ ?_ _|refine dr_ ?_|refine al_ ?_ _)); refine blk_far ?_ AU.out _; (with_reducible repeat (first|refine dn_ ?_ _|refine dr_ ?_|refine al_ ?_ _)); refine blk_far ?_ AU.out _; (with_reducible repeat (first|refine dn_ ?_ _|refine dr_ ?_|refine al_ ?_ _)); refine blk_far ?_ AU.out _; (with_reducible repeat (first|refine dn_ ?_ _|refine dr_ ?_|refine al_ ?_ _)); refine blk_far ?_ AU.out _; (with_reducible repeat (first|refine dn_ ?_ _|refine dr_ ?_|refine al_ ?_ _)); refine blk_far ?_ AU.out _; (with_reducible repeat (first|refine dn_ ?_ _|refine dr_ ?_|refine al_ ?_ _)); refine blk_far ?_ AU.out _; (with_reducible repeat (first|refine dn_ ?_ _|refine dr_ ?_|refine al_ ?_ _)); exact AG.out⟩, ⟨by (with_reducible repeat (first|refine dn_ ?_ _|refine dr_ ?_|refine al_ ?_ _)); refine blk_far ?_ AT.out _; (with_reducible repeat (first|refine dn_ ?_ _|refine dr_ ?_|refine al_ ?_ _)); refine blk_far ?_ AT.out _; (with_reducible repeat (first|refine dn_ ?_ _|refine dr_ ?_|refine al_ ?_ _)); refine blk_far ?_ AT.out _; (with_reducible repeat (first|refine dn_ ?_ _|refine dr_ ?_|refine al_ ?_ _)); refine blk_far ?_ AT.out _; (with_reducible repeat (first|refine dn_ ?_ _|refine dr_ ?_|refine al_ ?_ _)); refine blk_far ?_ AT.out _; (with_reducible repeat (first|refine dn_ ?_ _|refine dr_ ?_|refine al_ ?_ _)); refine blk_far ?_ AT.out _; (with_reducible repeat (first|refine dn_ ?_ _|refine dr_ ?_|refine al_ ?_ _)); refine blk_far ?_ AT.out _; (with_reducible repeat (first|refine dn_ ?_ _|refine dr_ ?_|refine al_ ?_ _)); refine blk_far ?_ AT.out _; (with_reducible repeat (first|refine dn_ ?_ _|refine dr_ ?_|refine al_ ?_ _)); refine blk_far ?_ AT.out _; (with_reducible repeat (first|refine dn_ ?_ _|refine dr_ ?_|refine al_ ?_ _)); refine blk_far ?_ AT.out _; (with_reducible repeat (first|refine dn_ ?_ _|refine dr_ ?_|refine al_ ?_ _)); refine blk_far ?_ AT.out _; (with_reducible repeat (first|refine dn_ ?_ _|refine dr_ ?_|refine al_ ?_ _)); exact AB.out⟩, ⟨by (with_reducible repeat (first|refine dn_ ?_ _|refine dr_ ?_|refine al_ ?_ _)); refine blk_put (cs := #[.int .i64 ((rd_T53 l0 AA).f0), .int .i64 ((rd_T53 l0 AA).f1), .int .i64 ((rd_T53 l0 AA).f2), .int .i64 ((rd_T53 l0 AA).f3), .slice Ad ((rd_T53 l0 AA).f4).length Ae, .int .i64 ((rd_T53 l0 AA).f5.f0), .int .i64 ((rd_T53 l0 AA).f5.f1), .string ((rd_T53 l0 AA).f5.f2), .string ((rd_T53 l0 AA).f5.f3), .slice Bd ((rd_T53 l0 AA).f6).length Be, .slice none 0 0]) ?_ 10 _ rfl; (with_reducible repeat (first|refine dn_ ?_ _|refine dr_ ?_|refine al_ ?_ _)); refine blk_put (cs := #[.int .i64 ((rd_T53 l0 AA).f0), .int .i64 ((rd_T53 l0 AA).f1), .int .i64 ((rd_T53 l0 AA).f2), .int .i64 ((rd_T53 l0 AA).f3), .slice Ad ((rd_T53 l0 AA).f4).length Ae, .int .i64 ((rd_T53 l0 AA).f5.f0), .int .i64 ((rd_T53 l0 AA).f5.f1), .string ((rd_T53 l0 AA).f5.f2), .string ((rd_T53 l0 AA).f5.f3), .slice none 0 0, .slice none 0 0]) ?_ 9 _ rfl; (with_reducible repeat (first|refine dn_ ?_ _|refine dr_ ?_|refine al_ ?_ _)); refine blk_put (cs := #[.int .i64 ((rd_T53 l0 AA).f0), .int .i64 ((rd_T53 l0 AA).f1), .int .i64 ((rd_T53 l0 AA).f2), .int .i64 ((rd_T53 l0 AA).f3), .slice Ad ((rd_T53 l0 AA).f4).length Ae, .int .i64 ((rd_T53 l0 AA).f5.f0), .int .i64 ((rd_T53 l0 AA).f5.f1), .string ((rd_T53 l0 AA).f5.f2), .string (⟨#[]⟩ : ByteArray), .slice none 0 0, .slice none 0 0]) ?_ 8 _ rfl; (with_reducible repeat (first|refine dn_ ?_ _|refine dr_ ?_|refine al_ ?_ _)); refine blk_put (cs := #[.int .i64 ((rd_T53 l0 AA).f0), .int .i64 ((rd_T53 l0 AA).f1), .int .i64 ((rd_T53 l0 AA).f2), .int .i64 ((rd_T53 l0 AA).f3), .slice Ad ((rd_T53 l0 AA).f4).length Ae, .int .i64 ((rd_T53 l0 AA).f5.f0), .int .i64 ((rd_T53 l0 AA).f5.f1), .string (⟨#[]⟩ : ByteArray), .string (⟨#[]⟩ : ByteArray), .slice none 0 0, .slice none 0 0]) ?_ 7 _ rfl; (with_reducible repeat (first|refine dn_ ?_ _|refine dr_ ?_|refine al_ ?_ _)); refine blk_put (cs := #[.int .i64 ((rd_T53 l0 AA).f0), .int .i64 ((rd_T53 l0 AA).f1), .int .i64 ((rd_T53 l0 AA).f2), .int .i64 ((rd_T53 l0 AA).f3), .slice Ad ((rd_T53 l0 AA).f4).length Ae, .int .i64 ((rd_T53 l0 AA).f5.f0), .int .i64 0, .string (⟨#[]⟩ : ByteArray), .string (⟨#[]⟩ : ByteArray), .slice none 0 0, .slice none 0 0]) ?_ 6 _ rfl; (with_reducible repeat (first|refine dn_ ?_ _|refine dr_ ?_|refine al_ ?_ _)); refine blk_put (cs := #[.int .i64 ((rd_T53 l0 AA).f0), .int .i64 ((rd_T53 l0 AA).f1), .int .i64 ((rd_T53 l0 AA).f2), .int .i64 ((rd_T53 l0 AA).f3), .slice Ad ((rd_T53 l0 AA).f4).length Ae, .int .i64 0, .int .i64 0, .string (⟨#[]⟩ : ByteArray), .string (⟨#[]⟩ : ByteArray), .slice none 0 0, .slice none 0 0]) ?_ 5 _ rfl; (with_reducible repeat (first|refine dn_ ?_ _|refine dr_ ?_|refine al_ ?_ _)); refine blk_put (cs := #[.int .i64 ((rd_T53 l0 AA).f0), .int .i64 ((rd_T53 l0 AA).f1), .int .i64 ((rd_T53 l0 AA).f2), .int .i64 ((rd_T53 l0 AA).f3), .slice none 0 0, .int .i64 0, .int .i64 0, .string (⟨#[]⟩ : ByteArray), .string (⟨#[]⟩ : ByteArray), .slice none 0 0, .slice none 0 0]) ?_ 4 _ rfl; (with_reducible repeat (first|refine dn_ ?_ _|refine dr_ ?_|refine al_ ?_ _)); refine blk_put (cs := #[.int .i64 ((rd_T53 l0 AA).f0), .int .i64 ((rd_T53 l0 AA).f1), .int .i64 ((rd_T53 l0 AA).f2), .int .i64 0, .slice none 0 0, .int .i64 0, .int .i64 0, .string (⟨#[]⟩ : ByteArray), .string (⟨#[]⟩ : ByteArray), .slice none 0 0, .slice none 0 0]) ?_ 3 _ rfl; (with_reducible repeat (first|refine dn_ ?_ _|refine dr_ ?_|refine al_ ?_ _)); refine blk_put (cs := #[.int .i64 ((rd_T53 l0 AA).f0), .int .i64 ((rd_T53 l0 AA).f1), .int .i64 0, .int .i64 0, .slice none 0 0, .int .i64 0, .int .i64 0, .string (⟨#[]⟩ : ByteArray), .string (⟨#[]⟩ : ByteArray), .slice none 0 0, .slice none 0 0]) ?_ 2 _ rfl; (with_reducible repeat (first|refine dn_ ?_ _|refine dr_ ?_|refine al_ ?_ _)); refine blk_put (cs := #[.int .i64 ((rd_T53 l0 AA).f0), .int .i64 0, .int .i64 0, .int .i64 0, .slice none 0 0, .int .i64 0, .int .i64 0, .string (⟨#[]⟩ : ByteArray), .string (⟨#[]⟩ : ByteArray), .slice none 0 0, .slice none 0 0]) ?_ 1 _ rfl; (with_reducible repeat (first|refine dn_ ?_ _|refine dr_ ?_|refine al_ ?_ _)); refine blk_put (cs := #[.int .i64 0, .int .i64 0, .int .i64 0, .int .i64 0, .slice none 0 0, .int .i64 0, .int .i64 0, .string (⟨#[]⟩ : ByteArray), .string (⟨#[]⟩ : ByteArray), .slice none 0 0, .slice none 0 0]) ?_ 0 _ rfl; (with_reducible repeat (first|refine dn_ ?_ _|refine dr_ ?_|refine al_ ?_ _)); exact AO.out⟩, ⟨by repeat (first | (with_reducible first|exact HB.out|apply below_alloc|apply pw_below_drewN|apply below_drew1|refine below_set ?_ AX.out|refine below_set ?_ AZ.out|refine below_set ?_ CW.out)|exact HB.out)⟩⟩
             ·rw [if_neg c73] at H
              have Et : (((rd_T53 l0 AA).f0) == 1) = false := beq_eq_false_iff_ne.mpr c73
              have LV : (((rd_T53 l0 AA).f0) != 1) = true := bne_iff_ne.mpr c73
              (first | rw [Et] | (simp only [i64_w, i32_w]; rw [Et]) | skip)
              have H' := Aside0.mk H
              clear H
              go_wp2
              go_meet
              case rel => exact ⟨_, ((((rd_T53 l0 AA).f0) == 2)), (by first | rfl | (simp; done) | (simp [*]; done)), H', ⟨by have := HK1.out; have := DU.out; have := Ec.out; have := HK4.out; first | omega|exact Nat.le_refl _⟩, ⟨by (with_reducible repeat (first|apply Kd.R_alloc|apply Kd.R_drewN|apply Kd.R_drew)); exact Kd.R_mono (Kd.R_far (p := ⟨AP, 10, none⟩) (Kd.R_far (p := ⟨AP, 9, none⟩) (Kd.R_far (p := ⟨AP, 8, none⟩) (Kd.R_far (p := ⟨AP, 7, none⟩) (Kd.R_far (p := ⟨AP, 6, none⟩) (Kd.R_far (p := ⟨AP, 5, none⟩) (Kd.R_far (p := ⟨AP, 4, none⟩) (Kd.R_far (p := ⟨AP, 3, none⟩) (Kd.R_far (p := ⟨AP, 2, none⟩) (Kd.R_far (p := ⟨AP, 1, none⟩) (Kd.R_far (p := ⟨AP, 0, none⟩) (Kd.R_types HO_154001.out AO.out (by decide)) (fun _ hk => hk.2) (.int .i64 ((rd_T53 l0 AA).f0))) (fun _ hk => hk.2) (.int .i64 ((rd_T53 l0 AA).f1))) (fun _ hk => hk.2) (.int .i64 ((rd_T53 l0 AA).f2))) (fun _ hk => hk.2) (.int .i64 ((rd_T53 l0 AA).f3))) (fun _ hk => hk.2) (.slice Ad ((rd_T53 l0 AA).f4).length Ae)) (fun _ hk => hk.2) (.int .i64 ((rd_T53 l0 AA).f5.f0))) (fun _ hk => hk.2) (.int .i64 ((rd_T53 l0 AA).f5.f1))) (fun _ hk => hk.2) (.string ((rd_T53 l0 AA).f5.f2))) (fun _ hk => hk.2) (.string ((rd_T53 l0 AA).f5.f3))) (fun _ hk => hk.2) (.slice Bd ((rd_T53 l0 AA).f6).length Be)) (fun _ hk => hk.2) (.slice BA ((rd_T53 l0 AA).f7).length BB)) (fun _ hk => trivial)⟩, ⟨by (with_reducible repeat (first|apply Kd.R_alloc|apply Kd.R_drewN|apply Kd.R_drew)); exact Kd.R_mono (Kd.R_far (p := ⟨AP, 10, none⟩) (Kd.R_far (p := ⟨AP, 9, none⟩) (Kd.R_far (p := ⟨AP, 8, none⟩) (Kd.R_far (p := ⟨AP, 7, none⟩) (Kd.R_far (p := ⟨AP, 6, none⟩) (Kd.R_far (p := ⟨AP, 5, none⟩) (Kd.R_far (p := ⟨AP, 4, none⟩) (Kd.R_far (p := ⟨AP, 3, none⟩) (Kd.R_far (p := ⟨AP, 2, none⟩) (Kd.R_far (p := ⟨AP, 1, none⟩) (Kd.R_far (p := ⟨AP, 0, none⟩) (Kd.R_types HO_154003.out AO.out (by decide)) (fun _ hk => hk.2) (.int .i64 ((rd_T53 l0 AA).f0))) (fun _ hk => hk.2) (.int .i64 ((rd_T53 l0 AA).f1))) (fun _ hk => hk.2) (.int .i64 ((rd_T53 l0 AA).f2))) (fun _ hk => hk.2) (.int .i64 ((rd_T53 l0 AA).f3))) (fun _ hk => hk.2) (.slice Ad ((rd_T53 l0 AA).f4).length Ae)) (fun _ hk => hk.2) (.int .i64 ((rd_T53 l0 AA).f5.f0))) (fun _ hk => hk.2) (.int .i64 ((rd_T53 l0 AA).f5.f1))) (fun _ hk => hk.2) (.string ((rd_T53 l0 AA).f5.f2))) (fun _ hk => hk.2) (.string ((rd_T53 l0 AA).f5.f3))) (fun _ hk => hk.2) (.slice Bd ((rd_T53 l0 AA).f6).length Be)) (fun _ hk => hk.2) (.slice BA ((rd_T53 l0 AA).f7).length BB)) (fun _ hk => trivial)⟩, ⟨by (with_reducible repeat (first|refine dn_ ?_ _|refine dr_ ?_|refine al_ ?_ _)); refine blk_far ?_ AU.out _; (with_reducible repeat (first|refine dn_ ?_ _|refine dr_ ?_|refine al_ ?_ _)); refine blk_far ?_ AU.out _; (with_reducible repeat (first|refine dn_ ?_ _|refine dr_ ?_|refine al_ ?_ _)); refine blk_far ?_ AU.out _; (with_reducible repeat (first|refine dn_ ?_ _|refine dr_ ?_|refine al_ ?_ _)); refine blk_far ?_ AU.out _; (with_reducible repeat (first|refine dn_ ?_ _|refine dr_ ?_|refine al_ ?_ _)); refine blk_far ?_ AU.out _; (with_reducible repeat (first|refine dn_ ?_ _|refine dr_ ?_|refine al_ ?_ _)); refine blk_far ?_ AU.out _; (with_reducible repeat (first|refine dn_ ?_ _|refine dr_ ?_|refine al_ ?_ _)); refine blk_far ?_ AU.out _; (with_reducible repeat (first|refine dn_ ?_ _|refine dr_ ?_|refine al_ ?_ _)); refine blk_far ?_ AU.out _; (with_reducible repeat (first|refine dn_ ?_ _|refine dr_ ?_|refine al_ ?_ _)); refine blk_far ?_ AU.out _; (with_reducible repeat (first|refine dn_ ?_ _|refine dr_ ?_|refine al_ ?_ _)); refine blk_far ?_ AU.out _; (with_reducible repeat (first|refine dn_ ?_ _|refine dr_ ?_|refine al_ ?_ _)); refine blk_far ?_ AU.out _; (with_reducible repeat (first|refine dn_ ?_ _|refine dr_ ?_|refine al_ ?_ _)); exact AG.out⟩, ⟨by (with_reducible repeat (first|refine dn_ ?_ _|refine dr_ ?_|refine al_ ?_ _)); refine blk_far ?_ AT.out _; (with_reducible repeat (first|refine dn_ ?_ _|refine dr_ ?_|refine al_ ?_ _)); refine blk_far ?_ AT.out _; (with_reducible repeat (first|refine dn_ ?_ _|refine dr_ ?_|refine al_ ?_ _)); refine blk_far ?_ AT.out _; (with_reducible repeat (first|refine dn_ ?_ _|refine dr_ ?_|refine al_ ?_ _)); refine blk_far ?_ AT.out _; (with_reducible repeat (first|refine dn_ ?_ _|refine dr_ ?_|refine al_ ?_ _)); refine blk_far ?_ AT.out _; (with_reducible repeat (first|refine dn_ ?_ _|refine dr_ ?_|refine al_ ?_ _)); refine blk_far ?_ AT.out _; (with_reducible repeat (first|refine dn_ ?_ _|refine dr_ ?_|refine al_ ?_ _)); refine blk_far ?_ AT.out _; (with_reducible repeat (first|refine dn_ ?_ _|refine dr_ ?_|refine al_ ?_ _)); refine blk_far ?_ AT.out _; (with_reducible repeat (first|refine dn_ ?_ _|refine dr_ ?_|refine al_ ?_ _)); refine blk_far ?_ AT.out _; (with_reducible repeat (first|refine dn_ ?_ _|refine dr_ ?_|refine al_ ?_ _)); refine blk_far ?_ AT.out _; (with_reducible repeat (first|refine dn_ ?_ _|refine dr_ ?_|refine al_ ?_ _)); refine blk_far ?_ AT.out _; (with_reducible repeat (first|refine dn_ ?_ _|refine dr_ ?_|refine al_ ?_ _)); exact AB.out⟩, ⟨by (with_reducible repeat (first|refine dn_ ?_ _|refine dr_ ?_|refine al_ ?_ _)); refine blk_put (cs := #[.int .i64 ((rd_T53 l0 AA).f0), .int .i64 ((rd_T53 l0 AA).f1), .int .i64 ((rd_T53 l0 AA).f2), .int .i64 ((rd_T53 l0 AA).f3), .slice Ad ((rd_T53 l0 AA).f4).length Ae, .int .i64 ((rd_T53 l0 AA).f5.f0), .int .i64 ((rd_T53 l0 AA).f5.f1), .string ((rd_T53 l0 AA).f5.f2), .string ((rd_T53 l0 AA).f5.f3), .slice Bd ((rd_T53 l0 AA).f6).length Be, .slice none 0 0]) ?_ 10 _ rfl; (with_reducible repeat (first|refine dn_ ?_ _|refine dr_ ?_|refine al_ ?_ _)); refine blk_put (cs := #[.int .i64 ((rd_T53 l0 AA).f0), .int .i64 ((rd_T53 l0 AA).f1), .int .i64 ((rd_T53 l0 AA).f2), .int .i64 ((rd_T53 l0 AA).f3), .slice Ad ((rd_T53 l0 AA).f4).length Ae, .int .i64 ((rd_T53 l0 AA).f5.f0), .int .i64 ((rd_T53 l0 AA).f5.f1), .string ((rd_T53 l0 AA).f5.f2), .string ((rd_T53 l0 AA).f5.f3), .slice none 0 0, .slice none 0 0]) ?_ 9 _ rfl; (with_reducible repeat (first|refine dn_ ?_ _|refine dr_ ?_|refine al_ ?_ _)); refine blk_put (cs := #[.int .i64 ((rd_T53 l0 AA).f0), .int .i64 ((rd_T53 l0 AA).f1), .int .i64 ((rd_T53 l0 AA).f2), .int .i64 ((rd_T53 l0 AA).f3), .slice Ad ((rd_T53 l0 AA).f4).length Ae, .int .i64 ((rd_T53 l0 AA).f5.f0), .int .i64 ((rd_T53 l0 AA).f5.f1), .string ((rd_T53 l0 AA).f5.f2), .string (⟨#[]⟩ : ByteArray), .slice none 0 0, .slice none 0 0]) ?_ 8 _ rfl; (with_reducible repeat (first|refine dn_ ?_ _|refine dr_ ?_|refine al_ ?_ _)); refine blk_put (cs := #[.int .i64 ((rd_T53 l0 AA).f0), .int .i64 ((rd_T53 l0 AA).f1), .int .i64 ((rd_T53 l0 AA).f2), .int .i64 ((rd_T53 l0 AA).f3), .slice Ad ((rd_T53 l0 AA).f4).length Ae, .int .i64 ((rd_T53 l0 AA).f5.f0), .int .i64 ((rd_T53 l0 AA).f5.f1), .string (⟨#[]⟩ : ByteArray), .string (⟨#[]⟩ : ByteArray), .slice none 0 0, .slice none 0 0]) ?_ 7 _ rfl; (with_reducible repeat (first|refine dn_ ?_ _|refine dr_ ?_|refine al_ ?_ _)); refine blk_put (cs := #[.int .i64 ((rd_T53 l0 AA).f0), .int .i64 ((rd_T53 l0 AA).f1), .int .i64 ((rd_T53 l0 AA).f2), .int .i64 ((rd_T53 l0 AA).f3), .slice Ad ((rd_T53 l0 AA).f4).length Ae, .int .i64 ((rd_T53 l0 AA).f5.f0), .int .i64 0, .string (⟨#[]⟩ : ByteArray), .string (⟨#[]⟩ : ByteArray), .slice none 0 0, .slice none 0 0]) ?_ 6 _ rfl; (with_reducible repeat (first|refine dn_ ?_ _|refine dr_ ?_|refine al_ ?_ _)); refine blk_put (cs := #[.int .i64 ((rd_T53 l0 AA).f0), .int .i64 ((rd_T53 l0 AA).f1), .int .i64 ((rd_T53 l0 AA).f2), .int .i64 ((rd_T53 l0 AA).f3), .slice Ad ((rd_T53 l0 AA).f4).length Ae, .int .i64 0, .int .i64 0, .string (⟨#[]⟩ : ByteArray), .string (⟨#[]⟩ : ByteArray), .slice none 0 0, .slice none 0 0]) ?_ 5 _ rfl; (with_reducible repeat (first|refine dn_ ?_ _|refine dr_ ?_|refine al_ ?_ _)); refine blk_put (cs := #[.int .i64 ((rd_T53 l0 AA).f0), .int .i64 ((rd_T53 l0 AA).f1), .int .i64 ((rd_T53 l0 AA).f2), .int .i64 ((rd_T53 l0 AA).f3), .slice none 0 0, .int .i64 0, .int .i64 0, .string (⟨#[]⟩ : ByteArray), .string (⟨#[]⟩ : ByteArray), .slice none 0 0, .slice none 0 0]) ?_ 4 _ rfl; (with_reducible repeat (first|refine dn_ ?_ _|refine dr_ ?_|refine al_ ?_ _)); refine blk_put (cs := #[.int .i64 ((rd_T53 l0 AA).f0), .int .i64 ((rd_T53 l0 AA).f1), .int .i64 ((rd_T53 l0 AA).f2), .int .i64 0, .slice none 0 0, .int .i64 0, .int .i64 0, .string (⟨#[]⟩ : ByteArray), .string (⟨#[]⟩ : ByteArray), .slice none 0 0, .slice none 0 0]) ?_ 3 _ rfl; (with_reducible repeat (first|refine dn_ ?_ _|refine dr_ ?_|refine al_ ?_ _)); refine blk_put (cs := #[.int .i64 ((rd_T53 l0 AA).f0), .int .i64 ((rd_T53 l0 AA).f1), .int .i64 0, .int .i64 0, .slice none 0 0, .int .i64 0, .int .i64 0, .string (⟨#[]⟩ : ByteArray), .string (⟨#[]⟩ : ByteArray), .slice none 0 0, .slice none 0 0]) ?_ 2 _ rfl; (with_reducible repeat (first|refine dn_ ?_ _|refine dr_ ?_|refine al_ ?_ _)); refine blk_put (cs := #[.int .i64 ((rd_T53 l0 AA).f0), .int .i64 0, .int .i64 0, .int .i64 0, .slice none 0 0, .int .i64 0, .int .i64 0, .string (⟨#[]⟩ : ByteArray), .string (⟨#[]⟩ : ByteArray), .slice none 0 0, .slice none 0 0]) ?_ 1 _ rfl; (with_reducible repeat (first|refine dn_ ?_ _|refine dr_ ?_|refine al_ ?_ _)); refine blk_put (cs := #[.int .i64 0, .int .i64 0, .int .i64 0, .int .i64 0, .slice none 0 0, .int .i64 0, .int .i64 0, .string (⟨#[]⟩ : ByteArray), .string (⟨#[]⟩ : ByteArray), .slice none 0 0, .slice none 0 0]) ?_ 0 _ rfl; (with_reducible repeat (first|refine dn_ ?_ _|refine dr_ ?_|refine al_ ?_ _)); exact AO.out⟩, ⟨by repeat (first | (with_reducible first|exact HB.out|apply below_alloc|apply pw_below_drewN|apply below_drew1|refine below_set ?_ AX.out|refine below_set ?_ AZ.out|refine below_set ?_ CW.out)|exact HB.out)⟩⟩
            case rest =>
             clear Pz
             try clear c1
             try clear p1
             try clear q1
             try clear hx1
             try clear p2
             try clear c4
             try clear c5
             try clear c6
             try clear p6
             try clear c7
             try clear p15
             try clear q15
             try clear p16
             try clear q16
             try clear JM
             try clear c17
             try clear p17
             try clear q17
             try clear Ly
             try clear c18
             try clear p18
             try clear q18
             try clear Qq
             try clear c40
             try clear Dd
             try clear c41
             try clear c42
             try clear c45
             try clear c46
             try clear c52
             try clear IW
             try clear c53
             try clear IX
             try clear c54
             try clear Gv
             try clear c55
             try clear IY
             try clear p64
             try clear c66
             try clear LQ
             try clear c67
             try clear MG
             try clear c70
             try clear c71
             try clear c73
             try clear Et
             try clear LV
             try clear Ht
             try clear Hu
             try clear Gq
             try clear Hv
             try clear Hw
             try clear Hx
             try clear Hy
             try clear Hz
             try clear IA
             try clear IB
             try clear IC
             try clear ID
             try clear IE
             try clear Gr
             try clear IF
             try clear IG
             try clear IH
             try clear II
             try clear IJ
             try clear IK
             try clear IL
             try clear IM
             try clear BX
             try clear BY
             try clear BZ
             try clear Ba
             try clear Bb
             try clear Bc
             try clear Cr
             try clear Bn
             try clear Bo
             try clear Ay
             try clear Bp
             try clear Bq
             try clear Br
             try clear Bs
             try clear Bt
             try clear Bu
             try clear Bv
             try clear Bw
             try clear CA
             try clear CB
             try clear BC
             try clear CC
             try clear CD
             try clear CE
             try clear CF
             try clear CG
             try clear CH
             try clear CI
             try clear CJ
             try clear CK
             try clear CL
             try clear CM
             try clear CN
             try clear BD
             try clear CO
             try clear CP
             try clear CQ
             try clear CR
             try clear CS
             try clear CT
             try clear CU
             try clear CV
             try clear Cs
             try clear Ct
             try clear Bx
             try clear Cu
             try clear Cv
             try clear Cw
             try clear Cx
             try clear Cy
             try clear Cz
             try clear DA
             try clear DB
             try clear DC
             try clear DD
             try clear DE
             try clear DF
             try clear By
             try clear DG
             try clear DH
             try clear DI
             try clear DJ
             try clear DK
             try clear DL
             try clear DM
             try clear DN
             try clear DO
             try clear DP
             try clear Ed
             try clear Ee
             try clear Dr
             try clear Ef
             try clear Eg
             try clear Eh
             try clear Ei
             try clear Ej
             try clear El
             try clear Em
             try clear En
             try clear p1
             try clear p15
             try clear DQ
             try clear p16
             try clear Dw
             try clear Dy
             try clear Gl
             try clear Gn
             try clear Gt
             try clear Eq
             try clear p17
             try clear Hp
             try clear Hr
             try clear Eu
             try clear IZ
             try clear Ie
             try clear Ig
             try clear Il
             try clear LY
             try clear p2
             try clear p6
             try clear p64
             try clear q1
             try clear q15
             try clear DR
             try clear q16
             try clear Dx
             try clear Dz
             try clear Gm
             try clear Gp
             try clear Gu
             try clear Er
             try clear q17
             try clear Hq
             try clear Hs
             try clear Ew
             try clear Ia
             try clear If
             try clear Ih
             try clear Im
             try clear LZ
             obtain ⟨kq, Gc, rfl, HA, Ex, HO_154001, HO_154003, AG, AB, AO, HB⟩ := hcut
             cases kq with
             | zero => exact absurd HA.out (by simp [gaugerref22_Read.j6])
             | succ Ip =>
              have H := HA.out
              clear HA
              simp only [gaugerref22_Read.j6] at H
              by_cases c74 : Gc = true
              ·subst c74
               have H1 : (if 0 ≤ AA then (if AA < (l1.length : Int) then ((gaugerref22_set.f Ip AE ((rd_T53 l0 AA).f1) (rd l1 AA)).bind fun t183 => (gaugerref22_Read.l3 Ip l0 l1 (wrap64 (AA + 1)) AM t183 AN AJ)) else (none)) else (none)) = some (r1, r2, r3, r4) := by rw [if_pos rfl] at H; exact H
               clear H
               have H := H1
               clear H1
               by_cases c75 : 0 ≤ AA
               ·rw [if_pos c75] at H
                have Nt : decide (0 ≤ AA) = true := decide_eq_true c75
                clear c75
                by_cases c76 : AA < (l1.length : Int)
                ·rw [if_pos c76] at H
                 have Nu : decide (AA < (l1.length : Int)) = true := decide_eq_true c76
                 clear c76
                 replace H := Option.bind_eq_some_iff.mp H
                 obtain ⟨t183, Qr, H⟩ := H
                 replace H : (gaugerref22_Read.l3 Ip l0 l1 (wrap64 (AA + 1)) AM t183 AN AJ) = some (r1, r2, r3, r4) := H
                 have A77 := Aside0.mk Qr
                 clear Qr
                 have H' := Aside0.mk H
                 clear H
                 try go_wp2
                 have n0_ := Aside0.mk (Kd.R_drew HO_154001.out)
                 have n1_ := Aside0.mk (Kd.R_drew HO_154003.out)
                 have n2_ := Aside0.mk (dr_ AG.out)
                 have n3_ := Aside0.mk (dr_ AB.out)
                 have n4_ := Aside0.mk (dr_ AO.out)
                 have n5_ := Aside0.mk (below_drew1 HB.out)
                 clear HO_154001
                 clear HO_154003
                 clear AG
                 clear AB
                 clear AO
                 clear HB
                 have HO_154001 := n0_
                 have HO_154003 := n1_
                 have AG := n2_
                 have AB := n3_
                 have AO := n4_
                 have HB := n5_
                 clear n0_ n1_ n2_ n3_ n4_ n5_
                 have MH : 0 ≤ (AA : Int) := of_decide_eq_true (by first | (with_reducible assumption) | assumption)
                 have MI : AA < (l1.length : Int) := of_decide_eq_true (by first | (with_reducible assumption) | assumption)
                 obtain ⟨Qs, UR, Dt⟩ := Kd.at_int HR1.out AA MH MI
                 have LW := Dt
                 cases UR
                 replace Dt := bce_ HB Dt
                 replace MH := eq_true MH
                 replace MI := eq_true MI
                 obtain ⟨MJ, MK, Qt⟩ := Kd.R_slice HO_154001.out
                 (first | subst Qt | (injection Qt with f1_ f2_ f3_; have f4_ := f1_.symm; have f5_ := f3_.symm; clear f1_ f2_ f3_; subst f4_; subst f5_))
                 refine start_ (n := 12) (S := fun w' => w'.cell? ⟨AC, 0, none⟩ = some (.int .i64 AM) ∧ w'.cell? ⟨AC, 1, none⟩ = some (.slice MJ AE.length MK) ∧ w'.cell? ⟨AC, 2, none⟩ = some (.int .i64 AN) ∧ w'.cell? ⟨AC, 3, none⟩ = some (AH) ∧ w'.cell? ⟨AP, 0, none⟩ = some (.int .i64 ((rd_T53 l0 AA).f0)) ∧ w'.cell? ⟨AP, 1, none⟩ = some (.int .i64 ((rd_T53 l0 AA).f1)) ∧ w'.cell? ⟨AP, 2, none⟩ = some (.int .i64 ((rd_T53 l0 AA).f2)) ∧ w'.cell? ⟨AP, 3, none⟩ = some (.int .i64 ((rd_T53 l0 AA).f3)) ∧ w'.cell? ⟨AP, 4, none⟩ = some (.slice Ad ((rd_T53 l0 AA).f4).length Ae) ∧ w'.cell? ⟨AP, 5, none⟩ = some (.int .i64 ((rd_T53 l0 AA).f5.f0)) ∧ w'.cell? ⟨AP, 6, none⟩ = some (.int .i64 ((rd_T53 l0 AA).f5.f1)) ∧ w'.cell? ⟨AP, 7, none⟩ = some (.string ((rd_T53 l0 AA).f5.f2)) ∧ w'.cell? ⟨AP, 8, none⟩ = some (.string ((rd_T53 l0 AA).f5.f3)) ∧ w'.cell? ⟨AP, 9, none⟩ = some (.slice Bd ((rd_T53 l0 AA).f6).length Be) ∧ w'.cell? ⟨AP, 10, none⟩ = some (.slice BA ((rd_T53 l0 AA).f7).length BB) ∧ w'.cell? (Qs.add (AA).toNat) = some (.int .i64 (rd l1 AA))) (ds := [11]) #[false, false, false, false, false, false, false, false, false, false, false, false] (by kernel_rfl) rfl rfl ⟨(blk_cell AB.out 0).trans rfl, (blk_cell AB.out 1).trans rfl, (blk_cell AB.out 2).trans rfl, (blk_cell AB.out 3).trans rfl, (blk_cell AO.out 0).trans rfl, (blk_cell AO.out 1).trans rfl, (blk_cell AO.out 2).trans rfl, (blk_cell AO.out 3).trans rfl, (blk_cell AO.out 4).trans rfl, (blk_cell AO.out 5).trans rfl, (blk_cell AO.out 6).trans rfl, (blk_cell AO.out 7).trans rfl, (blk_cell AO.out 8).trans rfl, (blk_cell AO.out 9).trans rfl, (blk_cell AO.out 10).trans rfl, (bce_ HB LW)⟩ (fun hHeld => ?_); refine with_tabW gaugerref22_Read.tab31 gaugerref22_Read.bits31 (fun HT_ HW_ => ?_)
                 generalize wc.drew = w78 at HO_154001 HO_154003 AG AB AO HB Dt hHeld ⊢
                 refine pure_ (i := 0) (N := some 144) (v := ?_) (a' := ?_) #[true, false, false, false, false, false, false, false, false, false, false, false] rfl rfl (any_of HT_.out (by kernel_rfl)) (fun _ _ _ h => h) (Or.inl ⟨by rfl, ?_⟩) ?_ ?_
                 rotate_left;·(intro w';go_simp;with_reducible rfl)
                 rotate_left;·(simp only[Act.put,si_,s0_,s1_,i64_w,i32_w];rfl)
                 refine pure_ (i := 2) (N := some 146) (v := ?_) (a' := ?_) #[true, false, true, false, false, false, false, false, false, false, false, false] rfl rfl (any_of HT_.out (by kernel_rfl)) (fun _ _ _ h => h) (Or.inl ⟨by rfl, ?_⟩) ?_ ?_
                 rotate_left;·(intro w';go_simp;with_reducible rfl)
                 rotate_left;·(simp only[Act.put,si_,s0_,s1_,i64_w,i32_w];rfl)
                 refine pure_ (i := 4) (N := some 148) (v := ?_) (a' := ?_) #[true, false, true, false, true, false, false, false, false, false, false, false] rfl rfl (any_of HT_.out (by kernel_rfl)) (fun _ _ _ h => h) (Or.inl ⟨by rfl, ?_⟩) ?_ ?_
                 rotate_left;·(intro w';go_simp;with_reducible rfl)
                 rotate_left;·(simp only[Act.put,si_,s0_,s1_,i64_w,i32_w];rfl)
                 refine pure_ (i := 5) (N := some 149) (v := ?_) (a' := ?_) #[true, false, true, false, true, true, false, false, false, false, false, false] rfl rfl (any_of HT_.out (by kernel_rfl)) (fun _ _ _ h => h) (Or.inl ⟨by rfl, ?_⟩) ?_ ?_
                 rotate_left;·(intro w';go_simp;with_reducible rfl)
                 rotate_left;·(simp only[Act.put,si_,s0_,s1_,i64_w,i32_w];rfl)
                 refine pure_ (i := 6) (N := some 150) (v := ?_) (a' := ?_) #[true, false, true, false, true, true, true, false, false, false, false, false] rfl rfl (any_of HT_.out (by kernel_rfl)) (fun _ _ _ h => h) (Or.inl ⟨by rfl, ?_⟩) ?_ ?_
                 rotate_left;·(intro w';go_simp;with_reducible rfl)
                 rotate_left;·(simp only[Act.put,si_,s0_,s1_,i64_w,i32_w];rfl)
                 refine take_ (i := 1) (N := some 145) (v := ?_) (a' := ?_) #[true, true, true, false, true, true, true, false, false, false, false, false] rfl rfl (take_ofW HT_.out HW_.out (by kernel_rfl)) (fun _ _ _ h => h) (Or.inl ⟨by rfl, ?_⟩) hHeld ?_ ?_
                 rotate_left
                 ·rintro w' ⟨s0, s1, s2, s3, s4, s5, s6, s7, s8, s9, s10, s11, s12, s13, s14, s15⟩
                  go_simp
                  with_reducible rfl
                 rotate_left
                 ·simp only [Act.put, si_, s0_, s1_, i64_w, i32_w]
                  rfl
                 refine take_ (i := 3) (N := some 147) (v := ?_) (a' := ?_) #[true, true, true, true, true, true, true, false, false, false, false, false] rfl rfl (take_ofW HT_.out HW_.out (by kernel_rfl)) (fun _ _ _ h => h) (Or.inl ⟨by rfl, ?_⟩) hHeld ?_ ?_
                 rotate_left
                 ·rintro w' ⟨s0, s1, s2, s3, s4, s5, s6, s7, s8, s9, s10, s11, s12, s13, s14, s15⟩
                  go_simp
                  with_reducible rfl
                 rotate_left
                 ·simp only [Act.put, si_, s0_, s1_, i64_w, i32_w]
                  rfl
                 refine take_ (i := 7) (N := some 151) (v := ?_) (a' := ?_) #[true, true, true, true, true, true, true, true, false, false, false, false] rfl rfl (take_ofW HT_.out HW_.out (by kernel_rfl)) (fun _ _ _ h => h) (Or.inl ⟨by rfl, ?_⟩) hHeld ?_ ?_
                 rotate_left
                 ·rintro w' ⟨s0, s1, s2, s3, s4, s5, s6, s7, s8, s9, s10, s11, s12, s13, s14, s15⟩
                  go_simp
                  with_reducible rfl
                 rotate_left
                 ·simp only [Act.put, si_, s0_, s1_, i64_w, i32_w]
                  rfl
                 refine pure_ (i := 8) (N := some 152) (v := ?_) (a' := ?_) #[true, true, true, true, true, true, true, true, true, false, false, false] rfl rfl (any_of HT_.out (by kernel_rfl)) (fun _ _ _ h => h) (Or.inl ⟨by rfl, ?_⟩) ?_ ?_
                 rotate_left;·(intro w';go_simp;with_reducible rfl)
                 rotate_left;·(simp only[Act.put,si_,s0_,s1_,i64_w,i32_w];rfl)
                 refine one_ (i := 9) (N := some 153) #[true, true, true, true, true, true, true, true, true, true, false, false] rfl rfl (one_of HT_.out (by kernel_rfl)) (by decide) (fun K hK => ?_)
                 refine goes_ Try.func69 (by kernel_rfl) rfl #[.slice MJ AE.length MK, .agg #[.int .i64 ((rd_T53 l0 AA).f1), .int .i64 (rd l1 AA)]] (by rfl) rfl rfl (by (try simp only [List.map_toArray, List.map_cons, List.map_nil]); first | done | rfl | (simp only [List.length_drop, List.length_take]; rfl)) ?_
                 with_reducible refine (gaugerref22_set.calls Ip _ _ AE ((rd_T53 l0 AA).f1) (rd l1 AA) t183 _ ?side1 ?side2 A77.out).mono ?_
                 (case side1 => repeat (first|exact (Kd.R_reads' HO_154001.out).2.2 | (with_reducible refine Kd.C_alloc ?_ _) | (with_reducible refine Kd.C_drewN ?_ _) | (with_reducible refine Kd.C_drew ?_)))
                 (case side2 => exact (Kd.R_reads' HO_154001.out).2.1)
                 rintro e w80 ⟨Vd, rfl, ho0, hb⟩
                 refine ⟨_, rfl, ?_⟩
                 have n0_ := Aside0.mk (Kd.R_elder' (by (with_reducible repeat (first|apply Kd.R_alloc|apply Kd.R_drewN|apply Kd.R_drew)); exact HO_154001.out) (Kd.R_base ho0) hb)
                 have n1_ := Aside0.mk (Kd.R_below (by (with_reducible repeat (first|apply Kd.R_alloc|apply Kd.R_drewN|apply Kd.R_drew)); exact HO_154003.out) hb)
                 have n2_ := Aside0.mk (Kd.R_lower (Kd.R_new' ho0 (Kd.R_lt (by (with_reducible repeat (first|apply Kd.R_alloc|apply Kd.R_drewN|apply Kd.R_drew)); exact HO_154001.out))) (below_size (by repeat (first | (with_reducible first|exact HB.out|apply below_alloc|apply pw_below_drewN|apply below_drew1|refine below_set ?_ AX.out|refine below_set ?_ AZ.out|refine below_set ?_ CW.out)|exact HB.out))))
                 have n3_ := Aside0.mk (blk_below (g := AY) (o := .cells #[.int .i64 0, .slice none 0 0, .int .i64 0, .slice none 0 0] 61 (0, 0)) (by (with_reducible repeat (first|refine dn_ ?_ _|refine dr_ ?_|refine al_ ?_ _)); exact AG.out) hb)
                 have n4_ := Aside0.mk (blk_below (g := AC) (o := .cells #[.int .i64 AM, .slice MJ AE.length MK, .int .i64 AN, AH] 61 (0, 0)) (by (with_reducible repeat (first|refine dn_ ?_ _|refine dr_ ?_|refine al_ ?_ _)); exact AB.out) hb)
                 have n5_ := Aside0.mk (blk_below (g := AP) (o := .cells #[.int .i64 ((rd_T53 l0 AA).f0), .int .i64 ((rd_T53 l0 AA).f1), .int .i64 ((rd_T53 l0 AA).f2), .int .i64 ((rd_T53 l0 AA).f3), .slice Ad ((rd_T53 l0 AA).f4).length Ae, .int .i64 ((rd_T53 l0 AA).f5.f0), .int .i64 ((rd_T53 l0 AA).f5.f1), .string ((rd_T53 l0 AA).f5.f2), .string ((rd_T53 l0 AA).f5.f3), .slice Bd ((rd_T53 l0 AA).f6).length Be, .slice BA ((rd_T53 l0 AA).f7).length BB] 53 (0, 0)) (by (with_reducible repeat (first|refine dn_ ?_ _|refine dr_ ?_|refine al_ ?_ _)); exact AO.out) hb)
                 have n6_ := Aside0.mk (below_step (by repeat (first | (with_reducible first|exact HB.out|apply below_alloc|apply pw_below_drewN|apply below_drew1|refine below_set ?_ AX.out|refine below_set ?_ AZ.out|refine below_set ?_ CW.out)|exact HB.out)) hb)
                 clear HO_154001
                 clear HO_154003
                 clear AG
                 clear AB
                 clear AO
                 clear HB
                 have HO_154001 := n0_
                 have HO_154003 := n1_
                 have Nv := n2_
                 have AG := n3_
                 have AB := n4_
                 have AO := n5_
                 have HB := n6_
                 clear n0_ n1_ n2_ n3_ n4_ n5_ n6_
                 (try clear hb)
                 (try clear hb2)
                 (try clear hk)
                 (try clear hi)
                 (try clear ho0)
                 obtain ⟨QA, QB, Qu⟩ := Kd.R_slice Nv.out
                 (first | subst Qu | (injection Qu with f1_ f2_ f3_; have f4_ := f1_.symm; have f5_ := f3_.symm; clear f1_ f2_ f3_; subst f4_; subst f5_))
                 refine hK.out _ _ ⟨(blk_cell AB.out 0).trans rfl, (blk_cell AB.out 1).trans rfl, (blk_cell AB.out 2).trans rfl, (blk_cell AB.out 3).trans rfl, (blk_cell AO.out 0).trans rfl, (blk_cell AO.out 1).trans rfl, (blk_cell AO.out 2).trans rfl, (blk_cell AO.out 3).trans rfl, (blk_cell AO.out 4).trans rfl, (blk_cell AO.out 5).trans rfl, (blk_cell AO.out 6).trans rfl, (blk_cell AO.out 7).trans rfl, (blk_cell AO.out 8).trans rfl, (blk_cell AO.out 9).trans rfl, (blk_cell AO.out 10).trans rfl, (bce_ HB LW)⟩ (fun hHeld => ?_)
                 clear hK K
                 refine norm_ (a' := ?_) ?_ ?_
                 rotate_left
                 ·show Act.put _ (some 153) _ = _
                  simp only [Act.put, si_, s0_, s1_, i64_w, i32_w]
                  rfl
                 refine pure_ (i := 10) (N := some 154) (v := ?_) (a' := ?_) #[true, true, true, true, true, true, true, true, true, true, true, false] rfl rfl (any_of HT_.out (by kernel_rfl)) (fun _ _ _ h => h) (Or.inl ⟨by rfl, ?_⟩) ?_ ?_
                 rotate_left;·(intro w';go_simp;with_reducible rfl)
                 rotate_left;·(simp only[Act.put,si_,s0_,s1_,i64_w,i32_w];rfl)
                 refine last_ (i := 11) (N := none) #[true, true, true, true, true, true, true, true, true, true, true, true] rfl rfl (one_of HT_.out (by kernel_rfl)) (by decide) (fun K hK => ?_)
                 have Ve : w80.cell? ⟨AC, 1, none⟩ = some (.slice MJ AE.length MK) := (blk_cell AB.out 1).trans rfl
                 have VA := blk_frozen AB.out 1
                 have Ta := AQ.out
                 have Tb := DV.out
                 have Tc := Ab.out
                 have Td := AT.out
                 refine skip_ (w1 := ?_) (by rfl) rfl ?_ ?_
                 rotate_left
                 ·go_simp
                  rfl
                 refine hK.out _ _ ?_
                 clear hK K
                 refine done_ (done_of HT_.out (by kernel_rfl)) ?_
                 try go_wp2
                 go_roundg Ip
                 case measure => have := HK1.out; have := DU.out; have := Ec.out; have := HK4.out; have := Ex.out; omega
                 case rel => exact ⟨(wrap64 (AA + 1)), (t183), (.slice QA t183.length QB), (by first | rfl | (simp; done) | (simp [*]; done)), H', ⟨by have := HK1.out; have := DU.out; have := Ec.out; have := HK4.out; have := Ex.out; omega⟩, ⟨by (with_reducible repeat (first|apply Kd.R_alloc|apply Kd.R_drewN|apply Kd.R_drew)); exact Kd.R_mono (Kd.R_far (p := ⟨AC, 1, none⟩) (Kd.R_types Nv.out AB.out (by decide)) (fun _ hk => hk.2) (.slice QA t183.length QB)) (fun _ hk => trivial)⟩, ⟨by (with_reducible repeat (first|apply Kd.R_alloc|apply Kd.R_drewN|apply Kd.R_drew)); exact Kd.R_mono (Kd.R_far (p := ⟨AC, 1, none⟩) (Kd.R_types HO_154003.out AB.out (by decide)) (fun _ hk => hk.2) (.slice QA t183.length QB)) (fun _ hk => trivial)⟩, ⟨by (with_reducible repeat (first|refine dn_ ?_ _|refine dr_ ?_|refine al_ ?_ _)); refine blk_far ?_ AQ.out _; (with_reducible repeat (first|refine dn_ ?_ _|refine dr_ ?_|refine al_ ?_ _)); exact AG.out⟩, ⟨by (with_reducible repeat (first|refine dn_ ?_ _|refine dr_ ?_|refine al_ ?_ _)); refine blk_put (cs := #[.int .i64 AM, .slice MJ AE.length MK, .int .i64 AN, AH]) ?_ 1 _ rfl; (with_reducible repeat (first|refine dn_ ?_ _|refine dr_ ?_|refine al_ ?_ _)); exact AB.out⟩, ⟨by repeat (first | (with_reducible first|exact HB.out|apply below_alloc|apply pw_below_drewN|apply below_drew1|refine below_set ?_ AX.out|refine below_set ?_ AZ.out|refine below_set ?_ CW.out)|exact HB.out)⟩⟩
                ·rw [if_neg c76] at H
                 exact absurd H (by simp)
               ·rw [if_neg c75] at H
                exact absurd H (by simp)
              ·replace c74 := Bool.eq_false_iff.mpr c74
               subst c74
               have H1 : (if ((rd_T53 l0 AA).f0) = 3 then (gaugerref22_Read.j7 Ip l0 l1 AA (((rd_T53 l0 AA).f0) == 3) AM AE AN AJ ((rd_T53 l0 AA).f0) ((rd_T53 l0 AA).f1) ((rd_T53 l0 AA).f2) ((rd_T53 l0 AA).f3) ((rd_T53 l0 AA).f4) ((rd_T53 l0 AA).f5.f0) ((rd_T53 l0 AA).f5.f1) ((rd_T53 l0 AA).f5.f2) ((rd_T53 l0 AA).f5.f3) ((rd_T53 l0 AA).f6) ((rd_T53 l0 AA).f7)) else (gaugerref22_Read.j7 Ip l0 l1 AA (((rd_T53 l0 AA).f0) == 4) AM AE AN AJ ((rd_T53 l0 AA).f0) ((rd_T53 l0 AA).f1) ((rd_T53 l0 AA).f2) ((rd_T53 l0 AA).f3) ((rd_T53 l0 AA).f4) ((rd_T53 l0 AA).f5.f0) ((rd_T53 l0 AA).f5.f1) ((rd_T53 l0 AA).f5.f2) ((rd_T53 l0 AA).f5.f3) ((rd_T53 l0 AA).f6) ((rd_T53 l0 AA).f7))) = some (r1, r2, r3, r4) := by rw [if_neg (show ¬ (false = true) by decide)] at H; exact H
               clear H
               have H := H1
               clear H1
               have QC := Aside0.mk H
               clear H
               go_upto_if 155 with (fail)
               go_cut [155] (fun US wc => ∃ (kq : Nat) (Gd : Bool), US = .bool Gd ∧ Aside0 (gaugerref22_Read.j7 kq l0 l1 AA Gd AM AE AN AJ ((rd_T53 l0 AA).f0) ((rd_T53 l0 AA).f1) ((rd_T53 l0 AA).f2) ((rd_T53 l0 AA).f3) ((rd_T53 l0 AA).f4) ((rd_T53 l0 AA).f5.f0) ((rd_T53 l0 AA).f5.f1) ((rd_T53 l0 AA).f5.f2) ((rd_T53 l0 AA).f5.f3) ((rd_T53 l0 AA).f6) ((rd_T53 l0 AA).f7) = some (r1, r2, r3, r4)) ∧ Aside0 (kq ≤ Ip) ∧ Aside0 (Kd.R k55 55 wc w.heap.size (fun _ => True) AV AE) ∧ Aside0 (Kd.R (Kd.int .i64) 3 wc w.heap.size (fun _ => True) AH AJ) ∧ Aside0 (wc.heap[AY]? = some (.cells #[.int .i64 0, (.slice none 0 0), .int .i64 0, (.slice none 0 0)] 61 (0, 0))) ∧ Aside0 (wc.heap[AC]? = some (.cells #[.int .i64 AM, AV, .int .i64 AN, AH] 61 (0, 0))) ∧ Aside0 (wc.heap[AP]? = some (.cells #[.int .i64 ((rd_T53 l0 AA).f0), .int .i64 ((rd_T53 l0 AA).f1), .int .i64 ((rd_T53 l0 AA).f2), .int .i64 ((rd_T53 l0 AA).f3), (.slice Ad ((rd_T53 l0 AA).f4).length Ae), .int .i64 ((rd_T53 l0 AA).f5.f0), .int .i64 ((rd_T53 l0 AA).f5.f1), .string ((rd_T53 l0 AA).f5.f2), .string ((rd_T53 l0 AA).f5.f3), (.slice Bd ((rd_T53 l0 AA).f6).length Be), (.slice BA ((rd_T53 l0 AA).f7).length BB)] 53 (0, 0))) ∧ Aside0 (Below w.heap.size w wc))
               case first =>
                have H := QC.out
                clear QC
                by_cases c84 : ((rd_T53 l0 AA).f0) = 3
                ·rw [if_pos c84] at H
                 have Gs : (((rd_T53 l0 AA).f0) == 3) = true := beq_iff_eq.mpr c84
                 have ML : (((rd_T53 l0 AA).f0) != 3) = false := bne_eq_false_iff_eq.mpr c84
                 clear c84
                 (first | rw [Gs] | (simp only [i64_w, i32_w]; rw [Gs]) | skip)
                 have H' := Aside0.mk H
                 clear H
                 go_wp2
                 go_meet
                 case rel => exact ⟨_, ((((rd_T53 l0 AA).f0) == 3)), (by first | rfl | (simp; done) | (simp [*]; done)), H', ⟨by have := HK1.out; have := DU.out; have := Ec.out; have := HK4.out; have := Ex.out; first | omega|exact Nat.le_refl _⟩, ⟨by (with_reducible repeat (first|apply Kd.R_alloc|apply Kd.R_drewN|apply Kd.R_drew)); exact HO_154001.out⟩, ⟨by (with_reducible repeat (first|apply Kd.R_alloc|apply Kd.R_drewN|apply Kd.R_drew)); exact HO_154003.out⟩, ⟨by (with_reducible repeat (first|refine dn_ ?_ _|refine dr_ ?_|refine al_ ?_ _)); exact AG.out⟩, ⟨by (with_reducible repeat (first|refine dn_ ?_ _|refine dr_ ?_|refine al_ ?_ _)); exact AB.out⟩, ⟨by (with_reducible repeat (first|refine dn_ ?_ _|refine dr_ ?_|refine al_ ?_ _)); exact AO.out⟩, ⟨by repeat (first | (with_reducible first|exact HB.out|apply below_alloc|apply pw_below_drewN|apply below_drew1|refine below_set ?_ AX.out|refine below_set ?_ AZ.out|refine below_set ?_ CW.out)|exact HB.out)⟩⟩
                ·rw [if_neg c84] at H
                 have Gs : (((rd_T53 l0 AA).f0) == 3) = false := beq_eq_false_iff_ne.mpr c84
                 have ML : (((rd_T53 l0 AA).f0) != 3) = true := bne_iff_ne.mpr c84
                 (first | rw [Gs] | (simp only [i64_w, i32_w]; rw [Gs]) | skip)
                 have H' := Aside0.mk H
                 clear H
                 go_wp2
                 go_meet
                 case rel => exact ⟨_, ((((rd_T53 l0 AA).f0) == 4)), (by first | rfl | (simp; done) | (simp [*]; done)), H', ⟨by have := HK1.out; have := DU.out; have := Ec.out; have := HK4.out; have := Ex.out; first | omega|exact Nat.le_refl _⟩, ⟨by (with_reducible repeat (first|apply Kd.R_alloc|apply Kd.R_drewN|apply Kd.R_drew)); exact HO_154001.out⟩, ⟨by (with_reducible repeat (first|apply Kd.R_alloc|apply Kd.R_drewN|apply Kd.R_drew)); exact HO_154003.out⟩, ⟨by (with_reducible repeat (first|refine dn_ ?_ _|refine dr_ ?_|refine al_ ?_ _)); exact AG.out⟩, ⟨by (with_reducible repeat (first|refine dn_ ?_ _|refine dr_ ?_|refine al_ ?_ _)); exact AB.out⟩, ⟨by (with_reducible repeat (first|refine dn_ ?_ _|refine dr_ ?_|refine al_ ?_ _)); exact AO.out⟩, ⟨by repeat (first | (with_reducible first|exact HB.out|apply below_alloc|apply pw_below_drewN|apply below_drew1|refine below_set ?_ AX.out|refine below_set ?_ AZ.out|refine below_set ?_ CW.out)|exact HB.out)⟩⟩
               case rest =>
                clear QC
                try clear c1
                try clear p1
                try clear q1
                try clear hx1
                try clear p2
                try clear c4
                try clear c5
                try clear c6
                try clear p6
                try clear c7
                try clear c8
                try clear p15
                try clear q15
                try clear p16
                try clear q16
                try clear JM
                try clear c17
                try clear p17
                try clear q17
                try clear Ly
                try clear c18
                try clear p18
                try clear q18
                try clear Qq
                try clear c40
                try clear Dd
                try clear c41
                try clear c42
                try clear c45
                try clear c46
                try clear c52
                try clear IW
                try clear c53
                try clear IX
                try clear c54
                try clear Gv
                try clear c55
                try clear IY
                try clear p64
                try clear c66
                try clear LQ
                try clear c67
                try clear MG
                try clear c69
                try clear c70
                try clear c71
                try clear c73
                try clear Et
                try clear LV
                try clear c74
                try clear c75
                try clear Nt
                try clear c76
                try clear Nu
                try clear c84
                try clear Gs
                try clear ML
                try clear Ht
                try clear Hu
                try clear Gq
                try clear Hv
                try clear Hw
                try clear Hx
                try clear Hy
                try clear Hz
                try clear IA
                try clear IB
                try clear IC
                try clear ID
                try clear IE
                try clear Gr
                try clear IF
                try clear IG
                try clear IH
                try clear II
                try clear IJ
                try clear IK
                try clear IL
                try clear IM
                try clear BX
                try clear BY
                try clear BZ
                try clear Ba
                try clear Bb
                try clear Bc
                try clear Cr
                try clear Bn
                try clear Bo
                try clear Ay
                try clear Bp
                try clear Bq
                try clear Br
                try clear Bs
                try clear Bt
                try clear Bu
                try clear Bv
                try clear Bw
                try clear CA
                try clear CB
                try clear BC
                try clear CC
                try clear CD
                try clear CE
                try clear CF
                try clear CG
                try clear CH
                try clear CI
                try clear CJ
                try clear CK
                try clear CL
                try clear CM
                try clear CN
                try clear BD
                try clear CO
                try clear CP
                try clear CQ
                try clear CR
                try clear CS
                try clear CT
                try clear CU
                try clear CV
                try clear Cs
                try clear Ct
                try clear Bx
                try clear Cu
                try clear Cv
                try clear Cw
                try clear Cx
                try clear Cy
                try clear Cz
                try clear DA
                try clear DB
                try clear DC
                try clear DD
                try clear DE
                try clear DF
                try clear By
                try clear DG
                try clear DH
                try clear DI
                try clear DJ
                try clear DK
                try clear DL
                try clear DM
                try clear DN
                try clear DO
                try clear DP
                try clear Ed
                try clear Ee
                try clear Dr
                try clear Ef
                try clear Eg
                try clear Eh
                try clear Ei
                try clear Ej
                try clear El
                try clear Em
                try clear En
                try clear Dt
                try clear p1
                try clear p15
                try clear DQ
                try clear p16
                try clear Dw
                try clear Dy
                try clear Gl
                try clear Gn
                try clear Gt
                try clear Eq
                try clear p17
                try clear Hp
                try clear Hr
                try clear Eu
                try clear IZ
                try clear Ie
                try clear Ig
                try clear Il
                try clear p18
                try clear LY
                try clear MH
                try clear p2
                try clear p6
                try clear p64
                try clear q1
                try clear q15
                try clear DR
                try clear q16
                try clear Dx
                try clear Dz
                try clear Gm
                try clear Gp
                try clear Gu
                try clear Er
                try clear q17
                try clear Hq
                try clear Hs
                try clear Ew
                try clear Ia
                try clear If
                try clear Ih
                try clear Im
                try clear q18
                try clear LZ
                try clear MI
                obtain ⟨kq, Gd, rfl, HA, Iq, HO_154001, HO_154003, AG, AB, AO, HB⟩ := hcut
                cases kq with
                | zero => exact absurd HA.out (by simp [gaugerref22_Read.j7])
                | succ Lb =>
                 have H := HA.out
                 clear HA
                 simp only [gaugerref22_Read.j7] at H
                 by_cases c85 : Gd = true
                 ·subst c85
                  have H1 : (gaugerref22_Read.l4 Lb l0 l1 AA (([] : List (S55))) 0 AM AE AN AJ ((rd_T53 l0 AA).f0) ((rd_T53 l0 AA).f1) ((rd_T53 l0 AA).f2) ((rd_T53 l0 AA).f3) ((rd_T53 l0 AA).f4) ((rd_T53 l0 AA).f5.f0) ((rd_T53 l0 AA).f5.f1) ((rd_T53 l0 AA).f5.f2) ((rd_T53 l0 AA).f5.f3) ((rd_T53 l0 AA).f6) ((rd_T53 l0 AA).f7)) = some (r1, r2, r3, r4) := by rw [if_pos rfl] at H; exact H
                  clear H
                  have H := H1
                  clear H1
                  obtain ⟨Qv, Ir⟩ : ∃ y_ : List (S55), y_ = (([] : List (S55))) := ⟨_, rfl⟩
                  replace H : (gaugerref22_Read.l4 Lb l0 l1 AA Qv 0 AM AE AN AJ ((rd_T53 l0 AA).f0) ((rd_T53 l0 AA).f1) ((rd_T53 l0 AA).f2) ((rd_T53 l0 AA).f3) ((rd_T53 l0 AA).f4) ((rd_T53 l0 AA).f5.f0) ((rd_T53 l0 AA).f5.f1) ((rd_T53 l0 AA).f5.f2) ((rd_T53 l0 AA).f5.f3) ((rd_T53 l0 AA).f6) ((rd_T53 l0 AA).f7)) = some (r1, r2, r3, r4) := by first | (rw [Ir]; with_reducible exact H) | (have H2_ := (Option.bind_some _ _).symm.trans H; rw [Ir]; with_reducible exact H2_) | (have H2_ := (Option.bind_some _ _).symm.trans H; with_reducible exact H2_) | with_reducible exact H | (rw [Ir]; exact H)|exact H
                  have Nw := Aside0.mk Ir
                  clear Ir
                  have H' := Aside0.mk H
                  clear H
                  go_wp2_with (first | ((with_reducible refine gate_dst (N := 158) rfl ?_); refine Kd.R_lit k55 _ 55 ?hg (N := 158) ?hd (xs := ([] : List (S55))) (inner := []) (ok := fun _ => True) (okp := fun _ => True) ?hr ?hp (fun _ hk => hk) trivial (Below.refl _ _) (Nat.le_refl _) (by simp) ?_; (case hd => rfl); (case hg => rfl); (case hr => first | (go_simp; done) | (go_simp; rfl)); (case hp => exact (Reps.none _ _)); intro Vf w86 Lc hb hg_ hnew_; clear hg_ hnew_; (first | rw [← Nw.out] at Lc | (simp only [Int.reduceToNat] at Lc; rw [← Nw.out] at Lc)); have n0_ := Aside0.mk (Kd.R_elder' (by (with_reducible repeat (first|apply Kd.R_alloc|apply Kd.R_drewN|apply Kd.R_drew)); exact HO_154001.out) (Kd.R_base Lc) hb); have n1_ := Aside0.mk (Kd.R_below (by (with_reducible repeat (first|apply Kd.R_alloc|apply Kd.R_drewN|apply Kd.R_drew)); exact HO_154003.out) hb); have n2_ := Aside0.mk (Kd.R_lower (Kd.R_new' Lc (Kd.R_lt (by (with_reducible repeat (first|apply Kd.R_alloc|apply Kd.R_drewN|apply Kd.R_drew)); exact HO_154001.out))) (below_size (by repeat (first | (with_reducible first|exact HB.out|apply below_alloc|apply pw_below_drewN|apply below_drew1|refine below_set ?_ AX.out|refine below_set ?_ AZ.out|refine below_set ?_ CW.out)|exact HB.out)))); have n3_ := Aside0.mk (blk_below (g := AY) (o := .cells #[.int .i64 0, .slice none 0 0, .int .i64 0, .slice none 0 0] 61 (0, 0)) (by (with_reducible repeat (first|refine dn_ ?_ _|refine dr_ ?_|refine al_ ?_ _)); exact AG.out) hb); have n4_ := Aside0.mk (blk_below (g := AC) (o := .cells #[.int .i64 AM, AV, .int .i64 AN, AH] 61 (0, 0)) (by (with_reducible repeat (first|refine dn_ ?_ _|refine dr_ ?_|refine al_ ?_ _)); exact AB.out) hb); have n5_ := Aside0.mk (blk_below (g := AP) (o := .cells #[.int .i64 ((rd_T53 l0 AA).f0), .int .i64 ((rd_T53 l0 AA).f1), .int .i64 ((rd_T53 l0 AA).f2), .int .i64 ((rd_T53 l0 AA).f3), .slice Ad ((rd_T53 l0 AA).f4).length Ae, .int .i64 ((rd_T53 l0 AA).f5.f0), .int .i64 ((rd_T53 l0 AA).f5.f1), .string ((rd_T53 l0 AA).f5.f2), .string ((rd_T53 l0 AA).f5.f3), .slice Bd ((rd_T53 l0 AA).f6).length Be, .slice BA ((rd_T53 l0 AA).f7).length BB] 53 (0, 0)) (by (with_reducible repeat (first|refine dn_ ?_ _|refine dr_ ?_|refine al_ ?_ _)); exact AO.out) hb); have n6_ := Aside0.mk (below_step (by repeat (first | (with_reducible first|exact HB.out|apply below_alloc|apply pw_below_drewN|apply below_drew1|refine below_set ?_ AX.out|refine below_set ?_ AZ.out|refine below_set ?_ CW.out)|exact HB.out)) hb); clear HO_154001; clear HO_154003; clear AG; clear AB; clear AO; clear HB; have HO_154001 := n0_; have HO_154003 := n1_; have Qw := n2_; have AG := n3_; have AB := n4_; have AO := n5_; have HB := n6_; clear n0_ n1_ n2_ n3_ n4_ n5_ n6_; clear hb Lc))
                  go_loopg [12, 13] Lb (fun kq v12 v13 w' => ∃ (Ds : List (S55)) (Aa : Int), v13 = .int .i64 Aa ∧ Aside0 (gaugerref22_Read.l4 kq l0 l1 AA Ds Aa AM AE AN AJ ((rd_T53 l0 AA).f0) ((rd_T53 l0 AA).f1) ((rd_T53 l0 AA).f2) ((rd_T53 l0 AA).f3) ((rd_T53 l0 AA).f4) ((rd_T53 l0 AA).f5.f0) ((rd_T53 l0 AA).f5.f1) ((rd_T53 l0 AA).f5.f2) ((rd_T53 l0 AA).f5.f3) ((rd_T53 l0 AA).f6) ((rd_T53 l0 AA).f7) = some (r1, r2, r3, r4)) ∧ Aside0 (kq ≤ Lb) ∧ Aside0 (Kd.R k55 55 w' w.heap.size (fun k_ => some k_ ≠ (AV : Value).ownBlock) v12 Ds) ∧ Aside0 (Kd.R k55 55 w' w.heap.size (fun k_ => some k_ ≠ (v12 : Value).ownBlock) AV AE) ∧ Aside0 (Kd.R (Kd.int .i64) 3 w' w.heap.size (fun _ => True) AH AJ) ∧ Aside0 (w'.heap[AY]? = some (.cells #[.int .i64 0, (.slice none 0 0), .int .i64 0, (.slice none 0 0)] 61 (0, 0))) ∧ Aside0 (w'.heap[AC]? = some (.cells #[.int .i64 AM, AV, .int .i64 AN, AH] 61 (0, 0))) ∧ Aside0 (w'.heap[AP]? = some (.cells #[.int .i64 ((rd_T53 l0 AA).f0), .int .i64 ((rd_T53 l0 AA).f1), .int .i64 ((rd_T53 l0 AA).f2), .int .i64 ((rd_T53 l0 AA).f3), (.slice Ad ((rd_T53 l0 AA).f4).length Ae), .int .i64 ((rd_T53 l0 AA).f5.f0), .int .i64 ((rd_T53 l0 AA).f5.f1), .string ((rd_T53 l0 AA).f5.f2), .string ((rd_T53 l0 AA).f5.f3), (.slice Bd ((rd_T53 l0 AA).f6).length Be), (.slice BA ((rd_T53 l0 AA).f7).length BB)] 53 (0, 0))) ∧ Aside0 (Below w.heap.size w w'))
                  case atStart => exact ⟨(Qv), (0), (by first | rfl | (simp; done) | (simp [*]; done)), H', ⟨Nat.le_refl _⟩, ⟨by (with_reducible repeat (first|apply Kd.R_alloc|apply Kd.R_drewN|apply Kd.R_drew)); exact Kd.R_mono Qw.out (fun _ hk => hk.2)⟩, ⟨by (with_reducible repeat (first|apply Kd.R_alloc|apply Kd.R_drewN|apply Kd.R_drew)); exact Kd.R_mono HO_154001.out (fun _ hk => hk.2)⟩, ⟨by (with_reducible repeat (first|apply Kd.R_alloc|apply Kd.R_drewN|apply Kd.R_drew)); exact HO_154003.out⟩, ⟨by (with_reducible repeat (first|refine dn_ ?_ _|refine dr_ ?_|refine al_ ?_ _)); exact AG.out⟩, ⟨by (with_reducible repeat (first|refine dn_ ?_ _|refine dr_ ?_|refine al_ ?_ _)); exact AB.out⟩, ⟨by (with_reducible repeat (first|refine dn_ ?_ _|refine dr_ ?_|refine al_ ?_ _)); exact AO.out⟩, ⟨by repeat (first | (with_reducible first|exact HB.out|apply below_alloc|apply pw_below_drewN|apply below_drew1|refine below_set ?_ AX.out|refine below_set ?_ AZ.out|refine below_set ?_ CW.out)|exact HB.out)⟩⟩
                  case round =>
                   clear H'
                   try clear c1
                   try clear p1
                   try clear q1
                   try clear hx1
                   try clear p2
                   try clear c4
                   try clear c5
                   try clear c6
                   try clear p6
                   try clear c7
                   try clear c8
                   try clear p15
                   try clear q15
                   try clear p16
                   try clear q16
                   try clear JM
                   try clear c17
                   try clear p17
                   try clear q17
                   try clear Ly
                   try clear c18
                   try clear p18
                   try clear q18
                   try clear Qq
                   try clear c40
                   try clear Dd
                   try clear c41
                   try clear c42
                   try clear c45
                   try clear c46
                   try clear c52
                   try clear IW
                   try clear c53
                   try clear IX
                   try clear c54
                   try clear Gv
                   try clear c55
                   try clear IY
                   try clear p64
                   try clear c66
                   try clear LQ
                   try clear c67
                   try clear MG
                   try clear c69
                   try clear c70
                   try clear c71
                   try clear c73
                   try clear Et
                   try clear LV
                   try clear c74
                   try clear c75
                   try clear Nt
                   try clear c76
                   try clear Nu
                   try clear c84
                   try clear Gs
                   try clear ML
                   try clear c85
                   try clear Ht
                   try clear Hu
                   try clear Gq
                   try clear Hv
                   try clear Hw
                   try clear Hx
                   try clear Hy
                   try clear Hz
                   try clear IA
                   try clear IB
                   try clear IC
                   try clear ID
                   try clear IE
                   try clear Gr
                   try clear IF
                   try clear IG
                   try clear IH
                   try clear II
                   try clear IJ
                   try clear IK
                   try clear IL
                   try clear IM
                   try clear BX
                   try clear BY
                   try clear BZ
                   try clear Ba
                   try clear Bb
                   try clear Bc
                   try clear Cr
                   try clear Bn
                   try clear Bo
                   try clear Ay
                   try clear Bp
                   try clear Bq
                   try clear Br
                   try clear Bs
                   try clear Bt
                   try clear Bu
                   try clear Bv
                   try clear Bw
                   try clear CA
                   try clear CB
                   try clear BC
                   try clear CC
                   try clear CD
                   try clear CE
                   try clear CF
                   try clear CG
                   try clear CH
                   try clear CI
                   try clear CJ
                   try clear CK
                   try clear CL
                   try clear CM
                   try clear CN
                   try clear BD
                   try clear CO
                   try clear CP
                   try clear CQ
                   try clear CR
                   try clear CS
                   try clear CT
                   try clear CU
                   try clear CV
                   try clear Cs
                   try clear Ct
                   try clear Bx
                   try clear Cu
                   try clear Cv
                   try clear Cw
                   try clear Cx
                   try clear Cy
                   try clear Cz
                   try clear DA
                   try clear DB
                   try clear DC
                   try clear DD
                   try clear DE
                   try clear DF
                   try clear By
                   try clear DG
                   try clear DH
                   try clear DI
                   try clear DJ
                   try clear DK
                   try clear DL
                   try clear DM
                   try clear DN
                   try clear DO
                   try clear DP
                   try clear Ed
                   try clear Ee
                   try clear Dr
                   try clear Ef
                   try clear Eg
                   try clear Eh
                   try clear Ei
                   try clear Ej
                   try clear El
                   try clear Em
                   try clear En
                   try clear Dt
                   try clear p1
                   try clear p15
                   try clear DQ
                   try clear p16
                   try clear Dw
                   try clear Dy
                   try clear Gl
                   try clear Gn
                   try clear Gt
                   try clear Eq
                   try clear p17
                   try clear Hp
                   try clear Hr
                   try clear Eu
                   try clear IZ
                   try clear Ie
                   try clear Ig
                   try clear Il
                   try clear p18
                   try clear LY
                   try clear MH
                   try clear p2
                   try clear p6
                   try clear p64
                   try clear q1
                   try clear q15
                   try clear DR
                   try clear q16
                   try clear Dx
                   try clear Dz
                   try clear Gm
                   try clear Gp
                   try clear Gu
                   try clear Er
                   try clear q17
                   try clear Hq
                   try clear Hs
                   try clear Ew
                   try clear Ia
                   try clear If
                   try clear Ih
                   try clear Im
                   try clear q18
                   try clear LZ
                   try clear MI
                   obtain ⟨Ds, Aa, rfl, HA, HK7, HO_12, HO_154001, HO_154003, AG, AB, AO, HB⟩ := hrel
                   cases gk with
                   | zero => exact absurd HA.out (by simp [gaugerref22_Read.l4])
                   | succ k7 =>
                    have H := HA.out
                    clear HA
                    simp only [gaugerref22_Read.l4] at H
                    by_cases c88 : Aa < (AE.length : Int)
                    ·rw [if_pos c88] at H
                     have Qx : decide (Aa < (AE.length : Int)) = true := decide_eq_true c88
                     clear c88
                     by_cases c89 : 0 ≤ Aa
                     ·rw [if_pos c89] at H
                      have VB : decide (0 ≤ Aa) = true := decide_eq_true c89
                      clear c89
                      by_cases c90 : ((rd_T55 AE Aa).f0) = ((rd_T53 l0 AA).f1)
                      ·rw [if_pos c90] at H
                       have Qy : (((rd_T55 AE Aa).f0) == ((rd_T53 l0 AA).f1)) = true := beq_iff_eq.mpr c90
                       have Qz : (((rd_T55 AE Aa).f0) != ((rd_T53 l0 AA).f1)) = false := bne_eq_false_iff_eq.mpr c90
                       clear c90
                       have H' := Aside0.mk H
                       clear H
                       have VC := Ab.out
                       have VD := AQ.out
                       have VE := AT.out
                       have VF := DV.out
                       have Te : wr.cell? ⟨AC, 0, none⟩ = some (.int .i64 AM) := (blk_cell AB.out 0).trans rfl
                       have Tf : wr.cell? ⟨AC, 1, none⟩ = some (AV) := (blk_cell AB.out 1).trans rfl
                       have Tg : wr.cell? ⟨AC, 2, none⟩ = some (.int .i64 AN) := (blk_cell AB.out 2).trans rfl
                       have Th : wr.cell? ⟨AC, 3, none⟩ = some (AH) := (blk_cell AB.out 3).trans rfl
                       have Ti := blk_frozen AB.out 0
                       have Tj := blk_frozen AB.out 1
                       have Tl := blk_frozen AB.out 2
                       have Tm := blk_frozen AB.out 3
                       obtain ⟨Vg, UT, UU⟩ := Kd.R_slice HO_154001.out
                       subst UU
                       try go_wp2
                       have n0_ := Aside0.mk (Kd.R_drew HO_12.out)
                       have n1_ := Aside0.mk (Kd.R_drew HO_154001.out)
                       have n2_ := Aside0.mk (Kd.R_drew HO_154003.out)
                       have n3_ := Aside0.mk (dr_ AG.out)
                       have n4_ := Aside0.mk (dr_ AB.out)
                       have n5_ := Aside0.mk (dr_ AO.out)
                       have n6_ := Aside0.mk (below_drew1 HB.out)
                       clear HO_12
                       clear HO_154001
                       clear HO_154003
                       clear AG
                       clear AB
                       clear AO
                       clear HB
                       have HO_12 := n0_
                       have HO_154001 := n1_
                       have HO_154003 := n2_
                       have AG := n3_
                       have AB := n4_
                       have AO := n5_
                       have HB := n6_
                       clear n0_ n1_ n2_ n3_ n4_ n5_ n6_
                       have JP : 0 ≤ (Aa : Int) := of_decide_eq_true (by first | (with_reducible assumption) | assumption)
                       have JQ : Aa < (AE.length : Int) := of_decide_eq_true (by first | (with_reducible assumption) | assumption)
                       obtain ⟨DW, QD, Eo, Ep⟩ := at_T55 (Kd.R_reads' HO_154001.out).2.2 Aa JP JQ
                       cases QD
                       replace JP := eq_true JP
                       replace JQ := eq_true JQ
                       refine start_ (n := 9) (S := fun w' => w'.cell? ⟨AC, 0, none⟩ = some (.int .i64 AM) ∧ w'.cell? ⟨AC, 1, none⟩ = some (.slice (some DW) AE.length UT) ∧ w'.cell? ⟨AC, 2, none⟩ = some (.int .i64 AN) ∧ w'.cell? ⟨AC, 3, none⟩ = some (AH) ∧ w'.cell? ⟨AP, 0, none⟩ = some (.int .i64 ((rd_T53 l0 AA).f0)) ∧ w'.cell? ⟨AP, 1, none⟩ = some (.int .i64 ((rd_T53 l0 AA).f1)) ∧ w'.cell? ⟨AP, 2, none⟩ = some (.int .i64 ((rd_T53 l0 AA).f2)) ∧ w'.cell? ⟨AP, 3, none⟩ = some (.int .i64 ((rd_T53 l0 AA).f3)) ∧ w'.cell? ⟨AP, 4, none⟩ = some (.slice Ad ((rd_T53 l0 AA).f4).length Ae) ∧ w'.cell? ⟨AP, 5, none⟩ = some (.int .i64 ((rd_T53 l0 AA).f5.f0)) ∧ w'.cell? ⟨AP, 6, none⟩ = some (.int .i64 ((rd_T53 l0 AA).f5.f1)) ∧ w'.cell? ⟨AP, 7, none⟩ = some (.string ((rd_T53 l0 AA).f5.f2)) ∧ w'.cell? ⟨AP, 8, none⟩ = some (.string ((rd_T53 l0 AA).f5.f3)) ∧ w'.cell? ⟨AP, 9, none⟩ = some (.slice Bd ((rd_T53 l0 AA).f6).length Be) ∧ w'.cell? ⟨AP, 10, none⟩ = some (.slice BA ((rd_T53 l0 AA).f7).length BB) ∧ w'.cell? (DW.add ((Aa).toNat * 2)) = some (.int .i64 ((rd_T55 AE Aa).f0)) ∧ w'.cell? ⟨(DW.add ((Aa).toNat * 2)).block, (DW.add ((Aa).toNat * 2)).off + 1, none⟩ = some (.int .i64 ((rd_T55 AE Aa).f1))) (ds := []) #[false, false, false, false, false, false, false, false, false] (by kernel_rfl) rfl rfl ⟨(blk_cell AB.out 0).trans rfl, (blk_cell AB.out 1).trans rfl, (blk_cell AB.out 2).trans rfl, (blk_cell AB.out 3).trans rfl, (blk_cell AO.out 0).trans rfl, (blk_cell AO.out 1).trans rfl, (blk_cell AO.out 2).trans rfl, (blk_cell AO.out 3).trans rfl, (blk_cell AO.out 4).trans rfl, (blk_cell AO.out 5).trans rfl, (blk_cell AO.out 6).trans rfl, (blk_cell AO.out 7).trans rfl, (blk_cell AO.out 8).trans rfl, (blk_cell AO.out 9).trans rfl, (blk_cell AO.out 10).trans rfl, Eo, Ep⟩ (fun hHeld => ?_); refine with_tabW gaugerref22_Read.tab38 gaugerref22_Read.bits38 (fun HT_ HW_ => ?_)
                       generalize wr.drew = w95 at HO_12 HO_154001 HO_154003 AG AB AO HB Eo Ep hHeld ⊢
                       refine pure_ (i := 0) (N := some 166) (v := ?_) (a' := ?_) #[true, false, false, false, false, false, false, false, false] rfl rfl (any_of HT_.out (by kernel_rfl)) (fun _ _ _ h => h) (Or.inl ⟨by rfl, ?_⟩) ?_ ?_
                       rotate_left;·(intro w';go_simp;with_reducible rfl)
                       rotate_left;·(simp only[Act.put,si_,s0_,s1_,i64_w,i32_w];rfl)
                       refine pure_ (i := 2) (N := some 168) (v := ?_) (a' := ?_) #[true, false, true, false, false, false, false, false, false] rfl rfl (any_of HT_.out (by kernel_rfl)) (fun _ _ _ h => h) (Or.inl ⟨by rfl, ?_⟩) ?_ ?_
                       rotate_left;·(intro w';go_simp;with_reducible rfl)
                       rotate_left;·(simp only[Act.put,si_,s0_,s1_,i64_w,i32_w];rfl)
                       refine pure_ (i := 6) (N := some 172) (v := ?_) (a' := ?_) #[true, false, true, false, false, false, true, false, false] rfl rfl (any_of HT_.out (by kernel_rfl)) (fun _ _ _ h => h) (Or.inl ⟨by rfl, ?_⟩) ?_ ?_
                       rotate_left;·(intro w';go_simp;with_reducible rfl)
                       rotate_left;·(simp only[Act.put,si_,s0_,s1_,i64_w,i32_w];rfl)
                       refine take_ (i := 1) (N := some 167) (v := ?_) (a' := ?_) #[true, true, true, false, false, false, true, false, false] rfl rfl (take_ofW HT_.out HW_.out (by kernel_rfl)) (fun _ _ _ h => h) (Or.inl ⟨by rfl, ?_⟩) hHeld ?_ ?_
                       rotate_left
                       ·rintro w' ⟨s0, s1, s2, s3, s4, s5, s6, s7, s8, s9, s10, s11, s12, s13, s14, s15, s16⟩
                        go_simp
                        with_reducible rfl
                       rotate_left
                       ·simp only [Act.put, si_, s0_, s1_, i64_w, i32_w]
                        rfl
                       refine pure_ (i := 3) (N := some 169) (v := ?_) (a' := ?_) #[true, true, true, true, false, false, true, false, false] rfl rfl (any_of HT_.out (by kernel_rfl)) (fun _ _ _ h => h) (Or.inl ⟨by rfl, ?_⟩) ?_ ?_
                       rotate_left;·(intro w';go_simp;with_reducible rfl)
                       rotate_left;·(simp only[Act.put,si_,s0_,s1_,i64_w,i32_w];rfl)
                       refine pure_ (i := 4) (N := some 170) (v := ?_) (a' := ?_) #[true, true, true, true, true, false, true, false, false] rfl rfl (any_of HT_.out (by kernel_rfl)) (fun _ _ _ h => h) (Or.inl ⟨by rfl, ?_⟩) ?_ ?_
                       rotate_left;·(intro w';go_simp;with_reducible rfl)
                       rotate_left;·(simp only[Act.put,si_,s0_,s1_,i64_w,i32_w];rfl)
                       refine take_ (i := 5) (N := some 171) (v := ?_) (a' := ?_) #[true, true, true, true, true, true, true, false, false] rfl rfl (take_ofW HT_.out HW_.out (by kernel_rfl)) (fun _ _ _ h => h) (Or.inl ⟨by rfl, ?_⟩) hHeld ?_ ?_
                       rotate_left
                       ·rintro w' ⟨s0, s1, s2, s3, s4, s5, s6, s7, s8, s9, s10, s11, s12, s13, s14, s15, s16⟩
                        go_simp
                        with_reducible rfl
                       rotate_left
                       ·simp only [Act.put, si_, s0_, s1_, i64_w, i32_w]
                        rfl
                       refine take_ (i := 7) (N := some 173) (v := ?_) (a' := ?_) #[true, true, true, true, true, true, true, true, false] rfl rfl (take_ofW HT_.out HW_.out (by kernel_rfl)) (fun _ _ _ h => h) (Or.inl ⟨by rfl, ?_⟩) hHeld ?_ ?_
                       rotate_left
                       ·rintro w' ⟨s0, s1, s2, s3, s4, s5, s6, s7, s8, s9, s10, s11, s12, s13, s14, s15, s16⟩
                        go_simp
                        with_reducible rfl
                       rotate_left
                       ·simp only [Act.put, si_, s0_, s1_, i64_w, i32_w]
                        rfl
                       refine pure_ (i := 8) (N := some 174) (v := ?_) (a' := ?_) #[true, true, true, true, true, true, true, true, true] rfl rfl (any_of HT_.out (by kernel_rfl)) (fun _ _ _ h => h) (Or.inl ⟨by rfl, ?_⟩) ?_ ?_
                       rotate_left;·(intro w';go_simp;with_reducible rfl)
                       rotate_left;·(simp only[Act.put,si_,s0_,s1_,i64_w,i32_w];rfl)
                       refine done_ (done_of HT_.out (by kernel_rfl)) ?_
                       try go_wp2
                       go_roundg k7
                       case measure => have := HK1.out; have := DU.out; have := Ec.out; have := HK4.out; have := Ex.out; have := Iq.out; have := HK7.out; omega
                       case rel => exact ⟨(Ds), (wrap64 (Aa + 1)), (by first | rfl | (simp; done) | (simp [*]; done)), H', ⟨by have := HK1.out; have := DU.out; have := Ec.out; have := HK4.out; have := Ex.out; have := Iq.out; have := HK7.out; omega⟩, ⟨by (with_reducible repeat (first|apply Kd.R_alloc|apply Kd.R_drewN|apply Kd.R_drew)); exact HO_12.out⟩, ⟨by (with_reducible repeat (first|apply Kd.R_alloc|apply Kd.R_drewN|apply Kd.R_drew)); exact HO_154001.out⟩, ⟨by (with_reducible repeat (first|apply Kd.R_alloc|apply Kd.R_drewN|apply Kd.R_drew)); exact HO_154003.out⟩, ⟨by (with_reducible repeat (first|refine dn_ ?_ _|refine dr_ ?_|refine al_ ?_ _)); exact AG.out⟩, ⟨by (with_reducible repeat (first|refine dn_ ?_ _|refine dr_ ?_|refine al_ ?_ _)); exact AB.out⟩, ⟨by (with_reducible repeat (first|refine dn_ ?_ _|refine dr_ ?_|refine al_ ?_ _)); exact AO.out⟩, ⟨by repeat (first | (with_reducible first|exact HB.out|apply below_alloc|apply pw_below_drewN|apply below_drew1|refine below_set ?_ AX.out|refine below_set ?_ AZ.out|refine below_set ?_ CW.out)|exact HB.out)⟩⟩
                      ·rw [if_neg c90] at H
                       have Qy : (((rd_T55 AE Aa).f0) == ((rd_T53 l0 AA).f1)) = false := beq_eq_false_iff_ne.mpr c90
                       have Qz : (((rd_T55 AE Aa).f0) != ((rd_T53 l0 AA).f1)) = true := bne_iff_ne.mpr c90
                       by_cases c96 : Ds.length < 8796093022208
                       ·rw [if_pos c96] at H
                        have RA := Aside0.mk c96
                        clear c96
                        obtain ⟨RB, Is⟩ : ∃ y_ : List (S55), y_ = (Ds ++ [(⟨(rd_T55 AE Aa).f0, (rd_T55 AE Aa).f1⟩ : S55)]) := ⟨_, rfl⟩
                        replace H : (gaugerref22_Read.l4 k7 l0 l1 AA RB (wrap64 (Aa + 1)) AM AE AN AJ ((rd_T53 l0 AA).f0) ((rd_T53 l0 AA).f1) ((rd_T53 l0 AA).f2) ((rd_T53 l0 AA).f3) ((rd_T53 l0 AA).f4) ((rd_T53 l0 AA).f5.f0) ((rd_T53 l0 AA).f5.f1) ((rd_T53 l0 AA).f5.f2) ((rd_T53 l0 AA).f5.f3) ((rd_T53 l0 AA).f6) ((rd_T53 l0 AA).f7)) = some (r1, r2, r3, r4) := by first | (rw [Is]; with_reducible exact H) | (have H2_ := (Option.bind_some _ _).symm.trans H; rw [Is]; with_reducible exact H2_) | (have H2_ := (Option.bind_some _ _).symm.trans H; with_reducible exact H2_) | with_reducible exact H | (rw [Is]; exact H)|exact H
                        have RC := Aside0.mk Is
                        clear Is
                        have H' := Aside0.mk H
                        clear H
                        have VG := Ab.out
                        have VH := AQ.out
                        have VI := AT.out
                        have VJ := DV.out
                        have Tn : wr.cell? ⟨AC, 0, none⟩ = some (.int .i64 AM) := (blk_cell AB.out 0).trans rfl
                        have To : wr.cell? ⟨AC, 1, none⟩ = some (AV) := (blk_cell AB.out 1).trans rfl
                        have Tp : wr.cell? ⟨AC, 2, none⟩ = some (.int .i64 AN) := (blk_cell AB.out 2).trans rfl
                        have Tq : wr.cell? ⟨AC, 3, none⟩ = some (AH) := (blk_cell AB.out 3).trans rfl
                        have Tr := blk_frozen AB.out 0
                        have Ts := blk_frozen AB.out 1
                        have Tt := blk_frozen AB.out 2
                        have Tu := blk_frozen AB.out 3
                        obtain ⟨VK, LX, RD⟩ := Kd.R_slice HO_154001.out
                        subst RD
                        try go_wp2
                        have n0_ := Aside0.mk (Kd.R_drew HO_12.out)
                        have n1_ := Aside0.mk (Kd.R_drew HO_154001.out)
                        have n2_ := Aside0.mk (Kd.R_drew HO_154003.out)
                        have n3_ := Aside0.mk (dr_ AG.out)
                        have n4_ := Aside0.mk (dr_ AB.out)
                        have n5_ := Aside0.mk (dr_ AO.out)
                        have n6_ := Aside0.mk (below_drew1 HB.out)
                        clear HO_12
                        clear HO_154001
                        clear HO_154003
                        clear AG
                        clear AB
                        clear AO
                        clear HB
                        have HO_12 := n0_
                        have HO_154001 := n1_
                        have HO_154003 := n2_
                        have AG := n3_
                        have AB := n4_
                        have AO := n5_
                        have HB := n6_
                        clear n0_ n1_ n2_ n3_ n4_ n5_ n6_
                        have JP : 0 ≤ (Aa : Int) := of_decide_eq_true (by first | (with_reducible assumption) | assumption)
                        have JQ : Aa < (AE.length : Int) := of_decide_eq_true (by first | (with_reducible assumption) | assumption)
                        obtain ⟨DW, QD, Eo, Ep⟩ := at_T55 (Kd.R_reads' HO_154001.out).2.2 Aa JP JQ
                        cases QD
                        replace JP := eq_true JP
                        replace JQ := eq_true JQ
                        refine start_ (n := 9) (S := fun w' => w'.cell? ⟨AC, 0, none⟩ = some (.int .i64 AM) ∧ w'.cell? ⟨AC, 1, none⟩ = some (.slice (some DW) AE.length LX) ∧ w'.cell? ⟨AC, 2, none⟩ = some (.int .i64 AN) ∧ w'.cell? ⟨AC, 3, none⟩ = some (AH) ∧ w'.cell? ⟨AP, 0, none⟩ = some (.int .i64 ((rd_T53 l0 AA).f0)) ∧ w'.cell? ⟨AP, 1, none⟩ = some (.int .i64 ((rd_T53 l0 AA).f1)) ∧ w'.cell? ⟨AP, 2, none⟩ = some (.int .i64 ((rd_T53 l0 AA).f2)) ∧ w'.cell? ⟨AP, 3, none⟩ = some (.int .i64 ((rd_T53 l0 AA).f3)) ∧ w'.cell? ⟨AP, 4, none⟩ = some (.slice Ad ((rd_T53 l0 AA).f4).length Ae) ∧ w'.cell? ⟨AP, 5, none⟩ = some (.int .i64 ((rd_T53 l0 AA).f5.f0)) ∧ w'.cell? ⟨AP, 6, none⟩ = some (.int .i64 ((rd_T53 l0 AA).f5.f1)) ∧ w'.cell? ⟨AP, 7, none⟩ = some (.string ((rd_T53 l0 AA).f5.f2)) ∧ w'.cell? ⟨AP, 8, none⟩ = some (.string ((rd_T53 l0 AA).f5.f3)) ∧ w'.cell? ⟨AP, 9, none⟩ = some (.slice Bd ((rd_T53 l0 AA).f6).length Be) ∧ w'.cell? ⟨AP, 10, none⟩ = some (.slice BA ((rd_T53 l0 AA).f7).length BB) ∧ w'.cell? (DW.add ((Aa).toNat * 2)) = some (.int .i64 ((rd_T55 AE Aa).f0)) ∧ w'.cell? ⟨(DW.add ((Aa).toNat * 2)).block, (DW.add ((Aa).toNat * 2)).off + 1, none⟩ = some (.int .i64 ((rd_T55 AE Aa).f1))) (ds := []) #[false, false, false, false, false, false, false, false, false] (by kernel_rfl) rfl rfl ⟨(blk_cell AB.out 0).trans rfl, (blk_cell AB.out 1).trans rfl, (blk_cell AB.out 2).trans rfl, (blk_cell AB.out 3).trans rfl, (blk_cell AO.out 0).trans rfl, (blk_cell AO.out 1).trans rfl, (blk_cell AO.out 2).trans rfl, (blk_cell AO.out 3).trans rfl, (blk_cell AO.out 4).trans rfl, (blk_cell AO.out 5).trans rfl, (blk_cell AO.out 6).trans rfl, (blk_cell AO.out 7).trans rfl, (blk_cell AO.out 8).trans rfl, (blk_cell AO.out 9).trans rfl, (blk_cell AO.out 10).trans rfl, Eo, Ep⟩ (fun hHeld => ?_); refine with_tabW gaugerref22_Read.tab38 gaugerref22_Read.bits38 (fun HT_ HW_ => ?_)
                        generalize wr.drew = Nn at HO_12 HO_154001 HO_154003 AG AB AO HB Eo Ep hHeld ⊢
                        refine pure_ (i := 0) (N := some 166) (v := ?_) (a' := ?_) #[true, false, false, false, false, false, false, false, false] rfl rfl (any_of HT_.out (by kernel_rfl)) (fun _ _ _ h => h) (Or.inl ⟨by rfl, ?_⟩) ?_ ?_
                        rotate_left;·(intro w';go_simp;with_reducible rfl)
                        rotate_left;·(simp only[Act.put,si_,s0_,s1_,i64_w,i32_w];rfl)
                        refine pure_ (i := 2) (N := some 168) (v := ?_) (a' := ?_) #[true, false, true, false, false, false, false, false, false] rfl rfl (any_of HT_.out (by kernel_rfl)) (fun _ _ _ h => h) (Or.inl ⟨by rfl, ?_⟩) ?_ ?_
                        rotate_left;·(intro w';go_simp;with_reducible rfl)
                        rotate_left;·(simp only[Act.put,si_,s0_,s1_,i64_w,i32_w];rfl)
                        refine pure_ (i := 6) (N := some 172) (v := ?_) (a' := ?_) #[true, false, true, false, false, false, true, false, false] rfl rfl (any_of HT_.out (by kernel_rfl)) (fun _ _ _ h => h) (Or.inl ⟨by rfl, ?_⟩) ?_ ?_
                        rotate_left;·(intro w';go_simp;with_reducible rfl)
                        rotate_left;·(simp only[Act.put,si_,s0_,s1_,i64_w,i32_w];rfl)
                        refine take_ (i := 1) (N := some 167) (v := ?_) (a' := ?_) #[true, true, true, false, false, false, true, false, false] rfl rfl (take_ofW HT_.out HW_.out (by kernel_rfl)) (fun _ _ _ h => h) (Or.inl ⟨by rfl, ?_⟩) hHeld ?_ ?_
                        rotate_left
                        ·rintro w' ⟨s0, s1, s2, s3, s4, s5, s6, s7, s8, s9, s10, s11, s12, s13, s14, s15, s16⟩
                         go_simp
                         with_reducible rfl
                        rotate_left
                        ·simp only [Act.put, si_, s0_, s1_, i64_w, i32_w]
                         rfl
                        refine pure_ (i := 3) (N := some 169) (v := ?_) (a' := ?_) #[true, true, true, true, false, false, true, false, false] rfl rfl (any_of HT_.out (by kernel_rfl)) (fun _ _ _ h => h) (Or.inl ⟨by rfl, ?_⟩) ?_ ?_
                        rotate_left;·(intro w';go_simp;with_reducible rfl)
                        rotate_left;·(simp only[Act.put,si_,s0_,s1_,i64_w,i32_w];rfl)
                        refine pure_ (i := 4) (N := some 170) (v := ?_) (a' := ?_) #[true, true, true, true, true, false, true, false, false] rfl rfl (any_of HT_.out (by kernel_rfl)) (fun _ _ _ h => h) (Or.inl ⟨by rfl, ?_⟩) ?_ ?_
                        rotate_left;·(intro w';go_simp;with_reducible rfl)
                        rotate_left;·(simp only[Act.put,si_,s0_,s1_,i64_w,i32_w];rfl)
                        refine take_ (i := 5) (N := some 171) (v := ?_) (a' := ?_) #[true, true, true, true, true, true, true, false, false] rfl rfl (take_ofW HT_.out HW_.out (by kernel_rfl)) (fun _ _ _ h => h) (Or.inl ⟨by rfl, ?_⟩) hHeld ?_ ?_
                        rotate_left
                        ·rintro w' ⟨s0, s1, s2, s3, s4, s5, s6, s7, s8, s9, s10, s11, s12, s13, s14, s15, s16⟩
                         go_simp
                         with_reducible rfl
                        rotate_left
                        ·simp only [Act.put, si_, s0_, s1_, i64_w, i32_w]
                         rfl
                        refine take_ (i := 7) (N := some 173) (v := ?_) (a' := ?_) #[true, true, true, true, true, true, true, true, false] rfl rfl (take_ofW HT_.out HW_.out (by kernel_rfl)) (fun _ _ _ h => h) (Or.inl ⟨by rfl, ?_⟩) hHeld ?_ ?_
                        rotate_left
                        ·rintro w' ⟨s0, s1, s2, s3, s4, s5, s6, s7, s8, s9, s10, s11, s12, s13, s14, s15, s16⟩
                         go_simp
                         with_reducible rfl
                        rotate_left
                        ·simp only [Act.put, si_, s0_, s1_, i64_w, i32_w]
                         rfl
                        refine pure_ (i := 8) (N := some 174) (v := ?_) (a' := ?_) #[true, true, true, true, true, true, true, true, true] rfl rfl (any_of HT_.out (by kernel_rfl)) (fun _ _ _ h => h) (Or.inl ⟨by rfl, ?_⟩) ?_ ?_
                        rotate_left;·(intro w';go_simp;with_reducible rfl)
                        rotate_left;·(simp only[Act.put,si_,s0_,s1_,i64_w,i32_w];rfl)
                        refine done_ (done_of HT_.out (by kernel_rfl)) ?_
                        have RE : Nn.cell? ⟨AC, 0, none⟩ = some (.int .i64 AM) := (blk_cell AB.out 0).trans rfl
                        have RF : Nn.cell? ⟨AC, 1, none⟩ = some (.slice (some DW) AE.length LX) := (blk_cell AB.out 1).trans rfl
                        have RG : Nn.cell? ⟨AC, 2, none⟩ = some (.int .i64 AN) := (blk_cell AB.out 2).trans rfl
                        have RH : Nn.cell? ⟨AC, 3, none⟩ = some (AH) := (blk_cell AB.out 3).trans rfl
                        have RI := blk_frozen AB.out 0
                        have RJ := blk_frozen AB.out 1
                        have RK := blk_frozen AB.out 2
                        have RL := blk_frozen AB.out 3
                        have QE : 0 ≤ (Aa : Int) := of_decide_eq_true (by first | (with_reducible assumption) | assumption)
                        have QF : Aa < (AE.length : Int) := of_decide_eq_true (by first | (with_reducible assumption) | assumption)
                        obtain ⟨RM, UV, Tv, Tw⟩ := at_T55 (Kd.R_reads' HO_154001.out).2.2 Aa QE QF
                        obtain rfl : DW = RM := (by injection UV)
                        replace QE := eq_true QE
                        replace QF := eq_true QF
                        try go_wp2_with (first | ((with_reducible refine gate_builtin (b := .append) (xs := #[.tmp 175, .tmp 181]) rfl ?_); at_builtin; refine Kd.R_append k55 (w0 := w) w.heap.size rfl (.tmp 175) (.tmp 181) 50 55 (.agg #[(.int .i64 0), (.int .i64 0)]) 16 rfl Try.underlying50 info55 rfl (by decide) (by omega) u12 Ds (⟨(rd_T55 AE Aa).f0, (rd_T55 AE Aa).f1⟩ : S55) [.int .i64 ((rd_T55 AE Aa).f0), .int .i64 ((rd_T55 AE Aa).f1)] (fun k_ => some k_ ≠ (.slice (some DW) AE.length LX : Value).ownBlock) (fun _ => False) rfl rfl ?aP (fun _ hk => hk.elim) ?aF ?aO ?aB ?aS ?aL ?_; (case aP => exact k55_mkM _ _ _ (⟨(rd_T55 AE Aa).f0, (rd_T55 AE Aa).f1⟩ : S55)); (case aB => exact (by repeat (first | (with_reducible first|exact HB.out|apply below_alloc|apply pw_below_drewN|apply below_drew1|refine below_set ?_ AX.out|refine below_set ?_ AZ.out|refine below_set ?_ CW.out)|exact HB.out))); (case aF => exact (fun k_ hk => Kd.fresh' (Kd.R_lt (by (with_reducible repeat (first|apply Kd.R_alloc|apply Kd.R_drewN|apply Kd.R_drew)); exact HO_154001.out)) k_ hk)); (case aO => exact (by (with_reducible repeat (first|apply Kd.R_alloc|apply Kd.R_drewN|apply Kd.R_drew)); exact HO_12.out)); (case aS => exact (below_size (by repeat (first | (with_reducible first|exact HB.out|apply below_alloc|apply pw_below_drewN|apply below_drew1|refine below_set ?_ AX.out|refine below_set ?_ AZ.out|refine below_set ?_ CW.out)|exact HB.out)))); (case aL => have := RA.out; omega); intro Vh Vi ho hb hg hat; rw [← RC.out] at ho; have n0_ := Aside0.mk (Kd.R_after (ok := (fun _ => True)) (by (with_reducible repeat (first|apply Kd.R_alloc|apply Kd.R_drewN|apply Kd.R_drew)); exact Kd.R_mono HO_154001.out (fun _ hk => ⟨trivial, hk⟩)) hg hat); have n1_ := Aside0.mk (Kd.R_over' (by (with_reducible repeat (first|apply Kd.R_alloc|apply Kd.R_drewN|apply Kd.R_drew)); exact HO_154003.out) (Kd.R_typed (by (with_reducible repeat (first|apply Kd.R_alloc|apply Kd.R_drewN|apply Kd.R_drew)); exact HO_12.out)) (by decide) hg); have n2_ := Aside0.mk (blk_grown (g := AY) (o := .cells #[.int .i64 0, .slice none 0 0, .int .i64 0, .slice none 0 0] 61 (0, 0)) (by (with_reducible repeat (first|refine dn_ ?_ _|refine dr_ ?_|refine al_ ?_ _)); exact AG.out) hg (Kd.R_ne HO_12.out AG.out (by decide))); have n3_ := Aside0.mk (blk_grown (g := AC) (o := .cells #[.int .i64 AM, .slice (some DW) AE.length LX, .int .i64 AN, AH] 61 (0, 0)) (by (with_reducible repeat (first|refine dn_ ?_ _|refine dr_ ?_|refine al_ ?_ _)); exact AB.out) hg (Kd.R_ne HO_12.out AB.out (by decide))); have n4_ := Aside0.mk (blk_grown (g := AP) (o := .cells #[.int .i64 ((rd_T53 l0 AA).f0), .int .i64 ((rd_T53 l0 AA).f1), .int .i64 ((rd_T53 l0 AA).f2), .int .i64 ((rd_T53 l0 AA).f3), .slice Ad ((rd_T53 l0 AA).f4).length Ae, .int .i64 ((rd_T53 l0 AA).f5.f0), .int .i64 ((rd_T53 l0 AA).f5.f1), .string ((rd_T53 l0 AA).f5.f2), .string ((rd_T53 l0 AA).f5.f3), .slice Bd ((rd_T53 l0 AA).f6).length Be, .slice BA ((rd_T53 l0 AA).f7).length BB] 53 (0, 0)) (by (with_reducible repeat (first|refine dn_ ?_ _|refine dr_ ?_|refine al_ ?_ _)); exact AO.out) hg (Kd.R_ne HO_12.out AO.out (by decide))); have n5_ := Aside0.mk (hb); have n6_ := Aside0.mk (ho); clear HO_154001; clear HO_154003; clear AG; clear AB; clear AO; clear HB; clear HO_12; have HO_154001 := n0_; have HO_154003 := n1_; have AG := n2_; have AB := n3_; have AO := n4_; have HB := n5_; have RN := n6_; clear n0_ n1_ n2_ n3_ n4_ n5_ n6_; clear ho hb hg hat))
                        go_roundg k7
                        case measure => have := HK1.out; have := DU.out; have := Ec.out; have := HK4.out; have := Ex.out; have := Iq.out; have := HK7.out; omega
                        case rel => exact ⟨(RB), (wrap64 (Aa + 1)), (by first | rfl | (simp; done) | (simp [*]; done)), H', ⟨by have := HK1.out; have := DU.out; have := Ec.out; have := HK4.out; have := Ex.out; have := Iq.out; have := HK7.out; omega⟩, ⟨by (with_reducible repeat (first|apply Kd.R_alloc|apply Kd.R_drewN|apply Kd.R_drew)); exact RN.out⟩, ⟨by (with_reducible repeat (first|apply Kd.R_alloc|apply Kd.R_drewN|apply Kd.R_drew)); exact Kd.R_mono HO_154001.out (fun _ hk => hk.2)⟩, ⟨by (with_reducible repeat (first|apply Kd.R_alloc|apply Kd.R_drewN|apply Kd.R_drew)); exact HO_154003.out⟩, ⟨by (with_reducible repeat (first|refine dn_ ?_ _|refine dr_ ?_|refine al_ ?_ _)); exact AG.out⟩, ⟨by (with_reducible repeat (first|refine dn_ ?_ _|refine dr_ ?_|refine al_ ?_ _)); exact AB.out⟩, ⟨by (with_reducible repeat (first|refine dn_ ?_ _|refine dr_ ?_|refine al_ ?_ _)); exact AO.out⟩, ⟨by repeat (first | (with_reducible first|exact HB.out|apply below_alloc|apply pw_below_drewN|apply below_drew1|refine below_set ?_ AX.out|refine below_set ?_ AZ.out|refine below_set ?_ CW.out)|exact HB.out)⟩⟩
                       ·rw [if_neg c96] at H
                        exact absurd H (by simp)
                     ·rw [if_neg c89] at H
                      exact absurd H (by simp)
                    ·rw [if_neg c88] at H
                     have Qx : decide (Aa < (AE.length : Int)) = false := decide_eq_false c88
                     clear c88
                     have H' := Aside0.mk H
                     clear H
                     have UW := Ab.out
                     have UX := AQ.out
                     have UY := AT.out
                     have UZ := DV.out
                     have RO : wr.cell? ⟨AC, 0, none⟩ = some (.int .i64 AM) := (blk_cell AB.out 0).trans rfl
                     have RP : wr.cell? ⟨AC, 1, none⟩ = some (AV) := (blk_cell AB.out 1).trans rfl
                     have RQ : wr.cell? ⟨AC, 2, none⟩ = some (.int .i64 AN) := (blk_cell AB.out 2).trans rfl
                     have RR : wr.cell? ⟨AC, 3, none⟩ = some (AH) := (blk_cell AB.out 3).trans rfl
                     have RS := blk_frozen AB.out 0
                     have RT := blk_frozen AB.out 1
                     have RU := blk_frozen AB.out 2
                     have RV := blk_frozen AB.out 3
                     obtain ⟨RW, RX, RY⟩ := Kd.R_slice HO_154001.out
                     subst RY
                     obtain ⟨MM, MN, RZ⟩ := Kd.R_slice HO_12.out
                     subst RZ
                     go_wp2
                     go_roundg k7
                     case measure => have := HK1.out; have := DU.out; have := Ec.out; have := HK4.out; have := Ex.out; have := Iq.out; have := HK7.out; omega
                     case rel => exact ⟨(wrap64 (AA + 1)), (Ds), (.slice MM Ds.length MN), (by first | rfl | (simp; done) | (simp [*]; done)), H', ⟨by have := HK1.out; have := DU.out; have := Ec.out; have := HK4.out; have := Ex.out; have := Iq.out; have := HK7.out; omega⟩, ⟨by (with_reducible repeat (first|apply Kd.R_alloc|apply Kd.R_drewN|apply Kd.R_drew)); exact Kd.R_mono (Kd.R_far (p := ⟨AC, 1, none⟩) (Kd.R_types HO_12.out AB.out (by decide)) (fun _ hk => hk.2) (.slice MM Ds.length MN)) (fun _ hk => trivial)⟩, ⟨by (with_reducible repeat (first|apply Kd.R_alloc|apply Kd.R_drewN|apply Kd.R_drew)); exact Kd.R_mono (Kd.R_far (p := ⟨AC, 1, none⟩) (Kd.R_types HO_154003.out AB.out (by decide)) (fun _ hk => hk.2) (.slice MM Ds.length MN)) (fun _ hk => trivial)⟩, ⟨by (with_reducible repeat (first|refine dn_ ?_ _|refine dr_ ?_|refine al_ ?_ _)); refine blk_far ?_ AQ.out _; (with_reducible repeat (first|refine dn_ ?_ _|refine dr_ ?_|refine al_ ?_ _)); exact AG.out⟩, ⟨by (with_reducible repeat (first|refine dn_ ?_ _|refine dr_ ?_|refine al_ ?_ _)); refine blk_put (cs := #[.int .i64 AM, .slice RW AE.length RX, .int .i64 AN, AH]) ?_ 1 _ rfl; (with_reducible repeat (first|refine dn_ ?_ _|refine dr_ ?_|refine al_ ?_ _)); exact AB.out⟩, ⟨by repeat (first | (with_reducible first|exact HB.out|apply below_alloc|apply pw_below_drewN|apply below_drew1|refine below_set ?_ AX.out|refine below_set ?_ AZ.out|refine below_set ?_ CW.out)|exact HB.out)⟩⟩
                 ·replace c85 := Bool.eq_false_iff.mpr c85
                  subst c85
                  have H1 : (gaugerref22_Read.l3 Lb l0 l1 (wrap64 (AA + 1)) AM AE AN AJ) = some (r1, r2, r3, r4) := by rw [if_neg (show ¬ (false = true) by decide)] at H; exact H
                  clear H
                  have H := H1
                  clear H1
                  have H' := Aside0.mk H
                  clear H
                  go_wp2
                  go_roundg Lb
                  case measure => have := HK1.out; have := DU.out; have := Ec.out; have := HK4.out; have := Ex.out; have := Iq.out; omega
                  case rel => exact ⟨(wrap64 (AA + 1)), (AE), (AV), (by first | rfl | (simp; done) | (simp [*]; done)), H', ⟨by have := HK1.out; have := DU.out; have := Ec.out; have := HK4.out; have := Ex.out; have := Iq.out; omega⟩, ⟨by (with_reducible repeat (first|apply Kd.R_alloc|apply Kd.R_drewN|apply Kd.R_drew)); exact HO_154001.out⟩, ⟨by (with_reducible repeat (first|apply Kd.R_alloc|apply Kd.R_drewN|apply Kd.R_drew)); exact HO_154003.out⟩, ⟨by (with_reducible repeat (first|refine dn_ ?_ _|refine dr_ ?_|refine al_ ?_ _)); exact AG.out⟩, ⟨by (with_reducible repeat (first|refine dn_ ?_ _|refine dr_ ?_|refine al_ ?_ _)); exact AB.out⟩, ⟨by repeat (first | (with_reducible first|exact HB.out|apply below_alloc|apply pw_below_drewN|apply below_drew1|refine below_set ?_ AX.out|refine below_set ?_ AZ.out|refine below_set ?_ CW.out)|exact HB.out)⟩⟩
           ·rw [if_neg c67] at H
            exact absurd H (by simp)
          ·rw [if_neg c66] at H
           have LQ : decide (AA < (l0.length : Int)) = false := decide_eq_false c66
           clear c66
           simp only [Option.some.injEq, Prod.mk.injEq] at H
           obtain ⟨rfl, rfl, rfl, rfl⟩ := H
           have Ua := Ab.out
           have Ub := AQ.out
           have Ra : wr.cell? ⟨AC, 0, none⟩ = some (.int .i64 AM) := (blk_cell AB.out 0).trans rfl
           have Rb : wr.cell? ⟨AC, 1, none⟩ = some (AV) := (blk_cell AB.out 1).trans rfl
           have Rc : wr.cell? ⟨AC, 2, none⟩ = some (.int .i64 AN) := (blk_cell AB.out 2).trans rfl
           have Rd : wr.cell? ⟨AC, 3, none⟩ = some (AH) := (blk_cell AB.out 3).trans rfl
           have Re := blk_frozen AB.out 0
           have Rf := blk_frozen AB.out 1
           have Rg := blk_frozen AB.out 2
           have Rh := blk_frozen AB.out 3
           have Ri : wr.cell? ⟨AY, 0, none⟩ = some (.int .i64 0) := (blk_cell AG.out 0).trans rfl
           have Rj : wr.cell? ⟨AY, 1, none⟩ = some (.slice none 0 0) := (blk_cell AG.out 1).trans rfl
           have Rl : wr.cell? ⟨AY, 2, none⟩ = some (.int .i64 0) := (blk_cell AG.out 2).trans rfl
           have Rm : wr.cell? ⟨AY, 3, none⟩ = some (.slice none 0 0) := (blk_cell AG.out 3).trans rfl
           have Rn := blk_frozen AG.out 0
           have Ro := blk_frozen AG.out 1
           have Rp := blk_frozen AG.out 2
           have Rq := blk_frozen AG.out 3
           obtain ⟨It, Iu, Rr⟩ := Kd.R_slice HO_154001.out
           subst Rr
           obtain ⟨MO, MP, Rs⟩ := Kd.R_slice HO_154003.out
           subst Rs
           go_wp2
           refine bodyPost_ret (results_cell_row rfl _ _ AY 61 #[.int .i64 AM, .slice It AE.length Iu, .int .i64 AN, .slice MO AJ.length MP] (0, 0) _ rfl (by (with_reducible repeat (first|refine dn_ ?_ _|refine dr_ ?_|refine al_ ?_ _)); refine blk_put (cs := #[.int .i64 AM, .slice It AE.length Iu, .int .i64 AN, .slice none 0 0]) ?_ 3 _ rfl; (with_reducible repeat (first|refine dn_ ?_ _|refine dr_ ?_|refine al_ ?_ _)); refine blk_put (cs := #[.int .i64 AM, .slice It AE.length Iu, .int .i64 0, .slice none 0 0]) ?_ 2 _ rfl; (with_reducible repeat (first|refine dn_ ?_ _|refine dr_ ?_|refine al_ ?_ _)); refine blk_put (cs := #[.int .i64 AM, .slice none 0 0, .int .i64 0, .slice none 0 0]) ?_ 1 _ rfl; (with_reducible repeat (first|refine dn_ ?_ _|refine dr_ ?_|refine al_ ?_ _)); refine blk_put (cs := #[.int .i64 0, .slice none 0 0, .int .i64 0, .slice none 0 0]) ?_ 0 _ rfl; (with_reducible repeat (first|refine dn_ ?_ _|refine dr_ ?_|refine al_ ?_ _)); exact AG.out) Try.underlying61 rfl (by kernel_rfl)) rfl ?_
           exact ⟨_, _, by first | rfl | (simp [errW_none, errW_some] <;> rfl) | (simp [*, errW_none, errW_some] <;> rfl), by (with_reducible repeat (first|apply Kd.R_alloc|apply Kd.R_drewN|apply Kd.R_drew)); exact Kd.R_mono (Kd.R_far (p := ⟨AY, 3, none⟩) (Kd.R_far (p := ⟨AY, 2, none⟩) (Kd.R_far (p := ⟨AY, 1, none⟩) (Kd.R_far (p := ⟨AY, 0, none⟩) (Kd.R_types HO_154001.out AG.out (by decide)) (fun _ hk => hk.2) (.int .i64 AM)) (fun _ hk => hk.2) (.slice It AE.length Iu)) (fun _ hk => hk.2) (.int .i64 AN)) (fun _ hk => hk.2) (.slice MO AJ.length MP)) (fun _ hk => trivial), by (with_reducible repeat (first|apply Kd.R_alloc|apply Kd.R_drewN|apply Kd.R_drew)); exact Kd.R_mono (Kd.R_far (p := ⟨AY, 3, none⟩) (Kd.R_far (p := ⟨AY, 2, none⟩) (Kd.R_far (p := ⟨AY, 1, none⟩) (Kd.R_far (p := ⟨AY, 0, none⟩) (Kd.R_types HO_154003.out AG.out (by decide)) (fun _ hk => hk.2) (.int .i64 AM)) (fun _ hk => hk.2) (.slice It AE.length Iu)) (fun _ hk => hk.2) (.int .i64 AN)) (fun _ hk => hk.2) (.slice MO AJ.length MP)) (fun _ hk => trivial), by repeat (first | (with_reducible first|exact HB.out|apply below_alloc|apply pw_below_drewN|apply below_drew1|refine below_set ?_ AX.out|refine below_set ?_ AZ.out)|exact HB.out)⟩

end Go.Proofs.Ytkcckhlchjmkkaa.PMark
