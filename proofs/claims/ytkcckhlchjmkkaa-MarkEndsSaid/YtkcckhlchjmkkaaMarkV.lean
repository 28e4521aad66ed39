/-
  LAYER 22: the reference's Read, as printed, comes to the specification of MarkR (plain: no walk).
-/
import Derived.Test.YtkcckhlchjmkkaaMarkU
import Derived.Test.YtkcckhlchjmkkaaMarkR
import Derived.Test.YtkcckhlchjmkkaaPMarkRd0
set_option linter.unusedVariables false
set_option linter.unusedSimpArgs false
namespace Go.Proofs.Ytkcckhlchjmkkaa
open Go.RowKit Go.Maps Go.Proofs.YtkcckhlchjmkkaaW.PrintWords Go.Proofs.YtkcckhlchjmkkaaW.PrintMore Go.Proofs.Ytkcckhlchjmkkaa.PMark

def recL (S : List Stp) : List Rec := S.map (·.f1)
def stmL (S : List Stp) : List Int := S.map (·.f0)
theorem recL_len (S : List Stp) : (recL S).length = S.length := by simp [recL]
theorem stmL_len (S : List Stp) : (stmL S).length = S.length := by simp [stmL]
theorem rd_recL (S : List Stp) (i : Nat) (h : i < S.length) : rd_T53 (recL S) (i : Int) = (stpAt S i).f1 := by
  show (recL S).getD i _ = (S.getD i _).f1
  unfold recL
  rw [List.getD_eq_getElem?_getD, List.getD_eq_getElem?_getD, List.getElem?_map, List.getElem?_eq_getElem h]
  rfl
theorem rd_stmL (S : List Stp) (i : Nat) (h : i < S.length) : rd (stmL S) (i : Int) = (stpAt S i).f0 := by
  show (stmL S).getD i 0 = (S.getD i _).f0
  unfold stmL
  rw [List.getD_eq_getElem?_getD, List.getD_eq_getElem?_getD, List.getElem?_map, List.getElem?_eq_getElem h]
  rfl
theorem mem_stp (S : List Stp) (i : Nat) (h : i < S.length) : stpAt S i ∈ S := by
  unfold stpAt
  rw [List.getD_eq_getElem?_getD, List.getElem?_eq_getElem h]
  exact List.getElem_mem _

/-! Loop 4: who is open without one. -/
theorem ev_l4 (S : List Stp) (i10 : Int) (o : List Opn) (st nx : Int) (cm : List Int) (k0 deal p q : Int) (g : List _) (u0 u1 : Int) (b0 b1 : ByteArray) (g1 : List Opn) (g2 : List Dty) (ho : o.length ≤ 10000000) (R : Int × List Opn × Int × List Int) :
    ∀ (d i : Nat) (acc : List Opn), i + d = o.length → acc.length ≤ i → Ev (fun k => gaugerref22_Read.l3 k (recL S) (stmL S) (wrap64 (i10 + 1)) st (acc ++ delO (o.drop i) deal) nx cm) R →
      Ev (fun k => gaugerref22_Read.l4 k (recL S) (stmL S) i10 acc (i : Int) st o nx cm k0 deal p q g u0 u1 b0 b1 g1 g2) R
  | 0, i, acc, h, ha, hR => by
    rw [List.drop_eq_nil_of_le (by omega)] at hR
    refine Ev.step (fun k => ?_) hR
    rw [gaugerref22_Read.l4, if_neg (by omega)]
    simp [delO]
  | d + 1, i, acc, h, ha, hR => by
    have hw : wrap64 ((i : Int) + 1) = ((i + 1 : Nat) : Int) := by unfold wrap64; omega
    rw [getD_drop o i z55 (by omega)] at hR
    by_cases he : (o.getD i z55).f0 = deal
    · refine Ev.step (fun k => ?_) (ev_l4 S i10 o st nx cm k0 deal p q g u0 u1 b0 b1 g1 g2 ho R d (i + 1) acc (by omega) (by omega) ?_)
      · rw [gaugerref22_Read.l4, if_pos (by omega), if_pos (by omega), rd_opn, if_pos he, hw]
      · have e : delO (o.getD i z55 :: o.drop (i + 1)) deal = delO (o.drop (i + 1)) deal := by unfold delO; rw [List.filter_cons, if_neg (by simpa using he)]
        rw [e] at hR
        exact hR
    · refine Ev.step (fun k => ?_) (ev_l4 S i10 o st nx cm k0 deal p q g u0 u1 b0 b1 g1 g2 ho R d (i + 1) (acc ++ [o.getD i z55]) (by omega) (by simp; omega) ?_)
      · rw [gaugerref22_Read.l4, if_pos (by omega), if_pos (by omega), rd_opn, if_neg he, if_pos (by omega), hw]
      · have e : acc ++ delO (o.getD i z55 :: o.drop (i + 1)) deal = acc ++ [o.getD i z55] ++ delO (o.drop (i + 1)) deal := by unfold delO; rw [List.filter_cons, if_pos (by simpa using he)]; simp
        rw [e] at hR
        exact hR
/-! Loop 3: the records behind the checkpoint. -/
theorem ev_l3 (S : List Stp) (hS : S.length ≤ 1000) (st nx : Int) (cm : List Int) : ∀ (d i : Nat) (o : List Opn), i + d = S.length → Ris o → o.length + d ≤ 10000000 →
      Ev (fun k => gaugerref22_Read.l3 k (recL S) (stmL S) (i : Int) st o nx cm) (st, (S.drop i).foldl (fun l x => stepO l x.f0 x.f1.f0 x.f1.f1) o, nx, cm)
  | 0, i, o, h, hr, ho => by
    refine Ev.one fun k => ?_
    rw [gaugerref22_Read.l3, if_neg (by rw [recL_len]; omega), List.drop_eq_nil_of_le (by omega)]
    rfl
  | d + 1, i, o, h, hr, ho => by
    have hw : wrap64 ((i : Int) + 1) = ((i + 1 : Nat) : Int) := by unfold wrap64; omega
    have hd : S.drop i = stpAt S i :: S.drop (i + 1) := getD_drop S i _ (by omega)
    have hn : (recL S).length = S.length := recL_len S
    have hm : (stmL S).length = S.length := stmL_len S
    have ih := ev_l3 S hS st nx cm d (i + 1) (stepO o (stpAt S i).f0 (stpAt S i).f1.f0 (stpAt S i).f1.f1) (by omega) (ris_step hr _ _ _) (by have := stepO_len o (stpAt S i).f0 (stpAt S i).f1.f0 (stpAt S i).f1.f1; omega)
    rw [hd, List.foldl_cons]
    rw [← hw] at ih
    refine Ev.step (f := fun k => gaugerref22_Read.j6 k (recL S) (stmL S) (i : Int) (stpAt S i).f1.f0 (if (stpAt S i).f1.f0 = 1 then (stpAt S i).f1.f0 == 1 else (stpAt S i).f1.f0 == 2) st o nx cm (stpAt S i).f1.f0 (stpAt S i).f1.f1 (stpAt S i).f1.f2 (stpAt S i).f1.f3 (stpAt S i).f1.f4 (stpAt S i).f1.f5.f0 (stpAt S i).f1.f5.f1 (stpAt S i).f1.f5.f2 (stpAt S i).f1.f5.f3 (stpAt S i).f1.f6 (stpAt S i).f1.f7) (fun k => ?_) ?_
    · rw [gaugerref22_Read.l3, if_pos (by omega), if_pos (by omega), rd_recL S i (by omega)]
      split <;> rfl
    · by_cases h1 : (stpAt S i).f1.f0 = 1 ∨ (stpAt S i).f1.f0 = 2
      · have hst : stepO o (stpAt S i).f0 (stpAt S i).f1.f0 (stpAt S i).f1.f1 = putO o ⟨(stpAt S i).f1.f1, (stpAt S i).f0⟩ := by unfold stepO; rw [if_pos h1]
        rw [hst] at ih ⊢
        refine Ev.step (fun k => ?_) (Ev.bind (f := fun k t => gaugerref22_Read.l3 k (recL S) (stmL S) (wrap64 ((i : Int) + 1)) st t nx cm) (ev_set o (stpAt S i).f1.f1 (stpAt S i).f0 (by omega) hr) ih)
        rw [gaugerref22_Read.j6, if_pos (by split <;> simp_all), if_pos (by omega), if_pos (by omega), rd_stmL S i (by omega)]
      · refine Ev.step (f := fun k => gaugerref22_Read.j7 k (recL S) (stmL S) (i : Int) (if (stpAt S i).f1.f0 = 3 then (stpAt S i).f1.f0 == 3 else (stpAt S i).f1.f0 == 4) st o nx cm (stpAt S i).f1.f0 (stpAt S i).f1.f1 (stpAt S i).f1.f2 (stpAt S i).f1.f3 (stpAt S i).f1.f4 (stpAt S i).f1.f5.f0 (stpAt S i).f1.f5.f1 (stpAt S i).f1.f5.f2 (stpAt S i).f1.f5.f3 (stpAt S i).f1.f6 (stpAt S i).f1.f7) (fun k => ?_) ?_
        · rw [gaugerref22_Read.j6, if_neg (by split <;> simp_all)]
          split <;> rfl
        · by_cases h3 : (stpAt S i).f1.f0 = 3 ∨ (stpAt S i).f1.f0 = 4
          · have hst : stepO o (stpAt S i).f0 (stpAt S i).f1.f0 (stpAt S i).f1.f1 = delO o (stpAt S i).f1.f1 := by unfold stepO; rw [if_neg h1, if_pos h3]
            rw [hst] at ih ⊢
            refine Ev.step (fun k => ?_) (ev_l4 S i o st nx cm (stpAt S i).f1.f0 (stpAt S i).f1.f1 (stpAt S i).f1.f2 (stpAt S i).f1.f3 (stpAt S i).f1.f4 (stpAt S i).f1.f5.f0 (stpAt S i).f1.f5.f1 (stpAt S i).f1.f5.f2 (stpAt S i).f1.f5.f3 (stpAt S i).f1.f6 (stpAt S i).f1.f7 (by omega) _ o.length 0 [] (by omega) (by simp) ih)
            rw [gaugerref22_Read.j7, if_pos (by split <;> simp_all)]
            rfl
          · have hst : stepO o (stpAt S i).f0 (stpAt S i).f1.f0 (stpAt S i).f1.f1 = o := by unfold stepO; rw [if_neg h1, if_neg h3]
            rw [hst] at ih ⊢
            refine Ev.step (fun k => ?_) ih
            rw [gaugerref22_Read.j7, if_neg (by split <;> simp_all)]
/-! Loops 2 and 1: the checkpoint. -/
theorem ev_j4 (S : List Stp) (hS : S.length ≤ 1000) (a : Int) (ha : -1 ≤ a ∧ a < S.length) (st nx : Int) (cm : List Int) (o : List Opn) (hr : Ris o) (ho : o.length ≤ 2000000) :
      Ev (fun k => gaugerref22_Read.j4 k (recL S) (stmL S) a st o nx cm) (st, (S.drop (a + 1).toNat).foldl (fun l x => stepO l x.f0 x.f1.f0 x.f1.f1) o, nx, cm) := by
  have hw : wrap64 (a + 1) = (((a + 1).toNat : Nat) : Int) := by unfold wrap64; omega
  refine Ev.step (fun k => ?_) (ev_l3 S hS st nx cm (S.length - (a + 1).toNat) (a + 1).toNat o (by omega) hr (by omega))
  rw [gaugerref22_Read.j4, hw]
theorem ev_l2 (S : List Stp) (hS : S.length ≤ 1000) (m : Nat) (hm : m < S.length) (st : Int) (cm : List Int) (F : List Opn) (hF : (stpAt S m).f1.f6 = F) (hl : F.length ≤ 1000000) : ∀ (d i : Nat) (o : List Opn) (nx : Int), i + d = F.length → Ris o → o.length ≤ i →
      Ev (fun k => gaugerref22_Read.l2 k (recL S) (stmL S) (m : Int) (i : Int) st o nx cm) (st, (S.drop (m + 1)).foldl (fun l x => stepO l x.f0 x.f1.f0 x.f1.f1) ((F.drop i).foldl putO o), (F.drop i).foldl (fun a o => mx a (wrap64 (o.f0 + 1))) nx, cm)
  | 0, i, o, nx, h, hr, ho => by
    have := ev_j4 S hS m (by omega) st nx cm o hr (by omega)
    rw [show ((m : Int) + 1).toNat = m + 1 from by omega] at this
    rw [List.drop_eq_nil_of_le (by omega)]
    refine Ev.step (fun k => ?_) this
    rw [gaugerref22_Read.l2, if_pos (by omega), if_pos (by rw [recL_len]; omega), rd_recL S m hm, hF, if_neg (by omega)]
  | d + 1, i, o, nx, h, hr, ho => by
    have hw : wrap64 ((i : Int) + 1) = ((i + 1 : Nat) : Int) := by unfold wrap64; omega
    have hd : F.drop i = F.getD i z55 :: F.drop (i + 1) := getD_drop F i _ (by omega)
    have ih := ev_l2 S hS m hm st cm F hF hl d (i + 1) (putO o (F.getD i z55)) (mx nx (wrap64 ((F.getD i z55).f0 + 1))) (by omega) (ris_put hr _) (by have := putO_len o (F.getD i z55); omega)
    rw [hd, List.foldl_cons, List.foldl_cons]
    rw [← hw] at ih
    refine Ev.step (fun k => ?_) (Ev.bind (f := fun k t => gaugerref22_Read.l2 k (recL S) (stmL S) (m : Int) (wrap64 ((i : Int) + 1)) st t (mx nx (wrap64 ((F.getD i z55).f0 + 1))) cm) (ev_set o (F.getD i z55).f0 (F.getD i z55).f1 (by omega) hr) ih)
    rw [gaugerref22_Read.l2, if_pos (by omega), if_pos (by rw [recL_len]; omega), rd_recL S m hm, hF, if_pos (by omega), if_pos (by omega), rd_opn]
theorem ev_l1 (S : List Stp) (hS : S.length ≤ 1000) (m : Nat) (hm : m < S.length) (nx : Int) (cm : List Int) (hl : (stpAt S m).f1.f6.length ≤ 1000000) (D : List Dty) (hD : (stpAt S m).f1.f7 = D) (hl7 : D.length ≤ 1000000) : ∀ (d i : Nat) (st : Int), i + d = D.length →
      Ev (fun k => gaugerref22_Read.l1 k (recL S) (stmL S) (m : Int) (i : Int) st nx cm) (leastD st (D.drop i), (S.drop (m + 1)).foldl (fun l x => stepO l x.f0 x.f1.f0 x.f1.f1) ((stpAt S m).f1.f6.foldl putO []), (stpAt S m).f1.f6.foldl (fun a o => mx a (wrap64 (o.f0 + 1))) nx, cm)
  | 0, i, st, h => by
    have := ev_l2 S hS m hm st cm _ rfl hl (stpAt S m).f1.f6.length 0 [] nx (by omega) List.Pairwise.nil (by simp)
    rw [List.drop_zero] at this
    rw [List.drop_eq_nil_of_le (by omega)]
    refine Ev.step (fun k => ?_) this
    rw [gaugerref22_Read.l1, if_pos (by omega), if_pos (by rw [recL_len]; omega), rd_recL S m hm, hD, if_neg (by omega)]
    rfl
  | d + 1, i, st, h => by
    have hw : wrap64 ((i : Int) + 1) = ((i + 1 : Nat) : Int) := by unfold wrap64; omega
    have hd : D.drop i = D.getD i z72 :: D.drop (i + 1) := getD_drop D i _ (by omega)
    have ih := ev_l1 S hS m hm nx cm hl D hD hl7 d (i + 1) (mn st (D.getD i z72).f1) (by omega)
    rw [hd]
    rw [← hw] at ih
    refine Ev.step (fun k => ?_) ih
    rw [gaugerref22_Read.l1, if_pos (by omega), if_pos (by rw [recL_len]; omega), rd_recL S m hm, hD, if_pos (by omega), if_pos (by omega), rd_dty]
/-! The first loop; all. -/
def nextL (S : List Stp) (k : Nat) : Int := (S.take k).foldl (fun a x => mx a (wrap64 (x.f1.f1 + 1))) 1
theorem fold_mx {α : Type} (f : α → Int) : ∀ (l : List α) (a b : Int), l.foldl (fun a x => mx a (f x)) (mx a b) = mx (l.foldl (fun a x => mx a (f x)) a) b
  | [], a, b => rfl
  | y :: r, a, b => by
    rw [List.foldl_cons, List.foldl_cons, show mx (mx a b) (f y) = mx (mx a (f y)) b from by unfold mx; omega, fold_mx f r]
theorem fold_mx2 {α β : Type} (f : α → Int) (g : β → Int) : ∀ (m : List β) (l : List α) (a : Int), m.foldl (fun a x => mx a (g x)) (l.foldl (fun a x => mx a (f x)) a) = l.foldl (fun a x => mx a (f x)) (m.foldl (fun a x => mx a (g x)) a)
  | [], l, a => rfl
  | y :: r, l, a => by rw [List.foldl_cons, List.foldl_cons, ← fold_mx f, fold_mx2 f g r]
theorem nextL_snoc (S : List Stp) (k : Nat) (h : k < S.length) : nextL S (k + 1) = mx (nextL S k) (wrap64 ((stpAt S k).f1.f1 + 1)) := by
  unfold nextL
  rw [take_snoc S k h, List.foldl_append]
  rfl
theorem ev_l0 (S : List Stp) (hS : OkS S) : ∀ (d i : Nat), i + d = S.length → Ev (fun k => gaugerref22_Read.l0 k (recL S) (stmL S) (lastS S i) (i : Int) 0 (nextL S i) (commN S i)) (startS S (atS S), openN S S.length, nextN S S.length, commN S S.length)
  | 0, i, h => by
    obtain rfl : i = S.length := by omega
    have hr := lastS_range S S.length
    have hn : nextN S S.length = (openAt S).foldl (fun a o => mx a (wrap64 (o.f0 + 1))) (nextL S S.length) := by
      unfold nextN nextL next0
      exact (fold_mx2 (fun x : Stp => wrap64 (x.f1.f1 + 1)) (fun o : Opn => wrap64 (o.f0 + 1)) (openAt S) _ 1).symm
    have hstart : Ev (fun k => gaugerref22_Read.j1 k (recL S) (stmL S) (lastS S S.length) (if S = [] then 0 else (stpAt S 0).f0) (nextL S S.length) (commN S S.length)) (startS S (atS S), openN S S.length, nextN S S.length, commN S S.length) := by
      rcases hr with hr | ⟨h0, h1⟩
      · have := ev_j4 S hS.1 (-1) (by omega) (if S = [] then 0 else (stpAt S 0).f0) (nextL S S.length) (commN S S.length) [] List.Pairwise.nil (by simp)
        have e1 : startS S (atS S) = if S = [] then 0 else (stpAt S 0).f0 := by unfold startS atS; rw [hr]; simp
        have e2 : openN S S.length = (S.drop 0).foldl (fun l x => stepO l x.f0 x.f1.f0 x.f1.f1) [] := by unfold openN base0 openAt atS; rw [hr, List.take_length]; simp
        have e3 : openAt S = [] := by unfold openAt atS; rw [hr]; simp
        rw [e3] at hn
        rw [e1, e2, hn]
        refine Ev.step (fun k => ?_) this
        rw [gaugerref22_Read.j1, hr, if_neg (by omega)]
      · obtain ⟨m, hm⟩ := Int.eq_ofNat_of_zero_le h0
        have hml : m < S.length := by omega
        have hx := hS.2 _ (mem_stp S m hml)
        have := ev_l1 S hS.1 m hml (nextL S S.length) (commN S S.length) hx.2.1 _ rfl hx.1 (stpAt S m).f1.f7.length 0 (stpAt S m).f0 (by omega)
        have hne : ¬ S = [] := fun e => by rw [e] at hml; simp at hml
        have e1 : startS S (atS S) = leastD (stpAt S m).f0 ((stpAt S m).f1.f7.drop 0) := by unfold startS atS; rw [hm, if_neg hne, if_neg (by omega)]; rfl
        have e3 : openAt S = (stpAt S m).f1.f6 := by unfold openAt atS; rw [hm, if_neg (by omega)]; rfl
        have e2 : openN S S.length = (S.drop (m + 1)).foldl (fun l x => stepO l x.f0 x.f1.f0 x.f1.f1) ((stpAt S m).f1.f6.foldl putO []) := by
          unfold openN base0
          rw [e3, List.take_length, show (atS S + 1).toNat = m + 1 from by unfold atS; omega]
        rw [e3] at hn
        rw [e1, e2, hn]
        refine Ev.step (fun k => ?_) this
        rw [gaugerref22_Read.j1, hm, if_pos (by omega), if_pos (by omega), if_pos (by rw [stmL_len]; omega), rd_stmL S m hml]
        rfl
    refine Ev.step (fun k => ?_) hstart
    rw [gaugerref22_Read.l0, if_neg (by rw [recL_len]; omega)]
    by_cases he : S = []
    · rw [if_neg (by rw [recL_len, he]; simp), if_pos he]
    · have hp : 0 < S.length := List.length_pos_iff.2 he
      rw [if_pos (by rw [recL_len]; omega), if_pos (by rw [stmL_len]; omega), if_neg he]
      have := rd_stmL S 0 hp
      rw [show ((0 : Nat) : Int) = 0 from rfl] at this
      rw [this]
  | d + 1, i, h => by
    have hS0 := hS.1
    have hw : wrap64 ((i : Int) + 1) = ((i + 1 : Nat) : Int) := by unfold wrap64; omega
    have ih := ev_l0 S hS d (i + 1) (by omega)
    rw [nextL_snoc S i (by omega), lastS] at ih
    rw [← hw] at ih
    refine Ev.step (fun k => ?_) ih
    have hcl := commN_len S i
    rw [gaugerref22_Read.l0, if_pos (by rw [recL_len]; omega), if_pos (by omega), rd_recL S i (by omega)]
    by_cases h6 : (stpAt S i).f1.f0 = 6
    · have h3 : ¬ (stpAt S i).f1.f0 = 3 := by omega
      rw [if_pos h6, if_pos h6, if_neg h3, commN_no S i (by omega) (by simpa using h3)]
    · rw [if_neg h6, if_neg h6]
      by_cases h3 : (stpAt S i).f1.f0 = 3
      · rw [if_pos h3, if_pos (by omega), commN_yes S i (by omega) (by simpa using h3)]
      · rw [if_neg h3, commN_no S i (by omega) (by simpa using h3)]
theorem ev_Read (S : List Stp) (hS : OkS S) : Ev (fun k => gaugerref22_Read.f k (recL S) (stmL S)) (startS S (atS S), openN S S.length, nextN S S.length, commN S S.length) :=
  ev_l0 S hS S.length 0 (by omega)
end Go.Proofs.Ytkcckhlchjmkkaa
