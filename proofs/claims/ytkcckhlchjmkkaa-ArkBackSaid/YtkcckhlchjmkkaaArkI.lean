/-
 LAYER 35, PLAIN: all tables as bytes; ark.isGood; the seal; Pack and Unpack come to an end, there and back (no walk).
-/
import Derived.Test.YtkcckhlchjmkkaaArkM
set_option linter.unusedVariables false
set_option linter.unusedSimpArgs false
namespace Go.Proofs.Ytkcckhlchjmkkaa
open Go.RowKit Go.Shelf Go.Proofs.YtkcckhlchjmkkaaW.PrintWords Go.Proofs.YtkcckhlchjmkkaaW.PrintMore Go.Proofs.Ytkcckhlchjmkkaa.PArk

/-- Each table's rows fit the plan's table. -/
def fitTabs : List S134 → List (List (List Vl)) → Prop
 | [], [] => True
 | t :: T, x :: X => (t.f0.length ≤ 4 ∧ fitRows t.f0.length x) ∧ fitTabs T X
 | _, _ => False
theorem unp_fwd : ∀ (T : List S134) (tabs : List (List (List Vl))) (tail : List UInt8) (out : List (List (List Vl))), fitTabs T tabs → out.length + T.length ≤ 1000000 →
  Ev (fun k => unpL k T (ofL (packB tabs ++ tail)) false out) (out ++ tabs, ofL tail, false)
 | [], [], tail, out, _, _ => by
  refine Ev.congr (fun k => ?_) (Ev.now _)
  rw [unpL]
  simp [packB]
 | t :: T, x :: X, tail, out, h, hl => by
  have e : packB (x :: X) ++ tail = tabB x ++ (packB X ++ tail) := by
   show tabB x ++ packB X ++ tail = _
   rw [List.append_assoc]
  rw [List.length_cons] at hl
  have ih := unp_fwd T X tail (out ++ [x]) h.2 (by simp; omega)
  rw [e, show out ++ x :: X = out ++ [x] ++ X by simp]
  refine Ev.congr (f := fun k => (eyeRows k (ofL (tabB x ++ (packB X ++ tail))) false (t.f0.length : Int)).bind fun u => if out.length < 4398046511104 then unpL k T u.2.1 u.2.2 (out ++ [u.1]) else none) (fun k => rfl) ?_
  refine Ev.bind (rows_fwd t.f0.length h.1.1 x (packB X ++ tail) h.1.2) ?_
  refine Ev.congr (fun k => ?_) ih
  rw [if_pos (by omega)]
 | [], _ :: _, _, _, h, _ => h.elim
 | _ :: _, [], _, _, h, _ => h.elim
theorem unp_bwd : ∀ (T : List S134) (rest : ByteArray) (bad : Bool) (out : List (List (List Vl))), (∀ t ∈ T, t.f0.length ≤ 4) → out.length + T.length ≤ 1000000 →
  ∃ r, Ev (fun k => unpL k T rest bad out) r ∧ r.1.length = out.length + T.length ∧ (∀ x ∈ r.1, x ∈ out ∨ x.length ≤ 65535) ∧ (r.2.2 = false → bad = false ∧ ∃ tabs, r.1 = out ++ tabs ∧ (∀ x ∈ tabs, ∀ y ∈ x, y.length ≤ 4) ∧ rest.data.toList = packB tabs ++ r.2.1.data.toList)
 | [], rest, bad, out, _, _ => ⟨(out, rest, bad), Ev.now _, rfl, fun x hx => .inl hx, fun hb => ⟨hb, [], by simp, (fun x hx => by cases hx), by simp [packB]⟩⟩
 | t :: T, rest, bad, out, h, hl => by
  rw [List.length_cons] at hl
  obtain ⟨u, u1, u2, u3⟩ := rows_bwd t.f0.length (h t (by simp)) rest bad
  obtain ⟨r, r1, r2, r3, r4⟩ := unp_bwd T u.2.1 u.2.2 (out ++ [u.1]) (fun x hx => h x (by simp [hx])) (by simp; omega)
  refine ⟨r, ?_, by rw [r2]; simp; omega, ?_, ?_⟩
  ·refine Ev.congr (f := fun k => (eyeRows k rest bad (t.f0.length : Int)).bind fun u => if out.length < 4398046511104 then unpL k T u.2.1 u.2.2 (out ++ [u.1]) else none) (fun k => rfl) ?_
   refine Ev.bind u1 ?_
   refine Ev.congr (fun k => ?_) r1
   rw [if_pos (by omega)]
  ·intro x hx
   rcases r3 x hx with hx | hx
   ·rcases List.mem_append.1 hx with hx | hx
    ·exact .inl hx
    ·rw [List.mem_singleton.1 hx]
     exact .inr u2
   ·exact .inr hx
  ·intro hb
   obtain ⟨b2, tabs, e1, e4, e2⟩ := r4 hb
   obtain ⟨b1, e5, e3⟩ := u3 b2
   refine ⟨b1, u.1 :: tabs, by rw [e1]; simp, ?_, ?_⟩
   ·intro x hx
    rcases List.mem_cons.1 hx with rfl | hx
    ·exact fun y hy => (e5 y hy).1
    ·exact e4 x hx
   show _ = tabB u.1 ++ packB tabs ++ r.2.1.data.toList
   rw [List.append_assoc, ← e2, e3]

theorem or_total (x : Int) (l : List Int) (hl : l.length ≤ 1000) : ∀ d i : Nat, i + d = l.length → ∃ r, Ev (fun k => cmp_Or_int.l0 k x l (l.length : Int) (i : Int)) r
 | 0, i, h => ⟨x, Ev.one fun k => by rw [cmp_Or_int.l0, if_neg (by omega)]⟩
 | d + 1, i, h => by
  have hw : wrap64 ((i : Int) + 1) = ((i + 1 : Nat) : Int) := by unfold wrap64; omega
  by_cases hx : rd l (i : Int) = x
  ·obtain ⟨r, hr⟩ := or_total x l hl d (i + 1) (by omega)
   exact ⟨r, Ev.step (fun k => by rw [cmp_Or_int.l0, if_pos (by omega), if_pos (by omega), if_pos (by omega), if_pos hx, hw]) hr⟩
  ·exact ⟨rd l (i : Int), Ev.one fun k => by rw [cmp_Or_int.l0, if_pos (by omega), if_pos (by omega), if_pos (by omega), if_neg hx]⟩
theorem cmpInt_total (a b : Int) : ∃ c, cmp_Compare_int.f a b = some c := by
 unfold cmp_Compare_int.f cmp_isNaN_int.f
 simp only [Option.bind_some]
 split
 ·split <;> exact ⟨_, rfl⟩
 ·split
  ·exact ⟨_, rfl⟩
  ·split
   ·exact ⟨_, rfl⟩
   ·split <;> exact ⟨_, rfl⟩
theorem compare_total (a b : Vl) : ∃ c, Ev (fun k => sign_Compare.f k a.f0 a.f1 a.f2 b.f0 b.f1 b.f2) c := by
 obtain ⟨c1, h1⟩ := cmpInt_total a.f0 b.f0
 obtain ⟨c2, h2⟩ := cmpInt_total a.f1 b.f1
 obtain ⟨c3, h3⟩ : ∃ c, cmp_Compare_string.f a.f2 b.f2 = some c := ⟨_, rfl⟩
 obtain ⟨c, hc⟩ := or_total 0 [c1, c2, c3] (by simp) 3 0 rfl
 have hj : ∀ x, ∃ c, Ev (fun k => sign_Compare.j0 k x a.f0 a.f1 a.f2 b.f0 b.f1 b.f2) c := by
  intro x
  cases x with
  | true => exact ⟨0, Ev.one fun k => by rw [sign_Compare.j0, if_pos rfl]⟩
  | false =>
   refine ⟨c, Ev.step (f := fun k => (cmp_Or_int.f k [c1, c2, c3]).bind fun t => some t) (fun k => ?_) ?_⟩
   ·rw [sign_Compare.j0, if_neg (by decide), h1, Option.bind_some, h2, Option.bind_some, h3, Option.bind_some]
   ·exact Ev.bind hc (Ev.now c)
 cases hg : goodV a with
 | true =>
  obtain ⟨c, hc⟩ := hj (!goodV b)
  refine ⟨c, Ev.congr (fun k => ?_) hc⟩
  unfold sign_Compare.f
  rw [good_is a, hg, Option.bind_some, if_pos rfl, good_is b, Option.bind_some]
 | false =>
  obtain ⟨c, hc⟩ := hj true
  refine ⟨c, Ev.congr (fun k => ?_) hc⟩
  unfold sign_Compare.f
  rw [good_is a, hg, Option.bind_some, if_neg (by decide)]
abbrev Tb' := S134
theorem fits_l0 (T : List Tb') (V : List S137) (t : Nat) (ht : t < T.length) (row : List Vl) (hlen : row.length = (rd_T134 T (t : Int)).f0.length) (hb : row.length ≤ 1000000) :
  ∀ d i : Nat, i + d = row.length → ∃ b, Ev (fun k => plan_Fits.l0 k (t : Int) row (row.length : Int) (i : Int) T V) b ∧ (b = 0 → (row.drop i).all goodV = true)
 | 0, i, h => ⟨0, Ev.one fun k => by rw [plan_Fits.l0, if_neg (by omega)], fun _ => by rw [List.drop_eq_nil_of_le (by omega)]; rfl⟩
 | d + 1, i, h => by
  have hw : wrap64 ((i : Int) + 1) = ((i + 1 : Nat) : Int) := by unfold wrap64; omega
  have hhead : ∀ k, plan_Fits.l0 (k + 1) (t : Int) row (row.length : Int) (i : Int) T V = if ((rd_T140 row (i : Int)).f0) = (rd ((rd_T134 T (t : Int)).f0) (i : Int)) then (if goodV (rd_T140 row (i : Int)) = true then plan_Fits.l0 k (t : Int) row (row.length : Int) ((i + 1 : Nat) : Int) T V else some 1) else some 1 := by
   intro k
   rw [plan_Fits.l0, if_pos (by omega), if_pos (by omega), if_pos (by omega), if_pos (by omega), if_pos (by omega), if_pos (by omega), good_is, Option.bind_some, hw]
  by_cases hk : ((rd_T140 row (i : Int)).f0) = (rd ((rd_T134 T (t : Int)).f0) (i : Int))
  ·by_cases hg : goodV (rd_T140 row (i : Int)) = true
   ·obtain ⟨b, h1, h2⟩ := fits_l0 T V t ht row hlen hb d (i + 1) (by omega)
    refine ⟨b, Ev.step (fun k => by rw [hhead, if_pos hk, if_pos hg]) h1, fun hb0 => ?_⟩
    have e : row.drop i = rd_T140 row (i : Int) :: row.drop (i + 1) := by
     rw [List.drop_eq_getElem_cons (by omega)]
     show _ = row.getD i _ :: _
     rw [List.getD_eq_getElem?_getD, List.getElem?_eq_getElem (by omega)]
     rfl
    rw [e, List.all_cons, hg, h2 hb0]
    rfl
   ·exact ⟨1, Ev.one fun k => by rw [hhead, if_pos hk, if_neg hg], fun hb0 => by cases hb0⟩
  ·exact ⟨1, Ev.one fun k => by rw [hhead, if_neg hk], fun hb0 => by cases hb0⟩
theorem fits_total (T : List Tb') (V : List S137) (t : Nat) (ht : t < T.length) (row : List Vl) (hb : row.length ≤ 1000000) :
  ∃ b, Ev (fun k => plan_Fits.f k T V (t : Int) row) b ∧ (b = 0 → row.length = (rd_T134 T (t : Int)).f0.length ∧ row.all goodV = true) := by
 have hf : ∀ k, plan_Fits.f k T V (t : Int) row = plan_Fits.j0 k (t : Int) row ((row.length : Int) != (((rd_T134 T (t : Int)).f0).length : Int)) T V := by
  intro k
  rw [plan_Fits.f, if_neg (by omega), if_neg (by omega), if_pos (by omega), if_pos (by omega)]
 by_cases hlen : row.length = (rd_T134 T (t : Int)).f0.length
 ·have hd : ((row.length : Int) != (((rd_T134 T (t : Int)).f0).length : Int)) = false := by simp [hlen]
  obtain ⟨b, h1, h2⟩ := fits_l0 T V t ht row hlen hb row.length 0 (by omega)
  refine ⟨b, Ev.congr (fun k => by rw [hf, hd]) (Ev.step (fun k => by rw [plan_Fits.j0, if_neg (by decide)]; rfl) h1), fun hb0 => ⟨hlen, ?_⟩⟩
  have := h2 hb0
  rwa [List.drop_zero] at this
 ·have hd : ((row.length : Int) != (((rd_T134 T (t : Int)).f0).length : Int)) = true := by simp; omega
  exact ⟨1, Ev.congr (fun k => by rw [hf, hd]) (Ev.one fun k => by rw [plan_Fits.j0, if_pos rfl]), fun hb0 => by cases hb0⟩

/-- What isGood's yes says of the rows (in rounds: from table t on). -/
def fitG : List Tb' → List (List (List Vl)) → Prop
 | [], [] => True
 | t :: T, x :: X => (x.length ≤ 1000 ∧ ∀ r ∈ x, r.length = t.f0.length ∧ r.all goodV = true) ∧ fitG T X
 | _, _ => False
def sumLen (tabs : List (List (List Vl))) : Nat := (tabs.map List.length).sum
theorem l1_total (T : List Tb') (V : List S137) (tabs : List (List (List Vl))) (hT : tabs.length = T.length) (hTl : T.length ≤ 100) (t : Nat) (ht : t < T.length) (hc : 1 ≤ (rd_T134 T (t : Int)).f0.length) (rows : List (List Vl)) (hr : rows.length ≤ 1000000) (hrow : ∀ r ∈ rows, r.length ≤ 1000000) (n : Int) (P : Prop) (hnext : ∃ b, Ev (fun k => ark_isGood.l0 k n tabs (tabs.length : Int) (((t + 1 : Nat)) : Int) T V) b ∧ (b = true → P)) :
  ∀ d i : Nat, i + d = rows.length → (0 < i → 0 < (rows.getD (i - 1) []).length) → ∃ b, Ev (fun k => ark_isGood.l1 k n (t : Int) rows tabs (tabs.length : Int) (t : Int) rows (rows.length : Int) (i : Int) T V) b ∧ (b = true → P ∧ ∀ r ∈ rows.drop i, r.length = (rd_T134 T (t : Int)).f0.length ∧ r.all goodV = true)
 | 0, i, h, _ => by
  obtain ⟨b, h1, h2⟩ := hnext
  have hw : wrap64 ((t : Int) + 1) = ((t + 1 : Nat) : Int) := by unfold wrap64; omega
  refine ⟨b, Ev.step (fun k => by rw [ark_isGood.l1, if_neg (by omega), hw]) h1, fun hb => ⟨h2 hb, fun r hr => ?_⟩⟩
  rw [List.drop_eq_nil_of_le (by omega)] at hr
  cases hr
 | d + 1, i, h, hprev => by
  have hw : wrap64 ((i : Int) + 1) = ((i + 1 : Nat) : Int) := by unfold wrap64; omega
  have hgd : rd_L10 rows (i : Int) = rows.getD i [] := rfl
  have hmem : rows.getD i [] ∈ rows := by
   rw [List.getD_eq_getElem?_getD, List.getElem?_eq_getElem (by omega)]
   exact List.getElem_mem _
  have hdr : rows.drop i = rows.getD i [] :: rows.drop (i + 1) := by
   rw [List.drop_eq_getElem_cons (by omega), List.getD_eq_getElem?_getD, List.getElem?_eq_getElem (by omega)]
   rfl
  obtain ⟨b0, f1, f2⟩ := fits_total T V t ht (rows.getD i []) (hrow _ hmem)
  by_cases hb0 : b0 = 0
  ·subst hb0
   obtain ⟨q1, q2⟩ := f2 rfl
   obtain ⟨b, h1, h2⟩ := l1_total T V tabs hT hTl t ht hc rows hr hrow n P hnext d (i + 1) (by omega) (fun _ => by rw [Nat.add_sub_cancel]; omega)
   have hyes : b = true → P ∧ ∀ r ∈ rows.drop i, r.length = (rd_T134 T (t : Int)).f0.length ∧ r.all goodV = true := by
    intro hb
    refine ⟨(h2 hb).1, fun r hr => ?_⟩
    rw [hdr] at hr
    rcases List.mem_cons.1 hr with rfl | hr
    ·exact ⟨q1, q2⟩
    ·exact (h2 hb).2 r hr
   by_cases hi : 0 < i
   ·have hw2 : wrap64 ((i : Int) - 1) = ((i - 1 : Nat) : Int) := by unfold wrap64; omega
    have hp := hprev hi
    obtain ⟨c, hcm⟩ := compare_total (rd_T140 (rd_L10 rows ((i - 1 : Nat) : Int)) 0) (rd_T140 (rd_L10 rows (i : Int)) 0)
    have hhead : ∀ k, ark_isGood.l1 (k + 1) n (t : Int) rows tabs (tabs.length : Int) (t : Int) rows (rows.length : Int) (i : Int) T V = (plan_Fits.f k T V (t : Int) (rows.getD i [])).bind fun t131 => if t131 = 0 then (sign_Compare.f k (rd_T140 (rd_L10 rows ((i - 1 : Nat) : Int)) 0).f0 (rd_T140 (rd_L10 rows ((i - 1 : Nat) : Int)) 0).f1 (rd_T140 (rd_L10 rows ((i - 1 : Nat) : Int)) 0).f2 (rd_T140 (rd_L10 rows (i : Int)) 0).f0 (rd_T140 (rd_L10 rows (i : Int)) 0).f1 (rd_T140 (rd_L10 rows (i : Int)) 0).f2).bind fun t135 => (if t135 ≥ 0 then some false else ark_isGood.l1 k n (t : Int) rows tabs (tabs.length : Int) (t : Int) rows (rows.length : Int) ((i + 1 : Nat) : Int) T V) else some false := by
     intro k
     rw [ark_isGood.l1, if_pos (by omega), if_pos (by omega), if_pos (by omega)]
     refine congrArg (fun f => Option.bind _ f) (funext fun z => ?_)
     by_cases hz : z = 0
     ·rw [if_pos hz, if_pos hz, if_pos (by omega), hw2, if_pos (by omega), if_pos (by omega), if_pos (show 0 < ((rd_L10 rows ((i - 1 : Nat) : Int)).length : Int) from by show 0 < (((rows.getD (i - 1) []).length : Nat) : Int); omega), if_pos (show 0 < ((rd_L10 rows (i : Int)).length : Int) from by show 0 < (((rows.getD i []).length : Nat) : Int); omega), hw]
     ·rw [if_neg hz, if_neg hz]
    by_cases hcc : c ≥ 0
    ·refine ⟨false, Ev.step (fun k => hhead k) (Ev.bind f1 ?_), fun hb => by cases hb⟩
     refine Ev.congr (fun k => if_pos rfl) (Ev.bind hcm ?_)
     refine Ev.congr (fun k => by rw [if_pos hcc]) (Ev.now false)
    ·refine ⟨b, Ev.step (fun k => hhead k) (Ev.bind f1 ?_), hyes⟩
     refine Ev.congr (fun k => if_pos rfl) (Ev.bind hcm ?_)
     exact Ev.congr (fun k => by rw [if_neg hcc]) h1
   ·refine ⟨b, Ev.step (f := fun k => (plan_Fits.f k T V (t : Int) (rows.getD i [])).bind fun t131 => if t131 = 0 then ark_isGood.l1 k n (t : Int) rows tabs (tabs.length : Int) (t : Int) rows (rows.length : Int) ((i + 1 : Nat) : Int) T V else some false) (fun k => ?_) (Ev.bind f1 (Ev.congr (fun k => if_pos rfl) h1)), hyes⟩
    rw [ark_isGood.l1, if_pos (by omega), if_pos (by omega), if_pos (by omega)]
    refine congrArg (fun f => Option.bind _ f) (funext fun z => ?_)
    by_cases hz : z = 0
    ·rw [if_pos hz, if_pos hz, if_neg (by omega), hw]
    ·rw [if_neg hz, if_neg hz]
  ·have hh : ∃ X : Nat → Option Bool, ∀ k, ark_isGood.l1 (k + 1) n (t : Int) rows tabs (tabs.length : Int) (t : Int) rows (rows.length : Int) (i : Int) T V = (plan_Fits.f k T V (t : Int) (rows.getD i [])).bind fun z => if z = 0 then X k else some false :=
    ⟨_, fun k => by rw [ark_isGood.l1, if_pos (by omega), if_pos (by omega), if_pos (by omega)]; rfl⟩
   obtain ⟨X, hX⟩ := hh
   exact ⟨false, Ev.step hX (Ev.bind f1 (Ev.congr (fun k => if_neg hb0) (Ev.now false))), fun hb => by cases hb⟩
theorem sumLen_cons (x : List (List Vl)) (X : List (List (List Vl))) : sumLen (x :: X) = x.length + sumLen X := by simp [sumLen]
theorem l0_total (T : List Tb') (V : List S137) (tabs : List (List (List Vl))) (hT : tabs.length = T.length) (hTl : T.length ≤ 100) (hc : ∀ t ∈ T, 1 ≤ t.f0.length) (hr : ∀ x ∈ tabs, x.length ≤ 1000000 ∧ ∀ r ∈ x, r.length ≤ 1000000) :
  ∀ d t n : Nat, t + d = T.length → n + sumLen (tabs.drop t) ≤ 1000000000 → ∃ b, Ev (fun k => ark_isGood.l0 k (n : Int) tabs (tabs.length : Int) (t : Int) T V) b ∧ (b = true → n + sumLen (tabs.drop t) ≤ 1000 ∧ fitG (T.drop t) (tabs.drop t))
 | 0, t, n, h, hn => by
  refine ⟨decide ((n : Int) ≤ 1000), Ev.one fun k => by rw [ark_isGood.l0, if_neg (by omega)], fun hb => ?_⟩
  have := of_decide_eq_true hb
  rw [List.drop_eq_nil_of_le (by omega), List.drop_eq_nil_of_le (by omega)]
  exact ⟨by simp [sumLen]; omega, trivial⟩
 | d + 1, t, n, h, hn => by
  have hgd : rd_L11 tabs (t : Int) = tabs.getD t [] := rfl
  have hmem : tabs.getD t [] ∈ tabs := by
   rw [List.getD_eq_getElem?_getD, List.getElem?_eq_getElem (by omega)]
   exact List.getElem_mem _
  have hdr : tabs.drop t = tabs.getD t [] :: tabs.drop (t + 1) := by
   rw [List.drop_eq_getElem_cons (by omega), List.getD_eq_getElem?_getD, List.getElem?_eq_getElem (by omega)]
   rfl
  have hdT : T.drop t = rd_T134 T (t : Int) :: T.drop (t + 1) := by
   rw [List.drop_eq_getElem_cons (by omega)]
   show _ = T.getD t _ :: _
   rw [List.getD_eq_getElem?_getD, List.getElem?_eq_getElem (by omega)]
   rfl
  have hmT : rd_T134 T (t : Int) ∈ T := by
   show T.getD t _ ∈ T
   rw [List.getD_eq_getElem?_getD, List.getElem?_eq_getElem (by omega)]
   exact List.getElem_mem _
  rw [hdr, sumLen_cons] at hn
  have hw : wrap64 ((n : Int) + ((rd_L11 tabs (t : Int)).length : Int)) = ((n + (tabs.getD t []).length : Nat) : Int) := by
   rw [hgd]
   unfold wrap64
   omega
  obtain ⟨b0, g1, g2⟩ := l0_total T V tabs hT hTl hc hr d (t + 1) (n + (tabs.getD t []).length) (by omega) (by omega)
  obtain ⟨b, h1, h2⟩ := l1_total T V tabs hT hTl t (by omega) (hc _ hmT) (tabs.getD t []) (hr _ hmem).1 (hr _ hmem).2 ((n + (tabs.getD t []).length : Nat) : Int) _ ⟨b0, g1, g2⟩ (tabs.getD t []).length 0 (by omega) (fun hh => absurd hh (Nat.lt_irrefl 0))
  refine ⟨b, Ev.step (fun k => by rw [ark_isGood.l0, if_pos (by omega), if_pos (by omega), if_pos (by omega), hw]; rfl) h1, fun hb => ?_⟩
  obtain ⟨⟨e1, e2⟩, e3⟩ := h2 hb
  rw [List.drop_zero] at e3
  rw [hdr, hdT, sumLen_cons]
  exact ⟨by omega, ⟨by omega, e3⟩, e2⟩
theorem okPlan_tabs {T : List Tb'} {V : List S137} (h : okPlan T V = true) : T.length ≤ 3 ∧ ∀ t ∈ T, 1 ≤ t.f0.length ∧ t.f0.length ≤ 4 := by
 unfold okPlan at h
 simp only [Bool.and_eq_true, decide_eq_true_eq, Bool.not_eq_true'] at h
 refine ⟨h.2.1, fun t ht => ?_⟩
 have h1 := h.2.2.2.1
 have := List.any_eq_false.1 h1 t ht
 unfold badTab okTab at this
 simp only [Bool.not_eq_true', Bool.not_eq_false, Bool.and_eq_true, decide_eq_true_eq] at this
 exact ⟨this.1, this.2.1⟩
/-- WHETHER TABLES CAN BE: it comes to an end, and what its yes says. -/
theorem isGood_total (T : List Tb') (V : List S137) (tabs : List (List (List Vl))) (hr : ∀ x ∈ tabs, x.length ≤ 1000000 ∧ ∀ r ∈ x, r.length ≤ 1000000) (hs : sumLen tabs ≤ 1000000000) (hl : tabs.length ≤ 1000000) :
  ∃ b, Ev (fun k => ark_isGood.f k T V tabs) b ∧ (b = true → okPlan T V = true ∧ fitG T tabs) := by
 have hj : ∀ k, ark_isGood.j0 (k + 1) tabs true T V = some false := fun k => by rw [ark_isGood.j0, if_pos rfl]
 cases hp : okPlan T V with
 | false =>
  refine ⟨false, Ev.congr (f := fun k => ark_isGood.j0 k tabs true T V) (fun k => ?_) (Ev.one hj), fun hb => by cases hb⟩
  rw [ark_isGood.f, plan_Good.f, hp, Option.bind_some, if_neg (by decide)]
 | true =>
  have hf : ∀ k, ark_isGood.f k T V tabs = ark_isGood.j0 k tabs ((tabs.length : Int) != (T.length : Int)) T V := fun k => by rw [ark_isGood.f, plan_Good.f, hp, Option.bind_some, if_pos rfl]
  by_cases hT : tabs.length = T.length
  ·obtain ⟨p1, p2⟩ := okPlan_tabs hp
   obtain ⟨b, h1, h2⟩ := l0_total T V tabs hT (by omega) (fun t ht => (p2 t ht).1) hr T.length 0 0 (by omega) (by rw [List.drop_zero]; omega)
   refine ⟨b, Ev.congr (fun k => by rw [hf, show ((tabs.length : Int) != (T.length : Int)) = false by simp [hT]]) (Ev.step (fun k => by rw [ark_isGood.j0, if_neg (by decide)]; rfl) h1), fun hb => ⟨rfl, ?_⟩⟩
   have := (h2 hb).2
   rwa [List.drop_zero, List.drop_zero] at this
  ·refine ⟨false, Ev.congr (fun k => by rw [hf, show ((tabs.length : Int) != (T.length : Int)) = true by simp; omega]) (Ev.one hj), fun hb => by cases hb⟩

theorem Ev.uniq {α : Type} {g : Nat → Option α} {a b : α} (h : Ev g a) (k : Ev g b) : a = b := by
 obtain ⟨K1, h⟩ := h
 obtain ⟨K2, k⟩ := k
 have h1 := h (K1 + K2) (by omega)
 have h2 := k (K1 + K2) (by omega)
 rw [h1] at h2
 exact Option.some.inj h2
theorem shifted_total : ∀ (d i : Nat) (x : Int), i + d = 8 → ∃ r, Ev (fun k => crc_shifted.l0 k x (i : Int)) r
 | 0, i, x, h => ⟨x, Ev.one fun k => by rw [crc_shifted.l0, if_neg (by omega)]⟩
 | d + 1, i, x, h => by
  have hw : wrap64 ((i : Int) + 1) = ((i + 1 : Nat) : Int) := by unfold wrap64; omega
  obtain ⟨r, hr⟩ := shifted_total d (i + 1) (Go.bits .xor .u32 (x / 2) (Go.bits .and .u32 3988292384 ((-(Go.bits .and .u32 x 1)) % 4294967296))) (by omega)
  exact ⟨r, Ev.step (fun k => by rw [crc_shifted.l0, if_pos (by omega), hw]) hr⟩
theorem sum_total (s : ByteArray) (hs : s.size ≤ 1000000000) : ∀ (d i : Nat) (x : Int), i + d = s.size → ∃ r, Ev (fun k => crc_Sum.l0 k s x (s.size : Int) (i : Int)) r
 | 0, i, x, h => ⟨_, Ev.one fun k => by rw [crc_Sum.l0, if_neg (by omega)]⟩
 | d + 1, i, x, h => by
  have hw : wrap64 ((i : Int) + 1) = ((i + 1 : Nat) : Int) := by unfold wrap64; omega
  obtain ⟨y, hy⟩ := shifted_total 8 0 (Go.bits .xor .u32 x ((bt s (i : Int)) % 4294967296)) rfl
  obtain ⟨r, hr⟩ := sum_total s hs d (i + 1) y (by omega)
  refine ⟨r, Ev.step (f := fun k => (crc_shifted.f k (Go.bits .xor .u32 x ((bt s (i : Int)) % 4294967296))).bind fun t => crc_Sum.l0 k s t (s.size : Int) ((i + 1 : Nat) : Int)) (fun k => by rw [crc_Sum.l0, if_pos (by omega), if_pos (by omega), if_pos (by omega), hw]) (Ev.bind hy hr)⟩
theorem le4_size (n : Int) : (strOfNums (le4 n)).size = 4 := by
 show ((le4 n).map fun n => UInt8.ofNat n.toNat).toArray.size = 4
 simp [le4]
/-- The seal: four bytes more. -/
theorem seal_total (s : ByteArray) (hs : s.size ≤ 1000000000) : ∃ x tl, Ev (fun k => crc_Seal.f k s) x ∧ x = s ++ tl ∧ tl.size = 4 := by
 obtain ⟨n, hn⟩ := sum_total s hs s.size 0 4294967295 (by omega)
 refine ⟨s ++ strOfNums (le4 n), strOfNums (le4 n), Ev.congr (fun k => rfl) (Ev.bind hn ?_), rfl, le4_size n⟩
 refine Ev.congr (fun k => ?_) (Ev.now _)
 rw [crc_Tail.f, Option.bind_some, if_pos (by rw [le4_size]; omega)]
theorem open_total (x : ByteArray) (hx : x.size ≤ 1000000000) : ∃ t ok, Ev (fun k => crc_Open.f k x) (t, ok) ∧ (ok = true → Ev (fun k => crc_Seal.f k t) x) := by
 by_cases h4 : x.size < 4
 ·exact ⟨_, false, Ev.congr (fun k => by rw [crc_Open.f, if_pos (by omega)]) (Ev.now _), fun h => by cases h⟩
 ·have hw : wrap64 ((x.size : Int) - 4) = ((x.size - 4 : Nat) : Int) := by unfold wrap64; omega
  obtain ⟨y, tl, h1, h2, h3⟩ := seal_total (x.extract 0 (x.size - 4)) (by rw [ByteArray.size_extract]; omega)
  by_cases hy : y.toList = x.toList
  ·refine ⟨x.extract 0 (x.size - 4), true, Ev.congr (f := fun k => (crc_Seal.f k (x.extract 0 (x.size - 4))).bind fun t => if t.toList = x.toList then some (x.extract 0 (x.size - 4), true) else some ((⟨#[]⟩ : ByteArray), false)) (fun k => ?_) (Ev.bind h1 (Ev.congr (fun k => if_pos hy) (Ev.now _))), fun _ => ?_⟩
   ·rw [crc_Open.f, if_neg (by omega), hw, if_pos (by omega), if_pos (by omega), Int.toNat_natCast]
   ·rw [toList_data, toList_data] at hy
    rw [bytes_ext hy] at h1
    exact h1
  ·refine ⟨_, false, Ev.congr (f := fun k => (crc_Seal.f k (x.extract 0 (x.size - 4))).bind fun t => if t.toList = x.toList then some (x.extract 0 (x.size - 4), true) else some ((⟨#[]⟩ : ByteArray), false)) (fun k => ?_) (Ev.bind h1 (Ev.congr (fun k => if_neg hy) (Ev.now _))), fun h => by cases h⟩
   rw [crc_Open.f, if_neg (by omega), hw, if_pos (by omega), if_pos (by omega), Int.toNat_natCast]
theorem open_seal {s x : ByteArray} (hs : s.size ≤ 900000000) (h : Ev (fun k => crc_Seal.f k s) x) : Ev (fun k => crc_Open.f k x) (s, true) := by
 obtain ⟨y, tl, h1, h2, h3⟩ := seal_total s (by omega)
 have hxy := Ev.uniq h h1
 have hx : x = s ++ tl := by rw [hxy, h2]
 have hsz : x.size = s.size + 4 := by rw [hx, ByteArray.size_append, h3]
 have he : x.extract 0 (x.size - 4) = s := by
  refine bytes_ext ?_
  rw [ext_data, hx, app_data, List.drop_zero, List.take_left']
  rw [Array.length_toList, ← hx, hsz]
  show s.data.size = _
  have : s.data.size = s.size := rfl
  omega
 have hw : wrap64 ((x.size : Int) - 4) = ((x.size - 4 : Nat) : Int) := by unfold wrap64; omega
 refine Ev.congr (f := fun k => (crc_Seal.f k s).bind fun t => if t.toList = x.toList then some (s, true) else some ((⟨#[]⟩ : ByteArray), false)) (fun k => ?_) (Ev.bind h (Ev.congr (fun k => if_pos rfl) (Ev.now _)))
 rw [crc_Open.f, if_neg (by omega), hw, if_pos (by omega), if_pos (by omega), Int.toNat_natCast, he]
theorem fitG_ok : ∀ (T : List Tb') (tabs : List (List (List Vl))), fitG T tabs → (∀ t ∈ T, t.f0.length ≤ 4) → tabs.all okRows = true ∧ tabs.length = T.length
 | [], [], _, _ => ⟨rfl, rfl⟩
 | t :: T, x :: X, h, hT => by
  obtain ⟨h1, h2⟩ := fitG_ok T X h.2 (fun y hy => hT y (by simp [hy]))
  have ht := hT t (by simp)
  refine ⟨?_, by simp [h2]⟩
  rw [List.all_cons, h1]
  have : okRows x = true := by
   unfold okRows
   rw [Bool.and_eq_true]
   refine ⟨decide_eq_true h.1.1, List.all_eq_true.2 fun r hr => ?_⟩
   unfold okRow
   rw [Bool.and_eq_true]
   exact ⟨decide_eq_true (by rw [(h.1.2 r hr).1]; exact ht), (h.1.2 r hr).2⟩
  rw [this]
  rfl
 | [], _ :: _, h, _ => h.elim
 | _ :: _, [], h, _ => h.elim
theorem fitG_fit : ∀ (T : List Tb') (tabs : List (List (List Vl))), fitG T tabs → (∀ t ∈ T, t.f0.length ≤ 4) → (∀ x ∈ tabs, ∀ r ∈ x, ∀ v ∈ r, okN v) → fitTabs T tabs
 | [], [], _, _, _ => trivial
 | t :: T, x :: X, h, hT, hN => ⟨⟨hT t (by simp), h.1.1, fun r hr => ⟨(h.1.2 r hr).1, (h.1.2 r hr).2, hN x (by simp) r hr⟩⟩, fitG_fit T X h.2 (fun y hy => hT y (by simp [hy])) (fun y hy => hN y (by simp [hy]))⟩
 | [], _ :: _, h, _, _ => h.elim
 | _ :: _, [], h, _, _ => h.elim
/-- PACK: of tables that can be, the seal of their bytes. -/
theorem pack_good {T : List Tb'} {V : List S137} {tabs : List (List (List Vl))} (hg : Ev (fun k => ark_isGood.f k T V tabs) true) (hp : okPlan T V = true) (hf : fitG T tabs) :
  ∃ x, Ev (fun k => ark_Pack.f k T V tabs) (x, 0) ∧ Ev (fun k => crc_Seal.f k (ofL (packB tabs))) x ∧ (packB tabs).length ≤ 900000000 := by
 obtain ⟨p1, p2⟩ := okPlan_tabs hp
 obtain ⟨o1, o2⟩ := fitG_ok T tabs hf (fun t ht => (p2 t ht).2)
 have hl := packB_len tabs o1
 have hok : okTabs tabs = true := by
  unfold okTabs
  rw [Bool.and_eq_true]
  exact ⟨decide_eq_true (by omega), o1⟩
 have hlen : (packB tabs).length ≤ 900000000 := by
  have : tabs.length ≤ 3 := by omega
  have : 36002 * tabs.length ≤ 36002 * 3 := Nat.mul_le_mul_left _ this
  omega
 obtain ⟨x, tl, h1, _⟩ := seal_total (ofL (packB tabs)) (by rw [ofL_size]; omega)
 refine ⟨x, Ev.congr (fun k => rfl) (Ev.bind hg ?_), h1, hlen⟩
 refine Ev.congr (fun k => if_pos rfl) ?_
 refine Ev.congr (fun k => if_pos hok) ?_
 exact Ev.bind h1 (Ev.now _)
theorem pack_bad {T : List Tb'} {V : List S137} {tabs : List (List (List Vl))} (hg : Ev (fun k => ark_isGood.f k T V tabs) false) : Ev (fun k => ark_Pack.f k T V tabs) (⟨#[]⟩, 1) :=
 Ev.congr (fun k => rfl) (Ev.bind hg (Ev.congr (fun k => if_neg (by decide)) (Ev.now _)))
/-- UNPACK: of the seal of good tables' bytes, the tables. -/
theorem unpack_fwd {T : List Tb'} {V : List S137} {tabs : List (List (List Vl))} {x : ByteArray} (hg : Ev (fun k => ark_isGood.f k T V tabs) true) (hp : okPlan T V = true) (hf : fitTabs T tabs) (hl : (packB tabs).length ≤ 900000000) (hx : Ev (fun k => crc_Seal.f k (ofL (packB tabs))) x) :
  Ev (fun k => ark_Unpack.f k T V x) (tabs, 0) := by
 obtain ⟨p1, p2⟩ := okPlan_tabs hp
 have hu := unp_fwd T tabs [] [] hf (by simp; omega)
 rw [List.append_nil, List.nil_append] at hu
 refine Ev.congr (fun k => rfl) (Ev.bind (open_seal (by rw [ofL_size]; exact hl) hx) ?_)
 refine Ev.congr (fun k => if_pos rfl) ?_
 refine Ev.congr (f := fun k => (unpL k T (ofL (packB tabs)) false []).bind fun u => unpEnd k T V u) (fun k => by rw [plan_Good.f, hp, Option.bind_some, if_pos rfl]) (Ev.bind hu ?_)
 refine Ev.congr (f := fun k => (ark_isGood.f k T V tabs).bind fun g => if g = true then some (tabs, 0) else some ([], 3)) (fun k => ?_) (Ev.bind hg (Ev.congr (fun k => if_pos rfl) (Ev.now _)))
 unfold unpEnd
 simp only
 rw [if_neg (by decide), if_pos (by rw [toList_data]; rfl)]
theorem sumLen_le : ∀ l : List (List (List Vl)), (∀ x ∈ l, x.length ≤ 65535) → sumLen l ≤ 65535 * l.length
 | [], _ => by simp [sumLen]
 | x :: l, h => by
  have h1 := sumLen_le l (fun y hy => h y (by simp [hy]))
  have h2 := h x (by simp)
  rw [sumLen_cons, List.length_cons]
  omega
/-- UNPACK comes to an end; what is unpacked would be packed so. -/
theorem unpack_total (T : List Tb') (V : List S137) (s : ByteArray) (hs : s.size ≤ 1000000) :
  ∃ r, Ev (fun k => ark_Unpack.f k T V s) r ∧ (r.2 = 0 → Ev (fun k => ark_Pack.f k T V r.1) (s, 0)) := by
 obtain ⟨t, ok, h1, h2⟩ := open_total s (by omega)
 cases ok with
 | false =>
  exact ⟨([], 3), Ev.congr (fun k => rfl) (Ev.bind h1 (Ev.congr (fun k => if_neg (by simp)) (Ev.now _))), fun h => by cases h⟩
 | true =>
  cases hp : okPlan T V with
  | false =>
   refine ⟨([], 3), Ev.congr (fun k => rfl) (Ev.bind h1 (Ev.congr (fun k => if_pos rfl) (Ev.congr (fun k => ?_) (Ev.now _)))), fun h => by cases h⟩
   rw [plan_Good.f, hp, Option.bind_some, if_neg (by decide)]
  | true =>
   obtain ⟨p1, p2⟩ := okPlan_tabs hp
   obtain ⟨u, u1, u2, u3, u4⟩ := unp_bwd T t false [] (fun t ht => (p2 t ht).2) (by simp; omega)
   have wrapUp : ∀ r, Ev (fun k => unpEnd k T V u) r → Ev (fun k => ark_Unpack.f k T V s) r := fun r hr =>
    Ev.congr (fun k => rfl) (Ev.bind h1 (Ev.congr (fun k => if_pos rfl) (Ev.congr (f := fun k => (unpL k T t false []).bind fun u => unpEnd k T V u) (fun k => by rw [plan_Good.f, hp, Option.bind_some, if_pos rfl]) (Ev.bind u1 hr))))
   obtain ⟨out, rest, bad⟩ := u
   cases bad with
   | true => exact ⟨([], 3), wrapUp _ (Ev.congr (fun k => by unfold unpEnd; exact if_pos rfl) (Ev.now _)), fun h => by cases h⟩
   | false =>
    by_cases hr : rest.toList = ([] : List UInt8)
    ·obtain ⟨_, tabs, e1, e4, e2⟩ := u4 rfl
     simp only [List.nil_append] at e1
     subst e1
     simp only at e2 u2 u3
     rw [← toList_data rest, hr, List.append_nil] at e2
     have ht : t = ofL (packB out) := bytes_ext (by rw [e2]; rfl)
     have hx65 : ∀ x ∈ out, x.length ≤ 65535 := fun x hx => (u3 x hx).elim (fun h => by cases h) id
     have hsum := sumLen_le out hx65
     obtain ⟨b, g1, g2⟩ := isGood_total T V out (fun x hx => ⟨by have := hx65 x hx; omega, fun y hy => by have := e4 x hx y hy; omega⟩) (by rw [List.length_nil] at u2; omega) (by rw [List.length_nil] at u2; omega)
     have hend : Ev (fun k => unpEnd k T V (out, rest, false)) (if b = true then (out, 0) else ([], 3)) := by
      refine Ev.congr (f := fun k => (ark_isGood.f k T V out).bind fun g => if g = true then some (out, 0) else some ([], 3)) (fun k => ?_) (Ev.bind g1 ?_)
      ·unfold unpEnd
       simp only
       rw [if_neg (by decide), if_pos hr]
      ·cases b with
       | true => exact Ev.now _
       | false => exact Ev.now _
     refine ⟨_, wrapUp _ hend, fun h => ?_⟩
     cases b with
     | false => cases h
     | true =>
      obtain ⟨hpp, hfg⟩ := g2 rfl
      obtain ⟨x, x1, x2, _⟩ := pack_good g1 hpp hfg
      have h2' := h2 rfl
      rw [ht] at h2'
      rw [Ev.uniq h2' x2]
      exact x1
    ·refine ⟨([], 3), wrapUp _ (Ev.congr (fun k => ?_) (Ev.now _)), fun h => by cases h⟩
     unfold unpEnd
     simp only
     rw [if_neg (by decide), if_neg hr]
end Go.Proofs.Ytkcckhlchjmkkaa
