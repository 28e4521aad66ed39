/-
  'gauger's law ModelBack holds of every input: it returns true, and each argument reads behind the call as it read before.
  This text: part 19 of 22 of the proof (MoAd, MoAe, MoAf).
-/
import Derived.Test.YtenpjpldjmoefaaGreatMar
set_option linter.unusedVariables false
set_option linter.unusedSimpArgs false
set_option maxRecDepth 100000
set_option maxHeartbeats 4000000
namespace Go.Proofs.YtenpjpldjmoefaaGreat.AM.Mo
open Go
noncomputable def kdS (T : List (List Int)) (V : List Vw) (free : Bool) (s : DS) (w : Wi) : AV × DS :=
 if w.kd = 1 then insM T V free s w else if w.kd = 2 ∨ w.kd = 3 then chgM T V free s w
 else if w.kd = 4 then rowsM T V free s (w.tb, w.key, w.key) else if w.kd = 5 then rowsM T V free s (w.tb, w.key, w.hi)
 else if w.kd = 6 then sumsM T V free s (w.tb, w.key, w.key) else if w.kd = 7 then sumsM T V free s (w.tb, w.key, w.hi)
 else if w.kd = 8 then saveM T V free s () else if w.kd = 9 then backM T V free s w.n else (errA 0, s)
noncomputable def doS (T : List (List Int)) (V : List Vw) (free : Bool) (s : DS) (w : Wi) : AV × DS := match s.was with
 | none => (errA 13, s)
 | some _ => if wishB T V w then kdS T V free s w else (errA 1, s)
def encW (w : Wi) : List AV := [.agg (enWi w)]
def encR (x : Int × Val × Val) : List AV := [.int .i64 x.1, vV x.2.1, vV x.2.2]
def encU (x : Unit) : List AV := []
def encN (n : Int) : List AV := [.int .i64 n]
theorem encW_inj (a b : Wi) (h : encW a = encW b) : a = b := by
 simp only [encW, List.cons.injEq, AV.agg.injEq, and_true] at h
 exact wi_inj (by simp only [List.cons.injEq, and_true]; exact h)
theorem encR_inj (a b : Int × Val × Val) (h : encR a = encR b) : a = b := by
 obtain ⟨a1, a2, a3⟩ := a
 obtain ⟨b1, b2, b3⟩ := b
 simp only [encR, List.cons.injEq, AV.int.injEq, true_and, and_true] at h
 rw [h.1, vV_inj _ _ h.2.1, vV_inj _ _ h.2.2]
theorem encU_inj (a b : Unit) (h : encU a = encU b) : a = b := rfl
theorem encN_inj (a b : Int) (h : encN a = encN b) : a = b := by
 simp only [encN, List.cons.injEq, AV.int.injEq, true_and, and_true] at h
 exact h
noncomputable def gamD : List (Nat × GF) := (56, anyG Tryz.prog 56 (MR encW insM)) :: (57, anyG Tryz.prog 57 (MR encW chgM)) :: (58, anyG Tryz.prog 58 (MR encR rowsM)) :: (59, anyG Tryz.prog 59 (MR encR sumsM)) :: (60, anyG Tryz.prog 60 (MR encU saveM)) :: (61, anyG Tryz.prog 61 (MR encN backM)) :: (55, pureG g55) :: gam8
theorem KD : Known (gGet gamD) tree.get Tryz.prog := known_of (by kernel_rfl) ⟨anyG_ok ⟨_, Tryz.func56, by kernel_rfl, by kernel_rfl⟩, anyG_ok ⟨_, Tryz.func57, by kernel_rfl, by kernel_rfl⟩, anyG_ok ⟨_, Tryz.func58, by kernel_rfl, by kernel_rfl⟩, anyG_ok ⟨_, Tryz.func59, by kernel_rfl, by kernel_rfl⟩, anyG_ok ⟨_, Tryz.func60, by kernel_rfl, by kernel_rfl⟩, anyG_ok ⟨_, Tryz.func61, by kernel_rfl, by kernel_rfl⟩, wish_ok, oft_ok, ofv_ok, isVal_ok, view_ok, grp_ok, tot_ok, adt_ok, fit_ok, code_ok, int_ok, of_ok, add_ok, cmp_ok, good_ok, xSub_ok, xAdd_ok, trivial⟩ all
structure UnD (Γ : FuncId → Option GF) : Prop where
 n19 : Γ 19 = none
 e55 : Γ 55 = some (pureG g55)
 e56 : Γ 56 = some (anyG Tryz.prog 56 (MR encW insM))
 e57 : Γ 57 = some (anyG Tryz.prog 57 (MR encW chgM))
 e58 : Γ 58 = some (anyG Tryz.prog 58 (MR encR rowsM))
 e59 : Γ 59 = some (anyG Tryz.prog 59 (MR encR sumsM))
 e60 : Γ 60 = some (anyG Tryz.prog 60 (MR encU saveM))
 e61 : Γ 61 = some (anyG Tryz.prog 61 (MR encN backM))
theorem uD : UnD (gGet gamD) := ⟨by kernel_rfl, by kernel_rfl, by kernel_rfl, by kernel_rfl, by kernel_rfl, by kernel_rfl, by kernel_rfl, by kernel_rfl⟩
def Ans4 (r : AV) : Prop := ∃ a0 a1 a2 a3 : AV, r = .agg [a0, a1, a2, a3] ∧ [a0, a1, a2, a3].all AV.one = true
theorem ans_err (e : Int) : Ans4 (errA e) := ⟨_, _, _, _, rfl, rfl⟩
theorem ans_save (s : DS) : Ans4 (saveS s).1 := by
 unfold saveS
 split
 ·exact ans_err 5
 ·exact ⟨_, _, _, _, rfl, rfl⟩
theorem do_fin {T : List (List Int)} {V : List Vw} {free : Bool} {p : Nat} {s s' : DS} {H H' : List Blk} {b1 b2 b3 : Blk} (hd : DBA T V free H p s) (hd' : DBA T V free H' p s') (hs : Step (H ++ [b1] ++ [b2]) p H') :
  DBA T V free (H'.set (H ++ [b1]).length b3) p s' ∧ Step H p (H'.set (H ++ [b1]).length b3) := by
 have e1 : ids (H ++ [b1] ++ [b2]) p = ids H p := hd.ids_keep fun i x _ hx => ga (ga hx)
 have hlt := hd.lt
 obtain ⟨h1, h2, h3⟩ := hs
 rw [e1] at h2 h3
 have hM : (H ++ [b1]).length ∉ ids H' p := fun hm => by
  rcases h2 _ hm with h | h
  ·have := hlt _ h; simp at this; omega
  ·simp at h <;> omega
 have hk : ∀ (i : Nat) (x : Blk), i ∈ ids H' p → H'[i]? = some x → (H'.set (H ++ [b1]).length b3)[i]? = some x := fun i x hi hx => gne (fun e => hM (e ▸ hi)) hx
 refine ⟨hd'.keep hk, by simp at h1 ⊢; omega, fun i hi => ?_, fun i x hi hx => gne (by have := glt hx; simp; omega) (h3 i x hi (ga (ga hx)))⟩
 rw [hd'.ids_keep hk] at hi
 rcases h2 i hi with h | h
 ·exact .inl h
 ·exact .inr (by simp at h; omega)
theorem kd_cases {T : List (List Int)} {V : List Vw} {w : Wi} (h : wishB T V w = true) : 1 ≤ w.kd ∧ w.kd ≤ 10 := by
 unfold wishB at h
 split at h
 ·omega
 ·split at h
  ·omega
  ·split at h
   ·omega
   ·cases h
section
variable {Γ : FuncId → Option GF} (u : UnD Γ)
include u
theorem do_cl {T : List (List Int)} {V : List Vw} {free : Bool} {k p : Nat} {s : DS} {H : List Blk} {w : Wi} (pl : OkP T V) (ok : OkS T k s) (hk9 : k ≤ 99999) (hrl : w.row.length ≤ 9223372036854775807) (hd : DBA T V free H p s) :
  ∃ H' lo, Cl Γ Mo.T 19 [.ptr p 0, .agg (enWi w)] H ((doS T V free s w).1, H', lo) ∧ DBA T V free H' p (doS T V free s w).2 ∧ Step H p H' := by
 have hd0 := hd
 have hlt := hd.lt
 have hd2 : DBA T V free (ap (ap H (enWi w)) [(.int .i64 0), .nils, .nils, (.int .i64 0)]) p s := hd.keep fun i x _ hx => ga (ga hx)
 have e2 : ids (ap (ap H (enWi w)) [(.int .i64 0), .nils, .nils, (.int .i64 0)]) p = ids H p := hd.ids_keep fun i x _ hx => ga (ga hx)
 have nL : H.length ∉ ids (ap (ap H (enWi w)) [(.int .i64 0), .nils, .nils, (.int .i64 0)]) p := fun h => by rw [e2] at h; have := hlt _ h; omega
 have nM : (List.length (ap H (enWi w))) ∉ ids (ap (ap H (enWi w)) [(.int .i64 0), .nils, .nils, (.int .i64 0)]) p := fun h => by rw [e2] at h; have := hlt _ h; simp at this; omega
 obtain ⟨q, wv, mv, hb⟩ := hd
 have hp := hb.hp
 have hw := hb.hw
 have fin : ∀ (H' : List Blk) (s' : DS) (a : AV) (b3 : Blk), DBA T V free H' p s' → Step (ap (ap H (enWi w)) [(.int .i64 0), .nils, .nils, (.int .i64 0)]) p H' → DBA T V free (H'.set (List.length (ap H (enWi w))) b3) p s' ∧ Step H p (H'.set (List.length (ap H (enWi w))) b3) := fun H' s' a b3 h1 h2 => do_fin hd0 h1 h2
 cases hwas : s.was with
 | none =>
  have hwv : wv = .nils := by rw [hwas] at hw; exact hw
  subst hwv
  have hp : H[p]? = some (.cells (dbC T V free q s.now.length .nils mv)) := hp
  obtain ⟨now, hnow⟩ : ∃ now, s.now = now := ⟨_, rfl⟩
  rw [hnow] at hp
  obtain ⟨l, h⟩ := (clV 1 (af := a19) (r := (.agg [(.int .i64 13), .nils, .nils, (.int .i64 0)])) (h' := (ap (ap H (enWi w)) [(.int .i64 13), .nils, .nils, (.int .i64 0)])) [.w (.box (.c (.agg (enWi w)))) (.ptr H.length 0) (ap H (enWi w)) none, .w (.alloc [(.int .i64 0), .nils, .nils, (.int .i64 0)]) (.ptr (List.length (ap H (enWi w))) 0) (ap (ap H (enWi w)) [(.int .i64 0), .nils, .nils, (.int .i64 0)]) none, .q (.isNil 0 false (.c (.ptr p 0))) false, .f (.load none (.c (.ptr p 4))) .nils, .q (.isNil 1 false (.c .nils)) true, .w (.store 4 (.c (.ptr (List.length (ap H (enWi w))) 0)) (.c (.agg [(.int .i64 13), .nils, .nils, (.int .i64 0)]))) (.tup []) (ap (ap H (enWi w)) [(.int .i64 13), .nils, .nils, (.int .i64 0)]) (some (List.length (ap H (enWi w)))), .l (.load (some 4) (.c (.ptr (List.length (ap H (enWi w))) 0))) (.agg [(.int .i64 13), .nils, .nils, (.int .i64 0)])] [(.agg [(.int .i64 13), .nils, .nils, (.int .i64 0)])] u.n19 ⟨rfl, rfl, rfl, (ldV (ga (ga hp))), rfl, stZ, (ldV gl), trivial⟩ : ∃ l, Cl Γ Mo.T 19 [.ptr p 0, .agg (enWi w)] H (errA 13, _, l))
  have hds : doS T V free s w = (errA 13, s) := by unfold doS; rw [hwas]
  rw [hds]
  exact ⟨_, l, h, (Step.kept hd0 ((Kept.refl H).ap.ap)).symm⟩
 | some ts =>
  obtain ⟨qw, hwv, hqw, htl⟩ : ∃ qw, wv = .sl qw 1 0 s.now.length s.now.length true ∧ H[qw]? = some (.cells (tsC ts)) ∧ ts.length = s.now.length := by rw [hwas] at hw; exact hw
  subst hwv
  obtain ⟨now, hnow⟩ : ∃ now, s.now = now := ⟨_, rfl⟩
  rw [hnow] at hp
  cases hwb : wishB T V w with
  | false =>
   obtain ⟨l, h⟩ := (clV 1 (af := a19) (r := (.agg [(.int .i64 1), .nils, .nils, (.int .i64 0)])) (h' := (ap (ap H (enWi w)) [(.int .i64 1), .nils, .nils, (.int .i64 0)])) [.w (.box (.c (.agg (enWi w)))) (.ptr H.length 0) (ap H (enWi w)) none, .w (.alloc [(.int .i64 0), .nils, .nils, (.int .i64 0)]) (.ptr (List.length (ap H (enWi w))) 0) (ap (ap H (enWi w)) [(.int .i64 0), .nils, .nils, (.int .i64 0)]) none, .q (.isNil 0 false (.c (.ptr p 0))) false, .f (.load none (.c (.ptr p 4))) (.sl qw 1 0 now.length now.length true), .q (.isNil 1 false (.c (.sl qw 1 0 now.length now.length true))) false, .f (.load (some 2) (.c (.ptr p 0))) (.agg (pL T V)), .f (.load (some 14) (.c (.ptr H.length 0))) (.agg (enWi w)), .r 55 [(.agg (pL T V)), (.agg (enWi w))] (.bool false) (ap (ap H (enWi w)) [(.int .i64 0), .nils, .nils, (.int .i64 0)]) none, .w (.store 4 (.c (.ptr (List.length (ap H (enWi w))) 0)) (.c (.agg [(.int .i64 1), .nils, .nils, (.int .i64 0)]))) (.tup []) (ap (ap H (enWi w)) [(.int .i64 1), .nils, .nils, (.int .i64 0)]) (some (List.length (ap H (enWi w)))), .l (.load (some 4) (.c (.ptr (List.length (ap H (enWi w))) 0))) (.agg [(.int .i64 1), .nils, .nils, (.int .i64 0)])] [(.agg [(.int .i64 1), .nils, .nils, (.int .i64 0)])] u.n19 ⟨rfl, rfl, rfl, (ldV (ga (ga hp))), rfl, (ldV (ga (ga hp))), (ldV (ga gl)), (hwb ▸ wish_e u.e55 pl.toOkPl hrl _), stZ, (ldV gl), trivial⟩ : ∃ l, Cl Γ Mo.T 19 [.ptr p 0, .agg (enWi w)] H (errA 1, _, l))
   have hds : doS T V free s w = (errA 1, s) := by unfold doS; rw [hwas]; simp only [hwb, Bool.false_eq_true, if_false]
   rw [hds]
   exact ⟨_, l, h, (Step.kept hd0 ((Kept.refl H).ap.ap)).symm⟩
  | true =>
   have hds : doS T V free s w = kdS T V free s w := by unfold doS; rw [hwas]; simp only [hwb, if_true]
   rw [hds]
   have hkd := kd_cases hwb
   by_cases hk : w.kd = 1
   ·have hds : kdS T V free s w = insM T V free s w := by simp [kdS, hk]
    rw [hds]
    obtain ⟨H', lm, hm, hd', hs⟩ := mr_e encW_inj u.e56 (x := w) hd2 (ins_m pl ok hk9 hd2 hwb hk)
    obtain ⟨a0, a1, a2, a3, ha, hone⟩ : Ans4 (insM T V free s w).1 := ans_err _
    rw [ha] at hm ⊢
    have hkp := hs.2.2
    obtain ⟨l, h⟩ := (clV 1 (af := a19) (r := (.agg [a0, a1, a2, a3])) (h' := (List.set H' (List.length (ap H (enWi w))) (.cells [a0, a1, a2, a3]))) [.w (.box (.c (.agg (enWi w)))) (.ptr H.length 0) (ap H (enWi w)) none, .w (.alloc [(.int .i64 0), .nils, .nils, (.int .i64 0)]) (.ptr (List.length (ap H (enWi w))) 0) (ap (ap H (enWi w)) [(.int .i64 0), .nils, .nils, (.int .i64 0)]) none, .q (.isNil 0 false (.c (.ptr p 0))) false, .f (.load none (.c (.ptr p 4))) (.sl qw 1 0 now.length now.length true), .q (.isNil 1 false (.c (.sl qw 1 0 now.length now.length true))) false, .f (.load (some 2) (.c (.ptr p 0))) (.agg (pL T V)), .f (.load (some 14) (.c (.ptr H.length 0))) (.agg (enWi w)), .r 55 [(.agg (pL T V)), (.agg (enWi w))] (.bool true) (ap (ap H (enWi w)) [(.int .i64 0), .nils, .nils, (.int .i64 0)]) none, .f (.load none (.c (.ptr H.length 0))) (.int .i64 w.kd), .b (w.kd == 1) true, .f (.load (some 14) (.c (.ptr H.length 0))) (.agg (enWi w)), .r 56 [(.ptr p 0), (.agg (enWi w))] (.agg [a0, a1, a2, a3]) H' lm, .w (.store 4 (.c (.ptr (List.length (ap H (enWi w))) 0)) (.c (.agg [a0, a1, a2, a3]))) (.tup []) (List.set H' (List.length (ap H (enWi w))) (.cells [a0, a1, a2, a3])) (some (List.length (ap H (enWi w)))), .l (.load (some 4) (.c (.ptr (List.length (ap H (enWi w))) 0))) (.agg [a0, a1, a2, a3])] [(.agg [a0, a1, a2, a3])] u.n19 ⟨rfl, rfl, rfl, (ldV (ga (ga hp))), rfl, (ldV (ga (ga hp))), (ldV (ga gl)), (hwb ▸ wish_e u.e55 pl.toOkPl hrl _), (ldV (ga gl)), (cE hk), (ldV (ga gl)), hm, (stC (hkp _ _ nM gl) rfl (by kernel_rfl) hone), (ldV (gset (hkp _ _ nM gl))), trivial⟩ : ∃ l, Cl Γ Mo.T 19 [.ptr p 0, .agg (enWi w)] H (.agg [a0, a1, a2, a3], _, l))
    exact ⟨_, l, h, fin _ _ .nils _ hd' hs⟩
   by_cases hk : w.kd = 2
   ·have hds : kdS T V free s w = chgM T V free s w := by simp [kdS, hk]
    rw [hds]
    obtain ⟨H', lm, hm, hd', hs⟩ := mr_e encW_inj u.e57 (x := w) hd2 (chg_m pl ok hk9 hd2 hwb (by omega))
    obtain ⟨a0, a1, a2, a3, ha, hone⟩ : Ans4 (chgM T V free s w).1 := ans_err _
    rw [ha] at hm ⊢
    have hkp := hs.2.2
    obtain ⟨l, h⟩ := (clV 1 (af := a19) (r := (.agg [a0, a1, a2, a3])) (h' := (List.set H' (List.length (ap H (enWi w))) (.cells [a0, a1, a2, a3]))) [.w (.box (.c (.agg (enWi w)))) (.ptr H.length 0) (ap H (enWi w)) none, .w (.alloc [(.int .i64 0), .nils, .nils, (.int .i64 0)]) (.ptr (List.length (ap H (enWi w))) 0) (ap (ap H (enWi w)) [(.int .i64 0), .nils, .nils, (.int .i64 0)]) none, .q (.isNil 0 false (.c (.ptr p 0))) false, .f (.load none (.c (.ptr p 4))) (.sl qw 1 0 now.length now.length true), .q (.isNil 1 false (.c (.sl qw 1 0 now.length now.length true))) false, .f (.load (some 2) (.c (.ptr p 0))) (.agg (pL T V)), .f (.load (some 14) (.c (.ptr H.length 0))) (.agg (enWi w)), .r 55 [(.agg (pL T V)), (.agg (enWi w))] (.bool true) (ap (ap H (enWi w)) [(.int .i64 0), .nils, .nils, (.int .i64 0)]) none, .f (.load none (.c (.ptr H.length 0))) (.int .i64 w.kd), .b (w.kd == 1) false, .b (w.kd == 2) true, .f (.load (some 14) (.c (.ptr H.length 0))) (.agg (enWi w)), .r 57 [(.ptr p 0), (.agg (enWi w))] (.agg [a0, a1, a2, a3]) H' lm, .w (.store 4 (.c (.ptr (List.length (ap H (enWi w))) 0)) (.c (.agg [a0, a1, a2, a3]))) (.tup []) (List.set H' (List.length (ap H (enWi w))) (.cells [a0, a1, a2, a3])) (some (List.length (ap H (enWi w)))), .l (.load (some 4) (.c (.ptr (List.length (ap H (enWi w))) 0))) (.agg [a0, a1, a2, a3])] [(.agg [a0, a1, a2, a3])] u.n19 ⟨rfl, rfl, rfl, (ldV (ga (ga hp))), rfl, (ldV (ga (ga hp))), (ldV (ga gl)), (hwb ▸ wish_e u.e55 pl.toOkPl hrl _), (ldV (ga gl)), (cN (by omega)), (cE hk), (ldV (ga gl)), hm, (stC (hkp _ _ nM gl) rfl (by kernel_rfl) hone), (ldV (gset (hkp _ _ nM gl))), trivial⟩ : ∃ l, Cl Γ Mo.T 19 [.ptr p 0, .agg (enWi w)] H (.agg [a0, a1, a2, a3], _, l))
    exact ⟨_, l, h, fin _ _ .nils _ hd' hs⟩
   by_cases hk : w.kd = 3
   ·have hds : kdS T V free s w = chgM T V free s w := by simp [kdS, hk]
    rw [hds]
    obtain ⟨H', lm, hm, hd', hs⟩ := mr_e encW_inj u.e57 (x := w) hd2 (chg_m pl ok hk9 hd2 hwb (by omega))
    obtain ⟨a0, a1, a2, a3, ha, hone⟩ : Ans4 (chgM T V free s w).1 := ans_err _
    rw [ha] at hm ⊢
    have hkp := hs.2.2
    obtain ⟨l, h⟩ := (clV 1 (af := a19) (r := (.agg [a0, a1, a2, a3])) (h' := (List.set H' (List.length (ap H (enWi w))) (.cells [a0, a1, a2, a3]))) [.w (.box (.c (.agg (enWi w)))) (.ptr H.length 0) (ap H (enWi w)) none, .w (.alloc [(.int .i64 0), .nils, .nils, (.int .i64 0)]) (.ptr (List.length (ap H (enWi w))) 0) (ap (ap H (enWi w)) [(.int .i64 0), .nils, .nils, (.int .i64 0)]) none, .q (.isNil 0 false (.c (.ptr p 0))) false, .f (.load none (.c (.ptr p 4))) (.sl qw 1 0 now.length now.length true), .q (.isNil 1 false (.c (.sl qw 1 0 now.length now.length true))) false, .f (.load (some 2) (.c (.ptr p 0))) (.agg (pL T V)), .f (.load (some 14) (.c (.ptr H.length 0))) (.agg (enWi w)), .r 55 [(.agg (pL T V)), (.agg (enWi w))] (.bool true) (ap (ap H (enWi w)) [(.int .i64 0), .nils, .nils, (.int .i64 0)]) none, .f (.load none (.c (.ptr H.length 0))) (.int .i64 w.kd), .b (w.kd == 1) false, .b (w.kd == 2) false, .b (w.kd == 3) true, .f (.load (some 14) (.c (.ptr H.length 0))) (.agg (enWi w)), .r 57 [(.ptr p 0), (.agg (enWi w))] (.agg [a0, a1, a2, a3]) H' lm, .w (.store 4 (.c (.ptr (List.length (ap H (enWi w))) 0)) (.c (.agg [a0, a1, a2, a3]))) (.tup []) (List.set H' (List.length (ap H (enWi w))) (.cells [a0, a1, a2, a3])) (some (List.length (ap H (enWi w)))), .l (.load (some 4) (.c (.ptr (List.length (ap H (enWi w))) 0))) (.agg [a0, a1, a2, a3])] [(.agg [a0, a1, a2, a3])] u.n19 ⟨rfl, rfl, rfl, (ldV (ga (ga hp))), rfl, (ldV (ga (ga hp))), (ldV (ga gl)), (hwb ▸ wish_e u.e55 pl.toOkPl hrl _), (ldV (ga gl)), (cN (by omega)), (cN (by omega)), (cE hk), (ldV (ga gl)), hm, (stC (hkp _ _ nM gl) rfl (by kernel_rfl) hone), (ldV (gset (hkp _ _ nM gl))), trivial⟩ : ∃ l, Cl Γ Mo.T 19 [.ptr p 0, .agg (enWi w)] H (.agg [a0, a1, a2, a3], _, l))
    exact ⟨_, l, h, fin _ _ .nils _ hd' hs⟩
   by_cases hk : w.kd = 4
   ·have hds : kdS T V free s w = rowsM T V free s (w.tb, w.key, w.key) := by simp [kdS, hk]
    rw [hds]
    obtain ⟨H', lm, hm, hd', hs⟩ := mr_e encR_inj u.e58 (x := (w.tb, w.key, w.key)) hd2 (by obtain ⟨h0, c, hc, _⟩ := wish_tb hwb (by omega); exact rows_m pl ok hk9 hd2 h0 hc)
    obtain ⟨a0, a1, a2, a3, ha, hone⟩ : Ans4 (rowsM T V free s (w.tb, w.key, w.key)).1 := ⟨_, _, _, _, rfl, rfl⟩
    rw [ha] at hm ⊢
    have hkp := hs.2.2
    obtain ⟨l, h⟩ := (clV 1 (af := a19) (r := (.agg [a0, a1, a2, a3])) (h' := (List.set H' (List.length (ap H (enWi w))) (.cells [a0, a1, a2, a3]))) [.w (.box (.c (.agg (enWi w)))) (.ptr H.length 0) (ap H (enWi w)) none, .w (.alloc [(.int .i64 0), .nils, .nils, (.int .i64 0)]) (.ptr (List.length (ap H (enWi w))) 0) (ap (ap H (enWi w)) [(.int .i64 0), .nils, .nils, (.int .i64 0)]) none, .q (.isNil 0 false (.c (.ptr p 0))) false, .f (.load none (.c (.ptr p 4))) (.sl qw 1 0 now.length now.length true), .q (.isNil 1 false (.c (.sl qw 1 0 now.length now.length true))) false, .f (.load (some 2) (.c (.ptr p 0))) (.agg (pL T V)), .f (.load (some 14) (.c (.ptr H.length 0))) (.agg (enWi w)), .r 55 [(.agg (pL T V)), (.agg (enWi w))] (.bool true) (ap (ap H (enWi w)) [(.int .i64 0), .nils, .nils, (.int .i64 0)]) none, .f (.load none (.c (.ptr H.length 0))) (.int .i64 w.kd), .b (w.kd == 1) false, .b (w.kd == 2) false, .b (w.kd == 3) false, .b (w.kd == 4) true, .f (.load none (.c (.ptr H.length 1))) (.int .i64 w.tb), .f (.load (some 3) (.c (.ptr H.length 2))) (.agg (enV w.key)), .f (.load (some 3) (.c (.ptr H.length 2))) (.agg (enV w.key)), .r 58 [(.ptr p 0), (.int .i64 w.tb), (.agg (enV w.key)), (.agg (enV w.key))] (.agg [a0, a1, a2, a3]) H' lm, .w (.store 4 (.c (.ptr (List.length (ap H (enWi w))) 0)) (.c (.agg [a0, a1, a2, a3]))) (.tup []) (List.set H' (List.length (ap H (enWi w))) (.cells [a0, a1, a2, a3])) (some (List.length (ap H (enWi w)))), .l (.load (some 4) (.c (.ptr (List.length (ap H (enWi w))) 0))) (.agg [a0, a1, a2, a3])] [(.agg [a0, a1, a2, a3])] u.n19 ⟨rfl, rfl, rfl, (ldV (ga (ga hp))), rfl, (ldV (ga (ga hp))), (ldV (ga gl)), (hwb ▸ wish_e u.e55 pl.toOkPl hrl _), (ldV (ga gl)), (cN (by omega)), (cN (by omega)), (cN (by omega)), (cE hk), (ldV (ga gl)), (ldV (ga gl)), (ldV (ga gl)), hm, (stC (hkp _ _ nM gl) rfl (by kernel_rfl) hone), (ldV (gset (hkp _ _ nM gl))), trivial⟩ : ∃ l, Cl Γ Mo.T 19 [.ptr p 0, .agg (enWi w)] H (.agg [a0, a1, a2, a3], _, l))
    exact ⟨_, l, h, fin _ _ .nils _ hd' hs⟩
   by_cases hk : w.kd = 5
   ·have hds : kdS T V free s w = rowsM T V free s (w.tb, w.key, w.hi) := by simp [kdS, hk]
    rw [hds]
    obtain ⟨H', lm, hm, hd', hs⟩ := mr_e encR_inj u.e58 (x := (w.tb, w.key, w.hi)) hd2 (by obtain ⟨h0, c, hc, _⟩ := wish_tb hwb (by omega); exact rows_m pl ok hk9 hd2 h0 hc)
    obtain ⟨a0, a1, a2, a3, ha, hone⟩ : Ans4 (rowsM T V free s (w.tb, w.key, w.hi)).1 := ⟨_, _, _, _, rfl, rfl⟩
    rw [ha] at hm ⊢
    have hkp := hs.2.2
    obtain ⟨l, h⟩ := (clV 1 (af := a19) (r := (.agg [a0, a1, a2, a3])) (h' := (List.set H' (List.length (ap H (enWi w))) (.cells [a0, a1, a2, a3]))) [.w (.box (.c (.agg (enWi w)))) (.ptr H.length 0) (ap H (enWi w)) none, .w (.alloc [(.int .i64 0), .nils, .nils, (.int .i64 0)]) (.ptr (List.length (ap H (enWi w))) 0) (ap (ap H (enWi w)) [(.int .i64 0), .nils, .nils, (.int .i64 0)]) none, .q (.isNil 0 false (.c (.ptr p 0))) false, .f (.load none (.c (.ptr p 4))) (.sl qw 1 0 now.length now.length true), .q (.isNil 1 false (.c (.sl qw 1 0 now.length now.length true))) false, .f (.load (some 2) (.c (.ptr p 0))) (.agg (pL T V)), .f (.load (some 14) (.c (.ptr H.length 0))) (.agg (enWi w)), .r 55 [(.agg (pL T V)), (.agg (enWi w))] (.bool true) (ap (ap H (enWi w)) [(.int .i64 0), .nils, .nils, (.int .i64 0)]) none, .f (.load none (.c (.ptr H.length 0))) (.int .i64 w.kd), .b (w.kd == 1) false, .b (w.kd == 2) false, .b (w.kd == 3) false, .b (w.kd == 4) false, .b (w.kd == 5) true, .f (.load none (.c (.ptr H.length 1))) (.int .i64 w.tb), .f (.load (some 3) (.c (.ptr H.length 2))) (.agg (enV w.key)), .f (.load (some 3) (.c (.ptr H.length 5))) (.agg (enV w.hi)), .r 58 [(.ptr p 0), (.int .i64 w.tb), (.agg (enV w.key)), (.agg (enV w.hi))] (.agg [a0, a1, a2, a3]) H' lm, .w (.store 4 (.c (.ptr (List.length (ap H (enWi w))) 0)) (.c (.agg [a0, a1, a2, a3]))) (.tup []) (List.set H' (List.length (ap H (enWi w))) (.cells [a0, a1, a2, a3])) (some (List.length (ap H (enWi w)))), .l (.load (some 4) (.c (.ptr (List.length (ap H (enWi w))) 0))) (.agg [a0, a1, a2, a3])] [(.agg [a0, a1, a2, a3])] u.n19 ⟨rfl, rfl, rfl, (ldV (ga (ga hp))), rfl, (ldV (ga (ga hp))), (ldV (ga gl)), (hwb ▸ wish_e u.e55 pl.toOkPl hrl _), (ldV (ga gl)), (cN (by omega)), (cN (by omega)), (cN (by omega)), (cN (by omega)), (cE hk), (ldV (ga gl)), (ldV (ga gl)), (ldV (ga gl)), hm, (stC (hkp _ _ nM gl) rfl (by kernel_rfl) hone), (ldV (gset (hkp _ _ nM gl))), trivial⟩ : ∃ l, Cl Γ Mo.T 19 [.ptr p 0, .agg (enWi w)] H (.agg [a0, a1, a2, a3], _, l))
    exact ⟨_, l, h, fin _ _ .nils _ hd' hs⟩
   by_cases hk : w.kd = 6
   ·have hds : kdS T V free s w = sumsM T V free s (w.tb, w.key, w.key) := by simp [kdS, hk]
    rw [hds]
    obtain ⟨H', lm, hm, hd', hs⟩ := mr_e encR_inj u.e59 (x := (w.tb, w.key, w.key)) hd2 (by obtain ⟨h0, c, hc⟩ := wish_vw hwb (by omega); exact sums_m pl ok hk9 hd2 h0 hc)
    obtain ⟨a0, a1, a2, a3, ha, hone⟩ : Ans4 (sumsM T V free s (w.tb, w.key, w.key)).1 := ⟨_, _, _, _, rfl, rfl⟩
    rw [ha] at hm ⊢
    have hkp := hs.2.2
    obtain ⟨l, h⟩ := (clV 1 (af := a19) (r := (.agg [a0, a1, a2, a3])) (h' := (List.set H' (List.length (ap H (enWi w))) (.cells [a0, a1, a2, a3]))) (.w (.box (.c (.agg (enWi w)))) (.ptr H.length 0) (ap H (enWi w)) none :: .w (.alloc [(.int .i64 0), .nils, .nils, (.int .i64 0)]) (.ptr (List.length (ap H (enWi w))) 0) (ap (ap H (enWi w)) [(.int .i64 0), .nils, .nils, (.int .i64 0)]) none :: .q (.isNil 0 false (.c (.ptr p 0))) false :: .f (.load none (.c (.ptr p 4))) (.sl qw 1 0 now.length now.length true) :: .q (.isNil 1 false (.c (.sl qw 1 0 now.length now.length true))) false :: [.f (.load (some 2) (.c (.ptr p 0))) (.agg (pL T V)), .f (.load (some 14) (.c (.ptr H.length 0))) (.agg (enWi w)), .r 55 [(.agg (pL T V)), (.agg (enWi w))] (.bool true) (ap (ap H (enWi w)) [(.int .i64 0), .nils, .nils, (.int .i64 0)]) none, .f (.load none (.c (.ptr H.length 0))) (.int .i64 w.kd), .b (w.kd == 1) false, .b (w.kd == 2) false, .b (w.kd == 3) false, .b (w.kd == 4) false, .b (w.kd == 5) false, .b (w.kd == 6) true, .f (.load none (.c (.ptr H.length 1))) (.int .i64 w.tb), .f (.load (some 3) (.c (.ptr H.length 2))) (.agg (enV w.key)), .f (.load (some 3) (.c (.ptr H.length 2))) (.agg (enV w.key)), .r 59 [(.ptr p 0), (.int .i64 w.tb), (.agg (enV w.key)), (.agg (enV w.key))] (.agg [a0, a1, a2, a3]) H' lm, .w (.store 4 (.c (.ptr (List.length (ap H (enWi w))) 0)) (.c (.agg [a0, a1, a2, a3]))) (.tup []) (List.set H' (List.length (ap H (enWi w))) (.cells [a0, a1, a2, a3])) (some (List.length (ap H (enWi w)))), .l (.load (some 4) (.c (.ptr (List.length (ap H (enWi w))) 0))) (.agg [a0, a1, a2, a3])]) [(.agg [a0, a1, a2, a3])] u.n19 ⟨rfl, rfl, rfl, (ldV (ga (ga hp))), rfl, (ldV (ga (ga hp))), (ldV (ga gl)), (hwb ▸ wish_e u.e55 pl.toOkPl hrl _), (ldV (ga gl)), (cN (by omega)), (cN (by omega)), (cN (by omega)), (cN (by omega)), (cN (by omega)), (cE hk), (ldV (ga gl)), (ldV (ga gl)), (ldV (ga gl)), hm, (stC (hkp _ _ nM gl) rfl (by kernel_rfl) hone), (ldV (gset (hkp _ _ nM gl))), trivial⟩ : ∃ l, Cl Γ Mo.T 19 [.ptr p 0, .agg (enWi w)] H (.agg [a0, a1, a2, a3], _, l))
    exact ⟨_, l, h, fin _ _ .nils _ hd' hs⟩
   by_cases hk : w.kd = 7
   ·have hds : kdS T V free s w = sumsM T V free s (w.tb, w.key, w.hi) := by simp [kdS, hk]
    rw [hds]
    obtain ⟨H', lm, hm, hd', hs⟩ := mr_e encR_inj u.e59 (x := (w.tb, w.key, w.hi)) hd2 (by obtain ⟨h0, c, hc⟩ := wish_vw hwb (by omega); exact sums_m pl ok hk9 hd2 h0 hc)
    obtain ⟨a0, a1, a2, a3, ha, hone⟩ : Ans4 (sumsM T V free s (w.tb, w.key, w.hi)).1 := ⟨_, _, _, _, rfl, rfl⟩
    rw [ha] at hm ⊢
    have hkp := hs.2.2
    obtain ⟨l, h⟩ := (clV 1 (af := a19) (r := (.agg [a0, a1, a2, a3])) (h' := (List.set H' (List.length (ap H (enWi w))) (.cells [a0, a1, a2, a3]))) (.w (.box (.c (.agg (enWi w)))) (.ptr H.length 0) (ap H (enWi w)) none :: .w (.alloc [(.int .i64 0), .nils, .nils, (.int .i64 0)]) (.ptr (List.length (ap H (enWi w))) 0) (ap (ap H (enWi w)) [(.int .i64 0), .nils, .nils, (.int .i64 0)]) none :: .q (.isNil 0 false (.c (.ptr p 0))) false :: .f (.load none (.c (.ptr p 4))) (.sl qw 1 0 now.length now.length true) :: .q (.isNil 1 false (.c (.sl qw 1 0 now.length now.length true))) false :: .f (.load (some 2) (.c (.ptr p 0))) (.agg (pL T V)) :: [.f (.load (some 14) (.c (.ptr H.length 0))) (.agg (enWi w)), .r 55 [(.agg (pL T V)), (.agg (enWi w))] (.bool true) (ap (ap H (enWi w)) [(.int .i64 0), .nils, .nils, (.int .i64 0)]) none, .f (.load none (.c (.ptr H.length 0))) (.int .i64 w.kd), .b (w.kd == 1) false, .b (w.kd == 2) false, .b (w.kd == 3) false, .b (w.kd == 4) false, .b (w.kd == 5) false, .b (w.kd == 6) false, .b (w.kd == 7) true, .f (.load none (.c (.ptr H.length 1))) (.int .i64 w.tb), .f (.load (some 3) (.c (.ptr H.length 2))) (.agg (enV w.key)), .f (.load (some 3) (.c (.ptr H.length 5))) (.agg (enV w.hi)), .r 59 [(.ptr p 0), (.int .i64 w.tb), (.agg (enV w.key)), (.agg (enV w.hi))] (.agg [a0, a1, a2, a3]) H' lm, .w (.store 4 (.c (.ptr (List.length (ap H (enWi w))) 0)) (.c (.agg [a0, a1, a2, a3]))) (.tup []) (List.set H' (List.length (ap H (enWi w))) (.cells [a0, a1, a2, a3])) (some (List.length (ap H (enWi w)))), .l (.load (some 4) (.c (.ptr (List.length (ap H (enWi w))) 0))) (.agg [a0, a1, a2, a3])]) [(.agg [a0, a1, a2, a3])] u.n19 ⟨rfl, rfl, rfl, (ldV (ga (ga hp))), rfl, (ldV (ga (ga hp))), (ldV (ga gl)), (hwb ▸ wish_e u.e55 pl.toOkPl hrl _), (ldV (ga gl)), (cN (by omega)), (cN (by omega)), (cN (by omega)), (cN (by omega)), (cN (by omega)), (cN (by omega)), (cE hk), (ldV (ga gl)), (ldV (ga gl)), (ldV (ga gl)), hm, (stC (hkp _ _ nM gl) rfl (by kernel_rfl) hone), (ldV (gset (hkp _ _ nM gl))), trivial⟩ : ∃ l, Cl Γ Mo.T 19 [.ptr p 0, .agg (enWi w)] H (.agg [a0, a1, a2, a3], _, l))
    exact ⟨_, l, h, fin _ _ .nils _ hd' hs⟩
   by_cases hk : w.kd = 8
   ·have hds : kdS T V free s w = saveM T V free s () := by simp [kdS, hk]
    rw [hds]
    obtain ⟨H', lm, hm, hd', hs⟩ := mr_e encU_inj u.e60 (x := ()) hd2 (save_m pl ok hk9 hd2)
    obtain ⟨a0, a1, a2, a3, ha, hone⟩ : Ans4 (saveM T V free s ()).1 := ans_save s
    rw [ha] at hm ⊢
    have hkp := hs.2.2
    obtain ⟨l, h⟩ := (clV 1 (af := a19) (r := (.agg [a0, a1, a2, a3])) (h' := (List.set H' (List.length (ap H (enWi w))) (.cells [a0, a1, a2, a3]))) [.w (.box (.c (.agg (enWi w)))) (.ptr H.length 0) (ap H (enWi w)) none, .w (.alloc [(.int .i64 0), .nils, .nils, (.int .i64 0)]) (.ptr (List.length (ap H (enWi w))) 0) (ap (ap H (enWi w)) [(.int .i64 0), .nils, .nils, (.int .i64 0)]) none, .q (.isNil 0 false (.c (.ptr p 0))) false, .f (.load none (.c (.ptr p 4))) (.sl qw 1 0 now.length now.length true), .q (.isNil 1 false (.c (.sl qw 1 0 now.length now.length true))) false, .f (.load (some 2) (.c (.ptr p 0))) (.agg (pL T V)), .f (.load (some 14) (.c (.ptr H.length 0))) (.agg (enWi w)), .r 55 [(.agg (pL T V)), (.agg (enWi w))] (.bool true) (ap (ap H (enWi w)) [(.int .i64 0), .nils, .nils, (.int .i64 0)]) none, .f (.load none (.c (.ptr H.length 0))) (.int .i64 w.kd), .b (w.kd == 1) false, .b (w.kd == 2) false, .b (w.kd == 3) false, .b (w.kd == 4) false, .b (w.kd == 5) false, .b (w.kd == 6) false, .b (w.kd == 7) false, .b (w.kd == 8) true, .r 60 [(.ptr p 0)] (.agg [a0, a1, a2, a3]) H' lm, .w (.store 4 (.c (.ptr (List.length (ap H (enWi w))) 0)) (.c (.agg [a0, a1, a2, a3]))) (.tup []) (List.set H' (List.length (ap H (enWi w))) (.cells [a0, a1, a2, a3])) (some (List.length (ap H (enWi w)))), .l (.load (some 4) (.c (.ptr (List.length (ap H (enWi w))) 0))) (.agg [a0, a1, a2, a3])] [(.agg [a0, a1, a2, a3])] u.n19 ⟨rfl, rfl, rfl, (ldV (ga (ga hp))), rfl, (ldV (ga (ga hp))), (ldV (ga gl)), (hwb ▸ wish_e u.e55 pl.toOkPl hrl _), (ldV (ga gl)), (cN (by omega)), (cN (by omega)), (cN (by omega)), (cN (by omega)), (cN (by omega)), (cN (by omega)), (cN (by omega)), (cE hk), hm, (stC (hkp _ _ nM gl) rfl (by kernel_rfl) hone), (ldV (gset (hkp _ _ nM gl))), trivial⟩ : ∃ l, Cl Γ Mo.T 19 [.ptr p 0, .agg (enWi w)] H (.agg [a0, a1, a2, a3], _, l))
    exact ⟨_, l, h, fin _ _ .nils _ hd' hs⟩
   by_cases hk : w.kd = 9
   ·have hds : kdS T V free s w = backM T V free s w.n := by simp [kdS, hk]
    rw [hds]
    obtain ⟨H', lm, hm, hd', hs⟩ := mr_e encN_inj u.e61 (x := w.n) hd2 (back_m pl ok hk9 hd2 w.n)
    obtain ⟨a0, a1, a2, a3, ha, hone⟩ : Ans4 (backM T V free s w.n).1 := ans_err _
    rw [ha] at hm ⊢
    have hkp := hs.2.2
    obtain ⟨l, h⟩ := (clV 1 (af := a19) (r := (.agg [a0, a1, a2, a3])) (h' := (List.set H' (List.length (ap H (enWi w))) (.cells [a0, a1, a2, a3]))) (.w (.box (.c (.agg (enWi w)))) (.ptr H.length 0) (ap H (enWi w)) none :: .w (.alloc [(.int .i64 0), .nils, .nils, (.int .i64 0)]) (.ptr (List.length (ap H (enWi w))) 0) (ap (ap H (enWi w)) [(.int .i64 0), .nils, .nils, (.int .i64 0)]) none :: .q (.isNil 0 false (.c (.ptr p 0))) false :: .f (.load none (.c (.ptr p 4))) (.sl qw 1 0 now.length now.length true) :: .q (.isNil 1 false (.c (.sl qw 1 0 now.length now.length true))) false :: .f (.load (some 2) (.c (.ptr p 0))) (.agg (pL T V)) :: [.f (.load (some 14) (.c (.ptr H.length 0))) (.agg (enWi w)), .r 55 [(.agg (pL T V)), (.agg (enWi w))] (.bool true) (ap (ap H (enWi w)) [(.int .i64 0), .nils, .nils, (.int .i64 0)]) none, .f (.load none (.c (.ptr H.length 0))) (.int .i64 w.kd), .b (w.kd == 1) false, .b (w.kd == 2) false, .b (w.kd == 3) false, .b (w.kd == 4) false, .b (w.kd == 5) false, .b (w.kd == 6) false, .b (w.kd == 7) false, .b (w.kd == 8) false, .b (w.kd == 9) true, .f (.load none (.c (.ptr H.length 13))) (.int .i64 w.n), .r 61 [(.ptr p 0), (.int .i64 w.n)] (.agg [a0, a1, a2, a3]) H' lm, .w (.store 4 (.c (.ptr (List.length (ap H (enWi w))) 0)) (.c (.agg [a0, a1, a2, a3]))) (.tup []) (List.set H' (List.length (ap H (enWi w))) (.cells [a0, a1, a2, a3])) (some (List.length (ap H (enWi w)))), .l (.load (some 4) (.c (.ptr (List.length (ap H (enWi w))) 0))) (.agg [a0, a1, a2, a3])]) [(.agg [a0, a1, a2, a3])] u.n19 ⟨rfl, rfl, rfl, (ldV (ga (ga hp))), rfl, (ldV (ga (ga hp))), (ldV (ga gl)), (hwb ▸ wish_e u.e55 pl.toOkPl hrl _), (ldV (ga gl)), (cN (by omega)), (cN (by omega)), (cN (by omega)), (cN (by omega)), (cN (by omega)), (cN (by omega)), (cN (by omega)), (cN (by omega)), (cE hk), (ldV (ga gl)), hm, (stC (hkp _ _ nM gl) rfl (by kernel_rfl) hone), (ldV (gset (hkp _ _ nM gl))), trivial⟩ : ∃ l, Cl Γ Mo.T 19 [.ptr p 0, .agg (enWi w)] H (.agg [a0, a1, a2, a3], _, l))
    exact ⟨_, l, h, fin _ _ .nils _ hd' hs⟩
   have hds2 : kdS T V free s w = (errA 0, s) := by
    have : w.kd = 10 := by omega
    simp [kdS, this]
   rw [hds2]
   obtain ⟨l, h⟩ := (clV 1 (af := a19) (r := (.agg [(.int .i64 0), .nils, .nils, (.int .i64 0)])) (h' := (ap (ap H (enWi w)) [(.int .i64 0), .nils, .nils, (.int .i64 0)])) [.w (.box (.c (.agg (enWi w)))) (.ptr H.length 0) (ap H (enWi w)) none, .w (.alloc [(.int .i64 0), .nils, .nils, (.int .i64 0)]) (.ptr (List.length (ap H (enWi w))) 0) (ap (ap H (enWi w)) [(.int .i64 0), .nils, .nils, (.int .i64 0)]) none, .q (.isNil 0 false (.c (.ptr p 0))) false, .f (.load none (.c (.ptr p 4))) (.sl qw 1 0 now.length now.length true), .q (.isNil 1 false (.c (.sl qw 1 0 now.length now.length true))) false, .f (.load (some 2) (.c (.ptr p 0))) (.agg (pL T V)), .f (.load (some 14) (.c (.ptr H.length 0))) (.agg (enWi w)), .r 55 [(.agg (pL T V)), (.agg (enWi w))] (.bool true) (ap (ap H (enWi w)) [(.int .i64 0), .nils, .nils, (.int .i64 0)]) none, .f (.load none (.c (.ptr H.length 0))) (.int .i64 w.kd), .b (w.kd == 1) false, .b (w.kd == 2) false, .b (w.kd == 3) false, .b (w.kd == 4) false, .b (w.kd == 5) false, .b (w.kd == 6) false, .b (w.kd == 7) false, .b (w.kd == 8) false, .b (w.kd == 9) false, .w (.store 4 (.c (.ptr (List.length (ap H (enWi w))) 0)) (.c (.agg [(.int .i64 0), .nils, .nils, (.int .i64 0)]))) (.tup []) (ap (ap H (enWi w)) [(.int .i64 0), .nils, .nils, (.int .i64 0)]) (some (List.length (ap H (enWi w)))), .l (.load (some 4) (.c (.ptr (List.length (ap H (enWi w))) 0))) (.agg [(.int .i64 0), .nils, .nils, (.int .i64 0)])] [(.agg [(.int .i64 0), .nils, .nils, (.int .i64 0)])] u.n19 ⟨rfl, rfl, rfl, (ldV (ga (ga hp))), rfl, (ldV (ga (ga hp))), (ldV (ga gl)), (hwb ▸ wish_e u.e55 pl.toOkPl hrl _), (ldV (ga gl)), (cN (by omega)), (cN (by omega)), (cN (by omega)), (cN (by omega)), (cN (by omega)), (cN (by omega)), (cN (by omega)), (cN (by omega)), (cN (by omega)), stZ, (ldV gl), trivial⟩ : ∃ l, Cl Γ Mo.T 19 [.ptr p 0, .agg (enWi w)] H (errA 0, _, l))
   exact ⟨_, l, h, (Step.kept hd0 ((Kept.refl H).ap.ap)).symm⟩
end
theorem do_m {T : List (List Int)} {V : List Vw} {free : Bool} {k p : Nat} {s : DS} {H : List Blk} {w : Wi} (pl : OkP T V) (ok : OkS T k s) (hk9 : k ≤ 99999) (hrl : w.row.length ≤ 9223372036854775807) (hd : DBA T V free H p s) :
  ∃ h', AMS Tryz.prog 19 [.ptr p 0, .agg (enWi w)] H (doS T V free s w).1 h' ∧ DBA T V free h' p (doS T V free s w).2 ∧ Step H p h' := by
 obtain ⟨H', lo, g1, g2⟩ := do_cl uD pl ok hk9 hrl hd (w := w)
 exact ⟨H', Cl.ams KD g1 (by kernel_rfl), g2⟩
theorem do_ok {T : List (List Int)} {V : List Vw} {free : Bool} {k : Nat} {s : DS} {w : Wi} (pl : OkP T V) (ok : OkS T k s) (hk : k ≤ 99999) : OkS T (k + 1) (doS T V free s w).2 := by
 have ok1 := ok.mono (Nat.le_succ k)
 unfold doS
 split
 ·exact ok1
 ·split
  ·rename_i hwb
   unfold kdS
   split
   ·rename_i h; exact ins_ok pl ok hk hwb h
   split
   ·rename_i h; exact (chg_ok pl ok hk hwb h).mono (Nat.le_succ k)
   split
   ·exact ok1
   split
   ·exact ok1
   split
   ·exact ok1
   split
   ·exact ok1
   split
   ·exact save_ok ok1
   split
   ·exact back_ok ok1 _
   ·exact ok1
  ·exact ok1
open Go
theorem eqv_iV (n : Int) : eqv (iV n) (iV n) = true := by simp [eqv]
theorem eqv_tV (c : List Int) : eqv (tV c) (tV c) = true := by simp [eqv, eqvL, eqvL_map iV eqv_iV]
theorem eqv_vwV (v : Vw) : eqv (vwV v) (vwV v) = true := by simp [eqv, eqvL, eqvL_map iV eqv_iV]
theorem eqv_plan {T : List (List Int)} {V : List Vw} : eqv (.agg [(.ro (List.map tV T) 1 false), (.ro (List.map vwV V) 3 false)]) (.agg [(.ro (List.map tV T) 1 false), (.ro (List.map vwV V) 3 false)]) = true := by simp [eqv, eqvL, eqvL_map tV eqv_tV, eqvL_map vwV eqv_vwV]
def MC (base : Nat) (H : List Blk) (mv : AV) (l : List Tabs) : Prop := (l = [] ∧ mv = .nils) ∨ (l ≠ [] ∧ ∃ b, mv = .sl b 1 0 l.length l.length false ∧ H[b]? = some (.cells (l.map tsV)) ∧ base ≤ b)
theorem MC.mka {base : Nat} {H : List Blk} {mv : AV} {l : List Tabs} (h : MC base H mv l) : MkA H mv l := by
 rcases h with h | ⟨h0, b, rfl, h1, h2⟩
 ·exact .inl h
 ·exact .inr ⟨h0, b, l.length, _, rfl, h1, by simp, by rw [List.take_of_length_le (by simp)]⟩
set_option maxHeartbeats 8000000 in
theorem copy_cl {Γ : FuncId → Option GF} (hn : Γ 28 = none) (hg : Γ 51 = some (anyG Tryz.prog 51 (CP false true))) {T : List (List Int)} {V : List Vw} {free : Bool} {p : Nat} {s : DS} {H : List Blk} (hd : DBA T V free H p s) (ok : okTs s.now) (okw : ∀ ts, s.was = some ts → okTs ts) (okm : ∀ ts ∈ s.marks, okTs ts) (hml : s.marks.length ≤ 1000) :
  ∃ p2 H' lo, Cl Γ Mo.T 28 [.ptr p 0] H (.ptr p2 0, H', lo) ∧ DBA T V free H' p2 s ∧ Kept H H' ∧ ∀ i ∈ ids H' p2, H.length ≤ i := by
 obtain ⟨q, wv, mv, hb⟩ := hd
 obtain ⟨hqp, hwn, hmn⟩ := hb.ne
 have hw := hb.hw
 have hm := hb.hm
 have hp := hb.hp
 have hq := hb.hq
 have hpl := glt hp
 have hql := glt hq
 have hml2 : ∀ i, slId mv = some i → i < H.length := fun i hi => DBA.lt ⟨q, wv, mv, hb⟩ i (by rw [ids_of hp]; simp [hi])
 obtain ⟨now, was, marks⟩ := s
 simp only at hp hq hw hm ok okw okm hml
 have key : ∃ r H' lo, (∃ p2, r = .ptr p2 0 ∧ DBA T V free H' p2 { now := now, was := was, marks := marks } ∧ Kept H H' ∧ ∀ i ∈ ids H' p2, H.length ≤ i) ∧ Cl Γ Mo.T 28 [.ptr p 0] H (r, H', lo) := by
  refine clE (Γ := Γ) (tbl := Mo.T) (f := 28) (af := a28) (args := [.ptr p 0]) (h := H) hn (by kernel_rfl) (by kernel_rfl) (fun r H' => ∃ p2, r = .ptr p2 0 ∧ DBA T V free H' p2 { now := now, was := was, marks := marks } ∧ Kept H H' ∧ ∀ i ∈ ids H' p2, H.length ≤ i) ?_
  refine Wp.seq ((pathE (nt := 58) (live := [(0, (.ptr p 0))]) [] [0] (e := .normal) (vals := [(.ptr p 0)]) (h' := H) (Lv.start (by rfl) (by simp)) (fun _ => by kernel_rfl) trivial).mono ?_)
  rintro e s ⟨rfl, t1, lo1, rfl, hl1⟩
  refine Wp.seq ((pathE (nt := 58) [.q (.isNil 0 false (.c (.ptr p 0))) false] [0] (e := .normal) (vals := [(.ptr p 0)]) (h' := H) hl1 (fun _ => by kernel_rfl) ⟨rfl, trivial⟩).mono ?_)
  rintro e s ⟨rfl, t2, lo2, rfl, hl2⟩
  obtain ⟨lc, hcp⟩ := cp_s hg hq ok
  simp only [Bool.false_eq_true, if_false, slA] at hcp
  refine Wp.seq ((pathE (nt := 58) [.p (stays evC (AOper.mk (some 11) (.load (some 2) (.c (.ptr p 0))) none 0 1) (.agg [(.ro (T.map tV) 1 false), (.ro (V.map vwV) 3 false)]) [H, (H ++ [(.cells (now.map bV))]), (ap (H ++ [(.cells (now.map bV))]) [(.ro (T.map tV) 1 false), (.ro (V.map vwV) 3 false), (.bool free), (.sl H.length 1 0 now.length now.length true), .nils, .nils])] = true), .f (.load (some 2) (.c (.ptr p 0))) (.agg [(.ro (T.map tV) 1 false), (.ro (V.map vwV) 3 false)]), .p (stays evC (AOper.mk (some 15) (.load none (.c (.ptr p 2))) none 0 1) (.bool free) [H, (H ++ [(.cells (now.map bV))]), (ap (H ++ [(.cells (now.map bV))]) [(.ro (T.map tV) 1 false), (.ro (V.map vwV) 3 false), (.bool free), (.sl H.length 1 0 now.length now.length true), .nils, .nils])] = true), .f (.load none (.c (.ptr p 2))) (.bool free), .f (.load none (.c (.ptr p 3))) (.sl q 1 0 now.length now.length true), .r 51 [(.sl q 1 0 now.length now.length true)] (.sl H.length 1 0 now.length now.length true) (H ++ [(.cells (now.map bV))]) lc, .w (.box (.c (.agg [(.ro (T.map tV) 1 false), (.ro (V.map vwV) 3 false), (.bool free), (.sl H.length 1 0 now.length now.length true), .nils, .nils]))) (.ptr (List.length (H ++ [(.cells (now.map bV))])) 0) (ap (H ++ [(.cells (now.map bV))]) [(.ro (T.map tV) 1 false), (.ro (V.map vwV) 3 false), (.bool free), (.sl H.length 1 0 now.length now.length true), .nils, .nils]) none] [0, 3] (e := .normal) (vals := [(.ptr p 0), (.ptr (List.length (H ++ [(.cells (now.map bV))])) 0)]) (h' := (ap (H ++ [(.cells (now.map bV))]) [(.ro (T.map tV) 1 false), (.ro (V.map vwV) 3 false), (.bool free), (.sl H.length 1 0 now.length now.length true), .nils, .nils])) hl2 (fun _ => by kernel_rfl) ⟨(stays2 eqv_plan (And.intro (ldV hp) (And.intro (ldV (ga hp)) trivial))), (ldV hp), (stays2 (by simp [eqv, eqvL]) (And.intro (ldV hp) (And.intro (ldV (ga hp)) trivial))), (ldV hp), (ldV hp), hcp, rfl, trivial⟩).mono ?_)
  rintro e s ⟨rfl, t3, lo3, rfl, hl3⟩
  -- whether a transaction is on
  refine Wp.seq ?_
  have hD : Wp Γ Mo.T (hd (tl (tl (tl a28.body)))) { t := t3, h := (ap (H ++ [(.cells (List.map bV now))]) [(.ro (List.map tV T) 1 false), (.ro (List.map vwV V) 3 false), (.bool free), (.sl (List.length H) 1 0 (List.length now) (List.length now) true), .nils, .nils]), lo := lo3 } fun e s => e = .normal ∧ ∃ wv2 G0 t lo, s = { t := t, h := G0, lo := lo } ∧ Lv 58 [(0, .ptr p 0), (3, .ptr (List.length (H ++ [(.cells (List.map bV now))])) 0)] t ∧ Kept H G0 ∧ G0[(List.length (H ++ [(.cells (List.map bV now))]))]? = some (.cells (dbC T V free (List.length H) now.length wv2 .nils)) ∧ G0[(List.length H)]? = some (.cells (tsC now)) ∧ WaA G0 now.length wv2 was ∧ (∀ i, slId wv2 = some i → H.length + 2 ≤ i ∧ i < G0.length) ∧ H.length + 2 ≤ G0.length := by
   cases was with
   | none =>
    have hwv : wv = .nils := hw
    subst hwv
    refine (pathE (nt := 58) [.f (.load none (.c (.ptr p 4))) .nils, .q (.isNil 1 true (.c .nils)) false] [0, 3] (e := .normal) (vals := [(.ptr p 0), (.ptr (List.length (H ++ [(.cells (now.map bV))])) 0)]) (h' := (ap (H ++ [(.cells (now.map bV))]) [(.ro (T.map tV) 1 false), (.ro (V.map vwV) 3 false), (.bool free), (.sl H.length 1 0 now.length now.length true), .nils, .nils])) hl3 (fun _ => by kernel_rfl) ⟨(ldV (ga (ga hp))), rfl, trivial⟩).mono ?_
    rintro e s ⟨rfl, t4, lo4, rfl, hl4⟩
    exact ⟨rfl, .nils, _, t4, lo4, rfl, hl4, ((Kept.refl H).ap).ap, gl, ga gl, rfl, fun i hi => by (cases hi), by simp⟩
   | some ts =>
    obtain ⟨qw, rfl, hqw, htl⟩ := hw
    have hqwl := glt hqw
    obtain ⟨lw, hcw⟩ := cp_s (Γ := Γ) (fs := false) (fr := true) hg (H := (ap (H ++ [(.cells (List.map bV now))]) [(.ro (List.map tV T) 1 false), (.ro (List.map vwV V) 3 false), (.bool free), (.sl (List.length H) 1 0 (List.length now) (List.length now) true), .nils, .nils])) (ga (ga hqw)) (okw ts rfl)
    simp only [Bool.false_eq_true, if_false, slA, htl] at hcw
    refine (pathE (nt := 58) [.f (.load none (.c (.ptr p 4))) (.sl qw 1 0 now.length now.length true), .q (.isNil 1 true (.c (.sl qw 1 0 now.length now.length true))) true, .f (.load none (.c (.ptr p 4))) (.sl qw 1 0 now.length now.length true), .r 51 [(.sl qw 1 0 now.length now.length true)] (.sl (List.length (ap (H ++ [(.cells (now.map bV))]) [(.ro (T.map tV) 1 false), (.ro (V.map vwV) 3 false), (.bool free), (.sl H.length 1 0 now.length now.length true), .nils, .nils])) 1 0 now.length now.length true) ((ap (H ++ [(.cells (now.map bV))]) [(.ro (T.map tV) 1 false), (.ro (V.map vwV) 3 false), (.bool free), (.sl H.length 1 0 now.length now.length true), .nils, .nils]) ++ [(.cells (ts.map bV))]) lw, .w (.store 1 (.c (.ptr (List.length (H ++ [(.cells (now.map bV))])) 4)) (.c (.sl (List.length (ap (H ++ [(.cells (now.map bV))]) [(.ro (T.map tV) 1 false), (.ro (V.map vwV) 3 false), (.bool free), (.sl H.length 1 0 now.length now.length true), .nils, .nils])) 1 0 now.length now.length true))) (.tup []) (List.set ((ap (H ++ [(.cells (now.map bV))]) [(.ro (T.map tV) 1 false), (.ro (V.map vwV) 3 false), (.bool free), (.sl H.length 1 0 now.length now.length true), .nils, .nils]) ++ [(.cells (ts.map bV))]) (List.length (H ++ [(.cells (now.map bV))])) (.cells [(.ro (T.map tV) 1 false), (.ro (V.map vwV) 3 false), (.bool free), (.sl H.length 1 0 now.length now.length true), (.sl (List.length (ap (H ++ [(.cells (now.map bV))]) [(.ro (T.map tV) 1 false), (.ro (V.map vwV) 3 false), (.bool free), (.sl H.length 1 0 now.length now.length true), .nils, .nils])) 1 0 now.length now.length true), .nils])) (some (List.length (H ++ [(.cells (now.map bV))])))] [0, 3] (e := .normal) (vals := [(.ptr p 0), (.ptr (List.length (H ++ [(.cells (now.map bV))])) 0)]) (h' := (List.set ((ap (H ++ [(.cells (now.map bV))]) [(.ro (T.map tV) 1 false), (.ro (V.map vwV) 3 false), (.bool free), (.sl H.length 1 0 now.length now.length true), .nils, .nils]) ++ [(.cells (ts.map bV))]) (List.length (H ++ [(.cells (now.map bV))])) (.cells [(.ro (T.map tV) 1 false), (.ro (V.map vwV) 3 false), (.bool free), (.sl H.length 1 0 now.length now.length true), (.sl (List.length (ap (H ++ [(.cells (now.map bV))]) [(.ro (T.map tV) 1 false), (.ro (V.map vwV) 3 false), (.bool free), (.sl H.length 1 0 now.length now.length true), .nils, .nils])) 1 0 now.length now.length true), .nils]))) hl3 (fun _ => by kernel_rfl) ⟨(ldV (ga (ga hp))), rfl, (ldV (ga (ga hp))), hcw, (stK (ga gl)), trivial⟩).mono ?_
    rintro e s ⟨rfl, t4, lo4, rfl, hl4⟩
    refine ⟨rfl, (.sl (List.length (ap (H ++ [(.cells (List.map bV now))]) [(.ro (List.map tV T) 1 false), (.ro (List.map vwV V) 3 false), (.bool free), (.sl (List.length H) 1 0 (List.length now) (List.length now) true), .nils, .nils])) 1 0 (List.length now) (List.length now) true), _, t4, lo4, rfl, hl4, (((Kept.refl H).ap).ap.ap).set (by simp), gset (ga gl), gne (by simp) (ga (ga gl)), ⟨_, rfl, gne (by simp) gl, htl⟩, fun i hi => ?_, by simp⟩
    cases hi
    simp
  refine hD.mono ?_
  rintro e s ⟨rfl, wv2, G0, t4, lo4, rfl, hl4, hkG, hGP, hGn, hGw, hwi, hGl⟩
  have hPe : ((List.length (H ++ [(.cells (List.map bV now))]))) = H.length + 1 := by simp
  generalize ((List.length (H ++ [(.cells (List.map bV now))]))) = P at hl4 hGP hPe
  have hGp := hkG.2 _ _ hp
  -- the savepoints
  have hE : Wp Γ Mo.T (hd (hd (tl (tl (tl (tl a28.body)))))) { t := t4, h := G0, lo := lo4 } fun e s => e = .normal ∧ ∃ t lo, s = { t := t, h := G0, lo := lo } ∧ Lv 58 [(41, .int .i64 0), (3, .ptr P 0), (39, mv), (40, .int .i64 (marks.length : Int))] t := by
   rcases hm with ⟨rfl, rfl⟩ | ⟨h0, mk, cap, zs, rfl, hmk, hz, htk⟩
   ·refine (pathE (nt := 58) [.f (.load none (.c (.ptr p 5))) .nils] [41, 3, 39, 40] (e := .normal) (vals := [(.int .i64 0), (.ptr P 0), .nils, (.int .i64 0)]) (h' := G0) hl4 (fun _ => by kernel_rfl) ⟨(ldV hGp), trivial⟩).mono ?_
    rintro e s ⟨rfl, t5, lo5, rfl, hl5⟩
    exact ⟨rfl, t5, lo5, rfl, hl5⟩
   ·refine (pathE (nt := 58) [.f (.load none (.c (.ptr p 5))) (.sl mk 1 0 marks.length cap false)] [41, 3, 39, 40] (e := .normal) (vals := [(.int .i64 0), (.ptr P 0), (.sl mk 1 0 marks.length cap false), (.int .i64 (marks.length : Int))]) (h' := G0) hl4 (fun _ => by kernel_rfl) ⟨(ldV hGp), trivial⟩).mono ?_
    rintro e s ⟨rfl, t5, lo5, rfl, hl5⟩
    exact ⟨rfl, t5, lo5, rfl, hl5⟩
  refine Wp.seq (Wp.seq (hE.mono ?_))
  rintro e s ⟨rfl, t5, lo5, rfl, hl5⟩
  refine (rangeL (i := 41) (n := 40) (c := 42) (d := 56) (X := List Blk × AV) (N := marks.length) (fun _ _ => [(3, .ptr P 0), (39, mv), (40, .int .i64 (marks.length : Int))]) (fun k x => x.1) (fun k x => Onto P G0 x.1 ∧ x.1[P]? = some (.cells (dbC T V free (List.length H) now.length wv2 x.2)) ∧ MC G0.length x.1 x.2 (marks.take k)) (fun _ => False)
   (by omega) (by decide) (by decide) (by decide) (by decide) (by decide) (fun _ _ => rfl) (fun _ _ => rfl) ?_ (x0 := (G0, .nils)) ⟨⟨Nat.le_refl _, fun _ _ _ h => h⟩, hGP, .inl ⟨rfl, rfl⟩⟩ hl5).mono ?_
  ·rintro k ⟨G, mw⟩ t6 lo6 hkN ⟨hO, hP, hMC⟩ hlb
   rcases hm with ⟨rfl, rfl⟩ | ⟨h0, mk, cap, zs, rfl, hmk0, hzl, htk⟩
   ·exact absurd hkN (by simp)
   have hmkl := hml2 mk rfl
   have hmk : G[mk]? = some (.cells zs) := hO.2 mk _ (by omega) (hkG.2 _ _ hmk0)
   have hPmk : P ≠ mk := by omega
   have hx : okTs marks[k] := okm _ (List.getElem_mem hkN)
   have hmz : marks.length ≤ zs.length := by
    have := congrArg List.length htk
    rw [List.length_take, List.length_map] at this
    omega
   have hz : zs[k]? = some (tsV marks[k]) := by
    have : (zs.take marks.length)[k]? = some (tsV marks[k]) := by rw [htk]; simp [hkN]
    rw [List.getElem?_take_of_lt hkN] at this
    exact this
   have htk1 : marks.take (k + 1) = marks.take k ++ [marks[k]] := List.take_succ_eq_append_getElem hkN
   have hne1 : marks.take (k + 1) ≠ [] := fun h => by
    have := congrArg List.length h
    rw [List.length_take, List.length_nil] at this
    omega
   have hl1 : (marks.take (k + 1)).length = k + 1 := by rw [List.length_take]; omega
   have hGl2 := hO.1
   have hPG := glt hP
   simp only at hGl2 hP hMC hPG
   generalize marks[k] = x at hx hz htk1
   obtain ⟨lc, hcp⟩ := cp_r (Γ := Γ) (fs := false) (fr := true) hg (H := G) hx
   simp only [if_true] at hcp
   rcases hMC with ⟨hm0, rfl⟩ | ⟨hm0, mb, rfl, hmb, hmbl⟩
   ·have hk0 : k = 0 := by
     have := congrArg List.length hm0
     rw [List.length_take] at this
     simp only [List.length_nil] at this
     omega
    refine (pathE (nt := 58) [.p (1 = 1), .p ((0 : Int) ≤ (k : Int)), .p (((k : Int) : Int) < ((marks.length : Nat) : Int)), .f (.load none (.c (.ptr mk (0 + (Int.toNat (k : Int)) * 1)))) (.ro (x.map bV) 1 false), .p (stays evC (AOper.mk (some 49) (.load none (.c (.ptr P 5))) none 0 2) .nils [G, (G ++ [.gone]), (ap (G ++ [.gone]) [(.ro (x.map bV) 1 false)]), ((ap (G ++ [.gone]) [(.ro (x.map bV) 1 false)]) ++ [(.cells [(.ro (x.map bV) 1 false)])]), (List.set ((ap (G ++ [.gone]) [(.ro (x.map bV) 1 false)]) ++ [(.cells [(.ro (x.map bV) 1 false)])]) P (.cells [(.ro (T.map tV) 1 false), (.ro (V.map vwV) 3 false), (.bool free), (.sl H.length 1 0 now.length now.length true), wv2, (.sl (List.length (ap (G ++ [.gone]) [(.ro (x.map bV) 1 false)])) 1 0 1 1 false)]))] = true), .f (.load none (.c (.ptr P 5))) .nils, .r 51 [(.ro (x.map bV) 1 false)] (.ro (x.map bV) 1 false) (G ++ [.gone]) lc, .w (.buildSl [.nils] 1 [(0, (.c (.ro (x.map bV) 1 false)))]) (.sl (List.length (G ++ [.gone])) 1 0 1 1 true) (ap (G ++ [.gone]) [(.ro (x.map bV) 1 false)]) none, .w (.append 1 24 (.c .nils) (.c (.sl (List.length (G ++ [.gone])) 1 0 1 1 true))) (.sl (List.length (ap (G ++ [.gone]) [(.ro (x.map bV) 1 false)])) 1 0 1 1 false) ((ap (G ++ [.gone]) [(.ro (x.map bV) 1 false)]) ++ [(.cells [(.ro (x.map bV) 1 false)])]) none, .w (.store 1 (.c (.ptr P 5)) (.c (.sl (List.length (ap (G ++ [.gone]) [(.ro (x.map bV) 1 false)])) 1 0 1 1 false))) (.tup []) (List.set ((ap (G ++ [.gone]) [(.ro (x.map bV) 1 false)]) ++ [(.cells [(.ro (x.map bV) 1 false)])]) P (.cells [(.ro (T.map tV) 1 false), (.ro (V.map vwV) 3 false), (.bool free), (.sl H.length 1 0 now.length now.length true), wv2, (.sl (List.length (ap (G ++ [.gone]) [(.ro (x.map bV) 1 false)])) 1 0 1 1 false)])) (some P)] [41, 3, 39, 40] (e := .normal) (vals := [(.int .i64 (k : Int)), (.ptr P 0), (.sl mk 1 0 marks.length cap false), (.int .i64 (List.length marks : Int))]) (h' := (List.set ((ap (G ++ [.gone]) [(.ro (x.map bV) 1 false)]) ++ [(.cells [(.ro (x.map bV) 1 false)])]) P (.cells [(.ro (T.map tV) 1 false), (.ro (V.map vwV) 3 false), (.bool free), (.sl H.length 1 0 now.length now.length true), wv2, (.sl (List.length (ap (G ++ [.gone]) [(.ro (x.map bV) 1 false)])) 1 0 1 1 false)]))) hlb (fun _ => by kernel_rfl) ⟨rfl, (by omega), (by omega), (ldX hmk hz), (stays2 (by simp [eqv, eqvL]) (And.intro (ldV hP) (And.intro (ldV (ga hP)) (And.intro (ldV (ga (ga hP))) trivial)))), (ldV hP), hcp, rfl, (mk_nil gl rfl), (stK (ga (ga (ga hP)))), trivial⟩).mono ?_
    rintro e s ⟨rfl, t7, lo7, rfl, hl7⟩
    refine .inl ⟨rfl, (_, (.sl (List.length (ap (G ++ [.gone]) [(.ro (List.map bV x) 1 false)])) 1 0 1 1 false)), t7, lo7, rfl, ⟨⟨by simp <;> omega, fun i x hi hx => gne (Ne.symm hi) (ga (ga (ga (hO.2 i x hi hx))))⟩, gset (ga (ga (ga hP))), .inr ⟨hne1, _, by rw [hl1, hk0], gne (by simp <;> omega) (by rw [htk1, hm0]; exact gl), by simp <;> omega⟩⟩, hl7⟩
   ·have hkl : (marks.take k).length = k := by rw [List.length_take]; omega
    rw [hkl] at hP
    generalize hms : (marks.take k).map tsV = ms at hmb
    have hmsl : ms.length = k := by rw [← hms, List.length_map, hkl]
    have hmP : mb ≠ P := by omega
    have hmk2 : mb ≠ mk := by omega
    have hmbl2 := glt hmb
    refine (pathE (nt := 58) [.p (1 = 1), .p ((0 : Int) ≤ (k : Int)), .p (((k : Int) : Int) < ((marks.length : Nat) : Int)), .f (.load none (.c (.ptr mk (0 + (Int.toNat (k : Int)) * 1)))) (.ro (x.map bV) 1 false), .p (stays evC (AOper.mk (some 49) (.load none (.c (.ptr P 5))) none 0 2) (.sl mb 1 0 k k false) [G, (G ++ [.gone]), (ap (G ++ [.gone]) [(.ro (x.map bV) 1 false)]), ((List.set (ap (G ++ [.gone]) [(.ro (x.map bV) 1 false)]) mb .gone) ++ [(.cells (List.take k ms ++ [(.ro (x.map bV) 1 false)]))]), (List.set ((List.set (ap (G ++ [.gone]) [(.ro (x.map bV) 1 false)]) mb .gone) ++ [(.cells (List.take k ms ++ [(.ro (x.map bV) 1 false)]))]) P (.cells [(.ro (T.map tV) 1 false), (.ro (V.map vwV) 3 false), (.bool free), (.sl H.length 1 0 now.length now.length true), wv2, (.sl (List.length (ap (G ++ [.gone]) [(.ro (x.map bV) 1 false)])) 1 0 (k + 1) (k + 1) false)]))] = true), .f (.load none (.c (.ptr P 5))) (.sl mb 1 0 k k false), .r 51 [(.ro (x.map bV) 1 false)] (.ro (x.map bV) 1 false) (G ++ [.gone]) lc, .w (.buildSl [.nils] 1 [(0, (.c (.ro (x.map bV) 1 false)))]) (.sl (List.length (G ++ [.gone])) 1 0 1 1 true) (ap (G ++ [.gone]) [(.ro (x.map bV) 1 false)]) none, .w (.append 1 24 (.c (.sl mb 1 0 k k false)) (.c (.sl (List.length (G ++ [.gone])) 1 0 1 1 true))) (.sl (List.length (ap (G ++ [.gone]) [(.ro (x.map bV) 1 false)])) 1 0 (k + 1) (k + 1) false) ((List.set (ap (G ++ [.gone]) [(.ro (x.map bV) 1 false)]) mb .gone) ++ [(.cells (List.take k ms ++ [(.ro (x.map bV) 1 false)]))]) (some mb), .w (.store 1 (.c (.ptr P 5)) (.c (.sl (List.length (ap (G ++ [.gone]) [(.ro (x.map bV) 1 false)])) 1 0 (k + 1) (k + 1) false))) (.tup []) (List.set ((List.set (ap (G ++ [.gone]) [(.ro (x.map bV) 1 false)]) mb .gone) ++ [(.cells (List.take k ms ++ [(.ro (x.map bV) 1 false)]))]) P (.cells [(.ro (T.map tV) 1 false), (.ro (V.map vwV) 3 false), (.bool free), (.sl H.length 1 0 now.length now.length true), wv2, (.sl (List.length (ap (G ++ [.gone]) [(.ro (x.map bV) 1 false)])) 1 0 (k + 1) (k + 1) false)])) (some P)] [41, 3, 39, 40] (e := .normal) (vals := [(.int .i64 (k : Int)), (.ptr P 0), (.sl mk 1 0 marks.length cap false), (.int .i64 (List.length marks : Int))]) (h' := (List.set ((List.set (ap (G ++ [.gone]) [(.ro (x.map bV) 1 false)]) mb .gone) ++ [(.cells (List.take k ms ++ [(.ro (x.map bV) 1 false)]))]) P (.cells [(.ro (T.map tV) 1 false), (.ro (V.map vwV) 3 false), (.bool free), (.sl H.length 1 0 now.length now.length true), wv2, (.sl (List.length (ap (G ++ [.gone]) [(.ro (x.map bV) 1 false)])) 1 0 (k + 1) (k + 1) false)]))) hlb (fun _ => by kernel_rfl) ⟨rfl, (by omega), (by omega), (ldX hmk hz), (stays2 (by simp [eqv, eqvL]) (And.intro (ldV hP) (And.intro (ldV (ga hP)) (And.intro (ldV (ga (ga hP))) trivial)))), (ldV hP), hcp, rfl, (mk_new (ga (ga hmb)) gl (by omega) (by omega) rfl (by omega)), (stK (ga (gne hmP (ga (ga hP))))), trivial⟩).mono ?_
    rintro e s ⟨rfl, t7, lo7, rfl, hl7⟩
    refine .inl ⟨rfl, (_, (.sl (List.length (ap (G ++ [.gone]) [(.ro (List.map bV x) 1 false)])) 1 0 (k + 1) (k + 1) false)), t7, lo7, rfl, ⟨⟨by simp <;> omega, fun i x hi hx => gne (Ne.symm hi) (ga (gne (by have := glt hx; omega) (ga (ga (hO.2 i x hi hx)))))⟩, gset (ga (gne hmP (ga (ga hP)))), .inr ⟨hne1, _, by rw [hl1], ?_, by simp <;> omega⟩⟩, hl7⟩
    have e0 : (List.length (List.set (ap (G ++ [.gone]) [(.ro (List.map bV x) 1 false)]) mb .gone)) = (List.length (ap (G ++ [.gone]) [(.ro (List.map bV x) 1 false)])) := by simp
    refine gne (by simp <;> omega) ?_
    rw [← e0, htk1, List.map_append, hms, List.take_of_length_le (by omega)]
    exact gl
  ·rintro e s (⟨rfl, ⟨G, mw⟩, t6, lo6, rfl, ⟨hO, hP, hMC⟩, hle⟩ | ⟨rfl, h⟩)
   ·simp only at hO hP hMC hle ⊢
    refine (pathE (nt := 58) [] [2] (e := .ret) (vals := [(.ptr P 0)]) (h' := G) hle (fun _ => by kernel_rfl) trivial).mono ?_
    rintro e s ⟨rfl, t7, lo7, rfl, hl7⟩
    have hret := hl7.get (2, .ptr P 0) (by simp)
    rw [getX_eq] at hret
    rw [List.take_length] at hMC
    have hGG : G0.length ≤ G.length := hO.1
    have hkG1 : H.length ≤ G0.length := hkG.1
    have hids := ids_of hP
    refine ⟨rfl, [.ptr P 0], by show resAll _ [.t 2] = _; simp only [resAll, resOf, hret], P, rfl, ⟨(List.length H), wv2, mw, ⟨hP, hO.2 _ _ (by omega) hGn, hGw.keep fun i x hi hx => hO.2 i x (by have := (hwi i hi).1; omega) hx, hMC.mka, ?_⟩⟩, ⟨Nat.le_trans hkG1 hGG, fun i x hx => hO.2 i x (by have := glt hx; omega) (hkG.2 i x hx)⟩, fun i hi => ?_⟩
    ·rw [hids]
     have hmw : ∀ i, slId mw = some i → G0.length ≤ i := fun i hi => by
      rcases hMC with ⟨_, h⟩ | ⟨_, b, h, _, hbl⟩
      ·rw [h] at hi; cases hi
      ·rw [h] at hi; cases hi; exact hbl
     cases hw2 : slId wv2 with
     | none => cases hm2 : slId mw with
      | none => simp; omega
      | some j => have := hmw j hm2; simp; omega
     | some i => have h1 := hwi i hw2; cases hm2 : slId mw with
      | none => simp; omega
      | some j => have := hmw j hm2; simp; omega
    ·rw [hids] at hi
     simp only [List.mem_cons, List.mem_append, Option.mem_toList] at hi
     rcases hi with rfl | rfl | hi | hi
     ·omega
     ·exact Nat.le_refl _
     ·have := hwi i hi; omega
     ·rcases hMC with ⟨_, h⟩ | ⟨_, b, h, _, hbl⟩
      ·rw [h] at hi; cases hi
      ·rw [h] at hi; cases hi; omega
   ·exact h.elim
 obtain ⟨r, H', lo, ⟨p2, rfl, h1, h2, h3⟩, h⟩ := key
 exact ⟨p2, H', lo, h, h1, h2, h3⟩
open Go
noncomputable def gam14 : List (Nat × GF) := (90, g90m) :: gam8
theorem K14 : Known (gGet gam14) tree.get Tryz.prog := known_of (by kernel_rfl) ⟨cloneM90_ok, oft_ok, ofv_ok, isVal_ok, view_ok, grp_ok, tot_ok, adt_ok, fit_ok, code_ok, int_ok, of_ok, add_ok, cmp_ok, good_ok, xSub_ok, xAdd_ok, trivial⟩ all
noncomputable abbrev G14 : FuncId → Option GF := gGet gam14
def TbE (H : List Blk) (base : Nat) (v : AV) (rows : List (List Val)) : Prop := (rows = [] ∧ v = .ro [] 1 true) ∨ (rows ≠ [] ∧ ∃ b, v = .sl b 1 0 rows.length rows.length false ∧ H[b]? = some (.cells (rows.map rV)) ∧ base ≤ b)
def TbM (H : List Blk) (base : Nat) (vs : List AV) (ts : Tabs) : Prop := vs.length = ts.length ∧ ∀ (i : Nat) (v : AV) (rows : List (List Val)), vs[i]? = some v → ts[i]? = some rows → TbE H base v rows
theorem TbE.keep {H H' : List Blk} {base : Nat} {v : AV} {rows : List (List Val)} (h : TbE H base v rows) (hk : ∀ i x, base ≤ i → H[i]? = some x → H'[i]? = some x) : TbE H' base v rows := by
 rcases h with h | ⟨h0, b, h1, h2, h3⟩
 ·exact .inl h
 ·exact .inr ⟨h0, b, h1, hk b _ h3 h2, h3⟩
theorem TbM.snoc {H H' : List Blk} {base : Nat} {vs : List AV} {ts : Tabs} {v : AV} {rows : List (List Val)} (h : TbM H base vs ts) (hk : ∀ i x, base ≤ i → H[i]? = some x → H'[i]? = some x) (hv : TbE H' base v rows) : TbM H' base (vs ++ [v]) (ts ++ [rows]) := by
 refine ⟨by simp [h.1], fun i a b ha hb => ?_⟩
 by_cases hi : i < vs.length
 ·rw [List.getElem?_append_left hi] at ha
  rw [List.getElem?_append_left (by rw [← h.1]; exact hi)] at hb
  exact (h.2 i a b ha hb).keep hk
 ·have e1 := (List.getElem?_eq_some_iff.1 ha).1
  have : i = vs.length := by simp at e1; omega
  subst this
  rw [List.getElem?_append_right (Nat.le_refl _), Nat.sub_self] at ha
  rw [h.1, List.getElem?_append_right (Nat.le_refl _), Nat.sub_self] at hb
  cases ha; cases hb
  exact hv
theorem copiedM_cl {H : List Blk} {q : Nat} {ts : Tabs} (hq : H[q]? = some (.cells (tsC ts))) (hl : ts.length ≤ 1000) (hxs : ∀ x ∈ ts, x.length ≤ 1000000) : ∃ vs H' lo, Cl G14 Mo.T 51 [(.sl q 1 0 (List.length ts) (List.length ts) true)] H (.sl H.length 1 0 ts.length ts.length true, H', lo) ∧ H'[H.length]? = some (.cells vs) ∧ TbM H' (H.length + 1) vs ts ∧ Kept H H' := by
 have key : ∃ r h' lo, (r = .sl H.length 1 0 ts.length ts.length true ∧ ∃ vs, h'[H.length]? = some (.cells vs) ∧ TbM h' (H.length + 1) vs ts ∧ Kept H h') ∧ Cl G14 Mo.T 51 [(.sl q 1 0 (List.length ts) (List.length ts) true)] H (r, h', lo) := by
  refine clE (Γ := G14) (tbl := Mo.T) (f := 51) (af := a51) (args := [(.sl q 1 0 (List.length ts) (List.length ts) true)]) (h := H) (by kernel_rfl) (by kernel_rfl) (by kernel_rfl) (fun r h' => r = .sl H.length 1 0 ts.length ts.length true ∧ ∃ vs, h'[H.length]? = some (.cells vs) ∧ TbM h' (H.length + 1) vs ts ∧ Kept H h') ?_
  refine Wp.seq ((pathE (nt := 23) (live := [(0, (.sl q 1 0 ts.length ts.length true))]) [] [0] (e := .normal) (vals := [(.sl q 1 0 ts.length ts.length true)]) (h' := H) (Lv.start (by rfl) (by simp)) (fun _ => by kernel_rfl) trivial).mono ?_)
  rintro e s ⟨rfl, t1, lo1, rfl, hl1⟩
  have hmk : wOp evC H (.mksl [.nils] 24 (.c (.int .i64 (List.length ts : Int))) (.c (.int .i64 (List.length ts : Int)))) = some ((.sl (List.length H) 1 0 (List.length ts) (List.length ts) true), (H ++ [(Blk.cells (List.replicate (List.length ts) AV.nils))]), none) := by
   have hfl : (List.replicate ts.length [AV.nils]).flatten = List.replicate ts.length .nils := by
    have : ∀ n, (List.replicate n [AV.nils]).flatten = List.replicate n AV.nils := fun n => by
     induction n with
     | zero => rfl
     | succ k ih => rw [List.replicate_succ, List.flatten_cons, ih]; rfl
    rw [this]
   simp only [wOp, evC]
   rw [if_pos (by simp; omega)]
   simp only [Int.toNat_natCast, hfl, List.length_singleton]
  refine Wp.seq ((pathE (nt := 23) [.w (.mksl [.nils] 24 (.c (.int .i64 (ts.length : Int))) (.c (.int .i64 (ts.length : Int)))) (.sl H.length 1 0 ts.length ts.length true) (H ++ [(.cells (List.replicate ts.length .nils))]) none] [0, 3] (e := .normal) (vals := [(.sl q 1 0 ts.length ts.length true), (.sl H.length 1 0 ts.length ts.length true)]) (h' := (H ++ [(.cells (List.replicate ts.length .nils))])) hl1 (fun _ => by kernel_rfl) ⟨hmk, trivial⟩).mono ?_)
  rintro e s ⟨rfl, t2, lo2, rfl, hl2⟩
  refine Wp.seq (Wp.seq ((pathE (nt := 23) [] [11, 3, 9, 10] (e := .normal) (vals := [(.int .i64 0), (.sl H.length 1 0 ts.length ts.length true), (.sl q 1 0 ts.length ts.length true), (.int .i64 (ts.length : Int))]) (h' := (H ++ [(.cells (List.replicate ts.length .nils))])) hl2 (fun _ => by kernel_rfl) trivial).mono ?_))
  rintro e s ⟨rfl, t3, lo3, rfl, hl3⟩
  have hql := glt hq
  have hG0 : ((H ++ [(Blk.cells (List.replicate (List.length ts) AV.nils))]))[H.length]? = some (.cells (List.replicate ts.length .nils)) := gl
  have hk0 : Kept H (H ++ [(Blk.cells (List.replicate (List.length ts) AV.nils))]) := (Kept.refl H).ap
  obtain ⟨O, hO⟩ : ∃ O, H.length = O := ⟨_, rfl⟩
  have hL0 : ((H ++ [(Blk.cells (List.replicate (List.length ts) AV.nils))])).length = O + 1 := by simp; omega
  rw [hO] at hG0 hl3 ⊢
  generalize (H ++ [(Blk.cells (List.replicate (List.length ts) AV.nils))]) = G0 at hG0 hk0 hl3 hL0 ⊢
  refine (rangeL (i := 11) (n := 10) (c := 12) (d := 21) (X := List Blk × List AV) (N := ts.length) (fun _ _ => [(3, (.sl O 1 0 (List.length ts) (List.length ts) true)), (9, (.sl q 1 0 (List.length ts) (List.length ts) true)), (10, .int .i64 (List.length ts : Int))]) (fun k x => x.1) (fun k x => x.1[O]? = some (.cells (x.2 ++ List.replicate (ts.length - k) .nils)) ∧ TbM x.1 (O + 1) x.2 (ts.take k) ∧ Kept H x.1 ∧ O + 1 ≤ x.1.length) (fun _ => False)
   (by omega) (by decide) (by decide) (by decide) (by decide) (by decide) (fun _ _ => rfl) (fun _ _ => rfl) ?_ (x0 := (G0, [])) ⟨hG0, ⟨rfl, fun i v rows hv => by simp at hv⟩, hk0, (by show O + 1 ≤ G0.length; omega)⟩ hl3).mono ?_
  ·rintro k ⟨G, vs⟩ t4 lo4 hkN ⟨hGO, hTb, hK, hGl⟩ hlb
   simp only at hGO hTb hK hGl
   have hGq := hK.2 _ _ hq
   have hx : (tsC ts)[k]? = some (bV ts[k]) := by simp [hkN]
   have hxl0 := hxs _ (List.getElem_mem hkN)
   have htk1 : ts.take (k + 1) = ts.take k ++ [ts[k]] := List.take_succ_eq_append_getElem hkN
   have hvk : vs.length = k := by rw [hTb.1, List.length_take]; omega
   have hset : ∀ v : AV, (vs ++ List.replicate (ts.length - k) AV.nils).set k v = (vs ++ [v]) ++ List.replicate (ts.length - (k + 1)) AV.nils := fun v => by
    rw [List.set_append_right _ _ (by omega), hvk, Nat.sub_self, show ts.length - k = (ts.length - (k + 1)) + 1 by omega, List.replicate_succ, List.set_cons_zero, List.append_assoc]
    rfl
   have hkc : k < (vs ++ List.replicate (ts.length - k) AV.nils).length := by simp; omega
   generalize hcs : vs ++ List.replicate (ts.length - k) AV.nils = cs at hGO hset hkc
   generalize ts[k] = x at hx hxl0 htk1
   by_cases hx0 : x = []
   ·subst hx0
    refine (pathE (nt := 23) [.p (1 = 1), .p ((0 : Int) ≤ (k : Int)), .p (((k : Int) : Int) < ((ts.length : Nat) : Int)), .f (.load none (.c (.ptr q (0 + (Int.toNat (k : Int)) * 1)))) (.ro (List.map rV []) 1 false), .r 90 [(.ro (List.map rV []) 1 false)] (.ro [] 1 true) G none, .p (1 = 1), .p ((0 : Int) ≤ (k : Int)), .p (((k : Int) : Int) < ((ts.length : Nat) : Int)), .w (.store 1 (.c (.ptr O (0 + (Int.toNat (k : Int)) * 1))) (.c (.ro [] 1 true))) (.tup []) (G.set O (.cells (cs.set k (.ro [] 1 true)))) (some O)] [11, 3, 9, 10] (e := .normal) (vals := [(.int .i64 (k : Int)), (.sl O 1 0 ts.length ts.length true), (.sl q 1 0 ts.length ts.length true), (.int .i64 (List.length ts : Int))]) (h' := (G.set O (.cells (cs.set k (.ro [] 1 true))))) hlb (fun _ => by kernel_rfl) ⟨rfl, (by omega), (by simp; omega), (ldX hGq hx), (cloneM90_0 (by kernel_rfl) _), rfl, (by omega), (by simp; omega), (stX hGO hkc rfl rfl), trivial⟩).mono ?_
    rintro e s' ⟨rfl, t5, lo5, rfl, hl5⟩
    refine .inl ⟨rfl, (_, vs ++ [.ro [] 1 true]), t5, lo5, rfl, ⟨?_, ?_, hK.set (by omega), by simp; omega⟩, hl5⟩
    ·rw [← hset]; exact gset hGO
    ·rw [htk1]
     exact hTb.snoc (fun i y hi hy => gne (by omega) hy) (.inl ⟨rfl, rfl⟩)
   ·have hxl : x.length * 24 ≤ 140737488355328 := by omega
    obtain ⟨bb, hbb⟩ : ∃ bb, bb = G.length + 1 := ⟨_, rfl⟩
    refine (pathE (nt := 23) [.p (1 = 1), .p ((0 : Int) ≤ (k : Int)), .p (((k : Int) : Int) < ((ts.length : Nat) : Int)), .f (.load none (.c (.ptr q (0 + (Int.toNat (k : Int)) * 1)))) (.ro (x.map rV) 1 false), .r 90 [(.ro (x.map rV) 1 false)] (.sl bb 1 0 x.length x.length false) (ap (ap G []) (x.map rV)) none, .p (1 = 1), .p ((0 : Int) ≤ (k : Int)), .p (((k : Int) : Int) < ((ts.length : Nat) : Int)), .w (.store 1 (.c (.ptr O (0 + (Int.toNat (k : Int)) * 1))) (.c (.sl bb 1 0 x.length x.length false))) (.tup []) (List.set (ap (ap G []) (x.map rV)) O (.cells (cs.set k (.sl bb 1 0 x.length x.length false)))) (some O)] [11, 3, 9, 10] (e := .normal) (vals := [(.int .i64 (k : Int)), (.sl O 1 0 ts.length ts.length true), (.sl q 1 0 ts.length ts.length true), (.int .i64 (List.length ts : Int))]) (h' := (List.set (ap (ap G []) (x.map rV)) O (.cells (cs.set k (.sl bb 1 0 x.length x.length false))))) hlb (fun _ => by kernel_rfl) ⟨rfl, (by omega), (by simp; omega), (ldX hGq hx), (cloneM90_e' (by kernel_rfl) hx0 hxl hbb), rfl, (by omega), (by simp; omega), (stX (ga (ga hGO)) hkc rfl rfl), trivial⟩).mono ?_
    rintro e s' ⟨rfl, t5, lo5, rfl, hl5⟩
    refine .inl ⟨rfl, (_, vs ++ [(.sl bb 1 0 (List.length x) (List.length x) false)]), t5, lo5, rfl, ⟨?_, ?_, (hK.ap.ap).set (by omega), by simp; omega⟩, hl5⟩
    ·rw [← hset]; exact gset (ga (ga hGO))
    ·rw [htk1]
     refine hTb.snoc (fun i y hi hy => gne (by omega) (ga (ga hy))) (.inr ⟨hx0, bb, rfl, gne (by omega) ?_, by omega⟩)
     have e0 : (ap G []).length = G.length + 1 := by simp
     rw [hbb, ← e0]
     exact gl
  ·rintro e s (⟨rfl, ⟨G, vs⟩, t5, lo5, rfl, ⟨hGO, hTb, hK, hGl⟩, hle⟩ | ⟨rfl, h⟩)
   ·simp only at hGO hTb hK hGl hle ⊢
    refine (pathE (nt := 23) [] [2] (e := .ret) (vals := [(.sl O 1 0 ts.length ts.length true)]) (h' := G) hle (fun _ => by kernel_rfl) trivial).mono ?_
    rintro e s ⟨rfl, t6, lo6, rfl, hl6⟩
    refine ⟨rfl, [(.sl O 1 0 (List.length ts) (List.length ts) true)], ?_, rfl, vs, ?_, ?_, hK⟩
    ·have := hl6.get (2, (.sl O 1 0 (List.length ts) (List.length ts) true)) (by simp)
     rw [getX_eq] at this
     show resAll _ [.t 2] = _
     simp only [resAll, resOf, this]
    ·rw [Nat.sub_self, List.replicate_zero, List.append_nil] at hGO
     exact hGO
    ·rw [List.take_length] at hTb
     exact hTb
   ·exact h.elim
 obtain ⟨r, h', lo, ⟨rfl, vs, h1, h2, h3⟩, h⟩ := key
 exact ⟨vs, h', lo, h, h1, h2, h3⟩
def CM (args : List AV) (h : List Blk) (r : AV) (h' : List Blk) : Prop := ∃ q ts vs, args = [slA q ts] ∧ h[q]? = some (.cells (tsC ts)) ∧ r = slA h.length ts ∧ h'[h.length]? = some (.cells vs) ∧ TbM h' (h.length + 1) vs ts ∧ Kept h h'
theorem cm_e {Γ : FuncId → Option GF} (hg : Γ 51 = some (anyG Tryz.prog 51 CM)) {q : Nat} {ts : Tabs} {H : List Blk} (hq : H[q]? = some (.cells (tsC ts))) (ok : okTs ts) : ∃ vs H' lo, Cl Γ Mo.T 51 [slA q ts] H (slA H.length ts, H', lo) ∧ H'[H.length]? = some (.cells vs) ∧ TbM H' (H.length + 1) vs ts ∧ Kept H H' := by
 obtain ⟨vs, H1, lo1, g1, g2, g3, g4⟩ := copiedM_cl hq ok.1 ok.2
 obtain ⟨r, h', lo, ⟨q', ts', vs', h1, h2, rfl, h3, h4, h5⟩, hc⟩ := anyG_cl (Γ := Γ) (tbl := Mo.T) (args := [slA q ts]) hg ⟨q, ts, vs, rfl, hq, rfl, g2, g3, g4⟩ (Cl.ams K14 g1 (by kernel_rfl)) g4.1
 simp only [List.cons.injEq, and_true] at h1
 have := slA_inj h1
 subst this
 rw [hq] at h2
 simp only [Option.some.injEq, Blk.cells.injEq] at h2
 have := map_inj bV_inj h2
 subst this
 exact ⟨vs', h', lo, hc, h3, h4, h5⟩
theorem stSame {G : List Blk} {b k : Nat} {rows : List (List Val)} {r : List Val} (hb : G[b]? = some (.cells (rows.map rV))) (hr : rows[k]? = some r) : wOp evC G (.store 1 (.c (.ptr b (0 + Int.toNat (k : Int) * 1))) (.c (.ro (r.map vV) 3 false))) = some (.tup [], G, some b) := by
 have hk := (List.getElem?_eq_some_iff.1 hr).1
 rw [stX hb (by simpa using hk) rfl rfl]
 have e1 : (rows.map rV).set k (rV r) = rows.map rV := set_self (by simp [hr])
 have e2 : G.set b (.cells (rows.map rV)) = G := set_self hb
 rw [e1, e2]
noncomputable def gam15 : List (Nat × GF) := (51, anyG Tryz.prog 51 CM) :: (64, pureG g64) :: gam8
theorem K15 : Known (gGet gam15) tree.get Tryz.prog := known_of (by kernel_rfl) ⟨anyG_ok ⟨_, Tryz.func51, by kernel_rfl, by kernel_rfl⟩, clone64_ok, oft_ok, ofv_ok, isVal_ok, view_ok, grp_ok, tot_ok, adt_ok, fit_ok, code_ok, int_ok, of_ok, add_ok, cmp_ok, good_ok, xSub_ok, xAdd_ok, trivial⟩ all
noncomputable abbrev G15 : FuncId → Option GF := gGet gam15
set_option maxHeartbeats 8000000 in
theorem tables_cl {T : List (List Int)} {V : List Vw} {free : Bool} {p q : Nat} {wv mv : AV} {now : Tabs} {H : List Blk} (hp : H[p]? = some (.cells (dbC T V free q now.length wv mv))) (hq : H[q]? = some (.cells (tsC now))) (ok : okTs now) (hrw : ∀ rows ∈ now, ∀ r ∈ rows, r.length ≤ 1000) :
  ∃ vs H' lo, Cl G15 Mo.T 23 [.ptr p 0] H (slA H.length now, H', lo) ∧ H'[H.length]? = some (.cells vs) ∧ TbM H' (H.length + 1) vs now ∧ Kept H H' := by
 have key : ∃ r h' lo, (r = slA H.length now ∧ ∃ vs, h'[H.length]? = some (.cells vs) ∧ TbM h' (H.length + 1) vs now ∧ Kept H h') ∧ Cl G15 Mo.T 23 [.ptr p 0] H (r, h', lo) := by
  refine clE (Γ := G15) (tbl := Mo.T) (f := 23) (af := a23) (args := [.ptr p 0]) (h := H) (by kernel_rfl) (by kernel_rfl) (by kernel_rfl) (fun r h' => r = slA H.length now ∧ ∃ vs, h'[H.length]? = some (.cells vs) ∧ TbM h' (H.length + 1) vs now ∧ Kept H h') ?_
  refine Wp.seq ((pathE (nt := 36) (live := [(0, (.ptr p 0))]) [] [0] (e := .normal) (vals := [(.ptr p 0)]) (h' := H) (Lv.start (by rfl) (by simp)) (fun _ => by kernel_rfl) trivial).mono ?_)
  rintro e s ⟨rfl, t1, lo1, rfl, hl1⟩
  refine Wp.seq ((pathE (nt := 36) [.q (.isNil 0 false (.c (.ptr p 0))) false] [0] (e := .normal) (vals := [(.ptr p 0)]) (h' := H) hl1 (fun _ => by kernel_rfl) ⟨rfl, trivial⟩).mono ?_)
  rintro e s ⟨rfl, t2, lo2, rfl, hl2⟩
  obtain ⟨vs, G, lc, hcp, hGO, hTb, hK⟩ := cm_e (Γ := G15) (by kernel_rfl) hq ok
  simp only [slA] at hcp ⊢
  refine Wp.seq ((pathE (nt := 36) [.f (.load none (.c (.ptr p 3))) (.sl q 1 0 now.length now.length true), .r 51 [(.sl q 1 0 now.length now.length true)] (.sl H.length 1 0 now.length now.length true) G lc] [3] (e := .normal) (vals := [(.sl H.length 1 0 now.length now.length true)]) (h' := G) hl2 (fun _ => by kernel_rfl) ⟨(ldV hp), hcp, trivial⟩).mono ?_)
  rintro e s ⟨rfl, t3, lo3, rfl, hl3⟩
  generalize hO : H.length = O at hl3 hGO hTb ⊢
  have hn1 := ok.1
  refine Wp.seq (Wp.seq ((pathE (nt := 36) [] [17, 3, 15, 16] (e := .normal) (vals := [(.int .i64 0), (.sl O 1 0 now.length now.length true), (.sl O 1 0 now.length now.length true), (.int .i64 (now.length : Int))]) (h' := G) hl3 (fun _ => by kernel_rfl) trivial).mono ?_))
  rintro e s ⟨rfl, t4, lo4, rfl, hl4⟩
  refine (rangeL (i := 17) (n := 16) (c := 18) (d := 34) (X := Unit) (N := now.length) (fun _ _ => [(3, (.sl O 1 0 (List.length now) (List.length now) true)), (15, (.sl O 1 0 (List.length now) (List.length now) true)), (16, .int .i64 (now.length : Int))]) (fun _ _ => G) (fun _ _ => True) (fun _ => False)
   (by omega) (by decide) (by decide) (by decide) (by decide) (by decide) (fun _ _ => rfl) (fun _ _ => rfl) ?_ (x0 := ()) trivial hl4).mono ?_
  ·rintro k ⟨⟩ t5 lo5 hkN - hlb
   have hkv : k < vs.length := by rw [hTb.1]; exact hkN
   have hv : vs[k]? = some vs[k] := List.getElem?_eq_getElem hkv
   have hrows : now[k]? = some now[k] := List.getElem?_eq_getElem hkN
   have hE := hTb.2 k _ _ hv hrows
   have hrl0 := hrw _ (List.getElem_mem hkN)
   have hxl := ok.2 _ (List.getElem_mem hkN)
   generalize now[k] = rows at hE hrl0 hxl
   generalize vs[k] = v at hv hE
   rcases hE with ⟨rfl, rfl⟩ | ⟨h0, b, rfl, hGb, hbl⟩
   ·refine (pathE (nt := 36) [.p (1 = 1), .p ((0 : Int) ≤ (k : Int)), .p (((k : Int) : Int) < ((now.length : Nat) : Int)), .f (.load none (.c (.ptr O (0 + (Int.toNat (k : Int)) * 1)))) (.ro ([] : List AV) 1 true), .b (decide ((0 : Int) < ((List.length ([] : List AV)) : Int))) false] [17, 3, 15, 16] (e := .normal) (vals := [(.int .i64 (k : Int)), (.sl O 1 0 now.length now.length true), (.sl O 1 0 now.length now.length true), (.int .i64 (List.length now : Int))]) (h' := G) hlb (fun _ => by kernel_rfl) ⟨rfl, (by omega), (by omega), (ldX hGO hv), rfl, trivial⟩).mono ?_
    rintro e s' ⟨rfl, t6, lo6, rfl, hl6⟩
    exact .inl ⟨rfl, (), t6, lo6, rfl, trivial, hl6⟩
   ·have hblk : ∀ {Q : AExit → St → Prop}, Wp G15 Mo.T (blk (hd (tl (tl (lp (blk (tl (hd (tl (tl (tl a23.body))))))))))) { t := t5, h := G, lo := lo5 } (fun e s => e = .normal ∧ Q .normal s) → Wp G15 Mo.T (hd (tl (tl (lp (blk (tl (hd (tl (tl (tl a23.body)))))))))) { t := t5, h := G, lo := lo5 } (fun e s => e = .normal ∧ Q .normal s) := fun h => Wp.block (h.mono fun e s h => by obtain ⟨rfl, h⟩ := h; exact ⟨rfl, h⟩)
    refine (hblk (Q := fun _ s => ∃ t' lo', s = { t := t', h := G, lo := lo' } ∧ Lv 36 [(17, .int .i64 (k : Int)), (3, (.sl O 1 0 (List.length now) (List.length now) true)), (15, (.sl O 1 0 (List.length now) (List.length now) true)), (16, .int .i64 (now.length : Int))] t') ?_).mono ?_
    ·refine Wp.seq ((pathE (nt := 36) [.p (1 = 1), .p ((0 : Int) ≤ (k : Int)), .p (((k : Int) : Int) < ((now.length : Nat) : Int)), .f (.load none (.c (.ptr O (0 + (Int.toNat (k : Int)) * 1)))) (.sl b 1 0 rows.length rows.length false)] [17, 3, 15, 16, 5] (e := .normal) (vals := [(.int .i64 (k : Int)), (.sl O 1 0 now.length now.length true), (.sl O 1 0 now.length now.length true), (.int .i64 (List.length now : Int)), (.sl b 1 0 rows.length rows.length false)]) (h' := G) hlb (fun _ => by kernel_rfl) ⟨rfl, (by omega), (by omega), (ldX hGO hv), trivial⟩).mono ?_)
     rintro e s' ⟨rfl, t6, lo6, rfl, hl5⟩
     refine Wp.seq ((pathE (nt := 36) [] [23, 17, 3, 15, 16, 5, 21, 22] (e := .normal) (vals := [(.int .i64 0), (.int .i64 (k : Int)), (.sl O 1 0 now.length now.length true), (.sl O 1 0 now.length now.length true), (.int .i64 (List.length now : Int)), (.sl b 1 0 rows.length rows.length false), (.sl b 1 0 rows.length rows.length false), (.int .i64 (rows.length : Int))]) (h' := G) hl5 (fun _ => by kernel_rfl) trivial).mono ?_)
     rintro e s' ⟨rfl, t7, lo7, rfl, hl6⟩
     refine (rangeL (i := 23) (n := 22) (c := 24) (d := 33) (X := Unit) (N := rows.length) (fun _ _ => [(17, .int .i64 (k : Int)), (3, (.sl O 1 0 (List.length now) (List.length now) true)), (15, (.sl O 1 0 (List.length now) (List.length now) true)), (16, .int .i64 (now.length : Int)), (5, (.sl b 1 0 (List.length rows) (List.length rows) false)), (21, (.sl b 1 0 (List.length rows) (List.length rows) false)), (22, .int .i64 (rows.length : Int))]) (fun _ _ => G) (fun _ _ => True) (fun _ => False)
      (by omega) (by decide) (by decide) (by decide) (by decide) (by decide) (fun _ _ => rfl) (fun _ _ => rfl) ?_ (x0 := ()) trivial hl6).mono ?_
     ·rintro j ⟨⟩ t8 lo8 hjN - hl7
      have hr : rows[j]? = some rows[j] := List.getElem?_eq_getElem hjN
      have hrl1 := hrl0 _ (List.getElem_mem hjN)
      generalize rows[j] = r at hr hrl1
      have hrl : r.length * 32 ≤ 140737488355328 := by omega
      refine (pathE (nt := 36) [.p (1 = 1), .p ((0 : Int) ≤ (j : Int)), .p (((j : Int) : Int) < ((rows.length : Nat) : Int)), .f (.load none (.c (.ptr b (0 + (Int.toNat (j : Int)) * 1)))) (.ro (r.map vV) 3 false), .r 64 [(.ro (r.map vV) 3 false)] (.ro (r.map vV) 3 false) G none, .p (1 = 1), .p ((0 : Int) ≤ (j : Int)), .p (((j : Int) : Int) < ((rows.length : Nat) : Int)), .w (.store 1 (.c (.ptr b (0 + (Int.toNat (j : Int)) * 1))) (.c (.ro (r.map vV) 3 false))) (.tup []) G (some b)] [23, 17, 3, 15, 16, 5, 21, 22] (e := .normal) (vals := [(.int .i64 (j : Int)), (.int .i64 (k : Int)), (.sl O 1 0 now.length now.length true), (.sl O 1 0 now.length now.length true), (.int .i64 (List.length now : Int)), (.sl b 1 0 rows.length rows.length false), (.sl b 1 0 rows.length rows.length false), (.int .i64 (List.length rows : Int))]) (h' := G) hl7 (fun _ => by kernel_rfl) ⟨rfl, (by omega), (by omega), (ldX hGb (by rw [List.getElem?_map, hr]; rfl)), (clone64_e (by kernel_rfl) r hrl _), rfl, (by omega), (by omega), (stSame hGb hr), trivial⟩).mono ?_
      rintro e s' ⟨rfl, t9, lo9, rfl, hl9⟩
      exact .inl ⟨rfl, (), t9, lo9, rfl, trivial, hl9⟩
     ·rintro e s' (⟨rfl, _, t8, lo8, rfl, -, hl8⟩ | ⟨rfl, h⟩)
      ·exact ⟨rfl, t8, lo8, rfl, hl8.sub fun p hp => by
        simp only [List.mem_cons, List.not_mem_nil, or_false] at hp
        rcases hp with rfl | rfl | rfl | rfl <;> simp⟩
      ·exact h.elim
    ·rintro e s' ⟨rfl, t8, lo8, rfl, hl8⟩
     exact .inl ⟨rfl, (), t8, lo8, rfl, trivial, hl8⟩
  ·rintro e s (⟨rfl, _, t5, lo5, rfl, -, hle⟩ | ⟨rfl, h⟩)
   ·refine (pathE (nt := 36) [] [2] (e := .ret) (vals := [(.sl O 1 0 now.length now.length true)]) (h' := G) hle (fun _ => by kernel_rfl) trivial).mono ?_
    rintro e s ⟨rfl, t6, lo6, rfl, hl6⟩
    refine ⟨rfl, [(.sl O 1 0 (List.length now) (List.length now) true)], ?_, rfl, vs, hGO, hTb, hK⟩
    have := hl6.get (2, (.sl O 1 0 (List.length now) (List.length now) true)) (by simp)
    rw [getX_eq] at this
    show resAll _ [.t 2] = _
    simp only [resAll, resOf, this]
   ·exact h.elim
 obtain ⟨r, h', lo, ⟨rfl, vs, h1, h2, h3⟩, h⟩ := key
 exact ⟨vs, h', lo, h, h1, h2, h3⟩
theorem tbm_frz {G : List Blk} {base O : Nat} {vs : List AV} {ts : Tabs} (h : TbM G base vs ts) (hO : G[O]? = some (.cells vs)) : ∃ r, AM.frz (subB (ownB G (slA O ts)) G) 6 (slA O ts) = some r ∧ Cv r (tsV ts) := by
 have hon : ownB G (slA O ts) = O :: vs.filterMap slId := by simp [ownB, slA, slId, hO]
 rw [hon]
 by_cases h0 : ts.length = 0
 ·have hx : ts = [] := List.length_eq_zero_iff.1 h0
  subst hx
  exact ⟨_, rfl, Cv.ex⟩
 ·have hin : ∀ (i : Nat) (v : AV) (rows : List (List Val)), vs[i]? = some v → ts[i]? = some rows → ∃ r, AM.frz (subB (O :: vs.filterMap slId) G) 5 v = some r ∧ Cv r (bV rows) ∧ r.one = true := fun i v rows hv hr => by
   rcases h.2 i v rows hv hr with ⟨rfl, rfl⟩ | ⟨hne, b, rfl, hb, _⟩
   ·exact ⟨.ro [] 1 true, rfl, Cv.ex, rfl⟩
   ·have hbB := subB_get (B := O :: vs.filterMap slId) hb (List.mem_cons_of_mem _ (List.mem_filterMap.2 ⟨_, List.mem_of_getElem? hv, rfl⟩))
    have hpos : ¬ rows.length = 0 := fun e => hne (List.length_eq_zero_iff.1 e)
    have hm : mapO (AM.frz (subB (O :: vs.filterMap slId) G) 4) (rows.map rV) = some (rows.map rV) := mapO_of rfl fun j x y h1 h2 => by
     rw [h1] at h2
     cases h2
     obtain ⟨r, _, rfl⟩ := List.mem_map.1 (List.mem_of_getElem? h1)
     exact frz_vs (n := 1) r
    have helts : elts 1 (rows.map rV) rows.length = rows.map rV := by
     have := elts_flat (st := 1) (es := lsR rows) (fun e he => (lsR_ok e he).1)
     rw [lsR_elt, List.length_map, flatL] at this
     exact this
    refine ⟨.ro (rows.map rV) 1 (false && decide (rows.length = rows.length)), ?_, Cv.ex, rfl⟩
    rw [AM.frz, if_neg hpos, hbB]
    simp only [Nat.zero_add, Nat.mul_one, List.drop_zero]
    rw [if_pos (by simp), List.take_of_length_le (by simp), hm, Option.bind_some, if_pos (all_one _), helts]
  let ws := vs.map fun v => (AM.frz (subB (O :: vs.filterMap slId) G) 5 v).getD .dead
  have hvl : vs.length = ts.length := h.1
  have hws : ∀ i (hi : i < vs.length), AM.frz (subB (O :: vs.filterMap slId) G) 5 vs[i] = some (ws.getD i .dead) ∧ Cv (ws.getD i .dead) (bV (ts[i]'(by omega))) ∧ (ws.getD i .dead).one = true := fun i hi => by
   obtain ⟨r, h1, h2, h3⟩ := hin i _ _ (List.getElem?_eq_getElem hi) (List.getElem?_eq_getElem (by omega))
   have : ws.getD i .dead = r := by simp [ws, List.getD_eq_getElem?_getD, hi, h1]
   rw [this]
   exact ⟨h1, h2, h3⟩
  have hwl : ws.length = vs.length := by simp [ws]
  have hm : mapO (AM.frz (subB (O :: vs.filterMap slId) G) 5) vs = some ws := mapO_of hwl.symm fun i x y h1 h2 => by
   have hi := (List.getElem?_eq_some_iff.1 h1).1
   have := (hws i hi).1
   rw [List.getD_eq_getElem?_getD, h2] at this
   rw [List.getElem?_eq_getElem hi] at h1
   cases h1
   exact this
  have hall : ws.all AV.one = true := by
   rw [List.all_eq_true]
   intro v hv
   obtain ⟨i, hi⟩ := List.mem_iff_getElem?.1 hv
   have hil := (List.getElem?_eq_some_iff.1 hi).1
   have := (hws i (by omega)).2.2
   rw [List.getD_eq_getElem?_getD, hi] at this
   exact this
  have helts : elts 1 ws ts.length = ws := by
   have e1 : ∀ l : List AV, (l.map fun v => [v]).flatten = l := by
    intro l
    induction l with
    | nil => rfl
    | cons a r ih => simp only [List.map_cons, List.flatten_cons, ih]; rfl
   have := elts_flat (st := 1) (es := ws.map fun v => [v]) (fun e he => by obtain ⟨_, _, rfl⟩ := List.mem_map.1 he; rfl)
   rw [e1, List.length_map, List.map_map, hwl, hvl] at this
   rw [this]
   exact List.map_id' ws
  refine ⟨.ro ws 1 (true && decide (ts.length = ts.length)), ?_, Cv.ro (by simp [hwl, hvl]) fun i hi => ?_⟩
  ·show AM.frz _ 6 (.sl O 1 0 ts.length ts.length true) = _
   rw [AM.frz, if_neg h0, subB_get hO (by simp)]
   simp only [Nat.zero_add, Nat.mul_one, List.drop_zero]
   rw [if_pos (by simp [hvl]), List.take_of_length_le (by omega), hm, Option.bind_some, if_pos hall, helts]
  ·have hi2 : i < vs.length := by omega
   have e2 : (ts.map bV).getD i .dead = bV (ts[i]'(by omega)) := by simp [List.getD_eq_getElem?_getD, show i < ts.length by omega]
   have := hws i hi2
   rw [e2, cells_one this.2.2, cells_one (v := bV _) rfl]
   exact .cons this.2.1 .nil
theorem tables_m {T : List (List Int)} {V : List Vw} {free : Bool} {k p : Nat} {s : DS} {H : List Blk} (pl : OkPl T V) (ok : OkTb T k s.now) (hk : k ≤ 99999) (hd : DBA T V free H p s) : ∃ h', AMS Tryz.prog 23 [.ptr p 0] H (tsV s.now) h' ∧ Kept H h' := by
 obtain ⟨q, wv, mv, hb⟩ := hd
 obtain ⟨vs, H', lo, g1, g2, g3, g4⟩ := tables_cl hb.hp hb.hq (ok.okTs pl (by omega)) fun rows hm r hr => by
  obtain ⟨i, hi⟩ := List.mem_iff_getElem?.1 hm
  exact (fit_len pl ((ok.rows i rows hi).2 r hr)).2.1
 obtain ⟨r, hf, hcv⟩ := tbm_frz g3 g2
 refine ⟨_, (AMS.freezeR (subB_ok _ H') (offB_ok _ H') hf (Cl.ams K15 g1 (by kernel_rfl))).cv (CvH.refl _) hcv, kept_off g4 fun i hi => ?_⟩
 simp only [ownB, slA, slId, g2, List.mem_cons, List.mem_filterMap] at hi
 rcases hi with rfl | ⟨v, hv, hi⟩
 ·exact Nat.le_refl _
 ·obtain ⟨j, hj⟩ := List.mem_iff_getElem?.1 hv
  have hjl := (List.getElem?_eq_some_iff.1 hj).1
  rcases g3.2 j v _ hj (List.getElem?_eq_getElem (by rw [← g3.1]; exact hjl)) with ⟨_, rfl⟩ | ⟨_, b, rfl, _, hbl⟩
  ·cases hi
  ·cases hi; omega
end Go.Proofs.YtenpjpldjmoefaaGreat.AM.Mo
