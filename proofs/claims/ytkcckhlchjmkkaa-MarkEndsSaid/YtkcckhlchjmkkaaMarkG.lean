/-
  LAYER 22: the reference's Good, Ints and Same, as printed (plain: no walk).
-/
import Derived.Test.YtkcckhlchjmkkaaMarkU
import Derived.Test.YtkcckhlchjmkkaaPMarkx2
import Derived.Test.YtkcckhlchjmkkaaPMarkx3
set_option linter.unusedVariables false
set_option linter.unusedSimpArgs false
namespace Go.Proofs.Ytkcckhlchjmkkaa
open Go.RowKit Go.Maps Go.Proofs.YtkcckhlchjmkkaaW.PrintWords Go.Proofs.YtkcckhlchjmkkaaW.PrintMore Go.Proofs.Ytkcckhlchjmkkaa.PMark

theorem in_ev (n m : Int) : gaugerref06_in.f n m = some (decide (0 ≤ n ∧ n ≤ m)) := by
  unfold gaugerref06_in.f
  by_cases h : 0 ≤ n <;> simp [h]
section
variable (k0 deal p q : Int) (g : List S124) (u0 u1 : Int) (b0 b1 : ByteArray) (F : List Opn) (D : List Dty)
abbrev gl2 (i : Int) (k : Nat) := gaugerref06_Good.l2 k 2147483647 i k0 deal p q g u0 u1 b0 b1 F D
abbrev gl1 (i : Int) (k : Nat) := gaugerref06_Good.l1 k 2147483647 i k0 deal p q g u0 u1 b0 b1 F D
abbrev gl0 (i : Int) (k : Nat) := gaugerref06_Good.l0 k 2147483647 i k0 deal p q g u0 u1 b0 b1 F D
theorem good_l2 (hD : D.length ≤ 1000) : ∀ (d i : Nat), i + d = D.length → ∃ b, Ev (gl2 k0 deal p q g u0 u1 b0 b1 F D i) b
  | 0, i, h => ⟨true, Ev.one fun k => by show gaugerref06_Good.l2 (k + 1) _ _ _ _ _ _ _ _ _ _ _ _ _ = _; rw [gaugerref06_Good.l2, if_neg (by omega)]⟩
  | d + 1, i, h => by
    have hw : wrap64 ((i : Int) + 1) = ((i + 1 : Nat) : Int) := by unfold wrap64; omega
    obtain ⟨b, hb⟩ := good_l2 hD d (i + 1) (by omega)
    refine ⟨if (decide (0 ≤ (rd_T72 D i).f0 ∧ (rd_T72 D i).f0 ≤ 255)) = true then (if (decide (0 ≤ (rd_T72 D i).f1 ∧ (rd_T72 D i).f1 ≤ 2147483647)) = true then b else false) else false, ?_⟩
    refine Ev.step (f := fun k => if (decide (0 ≤ (rd_T72 D i).f0 ∧ (rd_T72 D i).f0 ≤ 255)) = true then (if (decide (0 ≤ (rd_T72 D i).f1 ∧ (rd_T72 D i).f1 ≤ 2147483647)) = true then gl2 k0 deal p q g u0 u1 b0 b1 F D ((i + 1 : Nat) : Int) k else some false) else some false) (fun k => ?_) ?_
    · show gaugerref06_Good.l2 (k + 1) _ _ _ _ _ _ _ _ _ _ _ _ _ = _
      rw [gaugerref06_Good.l2, if_pos (by omega), if_pos (by omega), in_ev, in_ev, hw]
      rfl
    · obtain ⟨K, hK⟩ := hb
      exact ⟨K, fun k hk => by simp only [hK k hk]; split <;> (try split) <;> rfl⟩
theorem good_l1 (hF : F.length ≤ 1000) (hD : D.length ≤ 1000) : ∀ (d i : Nat), i + d = F.length → ∃ b, Ev (gl1 k0 deal p q g u0 u1 b0 b1 F D i) b ∧ (b = true → ∀ o ∈ F.drop i, (0 ≤ o.f0 ∧ o.f0 ≤ 2147483647) ∧ (0 ≤ o.f1 ∧ o.f1 ≤ 2147483647))
  | 0, i, h => by
    obtain ⟨b, hb⟩ := good_l2 k0 deal p q g u0 u1 b0 b1 F D hD D.length 0 (by omega)
    refine ⟨b, Ev.step (fun k => ?_) hb, fun _ o ho => by rw [List.drop_eq_nil_of_le (by omega)] at ho; cases ho⟩
    show gaugerref06_Good.l1 (k + 1) _ _ _ _ _ _ _ _ _ _ _ _ _ = _
    rw [gaugerref06_Good.l1, if_neg (by omega)]
    rfl
  | d + 1, i, h => by
    have hw : wrap64 ((i : Int) + 1) = ((i + 1 : Nat) : Int) := by unfold wrap64; omega
    obtain ⟨b, hb, hP⟩ := good_l1 hF hD d (i + 1) (by omega)
    rw [getD_drop F i z55 (by omega)]
    refine ⟨if (decide (0 ≤ (F.getD i z55).f0 ∧ (F.getD i z55).f0 ≤ 2147483647)) = true then (if (decide (0 ≤ (F.getD i z55).f1 ∧ (F.getD i z55).f1 ≤ 2147483647)) = true then b else false) else false, ?_, ?_⟩
    · refine Ev.step (f := fun k => if (decide (0 ≤ (F.getD i z55).f0 ∧ (F.getD i z55).f0 ≤ 2147483647)) = true then (if (decide (0 ≤ (F.getD i z55).f1 ∧ (F.getD i z55).f1 ≤ 2147483647)) = true then gl1 k0 deal p q g u0 u1 b0 b1 F D ((i + 1 : Nat) : Int) k else some false) else some false) (fun k => ?_) ?_
      · show gaugerref06_Good.l1 (k + 1) _ _ _ _ _ _ _ _ _ _ _ _ _ = _
        rw [gaugerref06_Good.l1, if_pos (by omega), if_pos (by omega), in_ev, in_ev, hw, rd_opn]
        rfl
      · obtain ⟨K, hK⟩ := hb
        exact ⟨K, fun k hk => by simp only [hK k hk]; split <;> (try split) <;> rfl⟩
    · intro ht o ho
      split at ht
      · rename_i h1
        split at ht
        · rename_i h2
          rcases List.mem_cons.1 ho with rfl | ho
          · exact ⟨of_decide_eq_true h1, of_decide_eq_true h2⟩
          · exact hP ht o ho
        · cases ht
      · cases ht
theorem good_l0 (hg : g.length ≤ 1000) (hF : F.length ≤ 1000) (hD : D.length ≤ 1000) : ∀ (d i : Nat), i + d = g.length → ∃ b, Ev (gl0 k0 deal p q g u0 u1 b0 b1 F D i) b ∧ (b = true → ∀ o ∈ F, (0 ≤ o.f0 ∧ o.f0 ≤ 2147483647) ∧ (0 ≤ o.f1 ∧ o.f1 ≤ 2147483647))
  | 0, i, h => by
    obtain ⟨b, hb, hP⟩ := good_l1 k0 deal p q g u0 u1 b0 b1 F D hF hD F.length 0 (by omega)
    refine ⟨b, Ev.step (fun k => ?_) hb, hP⟩
    show gaugerref06_Good.l0 (k + 1) _ _ _ _ _ _ _ _ _ _ _ _ _ = _
    rw [gaugerref06_Good.l0, if_neg (by omega)]
    rfl
  | d + 1, i, h => by
    have hw : wrap64 ((i : Int) + 1) = ((i + 1 : Nat) : Int) := by unfold wrap64; omega
    obtain ⟨b, hb, hP⟩ := good_l0 hg hF hD d (i + 1) (by omega)
    refine ⟨if (decide (0 ≤ (rd_T124 g i).f0 ∧ (rd_T124 g i).f0 ≤ 255)) = true then (if ((rd_T124 g i).f1.size : Int) = 256 then b else false) else false, ?_, ?_⟩
    · refine Ev.step (f := fun k => if (decide (0 ≤ (rd_T124 g i).f0 ∧ (rd_T124 g i).f0 ≤ 255)) = true then (if ((rd_T124 g i).f1.size : Int) = 256 then gl0 k0 deal p q g u0 u1 b0 b1 F D ((i + 1 : Nat) : Int) k else some false) else some false) (fun k => ?_) ?_
      · show gaugerref06_Good.l0 (k + 1) _ _ _ _ _ _ _ _ _ _ _ _ _ = _
        rw [gaugerref06_Good.l0, if_pos (by omega), if_pos (by omega), in_ev, hw]
        rfl
      · obtain ⟨K, hK⟩ := hb
        exact ⟨K, fun k hk => by simp only [hK k hk]; split <;> (try split) <;> rfl⟩
    · intro ht
      split at ht
      · split at ht
        · exact hP ht
        · cases ht
      · cases ht
def GoodP (k0 deal : Int) (F : List Opn) (D : List Dty) : Prop := (0 ≤ deal ∧ deal ≤ 2147483647) ∧ F.length ≤ 16 ∧ D.length ≤ 256 ∧ ∀ o ∈ F, (0 ≤ o.f0 ∧ o.f0 ≤ 2147483647) ∧ (0 ≤ o.f1 ∧ o.f1 ≤ 2147483647)
theorem good_j1 (hg : g.length ≤ 1000) (hF : F.length ≤ 1000) (hD : D.length ≤ 1000) (x : Bool) : ∃ b, Ev (fun k => gaugerref06_Good.j1 k 2147483647 x k0 deal p q g u0 u1 b0 b1 F D) b ∧ (b = true → ∀ o ∈ F, (0 ≤ o.f0 ∧ o.f0 ≤ 2147483647) ∧ (0 ≤ o.f1 ∧ o.f1 ≤ 2147483647)) := by
  cases x with
  | true => exact ⟨false, Ev.one fun k => by rw [gaugerref06_Good.j1, if_pos rfl], by simp⟩
  | false =>
    obtain ⟨b, hb, hP⟩ := good_l0 k0 deal p q g u0 u1 b0 b1 F D hg hF hD g.length 0 (by omega)
    exact ⟨b, Ev.step (fun k => by rw [gaugerref06_Good.j1, if_neg (by simp)]; rfl) hb, hP⟩
theorem good_j0_true : Ev (fun k => gaugerref06_Good.j0 k 2147483647 true k0 deal p q g u0 u1 b0 b1 F D) false := Ev.one fun k => by rw [gaugerref06_Good.j0, if_pos rfl]
theorem good_j0 (hg : g.length ≤ 1000) (hF : F.length ≤ 1000) (hD : D.length ≤ 1000) : ∃ b, Ev (fun k => gaugerref06_Good.j0 k 2147483647 false k0 deal p q g u0 u1 b0 b1 F D) b ∧ (b = true → ∀ o ∈ F, (0 ≤ o.f0 ∧ o.f0 ≤ 2147483647) ∧ (0 ≤ o.f1 ∧ o.f1 ≤ 2147483647)) := by
  by_cases h1 : 0 ≤ u0 ∧ u0 ≤ 4
  · by_cases h2 : 0 ≤ u1 ∧ u1 ≤ 255
    · by_cases h3 : (b0.size : Int) > 255
      · obtain ⟨b, hb, hP⟩ := good_j1 k0 deal p q g u0 u1 b0 b1 F D hg hF hD true
        exact ⟨b, Ev.step (fun k => by rw [gaugerref06_Good.j0, if_neg (by simp), in_ev, in_ev]; simp only [h1, h2, h3, and_self, decide_true, Option.bind_some, if_true]) hb, hP⟩
      · obtain ⟨b, hb, hP⟩ := good_j1 k0 deal p q g u0 u1 b0 b1 F D hg hF hD (decide ((b1.size : Int) > 255))
        exact ⟨b, Ev.step (fun k => by rw [gaugerref06_Good.j0, if_neg (by simp), in_ev, in_ev]; simp only [h1, h2, h3, and_self, decide_true, Option.bind_some, if_true, if_false]) hb, hP⟩
    · obtain ⟨b, hb, hP⟩ := good_j1 k0 deal p q g u0 u1 b0 b1 F D hg hF hD true
      exact ⟨b, Ev.step (fun k => by rw [gaugerref06_Good.j0, if_neg (by simp), in_ev, in_ev]; simp only [h1, h2, and_self, decide_true, decide_false, Option.bind_some, if_true, Bool.false_eq_true, if_false]) hb, hP⟩
  · obtain ⟨b, hb, hP⟩ := good_j1 k0 deal p q g u0 u1 b0 b1 F D hg hF hD true
    exact ⟨b, Ev.step (fun k => by rw [gaugerref06_Good.j0, if_neg (by simp), in_ev]; simp only [h1, decide_false, Option.bind_some, Bool.false_eq_true, if_false]) hb, hP⟩
theorem good_ev : ∃ b, Ev (fun k => gaugerref06_Good.f k k0 deal p q g u0 u1 b0 b1 F D) b ∧ (b = true → GoodP k0 deal F D) := by
  have hT := good_j0_true k0 deal p q g u0 u1 b0 b1 F D
  by_cases a1 : k0 < 1
  · exact ⟨false, hT.congr (fun k => by unfold gaugerref06_Good.f; rw [if_pos a1]), by simp⟩
  by_cases a2 : k0 > 6
  · exact ⟨false, hT.congr (fun k => by unfold gaugerref06_Good.f; rw [if_neg a1, if_pos a2]), by simp⟩
  by_cases a3 : 0 ≤ deal ∧ deal ≤ 2147483647
  · by_cases a4 : 0 ≤ p ∧ p ≤ 2147483647
    · by_cases a5 : 0 ≤ q ∧ q ≤ 2147483647
      · by_cases a6 : (g.length : Int) > 8
        · exact ⟨false, hT.congr (fun k => by unfold gaugerref06_Good.f; rw [if_neg a1, if_neg a2, in_ev, in_ev, in_ev]; simp only [a3, a4, a5, and_self, decide_true, Option.bind_some, if_true]; rw [if_pos a6]), by simp⟩
        · by_cases a7 : (F.length : Int) > 16
          · exact ⟨false, hT.congr (fun k => by unfold gaugerref06_Good.f; rw [if_neg a1, if_neg a2, in_ev, in_ev, in_ev]; simp only [a3, a4, a5, and_self, decide_true, Option.bind_some, if_true]; rw [if_neg a6, if_pos a7]), by simp⟩
          · by_cases a8 : (D.length : Int) > 256
            · exact ⟨false, hT.congr (fun k => by unfold gaugerref06_Good.f; rw [if_neg a1, if_neg a2, in_ev, in_ev, in_ev]; simp only [a3, a4, a5, and_self, decide_true, Option.bind_some, if_true]; rw [if_neg a6, if_neg a7, decide_eq_true a8]), by simp⟩
            · obtain ⟨b, hb, hP⟩ := good_j0 k0 deal p q g u0 u1 b0 b1 F D (by omega) (by omega) (by omega)
              exact ⟨b, hb.congr (fun k => by unfold gaugerref06_Good.f; rw [if_neg a1, if_neg a2, in_ev, in_ev, in_ev]; simp only [a3, a4, a5, and_self, decide_true, Option.bind_some, if_true]; rw [if_neg a6, if_neg a7, decide_eq_false a8]), fun h => ⟨a3, by omega, by omega, hP h⟩⟩
      · exact ⟨false, hT.congr (fun k => by unfold gaugerref06_Good.f; rw [if_neg a1, if_neg a2, in_ev, in_ev, in_ev]; simp only [a3, a4, a5, and_self, decide_true, decide_false, Option.bind_some, if_true, Bool.false_eq_true, if_false]), by simp⟩
    · exact ⟨false, hT.congr (fun k => by unfold gaugerref06_Good.f; rw [if_neg a1, if_neg a2, in_ev, in_ev]; simp only [a3, a4, and_self, decide_true, decide_false, Option.bind_some, if_true, Bool.false_eq_true, if_false]), by simp⟩
  · exact ⟨false, hT.congr (fun k => by unfold gaugerref06_Good.f; rw [if_neg a1, if_neg a2, in_ev]; simp only [a3, decide_false, Option.bind_some, Bool.false_eq_true, if_false]), by simp⟩
end

theorem ints_l0 (l : List Int) (hl : l.length ≤ 1000000) : ∀ (d i : Nat), i + d = l.length → Ev (fun k => gaugerref13_Ints.l0 k l l (i : Int)) true
  | 0, i, h => Ev.one fun k => by rw [gaugerref13_Ints.l0, if_neg (by omega)]
  | d + 1, i, h => by
    have hw : wrap64 ((i : Int) + 1) = ((i + 1 : Nat) : Int) := by unfold wrap64; omega
    exact Ev.step (fun k => by rw [gaugerref13_Ints.l0, if_pos (by omega), if_pos (by omega), if_pos (by omega), if_pos rfl, hw]) (ints_l0 l hl d (i + 1) (by omega))
theorem same_l0 (s1 s2 nx : Int) (o : List Opn) (cm : List Int) (ho : o.length ≤ 100000000) : ∀ (d i : Nat), i + d = o.length → Ev (fun k => gaugerref22_Same.l0 k (i : Int) s1 o nx cm s2 o nx cm) true
  | 0, i, h => Ev.one fun k => by rw [gaugerref22_Same.l0, if_neg (by omega)]
  | d + 1, i, h => by
    have hw : wrap64 ((i : Int) + 1) = ((i + 1 : Nat) : Int) := by unfold wrap64; omega
    exact Ev.step (fun k => by rw [gaugerref22_Same.l0, if_pos (by omega), if_pos (by omega), if_pos (by omega), if_neg (by simp), hw]) (same_l0 s1 s2 nx o cm ho d (i + 1) (by omega))
/-- Two stories with the same are the same. -/
theorem same_ev (s1 s2 nx : Int) (o : List Opn) (cm : List Int) (ho : o.length ≤ 100000000) (hc : cm.length ≤ 1000000) : Ev (fun k => gaugerref22_Same.f k s1 o nx cm s2 o nx cm) true := by
  refine Ev.congr (f := fun k => (gaugerref13_Ints.f k cm cm).bind fun t => gaugerref22_Same.j0 k (!t) s1 o nx cm s2 o nx cm) (fun k => by unfold gaugerref22_Same.f; rw [if_pos rfl, if_pos rfl]) ?_
  refine Ev.bind (a := true) ?_ ?_
  · exact (ints_l0 cm hc cm.length 0 (by omega)).congr (fun k => by unfold gaugerref13_Ints.f; rw [if_pos rfl]; rfl)
  · exact Ev.step (fun k => by rw [gaugerref22_Same.j0, if_neg (by simp)]; rfl) (same_l0 s1 s2 nx o cm ho o.length 0 (by omega))
end Go.Proofs.Ytkcckhlchjmkkaa
