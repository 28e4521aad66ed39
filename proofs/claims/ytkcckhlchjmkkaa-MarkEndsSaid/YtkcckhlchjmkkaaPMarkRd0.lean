-- PRINTED by print.py, called for this group
import Derived.Test.YtkcckhlchjmkkaaPMarkx0
import Derived.Test.YtkcckhlchjmkkaaPMarkx4
namespace Go.Proofs.Ytkcckhlchjmkkaa.PMark
open Go.RowKit Go.Proofs.YtkcckhlchjmkkaaW.PrintWords Go.Proofs.YtkcckhlchjmkkaaW.PrintLast Go.Proofs.YtkcckhlchjmkkaaW.PrintMore
attribute [local go_sem] max2_int min2_int max_two min_two max_three min_three max_four min_four   -- for this text's walks alone
set_option linter.unusedVariables false
set_option linter.unusedSimpArgs false

/-! ### gaugerref22_Read: function 33 -/
mutual
def gaugerref22_Read.l0 : Nat → List (S53) → List Int → Int → Int → Int → Int → List Int → Option (Int × (List (S55)) × Int × List Int)
  | 0, _, _, _, _, _, _, _ => none
  | k + 1, x0, x1, x6, x7, x154000, x154002, x154003 => if x7 < (x0.length : Int) then (if 0 ≤ x7 then (if ((rd_T53 x0 x7).f0) = 6 then (if ((rd_T53 x0 x7).f0) = 3 then (if x154003.length < 17592186044416 then (gaugerref22_Read.l0 k x0 x1 x7 (wrap64 (x7 + 1)) x154000 (mx x154002 (wrap64 (((rd_T53 x0 x7).f1) + 1))) (x154003 ++ [(rd_T53 x0 x7).f1])) else (none)) else (gaugerref22_Read.l0 k x0 x1 x7 (wrap64 (x7 + 1)) x154000 (mx x154002 (wrap64 (((rd_T53 x0 x7).f1) + 1))) x154003)) else (if ((rd_T53 x0 x7).f0) = 3 then (if x154003.length < 17592186044416 then (gaugerref22_Read.l0 k x0 x1 x6 (wrap64 (x7 + 1)) x154000 (mx x154002 (wrap64 (((rd_T53 x0 x7).f1) + 1))) (x154003 ++ [(rd_T53 x0 x7).f1])) else (none)) else (gaugerref22_Read.l0 k x0 x1 x6 (wrap64 (x7 + 1)) x154000 (mx x154002 (wrap64 (((rd_T53 x0 x7).f1) + 1))) x154003))) else (none)) else (if (x0.length : Int) > 0 then (if 0 < (x1.length : Int) then (gaugerref22_Read.j1 k x0 x1 x6 (rd x1 0) x154002 x154003) else (none)) else (gaugerref22_Read.j1 k x0 x1 x6 x154000 x154002 x154003))
def gaugerref22_Read.j1 : Nat → List (S53) → List Int → Int → Int → Int → List Int → Option (Int × (List (S55)) × Int × List Int)
  | 0, _, _, _, _, _, _ => none
  | k + 1, x0, x1, x6, x154000, x154002, x154003 => if x6 ≥ 0 then (if 0 ≤ x6 then (if x6 < (x1.length : Int) then (gaugerref22_Read.l1 k x0 x1 x6 0 (rd x1 x6) x154002 x154003) else (none)) else (none)) else (gaugerref22_Read.j4 k x0 x1 x6 x154000 ([] : List (S55)) x154002 x154003)
def gaugerref22_Read.j4 : Nat → List (S53) → List Int → Int → Int → List (S55) → Int → List Int → Option (Int × (List (S55)) × Int × List Int)
  | 0, _, _, _, _, _, _, _ => none
  | k + 1, x0, x1, x6, x154000, x154001, x154002, x154003 => gaugerref22_Read.l3 k x0 x1 (wrap64 (x6 + 1)) x154000 x154001 x154002 x154003
def gaugerref22_Read.l3 : Nat → List (S53) → List Int → Int → Int → List (S55) → Int → List Int → Option (Int × (List (S55)) × Int × List Int)
  | 0, _, _, _, _, _, _, _ => none
  | k + 1, x0, x1, x10, x154000, x154001, x154002, x154003 => if x10 < (x0.length : Int) then (if 0 ≤ x10 then (if ((rd_T53 x0 x10).f0) = 1 then (gaugerref22_Read.j6 k x0 x1 x10 ((rd_T53 x0 x10).f0) (((rd_T53 x0 x10).f0) == 1) x154000 x154001 x154002 x154003 ((rd_T53 x0 x10).f0) ((rd_T53 x0 x10).f1) ((rd_T53 x0 x10).f2) ((rd_T53 x0 x10).f3) ((rd_T53 x0 x10).f4) ((rd_T53 x0 x10).f5.f0) ((rd_T53 x0 x10).f5.f1) ((rd_T53 x0 x10).f5.f2) ((rd_T53 x0 x10).f5.f3) ((rd_T53 x0 x10).f6) ((rd_T53 x0 x10).f7)) else (gaugerref22_Read.j6 k x0 x1 x10 ((rd_T53 x0 x10).f0) (((rd_T53 x0 x10).f0) == 2) x154000 x154001 x154002 x154003 ((rd_T53 x0 x10).f0) ((rd_T53 x0 x10).f1) ((rd_T53 x0 x10).f2) ((rd_T53 x0 x10).f3) ((rd_T53 x0 x10).f4) ((rd_T53 x0 x10).f5.f0) ((rd_T53 x0 x10).f5.f1) ((rd_T53 x0 x10).f5.f2) ((rd_T53 x0 x10).f5.f3) ((rd_T53 x0 x10).f6) ((rd_T53 x0 x10).f7))) else (none)) else (some (x154000, x154001, x154002, x154003))
def gaugerref22_Read.j6 : Nat → List (S53) → List Int → Int → Int → Bool → Int → List (S55) → Int → List Int → Int → Int → Int → Int → List (S124) → Int → Int → ByteArray → ByteArray → List (S55) → List (S72) → Option (Int × (List (S55)) × Int × List Int)
  | 0, _, _, _, _, _, _, _, _, _, _, _, _, _, _, _, _, _, _, _, _ => none
  | k + 1, x0, x1, x10, x140, x141, x154000, x154001, x154002, x154003, x182000, x182001, x182002, x182003, x182004, x182005, x182006, x182007, x182008, x182009, x182010 => if x141 = true then (if 0 ≤ x10 then (if x10 < (x1.length : Int) then ((gaugerref22_set.f k x154001 x182001 (rd x1 x10)).bind fun t183 => (gaugerref22_Read.l3 k x0 x1 (wrap64 (x10 + 1)) x154000 t183 x154002 x154003)) else (none)) else (none)) else (if x140 = 3 then (gaugerref22_Read.j7 k x0 x1 x10 (x140 == 3) x154000 x154001 x154002 x154003 x182000 x182001 x182002 x182003 x182004 x182005 x182006 x182007 x182008 x182009 x182010) else (gaugerref22_Read.j7 k x0 x1 x10 (x140 == 4) x154000 x154001 x154002 x154003 x182000 x182001 x182002 x182003 x182004 x182005 x182006 x182007 x182008 x182009 x182010))
def gaugerref22_Read.j7 : Nat → List (S53) → List Int → Int → Bool → Int → List (S55) → Int → List Int → Int → Int → Int → Int → List (S124) → Int → Int → ByteArray → ByteArray → List (S55) → List (S72) → Option (Int × (List (S55)) × Int × List Int)
  | 0, _, _, _, _, _, _, _, _, _, _, _, _, _, _, _, _, _, _, _ => none
  | k + 1, x0, x1, x10, x155, x154000, x154001, x154002, x154003, x182000, x182001, x182002, x182003, x182004, x182005, x182006, x182007, x182008, x182009, x182010 => if x155 = true then (gaugerref22_Read.l4 k x0 x1 x10 (([] : List (S55))) 0 x154000 x154001 x154002 x154003 x182000 x182001 x182002 x182003 x182004 x182005 x182006 x182007 x182008 x182009 x182010) else (gaugerref22_Read.l3 k x0 x1 (wrap64 (x10 + 1)) x154000 x154001 x154002 x154003)
def gaugerref22_Read.l4 : Nat → List (S53) → List Int → Int → List (S55) → Int → Int → List (S55) → Int → List Int → Int → Int → Int → Int → List (S124) → Int → Int → ByteArray → ByteArray → List (S55) → List (S72) → Option (Int × (List (S55)) × Int × List Int)
  | 0, _, _, _, _, _, _, _, _, _, _, _, _, _, _, _, _, _, _, _, _ => none
  | k + 1, x0, x1, x10, x12, x13, x154000, x154001, x154002, x154003, x182000, x182001, x182002, x182003, x182004, x182005, x182006, x182007, x182008, x182009, x182010 => if x13 < (x154001.length : Int) then (if 0 ≤ x13 then (if ((rd_T55 x154001 x13).f0) = x182001 then (gaugerref22_Read.l4 k x0 x1 x10 x12 (wrap64 (x13 + 1)) x154000 x154001 x154002 x154003 x182000 x182001 x182002 x182003 x182004 x182005 x182006 x182007 x182008 x182009 x182010) else (if x12.length < 8796093022208 then (gaugerref22_Read.l4 k x0 x1 x10 (x12 ++ [(⟨(rd_T55 x154001 x13).f0, (rd_T55 x154001 x13).f1⟩ : S55)]) (wrap64 (x13 + 1)) x154000 x154001 x154002 x154003 x182000 x182001 x182002 x182003 x182004 x182005 x182006 x182007 x182008 x182009 x182010) else (none))) else (none)) else (gaugerref22_Read.l3 k x0 x1 (wrap64 (x10 + 1)) x154000 x12 x154002 x154003)
def gaugerref22_Read.l1 : Nat → List (S53) → List Int → Int → Int → Int → Int → List Int → Option (Int × (List (S55)) × Int × List Int)
  | 0, _, _, _, _, _, _, _ => none
  | k + 1, x0, x1, x6, x8, x154000, x154002, x154003 => if 0 ≤ x6 then (if x6 < (x0.length : Int) then (if x8 < (((rd_T53 x0 x6).f7).length : Int) then (if 0 ≤ x8 then (gaugerref22_Read.l1 k x0 x1 x6 (wrap64 (x8 + 1)) (mn x154000 ((rd_T72 ((rd_T53 x0 x6).f7) x8).f1)) x154002 x154003) else (none)) else (gaugerref22_Read.l2 k x0 x1 x6 0 x154000 ([] : List (S55)) x154002 x154003)) else (none)) else (none)
def gaugerref22_Read.l2 : Nat → List (S53) → List Int → Int → Int → Int → List (S55) → Int → List Int → Option (Int × (List (S55)) × Int × List Int)
  | 0, _, _, _, _, _, _, _, _ => none
  | k + 1, x0, x1, x6, x9, x154000, x154001, x154002, x154003 => if 0 ≤ x6 then (if x6 < (x0.length : Int) then (if x9 < (((rd_T53 x0 x6).f6).length : Int) then (if 0 ≤ x9 then ((gaugerref22_set.f k x154001 ((rd_T55 ((rd_T53 x0 x6).f6) x9).f0) ((rd_T55 ((rd_T53 x0 x6).f6) x9).f1)).bind fun t175 => (gaugerref22_Read.l2 k x0 x1 x6 (wrap64 (x9 + 1)) x154000 t175 (mx x154002 (wrap64 (((rd_T55 ((rd_T53 x0 x6).f6) x9).f0) + 1))) x154003)) else (none)) else (gaugerref22_Read.j4 k x0 x1 x6 x154000 x154001 x154002 x154003)) else (none)) else (none)
end
def gaugerref22_Read.f (k : Nat) (l0 : List (S53)) (l1 : List Int) : Option (Int × (List (S55)) × Int × List Int) := gaugerref22_Read.l0 k l0 l1 (-1) 0 0 1 ([] : List Int)
theorem gaugerref22_Read.mono_l : ∀ k, (∀ y0 y1 y2 y3 y4 y5 y6, LeO (gaugerref22_Read.l0 k y0 y1 y2 y3 y4 y5 y6) (gaugerref22_Read.l0 (k + 1) y0 y1 y2 y3 y4 y5 y6)) ∧ (∀ y0 y1 y2 y3 y4 y5, LeO (gaugerref22_Read.j1 k y0 y1 y2 y3 y4 y5) (gaugerref22_Read.j1 (k + 1) y0 y1 y2 y3 y4 y5)) ∧ (∀ y0 y1 y2 y3 y4 y5 y6, LeO (gaugerref22_Read.j4 k y0 y1 y2 y3 y4 y5 y6) (gaugerref22_Read.j4 (k + 1) y0 y1 y2 y3 y4 y5 y6)) ∧ (∀ y0 y1 y2 y3 y4 y5 y6, LeO (gaugerref22_Read.l3 k y0 y1 y2 y3 y4 y5 y6) (gaugerref22_Read.l3 (k + 1) y0 y1 y2 y3 y4 y5 y6)) ∧ (∀ y0 y1 y2 y3 y4 y5 y6 y7 y8 y9 y10 y11 y12 y13 y14 y15 y16 y17 y18 y19, LeO (gaugerref22_Read.j6 k y0 y1 y2 y3 y4 y5 y6 y7 y8 y9 y10 y11 y12 y13 y14 y15 y16 y17 y18 y19) (gaugerref22_Read.j6 (k + 1) y0 y1 y2 y3 y4 y5 y6 y7 y8 y9 y10 y11 y12 y13 y14 y15 y16 y17 y18 y19)) ∧ (∀ y0 y1 y2 y3 y4 y5 y6 y7 y8 y9 y10 y11 y12 y13 y14 y15 y16 y17 y18, LeO (gaugerref22_Read.j7 k y0 y1 y2 y3 y4 y5 y6 y7 y8 y9 y10 y11 y12 y13 y14 y15 y16 y17 y18) (gaugerref22_Read.j7 (k + 1) y0 y1 y2 y3 y4 y5 y6 y7 y8 y9 y10 y11 y12 y13 y14 y15 y16 y17 y18)) ∧ (∀ y0 y1 y2 y3 y4 y5 y6 y7 y8 y9 y10 y11 y12 y13 y14 y15 y16 y17 y18 y19, LeO (gaugerref22_Read.l4 k y0 y1 y2 y3 y4 y5 y6 y7 y8 y9 y10 y11 y12 y13 y14 y15 y16 y17 y18 y19) (gaugerref22_Read.l4 (k + 1) y0 y1 y2 y3 y4 y5 y6 y7 y8 y9 y10 y11 y12 y13 y14 y15 y16 y17 y18 y19)) ∧ (∀ y0 y1 y2 y3 y4 y5 y6, LeO (gaugerref22_Read.l1 k y0 y1 y2 y3 y4 y5 y6) (gaugerref22_Read.l1 (k + 1) y0 y1 y2 y3 y4 y5 y6)) ∧ (∀ y0 y1 y2 y3 y4 y5 y6 y7, LeO (gaugerref22_Read.l2 k y0 y1 y2 y3 y4 y5 y6 y7) (gaugerref22_Read.l2 (k + 1) y0 y1 y2 y3 y4 y5 y6 y7))
  | 0 => ⟨fun _ _ _ _ _ _ _ r h => by simp [gaugerref22_Read.l0] at h, fun _ _ _ _ _ _ r h => by simp [gaugerref22_Read.j1] at h, fun _ _ _ _ _ _ _ r h => by simp [gaugerref22_Read.j4] at h, fun _ _ _ _ _ _ _ r h => by simp [gaugerref22_Read.l3] at h, fun _ _ _ _ _ _ _ _ _ _ _ _ _ _ _ _ _ _ _ _ r h => by simp [gaugerref22_Read.j6] at h, fun _ _ _ _ _ _ _ _ _ _ _ _ _ _ _ _ _ _ _ r h => by simp [gaugerref22_Read.j7] at h, fun _ _ _ _ _ _ _ _ _ _ _ _ _ _ _ _ _ _ _ _ r h => by simp [gaugerref22_Read.l4] at h, fun _ _ _ _ _ _ _ r h => by simp [gaugerref22_Read.l1] at h, fun _ _ _ _ _ _ _ _ r h => by simp [gaugerref22_Read.l2] at h⟩
  | k + 1 => by
    obtain ⟨ih0, ih1, ih2, ih3, ih4, ih5, ih6, ih7, ih8⟩ := gaugerref22_Read.mono_l k
    refine ⟨?_, ?_, ?_, ?_, ?_, ?_, ?_, ?_, ?_⟩
    · intro y0 y1 y2 y3 y4 y5 y6
      unfold gaugerref22_Read.l0
      repeat' first
      | (with_reducible exact ih0 _ _ _ _ _ _ _)
      | (with_reducible exact ih1 _ _ _ _ _ _)
      | (with_reducible exact ih2 _ _ _ _ _ _ _)
      | (with_reducible exact ih3 _ _ _ _ _ _ _)
      | (with_reducible exact ih4 _ _ _ _ _ _ _ _ _ _ _ _ _ _ _ _ _ _ _ _)
      | (with_reducible exact ih5 _ _ _ _ _ _ _ _ _ _ _ _ _ _ _ _ _ _ _)
      | (with_reducible exact ih6 _ _ _ _ _ _ _ _ _ _ _ _ _ _ _ _ _ _ _ _)
      | (with_reducible exact ih7 _ _ _ _ _ _ _)
      | (with_reducible exact ih8 _ _ _ _ _ _ _ _)
      | (with_reducible exact gaugerref22_set.mono _ _ _ _)
      | (with_reducible exact LeO.refl _)
      | (with_reducible exact LeO.none _)
      | (with_reducible refine LeO.ite ?_ ?_)
      | (with_reducible refine LeO.bind ?_ (fun _ => ?_))
      | exact ih0 _ _ _ _ _ _ _
      | exact ih1 _ _ _ _ _ _
      | exact ih2 _ _ _ _ _ _ _
      | exact ih3 _ _ _ _ _ _ _
      | exact ih4 _ _ _ _ _ _ _ _ _ _ _ _ _ _ _ _ _ _ _ _
      | exact ih5 _ _ _ _ _ _ _ _ _ _ _ _ _ _ _ _ _ _ _
      | exact ih6 _ _ _ _ _ _ _ _ _ _ _ _ _ _ _ _ _ _ _ _
      | exact ih7 _ _ _ _ _ _ _
      | exact ih8 _ _ _ _ _ _ _ _
      | exact gaugerref22_set.mono _ _ _ _
      | exact LeO.none _
      | refine LeO.ite ?_ ?_
      | refine LeO.bind ?_ (fun _ => ?_)
    · intro y0 y1 y2 y3 y4 y5
      unfold gaugerref22_Read.j1
      repeat' first
      | (with_reducible exact ih0 _ _ _ _ _ _ _)
      | (with_reducible exact ih1 _ _ _ _ _ _)
      | (with_reducible exact ih2 _ _ _ _ _ _ _)
      | (with_reducible exact ih3 _ _ _ _ _ _ _)
      | (with_reducible exact ih4 _ _ _ _ _ _ _ _ _ _ _ _ _ _ _ _ _ _ _ _)
      | (with_reducible exact ih5 _ _ _ _ _ _ _ _ _ _ _ _ _ _ _ _ _ _ _)
      | (with_reducible exact ih6 _ _ _ _ _ _ _ _ _ _ _ _ _ _ _ _ _ _ _ _)
      | (with_reducible exact ih7 _ _ _ _ _ _ _)
      | (with_reducible exact ih8 _ _ _ _ _ _ _ _)
      | (with_reducible exact gaugerref22_set.mono _ _ _ _)
      | (with_reducible exact LeO.refl _)
      | (with_reducible exact LeO.none _)
      | (with_reducible refine LeO.ite ?_ ?_)
      | (with_reducible refine LeO.bind ?_ (fun _ => ?_))
      | exact ih0 _ _ _ _ _ _ _
      | exact ih1 _ _ _ _ _ _
      | exact ih2 _ _ _ _ _ _ _
      | exact ih3 _ _ _ _ _ _ _
      | exact ih4 _ _ _ _ _ _ _ _ _ _ _ _ _ _ _ _ _ _ _ _
      | exact ih5 _ _ _ _ _ _ _ _ _ _ _ _ _ _ _ _ _ _ _
      | exact ih6 _ _ _ _ _ _ _ _ _ _ _ _ _ _ _ _ _ _ _ _
      | exact ih7 _ _ _ _ _ _ _
      | exact ih8 _ _ _ _ _ _ _ _
      | exact gaugerref22_set.mono _ _ _ _
      | exact LeO.none _
      | refine LeO.ite ?_ ?_
      | refine LeO.bind ?_ (fun _ => ?_)
    · intro y0 y1 y2 y3 y4 y5 y6
      unfold gaugerref22_Read.j4
      repeat' first
      | (with_reducible exact ih0 _ _ _ _ _ _ _)
      | (with_reducible exact ih1 _ _ _ _ _ _)
      | (with_reducible exact ih2 _ _ _ _ _ _ _)
      | (with_reducible exact ih3 _ _ _ _ _ _ _)
      | (with_reducible exact ih4 _ _ _ _ _ _ _ _ _ _ _ _ _ _ _ _ _ _ _ _)
      | (with_reducible exact ih5 _ _ _ _ _ _ _ _ _ _ _ _ _ _ _ _ _ _ _)
      | (with_reducible exact ih6 _ _ _ _ _ _ _ _ _ _ _ _ _ _ _ _ _ _ _ _)
      | (with_reducible exact ih7 _ _ _ _ _ _ _)
      | (with_reducible exact ih8 _ _ _ _ _ _ _ _)
      | (with_reducible exact gaugerref22_set.mono _ _ _ _)
      | (with_reducible exact LeO.refl _)
      | (with_reducible exact LeO.none _)
      | (with_reducible refine LeO.ite ?_ ?_)
      | (with_reducible refine LeO.bind ?_ (fun _ => ?_))
      | exact ih0 _ _ _ _ _ _ _
      | exact ih1 _ _ _ _ _ _
      | exact ih2 _ _ _ _ _ _ _
      | exact ih3 _ _ _ _ _ _ _
      | exact ih4 _ _ _ _ _ _ _ _ _ _ _ _ _ _ _ _ _ _ _ _
      | exact ih5 _ _ _ _ _ _ _ _ _ _ _ _ _ _ _ _ _ _ _
      | exact ih6 _ _ _ _ _ _ _ _ _ _ _ _ _ _ _ _ _ _ _ _
      | exact ih7 _ _ _ _ _ _ _
      | exact ih8 _ _ _ _ _ _ _ _
      | exact gaugerref22_set.mono _ _ _ _
      | exact LeO.none _
      | refine LeO.ite ?_ ?_
      | refine LeO.bind ?_ (fun _ => ?_)
    · intro y0 y1 y2 y3 y4 y5 y6
      unfold gaugerref22_Read.l3
      repeat' first
      | (with_reducible exact ih0 _ _ _ _ _ _ _)
      | (with_reducible exact ih1 _ _ _ _ _ _)
      | (with_reducible exact ih2 _ _ _ _ _ _ _)
      | (with_reducible exact ih3 _ _ _ _ _ _ _)
      | (with_reducible exact ih4 _ _ _ _ _ _ _ _ _ _ _ _ _ _ _ _ _ _ _ _)
      | (with_reducible exact ih5 _ _ _ _ _ _ _ _ _ _ _ _ _ _ _ _ _ _ _)
      | (with_reducible exact ih6 _ _ _ _ _ _ _ _ _ _ _ _ _ _ _ _ _ _ _ _)
      | (with_reducible exact ih7 _ _ _ _ _ _ _)
      | (with_reducible exact ih8 _ _ _ _ _ _ _ _)
      | (with_reducible exact gaugerref22_set.mono _ _ _ _)
      | (with_reducible exact LeO.refl _)
      | (with_reducible exact LeO.none _)
      | (with_reducible refine LeO.ite ?_ ?_)
      | (with_reducible refine LeO.bind ?_ (fun _ => ?_))
      | exact ih0 _ _ _ _ _ _ _
      | exact ih1 _ _ _ _ _ _
      | exact ih2 _ _ _ _ _ _ _
      | exact ih3 _ _ _ _ _ _ _
      | exact ih4 _ _ _ _ _ _ _ _ _ _ _ _ _ _ _ _ _ _ _ _
      | exact ih5 _ _ _ _ _ _ _ _ _ _ _ _ _ _ _ _ _ _ _
      | exact ih6 _ _ _ _ _ _ _ _ _ _ _ _ _ _ _ _ _ _ _ _
      | exact ih7 _ _ _ _ _ _ _
      | exact ih8 _ _ _ _ _ _ _ _
      | exact gaugerref22_set.mono _ _ _ _
      | exact LeO.none _
      | refine LeO.ite ?_ ?_
      | refine LeO.bind ?_ (fun _ => ?_)
    · intro y0 y1 y2 y3 y4 y5 y6 y7 y8 y9 y10 y11 y12 y13 y14 y15 y16 y17 y18 y19
      unfold gaugerref22_Read.j6
      repeat' first
      | (with_reducible exact ih0 _ _ _ _ _ _ _)
      | (with_reducible exact ih1 _ _ _ _ _ _)
      | (with_reducible exact ih2 _ _ _ _ _ _ _)
      | (with_reducible exact ih3 _ _ _ _ _ _ _)
      | (with_reducible exact ih4 _ _ _ _ _ _ _ _ _ _ _ _ _ _ _ _ _ _ _ _)
      | (with_reducible exact ih5 _ _ _ _ _ _ _ _ _ _ _ _ _ _ _ _ _ _ _)
      | (with_reducible exact ih6 _ _ _ _ _ _ _ _ _ _ _ _ _ _ _ _ _ _ _ _)
      | (with_reducible exact ih7 _ _ _ _ _ _ _)
      | (with_reducible exact ih8 _ _ _ _ _ _ _ _)
      | (with_reducible exact gaugerref22_set.mono _ _ _ _)
      | (with_reducible exact LeO.refl _)
      | (with_reducible exact LeO.none _)
      | (with_reducible refine LeO.ite ?_ ?_)
      | (with_reducible refine LeO.bind ?_ (fun _ => ?_))
      | exact ih0 _ _ _ _ _ _ _
      | exact ih1 _ _ _ _ _ _
      | exact ih2 _ _ _ _ _ _ _
      | exact ih3 _ _ _ _ _ _ _
      | exact ih4 _ _ _ _ _ _ _ _ _ _ _ _ _ _ _ _ _ _ _ _
      | exact ih5 _ _ _ _ _ _ _ _ _ _ _ _ _ _ _ _ _ _ _
      | exact ih6 _ _ _ _ _ _ _ _ _ _ _ _ _ _ _ _ _ _ _ _
      | exact ih7 _ _ _ _ _ _ _
      | exact ih8 _ _ _ _ _ _ _ _
      | exact gaugerref22_set.mono _ _ _ _
      | exact LeO.none _
      | refine LeO.ite ?_ ?_
      | refine LeO.bind ?_ (fun _ => ?_)
    · intro y0 y1 y2 y3 y4 y5 y6 y7 y8 y9 y10 y11 y12 y13 y14 y15 y16 y17 y18
      unfold gaugerref22_Read.j7
      repeat' first
      | (with_reducible exact ih0 _ _ _ _ _ _ _)
      | (with_reducible exact ih1 _ _ _ _ _ _)
      | (with_reducible exact ih2 _ _ _ _ _ _ _)
      | (with_reducible exact ih3 _ _ _ _ _ _ _)
      | (with_reducible exact ih4 _ _ _ _ _ _ _ _ _ _ _ _ _ _ _ _ _ _ _ _)
      | (with_reducible exact ih5 _ _ _ _ _ _ _ _ _ _ _ _ _ _ _ _ _ _ _)
      | (with_reducible exact ih6 _ _ _ _ _ _ _ _ _ _ _ _ _ _ _ _ _ _ _ _)
      | (with_reducible exact ih7 _ _ _ _ _ _ _)
      | (with_reducible exact ih8 _ _ _ _ _ _ _ _)
      | (with_reducible exact gaugerref22_set.mono _ _ _ _)
      | (with_reducible exact LeO.refl _)
      | (with_reducible exact LeO.none _)
      | (with_reducible refine LeO.ite ?_ ?_)
      | (with_reducible refine LeO.bind ?_ (fun _ => ?_))
      | exact ih0 _ _ _ _ _ _ _
      | exact ih1 _ _ _ _ _ _
      | exact ih2 _ _ _ _ _ _ _
      | exact ih3 _ _ _ _ _ _ _
      | exact ih4 _ _ _ _ _ _ _ _ _ _ _ _ _ _ _ _ _ _ _ _
      | exact ih5 _ _ _ _ _ _ _ _ _ _ _ _ _ _ _ _ _ _ _
      | exact ih6 _ _ _ _ _ _ _ _ _ _ _ _ _ _ _ _ _ _ _ _
      | exact ih7 _ _ _ _ _ _ _
      | exact ih8 _ _ _ _ _ _ _ _
      | exact gaugerref22_set.mono _ _ _ _
      | exact LeO.none _
      | refine LeO.ite ?_ ?_
      | refine LeO.bind ?_ (fun _ => ?_)
    · intro y0 y1 y2 y3 y4 y5 y6 y7 y8 y9 y10 y11 y12 y13 y14 y15 y16 y17 y18 y19
      unfold gaugerref22_Read.l4
      repeat' first
      | (with_reducible exact ih0 _ _ _ _ _ _ _)
      | (with_reducible exact ih1 _ _ _ _ _ _)
      | (with_reducible exact ih2 _ _ _ _ _ _ _)
      | (with_reducible exact ih3 _ _ _ _ _ _ _)
      | (with_reducible exact ih4 _ _ _ _ _ _ _ _ _ _ _ _ _ _ _ _ _ _ _ _)
      | (with_reducible exact ih5 _ _ _ _ _ _ _ _ _ _ _ _ _ _ _ _ _ _ _)
      | (with_reducible exact ih6 _ _ _ _ _ _ _ _ _ _ _ _ _ _ _ _ _ _ _ _)
      | (with_reducible exact ih7 _ _ _ _ _ _ _)
      | (with_reducible exact ih8 _ _ _ _ _ _ _ _)
      | (with_reducible exact gaugerref22_set.mono _ _ _ _)
      | (with_reducible exact LeO.refl _)
      | (with_reducible exact LeO.none _)
      | (with_reducible refine LeO.ite ?_ ?_)
      | (with_reducible refine LeO.bind ?_ (fun _ => ?_))
      | exact ih0 _ _ _ _ _ _ _
      | exact ih1 _ _ _ _ _ _
      | exact ih2 _ _ _ _ _ _ _
      | exact ih3 _ _ _ _ _ _ _
      | exact ih4 _ _ _ _ _ _ _ _ _ _ _ _ _ _ _ _ _ _ _ _
      | exact ih5 _ _ _ _ _ _ _ _ _ _ _ _ _ _ _ _ _ _ _
      | exact ih6 _ _ _ _ _ _ _ _ _ _ _ _ _ _ _ _ _ _ _ _
      | exact ih7 _ _ _ _ _ _ _
      | exact ih8 _ _ _ _ _ _ _ _
      | exact gaugerref22_set.mono _ _ _ _
      | exact LeO.none _
      | refine LeO.ite ?_ ?_
      | refine LeO.bind ?_ (fun _ => ?_)
    · intro y0 y1 y2 y3 y4 y5 y6
      unfold gaugerref22_Read.l1
      repeat' first
      | (with_reducible exact ih0 _ _ _ _ _ _ _)
      | (with_reducible exact ih1 _ _ _ _ _ _)
      | (with_reducible exact ih2 _ _ _ _ _ _ _)
      | (with_reducible exact ih3 _ _ _ _ _ _ _)
      | (with_reducible exact ih4 _ _ _ _ _ _ _ _ _ _ _ _ _ _ _ _ _ _ _ _)
      | (with_reducible exact ih5 _ _ _ _ _ _ _ _ _ _ _ _ _ _ _ _ _ _ _)
      | (with_reducible exact ih6 _ _ _ _ _ _ _ _ _ _ _ _ _ _ _ _ _ _ _ _)
      | (with_reducible exact ih7 _ _ _ _ _ _ _)
      | (with_reducible exact ih8 _ _ _ _ _ _ _ _)
      | (with_reducible exact gaugerref22_set.mono _ _ _ _)
      | (with_reducible exact LeO.refl _)
      | (with_reducible exact LeO.none _)
      | (with_reducible refine LeO.ite ?_ ?_)
      | (with_reducible refine LeO.bind ?_ (fun _ => ?_))
      | exact ih0 _ _ _ _ _ _ _
      | exact ih1 _ _ _ _ _ _
      | exact ih2 _ _ _ _ _ _ _
      | exact ih3 _ _ _ _ _ _ _
      | exact ih4 _ _ _ _ _ _ _ _ _ _ _ _ _ _ _ _ _ _ _ _
      | exact ih5 _ _ _ _ _ _ _ _ _ _ _ _ _ _ _ _ _ _ _
      | exact ih6 _ _ _ _ _ _ _ _ _ _ _ _ _ _ _ _ _ _ _ _
      | exact ih7 _ _ _ _ _ _ _
      | exact ih8 _ _ _ _ _ _ _ _
      | exact gaugerref22_set.mono _ _ _ _
      | exact LeO.none _
      | refine LeO.ite ?_ ?_
      | refine LeO.bind ?_ (fun _ => ?_)
    · intro y0 y1 y2 y3 y4 y5 y6 y7
      unfold gaugerref22_Read.l2
      repeat' first
      | (with_reducible exact ih0 _ _ _ _ _ _ _)
      | (with_reducible exact ih1 _ _ _ _ _ _)
      | (with_reducible exact ih2 _ _ _ _ _ _ _)
      | (with_reducible exact ih3 _ _ _ _ _ _ _)
      | (with_reducible exact ih4 _ _ _ _ _ _ _ _ _ _ _ _ _ _ _ _ _ _ _ _)
      | (with_reducible exact ih5 _ _ _ _ _ _ _ _ _ _ _ _ _ _ _ _ _ _ _)
      | (with_reducible exact ih6 _ _ _ _ _ _ _ _ _ _ _ _ _ _ _ _ _ _ _ _)
      | (with_reducible exact ih7 _ _ _ _ _ _ _)
      | (with_reducible exact ih8 _ _ _ _ _ _ _ _)
      | (with_reducible exact gaugerref22_set.mono _ _ _ _)
      | (with_reducible exact LeO.refl _)
      | (with_reducible exact LeO.none _)
      | (with_reducible refine LeO.ite ?_ ?_)
      | (with_reducible refine LeO.bind ?_ (fun _ => ?_))
      | exact ih0 _ _ _ _ _ _ _
      | exact ih1 _ _ _ _ _ _
      | exact ih2 _ _ _ _ _ _ _
      | exact ih3 _ _ _ _ _ _ _
      | exact ih4 _ _ _ _ _ _ _ _ _ _ _ _ _ _ _ _ _ _ _ _
      | exact ih5 _ _ _ _ _ _ _ _ _ _ _ _ _ _ _ _ _ _ _
      | exact ih6 _ _ _ _ _ _ _ _ _ _ _ _ _ _ _ _ _ _ _ _
      | exact ih7 _ _ _ _ _ _ _
      | exact ih8 _ _ _ _ _ _ _ _
      | exact gaugerref22_set.mono _ _ _ _
      | exact LeO.none _
      | refine LeO.ite ?_ ?_
      | refine LeO.bind ?_ (fun _ => ?_)
theorem gaugerref22_Read.mono : ∀ a0 a1 k, LeO (gaugerref22_Read.f k a0 a1) (gaugerref22_Read.f (k + 1) a0 a1) := by
  intro a0 a1 k
  obtain ⟨ih0, ih1, ih2, ih3, ih4, ih5, ih6, ih7, ih8⟩ := gaugerref22_Read.mono_l k
  unfold gaugerref22_Read.f
  repeat' first
      | (with_reducible exact ih0 _ _ _ _ _ _ _)
      | (with_reducible exact ih1 _ _ _ _ _ _)
      | (with_reducible exact ih2 _ _ _ _ _ _ _)
      | (with_reducible exact ih3 _ _ _ _ _ _ _)
      | (with_reducible exact ih4 _ _ _ _ _ _ _ _ _ _ _ _ _ _ _ _ _ _ _ _)
      | (with_reducible exact ih5 _ _ _ _ _ _ _ _ _ _ _ _ _ _ _ _ _ _ _)
      | (with_reducible exact ih6 _ _ _ _ _ _ _ _ _ _ _ _ _ _ _ _ _ _ _ _)
      | (with_reducible exact ih7 _ _ _ _ _ _ _)
      | (with_reducible exact ih8 _ _ _ _ _ _ _ _)
      | (with_reducible exact gaugerref22_set.mono _ _ _ _)
      | (with_reducible exact LeO.refl _)
      | (with_reducible exact LeO.none _)
      | (with_reducible refine LeO.ite ?_ ?_)
      | (with_reducible refine LeO.bind ?_ (fun _ => ?_))
      | exact ih0 _ _ _ _ _ _ _
      | exact ih1 _ _ _ _ _ _
      | exact ih2 _ _ _ _ _ _ _
      | exact ih3 _ _ _ _ _ _ _
      | exact ih4 _ _ _ _ _ _ _ _ _ _ _ _ _ _ _ _ _ _ _ _
      | exact ih5 _ _ _ _ _ _ _ _ _ _ _ _ _ _ _ _ _ _ _
      | exact ih6 _ _ _ _ _ _ _ _ _ _ _ _ _ _ _ _ _ _ _ _
      | exact ih7 _ _ _ _ _ _ _
      | exact ih8 _ _ _ _ _ _ _ _
      | exact gaugerref22_set.mono _ _ _ _
      | exact LeO.none _
      | refine LeO.ite ?_ ?_
      | refine LeO.bind ?_ (fun _ => ?_)
def gaugerref22_Read.T8 : Bool × List (List Nat × List Nat) := (true, [([], []), ([0], [0]), ([], []), ([], []), ([2, 3], [2, 3]), ([4], [4]), ([5], [5]), ([6], [6]), ([1, 7], [1, 7]), ([0, 1, 2, 3, 4, 5, 6, 7, 8], []), ([9, 8, 0, 1, 2, 3, 4, 5, 6, 7, 8], [8, 9])])
def gaugerref22_Read.B8 : List Nat := [0, 1, 0, 0, 12, 28, 60, 124, 255, 511, 1023]
theorem gaugerref22_Read.tab8 : rtab .any (opsOf Try.f33 8) = gaugerref22_Read.T8 := by kernel_rfl
theorem gaugerref22_Read.bits8 : waitsOk gaugerref22_Read.T8.2 gaugerref22_Read.B8 = true := by kernel_rfl
def gaugerref22_Read.T10 : Bool × List (List Nat × List Nat) := (true, [([], []), ([0], [0]), ([], []), ([], []), ([2, 3], [2, 3]), ([4], [4]), ([5], [5]), ([6], [6]), ([1, 7], [1, 7]), ([0, 1, 2, 3, 4, 5, 6, 7, 8], []), ([9, 8, 8, 0, 1, 2, 3, 4, 5, 6, 7, 8], [8, 9])])
def gaugerref22_Read.B10 : List Nat := [0, 1, 0, 0, 12, 28, 60, 124, 255, 511, 1023]
theorem gaugerref22_Read.tab10 : rtab .any (opsOf Try.f33 10) = gaugerref22_Read.T10 := by kernel_rfl
theorem gaugerref22_Read.bits10 : waitsOk gaugerref22_Read.T10.2 gaugerref22_Read.B10 = true := by kernel_rfl
def gaugerref22_Read.T18 : Bool × List (List Nat × List Nat) := (true, [([], []), ([0], [0]), ([], []), ([], []), ([2, 3], [2, 3]), ([4], [4]), ([5], [5]), ([], []), ([6, 7], [6, 7]), ([8], [8]), ([9], [9]), ([1, 10], [1, 10]), ([0, 1, 2, 3, 4, 5, 6, 7, 8, 9, 10, 11], []), ([12, 11, 0, 1, 2, 3, 4, 5, 6, 7, 8, 9, 10, 11], [11, 12])])
def gaugerref22_Read.B18 : List Nat := [0, 1, 0, 0, 12, 28, 60, 0, 252, 508, 1020, 2047, 4095, 8191]
theorem gaugerref22_Read.tab18 : rtab .any (opsOf Try.f33 18) = gaugerref22_Read.T18 := by kernel_rfl
theorem gaugerref22_Read.bits18 : waitsOk gaugerref22_Read.T18.2 gaugerref22_Read.B18 = true := by kernel_rfl
def gaugerref22_Read.T22 : Bool × List (List Nat × List Nat) := (true, [([], []), ([0], [0]), ([], []), ([], []), ([2, 3], [2, 3]), ([4], [4]), ([5], [5]), ([], []), ([6, 7], [6, 7]), ([8], [8]), ([1, 9], [1, 9]), ([0, 1, 2, 3, 4, 5, 6, 7, 8, 9, 10], []), ([11, 10, 10, 0, 1, 2, 3, 4, 5, 6, 7, 8, 9, 10], [10, 11])])
def gaugerref22_Read.B22 : List Nat := [0, 1, 0, 0, 12, 28, 60, 0, 252, 508, 1023, 2047, 4095]
theorem gaugerref22_Read.tab22 : rtab .any (opsOf Try.f33 22) = gaugerref22_Read.T22 := by kernel_rfl
theorem gaugerref22_Read.bits22 : waitsOk gaugerref22_Read.T22.2 gaugerref22_Read.B22 = true := by kernel_rfl
def gaugerref22_Read.T23 : Bool × List (List Nat × List Nat) := (true, [([], []), ([0], [0]), ([], []), ([], []), ([2, 3], [2, 3]), ([4], [4]), ([5], [5]), ([], []), ([6, 7], [6, 7]), ([8], [8]), ([9], [9]), ([10], [10]), ([1, 11], [1, 11]), ([0, 1, 2, 3, 4, 5, 6, 7, 8, 9, 10, 11, 12], []), ([13, 12, 0, 1, 2, 3, 4, 5, 6, 7, 8, 9, 10, 11, 12], [12, 13])])
def gaugerref22_Read.B23 : List Nat := [0, 1, 0, 0, 12, 28, 60, 0, 252, 508, 1020, 2044, 4095, 8191, 16383]
theorem gaugerref22_Read.tab23 : rtab .any (opsOf Try.f33 23) = gaugerref22_Read.T23 := by kernel_rfl
theorem gaugerref22_Read.bits23 : waitsOk gaugerref22_Read.T23.2 gaugerref22_Read.B23 = true := by kernel_rfl
def gaugerref22_Read.T31 : Bool × List (List Nat × List Nat) := (true, [([], []), ([0], [0]), ([], []), ([2], [2]), ([], []), ([], []), ([4, 5], [4, 5]), ([6], [6]), ([3, 7], [3, 7]), ([1, 8], [1, 8]), ([0, 1, 2, 3, 4, 5, 6, 7, 8, 9], []), ([10, 9, 9, 0, 1, 2, 3, 4, 5, 6, 7, 8, 9], [9, 10])])
def gaugerref22_Read.B31 : List Nat := [0, 1, 0, 4, 0, 0, 48, 112, 252, 511, 1023, 2047]
theorem gaugerref22_Read.tab31 : rtab .any (opsOf Try.f33 31) = gaugerref22_Read.T31 := by kernel_rfl
theorem gaugerref22_Read.bits31 : waitsOk gaugerref22_Read.T31.2 gaugerref22_Read.B31 = true := by kernel_rfl
def gaugerref22_Read.T38 : Bool × List (List Nat × List Nat) := (true, [([], []), ([0], [0]), ([], []), ([1, 2], [1, 2]), ([3], [3]), ([4], [4]), ([], []), ([6], [6]), ([5, 7], [5, 7])])
def gaugerref22_Read.B38 : List Nat := [0, 1, 0, 7, 15, 31, 0, 64, 255]
theorem gaugerref22_Read.tab38 : rtab .any (opsOf Try.f33 38) = gaugerref22_Read.T38 := by kernel_rfl
theorem gaugerref22_Read.bits38 : waitsOk gaugerref22_Read.T38.2 gaugerref22_Read.B38 = true := by kernel_rfl
theorem bce_ {w W : World} (hB : Aside0 (Below w.heap.size w W)) {a : Addr} {v : Value} (h : w.cell? a = some v) : W.cell? a = some v := (hB.out.cell (World.block_lt_of_cell? w _ h)).trans h
theorem si_ {α : Type _} (l : List α) (i : Nat) (a : α) : l.toArray.setIfInBounds i a = (l.set i a).toArray := List.setIfInBounds_toArray ..
theorem s0_ {α : Type _} (a b : α) (l : List α) : (a :: l).set 0 b = b :: l := rfl
theorem s1_ {α : Type _} (a b : α) (l : List α) (n : Nat) : (a :: l).set (n + 1) b = a :: l.set n b := rfl
theorem dn_ {w : World} {g : Nat} {o : Obj} (h : w.heap[g]? = some o) (n : Nat) : (w.drewN n).heap[g]? = some o := blk_drewN h n
theorem dr_ {w : World} {g : Nat} {o : Obj} (h : w.heap[g]? = some o) : w.drew.heap[g]? = some o := blk_drew h
theorem al_ {w : World} {g : Nat} {o : Obj} (h : w.heap[g]? = some o) (o' : Obj) : (w.alloc o').heap[g]? = some o := blk_alloc h o'
end Go.Proofs.Ytkcckhlchjmkkaa.PMark
