/-
  LAYER 17: plan.isTable, plan.Good: closures handed to slices.ContainsFunc.
-/
import Derived.Test.YtkcckhlchjmkkaaPArkx0
import Derived.Test.YtkcckhlchjmkkaaProg
import Derived.Test.YtkcckhlchjmkkaaWWords
import Derived.Test.YtkcckhlchjmkkaaWEqStruct
import Derived.WalkKit
import Derived.WalkSpells
import Derived.KernelRfl
import Derived.Below
import Derived.RowKit3
import Derived.Lib.Hide
import Derived.Outline
set_option linter.unusedVariables false
set_option linter.unusedSimpArgs false
namespace Go.Proofs.Ytkcckhlchjmkkaa
open Go.RowKit Go.Proofs.YtkcckhlchjmkkaaW.PrintWords Go.Proofs.YtkcckhlchjmkkaaW.PrintMore Go.Proofs.Ytkcckhlchjmkkaa.PArk

/-- A column's type that can't be. -/
def badCol (k : Int) : Bool := !(k == 1) && !(k == 2)
theorem c_bad (k : Int) (w : World) : Calls Try.prog 156 #[.int .i64 k] w fun e w' => e = .returned (.bool (badCol k)) ∧ Below w.heap.size w w' := by
  unfold badCol
  go_enter Try.func156, Try.ntmps156
  by_cases h1 : k = 1
  · subst h1
    go_wp2
    go_ret
    exact ⟨rfl, Below.refl _ _⟩
  · have h2 : (k == 1) = false := beq_eq_false_iff_ne.2 h1
    have h3 : (k != 1) = true := bne_iff_ne.2 h1
    rw [h2]
    go_wp2
    go_ret
    exact ⟨rfl, Below.refl _ _⟩
/-- A place, where there is one. -/
def Idx (b : Bool) (r : Int) : Prop := if b = true then 0 ≤ r else r < 0
theorem Idx.yes {b : Bool} {r : Int} (h : b = true) (hr : 0 ≤ r) : Idx b r := by unfold Idx; rw [if_pos h]; exact hr
theorem Idx.no {b : Bool} {r : Int} (h : b = false) (hr : r < 0) : Idx b r := by unfold Idx; rw [if_neg (by simp [h])]; exact hr
theorem Idx.t {r : Int} (h : Idx true r) : 0 ≤ r := h
theorem Idx.f {r : Int} (h : Idx false r) : r < 0 := h
set_option maxRecDepth 100000 in
theorem c_IndexInt (L : List Int) (A : Option Addr) (c : Nat) (w : World) (h : (Kd.int .i64).C w A L.length L) (hc : L.length ≤ c) (hm : L.length ≤ 1000) :
    Calls Try.prog 190 #[.slice A L.length c, .func (Fn.func 156) #[] #[]] w fun e w' => ∃ r, e = .returned (.int .i64 r) ∧ Idx (L.any badCol) r ∧ Below w.heap.size w w' := by
  have H0 := Lib.hid h
  have HC := Lib.hid hc
  clear h hc
  have hB : Hid (Below w.heap.size w w) := Below.refl _ _
  go_enter Try.func190, Try.ntmps190
  go_wp2
  go_loopw [8] (fun v wr => ∃ i : Nat, i ≤ L.length ∧ v = .int .i64 i ∧ Hid ((L.take i).any badCol = false) ∧ Hid (Below w.heap.size w wr)) (fun v _ => L.length - (intOf v).toNat)
  case atStart => exact ⟨0, by omega, rfl, Lib.hid rfl, hB⟩
  case round =>
    obtain ⟨i, hi, rfl, HA, HB⟩ := hrel
    by_cases hlt : i < L.length
    · obtain ⟨ad, rfl, y0⟩ := Kd.at_int H0.out i (by omega) (by omega)
      simp only [Int.toNat_natCast] at y0
      replace y0 := (HB.out.cell (World.block_lt_of_cell? w _ y0)).trans y0
      have hsn : (L.take (i + 1)).any badCol = ((L.take i).any badCol || badCol (rd L i)) := by
        rw [List.take_add_one, List.getElem?_eq_getElem hlt, List.any_append]
        show _ = (_ || badCol (L.getD i 0))
        rw [List.getD_eq_getElem?_getD, List.getElem?_eq_getElem hlt]
        simp
      have hmem : badCol (rd L i) = true → L.any badCol = true := fun hb => List.any_eq_true.2 ⟨rd L i, by
        show L.getD i 0 ∈ L
        rw [List.getD_eq_getElem?_getD, List.getElem?_eq_getElem hlt]
        exact List.getElem_mem _, hb⟩
      rw [HA.out, Bool.false_or] at hsn
      generalize rd L i = x at *
      have HSN := Lib.hid hsn
      have HM := Lib.hid hmem
      clear hsn hmem
      have W1 : wrap64 ((i : Int) + 1) = i + 1 := by unfold wrap64; omega
      cases hb : badCol x with
      | true =>
        have HBX := Lib.hid hb
        clear hb
        go_wp2_with (go_at_call 156; refine (c_bad x _).mono ?_; rintro e w1 ⟨rfl, hb⟩; rw [HBX.out]; have hB := Lib.hid (below_step HB.out hb); clear hb)
        go_ret
        exact ⟨_, rfl, Idx.yes (HM.out HBX.out) (by omega), hB.out⟩
      | false =>
        have HBX := Lib.hid hb
        clear hb
        have HLT := Lib.hid hlt
        go_wp2_with (go_at_call 156; refine (c_bad x _).mono ?_; rintro e w1 ⟨rfl, hb⟩; rw [HBX.out]; have hB := Lib.hid (below_step HB.out hb); clear hb)
        go_roundw
        case rel =>
          try rw [W1]
          exact ⟨i + 1, HLT.out, by rw [Int.natCast_succ], Lib.hid (by rw [HSN.out, HBX.out]), hB⟩
        case measure =>
          try rw [W1]
          show L.length - ((i : Int) + 1).toNat < L.length - (i : Int).toNat
          have := HLT.out
          omega
    · have hil : i = L.length := by omega
      subst hil
      go_wp2
      go_ret
      have := HA.out
      rw [List.take_length] at this
      exact ⟨_, rfl, Idx.no this (by omega), HB.out⟩
theorem c_ContainsInt (L : List Int) (A : Option Addr) (c : Nat) (w : World) (h : (Kd.int .i64).C w A L.length L) (hc : L.length ≤ c) (hm : L.length ≤ 1000) :
    Calls Try.prog 157 #[.slice A L.length c, .func (Fn.func 156) #[] #[]] w fun e w' => e = .returned (.bool (L.any badCol)) ∧ Below w.heap.size w w' := by
  have H0 := Lib.hid h
  have HC := Lib.hid hc
  clear h hc
  go_enter Try.func157, Try.ntmps157
  go_wp2_with fail
  refine (c_IndexInt L A c w H0.out HC.out hm).mono ?_
  rintro e w1 ⟨r, rfl, hr, hb⟩
  have HB := Lib.hid hb
  clear hb
  cases ha : L.any badCol with
  | true =>
    rw [ha] at hr
    have hd : decide (0 ≤ r) = true := decide_eq_true hr.t
    have HA := Lib.hid ha
    clear hr ha
    go_wp2
    go_ret
    exact ⟨by rw [← HA.out]; simp, HB.out⟩
  | false =>
    rw [ha] at hr
    have hd : decide (0 ≤ r) = false := decide_eq_false (by have := hr.f; omega)
    have HA := Lib.hid ha
    clear hr ha
    go_wp2
    go_ret
    exact ⟨by rw [← HA.out]; simp, HB.out⟩
/-- Whether a table can be. -/
def okTab (L : List Int) : Bool := decide (1 ≤ L.length) && (decide (L.length ≤ 4) && !L.any badCol)
set_option maxRecDepth 100000 in
theorem c_isTable (L : List Int) (A : Option Addr) (c : Nat) (w : World) (h : (Kd.int .i64).C w A L.length L) (hc : L.length ≤ c) (hm : L.length ≤ 9223372036854775807) :
    Calls Try.prog 120 #[.agg #[.slice A L.length c]] w fun e w' => e = .returned (.bool (okTab L)) ∧ Below w.heap.size w w' := by
  have H0 := Lib.hid h
  have HC := Lib.hid hc
  clear h hc
  unfold okTab
  by_cases h1 : 1 ≤ L.length
  · by_cases h2 : L.length ≤ 4
    · have hd1 : decide (1 ≤ L.length) = true := decide_eq_true h1
      have hd2 : decide (L.length ≤ 4) = true := decide_eq_true h2
      have hd3 : decide (1 ≤ (L.length : Int)) = true := decide_eq_true (by omega)
      have hd4 : decide ((L.length : Int) ≤ 4) = true := decide_eq_true (by omega)
      rw [hd1, hd2]
      have hm2 : L.length ≤ 1000 := by omega
      go_enter Try.func120, Try.ntmps120
      go_wp2_with (go_at_call 157; refine (c_ContainsInt L A c _ (Kd.C_below H0.out (below_alloc (Below.refl _ _) _)) HC.out hm2).mono ?_; rintro e w1 ⟨rfl, hb⟩; have HB := Lib.hid (below_step (below_alloc (Below.refl _ _) _) hb); clear hb)
      all_goals
        go_ret
        exact ⟨by simp, HB.out⟩
    · have hd1 : decide (1 ≤ L.length) = true := decide_eq_true h1
      have hd2 : decide (L.length ≤ 4) = false := decide_eq_false h2
      have hd3 : decide (1 ≤ (L.length : Int)) = true := decide_eq_true (by omega)
      have hd4 : decide ((L.length : Int) ≤ 4) = false := decide_eq_false (by omega)
      rw [hd1, hd2]
      go_enter Try.func120, Try.ntmps120
      go_wp2
      go_ret
      exact ⟨rfl, below_alloc (Below.refl _ _) _⟩
  · have hd1 : decide (1 ≤ L.length) = false := decide_eq_false h1
    have hd3 : decide (1 ≤ (L.length : Int)) = false := decide_eq_false (by omega)
    rw [hd1]
    go_enter Try.func120, Try.ntmps120
    go_wp2
    go_ret
    exact ⟨rfl, below_alloc (Below.refl _ _) _⟩
end Go.Proofs.Ytkcckhlchjmkkaa
