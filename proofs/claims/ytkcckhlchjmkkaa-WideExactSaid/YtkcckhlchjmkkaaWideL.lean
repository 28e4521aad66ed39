/-
  THE LAWS' WALKS: awake, WideLaws.
-/
import Derived.Test.YtkcckhlchjmkkaaWideC
import Derived.Test.YtkcckhlchjmkkaaDrawn
import Derived.Outline
set_option linter.unusedVariables false
set_option linter.unusedSimpArgs false
namespace Go.Proofs.Ytkcckhlchjmkkaa
open Go.RowKit Go.Proofs.YtkcckhlchjmkkaaW.PrintWords
attribute [local go_sem high] eqWide

theorem hi_c (v : Int) (n : Int) (h : n = v) : hiOf n = hiOf v := by rw [h]
theorem neqWide {a b : Int} (h : a = b) : (!hiOf a == hiOf b || !loOf a == loOf b) = false := by subst h; simp
theorem eqWide' {a b : Int} (h : a = b) : (hiOf a == hiOf b && loOf a == loOf b) = true := by subst h; simp
/-- Cells and marks of an elder world. -/
theorem bcell {W w1 : World} (hb : Below W.heap.size W w1) : (∀ b o, b < W.heap.size → w1.cell? ⟨b, o, none⟩ = W.cell? ⟨b, o, none⟩) ∧ (∀ b o, b < W.heap.size → w1.frozen? ⟨b, o, none⟩ = W.frozen? ⟨b, o, none⟩) :=
  ⟨fun b o h => hb.cell (p := ⟨b, o, none⟩) h, fun b o h => hb.frozen (p := ⟨b, o, none⟩) h⟩

set_option maxHeartbeats 1000000 in
theorem c_awake (w : World) : Calls Try.prog 12 #[] w fun e w' => e = .returned (.bool true) ∧ Below w.heap.size w w' := by
  have o1 := c_Of 9223372036854775807 (by unfold I64; omega)
  have o2 := c_Of 1 (by unfold I64; omega)
  have o3 := c_Of (-5) (by unfold I64; omega)
  have o4 := c_Of (-1) (by unfold I64; omega)
  have i1 := c_Int_no 9223372036854775808 (by unfold I128; omega) (by unfold I64; omega)
  have i2 := c_Int_yes (-5) (by unfold I64; omega)
  have p1 := c_Compare (-1) 1 (by unfold I128; omega) (by unfold I128; omega)
  have a1 : ∀ w, Calls Try.prog 14 #[Wv 9223372036854775807, Wv 1] w fun e w' => e = .returned (Wv 9223372036854775808) ∧ Below w.heap.size w w' := fun w => c_Add 9223372036854775807 1 w
  have d1 := c_Code 9223372036854775808
  have A1 := Lib.hid a1
  have C1 := Lib.hid d1
  have z1 : (hiOf 9223372036854775808 == 0) = true := by unfold hiOf wrap64; rw [beq_iff_eq]; omega
  have z2 : (loOf 9223372036854775808 == 9223372036854775808) = true := by unfold loOf; rw [beq_iff_eq]; omega
  have z3 : (code16 9223372036854775808).size = 16 := code16_size _
  have z4 : (cmpI (-1) 1 == -1) = true := by decide
  have O1 := Lib.hid o1
  have O2 := Lib.hid o2
  have O3 := Lib.hid o3
  have O4 := Lib.hid o4
  have I1 := Lib.hid i1
  have I2 := Lib.hid i2
  have P1 := Lib.hid p1
  clear o1 o2 o3 o4 i1 i2 p1 a1 d1
  go_enter Try.func12, Try.ntmps12
  have hB : Hid (Below w.heap.size w w) := Below.refl _ _
  go_wp2_with (first
    | (go_at_call 26; with_reducible refine (O1.out _).mono ?_; rintro e w1 ⟨rfl, hb⟩; have hB := Lib.hid (below_step hB.out hb); clear hb)
    | (go_at_call 26; with_reducible refine (O2.out _).mono ?_; rintro e w1 ⟨rfl, hb⟩; have hB := Lib.hid (below_step hB.out hb); clear hb)
    | (go_at_call 14; with_reducible refine (A1.out _).mono ?_; rintro e w1 ⟨rfl, hb⟩; have hB := Lib.hid (below_step hB.out hb); clear hb))
  have k0 : (w1.alloc (.cells #[.int .i64 (hiOf 9223372036854775808), .int .u64 (loOf 9223372036854775808)] 24)).cell? ⟨w1.heap.size, 0, none⟩ = some (.int .i64 (hiOf 9223372036854775808)) := by simp [go_sem]
  have k1 : (w1.alloc (.cells #[.int .i64 (hiOf 9223372036854775808), .int .u64 (loOf 9223372036854775808)] 24)).cell? ⟨w1.heap.size, 1, none⟩ = some (.int .u64 (loOf 9223372036854775808)) := by simp [go_sem]
  have hB : Hid (Below w.heap.size w (w1.alloc (.cells #[.int .i64 (hiOf 9223372036854775808), .int .u64 (loOf 9223372036854775808)] 24))) := below_alloc hB.out _
  generalize w1.alloc (.cells #[.int .i64 (hiOf 9223372036854775808), .int .u64 (loOf 9223372036854775808)] 24) = W1 at *
  generalize w1.heap.size = g at *
  go_wp2_with (first
    | (go_at_call 26; with_reducible refine (O2.out _).mono ?_; rintro e w1 ⟨rfl, hb⟩; have hB := Lib.hid (below_step hB.out hb); have k0 := pw_cell_below hb k0; have k1 := pw_cell_below hb k1; clear hb)
    | (go_at_call 26; with_reducible refine (O3.out _).mono ?_; rintro e w1 ⟨rfl, hb⟩; have hB := Lib.hid (below_step hB.out hb); have k0 := pw_cell_below hb k0; have k1 := pw_cell_below hb k1; clear hb)
    | (go_at_call 26; with_reducible refine (O4.out _).mono ?_; rintro e w1 ⟨rfl, hb⟩; have hB := Lib.hid (below_step hB.out hb); have k0 := pw_cell_below hb k0; have k1 := pw_cell_below hb k1; clear hb)
    | (go_at_call 25; with_reducible refine (I1.out _).mono ?_; rintro e w1 ⟨rfl, hb⟩; have hB := Lib.hid (below_step hB.out hb); have k0 := pw_cell_below hb k0; have k1 := pw_cell_below hb k1; clear hb)
    | (go_at_call 25; with_reducible refine (I2.out _).mono ?_; rintro e w1 ⟨rfl, hb⟩; have hB := Lib.hid (below_step hB.out hb); have k0 := pw_cell_below hb k0; have k1 := pw_cell_below hb k1; clear hb)
    | (go_at_call 19; with_reducible refine (P1.out _).mono ?_; rintro e w1 ⟨rfl, hb⟩; have hB := Lib.hid (below_step hB.out hb); have k0 := pw_cell_below hb k0; have k1 := pw_cell_below hb k1; clear hb)
    | (go_at_call 23; with_reducible refine (C1.out _).mono ?_; rintro e w1 ⟨rfl, hb⟩; have hB := Lib.hid (below_step hB.out hb); have k0 := pw_cell_below hb k0; have k1 := pw_cell_below hb k1; clear hb))
  go_ret
  exact ⟨rfl, hB.out⟩
end Go.Proofs.Ytkcckhlchjmkkaa
