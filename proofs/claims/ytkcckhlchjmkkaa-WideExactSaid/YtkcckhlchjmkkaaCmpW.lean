/-
  THE WALKS OF cmp.Compare[int], cmp.Compare[uint64], cmp.Or[int].
-/
import Derived.Test.YtkcckhlchjmkkaaProg
import Derived.Below
import Derived.WalkKit
import Derived.WalkSpells
import Derived.RowKit3
import Derived.Lib.Hide
import Derived.Outline
set_option linter.unusedVariables false
set_option linter.unusedSimpArgs false
namespace Go.Proofs.Ytkcckhlchjmkkaa
open Go.RowKit

/-- cmp.Compare of two numbers. -/
def cmpI (a b : Int) : Int := if a < b then -1 else if b < a then 1 else 0

theorem isNaN_int (a : Int) (w : World) : Calls Try.prog 106 #[.int .i64 a] w fun e w' => e = .returned (.bool false) ∧ w = w' := by
  go_enter Try.func106, Try.ntmps106
  go_wp2
  go_ret
  exact ⟨rfl, rfl⟩
theorem isNaN_u64 (a : Int) (w : World) : Calls Try.prog 107 #[.int .u64 a] w fun e w' => e = .returned (.bool false) ∧ w = w' := by
  go_enter Try.func107, Try.ntmps107
  go_wp2
  go_ret
  exact ⟨rfl, rfl⟩

theorem cmp_int (a b : Int) (w : World) : Calls Try.prog 58 #[.int .i64 a, .int .i64 b] w fun e w' => e = .returned (.int .i64 (cmpI a b)) ∧ w = w' := by
  by_cases h : a < b
  · have e : cmpI a b = -1 := by simp [cmpI, h]
    rw [e]; clear e
    go_enter Try.func58, Try.ntmps58
    go_wp2
    go_ret
    exact ⟨rfl, rfl⟩
  · by_cases h' : b < a
    · have e : cmpI a b = 1 := by simp [cmpI, h, h']
      rw [e]; clear e
      go_enter Try.func58, Try.ntmps58
      go_wp2
      go_ret
      exact ⟨rfl, rfl⟩
    · have e : cmpI a b = 0 := by simp [cmpI, h, h']
      rw [e]; clear e
      go_enter Try.func58, Try.ntmps58
      go_wp2
      go_ret
      exact ⟨rfl, rfl⟩
theorem cmp_u64 (a b : Int) (w : World) : Calls Try.prog 59 #[.int .u64 a, .int .u64 b] w fun e w' => e = .returned (.int .i64 (cmpI a b)) ∧ w = w' := by
  by_cases h : a < b
  · have e : cmpI a b = -1 := by simp [cmpI, h]
    rw [e]; clear e
    go_enter Try.func59, Try.ntmps59
    go_wp2
    go_ret
    exact ⟨rfl, rfl⟩
  · by_cases h' : b < a
    · have e : cmpI a b = 1 := by simp [cmpI, h, h']
      rw [e]; clear e
      go_enter Try.func59, Try.ntmps59
      go_wp2
      go_ret
      exact ⟨rfl, rfl⟩
    · have e : cmpI a b = 0 := by simp [cmpI, h, h']
      rw [e]; clear e
      go_enter Try.func59, Try.ntmps59
      go_wp2
      go_ret
      exact ⟨rfl, rfl⟩

/-- The first that isn't zero. -/
def firstNZ : List Int → Int
  | [] => 0
  | x :: l => if x = 0 then firstNZ l else x

set_option maxHeartbeats 400000 in
theorem cmp_Or (xs : List Int) (b cap : Nat) (w : World) (hl : xs.length ≤ 1000) (hc : ∀ k, k < xs.length → w.cell? ⟨b, k, none⟩ = some (.int .i64 (xs.getD k 0))) :
    Calls Try.prog 57 #[.slice (some ⟨b, 0, none⟩) xs.length cap] w fun e w' => e = .returned (.int .i64 (firstNZ xs)) ∧ w = w' := by
  have HC := Lib.hid hc
  clear hc
  go_enter Try.func57, Try.ntmps57
  go_wp2
  go_loop [8] (fun v => ∃ k : Nat, k ≤ xs.length ∧ v = .int .i64 k ∧ Hid (firstNZ xs = firstNZ (xs.drop k))) (fun v => xs.length - (intOf v).toNat)
  case atStart => exact ⟨0, Nat.zero_le _, rfl, Lib.hid (by simp)⟩
  case round =>
    obtain ⟨k, hk, rfl, HF⟩ := hrel
    by_cases hlt : k < xs.length
    · have hd : xs.drop k = xs[k] :: xs.drop (k + 1) := List.drop_eq_getElem_cons hlt
      have hcell := HC.out k hlt
      rw [List.getD_eq_getElem?_getD, List.getElem?_eq_getElem hlt, Option.getD_some] at hcell
      obtain ⟨x, hx⟩ : ∃ x, x = xs[k] := ⟨_, rfl⟩
      rw [← hx] at hd hcell
      have HD := Lib.hid hd
      clear hd hx
      by_cases h0 : x = 0
      · subst h0
        go_wp2
        go_round
        case rel => exact ⟨k + 1, by omega, by go_num, Lib.hid (by rw [HF.out, HD.out]; simp [firstNZ])⟩
        case measure => simp [intOf]; omega
      · have h0b : (x != 0) = true := by simpa using h0
        go_wp2
        go_ret
        exact ⟨by rw [HF.out, HD.out]; simp [firstNZ, h0], rfl⟩
    · have : k = xs.length := by omega
      go_wp2
      go_ret
      exact ⟨by rw [HF.out]; simp [this, firstNZ], rfl⟩
def or2 (x y : Int) : Int := if x = 0 then y else x
def or3 (x y z : Int) : Int := if x = 0 then (if y = 0 then z else y) else x
theorem cmp_Or2 (x y : Int) (b cap : Nat) (w : World) (h0 : w.cell? ⟨b, 0, none⟩ = some (.int .i64 x)) (h1 : w.cell? ⟨b, 1, none⟩ = some (.int .i64 y)) :
    Calls Try.prog 57 #[.slice (some ⟨b, 0, none⟩) 2 cap] w fun e w' => e = .returned (.int .i64 (or2 x y)) ∧ w = w' := by
  have := cmp_Or [x, y] b cap w (by simp) (by
    intro k hk
    match k, hk with
    | 0, _ => simpa using h0
    | 1, _ => simpa using h1)
  refine this.mono ?_
  rintro e w' ⟨rfl, rfl⟩
  refine ⟨?_, rfl⟩
  simp only [firstNZ, or2]
  by_cases hx : x = 0 <;> by_cases hy : y = 0 <;> simp [hx, hy]
theorem cmp_Or3 (x y z : Int) (b cap : Nat) (w : World) (h0 : w.cell? ⟨b, 0, none⟩ = some (.int .i64 x)) (h1 : w.cell? ⟨b, 1, none⟩ = some (.int .i64 y)) (h2 : w.cell? ⟨b, 2, none⟩ = some (.int .i64 z)) :
    Calls Try.prog 57 #[.slice (some ⟨b, 0, none⟩) 3 cap] w fun e w' => e = .returned (.int .i64 (or3 x y z)) ∧ w = w' := by
  have := cmp_Or [x, y, z] b cap w (by simp) (by
    intro k hk
    match k, hk with
    | 0, _ => simpa using h0
    | 1, _ => simpa using h1
    | 2, _ => simpa using h2)
  refine this.mono ?_
  rintro e w' ⟨rfl, rfl⟩
  refine ⟨?_, rfl⟩
  simp only [firstNZ, or3]
  by_cases hx : x = 0 <;> by_cases hy : y = 0 <;> by_cases hz : z = 0 <;> simp [hx, hy, hz]
end Go.Proofs.Ytkcckhlchjmkkaa
