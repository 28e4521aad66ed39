/-
  THE BUILTIN WORD FUNCTIONS math/bits.Add64, Sub64, Mul64 of this seat, as laws of the call, over Int.
-/
import Derived.Shelf.Bits.Mul64
import Derived.Shelf.Spec.BitsCarry
import Derived.Test.YtkcckhlchjmkkaaProg
import Derived.WalkKit
set_option linter.unusedVariables false
set_option linter.unusedSimpArgs false
namespace Go.Proofs.Ytkcckhlchjmkkaa
open Go.RowKit Go.Shelf
def bLays264_ren : Go.Shelf.Ren := ⟨fun | 264 => 60 | n => n, fun | 53 => 22 | 46 => 68 | n => n, fun | n => n⟩
theorem bLays264 : Go.Proofs.Lays.n264 Try.prog bLays264_ren := {
  mixed := by kernel_rfl
  f264 := Try.func60.trans (congrArg some (by kernel_rfl))
  t46 := Try.underlying68
  a46 := Try.isAgg68
  z46 := Try.sizeOf68
  v46 := Try.zeroValue68
  t53 := Try.underlying22
  a53 := Try.isAgg22
  z53 := Try.sizeOf22
  v53 := Try.zeroValue22 }
def bLays25_ren : Go.Shelf.Ren := ⟨fun | 25 => 55 | n => n, fun | 22 => 22 | n => n, fun | n => n⟩
theorem bLays25 : Go.Proofs.Lays7.n25 Try.prog bLays25_ren := {
  mixed := by kernel_rfl
  f25 := Try.func55.trans (congrArg some (by kernel_rfl))
  t22 := Try.underlying22
  a22 := Try.isAgg22
  z22 := Try.sizeOf22
  v22 := Try.zeroValue22
  i22 := by kernel_rfl }
def bLays26_ren : Go.Shelf.Ren := ⟨fun | 26 => 56 | n => n, fun | 22 => 22 | n => n, fun | n => n⟩
theorem bLays26 : Go.Proofs.Lays7.n26 Try.prog bLays26_ren := {
  mixed := by kernel_rfl
  f26 := Try.func56.trans (congrArg some (by kernel_rfl))
  t22 := Try.underlying22
  a22 := Try.isAgg22
  z22 := Try.sizeOf22
  v22 := Try.zeroValue22
  i22 := by kernel_rfl }

theorem add64 (x y c : Int) (hx : 0 ≤ x) (hy : 0 ≤ y) (hc0 : 0 ≤ c) (hc : c ≤ 1) (w : World) : (callFunc 55 #[.int .u64 x, .int .u64 y, .int .u64 c]).run Try.prog w =
    .ok (.value (.tuple #[.int .u64 ((x + y + c) % 18446744073709551616), .int .u64 ((x + y + c) / 18446744073709551616)])) w := by
  obtain ⟨x, rfl⟩ := Int.eq_ofNat_of_zero_le hx
  obtain ⟨y, rfl⟩ := Int.eq_ofNat_of_zero_le hy
  obtain ⟨c, rfl⟩ := Int.eq_ofNat_of_zero_le hc0
  refine (Any7.bits_Add64 bLays25 x y c (by omega) w).trans ?_
  congr 5 <;> omega
theorem sub64 (x y b : Int) (hx : 0 ≤ x) (hy : 0 ≤ y) (hy' : y < 18446744073709551616) (hb0 : 0 ≤ b) (hb : b ≤ 1) (w : World) : (callFunc 56 #[.int .u64 x, .int .u64 y, .int .u64 b]).run Try.prog w =
    .ok (.value (.tuple #[.int .u64 ((x - y - b) % 18446744073709551616), .int .u64 (if x < y + b then 1 else 0)])) w := by
  obtain ⟨x, rfl⟩ := Int.eq_ofNat_of_zero_le hx
  obtain ⟨y, rfl⟩ := Int.eq_ofNat_of_zero_le hy
  obtain ⟨b, rfl⟩ := Int.eq_ofNat_of_zero_le hb0
  have e1 : (((x + 18446744073709551616 - y - b) % 18446744073709551616 : Nat) : Int) = ((x : Int) - y - b) % 18446744073709551616 := by omega
  have e2 : ((if x < y + b then 1 else 0 : Nat) : Int) = if (x : Int) < y + b then 1 else 0 := by split <;> split <;> omega
  rw [← e1, ← e2]
  exact Any7.bits_Sub64 bLays26 x y b (by omega) w
theorem mul64 (x y : Int) (hx0 : 0 ≤ x) (hx : x < 18446744073709551616) (hy0 : 0 ≤ y) (hy : y < 18446744073709551616) (w : World) :
    Calls Try.prog 60 #[.int .u64 x, .int .u64 y] w fun e w' => e = .returned (.tuple #[.int .u64 (x * y / 18446744073709551616), .int .u64 (x * y % 18446744073709551616)]) ∧ w' = w := by
  obtain ⟨x, rfl⟩ := Int.eq_ofNat_of_zero_le hx0
  obtain ⟨y, rfl⟩ := Int.eq_ofNat_of_zero_le hy0
  refine (Any.bits_Mul64 bLays264 x y (by omega) (by omega) w).mono ?_
  rintro e w' ⟨rfl, rfl⟩
  refine ⟨?_, rfl⟩
  rw [Int.natCast_ediv, Int.natCast_emod, Int.natCast_mul]
  rfl
end Go.Proofs.Ytkcckhlchjmkkaa
