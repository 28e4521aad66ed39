/-
  'gauger's law ModelBack holds of every input: it returns true, and each argument reads behind the call as it read before.
  This text: part 7 of 22 of the proof (BitsAS).
-/
import Derived.Shelf.Spec.BitsCarry
import Derived.Test.YtenpjpldjmoefaaGreatProg
import Derived.WalkKit
set_option linter.unusedVariables false
set_option linter.unusedSimpArgs false
namespace Go.Proofs.YtenpjpldjmoefaaGreat
open Go.RowKit Go.Shelf
def bLays25_ren : Go.Shelf.Ren := ⟨fun | 25 => 173 | n => n, fun | 22 => 142 | n => n, fun | n => n⟩
theorem bLays25 : Go.Proofs.Lays7.n25 Tryz.prog bLays25_ren := {
 mixed := by kernel_rfl
 f25 := Tryz.func173.trans (congrArg some (by kernel_rfl))
 t22 := Tryz.underlying142
 a22 := Tryz.isAgg142
 z22 := Tryz.sizeOf142
 v22 := Tryz.zeroValue142
 i22 := by kernel_rfl }
def bLays26_ren : Go.Shelf.Ren := ⟨fun | 26 => 172 | n => n, fun | 22 => 142 | n => n, fun | n => n⟩
theorem bLays26 : Go.Proofs.Lays7.n26 Tryz.prog bLays26_ren := {
 mixed := by kernel_rfl
 f26 := Tryz.func172.trans (congrArg some (by kernel_rfl))
 t22 := Tryz.underlying142
 a22 := Tryz.isAgg142
 z22 := Tryz.sizeOf142
 v22 := Tryz.zeroValue142
 i22 := by kernel_rfl }
theorem add64 (x y c : Int) (hx : 0 ≤ x) (hy : 0 ≤ y) (hc0 : 0 ≤ c) (hc : c ≤ 1) (w : World) : (callFunc 173 #[.int .u64 x, .int .u64 y, .int .u64 c]).run Tryz.prog w =
  .ok (.value (.tuple #[.int .u64 ((x + y + c) % 18446744073709551616), .int .u64 ((x + y + c) / 18446744073709551616)])) w := by
 obtain ⟨x, rfl⟩ := Int.eq_ofNat_of_zero_le hx
 obtain ⟨y, rfl⟩ := Int.eq_ofNat_of_zero_le hy
 obtain ⟨c, rfl⟩ := Int.eq_ofNat_of_zero_le hc0
 refine (Any7.bits_Add64 bLays25 x y c (by omega) w).trans ?_
 congr 5 <;> omega
theorem sub64 (x y b : Int) (hx : 0 ≤ x) (hy : 0 ≤ y) (hy' : y < 18446744073709551616) (hb0 : 0 ≤ b) (hb : b ≤ 1) (w : World) : (callFunc 172 #[.int .u64 x, .int .u64 y, .int .u64 b]).run Tryz.prog w =
  .ok (.value (.tuple #[.int .u64 ((x - y - b) % 18446744073709551616), .int .u64 (if x < y + b then 1 else 0)])) w := by
 obtain ⟨x, rfl⟩ := Int.eq_ofNat_of_zero_le hx
 obtain ⟨y, rfl⟩ := Int.eq_ofNat_of_zero_le hy
 obtain ⟨b, rfl⟩ := Int.eq_ofNat_of_zero_le hb0
 have e1 : (((x + 18446744073709551616 - y - b) % 18446744073709551616 : Nat) : Int) = ((x : Int) - y - b) % 18446744073709551616 := by omega
 have e2 : ((if x < y + b then 1 else 0 : Nat) : Int) = if (x : Int) < y + b then 1 else 0 := by split <;> split <;> omega
 rw [← e1, ← e2]
 exact Any7.bits_Sub64 bLays26 x y b (by omega) w
end Go.Proofs.YtenpjpldjmoefaaGreat
