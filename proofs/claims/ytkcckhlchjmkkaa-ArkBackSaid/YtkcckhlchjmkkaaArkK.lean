/-
  cmp.Compare at strings, sign.number: contracts that the print takes as given.
-/
import Derived.Test.YtkcckhlchjmkkaaPArkx0
import Derived.Test.YtkcckhlchjmkkaaProg
import Derived.Test.YtkcckhlchjmkkaaWWords
import Derived.Test.YtkcckhlchjmkkaaWEqStruct
import Derived.WalkKit
import Derived.WalkSpells
import Derived.KernelRfl
import Derived.Below
import Derived.RowKit3
import Derived.Lib.Hide
import Derived.Outline
import Derived.Laws.Cover1
set_option linter.unusedVariables false
set_option linter.unusedSimpArgs false
namespace Go.Proofs.Ytkcckhlchjmkkaa
open Go.RowKit Go.Proofs.YtkcckhlchjmkkaaW.PrintWords Go.Proofs.YtkcckhlchjmkkaaW.PrintMore Go.Proofs.Ytkcckhlchjmkkaa.PArk

theorem c_CmpStr (a b : ByteArray) (w : World) : Calls Try.prog 151 #[.string a, .string b] w fun e w' => e = .returned (.int .i64 (if Op.bytesLess a.toList b.toList = true then -1 else if (a.toList == b.toList) = true then 0 else 1)) ∧ Drawn0 w w' := by
  cases h1 : Op.bytesLess a.toList b.toList with
  | true =>
    have H1 := Lib.hid h1
    go_enter Try.func151, Try.ntmps151
    go_wp2_with go_in
    go_ret
    exact ⟨by simp, Drawn0.refl _⟩
  | false =>
    cases h2 : (a.toList == b.toList) with
    | true =>
      go_enter Try.func151, Try.ntmps151
      go_wp2_with go_in
      go_ret
      exact ⟨by simp, Drawn0.refl _⟩
    | false =>
      go_enter Try.func151, Try.ntmps151
      go_wp2_with go_in
      go_ret
      exact ⟨by simp, Drawn0.refl _⟩
namespace PArk
def cmp_Compare_string.f (a0 : ByteArray) (a1 : ByteArray) : Option Int := some (if Op.bytesLess a0.toList a1.toList = true then -1 else if (a0.toList == a1.toList) = true then 0 else 1)
theorem cmp_Compare_string.calls (a0 a1 : ByteArray) (r : Int) (w : World) (h : cmp_Compare_string.f a0 a1 = some r) :
    Calls Try.prog 151 #[.string a0, .string a1] w fun e w' => e = .returned (.int .i64 r) ∧ Drawn0 w w' := by
  injection h with h
  subst h
  exact c_CmpStr a0 a1 w
end PArk
end Go.Proofs.Ytkcckhlchjmkkaa
