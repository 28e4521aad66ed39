/-
  THE WALKS OF package wide: Of, Add, Sub, Compare, Int, Times, put, get, Code, Read.
-/
import Derived.Shelf.Bits.Mul64
import Derived.Shelf.Spec.BitsCarry
import Derived.Test.YtkcckhlchjmkkaaProg
import Derived.WalkKit
import Derived.Below
import Derived.WalkSpells
import Derived.RowKit3
import Derived.Lib.Hide
import Derived.Outline
import Derived.Laws.Pointers
import Derived.Deep.RegionHeld3
import Derived.Deep.QuietTactic
import Derived.BigQuiet
import Derived.Test.YtkcckhlchjmkkaaWWords
set_option linter.unusedVariables false
set_option linter.unusedSimpArgs false
namespace Go.Proofs.Ytkcckhlchjmkkaa
open Go.RowKit Go.Shelf Go.Proofs.YtkcckhlchjmkkaaW.PrintWords

theorem wrap_u64 (n : Int) : IntKind.u64.wrap n = n % 18446744073709551616 := by
  simp [IntKind.wrap, IntKind.signed, IntKind.bits]
end Go.Proofs.Ytkcckhlchjmkkaa
