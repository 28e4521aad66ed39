/-
  SMALL LEMMAS ON WORLDS, used by the walks of this seat.
-/
import Derived.Test.YtkcckhlchjmkkaaProg
import Derived.Test.YtkcckhlchjmkkaaWWords
import Derived.Test.YtkcckhlchjmkkaaWEqStruct
import Derived.WalkKit
import Derived.WalkSpells
import Derived.KernelRfl
import Derived.Below
import Derived.RowKit3
set_option linter.unusedVariables false
set_option linter.unusedSimpArgs false
namespace Go.Proofs.Ytkcckhlchjmkkaa
open Go.RowKit Go.Proofs.YtkcckhlchjmkkaaW.PrintWords

/-- A cell that may be written. -/
def Cf (w : World) (a : Addr) (v : Value) : Prop := w.cell? a = some v ∧ w.frozen? a = false
theorem fz_below {w w1 : World} (hb : Below w.heap.size w w1) {a : Addr} {v : Value} (hc : w.cell? a = some v) (hf : w.frozen? a = false) : w1.frozen? a = false :=
  (hb.frozen (World.block_lt_of_cell? w a hc)).trans hf
theorem cf_below {w w1 : World} (hb : Below w.heap.size w w1) {a : Addr} {v : Value} (hc : w.cell? a = some v ∧ w.frozen? a = false) : w1.cell? a = some v ∧ w1.frozen? a = false :=
  ⟨pw_cell_below hb hc.1, fz_below hb hc.1 hc.2⟩
/-- '==' of two api.Wide as one Bool. -/
theorem eqWide (d : Nat) (w : World) (x0 y0 : Int) (x1 y1 : Int) :
    (Op.equalIn (d + 2) 24 (.agg #[.int .i64 x0, .int .u64 x1]) (.agg #[.int .i64 y0, .int .u64 y1])).run Try.prog w = .ok (x0 == y0 && (x1 == y1)) w := by
  refine eqA_of Try.underlying24 (by kernel_rfl) ?_
  refine eqf_cons (by rfl) (by go_simp; rfl) (by go_simp; rfl) (by go_simp) ?_
  exact eqf_last (by rfl) (by go_simp; rfl) (by go_simp; rfl) (by go_simp)
end Go.Proofs.Ytkcckhlchjmkkaa
