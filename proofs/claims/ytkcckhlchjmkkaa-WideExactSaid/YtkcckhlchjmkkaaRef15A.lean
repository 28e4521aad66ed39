/-
  THE WALKS OF package gaugerref15.
-/
import Derived.Test.YtkcckhlchjmkkaaUtil
import Derived.Test.YtkcckhlchjmkkaaArrW
import Derived.Below
import Derived.WalkKit
import Derived.WalkSpells
import Derived.Laws.Pointers
import Derived.Deep.QuietTactic
import Derived.BigQuiet
import Derived.RowKit3
import Derived.Lib.Hide
import Derived.Outline
set_option linter.unusedVariables false
set_option linter.unusedSimpArgs false
namespace Go.Proofs.Ytkcckhlchjmkkaa
open Go.RowKit Go.Proofs.YtkcckhlchjmkkaaW.PrintWords

/-- The bits of a number of 128 bits, the lowest first; the first k of either half are there. -/
def bit64 (x : Int) (j : Nat) : Bool := bits .and .u64 (x / 2 ^ j) 1 == 1
def bitsTo (h l : Int) (k : Nat) (j : Nat) : Bool := if j < 64 then decide (j < k) && bit64 l j else decide (j < 64 + k) && bit64 (IntKind.u64.wrap h) (j - 64)
theorem bitsTo_zero (h l : Int) (j : Nat) : bitsTo h l 0 j = false := by
  unfold bitsTo
  split
  · simp
  · rename_i hh
    rw [decide_eq_false (by omega)]
    rfl
theorem bitsTo_step (h l : Int) (k : Nat) (hk : k < 64) (j : Nat) (hj : j < 128) : (if j = 64 + k then bit64 (IntKind.u64.wrap h) k else if j = k then bit64 l k else bitsTo h l k j) = bitsTo h l (k + 1) j := by
  unfold bitsTo
  by_cases h1 : j = 64 + k
  · subst h1
    rw [if_pos rfl, if_neg (by omega), decide_eq_true (by omega), show 64 + k - 64 = k from by omega]
    rfl
  · rw [if_neg h1]
    by_cases h2 : j = k
    · subst h2
      rw [if_pos rfl, if_pos hk, decide_eq_true (by omega)]
      rfl
    · rw [if_neg h2]
      by_cases h3 : j < 64
      · rw [if_pos h3, if_pos h3, decide_eq_decide.2 (show j < k ↔ j < k + 1 by omega)]
      · rw [if_neg h3, if_neg h3, decide_eq_decide.2 (show j < 64 + k ↔ j < 64 + (k + 1) by omega)]

set_option maxRecDepth 100000 in
theorem ref_Bits (h l : Int) (w : World) :
    Calls Try.prog 13 #[.agg #[.int .i64 h, .int .u64 l]] w fun e w' => e = .returned (.agg (bA (tab (bitsTo h l 64)))) ∧ Below w.heap.size w w' := by
  have hz := zero128'
  have hzn := bA_ne (tab_len nof)
  have hb0 := Blk.new_at ((w.alloc (Obj.cells #[Value.int IntKind.i64 h, Value.int IntKind.u64 l] 24)).alloc (Obj.cells (bA (tab nof)) 26)) nof (n := w.heap.size + 1 + 1) (by simp)
  have hst := hb0.store nof
  go_enter Try.func13, Try.ntmps13
  go_wp2
  go_loopw [4] (fun v wr => ∃ k : Nat, k ≤ 64 ∧ v = .int .i64 k ∧ Hid (Blk wr (w.heap.size + 1 + 1) (bitsTo h l k) ∧ Blk wr (w.heap.size + 1) nof ∧ Below w.heap.size w wr) ∧ wr.cell? ⟨w.heap.size, 0, none⟩ = some (.int .i64 h) ∧ wr.cell? ⟨w.heap.size, 1, none⟩ = some (.int .u64 l)) (fun v _ => 64 - (intOf v).toNat)
  case atStart => 
    refine ⟨0, by omega, rfl, ⟨?_, ?_, ?_⟩, ?_, ?_⟩
    · exact (Blk.setRow hb0 nof).congr (fun j _ => (bitsTo_zero h l j).symm)
    · refine Blk.setRow_far (Blk.alloc ?_ _) (by omega) _
      exact Blk.new_at (w.alloc (Obj.cells #[Value.int IntKind.i64 h, Value.int IntKind.u64 l] 24)) nof (by simp)
    · exact below_setRow (below_alloc (below_alloc (below_alloc (Below.refl _ _) _) _) _) (by omega) _
    · exact cell_setRow_far (by simp [go_sem]) (by simp; omega) _
    · exact cell_setRow_far (by simp [go_sem]) (by simp; omega) _
  case round =>
    obtain ⟨k, hk, rfl, HB, hc0, hc1⟩ := hrel
    clear hst
    by_cases hlt : k < 64
    · obtain ⟨hb1, hb2, hb3⟩ := HB
      have c1 := hb1.cell k (by omega)
      have c2 := hb1.cell (64 + k) (by omega)
      have f1 := hb1.frozen k
      have f2 := hb1.frozen (64 + k)
      have H1 := Lib.hid hb1
      have H2 := Lib.hid hb2
      have H3 := Lib.hid hb3
      clear hb1 hb2 hb3
      go_wp2
      go_roundw
      case rel =>
        refine ⟨k + 1, by omega, by go_num, ⟨?_, ?_, ?_⟩, ?_, ?_⟩
        · exact ((H1.out.set k _).set (64 + k) _).congr (bitsTo_step h l k hlt)
        · exact (H2.out.far _ _ (by simp)).far _ _ (by simp)
        · exact below_set (below_set H3.out (by omega)) (by omega)
        · simpa [go_sem] using hc0
        · simpa [go_sem] using hc1
      case measure => simp [intOf]; omega
    · obtain ⟨hb1, hb2, hb3⟩ := HB
      obtain rfl : k = 64 := by omega
      have hst := hb2.store (bitsTo h l 64)
      have H1 := Lib.hid hb1
      have H2 := Lib.hid hb2
      have H3 := Lib.hid hb3
      clear hb1 hb2 hb3
      go_wp2_with (refine wpList_load_row rfl 26 _ rfl (w.heap.size + 1 + 1) rfl 26 _ (0, 0) _ H1.out Try.underlying26 rfl (by rw [bA_size, tab_len]; exact info128) ?_)
      exact res128 Try.results13 rfl (H2.out.setRow _) rfl ⟨rfl, below_setRow H3.out (by omega) _⟩
end Go.Proofs.Ytkcckhlchjmkkaa
