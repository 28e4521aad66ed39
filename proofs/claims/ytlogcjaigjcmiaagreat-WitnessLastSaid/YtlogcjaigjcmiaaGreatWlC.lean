/-
  'gauger's law WitnessLast comes to true, whatever the input.
-/
import Derived.Test.YtlogcjaigjcmiaaGreatWlB0
import Derived.Test.YtlogcjaigjcmiaaGreatWlB1
import Derived.Test.YtlogcjaigjcmiaaGreatWlB2
import Derived.Test.YtlogcjaigjcmiaaGreatWlB3
import Derived.Test.YtlogcjaigjcmiaaGreatWlB4
import Derived.Test.YtlogcjaigjcmiaaGreatWlB5
import Derived.Test.YtlogcjaigjcmiaaGreatWlB6
import Derived.Test.YtlogcjaigjcmiaaGreatWlB7
import Derived.Test.YtlogcjaigjcmiaaGreatWlB8
import Derived.Test.YtlogcjaigjcmiaaGreatWlB9
set_option linter.unusedVariables false
namespace Go.Proofs.YtlogcjaigjcmiaaGreat.AM.Wl
open Go
theorem rests (n k : Int) (h1 : 1 ≤ n) (h2 : n ≤ 9) (h3 : 0 ≤ k) (h4 : k < n) : Rest n k := by
  have hn : n = 1 ∨ n = 2 ∨ n = 3 ∨ n = 4 ∨ n = 5 ∨ n = 6 ∨ n = 7 ∨ n = 8 ∨ n = 9 := by omega
  rcases hn with rfl | rfl | rfl | rfl | rfl | rfl | rfl | rfl | rfl
  · obtain rfl : k = 0 := by omega
    exact case_1_0
  · have hk : k = 0 ∨ k = 1 := by omega
    rcases hk with rfl | rfl
    · exact case_2_0
    · exact case_2_1
  · have hk : k = 0 ∨ k = 1 ∨ k = 2 := by omega
    rcases hk with rfl | rfl | rfl
    · exact case_3_0
    · exact case_3_1
    · exact case_3_2
  · have hk : k = 0 ∨ k = 1 ∨ k = 2 ∨ k = 3 := by omega
    rcases hk with rfl | rfl | rfl | rfl
    · exact case_4_0
    · exact case_4_1
    · exact case_4_2
    · exact case_4_3
  · have hk : k = 0 ∨ k = 1 ∨ k = 2 ∨ k = 3 ∨ k = 4 := by omega
    rcases hk with rfl | rfl | rfl | rfl | rfl
    · exact case_5_0
    · exact case_5_1
    · exact case_5_2
    · exact case_5_3
    · exact case_5_4
  · have hk : k = 0 ∨ k = 1 ∨ k = 2 ∨ k = 3 ∨ k = 4 ∨ k = 5 := by omega
    rcases hk with rfl | rfl | rfl | rfl | rfl | rfl
    · exact case_6_0
    · exact case_6_1
    · exact case_6_2
    · exact case_6_3
    · exact case_6_4
    · exact case_6_5
  · have hk : k = 0 ∨ k = 1 ∨ k = 2 ∨ k = 3 ∨ k = 4 ∨ k = 5 ∨ k = 6 := by omega
    rcases hk with rfl | rfl | rfl | rfl | rfl | rfl | rfl
    · exact case_7_0
    · exact case_7_1
    · exact case_7_2
    · exact case_7_3
    · exact case_7_4
    · exact case_7_5
    · exact case_7_6
  · have hk : k = 0 ∨ k = 1 ∨ k = 2 ∨ k = 3 ∨ k = 4 ∨ k = 5 ∨ k = 6 ∨ k = 7 := by omega
    rcases hk with rfl | rfl | rfl | rfl | rfl | rfl | rfl | rfl
    · exact case_8_0
    · exact case_8_1
    · exact case_8_2
    · exact case_8_3
    · exact case_8_4
    · exact case_8_5
    · exact case_8_6
    · exact case_8_7
  · have hk : k = 0 ∨ k = 1 ∨ k = 2 ∨ k = 3 ∨ k = 4 ∨ k = 5 ∨ k = 6 ∨ k = 7 ∨ k = 8 := by omega
    rcases hk with rfl | rfl | rfl | rfl | rfl | rfl | rfl | rfl | rfl
    · exact case_9_0
    · exact case_9_1
    · exact case_9_2
    · exact case_9_3
    · exact case_9_4
    · exact case_9_5
    · exact case_9_6
    · exact case_9_7
    · exact case_9_8
theorem law (lives sure : Int) (w : World) : Calls Tryz.prog 10 #[.int .i64 lives, .int .i64 sure] w fun e w' => e = .returned (.bool true) ∧ RowKit.Below w.heap.size w w' := by
  have h := law_of rests lives sure
  rw [callX_eq] at h
  exact law_true K h (by kernel_rfl) (S := fun _ => False) (fun b hb => hb.elim) (LRel.cons .int (LRel.cons .int LRel.nil))
end Go.Proofs.YtlogcjaigjcmiaaGreat.AM.Wl
