/-
  THE ABSTRACT MACHINE: math/bits.Add64 and Sub64.
-/
import Derived.Test.YtlogcjaigjcmiaaGreatAmY
import Derived.Test.YtlogcjaigjcmiaaGreatBitsAS
set_option linter.unusedVariables false
set_option linter.unusedSimpArgs false
namespace Go.Proofs.YtlogcjaigjcmiaaGreat.AM
open Go

theorem ints3 {S m w k1 k2 k3 a b c} {vals : Array Value} (hL : LRel S m w [.int k1 a, .int k2 b, .int k3 c] vals.toList) : vals = #[.int k1 a, .int k2 b, .int k3 c] := by
  obtain ⟨x, r, h0, h1, h2⟩ := hL.head
  obtain ⟨y, r', rfl, h3, h4⟩ := h2.head
  obtain ⟨z, r'', rfl, h5, h6⟩ := h4.head
  cases h1; cases h3; cases h5
  have := h6.nil_r
  subst this
  apply Array.toList_inj.1
  exact h0
def xAdd : List AV → Option AV
  | [.int .u64 x, .int .u64 y, .int .u64 c] => if decide (0 ≤ x) && decide (0 ≤ y) && decide (0 ≤ c) && decide (c ≤ 1) then some (.tup [.int .u64 ((x + y + c) % 18446744073709551616), .int .u64 ((x + y + c) / 18446744073709551616)]) else none
  | _ => none
def xSub : List AV → Option AV
  | [.int .u64 x, .int .u64 y, .int .u64 c] => if decide (0 ≤ x) && decide (0 ≤ y) && decide (y < 18446744073709551616) && decide (0 ≤ c) && decide (c ≤ 1) then some (.tup [.int .u64 ((x - y - c) % 18446744073709551616), .int .u64 (if x < y + c then 1 else 0)]) else none
  | _ => none
theorem xAdd_ok : GOk Tryz.prog 302 (extG xAdd) := by
  refine extG_ok fun args r hr S m w vals hL => ?_
  unfold xAdd at hr
  split at hr
  · split at hr <;> cases hr
    rename_i x y c hc
    simp only [Bool.and_eq_true, decide_eq_true_eq] at hc
    obtain ⟨⟨⟨h1, h2⟩, h3⟩, h4⟩ := hc
    rw [ints3 hL]
    exact ⟨_, add64 x y c h1 h2 h3 h4 w, LRel.tup (LRel.cons .int (LRel.cons .int LRel.nil))⟩
  · cases hr
theorem xSub_ok : GOk Tryz.prog 301 (extG xSub) := by
  refine extG_ok fun args r hr S m w vals hL => ?_
  unfold xSub at hr
  split at hr
  · split at hr <;> cases hr
    rename_i x y c hc
    simp only [Bool.and_eq_true, decide_eq_true_eq] at hc
    obtain ⟨⟨⟨⟨h1, h2⟩, h3⟩, h4⟩, h5⟩ := hc
    rw [ints3 hL]
    exact ⟨_, sub64 x y c h1 h2 h3 h4 h5 w, LRel.tup (LRel.cons .int (LRel.cons .int LRel.nil))⟩
  · cases hr
end Go.Proofs.YtlogcjaigjcmiaaGreat.AM
