/-
  THE WALKS OF package wide: Code, Read, Int, Times.
-/
import Derived.Test.YtkcckhlchjmkkaaWideX
import Derived.Test.YtkcckhlchjmkkaaUtil
import Derived.Below
import Derived.WalkKit
import Derived.WalkSpells
import Derived.Laws.Pointers
import Derived.Deep.RegionHeld3
import Derived.Deep.QuietTactic
import Derived.BigQuiet
import Derived.RowKit3
import Derived.Outline
import Derived.Lib.Hide
import Derived.Test.YtkcckhlchjmkkaaWWords
set_option linter.unusedVariables false
set_option linter.unusedSimpArgs false
namespace Go.Proofs.Ytkcckhlchjmkkaa
open Go.RowKit Go.Shelf Go.Proofs.YtkcckhlchjmkkaaW.PrintWords
attribute [local go_sem high] eqWide

theorem be8_len (n : Int) : (strOfNums (be8 n)).size = 8 := by
  simp [strOfNums, be8, ByteArray.size]

set_option maxHeartbeats 400000 in
theorem wide_Code (h l : Int) (w : World) :
    Calls Try.prog 23 #[.agg #[.int .i64 h, .int .u64 l]] w fun e w' => e = .returned (.string (strOfNums (be8 (IntKind.u64.wrap h)) ++ strOfNums (be8 l))) ∧ Below w.heap.size w w' := by
  have z1 := be8_len (IntKind.u64.wrap h)
  have z2 := be8_len l
  go_enter Try.func23, Try.ntmps23
  go_wp2
  go_region_held3 (fun w' => w'.cell? ⟨w.heap.size, 0, none⟩ = some (.int .i64 h) ∧ w'.cell? ⟨w.heap.size, 1, none⟩ = some (.int .u64 l)) (first | (simp [go_sem, World.cell?_alloc_past]; done) | (refine ⟨pw_cell_below hb1 ?_, pw_cell_below hb1 ?_⟩ <;> simp [go_sem, *]))
    (first | (go_at_call 61; refine (wide_put _ _).mono ?_; rintro e w1 ⟨rfl, hb1⟩))
  all_goals go_wp2
  all_goals go_ret
  all_goals exact ⟨rfl, below_step (below_step (below_drew (below_alloc (Below.refl _ _) _)) ‹_›) ‹_›⟩

theorem wide_Read_no (s : ByteArray) (hs : ¬ s.size = 16) (w : World) :
    Calls Try.prog 27 #[.string s] w fun e w' => e = .returned (.tuple #[.agg #[.int .i64 0, .int .u64 0], .int .i64 3]) ∧ Below w.heap.size w w' := by
  go_enter Try.func27, Try.ntmps27
  go_wp2
  simp [bodyPost, results, Try.results27, go_sem]
  exact below_alloc (Below.refl _ _) _

theorem wide_Read (s : ByteArray) (hs : s.size = 16) (w : World) :
    Calls Try.prog 27 #[.string s] w fun e w' => e = .returned (.tuple #[.agg #[.int .i64 (IntKind.i64.wrap (beNum (bytesOf (s.extract 0 8)))), .int .u64 (beNum (bytesOf (s.extract 8 s.size)))], .int .i64 0]) ∧ Below w.heap.size w w' := by
  have h8 : 8 ≤ s.size := by omega
  have h8' : (8 : Int) ≤ s.size := by omega
  have b0 : ((s.size : Int) != 16) = false := by simp; omega
  have g1 := wide_get (s.extract 0 8) (by simp; omega)
  have g2 := wide_get (s.extract 8 s.size) (by simp; omega)
  have G1 := Lib.hid g1
  have G2 := Lib.hid g2
  clear hs g1 g2
  go_enter Try.func27, Try.ntmps27
  go_wp2
  go_region_held3 (fun _ => True) (trivial)
    (first | (go_at_call 62; (first | with_reducible refine (G1.out _).mono ?_ | with_reducible refine (G2.out _).mono ?_); rintro e w1 ⟨rfl, hb1⟩; obtain ⟨k1, k2⟩ := cf_below hb1 (a := ⟨w.heap.size, 0, none⟩) (v := .int .i64 0) (by simp [go_sem, *]); obtain ⟨k3, k4⟩ := cf_below hb1 (a := ⟨w.heap.size, 1, none⟩) (v := .int .u64 0) (by simp [go_sem, *])))
  all_goals go_wp2
  all_goals simp [bodyPost, results, Try.results27, go_sem, *]
  all_goals exact below_set (below_set (below_step (below_step (below_drew (below_alloc (Below.refl _ _) _)) ‹_›) ‹_›) (Nat.le_refl _)) (Nat.le_refl _)

/-- Whether a number has 64 bits. -/
def fits64 (h l : Int) : Bool := wrap64 l / 9223372036854775808 == h && wrap64 l % 18446744073709551616 == l
theorem wide_Int_yes (h l : Int) (hb : fits64 h l = true) (w : World) :
    Calls Try.prog 25 #[.agg #[.int .i64 h, .int .u64 l]] w fun e w' => e = .returned (.tuple #[.int .i64 (wrap64 l), .bool true]) ∧ Below w.heap.size w w' := by
  have hb' : (!wrap64 l / 9223372036854775808 == h || !wrap64 l % 18446744073709551616 == l) = false := by
    unfold fits64 at hb
    rw [Bool.and_eq_true] at hb
    rw [hb.1, hb.2]
    rfl
  clear hb
  go_enter Try.func25, Try.ntmps25
  go_wp2
  go_region_held3 (fun w' => w'.cell? ⟨w.heap.size, 0, none⟩ = some (.int .i64 h) ∧ w'.cell? ⟨w.heap.size, 1, none⟩ = some (.int .u64 l))
    (first | (simp [go_sem, World.cell?_alloc_past]; done) | (refine ⟨pw_cell_below hb1 ?_, pw_cell_below hb1 ?_⟩ <;> simp [go_sem, *]))
    (first | (go_at_call 26; refine (wide_Of _ _).mono ?_; rintro e w1 ⟨rfl, hb1⟩))
  all_goals go_wp2
  all_goals go_ret2
  all_goals exact ⟨rfl, below_step (below_drew (below_alloc (Below.refl _ _) _)) ‹_›⟩
theorem wide_Int_no (h l : Int) (hb : fits64 h l = false) (w : World) :
    Calls Try.prog 25 #[.agg #[.int .i64 h, .int .u64 l]] w fun e w' => e = .returned (.tuple #[.int .i64 0, .bool false]) ∧ Below w.heap.size w w' := by
  have hb' : (!wrap64 l / 9223372036854775808 == h || !wrap64 l % 18446744073709551616 == l) = true := by
    unfold fits64 at hb
    rw [Bool.and_eq_false_iff] at hb
    rcases hb with hb | hb <;> rw [hb] <;> simp
  clear hb
  go_enter Try.func25, Try.ntmps25
  go_wp2
  go_region_held3 (fun w' => w'.cell? ⟨w.heap.size, 0, none⟩ = some (.int .i64 h) ∧ w'.cell? ⟨w.heap.size, 1, none⟩ = some (.int .u64 l))
    (first | (simp [go_sem, World.cell?_alloc_past]; done) | (refine ⟨pw_cell_below hb1 ?_, pw_cell_below hb1 ?_⟩ <;> simp [go_sem, *]))
    (first | (go_at_call 26; refine (wide_Of _ _).mono ?_; rintro e w1 ⟨rfl, hb1⟩))
  all_goals go_wp2
  all_goals go_ret2
  all_goals exact ⟨rfl, below_step (below_drew (below_alloc (Below.refl _ _) _)) ‹_›⟩

theorem wide_Times_pos (h l n : Int) (hl : W64 l) (hn : ¬ n < 0) (hn' : n < 9223372036854775808) (w : World) :
    Calls Try.prog 21 #[.agg #[.int .i64 h, .int .u64 l], .int .i64 n] w fun e w' => e = .returned (.agg #[.int .i64 (wrap64 (wrap64 (l * n / 18446744073709551616) + wrap64 (h * n))), .int .u64 (l * n % 18446744073709551616)]) ∧ Below w.heap.size w w' := by
  obtain ⟨b1, b2⟩ := hl
  go_enter Try.func21, Try.ntmps21
  go_wp2_with (go_at_call 60; refine (mul64 _ _ b1 b2 (by omega) (by omega) _).mono ?_; rintro e w1 ⟨rfl, rfl⟩)
  simp [bodyPost, results, Try.results21, go_sem]
  exact below_alloc (below_alloc (Below.refl _ _) _) _
theorem u64w_range (n : Int) : 0 ≤ IntKind.u64.wrap n ∧ IntKind.u64.wrap n < 18446744073709551616 := by rw [wrap_u64]; omega
set_option maxHeartbeats 400000 in
theorem wide_Times_neg (h l n : Int) (hl : W64 l) (hn : n < 0) (hn' : -9223372036854775808 ≤ n) (w : World) :
    Calls Try.prog 21 #[.agg #[.int .i64 h, .int .u64 l], .int .i64 n] w fun e w' => e = .returned (.agg #[.int .i64 (wrap64 (wrap64 (-l % 18446744073709551616 * IntKind.u64.wrap (-IntKind.u64.wrap n) / 18446744073709551616) + wrap64 (wrap64 (wrap64 (-h) - wbor 0 l) * wrap64 (IntKind.u64.wrap (-IntKind.u64.wrap n))))), .int .u64 (-l % 18446744073709551616 * IntKind.u64.wrap (-IntKind.u64.wrap n) % 18446744073709551616)]) ∧ Below w.heap.size w w' := by
  obtain ⟨b1, b2⟩ := hl
  have hm := mul64 (-l % 18446744073709551616) (IntKind.u64.wrap (-IntKind.u64.wrap n)) (by omega) (by omega) (u64w_range _).1 (u64w_range _).2
  have HM := Lib.hid hm
  clear hm
  go_enter Try.func21, Try.ntmps21
  go_wp2_with (first | (go_at_call 17; refine (wide_Sub 0 0 h l ⟨by omega, by omega⟩ ⟨b1, b2⟩ _).mono ?_; rintro e w1 ⟨rfl, hb1⟩; obtain ⟨k1, k2⟩ := cf_below hb1 (a := ⟨w.heap.size, 0, none⟩) (v := .int .i64 h) (by simp [go_sem, *]); obtain ⟨k3, k4⟩ := cf_below hb1 (a := ⟨w.heap.size, 1, none⟩) (v := .int .u64 l) (by simp [go_sem, *]); obtain ⟨k5, k6⟩ := cf_below hb1 (a := ⟨w.heap.size + 1, 0, none⟩) (v := .int .i64 0) (by simp [go_sem, *]); obtain ⟨k7, k8⟩ := cf_below hb1 (a := ⟨w.heap.size + 1, 1, none⟩) (v := .int .u64 0) (by simp [go_sem, *])) | (go_at_call 60; with_reducible refine (HM.out _).mono ?_; rintro e w2 ⟨rfl, rfl⟩))
  simp [bodyPost, results, Try.results21, go_sem, *]
  refine below_set (below_set (below_set (below_set (below_step (below_alloc (below_alloc (Below.refl _ _) _) _) hb1) ?_) ?_) ?_) ?_ <;> omega
end Go.Proofs.Ytkcckhlchjmkkaa
