/-
  THE WALKS OF package wide: Of, Add, Sub, Compare, Int, Times, put, get, Code, Read.
-/
import Derived.Test.YtkcckhlchjmkkaaBits
import Derived.Test.YtkcckhlchjmkkaaCmpW
import Derived.Below
import Derived.WalkKit
import Derived.WalkSpells
import Derived.Laws.Pointers
import Derived.Deep.RegionHeld3
import Derived.Deep.QuietTactic
import Derived.BigQuiet
import Derived.RowKit3
import Derived.Outline
import Derived.Lib.Hide
import Derived.Test.YtkcckhlchjmkkaaWWords
set_option linter.unusedVariables false
set_option linter.unusedSimpArgs false
namespace Go.Proofs.Ytkcckhlchjmkkaa
open Go.RowKit Go.Shelf Go.Proofs.YtkcckhlchjmkkaaW.PrintWords

def W64 (x : Int) : Prop := 0 ≤ x ∧ x < 18446744073709551616
def wbor (x y : Int) : Int := if x < y then 1 else 0

def ofH (n : Int) : Int := IntKind.i64.wrap (n / 9223372036854775808)

theorem wrap_u64 (n : Int) : IntKind.u64.wrap n = n % 18446744073709551616 := by
  simp [IntKind.wrap, IntKind.signed, IntKind.bits]
theorem wide_Of (n : Int) (w : World) : Calls Try.prog 26 #[.int .i64 n] w fun e w' => e = .returned (.agg #[.int .i64 (n / 9223372036854775808), .int .u64 (n % 18446744073709551616)]) ∧ Below w.heap.size w w' := by
  go_enter Try.func26, Try.ntmps26
  go_wp2
  simp [bodyPost, results, Try.results26, go_sem]
  exact ⟨wrap_u64 n, (Below.refl _ _).alloc (Nat.le_refl _) _⟩
theorem wide_Add (ah al bh bl : Int) (h2 : W64 al) (h4 : W64 bl) (w : World) :
    Calls Try.prog 14 #[.agg #[.int .i64 ah, .int .u64 al], .agg #[.int .i64 bh, .int .u64 bl]] w fun e w' =>
      e = .returned (.agg #[.int .i64 (wrap64 (wrap64 (ah + bh) + (al + bl) / 18446744073709551616)), .int .u64 ((al + bl) % 18446744073709551616)]) ∧ Below w.heap.size w w' := by
  obtain ⟨b1, b2⟩ := h2; obtain ⟨d1, d2⟩ := h4
  have k0 : 0 ≤ (al + bl) / 18446744073709551616 := by omega
  have k1 : (al + bl) / 18446744073709551616 ≤ 1 := by omega
  have := add64 al bl 0 b1 d1 (by omega) (by omega)
  go_enter Try.func14, Try.ntmps14
  go_wp2
  simp [bodyPost, results, Try.results14, go_sem]
  exact ((((Below.refl _ _).alloc (Nat.le_refl _) _).alloc (by simp) _).alloc (by simp; omega) _)
theorem wide_Sub (ah al bh bl : Int) (h2 : W64 al) (h4 : W64 bl) (w : World) :
    Calls Try.prog 17 #[.agg #[.int .i64 ah, .int .u64 al], .agg #[.int .i64 bh, .int .u64 bl]] w fun e w' =>
      e = .returned (.agg #[.int .i64 (wrap64 (wrap64 (ah - bh) - wbor al bl)), .int .u64 ((al - bl) % 18446744073709551616)]) ∧ Below w.heap.size w w' := by
  obtain ⟨b1, b2⟩ := h2; obtain ⟨d1, d2⟩ := h4
  have k0 : 0 ≤ wbor al bl := by unfold wbor; split <;> omega
  have k1 : wbor al bl ≤ 1 := by unfold wbor; split <;> omega
  have hs : ∀ W, (callFunc 56 #[.int .u64 al, .int .u64 bl, .int .u64 0]).run Try.prog W = .ok (.value (.tuple #[.int .u64 ((al - bl) % 18446744073709551616), .int .u64 (wbor al bl)])) W := fun W => by
    have := sub64 al bl 0 b1 d1 d2 (by omega) (by omega) W
    simpa [wbor] using this
  go_enter Try.func17, Try.ntmps17
  go_wp2
  simp [bodyPost, results, Try.results17, go_sem]
  exact ((((Below.refl _ _).alloc (Nat.le_refl _) _).alloc (by simp) _).alloc (by simp; omega) _)
theorem wide_Compare (ah al bh bl : Int) (w : World) :
    Calls Try.prog 19 #[.agg #[.int .i64 ah, .int .u64 al], .agg #[.int .i64 bh, .int .u64 bl]] w fun e w' =>
      e = .returned (.int .i64 (or2 (cmpI ah bh) (cmpI al bl))) ∧ Below w.heap.size w w' := by
  go_enter Try.func19, Try.ntmps19
  go_wp2
  go_region_held3 (fun w' => w'.cell? ⟨w.heap.size, 0, none⟩ = some (.int .i64 ah) ∧ w'.cell? ⟨w.heap.size, 1, none⟩ = some (.int .u64 al) ∧ w'.cell? ⟨w.heap.size + 1, 0, none⟩ = some (.int .i64 bh) ∧ w'.cell? ⟨w.heap.size + 1, 1, none⟩ = some (.int .u64 bl)) (simp [go_sem, World.cell?_alloc_past])
    (first
      | (go_at_call 58; refine (cmp_int ah bh _).mono ?_; rintro e w' ⟨rfl, rfl⟩)
      | (go_at_call 59; refine (cmp_u64 al bl _).mono ?_; rintro e w' ⟨rfl, rfl⟩)
      | (go_at_call 57; refine (cmp_Or2 (cmpI ah bh) (cmpI al bl) _ _ _ (by simp [go_sem]) (by simp [go_sem])).mono ?_; rintro e w' ⟨rfl, rfl⟩))
  all_goals go_wp2
  all_goals go_ret
  all_goals exact ⟨rfl, by repeat (first | exact Below.refl _ _ | apply below_drew | apply below_alloc)⟩

end Go.Proofs.Ytkcckhlchjmkkaa
