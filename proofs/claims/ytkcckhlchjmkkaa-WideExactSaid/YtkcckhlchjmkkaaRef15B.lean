/-
  THE WALKS OF package gaugerref15.
-/
import Derived.Test.YtkcckhlchjmkkaaUtil
import Derived.Test.YtkcckhlchjmkkaaArrW
import Derived.Test.YtkcckhlchjmkkaaRef15A
import Derived.Below
import Derived.WalkKit
import Derived.WalkSpells
import Derived.Laws.Pointers
import Derived.Deep.QuietTactic
import Derived.BigQuiet
import Derived.RowKit3
import Derived.Lib.Hide
import Derived.Outline
set_option linter.unusedVariables false
set_option linter.unusedSimpArgs false
namespace Go.Proofs.Ytkcckhlchjmkkaa
open Go.RowKit Go.Proofs.YtkcckhlchjmkkaaW.PrintWords

def b2i (b : Bool) : Int := if b then 1 else 0
theorem b2i_le (b : Bool) : 0 ≤ b2i b ∧ b2i b ≤ 1 := by cases b <;> decide
/-- The number of the upper n of 64 bits, from 'base' on. -/
def horn (f : Nat → Bool) (base : Nat) : Nat → Int
  | 0 => 0
  | n + 1 => horn f base n * 2 + b2i (f (base + (63 - n)))
theorem horn_le (f : Nat → Bool) (base n : Nat) (hn : n ≤ 64) : 0 ≤ horn f base n ∧ horn f base n < 2 ^ n := by
  induction n with
  | zero => exact ⟨Int.le_refl 0, by show (0 : Int) < 2 ^ 0; decide⟩
  | succ n ih =>
    have h := ih (by omega)
    have hb := b2i_le (f (base + (63 - n)))
    simp only [horn]
    rw [show (2 : Int) ^ (n + 1) = 2 ^ n * 2 from Int.pow_succ ..]
    omega
theorem horn_63 (f : Nat → Bool) (base n : Nat) (hn : n ≤ 63) : 0 ≤ horn f base n ∧ horn f base n < 9223372036854775808 := by
  have h := horn_le f base n (by omega)
  have : (2 : Int) ^ n ≤ 2 ^ 63 := by exact_mod_cast Nat.pow_le_pow_right (by decide : 0 < 2) hn
  exact ⟨h.1, Int.lt_of_lt_of_le h.2 this⟩

set_option maxRecDepth 100000 in
theorem ref_Of (f : Nat → Bool) (w : World) :
    Calls Try.prog 15 #[.agg (bA (tab f))] w fun e w' => e = .returned (.agg #[.int .i64 (wrap64 (horn f 64 64)), .int .u64 (horn f 0 64)]) ∧ Below w.heap.size w w' := by
  have hzn := bA_ne (tab_len f)
  go_enter Try.func15, Try.ntmps15
  go_wp2
  go_loopw [3, 4, 5] (fun lo hi v wr => ∃ n : Nat, n ≤ 64 ∧ v = .int .i64 (63 - n) ∧ lo = .int .u64 (horn f 0 n) ∧ hi = .int .u64 (horn f 64 n) ∧ Hid (Blk wr w.heap.size f ∧ Below w.heap.size w wr) ∧ wr.cell? ⟨w.heap.size + 1, 0, none⟩ = some (.int .i64 0) ∧ wr.frozen? ⟨w.heap.size + 1, 0, none⟩ = false ∧ wr.cell? ⟨w.heap.size + 1, 1, none⟩ = some (.int .u64 0) ∧ wr.frozen? ⟨w.heap.size + 1, 1, none⟩ = false) (fun _ _ v _ => (intOf v + 1).toNat)
  case atStart => 
    refine ⟨0, by omega, rfl, rfl, rfl, ⟨(Blk.new w f).alloc _, below_alloc (below_alloc (Below.refl _ _) _) _⟩, ?_, ?_, ?_, ?_⟩ <;> simp [go_sem]
  case round =>
    obtain ⟨n, hk, rfl, rfl, rfl, HB, hc0, hf0, hc1, hf1⟩ := hrel
    by_cases hlt : n < 64
    · obtain ⟨hb1, hb3⟩ := HB
      have c1 := hb1.cell (63 - n) (by omega)
      have c2 := hb1.cell (64 + (63 - n)) (by omega)
      obtain ⟨u0, u1⟩ := horn_63 f 0 n (by omega)
      obtain ⟨v0, v1⟩ := horn_63 f 64 n (by omega)
      have H1 := Lib.hid hb1
      have H3 := Lib.hid hb3
      clear hb1 hb3
      obtain ⟨m, hm⟩ : ∃ m : Nat, m = 63 - n := ⟨_, rfl⟩
      have e1 : (63 - (n : Int)) = m := by omega
      rw [e1]
      rw [← hm] at c1 c2
      have hm' : m < 64 := by omega
      have HM : Hid (m = 63 - n ∧ (63 - (n : Int)) = m) := ⟨hm, e1⟩
      clear hm e1
      cases hx : f m <;> cases hy : f (64 + m)
      all_goals rw [hx] at c1
      all_goals rw [hy] at c2
      all_goals have HX := Lib.hid hx
      all_goals have HY := Lib.hid hy
      all_goals clear hx hy
      all_goals go_wp2
      all_goals
        refine ⟨⟨n + 1, by omega, ?_, ?_, ?_, ⟨H1.out, H3.out⟩, hc0, hf0, hc1, hf1⟩, ?_⟩
        · congr 1; have := HM.out; omega
        · simp only [horn]; rw [Nat.zero_add, ← HM.out.1, HX.out]; simp [b2i]
        · simp only [horn]; rw [← HM.out.1, HY.out]; simp [b2i]
        · simp [intOf] <;> omega
    · obtain ⟨hb1, hb3⟩ := HB
      obtain rfl : n = 64 := by omega
      have H3 := Lib.hid hb3
      clear hb1 hb3
      have e1 : (63 - ((64 : Nat) : Int)) = -1 := rfl
      rw [e1]
      clear e1
      go_wp2
      simp [bodyPost, results, Try.results15, go_sem, *]
      exact below_set (below_set H3.out (by omega)) (by omega)
set_option maxRecDepth 100000 in
theorem ref_Not (f : Nat → Bool) (w : World) :
    Calls Try.prog 18 #[.agg (bA (tab f))] w fun e w' => e = .returned (.agg (bA (tab fun j => !f j))) ∧ Below w.heap.size w w' := by
  have hz := zero128'
  have hzn := bA_ne (tab_len f)
  have hzn := bA_ne (tab_len nof)
  go_enter Try.func18, Try.ntmps18
  go_wp2
  go_loopw [3] (fun v wr => ∃ k : Nat, k ≤ 128 ∧ v = .int .i64 k ∧ Hid (Blk wr w.heap.size (fun j => if j < k then !f j else f j) ∧ Blk wr (w.heap.size + 1) nof ∧ Below w.heap.size w wr)) (fun v _ => 128 - (intOf v).toNat)
  case atStart => 
    exact ⟨0, by omega, rfl, (Blk.new w f).alloc _, Blk.new_at _ nof (by simp), below_alloc (below_alloc (Below.refl _ _) _) _⟩
  case round =>
    obtain ⟨k, hk, rfl, HB⟩ := hrel
    obtain ⟨hb1, hb2, hb3⟩ := HB
    by_cases hlt : k < 128
    · have c1 := hb1.cell k hlt
      have f1 := hb1.frozen k
      rw [if_neg (by omega)] at c1
      have H1 := Lib.hid hb1
      have H2 := Lib.hid hb2
      have H3 := Lib.hid hb3
      clear hb1 hb2 hb3
      go_wp2
      refine ⟨⟨k + 1, by omega, by go_num, (H1.out.set k _).congr ?_, H2.out.far _ _ (by simp), below_set H3.out (Nat.le_refl _)⟩, by simp [intOf]; omega⟩
      intro j hj
      by_cases h1 : j = k
      · subst h1; simp
      · rw [if_neg h1]; simp only [show (j < k) = (j < k + 1) from by simp; omega]
    · obtain rfl : k = 128 := by omega
      have hst := hb2.store (fun j => !f j)
      have H1 : Hid (Blk wr w.heap.size fun j => !f j) := hb1.congr (fun j hj => by rw [if_pos hj])
      have H2 := Lib.hid hb2
      have H3 := Lib.hid hb3
      clear hb1 hb2 hb3
      go_wp2_with (refine wpList_load_row rfl 26 _ rfl w.heap.size rfl 26 _ (0, 0) _ H1.out Try.underlying26 rfl (by rw [bA_size, tab_len]; exact info128) ?_)
      exact res128 Try.results18 rfl (H2.out.setRow _) rfl ⟨rfl, below_setRow H3.out (by omega) _⟩
end Go.Proofs.Ytkcckhlchjmkkaa
