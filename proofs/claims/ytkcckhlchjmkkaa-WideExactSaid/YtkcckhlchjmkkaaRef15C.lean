/-
  THE WALKS OF package gaugerref15.
-/
import Derived.Test.YtkcckhlchjmkkaaUtil
import Derived.Test.YtkcckhlchjmkkaaArrW
import Derived.Test.YtkcckhlchjmkkaaRef15B
import Derived.Below
import Derived.WalkKit
import Derived.WalkSpells
import Derived.Laws.Pointers
import Derived.Deep.QuietTactic
import Derived.BigQuiet
import Derived.RowKit3
import Derived.Lib.Hide
import Derived.Outline
set_option linter.unusedVariables false
set_option linter.unusedSimpArgs false
namespace Go.Proofs.Ytkcckhlchjmkkaa
open Go.RowKit Go.Proofs.YtkcckhlchjmkkaaW.PrintWords

/-- The carry into place j. -/
def carryF (f g : Nat → Bool) (c : Bool) : Nat → Bool
  | 0 => c
  | j + 1 => (f j && g j) || (f j && carryF f g c j) || (g j && carryF f g c j)
def sumF (f g : Nat → Bool) (c : Bool) (j : Nat) : Bool := (f j).xor ((g j).xor (carryF f g c j))

set_option maxRecDepth 100000 in
theorem ref_Add (f g : Nat → Bool) (c : Bool) (w : World) :
    Calls Try.prog 16 #[.agg (bA (tab f)), .agg (bA (tab g)), .bool c] w fun e w' => e = .returned (.agg (bA (tab (sumF f g c)))) ∧ Below w.heap.size w w' := by
  have hz := zero128'
  have hzn := bA_ne (tab_len f)
  have hzn := bA_ne (tab_len g)
  have hzn := bA_ne (tab_len nof)
  have hb0 := Blk.new_at (((w.alloc (Obj.cells (bA (tab f)) 26)).alloc (Obj.cells (bA (tab g)) 26)).alloc (Obj.cells (bA (tab nof)) 26)) nof (n := w.heap.size + 1 + 1 + 1) (by simp)
  have hst := hb0.store nof
  go_enter Try.func16, Try.ntmps16
  go_wp2
  go_loopw [2, 8] (fun cv v wr => ∃ k : Nat, k ≤ 128 ∧ v = .int .i64 k ∧ cv = .bool (carryF f g c k) ∧ Hid (Blk wr w.heap.size f ∧ Blk wr (w.heap.size + 1) g ∧ Blk wr (w.heap.size + 1 + 1) nof ∧ Blk wr (w.heap.size + 1 + 1 + 1) (fun j => if j < k then sumF f g c j else false) ∧ Below w.heap.size w wr)) (fun _ v _ => 128 - (intOf v).toNat)
  case atStart => 
    refine ⟨0, by omega, rfl, rfl, ?_, ?_, ?_, Blk.setRow hb0 nof, below_setRow (below_alloc (below_alloc (below_alloc (below_alloc (Below.refl _ _) _) _) _) _) (by omega) _⟩
    · exact Blk.setRow_far (((Blk.new w f).alloc _).alloc _ |>.alloc _) (by omega) _
    · exact Blk.setRow_far (((Blk.new_at (w.alloc _) g (by simp)).alloc _).alloc _) (by omega) _
    · exact Blk.setRow_far ((Blk.new_at ((w.alloc _).alloc _) nof (by simp)).alloc _) (by omega) _
  case round =>
    obtain ⟨k, hk, rfl, rfl, HB⟩ := hrel
    obtain ⟨hb1, hb2, hb3, hb4, hb5⟩ := HB
    clear hst hb0
    by_cases hlt : k < 128
    · have c1 := hb1.cell k hlt
      have c2 := hb2.cell k hlt
      have c3 := hb4.cell k hlt
      have f3 := hb4.frozen k
      rw [if_neg (by omega)] at c3
      have H1 := Lib.hid hb1
      have H2 := Lib.hid hb2
      have H3 := Lib.hid hb3
      have H4 := Lib.hid hb4
      have H5 := Lib.hid hb5
      clear hb1 hb2 hb3 hb4 hb5
      have hfin : ∀ s cr : Bool, s = sumF f g c k → cr = carryF f g c (k + 1) →
          (∃ k_1 : Nat, k_1 ≤ 128 ∧ Value.int .i64 ((k : Int) + 1) = .int .i64 k_1 ∧ Value.bool cr = .bool (carryF f g c k_1) ∧ Hid (Blk (wr.setCell ⟨w.heap.size + 1 + 1 + 1, k, none⟩ (.bool s)) w.heap.size f ∧ Blk (wr.setCell ⟨w.heap.size + 1 + 1 + 1, k, none⟩ (.bool s)) (w.heap.size + 1) g ∧ Blk (wr.setCell ⟨w.heap.size + 1 + 1 + 1, k, none⟩ (.bool s)) (w.heap.size + 1 + 1) nof ∧ Blk (wr.setCell ⟨w.heap.size + 1 + 1 + 1, k, none⟩ (.bool s)) (w.heap.size + 1 + 1 + 1) (fun j => if j < k_1 then sumF f g c j else false) ∧ Below w.heap.size w (wr.setCell ⟨w.heap.size + 1 + 1 + 1, k, none⟩ (.bool s)))) := by
        intro s cr hs hcr
        refine ⟨k + 1, by omega, by go_num, by rw [hcr], H1.out.far _ _ (by simp <;> omega), H2.out.far _ _ (by simp <;> omega), H3.out.far _ _ (by simp), (H4.out.set k s).congr ?_, below_set H5.out (by omega)⟩
        intro j hj
        by_cases h1 : j = k
        · subst h1; simp [hs]
        · rw [if_neg h1]; simp only [show (j < k) = (j < k + 1) from by simp; omega]
      have hs : sumF f g c k = (f k).xor ((g k).xor (carryF f g c k)) := rfl
      have hc : carryF f g c (k + 1) = ((f k && g k) || (f k && carryF f g c k) || (g k && carryF f g c k)) := rfl
      have HF := Lib.hid hfin
      have HS := Lib.hid hs
      have HC := Lib.hid hc
      clear hfin hs hc
      cases hx : f k <;> cases hy : g k <;> cases hz : carryF f g c k
      all_goals rw [hx] at c1
      all_goals rw [hy] at c2
      all_goals rw [hx, hy, hz] at HS HC
      all_goals clear hx hy hz
      all_goals go_wp2
      all_goals refine ⟨HF.out _ _ ?_ ?_, ?_⟩
      all_goals first | (rw [HS.out]; rfl) | (rw [HC.out]; rfl) | (simp [intOf] <;> omega)
    · obtain rfl : k = 128 := by omega
      have hst := hb3.store (sumF f g c)
      have H4 : Hid (Blk wr (w.heap.size + 1 + 1 + 1) (sumF f g c)) := hb4.congr (fun j hj => by rw [if_pos hj])
      have H3 := Lib.hid hb3
      have H5 := Lib.hid hb5
      clear hb1 hb2 hb3 hb4 hb5
      go_wp2_with (refine wpList_load_row rfl 26 _ rfl (w.heap.size + 1 + 1 + 1) rfl 26 _ (0, 0) _ H4.out Try.underlying26 rfl (by rw [bA_size, tab_len]; exact info128) ?_)
      exact res128 Try.results16 rfl (H3.out.setRow _) rfl ⟨rfl, below_setRow H5.out (by omega) _⟩
end Go.Proofs.Ytkcckhlchjmkkaa
