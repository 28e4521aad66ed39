/-
  THE WALKS OF package gaugerref15.
-/
import Derived.Test.YtkcckhlchjmkkaaUtil
import Derived.Test.YtkcckhlchjmkkaaArrW
import Derived.Test.YtkcckhlchjmkkaaRef15C
import Derived.Test.YtkcckhlchjmkkaaWideX
import Derived.Below
import Derived.WalkKit
import Derived.WalkSpells
import Derived.Laws.Pointers
import Derived.Deep.QuietTactic
import Derived.BigQuiet
import Derived.RowKit3
import Derived.Lib.Hide
import Derived.Outline
set_option linter.unusedVariables false
set_option linter.unusedSimpArgs false
namespace Go.Proofs.Ytkcckhlchjmkkaa
open Go.RowKit Go.Proofs.YtkcckhlchjmkkaaW.PrintWords

/-- The number of the bits' halves after n rounds of Times: what is added, and how often doubled. -/
def bitN (m : Int) (i : Nat) : Bool := bits .and .u64 (m / 2 ^ i) 1 == 1
def dbl (f : Nat → Bool) : Nat → (Nat → Bool)
  | 0 => f
  | n + 1 => sumF (dbl f n) (dbl f n) false
def acc (f : Nat → Bool) (m : Int) : Nat → (Nat → Bool)
  | 0 => nof
  | n + 1 => if bitN m n then sumF (acc f m n) (dbl f n) false else acc f m n
def negF (f : Nat → Bool) : Nat → Bool := sumF (fun j => !f j) nof true

set_option maxRecDepth 100000 in
set_option maxHeartbeats 400000 in
theorem ref_Times_pos (f : Nat → Bool) (n : Int) (hn : ¬ n < 0) (hn' : n < 9223372036854775808) (w : World) :
    Calls Try.prog 22 #[.agg (bA (tab f)), .int .i64 n] w fun e w' => e = .returned (.agg (bA (tab (acc f n 64)))) ∧ Below w.heap.size w w' := by
  have hz := zero128'
  have hzn := bA_ne (tab_len f)
  have hzn := bA_ne (tab_len nof)
  have hb0 := Blk.new_at ((w.alloc (Obj.cells (bA (tab f)) 26)).alloc (Obj.cells (bA (tab nof)) 26)) nof (n := w.heap.size + 1 + 1) (by simp)
  have hst := hb0.store nof
  go_enter Try.func22, Try.ntmps22
  go_wp2
  go_loopw [7] (fun v wr => ∃ k : Nat, k ≤ 64 ∧ v = .int .i64 k ∧ Hid (Blk wr w.heap.size (dbl f k) ∧ Blk wr (w.heap.size + 1) nof ∧ Blk wr (w.heap.size + 1 + 1) (acc f n k) ∧ Below w.heap.size w wr)) (fun v _ => 64 - (intOf v).toNat)
  case atStart => 
    refine ⟨0, by omega, rfl, ?_, ?_, Blk.setRow hb0 nof, below_setRow (below_alloc (below_alloc (below_alloc (Below.refl _ _) _) _) _) (by omega) _⟩
    · exact Blk.setRow_far (((Blk.new w f).alloc _).alloc _) (by omega) _
    · exact Blk.setRow_far ((Blk.new_at (w.alloc _) nof (by simp)).alloc _) (by omega) _
  case round =>
    obtain ⟨k, hk, rfl, hb1, hb2, hb3, hb4⟩ := hrel
    clear hst hb0
    by_cases hlt : k < 64
    · have ha : acc f n (k + 1) = if bitN n k then sumF (acc f n k) (dbl f k) false else acc f n k := rfl
      have hd : dbl f (k + 1) = sumF (dbl f k) (dbl f k) false := rfl
      have HA := Lib.hid ha
      have HD := Lib.hid hd
      clear ha hd
      have H1 := Lib.hid hb1
      have H2 := Lib.hid hb2
      have H3 := Lib.hid hb3
      have H4 := Lib.hid hb4
      clear hb1 hb2 hb3 hb4
      cases hx : bitN n k
      · rw [hx] at HA
        unfold bitN at hx
        go_wp2_with (first
          | (refine wpList_load_row rfl 26 _ rfl w.heap.size rfl 26 _ (0, 0) _ H1.out Try.underlying26 rfl (by rw [bA_size, tab_len]; exact info128) ?_)
          | (go_at_call 16; refine (ref_Add (dbl f k) (dbl f k) false _).mono ?_; rintro e w1 ⟨rfl, hb⟩; have hb1 := H1.out.below hb; have hst := hb1.store (sumF (dbl f k) (dbl f k) false)))
        refine ⟨⟨k + 1, by omega, by go_num, by rw [HD.out]; exact hb1.setRow _, ((H2.out.below hb).setRow_far (by omega) _), ?_, below_setRow (below_step H4.out hb) (Nat.le_refl _) _⟩, by simp [intOf] <;> omega⟩
        rw [HA.out]
        exact (H3.out.below hb).setRow_far (by omega) _
      · rw [hx] at HA
        unfold bitN at hx
        go_wp2_with (first
          | (refine wpList_load_row rfl 26 _ rfl w.heap.size rfl 26 _ (0, 0) _ H1.out Try.underlying26 rfl (by rw [bA_size, tab_len]; exact info128) ?_)
          | (refine wpList_load_row rfl 26 _ rfl (w.heap.size + 1 + 1) rfl 26 _ (0, 0) _ H3.out Try.underlying26 rfl (by rw [bA_size, tab_len]; exact info128) ?_)
          | (refine wpList_load_row rfl 26 _ rfl w.heap.size rfl 26 _ (0, 0) _ K1.out Try.underlying26 rfl (by rw [bA_size, tab_len]; exact info128) ?_)
          | (go_at_call 16; with_reducible refine (ref_Add (acc f n k) (dbl f k) false _).mono ?_; rintro e w1 ⟨rfl, hb⟩; have hb3 := H3.out.below hb; have hst := hb3.store (sumF (acc f n k) (dbl f k) false); have K1 := Lib.hid ((H1.out.below hb).setRow_far (g' := w.heap.size + 1 + 1) (by omega) (bA (tab (sumF (acc f n k) (dbl f k) false)))); have K3 := Lib.hid (hb3.setRow (sumF (acc f n k) (dbl f k) false)); have K2 := Lib.hid ((H2.out.below hb).setRow_far (g' := w.heap.size + 1 + 1) (by omega) (bA (tab (sumF (acc f n k) (dbl f k) false)))); have K4 := Lib.hid (below_setRow (g := w.heap.size + 1 + 1) (below_step H4.out hb) (by omega) (bA (tab (sumF (acc f n k) (dbl f k) false)))); clear hb3 hb)
          | (go_at_call 16; with_reducible refine (ref_Add (dbl f k) (dbl f k) false _).mono ?_; rintro e w2 ⟨rfl, hb⟩; have hb1 := K1.out.below hb; have hst2 := hb1.store (sumF (dbl f k) (dbl f k) false)))
        refine ⟨⟨k + 1, by omega, by go_num, by rw [HD.out]; exact hb1.setRow _, ((K2.out.below hb).setRow_far (by omega) _), ?_, below_setRow (below_step K4.out hb) (Nat.le_refl _) _⟩, by simp [intOf] <;> omega⟩
        rw [HA.out]
        exact (K3.out.below hb).setRow_far (by omega) _
    · obtain rfl : k = 64 := by omega
      have hst := hb2.store (acc f n 64)
      have H2 := Lib.hid hb2
      have H3 := Lib.hid hb3
      have H4 := Lib.hid hb4
      clear hb1 hb2 hb3 hb4
      go_wp2_with (refine wpList_load_row rfl 26 _ rfl (w.heap.size + 1 + 1) rfl 26 _ (0, 0) _ H3.out Try.underlying26 rfl (by rw [bA_size, tab_len]; exact info128) ?_)
      exact res128 Try.results22 rfl (H2.out.setRow _) rfl ⟨rfl, below_setRow H4.out (by omega) _⟩
set_option maxRecDepth 100000 in
set_option maxHeartbeats 400000 in
theorem ref_Times_neg (f : Nat → Bool) (n : Int) (hn : n < 0) (w : World) :
    Calls Try.prog 22 #[.agg (bA (tab f)), .int .i64 n] w fun e w' => e = .returned (.agg (bA (tab (acc (negF f) (IntKind.u64.wrap (-IntKind.u64.wrap n)) 64)))) ∧ Below w.heap.size w w' := by
  have hz := zero128'
  have hzn := bA_ne (tab_len f)
  have hzn := bA_ne (tab_len nof)
  have hb0 := Blk.new_at ((w.alloc (Obj.cells (bA (tab f)) 26)).alloc (Obj.cells (bA (tab nof)) 26)) nof (n := w.heap.size + 1 + 1) (by simp)
  have hst := hb0.store nof
  have hba := (((Blk.new w f).alloc (Obj.cells (bA (tab nof)) 26)).alloc (Obj.cells (bA (tab nof)) 26)).setRow_far (g' := w.heap.size + 1 + 1) (by omega) (bA (tab nof))
  have hbn := ((Blk.new_at (w.alloc (Obj.cells (bA (tab f)) 26)) nof (n := w.heap.size + 1) (by simp)).alloc (Obj.cells (bA (tab nof)) 26)).setRow_far (g' := w.heap.size + 1 + 1) (by omega) (bA (tab nof))
  have hbo := Blk.setRow hb0 nof
  have hbb := below_setRow (g := w.heap.size + 1 + 1) (below_alloc (below_alloc (below_alloc (Below.refl w.heap.size w) (Obj.cells (bA (tab f)) 26)) (Obj.cells (bA (tab nof)) 26)) (Obj.cells (bA (tab nof)) 26)) (by omega) (bA (tab nof))
  have HBA := Lib.hid hba
  have HBN := Lib.hid hbn
  have HBO := Lib.hid hbo
  have HBB := Lib.hid hbb
  clear hba hbn hbo hbb
  go_enter Try.func22, Try.ntmps22
  go_wp2_with (first
          | (refine wpList_load_row rfl 26 _ rfl w.heap.size rfl 26 _ (0, 0) _ HBA.out Try.underlying26 rfl (by rw [bA_size, tab_len]; exact info128) ?_)
          | (go_at_call 18; refine (ref_Not f _).mono ?_; rintro e w1 ⟨rfl, hbw1⟩)
          | (go_at_call 16; refine (ref_Add (fun j => !f j) nof true _).mono ?_; rintro e w2 ⟨rfl, hbw2⟩; have hq2 := (HBA.out.below hbw1).below hbw2; have hst2 := hq2.store (sumF (fun j => !f j) nof true)))
  go_loopw [7] (fun v wr => ∃ k : Nat, k ≤ 64 ∧ v = .int .i64 k ∧ Hid (Blk wr w.heap.size (dbl (negF f) k) ∧ Blk wr (w.heap.size + 1) nof ∧ Blk wr (w.heap.size + 1 + 1) (acc (negF f) (IntKind.u64.wrap (-IntKind.u64.wrap n)) k) ∧ Below w.heap.size w wr)) (fun v _ => 64 - (intOf v).toNat)
  case atStart => 
    refine ⟨0, by omega, rfl, Blk.setRow hq2 _, ((HBN.out.below hbw1).below hbw2).setRow_far (by omega) _, ((HBO.out.below hbw1).below hbw2).setRow_far (by omega) _, below_setRow (below_step (below_step HBB.out hbw1) hbw2) (Nat.le_refl _) _⟩
  case round =>
    obtain ⟨k, hk, rfl, hb1, hb2, hb3, hb4⟩ := hrel
    clear hst hst2 hb0 hq2 hbw1 hbw2
    by_cases hlt : k < 64
    · have ha : acc (negF f) (IntKind.u64.wrap (-IntKind.u64.wrap n)) (k + 1) = if bitN (IntKind.u64.wrap (-IntKind.u64.wrap n)) k then sumF (acc (negF f) (IntKind.u64.wrap (-IntKind.u64.wrap n)) k) (dbl (negF f) k) false else acc (negF f) (IntKind.u64.wrap (-IntKind.u64.wrap n)) k := rfl
      have hd : dbl (negF f) (k + 1) = sumF (dbl (negF f) k) (dbl (negF f) k) false := rfl
      have HA := Lib.hid ha
      have HD := Lib.hid hd
      clear ha hd
      have H1 := Lib.hid hb1
      have H2 := Lib.hid hb2
      have H3 := Lib.hid hb3
      have H4 := Lib.hid hb4
      clear hb1 hb2 hb3 hb4
      cases hx : bitN (IntKind.u64.wrap (-IntKind.u64.wrap n)) k
      · rw [hx] at HA
        unfold bitN at hx
        go_wp2_with (first
          | (refine wpList_load_row rfl 26 _ rfl w.heap.size rfl 26 _ (0, 0) _ H1.out Try.underlying26 rfl (by rw [bA_size, tab_len]; exact info128) ?_)
          | (go_at_call 16; refine (ref_Add (dbl (negF f) k) (dbl (negF f) k) false _).mono ?_; rintro e w1 ⟨rfl, hb⟩; have hb1 := H1.out.below hb; have hst := hb1.store (sumF (dbl (negF f) k) (dbl (negF f) k) false)))
        refine ⟨⟨k + 1, by omega, by go_num, by rw [HD.out]; exact hb1.setRow _, ((H2.out.below hb).setRow_far (by omega) _), ?_, below_setRow (below_step H4.out hb) (Nat.le_refl _) _⟩, by simp [intOf] <;> omega⟩
        rw [HA.out]
        exact (H3.out.below hb).setRow_far (by omega) _
      · rw [hx] at HA
        unfold bitN at hx
        go_wp2_with (first
          | (refine wpList_load_row rfl 26 _ rfl w.heap.size rfl 26 _ (0, 0) _ H1.out Try.underlying26 rfl (by rw [bA_size, tab_len]; exact info128) ?_)
          | (refine wpList_load_row rfl 26 _ rfl (w.heap.size + 1 + 1) rfl 26 _ (0, 0) _ H3.out Try.underlying26 rfl (by rw [bA_size, tab_len]; exact info128) ?_)
          | (refine wpList_load_row rfl 26 _ rfl w.heap.size rfl 26 _ (0, 0) _ K1.out Try.underlying26 rfl (by rw [bA_size, tab_len]; exact info128) ?_)
          | (go_at_call 16; with_reducible refine (ref_Add (acc (negF f) (IntKind.u64.wrap (-IntKind.u64.wrap n)) k) (dbl (negF f) k) false _).mono ?_; rintro e w1 ⟨rfl, hb⟩; have hb3 := H3.out.below hb; have hst := hb3.store (sumF (acc (negF f) (IntKind.u64.wrap (-IntKind.u64.wrap n)) k) (dbl (negF f) k) false); have K1 := Lib.hid ((H1.out.below hb).setRow_far (g' := w.heap.size + 1 + 1) (by omega) (bA (tab (sumF (acc (negF f) (IntKind.u64.wrap (-IntKind.u64.wrap n)) k) (dbl (negF f) k) false)))); have K3 := Lib.hid (hb3.setRow (sumF (acc (negF f) (IntKind.u64.wrap (-IntKind.u64.wrap n)) k) (dbl (negF f) k) false)); have K2 := Lib.hid ((H2.out.below hb).setRow_far (g' := w.heap.size + 1 + 1) (by omega) (bA (tab (sumF (acc (negF f) (IntKind.u64.wrap (-IntKind.u64.wrap n)) k) (dbl (negF f) k) false)))); have K4 := Lib.hid (below_setRow (g := w.heap.size + 1 + 1) (below_step H4.out hb) (by omega) (bA (tab (sumF (acc (negF f) (IntKind.u64.wrap (-IntKind.u64.wrap n)) k) (dbl (negF f) k) false)))); clear hb3 hb)
          | (go_at_call 16; with_reducible refine (ref_Add (dbl (negF f) k) (dbl (negF f) k) false _).mono ?_; rintro e w2 ⟨rfl, hb⟩; have hb1 := K1.out.below hb; have hst2 := hb1.store (sumF (dbl (negF f) k) (dbl (negF f) k) false)))
        refine ⟨⟨k + 1, by omega, by go_num, by rw [HD.out]; exact hb1.setRow _, ((K2.out.below hb).setRow_far (by omega) _), ?_, below_setRow (below_step K4.out hb) (Nat.le_refl _) _⟩, by simp [intOf] <;> omega⟩
        rw [HA.out]
        exact (K3.out.below hb).setRow_far (by omega) _
    · obtain rfl : k = 64 := by omega
      have hst := hb2.store (acc (negF f) (IntKind.u64.wrap (-IntKind.u64.wrap n)) 64)
      have H2 := Lib.hid hb2
      have H3 := Lib.hid hb3
      have H4 := Lib.hid hb4
      clear hb1 hb2 hb3 hb4
      go_wp2_with (refine wpList_load_row rfl 26 _ rfl (w.heap.size + 1 + 1) rfl 26 _ (0, 0) _ H3.out Try.underlying26 rfl (by rw [bA_size, tab_len]; exact info128) ?_)
      exact res128 Try.results22 rfl (H2.out.setRow _) rfl ⟨rfl, below_setRow H4.out (by omega) _⟩
end Go.Proofs.Ytkcckhlchjmkkaa
