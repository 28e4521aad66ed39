/-
  THE LAWS' WALKS: WideExact.
-/
import Derived.Test.YtkcckhlchjmkkaaWideL
import Derived.Outline
set_option linter.unusedVariables false
set_option linter.unusedSimpArgs false
namespace Go.Proofs.Ytkcckhlchjmkkaa
open Go.RowKit Go.Proofs.YtkcckhlchjmkkaaW.PrintWords
attribute [local go_sem high] eqWide

/-- Where a number lies against a word's bounds. -/
theorem parts_math (x : Int) (hx : I128 x) :
    (I64 x ∧ wrap64 (loOf x) = x ∧ (((hiOf x == 0) = true ∧ decide (loOf x < 9223372036854775808) = true) ∨ ((hiOf x == 0) = false ∧ (hiOf x == -1) = true ∧ decide (9223372036854775808 ≤ loOf x) = true))) ∨
    (¬ I64 x ∧ (((hiOf x == 0) = true ∧ decide (loOf x < 9223372036854775808) = false ∧ (hiOf x == -1) = false) ∨ ((hiOf x == 0) = false ∧ (hiOf x == -1) = true ∧ decide (9223372036854775808 ≤ loOf x) = false) ∨ ((hiOf x == 0) = false ∧ (hiOf x == -1) = false))) := by
  obtain ⟨h1, h2⟩ := hx
  have hq : hiOf x = x / 18446744073709551616 := by unfold hiOf wrap64; omega
  have hl : loOf x = x % 18446744073709551616 := rfl
  unfold wrap64 I64
  rw [hq, hl]
  simp only [beq_iff_eq, beq_eq_false_iff_ne, ne_eq, decide_eq_true_eq, decide_eq_false_iff_not]
  omega
/-- A whole number of a word, in two words. -/
theorem of_parts (n : Int) (h : I64 n) : IntKind.u64.wrap n = loOf n ∧ ((decide (n < 0) = true ∧ decide (0 ≤ n) = false ∧ hiOf n = -1) ∨ (decide (n < 0) = false ∧ decide (0 ≤ n) = true ∧ hiOf n = 0)) := by
  obtain ⟨h1, h2⟩ := h
  have hq : hiOf n = n / 18446744073709551616 := by unfold hiOf wrap64; omega
  have hl : loOf n = n % 18446744073709551616 := rfl
  refine ⟨by rw [wrap_u64, hl], ?_⟩
  rw [hq]
  by_cases hc : n < 0
  · exact Or.inl ⟨decide_eq_true hc, decide_eq_false (by omega), by omega⟩
  · exact Or.inr ⟨decide_eq_false hc, decide_eq_true (by omega), by omega⟩

set_option maxRecDepth 100000 in
set_option maxHeartbeats 8000000 in
theorem l_WideExact (x y n : Int) (s : ByteArray) (hx : I128 x) (hy : I128 y) (hn : I64 n) (hss : s.size < 9223372036854775808) (w : World) : Calls Try.prog 3 #[Wv x, Wv y, .int .i64 n, .string s] w fun e w' => e = .returned (.bool true) ∧ Below w.heap.size w w' := by
  have cr : ∀ h : s.size = 16, code16 (numOf s) = s := fun h => code_num s h
  have HC := Lib.hid cr
  have HX := Lib.hid hx
  have HY := Lib.hid hy
  have HN := Lib.hid hn
  have HP := Lib.hid (parts_math x hx)
  have HO := Lib.hid (of_parts n hn)
  have hz := zero128'
  have hzn := bA_ne (tab_len nof)
  have hzx := bA_ne (tab_len (B x))
  have hzy := bA_ne (tab_len (B y))
  have S1 : ((s.size : Int) ≤ 9223372036854775807) := by omega
  clear cr hn hx hy
  by_cases hs : (40 : Int) < s.size
  · go_enter Try.func3, Try.ntmps3
    have hB : Hid (Below w.heap.size w ((w.alloc (.cells #[.int .i64 (hiOf x), .int .u64 (loOf x)] 24)).alloc (.cells #[.int .i64 (hiOf y), .int .u64 (loOf y)] 24))) := below_alloc (below_alloc (Below.refl _ _) _) _
    go_wp2_with (first | (go_at_call 12; with_reducible refine (c_awake _).mono ?_; rintro e w1 ⟨rfl, hb⟩; have hB := Lib.hid (below_step hB.out hb); clear hb))
    go_ret
    exact ⟨rfl, hB.out⟩
  go_enter Try.func3, Try.ntmps3
  have k0 : ((w.alloc (.cells #[.int .i64 (hiOf x), .int .u64 (loOf x)] 24)).alloc (.cells #[.int .i64 (hiOf y), .int .u64 (loOf y)] 24)).cell? ⟨w.heap.size, 0, none⟩ = some (.int .i64 (hiOf x)) := by simp [go_sem]
  have k1 : ((w.alloc (.cells #[.int .i64 (hiOf x), .int .u64 (loOf x)] 24)).alloc (.cells #[.int .i64 (hiOf y), .int .u64 (loOf y)] 24)).cell? ⟨w.heap.size, 1, none⟩ = some (.int .u64 (loOf x)) := by simp [go_sem]
  have k2 : ((w.alloc (.cells #[.int .i64 (hiOf x), .int .u64 (loOf x)] 24)).alloc (.cells #[.int .i64 (hiOf y), .int .u64 (loOf y)] 24)).cell? ⟨w.heap.size + 1, 0, none⟩ = some (.int .i64 (hiOf y)) := by simp [go_sem]
  have k3 : ((w.alloc (.cells #[.int .i64 (hiOf x), .int .u64 (loOf x)] 24)).alloc (.cells #[.int .i64 (hiOf y), .int .u64 (loOf y)] 24)).cell? ⟨w.heap.size + 1, 1, none⟩ = some (.int .u64 (loOf y)) := by simp [go_sem]
  have hB : Hid (Below w.heap.size w ((w.alloc (.cells #[.int .i64 (hiOf x), .int .u64 (loOf x)] 24)).alloc (.cells #[.int .i64 (hiOf y), .int .u64 (loOf y)] 24))) := below_alloc (below_alloc (Below.refl _ _) _) _
  go_wp2_with (first
    | (go_at_call 12; with_reducible refine (c_awake _).mono ?_; rintro e w0 ⟨rfl, hb⟩; have k0 := pw_cell_below hb k0; have k1 := pw_cell_below hb k1; have k2 := pw_cell_below hb k2; have k3 := pw_cell_below hb k3; have hB := Lib.hid (below_step hB.out hb); clear hb)
    | (go_at_call 13; with_reducible refine (r_Bits x _).mono ?_; rintro e w1 ⟨rfl, hb⟩; have k0 := pw_cell_below hb k0; have k1 := pw_cell_below hb k1; have k2 := pw_cell_below hb k2; have k3 := pw_cell_below hb k3; have hB := Lib.hid (below_step hB.out hb); clear hb; have hst := (Blk.new w1 nof).store (B x); have lk0 := World.block_lt_of_cell? _ _ k0; dsimp only at lk0; have lk1 := World.block_lt_of_cell? _ _ k1; dsimp only at lk1; have lk2 := World.block_lt_of_cell? _ _ k2; dsimp only at lk2; have lk3 := World.block_lt_of_cell? _ _ k3; dsimp only at lk3; have qk0 := cell_setRow_far (pw_cell_below (below_alloc (Below.refl w1.heap.size w1) (.cells (bA (tab nof)) 26)) k0) (Nat.ne_of_lt lk0) (bA (tab (B x))); have qk1 := cell_setRow_far (pw_cell_below (below_alloc (Below.refl w1.heap.size w1) (.cells (bA (tab nof)) 26)) k1) (Nat.ne_of_lt lk1) (bA (tab (B x))); have qk2 := cell_setRow_far (pw_cell_below (below_alloc (Below.refl w1.heap.size w1) (.cells (bA (tab nof)) 26)) k2) (Nat.ne_of_lt lk2) (bA (tab (B x))); have qk3 := cell_setRow_far (pw_cell_below (below_alloc (Below.refl w1.heap.size w1) (.cells (bA (tab nof)) 26)) k3) (Nat.ne_of_lt lk3) (bA (tab (B x)))))
  have k0 := qk0
  have k1 := qk1
  have k2 := qk2
  have k3 := qk3
  have bx := Blk.setRow (Blk.new w1 nof) (B x)
  have hB := Lib.hid (below_setRow (below_alloc hB.out (.cells (bA (tab nof)) 26)) hB.out.size (bA (tab (B x))))
  clear hst lk0 qk0 lk1 qk1 lk2 qk2 lk3 qk3
  generalize ((w1.alloc (.cells (bA (tab nof)) 26)).setRow w1.heap.size (bA (tab (B x)))) = w2 at *
  generalize w1.heap.size = g1 at *
  go_wp2_with (first | (go_at_call 13; with_reducible refine (r_Bits y _).mono ?_; rintro e w3 ⟨rfl, hb⟩; have k0 := pw_cell_below hb k0; have k1 := pw_cell_below hb k1; have k2 := pw_cell_below hb k2; have k3 := pw_cell_below hb k3; have hB := Lib.hid (below_step hB.out hb); have bx := Blk.below bx hb; clear hb; have hst := (Blk.new w3 nof).store (B y); have lk0 := World.block_lt_of_cell? _ _ k0; dsimp only at lk0; have lk1 := World.block_lt_of_cell? _ _ k1; dsimp only at lk1; have lk2 := World.block_lt_of_cell? _ _ k2; dsimp only at lk2; have lk3 := World.block_lt_of_cell? _ _ k3; dsimp only at lk3; have qk0 := cell_setRow_far (pw_cell_below (below_alloc (Below.refl w3.heap.size w3) (.cells (bA (tab nof)) 26)) k0) (Nat.ne_of_lt lk0) (bA (tab (B y))); have qk1 := cell_setRow_far (pw_cell_below (below_alloc (Below.refl w3.heap.size w3) (.cells (bA (tab nof)) 26)) k1) (Nat.ne_of_lt lk1) (bA (tab (B y))); have qk2 := cell_setRow_far (pw_cell_below (below_alloc (Below.refl w3.heap.size w3) (.cells (bA (tab nof)) 26)) k2) (Nat.ne_of_lt lk2) (bA (tab (B y))); have qk3 := cell_setRow_far (pw_cell_below (below_alloc (Below.refl w3.heap.size w3) (.cells (bA (tab nof)) 26)) k3) (Nat.ne_of_lt lk3) (bA (tab (B y)))))
  have k0 := qk0
  have k1 := qk1
  have k2 := qk2
  have k3 := qk3
  have bx := Blk.setRow_far (bx.alloc (.cells (bA (tab nof)) 26)) (Nat.ne_of_lt bx.lt) (bA (tab (B y)))
  have by' := Blk.setRow (Blk.new w3 nof) (B y)
  have hB := Lib.hid (below_setRow (below_alloc hB.out (.cells (bA (tab nof)) 26)) hB.out.size (bA (tab (B y))))
  clear hst lk0 qk0 lk1 qk1 lk2 qk2 lk3 qk3
  generalize ((w3.alloc (.cells (bA (tab nof)) 26)).setRow w3.heap.size (bA (tab (B y)))) = w4 at *
  generalize w3.heap.size = g2 at *
  refine drawnB (fun w' => Below w4.heap.size w4 w') _ rfl (by kernel_rfl) (by kernel_rfl) (below_drew (Below.refl _ _)) ?_
  simp only [List.map_cons, List.map_nil]
  repeat (first
    | (refine chain_on (v := ?_) (by rfl) (fun w' hw' => ?_) ?_
       rotate_left
       ·
         have k0 := pw_cell_below hw' k0
         have k1 := pw_cell_below hw' k1
         have k2 := pw_cell_below hw' k2
         have k3 := pw_cell_below hw' k3
         have BX := Lib.hid (Blk.below bx hw')
         have BY := Lib.hid (Blk.below by' hw')
         have hW := Lib.hid hw'
         clear hw'
         go_wp2_with (first
           | (go_at_call 14; with_reducible refine (c_Add _ _ _).mono ?_; rintro e w2 ⟨rfl, hb⟩; have BX := Lib.hid (Blk.below BX.out hb); have BY := Lib.hid (Blk.below BY.out hb); have hW := Lib.hid (below_step hW.out hb))
           | (go_at_call 17; with_reducible refine (c_Sub _ _ _).mono ?_; rintro e w2 ⟨rfl, hb⟩; have BX := Lib.hid (Blk.below BX.out hb); have BY := Lib.hid (Blk.below BY.out hb); have hW := Lib.hid (below_step hW.out hb))
           | (go_at_call 16; with_reducible refine (r_Add x y _).mono ?_; rintro e w2 ⟨rfl, hb⟩; have BX := Lib.hid (Blk.below BX.out hb); have BY := Lib.hid (Blk.below BY.out hb); have hW := Lib.hid (below_step hW.out hb))
           | (go_at_call 16; with_reducible refine (r_Add1 x (-y - 1) _).mono ?_; rintro e w2 ⟨rfl, hb⟩; have BX := Lib.hid (Blk.below BX.out hb); have BY := Lib.hid (Blk.below BY.out hb); have hW := Lib.hid (below_step hW.out hb))
           | (go_at_call 18; with_reducible refine (r_Not y _).mono ?_; rintro e w2 ⟨rfl, hb⟩; have BX := Lib.hid (Blk.below BX.out hb); have BY := Lib.hid (Blk.below BY.out hb); have hW := Lib.hid (below_step hW.out hb))
           | (go_at_call 15; with_reducible refine (r_Of _ _).mono ?_; rintro e w2 ⟨rfl, hb⟩; have BX := Lib.hid (Blk.below BX.out hb); have BY := Lib.hid (Blk.below BY.out hb); have hW := Lib.hid (below_step hW.out hb))
           | (refine wpList_load_row rfl 26 _ rfl g1 rfl 26 _ (0, 0) _ BX.out Try.underlying26 rfl (by rw [bA_size, tab_len]; exact info128) ?_)
           | (refine wpList_load_row rfl 26 _ rfl g2 rfl 26 _ (0, 0) _ BY.out Try.underlying26 rfl (by rw [bA_size, tab_len]; exact info128) ?_)
           | fail)
         (try rw [neqWide (by omega)])
         refine ⟨?_, hW.out⟩
         simp only [Act.put, List.setIfInBounds_toArray, List.set_cons_zero, List.set_cons_succ]
         rfl
       simp only [Act.put, List.setIfInBounds_toArray, List.set_cons_zero, List.set_cons_succ])
    | (refine chain_off (by rfl) ?_
       simp only [Act.put, List.setIfInBounds_toArray, List.set_cons_zero, List.set_cons_succ]))
  refine chain_end (fun w5 hw' => ?_)
  have bx := Blk.below bx hw'
  have by' := Blk.below by' hw'
  have k0 := pw_cell_below hw' k0
  have k1 := pw_cell_below hw' k1
  have k2 := pw_cell_below hw' k2
  have k3 := pw_cell_below hw' k3
  have hB := Lib.hid (below_step hB.out hw')
  clear hw'
  go_wp2
  refine drawnB (fun w' => Below w5.heap.size w5 w') _ rfl (by kernel_rfl) (by kernel_rfl) (below_drew (Below.refl _ _)) ?_
  simp only [List.map_cons, List.map_nil]
  repeat (first
    | (refine chain_on (v := ?_) (by rfl) (fun w' hw' => ?_) ?_
       rotate_left
       ·
         have k0 := pw_cell_below hw' k0
         have k1 := pw_cell_below hw' k1
         have k2 := pw_cell_below hw' k2
         have k3 := pw_cell_below hw' k3
         have BX := Lib.hid (Blk.below bx hw')
         have BY := Lib.hid (Blk.below by' hw')
         have hW := Lib.hid hw'
         clear hw'
         go_wp2_with (first
           | (go_at_call 19; with_reducible refine (c_Compare x y HX.out HY.out _).mono ?_; rintro e w2 ⟨rfl, hb⟩; have BX := Lib.hid (Blk.below BX.out hb); have BY := Lib.hid (Blk.below BY.out hb); have hW := Lib.hid (below_step hW.out hb))
           | (go_at_call 20; with_reducible refine (r_Compare x y HX.out HY.out _).mono ?_; rintro e w2 ⟨rfl, hb⟩; have BX := Lib.hid (Blk.below BX.out hb); have BY := Lib.hid (Blk.below BY.out hb); have hW := Lib.hid (below_step hW.out hb))
           | (go_at_call 21; with_reducible refine (c_Times x n HN.out _).mono ?_; rintro e w2 ⟨rfl, hb⟩; have BX := Lib.hid (Blk.below BX.out hb); have BY := Lib.hid (Blk.below BY.out hb); have hW := Lib.hid (below_step hW.out hb))
           | (go_at_call 22; with_reducible refine (r_Times x n HN.out _).mono ?_; rintro e w2 ⟨rfl, hb⟩; have BX := Lib.hid (Blk.below BX.out hb); have BY := Lib.hid (Blk.below BY.out hb); have hW := Lib.hid (below_step hW.out hb))
           | (go_at_call 15; with_reducible refine (r_Of _ _).mono ?_; rintro e w2 ⟨rfl, hb⟩; have BX := Lib.hid (Blk.below BX.out hb); have BY := Lib.hid (Blk.below BY.out hb); have hW := Lib.hid (below_step hW.out hb))
           | (go_at_call 23; with_reducible refine (c_Code x _).mono ?_; rintro e w2 ⟨rfl, hb⟩; have BX := Lib.hid (Blk.below BX.out hb); have BY := Lib.hid (Blk.below BY.out hb); have hW := Lib.hid (below_step hW.out hb))
           | (go_at_call 24; with_reducible refine (r_Code x _).mono ?_; rintro e w2 ⟨rfl, hb⟩; have BX := Lib.hid (Blk.below BX.out hb); have BY := Lib.hid (Blk.below BY.out hb); have hW := Lib.hid (below_step hW.out hb))
           | (refine wpList_load_row rfl 26 _ rfl g1 rfl 26 _ (0, 0) _ BX.out Try.underlying26 rfl (by rw [bA_size, tab_len]; exact info128) ?_)
           | (refine wpList_load_row rfl 26 _ rfl g2 rfl 26 _ (0, 0) _ BY.out Try.underlying26 rfl (by rw [bA_size, tab_len]; exact info128) ?_)
           | fail)
         (try rw [neqWide (by omega)])
         refine ⟨?_, hW.out⟩
         simp only [Act.put, List.setIfInBounds_toArray, List.set_cons_zero, List.set_cons_succ]
         rfl
       simp only [Act.put, List.setIfInBounds_toArray, List.set_cons_zero, List.set_cons_succ])
    | (refine chain_off (by rfl) ?_
       simp only [Act.put, List.setIfInBounds_toArray, List.set_cons_zero, List.set_cons_succ]))
  refine chain_end (fun w6 hw' => ?_)
  have bx := Blk.below bx hw'
  have by' := Blk.below by' hw'
  have k0 := pw_cell_below hw' k0
  have k1 := pw_cell_below hw' k1
  have k2 := pw_cell_below hw' k2
  have k3 := pw_cell_below hw' k3
  have hB := Lib.hid (below_step hB.out hw')
  clear hw'
  rcases HP.out with ⟨hi, e1, ⟨e2, e3⟩ | ⟨e2, e3, e4⟩⟩ | ⟨hi, ⟨e2, e3, e4⟩ | ⟨e2, e3, e4⟩ | ⟨e2, e3⟩⟩
  all_goals (have HI := Lib.hid hi; clear hi)
  all_goals (rcases HO.out with ⟨o1, ⟨o2, o3, o4⟩ | ⟨o2, o3, o4⟩⟩)
  all_goals (rcases Decidable.em (s.size = 16) with h16 | h16)
  all_goals (have H16 := Lib.hid h16)
  all_goals (have h17 : (s.size : Int) = 16 ∨ ¬ (s.size : Int) = 16 := by first | exact Or.inl (by omega) | exact Or.inr (by omega))
  all_goals (rcases h17 with h17 | h17)
  all_goals (try (exfalso; omega))
  all_goals (clear h16)
  all_goals (go_wp2_with (first
    | (go_at_call 25; with_reducible refine (c_Int_yes x HI.out _).mono ?_; rintro e w7 ⟨rfl, hb⟩; have k0 := pw_cell_below hb k0; have k1 := pw_cell_below hb k1; have hB := Lib.hid (below_step hB.out hb); clear hb)
    | (go_at_call 25; with_reducible refine (c_Int_no x HX.out HI.out _).mono ?_; rintro e w7 ⟨rfl, hb⟩; have k0 := pw_cell_below hb k0; have k1 := pw_cell_below hb k1; have hB := Lib.hid (below_step hB.out hb); clear hb)
    | (go_at_call 26; with_reducible refine (c_Of n HN.out _).mono ?_; rintro e w8 ⟨rfl, hb⟩; have hB := Lib.hid (below_step hB.out hb); clear hb)
    | (go_at_call 27; with_reducible refine (c_Read s H16.out _).mono ?_; rintro e w9 ⟨rfl, hb⟩; have hB := Lib.hid (below_step (below_alloc hB.out _) hb); clear hb)
    | (go_at_call 27; with_reducible refine (c_Read_no s H16.out _).mono ?_; rintro e w9 ⟨rfl, hb⟩; have hB := Lib.hid (below_step (below_alloc hB.out _) hb); clear hb)
    | (go_at_call 24; with_reducible refine (r_Code (numOf s) _).mono ?_; rintro e w10 ⟨rfl, hb⟩; have hB := Lib.hid (below_step (below_alloc hB.out _) hb); clear hb)))
  all_goals (try rw [HC.out H16.out])
  all_goals (go_ret; refine ⟨by first | rfl | (simp; done), ?_⟩; first | exact hB.out | exact below_alloc hB.out _)
end Go.Proofs.Ytkcckhlchjmkkaa
