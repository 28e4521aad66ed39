/-
  THE LAWS' WALKS: WideLaws.
-/
import Derived.Test.YtkcckhlchjmkkaaWideL
import Derived.Outline
set_option linter.unusedVariables false
set_option linter.unusedSimpArgs false
namespace Go.Proofs.Ytkcckhlchjmkkaa
open Go.RowKit Go.Proofs.YtkcckhlchjmkkaaW.PrintWords
attribute [local go_sem high] eqWide


set_option maxRecDepth 100000 in
set_option maxHeartbeats 8000000 in
theorem l_WideLaws (x y z m n : Int) (hx : I128 x) (hm : I64 m) (hn : I64 n) (w : World) : Calls Try.prog 4 #[Wv x, Wv y, Wv z, .int .i64 m, .int .i64 n] w fun e w' => e = .returned (.bool true) ∧ Below w.heap.size w w' := by
  have cc : cmpI (m - n) 0 = cmpI m n := by unfold cmpI; (repeat' split) <;> omega
  have cl : (decide (cmpI m n < 0)) = decide (m < n) := by unfold cmpI; (repeat' split) <;> simp <;> omega
  have ce : (cmpI m n == 0) = (m == n) := by
    rw [Bool.eq_iff_iff, beq_iff_eq, beq_iff_eq]; unfold cmpI; (repeat' split) <;> omega
  have cr : Wv (numOf (code16 x)) = Wv x := num_code x
  have rd := c_Read (code16 x) (code16_size x)
  rw [cr] at rd
  have RD := Lib.hid rd
  have C1 : Hid (I128 (m - n) ∧ I128 0 ∧ I128 m ∧ I128 n) := by unfold I128 I64 at *; refine ⟨⟨?_, ?_⟩, ⟨?_, ?_⟩, ⟨?_, ?_⟩, ⟨?_, ?_⟩⟩ <;> omega
  have HM := Lib.hid hm
  have HN := Lib.hid hn
  clear hm hn hx cr rd
  go_enter Try.func4, Try.ntmps4
  have k0 : (((w.alloc (.cells #[.int .i64 (hiOf x), .int .u64 (loOf x)] 24)).alloc (.cells #[.int .i64 (hiOf y), .int .u64 (loOf y)] 24)).alloc (.cells #[.int .i64 (hiOf z), .int .u64 (loOf z)] 24)).cell? ⟨w.heap.size, 0, none⟩ = some (.int .i64 (hiOf x)) := by simp [go_sem]
  have k1 : (((w.alloc (.cells #[.int .i64 (hiOf x), .int .u64 (loOf x)] 24)).alloc (.cells #[.int .i64 (hiOf y), .int .u64 (loOf y)] 24)).alloc (.cells #[.int .i64 (hiOf z), .int .u64 (loOf z)] 24)).cell? ⟨w.heap.size, 1, none⟩ = some (.int .u64 (loOf x)) := by simp [go_sem]
  have k2 : (((w.alloc (.cells #[.int .i64 (hiOf x), .int .u64 (loOf x)] 24)).alloc (.cells #[.int .i64 (hiOf y), .int .u64 (loOf y)] 24)).alloc (.cells #[.int .i64 (hiOf z), .int .u64 (loOf z)] 24)).cell? ⟨w.heap.size + 1, 0, none⟩ = some (.int .i64 (hiOf y)) := by simp [go_sem]
  have k3 : (((w.alloc (.cells #[.int .i64 (hiOf x), .int .u64 (loOf x)] 24)).alloc (.cells #[.int .i64 (hiOf y), .int .u64 (loOf y)] 24)).alloc (.cells #[.int .i64 (hiOf z), .int .u64 (loOf z)] 24)).cell? ⟨w.heap.size + 1, 1, none⟩ = some (.int .u64 (loOf y)) := by simp [go_sem]
  have k4 : (((w.alloc (.cells #[.int .i64 (hiOf x), .int .u64 (loOf x)] 24)).alloc (.cells #[.int .i64 (hiOf y), .int .u64 (loOf y)] 24)).alloc (.cells #[.int .i64 (hiOf z), .int .u64 (loOf z)] 24)).cell? ⟨w.heap.size + 1 + 1, 0, none⟩ = some (.int .i64 (hiOf z)) := by simp [go_sem]
  have k5 : (((w.alloc (.cells #[.int .i64 (hiOf x), .int .u64 (loOf x)] 24)).alloc (.cells #[.int .i64 (hiOf y), .int .u64 (loOf y)] 24)).alloc (.cells #[.int .i64 (hiOf z), .int .u64 (loOf z)] 24)).cell? ⟨w.heap.size + 1 + 1, 1, none⟩ = some (.int .u64 (loOf z)) := by simp [go_sem]
  have hB : Hid (Below w.heap.size w (((w.alloc (.cells #[.int .i64 (hiOf x), .int .u64 (loOf x)] 24)).alloc (.cells #[.int .i64 (hiOf y), .int .u64 (loOf y)] 24)).alloc (.cells #[.int .i64 (hiOf z), .int .u64 (loOf z)] 24))) := below_alloc (below_alloc (below_alloc (Below.refl _ _) _) _) _
  go_wp2_with (first | (go_at_call 12; with_reducible refine (c_awake _).mono ?_; rintro e w1 ⟨rfl, hb⟩; have k0 := pw_cell_below hb k0; have k1 := pw_cell_below hb k1; have k2 := pw_cell_below hb k2; have k3 := pw_cell_below hb k3; have k4 := pw_cell_below hb k4; have k5 := pw_cell_below hb k5; have hB := Lib.hid (below_step hB.out hb); clear hb))
  refine drawnB (fun w' => Below w1.heap.size w1 w') _ rfl (by kernel_rfl) (by kernel_rfl) (below_drew (Below.refl _ _)) ?_
  simp only [List.map_cons, List.map_nil]
  repeat (first
    | (refine chain_on (v := ?_) (by rfl) (fun w' hw' => ?_) ?_
       rotate_left
       ·
         have k0 := pw_cell_below hw' k0
         have k1 := pw_cell_below hw' k1
         have k2 := pw_cell_below hw' k2
         have k3 := pw_cell_below hw' k3
         have k4 := pw_cell_below hw' k4
         have k5 := pw_cell_below hw' k5
         have hW := Lib.hid hw'
         clear hw'
         go_wp2_with (first
           | (go_at_call 14; with_reducible refine (c_Add _ _ _).mono ?_; rintro e w2 ⟨rfl, hb⟩; have hW := Lib.hid (below_step hW.out hb))
           | (go_at_call 17; with_reducible refine (c_Sub _ _ _).mono ?_; rintro e w2 ⟨rfl, hb⟩; have hW := Lib.hid (below_step hW.out hb))
           | (go_at_call 26; with_reducible refine (c_Of 0 (by unfold I64; omega) _).mono ?_; rintro e w2 ⟨rfl, hb⟩; have hW := Lib.hid (below_step hW.out hb))
           | fail)
         (try rw [neqWide (by first | omega | exact Int.add_mul _ _ _ | exact Int.mul_comm _ _)])
         refine ⟨?_, hW.out⟩
         simp only [Act.put, List.setIfInBounds_toArray, List.set_cons_zero, List.set_cons_succ]
         rfl
       simp only [Act.put, List.setIfInBounds_toArray, List.set_cons_zero, List.set_cons_succ])
    | (refine chain_off (by rfl) ?_
       simp only [Act.put, List.setIfInBounds_toArray, List.set_cons_zero, List.set_cons_succ]))
  refine chain_end (fun w' hw' => ?_)
  have k0 := pw_cell_below hw' k0
  have k1 := pw_cell_below hw' k1
  have k2 := pw_cell_below hw' k2
  have k3 := pw_cell_below hw' k3
  have k4 := pw_cell_below hw' k4
  have k5 := pw_cell_below hw' k5
  have hB := Lib.hid (below_step hB.out hw')
  clear hw'
  go_wp2
  refine drawnB (fun w'' => Below w'.heap.size w' w'') _ rfl (by kernel_rfl) (by kernel_rfl) (below_drew (Below.refl _ _)) ?_
  simp only [List.map_cons, List.map_nil]
  repeat (first
    | (refine chain_on (v := ?_) (by rfl) (fun w'' hw' => ?_) ?_
       rotate_left
       ·
         have k0 := pw_cell_below hw' k0
         have k1 := pw_cell_below hw' k1
         have k2 := pw_cell_below hw' k2
         have k3 := pw_cell_below hw' k3
         have k4 := pw_cell_below hw' k4
         have k5 := pw_cell_below hw' k5
         have hW := Lib.hid hw'
         clear hw'
         go_wp2_with (first
           | (go_at_call 14; with_reducible refine (c_Add _ _ _).mono ?_; rintro e w2 ⟨rfl, hb⟩; have hW := Lib.hid (below_step hW.out hb))
           | (go_at_call 17; with_reducible refine (c_Sub _ _ _).mono ?_; rintro e w2 ⟨rfl, hb⟩; have hW := Lib.hid (below_step hW.out hb))
           | (go_at_call 26; with_reducible refine (c_Of 0 (by unfold I64; omega) _).mono ?_; rintro e w2 ⟨rfl, hb⟩; have hW := Lib.hid (below_step hW.out hb))
           | (go_at_call 21; with_reducible refine (c_Times _ n HN.out _).mono ?_; rintro e w2 ⟨rfl, hb⟩; have hW := Lib.hid (below_step hW.out hb))
           | (go_at_call 21; with_reducible refine (c_Times _ m HM.out _).mono ?_; rintro e w2 ⟨rfl, hb⟩; have hW := Lib.hid (below_step hW.out hb))
           | (go_at_call 21; with_reducible refine (c_Times _ 1 (by unfold I64; omega) _).mono ?_; rintro e w2 ⟨rfl, hb⟩; have hW := Lib.hid (below_step hW.out hb))
           | (go_at_call 21; with_reducible refine (c_Times _ (-1) (by unfold I64; omega) _).mono ?_; rintro e w2 ⟨rfl, hb⟩; have hW := Lib.hid (below_step hW.out hb))
           | fail)
         (try rw [neqWide (by first | omega | exact Int.add_mul _ _ _ | exact Int.mul_comm _ _)])
         refine ⟨?_, hW.out⟩
         simp only [Act.put, List.setIfInBounds_toArray, List.set_cons_zero, List.set_cons_succ]
         rfl
       simp only [Act.put, List.setIfInBounds_toArray, List.set_cons_zero, List.set_cons_succ])
    | (refine chain_off (by rfl) ?_
       simp only [Act.put, List.setIfInBounds_toArray, List.set_cons_zero, List.set_cons_succ]))
  refine chain_end (fun w'' hw' => ?_)
  have k0 := pw_cell_below hw' k0
  have k1 := pw_cell_below hw' k1
  have k2 := pw_cell_below hw' k2
  have k3 := pw_cell_below hw' k3
  have k4 := pw_cell_below hw' k4
  have k5 := pw_cell_below hw' k5
  have hB := Lib.hid (below_step hB.out hw')
  clear hw'
  go_wp2_with (first | (go_at_call 26; with_reducible refine (c_Of m HM.out _).mono ?_; rintro e w3 ⟨rfl, hb⟩; have k0 := pw_cell_below hb k0; have k1 := pw_cell_below hb k1; have k2 := pw_cell_below hb k2; have k3 := pw_cell_below hb k3; have k4 := pw_cell_below hb k4; have k5 := pw_cell_below hb k5; have hB := Lib.hid (below_step hB.out hb); clear hb))
  have k6 : (w3.alloc (.cells #[.int .i64 (hiOf m), .int .u64 (loOf m)] 24)).cell? ⟨w3.heap.size, 0, none⟩ = some (.int .i64 (hiOf m)) := by simp [go_sem]
  have k7 : (w3.alloc (.cells #[.int .i64 (hiOf m), .int .u64 (loOf m)] 24)).cell? ⟨w3.heap.size, 1, none⟩ = some (.int .u64 (loOf m)) := by simp [go_sem]
  have k0 := pw_cell_below (below_alloc (Below.refl w3.heap.size w3) (.cells #[.int .i64 (hiOf m), .int .u64 (loOf m)] 24)) k0
  have k1 := pw_cell_below (below_alloc (Below.refl w3.heap.size w3) (.cells #[.int .i64 (hiOf m), .int .u64 (loOf m)] 24)) k1
  have k2 := pw_cell_below (below_alloc (Below.refl w3.heap.size w3) (.cells #[.int .i64 (hiOf m), .int .u64 (loOf m)] 24)) k2
  have k3 := pw_cell_below (below_alloc (Below.refl w3.heap.size w3) (.cells #[.int .i64 (hiOf m), .int .u64 (loOf m)] 24)) k3
  have k4 := pw_cell_below (below_alloc (Below.refl w3.heap.size w3) (.cells #[.int .i64 (hiOf m), .int .u64 (loOf m)] 24)) k4
  have k5 := pw_cell_below (below_alloc (Below.refl w3.heap.size w3) (.cells #[.int .i64 (hiOf m), .int .u64 (loOf m)] 24)) k5
  have hB := Lib.hid (below_alloc hB.out (.cells #[.int .i64 (hiOf m), .int .u64 (loOf m)] 24))
  generalize w3.alloc (.cells #[.int .i64 (hiOf m), .int .u64 (loOf m)] 24) = w4 at *
  generalize w3.heap.size = g1 at *
  go_wp2_with (first | (go_at_call 26; with_reducible refine (c_Of n HN.out _).mono ?_; rintro e w5 ⟨rfl, hb⟩; have k0 := pw_cell_below hb k0; have k1 := pw_cell_below hb k1; have k2 := pw_cell_below hb k2; have k3 := pw_cell_below hb k3; have k4 := pw_cell_below hb k4; have k5 := pw_cell_below hb k5; have k6 := pw_cell_below hb k6; have k7 := pw_cell_below hb k7; have hB := Lib.hid (below_step hB.out hb); clear hb; have hl6 := World.block_lt_of_cell? _ _ k6; dsimp only at hl6))
  have k8 : (w5.alloc (.cells #[.int .i64 (hiOf n), .int .u64 (loOf n)] 24)).cell? ⟨w5.heap.size, 0, none⟩ = some (.int .i64 (hiOf n)) := by simp [go_sem]
  have k9 : (w5.alloc (.cells #[.int .i64 (hiOf n), .int .u64 (loOf n)] 24)).cell? ⟨w5.heap.size, 1, none⟩ = some (.int .u64 (loOf n)) := by simp [go_sem]
  have k0 := pw_cell_below (below_alloc (Below.refl w5.heap.size w5) (.cells #[.int .i64 (hiOf n), .int .u64 (loOf n)] 24)) k0
  have k1 := pw_cell_below (below_alloc (Below.refl w5.heap.size w5) (.cells #[.int .i64 (hiOf n), .int .u64 (loOf n)] 24)) k1
  have k2 := pw_cell_below (below_alloc (Below.refl w5.heap.size w5) (.cells #[.int .i64 (hiOf n), .int .u64 (loOf n)] 24)) k2
  have k3 := pw_cell_below (below_alloc (Below.refl w5.heap.size w5) (.cells #[.int .i64 (hiOf n), .int .u64 (loOf n)] 24)) k3
  have k4 := pw_cell_below (below_alloc (Below.refl w5.heap.size w5) (.cells #[.int .i64 (hiOf n), .int .u64 (loOf n)] 24)) k4
  have k5 := pw_cell_below (below_alloc (Below.refl w5.heap.size w5) (.cells #[.int .i64 (hiOf n), .int .u64 (loOf n)] 24)) k5
  have k6 := pw_cell_below (below_alloc (Below.refl w5.heap.size w5) (.cells #[.int .i64 (hiOf n), .int .u64 (loOf n)] 24)) k6
  have k7 := pw_cell_below (below_alloc (Below.refl w5.heap.size w5) (.cells #[.int .i64 (hiOf n), .int .u64 (loOf n)] 24)) k7
  have hB := Lib.hid (below_alloc hB.out (.cells #[.int .i64 (hiOf n), .int .u64 (loOf n)] 24))
  generalize w5.alloc (.cells #[.int .i64 (hiOf n), .int .u64 (loOf n)] 24) = w6 at *
  generalize w5.heap.size = g2 at *
  go_wp2_with (first
    | (go_at_call 17; with_reducible refine (c_Sub m n _).mono ?_; rintro e w7 ⟨rfl, hb⟩; have k0 := pw_cell_below hb k0; have k1 := pw_cell_below hb k1; have k2 := pw_cell_below hb k2; have k3 := pw_cell_below hb k3; have k4 := pw_cell_below hb k4; have k5 := pw_cell_below hb k5; have k6 := pw_cell_below hb k6; have k7 := pw_cell_below hb k7; have k8 := pw_cell_below hb k8; have k9 := pw_cell_below hb k9; have hB := Lib.hid (below_step hB.out hb); clear hb)
    | (go_at_call 26; with_reducible refine (c_Of 0 (by unfold I64; omega) _).mono ?_; rintro e w7 ⟨rfl, hb⟩; have k0 := pw_cell_below hb k0; have k1 := pw_cell_below hb k1; have k2 := pw_cell_below hb k2; have k3 := pw_cell_below hb k3; have k4 := pw_cell_below hb k4; have k5 := pw_cell_below hb k5; have k6 := pw_cell_below hb k6; have k7 := pw_cell_below hb k7; have k8 := pw_cell_below hb k8; have k9 := pw_cell_below hb k9; have hB := Lib.hid (below_step hB.out hb); clear hb)
    | (go_at_call 19; with_reducible refine (c_Compare (m - n) 0 C1.out.1 C1.out.2.1 _).mono ?_; rintro e w7 ⟨rfl, hb⟩; have k0 := pw_cell_below hb k0; have k1 := pw_cell_below hb k1; have k2 := pw_cell_below hb k2; have k3 := pw_cell_below hb k3; have k4 := pw_cell_below hb k4; have k5 := pw_cell_below hb k5; have k6 := pw_cell_below hb k6; have k7 := pw_cell_below hb k7; have k8 := pw_cell_below hb k8; have k9 := pw_cell_below hb k9; have hB := Lib.hid (below_step hB.out hb); clear hb))
  refine drawnB (fun w' => Below w7.heap.size w7 w') _ rfl (by kernel_rfl) (by kernel_rfl) (below_drew (Below.refl _ _)) ?_
  simp only [List.map_cons, List.map_nil]
  repeat (first
    | (refine chain_on (v := ?_) (by rfl) (fun w' hw' => ?_) ?_
       rotate_left
       ·
         have k0 := pw_cell_below hw' k0
         have k1 := pw_cell_below hw' k1
         have k2 := pw_cell_below hw' k2
         have k3 := pw_cell_below hw' k3
         have k4 := pw_cell_below hw' k4
         have k5 := pw_cell_below hw' k5
         have k6 := pw_cell_below hw' k6
         have k7 := pw_cell_below hw' k7
         have k8 := pw_cell_below hw' k8
         have k9 := pw_cell_below hw' k9
         have hW := Lib.hid hw'
         clear hw'
         go_wp2_with (first
           | (go_at_call 19; with_reducible refine (c_Compare m n C1.out.2.2.1 C1.out.2.2.2 _).mono ?_; rintro e w2 ⟨rfl, hb⟩; have hW := Lib.hid (below_step hW.out hb))
           | (go_at_call 21; with_reducible refine (c_Times m n HN.out _).mono ?_; rintro e w2 ⟨rfl, hb⟩; have hW := Lib.hid (below_step hW.out hb))
           | (go_at_call 21; with_reducible refine (c_Times n m HM.out _).mono ?_; rintro e w2 ⟨rfl, hb⟩; have hW := Lib.hid (below_step hW.out hb))
           | fail)
         (try rw [neqWide (by first | omega | exact Int.add_mul _ _ _ | exact Int.mul_comm _ _)])
         refine ⟨?_, hW.out⟩
         simp only [Act.put, List.setIfInBounds_toArray, List.set_cons_zero, List.set_cons_succ]
         rfl
       simp only [Act.put, List.setIfInBounds_toArray, List.set_cons_zero, List.set_cons_succ])
    | (refine chain_off (by rfl) ?_
       simp only [Act.put, List.setIfInBounds_toArray, List.set_cons_zero, List.set_cons_succ]))
  refine chain_end (fun w' hw' => ?_)
  have k0 := pw_cell_below hw' k0
  have k1 := pw_cell_below hw' k1
  have k2 := pw_cell_below hw' k2
  have k3 := pw_cell_below hw' k3
  have k4 := pw_cell_below hw' k4
  have k5 := pw_cell_below hw' k5
  have k6 := pw_cell_below hw' k6
  have k7 := pw_cell_below hw' k7
  have k8 := pw_cell_below hw' k8
  have k9 := pw_cell_below hw' k9
  have hB := Lib.hid (below_step hB.out hw')
  clear hw'
  go_wp2_with (first
    | (go_at_call 23; with_reducible refine (c_Code x _).mono ?_; rintro e w8 ⟨rfl, hb⟩; have k0 := pw_cell_below hb k0; have k1 := pw_cell_below hb k1; have k2 := pw_cell_below hb k2; have k3 := pw_cell_below hb k3; have k4 := pw_cell_below hb k4; have k5 := pw_cell_below hb k5; have k6 := pw_cell_below hb k6; have k7 := pw_cell_below hb k7; have k8 := pw_cell_below hb k8; have k9 := pw_cell_below hb k9; have hB := Lib.hid (below_step hB.out hb); clear hb)
    | (go_at_call 27; with_reducible refine (RD.out _).mono ?_; rintro e w8 ⟨rfl, hb⟩; have k0 := pw_cell_below hb k0; have k1 := pw_cell_below hb k1; have k2 := pw_cell_below hb k2; have k3 := pw_cell_below hb k3; have k4 := pw_cell_below hb k4; have k5 := pw_cell_below hb k5; have k6 := pw_cell_below hb k6; have k7 := pw_cell_below hb k7; have k8 := pw_cell_below hb k8; have k9 := pw_cell_below hb k9; have hB := Lib.hid (below_step hB.out hb); clear hb; have hl0 := World.block_lt_of_cell? _ _ k0; dsimp only at hl0))
  go_ret
  exact ⟨rfl, below_alloc hB.out _⟩
end Go.Proofs.Ytkcckhlchjmkkaa
