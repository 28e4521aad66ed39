/-
  'gauger's law ArkExact holds of every input: it returns true, and each argument reads behind the call as it read before.
  This text: part 4 of 19 of the proof (ArkR).
-/
import Derived.Test.YtfkkeddjfiljfaaMac
import Derived.Lib.Hide
import Derived.Outline
set_option linter.unusedVariables false
set_option linter.unusedSimpArgs false
namespace Go.Proofs.Ytfkkeddjfiljfaa
open Go.RowKit Go.Shelf Go.Proofs.YtfkkeddjfiljfaaW.PrintWords Go.Proofs.YtfkkeddjfiljfaaW.PrintMore Go.Proofs.Ytfkkeddjfiljfaa.PArk
def parseV (s : ByteArray) : Vl :=
 if bt s 0 = 1 then ⟨1, wrap64 (bits .xor .u64 (beNum (bytesOf (s.extract 1 9))) 9223372036854775808), ⟨#[]⟩⟩
 else if bt s 0 = 2 then (if bt s 8 ≤ 7 then ⟨2, 0, s.extract 1 (1 + (bt s 8).toNat)⟩ else ⟨2, 0, ⟨#[]⟩⟩) else ⟨bt s 0, 0, ⟨#[]⟩⟩
def readV (s : ByteArray) : Vl × Int := if s.size = 9 ∧ goodV (parseV s) = true ∧ (codeV (parseV s)).toList = s.toList then (parseV s, 0) else (z47, 3)
set_option maxRecDepth 100000 in
set_option maxHeartbeats 1000000 in
theorem c_Read1 (s : ByteArray) (w : World) : Calls Try.prog 61 #[.string s] w fun e w' => e = .returned (.tuple #[.agg #[.int .i64 (readV s).1.f0, .int .i64 (readV s).1.f1, .string (readV s).1.f2], .int .i64 (readV s).2]) ∧ Below w.heap.size w w' := by
 by_cases h9 : s.size = 9
 ·have hd : ((s.size : Int) != 9) = false := by rw [h9]; rfl
  have i0 : 0 < s.size := by omega
  have i8 : 8 < s.size := by omega
  have c9 : decide (0 < (s.size : Int)) = true := decide_eq_true (by omega)
  have d9 : decide (8 < (s.size : Int)) = true := decide_eq_true (by omega)
  have H9 := Lib.hid h9
  clear h9
  obtain ⟨q0, hq0⟩ : ∃ q, bt s 0 = q := ⟨_, rfl⟩
  obtain ⟨q8, hq8⟩ : ∃ q, bt s 8 = q := ⟨_, rfl⟩
  have r0 := bt_range s 0
  have r8 := bt_range s 8
  have e0 : wrap64 ((s[0]'i0).toNat : Int) = q0 := by
   have := bt_at s 0 i0
   rw [hq0] at this r0
   show wrap64 ((s[Int.toNat 0]'i0).toNat : Int) = q0
   rw [this]
   unfold wrap64
   omega
  have e8 : wrap64 ((s[8]'i8).toNat : Int) = q8 := by
   have := bt_at s 8 i8
   rw [hq8] at this r8
   show wrap64 ((s[Int.toNat 8]'i8).toNat : Int) = q8
   rw [this]
   unfold wrap64
   omega
  rw [hq0] at r0
  rw [hq8] at r8
  have HQ0 := Lib.hid hq0
  have HQ8 := Lib.hid hq8
  clear hq0 hq8
  by_cases k1 : q0 = 1
  ·have hk1 : (q0 == 1) = true := by simpa using k1
   subst k1
   obtain ⟨t, ht⟩ : ∃ t, s.extract 1 s.size = t := ⟨_, rfl⟩
   have ts : t.size = 8 := by
    rw [← ht, ByteArray.size_extract]
    have := H9.out
    omega
   have hp : parseV s = (⟨1, wrap64 (bits .xor .u64 (beNum (bytesOf t)) 9223372036854775808), ⟨#[]⟩⟩ : Vl) := by unfold parseV; rw [HQ0.out, if_pos rfl, ← ht, H9.out]
   have HP := Lib.hid hp
   have HTS := Lib.hid ts
   have ts2 : t.size ≤ 1000 := by omega
   clear ts hp
   have kb := fun W => print_bytes (P := Try.prog) 9 49 5 Try.underlying9 Try.underlying49 Try.underlying5 t W
   have HB0 : Hid (Below w.heap.size w ((w.alloc (.cells #[.int .i64 0, .int .i64 0, .string ⟨#[]⟩] 47)).alloc (.cells #[.int .i64 1, .int .i64 0, .string ⟨#[]⟩] 47))) := below_alloc (below_alloc (Below.refl _ _) _) _
   have R2 : Hid (((w.alloc (.cells #[.int .i64 0, .int .i64 0, .string ⟨#[]⟩] 47)).alloc (.cells #[.int .i64 1, .int .i64 0, .string ⟨#[]⟩] 47)).heap[w.heap.size]? = some (.cells #[.int .i64 0, .int .i64 0, .string ⟨#[]⟩] 47 (0, 0))) := blk_alloc (heap_alloc_new w _) _
   have R4 : Hid (((w.alloc (.cells #[.int .i64 0, .int .i64 0, .string ⟨#[]⟩] 47)).alloc (.cells #[.int .i64 1, .int .i64 0, .string ⟨#[]⟩] 47)).heap[w.heap.size + 1]? = some (.cells #[.int .i64 1, .int .i64 0, .string ⟨#[]⟩] 47 (0, 0))) := by
    have h := heap_alloc_new (w.alloc (.cells #[.int .i64 0, .int .i64 0, .string ⟨#[]⟩] 47)) (.cells #[.int .i64 1, .int .i64 0, .string ⟨#[]⟩] 47)
    have e : (w.alloc (.cells #[.int .i64 0, .int .i64 0, .string ⟨#[]⟩] 47)).heap.size = w.heap.size + 1 := by simp
    rw [e] at h
    exact h
   go_enter Try.func61, Try.ntmps61
   go_upto_region 8 with (fail)
   have hsz : ((w.alloc (.cells #[.int .i64 0, .int .i64 0, .string ⟨#[]⟩] 47)).alloc (.cells #[.int .i64 1, .int .i64 0, .string ⟨#[]⟩] 47)).heap.size = w.heap.size + 1 + 1 := by simp
   have HR0 := bytes_reads ((w.alloc (.cells #[.int .i64 0, .int .i64 0, .string ⟨#[]⟩] 47)).alloc (.cells #[.int .i64 1, .int .i64 0, .string ⟨#[]⟩] 47)) 5 t (by omega)
   rw [hsz] at HR0
   have hbb : Below ((w.alloc (.cells #[.int .i64 0, .int .i64 0, .string ⟨#[]⟩] 47)).alloc (.cells #[.int .i64 1, .int .i64 0, .string ⟨#[]⟩] 47)).heap.size ((w.alloc (.cells #[.int .i64 0, .int .i64 0, .string ⟨#[]⟩] 47)).alloc (.cells #[.int .i64 1, .int .i64 0, .string ⟨#[]⟩] 47)) (Lib.bytesWorld ((w.alloc (.cells #[.int .i64 0, .int .i64 0, .string ⟨#[]⟩] 47)).alloc (.cells #[.int .i64 1, .int .i64 0, .string ⟨#[]⟩] 47)) 5 t) := bytes_below (Below.refl _ _) (Nat.le_refl _) _ _
   have HB1 := Lib.hid (below_step HB0.out hbb)
   have R2 := Lib.hid (blk_below R2.out hbb)
   have R4 := Lib.hid (blk_below R4.out hbb)
   have HRD := Lib.hid HR0
   clear kb ht HR0 hbb hsz
   generalize Lib.bytesWorld ((w.alloc (.cells #[.int .i64 0, .int .i64 0, .string ⟨#[]⟩] 47)).alloc (.cells #[.int .i64 1, .int .i64 0, .string ⟨#[]⟩] 47)) 5 t = WL at *
   go_loopw [6, 30] (fun u v wr => ∃ k : Nat, k ≤ t.size ∧ v = .int .i64 k ∧ u = .int .u64 (beNum ((bytesOf t).take k)) ∧ Hid (ReadsInt wr .u8 (some ⟨w.heap.size + 1 + 1, 0, none⟩) t.size (bytesOf t)) ∧ Hid (wr.heap[w.heap.size]? = some (.cells #[.int .i64 0, .int .i64 0, .string ⟨#[]⟩] 47 (0, 0))) ∧ Hid (wr.heap[w.heap.size + 1]? = some (.cells #[.int .i64 1, .int .i64 0, .string ⟨#[]⟩] 47 (0, 0))) ∧ Hid (Below w.heap.size w wr)) (fun _ v _ => t.size - (intOf v).toNat)
   case atStart => exact ⟨0, by omega, rfl, rfl, HRD, R2, R4, HB1⟩
   case round =>
    obtain ⟨k, hk, rfl, rfl, HR, R2, R4, HB⟩ := hrel
    by_cases hlt : k < t.size
    ·obtain ⟨ad, he, hc⟩ := HR.out.at_ k (by omega) (by omega)
     obtain rfl := Option.some.inj he
     rw [add_plain, Int.toNat_natCast] at hc
     clear he
     have HBT : Hid (0 ≤ rd (bytesOf t) k ∧ rd (bytesOf t) k ≤ 255) := by rw [rd_bytesOf]; exact bt_range _ _
     go_wp2
     go_roundw
     case rel => exact ⟨k + 1, by omega, by go_num, by rw [bytesOf_take_succ t k hlt, beNum_snoc, or_byte _ _ HBT.out.1 HBT.out.2], HR, R2, R4, HB⟩
     case measure => simp [intOf]; omega
    ·have hk8 : k = t.size := by omega
     have HE : Hid ((bytesOf t).take k = bytesOf t) := List.take_of_length_le (by rw [bytesOf_length]; omega)
     rw [HE.out]
     clear hk8
     obtain ⟨nn, hnn⟩ : ∃ nn, wrap64 (bits .xor .u64 (beNum (bytesOf t)) 9223372036854775808) = nn := ⟨_, rfl⟩
     have hp := HP.out
     rw [hnn] at hp
     have HP := Lib.hid hp
     clear hp
     have f1 := blk_frozen R4.out 1
     have p1 : wr.cell? ⟨w.heap.size + 1, 1, none⟩ = some (.int .i64 0) := (blk_cell R4.out 1).trans rfl
     have p0 : wr.cell? ⟨w.heap.size + 1, 0, none⟩ = some (.int .i64 1) := (blk_cell R4.out 0).trans rfl
     have p2 : wr.cell? ⟨w.heap.size + 1, 2, none⟩ = some (.string ⟨#[]⟩) := (blk_cell R4.out 2).trans rfl
     have R4' : Hid ((wr.setCell ⟨w.heap.size + 1, 1, none⟩ (.int .i64 nn)).heap[w.heap.size + 1]? = some (.cells #[.int .i64 1, .int .i64 nn, .string ⟨#[]⟩] 47 (0, 0))) := blk_set R4.out 1 (.int .i64 nn)
     have R2 : Hid ((wr.setCell ⟨w.heap.size + 1, 1, none⟩ (.int .i64 nn)).heap[w.heap.size]? = some (.cells #[.int .i64 0, .int .i64 0, .string ⟨#[]⟩] 47 (0, 0))) := blk_far R2.out (p := ⟨w.heap.size + 1, 1, none⟩) (by simp) _
     have HB9 := Lib.hid (below_set (j := 1) (v := .int .i64 nn) HB.out (Nat.le_succ _))
     go_wp2_with fail
     refine (c_Code (⟨1, nn, ⟨#[]⟩⟩ : Vl) _).mono ?_
     rintro e w3 ⟨rfl, hb⟩
     have HB3 := Lib.hid (below_step HB9.out hb)
     have k4 := blk_below R4'.out hb
     have k2 := blk_below R2.out hb
     have p0 : w3.cell? ⟨w.heap.size + 1, 0, none⟩ = some (.int .i64 (⟨1, nn, ⟨#[]⟩⟩ : Vl).f0) := (blk_cell k4 0).trans rfl
     have p1 : w3.cell? ⟨w.heap.size + 1, 1, none⟩ = some (.int .i64 (⟨1, nn, ⟨#[]⟩⟩ : Vl).f1) := (blk_cell k4 1).trans rfl
     have p2 : w3.cell? ⟨w.heap.size + 1, 2, none⟩ = some (.string (⟨1, nn, ⟨#[]⟩⟩ : Vl).f2) := (blk_cell k4 2).trans rfl
     have z0 : w3.cell? ⟨w.heap.size, 0, none⟩ = some (.int .i64 0) := (blk_cell k2 0).trans rfl
     have z1 : w3.cell? ⟨w.heap.size, 1, none⟩ = some (.int .i64 0) := (blk_cell k2 1).trans rfl
     have z2 : w3.cell? ⟨w.heap.size, 2, none⟩ = some (.string ⟨#[]⟩) := (blk_cell k2 2).trans rfl
     have y0 := blk_frozen k2 0
     have y1 := blk_frozen k2 1
     have y2 := blk_frozen k2 2
     have K2 := Lib.hid k2
     clear hb k4 k2
     cases hg : goodV (⟨1, nn, ⟨#[]⟩⟩ : Vl) with
     | false =>
      have hr : readV s = (z47, 3) := by unfold readV; rw [HP.out, if_neg (fun h => by rw [hg] at h; cases h.2.1)]
      have HR := Lib.hid hr
      clear hg hr
      go_wp2
      refine bodyPost_ret (results_ct rfl _ _ w.heap.size 47 #[.int .i64 0, .int .i64 0, .string ⟨#[]⟩] (0, 0) _ rfl (by simpa using (blk_set (blk_set (blk_set K2.out 0 (.int .i64 0)) 1 (.int .i64 0)) 2 (.string ⟨#[]⟩))) Try.underlying47 rfl (by kernel_rfl)) rfl ⟨by rw [HR.out]; rfl, below_set (below_set (below_set HB3.out (Nat.le_refl _)) (Nat.le_refl _)) (Nat.le_refl _)⟩
     | true =>
      by_cases hq : (codeV (⟨1, nn, ⟨#[]⟩⟩ : Vl)).toList = s.toList
      ·have hr : readV s = ((⟨1, nn, ⟨#[]⟩⟩ : Vl), 0) := by unfold readV; rw [HP.out, if_pos ⟨H9.out, hg, hq⟩]
       have HR := Lib.hid hr
       have hc1 : ((codeV (⟨1, nn, ⟨#[]⟩⟩ : Vl)).toList == s.toList) = true := by simpa using hq
       have hc2 : ((codeV (⟨1, nn, ⟨#[]⟩⟩ : Vl)).toList != s.toList) = false := by simpa using hq
       clear hg hr hq
       generalize codeV (⟨1, nn, ⟨#[]⟩⟩ : Vl) = cv at *
       go_wp2
       refine bodyPost_ret (results_ct rfl _ _ w.heap.size 47 #[.int .i64 (⟨1, nn, ⟨#[]⟩⟩ : Vl).f0, .int .i64 (⟨1, nn, ⟨#[]⟩⟩ : Vl).f1, .string (⟨1, nn, ⟨#[]⟩⟩ : Vl).f2] (0, 0) _ rfl (by simpa using (blk_set (blk_set (blk_set K2.out 0 (.int .i64 (⟨1, nn, ⟨#[]⟩⟩ : Vl).f0)) 1 (.int .i64 (⟨1, nn, ⟨#[]⟩⟩ : Vl).f1)) 2 (.string (⟨1, nn, ⟨#[]⟩⟩ : Vl).f2))) Try.underlying47 rfl (by kernel_rfl)) rfl ⟨by rw [HR.out]; rfl, below_set (below_set (below_set HB3.out (Nat.le_refl _)) (Nat.le_refl _)) (Nat.le_refl _)⟩
      ·have hr : readV s = (z47, 3) := by unfold readV; rw [HP.out, if_neg (fun h => hq h.2.2)]
       have HR := Lib.hid hr
       have hc1 : ((codeV (⟨1, nn, ⟨#[]⟩⟩ : Vl)).toList == s.toList) = false := by simpa using hq
       have hc2 : ((codeV (⟨1, nn, ⟨#[]⟩⟩ : Vl)).toList != s.toList) = true := by simpa using hq
       clear hg hr hq
       generalize codeV (⟨1, nn, ⟨#[]⟩⟩ : Vl) = cv at *
       go_wp2
       refine bodyPost_ret (results_ct rfl _ _ w.heap.size 47 #[.int .i64 0, .int .i64 0, .string ⟨#[]⟩] (0, 0) _ rfl (by simpa using (blk_set (blk_set (blk_set K2.out 0 (.int .i64 0)) 1 (.int .i64 0)) 2 (.string ⟨#[]⟩))) Try.underlying47 rfl (by kernel_rfl)) rfl ⟨by rw [HR.out]; rfl, below_set (below_set (below_set HB3.out (Nat.le_refl _)) (Nat.le_refl _)) (Nat.le_refl _)⟩
  ·have hk1 : (q0 == 1) = false := by simpa using k1
   by_cases k2 : q0 = 2
   ·have hk2 : (q0 == 2) = true := by simpa using k2
    by_cases k7 : q8 ≤ 7
    ·have hk7 : decide (q8 ≤ 7) = true := decide_eq_true k7
     have hp : parseV s = (⟨2, 0, s.extract 1 (1 + q8).toNat⟩ : Vl) := by unfold parseV; rw [HQ0.out, HQ8.out, if_neg k1, if_pos k2, if_pos k7, show 1 + q8.toNat = (1 + q8).toNat from by omega]
     have HP := Lib.hid hp
     have l0 : 0 ≤ 1 + q8 := by omega
     have l1 : 1 + q8 ≤ (s.size : Int) := by omega
     have l2 : 1 ≤ 1 + q8 := by omega
     subst k2
     clear k1 hp
     have HB0 : Hid (Below w.heap.size w ((w.alloc (.cells #[.int .i64 0, .int .i64 0, .string ⟨#[]⟩] 47)).alloc (.cells #[.int .i64 2, .int .i64 0, .string ⟨#[]⟩] 47))) := below_alloc (below_alloc (Below.refl _ _) _) _
     have R2 : Hid (((w.alloc (.cells #[.int .i64 0, .int .i64 0, .string ⟨#[]⟩] 47)).alloc (.cells #[.int .i64 2, .int .i64 0, .string ⟨#[]⟩] 47)).heap[w.heap.size]? = some (.cells #[.int .i64 0, .int .i64 0, .string ⟨#[]⟩] 47 (0, 0))) := blk_alloc (heap_alloc_new w _) _
     have R4 : Hid (((w.alloc (.cells #[.int .i64 0, .int .i64 0, .string ⟨#[]⟩] 47)).alloc (.cells #[.int .i64 2, .int .i64 0, .string ⟨#[]⟩] 47)).heap[w.heap.size + 1]? = some (.cells #[.int .i64 2, .int .i64 0, .string ⟨#[]⟩] 47 (0, 0))) := by
      have h := heap_alloc_new (w.alloc (.cells #[.int .i64 0, .int .i64 0, .string ⟨#[]⟩] 47)) (.cells #[.int .i64 2, .int .i64 0, .string ⟨#[]⟩] 47)
      have e : (w.alloc (.cells #[.int .i64 0, .int .i64 0, .string ⟨#[]⟩] 47)).heap.size = w.heap.size + 1 := by simp
      rw [e] at h
      exact h
     go_enter Try.func61, Try.ntmps61
     go_wp2_with fail
     have HB1 : Hid (Below w.heap.size w ((w.alloc (.cells #[.int .i64 0, .int .i64 0, .string ⟨#[]⟩] 47)).alloc (.cells #[.int .i64 2, .int .i64 0, .string (s.extract 1 (1 + q8).toNat)] 47))) := below_alloc (below_alloc (Below.refl _ _) _) _
     have R2 : Hid (((w.alloc (.cells #[.int .i64 0, .int .i64 0, .string ⟨#[]⟩] 47)).alloc (.cells #[.int .i64 2, .int .i64 0, .string (s.extract 1 (1 + q8).toNat)] 47)).heap[w.heap.size]? = some (.cells #[.int .i64 0, .int .i64 0, .string ⟨#[]⟩] 47 (0, 0))) := blk_alloc (heap_alloc_new w _) _
     have R4 : Hid (((w.alloc (.cells #[.int .i64 0, .int .i64 0, .string ⟨#[]⟩] 47)).alloc (.cells #[.int .i64 2, .int .i64 0, .string (s.extract 1 (1 + q8).toNat)] 47)).heap[w.heap.size + 1]? = some (.cells #[.int .i64 2, .int .i64 0, .string (s.extract 1 (1 + q8).toNat)] 47 (0, 0))) := by
      have h := heap_alloc_new (w.alloc (.cells #[.int .i64 0, .int .i64 0, .string ⟨#[]⟩] 47)) (.cells #[.int .i64 2, .int .i64 0, .string (s.extract 1 (1 + q8).toNat)] 47)
      have e : (w.alloc (.cells #[.int .i64 0, .int .i64 0, .string ⟨#[]⟩] 47)).heap.size = w.heap.size + 1 := by simp
      rw [e] at h
      exact h
     refine (c_Code (⟨2, 0, s.extract 1 (1 + q8).toNat⟩ : Vl) _).mono ?_
     rintro e w3 ⟨rfl, hb⟩
     have HB3 := Lib.hid (below_step HB1.out hb)
     have k4 := blk_below R4.out hb
     have k2 := blk_below R2.out hb
     have p0 : w3.cell? ⟨w.heap.size + 1, 0, none⟩ = some (.int .i64 (⟨2, 0, s.extract 1 (1 + q8).toNat⟩ : Vl).f0) := (blk_cell k4 0).trans rfl
     have p1 : w3.cell? ⟨w.heap.size + 1, 1, none⟩ = some (.int .i64 (⟨2, 0, s.extract 1 (1 + q8).toNat⟩ : Vl).f1) := (blk_cell k4 1).trans rfl
     have p2 : w3.cell? ⟨w.heap.size + 1, 2, none⟩ = some (.string (⟨2, 0, s.extract 1 (1 + q8).toNat⟩ : Vl).f2) := (blk_cell k4 2).trans rfl
     have z0 : w3.cell? ⟨w.heap.size, 0, none⟩ = some (.int .i64 0) := (blk_cell k2 0).trans rfl
     have z1 : w3.cell? ⟨w.heap.size, 1, none⟩ = some (.int .i64 0) := (blk_cell k2 1).trans rfl
     have z2 : w3.cell? ⟨w.heap.size, 2, none⟩ = some (.string ⟨#[]⟩) := (blk_cell k2 2).trans rfl
     have y0 := blk_frozen k2 0
     have y1 := blk_frozen k2 1
     have y2 := blk_frozen k2 2
     have K2 := Lib.hid k2
     clear hb k4 k2
     cases hg : goodV (⟨2, 0, s.extract 1 (1 + q8).toNat⟩ : Vl) with
     | false =>
      have hr : readV s = (z47, 3) := by unfold readV; rw [HP.out, if_neg (fun h => by rw [hg] at h; cases h.2.1)]
      have HR := Lib.hid hr
      clear hg hr
      go_wp2
      refine bodyPost_ret (results_ct rfl _ _ w.heap.size 47 #[.int .i64 0, .int .i64 0, .string ⟨#[]⟩] (0, 0) _ rfl (by simpa using (blk_set (blk_set (blk_set K2.out 0 (.int .i64 0)) 1 (.int .i64 0)) 2 (.string ⟨#[]⟩))) Try.underlying47 rfl (by kernel_rfl)) rfl ⟨by rw [HR.out]; rfl, below_set (below_set (below_set HB3.out (Nat.le_refl _)) (Nat.le_refl _)) (Nat.le_refl _)⟩
     | true =>
      by_cases hq : (codeV (⟨2, 0, s.extract 1 (1 + q8).toNat⟩ : Vl)).toList = s.toList
      ·have hr : readV s = ((⟨2, 0, s.extract 1 (1 + q8).toNat⟩ : Vl), 0) := by unfold readV; rw [HP.out, if_pos ⟨H9.out, hg, hq⟩]
       have HR := Lib.hid hr
       have hc1 : ((codeV (⟨2, 0, s.extract 1 (1 + q8).toNat⟩ : Vl)).toList == s.toList) = true := by simpa using hq
       have hc2 : ((codeV (⟨2, 0, s.extract 1 (1 + q8).toNat⟩ : Vl)).toList != s.toList) = false := by simpa using hq
       clear hg hr hq
       generalize codeV (⟨2, 0, s.extract 1 (1 + q8).toNat⟩ : Vl) = cv at *
       go_wp2
       refine bodyPost_ret (results_ct rfl _ _ w.heap.size 47 #[.int .i64 (⟨2, 0, s.extract 1 (1 + q8).toNat⟩ : Vl).f0, .int .i64 (⟨2, 0, s.extract 1 (1 + q8).toNat⟩ : Vl).f1, .string (⟨2, 0, s.extract 1 (1 + q8).toNat⟩ : Vl).f2] (0, 0) _ rfl (by simpa using (blk_set (blk_set (blk_set K2.out 0 (.int .i64 (⟨2, 0, s.extract 1 (1 + q8).toNat⟩ : Vl).f0)) 1 (.int .i64 (⟨2, 0, s.extract 1 (1 + q8).toNat⟩ : Vl).f1)) 2 (.string (⟨2, 0, s.extract 1 (1 + q8).toNat⟩ : Vl).f2))) Try.underlying47 rfl (by kernel_rfl)) rfl ⟨by rw [HR.out]; rfl, below_set (below_set (below_set HB3.out (Nat.le_refl _)) (Nat.le_refl _)) (Nat.le_refl _)⟩
      ·have hr : readV s = (z47, 3) := by unfold readV; rw [HP.out, if_neg (fun h => hq h.2.2)]
       have HR := Lib.hid hr
       have hc1 : ((codeV (⟨2, 0, s.extract 1 (1 + q8).toNat⟩ : Vl)).toList == s.toList) = false := by simpa using hq
       have hc2 : ((codeV (⟨2, 0, s.extract 1 (1 + q8).toNat⟩ : Vl)).toList != s.toList) = true := by simpa using hq
       clear hg hr hq
       generalize codeV (⟨2, 0, s.extract 1 (1 + q8).toNat⟩ : Vl) = cv at *
       go_wp2
       refine bodyPost_ret (results_ct rfl _ _ w.heap.size 47 #[.int .i64 0, .int .i64 0, .string ⟨#[]⟩] (0, 0) _ rfl (by simpa using (blk_set (blk_set (blk_set K2.out 0 (.int .i64 0)) 1 (.int .i64 0)) 2 (.string ⟨#[]⟩))) Try.underlying47 rfl (by kernel_rfl)) rfl ⟨by rw [HR.out]; rfl, below_set (below_set (below_set HB3.out (Nat.le_refl _)) (Nat.le_refl _)) (Nat.le_refl _)⟩
    ·have hk7 : decide (q8 ≤ 7) = false := decide_eq_false k7
     have hp : parseV s = (⟨q0, 0, ⟨#[]⟩⟩ : Vl) := by unfold parseV; rw [HQ0.out, HQ8.out, if_neg k1, if_pos k2, if_neg k7, k2]
     have HP := Lib.hid hp
     clear k1 k2 k7 hp
     have HB0 : Hid (Below w.heap.size w ((w.alloc (.cells #[.int .i64 0, .int .i64 0, .string ⟨#[]⟩] 47)).alloc (.cells #[.int .i64 q0, .int .i64 0, .string ⟨#[]⟩] 47))) := below_alloc (below_alloc (Below.refl _ _) _) _
     have R2 : Hid (((w.alloc (.cells #[.int .i64 0, .int .i64 0, .string ⟨#[]⟩] 47)).alloc (.cells #[.int .i64 q0, .int .i64 0, .string ⟨#[]⟩] 47)).heap[w.heap.size]? = some (.cells #[.int .i64 0, .int .i64 0, .string ⟨#[]⟩] 47 (0, 0))) := blk_alloc (heap_alloc_new w _) _
     have R4 : Hid (((w.alloc (.cells #[.int .i64 0, .int .i64 0, .string ⟨#[]⟩] 47)).alloc (.cells #[.int .i64 q0, .int .i64 0, .string ⟨#[]⟩] 47)).heap[w.heap.size + 1]? = some (.cells #[.int .i64 q0, .int .i64 0, .string ⟨#[]⟩] 47 (0, 0))) := by
      have h := heap_alloc_new (w.alloc (.cells #[.int .i64 0, .int .i64 0, .string ⟨#[]⟩] 47)) (.cells #[.int .i64 q0, .int .i64 0, .string ⟨#[]⟩] 47)
      have e : (w.alloc (.cells #[.int .i64 0, .int .i64 0, .string ⟨#[]⟩] 47)).heap.size = w.heap.size + 1 := by simp
      rw [e] at h
      exact h
     go_enter Try.func61, Try.ntmps61
     go_wp2_with fail
     refine (c_Code (⟨q0, 0, ⟨#[]⟩⟩ : Vl) _).mono ?_
     rintro e w3 ⟨rfl, hb⟩
     have HB3 := Lib.hid (below_step HB0.out hb)
     have k4 := blk_below R4.out hb
     have k2 := blk_below R2.out hb
     have p0 : w3.cell? ⟨w.heap.size + 1, 0, none⟩ = some (.int .i64 (⟨q0, 0, ⟨#[]⟩⟩ : Vl).f0) := (blk_cell k4 0).trans rfl
     have p1 : w3.cell? ⟨w.heap.size + 1, 1, none⟩ = some (.int .i64 (⟨q0, 0, ⟨#[]⟩⟩ : Vl).f1) := (blk_cell k4 1).trans rfl
     have p2 : w3.cell? ⟨w.heap.size + 1, 2, none⟩ = some (.string (⟨q0, 0, ⟨#[]⟩⟩ : Vl).f2) := (blk_cell k4 2).trans rfl
     have z0 : w3.cell? ⟨w.heap.size, 0, none⟩ = some (.int .i64 0) := (blk_cell k2 0).trans rfl
     have z1 : w3.cell? ⟨w.heap.size, 1, none⟩ = some (.int .i64 0) := (blk_cell k2 1).trans rfl
     have z2 : w3.cell? ⟨w.heap.size, 2, none⟩ = some (.string ⟨#[]⟩) := (blk_cell k2 2).trans rfl
     have y0 := blk_frozen k2 0
     have y1 := blk_frozen k2 1
     have y2 := blk_frozen k2 2
     have K2 := Lib.hid k2
     clear hb k4 k2
     cases hg : goodV (⟨q0, 0, ⟨#[]⟩⟩ : Vl) with
     | false =>
      have hr : readV s = (z47, 3) := by unfold readV; rw [HP.out, if_neg (fun h => by rw [hg] at h; cases h.2.1)]
      have HR := Lib.hid hr
      clear hg hr
      go_wp2
      refine bodyPost_ret (results_ct rfl _ _ w.heap.size 47 #[.int .i64 0, .int .i64 0, .string ⟨#[]⟩] (0, 0) _ rfl (by simpa using (blk_set (blk_set (blk_set K2.out 0 (.int .i64 0)) 1 (.int .i64 0)) 2 (.string ⟨#[]⟩))) Try.underlying47 rfl (by kernel_rfl)) rfl ⟨by rw [HR.out]; rfl, below_set (below_set (below_set HB3.out (Nat.le_refl _)) (Nat.le_refl _)) (Nat.le_refl _)⟩
     | true =>
      by_cases hq : (codeV (⟨q0, 0, ⟨#[]⟩⟩ : Vl)).toList = s.toList
      ·have hr : readV s = ((⟨q0, 0, ⟨#[]⟩⟩ : Vl), 0) := by unfold readV; rw [HP.out, if_pos ⟨H9.out, hg, hq⟩]
       have HR := Lib.hid hr
       have hc1 : ((codeV (⟨q0, 0, ⟨#[]⟩⟩ : Vl)).toList == s.toList) = true := by simpa using hq
       have hc2 : ((codeV (⟨q0, 0, ⟨#[]⟩⟩ : Vl)).toList != s.toList) = false := by simpa using hq
       clear hg hr hq
       generalize codeV (⟨q0, 0, ⟨#[]⟩⟩ : Vl) = cv at *
       go_wp2
       refine bodyPost_ret (results_ct rfl _ _ w.heap.size 47 #[.int .i64 (⟨q0, 0, ⟨#[]⟩⟩ : Vl).f0, .int .i64 (⟨q0, 0, ⟨#[]⟩⟩ : Vl).f1, .string (⟨q0, 0, ⟨#[]⟩⟩ : Vl).f2] (0, 0) _ rfl (by simpa using (blk_set (blk_set (blk_set K2.out 0 (.int .i64 (⟨q0, 0, ⟨#[]⟩⟩ : Vl).f0)) 1 (.int .i64 (⟨q0, 0, ⟨#[]⟩⟩ : Vl).f1)) 2 (.string (⟨q0, 0, ⟨#[]⟩⟩ : Vl).f2))) Try.underlying47 rfl (by kernel_rfl)) rfl ⟨by rw [HR.out]; rfl, below_set (below_set (below_set HB3.out (Nat.le_refl _)) (Nat.le_refl _)) (Nat.le_refl _)⟩
      ·have hr : readV s = (z47, 3) := by unfold readV; rw [HP.out, if_neg (fun h => hq h.2.2)]
       have HR := Lib.hid hr
       have hc1 : ((codeV (⟨q0, 0, ⟨#[]⟩⟩ : Vl)).toList == s.toList) = false := by simpa using hq
       have hc2 : ((codeV (⟨q0, 0, ⟨#[]⟩⟩ : Vl)).toList != s.toList) = true := by simpa using hq
       clear hg hr hq
       generalize codeV (⟨q0, 0, ⟨#[]⟩⟩ : Vl) = cv at *
       go_wp2
       refine bodyPost_ret (results_ct rfl _ _ w.heap.size 47 #[.int .i64 0, .int .i64 0, .string ⟨#[]⟩] (0, 0) _ rfl (by simpa using (blk_set (blk_set (blk_set K2.out 0 (.int .i64 0)) 1 (.int .i64 0)) 2 (.string ⟨#[]⟩))) Try.underlying47 rfl (by kernel_rfl)) rfl ⟨by rw [HR.out]; rfl, below_set (below_set (below_set HB3.out (Nat.le_refl _)) (Nat.le_refl _)) (Nat.le_refl _)⟩
   ·have hk2 : (q0 == 2) = false := by simpa using k2
    have hp : parseV s = (⟨q0, 0, ⟨#[]⟩⟩ : Vl) := by unfold parseV; rw [HQ0.out, if_neg k1, if_neg k2]
    have HP := Lib.hid hp
    clear k1 k2 hp
    have HB0 : Hid (Below w.heap.size w ((w.alloc (.cells #[.int .i64 0, .int .i64 0, .string ⟨#[]⟩] 47)).alloc (.cells #[.int .i64 q0, .int .i64 0, .string ⟨#[]⟩] 47))) := below_alloc (below_alloc (Below.refl _ _) _) _
    have R2 : Hid (((w.alloc (.cells #[.int .i64 0, .int .i64 0, .string ⟨#[]⟩] 47)).alloc (.cells #[.int .i64 q0, .int .i64 0, .string ⟨#[]⟩] 47)).heap[w.heap.size]? = some (.cells #[.int .i64 0, .int .i64 0, .string ⟨#[]⟩] 47 (0, 0))) := blk_alloc (heap_alloc_new w _) _
    have R4 : Hid (((w.alloc (.cells #[.int .i64 0, .int .i64 0, .string ⟨#[]⟩] 47)).alloc (.cells #[.int .i64 q0, .int .i64 0, .string ⟨#[]⟩] 47)).heap[w.heap.size + 1]? = some (.cells #[.int .i64 q0, .int .i64 0, .string ⟨#[]⟩] 47 (0, 0))) := by
     have h := heap_alloc_new (w.alloc (.cells #[.int .i64 0, .int .i64 0, .string ⟨#[]⟩] 47)) (.cells #[.int .i64 q0, .int .i64 0, .string ⟨#[]⟩] 47)
     have e : (w.alloc (.cells #[.int .i64 0, .int .i64 0, .string ⟨#[]⟩] 47)).heap.size = w.heap.size + 1 := by simp
     rw [e] at h
     exact h
    go_enter Try.func61, Try.ntmps61
    go_wp2_with fail
    refine (c_Code (⟨q0, 0, ⟨#[]⟩⟩ : Vl) _).mono ?_
    rintro e w3 ⟨rfl, hb⟩
    have HB3 := Lib.hid (below_step HB0.out hb)
    have k4 := blk_below R4.out hb
    have k2 := blk_below R2.out hb
    have p0 : w3.cell? ⟨w.heap.size + 1, 0, none⟩ = some (.int .i64 (⟨q0, 0, ⟨#[]⟩⟩ : Vl).f0) := (blk_cell k4 0).trans rfl
    have p1 : w3.cell? ⟨w.heap.size + 1, 1, none⟩ = some (.int .i64 (⟨q0, 0, ⟨#[]⟩⟩ : Vl).f1) := (blk_cell k4 1).trans rfl
    have p2 : w3.cell? ⟨w.heap.size + 1, 2, none⟩ = some (.string (⟨q0, 0, ⟨#[]⟩⟩ : Vl).f2) := (blk_cell k4 2).trans rfl
    have z0 : w3.cell? ⟨w.heap.size, 0, none⟩ = some (.int .i64 0) := (blk_cell k2 0).trans rfl
    have z1 : w3.cell? ⟨w.heap.size, 1, none⟩ = some (.int .i64 0) := (blk_cell k2 1).trans rfl
    have z2 : w3.cell? ⟨w.heap.size, 2, none⟩ = some (.string ⟨#[]⟩) := (blk_cell k2 2).trans rfl
    have y0 := blk_frozen k2 0
    have y1 := blk_frozen k2 1
    have y2 := blk_frozen k2 2
    have K2 := Lib.hid k2
    clear hb k4 k2
    cases hg : goodV (⟨q0, 0, ⟨#[]⟩⟩ : Vl) with
    | false =>
     have hr : readV s = (z47, 3) := by unfold readV; rw [HP.out, if_neg (fun h => by rw [hg] at h; cases h.2.1)]
     have HR := Lib.hid hr
     clear hg hr
     go_wp2
     refine bodyPost_ret (results_ct rfl _ _ w.heap.size 47 #[.int .i64 0, .int .i64 0, .string ⟨#[]⟩] (0, 0) _ rfl (by simpa using (blk_set (blk_set (blk_set K2.out 0 (.int .i64 0)) 1 (.int .i64 0)) 2 (.string ⟨#[]⟩))) Try.underlying47 rfl (by kernel_rfl)) rfl ⟨by rw [HR.out]; rfl, below_set (below_set (below_set HB3.out (Nat.le_refl _)) (Nat.le_refl _)) (Nat.le_refl _)⟩
    | true =>
     by_cases hq : (codeV (⟨q0, 0, ⟨#[]⟩⟩ : Vl)).toList = s.toList
     ·have hr : readV s = ((⟨q0, 0, ⟨#[]⟩⟩ : Vl), 0) := by unfold readV; rw [HP.out, if_pos ⟨H9.out, hg, hq⟩]
      have HR := Lib.hid hr
      have hc1 : ((codeV (⟨q0, 0, ⟨#[]⟩⟩ : Vl)).toList == s.toList) = true := by simpa using hq
      have hc2 : ((codeV (⟨q0, 0, ⟨#[]⟩⟩ : Vl)).toList != s.toList) = false := by simpa using hq
      clear hg hr hq
      generalize codeV (⟨q0, 0, ⟨#[]⟩⟩ : Vl) = cv at *
      go_wp2
      refine bodyPost_ret (results_ct rfl _ _ w.heap.size 47 #[.int .i64 (⟨q0, 0, ⟨#[]⟩⟩ : Vl).f0, .int .i64 (⟨q0, 0, ⟨#[]⟩⟩ : Vl).f1, .string (⟨q0, 0, ⟨#[]⟩⟩ : Vl).f2] (0, 0) _ rfl (by simpa using (blk_set (blk_set (blk_set K2.out 0 (.int .i64 (⟨q0, 0, ⟨#[]⟩⟩ : Vl).f0)) 1 (.int .i64 (⟨q0, 0, ⟨#[]⟩⟩ : Vl).f1)) 2 (.string (⟨q0, 0, ⟨#[]⟩⟩ : Vl).f2))) Try.underlying47 rfl (by kernel_rfl)) rfl ⟨by rw [HR.out]; rfl, below_set (below_set (below_set HB3.out (Nat.le_refl _)) (Nat.le_refl _)) (Nat.le_refl _)⟩
     ·have hr : readV s = (z47, 3) := by unfold readV; rw [HP.out, if_neg (fun h => hq h.2.2)]
      have HR := Lib.hid hr
      have hc1 : ((codeV (⟨q0, 0, ⟨#[]⟩⟩ : Vl)).toList == s.toList) = false := by simpa using hq
      have hc2 : ((codeV (⟨q0, 0, ⟨#[]⟩⟩ : Vl)).toList != s.toList) = true := by simpa using hq
      clear hg hr hq
      generalize codeV (⟨q0, 0, ⟨#[]⟩⟩ : Vl) = cv at *
      go_wp2
      refine bodyPost_ret (results_ct rfl _ _ w.heap.size 47 #[.int .i64 0, .int .i64 0, .string ⟨#[]⟩] (0, 0) _ rfl (by simpa using (blk_set (blk_set (blk_set K2.out 0 (.int .i64 0)) 1 (.int .i64 0)) 2 (.string ⟨#[]⟩))) Try.underlying47 rfl (by kernel_rfl)) rfl ⟨by rw [HR.out]; rfl, below_set (below_set (below_set HB3.out (Nat.le_refl _)) (Nat.le_refl _)) (Nat.le_refl _)⟩
 ·have hd : ((s.size : Int) != 9) = true := by rw [bne_iff_ne]; omega
  have hr : readV s = (z47, 3) := by unfold readV; rw [if_neg (fun h => h9 h.1)]
  rw [hr]
  have k2 := heap_alloc_new w (.cells #[.int .i64 0, .int .i64 0, .string ⟨#[]⟩] 47)
  have K2 := Lib.hid k2
  clear h9 hr k2
  go_enter Try.func61, Try.ntmps61
  go_wp2
  refine bodyPost_ret (results_ct rfl _ _ w.heap.size 47 #[.int .i64 0, .int .i64 0, .string ⟨#[]⟩] (0, 0) _ rfl K2.out Try.underlying47 rfl (by kernel_rfl)) rfl ⟨rfl, below_alloc (Below.refl _ _) _⟩
namespace PArk
def sign_Read.f (a0 : ByteArray) : Option (Int × Int × ByteArray × Int) := some ((readV a0).1.f0, (readV a0).1.f1, (readV a0).1.f2, (readV a0).2)
theorem sign_Read.calls (a0 : ByteArray) (r1 : Int) (r2 : Int) (r3 : ByteArray) (r4 : Int) (w : World) (h : sign_Read.f a0 = some (r1, r2, r3, r4)) :
  Calls Try.prog 61 #[.string a0] w fun e w' => e = .returned (.tuple #[.agg #[.int .i64 r1, .int .i64 r2, .string r3], .int .i64 r4]) ∧ Below w.heap.size w w' := by
 injection h with h
 injection h with h1 h
 injection h with h2 h
 injection h with h3 h4
 subst h1 h2 h3 h4
 exact c_Read1 a0 w
end PArk
end Go.Proofs.Ytfkkeddjfiljfaa
