/-
  'gauger's law ArkExact holds of every input: it returns true, and each argument reads behind the call as it read before.
  This text: part 8 of 19 of the proof (PArkx5, ArkP).
-/
import Derived.Test.YtfkkeddjfiljfaaMac
import Derived.Test.YtfkkeddjfiljfaaMad
import Derived.Test.YtfkkeddjfiljfaaMag
import Derived.Lib.Hide
import Derived.Outline
import Derived.RangeFuncBox
set_option linter.unusedVariables false
set_option linter.unusedSimpArgs false
namespace Go.Proofs.Ytfkkeddjfiljfaa.PArk
open Go.RowKit Go.Proofs.YtfkkeddjfiljfaaW.PrintWords Go.Proofs.YtfkkeddjfiljfaaW.PrintLast Go.Proofs.YtfkkeddjfiljfaaW.PrintMore
attribute [local go_sem] max2_int min2_int max_two min_two max_three min_three max_four min_four   -- for this text's walks alone
def crc_shifted.l0 : Nat → Int → Int → Option (Int)
 | 0, _, _ => none
 | k + 1, x0, x4 => if x4 < 8 then (crc_shifted.l0 k (Go.bits .xor .u32 (x0 / 2) (Go.bits .and .u32 3988292384 ((-(Go.bits .and .u32 x0 1)) % 4294967296))) (wrap64 (x4 + 1))) else (some x0)
def crc_shifted.f (k : Nat) (a0 : Int) : Option (Int) := crc_shifted.l0 k a0 0
theorem crc_shifted.mono_l : ∀ k, (∀ y0 y1, LeO (crc_shifted.l0 k y0 y1) (crc_shifted.l0 (k + 1) y0 y1))
 | 0 => fun _ _ r h => by simp [crc_shifted.l0] at h
 | k + 1 => by
  have ih0 := crc_shifted.mono_l k
  ·intro y0 y1
   unfold crc_shifted.l0
   repeat' first
   | (with_reducible exact ih0 _ _)
   | (with_reducible exact LeO.refl _)
   | (with_reducible exact LeO.none _)
   | (with_reducible refine LeO.ite ?_ ?_)
   | (with_reducible refine LeO.bind ?_ (fun _ => ?_))
   | exact ih0 _ _
   | exact LeO.none _
   | refine LeO.ite ?_ ?_
   | refine LeO.bind ?_ (fun _ => ?_)
theorem crc_shifted.mono : ∀ a0 k, LeO (crc_shifted.f k a0) (crc_shifted.f (k + 1) a0) := by
 intro a0 k
 have ih0 := crc_shifted.mono_l k
 unfold crc_shifted.f
 repeat' first
   | (with_reducible exact ih0 _ _)
   | (with_reducible exact LeO.refl _)
   | (with_reducible exact LeO.none _)
   | (with_reducible refine LeO.ite ?_ ?_)
   | (with_reducible refine LeO.bind ?_ (fun _ => ?_))
   | exact ih0 _ _
   | exact LeO.none _
   | refine LeO.ite ?_ ?_
   | refine LeO.bind ?_ (fun _ => ?_)
set_option maxHeartbeats 8000000 in
set_option maxRecDepth 100000 in
theorem crc_shifted.calls (k : Nat) (a0 : Int) (r : Int) (w : World) (h : crc_shifted.f k a0 = some r) :
  Calls Try.prog 56 #[.int .u32 a0] w fun e w' => e = .returned (.int .u32 r) ∧ Drawn0 w w' := by
 have H : (crc_shifted.l0 k a0 0) = some r := h
 clear h
 have H' := Aside0.mk H
 clear H
 go_enter Try.func56, Try.ntmps56
 go_wp2
 go_loopg [0, 4] k (fun kq v0 v4 w' => ∃ (x0_1 : Int) (x4_1 : Int), v0 = .int .u32 x0_1 ∧ v4 = .int .i64 x4_1 ∧ Aside0 (crc_shifted.l0 kq x0_1 x4_1 = some r) ∧ Aside0 (kq ≤ k) ∧ Drawn0 w w')
 case atStart => exact ⟨(a0), (0), (by first | rfl | (simp; done) | (simp [*]; done)), (by first | rfl | (simp; done) | (simp [*]; done)), H', ⟨Nat.le_refl _⟩, by repeat (first | exact Drawn0.refl _ | apply Drawn0.step)⟩
 case round =>
  clear H'
  obtain ⟨x0_1, x4_1, rfl, rfl, HA, HK1, ⟨m1, rfl⟩⟩ := hrel
  cases gk with
  | zero => exact absurd HA.out (by simp [crc_shifted.l0])
  | succ k1 =>
   have H := HA.out
   clear HA
   simp only [crc_shifted.l0] at H
   by_cases c2 : x4_1 < 8
   ·rw [if_pos c2] at H
    have c2b0 : decide (x4_1 < 8) = true := decide_eq_true c2
    clear c2
    have H' := Aside0.mk H
    clear H
    go_wp2
    go_roundg k1
    case measure => have := HK1.out; omega
    case rel => exact ⟨(Go.bits .xor .u32 (x0_1 / 2) (Go.bits .and .u32 3988292384 ((-(Go.bits .and .u32 x0_1 1)) % 4294967296))), (wrap64 (x4_1 + 1)), (by first | rfl | (simp; done) | (simp [*]; done)), (by first | rfl | (simp; done) | (simp [*]; done)), H', ⟨by have := HK1.out; omega⟩, by repeat (first | exact Drawn0.refl _ | apply Drawn0.step)⟩
   ·rw [if_neg c2] at H
    have c2b0 : decide (x4_1 < 8) = false := decide_eq_false c2
    clear c2
    obtain rfl := Option.some.inj H
    go_wp2
    go_ret
    exact ⟨by first | rfl | (simp; done) | (simp [*]; done), by repeat (first | exact Drawn0.refl _ | apply Drawn0.step)⟩
def crc_Sum.l0 : Nat → ByteArray → Int → Int → Int → Option (Int)
 | 0, _, _, _, _ => none
 | k + 1, x0, x3, x6, x7 => if x7 < x6 then (if 0 ≤ x7 then (if x7 < (x0.size : Int) then ((crc_shifted.f k (Go.bits .xor .u32 x3 ((bt x0 x7) % 4294967296))).bind fun t136 => (crc_Sum.l0 k x0 t136 x6 (wrap64 (x7 + 1)))) else (none)) else (none)) else (some (Go.bits .xor .u32 x3 4294967295))
def crc_Sum.f (k : Nat) (a0 : ByteArray) : Option (Int) := crc_Sum.l0 k a0 4294967295 (a0.size : Int) 0
theorem crc_Sum.mono_l : ∀ k, (∀ y0 y1 y2 y3, LeO (crc_Sum.l0 k y0 y1 y2 y3) (crc_Sum.l0 (k + 1) y0 y1 y2 y3))
 | 0 => fun _ _ _ _ r h => by simp [crc_Sum.l0] at h
 | k + 1 => by
  have ih0 := crc_Sum.mono_l k
  ·intro y0 y1 y2 y3
   unfold crc_Sum.l0
   repeat' first
   | (with_reducible exact ih0 _ _ _ _)
   | (with_reducible exact crc_shifted.mono _ _)
   | (with_reducible exact LeO.refl _)
   | (with_reducible exact LeO.none _)
   | (with_reducible refine LeO.ite ?_ ?_)
   | (with_reducible refine LeO.bind ?_ (fun _ => ?_))
   | exact ih0 _ _ _ _
   | exact crc_shifted.mono _ _
   | exact LeO.none _
   | refine LeO.ite ?_ ?_
   | refine LeO.bind ?_ (fun _ => ?_)
theorem crc_Sum.mono : ∀ a0 k, LeO (crc_Sum.f k a0) (crc_Sum.f (k + 1) a0) := by
 intro a0 k
 have ih0 := crc_Sum.mono_l k
 unfold crc_Sum.f
 repeat' first
   | (with_reducible exact ih0 _ _ _ _)
   | (with_reducible exact crc_shifted.mono _ _)
   | (with_reducible exact LeO.refl _)
   | (with_reducible exact LeO.none _)
   | (with_reducible refine LeO.ite ?_ ?_)
   | (with_reducible refine LeO.bind ?_ (fun _ => ?_))
   | exact ih0 _ _ _ _
   | exact crc_shifted.mono _ _
   | exact LeO.none _
   | refine LeO.ite ?_ ?_
   | refine LeO.bind ?_ (fun _ => ?_)
set_option maxHeartbeats 8000000 in
set_option maxRecDepth 100000 in
theorem crc_Sum.calls (k : Nat) (a0 : ByteArray) (r : Int) (w : World) (h : crc_Sum.f k a0 = some r) :
  Calls Try.prog 35 #[.string a0] w fun e w' => e = .returned (.int .u32 r) ∧ Drawn0 w w' := by
 have H : (crc_Sum.l0 k a0 4294967295 (a0.size : Int) 0) = some r := h
 clear h
 have H' := Aside0.mk H
 clear H
 go_enter Try.func35, Try.ntmps35
 go_wp2
 go_loopg [3, 7] k (fun kq v3 v7 w' => ∃ (x3_1 : Int) (x7_1 : Int), v3 = .int .u32 x3_1 ∧ v7 = .int .i64 x7_1 ∧ Aside0 (crc_Sum.l0 kq a0 x3_1 (a0.size : Int) x7_1 = some r) ∧ Aside0 (kq ≤ k) ∧ Drawn0 w w')
 case atStart => exact ⟨(4294967295), (0), (by first | rfl | (simp; done) | (simp [*]; done)), (by first | rfl | (simp; done) | (simp [*]; done)), H', ⟨Nat.le_refl _⟩, by repeat (first | exact Drawn0.refl _ | apply Drawn0.step)⟩
 case round =>
  clear H'
  obtain ⟨x3_1, x7_1, rfl, rfl, HA, HK1, ⟨m1, rfl⟩⟩ := hrel
  cases gk with
  | zero => exact absurd HA.out (by simp [crc_Sum.l0])
  | succ k1 =>
   have H := HA.out
   clear HA
   simp only [crc_Sum.l0] at H
   by_cases c2 : x7_1 < (a0.size : Int)
   ·rw [if_pos c2] at H
    have c2b0 : decide (x7_1 < (a0.size : Int)) = true := decide_eq_true c2
    clear c2
    by_cases c3 : 0 ≤ x7_1
    ·rw [if_pos c3] at H
     have c3b0 : decide (0 ≤ x7_1) = true := decide_eq_true c3
     clear c3
     by_cases c4 : x7_1 < (a0.size : Int)
     ·rw [if_pos c4] at H
      have c4b0 : decide (x7_1 < (a0.size : Int)) = true := decide_eq_true c4
      clear c4
      replace H := Option.bind_eq_some_iff.mp H
      obtain ⟨t136, A60, H⟩ := H
      replace H : (crc_Sum.l0 k1 a0 t136 (a0.size : Int) (wrap64 (x7_1 + 1))) = some r := H
      have A6 := Aside0.mk A60
      clear A60
      have H' := Aside0.mk H
      clear H
      have p5 : 0 ≤ (x7_1 : Int) := of_decide_eq_true (by first | (with_reducible assumption) | assumption)
      have q5 : x7_1 < (a0.size : Int) := of_decide_eq_true (by first | (with_reducible assumption) | assumption)
      have hx5 := bt_at a0 x7_1
      replace p5 := eq_true p5
      replace q5 := eq_true q5
      go_wp2_with (first | ((with_reducible refine gate_callee (f := 56) rfl ?_); refine goesL_ (some 16) rfl rfl Try.func56 (by kernel_rfl) rfl #[.int .u32 (Go.bits .xor .u32 x3_1 ((bt a0 x7_1) % 4294967296))] rfl (by (try simp only [List.map_toArray, List.map_cons, List.map_nil]); first | done | rfl | (simp only [List.length_drop, List.length_take]; rfl)) ?_; (with_reducible refine (crc_shifted.calls k1 (Go.bits .xor .u32 x3_1 ((bt a0 x7_1) % 4294967296)) t136 _ A6.out).mono ?_); rintro e w' ⟨rfl, ⟨nd, rfl⟩⟩; refine ⟨_, rfl, ?_⟩))
      go_roundg k1
      case measure => have := HK1.out; omega
      case rel => exact ⟨(t136), (wrap64 (x7_1 + 1)), (by first | rfl | (simp; done) | (simp [*]; done)), (by first | rfl | (simp; done) | (simp [*]; done)), H', ⟨by have := HK1.out; omega⟩, by repeat (first | exact Drawn0.refl _ | apply Drawn0.step)⟩
     ·rw [if_neg c4] at H
      exact absurd H (by simp)
    ·rw [if_neg c3] at H
     exact absurd H (by simp)
   ·rw [if_neg c2] at H
    have c2b0 : decide (x7_1 < (a0.size : Int)) = false := decide_eq_false c2
    clear c2
    obtain rfl := Option.some.inj H
    go_wp2
    go_ret
    exact ⟨by first | rfl | (simp; done) | (simp [*]; done), by repeat (first | exact Drawn0.refl _ | apply Drawn0.step)⟩
def crc_Seal.f (k : Nat) (a0 : ByteArray) : Option (ByteArray) := (crc_Sum.f k a0).bind fun t137 => ((crc_Tail.f t137).bind fun t138 => (if a0.size + t138.size ≤ 9223372036854775807 then (some (a0 ++ t138)) else (none)))
theorem crc_Seal.mono : ∀ a0 k, LeO (crc_Seal.f k a0) (crc_Seal.f (k + 1) a0) := by
 intro a0 k
 unfold crc_Seal.f
 repeat' first
   | (with_reducible exact crc_Sum.mono _ _)
   | (with_reducible exact LeO.refl _)
   | (with_reducible exact LeO.none _)
   | (with_reducible refine LeO.ite ?_ ?_)
   | (with_reducible refine LeO.bind ?_ (fun _ => ?_))
   | exact crc_Sum.mono _ _
   | exact LeO.none _
   | refine LeO.ite ?_ ?_
   | refine LeO.bind ?_ (fun _ => ?_)
set_option maxHeartbeats 8000000 in
set_option maxRecDepth 100000 in
theorem crc_Seal.calls (k : Nat) (a0 : ByteArray) (r : ByteArray) (w : World) (h : crc_Seal.f k a0 = some r) :
  Calls Try.prog 16 #[.string a0] w fun e w' => e = .returned (.string r) ∧ Below w.heap.size w w' := by
 have HB := Aside0.mk (Below.refl w.heap.size w)
 have H : ((crc_Sum.f k a0).bind fun t137 => ((crc_Tail.f t137).bind fun t138 => (if a0.size + t138.size ≤ 9223372036854775807 then (some (a0 ++ t138)) else (none)))) = some r := h
 clear h
 replace H := Option.bind_eq_some_iff.mp H
 obtain ⟨t137, A20, H⟩ := H
 replace H : ((crc_Tail.f t137).bind fun t138 => (if a0.size + t138.size ≤ 9223372036854775807 then (some (a0 ++ t138)) else (none))) = some r := H
 have A2 := Aside0.mk A20
 clear A20
 replace H := Option.bind_eq_some_iff.mp H
 obtain ⟨t138, A30, H⟩ := H
 replace H : (if a0.size + t138.size ≤ 9223372036854775807 then (some (a0 ++ t138)) else (none)) = some r := H
 have A3 := Aside0.mk A30
 clear A30
 by_cases c4 : a0.size + t138.size ≤ 9223372036854775807
 ·rw [if_pos c4] at H
  have c4b0 := eq_true c4
  have c4b1 : decide (a0.size + t138.size ≤ 9223372036854775807) = true := decide_eq_true c4
  try have c4b2 : (9223372036854775807 < a0.size + t138.size) = False := eq_false (Nat.not_lt.2 c4)
  obtain rfl := Option.some.inj H
  go_enter Try.func16, Try.ntmps16
  go_wp2_with (first | ((with_reducible refine gate_callee (f := 35) rfl ?_); refine goesL_ (some 5) rfl rfl Try.func35 (by kernel_rfl) rfl #[.string a0] rfl (by (try simp only [List.map_toArray, List.map_cons, List.map_nil]); first | done | rfl | (simp only [List.length_drop, List.length_take]; rfl)) ?_; (with_reducible refine (crc_Sum.calls k a0 t137 _ A2.out).mono ?_); rintro e w' ⟨rfl, ⟨nd, rfl⟩⟩; refine ⟨_, rfl, ?_⟩) | ((with_reducible refine gate_callee (f := 34) rfl ?_); refine goesL_ (some 6) rfl rfl Try.func34 (by kernel_rfl) rfl #[.int .u32 t137] rfl (by (try simp only [List.map_toArray, List.map_cons, List.map_nil]); first | done | rfl | (simp only [List.length_drop, List.length_take]; rfl)) ?_; (with_reducible refine (crc_Tail.calls t137 t138 _ A3.out).mono ?_); rintro e w5 ⟨rfl, hb⟩; refine ⟨_, rfl, ?_⟩; have n0_ := Aside0.mk (below_step (by repeat (first | (with_reducible first | exact HB.out | apply below_alloc | apply pw_below_drewN | apply below_drew1) | exact HB.out)) hb); clear HB; have HB := n0_; clear n0_; (try clear hb); (try clear hb2); (try clear hk); (try clear hi)))
  go_ret
  exact ⟨by first | rfl | (simp [errW_none, errW_some] <;> rfl) | (simp [*, errW_none, errW_some] <;> rfl), by repeat (first | (with_reducible first | exact HB.out | apply below_alloc | apply pw_below_drewN | apply below_drew1) | exact HB.out)⟩
 ·rw [if_neg c4] at H
  exact absurd H (by simp)
def crc_Open.f (k : Nat) (a0 : ByteArray) : Option (ByteArray × Bool) := if (a0.size : Int) < 4 then (some ((⟨#[]⟩ : ByteArray), false)) else (if 0 ≤ (wrap64 ((a0.size : Int) - 4)) then (if (wrap64 ((a0.size : Int) - 4)) ≤ (a0.size : Int) then ((crc_Seal.f k (a0.extract 0 ((wrap64 ((a0.size : Int) - 4)) : Int).toNat)).bind fun t139 => (if t139.toList = a0.toList then (some (a0.extract 0 ((wrap64 ((a0.size : Int) - 4)) : Int).toNat, true)) else (some ((⟨#[]⟩ : ByteArray), false)))) else (none)) else (none))
theorem crc_Open.mono : ∀ a0 k, LeO (crc_Open.f k a0) (crc_Open.f (k + 1) a0) := by
 intro a0 k
 unfold crc_Open.f
 repeat' first
   | (with_reducible exact crc_Seal.mono _ _)
   | (with_reducible exact LeO.refl _)
   | (with_reducible exact LeO.none _)
   | (with_reducible refine LeO.ite ?_ ?_)
   | (with_reducible refine LeO.bind ?_ (fun _ => ?_))
   | exact crc_Seal.mono _ _
   | exact LeO.none _
   | refine LeO.ite ?_ ?_
   | refine LeO.bind ?_ (fun _ => ?_)
set_option maxHeartbeats 8000000 in
set_option maxRecDepth 100000 in
theorem crc_Open.calls (k : Nat) (a0 : ByteArray) (r1 : ByteArray) (r2 : Bool) (w : World) (h : crc_Open.f k a0 = some (r1, r2)) :
  Calls Try.prog 24 #[.string a0] w fun e w' => e = .returned (.tuple #[.string r1, .bool r2]) ∧ Below w.heap.size w w' := by
 have HB := Aside0.mk (Below.refl w.heap.size w)
 have H : (if (a0.size : Int) < 4 then (some ((⟨#[]⟩ : ByteArray), false)) else (if 0 ≤ (wrap64 ((a0.size : Int) - 4)) then (if (wrap64 ((a0.size : Int) - 4)) ≤ (a0.size : Int) then ((crc_Seal.f k (a0.extract 0 ((wrap64 ((a0.size : Int) - 4)) : Int).toNat)).bind fun t139 => (if t139.toList = a0.toList then (some (a0.extract 0 ((wrap64 ((a0.size : Int) - 4)) : Int).toNat, true)) else (some ((⟨#[]⟩ : ByteArray), false)))) else (none)) else (none))) = some (r1, r2) := h
 clear h
 by_cases c2 : (a0.size : Int) < 4
 ·rw [if_pos c2] at H
  have c2b0 : decide ((a0.size : Int) < 4) = true := decide_eq_true c2
  have c2b1 : decide (a0.size < 4) = true := decide_eq_true (by omega)
  clear c2
  simp only [Option.some.injEq, Prod.mk.injEq] at H
  obtain ⟨rfl, rfl⟩ := H
  go_enter Try.func24, Try.ntmps24
  go_wp2
  go_ret2
  exact ⟨by first | rfl | (simp [errW_none, errW_some] <;> rfl) | (simp [*, errW_none, errW_some] <;> rfl), by repeat (first | (with_reducible first | exact HB.out | apply below_alloc | apply pw_below_drewN | apply below_drew1) | exact HB.out)⟩
 ·rw [if_neg c2] at H
  have c2b0 : decide ((a0.size : Int) < 4) = false := decide_eq_false c2
  have c2b1 : decide (a0.size < 4) = false := decide_eq_false (by omega)
  clear c2
  obtain ⟨ji3, hji3⟩ : ∃ j_ : Int, (wrap64 ((a0.size : Int) - 4)) = j_ := ⟨_, rfl⟩
  replace H : (if 0 ≤ (ji3) then (if (ji3) ≤ (a0.size : Int) then ((crc_Seal.f k (a0.extract 0 ((ji3) : Int).toNat)).bind fun t139 => (if t139.toList = a0.toList then (some (a0.extract 0 ((ji3) : Int).toNat, true)) else (some ((⟨#[]⟩ : ByteArray), false)))) else (none)) else (none)) = some (r1, r2) := by first | (rw [hji3] at H; exact H) | (simp only [hji3] at H ⊢; exact H)
  have hji3w : (IntKind.i64.wrap ((a0.size : Int) - 4)) = ji3 := (i64_w _).trans hji3
  by_cases c4 : 0 ≤ (ji3)
  ·rw [if_pos c4] at H
   have c4b0 := eq_true c4
   have c4b1 : decide (0 ≤ (ji3)) = true := decide_eq_true c4
   clear c4
   by_cases c5 : (ji3) ≤ (a0.size : Int)
   ·rw [if_pos c5] at H
    have c5b0 := eq_true c5
    have c5b1 : decide ((ji3) ≤ (a0.size : Int)) = true := decide_eq_true c5
    clear c5
    replace H := Option.bind_eq_some_iff.mp H
    obtain ⟨t139, A60, H⟩ := H
    replace H : (if t139.toList = a0.toList then (some (a0.extract 0 ((ji3) : Int).toNat, true)) else (some ((⟨#[]⟩ : ByteArray), false))) = some (r1, r2) := H
    have A6 := Aside0.mk A60
    clear A60
    by_cases c7 : t139.toList = a0.toList
    ·rw [if_pos c7] at H
     have c7b0 : (t139.toList == a0.toList) = true := beq_iff_eq.mpr c7
     have c7b1 : (t139.toList != a0.toList) = false := bne_eq_false_iff_eq.mpr c7
     clear c7
     simp only [Option.some.injEq, Prod.mk.injEq] at H
     obtain ⟨rfl, rfl⟩ := H
     go_enter Try.func24, Try.ntmps24
     go_wp2_with (first | ((with_reducible refine gate_callee (f := 16) rfl ?_); refine goesL_ (some 14) rfl rfl Try.func16 (by kernel_rfl) rfl #[.string (a0.extract 0 ((ji3) : Int).toNat)] rfl (by (try simp only [List.map_toArray, List.map_cons, List.map_nil]); first | done | (simp only [hji3]; rfl) | rfl | (simp only [List.length_drop, List.length_take]; rfl)) ?_; (with_reducible refine (crc_Seal.calls k (a0.extract 0 ((ji3) : Int).toNat) t139 _ A6.out).mono ?_); rintro e w8 ⟨rfl, hb⟩; refine ⟨_, rfl, ?_⟩; have n0_ := Aside0.mk (below_step (by repeat (first | (with_reducible first | exact HB.out | apply below_alloc | apply pw_below_drewN | apply below_drew1) | exact HB.out)) hb); clear HB; have HB := n0_; clear n0_; (try clear hb); (try clear hb2); (try clear hk); (try clear hi)))
     go_ret2
     exact ⟨by first | rfl | (simp [errW_none, errW_some] <;> rfl) | (simp only [← hji3]; first | rfl | (simp [errW_none, errW_some] <;> rfl)) | (simp [*, errW_none, errW_some] <;> rfl), by repeat (first | (with_reducible first | exact HB.out | apply below_alloc | apply pw_below_drewN | apply below_drew1) | exact HB.out)⟩
    ·rw [if_neg c7] at H
     have c7b0 : (t139.toList == a0.toList) = false := beq_eq_false_iff_ne.mpr c7
     have c7b1 : (t139.toList != a0.toList) = true := bne_iff_ne.mpr c7
     simp only [Option.some.injEq, Prod.mk.injEq] at H
     obtain ⟨rfl, rfl⟩ := H
     go_enter Try.func24, Try.ntmps24
     go_wp2_with (first | ((with_reducible refine gate_callee (f := 16) rfl ?_); refine goesL_ (some 14) rfl rfl Try.func16 (by kernel_rfl) rfl #[.string (a0.extract 0 ((ji3) : Int).toNat)] rfl (by (try simp only [List.map_toArray, List.map_cons, List.map_nil]); first | done | (simp only [hji3]; rfl) | rfl | (simp only [List.length_drop, List.length_take]; rfl)) ?_; (with_reducible refine (crc_Seal.calls k (a0.extract 0 ((ji3) : Int).toNat) t139 _ A6.out).mono ?_); rintro e w9 ⟨rfl, hb⟩; refine ⟨_, rfl, ?_⟩; have n0_ := Aside0.mk (below_step (by repeat (first | (with_reducible first | exact HB.out | apply below_alloc | apply pw_below_drewN | apply below_drew1) | exact HB.out)) hb); clear HB; have HB := n0_; clear n0_; (try clear hb); (try clear hb2); (try clear hk); (try clear hi)))
     go_ret2
     exact ⟨by first | rfl | (simp [errW_none, errW_some] <;> rfl) | (simp only [← hji3]; first | rfl | (simp [errW_none, errW_some] <;> rfl)) | (simp [*, errW_none, errW_some] <;> rfl), by repeat (first | (with_reducible first | exact HB.out | apply below_alloc | apply pw_below_drewN | apply below_drew1) | exact HB.out)⟩
   ·rw [if_neg c5] at H
    exact absurd H (by simp)
  ·rw [if_neg c4] at H
   exact absurd H (by simp)
mutual
def sign_ReadRow.j0 : Nat → ByteArray → Bool → Option ((List (S47)) × Int)
 | 0, _, _ => none
 | k + 1, x0, x15 => if x15 = true then (some (([] : List (S47)), 3)) else (sign_ReadRow.l0 k x0 ([] : List (S47)))
def sign_ReadRow.l0 : Nat → ByteArray → List (S47) → Option ((List (S47)) × Int)
 | 0, _, _ => none
 | k + 1, x0, x4 => if x0.toList = ([] : List UInt8) then (some (x4, 0)) else (if 0 ≤ 9 then (if 9 ≤ (x0.size : Int) then ((sign_Read.f (x0.extract 0 9)).bind fun bt143 => (if bt143.2.2.2 = 0 then (if x4.length < 4398046511104 then (sign_ReadRow.l0 k (x0.extract 9 x0.size) (x4 ++ [(⟨bt143.1, bt143.2.1, bt143.2.2.1⟩ : S47)])) else (none)) else (some (([] : List (S47)), bt143.2.2.2)))) else (none)) else (none))
end
def sign_ReadRow.f (k : Nat) (a0 : ByteArray) : Option ((List (S47)) × Int) := if ((a0.size : Int) % 9) = 0 then (sign_ReadRow.j0 k a0 (decide ((a0.size : Int) > 36))) else (sign_ReadRow.j0 k a0 true)
theorem sign_ReadRow.mono_l : ∀ k, (∀ y0 y1, LeO (sign_ReadRow.j0 k y0 y1) (sign_ReadRow.j0 (k + 1) y0 y1)) ∧ (∀ y0 y1, LeO (sign_ReadRow.l0 k y0 y1) (sign_ReadRow.l0 (k + 1) y0 y1))
 | 0 => ⟨fun _ _ r h => by simp [sign_ReadRow.j0] at h, fun _ _ r h => by simp [sign_ReadRow.l0] at h⟩
 | k + 1 => by
  obtain ⟨ih0, ih1⟩ := sign_ReadRow.mono_l k
  refine ⟨?_, ?_⟩
  ·intro y0 y1
   unfold sign_ReadRow.j0
   repeat' first
   | (with_reducible exact ih0 _ _)
   | (with_reducible exact ih1 _ _)
   | (with_reducible exact LeO.refl _)
   | (with_reducible exact LeO.none _)
   | (with_reducible refine LeO.ite ?_ ?_)
   | (with_reducible refine LeO.bind ?_ (fun _ => ?_))
   | exact ih0 _ _
   | exact ih1 _ _
   | exact LeO.none _
   | refine LeO.ite ?_ ?_
   | refine LeO.bind ?_ (fun _ => ?_)
  ·intro y0 y1
   unfold sign_ReadRow.l0
   repeat' first
   | (with_reducible exact ih0 _ _)
   | (with_reducible exact ih1 _ _)
   | (with_reducible exact LeO.refl _)
   | (with_reducible exact LeO.none _)
   | (with_reducible refine LeO.ite ?_ ?_)
   | (with_reducible refine LeO.bind ?_ (fun _ => ?_))
   | exact ih0 _ _
   | exact ih1 _ _
   | exact LeO.none _
   | refine LeO.ite ?_ ?_
   | refine LeO.bind ?_ (fun _ => ?_)
theorem sign_ReadRow.mono : ∀ a0 k, LeO (sign_ReadRow.f k a0) (sign_ReadRow.f (k + 1) a0) := by
 intro a0 k
 obtain ⟨ih0, ih1⟩ := sign_ReadRow.mono_l k
 unfold sign_ReadRow.f
 repeat' first
   | (with_reducible exact ih0 _ _)
   | (with_reducible exact ih1 _ _)
   | (with_reducible exact LeO.refl _)
   | (with_reducible exact LeO.none _)
   | (with_reducible refine LeO.ite ?_ ?_)
   | (with_reducible refine LeO.bind ?_ (fun _ => ?_))
   | exact ih0 _ _
   | exact ih1 _ _
   | exact LeO.none _
   | refine LeO.ite ?_ ?_
   | refine LeO.bind ?_ (fun _ => ?_)
set_option maxHeartbeats 8000000 in
set_option maxRecDepth 100000 in
theorem sign_ReadRow.calls (k : Nat) (a0 : ByteArray) (r1 : List (S47)) (r2 : Int) (w : World) (h : sign_ReadRow.f k a0 = some (r1, r2)) :
  Calls Try.prog 45 #[.string a0] w fun e w' => ∃ v0_ : Value, e = .returned (.tuple #[v0_, .int .i64 r2]) ∧ Kd.R k47 47 w' w.heap.size (fun _ => True) v0_ r1 ∧ Below w.heap.size w w' := by
 have hu47 := Try.underlying47
 have HB := Aside0.mk (Below.refl w.heap.size w)
 have H : (if ((a0.size : Int) % 9) = 0 then (sign_ReadRow.j0 k a0 (decide ((a0.size : Int) > 36))) else (sign_ReadRow.j0 k a0 true)) = some (r1, r2) := h
 clear h
 have HC2 := Aside0.mk H
 clear H
 go_enter Try.func45, Try.ntmps45
 go_upto_region 1 with (fail)
 go_cut [15] (fun v15 wc => ∃ (kq : Nat) (x15_1 : Bool), v15 = .bool x15_1 ∧ Aside0 (sign_ReadRow.j0 kq a0 x15_1 = some (r1, r2)) ∧ Aside0 (kq ≤ k) ∧ Aside0 (Below w.heap.size w wc))
 case first =>
  have H := HC2.out
  clear HC2
  by_cases c3 : ((a0.size : Int) % 9) = 0
  ·rw [if_pos c3] at H
   have c3b0 : (((a0.size : Int) % 9) == 0) = true := beq_iff_eq.mpr c3
   have c3b1 : (((a0.size : Int) % 9) != 0) = false := bne_eq_false_iff_eq.mpr c3
   clear c3
   (first | rw [c3b0] | (simp only [i64_w, i32_w]; rw [c3b0]) | skip)
   have H' := Aside0.mk H
   clear H
   go_wp2
   go_meet
   case rel => exact ⟨_, (decide ((a0.size : Int) > 36)), (by first | rfl | (simp; done) | (simp [*]; done)), H', ⟨by first | omega | exact Nat.le_refl _⟩, ⟨by repeat (first | (with_reducible first | exact HB.out | apply below_alloc | apply pw_below_drewN | apply below_drew1) | exact HB.out)⟩⟩
  ·rw [if_neg c3] at H
   have c3b0 : (((a0.size : Int) % 9) == 0) = false := beq_eq_false_iff_ne.mpr c3
   have c3b1 : (((a0.size : Int) % 9) != 0) = true := bne_iff_ne.mpr c3
   (first | rw [c3b0] | (simp only [i64_w, i32_w]; rw [c3b0]) | skip)
   have H' := Aside0.mk H
   clear H
   go_wp2
   go_meet
   case rel => exact ⟨_, (true), (by first | rfl | (simp; done) | (simp [*]; done)), H', ⟨by first | omega | exact Nat.le_refl _⟩, ⟨by repeat (first | (with_reducible first | exact HB.out | apply below_alloc | apply pw_below_drewN | apply below_drew1) | exact HB.out)⟩⟩
 case rest =>
  clear HC2
  (try clear p2); (try clear c3); (try clear c3b0); (try clear c3b1)
  obtain ⟨kq, x15_1, rfl, HA, HJ1, HB⟩ := hcut
  cases kq with
  | zero => exact absurd HA.out (by simp [sign_ReadRow.j0])
  | succ kj1 =>
   have H := HA.out
   clear HA
   simp only [sign_ReadRow.j0] at H
   by_cases c4 : x15_1 = true
   ·subst c4
    have H1 : (some (([] : List (S47)), 3)) = some (r1, r2) := by rw [if_pos rfl] at H; exact H
    clear H
    have H := H1
    clear H1
    simp only [Option.some.injEq, Prod.mk.injEq] at H
    obtain ⟨rfl, rfl⟩ := H
    go_wp2
    go_ret2
    exact ⟨_, by first | rfl | (simp [errW_none, errW_some] <;> rfl) | (simp [*, errW_none, errW_some] <;> rfl), by first | exact Kd.R_nil _ _ _ _ _ | exact Kd.N_nil _ _ _ _ _ | exact Kd.V_nil _ _ _ _ _ | exact Kd.Q_nil _ _ _ _ _ | exact Kd.S_nil _ _ _ _ _, by repeat (first | (with_reducible first | exact HB.out | apply below_alloc | apply pw_below_drewN | apply below_drew1) | exact HB.out)⟩
   ·replace c4 := Bool.eq_false_iff.mpr c4
    subst c4
    have H1 : (sign_ReadRow.l0 kj1 a0 ([] : List (S47))) = some (r1, r2) := by rw [if_neg (show ¬ (false = true) by decide)] at H; exact H
    clear H
    have H := H1
    clear H1
    have H' := Aside0.mk H
    clear H
    go_wp2
    go_loopg [0, 4] kj1 (fun kq v0 v4 w' => ∃ (x0_2 : ByteArray) (x4_2 : List (S47)), v0 = .string x0_2 ∧ Aside0 (sign_ReadRow.l0 kq x0_2 x4_2 = some (r1, r2)) ∧ Aside0 (kq ≤ kj1) ∧ Aside0 (Kd.R k47 47 w' w.heap.size (fun _ => True) v4 x4_2) ∧ Aside0 (Below w.heap.size w w'))
    case atStart => exact ⟨(a0), (([] : List (S47))), (by first | rfl | (simp; done) | (simp [*]; done)), H', ⟨Nat.le_refl _⟩, ⟨by first | exact Kd.R_nil _ _ _ _ _ | exact Kd.N_nil _ _ _ _ _ | exact Kd.V_nil _ _ _ _ _ | exact Kd.Q_nil _ _ _ _ _ | exact Kd.S_nil _ _ _ _ _⟩, ⟨by repeat (first | (with_reducible first | exact HB.out | apply below_alloc | apply pw_below_drewN | apply below_drew1) | exact HB.out)⟩⟩
    case round =>
     clear H'
     (try clear p2); (try clear c3); (try clear c3b0); (try clear c3b1); (try clear c4); (try clear p2)
     obtain ⟨x0_2, x4_2, rfl, HA, HK2, HO_4, HB⟩ := hrel
     cases gk with
     | zero => exact absurd HA.out (by simp [sign_ReadRow.l0])
     | succ k2 =>
      have H := HA.out
      clear HA
      simp only [sign_ReadRow.l0] at H
      by_cases c5 : x0_2.toList = ([] : List UInt8)
      ·rw [if_pos c5] at H
       have c5b0 : (x0_2.toList == ([] : List UInt8)) = true := beq_iff_eq.mpr c5
       have c5b1 : (x0_2.toList != ([] : List UInt8)) = false := bne_eq_false_iff_eq.mpr c5
       clear c5
       simp only [Option.some.injEq, Prod.mk.injEq] at H
       obtain ⟨rfl, rfl⟩ := H
       go_wp2
       go_ret2
       exact ⟨_, by first | rfl | (simp [errW_none, errW_some] <;> rfl) | (simp [*, errW_none, errW_some] <;> rfl), by (with_reducible repeat (first | apply Kd.R_alloc | apply Kd.R_drewN | apply Kd.R_drew)); exact HO_4.out, by repeat (first | (with_reducible first | exact HB.out | apply below_alloc | apply pw_below_drewN | apply below_drew1) | exact HB.out)⟩
      ·rw [if_neg c5] at H
       have c5b0 : (x0_2.toList == ([] : List UInt8)) = false := beq_eq_false_iff_ne.mpr c5
       have c5b1 : (x0_2.toList != ([] : List UInt8)) = true := bne_iff_ne.mpr c5
       by_cases c6 : 0 ≤ 9
       ·rw [if_pos c6] at H
        have c6b0 := eq_true c6
        have c6b1 : decide (0 ≤ 9) = true := decide_eq_true c6
        clear c6
        by_cases c7 : 9 ≤ (x0_2.size : Int)
        ·rw [if_pos c7] at H
         have c7b0 := eq_true c7
         have c7b1 : decide (9 ≤ (x0_2.size : Int)) = true := decide_eq_true c7
         clear c7
         replace H := Option.bind_eq_some_iff.mp H
         obtain ⟨⟨t143, t144, t145, t146⟩, A80, H⟩ := H
         replace H : (if t146 = 0 then (if x4_2.length < 4398046511104 then (sign_ReadRow.l0 k2 (x0_2.extract 9 x0_2.size) (x4_2 ++ [(⟨t143, t144, t145⟩ : S47)])) else (none)) else (some (([] : List (S47)), t146))) = some (r1, r2) := H
         have A8 := Aside0.mk A80
         clear A80
         by_cases c9 : t146 = 0
         ·rw [if_pos c9] at H
          have c9b0 : (t146 == 0) = true := beq_iff_eq.mpr c9
          have c9b1 : (t146 != 0) = false := bne_eq_false_iff_eq.mpr c9
          clear c9
          by_cases c10 : x4_2.length < 4398046511104
          ·rw [if_pos c10] at H
           have LMc10 := Aside0.mk c10
           clear c10
           obtain ⟨y148, hy148⟩ : ∃ y_ : List (S47), y_ = (x4_2 ++ [(⟨t143, t144, t145⟩ : S47)]) := ⟨_, rfl⟩
           replace H : (sign_ReadRow.l0 k2 (x0_2.extract 9 x0_2.size) y148) = some (r1, r2) := by first | (rw [hy148]; with_reducible exact H) | (have H2_ := (Option.bind_some _ _).symm.trans H; rw [hy148]; with_reducible exact H2_) | (have H2_ := (Option.bind_some _ _).symm.trans H; with_reducible exact H2_) | with_reducible exact H | (rw [hy148]; exact H) | exact H
           have Ny148 := Aside0.mk hy148
           clear hy148
           have c11b0 := eq_true (of_decide_eq_true (by first | (with_reducible assumption) | assumption) : 9 ≤ (x0_2.size : Int))
           have H' := Aside0.mk H
           clear H
           go_wp2_with (first | ((with_reducible refine gate_callee (f := 61) rfl ?_); refine goesL_ (some 23) rfl rfl Try.func61 (by kernel_rfl) rfl #[.string (x0_2.extract 0 9)] rfl (by (try simp only [List.map_toArray, List.map_cons, List.map_nil]); first | done | rfl | (simp only [List.length_drop, List.length_take]; rfl)) ?_; (with_reducible refine (sign_Read.calls (x0_2.extract 0 9) t143 t144 t145 t146 _ A8.out).mono ?_); rintro e w12 ⟨rfl, hb⟩; refine ⟨_, rfl, ?_⟩; have n0_ := Aside0.mk (Kd.R_below (by (with_reducible repeat (first | apply Kd.R_alloc | apply Kd.R_drewN | apply Kd.R_drew)); exact HO_4.out) hb); have n1_ := Aside0.mk (below_step (by repeat (first | (with_reducible first | exact HB.out | apply below_alloc | apply pw_below_drewN | apply below_drew1) | exact HB.out)) hb); clear HO_4; clear HB; have HO_4 := n0_; have HB := n1_; clear n0_ n1_; (try clear hb); (try clear hb2); (try clear hk); (try clear hi)) | ((with_reducible refine gate_dst (N := 5) rfl ?_); (try (refine gate_guard (by rfl) ?_; dsimp only)); refine box_event ?hg (N := 5) ?hd (cs := #[.int .i64 0, .int .i64 0, .string (⟨#[]⟩ : ByteArray)]) (t := 47) ?hr ?_; (case hd => rfl); (case hg => rfl); (case hr => first | (go_simp; done) | (go_simp; rfl)); intro gb147 hg w13 hbox hb; have n0_ := Aside0.mk (Kd.R_below (Kd.R_elderB (by (with_reducible repeat (first | apply Kd.R_alloc | apply Kd.R_drewN | apply Kd.R_drew)); exact HO_4.out) gb147 (Nat.le_of_eq hg.symm)) hb); have n1_ := Aside0.mk (below_step (by repeat (first | (with_reducible first | exact HB.out | apply below_alloc | apply pw_below_drewN | apply below_drew1) | exact HB.out)) hb); have n2_ := Aside0.mk (hbox); have n3_ := Aside0.mk ((by rw [hg]; exact (below_size (by repeat (first | (with_reducible first | exact HB.out | apply below_alloc | apply pw_below_drewN | apply below_drew1) | exact HB.out))) : w.heap.size ≤ gb147)); have n4_ := Aside0.mk ((by rw [hg]; exact (below_size (by repeat (first | (with_reducible first | exact HB.out | apply below_alloc | apply pw_below_drewN | apply below_drew1) | exact HB.out))) : w.heap.size ≤ gb147)); clear HO_4; clear HB; have HO_4 := n0_; have HB := n1_; have BK147 := n2_; have GW147 := n3_; have GE147 := n4_; clear n0_ n1_ n2_ n3_ n4_; clear hb hbox hg; have hcz14_0 : w13.cell? ⟨gb147, 0, none⟩ = some (.int .i64 0) := (blk_cell BK147.out 0).trans rfl; have hcz14_1 : w13.cell? ⟨gb147, 1, none⟩ = some (.int .i64 0) := (blk_cell BK147.out 1).trans rfl; have hcz14_2 : w13.cell? ⟨gb147, 2, none⟩ = some (.string (⟨#[]⟩ : ByteArray)) := (blk_cell BK147.out 2).trans rfl; have hfz14_0 := blk_frozen BK147.out 0; have hfz14_1 := blk_frozen BK147.out 1; have hfz14_2 := blk_frozen BK147.out 2) | ((with_reducible refine gate_builtin (b := .append) (xs := #[.tmp 29, .tmp 31]) rfl ?_); (try (refine gate_guard (by rfl) ?_; dsimp only)); at_builtin; refine Kd.R_append k47 (w0 := w) w.heap.size rfl (.tmp 29) (.tmp 31) 45 47 (.agg #[(.int .i64 0), (.int .i64 0), (.string ⟨#[]⟩)]) 32 rfl Try.underlying45 info47 rfl (by decide) (by omega) u4 x4_2 (⟨t143, t144, t145⟩ : S47) [.int .i64 t143, .int .i64 t144, .string t145] (fun k_ => k_ ≠ gb147) (fun _ => False) rfl (by first | (go_simp; done) | (go_simp; rfl)) ?aP (fun _ hk => hk.elim) ?aF ?aO ?aB ?aS ?aL ?_; (case aP => exact k47_mkM _ _ _ (⟨t143, t144, t145⟩ : S47)); (case aB => exact (by repeat (first | (with_reducible first | exact HB.out | apply below_alloc | apply pw_below_drewN | apply below_drew1 | refine below_set ?_ GE147.out) | exact HB.out))); (case aF => exact (fun k_ hk => Kd.freshB (g := gb147) (o := .cells #[.int .i64 t143, .int .i64 t144, .string t145] 47 (0, 0)) (by (with_reducible repeat (first | refine blk_drewN ?_ _ | refine blk_drew ?_ | refine blk_alloc ?_ _)); refine blk_put (cs := #[.int .i64 t143, .int .i64 t144, .string (⟨#[]⟩ : ByteArray)]) ?_ 2 _ rfl; (with_reducible repeat (first | refine blk_drewN ?_ _ | refine blk_drew ?_ | refine blk_alloc ?_ _)); refine blk_put (cs := #[.int .i64 t143, .int .i64 0, .string (⟨#[]⟩ : ByteArray)]) ?_ 1 _ rfl; (with_reducible repeat (first | refine blk_drewN ?_ _ | refine blk_drew ?_ | refine blk_alloc ?_ _)); refine blk_put (cs := #[.int .i64 0, .int .i64 0, .string (⟨#[]⟩ : ByteArray)]) ?_ 0 _ rfl; (with_reducible repeat (first | refine blk_drewN ?_ _ | refine blk_drew ?_ | refine blk_alloc ?_ _)); exact BK147.out) k_ hk)); (case aO => exact (by (with_reducible repeat (first | apply Kd.R_alloc | apply Kd.R_drewN | apply Kd.R_drew)); exact Kd.R_mono (Kd.R_far (p := ⟨gb147, 2, none⟩) (Kd.R_far (p := ⟨gb147, 1, none⟩) (Kd.R_far (p := ⟨gb147, 0, none⟩) (Kd.R_mono HO_4.out (fun k_ hk => (⟨hk, hk.2⟩ : _ ∧ k_ ≠ gb147))) (fun _ hk => hk.2) (.int .i64 t143)) (fun _ hk => hk.2) (.int .i64 t144)) (fun _ hk => hk.2) (.string t145)) (fun _ hk => hk.1.2))); (case aS => exact (below_size (by repeat (first | (with_reducible first | exact HB.out | apply below_alloc | apply pw_below_drewN | apply below_drew1 | refine below_set ?_ GE147.out) | exact HB.out)))); (case aL => have := LMc10.out; omega); intro v149 w15 ho hb hg hat; rw [← Ny148.out] at ho; have n0_ := Aside0.mk (blk_grown (g := gb147) (o := .cells #[.int .i64 t143, .int .i64 t144, .string t145] 47 (0, 0)) (by (with_reducible repeat (first | refine blk_drewN ?_ _ | refine blk_drew ?_ | refine blk_alloc ?_ _)); refine blk_put (cs := #[.int .i64 t143, .int .i64 t144, .string (⟨#[]⟩ : ByteArray)]) ?_ 2 _ rfl; (with_reducible repeat (first | refine blk_drewN ?_ _ | refine blk_drew ?_ | refine blk_alloc ?_ _)); refine blk_put (cs := #[.int .i64 t143, .int .i64 0, .string (⟨#[]⟩ : ByteArray)]) ?_ 1 _ rfl; (with_reducible repeat (first | refine blk_drewN ?_ _ | refine blk_drew ?_ | refine blk_alloc ?_ _)); refine blk_put (cs := #[.int .i64 0, .int .i64 0, .string (⟨#[]⟩ : ByteArray)]) ?_ 0 _ rfl; (with_reducible repeat (first | refine blk_drewN ?_ _ | refine blk_drew ?_ | refine blk_alloc ?_ _)); exact BK147.out) hg (Kd.R_away HO_4.out (fun _ hk => hk.2))); have n1_ := Aside0.mk (hb); have n2_ := Aside0.mk (ho); clear BK147; clear HB; clear HO_4; have BK147 := n0_; have HB := n1_; have HO150 := n2_; clear n0_ n1_ n2_; clear ho hb hg hat))
           go_roundg k2
           case measure => have := HJ1.out; have := HK2.out; omega
           case rel => exact ⟨(x0_2.extract 9 x0_2.size), (y148), (by first | rfl | (simp; done) | (simp [*]; done)), H', ⟨by have := HJ1.out; have := HK2.out; omega⟩, ⟨by (with_reducible repeat (first | apply Kd.R_alloc | apply Kd.R_drewN | apply Kd.R_drew)); exact Kd.R_mono HO150.out (fun _ hk => trivial)⟩, ⟨by repeat (first | (with_reducible first | exact HB.out | apply below_alloc | apply pw_below_drewN | apply below_drew1 | refine below_set ?_ GE147.out) | exact HB.out)⟩⟩
          ·rw [if_neg c10] at H
           exact absurd H (by simp)
         ·rw [if_neg c9] at H
          have c9b0 : (t146 == 0) = false := beq_eq_false_iff_ne.mpr c9
          have c9b1 : (t146 != 0) = true := bne_iff_ne.mpr c9
          simp only [Option.some.injEq, Prod.mk.injEq] at H
          obtain ⟨rfl, rfl⟩ := H
          go_wp2_with (first | ((with_reducible refine gate_callee (f := 61) rfl ?_); refine goesL_ (some 23) rfl rfl Try.func61 (by kernel_rfl) rfl #[.string (x0_2.extract 0 9)] rfl (by (try simp only [List.map_toArray, List.map_cons, List.map_nil]); first | done | rfl | (simp only [List.length_drop, List.length_take]; rfl)) ?_; (with_reducible refine (sign_Read.calls (x0_2.extract 0 9) t143 t144 t145 t146 _ A8.out).mono ?_); rintro e w16 ⟨rfl, hb⟩; refine ⟨_, rfl, ?_⟩; have n0_ := Aside0.mk (Kd.R_below (by (with_reducible repeat (first | apply Kd.R_alloc | apply Kd.R_drewN | apply Kd.R_drew)); exact HO_4.out) hb); have n1_ := Aside0.mk (below_step (by repeat (first | (with_reducible first | exact HB.out | apply below_alloc | apply pw_below_drewN | apply below_drew1) | exact HB.out)) hb); clear HO_4; clear HB; have HO_4 := n0_; have HB := n1_; clear n0_ n1_; (try clear hb); (try clear hb2); (try clear hk); (try clear hi)) | ((with_reducible refine gate_dst (N := 5) rfl ?_); (try (refine gate_guard (by rfl) ?_; dsimp only)); refine box_event ?hg (N := 5) ?hd (cs := #[.int .i64 0, .int .i64 0, .string (⟨#[]⟩ : ByteArray)]) (t := 47) ?hr ?_; (case hd => rfl); (case hg => rfl); (case hr => first | (go_simp; done) | (go_simp; rfl)); intro gb147 hg w17 hbox hb; have n0_ := Aside0.mk (Kd.R_below (Kd.R_elderB (by (with_reducible repeat (first | apply Kd.R_alloc | apply Kd.R_drewN | apply Kd.R_drew)); exact HO_4.out) gb147 (Nat.le_of_eq hg.symm)) hb); have n1_ := Aside0.mk (below_step (by repeat (first | (with_reducible first | exact HB.out | apply below_alloc | apply pw_below_drewN | apply below_drew1) | exact HB.out)) hb); have n2_ := Aside0.mk (hbox); have n3_ := Aside0.mk ((by rw [hg]; exact (below_size (by repeat (first | (with_reducible first | exact HB.out | apply below_alloc | apply pw_below_drewN | apply below_drew1) | exact HB.out))) : w.heap.size ≤ gb147)); have n4_ := Aside0.mk ((by rw [hg]; exact (below_size (by repeat (first | (with_reducible first | exact HB.out | apply below_alloc | apply pw_below_drewN | apply below_drew1) | exact HB.out))) : w.heap.size ≤ gb147)); clear HO_4; clear HB; have HO_4 := n0_; have HB := n1_; have BK147 := n2_; have GW147 := n3_; have GE147 := n4_; clear n0_ n1_ n2_ n3_ n4_; clear hb hbox hg; have hcz18_0 : w17.cell? ⟨gb147, 0, none⟩ = some (.int .i64 0) := (blk_cell BK147.out 0).trans rfl; have hcz18_1 : w17.cell? ⟨gb147, 1, none⟩ = some (.int .i64 0) := (blk_cell BK147.out 1).trans rfl; have hcz18_2 : w17.cell? ⟨gb147, 2, none⟩ = some (.string (⟨#[]⟩ : ByteArray)) := (blk_cell BK147.out 2).trans rfl; have hfz18_0 := blk_frozen BK147.out 0; have hfz18_1 := blk_frozen BK147.out 1; have hfz18_2 := blk_frozen BK147.out 2))
          go_ret2
          exact ⟨_, by first | rfl | (simp [errW_none, errW_some] <;> rfl) | (simp [*, errW_none, errW_some] <;> rfl), by first | exact Kd.R_nil _ _ _ _ _ | exact Kd.N_nil _ _ _ _ _ | exact Kd.V_nil _ _ _ _ _ | exact Kd.Q_nil _ _ _ _ _ | exact Kd.S_nil _ _ _ _ _, by repeat (first | (with_reducible first | exact HB.out | apply below_alloc | apply pw_below_drewN | apply below_drew1 | refine below_set ?_ GE147.out) | exact HB.out)⟩
        ·rw [if_neg c7] at H
         exact absurd H (by simp)
       ·rw [if_neg c6] at H
        exact absurd H (by simp)
def IsS72 (w0 W : World) (g : Nat) (f0 : ByteArray) (f1 : Bool) : Prop := W.heap[g]? = some (.cells #[.string f0, .bool f1] 72 (0, 0)) ∧ w0.heap.size ≤ g
theorem IsS72.grown {w0 W : World} {g : Nat} {f0 : ByteArray} {f1 : Bool} {W1 : World} {row : Option Nat} (h : IsS72 w0 W g f0 f1) (hw : W.grownBy W1 row) (hne : some g ≠ row) : IsS72 w0 W1 g f0 f1 := by
 obtain ⟨hb, hg⟩ := h
 exact ⟨blk_grown hb hw hne, hg⟩
theorem IsS72.below {w0 W : World} {g : Nat} {f0 : ByteArray} {f1 : Bool} {W1 : World} (h : IsS72 w0 W g f0 f1) (hw : Below W.heap.size W W1) : IsS72 w0 W1 g f0 f1 := h.grown (grown_of_below hw none) (by simp)
theorem IsS72.alloc {w0 W : World} {g : Nat} {f0 : ByteArray} {f1 : Bool} (h : IsS72 w0 W g f0 f1) (o : Obj) : IsS72 w0 (W.alloc o) g f0 f1 := h.below (below_alloc (Below.refl _ _) o)
theorem IsS72.drewN {w0 W : World} {g : Nat} {f0 : ByteArray} {f1 : Bool} (h : IsS72 w0 W g f0 f1) (m : Nat) : IsS72 w0 (W.drewN m) g f0 f1 := h
theorem IsS72.drew {w0 W : World} {g : Nat} {f0 : ByteArray} {f1 : Bool} (h : IsS72 w0 W g f0 f1) : IsS72 w0 W.drew g f0 f1 := h
theorem IsS72.apart {w0 W : World} {g : Nat} {f0 : ByteArray} {f1 : Bool} {α : Type} {d : Kd α} {e : Nat} {base : Nat} {ok : Nat → Prop} {v : Value} {xs : List α} (h : IsS72 w0 W g f0 f1) (ho : d.R e W base ok v xs) (ht : ∀ q, q ∈ e :: d.E → q ≠ 72) : d.R e W base (fun k => ok k ∧ k ≠ g) v xs := by
 obtain ⟨hb, hg⟩ := h
 exact Kd.R_types ho hb ht
theorem IsS72.ge {w0 W : World} {g : Nat} {f0 : ByteArray} {f1 : Bool} (h : IsS72 w0 W g f0 f1) : w0.heap.size ≤ g := by
 obtain ⟨hb, hg⟩ := h
 exact hg
theorem cellS72_0 {W : World} {g : Nat} {f0 : ByteArray} {f1 : Bool} (h : W.heap[g]? = some (.cells #[.string f0, .bool f1] 72 (0, 0))) : W.cell? ⟨g, 0, none⟩ = some (.string f0) := (blk_cell h 0).trans rfl
theorem IsS72.set_0 {w0 W : World} {g : Nat} {f0 : ByteArray} {f1 : Bool} (h : IsS72 w0 W g f0 f1) (x : ByteArray) : IsS72 w0 (W.setCell ⟨g, 0, none⟩ (.string x)) g x f1 := by
 obtain ⟨hb, hg⟩ := h
 exact ⟨by simpa using blk_set hb 0 (.string x), hg⟩
theorem cellS72_1 {W : World} {g : Nat} {f0 : ByteArray} {f1 : Bool} (h : W.heap[g]? = some (.cells #[.string f0, .bool f1] 72 (0, 0))) : W.cell? ⟨g, 1, none⟩ = some (.bool f1) := (blk_cell h 1).trans rfl
theorem IsS72.set_1 {w0 W : World} {g : Nat} {f0 : ByteArray} {f1 : Bool} (h : IsS72 w0 W g f0 f1) (x : Bool) : IsS72 w0 (W.setCell ⟨g, 1, none⟩ (.bool x)) g f0 x := by
 obtain ⟨hb, hg⟩ := h
 exact ⟨by simpa using blk_set hb 1 (.bool x), hg⟩
def ark_eye_take.f (s0_0 : ByteArray) (s0_1 : Bool) (a1 : Int) : Option (ByteArray × ByteArray × Bool) := if a1 > (s0_0.size : Int) then (some ((⟨#[]⟩ : ByteArray), s0_0, true)) else (if 0 ≤ a1 then (if a1 ≤ (s0_0.size : Int) then (some (s0_0.extract 0 (a1 : Int).toNat, s0_0.extract (a1 : Int).toNat s0_0.size, s0_1)) else (none)) else (none))
set_option maxHeartbeats 8000000 in
set_option maxRecDepth 100000 in
theorem ark_eye_take.calls (g : Nat) (s0_0 : ByteArray) (s0_1 : Bool) (a1 : Int) (r1 : ByteArray) (r2 : ByteArray) (r3 : Bool) (w0 w : World) (hI : IsS72 w0 w g s0_0 s0_1) (hB : Below w0.heap.size w0 w) (h : ark_eye_take.f s0_0 s0_1 a1 = some (r1, r2, r3)) :
  Calls Try.prog 46 #[.pointer (some ⟨g, 0, none⟩), .int .i64 a1] w fun e w' => e = .returned (.string r1) ∧ IsS72 w0 w' g r2 r3 ∧ Below w0.heap.size w0 w' ∧ KeepBut w w' g none := by
 have HI0 := Aside0.mk hI
 have HK := Aside0.mk (KeepBut.refl w g none)
 have HL := Aside0.mk hB.size
 clear hI
 have HW0 := Aside0.mk hB.size
 have HB := Aside0.mk hB
 clear hB
 have H : (if a1 > (s0_0.size : Int) then (some ((⟨#[]⟩ : ByteArray), s0_0, true)) else (if 0 ≤ a1 then (if a1 ≤ (s0_0.size : Int) then (some (s0_0.extract 0 (a1 : Int).toNat, s0_0.extract (a1 : Int).toNat s0_0.size, s0_1)) else (none)) else (none))) = some (r1, r2, r3) := h
 clear h
 by_cases c3 : a1 > (s0_0.size : Int)
 ·rw [if_pos c3] at H
  have c3b0 : decide ((s0_0.size : Int) < a1) = true := decide_eq_true c3
  clear c3
  simp only [Option.some.injEq, Prod.mk.injEq] at H
  obtain ⟨rfl, rfl, rfl⟩ := H
  obtain ⟨HGz4, hgz4⟩ := HI0.out
  have hcz4_0 := cellS72_0 HGz4
  have hcz4_1 := cellS72_1 HGz4
  have hfz4_0 := blk_frozen HGz4 0
  have hfz4_1 := blk_frozen HGz4 1
  clear HGz4 hgz4
  go_enter Try.func46, Try.ntmps46
  go_wp2
  go_ret
  exact ⟨by first | rfl | (simp [errW_none, errW_some] <;> rfl) | (simp [*, errW_none, errW_some] <;> rfl), by repeat (first | (with_reducible first | exact HI0.out | apply IsS72.alloc | apply IsS72.drewN | apply IsS72.drew | apply IsS72.set_0 | apply IsS72.set_1) | exact HI0.out), by repeat (first | (with_reducible first | exact HB.out | apply below_alloc | apply pw_below_drewN | apply below_drew1 | refine below_set ?_ (IsS72.ge HI0.out)) | exact HB.out), by repeat (first | (with_reducible first | exact HK.out | apply KeepBut.set_ | apply keep_drewN | apply keep_drew | apply keep_alloc) | exact HK.out)⟩
 ·rw [if_neg c3] at H
  have c3b0 : decide ((s0_0.size : Int) < a1) = false := decide_eq_false c3
  clear c3
  by_cases c5 : 0 ≤ a1
  ·rw [if_pos c5] at H
   have c5b0 := eq_true c5
   have c5b1 : decide (0 ≤ a1) = true := decide_eq_true c5
   clear c5
   by_cases c6 : a1 ≤ (s0_0.size : Int)
   ·rw [if_pos c6] at H
    have c6b0 := eq_true c6
    have c6b1 : decide (a1 ≤ (s0_0.size : Int)) = true := decide_eq_true c6
    clear c6
    have c7b0 := eq_true (of_decide_eq_true (by first | (with_reducible assumption) | assumption) : 0 ≤ a1)
    have c8b0 := eq_true (of_decide_eq_true (by first | (with_reducible assumption) | assumption) : a1 ≤ (s0_0.size : Int))
    simp only [Option.some.injEq, Prod.mk.injEq] at H
    obtain ⟨rfl, rfl, rfl⟩ := H
    obtain ⟨HGz9, hgz9⟩ := HI0.out
    have hcz9_0 := cellS72_0 HGz9
    have hcz9_1 := cellS72_1 HGz9
    have hfz9_0 := blk_frozen HGz9 0
    have hfz9_1 := blk_frozen HGz9 1
    clear HGz9 hgz9
    go_enter Try.func46, Try.ntmps46
    go_wp2
    go_ret
    exact ⟨by first | rfl | (simp [errW_none, errW_some] <;> rfl) | (simp [*, errW_none, errW_some] <;> rfl), by repeat (first | (with_reducible first | exact HI0.out | apply IsS72.alloc | apply IsS72.drewN | apply IsS72.drew | apply IsS72.set_0 | apply IsS72.set_1) | exact HI0.out), by repeat (first | (with_reducible first | exact HB.out | apply below_alloc | apply pw_below_drewN | apply below_drew1 | refine below_set ?_ (IsS72.ge HI0.out)) | exact HB.out), by repeat (first | (with_reducible first | exact HK.out | apply KeepBut.set_ | apply keep_drewN | apply keep_drew | apply keep_alloc) | exact HK.out)⟩
   ·rw [if_neg c6] at H
    exact absurd H (by simp)
  ·rw [if_neg c5] at H
   exact absurd H (by simp)
def ark_eye_count.f (s0_0 : ByteArray) (s0_1 : Bool) : Option (Int × ByteArray × Bool) := (ark_eye_take.f s0_0 s0_1 2).bind fun bt151 => (if bt151.2.2 = true then (some (0, bt151.2.1, bt151.2.2)) else (if 0 < (bt151.1.size : Int) then (if 1 < (bt151.1.size : Int) then (some (Go.bits .or .i64 (wrap64 (bt bt151.1 0)) (wrap64 ((wrap64 (bt bt151.1 1)) * 256)), bt151.2.1, bt151.2.2)) else (none)) else (none)))
set_option maxHeartbeats 8000000 in
set_option maxRecDepth 100000 in
theorem ark_eye_count.calls (g : Nat) (s0_0 : ByteArray) (s0_1 : Bool) (r1 : Int) (r2 : ByteArray) (r3 : Bool) (w0 w : World) (hI : IsS72 w0 w g s0_0 s0_1) (hB : Below w0.heap.size w0 w) (h : ark_eye_count.f s0_0 s0_1 = some (r1, r2, r3)) :
  Calls Try.prog 44 #[.pointer (some ⟨g, 0, none⟩)] w fun e w' => e = .returned (.int .i64 r1) ∧ IsS72 w0 w' g r2 r3 ∧ Below w0.heap.size w0 w' ∧ KeepBut w w' g none := by
 have HI0 := Aside0.mk hI
 have HK := Aside0.mk (KeepBut.refl w g none)
 have HL := Aside0.mk hB.size
 clear hI
 have HW0 := Aside0.mk hB.size
 have HB := Aside0.mk hB
 clear hB
 have H : ((ark_eye_take.f s0_0 s0_1 2).bind fun bt151 => (if bt151.2.2 = true then (some (0, bt151.2.1, bt151.2.2)) else (if 0 < (bt151.1.size : Int) then (if 1 < (bt151.1.size : Int) then (some (Go.bits .or .i64 (wrap64 (bt bt151.1 0)) (wrap64 ((wrap64 (bt bt151.1 1)) * 256)), bt151.2.1, bt151.2.2)) else (none)) else (none)))) = some (r1, r2, r3) := h
 clear h
 replace H := Option.bind_eq_some_iff.mp H
 obtain ⟨⟨t151, t152, t153⟩, A20, H⟩ := H
 replace H : (if t153 = true then (some (0, t152, t153)) else (if 0 < (t151.size : Int) then (if 1 < (t151.size : Int) then (some (Go.bits .or .i64 (wrap64 (bt t151 0)) (wrap64 ((wrap64 (bt t151 1)) * 256)), t152, t153)) else (none)) else (none))) = some (r1, r2, r3) := H
 have A2 := Aside0.mk A20
 clear A20
 by_cases c3 : t153 = true
 ·subst c3
  have H1 : (some (0, t152, true)) = some (r1, r2, r3) := by rw [if_pos rfl] at H; exact H
  clear H
  have H := H1
  clear H1
  simp only [Option.some.injEq, Prod.mk.injEq] at H
  obtain ⟨rfl, rfl, rfl⟩ := H
  go_enter Try.func44, Try.ntmps44
  go_wp2_with (first | (go_at_call 46; (with_reducible refine (ark_eye_take.calls g s0_0 s0_1 2 t151 t152 true w0 _ ?side1 ?side2 A2.out).mono ?_); (case side1 => repeat (first | (with_reducible first | exact HI0.out | apply IsS72.alloc | apply IsS72.drewN | apply IsS72.drew | apply IsS72.set_0 | apply IsS72.set_1) | exact HI0.out)); (case side2 => repeat (first | (with_reducible first | exact HB.out | apply below_alloc | apply pw_below_drewN | apply below_drew1 | refine below_set ?_ (IsS72.ge HI0.out)) | exact HB.out)); rintro e w4 ⟨rfl, hi, hb, hk⟩; have n0_ := Aside0.mk (KeepBut.trans (by repeat (first | (with_reducible first | exact HK.out | apply KeepBut.set_ | apply keep_drewN | apply keep_drew | apply keep_alloc) | exact HK.out)) hk (.inl rfl)); have n1_ := Aside0.mk (hb); have n2_ := Aside0.mk (hi); clear HK; clear HB; clear HI0; have HK := n0_; have HB := n1_; have HI0 := n2_; clear n0_ n1_ n2_; (try clear hb); (try clear hb2); (try clear hk); (try clear hi); obtain ⟨HGz5, hgz5⟩ := HI0.out; have hcz5_0 := cellS72_0 HGz5; have hcz5_1 := cellS72_1 HGz5; have hfz5_0 := blk_frozen HGz5 0; have hfz5_1 := blk_frozen HGz5 1; clear HGz5 hgz5))
  repeat (go_quiet (first | (go_at_call 46; (with_reducible refine (ark_eye_take.calls g s0_0 s0_1 2 t151 t152 true w0 _ ?side1 ?side2 A2.out).mono ?_); (case side1 => repeat (first | (with_reducible first | exact HI0.out | apply IsS72.alloc | apply IsS72.drewN | apply IsS72.drew | apply IsS72.set_0 | apply IsS72.set_1) | exact HI0.out)); (case side2 => repeat (first | (with_reducible first | exact HB.out | apply below_alloc | apply pw_below_drewN | apply below_drew1 | refine below_set ?_ (IsS72.ge HI0.out)) | exact HB.out)); rintro e w4 ⟨rfl, hi, hb, hk⟩; have n0_ := Aside0.mk (KeepBut.trans (by repeat (first | (with_reducible first | exact HK.out | apply KeepBut.set_ | apply keep_drewN | apply keep_drew | apply keep_alloc) | exact HK.out)) hk (.inl rfl)); have n1_ := Aside0.mk (hb); have n2_ := Aside0.mk (hi); clear HK; clear HB; clear HI0; have HK := n0_; have HB := n1_; have HI0 := n2_; clear n0_ n1_ n2_; (try clear hb); (try clear hb2); (try clear hk); (try clear hi); obtain ⟨HGz5, hgz5⟩ := HI0.out; have hcz5_0 := cellS72_0 HGz5; have hcz5_1 := cellS72_1 HGz5; have hfz5_0 := blk_frozen HGz5 0; have hfz5_1 := blk_frozen HGz5 1; clear HGz5 hgz5)); try go_wp2_with (first | (go_at_call 46; (with_reducible refine (ark_eye_take.calls g s0_0 s0_1 2 t151 t152 true w0 _ ?side1 ?side2 A2.out).mono ?_); (case side1 => repeat (first | (with_reducible first | exact HI0.out | apply IsS72.alloc | apply IsS72.drewN | apply IsS72.drew | apply IsS72.set_0 | apply IsS72.set_1) | exact HI0.out)); (case side2 => repeat (first | (with_reducible first | exact HB.out | apply below_alloc | apply pw_below_drewN | apply below_drew1 | refine below_set ?_ (IsS72.ge HI0.out)) | exact HB.out)); rintro e w4 ⟨rfl, hi, hb, hk⟩; have n0_ := Aside0.mk (KeepBut.trans (by repeat (first | (with_reducible first | exact HK.out | apply KeepBut.set_ | apply keep_drewN | apply keep_drew | apply keep_alloc) | exact HK.out)) hk (.inl rfl)); have n1_ := Aside0.mk (hb); have n2_ := Aside0.mk (hi); clear HK; clear HB; clear HI0; have HK := n0_; have HB := n1_; have HI0 := n2_; clear n0_ n1_ n2_; (try clear hb); (try clear hb2); (try clear hk); (try clear hi); obtain ⟨HGz5, hgz5⟩ := HI0.out; have hcz5_0 := cellS72_0 HGz5; have hcz5_1 := cellS72_1 HGz5; have hfz5_0 := blk_frozen HGz5 0; have hfz5_1 := blk_frozen HGz5 1; clear HGz5 hgz5)))
  go_ret
  exact ⟨by first | rfl | (simp [errW_none, errW_some] <;> rfl) | (simp [*, errW_none, errW_some] <;> rfl), by repeat (first | (with_reducible first | exact HI0.out | apply IsS72.alloc | apply IsS72.drewN | apply IsS72.drew | apply IsS72.set_0 | apply IsS72.set_1) | exact HI0.out), by repeat (first | (with_reducible first | exact HB.out | apply below_alloc | apply pw_below_drewN | apply below_drew1 | refine below_set ?_ (IsS72.ge HI0.out)) | exact HB.out), by repeat (first | (with_reducible first | exact HK.out | apply KeepBut.set_ | apply keep_drewN | apply keep_drew | apply keep_alloc) | exact HK.out)⟩
 ·replace c3 := Bool.eq_false_iff.mpr c3
  subst c3
  have H1 : (if 0 < (t151.size : Int) then (if 1 < (t151.size : Int) then (some (Go.bits .or .i64 (wrap64 (bt t151 0)) (wrap64 ((wrap64 (bt t151 1)) * 256)), t152, false)) else (none)) else (none)) = some (r1, r2, r3) := by rw [if_neg (show ¬ (false = true) by decide)] at H; exact H
  clear H
  have H := H1
  clear H1
  by_cases c6 : 0 < (t151.size : Int)
  ·rw [if_pos c6] at H
   have c6b0 : decide (0 < (t151.size : Int)) = true := decide_eq_true c6
   have c6b1 : decide (0 < t151.size) = true := decide_eq_true (by omega)
   clear c6
   by_cases c8 : 1 < (t151.size : Int)
   ·rw [if_pos c8] at H
    have c8b0 : decide (1 < (t151.size : Int)) = true := decide_eq_true c8
    have c8b1 : decide (1 < t151.size) = true := decide_eq_true (by omega)
    clear c8
    simp only [Option.some.injEq, Prod.mk.injEq] at H
    obtain ⟨rfl, rfl, rfl⟩ := H
    go_enter Try.func44, Try.ntmps44
    go_wp2_with (first | (go_at_call 46; (with_reducible refine (ark_eye_take.calls g s0_0 s0_1 2 t151 t152 false w0 _ ?side1 ?side2 A2.out).mono ?_); (case side1 => repeat (first | (with_reducible first | exact HI0.out | apply IsS72.alloc | apply IsS72.drewN | apply IsS72.drew | apply IsS72.set_0 | apply IsS72.set_1) | exact HI0.out)); (case side2 => repeat (first | (with_reducible first | exact HB.out | apply below_alloc | apply pw_below_drewN | apply below_drew1 | refine below_set ?_ (IsS72.ge HI0.out)) | exact HB.out)); rintro e w10 ⟨rfl, hi, hb, hk⟩; have n0_ := Aside0.mk (KeepBut.trans (by repeat (first | (with_reducible first | exact HK.out | apply KeepBut.set_ | apply keep_drewN | apply keep_drew | apply keep_alloc) | exact HK.out)) hk (.inl rfl)); have n1_ := Aside0.mk (hb); have n2_ := Aside0.mk (hi); clear HK; clear HB; clear HI0; have HK := n0_; have HB := n1_; have HI0 := n2_; clear n0_ n1_ n2_; (try clear hb); (try clear hb2); (try clear hk); (try clear hi); obtain ⟨HGz11, hgz11⟩ := HI0.out; have hcz11_0 := cellS72_0 HGz11; have hcz11_1 := cellS72_1 HGz11; have hfz11_0 := blk_frozen HGz11 0; have hfz11_1 := blk_frozen HGz11 1; clear HGz11 hgz11; have p7 : 0 ≤ (0 : Int) := (by omega); have q7 : 0 < t151.size := (by have : (0 : Int) < (t151.size : Int) := of_decide_eq_true (by first | (with_reducible assumption) | assumption); omega); have hx7 : ∀ h : 0 < t151.size, ((t151[0]'h).toNat : Int) = bt t151 0 := bt_at t151 0; clear p7; have qi7 : (0 < (t151.size : Int)) = True := eq_true (of_decide_eq_true (by first | (with_reducible assumption) | assumption)); replace q7 := eq_true q7; have p9 : 0 ≤ (1 : Int) := (by omega); have q9 : 1 < t151.size := (by have : (1 : Int) < (t151.size : Int) := of_decide_eq_true (by first | (with_reducible assumption) | assumption); omega); have hx9 : ∀ h : 1 < t151.size, ((t151[1]'h).toNat : Int) = bt t151 1 := bt_at t151 1; clear p9; have qi9 : (1 < (t151.size : Int)) = True := eq_true (of_decide_eq_true (by first | (with_reducible assumption) | assumption)); replace q9 := eq_true q9))
    repeat (go_quiet (first | (go_at_call 46; (with_reducible refine (ark_eye_take.calls g s0_0 s0_1 2 t151 t152 false w0 _ ?side1 ?side2 A2.out).mono ?_); (case side1 => repeat (first | (with_reducible first | exact HI0.out | apply IsS72.alloc | apply IsS72.drewN | apply IsS72.drew | apply IsS72.set_0 | apply IsS72.set_1) | exact HI0.out)); (case side2 => repeat (first | (with_reducible first | exact HB.out | apply below_alloc | apply pw_below_drewN | apply below_drew1 | refine below_set ?_ (IsS72.ge HI0.out)) | exact HB.out)); rintro e w10 ⟨rfl, hi, hb, hk⟩; have n0_ := Aside0.mk (KeepBut.trans (by repeat (first | (with_reducible first | exact HK.out | apply KeepBut.set_ | apply keep_drewN | apply keep_drew | apply keep_alloc) | exact HK.out)) hk (.inl rfl)); have n1_ := Aside0.mk (hb); have n2_ := Aside0.mk (hi); clear HK; clear HB; clear HI0; have HK := n0_; have HB := n1_; have HI0 := n2_; clear n0_ n1_ n2_; (try clear hb); (try clear hb2); (try clear hk); (try clear hi); obtain ⟨HGz11, hgz11⟩ := HI0.out; have hcz11_0 := cellS72_0 HGz11; have hcz11_1 := cellS72_1 HGz11; have hfz11_0 := blk_frozen HGz11 0; have hfz11_1 := blk_frozen HGz11 1; clear HGz11 hgz11; have p7 : 0 ≤ (0 : Int) := (by omega); have q7 : 0 < t151.size := (by have : (0 : Int) < (t151.size : Int) := of_decide_eq_true (by first | (with_reducible assumption) | assumption); omega); have hx7 : ∀ h : 0 < t151.size, ((t151[0]'h).toNat : Int) = bt t151 0 := bt_at t151 0; clear p7; have qi7 : (0 < (t151.size : Int)) = True := eq_true (of_decide_eq_true (by first | (with_reducible assumption) | assumption)); replace q7 := eq_true q7; have p9 : 0 ≤ (1 : Int) := (by omega); have q9 : 1 < t151.size := (by have : (1 : Int) < (t151.size : Int) := of_decide_eq_true (by first | (with_reducible assumption) | assumption); omega); have hx9 : ∀ h : 1 < t151.size, ((t151[1]'h).toNat : Int) = bt t151 1 := bt_at t151 1; clear p9; have qi9 : (1 < (t151.size : Int)) = True := eq_true (of_decide_eq_true (by first | (with_reducible assumption) | assumption)); replace q9 := eq_true q9)); try go_wp2_with (first | (go_at_call 46; (with_reducible refine (ark_eye_take.calls g s0_0 s0_1 2 t151 t152 false w0 _ ?side1 ?side2 A2.out).mono ?_); (case side1 => repeat (first | (with_reducible first | exact HI0.out | apply IsS72.alloc | apply IsS72.drewN | apply IsS72.drew | apply IsS72.set_0 | apply IsS72.set_1) | exact HI0.out)); (case side2 => repeat (first | (with_reducible first | exact HB.out | apply below_alloc | apply pw_below_drewN | apply below_drew1 | refine below_set ?_ (IsS72.ge HI0.out)) | exact HB.out)); rintro e w10 ⟨rfl, hi, hb, hk⟩; have n0_ := Aside0.mk (KeepBut.trans (by repeat (first | (with_reducible first | exact HK.out | apply KeepBut.set_ | apply keep_drewN | apply keep_drew | apply keep_alloc) | exact HK.out)) hk (.inl rfl)); have n1_ := Aside0.mk (hb); have n2_ := Aside0.mk (hi); clear HK; clear HB; clear HI0; have HK := n0_; have HB := n1_; have HI0 := n2_; clear n0_ n1_ n2_; (try clear hb); (try clear hb2); (try clear hk); (try clear hi); obtain ⟨HGz11, hgz11⟩ := HI0.out; have hcz11_0 := cellS72_0 HGz11; have hcz11_1 := cellS72_1 HGz11; have hfz11_0 := blk_frozen HGz11 0; have hfz11_1 := blk_frozen HGz11 1; clear HGz11 hgz11; have p7 : 0 ≤ (0 : Int) := (by omega); have q7 : 0 < t151.size := (by have : (0 : Int) < (t151.size : Int) := of_decide_eq_true (by first | (with_reducible assumption) | assumption); omega); have hx7 : ∀ h : 0 < t151.size, ((t151[0]'h).toNat : Int) = bt t151 0 := bt_at t151 0; clear p7; have qi7 : (0 < (t151.size : Int)) = True := eq_true (of_decide_eq_true (by first | (with_reducible assumption) | assumption)); replace q7 := eq_true q7; have p9 : 0 ≤ (1 : Int) := (by omega); have q9 : 1 < t151.size := (by have : (1 : Int) < (t151.size : Int) := of_decide_eq_true (by first | (with_reducible assumption) | assumption); omega); have hx9 : ∀ h : 1 < t151.size, ((t151[1]'h).toNat : Int) = bt t151 1 := bt_at t151 1; clear p9; have qi9 : (1 < (t151.size : Int)) = True := eq_true (of_decide_eq_true (by first | (with_reducible assumption) | assumption)); replace q9 := eq_true q9)))
    go_ret
    exact ⟨by first | rfl | (simp [errW_none, errW_some] <;> rfl) | (simp [*, errW_none, errW_some] <;> rfl), by repeat (first | (with_reducible first | exact HI0.out | apply IsS72.alloc | apply IsS72.drewN | apply IsS72.drew | apply IsS72.set_0 | apply IsS72.set_1) | exact HI0.out), by repeat (first | (with_reducible first | exact HB.out | apply below_alloc | apply pw_below_drewN | apply below_drew1 | refine below_set ?_ (IsS72.ge HI0.out)) | exact HB.out), by repeat (first | (with_reducible first | exact HK.out | apply KeepBut.set_ | apply keep_drewN | apply keep_drew | apply keep_alloc) | exact HK.out)⟩
   ·rw [if_neg c8] at H
    exact absurd H (by simp)
  ·rw [if_neg c6] at H
   exact absurd H (by simp)
end Go.Proofs.Ytfkkeddjfiljfaa.PArk
namespace Go.Proofs.Ytfkkeddjfiljfaa
open Go.RowKit Go.Shelf Go.Proofs.YtfkkeddjfiljfaaW.PrintWords Go.Proofs.YtfkkeddjfiljfaaW.PrintMore Go.Proofs.Ytfkkeddjfiljfaa.PArk
theorem infoU8 : (Try.prog.info? 5).map (fun i => (i.zero, i.size, i.bytes)) = some (some (.int .u8 0), 1, 1) := by kernel_rfl
theorem b_copyX (B b : Nat) (bs : List Value) (q : Nat) (o : Obj) (W : World) (h : Lib.IsBuilder 51 5 B b bs W) (hq : W.heap[q]? = some o) (hne : q ≠ b) :
  Calls Try.prog 32 #[.pointer (some ⟨b, 0, none⟩)] W fun e w' => e = .returned (.tuple #[]) ∧ (Lib.BuilderAt 51 5 B b (.pointer (some ⟨b, 0, none⟩)) bs w' ∧ w'.heap[q]? = some o ∧ Below B W w' ∧ W.heap.size ≤ w'.heap.size) := by
 rcases h with h | h
 ·refine (Any.Builder_copyCheck_fresh { lays105 with } Builder_Extra_105.toX72 b W h.cell0 h.shape h.frozen0).mono ?_
  rintro e w' ⟨rfl, rfl⟩
  exact ⟨rfl, h.used _, by rw [Below.heap_setCell _ _ _ _ hne]; exact hq, (Below.refl B W).setCell (p := ⟨b, 0, none⟩) h.1 _, by simp⟩
 ·refine (Any.Builder_copyCheck_used { lays105 with } Builder_Extra_105.toX72 b W h.cell0).mono ?_
  rintro e w' ⟨rfl, rfl⟩
  exact ⟨rfl, h, hq, Below.refl B _, Nat.le_refl _⟩
set_option maxRecDepth 100000 in
theorem b_Write2 (B b : Nat) (bs : List Value) (x y : Int) (w0 : World) (h : Lib.IsBuilder 51 5 B b bs w0) (hlen : bs.length + 2 ≤ 140737488355328) (hBw : B ≤ w0.heap.size) :
  Calls Try.prog 13 #[.pointer (some ⟨b, 0, none⟩), .slice (some ⟨w0.heap.size, 0, none⟩) 2 2] (w0.alloc (.cells #[.int .u8 x, .int .u8 y] 5)) fun e w' => e = .returned (.tuple #[.int .i64 2, .nilIface]) ∧ (Lib.BuilderAt 51 5 B b (.pointer (some ⟨b, 0, none⟩)) (bs ++ [.int .u8 x, .int .u8 y]) w' ∧ Below B w0 w') := by
 have hbl : b < w0.heap.size := by
  rcases h with ⟨_, v, h2, _⟩ | ⟨_, v, h2, _⟩
  ·exact blk_lt h2
  ·exact blk_lt h2
 have h1 := isB_below h (below_alloc (Below.refl _ _) (.cells #[.int .u8 x, .int .u8 y] 5))
 have hq := heap_alloc_new w0 (.cells #[.int .u8 x, .int .u8 y] 5)
 have hB : Below B w0 (w0.alloc (.cells #[.int .u8 x, .int .u8 y] 5)) := (Below.refl B w0).alloc hBw _
 obtain ⟨i0, hi, hz0, hz1, hz2⟩ := info_parts infoU8
 have H1 := Lib.hid h1
 have HQ := Lib.hid hq
 have HB := Lib.hid hB
 have HL := Lib.hid hlen
 have HI := Lib.hid hi
 have HZ0 := Lib.hid hz0
 have HZ1 := Lib.hid hz1
 have HZ2 := Lib.hid hz2
 have HN : Hid (w0.heap.size ≠ b) := by show w0.heap.size ≠ b; omega
 clear h1 hq hB h hlen hi hz0 hz1 hz2 hbl
 generalize hW : w0.alloc (.cells #[.int .u8 x, .int .u8 y] 5) = W at *
 have HS : Hid (w0.heap.size ≤ W.heap.size) := by show _ ≤ _; rw [← hW]; simp
 clear hW
 generalize w0.heap.size = q at *
 go_enter Try.func13, Try.ntmps13
 go_wp2_with fail
 refine (b_copyX B b bs q _ W H1.out HQ.out HN.out).mono ?_
 rintro e w1 ⟨rfl, ⟨hBb, v, hbk, hown, hnb⟩, hq1, hb1, hs1⟩
 have K1 := Lib.hid hbk
 have O1 := Lib.hid hown
 have Q1 := Lib.hid hq1
 have HB1 := Lib.hid (HB.out.trans hb1)
 have HSZ : Hid (B ≤ w1.heap.size) := by have := HS.out; show B ≤ _; omega
 have HBb := Lib.hid hBb
 have c1 : w1.cell? ⟨b, 1, none⟩ = some v := (blk_cell hbk 1).trans rfl
 clear hbk hown hq1 hb1 hs1 hnb hBb
 have hnews : ∀ (j : Nat) (u : Value), ([.int .u8 x, .int .u8 y] : List Value)[j]? = some u → w1.cell? ((⟨q, 0, none⟩ : Addr).add j) = some u := by
  intro j u hj
  rw [add_plain]
  have := blk_cell Q1.out j
  rw [this]
  rcases j with _ | _ | j
  ·exact hj
  ·exact hj
  ·simp at hj
 have HNW := Lib.hid hnews
 have hone : ∀ u ∈ ([.int .u8 x, .int .u8 y] : List Value), u.oneCell' = true := by
  intro u hu
  rcases List.mem_cons.1 hu with rfl | hu
  ·rfl
  ·rw [List.mem_singleton.1 hu]; rfl
 have HON := Lib.hid hone
 clear hnews hone
 go_wp2_with (first
  | (at_builtin; go_must (refine wpList_append_own _ rfl (.tmp 12) (.tmp 13) 49 rfl B 5 i0 (.int .u8 0) 1 1 Try.underlying49 HI.out HZ0.out HZ1.out HZ2.out rfl (by decide) v bs.length bs rfl O1.out ⟨q, 0, none⟩ 2 2 [.int .u8 x, .int .u8 y] rfl rfl HNW.out HON.out (by have := HL.out; simp only [maxLen]; omega) (by have := HL.out; omega) HSZ.out ?_); intro v2 w2 hown2 hg2 hn2; obtain ⟨gg, cc, rfl⟩ := Go.ownsRow_succ (k := bs.length + 1) hown2; have O2 := Lib.hid hown2; have k2 := blk_grown K1.out hg2 (own_ne O1.out K1.out (by decide)); have f2 := blk_frozen k2 1; have c2 : w2.cell? ⟨b, 1, none⟩ = some v := (blk_cell k2 1).trans rfl; have K2 := Lib.hid k2; have G2 := Lib.hid hg2; clear hown2 hg2 hn2 k2))
 go_ret2
 have hb := K2.out
 have ho := O2.out
 have e2 : bs.length + 2 = (bs ++ [.int .u8 x, .int .u8 y] : List Value).length := by simp
 have ho' : w2.ownsRow B 5 1 (.slice (some ⟨gg, 0, none⟩) (bs.length + 1 + 1) cc) (bs ++ [.int .u8 x, .int .u8 y] : List Value).length (bs ++ [.int .u8 x, .int .u8 y]) := by rw [← e2]; exact ho
 exact ⟨rfl, Lib.BuilderAt.put HBb.out hb ho' (by decide), (Below.grown HB1.out G2.out HSZ.out (fun k hk => (O1.out.lt k hk).1)).setCell (p := ⟨b, 1, none⟩) HBb.out _⟩
def tabB (rows : List (List Vl)) : List UInt8 := [UInt8.ofNat (rows.length % 256), UInt8.ofNat (rows.length / 256)] ++ rows.flatMap codesL
def hdB (rows : List (List Vl)) : List UInt8 := [UInt8.ofNat (rows.length % 256), UInt8.ofNat (rows.length / 256)]
def packB (tabs : List (List (List Vl))) : List UInt8 := tabs.flatMap tabB
def okRow (r : List Vl) : Bool := decide (r.length ≤ 4) && r.all goodV
def okRows (rows : List (List Vl)) : Bool := decide (rows.length ≤ 1000) && rows.all okRow
def okTabs (tabs : List (List (List Vl))) : Bool := decide (tabs.length ≤ 100) && tabs.all okRows
theorem okRow_len {r : List Vl} (h : okRow r = true) : (codesL r).length ≤ 36 := by
 unfold okRow at h
 rw [Bool.and_eq_true] at h
 have := of_decide_eq_true h.1
 rw [codesL_len r h.2]
 omega
theorem rows_len (rows : List (List Vl)) (h : rows.all okRow = true) : (rows.flatMap codesL).length ≤ 36 * rows.length := by
 induction rows with
 | nil => exact Nat.le_refl _
 | cons r l ih =>
  rw [List.all_cons, Bool.and_eq_true] at h
  have := okRow_len h.1
  have := ih h.2
  rw [List.flatMap_cons, List.length_append, List.length_cons]
  omega
theorem tabB_len (rows : List (List Vl)) (h : okRows rows = true) : (tabB rows).length ≤ 36002 := by
 unfold okRows at h
 rw [Bool.and_eq_true] at h
 have h1 := of_decide_eq_true h.1
 have := rows_len rows h.2
 unfold tabB
 rw [List.length_append]
 show 2 + _ ≤ _
 omega
theorem packB_len (tabs : List (List (List Vl))) (h : tabs.all okRows = true) : (packB tabs).length ≤ 36002 * tabs.length := by
 induction tabs with
 | nil => exact Nat.le_refl _
 | cons r l ih =>
  rw [List.all_cons, Bool.and_eq_true] at h
  have := tabB_len r h.1
  have := ih h.2
  show (tabB r ++ packB l).length ≤ _
  rw [List.length_append, List.length_cons]
  omega
theorem isB_lt {T e B b : Nat} {bs : List Value} {w : World} (h : Lib.IsBuilder T e B b bs w) : b < w.heap.size := by
 rcases h with ⟨_, v, h2, _⟩ | ⟨_, v, h2, _⟩
 ·exact blk_lt h2
 ·exact blk_lt h2
theorem take_snoc {α : Type} (l : List α) (i : Nat) (d : α) (h : i < l.length) : l.take (i + 1) = l.take i ++ [l.getD i d] := by
 rw [List.take_add_one, List.getElem?_eq_getElem h, List.getD_eq_getElem?_getD, List.getElem?_eq_getElem h]
 rfl
theorem getD_mem {α : Type} (l : List α) (i : Nat) (d : α) (h : i < l.length) : l.getD i d ∈ l := by
 rw [List.getD_eq_getElem?_getD, List.getElem?_eq_getElem h]
 exact List.getElem_mem _
set_option maxRecDepth 100000 in
theorem c_PackG (k : Nat) (A0_0 : Option Addr) (c0_0 : Nat) (l0_0 : List S41) (A0_1 : Option Addr) (c0_1 : Nat) (l0_1 : List S44) (A1 : Option Addr) (c1 : Nat) (l1 : List (List (List Vl))) (s : ByteArray) (w : World) (hr0_0 : Kd.C k41 w A0_0 l0_0.length l0_0) (hc0_0 : l0_0.length ≤ c0_0) (hr0_1 : Kd.C k44 w A0_1 l0_1.length l0_1) (hc0_1 : l0_1.length ≤ c0_1) (hr1 : Kd.C (Kd.slice 45 (Kd.slice 47 k47)) w A1 l1.length l1) (hc1 : l1.length ≤ c1) (hg : ark_isGood.f k l0_0 l0_1 l1 = some true) (hok : okTabs l1 = true) (hs : crc_Seal.f k ⟨(packB l1).toArray⟩ = some s) :
  Calls Try.prog 6 #[.agg #[.slice A0_0 l0_0.length c0_0, .slice A0_1 l0_1.length c0_1], .slice A1 l1.length c1] w fun e w' => e = .returned (.tuple #[.string s, .int .i64 0]) ∧ Below w.heap.size w w' := by
 have HR0_0 := Lib.hid hr0_0
 have HR0_1 := Lib.hid hr0_1
 have HR1 := Lib.hid hr1
 have HC0 := Lib.hid hc0_0
 have HC1 := Lib.hid hc0_1
 have HC := Lib.hid hc1
 have HG := Lib.hid hg
 have HS := Lib.hid hs
 unfold okTabs at hok
 rw [Bool.and_eq_true] at hok
 have HL := Lib.hid (of_decide_eq_true hok.1)
 have HA := Lib.hid hok.2
 clear hr0_0 hr0_1 hr1 hc0_0 hc0_1 hc1 hg hs hok
 have hB : Hid (Below w.heap.size w (w.alloc (.cells #[.slice A0_0 l0_0.length c0_0, .slice A0_1 l0_1.length c0_1] 25))) := below_alloc (Below.refl _ _) _
 go_enter Try.func6, Try.ntmps6
 go_wp2_with fail
 refine (ark_isGood.calls k _ _ l0_0 _ _ l0_1 _ _ l1 true _ (Kd.C_below HR0_0.out hB.out) HC0.out (Kd.C_below HR0_1.out hB.out) HC1.out (Kd.C_below HR1.out hB.out) HC.out HG.out).mono ?_
 rintro e w1 ⟨rfl, hb⟩
 have HB := Lib.hid (below_step hB.out hb)
 clear hb
 have HBl := Lib.hid (isB_new 51 5 w1)
 have HB1 := Lib.hid (below_alloc HB.out (.cells #[.pointer none, .slice none 0 0] 51))
 have HW : Hid (w.heap.size ≤ w1.heap.size) := HB.out.size
 go_wp2
 go_loopw [19] (fun v wr => ∃ i : Nat, i ≤ l1.length ∧ v = .int .i64 i ∧ Hid (Lib.IsBuilder 51 5 w1.heap.size w1.heap.size (Lib.byteCells (packB (l1.take i))) wr) ∧ Hid (Below w.heap.size w wr)) (fun v _ => l1.length - (intOf v).toNat)
 case atStart => exact ⟨0, by omega, rfl, HBl, HB1⟩
 case round =>
  clear HBl HB1 hB HB
  obtain ⟨i, hi, rfl, HI, HB⟩ := hrel
  by_cases hlt : i < l1.length
  ·obtain ⟨ad, A2, c2, rfl, y0, hl2, hr2⟩ := at_L11 HR1.out i (by omega) (by omega)
   simp only [Int.toNat_natCast] at y0
   replace y0 := (HB.out.cell (World.block_lt_of_cell? w _ y0)).trans y0
   have hsn : l1.take (i + 1) = l1.take i ++ [rd_L11 l1 i] := take_snoc l1 i _ hlt
   have hmem : rd_L11 l1 i ∈ l1 := getD_mem l1 i _ hlt
   generalize rd_L11 l1 i = rows at *
   have hrow := List.all_eq_true.1 HA.out rows hmem
   have HT := Lib.hid (show ((l1.take i).all okRows = true) from List.all_eq_true.2 fun x hx => List.all_eq_true.1 HA.out x (List.mem_of_mem_take hx))
   have hpl := packB_len (l1.take i) HT.out
   rw [List.length_take] at hpl
   have hpl2 : (packB (l1.take i)).length ≤ 3600200 := by have := HL.out; omega
   have HPL := Lib.hid hpl2
   have HSN := Lib.hid hsn
   have HR2 := Lib.hid hr2
   have HC2 := Lib.hid hl2
   unfold okRows at hrow
   rw [Bool.and_eq_true] at hrow
   have HRN := Lib.hid (of_decide_eq_true hrow.1)
   have HRA := Lib.hid hrow.2
   have HLT := Lib.hid hlt
   have W1 : wrap64 ((i : Int) + 1) = i + 1 := by have := HL.out; unfold wrap64; omega
   clear hsn hmem hpl hpl2 hl2 hr2 hrow HT
   have hx : (UInt8.ofNat (rows.length % 256)).toNat = rows.length % 256 := by rw [UInt8.toNat_ofNat']; omega
   have hy : (UInt8.ofNat (rows.length / 256)).toNat = rows.length / 256 := by have := HRN.out; rw [UInt8.toNat_ofNat']; omega
   have hcell : Lib.byteCells (packB (l1.take i)) ++ [.int .u8 ((rows.length : Int) % 256), .int .u8 ((rows.length : Int) / 256 % 256)] = Lib.byteCells (packB (l1.take i) ++ hdB rows) := by
    have h2 : (((rows.length / 256 : Nat) : Int)) = (rows.length : Int) / 256 % 256 := by have := HRN.out; omega
    have h1 : (((rows.length % 256 : Nat) : Int)) = (rows.length : Int) % 256 := by omega
    rw [byteCells_app, ← h1, ← h2]
    show _ = _ ++ [Value.int .u8 ((UInt8.ofNat (rows.length % 256)).toNat : Int), Value.int .u8 ((UInt8.ofNat (rows.length / 256)).toNat : Int)]
    rw [hx, hy]
   have HCL := Lib.hid hcell
   clear hx hy hcell
   go_wp2_with fail
   refine (b_Write2 w1.heap.size w1.heap.size _ _ _ wr HI.out (by have := HPL.out; rw [Lib.byteCells_length]; omega) (Nat.le_of_lt (isB_lt HI.out))).mono ?_
   rintro e w2 ⟨rfl, h1, h2⟩
   have h3 : Lib.IsBuilder 51 5 w1.heap.size w1.heap.size (Lib.byteCells (packB (l1.take i) ++ hdB rows ++ (rows.take 0).flatMap codesL)) w2 := by
    rw [List.take_zero, List.flatMap_nil, List.append_nil, ← HCL.out]
    exact Or.inr h1
   have HI2 := Lib.hid h3
   have HB2 := Lib.hid (HB.out.trans (h2.mono HW.out))
   clear h1 h2 h3 HCL HI
   go_wp2
   go_loopw [34] (fun v wr => ∃ j : Nat, j ≤ rows.length ∧ v = .int .i64 j ∧ Hid (Lib.IsBuilder 51 5 w1.heap.size w1.heap.size (Lib.byteCells (packB (l1.take i) ++ hdB rows ++ (rows.take j).flatMap codesL)) wr) ∧ Hid (Below w.heap.size w wr)) (fun v _ => rows.length - (intOf v).toNat)
   case atStart => exact ⟨0, by omega, rfl, HI2, HB2⟩
   case round =>
    clear HI2 HB2 HB y0
    obtain ⟨j, hj, rfl, HI, HB⟩ := hrel
    by_cases hlj : j < rows.length
    ·obtain ⟨ad3, A3, c3, rfl, y3, hl3, hr3⟩ := at_L10 HR2.out j (by omega) (by omega)
     simp only [Int.toNat_natCast] at y3
     replace y3 := (HB.out.cell (World.block_lt_of_cell? w _ y3)).trans y3
     have hsn : rows.take (j + 1) = rows.take j ++ [rd_L10 rows j] := take_snoc rows j _ hlj
     have hmem : rd_L10 rows j ∈ rows := getD_mem rows j _ hlj
     generalize rd_L10 rows j = row at *
     have hrow := List.all_eq_true.1 HRA.out row hmem
     have hcl := okRow_len hrow
     have hl4 := rows_len (rows.take j) (List.all_eq_true.2 fun x hx => List.all_eq_true.1 HRA.out x (List.mem_of_mem_take hx))
     rw [List.length_take] at hl4
     have hll : ((rows.take j).flatMap codesL).length ≤ 36000 := by have := HRN.out; omega
     have hrv : rowV row = (⟨(codesL row).toArray⟩, 0) := by
      unfold okRow at hrow
      rw [Bool.and_eq_true] at hrow
      unfold rowV
      rw [if_pos ⟨of_decide_eq_true hrow.1, hrow.2⟩]
     have HRV := Lib.hid hrv
     have HLL := Lib.hid hll
     have HCL := Lib.hid hcl
     have HSJ := Lib.hid hsn
     have HR3 := Lib.hid hr3
     have HC3 := Lib.hid hl3
     have HLJ := Lib.hid hlj
     have W2 : wrap64 ((j : Int) + 1) = j + 1 := by have := HRN.out; unfold wrap64; omega
     clear hrv hll hcl hsn hr3 hl3 hrow hl4 hmem
     go_wp2_with fail
     refine (c_Row row _ _ _ (Kd.C_below HR3.out HB.out) HC3.out).mono ?_
     rintro e w3 ⟨rfl, hb⟩
     rw [HRV.out]
     have HI3 := Lib.hid (isB_below HI.out hb)
     have HB3 := Lib.hid (below_step HB.out hb)
     clear hb
     go_wp2_with fail
     refine (b_WriteString w1.heap.size w1.heap.size _ ⟨(codesL row).toArray⟩ _ HI3.out (by have := HPL.out; have := HLL.out; have := HCL.out; rw [Lib.byteCells_length]; simp only [List.length_append, hdB, List.length_cons, List.length_nil]; show _ + (codesL row).toArray.size ≤ _; rw [List.size_toArray]; omega) (Nat.le_of_lt (isB_lt HI3.out))).mono ?_
     rintro e w4 ⟨rfl, h1, h2⟩
     have h3 : Lib.IsBuilder 51 5 w1.heap.size w1.heap.size (Lib.byteCells (packB (l1.take i) ++ hdB rows ++ (rows.take (j + 1)).flatMap codesL)) w4 := by
      rw [HSJ.out, List.flatMap_append, ← List.append_assoc, byteCells_app _ (List.flatMap codesL [row])]
      have e : Lib.byteCells (List.flatMap codesL [row]) = Lib.strCells ⟨(codesL row).toArray⟩ := by
       rw [Lib.strCells_eq]
       simp
      rw [e]
      exact Or.inr h1
     have HI4 := Lib.hid h3
     have HB4 := Lib.hid (HB3.out.trans (h2.mono HW.out))
     clear h1 h2 h3
     go_wp2
     go_roundw
     case rel =>
      try rw [W2]
      exact ⟨j + 1, HLJ.out, by rw [Int.natCast_succ], HI4, HB4⟩
     case measure =>
      try rw [W2]
      show rows.length - ((j : Int) + 1).toNat < rows.length - (j : Int).toNat
      have := HLJ.out
      omega
    ·have hil : j = rows.length := by omega
     subst hil
     have hi2 := HI.out
     rw [List.take_length] at hi2
     have h3 : Lib.IsBuilder 51 5 w1.heap.size w1.heap.size (Lib.byteCells (packB (l1.take (i + 1)))) wr := by
      rw [HSN.out]
      unfold packB
      rw [List.flatMap_append]
      simp only [List.flatMap_cons, List.flatMap_nil, List.append_nil]
      unfold packB hdB at hi2
      unfold tabB
      rw [← List.append_assoc]
      exact hi2
     have HI2 := Lib.hid h3
     clear hi2 h3
     go_wp2
     go_roundw
     case rel =>
      try rw [W1]
      exact ⟨i + 1, HLT.out, by rw [Int.natCast_succ], HI2, HB⟩
     case measure =>
      try rw [W1]
      show l1.length - ((i : Int) + 1).toNat < l1.length - (i : Int).toNat
      have := HLT.out
      omega
  ·have hil : i = l1.length := by omega
   subst hil
   have hi2 := HI.out
   rw [List.take_length] at hi2
   have HI2 := Lib.hid hi2
   clear hi2
   go_wp2_with fail
   refine (Builder_String_any w1.heap.size w1.heap.size _ _ HI2.out (Nat.le_of_lt (isB_lt HI2.out))).mono ?_
   rintro e w2 ⟨rfl, h2⟩
   have HB2 := Lib.hid (HB.out.trans (h2.mono HW.out))
   clear h2
   go_wp2_with fail
   refine (crc_Seal.calls k _ _ _ HS.out).mono ?_
   rintro e w3 ⟨rfl, hb⟩
   have HB3 := Lib.hid (below_step HB2.out hb)
   clear hb
   go_wp2
   go_ret2
   exact ⟨rfl, HB3.out⟩
set_option maxRecDepth 100000 in
theorem c_PackB (k : Nat) (A0_0 : Option Addr) (c0_0 : Nat) (l0_0 : List S41) (A0_1 : Option Addr) (c0_1 : Nat) (l0_1 : List S44) (A1 : Option Addr) (c1 : Nat) (l1 : List (List (List Vl))) (w : World) (hr0_0 : Kd.C k41 w A0_0 l0_0.length l0_0) (hc0_0 : l0_0.length ≤ c0_0) (hr0_1 : Kd.C k44 w A0_1 l0_1.length l0_1) (hc0_1 : l0_1.length ≤ c0_1) (hr1 : Kd.C (Kd.slice 45 (Kd.slice 47 k47)) w A1 l1.length l1) (hc1 : l1.length ≤ c1) (hg : ark_isGood.f k l0_0 l0_1 l1 = some false) :
  Calls Try.prog 6 #[.agg #[.slice A0_0 l0_0.length c0_0, .slice A0_1 l0_1.length c0_1], .slice A1 l1.length c1] w fun e w' => e = .returned (.tuple #[.string ⟨#[]⟩, .int .i64 1]) ∧ Below w.heap.size w w' := by
 have HR0_0 := Lib.hid hr0_0
 have HR0_1 := Lib.hid hr0_1
 have HR1 := Lib.hid hr1
 have HC0 := Lib.hid hc0_0
 have HC1 := Lib.hid hc0_1
 have HC := Lib.hid hc1
 have HG := Lib.hid hg
 clear hr0_0 hr0_1 hr1 hc0_0 hc0_1 hc1 hg
 have hB : Hid (Below w.heap.size w (w.alloc (.cells #[.slice A0_0 l0_0.length c0_0, .slice A0_1 l0_1.length c0_1] 25))) := below_alloc (Below.refl _ _) _
 go_enter Try.func6, Try.ntmps6
 go_wp2_with fail
 refine (ark_isGood.calls k _ _ l0_0 _ _ l0_1 _ _ l1 false _ (Kd.C_below HR0_0.out hB.out) HC0.out (Kd.C_below HR0_1.out hB.out) HC1.out (Kd.C_below HR1.out hB.out) HC.out HG.out).mono ?_
 rintro e w1 ⟨rfl, hb⟩
 have HB := Lib.hid (below_step hB.out hb)
 clear hb
 go_wp2
 go_ret2
 exact ⟨rfl, HB.out⟩
namespace PArk
def ark_Pack.f (k : Nat) (l0_0 : List S41) (l0_1 : List S44) (l1 : List (List (List S47))) : Option (ByteArray × Int) :=
 (ark_isGood.f k l0_0 l0_1 l1).bind fun b => if b = true then (if okTabs l1 = true then (crc_Seal.f k ⟨(packB l1).toArray⟩).bind fun s => some (s, 0) else none) else some (⟨#[]⟩, 1)
theorem ark_Pack.mono : ∀ a0 a1 a2 k, LeO (ark_Pack.f k a0 a1 a2) (ark_Pack.f (k + 1) a0 a1 a2) := by
 intro a0 a1 a2 k
 unfold ark_Pack.f
 refine LeO.bind (ark_isGood.mono _ _ _ _) ?_
 intro b
 split
 ·split
  ·refine LeO.bind (crc_Seal.mono _ _) ?_
   intro s
   exact LeO.refl _
  ·exact LeO.refl _
 ·exact LeO.refl _
theorem ark_Pack.calls (k : Nat) (A0_0 : Option Addr) (c0_0 : Nat) (l0_0 : List S41) (A0_1 : Option Addr) (c0_1 : Nat) (l0_1 : List S44) (A1 : Option Addr) (c1 : Nat) (l1 : List (List (List S47))) (r1 : ByteArray) (r2 : Int) (w : World) (hr0_0 : Kd.C k41 w A0_0 l0_0.length l0_0) (hc0_0 : l0_0.length ≤ c0_0) (hr0_1 : Kd.C k44 w A0_1 l0_1.length l0_1) (hc0_1 : l0_1.length ≤ c0_1) (hr1 : Kd.C (Kd.slice 45 (Kd.slice 47 k47)) w A1 l1.length l1) (hc1 : l1.length ≤ c1) (h : ark_Pack.f k l0_0 l0_1 l1 = some (r1, r2)) :
  Calls Try.prog 6 #[.agg #[.slice A0_0 l0_0.length c0_0, .slice A0_1 l0_1.length c0_1], .slice A1 l1.length c1] w fun e w' => e = .returned (.tuple #[.string r1, .int .i64 r2]) ∧ Below w.heap.size w w' := by
 unfold ark_Pack.f at h
 obtain ⟨b, hb, h⟩ := Option.bind_eq_some_iff.mp h
 cases b with
 | true =>
  rw [if_pos rfl] at h
  by_cases hok : okTabs l1 = true
  ·rw [if_pos hok] at h
   obtain ⟨s, hs, h⟩ := Option.bind_eq_some_iff.mp h
   obtain ⟨rfl, rfl⟩ := Prod.mk.inj (Option.some.inj h)
   exact c_PackG k A0_0 c0_0 l0_0 A0_1 c0_1 l0_1 A1 c1 l1 s w hr0_0 hc0_0 hr0_1 hc0_1 hr1 hc1 hb hok hs
  ·rw [if_neg hok] at h
   cases h
 | false =>
  rw [if_neg (by decide)] at h
  obtain ⟨rfl, rfl⟩ := Prod.mk.inj (Option.some.inj h)
  exact c_PackB k A0_0 c0_0 l0_0 A0_1 c0_1 l0_1 A1 c1 l1 w hr0_0 hc0_0 hr0_1 hc0_1 hr1 hc1 hb
end PArk
end Go.Proofs.Ytfkkeddjfiljfaa
