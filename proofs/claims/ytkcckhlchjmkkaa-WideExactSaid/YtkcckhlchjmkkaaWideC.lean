/-
  THE CONTRACTS OF LAYER 15, the program's and the reference's, in whole numbers.
-/
import Derived.Test.YtkcckhlchjmkkaaWideM
import Derived.Lib.Strings
set_option linter.unusedVariables false
set_option linter.unusedSimpArgs false
namespace Go.Proofs.Ytkcckhlchjmkkaa
open Go.RowKit Go.Proofs.YtkcckhlchjmkkaaW.PrintWords

abbrev Wv (v : Int) : Value := .agg #[.int .i64 (hiOf v), .int .u64 (loOf v)]
def I64 (n : Int) : Prop := -9223372036854775808 ≤ n ∧ n < 9223372036854775808
def I128 (n : Int) : Prop := -170141183460469231731687303715884105728 ≤ n ∧ n < 170141183460469231731687303715884105728

theorem c_Of (n : Int) (h : I64 n) (w : World) : Calls Try.prog 26 #[.int .i64 n] w fun e w' => e = .returned (Wv n) ∧ Below w.heap.size w w' := by
  have := wide_Of n w
  rw [(of_math n h.1 h.2).1, (of_math n h.1 h.2).2] at this
  exact this
theorem c_Add (x y : Int) (w : World) : Calls Try.prog 14 #[Wv x, Wv y] w fun e w' => e = .returned (Wv (x + y)) ∧ Below w.heap.size w w' := by
  have := wide_Add (hiOf x) (loOf x) (hiOf y) (loOf y) (loOf_range x) (loOf_range y) w
  rw [(add_math x y).1, (add_math x y).2] at this
  exact this
theorem c_Sub (x y : Int) (w : World) : Calls Try.prog 17 #[Wv x, Wv y] w fun e w' => e = .returned (Wv (x - y)) ∧ Below w.heap.size w w' := by
  have := wide_Sub (hiOf x) (loOf x) (hiOf y) (loOf y) (loOf_range x) (loOf_range y) w
  rw [(sub_math x y).1, (sub_math x y).2] at this
  exact this
theorem c_Times (x n : Int) (h : I64 n) (w : World) : Calls Try.prog 21 #[Wv x, .int .i64 n] w fun e w' => e = .returned (Wv (x * n)) ∧ Below w.heap.size w w' := by
  by_cases hn : n < 0
  · have := wide_Times_neg (hiOf x) (loOf x) n (loOf_range x) hn h.1 w
    rw [neg_word n h.1 hn, (wbor_lo x).1, (wbor_lo x).2] at this
    have hw : wrap64 (-n) = -n ∨ n = -9223372036854775808 := by unfold wrap64; have := h.1; omega
    rcases hw with hw | hw
    · rw [hw] at this
      rw [(times_math (-x) (-n)).1, (times_math (-x) (-n)).2, Int.neg_mul_neg] at this
      exact this
    · have e1 : wrap64 (-n) = n := by subst hw; unfold wrap64; omega
      have e2 : wrap64 (hiOf (-x) * n) = wrap64 (hiOf (-x) * -n) := by
        subst hw
        rw [show hiOf (-x) * -9223372036854775808 = hiOf (-x) * -(-9223372036854775808) + 18446744073709551616 * (-hiOf (-x)) from by omega, wrap64_add_mul]
      rw [e1, e2] at this
      rw [(times_math (-x) (-n)).1, (times_math (-x) (-n)).2, Int.neg_mul_neg] at this
      exact this
  · have := wide_Times_pos (hiOf x) (loOf x) n (loOf_range x) hn h.2 w
    rw [(times_math x n).1, (times_math x n).2] at this
    exact this
theorem c_Compare (x y : Int) (hx : I128 x) (hy : I128 y) (w : World) : Calls Try.prog 19 #[Wv x, Wv y] w fun e w' => e = .returned (.int .i64 (cmpI x y)) ∧ Below w.heap.size w w' := by
  have := wide_Compare (hiOf x) (loOf x) (hiOf y) (loOf y) w
  rw [cmp_math x y hx.1 hx.2 hy.1 hy.2] at this
  exact this
theorem fits_math (x : Int) (hx : I128 x) : (fits64 (hiOf x) (loOf x) = true ↔ I64 x) ∧ (I64 x → wrap64 (loOf x) = x) := by
  obtain ⟨h1, h2⟩ := hx
  have hq : hiOf x = x / 18446744073709551616 := by unfold hiOf wrap64; omega
  unfold fits64 I64
  rw [hq]
  have hl := loOf_range x
  obtain ⟨l1, l2⟩ := hl
  have hxx : x = x / 18446744073709551616 * 18446744073709551616 + loOf x := by unfold loOf; omega
  generalize x / 18446744073709551616 = q at *
  generalize loOf x = l at *
  subst hxx
  have hw : (l < 9223372036854775808 ∧ wrap64 l = l) ∨ (9223372036854775808 ≤ l ∧ wrap64 l = l - 18446744073709551616) := by unfold wrap64; omega
  rw [Bool.and_eq_true, beq_iff_eq, beq_iff_eq]
  rcases hw with ⟨hw1, hw⟩ | ⟨hw1, hw⟩
  · rw [hw]; omega
  · rw [hw]; omega
theorem c_Int_yes (x : Int) (h : I64 x) (w : World) : Calls Try.prog 25 #[Wv x] w fun e w' => e = .returned (.tuple #[.int .i64 x, .bool true]) ∧ Below w.heap.size w w' := by
  have hx : I128 x := by unfold I64 at h; unfold I128; omega
  have := wide_Int_yes (hiOf x) (loOf x) ((fits_math x hx).1.2 h) w
  rw [(fits_math x hx).2 h] at this
  exact this
theorem c_Int_no (x : Int) (hx : I128 x) (h : ¬ I64 x) (w : World) : Calls Try.prog 25 #[Wv x] w fun e w' => e = .returned (.tuple #[.int .i64 0, .bool false]) ∧ Below w.heap.size w w' :=
  wide_Int_no (hiOf x) (loOf x) (Bool.eq_false_iff.2 (fun e => h ((fits_math x hx).1.1 e))) w
/-- The sixteen bytes. -/
def code16 (x : Int) : ByteArray := strOfNums (be8 (IntKind.u64.wrap (hiOf x)) ++ be8 (loOf x))
theorem strOf_append (a b : List Int) : strOfNums (a ++ b) = strOfNums a ++ strOfNums b := by
  apply ByteArray.ext
  simp [strOfNums]
theorem code16_size (x : Int) : (code16 x).size = 16 := by
  simp [code16, strOfNums, be8, ByteArray.size]
theorem c_Code (x : Int) (w : World) : Calls Try.prog 23 #[Wv x] w fun e w' => e = .returned (.string (code16 x)) ∧ Below w.heap.size w w' := by
  have := wide_Code (hiOf x) (loOf x) w
  rw [← strOf_append] at this
  exact this
theorem r_Code (x : Int) (w : World) : Calls Try.prog 24 #[Wv x] w fun e w' => e = .returned (.string (code16 x)) ∧ Below w.heap.size w w' := ref_Code (hiOf x) (loOf x) w

/-- The number of eight bytes. -/
theorem beNum_be8 (n : Int) (h0 : 0 ≤ n) (h1 : n < 18446744073709551616) : beNum (be8 n) = n := by
  simp only [beNum, be8, List.range, List.range.loop, List.map, List.foldl]
  simp only [show (2 : Int) ^ (8 * (7 - 0)) = 72057594037927936 from rfl, show (2 : Int) ^ (8 * (7 - 1)) = 281474976710656 from rfl, show (2 : Int) ^ (8 * (7 - 2)) = 1099511627776 from rfl, show (2 : Int) ^ (8 * (7 - 3)) = 4294967296 from rfl, show (2 : Int) ^ (8 * (7 - 4)) = 16777216 from rfl, show (2 : Int) ^ (8 * (7 - 5)) = 65536 from rfl, show (2 : Int) ^ (8 * (7 - 6)) = 256 from rfl, show (2 : Int) ^ (8 * (7 - 7)) = 1 from rfl]
  omega
theorem be8_beNum (b0 b1 b2 b3 b4 b5 b6 b7 : Int) (h : ∀ b ∈ [b0, b1, b2, b3, b4, b5, b6, b7], 0 ≤ b ∧ b ≤ 255) : be8 (beNum [b0, b1, b2, b3, b4, b5, b6, b7]) = [b0, b1, b2, b3, b4, b5, b6, b7] := by
  simp only [List.mem_cons, List.not_mem_nil, or_false, forall_eq_or_imp, forall_eq] at h
  simp only [beNum, be8, List.range, List.range.loop, List.map, List.foldl]
  simp only [show (2 : Int) ^ (8 * (7 - 0)) = 72057594037927936 from rfl, show (2 : Int) ^ (8 * (7 - 1)) = 281474976710656 from rfl, show (2 : Int) ^ (8 * (7 - 2)) = 1099511627776 from rfl, show (2 : Int) ^ (8 * (7 - 3)) = 4294967296 from rfl, show (2 : Int) ^ (8 * (7 - 4)) = 16777216 from rfl, show (2 : Int) ^ (8 * (7 - 5)) = 65536 from rfl, show (2 : Int) ^ (8 * (7 - 6)) = 256 from rfl, show (2 : Int) ^ (8 * (7 - 7)) = 1 from rfl]
  have e : (((((((((0 * 256 + b0) % 18446744073709551616 * 256 + b1) % 18446744073709551616 * 256 + b2) % 18446744073709551616 * 256 + b3) % 18446744073709551616 * 256 + b4) % 18446744073709551616 * 256 + b5) % 18446744073709551616 * 256 + b6) % 18446744073709551616 * 256 + b7) % 18446744073709551616) = b0 * 72057594037927936 + b1 * 281474976710656 + b2 * 1099511627776 + b3 * 4294967296 + b4 * 16777216 + b5 * 65536 + b6 * 256 + b7 := by omega
  rw [e]
  simp only [List.cons.injEq, and_true]
  refine ⟨?_, ?_, ?_, ?_, ?_, ?_, ?_, ?_⟩ <;> omega
theorem be8_bytes (s : ByteArray) (hs : s.size = 8) : be8 (beNum (bytesOf s)) = bytesOf s := by
  have hl : (bytesOf s).length = 8 := by rw [bytesOf_length, hs]
  have hr : ∀ b ∈ bytesOf s, 0 ≤ b ∧ b ≤ 255 := by
    intro b hb
    simp only [bytesOf, List.mem_map] at hb
    obtain ⟨u, _, rfl⟩ := hb
    have := u.toNat_lt
    omega
  match hb : bytesOf s, hl with
  | [b0, b1, b2, b3, b4, b5, b6, b7], _ =>
    rw [hb] at hr
    exact be8_beNum _ _ _ _ _ _ _ _ hr
theorem strOf_bytes (s : ByteArray) : strOfNums (bytesOf s) = s := by
  apply ByteArray.ext
  apply Array.ext'
  simp only [strOfNums, bytesOf, List.map_map]
  have : ((fun n : Int => UInt8.ofNat n.toNat) ∘ fun b : UInt8 => (b.toNat : Int)) = id := by
    funext b
    simp
  rw [this]
  simp
theorem bytes_strOf (l : List Int) (h : ∀ b ∈ l, 0 ≤ b ∧ b ≤ 255) : bytesOf (strOfNums l) = l := by
  simp only [strOfNums, bytesOf, List.map_map]
  conv => rhs; rw [← List.map_id l]
  apply List.map_congr_left
  intro b hb
  have := h b hb
  simp only [Function.comp, UInt8.toNat_ofNat', id]
  omega
theorem be8_range (n : Int) : ∀ b ∈ be8 n, 0 ≤ b ∧ b ≤ 255 := by
  intro b hb
  simp only [be8, List.mem_map] at hb
  obtain ⟨j, _, rfl⟩ := hb
  omega

/-- What sixteen bytes tell. -/
def numOf (s : ByteArray) : Int := wrap64 (beNum (bytesOf (s.extract 0 8))) * 18446744073709551616 + beNum (bytesOf (s.extract 8 s.size))
theorem numOf_hi (s : ByteArray) : hiOf (numOf s) = wrap64 (beNum (bytesOf (s.extract 0 8))) ∧ loOf (numOf s) = beNum (bytesOf (s.extract 8 s.size)) := by
  have := beNum_range (bytesOf (s.extract 8 s.size))
  unfold numOf hiOf loOf wrap64
  omega
theorem c_Read (s : ByteArray) (hs : s.size = 16) (w : World) : Calls Try.prog 27 #[.string s] w fun e w' => e = .returned (.tuple #[Wv (numOf s), .int .i64 0]) ∧ Below w.heap.size w w' := by
  have := wide_Read s hs w
  rw [show Wv (numOf s) = .agg #[.int .i64 (IntKind.i64.wrap (beNum (bytesOf (s.extract 0 8)))), .int .u64 (beNum (bytesOf (s.extract 8 s.size)))] from by
    unfold Wv
    rw [(numOf_hi s).1, (numOf_hi s).2, show ∀ z : Int, IntKind.i64.wrap z = wrap64 z from fun z => by unfold wrap64; exact IntKind.wrap_i64 z]]
  exact this
theorem c_Read_no (s : ByteArray) (hs : ¬ s.size = 16) (w : World) : Calls Try.prog 27 #[.string s] w fun e w' => e = .returned (.tuple #[.agg #[.int .i64 0, .int .u64 0], .int .i64 3]) ∧ Below w.heap.size w w' := wide_Read_no s hs w
theorem code_num (s : ByteArray) (hs : s.size = 16) : code16 (numOf s) = s := by
  unfold code16
  rw [(numOf_hi s).1, (numOf_hi s).2]
  have hb1 := beNum_range (bytesOf (s.extract 0 8))
  have e : IntKind.u64.wrap (wrap64 (beNum (bytesOf (s.extract 0 8)))) = beNum (bytesOf (s.extract 0 8)) := by
    rw [wrap_u64]; unfold wrap64; omega
  rw [e, be8_bytes _ (by simp; omega), be8_bytes _ (by simp; omega)]
  rw [strOf_append, strOf_bytes, strOf_bytes]
  apply ByteArray.ext
  simp [hs]
theorem bytesOf_extract (s : ByteArray) (i j : Nat) : bytesOf (s.extract i j) = ((bytesOf s).drop i).take (j - i) := by
  simp only [bytesOf, Lib.extract_data, List.map_take, List.map_drop]
theorem bytes_code (x : Int) : bytesOf (code16 x) = be8 (IntKind.u64.wrap (hiOf x)) ++ be8 (loOf x) := by
  unfold code16
  refine bytes_strOf _ (fun b hb => ?_)
  rcases List.mem_append.1 hb with h | h
  · exact be8_range _ b h
  · exact be8_range _ b h
theorem num_code (x : Int) : Wv (numOf (code16 x)) = Wv x := by
  unfold Wv
  have h8 := be8_length (IntKind.u64.wrap (hiOf x))
  have h8' := be8_length (loOf x)
  rw [(numOf_hi _).1, (numOf_hi _).2, bytesOf_extract, bytesOf_extract, bytes_code, code16_size]
  rw [List.drop_zero, List.take_append_of_le_length (by omega), List.take_of_length_le (by omega), List.drop_append_of_le_length (by omega), List.drop_of_length_le (by omega), List.nil_append, List.take_of_length_le (by omega)]
  rw [beNum_be8 _ (u64w_range _).1 (u64w_range _).2, beNum_be8 _ (loOf_range x).1 (loOf_range x).2]
  congr 3
  rw [wrap_u64]
  unfold hiOf wrap64
  congr 1
  omega

theorem r_Bits (x : Int) (w : World) : Calls Try.prog 13 #[Wv x] w fun e w' => e = .returned (.agg (bA (tab (B x)))) ∧ Below w.heap.size w w' := by
  have := ref_Bits (hiOf x) (loOf x) w
  rw [tab_congr (bitsTo_B x)] at this
  exact this
theorem r_Of (x : Int) (w : World) : Calls Try.prog 15 #[.agg (bA (tab (B x)))] w fun e w' => e = .returned (Wv x) ∧ Below w.heap.size w w' := by
  have := ref_Of (B x) w
  rw [(ofB x).1, (ofB x).2] at this
  exact this
theorem r_Add (x y : Int) (w : World) : Calls Try.prog 16 #[.agg (bA (tab (B x))), .agg (bA (tab (B y))), .bool false] w fun e w' => e = .returned (.agg (bA (tab (B (x + y))))) ∧ Below w.heap.size w w' := by
  have := ref_Add (B x) (B y) false w
  rw [sumF_B, show x + y + b2i false = x + y from Int.add_zero _] at this
  exact this
theorem r_Add1 (x y : Int) (w : World) : Calls Try.prog 16 #[.agg (bA (tab (B x))), .agg (bA (tab (B y))), .bool true] w fun e w' => e = .returned (.agg (bA (tab (B (x + y + 1))))) ∧ Below w.heap.size w w' := by
  have := ref_Add (B x) (B y) true w
  rw [sumF_B, show x + y + b2i true = x + y + 1 from rfl] at this
  exact this
theorem r_Not (x : Int) (w : World) : Calls Try.prog 18 #[.agg (bA (tab (B x)))] w fun e w' => e = .returned (.agg (bA (tab (B (-x - 1))))) ∧ Below w.heap.size w w' := by
  have := ref_Not (B x) w
  rw [not_B] at this
  exact this
theorem r_Compare (x y : Int) (hx : I128 x) (hy : I128 y) (w : World) : Calls Try.prog 20 #[.agg (bA (tab (B x))), .agg (bA (tab (B y)))] w fun e w' => e = .returned (.int .i64 (cmpI x y)) ∧ Below w.heap.size w w' := by
  have := ref_Compare (B x) (B y) w
  rw [cmp128_B x y hx.1 hx.2 hy.1 hy.2] at this
  exact this
theorem r_Times (x n : Int) (h : I64 n) (w : World) : Calls Try.prog 22 #[.agg (bA (tab (B x))), .int .i64 n] w fun e w' => e = .returned (.agg (bA (tab (B (x * n))))) ∧ Below w.heap.size w w' := by
  obtain ⟨h1, h2⟩ := h
  by_cases hn : n < 0
  · have := ref_Times_neg (B x) n hn w
    rw [neg_word n h1 hn, negF_B, acc_all _ _ (by omega) (by omega), Int.neg_mul_neg] at this
    exact this
  · have := ref_Times_pos (B x) n hn h2 w
    rw [acc_all _ _ (by omega) (by omega)] at this
    exact this
end Go.Proofs.Ytkcckhlchjmkkaa
