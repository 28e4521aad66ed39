/-
  THE NUMBERS OF 128 BITS AS WHOLE NUMBERS: plain arithmetic, no walk.
-/
import Derived.Test.YtkcckhlchjmkkaaWideY
import Derived.Test.YtkcckhlchjmkkaaRef15D
import Derived.Test.YtkcckhlchjmkkaaRef15E
import Derived.Test.YtkcckhlchjmkkaaRef15F
import Derived.Laws.BitsAllLaws
set_option linter.unusedVariables false
set_option linter.unusedSimpArgs false
namespace Go.Proofs.Ytkcckhlchjmkkaa
open Go.RowKit Go.Proofs.YtkcckhlchjmkkaaW.PrintWords

def hiOf (v : Int) : Int := wrap64 (v / 18446744073709551616)
def loOf (v : Int) : Int := v % 18446744073709551616
theorem loOf_range (v : Int) : W64 (loOf v) := by unfold loOf W64; omega
/-- Every pair of a word with a sign and one without is some number's. -/
theorem wide_of (h l : Int) (h1 : -9223372036854775808 ≤ h) (h2 : h < 9223372036854775808) (hl : W64 l) : ∃ v, hiOf v = h ∧ loOf v = l ∧ -170141183460469231731687303715884105728 ≤ v ∧ v < 170141183460469231731687303715884105728 := by
  obtain ⟨l1, l2⟩ := hl
  refine ⟨h * 18446744073709551616 + l, ?_, ?_, ?_, ?_⟩
  · unfold hiOf wrap64; omega
  · unfold loOf; omega
  · omega
  · omega
theorem wide_inj {a b : Int} (ha1 : -170141183460469231731687303715884105728 ≤ a) (ha2 : a < 170141183460469231731687303715884105728) (hb1 : -170141183460469231731687303715884105728 ≤ b) (hb2 : b < 170141183460469231731687303715884105728) (h : hiOf a = hiOf b) (l : loOf a = loOf b) : a = b := by
  unfold hiOf wrap64 at h; unfold loOf at l; omega

theorem of_math (n : Int) (h1 : -9223372036854775808 ≤ n) (h2 : n < 9223372036854775808) : n / 9223372036854775808 = hiOf n ∧ n % 18446744073709551616 = loOf n := by
  unfold hiOf loOf wrap64; omega
theorem add_math (x y : Int) : wrap64 (wrap64 (hiOf x + hiOf y) + (loOf x + loOf y) / 18446744073709551616) = hiOf (x + y) ∧ (loOf x + loOf y) % 18446744073709551616 = loOf (x + y) := by
  unfold hiOf loOf wrap64; omega
theorem sub_math (x y : Int) : wrap64 (wrap64 (hiOf x - hiOf y) - wbor (loOf x) (loOf y)) = hiOf (x - y) ∧ (loOf x - loOf y) % 18446744073709551616 = loOf (x - y) := by
  unfold hiOf loOf wrap64 wbor
  split <;> omega
theorem wrap64_add_mul (a k : Int) : wrap64 (a + 18446744073709551616 * k) = wrap64 a := by unfold wrap64; omega
theorem wrap64_wrap (a b : Int) : wrap64 (wrap64 a + b) = wrap64 (a + b) := by unfold wrap64; omega
theorem wrap64_wrap' (a b : Int) : wrap64 (a + wrap64 b) = wrap64 (a + b) := by unfold wrap64; omega
theorem hiOf_eq (v : Int) : ∃ k, hiOf v = v / 18446744073709551616 + 18446744073709551616 * k := by
  unfold hiOf wrap64
  exact ⟨-((v / 18446744073709551616 + 9223372036854775808) / 18446744073709551616), by omega⟩
theorem times_math (x n : Int) : wrap64 (wrap64 (loOf x * n / 18446744073709551616) + wrap64 (hiOf x * n)) = hiOf (x * n) ∧ loOf x * n % 18446744073709551616 = loOf (x * n) := by
  obtain ⟨k, hk⟩ := hiOf_eq x
  have hx : x = (x / 18446744073709551616) * 18446744073709551616 + loOf x := by unfold loOf; omega
  generalize hq : x / 18446744073709551616 = q at hk hx
  generalize loOf x = l at hx
  have e1 : x * n = (q * n) * 18446744073709551616 + l * n := by rw [hx, Int.add_mul, Int.mul_assoc, Int.mul_comm 18446744073709551616 n, ← Int.mul_assoc]
  have e2 : hiOf x * n = q * n + 18446744073709551616 * (k * n) := by rw [hk, Int.add_mul, Int.mul_assoc]
  rw [wrap64_wrap, wrap64_wrap', e2, ← Int.add_assoc, wrap64_add_mul]
  generalize q * n = qn at e1
  generalize l * n = ln at e1
  constructor
  · show _ = wrap64 (x * n / 18446744073709551616)
    rw [e1]
    congr 1
    omega
  · unfold loOf
    rw [e1]
    omega
theorem neg_word (n : Int) (h1 : -9223372036854775808 ≤ n) (h2 : n < 0) : IntKind.u64.wrap (-IntKind.u64.wrap n) = -n := by
  rw [wrap_u64, wrap_u64]; omega
theorem wbor_lo (x : Int) : wrap64 (wrap64 (-hiOf x) - wbor 0 (loOf x)) = hiOf (-x) ∧ -loOf x % 18446744073709551616 = loOf (-x) := by
  have h := sub_math 0 x
  have e0 : hiOf 0 = 0 := by unfold hiOf wrap64; omega
  have e1 : loOf 0 = 0 := by unfold loOf; omega
  rw [e0, e1, Int.zero_sub, Int.zero_sub, Int.zero_sub] at h
  exact h

/-! The bits of a whole number, however great. -/
def B (x : Int) (j : Nat) : Bool := decide (x / 2 ^ j % 2 = 1)
theorem pow_pos (j : Nat) : (0 : Int) < 2 ^ j := Int.pow_pos (by decide)
theorem bit64_B (x : Int) (h0 : 0 ≤ x) (h1 : x < 18446744073709551616) (j : Nat) : bit64 x j = B x j := by
  unfold bit64 B
  have hp := pow_pos j
  have hd0 : 0 ≤ x / 2 ^ j := Int.ediv_nonneg h0 (Int.le_of_lt hp)
  have hd1 : x / 2 ^ j ≤ x := Int.ediv_le_self _ h0
  rw [u64_and (x / 2 ^ j) 1 hd0 (by omega) (by decide) (by decide)]
  obtain ⟨m, hm⟩ := Int.eq_ofNat_of_zero_le hd0
  rw [hm]
  have : (((m : Int).toNat &&& (1 : Int).toNat : Nat) : Int) = ((m % 2 : Nat) : Int) := by
    rw [Int.toNat_natCast, show (1 : Int).toNat = 1 from rfl, Nat.and_one_is_mod]
  rw [this]
  by_cases h : m % 2 = 1
  · rw [h]; simp; omega
  · have h' : m % 2 = 0 := by omega
    rw [h']; simp; omega
theorem div_two (x : Int) (j : Nat) : x / 2 ^ (j + 1) = x / 2 ^ j / 2 := by
  rw [Int.pow_succ, Int.ediv_ediv_of_nonneg (Int.le_of_lt (pow_pos j))]
theorem bitsTo_B (x : Int) (j : Nat) (hj : j < 128) : bitsTo (hiOf x) (loOf x) 64 j = B x j := by
  unfold bitsTo
  by_cases h : j < 64
  · rw [if_pos h, decide_eq_true h, Bool.true_and, bit64_B _ (loOf_range x).1 (loOf_range x).2]
    unfold B loOf
    -- x % 2^64 has x's bits below 64
    have e : (18446744073709551616 : Int) = 2 ^ j * 2 ^ (64 - j) := by
      rw [← Int.pow_add, show j + (64 - j) = 64 by omega]
      rfl
    have hx : x = 2 ^ j * (2 ^ (64 - j) * (x / 18446744073709551616)) + x % 18446744073709551616 := by
      rw [← Int.mul_assoc, ← e]
      omega
    have h2 : ∃ r, (2 : Int) ^ (64 - j) = 2 * r := ⟨2 ^ (63 - j), by rw [show 64 - j = (63 - j) + 1 by omega, Int.pow_succ, Int.mul_comm]⟩
    obtain ⟨r, hr⟩ := h2
    have h3 : x / 2 ^ j = 2 * (r * (x / 18446744073709551616)) + x % 18446744073709551616 / 2 ^ j := by
      conv => lhs; rw [hx]
      rw [Int.mul_add_ediv_left _ _ (Int.ne_of_gt (pow_pos j)), hr, Int.mul_assoc]
    rw [h3]
    congr 1
    simp only [eq_iff_iff]
    omega
  · rw [if_neg h, decide_eq_true (show j < 64 + 64 by omega), Bool.true_and]
    have hw : IntKind.u64.wrap (hiOf x) = x / 18446744073709551616 % 18446744073709551616 := by
      rw [wrap_u64]; unfold hiOf wrap64; omega
    rw [hw, bit64_B _ (by omega) (by omega)]
    have hj64 : ∃ i, j = i + 64 := ⟨j - 64, by omega⟩
    obtain ⟨i, rfl⟩ := hj64
    rw [Nat.add_sub_cancel]
    have hdiv : x / 2 ^ (i + 64) = x / 18446744073709551616 / 2 ^ i := by
      rw [Nat.add_comm, Int.pow_add]
      show x / (2 ^ 64 * 2 ^ i) = x / 2 ^ 64 / 2 ^ i
      rw [Int.ediv_ediv_of_nonneg (Int.le_of_lt (pow_pos 64))]
    unfold B
    rw [hdiv]
    generalize x / 18446744073709551616 = y
    have e : (18446744073709551616 : Int) = 2 ^ i * 2 ^ (64 - i) := by
      rw [← Int.pow_add, show i + (64 - i) = 64 by omega]
      rfl
    have hx : y = 2 ^ i * (2 ^ (64 - i) * (y / 18446744073709551616)) + y % 18446744073709551616 := by
      rw [← Int.mul_assoc, ← e]
      omega
    have h2 : ∃ r, (2 : Int) ^ (64 - i) = 2 * r := ⟨2 ^ (63 - i), by rw [show 64 - i = (63 - i) + 1 by omega, Int.pow_succ, Int.mul_comm]⟩
    obtain ⟨r, hr⟩ := h2
    have h3 : y / 2 ^ i = 2 * (r * (y / 18446744073709551616)) + y % 18446744073709551616 / 2 ^ i := by
      conv => lhs; rw [hx]
      rw [Int.mul_add_ediv_left _ _ (Int.ne_of_gt (pow_pos i)), hr, Int.mul_assoc]
    rw [h3]
    congr 1
    simp only [eq_iff_iff]
    omega
theorem mod_two_pow (x : Int) (j : Nat) : x % 2 ^ (j + 1) = x % 2 ^ j + 2 ^ j * (x / 2 ^ j % 2) := by
  have hp := pow_pos j
  have h1 := Int.mul_ediv_add_emod x (2 ^ j)
  have h2 := Int.mul_ediv_add_emod x (2 ^ (j + 1))
  have h3 := Int.mul_ediv_add_emod (x / 2 ^ j) 2
  rw [div_two] at h2
  have h4 : (2 : Int) ^ (j + 1) * (x / 2 ^ j / 2) = 2 ^ j * (2 * (x / 2 ^ j / 2)) := by rw [Int.pow_succ, Int.mul_assoc]
  rw [h4] at h2
  have h5 : (2 : Int) ^ j * (x / 2 ^ j) = 2 ^ j * (2 * (x / 2 ^ j / 2)) + 2 ^ j * (x / 2 ^ j % 2) := by rw [← Int.mul_add, h3]
  omega
theorem sum_B (x y : Int) (c : Bool) (j : Nat) : (carryF (B x) (B y) c j = decide (2 ^ j ≤ x % 2 ^ j + y % 2 ^ j + b2i c)) ∧ sumF (B x) (B y) c j = B (x + y + b2i c) j := by
  have key : ∀ j, carryF (B x) (B y) c j = decide (2 ^ j ≤ x % 2 ^ j + y % 2 ^ j + b2i c) := by
    intro j
    induction j with
    | zero =>
      have hx : x % 1 = 0 := Int.emod_one x
      have hy : y % 1 = 0 := Int.emod_one y
      cases c <;> simp [carryF, b2i, hx, hy]
    | succ j ih =>
      have hp := pow_pos j
      rw [mod_two_pow x j, mod_two_pow y j]
      simp only [carryF]
      rw [ih]
      have hx0 := Int.emod_nonneg x (Int.ne_of_gt hp)
      have hx1 := Int.emod_lt_of_pos x hp
      have hy0 := Int.emod_nonneg y (Int.ne_of_gt hp)
      have hy1 := Int.emod_lt_of_pos y hp
      have hc := b2i_le c
      have ex : x / 2 ^ j % 2 = 0 ∨ x / 2 ^ j % 2 = 1 := by omega
      have ey : y / 2 ^ j % 2 = 0 ∨ y / 2 ^ j % 2 = 1 := by omega
      unfold B
      rw [Int.pow_succ]
      generalize (2 : Int) ^ j = p at *
      generalize x % p = xr at *
      generalize y % p = yr at *
      generalize b2i c = bc at *
      rcases ex with ex | ex <;> rcases ey with ey | ey <;> rw [ex, ey] <;> by_cases hh : p ≤ xr + yr + bc <;> simp [hh] <;> omega
  refine ⟨key j, ?_⟩
  unfold sumF
  rw [key j]
  have hp := pow_pos j
  have hx0 := Int.emod_nonneg x (Int.ne_of_gt hp)
  have hx1 := Int.emod_lt_of_pos x hp
  have hy0 := Int.emod_nonneg y (Int.ne_of_gt hp)
  have hy1 := Int.emod_lt_of_pos y hp
  have hc := b2i_le c
  have hxx := Int.mul_ediv_add_emod x (2 ^ j)
  have hyy := Int.mul_ediv_add_emod y (2 ^ j)
  unfold B
  have hs : (x + y + b2i c) / 2 ^ j = x / 2 ^ j + y / 2 ^ j + (if 2 ^ j ≤ x % 2 ^ j + y % 2 ^ j + b2i c then 1 else 0) := by
    have e : x + y + b2i c = 2 ^ j * (x / 2 ^ j + y / 2 ^ j) + (x % 2 ^ j + y % 2 ^ j + b2i c) := by
      rw [Int.mul_add]
      omega
    rw [e, Int.mul_add_ediv_left _ _ (Int.ne_of_gt hp)]
    congr 1
    split
    · rename_i h
      have h7 : x % 2 ^ j + y % 2 ^ j + b2i c = 2 ^ j * 1 + (x % 2 ^ j + y % 2 ^ j + b2i c - 2 ^ j) := by omega
      rw [h7, Int.mul_add_ediv_left _ _ (Int.ne_of_gt hp), Int.ediv_eq_zero_of_lt (by omega) (by omega)]
      rfl
    · exact Int.ediv_eq_zero_of_lt (by omega) (by omega)
  rw [hs]
  generalize x / 2 ^ j = xd
  generalize y / 2 ^ j = yd
  by_cases hh : 2 ^ j ≤ x % 2 ^ j + y % 2 ^ j + b2i c
  · rw [if_pos hh]
    by_cases h1 : xd % 2 = 1 <;> by_cases h2 : yd % 2 = 1 <;> simp [hh, h1, h2] <;> omega
  · rw [if_neg hh]
    by_cases h1 : xd % 2 = 1 <;> by_cases h2 : yd % 2 = 1 <;> simp [hh, h1, h2] <;> omega
theorem sumF_B (x y : Int) (c : Bool) : sumF (B x) (B y) c = B (x + y + b2i c) := funext fun j => (sum_B x y c j).2
theorem not_B (x : Int) : (fun j => !B x j) = B (-x - 1) := by
  funext j
  unfold B
  have hp := pow_pos j
  have h : (-x - 1) / 2 ^ j = -(x / 2 ^ j) - 1 := by
    have hxx := Int.mul_ediv_add_emod x (2 ^ j)
    have hx0 := Int.emod_nonneg x (Int.ne_of_gt hp)
    have hx1 := Int.emod_lt_of_pos x hp
    have e : -x - 1 = 2 ^ j * (-(x / 2 ^ j) - 1) + (2 ^ j - 1 - x % 2 ^ j) := by
      rw [Int.mul_sub, Int.mul_neg, Int.mul_one]
      omega
    rw [e, Int.mul_add_ediv_left _ _ (Int.ne_of_gt hp), Int.ediv_eq_zero_of_lt (a := 2 ^ j - 1 - x % 2 ^ j) (b := 2 ^ j) (by omega) (by omega), Int.add_zero]
  rw [h]
  generalize x / 2 ^ j = xd
  by_cases h1 : xd % 2 = 1 <;> simp [h1] <;> omega
theorem nof_B : nof = B 0 := by
  funext j
  simp [nof, B]
theorem negF_B (x : Int) : negF (B x) = B (-x) := by
  unfold negF
  rw [not_B, nof_B, sumF_B]
  congr 1
  simp only [b2i, if_true]
  omega
theorem dbl_B (x : Int) (n : Nat) : dbl (B x) n = B (x * 2 ^ n) := by
  induction n with
  | zero => simp [dbl]
  | succ n ih =>
    simp only [dbl]
    rw [ih, sumF_B]
    congr 1
    rw [Int.pow_succ, ← Int.mul_assoc]
    simp only [b2i, Bool.false_eq_true, if_false]
    omega
theorem acc_B (x m : Int) (h0 : 0 ≤ m) (h1 : m < 18446744073709551616) (n : Nat) (hn : n ≤ 64) : acc (B x) m n = B (x * (m % 2 ^ n)) := by
  induction n with
  | zero => simp [acc, nof_B, Int.emod_one]
  | succ n ih =>
    simp only [acc]
    rw [ih (by omega), dbl_B]
    have hb : bitN m n = B m n := bit64_B m h0 h1 n
    rw [hb, mod_two_pow m n]
    unfold B
    have em : m / 2 ^ n % 2 = 0 ∨ m / 2 ^ n % 2 = 1 := by omega
    rcases em with em | em
    · rw [em]; simp
    · rw [em, decide_eq_true rfl, if_pos rfl]
      have := sumF_B (x * (m % 2 ^ n)) (x * 2 ^ n) false
      unfold B at this
      rw [this]
      funext j
      congr 4
      simp only [b2i, Bool.false_eq_true, if_false, Int.mul_one, Int.add_zero, Int.mul_add]
theorem acc_all (x m : Int) (h0 : 0 ≤ m) (h1 : m < 18446744073709551616) : acc (B x) m 64 = B (x * m) := by
  rw [acc_B x m h0 h1 64 (by omega), Int.emod_eq_of_lt h0 (by exact h1)]
theorem horn_B (x : Int) (base n : Nat) (hn : n ≤ 64) : horn (B x) base n = x / 2 ^ (base + (64 - n)) % 2 ^ n := by
  induction n with
  | zero => simp [horn, Int.emod_one]
  | succ n ih =>
    simp only [horn]
    rw [ih (by omega)]
    have e : x / 2 ^ (base + (64 - n)) = x / 2 ^ (base + (64 - (n + 1))) / 2 := by
      rw [show base + (64 - n) = (base + (64 - (n + 1))) + 1 by omega, div_two]
    rw [e, show 63 - n = 64 - (n + 1) by omega]
    unfold B
    generalize x / 2 ^ (base + (64 - (n + 1))) = y
    have h := Int.mul_ediv_add_emod y 2
    have hp := pow_pos n
    have h2 : y % 2 ^ (n + 1) = y / 2 % 2 ^ n * 2 + y % 2 := by
      have h3 := Int.mul_ediv_add_emod (y / 2) (2 ^ n)
      have h4 := Int.emod_nonneg (y / 2) (Int.ne_of_gt hp)
      have h5 := Int.emod_lt_of_pos (y / 2) hp
      have e6 : y = (y / 2 % 2 ^ n * 2 + y % 2) + 2 ^ (n + 1) * (y / 2 / 2 ^ n) := by
        rw [Int.pow_succ, Int.mul_assoc, Int.mul_comm 2, ← Int.mul_assoc]
        omega
      conv => lhs; rw [e6]
      rw [Int.add_mul_emod_self_left, Int.emod_eq_of_lt (by omega) (by rw [Int.pow_succ]; omega)]
    rw [h2]
    have em : y % 2 = 0 ∨ y % 2 = 1 := by omega
    rcases em with em | em <;> rw [em] <;> simp [b2i]
theorem ofB (x : Int) : wrap64 (horn (B x) 64 64) = hiOf x ∧ horn (B x) 0 64 = loOf x := by
  rw [horn_B x 64 64 (by omega), horn_B x 0 64 (by omega)]
  constructor
  · show wrap64 (x / 18446744073709551616 % 18446744073709551616) = wrap64 (x / 18446744073709551616)
    unfold wrap64
    omega
  · show x / 1 % 18446744073709551616 = x % 18446744073709551616
    rw [Int.ediv_one]
theorem cmpDown_B (x y : Int) (n : Nat) : cmpDown (B x) (B y) n = cmpI (x % 2 ^ n) (y % 2 ^ n) := by
  induction n with
  | zero => simp [cmpDown, cmpI, Int.emod_one]
  | succ n ih =>
    simp only [cmpDown]
    rw [ih, mod_two_pow x n, mod_two_pow y n]
    have hp := pow_pos n
    have hx0 := Int.emod_nonneg x (Int.ne_of_gt hp)
    have hx1 := Int.emod_lt_of_pos x hp
    have hy0 := Int.emod_nonneg y (Int.ne_of_gt hp)
    have hy1 := Int.emod_lt_of_pos y hp
    unfold B cmpI
    have ex : x / 2 ^ n % 2 = 0 ∨ x / 2 ^ n % 2 = 1 := by omega
    have ey : y / 2 ^ n % 2 = 0 ∨ y / 2 ^ n % 2 = 1 := by omega
    generalize (2 : Int) ^ n = p at *
    generalize x % p = xr at *
    generalize y % p = yr at *
    rcases ex with ex | ex <;> rcases ey with ey | ey <;> rw [ex, ey] <;> simp <;> (repeat' split) <;> omega
theorem cmp128_B (x y : Int) (hx1 : -170141183460469231731687303715884105728 ≤ x) (hx2 : x < 170141183460469231731687303715884105728) (hy1 : -170141183460469231731687303715884105728 ≤ y) (hy2 : y < 170141183460469231731687303715884105728) :
    cmp128 (B x) (B y) = cmpI x y := by
  unfold cmp128
  rw [cmpDown_B]
  have e : (2 : Int) ^ 127 = 170141183460469231731687303715884105728 := rfl
  unfold B cmpI
  rw [e]
  by_cases h1 : x < 0 <;> by_cases h2 : y < 0
  · have a : x / 170141183460469231731687303715884105728 % 2 = 1 := by omega
    have b : y / 170141183460469231731687303715884105728 % 2 = 1 := by omega
    rw [a, b]; simp; (repeat' split) <;> omega
  · have a : x / 170141183460469231731687303715884105728 % 2 = 1 := by omega
    have b : y / 170141183460469231731687303715884105728 % 2 = 0 := by omega
    rw [a, b]; simp; omega
  · have a : x / 170141183460469231731687303715884105728 % 2 = 0 := by omega
    have b : y / 170141183460469231731687303715884105728 % 2 = 1 := by omega
    rw [a, b]; simp; (repeat' split) <;> omega
  · have a : x / 170141183460469231731687303715884105728 % 2 = 0 := by omega
    have b : y / 170141183460469231731687303715884105728 % 2 = 0 := by omega
    rw [a, b]; simp; (repeat' split) <;> omega
theorem cmp_math (x y : Int) (hx1 : -170141183460469231731687303715884105728 ≤ x) (hx2 : x < 170141183460469231731687303715884105728) (hy1 : -170141183460469231731687303715884105728 ≤ y) (hy2 : y < 170141183460469231731687303715884105728) :
    or2 (cmpI (hiOf x) (hiOf y)) (cmpI (loOf x) (loOf y)) = cmpI x y := by
  unfold or2 cmpI hiOf loOf wrap64
  (repeat' split) <;> omega
end Go.Proofs.Ytkcckhlchjmkkaa
