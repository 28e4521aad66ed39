/-
 LAYERS 1 AND 35, PLAIN: what sign.Code writes, sign.Read reads; rows as bytes, there and back; the eye (no walk).
-/
import Derived.Test.YtkcckhlchjmkkaaArkR
import Derived.Test.YtkcckhlchjmkkaaArkU
set_option linter.unusedVariables false
set_option linter.unusedSimpArgs false
namespace Go.Proofs.Ytkcckhlchjmkkaa
open Go.RowKit Go.Shelf Go.Proofs.YtkcckhlchjmkkaaW.PrintWords Go.Proofs.YtkcckhlchjmkkaaW.PrintMore Go.Proofs.Ytkcckhlchjmkkaa.PArk

theorem bits_xor_val (u c : Int) : bits .xor .u64 u c = ((BitVec.ofInt 64 u ^^^ BitVec.ofInt 64 c).toNat : Int) := by
 show IntKind.u64.wrap ((BitVec.ofInt 64 u ^^^ BitVec.ofInt 64 c).toNat : Int) = _
 rw [wrap_u64]
 have := (BitVec.ofInt 64 u ^^^ BitVec.ofInt 64 c).isLt
 omega
theorem xor_range (u c : Int) : 0 ≤ bits .xor .u64 u c ∧ bits .xor .u64 u c < 18446744073709551616 := by
 rw [bits_xor_val]
 have := (BitVec.ofInt 64 u ^^^ BitVec.ofInt 64 c).isLt
 omega
theorem xor_xor (u c : Int) (h0 : 0 ≤ u) (h1 : u < 18446744073709551616) : bits .xor .u64 (bits .xor .u64 u c) c = u := by
 rw [bits_xor_val (bits .xor .u64 u c), bits_xor_val u c]
 rw [BitVec.ofInt_natCast, BitVec.ofNat_toNat, BitVec.setWidth_eq, BitVec.xor_assoc, BitVec.xor_self, BitVec.xor_zero, BitVec.toNat_ofInt]
 omega
theorem word_back (n : Int) (h0 : -9223372036854775808 ≤ n) (h1 : n ≤ 9223372036854775807) : wrap64 (bits .xor .u64 (word n) 9223372036854775808) = n := by
 unfold word
 rw [wrap_u64, xor_xor _ _ (by omega) (by omega)]
 unfold wrap64
 omega
theorem word_range (n : Int) : 0 ≤ word n ∧ word n < 18446744073709551616 := xor_range _ _
theorem beNum_be8 (x : Int) (h0 : 0 ≤ x) (h1 : x < 18446744073709551616) : beNum (be8 x) = x := by
 have e : be8 x = [x / 72057594037927936 % 256, x / 281474976710656 % 256, x / 1099511627776 % 256, x / 4294967296 % 256, x / 16777216 % 256, x / 65536 % 256, x / 256 % 256, x / 1 % 256] := rfl
 rw [e]
 simp only [beNum, List.foldl_cons, List.foldl_nil]
 omega
theorem be8_bytes (x : Int) : ∀ b ∈ be8 x, 0 ≤ b ∧ b ≤ 255 := by
 intro b hb
 simp only [be8, List.mem_map] at hb
 obtain ⟨j, _, rfl⟩ := hb
 omega
theorem bytesOf_strOfNums (l : List Int) (h : ∀ b ∈ l, 0 ≤ b ∧ b ≤ 255) : bytesOf (strOfNums l) = l := by
 unfold bytesOf strOfNums
 simp only [List.map_map]
 conv => rhs; rw [← List.map_id l]
 refine List.map_congr_left fun b hb => ?_
 have := h b hb
 simp only [Function.comp, id, UInt8.toNat_ofNat']
 omega

/-- A string by its list of bytes. -/
def ofL (l : List UInt8) : ByteArray := ⟨l.toArray⟩
theorem ofL_data (l : List UInt8) : (ofL l).data.toList = l := rfl
theorem ofL_size (l : List UInt8) : (ofL l).size = l.length := by show l.toArray.size = _; simp
theorem ofL_of (s : ByteArray) : ofL s.data.toList = s := by cases s; rfl
theorem bytes_ext {a b : ByteArray} (h : a.data.toList = b.data.toList) : a = b := by
 rw [← ofL_of a, ← ofL_of b, h]
theorem app_data (a b : ByteArray) : (a ++ b).data.toList = a.data.toList ++ b.data.toList := by simp
theorem ext_data (s : ByteArray) (a b : Nat) : (s.extract a b).data.toList = (s.data.toList.take b).drop a := by
 rw [ByteArray.data_extract, Array.toList_extract]
 simp [List.extract_eq_take_drop, List.drop_take]
theorem bt_data (s : ByteArray) (i : Nat) : bt s (i : Int) = (((s.data.toList[i]?).getD 0).toNat : Int) := by
 unfold bt
 simp only [Int.toNat_natCast]
 by_cases h : i < s.size
 ·rw [dif_pos h]
  have hl : i < s.data.toList.length := by rw [Array.length_toList]; exact h
  rw [List.getElem?_eq_getElem hl]
  rfl
 ·rw [dif_neg h]
  have hl : s.data.toList.length ≤ i := by rw [Array.length_toList]; exact Nat.le_of_not_lt h
  rw [List.getElem?_eq_none hl]
  rfl
theorem toList_data (s : ByteArray) : s.toList = s.data.toList := by
 first | exact ByteArray.toList_eq s | (cases s; simp)
theorem goodV_1 {v : Vl} (h : goodV v = true) (h1 : v.f0 = 1) : v.f2 = ⟨#[]⟩ := by
 unfold goodV at h
 rw [if_pos h1] at h
 have := eq_of_beq h
 rw [toList_data] at this
 exact bytes_ext this
theorem goodV_2 {v : Vl} (h : goodV v = true) (h1 : v.f0 ≠ 1) : v.f0 = 2 ∧ v.f1 = 0 ∧ v.f2.size ≤ 7 := by
 unfold goodV at h
 rw [if_neg h1] at h
 split at h
 ·rename_i h2
  split at h
  ·rename_i h3
   have := of_decide_eq_true h
   exact ⟨h2, h3, by omega⟩
  ·cases h
 ·cases h
theorem parse_code (v : Vl) (h : goodV v = true) (h0 : -9223372036854775808 ≤ v.f1) (h1 : v.f1 ≤ 9223372036854775807) : parseV (codeV v) = v := by
 by_cases k1 : v.f0 = 1
 ·have hs := goodV_1 h k1
  have hd : (codeV v).data.toList = 1 :: (strOfNums (be8 (word v.f1))).data.toList := by
   unfold codeV
   rw [if_pos k1, app_data]
   rfl
  have hb : bt (codeV v) 0 = 1 := by
   have := bt_data (codeV v) 0
   rw [hd] at this
   exact this
  have he : (codeV v).extract 1 9 = strOfNums (be8 (word v.f1)) := by
   refine bytes_ext ?_
   rw [ext_data, hd]
   have hl : (strOfNums (be8 (word v.f1))).data.toList.length = 8 := by rw [Array.length_toList]; exact be8_size _
   rw [List.take_succ_cons, List.drop_succ_cons, List.drop_zero, List.take_of_length_le (by omega)]
  unfold parseV
  rw [if_pos hb, he, bytesOf_strOfNums _ (be8_bytes _), beNum_be8 _ (word_range _).1 (word_range _).2, word_back _ h0 h1]
  obtain ⟨f0, f1, f2⟩ := v
  simp only at k1 hs
  rw [k1, hs]
 ·obtain ⟨k2, k3, k4⟩ := goodV_2 h k1
  have hd : (codeV v).data.toList = 2 :: (v.f2.data.toList ++ (Lib.repeatL [0] (7 - v.f2.size) ++ [UInt8.ofNat v.f2.size])) := by
   unfold codeV
   rw [if_neg k1, app_data, app_data, app_data]
   show [2] ++ v.f2.data.toList ++ Lib.repeatL [0] (7 - v.f2.size) ++ [UInt8.ofNat v.f2.size] = _
   simp
  have hfl : v.f2.data.toList.length = v.f2.size := Array.length_toList
  have hpl : (Lib.repeatL [(0 : UInt8)] (7 - v.f2.size)).length = 7 - v.f2.size := by rw [Lib.repeatL_length]; simp
  have hb : bt (codeV v) 0 = 2 := by
   have := bt_data (codeV v) 0
   rw [hd] at this
   exact this
  have hb8 : bt (codeV v) 8 = v.f2.size := by
   have := bt_data (codeV v) 8
   rw [hd] at this
   rw [show ((8 : Nat) : Int) = 8 from rfl] at this
   rw [this, List.getElem?_cons_succ, List.getElem?_append_right (by omega), List.getElem?_append_right (by omega), show 7 - v.f2.data.toList.length - (Lib.repeatL [(0 : UInt8)] (7 - v.f2.size)).length = 0 by omega]
   simp only [List.getElem?_cons_zero, Option.getD_some, UInt8.toNat_ofNat']
   omega
  have he : (codeV v).extract 1 (1 + v.f2.size) = v.f2 := by
   refine bytes_ext ?_
   rw [ext_data, hd, Nat.add_comm, List.take_succ_cons, List.drop_succ_cons, List.drop_zero, ← hfl, List.take_left']
   rfl
  unfold parseV
  rw [if_neg (by rw [hb]; decide), if_pos hb, if_pos (by rw [hb8]; omega), hb8, Int.toNat_natCast, he]
  obtain ⟨f0, f1, f2⟩ := v
  simp only at k2 k3
  rw [k2, k3]
theorem read_code (v : Vl) (h : goodV v = true) (h0 : -9223372036854775808 ≤ v.f1) (h1 : v.f1 ≤ 9223372036854775807) : readV (codeV v) = (v, 0) := by
 unfold readV
 rw [parse_code v h h0 h1, if_pos ⟨codeV_size v h, h, rfl⟩]
theorem readV_ok {s : ByteArray} {v : Vl} (h : readV s = (v, 0)) : goodV v = true ∧ codeV v = s := by
 unfold readV at h
 split at h
 ·rename_i hc
  have := congrArg Prod.fst h
  simp only at this
  rw [← this]
  refine ⟨hc.2.1, bytes_ext ?_⟩
  rw [← toList_data, ← toList_data]
  exact hc.2.2
 ·have := congrArg Prod.snd h
  simp at this

/-- A value whose number is one. -/
def okN (v : Vl) : Prop := -9223372036854775808 ≤ v.f1 ∧ v.f1 ≤ 9223372036854775807
def readRowF : Nat → ByteArray → List Vl → List Vl × Int
 | 0, _, acc => (acc, 0)
 | n + 1, s, acc => if (readV (s.extract 0 9)).2 = 0 then readRowF n (s.extract 9 s.size) (acc ++ [(readV (s.extract 0 9)).1]) else ([], (readV (s.extract 0 9)).2)
def readRow (s : ByteArray) : List Vl × Int := if s.size % 9 = 0 ∧ s.size ≤ 36 then readRowF (s.size / 9) s [] else ([], 3)
theorem Ev.one {α : Type} {g : Nat → Option α} {r : α} (h : ∀ k, g (k + 1) = some r) : Ev g r := Ev.step h (Ev.now r)
theorem readRow_l0 : ∀ (n : Nat) (s : ByteArray) (acc : List Vl), s.size = 9 * n → acc.length + n ≤ 100 → Ev (fun k => sign_ReadRow.l0 k s acc) (readRowF n s acc)
 | 0, s, acc, h, _ => by
  refine Ev.one fun k => ?_
  have he : s.toList = ([] : List UInt8) := by
   rw [toList_data]
   exact List.eq_nil_of_length_eq_zero (by rw [Array.length_toList]; exact h)
  rw [sign_ReadRow.l0, if_pos he]
  rfl
 | n + 1, s, acc, h, ha => by
  have he : ¬ s.toList = ([] : List UInt8) := by
   rw [toList_data]
   intro hc
   have := congrArg List.length hc
   rw [Array.length_toList] at this
   have hz : s.size = 0 := this
   omega
  have ih := readRow_l0 n (s.extract 9 s.size) (acc ++ [(readV (s.extract 0 9)).1]) (by rw [ByteArray.size_extract]; omega) (by simp; omega)
  by_cases hr : (readV (s.extract 0 9)).2 = 0
  ·rw [readRowF, if_pos hr]
   refine Ev.step (fun k => ?_) ih
   rw [sign_ReadRow.l0, if_neg he, if_pos (by decide), if_pos (by omega)]
   show (some _).bind _ = _
   rw [Option.bind_some]
   simp only
   rw [if_pos hr, if_pos (by omega)]
  ·rw [readRowF, if_neg hr]
   refine Ev.one fun k => ?_
   rw [sign_ReadRow.l0, if_neg he, if_pos (by decide), if_pos (by omega)]
   show (some _).bind _ = _
   rw [Option.bind_some]
   simp only
   rw [if_neg hr]
theorem readRow_ev (s : ByteArray) : Ev (fun k => sign_ReadRow.f k s) (readRow s) := by
 unfold readRow
 by_cases h1 : s.size % 9 = 0
 ·by_cases h2 : s.size ≤ 36
  ·rw [if_pos ⟨h1, h2⟩]
   refine Ev.congr (fun k => ?_) (Ev.step (g := fun k => sign_ReadRow.j0 k s false) (fun k => ?_) (readRow_l0 (s.size / 9) s [] (by omega) (by simp; omega)))
   ·rw [sign_ReadRow.f, if_pos (by omega), show decide ((s.size : Int) > 36) = false from decide_eq_false (by omega)]
   ·rw [sign_ReadRow.j0, if_neg (by decide)]
  ·rw [if_neg (by omega)]
   refine Ev.congr (g := fun k => sign_ReadRow.f k s) (f := fun k => sign_ReadRow.j0 k s true) (fun k => ?_) (Ev.one fun k => ?_)
   ·rw [sign_ReadRow.f, if_pos (by omega), show decide ((s.size : Int) > 36) = true from decide_eq_true (by omega)]
   ·rw [sign_ReadRow.j0, if_pos rfl]
 ·rw [if_neg (by omega)]
  refine Ev.congr (g := fun k => sign_ReadRow.f k s) (f := fun k => sign_ReadRow.j0 k s true) (fun k => ?_) (Ev.one fun k => ?_)
  ·rw [sign_ReadRow.f, if_neg (by omega)]
  ·rw [sign_ReadRow.j0, if_pos rfl]
theorem codeV_len (v : Vl) (h : goodV v = true) : (codeV v).data.toList.length = 9 := by rw [Array.length_toList]; exact codeV_size v h
theorem extract_app_l (a b : List UInt8) : (ofL (a ++ b)).extract 0 a.length = ofL a := by
 refine bytes_ext ?_
 rw [ext_data, ofL_data, ofL_data, List.take_left', List.drop_zero]
 rfl
theorem extract_app_r (a b : List UInt8) (n : Nat) (hn : n = a.length + b.length) : (ofL (a ++ b)).extract a.length n = ofL b := by
 refine bytes_ext ?_
 rw [ext_data, ofL_data, ofL_data, List.take_of_length_le (by rw [List.length_append]; omega), List.drop_left']
 rfl
theorem readRowF_code : ∀ (l acc : List Vl), l.all goodV = true → (∀ v ∈ l, okN v) → readRowF l.length (ofL (codesL l)) acc = (acc ++ l, 0)
 | [], acc, _, _ => by simp [readRowF]
 | v :: l, acc, h, ho => by
  rw [List.all_cons, Bool.and_eq_true] at h
  have e : codesL (v :: l) = (codeV v).data.toList ++ codesL l := rfl
  have hl := codeV_len v h.1
  have e1 : (ofL (codesL (v :: l))).extract 0 9 = codeV v := by
   rw [e, ← hl, extract_app_l, ofL_of]
  have e2 : (ofL (codesL (v :: l))).extract 9 (ofL (codesL (v :: l))).size = ofL (codesL l) := by
   rw [e, ← hl, extract_app_r _ _ _ (by rw [ofL_size, List.length_append])]
  rw [List.length_cons, readRowF, e1, e2, read_code v h.1 (ho v (by simp)).1 (ho v (by simp)).2, if_pos rfl, readRowF_code l _ h.2 (fun x hx => ho x (by simp [hx]))]
  simp
theorem readRow_code (l : List Vl) (h4 : l.length ≤ 4) (h : l.all goodV = true) (ho : ∀ v ∈ l, okN v) : readRow (ofL (codesL l)) = (l, 0) := by
 have hs : (ofL (codesL l)).size = 9 * l.length := by rw [ofL_size, codesL_len l h]
 unfold readRow
 rw [if_pos (by omega), show (ofL (codesL l)).size / 9 = l.length by omega, readRowF_code l [] h ho]
 rfl
theorem readRowF_ok : ∀ (n : Nat) (s : ByteArray) (acc r : List Vl), s.size = 9 * n → readRowF n s acc = (r, 0) → ∃ l, r = acc ++ l ∧ l.length = n ∧ l.all goodV = true ∧ codesL l = s.data.toList
 | 0, s, acc, r, hs, h => by
  rw [readRowF] at h
  have := congrArg Prod.fst h
  simp only at this
  refine ⟨[], by simp [this], rfl, rfl, ?_⟩
  exact (List.eq_nil_of_length_eq_zero (by rw [Array.length_toList]; exact hs)).symm
 | n + 1, s, acc, r, hs, h => by
  rw [readRowF] at h
  by_cases hr : (readV (s.extract 0 9)).2 = 0
  ·rw [if_pos hr] at h
   obtain ⟨l, h1, h2, h3, h4⟩ := readRowF_ok n (s.extract 9 s.size) _ r (by rw [ByteArray.size_extract]; omega) h
   have hv := readV_ok (s := s.extract 0 9) (v := (readV (s.extract 0 9)).1) (by rw [← hr])
   generalize (readV (s.extract 0 9)).1 = v at *
   refine ⟨v :: l, by rw [h1]; simp, by simp [h2], by rw [List.all_cons, hv.1, h3]; rfl, ?_⟩
   show (codeV v).data.toList ++ codesL l = _
   rw [h4, hv.2, ext_data, ext_data, List.drop_zero, List.take_of_length_le (i := s.size) (by rw [Array.length_toList]; exact Nat.le_refl _), List.take_append_drop]
  ·rw [if_neg hr] at h
   exact absurd (congrArg Prod.snd h) hr
theorem readRow_ok {s : ByteArray} {r : List Vl} (h : readRow s = (r, 0)) : r.length ≤ 4 ∧ 9 * r.length = s.size ∧ r.all goodV = true ∧ codesL r = s.data.toList := by
 unfold readRow at h
 split at h
 ·rename_i hc
  obtain ⟨l, h1, h2, h3, h4⟩ := readRowF_ok (s.size / 9) s [] r (by omega) h
  rw [List.nil_append] at h1
  subst h1
  exact ⟨by omega, by omega, h3, h4⟩
 ·have := congrArg Prod.snd h
  simp at this

/-! The eye -/
theorem take_ev (rest : ByteArray) (bad : Bool) (n : Nat) : ark_eye_take.f rest bad (n : Int) = some (if n ≤ rest.size then (rest.extract 0 n, rest.extract n rest.size, bad) else (⟨#[]⟩, rest, true)) := by
 unfold ark_eye_take.f
 by_cases h : n ≤ rest.size
 ·rw [if_neg (by omega), if_pos (by omega), if_pos (by omega), if_pos h, Int.toNat_natCast]
 ·rw [if_pos (by omega), if_neg h]
/-- The number that two bytes say. -/
def num2 (s : ByteArray) : Nat := (bt s 0).toNat + 256 * (bt s 1).toNat
theorem or_low (a b : Int) (ha : 0 ≤ a) (ha2 : a ≤ 255) (hb : 0 ≤ b) (hb2 : b ≤ 255) : Go.bits .or .i64 a (b * 256) = a + 256 * b := by
 have h1 : bits .or .i64 (256 * b) a = 256 * b + a :=
  bits_join .i64 63 (by decide) (fun n h0 h1 => by rw [IntKind.wrap_i64]; omega) 8 _ _ (by omega) (by omega) (by omega) ha (by omega) (by omega)
 have h2 : ∀ x y : Int, bits .or .i64 x y = bits .or .i64 y x := by
  intro x y
  show IntKind.i64.wrap _ = IntKind.i64.wrap _
  rw [BitVec.or_comm]
 show bits .or .i64 a (b * 256) = _
 rw [h2, Int.mul_comm, h1]
 omega
theorem count_ev (rest : ByteArray) (bad : Bool) : ark_eye_count.f rest bad = some (if 2 ≤ rest.size then (if bad = true then (0, rest.extract 2 rest.size, true) else ((num2 rest : Int), rest.extract 2 rest.size, false)) else (0, rest, true)) := by
 unfold ark_eye_count.f
 have ht := take_ev rest bad 2
 rw [show ((2 : Nat) : Int) = 2 from rfl] at ht
 rw [ht, Option.bind_some]
 by_cases h : 2 ≤ rest.size
 ·rw [if_pos h, if_pos h]
  simp only
  cases bad with
  | true => rw [if_pos rfl, if_pos rfl]
  | false =>
   have hs : (rest.extract 0 2).size = 2 := by rw [ByteArray.size_extract]; omega
   have e0 : bt (rest.extract 0 2) 0 = bt rest 0 := by
    have h1 := bt_data (rest.extract 0 2) 0
    have h2 := bt_data rest 0
    rw [show ((0 : Nat) : Int) = 0 from rfl] at h1 h2
    rw [h1, h2, ext_data, List.drop_zero, List.getElem?_take_of_lt (by omega)]
   have e1 : bt (rest.extract 0 2) 1 = bt rest 1 := by
    have h1 := bt_data (rest.extract 0 2) 1
    have h2 := bt_data rest 1
    rw [show ((1 : Nat) : Int) = 1 from rfl] at h1 h2
    rw [h1, h2, ext_data, List.drop_zero, List.getElem?_take_of_lt (by omega)]
   have r0 := bt_range rest 0
   have r1 := bt_range rest 1
   rw [if_neg (by decide), hs, if_pos (by decide), if_pos (by decide), e0, e1, if_neg (by decide)]
   have w0 : wrap64 (bt rest 0) = bt rest 0 := by unfold wrap64; omega
   have w1 : wrap64 (bt rest 1) = bt rest 1 := by unfold wrap64; omega
   have w2 : wrap64 (bt rest 1 * 256) = bt rest 1 * 256 := by unfold wrap64; omega
   rw [w0, w1, w2, or_low _ _ r0.1 r0.2 r1.1 r1.2]
   unfold num2
   have : (((bt rest 0).toNat + 256 * (bt rest 1).toNat : Nat) : Int) = bt rest 0 + 256 * bt rest 1 := by omega
   rw [this]
 ·rw [if_neg h, if_neg h]
  exact if_pos rfl

theorem eye_fwd (cols : Nat) (hc : cols ≤ 4) : ∀ (rows : List (List Vl)) (tail : List UInt8) (out : List (List Vl)), (∀ r ∈ rows, r.length = cols ∧ r.all goodV = true ∧ ∀ v ∈ r, okN v) → rows.length ≤ 100000 → out.length + rows.length ≤ 1000000 →
  Ev (fun k => eyeL k (rows.length : Int) (ofL (rows.flatMap codesL ++ tail)) false (cols : Int) out) (out ++ rows, ofL tail, false)
 | [], tail, out, _, _, _ => by
  refine Ev.one fun k => ?_
  rw [eyeL, if_neg (by simp)]
  simp
 | r :: rows, tail, out, h, hl, ho => by
  have hr := h r (by simp)
  have hcl : (codesL r).length = 9 * cols := by rw [codesL_len r hr.2.1, hr.1]
  have e : (r :: rows).flatMap codesL ++ tail = codesL r ++ (rows.flatMap codesL ++ tail) := by simp
  have hw : wrap64 (9 * (cols : Int)) = ((9 * cols : Nat) : Int) := by unfold wrap64; omega
  have hsz : (ofL (codesL r ++ (rows.flatMap codesL ++ tail))).size = 9 * cols + (rows.flatMap codesL ++ tail).length := by rw [ofL_size, List.length_append, hcl]
  have e1 : (ofL (codesL r ++ (rows.flatMap codesL ++ tail))).extract 0 (9 * cols) = ofL (codesL r) := by rw [← hcl]; exact extract_app_l _ _
  have e2 : (ofL (codesL r ++ (rows.flatMap codesL ++ tail))).extract (9 * cols) (ofL (codesL r ++ (rows.flatMap codesL ++ tail))).size = ofL (rows.flatMap codesL ++ tail) := by
   rw [hsz, ← hcl]
   exact extract_app_r _ _ _ rfl
  have hn : wrap64 (((r :: rows).length : Int) - 1) = (rows.length : Int) := by
   rw [List.length_cons]
   rw [List.length_cons] at hl
   unfold wrap64
   omega
  have ih := eye_fwd cols hc rows tail (out ++ [r]) (fun x hx => h x (by simp [hx])) (by rw [List.length_cons] at hl; omega) (by rw [List.length_cons] at ho; simp; omega)
  have hrr := readRow_code r (by omega) hr.2.1 hr.2.2
  rw [e]
  have hb : Ev (fun k => (sign_ReadRow.f k (ofL (codesL r))).bind fun u => if out.length < 4398046511104 then eyeL k (rows.length : Int) (ofL (rows.flatMap codesL ++ tail)) (false || u.2 != 0) (cols : Int) (out ++ [u.1]) else none) (out ++ [r] ++ rows, ofL tail, false) := by
   refine Ev.bind (readRow_ev _) ?_
   rw [hrr]
   refine Ev.congr (fun k => ?_) ih
   rw [if_pos (by omega)]
   rfl
  rw [show out ++ r :: rows = out ++ [r] ++ rows by simp]
  refine Ev.step (fun k => ?_) hb
  rw [eyeL, if_pos (by rw [List.length_cons]; omega), if_neg (by decide), hw, take_ev, Option.bind_some, if_pos (by rw [hsz]; omega), hn, e1, e2]
theorem eye_bwd (cols : Nat) (hc : cols ≤ 4) : ∀ (n : Nat) (rest : ByteArray) (bad : Bool) (out : List (List Vl)), n ≤ 100000 → out.length + n ≤ 1000000 →
  ∃ r, Ev (fun k => eyeL k (n : Int) rest bad (cols : Int) out) r ∧ (r.1.length ≤ out.length + n) ∧ (r.2.2 = false → bad = false ∧ ∃ rows, r.1 = out ++ rows ∧ rows.length = n ∧ (∀ x ∈ rows, x.length ≤ 4 ∧ x.all goodV = true) ∧ rest.data.toList = rows.flatMap codesL ++ r.2.1.data.toList)
 | 0, rest, bad, out, _, _ => ⟨(out, rest, bad), by
   refine Ev.one fun k => ?_
   rw [eyeL, if_neg (by simp)], by simp, fun hb => ⟨hb, [], by simp, rfl, (fun x hx => by cases hx), by simp⟩⟩
 | n + 1, rest, true, out, hn, ho => ⟨(out, rest, true), by
   refine Ev.one fun k => ?_
   rw [eyeL, if_pos (by omega), if_pos rfl], by simp, fun hb => by cases hb⟩
 | n + 1, rest, false, out, hn, ho => by
  have hw : wrap64 (9 * (cols : Int)) = ((9 * cols : Nat) : Int) := by unfold wrap64; omega
  have hw1 : wrap64 (((n + 1 : Nat) : Int) - 1) = (n : Int) := by unfold wrap64; omega
  obtain ⟨t, ht⟩ : ∃ t, t = (if 9 * cols ≤ rest.size then (rest.extract 0 (9 * cols), rest.extract (9 * cols) rest.size, false) else ((⟨#[]⟩ : ByteArray), rest, true)) := ⟨_, rfl⟩
  obtain ⟨u, hu⟩ : ∃ u, u = readRow t.1 := ⟨_, rfl⟩
  obtain ⟨r, h1, h2, h3⟩ := eye_bwd cols hc n t.2.1 (t.2.2 || u.2 != 0) (out ++ [u.1]) (by omega) (by simp; omega)
  refine ⟨r, ?_, by simp at h2; omega, fun hb => ⟨rfl, ?_⟩⟩
  ·have hb : Ev (fun k => (sign_ReadRow.f k t.1).bind fun u => if out.length < 4398046511104 then eyeL k (n : Int) t.2.1 (t.2.2 || u.2 != 0) (cols : Int) (out ++ [u.1]) else none) r := by
    refine Ev.bind (readRow_ev _) ?_
    rw [← hu]
    refine Ev.congr (fun k => ?_) h1
    rw [if_pos (by omega)]
   refine Ev.step (fun k => ?_) hb
   rw [eyeL, if_pos (by omega), if_neg (by decide), hw, take_ev, Option.bind_some, hw1, ← ht]
  ·obtain ⟨hb1, rows, e1, e2, e3, e4⟩ := h3 hb
   rw [Bool.or_eq_false_iff] at hb1
   have ht2 := hb1.1
   have hu2 : u.2 = 0 := by simpa using hb1.2
   by_cases hs : 9 * cols ≤ rest.size
   ·rw [if_pos hs] at ht
    have hru : readRow t.1 = (u.1, 0) := by rw [← hu, ← hu2]
    obtain ⟨q1, q2, q3, q4⟩ := readRow_ok hru
    refine ⟨u.1 :: rows, by rw [e1]; simp, by simp [e2], ?_, ?_⟩
    ·intro x hx
     rcases List.mem_cons.1 hx with rfl | hx
     ·exact ⟨q1, q3⟩
     ·exact e3 x hx
    ·rw [List.flatMap_cons, List.append_assoc, ← e4, q4, ht]
     simp only
     rw [ext_data, ext_data, List.drop_zero, List.take_of_length_le (i := rest.size) (by rw [Array.length_toList]; exact Nat.le_refl _), List.take_append_drop]
   ·rw [if_neg hs] at ht
    rw [ht] at ht2
    cases ht2

/-! A table, all tables -/
/-- Rows that a table of so many columns holds. -/
def fitRows (cols : Nat) (rows : List (List Vl)) : Prop := rows.length ≤ 1000 ∧ ∀ r ∈ rows, r.length = cols ∧ r.all goodV = true ∧ ∀ v ∈ r, okN v
theorem num2_hd (rows : List (List Vl)) (l : List UInt8) (h : rows.length ≤ 1000) : num2 (ofL (hdB rows ++ l)) = rows.length := by
 unfold num2
 have h0 := bt_data (ofL (hdB rows ++ l)) 0
 have h1 := bt_data (ofL (hdB rows ++ l)) 1
 rw [show ((0 : Nat) : Int) = 0 from rfl, ofL_data] at h0
 rw [show ((1 : Nat) : Int) = 1 from rfl, ofL_data] at h1
 rw [h0, h1]
 show (((UInt8.ofNat (rows.length % 256)).toNat : Int)).toNat + 256 * (((UInt8.ofNat (rows.length / 256)).toNat : Int)).toNat = _
 rw [UInt8.toNat_ofNat', UInt8.toNat_ofNat']
 omega
theorem rows_fwd (cols : Nat) (hc : cols ≤ 4) (rows : List (List Vl)) (tail : List UInt8) (h : fitRows cols rows) : Ev (fun k => eyeRows k (ofL (tabB rows ++ tail)) false (cols : Int)) (rows, ofL tail, false) := by
 have e : tabB rows ++ tail = hdB rows ++ (rows.flatMap codesL ++ tail) := by
  show hdB rows ++ rows.flatMap codesL ++ tail = _
  rw [List.append_assoc]
 have hs : (ofL (hdB rows ++ (rows.flatMap codesL ++ tail))).size = 2 + (rows.flatMap codesL ++ tail).length := by rw [ofL_size, List.length_append]; rfl
 have he : (ofL (hdB rows ++ (rows.flatMap codesL ++ tail))).extract 2 (ofL (hdB rows ++ (rows.flatMap codesL ++ tail))).size = ofL (rows.flatMap codesL ++ tail) := by
  rw [hs]
  exact extract_app_r (hdB rows) _ _ rfl
 have hf := eye_fwd cols hc rows tail [] h.2 (by have := h.1; omega) (by have := h.1; simp; omega)
 rw [List.nil_append] at hf
 rw [e]
 refine Ev.congr (fun k => ?_) hf
 rw [eyeRows, count_ev, Option.bind_some, if_pos (by omega), if_neg (by decide), he, num2_hd _ _ h.1]
theorem rows_bwd (cols : Nat) (hc : cols ≤ 4) (rest : ByteArray) (bad : Bool) : ∃ r, Ev (fun k => eyeRows k rest bad (cols : Int)) r ∧ r.1.length ≤ 65535 ∧ (r.2.2 = false → bad = false ∧ (∀ x ∈ r.1, x.length ≤ 4 ∧ x.all goodV = true) ∧ rest.data.toList = tabB r.1 ++ r.2.1.data.toList) := by
 by_cases h : 2 ≤ rest.size
 ·cases bad with
  | true =>
   obtain ⟨r, h1, h2, h3⟩ := eye_bwd cols hc 0 (rest.extract 2 rest.size) true [] (by omega) (by simp)
   refine ⟨r, Ev.congr (fun k => ?_) h1, by rw [List.length_nil] at h2; omega, fun hb => by cases (h3 hb).1⟩
   rw [eyeRows, count_ev, Option.bind_some, if_pos h, if_pos rfl]
   rfl
  | false =>
   have r0 := bt_range rest 0
   have r1 := bt_range rest 1
   have hn : num2 rest ≤ 65535 := by unfold num2; omega
   obtain ⟨r, h1, h2, h3⟩ := eye_bwd cols hc (num2 rest) (rest.extract 2 rest.size) false [] (by omega) (by simp; omega)
   refine ⟨r, Ev.congr (fun k => ?_) h1, by rw [List.length_nil] at h2; omega, fun hb => ?_⟩
   ·rw [eyeRows, count_ev, Option.bind_some, if_pos h, if_neg (by decide)]
   ·obtain ⟨_, rows, e1, e2, e3, e4⟩ := h3 hb
    rw [List.nil_append] at e1
    subst e1
    refine ⟨rfl, e3, ?_⟩
    rw [ext_data, List.take_of_length_le (i := rest.size) (by rw [Array.length_toList]; exact Nat.le_refl _)] at e4
    show _ = hdB r.1 ++ r.1.flatMap codesL ++ r.2.1.data.toList
    rw [List.append_assoc, ← e4]
    have b0 := bt_data rest 0
    have b1 := bt_data rest 1
    rw [show ((0 : Nat) : Int) = 0 from rfl] at b0
    rw [show ((1 : Nat) : Int) = 1 from rfl] at b1
    have hl : 2 ≤ rest.data.toList.length := by rw [Array.length_toList]; exact h
    generalize rest.data.toList = L at *
    match L, hl, b0, b1 with
    | x :: y :: L, _, b0, b1 =>
     have c0 : bt rest 0 = (x.toNat : Int) := b0
     have c1 : bt rest 1 = (y.toNat : Int) := b1
     unfold num2 at e2
     rw [c0, c1, Int.toNat_natCast, Int.toNat_natCast] at e2
     have hx := x.toNat_lt
     have hy := y.toNat_lt
     unfold hdB
     rw [e2, show (x.toNat + 256 * y.toNat) % 256 = x.toNat by omega, show (x.toNat + 256 * y.toNat) / 256 = y.toNat by omega, UInt8.ofNat_toNat, UInt8.ofNat_toNat]
     rfl
 ·obtain ⟨r, h1, h2, h3⟩ := eye_bwd cols hc 0 rest true [] (by omega) (by simp)
  refine ⟨r, Ev.congr (fun k => ?_) h1, by rw [List.length_nil] at h2; omega, fun hb => by cases (h3 hb).1⟩
  rw [eyeRows, count_ev, Option.bind_some, if_neg h]
  rfl
end Go.Proofs.Ytkcckhlchjmkkaa
