/-
 LAYER 1: strings.Builder at this dump; sign.Code, sign.Row: contracts that the print takes as given.
-/
import Derived.Test.YtkcckhlchjmkkaaArkC
import Derived.Test.YtkcckhlchjmkkaaLStr
import Derived.Lib.Hide
import Derived.Outline
set_option linter.unusedVariables false
set_option linter.unusedSimpArgs false
namespace Go.Proofs.Ytkcckhlchjmkkaa
open Go.RowKit Go.Shelf Go.Proofs.YtkcckhlchjmkkaaW.PrintWords Go.Proofs.YtkcckhlchjmkkaaW.PrintMore Go.Proofs.Ytkcckhlchjmkkaa.PArk

theorem b_WriteString (B b : Nat) (bs : List Value) (s : ByteArray) (w : World) (h : Lib.IsBuilder 143 5 B b bs w) (hlen : bs.length + s.size ≤ 140737488355328) (hBw : B ≤ w.heap.size) :
  Calls Try.prog 74 #[.pointer (some ⟨b, 0, none⟩), .string s] w fun e w' => e = .returned (.tuple #[.int .i64 s.size, .nilIface]) ∧ (Lib.BuilderAt 143 5 B b (.pointer (some ⟨b, 0, none⟩)) (bs ++ Lib.strCells s) w' ∧ Below B w w') := Any.Builder_WriteString { lays105 with } Builder_Extra_105 B b bs s w h hlen hBw
abbrev Vl := S140
/-- Whether a value can be. -/
def goodV (v : Vl) : Bool := if v.f0 = 1 then v.f2.toList == ([] : List UInt8) else if v.f0 = 2 then (if v.f1 = 0 then decide ((v.f2.size : Int) ≤ 7) else false) else false
def codeV (v : Vl) : ByteArray := if v.f0 = 1 then ⟨#[1]⟩ ++ strOfNums (be8 (word v.f1)) else ⟨#[2]⟩ ++ v.f2 ++ ⟨(Lib.repeatL [0] (7 - v.f2.size)).toArray⟩ ++ ⟨#[UInt8.ofNat v.f2.size]⟩
theorem rune_0 (w : World) : (Go.convert 21 9 (.int .i32 0)).run Try.prog w = .ok (.string ⟨#[0]⟩) w := by kernel_rfl
theorem rune_1 (w : World) : (Go.convert 21 9 (.int .i32 1)).run Try.prog w = .ok (.string ⟨#[1]⟩) w := by kernel_rfl
theorem rune_2 (w : World) : (Go.convert 21 9 (.int .i32 2)).run Try.prog w = .ok (.string ⟨#[2]⟩) w := by kernel_rfl
theorem rune_3 (w : World) : (Go.convert 21 9 (.int .i32 3)).run Try.prog w = .ok (.string ⟨#[3]⟩) w := by kernel_rfl
theorem rune_4 (w : World) : (Go.convert 21 9 (.int .i32 4)).run Try.prog w = .ok (.string ⟨#[4]⟩) w := by kernel_rfl
theorem rune_5 (w : World) : (Go.convert 21 9 (.int .i32 5)).run Try.prog w = .ok (.string ⟨#[5]⟩) w := by kernel_rfl
theorem rune_6 (w : World) : (Go.convert 21 9 (.int .i32 6)).run Try.prog w = .ok (.string ⟨#[6]⟩) w := by kernel_rfl
theorem rune_7 (w : World) : (Go.convert 21 9 (.int .i32 7)).run Try.prog w = .ok (.string ⟨#[7]⟩) w := by kernel_rfl
theorem rune7 (n : Nat) (h : n ≤ 7) (w : World) : (Go.convert 21 9 (.int .i32 (n : Int))).run Try.prog w = .ok (.string ⟨#[UInt8.ofNat n]⟩) w := by
 obtain rfl | rfl | rfl | rfl | rfl | rfl | rfl | rfl : n = 0 ∨ n = 1 ∨ n = 2 ∨ n = 3 ∨ n = 4 ∨ n = 5 ∨ n = 6 ∨ n = 7 := by omega
 ·exact rune_0 w
 ·exact rune_1 w
 ·exact rune_2 w
 ·exact rune_3 w
 ·exact rune_4 w
 ·exact rune_5 w
 ·exact rune_6 w
 ·exact rune_7 w
theorem good_is (v : Vl) : sign_Good.f v.f0 v.f1 v.f2 = some (goodV v) := by
 unfold sign_Good.f goodV
 split
 ·rfl
 ·split
  ·split <;> rfl
  ·rfl
theorem c_goodV (v : Vl) (w : World) : Calls Try.prog 150 #[.agg #[.int .i64 v.f0, .int .i64 v.f1, .string v.f2]] w fun e w' => e = .returned (.bool (goodV v)) ∧ Below w.heap.size w w' :=
 sign_Good.calls v.f0 v.f1 v.f2 _ w (good_is v)
def HCpad (pd : List UInt8) (c : ByteArray) (n : UInt8) (s : ByteArray) : Prop := c = ⟨#[2]⟩ ++ s ++ ⟨pd.toArray⟩ ++ ⟨#[n]⟩
set_option maxRecDepth 100000 in
theorem c_Code (v : Vl) (w : World) : Calls Try.prog 114 #[.agg #[.int .i64 v.f0, .int .i64 v.f1, .string v.f2]] w fun e w' => e = .returned (.tuple #[.string (if goodV v = true then codeV v else ⟨#[]⟩), .int .i64 (if goodV v = true then 0 else 1)]) ∧ Below w.heap.size w w' := by
 have hB : Hid (Below w.heap.size w (w.alloc (.cells #[.int .i64 v.f0, .int .i64 v.f1, .string v.f2] 140))) := below_alloc (Below.refl _ _) _
 have k1 := heap_alloc_new w (.cells #[.int .i64 v.f0, .int .i64 v.f1, .string v.f2] 140)
 have K1 := Lib.hid k1
 clear k1
 cases hg : goodV v with
 | false =>
  have HG := Lib.hid hg
  clear hg
  go_enter Try.func114, Try.ntmps114
  go_wp2_with (go_at_call 150; refine (c_goodV v _).mono ?_; rintro e w1 ⟨rfl, hb⟩; rw [HG.out]; have hB := Lib.hid (below_step hB.out hb); clear hb)
  go_ret2
  exact ⟨by simp, hB.out⟩
 | true =>
  have HG := Lib.hid hg
  by_cases h1 : v.f0 = 1
  ·have hd : (v.f0 == 1) = true := by simpa using h1
   have hc : codeV v = ⟨#[1]⟩ ++ strOfNums (be8 (word v.f1)) := by unfold codeV; rw [if_pos h1]
   have HC := Lib.hid hc
   clear h1 hc hg
   go_enter Try.func114, Try.ntmps114
   go_wp2_with fail
   refine (c_goodV v _).mono ?_
   rintro e w1 ⟨rfl, hb⟩
   rw [HG.out]
   have hB := Lib.hid (below_step hB.out hb)
   have k1 := blk_below K1.out hb
   have p0 : w1.cell? ⟨w.heap.size, 0, none⟩ = some (.int .i64 v.f0) := (blk_cell k1 0).trans rfl
   have p1 : w1.cell? ⟨w.heap.size, 1, none⟩ = some (.int .i64 v.f1) := (blk_cell k1 1).trans rfl
   clear hb k1
   go_wp2_with fail
   refine (c_number v.f1 _).mono ?_
   rintro e w2 ⟨rfl, hb⟩
   have hB := Lib.hid (below_step hB.out hb)
   clear hb
   go_wp2
   go_ret2
   exact ⟨by rw [HC.out]; simp, hB.out⟩
  ·have hd : (v.f0 == 1) = false := by simpa using h1
   have hc : codeV v = ⟨#[2]⟩ ++ v.f2 ++ ⟨(Lib.repeatL [0] (7 - v.f2.size)).toArray⟩ ++ ⟨#[UInt8.ofNat v.f2.size]⟩ := by unfold codeV; rw [if_neg h1]
   have hs7 : v.f2.size ≤ 7 := by
    unfold goodV at hg
    rw [if_neg h1] at hg
    split at hg
    ·split at hg
     ·have := of_decide_eq_true hg; omega
     ·cases hg
    ·cases hg
   have hr : ∀ w, (Go.convert 21 9 (.int .i32 (v.f2.size : Int))).run Try.prog w = .ok (.string ⟨#[UInt8.ofNat v.f2.size]⟩) w := rune7 v.f2.size hs7
   have HC := Lib.hid hc
   clear h1 hc hg
   go_enter Try.func114, Try.ntmps114
   go_wp2_with fail
   refine (c_goodV v _).mono ?_
   rintro e w1 ⟨rfl, hb⟩
   rw [HG.out]
   have hB := Lib.hid (below_step hB.out hb)
   have k1 := blk_below K1.out hb
   have p0 : w1.cell? ⟨w.heap.size, 0, none⟩ = some (.int .i64 v.f0) := (blk_cell k1 0).trans rfl
   have p2 : w1.cell? ⟨w.heap.size, 2, none⟩ = some (.string v.f2) := (blk_cell k1 2).trans rfl
   have K1 := Lib.hid k1
   clear hb k1
   go_wp2_with fail
   rw [show (7 - (v.f2.size : Int)) = ((7 - v.f2.size : Nat) : Int) from by omega]
   refine (strings_Repeat ⟨#[0]⟩ (7 - v.f2.size) _ (by omega) (by show 1 * _ ≤ _; omega)).mono ?_
   rintro e w2 ⟨rfl, hb⟩
   have hB := Lib.hid (below_step hB.out hb)
   have k1 := blk_below K1.out hb
   have p2 : w2.cell? ⟨w.heap.size, 2, none⟩ = some (.string v.f2) := (blk_cell k1 2).trans rfl
   clear hb k1 p0
   have hpl : (Lib.repeatL [0] (7 - v.f2.size)).length ≤ 7 := by rw [Lib.repeatL_length]; simp
   have hpd : HCpad (Lib.repeatL [0] (7 - v.f2.size)) (codeV v) (UInt8.ofNat v.f2.size) v.f2 := HC.out
   generalize Lib.repeatL [0] (7 - v.f2.size) = pd at hpl hpd ⊢
   go_wp2
   go_ret2
   exact ⟨by unfold HCpad at hpd; rw [hpd]; simp, hB.out⟩
theorem isB_below {T e B b : Nat} {bs : List Value} {w w1 : World} (h : Lib.IsBuilder T e B b bs w) (hb : Below w.heap.size w w1) : Lib.IsBuilder T e B b bs w1 := by
 have one : ∀ p, Lib.BuilderAt T e B b p bs w → Lib.BuilderAt T e B b p bs w1 := by
  rintro p ⟨h1, v, h2, h3, h4⟩
  exact ⟨h1, v, blk_below h2 hb, pw_own_below h3 hb, h4⟩
 rcases h with h | h
 ·exact Or.inl (one _ h)
 ·exact Or.inr (one _ h)
theorem isB_new (T e : Nat) (w : World) : Lib.IsBuilder T e w.heap.size w.heap.size [] (w.alloc (.cells #[.pointer none, .slice none 0 0] T)) :=
 Or.inl ⟨Nat.le_refl _, .slice none 0 0, heap_alloc_new w _, own_nil _ _ _ _, by simp [Value.ownBlock]⟩
def codesL (l : List Vl) : List UInt8 := l.flatMap fun v => (codeV v).data.toList
theorem byteCells_app (a b : List UInt8) : Lib.byteCells (a ++ b) = Lib.byteCells a ++ Lib.byteCells b := by simp [Lib.byteCells]
theorem be8_size (n : Int) : (strOfNums (be8 n)).size = 8 := by simp [strOfNums, be8, ByteArray.size]
theorem codeV_size (v : Vl) (h : goodV v = true) : (codeV v).size = 9 := by
 unfold codeV
 split
 ·rw [ByteArray.size_append, be8_size]; rfl
 ·rename_i h1
  have hs : v.f2.size ≤ 7 := by
   unfold goodV at h
   rw [if_neg h1] at h
   split at h
   ·split at h
    ·have := of_decide_eq_true h; omega
    ·cases h
   ·cases h
  rw [ByteArray.size_append, ByteArray.size_append, ByteArray.size_append]
  have h2 : (⟨(Lib.repeatL [0] (7 - v.f2.size)).toArray⟩ : ByteArray).size = 7 - v.f2.size := by
   show (Lib.repeatL [0] (7 - v.f2.size)).toArray.size = _
   rw [List.size_toArray, Lib.repeatL_length]
   simp
  rw [h2]
  show 1 + v.f2.size + (7 - v.f2.size) + 1 = 9
  omega
theorem codesL_len (l : List Vl) (h : l.all goodV = true) : (codesL l).length = 9 * l.length := by
 induction l with
 | nil => rfl
 | cons v r ih =>
  rw [List.all_cons, Bool.and_eq_true] at h
  show ((codeV v).data.toList ++ codesL r).length = _
  rw [List.length_append, ih h.2, Array.length_toList]
  have : (codeV v).data.size = 9 := codeV_size v h.1
  rw [this, List.length_cons]
  omega
/-- A row's bytes and error. -/
def rowV (l : List Vl) : ByteArray × Int := if l.length ≤ 4 ∧ l.all goodV = true then (⟨(codesL l).toArray⟩, 0) else (⟨#[]⟩, 1)
set_option maxRecDepth 100000 in
theorem c_Row (L : List Vl) (A : Option Addr) (c : Nat) (w : World) (h : k140.C w A L.length L) (hc : L.length ≤ c) :
  Calls Try.prog 73 #[.slice A L.length c] w fun e w' => e = .returned (.tuple #[.string (rowV L).1, .int .i64 (rowV L).2]) ∧ Below w.heap.size w w' := by
 have hm := h.2.1
 have H0 := Lib.hid h
 have HC := Lib.hid hc
 clear h hc
 by_cases hl : 4 < L.length
 ·have hd : decide (4 < L.length) = true := decide_eq_true hl
  have hd2 : decide (4 < (L.length : Int)) = true := decide_eq_true (by omega)
  have hr : rowV L = (⟨#[]⟩, 1) := by unfold rowV; rw [if_neg (by omega)]
  rw [hr]
  clear hl hr
  go_enter Try.func73, Try.ntmps73
  go_wp2
  go_ret2
  exact ⟨rfl, Below.refl _ _⟩
 have hl4 : L.length ≤ 4 := by omega
 have hd : decide (4 < L.length) = false := decide_eq_false hl
 have hd2 : decide (4 < (L.length : Int)) = false := decide_eq_false (by omega)
 clear hl
 have hB : Hid (Below w.heap.size w (w.alloc (.cells #[.pointer none, .slice none 0 0] 143))) := below_alloc (Below.refl _ _) _
 have HBl := Lib.hid (isB_new 143 5 w)
 go_enter Try.func73, Try.ntmps73
 go_wp2
 go_loopw [14] (fun v wr => ∃ i : Nat, i ≤ L.length ∧ v = .int .i64 i ∧ Hid ((L.take i).all goodV = true) ∧ Hid (Lib.IsBuilder 143 5 w.heap.size w.heap.size (Lib.byteCells (codesL (L.take i))) wr) ∧ Hid (Below w.heap.size w wr)) (fun v _ => L.length - (intOf v).toNat)
 case atStart => exact ⟨0, by omega, rfl, Lib.hid rfl, HBl, hB⟩
 case round =>
  obtain ⟨i, hi, rfl, HA, HI, HB⟩ := hrel
  by_cases hlt : i < L.length
  ·obtain ⟨ad, rfl, y0, y1, y2⟩ := at_T140 H0.out i (by omega) (by omega)
   simp only [Int.toNat_natCast] at y0 y1 y2
   replace y0 := (HB.out.cell (World.block_lt_of_cell? w _ y0)).trans y0
   replace y1 := (HB.out.cell (World.block_lt_of_cell? w _ y1)).trans y1
   replace y2 := (HB.out.cell (World.block_lt_of_cell? w _ y2)).trans y2
   have hsn : L.take (i + 1) = L.take i ++ [rd_T140 L i] := by
    rw [List.take_add_one, List.getElem?_eq_getElem hlt]
    show _ = _ ++ [L.getD i _]
    rw [List.getD_eq_getElem?_getD, List.getElem?_eq_getElem hlt]
    rfl
   have hmem : rd_T140 L i ∈ L := by
    show L.getD i _ ∈ L
    rw [List.getD_eq_getElem?_getD, List.getElem?_eq_getElem hlt]
    exact List.getElem_mem _
   generalize rd_T140 L i = x at *
   have HSN := Lib.hid hsn
   have HM := Lib.hid hmem
   clear hsn hmem
   have hclen : (codesL (L.take i)).length ≤ 36 := by rw [codesL_len _ HA.out, List.length_take]; omega
   have W1 : wrap64 ((i : Int) + 1) = i + 1 := by unfold wrap64; omega
   have HLT := Lib.hid hlt
   cases hg : goodV x with
   | false =>
    have hr : rowV L = (⟨#[]⟩, 1) := by
     unfold rowV
     rw [if_neg]
     rintro ⟨_, h⟩
     rw [List.all_eq_true.1 h x HM.out] at hg
     cases hg
    have HRV := Lib.hid hr
    have HG := Lib.hid hg
    clear hr hg
    go_wp2_with (go_at_call 114; refine (c_Code x _).mono ?_; rintro e w1 ⟨rfl, hb⟩; rw [HG.out]; have hB := Lib.hid (below_step (below_alloc HB.out _) hb); clear hb)
    go_ret2
    exact ⟨by rw [HRV.out]; simp, hB.out⟩
   | true =>
    have hcs := codeV_size x hg
    have HG := Lib.hid hg
    clear hg
    go_wp2_with fail
    refine (c_Code x _).mono ?_
    rintro e w1 ⟨rfl, hb⟩
    rw [HG.out]
    have hB := Lib.hid (below_step (below_alloc HB.out _) hb)
    have I1 := Lib.hid (isB_below (isB_below HI.out (below_alloc (Below.refl _ _) (.cells #[.int .i64 x.f0, .int .i64 x.f1, .string x.f2] 140))) hb)
    clear hb
    go_wp2_with fail
    refine (b_WriteString w.heap.size w.heap.size _ (codeV x) _ I1.out (by rw [Lib.byteCells_length]; omega) hB.out.size).mono ?_
    rintro e w2 ⟨rfl, h1, h2⟩
    have HI2 : Hid (Lib.IsBuilder 143 5 w.heap.size w.heap.size (Lib.byteCells (codesL (L.take (i + 1)))) w2) := by
     rw [HSN.out]
     unfold codesL at h1 ⊢
     rw [List.flatMap_append, byteCells_app]
     have e : Lib.byteCells (List.flatMap (fun v => (codeV v).data.toList) [x]) = Lib.strCells (codeV x) := by
      rw [Lib.strCells_eq]
      simp
     rw [e]
     exact Or.inr h1
    have HB2 := Lib.hid (hB.out.trans h2)
    clear h1 h2
    go_wp2
    go_roundw
    case rel =>
     try rw [W1]
     exact ⟨i + 1, HLT.out, by rw [Int.natCast_succ], Lib.hid (by rw [HSN.out, List.all_append, HA.out]; simp [HG.out]), HI2, HB2⟩
    case measure =>
     try rw [W1]
     show L.length - ((i : Int) + 1).toNat < L.length - (i : Int).toNat
     have := HLT.out
     omega
  ·have hil : i = L.length := by omega
   subst hil
   have ha := HA.out
   have hi2 := HI.out
   rw [List.take_length] at ha hi2
   have hr : rowV L = (⟨(codesL L).toArray⟩, 0) := by unfold rowV; rw [if_pos ⟨hl4, ha⟩]
   have HR := Lib.hid hr
   have HI2 := Lib.hid hi2
   clear hr ha hi2
   go_wp2_with fail
   refine (Builder_String_any w.heap.size w.heap.size _ _ HI2.out HB.out.size).mono ?_
   rintro e w2 ⟨rfl, h2⟩
   have HB2 := Lib.hid (HB.out.trans h2)
   clear h2
   go_wp2
   go_ret2
   exact ⟨by rw [HR.out]; rfl, HB2.out⟩
namespace PArk
def sign_Code.f (a0_0 : Int) (a0_1 : Int) (a0_2 : ByteArray) : Option (ByteArray × Int) := some (if goodV ⟨a0_0, a0_1, a0_2⟩ = true then codeV ⟨a0_0, a0_1, a0_2⟩ else ⟨#[]⟩, if goodV ⟨a0_0, a0_1, a0_2⟩ = true then 0 else 1)
def sign_Row.f (l0 : List S140) : Option (ByteArray × Int) := some (rowV l0)
end PArk
end Go.Proofs.Ytkcckhlchjmkkaa
