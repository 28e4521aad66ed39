/-
 LAYER 35: (*strings.Builder).Write of two bytes; ark.Pack: a contract that the print takes as given.
-/
import Derived.Test.YtkcckhlchjmkkaaArkD
import Derived.Test.YtkcckhlchjmkkaaPArkx5
import Derived.Test.YtkcckhlchjmkkaaPArkx6
import Derived.Lib.Hide
import Derived.Outline
import Derived.RangeFuncBox
set_option linter.unusedVariables false
set_option linter.unusedSimpArgs false
namespace Go.Proofs.Ytkcckhlchjmkkaa
open Go.RowKit Go.Shelf Go.Proofs.YtkcckhlchjmkkaaW.PrintWords Go.Proofs.YtkcckhlchjmkkaaW.PrintMore Go.Proofs.Ytkcckhlchjmkkaa.PArk

theorem infoU8 : (Try.prog.info? 5).map (fun i => (i.zero, i.size, i.bytes)) = some (some (.int .u8 0), 1, 1) := by kernel_rfl
/-- copyCheck, with a block beside the builder's. -/
theorem b_copyX (B b : Nat) (bs : List Value) (q : Nat) (o : Obj) (W : World) (h : Lib.IsBuilder 143 5 B b bs W) (hq : W.heap[q]? = some o) (hne : q ≠ b) :
  Calls Try.prog 113 #[.pointer (some ⟨b, 0, none⟩)] W fun e w' => e = .returned (.tuple #[]) ∧ (Lib.BuilderAt 143 5 B b (.pointer (some ⟨b, 0, none⟩)) bs w' ∧ w'.heap[q]? = some o ∧ Below B W w' ∧ W.heap.size ≤ w'.heap.size) := by
 rcases h with h | h
 ·refine (Any.Builder_copyCheck_fresh { lays105 with } Builder_Extra_105.toX72 b W h.cell0 h.shape h.frozen0).mono ?_
  rintro e w' ⟨rfl, rfl⟩
  exact ⟨rfl, h.used _, by rw [Below.heap_setCell _ _ _ _ hne]; exact hq, (Below.refl B W).setCell (p := ⟨b, 0, none⟩) h.1 _, by simp⟩
 ·refine (Any.Builder_copyCheck_used { lays105 with } Builder_Extra_105.toX72 b W h.cell0).mono ?_
  rintro e w' ⟨rfl, rfl⟩
  exact ⟨rfl, h, hq, Below.refl B _, Nat.le_refl _⟩
set_option maxRecDepth 100000 in
theorem b_Write2 (B b : Nat) (bs : List Value) (x y : Int) (w0 : World) (h : Lib.IsBuilder 143 5 B b bs w0) (hlen : bs.length + 2 ≤ 140737488355328) (hBw : B ≤ w0.heap.size) :
  Calls Try.prog 72 #[.pointer (some ⟨b, 0, none⟩), .slice (some ⟨w0.heap.size, 0, none⟩) 2 2] (w0.alloc (.cells #[.int .u8 x, .int .u8 y] 5)) fun e w' => e = .returned (.tuple #[.int .i64 2, .nilIface]) ∧ (Lib.BuilderAt 143 5 B b (.pointer (some ⟨b, 0, none⟩)) (bs ++ [.int .u8 x, .int .u8 y]) w' ∧ Below B w0 w') := by
 have hbl : b < w0.heap.size := by
  rcases h with ⟨_, v, h2, _⟩ | ⟨_, v, h2, _⟩
  ·exact blk_lt h2
  ·exact blk_lt h2
 have h1 := isB_below h (below_alloc (Below.refl _ _) (.cells #[.int .u8 x, .int .u8 y] 5))
 have hq := heap_alloc_new w0 (.cells #[.int .u8 x, .int .u8 y] 5)
 have hB : Below B w0 (w0.alloc (.cells #[.int .u8 x, .int .u8 y] 5)) := (Below.refl B w0).alloc hBw _
 obtain ⟨i0, hi, hz0, hz1, hz2⟩ := info_parts infoU8
 have H1 := Lib.hid h1
 have HQ := Lib.hid hq
 have HB := Lib.hid hB
 have HL := Lib.hid hlen
 have HI := Lib.hid hi
 have HZ0 := Lib.hid hz0
 have HZ1 := Lib.hid hz1
 have HZ2 := Lib.hid hz2
 have HN : Hid (w0.heap.size ≠ b) := by show w0.heap.size ≠ b; omega
 clear h1 hq hB h hlen hi hz0 hz1 hz2 hbl
 generalize hW : w0.alloc (.cells #[.int .u8 x, .int .u8 y] 5) = W at *
 have HS : Hid (w0.heap.size ≤ W.heap.size) := by show _ ≤ _; rw [← hW]; simp
 clear hW
 generalize w0.heap.size = q at *
 go_enter Try.func72, Try.ntmps72
 go_wp2_with fail
 refine (b_copyX B b bs q _ W H1.out HQ.out HN.out).mono ?_
 rintro e w1 ⟨rfl, ⟨hBb, v, hbk, hown, hnb⟩, hq1, hb1, hs1⟩
 have K1 := Lib.hid hbk
 have O1 := Lib.hid hown
 have Q1 := Lib.hid hq1
 have HB1 := Lib.hid (HB.out.trans hb1)
 have HSZ : Hid (B ≤ w1.heap.size) := by have := HS.out; show B ≤ _; omega
 have HBb := Lib.hid hBb
 have c1 : w1.cell? ⟨b, 1, none⟩ = some v := (blk_cell hbk 1).trans rfl
 clear hbk hown hq1 hb1 hs1 hnb hBb
 have hnews : ∀ (j : Nat) (u : Value), ([.int .u8 x, .int .u8 y] : List Value)[j]? = some u → w1.cell? ((⟨q, 0, none⟩ : Addr).add j) = some u := by
  intro j u hj
  rw [add_plain]
  have := blk_cell Q1.out j
  rw [this]
  rcases j with _ | _ | j
  ·exact hj
  ·exact hj
  ·simp at hj
 have HNW := Lib.hid hnews
 have hone : ∀ u ∈ ([.int .u8 x, .int .u8 y] : List Value), u.oneCell' = true := by
  intro u hu
  rcases List.mem_cons.1 hu with rfl | hu
  ·rfl
  ·rw [List.mem_singleton.1 hu]; rfl
 have HON := Lib.hid hone
 clear hnews hone
 go_wp2_with (first
  | (at_builtin; go_must (refine wpList_append_own _ rfl (.tmp 12) (.tmp 13) 120 rfl B 5 i0 (.int .u8 0) 1 1 Try.underlying120 HI.out HZ0.out HZ1.out HZ2.out rfl (by decide) v bs.length bs rfl O1.out ⟨q, 0, none⟩ 2 2 [.int .u8 x, .int .u8 y] rfl rfl HNW.out HON.out (by have := HL.out; simp only [maxLen]; omega) (by have := HL.out; omega) HSZ.out ?_); intro v2 w2 hown2 hg2 hn2; obtain ⟨gg, cc, rfl⟩ := Go.ownsRow_succ (k := bs.length + 1) hown2; have O2 := Lib.hid hown2; have k2 := blk_grown K1.out hg2 (own_ne O1.out K1.out (by decide)); have f2 := blk_frozen k2 1; have c2 : w2.cell? ⟨b, 1, none⟩ = some v := (blk_cell k2 1).trans rfl; have K2 := Lib.hid k2; have G2 := Lib.hid hg2; clear hown2 hg2 hn2 k2))
 go_ret2
 have hb := K2.out
 have ho := O2.out
 have e2 : bs.length + 2 = (bs ++ [.int .u8 x, .int .u8 y] : List Value).length := by simp
 have ho' : w2.ownsRow B 5 1 (.slice (some ⟨gg, 0, none⟩) (bs.length + 1 + 1) cc) (bs ++ [.int .u8 x, .int .u8 y] : List Value).length (bs ++ [.int .u8 x, .int .u8 y]) := by rw [← e2]; exact ho
 exact ⟨rfl, Lib.BuilderAt.put HBb.out hb ho' (by decide), (Below.grown HB1.out G2.out HSZ.out (fun k hk => (O1.out.lt k hk).1)).setCell (p := ⟨b, 1, none⟩) HBb.out _⟩

/-- One table's bytes. -/
def tabB (rows : List (List Vl)) : List UInt8 := [UInt8.ofNat (rows.length % 256), UInt8.ofNat (rows.length / 256)] ++ rows.flatMap codesL
/-- The two bytes ahead of a table's rows. -/
def hdB (rows : List (List Vl)) : List UInt8 := [UInt8.ofNat (rows.length % 256), UInt8.ofNat (rows.length / 256)]
def packB (tabs : List (List (List Vl))) : List UInt8 := tabs.flatMap tabB
def okRow (r : List Vl) : Bool := decide (r.length ≤ 4) && r.all goodV
def okRows (rows : List (List Vl)) : Bool := decide (rows.length ≤ 1000) && rows.all okRow
def okTabs (tabs : List (List (List Vl))) : Bool := decide (tabs.length ≤ 100) && tabs.all okRows
theorem okRow_len {r : List Vl} (h : okRow r = true) : (codesL r).length ≤ 36 := by
 unfold okRow at h
 rw [Bool.and_eq_true] at h
 have := of_decide_eq_true h.1
 rw [codesL_len r h.2]
 omega
theorem rows_len (rows : List (List Vl)) (h : rows.all okRow = true) : (rows.flatMap codesL).length ≤ 36 * rows.length := by
 induction rows with
 | nil => exact Nat.le_refl _
 | cons r l ih =>
  rw [List.all_cons, Bool.and_eq_true] at h
  have := okRow_len h.1
  have := ih h.2
  rw [List.flatMap_cons, List.length_append, List.length_cons]
  omega
theorem tabB_len (rows : List (List Vl)) (h : okRows rows = true) : (tabB rows).length ≤ 36002 := by
 unfold okRows at h
 rw [Bool.and_eq_true] at h
 have h1 := of_decide_eq_true h.1
 have := rows_len rows h.2
 unfold tabB
 rw [List.length_append]
 show 2 + _ ≤ _
 omega
theorem packB_len (tabs : List (List (List Vl))) (h : tabs.all okRows = true) : (packB tabs).length ≤ 36002 * tabs.length := by
 induction tabs with
 | nil => exact Nat.le_refl _
 | cons r l ih =>
  rw [List.all_cons, Bool.and_eq_true] at h
  have := tabB_len r h.1
  have := ih h.2
  show (tabB r ++ packB l).length ≤ _
  rw [List.length_append, List.length_cons]
  omega
theorem isB_lt {T e B b : Nat} {bs : List Value} {w : World} (h : Lib.IsBuilder T e B b bs w) : b < w.heap.size := by
 rcases h with ⟨_, v, h2, _⟩ | ⟨_, v, h2, _⟩
 ·exact blk_lt h2
 ·exact blk_lt h2
theorem take_snoc {α : Type} (l : List α) (i : Nat) (d : α) (h : i < l.length) : l.take (i + 1) = l.take i ++ [l.getD i d] := by
 rw [List.take_add_one, List.getElem?_eq_getElem h, List.getD_eq_getElem?_getD, List.getElem?_eq_getElem h]
 rfl
theorem getD_mem {α : Type} (l : List α) (i : Nat) (d : α) (h : i < l.length) : l.getD i d ∈ l := by
 rw [List.getD_eq_getElem?_getD, List.getElem?_eq_getElem h]
 exact List.getElem_mem _
set_option maxRecDepth 100000 in
theorem c_PackG (k : Nat) (A0_0 : Option Addr) (c0_0 : Nat) (l0_0 : List S134) (A0_1 : Option Addr) (c0_1 : Nat) (l0_1 : List S137) (A1 : Option Addr) (c1 : Nat) (l1 : List (List (List Vl))) (s : ByteArray) (w : World) (hr0_0 : Kd.C k134 w A0_0 l0_0.length l0_0) (hc0_0 : l0_0.length ≤ c0_0) (hr0_1 : Kd.C k137 w A0_1 l0_1.length l0_1) (hc0_1 : l0_1.length ≤ c0_1) (hr1 : Kd.C (Kd.slice 138 (Kd.slice 140 k140)) w A1 l1.length l1) (hc1 : l1.length ≤ c1) (hg : ark_isGood.f k l0_0 l0_1 l1 = some true) (hok : okTabs l1 = true) (hs : crc_Seal.f k ⟨(packB l1).toArray⟩ = some s) :
  Calls Try.prog 37 #[.agg #[.slice A0_0 l0_0.length c0_0, .slice A0_1 l0_1.length c0_1], .slice A1 l1.length c1] w fun e w' => e = .returned (.tuple #[.string s, .int .i64 0]) ∧ Below w.heap.size w w' := by
 have HR0_0 := Lib.hid hr0_0
 have HR0_1 := Lib.hid hr0_1
 have HR1 := Lib.hid hr1
 have HC0 := Lib.hid hc0_0
 have HC1 := Lib.hid hc0_1
 have HC := Lib.hid hc1
 have HG := Lib.hid hg
 have HS := Lib.hid hs
 unfold okTabs at hok
 rw [Bool.and_eq_true] at hok
 have HL := Lib.hid (of_decide_eq_true hok.1)
 have HA := Lib.hid hok.2
 clear hr0_0 hr0_1 hr1 hc0_0 hc0_1 hc1 hg hs hok
 have hB : Hid (Below w.heap.size w (w.alloc (.cells #[.slice A0_0 l0_0.length c0_0, .slice A0_1 l0_1.length c0_1] 79))) := below_alloc (Below.refl _ _) _
 go_enter Try.func37, Try.ntmps37
 go_wp2_with fail
 refine (ark_isGood.calls k _ _ l0_0 _ _ l0_1 _ _ l1 true _ (Kd.C_below HR0_0.out hB.out) HC0.out (Kd.C_below HR0_1.out hB.out) HC1.out (Kd.C_below HR1.out hB.out) HC.out HG.out).mono ?_
 rintro e w1 ⟨rfl, hb⟩
 have HB := Lib.hid (below_step hB.out hb)
 clear hb
 have HBl := Lib.hid (isB_new 143 5 w1)
 have HB1 := Lib.hid (below_alloc HB.out (.cells #[.pointer none, .slice none 0 0] 143))
 have HW : Hid (w.heap.size ≤ w1.heap.size) := HB.out.size
 go_wp2
 go_loopw [19] (fun v wr => ∃ i : Nat, i ≤ l1.length ∧ v = .int .i64 i ∧ Hid (Lib.IsBuilder 143 5 w1.heap.size w1.heap.size (Lib.byteCells (packB (l1.take i))) wr) ∧ Hid (Below w.heap.size w wr)) (fun v _ => l1.length - (intOf v).toNat)
 case atStart => exact ⟨0, by omega, rfl, HBl, HB1⟩
 case round =>
  clear HBl HB1 hB HB
  obtain ⟨i, hi, rfl, HI, HB⟩ := hrel
  by_cases hlt : i < l1.length
  ·obtain ⟨ad, A2, c2, rfl, y0, hl2, hr2⟩ := at_L11 HR1.out i (by omega) (by omega)
   simp only [Int.toNat_natCast] at y0
   replace y0 := (HB.out.cell (World.block_lt_of_cell? w _ y0)).trans y0
   have hsn : l1.take (i + 1) = l1.take i ++ [rd_L11 l1 i] := take_snoc l1 i _ hlt
   have hmem : rd_L11 l1 i ∈ l1 := getD_mem l1 i _ hlt
   generalize rd_L11 l1 i = rows at *
   have hrow := List.all_eq_true.1 HA.out rows hmem
   have HT := Lib.hid (show ((l1.take i).all okRows = true) from List.all_eq_true.2 fun x hx => List.all_eq_true.1 HA.out x (List.mem_of_mem_take hx))
   have hpl := packB_len (l1.take i) HT.out
   rw [List.length_take] at hpl
   have hpl2 : (packB (l1.take i)).length ≤ 3600200 := by have := HL.out; omega
   have HPL := Lib.hid hpl2
   have HSN := Lib.hid hsn
   have HR2 := Lib.hid hr2
   have HC2 := Lib.hid hl2
   unfold okRows at hrow
   rw [Bool.and_eq_true] at hrow
   have HRN := Lib.hid (of_decide_eq_true hrow.1)
   have HRA := Lib.hid hrow.2
   have HLT := Lib.hid hlt
   have W1 : wrap64 ((i : Int) + 1) = i + 1 := by have := HL.out; unfold wrap64; omega
   clear hsn hmem hpl hpl2 hl2 hr2 hrow HT
   have hx : (UInt8.ofNat (rows.length % 256)).toNat = rows.length % 256 := by rw [UInt8.toNat_ofNat']; omega
   have hy : (UInt8.ofNat (rows.length / 256)).toNat = rows.length / 256 := by have := HRN.out; rw [UInt8.toNat_ofNat']; omega
   have hcell : Lib.byteCells (packB (l1.take i)) ++ [.int .u8 ((rows.length : Int) % 256), .int .u8 ((rows.length : Int) / 256 % 256)] = Lib.byteCells (packB (l1.take i) ++ hdB rows) := by
    have h2 : (((rows.length / 256 : Nat) : Int)) = (rows.length : Int) / 256 % 256 := by have := HRN.out; omega
    have h1 : (((rows.length % 256 : Nat) : Int)) = (rows.length : Int) % 256 := by omega
    rw [byteCells_app, ← h1, ← h2]
    show _ = _ ++ [Value.int .u8 ((UInt8.ofNat (rows.length % 256)).toNat : Int), Value.int .u8 ((UInt8.ofNat (rows.length / 256)).toNat : Int)]
    rw [hx, hy]
   have HCL := Lib.hid hcell
   clear hx hy hcell
   go_wp2_with fail
   refine (b_Write2 w1.heap.size w1.heap.size _ _ _ wr HI.out (by have := HPL.out; rw [Lib.byteCells_length]; omega) (Nat.le_of_lt (isB_lt HI.out))).mono ?_
   rintro e w2 ⟨rfl, h1, h2⟩
   have h3 : Lib.IsBuilder 143 5 w1.heap.size w1.heap.size (Lib.byteCells (packB (l1.take i) ++ hdB rows ++ (rows.take 0).flatMap codesL)) w2 := by
    rw [List.take_zero, List.flatMap_nil, List.append_nil, ← HCL.out]
    exact Or.inr h1
   have HI2 := Lib.hid h3
   have HB2 := Lib.hid (HB.out.trans (h2.mono HW.out))
   clear h1 h2 h3 HCL HI
   go_wp2
   go_loopw [34] (fun v wr => ∃ j : Nat, j ≤ rows.length ∧ v = .int .i64 j ∧ Hid (Lib.IsBuilder 143 5 w1.heap.size w1.heap.size (Lib.byteCells (packB (l1.take i) ++ hdB rows ++ (rows.take j).flatMap codesL)) wr) ∧ Hid (Below w.heap.size w wr)) (fun v _ => rows.length - (intOf v).toNat)
   case atStart => exact ⟨0, by omega, rfl, HI2, HB2⟩
   case round =>
    clear HI2 HB2 HB y0
    obtain ⟨j, hj, rfl, HI, HB⟩ := hrel
    by_cases hlj : j < rows.length
    ·obtain ⟨ad3, A3, c3, rfl, y3, hl3, hr3⟩ := at_L10 HR2.out j (by omega) (by omega)
     simp only [Int.toNat_natCast] at y3
     replace y3 := (HB.out.cell (World.block_lt_of_cell? w _ y3)).trans y3
     have hsn : rows.take (j + 1) = rows.take j ++ [rd_L10 rows j] := take_snoc rows j _ hlj
     have hmem : rd_L10 rows j ∈ rows := getD_mem rows j _ hlj
     generalize rd_L10 rows j = row at *
     have hrow := List.all_eq_true.1 HRA.out row hmem
     have hcl := okRow_len hrow
     have hl4 := rows_len (rows.take j) (List.all_eq_true.2 fun x hx => List.all_eq_true.1 HRA.out x (List.mem_of_mem_take hx))
     rw [List.length_take] at hl4
     have hll : ((rows.take j).flatMap codesL).length ≤ 36000 := by have := HRN.out; omega
     have hrv : rowV row = (⟨(codesL row).toArray⟩, 0) := by
      unfold okRow at hrow
      rw [Bool.and_eq_true] at hrow
      unfold rowV
      rw [if_pos ⟨of_decide_eq_true hrow.1, hrow.2⟩]
     have HRV := Lib.hid hrv
     have HLL := Lib.hid hll
     have HCL := Lib.hid hcl
     have HSJ := Lib.hid hsn
     have HR3 := Lib.hid hr3
     have HC3 := Lib.hid hl3
     have HLJ := Lib.hid hlj
     have W2 : wrap64 ((j : Int) + 1) = j + 1 := by have := HRN.out; unfold wrap64; omega
     clear hrv hll hcl hsn hr3 hl3 hrow hl4 hmem
     go_wp2_with fail
     refine (c_Row row _ _ _ (Kd.C_below HR3.out HB.out) HC3.out).mono ?_
     rintro e w3 ⟨rfl, hb⟩
     rw [HRV.out]
     have HI3 := Lib.hid (isB_below HI.out hb)
     have HB3 := Lib.hid (below_step HB.out hb)
     clear hb
     go_wp2_with fail
     refine (b_WriteString w1.heap.size w1.heap.size _ ⟨(codesL row).toArray⟩ _ HI3.out (by have := HPL.out; have := HLL.out; have := HCL.out; rw [Lib.byteCells_length]; simp only [List.length_append, hdB, List.length_cons, List.length_nil]; show _ + (codesL row).toArray.size ≤ _; rw [List.size_toArray]; omega) (Nat.le_of_lt (isB_lt HI3.out))).mono ?_
     rintro e w4 ⟨rfl, h1, h2⟩
     have h3 : Lib.IsBuilder 143 5 w1.heap.size w1.heap.size (Lib.byteCells (packB (l1.take i) ++ hdB rows ++ (rows.take (j + 1)).flatMap codesL)) w4 := by
      rw [HSJ.out, List.flatMap_append, ← List.append_assoc, byteCells_app _ (List.flatMap codesL [row])]
      have e : Lib.byteCells (List.flatMap codesL [row]) = Lib.strCells ⟨(codesL row).toArray⟩ := by
       rw [Lib.strCells_eq]
       simp
      rw [e]
      exact Or.inr h1
     have HI4 := Lib.hid h3
     have HB4 := Lib.hid (HB3.out.trans (h2.mono HW.out))
     clear h1 h2 h3
     go_wp2
     go_roundw
     case rel =>
      try rw [W2]
      exact ⟨j + 1, HLJ.out, by rw [Int.natCast_succ], HI4, HB4⟩
     case measure =>
      try rw [W2]
      show rows.length - ((j : Int) + 1).toNat < rows.length - (j : Int).toNat
      have := HLJ.out
      omega
    ·have hil : j = rows.length := by omega
     subst hil
     have hi2 := HI.out
     rw [List.take_length] at hi2
     have h3 : Lib.IsBuilder 143 5 w1.heap.size w1.heap.size (Lib.byteCells (packB (l1.take (i + 1)))) wr := by
      rw [HSN.out]
      unfold packB
      rw [List.flatMap_append]
      simp only [List.flatMap_cons, List.flatMap_nil, List.append_nil]
      unfold packB hdB at hi2
      unfold tabB
      rw [← List.append_assoc]
      exact hi2
     have HI2 := Lib.hid h3
     clear hi2 h3
     go_wp2
     go_roundw
     case rel =>
      try rw [W1]
      exact ⟨i + 1, HLT.out, by rw [Int.natCast_succ], HI2, HB⟩
     case measure =>
      try rw [W1]
      show l1.length - ((i : Int) + 1).toNat < l1.length - (i : Int).toNat
      have := HLT.out
      omega
  ·have hil : i = l1.length := by omega
   subst hil
   have hi2 := HI.out
   rw [List.take_length] at hi2
   have HI2 := Lib.hid hi2
   clear hi2
   go_wp2_with fail
   refine (Builder_String_any w1.heap.size w1.heap.size _ _ HI2.out (Nat.le_of_lt (isB_lt HI2.out))).mono ?_
   rintro e w2 ⟨rfl, h2⟩
   have HB2 := Lib.hid (HB.out.trans (h2.mono HW.out))
   clear h2
   go_wp2_with fail
   refine (crc_Seal.calls k _ _ _ HS.out).mono ?_
   rintro e w3 ⟨rfl, hb⟩
   have HB3 := Lib.hid (below_step HB2.out hb)
   clear hb
   go_wp2
   go_ret2
   exact ⟨rfl, HB3.out⟩

set_option maxRecDepth 100000 in
theorem c_PackB (k : Nat) (A0_0 : Option Addr) (c0_0 : Nat) (l0_0 : List S134) (A0_1 : Option Addr) (c0_1 : Nat) (l0_1 : List S137) (A1 : Option Addr) (c1 : Nat) (l1 : List (List (List Vl))) (w : World) (hr0_0 : Kd.C k134 w A0_0 l0_0.length l0_0) (hc0_0 : l0_0.length ≤ c0_0) (hr0_1 : Kd.C k137 w A0_1 l0_1.length l0_1) (hc0_1 : l0_1.length ≤ c0_1) (hr1 : Kd.C (Kd.slice 138 (Kd.slice 140 k140)) w A1 l1.length l1) (hc1 : l1.length ≤ c1) (hg : ark_isGood.f k l0_0 l0_1 l1 = some false) :
  Calls Try.prog 37 #[.agg #[.slice A0_0 l0_0.length c0_0, .slice A0_1 l0_1.length c0_1], .slice A1 l1.length c1] w fun e w' => e = .returned (.tuple #[.string ⟨#[]⟩, .int .i64 1]) ∧ Below w.heap.size w w' := by
 have HR0_0 := Lib.hid hr0_0
 have HR0_1 := Lib.hid hr0_1
 have HR1 := Lib.hid hr1
 have HC0 := Lib.hid hc0_0
 have HC1 := Lib.hid hc0_1
 have HC := Lib.hid hc1
 have HG := Lib.hid hg
 clear hr0_0 hr0_1 hr1 hc0_0 hc0_1 hc1 hg
 have hB : Hid (Below w.heap.size w (w.alloc (.cells #[.slice A0_0 l0_0.length c0_0, .slice A0_1 l0_1.length c0_1] 79))) := below_alloc (Below.refl _ _) _
 go_enter Try.func37, Try.ntmps37
 go_wp2_with fail
 refine (ark_isGood.calls k _ _ l0_0 _ _ l0_1 _ _ l1 false _ (Kd.C_below HR0_0.out hB.out) HC0.out (Kd.C_below HR0_1.out hB.out) HC1.out (Kd.C_below HR1.out hB.out) HC.out HG.out).mono ?_
 rintro e w1 ⟨rfl, hb⟩
 have HB := Lib.hid (below_step hB.out hb)
 clear hb
 go_wp2
 go_ret2
 exact ⟨rfl, HB.out⟩
namespace PArk
def ark_Pack.f (k : Nat) (l0_0 : List S134) (l0_1 : List S137) (l1 : List (List (List S140))) : Option (ByteArray × Int) :=
 (ark_isGood.f k l0_0 l0_1 l1).bind fun b => if b = true then (if okTabs l1 = true then (crc_Seal.f k ⟨(packB l1).toArray⟩).bind fun s => some (s, 0) else none) else some (⟨#[]⟩, 1)
theorem ark_Pack.mono : ∀ a0 a1 a2 k, LeO (ark_Pack.f k a0 a1 a2) (ark_Pack.f (k + 1) a0 a1 a2) := by
 intro a0 a1 a2 k
 unfold ark_Pack.f
 refine LeO.bind (ark_isGood.mono _ _ _ _) ?_
 intro b
 split
 ·split
  ·refine LeO.bind (crc_Seal.mono _ _) ?_
   intro s
   exact LeO.refl _
  ·exact LeO.refl _
 ·exact LeO.refl _
theorem ark_Pack.calls (k : Nat) (A0_0 : Option Addr) (c0_0 : Nat) (l0_0 : List S134) (A0_1 : Option Addr) (c0_1 : Nat) (l0_1 : List S137) (A1 : Option Addr) (c1 : Nat) (l1 : List (List (List S140))) (r1 : ByteArray) (r2 : Int) (w : World) (hr0_0 : Kd.C k134 w A0_0 l0_0.length l0_0) (hc0_0 : l0_0.length ≤ c0_0) (hr0_1 : Kd.C k137 w A0_1 l0_1.length l0_1) (hc0_1 : l0_1.length ≤ c0_1) (hr1 : Kd.C (Kd.slice 138 (Kd.slice 140 k140)) w A1 l1.length l1) (hc1 : l1.length ≤ c1) (h : ark_Pack.f k l0_0 l0_1 l1 = some (r1, r2)) :
  Calls Try.prog 37 #[.agg #[.slice A0_0 l0_0.length c0_0, .slice A0_1 l0_1.length c0_1], .slice A1 l1.length c1] w fun e w' => e = .returned (.tuple #[.string r1, .int .i64 r2]) ∧ Below w.heap.size w w' := by
 unfold ark_Pack.f at h
 obtain ⟨b, hb, h⟩ := Option.bind_eq_some_iff.mp h
 cases b with
 | true =>
  rw [if_pos rfl] at h
  by_cases hok : okTabs l1 = true
  ·rw [if_pos hok] at h
   obtain ⟨s, hs, h⟩ := Option.bind_eq_some_iff.mp h
   obtain ⟨rfl, rfl⟩ := Prod.mk.inj (Option.some.inj h)
   exact c_PackG k A0_0 c0_0 l0_0 A0_1 c0_1 l0_1 A1 c1 l1 s w hr0_0 hc0_0 hr0_1 hc0_1 hr1 hc1 hb hok hs
  ·rw [if_neg hok] at h
   cases h
 | false =>
  rw [if_neg (by decide)] at h
  obtain ⟨rfl, rfl⟩ := Prod.mk.inj (Option.some.inj h)
  exact c_PackB k A0_0 c0_0 l0_0 A0_1 c0_1 l0_1 A1 c1 l1 w hr0_0 hc0_0 hr0_1 hc0_1 hr1 hc1 hb
end PArk
end Go.Proofs.Ytkcckhlchjmkkaa
