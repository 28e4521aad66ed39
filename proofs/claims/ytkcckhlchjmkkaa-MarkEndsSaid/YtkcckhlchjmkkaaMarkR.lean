/-
  LAYER 22: the walk of mark.Read.
-/
import Derived.Test.YtkcckhlchjmkkaaMarkS
import Derived.Deep.DeepCutAuto
import Derived.Deep.CutBlock
set_option linter.unusedVariables false
set_option linter.unusedSimpArgs false
namespace Go.Proofs.Ytkcckhlchjmkkaa
open Go.RowKit Go.Maps Go.Proofs.YtkcckhlchjmkkaaW.PrintWords Go.Proofs.YtkcckhlchjmkkaaW.PrintMore Go.Proofs.Ytkcckhlchjmkkaa.PMark Go.Shelf

/-- Numbers that a record bears. -/
def OkS (S : List Stp) : Prop := S.length ≤ 1000 ∧ ∀ x ∈ S, x.f1.f7.length ≤ 1000000 ∧ x.f1.f6.length ≤ 1000000 ∧ In64 x.f0 ∧ In64 x.f1.f1 ∧ ∀ o ∈ x.f1.f6, In64 o.f0 ∧ In64 o.f1
def atS (S : List Stp) : Int := lastS S S.length
/-- Who is open at the last checkpoint. -/
def openAt (S : List Stp) : List Opn := if atS S < 0 then [] else (stpAt S (atS S).toNat).f1.f6
def next0 (l : List Opn) : Int := l.foldl (fun a o => mx a (wrap64 (o.f0 + 1))) 1
def base0 (l : List Opn) : List Opn := l.foldl putO []
def nextN (S : List Stp) (k : Nat) : Int := (S.take k).foldl (fun a x => mx a (wrap64 (x.f1.f1 + 1))) (next0 (openAt S))
def commN (S : List Stp) (k : Nat) : List Int := ((S.take k).filter fun x => x.f1.f0 == 3).map fun x => x.f1.f1
def openN (S : List Stp) (k : Nat) : List Opn := ((S.take k).drop (atS S + 1).toNat).foldl (fun l x => stepO l x.f0 x.f1.f0 x.f1.f1) (base0 (openAt S))

theorem take_snoc (S : List Stp) (k : Nat) (h : k < S.length) : S.take (k + 1) = S.take k ++ [stpAt S k] := by
  rw [List.take_add_one, List.getElem?_eq_getElem h]
  unfold stpAt
  rw [List.getD_eq_getElem?_getD, List.getElem?_eq_getElem h]
  rfl
theorem nextN_snoc (S : List Stp) (k : Nat) (h : k < S.length) : nextN S (k + 1) = mx (nextN S k) (wrap64 ((stpAt S k).f1.f1 + 1)) := by
  unfold nextN
  rw [take_snoc S k h, List.foldl_append]
  rfl
theorem commN_yes (S : List Stp) (k : Nat) (h : k < S.length) (h3 : ((stpAt S k).f1.f0 == 3) = true) : commN S (k + 1) = commN S k ++ [(stpAt S k).f1.f1] := by
  unfold commN
  rw [take_snoc S k h, List.filter_append, List.map_append]
  simp [List.filter, h3]
theorem commN_no (S : List Stp) (k : Nat) (h : k < S.length) (h3 : ((stpAt S k).f1.f0 == 3) = false) : commN S (k + 1) = commN S k := by
  unfold commN
  rw [take_snoc S k h, List.filter_append, List.map_append]
  simp [List.filter, h3]
theorem commN_len (S : List Stp) (k : Nat) : (commN S k).length ≤ k := by
  unfold commN
  rw [List.length_map]
  refine Nat.le_trans (List.length_filter_le _ _) ?_
  rw [List.length_take]
  omega
theorem openN_yes (S : List Stp) (k : Nat) (h : k < S.length) (hk : decide (atS S < k) = true) : openN S (k + 1) = stepO (openN S k) (stpAt S k).f0 (stpAt S k).f1.f0 (stpAt S k).f1.f1 := by
  have hk' := of_decide_eq_true hk
  unfold openN
  rw [take_snoc S k h, List.drop_append_of_le_length (by rw [List.length_take]; omega), List.foldl_append]
  rfl
theorem openN_no (S : List Stp) (k : Nat) (h : k < S.length) (hk : decide (atS S < k) = false) : openN S (k + 1) = openN S k := by
  have hk' := of_decide_eq_false hk
  unfold openN
  rw [List.drop_eq_nil_of_le (by rw [List.length_take]; omega), List.drop_eq_nil_of_le (by rw [List.length_take]; omega)]

theorem ris_base (F : List Opn) : Ris (base0 F) := by
  unfold base0
  have : ∀ (F l : List Opn), Ris l → Ris (F.foldl putO l) := by
    intro F
    induction F with
    | nil => exact fun l h => h
    | cons x r ih => exact fun l h => ih _ (ris_put h x)
  exact this F [] List.Pairwise.nil
theorem ris_open (S : List Stp) (k : Nat) : Ris (openN S k) := by
  unfold openN
  have : ∀ (X : List Stp) (l : List Opn), Ris l → Ris (X.foldl (fun l x => stepO l x.f0 x.f1.f0 x.f1.f1) l) := by
    intro X
    induction X with
    | nil => exact fun l h => h
    | cons x r ih => exact fun l h => ih _ (ris_step h _ _ _)
  exact this _ _ (ris_base _)

theorem ok_put {l : List Opn} {x : Opn} (h : ∀ o ∈ l, In64 o.f0 ∧ In64 o.f1) (hx : In64 x.f0 ∧ In64 x.f1) : ∀ o ∈ putO l x, In64 o.f0 ∧ In64 o.f1 := fun o ho => by
  rcases (ins_mem x o _).1 ho with rfl | ho
  · exact hx
  · exact h o (List.mem_filter.1 ho).1
theorem ok_open (S : List Stp) (hS : OkS S) (k : Nat) (hF : ∀ o ∈ openAt S, In64 o.f0 ∧ In64 o.f1) : ∀ o ∈ openN S k, In64 o.f0 ∧ In64 o.f1 := by
  have h1 : ∀ (F l : List Opn), (∀ o ∈ F, In64 o.f0 ∧ In64 o.f1) → (∀ o ∈ l, In64 o.f0 ∧ In64 o.f1) → ∀ o ∈ F.foldl putO l, In64 o.f0 ∧ In64 o.f1 := by
    intro F
    induction F with
    | nil => exact fun l _ h => h
    | cons x r ih => exact fun l hF h => ih _ (fun o ho => hF o (List.mem_cons_of_mem _ ho)) (ok_put h (hF x (List.mem_cons_self ..)))
  have h2 : ∀ (X : List Stp) (l : List Opn), (∀ x ∈ X, x ∈ S) → (∀ o ∈ l, In64 o.f0 ∧ In64 o.f1) → ∀ o ∈ X.foldl (fun l x => stepO l x.f0 x.f1.f0 x.f1.f1) l, In64 o.f0 ∧ In64 o.f1 := by
    intro X
    induction X with
    | nil => exact fun l _ h => h
    | cons x r ih =>
      refine fun l hX h => ih _ (fun y hy => hX y (List.mem_cons_of_mem _ hy)) ?_
      have hx := (hS.2 x (hX x (List.mem_cons_self ..))).2.2
      show ∀ o ∈ stepO l x.f0 x.f1.f0 x.f1.f1, In64 o.f0 ∧ In64 o.f1
      unfold stepO
      split
      · exact ok_put h ⟨hx.2.1, hx.1⟩
      · split
        · exact fun o ho => h o (List.mem_filter.1 ho).1
        · exact h
  unfold openN base0
  exact h2 _ _ (fun x hx => List.mem_of_mem_take (List.mem_of_mem_drop hx)) (h1 _ _ hF (fun o ho => by cases ho))
theorem ok_openAt (S : List Stp) (hS : OkS S) : ∀ o ∈ openAt S, In64 o.f0 ∧ In64 o.f1 := by
  unfold openAt
  split
  · exact fun o ho => by cases ho
  · rename_i h
    have hr := lastS_range S S.length
    unfold atS at h ⊢
    have hlt : (lastS S S.length).toNat < S.length := by omega
    refine (hS.2 _ ?_).2.2.2.2
    unfold stpAt
    rw [List.getD_eq_getElem?_getD, List.getElem?_eq_getElem hlt]
    exact List.getElem_mem _

theorem max2_mx (k k' : IntKind) (x y : Int) : Builtin.max2 (.int k x) (.int k' y) = pure (.int k (mx x y)) := max2_int k k' x y
attribute [local go_sem] max_two
attribute [local go_sem high] max2_mx

set_option maxRecDepth 100000 in
set_option maxHeartbeats 4000000 in
theorem c_Read22 (S : List Stp) (A : Option Addr) (c : Nat) (hS : OkS S) (w : World) (h : kStp.C w A S.length S) (hc : S.length ≤ c) :
    Calls Try.prog 32 #[.slice A S.length c] w fun e w' => ∃ A1 c1 A2 c2, e = .returned (.agg #[.int .i64 (startS S (atS S)), .slice A1 (openN S S.length).length c1, .int .i64 (nextN S S.length), .slice A2 (commN S S.length).length c2]) ∧
      (openN S S.length).length ≤ c1 ∧ (commN S S.length).length ≤ c2 ∧ kOpn.C w' A1 (openN S S.length).length (openN S S.length) ∧ (Kd.int .i64).C w' A2 (commN S S.length).length (commN S S.length) ∧ Below w.heap.size w w' := by
  have H0 := Lib.hid h
  have HC := Lib.hid hc
  have HS := Lib.hid hS
  have hmm := @run_makeMap Try.prog
  clear h hc hS
  go_enter Try.func32, Try.ntmps32
  have hB : Hid (Below w.heap.size w w) := Below.refl _ _
  go_upto_if 20 with (first
    | (go_at_call 64; refine (c_last S A c (Nat.le_trans HS.out.1 (by decide)) _ (Kd.C_below H0.out (below_alloc hB.out _)) HC.out).mono ?_; rintro e w1 ⟨rfl, hb⟩; have K2 := Lib.hid (blk_below (heap_alloc_new w (.cells #[.int .i64 0, .slice none 0 0, .int .i64 0, .slice none 0 0] 63)) hb); have hB := Lib.hid (below_step (below_alloc hB.out _) hb); clear hb)
    | (go_at_call 65; refine (c_start S A c (Nat.le_trans HS.out.1 (by decide)) (fun x hx => (HS.out.2 x hx).1) _ (lastS_range S _) _ (Kd.C_below H0.out hB.out) HC.out).mono ?_; rintro e w2 ⟨rfl, hb⟩; have K2 := Lib.hid (blk_below K2.out hb); have hB := Lib.hid (below_step hB.out hb); clear hb))
  have HG : Hid (w.heap.size < w2.heap.size) := blk_lt K2.out
  have M0 : Hid (OM ((w2.alloc (.cells #[.int .i64 (startS S (atS S)), .slice none 0 0, .int .i64 1, .slice none 0 0] 63)).alloc (.map #[] 0)) (w2.heap.size + 1) 0 []) := by
    have := World.ownsMap_made (H := Unit) (w2.alloc (.cells #[.int .i64 (startS S (atS S)), .slice none 0 0, .int .i64 1, .slice none 0 0] 63)) Try.prog 3 (plainElem Try.prog 3)
    have hsz : (w2.alloc (.cells #[.int .i64 (startS S (atS S)), .slice none 0 0, .int .i64 1, .slice none 0 0] 63)).heap.size = w2.heap.size + 1 := by simp
    rw [hsz] at this
    exact this
  have K4 := Lib.hid (blk_alloc (heap_alloc_new w2 (.cells #[.int .i64 (startS S (atS S)), .slice none 0 0, .int .i64 1, .slice none 0 0] 63)) (.map #[] 0))
  have K2 := Lib.hid (blk_alloc (blk_alloc K2.out (.cells #[.int .i64 (startS S (atS S)), .slice none 0 0, .int .i64 1, .slice none 0 0] 63)) (.map #[] 0))
  have hB := Lib.hid (below_alloc (below_alloc hB.out (.cells #[.int .i64 (startS S (atS S)), .slice none 0 0, .int .i64 1, .slice none 0 0] 63)) (.map #[] 0))
  unfold atS at M0 K4 K2 hB
  have hrange := lastS_range S S.length
  generalize hat : lastS S S.length = at' at *
  have HAT := Lib.hid hat
  have HRG := Lib.hid hrange
  clear hat hrange
  generalize (w2.alloc (.cells #[.int .i64 (startS S at'), .slice none 0 0, .int .i64 1, .slice none 0 0] 63)).alloc (.map #[] 0) = W3 at *
  go_cut [] (fun wc => ∃ n, n ≤ 1000000 ∧ Hid (OM wc (w2.heap.size + 1) n (base0 (openAt S))) ∧ Hid (wc.heap[w2.heap.size]? = some (.cells #[.int .i64 (startS S at'), .slice none 0 0, .int .i64 (next0 (openAt S)), .slice none 0 0] 63 (0, 0))) ∧ Hid (wc.heap[w.heap.size]? = some (.cells #[.int .i64 0, .slice none 0 0, .int .i64 0, .slice none 0 0] 63 (0, 0))) ∧ Hid (Below w.heap.size w wc))
  case first =>
    by_cases hneg : at' < 0
    · have hd : decide (0 ≤ at') = false := decide_eq_false (by omega)
      have ho : openAt S = [] := by unfold openAt atS; rw [HAT.out, if_pos hneg]
      clear hneg
      rw [hd]
      go_wp2
      go_meet
      case rel =>
        rw [ho]
        exact ⟨0, by omega, M0, K4, K2, hB⟩
    · have hd : decide (0 ≤ at') = true := decide_eq_true (by omega)
      obtain ⟨m, rfl⟩ := Int.eq_ofNat_of_zero_le (by omega : 0 ≤ at')
      have hml : m < S.length := by have := HRG.out; omega
      have ho : openAt S = (stpAt S m).f1.f6 := by unfold openAt atS; rw [HAT.out, if_neg hneg]; rfl
      have hF : (stpAt S m).f1.f6.length ≤ 1000000 := (HS.out.2 _ (by unfold stpAt; rw [List.getD_eq_getElem?_getD, List.getElem?_eq_getElem hml]; exact List.getElem_mem _)).2.1
      have hW : ∀ o ∈ (stpAt S m).f1.f6, In64 o.f0 ∧ In64 o.f1 := (HS.out.2 _ (by unfold stpAt; rw [List.getD_eq_getElem?_getD, List.getElem?_eq_getElem hml]; exact List.getElem_mem _)).2.2.2.2
      obtain ⟨ad, A5, c5, A10, c10, A11, c11, rfl, x0, x1, x2, x3, x4, x5, x6, x7, x8, x9, x10, x11, l5, g5, l10, g10, l11, g11⟩ := at_T70 H0.out m (by omega) (by omega)
      clear x0 x1 x2 x3 x4 x5 x6 x7 x8 x9 x11 l5 g5 l11 g11
      simp only [Int.toNat_natCast] at x10
      rw [rd_stp] at x10 g10 l10
      replace x10 := (hB.out.cell (World.block_lt_of_cell? w _ x10)).trans x10
      have HOp := Lib.hid ho
      clear ho
      generalize hFd : (stpAt S m).f1.f6 = F at *
      have G10 := Lib.hid g10
      have L10 := Lib.hid l10
      have HF := Lib.hid hF
      have HW := Lib.hid hW
      have HD := Lib.hid hFd
      clear g10 l10 hF hW hneg hFd
      rw [hd]
      go_wp2
      go_loopw [28] (fun v wr => ∃ i : Nat, i ≤ F.length ∧ v = .int .i64 i ∧ Hid (OM wr (w2.heap.size + 1) i (base0 (F.take i))) ∧ Hid (wr.heap[w2.heap.size]? = some (.cells #[.int .i64 (startS S (m : Int)), .slice none 0 0, .int .i64 (next0 (F.take i)), .slice none 0 0] 63 (0, 0))) ∧ Hid (wr.heap[w.heap.size]? = some (.cells #[.int .i64 0, .slice none 0 0, .int .i64 0, .slice none 0 0] 63 (0, 0))) ∧ Hid (Below w.heap.size w wr)) (fun v _ => F.length - (intOf v).toNat)
      case atStart => exact ⟨0, by omega, rfl, M0, K4, K2, hB⟩
      case round =>
        obtain ⟨i, hi, rfl, hM, hK4, hK2, hB⟩ := hrel
        by_cases hlt : i < F.length
        · obtain ⟨ad2, rfl, y0, y1⟩ := at_T55 G10.out i (by omega) (by omega)
          simp only [Int.toNat_natCast] at y0 y1
          replace y0 := (hB.out.cell (World.block_lt_of_cell? w _ y0)).trans y0
          replace y1 := (hB.out.cell (World.block_lt_of_cell? w _ y1)).trans y1
          have hmem : rd_T55 F i ∈ F := by
            show F.getD i _ ∈ F
            rw [List.getD_eq_getElem?_getD, List.getElem?_eq_getElem hlt]
            exact List.getElem_mem _
          have hsn : F.take (i + 1) = F.take i ++ [rd_T55 F i] := by
            rw [List.take_add_one, List.getElem?_eq_getElem hlt]
            show _ = _ ++ [F.getD i _]
            rw [List.getD_eq_getElem?_getD, List.getElem?_eq_getElem hlt]
            rfl
          generalize rd_T55 F i = o at *
          have HO := Lib.hid (HW.out o hmem)
          have HSn := Lib.hid hsn
          have HL := Lib.hid (hM.out.lt)
          clear hmem hsn
          go_wp2_with (first
            | (at_mapUpdate; refine wpList_mapUpdate_own _ rfl _ _ _ 126 rfl 3 3 (int_keyed Try.underlying3) Try.underlying126 (plainElem Try.prog 3) (w2.heap.size + 1) i (AM (base0 (F.take i)) : DataW Unit) rfl (hM.out.alloc _) (Nat.lt_of_le_of_lt hi (Nat.lt_of_le_of_lt HF.out (by decide))) _ _ (.int .i64 o.f0) rfl rfl (keyOf_int_mk Try.underlying3 HO.out.1.wf) (.lit (.int .i64 o.f1)) [] (plainElem_int Try.underlying3 HO.out.2.wf) ?_; intro w3 hown hg; rw [AM_put (base0 (F.take i)) o] at hown; have hM := Lib.hid hown; have kk := blk_grown (blk_alloc hK4.out (.cells #[.int .i64 o.f0, .int .i64 o.f1] 55)) hg (by simp); have c2 : w3.cell? ⟨w2.heap.size, 2, none⟩ = some (.int .i64 (next0 (F.take i))) := (blk_cell kk 2).trans rfl; have f2 := blk_frozen kk 2; have kb := blk_grown (heap_alloc_new wr (.cells #[.int .i64 o.f0, .int .i64 o.f1] 55)) hg (fun e => by injection e with e; have := HL.out; omega); have c7 : w3.cell? ⟨wr.heap.size, 0, none⟩ = some (.int .i64 o.f0) := (blk_cell kb 0).trans rfl; have hK4 := Lib.hid kk; have hK2 := Lib.hid (blk_grown (blk_alloc hK2.out (.cells #[.int .i64 o.f0, .int .i64 o.f1] 55)) hg (fun e => by injection e with e; have := HG.out; omega)); have hB := Lib.hid ((below_alloc hB.out (.cells #[.int .i64 o.f0, .int .i64 o.f1] 55)).grown hg (below_alloc hB.out (.cells #[.int .i64 o.f0, .int .i64 o.f1] 55)).size (fun k hk => by injection hk with hk; have := HG.out; omega)); clear kk kb hown hg))
          have W1 : wrap64 ((i : Int) + 1) = i + 1 := by have := HF.out; unfold wrap64; omega
          go_roundw
          case rel =>
            rw [W1]
            refine ⟨i + 1, by omega, by rw [Int.natCast_succ], ?_, ?_, ?_, ?_⟩
            · rw [HSn.out]
              have := hM.out.setCell (a := ⟨w2.heap.size, 2, none⟩) (by simp) (.int .i64 (mx (next0 (F.take i)) (wrap64 (o.f0 + 1))))
              unfold base0 at *
              rw [List.foldl_append]
              exact this
            · rw [HSn.out]
              have := blk_set hK4.out 2 (.int .i64 (mx (next0 (F.take i)) (wrap64 (o.f0 + 1))))
              unfold next0 at *
              rw [List.foldl_append]
              exact this
            · exact blk_far hK2.out (by have := HG.out; simp; omega) _
            · exact below_set hB.out (by have := HG.out; omega)
          case measure =>
            rw [W1]
            show F.length - ((i : Int) + 1).toNat < F.length - (i : Int).toNat
            omega
        · have hiF : i = F.length := by omega
          subst hiF
          go_wp2
          go_meet
          case rel => 
            rw [List.take_length] at hM hK4
            rw [HOp.out]
            exact ⟨F.length, HF.out, hM, hK4, hK2, hB⟩
  case rest =>
    obtain ⟨n, hn, hM, hK4, hK2, hB⟩ := hcut
    have hs : Hid (St w w2.heap.size (w2.heap.size + 1) (startS S at') (nextN S 0) (.slice none 0 0) (.slice none 0 0) (commN S 0) (n + 0) (openN S 0) wc) := ⟨by rw [show openN S 0 = base0 (openAt S) from by unfold openN; simp]; exact hM.out, hK4.out, own_nil _ _ _ _, hK2.out, hB.out, HG.out, by omega⟩
    clear hM hK4 hK2 hB
    go_wp2
    go_loopw [47] (fun v wr => ∃ k : Nat, k ≤ S.length ∧ v = .int .i64 k ∧ ∃ cv, Hid (St w w2.heap.size (w2.heap.size + 1) (startS S at') (nextN S k) (.slice none 0 0) cv (commN S k) (n + k) (openN S k) wr)) (fun v _ => S.length - (intOf v).toNat)
    case atStart => exact ⟨0, by omega, rfl, _, hs⟩
    case round =>
      obtain ⟨k, hk, rfl, cv, hs⟩ := hrel
      by_cases hlt : k < S.length
      · obtain ⟨ad, A5, c5, A10, c10, A11, c11, hA, x0, x1, x2, x3, x4, x5, x6, x7, x8, x9, x10, x11, l5, g5, l10, g10, l11, g11⟩ := at_T70 H0.out k (by omega) (by omega)
        subst hA
        clear l5 g5 l10 g10 l11 g11
        simp only [Int.toNat_natCast] at x0 x1 x2 x3 x4 x5 x6 x7 x8 x9 x10 x11
        rw [rd_stp] at x0 x1 x2 x3 x4 x5 x6 x7 x8 x9 x10 x11
        replace x0 := (hs.out.bel.cell (World.block_lt_of_cell? w _ x0)).trans x0
        replace x1 := (hs.out.bel.cell (World.block_lt_of_cell? w _ x1)).trans x1
        replace x2 := (hs.out.bel.cell (World.block_lt_of_cell? w _ x2)).trans x2
        replace x3 := (hs.out.bel.cell (World.block_lt_of_cell? w _ x3)).trans x3
        replace x4 := (hs.out.bel.cell (World.block_lt_of_cell? w _ x4)).trans x4
        replace x5 := (hs.out.bel.cell (World.block_lt_of_cell? w _ x5)).trans x5
        replace x6 := (hs.out.bel.cell (World.block_lt_of_cell? w _ x6)).trans x6
        replace x7 := (hs.out.bel.cell (World.block_lt_of_cell? w _ x7)).trans x7
        replace x8 := (hs.out.bel.cell (World.block_lt_of_cell? w _ x8)).trans x8
        replace x9 := (hs.out.bel.cell (World.block_lt_of_cell? w _ x9)).trans x9
        replace x10 := (hs.out.bel.cell (World.block_lt_of_cell? w _ x10)).trans x10
        replace x11 := (hs.out.bel.cell (World.block_lt_of_cell? w _ x11)).trans x11
        have hW := (HS.out.2 (stpAt S k) (by unfold stpAt; rw [List.getD_eq_getElem?_getD, List.getElem?_eq_getElem hlt]; exact List.getElem_mem _)).2.2
        have hN := Lib.hid (nextN_snoc S k hlt)
        have HK := Lib.hid hlt
        have hy := fun h3 => commN_yes S k hlt h3
        have hno := fun h3 => commN_no S k hlt h3
        have oy := fun h3 => openN_yes S k hlt h3
        have ono := fun h3 => openN_no S k hlt h3
        unfold atS at oy ono
        rw [HAT.out] at oy ono
        generalize stpAt S k = x at *
        have HY := Lib.hid hy
        have HNo := Lib.hid hno
        have OY := Lib.hid oy
        have ONo := Lib.hid ono
        have HW := Lib.hid hW
        clear hy hno oy ono hW
        have W1 : wrap64 ((k : Int) + 1) = k + 1 := by have := HS.out.1; unfold wrap64; omega
        have c2 := hs.out.c2
        have c3 := hs.out.c3
        have f2 := hs.out.fz 2
        have f3 := hs.out.fz 3
        have l4 := hs.out.lt
        have h2 := Lib.hid ((hs.out.set2 (mx (nextN S k) (wrap64 (x.f1.f1 + 1)))).alloc (.cells #[.int .i64 x.f0, .int .i64 x.f1.f0, .int .i64 x.f1.f1, .int .i64 x.f1.f2, .int .i64 x.f1.f3, .slice A5 x.f1.f4.length c5, .int .i64 x.f1.f5.f0, .int .i64 x.f1.f5.f1, .string x.f1.f5.f2, .string x.f1.f5.f3, .slice A10 x.f1.f6.length c10, .slice A11 x.f1.f7.length c11] 70))
        have hbound := Lib.hid (commN_len S k)
        have hne : ¬ wr.heap.size = w2.heap.size := by omega
        cases h3 : (x.f1.f0 == 3) <;> cases hgt : decide (at' < (k : Int))
        · go_wp2
          go_roundw
          case rel =>
            rw [W1]
            refine ⟨k + 1, by have := HK.out; omega, by rw [Int.natCast_succ], cv, ?_⟩
            rw [hN.out, HNo.out h3, ONo.out hgt]
            exact h2.out.mono (by omega)
          case measure =>
            rw [W1]
            show S.length - ((k : Int) + 1).toNat < S.length - (k : Int).toNat
            have := HK.out
            omega
        · go_wp2_with (first | (go_at_call 66; refine (c_follow (w2.heap.size + 1) (n + k) (openN S k) x.f0 x.f1.f0 x.f1.f1 _ _ _ _ _ _ _ _ _ _ _ _ _ _ _ HW.out.1 HW.out.2.1 (by have := HS.out.1; have := HK.out; simp only [maxLen]; omega) _ h2.out.map).mono ?_; rintro e w5 ⟨⟨v, rfl⟩, hm5, hg5⟩; have H5 := Lib.hid (h2.out.turned hm5 hg5); clear hm5 hg5))
          go_roundw
          case rel =>
            rw [W1]
            refine ⟨k + 1, by have := HK.out; omega, by rw [Int.natCast_succ], cv, ?_⟩
            rw [hN.out, HNo.out h3, OY.out hgt]
            exact H5.out.mono (by omega)
          case measure =>
            rw [W1]
            show S.length - ((k : Int) + 1).toNat < S.length - (k : Int).toNat
            have := HK.out
            omega
        · go_wp2_with (first | (at_builtin; refine print_append_num (w0 := w) w.heap.size rfl (.tmp 65) (.tmp 69) 57 3 .i64 8 rfl Try.underlying57 infoInt (by decide) cv (commN S k) _ rfl (by have e : ((wr.setCell ⟨w2.heap.size, 2, none⟩ (.int .i64 (mx (nextN S k) (wrap64 (x.f1.f1 + 1))))).alloc (.cells #[.int .i64 x.f0, .int .i64 x.f1.f0, .int .i64 x.f1.f1, .int .i64 x.f1.f2, .int .i64 x.f1.f3, .slice A5 x.f1.f4.length c5, .int .i64 x.f1.f5.f0, .int .i64 x.f1.f5.f1, .string x.f1.f5.f2, .string x.f1.f5.f3, .slice A10 x.f1.f6.length c10, .slice A11 x.f1.f7.length c11] 70)).heap.size = wr.heap.size + 1 := (by simp); rw [e]; rfl) h2.out.row h2.out.bel h2.out.bel.size (by have := hbound.out; have := HS.out.1; have := HK.out; omega) ?_; intro v1 w4 ho hb hg hat; obtain ⟨Av, cc, rfl⟩ := own_slice ho; have H3 := Lib.hid (h2.out.push ho hg hb); generalize hlen : (commN S k ++ [x.f1.f1]).length = len at *; clear hlen; have kb : w4.heap[wr.heap.size]? = some (.cells #[.int .i64 x.f0, .int .i64 x.f1.f0, .int .i64 x.f1.f1, .int .i64 x.f1.f2, .int .i64 x.f1.f3, .slice A5 x.f1.f4.length c5, .int .i64 x.f1.f5.f0, .int .i64 x.f1.f5.f1, .string x.f1.f5.f2, .string x.f1.f5.f3, .slice A10 x.f1.f6.length c10, .slice A11 x.f1.f7.length c11] 70 (0, 0)) := (by have := blk_grown (heap_alloc_new (wr.setCell ⟨w2.heap.size, 2, none⟩ (.int .i64 (mx (nextN S k) (wrap64 (x.f1.f1 + 1))))) (.cells #[.int .i64 x.f0, .int .i64 x.f1.f0, .int .i64 x.f1.f1, .int .i64 x.f1.f2, .int .i64 x.f1.f3, .slice A5 x.f1.f4.length c5, .int .i64 x.f1.f5.f0, .int .i64 x.f1.f5.f1, .string x.f1.f5.f2, .string x.f1.f5.f3, .slice A10 x.f1.f6.length c10, .slice A11 x.f1.f7.length c11] 70)) hg (own_ne h2.out.row (heap_alloc_new (wr.setCell ⟨w2.heap.size, 2, none⟩ (.int .i64 (mx (nextN S k) (wrap64 (x.f1.f1 + 1))))) (.cells #[.int .i64 x.f0, .int .i64 x.f1.f0, .int .i64 x.f1.f1, .int .i64 x.f1.f2, .int .i64 x.f1.f3, .slice A5 x.f1.f4.length c5, .int .i64 x.f1.f5.f0, .int .i64 x.f1.f5.f1, .string x.f1.f5.f2, .string x.f1.f5.f3, .slice A10 x.f1.f6.length c10, .slice A11 x.f1.f7.length c11] 70)) (by decide)); simpa using this); have z0 : w4.cell? ⟨wr.heap.size, 0, none⟩ = some (.int .i64 x.f0) := (blk_cell kb 0).trans rfl; have z1 : w4.cell? ⟨wr.heap.size, 1, none⟩ = some (.int .i64 x.f1.f0) := (blk_cell kb 1).trans rfl; have z2 : w4.cell? ⟨wr.heap.size, 2, none⟩ = some (.int .i64 x.f1.f1) := (blk_cell kb 2).trans rfl; have z3 : w4.cell? ⟨wr.heap.size, 3, none⟩ = some (.int .i64 x.f1.f2) := (blk_cell kb 3).trans rfl; have z4 : w4.cell? ⟨wr.heap.size, 4, none⟩ = some (.int .i64 x.f1.f3) := (blk_cell kb 4).trans rfl; have z5 : w4.cell? ⟨wr.heap.size, 5, none⟩ = some (.slice A5 x.f1.f4.length c5) := (blk_cell kb 5).trans rfl; have z6 : w4.cell? ⟨wr.heap.size, 6, none⟩ = some (.int .i64 x.f1.f5.f0) := (blk_cell kb 6).trans rfl; have z7 : w4.cell? ⟨wr.heap.size, 7, none⟩ = some (.int .i64 x.f1.f5.f1) := (blk_cell kb 7).trans rfl; have z8 : w4.cell? ⟨wr.heap.size, 8, none⟩ = some (.string x.f1.f5.f2) := (blk_cell kb 8).trans rfl; have z9 : w4.cell? ⟨wr.heap.size, 9, none⟩ = some (.string x.f1.f5.f3) := (blk_cell kb 9).trans rfl; have z10 : w4.cell? ⟨wr.heap.size, 10, none⟩ = some (.slice A10 x.f1.f6.length c10) := (blk_cell kb 10).trans rfl; have z11 : w4.cell? ⟨wr.heap.size, 11, none⟩ = some (.slice A11 x.f1.f7.length c11) := (blk_cell kb 11).trans rfl; have c4 : w4.cell? ⟨w2.heap.size, 3, none⟩ = some cv := (blk_cell (blk_grown h2.out.blk hg (own_ne h2.out.row h2.out.blk (by decide))) 3).trans rfl; have f4 : w4.frozen? ⟨w2.heap.size, 3, none⟩ = false := blk_frozen (blk_grown h2.out.blk hg (own_ne h2.out.row h2.out.blk (by decide))) 3; clear ho hb hg hat kb))
          go_roundw
          case rel =>
            rw [W1]
            refine ⟨k + 1, by have := HK.out; omega, by rw [Int.natCast_succ], .slice Av len cc, ?_⟩
            rw [hN.out, HY.out h3, ONo.out hgt]
            exact H3.out.mono (by omega)
          case measure =>
            rw [W1]
            show S.length - ((k : Int) + 1).toNat < S.length - (k : Int).toNat
            have := HK.out
            omega
        · go_wp2_with (first
            | (at_builtin; refine print_append_num (w0 := w) w.heap.size rfl (.tmp 65) (.tmp 69) 57 3 .i64 8 rfl Try.underlying57 infoInt (by decide) cv (commN S k) _ rfl (by have e : ((wr.setCell ⟨w2.heap.size, 2, none⟩ (.int .i64 (mx (nextN S k) (wrap64 (x.f1.f1 + 1))))).alloc (.cells #[.int .i64 x.f0, .int .i64 x.f1.f0, .int .i64 x.f1.f1, .int .i64 x.f1.f2, .int .i64 x.f1.f3, .slice A5 x.f1.f4.length c5, .int .i64 x.f1.f5.f0, .int .i64 x.f1.f5.f1, .string x.f1.f5.f2, .string x.f1.f5.f3, .slice A10 x.f1.f6.length c10, .slice A11 x.f1.f7.length c11] 70)).heap.size = wr.heap.size + 1 := (by simp); rw [e]; rfl) h2.out.row h2.out.bel h2.out.bel.size (by have := hbound.out; have := HS.out.1; have := HK.out; omega) ?_; intro v1 w4 ho hb hg hat; obtain ⟨Av, cc, rfl⟩ := own_slice ho; have H3 := Lib.hid (h2.out.push ho hg hb); generalize hlen : (commN S k ++ [x.f1.f1]).length = len at *; clear hlen; have kb : w4.heap[wr.heap.size]? = some (.cells #[.int .i64 x.f0, .int .i64 x.f1.f0, .int .i64 x.f1.f1, .int .i64 x.f1.f2, .int .i64 x.f1.f3, .slice A5 x.f1.f4.length c5, .int .i64 x.f1.f5.f0, .int .i64 x.f1.f5.f1, .string x.f1.f5.f2, .string x.f1.f5.f3, .slice A10 x.f1.f6.length c10, .slice A11 x.f1.f7.length c11] 70 (0, 0)) := (by have := blk_grown (heap_alloc_new (wr.setCell ⟨w2.heap.size, 2, none⟩ (.int .i64 (mx (nextN S k) (wrap64 (x.f1.f1 + 1))))) (.cells #[.int .i64 x.f0, .int .i64 x.f1.f0, .int .i64 x.f1.f1, .int .i64 x.f1.f2, .int .i64 x.f1.f3, .slice A5 x.f1.f4.length c5, .int .i64 x.f1.f5.f0, .int .i64 x.f1.f5.f1, .string x.f1.f5.f2, .string x.f1.f5.f3, .slice A10 x.f1.f6.length c10, .slice A11 x.f1.f7.length c11] 70)) hg (own_ne h2.out.row (heap_alloc_new (wr.setCell ⟨w2.heap.size, 2, none⟩ (.int .i64 (mx (nextN S k) (wrap64 (x.f1.f1 + 1))))) (.cells #[.int .i64 x.f0, .int .i64 x.f1.f0, .int .i64 x.f1.f1, .int .i64 x.f1.f2, .int .i64 x.f1.f3, .slice A5 x.f1.f4.length c5, .int .i64 x.f1.f5.f0, .int .i64 x.f1.f5.f1, .string x.f1.f5.f2, .string x.f1.f5.f3, .slice A10 x.f1.f6.length c10, .slice A11 x.f1.f7.length c11] 70)) (by decide)); simpa using this); have z0 : w4.cell? ⟨wr.heap.size, 0, none⟩ = some (.int .i64 x.f0) := (blk_cell kb 0).trans rfl; have z1 : w4.cell? ⟨wr.heap.size, 1, none⟩ = some (.int .i64 x.f1.f0) := (blk_cell kb 1).trans rfl; have z2 : w4.cell? ⟨wr.heap.size, 2, none⟩ = some (.int .i64 x.f1.f1) := (blk_cell kb 2).trans rfl; have z3 : w4.cell? ⟨wr.heap.size, 3, none⟩ = some (.int .i64 x.f1.f2) := (blk_cell kb 3).trans rfl; have z4 : w4.cell? ⟨wr.heap.size, 4, none⟩ = some (.int .i64 x.f1.f3) := (blk_cell kb 4).trans rfl; have z5 : w4.cell? ⟨wr.heap.size, 5, none⟩ = some (.slice A5 x.f1.f4.length c5) := (blk_cell kb 5).trans rfl; have z6 : w4.cell? ⟨wr.heap.size, 6, none⟩ = some (.int .i64 x.f1.f5.f0) := (blk_cell kb 6).trans rfl; have z7 : w4.cell? ⟨wr.heap.size, 7, none⟩ = some (.int .i64 x.f1.f5.f1) := (blk_cell kb 7).trans rfl; have z8 : w4.cell? ⟨wr.heap.size, 8, none⟩ = some (.string x.f1.f5.f2) := (blk_cell kb 8).trans rfl; have z9 : w4.cell? ⟨wr.heap.size, 9, none⟩ = some (.string x.f1.f5.f3) := (blk_cell kb 9).trans rfl; have z10 : w4.cell? ⟨wr.heap.size, 10, none⟩ = some (.slice A10 x.f1.f6.length c10) := (blk_cell kb 10).trans rfl; have z11 : w4.cell? ⟨wr.heap.size, 11, none⟩ = some (.slice A11 x.f1.f7.length c11) := (blk_cell kb 11).trans rfl; have c4 : w4.cell? ⟨w2.heap.size, 3, none⟩ = some cv := (blk_cell (blk_grown h2.out.blk hg (own_ne h2.out.row h2.out.blk (by decide))) 3).trans rfl; have f4 : w4.frozen? ⟨w2.heap.size, 3, none⟩ = false := blk_frozen (blk_grown h2.out.blk hg (own_ne h2.out.row h2.out.blk (by decide))) 3; clear ho hb hg hat kb)
            | (go_at_call 66; refine (c_follow (w2.heap.size + 1) (n + k) (openN S k) x.f0 x.f1.f0 x.f1.f1 _ _ _ _ _ _ _ _ _ _ _ _ _ _ _ HW.out.1 HW.out.2.1 (by have := HS.out.1; have := HK.out; simp only [maxLen]; omega) _ H3.out.map).mono ?_; rintro e w5 ⟨⟨v, rfl⟩, hm5, hg5⟩; have H5 := Lib.hid (H3.out.turned hm5 hg5); clear hm5 hg5))
          go_roundw
          case rel =>
            rw [W1]
            refine ⟨k + 1, by have := HK.out; omega, by rw [Int.natCast_succ], .slice Av len cc, ?_⟩
            rw [hN.out, HY.out h3, OY.out hgt]
            exact H5.out.mono (by omega)
          case measure =>
            rw [W1]
            show S.length - ((k : Int) + 1).toNat < S.length - (k : Int).toNat
            have := HK.out
            omega
      · have hkl : k = S.length := by omega
        subst hkl
        have hsz : (openN S S.length).length ≤ n + S.length := by have := hs.out.map.size_le; rwa [size_AM] at this
        have HSZ := Lib.hid hsz
        have HRI := Lib.hid (ris_open S S.length)
        have HLE := Lib.hid hs.out.bel.size
        clear hsz hlt
        go_wp2_with (first
          | (go_at_call 68; refine (c_Keys (some (w2.heap.size + 1)) _).mono ?_; rintro e w3 ⟨rfl, rfl⟩)
          | (go_at_call 67; refine (c_Sorted (w2.heap.size + 1) (n + S.length) (AM (openN S S.length) : DataW Unit) _ wr hs.out.map (by rw [size_AM]; have := HSZ.out; have := HS.out.1; simp only [maxLen]; omega) (by rw [size_AM]; have := HSZ.out; have := HS.out.1; omega)).mono ?_; rintro e w4 ⟨v, ss, rfl, hperm, hrow, hnil, hb⟩; rw [intKeys_AM] at hperm; have hlen := hperm.length_eq; rw [sort_keys hperm (ris_keys HRI.out), hlen] at hrow; have hrow : w4.ownsRow w.heap.size 3 1 v ((openN S S.length).map (·.f0)).length (nums .i64 ((openN S S.length).map (·.f0))) := ownsRow_base_a hrow (by have := HLE.out; simp; omega); have h3 : Hid (St3 w w2.heap.size (w2.heap.size + 1) (startS S at') (nextN S S.length) (.slice none 0 0) cv (commN S S.length) (n + S.length) (openN S S.length) v ((openN S S.length).map (·.f0)) ((openN S S.length).take 0) w4) := ⟨(hs.out.alloc _).below hb, hrow, Kd.R_nil _ _ _ _ _⟩; obtain ⟨Ak, ck, rfl⟩ := own_slice hrow; clear hperm hlen hrow hnil hb))
        have HOK := Lib.hid (ok_open S HS.out S.length (ok_openAt S HS.out))
        go_loopw [83] (fun v wr3 => ∃ i : Nat, i ≤ (openN S S.length).length ∧ v = .int .i64 i ∧ ∃ ov, Hid (St3 w w2.heap.size (w2.heap.size + 1) (startS S at') (nextN S S.length) ov cv (commN S S.length) (n + S.length) (openN S S.length) (.slice Ak ((openN S S.length).map (·.f0)).length ck) ((openN S S.length).map (·.f0)) ((openN S S.length).take i) wr3)) (fun v _ => (openN S S.length).length - (intOf v).toNat)
        case atStart => exact ⟨0, by omega, rfl, _, h3⟩
        case round =>
          obtain ⟨i, hi, rfl, ov, h3⟩ := hrel
          by_cases hlt : i < (openN S S.length).length
          · have hmem : rd_T55 (openN S S.length) i ∈ openN S S.length := by
              show (openN S S.length).getD i _ ∈ _
              rw [List.getD_eq_getElem?_getD, List.getElem?_eq_getElem hlt]
              exact List.getElem_mem _
            have hsn : (openN S S.length).take (i + 1) = (openN S S.length).take i ++ [rd_T55 (openN S S.length) i] := by
              rw [List.take_add_one, List.getElem?_eq_getElem hlt]
              show _ = _ ++ [(openN S S.length).getD i _]
              rw [List.getD_eq_getElem?_getD, List.getElem?_eq_getElem hlt]
              rfl
            have hrd : rd ((openN S S.length).map (·.f0)) (i : Int) = (rd_T55 (openN S S.length) i).f0 := by
              show ((openN S S.length).map (·.f0)).getD i 0 = ((openN S S.length).getD i _).f0
              rw [List.getD_eq_getElem?_getD, List.getD_eq_getElem?_getD, List.getElem?_map, List.getElem?_eq_getElem hlt]
              rfl
            obtain ⟨A', c', he, hr⟩ := own_reads h3.out.keys
            obtain ⟨ad', hA', y0⟩ := hr.at_ i (by omega) (by simpa using hlt)
            injection he with he1 he2 he3
            subst he1 hA'
            clear he2 he3 hr
            rw [hrd, Int.toNat_natCast] at y0
            have hat := atKey_AM (H := Unit) HRI.out hmem (.lit (.int .i64 0))
            generalize rd_T55 (openN S S.length) i = o at *
            have HAK := Lib.hid hat
            have HSn := Lib.hid hsn
            have HO := Lib.hid (HOK.out o hmem)
            have c1 := h3.out.st.c1
            have f1 := h3.out.st.fz 1
            have hlen := Lib.hid hi
            clear hat hsn hmem hrd
            go_wp2_with (first
              | (at_lookup; refine wpList_lookup_own_int _ rfl _ _ 126 rfl 3 3 .i64 (int_keyed Try.underlying3) Try.underlying126 Try.underlying3 (Try.zeroValue3 _) (w2.heap.size + 1) (n + S.length) (AM (openN S S.length) : DataW Unit) rfl h3.out.st.map _ _ rfl (keyOf_int_mk Try.underlying3 HO.out.1.wf) ?_; intro cval hcv hwc; rw [HAK.out] at hcv; injection hcv with hcv; injection hcv with _ hcv; subst hcv; clear hwc)
              | (at_builtin; refine Kd.R_append kOpn (w0 := w) w.heap.size rfl (.tmp 88) (.tmp 94) 50 55 (.agg #[.int .i64 0, .int .i64 0]) 16 rfl Try.underlying50 info55 rfl (by decide) (by omega) ov ((openN S S.length).take i) o [.int .i64 o.f0, .int .i64 o.f1] (fun _ => True) (fun _ => False) rfl rfl (k55_mkM _ _ _ o) (fun _ hk => hk.elim) (fun _ _ => trivial) h3.out.orow h3.out.st.bel h3.out.st.bel.size (by rw [List.length_take]; have := HSZ.out; have := HS.out.1; have := hlen.out; omega) ?_; intro v1 w5 ho hb hg hat; obtain ⟨Av, cc, rfl⟩ := Kd.R_slice ho; have H5 := Lib.hid (h3.out.push ho hg hb); have k4 := blk_grown h3.out.st.blk hg (Kd.R_ne h3.out.orow h3.out.st.blk (by decide)); have c4 : w5.cell? ⟨w2.heap.size, 1, none⟩ = some ov := (blk_cell k4 1).trans rfl; have f4 := blk_frozen k4 1; generalize hl2 : ((openN S S.length).take i ++ [o]).length = len2 at *; clear hl2 k4 ho hb hg hat))
            have W1 : wrap64 ((i : Int) + 1) = i + 1 := by have := HSZ.out; have := HS.out.1; unfold wrap64; omega
            go_roundw
            case rel =>
              rw [W1]
              refine ⟨i + 1, by have := hlen.out; omega, by rw [Int.natCast_succ], .slice Av len2 cc, ?_⟩
              rw [HSn.out]
              exact H5
            case measure =>
              rw [W1]
              show (openN S S.length).length - ((i : Int) + 1).toNat < (openN S S.length).length - (i : Int).toNat
              omega
          · have hil : i = (openN S S.length).length := by omega
            subst hil
            rw [List.take_length] at h3
            have c0 := (blk_cell h3.out.st.blk 0)
            have c1 := h3.out.st.c1
            have c2 := h3.out.st.c2
            have c3 := h3.out.st.c3
            have r0 := (blk_cell h3.out.st.res 0)
            have r1 := (blk_cell h3.out.st.res 1)
            have r2 := (blk_cell h3.out.st.res 2)
            have r3 := (blk_cell h3.out.st.res 3)
            have q0 := blk_frozen h3.out.st.res 0
            have q1 := blk_frozen h3.out.st.res 1
            have q2 := blk_frozen h3.out.st.res 2
            have q3 := blk_frozen h3.out.st.res 3
            obtain ⟨Ao, co, rfl, eo, ro'⟩ := Kd.R_reads h3.out.orow
            obtain ⟨Ac, cc, rfl, ec, rc⟩ := Kd.R_reads (Kd.R_of_own (h1 := fun _ => rfl) (enc := Value.int .i64) h3.out.st.row (ok := fun _ => True) (fun _ _ => trivial))
            have Eo := Lib.hid eo
            have Ro := Lib.hid ro'
            have Ec := Lib.hid ec
            have Rc := Lib.hid rc
            clear eo ro' ec rc
            have HF := Lib.hid (h3.out.fin (.int .i64 (startS S at')) (.slice Ao (openN S S.length).length co) (.int .i64 (nextN S S.length)) (.slice Ac (commN S S.length).length cc))
            go_wp2
            obtain ⟨f1, f2, f3, f4⟩ := HF.out
            obtain ⟨Ao', co', he1, _, x1⟩ := Kd.R_reads f2
            obtain ⟨Ac', cc', he2, _, x2⟩ := Kd.R_reads (Kd.R_of_own (h1 := fun _ => rfl) (enc := Value.int .i64) f3 (ok := fun _ => True) (fun _ _ => trivial))
            injection he1 with he1 _ _
            injection he2 with he2 _ _
            subst he1 he2
            refine bodyPost_ret (results_cell_row rfl _ _ w.heap.size 63 #[.int .i64 (startS S at'), .slice Ao (openN S S.length).length co, .int .i64 (nextN S S.length), .slice Ac (commN S S.length).length cc] (0, 0) _ rfl f1 Try.underlying63 rfl (by kernel_rfl)) rfl ⟨Ao, co, Ac, cc, by rw [atS, HAT.out], Eo.out, Ec.out, x1, x2, f4⟩
end Go.Proofs.Ytkcckhlchjmkkaa
