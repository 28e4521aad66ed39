/-
  LAYER 35: gaugerref24.Tables over two DBs of one field, gaugerlaw35.same: a contract that the print takes as given.
-/
import Derived.Test.YtkcckhlchjmkkaaPArkx9
import Derived.Test.YtkcckhlchjmkkaaDrawn
import Derived.Lib.Hide
import Derived.Outline
set_option linter.unusedVariables false
set_option linter.unusedSimpArgs false
namespace Go.Proofs.Ytkcckhlchjmkkaa
open Go.RowKit Go.Proofs.YtkcckhlchjmkkaaW.PrintWords Go.Proofs.YtkcckhlchjmkkaaW.PrintMore Go.Proofs.Ytkcckhlchjmkkaa.PArk

/-- Whether two lists of tables have the same rows (as long as both have tables). -/
def tabsL (k : Nat) : List (List (List S140)) → List (List (List S140)) → Option Bool
  | a :: ar, b :: br => (gaugerref24_Same.f k 0 a [] 0 0 b [] 0).bind fun r => if r = true then tabsL k ar br else some false
  | _, _ => some true
def tabsSame (k : Nat) (a b : List (List (List S140))) : Option Bool := if a.length = b.length then tabsL k a b else some false
theorem c_Same0 (k : Nat) (A1 : Option Addr) (c1 : Nat) (l1 : List (List S140)) (A2 : Option Addr) (c2 : Nat) (l2 : List (List S140)) (r : Bool) (w : World) (hr1 : Kd.C (Kd.slice 140 k140) w A1 l1.length l1) (hc1 : l1.length ≤ c1) (hr2 : Kd.C (Kd.slice 140 k140) w A2 l2.length l2) (hc2 : l2.length ≤ c2) (h : gaugerref24_Same.f k 0 l1 [] 0 0 l2 [] 0 = some r) :
    Calls Try.prog 129 #[.agg #[.int .i64 0, .slice A1 l1.length c1, .slice none 0 0, .int .i64 0], .agg #[.int .i64 0, .slice A2 l2.length c2, .slice none 0 0, .int .i64 0]] w fun e w' => e = .returned (.bool r) ∧ Below w.heap.size w w' :=
  gaugerref24_Same.calls k 0 A1 c1 l1 none 0 [] 0 0 A2 c2 l2 none 0 [] 0 r w hr1 hc1 (Kd.C_nil _ _) (Nat.le_refl _) hr2 hc2 (Kd.C_nil _ _) (Nat.le_refl _) h
theorem drop_cons {α : Type} (l : List α) (i : Nat) (d : α) (h : i < l.length) : l.drop i = l.getD i d :: l.drop (i + 1) := by
  rw [List.drop_eq_getElem_cons h, List.getD_eq_getElem?_getD, List.getElem?_eq_getElem h]
  rfl
set_option maxRecDepth 100000 in
set_option maxHeartbeats 2000000 in
theorem c_Tables (k g1 g2 : Nat) (A1 : Option Addr) (c1 : Nat) (l1 : List (List (List S140))) (A2 : Option Addr) (c2 : Nat) (l2 : List (List (List S140))) (r : Bool) (w : World) (x1 : w.cell? ⟨g1, 2, none⟩ = some (.slice A1 l1.length c1)) (x2 : w.cell? ⟨g2, 2, none⟩ = some (.slice A2 l2.length c2)) (hr1 : Kd.C (Kd.slice 138 (Kd.slice 140 k140)) w A1 l1.length l1) (hr2 : Kd.C (Kd.slice 138 (Kd.slice 140 k140)) w A2 l2.length l2) (h : tabsSame k l1 l2 = some r) :
    Calls Try.prog 88 #[.pointer (some ⟨g1, 0, none⟩), .pointer (some ⟨g2, 0, none⟩)] w fun e w' => e = .returned (.bool r) ∧ Below w.heap.size w w' := by
  have X1 := Lib.hid x1
  have X2 := Lib.hid x2
  have HR1 := Lib.hid hr1
  have HR2 := Lib.hid hr2
  clear hr1 hr2
  unfold tabsSame at h
  by_cases hl : l1.length = l2.length
  · rw [if_pos hl] at h
    have H := Lib.hid h
    have d0 : ((l1.length : Int) != (l2.length : Int)) = false := by simp [hl]
    have HL := Lib.hid hl
    clear h hl
    go_enter Try.func88, Try.ntmps88
    go_wp2
    refine drawnB (fun w' => Below w.heap.size w w') _ rfl (by kernel_rfl) (by kernel_rfl) (below_drew (Below.refl _ _)) ?_
    simp only [List.map_cons, List.map_nil]
    repeat (first
      | (refine chain_on (v := ?_) (by rfl) (fun w' hw' => ?_) ?_
         rotate_left
         ·
           have x1 := pw_cell_below hw' x1
           have x2 := pw_cell_below hw' x2
           have hW := Lib.hid hw'
           clear hw'
           go_wp2_with (first
             | fail)
           refine ⟨?_, hW.out⟩
           simp only [Act.put, List.setIfInBounds_toArray, List.set_cons_zero, List.set_cons_succ]
           rfl
         simp only [Act.put, List.setIfInBounds_toArray, List.set_cons_zero, List.set_cons_succ])
      | (refine chain_off (by rfl) ?_
         simp only [Act.put, List.setIfInBounds_toArray, List.set_cons_zero, List.set_cons_succ]))
    refine chain_end (fun w' hw' => ?_)
    have x1 := pw_cell_below hw' x1
    have x2 := pw_cell_below hw' x2
    have hB : Hid (Below w.heap.size w w') := hw'
    clear hw'
    go_wp2
    go_loopw [5] (fun v wr => ∃ i : Nat, i ≤ l1.length ∧ v = .int .i64 i ∧ Hid (tabsL k (l1.drop i) (l2.drop i) = some r) ∧ Hid (Below w.heap.size w wr)) (fun v _ => l1.length - (intOf v).toNat)
    case atStart => exact ⟨0, by omega, rfl, H, hB⟩
    case round =>
      clear hB H x1 x2
      obtain ⟨i, hi, rfl, H, HB⟩ := hrel
      have x1 := (HB.out.cell (World.block_lt_of_cell? w _ X1.out)).trans X1.out
      have x2 := (HB.out.cell (World.block_lt_of_cell? w _ X2.out)).trans X2.out
      by_cases hlt : i < l1.length
      · have hlt2 : i < l2.length := by have := HL.out; omega
        obtain ⟨ad1, B1, e1, rfl, y1, hl1, hr1⟩ := at_L11 HR1.out i (by omega) (by omega)
        obtain ⟨ad2, B2, e2, rfl, y2, hl2, hr2⟩ := at_L11 HR2.out i (by omega) (by omega)
        simp only [Int.toNat_natCast] at y1 y2
        replace y1 := (HB.out.cell (World.block_lt_of_cell? w _ y1)).trans y1
        replace y2 := (HB.out.cell (World.block_lt_of_cell? w _ y2)).trans y2
        have hd1 : l1.drop i = rd_L11 l1 i :: l1.drop (i + 1) := drop_cons l1 i _ hlt
        have hd2 : l2.drop i = rd_L11 l2 i :: l2.drop (i + 1) := drop_cons l2 i _ hlt2
        have h := H.out
        rw [hd1, hd2] at h
        have hA := Kd.C_below hr1 HB.out
        have hB2 := Kd.C_below hr2 HB.out
        generalize rd_L11 l1 i = a at *
        generalize rd_L11 l2 i = b at *
        obtain ⟨q, hs, h⟩ := Option.bind_eq_some_iff.mp h
        have HA := Lib.hid hA
        have HB2 := Lib.hid hB2
        have HCA := Lib.hid hl1
        have HCB := Lib.hid hl2
        have HS := Lib.hid hs
        have HLT := Lib.hid hlt
        have W1 : wrap64 ((i : Int) + 1) = i + 1 := by have := HR1.out.2.1; unfold wrap64; omega
        clear hA hB2 hl1 hl2 hs hd1 hd2 hr1 hr2 H
        cases q with
        | true =>
          rw [if_pos rfl] at h
          have H := Lib.hid h
          clear h
          go_wp2_with fail
          refine drawnB (fun w' => Below wr.heap.size wr w') _ rfl (by kernel_rfl) (by kernel_rfl) (below_drew (Below.refl _ _)) ?_
          simp only [List.map_cons, List.map_nil]
          repeat (first
            | (refine chain_on (v := ?_) (by rfl) (fun w' hw' => ?_) ?_
               rotate_left
               ·
                 have x1 := pw_cell_below hw' x1
                 have x2 := pw_cell_below hw' x2
                 have y1 := pw_cell_below hw' y1
                 have y2 := pw_cell_below hw' y2
                 have hW := Lib.hid hw'
                 clear hw'
                 go_wp2_with (first
                   | (go_at_call 129; with_reducible refine (c_Same0 k _ _ a _ _ b _ _ (Kd.C_below HA.out hW.out) HCA.out (Kd.C_below HB2.out hW.out) HCB.out HS.out).mono ?_; rintro e w2 ⟨rfl, hb⟩; have hW := Lib.hid (below_step hW.out hb))
                   | fail)
                 refine ⟨?_, hW.out⟩
                 simp only [Act.put, List.setIfInBounds_toArray, List.set_cons_zero, List.set_cons_succ]
                 rfl
               simp only [Act.put, List.setIfInBounds_toArray, List.set_cons_zero, List.set_cons_succ])
            | (refine chain_off (by rfl) ?_
               simp only [Act.put, List.setIfInBounds_toArray, List.set_cons_zero, List.set_cons_succ]))
          refine chain_end (fun w' hw' => ?_)
          have x1 := pw_cell_below hw' x1
          have x2 := pw_cell_below hw' x2
          have y1 := pw_cell_below hw' y1
          have y2 := pw_cell_below hw' y2
          have HB := Lib.hid (below_step HB.out hw')
          clear hw'
          go_wp2
          go_roundw
          case rel =>
            try rw [W1]
            exact ⟨i + 1, HLT.out, by rw [Int.natCast_succ], H, HB⟩
          case measure =>
            try rw [W1]
            show l1.length - ((i : Int) + 1).toNat < l1.length - (i : Int).toNat
            have := HLT.out
            omega
        | false =>
          rw [if_neg (by decide)] at h
          obtain rfl := Option.some.inj h
          clear h
          go_wp2_with fail
          refine drawnB (fun w' => Below wr.heap.size wr w') _ rfl (by kernel_rfl) (by kernel_rfl) (below_drew (Below.refl _ _)) ?_
          simp only [List.map_cons, List.map_nil]
          repeat (first
            | (refine chain_on (v := ?_) (by rfl) (fun w' hw' => ?_) ?_
               rotate_left
               ·
                 have x1 := pw_cell_below hw' x1
                 have x2 := pw_cell_below hw' x2
                 have y1 := pw_cell_below hw' y1
                 have y2 := pw_cell_below hw' y2
                 have hW := Lib.hid hw'
                 clear hw'
                 go_wp2_with (first
                   | (go_at_call 129; with_reducible refine (c_Same0 k _ _ a _ _ b _ _ (Kd.C_below HA.out hW.out) HCA.out (Kd.C_below HB2.out hW.out) HCB.out HS.out).mono ?_; rintro e w2 ⟨rfl, hb⟩; have hW := Lib.hid (below_step hW.out hb))
                   | fail)
                 refine ⟨?_, hW.out⟩
                 simp only [Act.put, List.setIfInBounds_toArray, List.set_cons_zero, List.set_cons_succ]
                 rfl
               simp only [Act.put, List.setIfInBounds_toArray, List.set_cons_zero, List.set_cons_succ])
            | (refine chain_off (by rfl) ?_
               simp only [Act.put, List.setIfInBounds_toArray, List.set_cons_zero, List.set_cons_succ]))
          refine chain_end (fun w' hw' => ?_)
          have x1 := pw_cell_below hw' x1
          have x2 := pw_cell_below hw' x2
          have y1 := pw_cell_below hw' y1
          have y2 := pw_cell_below hw' y2
          have HB := Lib.hid (below_step HB.out hw')
          clear hw'
          go_wp2
          go_ret
          exact ⟨rfl, HB.out⟩
      · have hil : i = l1.length := by omega
        have h := H.out
        rw [List.drop_eq_nil_of_le (by omega), List.drop_eq_nil_of_le (by have := HL.out; omega)] at h
        obtain rfl := Option.some.inj h
        clear h H
        go_wp2
        go_ret
        exact ⟨rfl, HB.out⟩
  · rw [if_neg hl] at h
    obtain rfl := Option.some.inj h
    have d0 : ((l1.length : Int) != (l2.length : Int)) = true := by simp; omega
    clear h hl
    go_enter Try.func88, Try.ntmps88
    go_wp2
    refine drawnB (fun w' => Below w.heap.size w w') _ rfl (by kernel_rfl) (by kernel_rfl) (below_drew (Below.refl _ _)) ?_
    simp only [List.map_cons, List.map_nil]
    repeat (first
      | (refine chain_on (v := ?_) (by rfl) (fun w' hw' => ?_) ?_
         rotate_left
         ·
           have x1 := pw_cell_below hw' x1
           have x2 := pw_cell_below hw' x2
           have hW := Lib.hid hw'
           clear hw'
           go_wp2_with (first
             | fail)
           refine ⟨?_, hW.out⟩
           simp only [Act.put, List.setIfInBounds_toArray, List.set_cons_zero, List.set_cons_succ]
           rfl
         simp only [Act.put, List.setIfInBounds_toArray, List.set_cons_zero, List.set_cons_succ])
      | (refine chain_off (by rfl) ?_
         simp only [Act.put, List.setIfInBounds_toArray, List.set_cons_zero, List.set_cons_succ]))
    refine chain_end (fun w' hw' => ?_)
    have x1 := pw_cell_below hw' x1
    have x2 := pw_cell_below hw' x2
    have hB : Hid (Below w.heap.size w w') := hw'
    clear hw'
    go_wp2
    go_ret
    exact ⟨rfl, hB.out⟩

theorem tabsL_mono (k : Nat) : ∀ a b, LeO (tabsL k a b) (tabsL (k + 1) a b)
  | [], _ => by unfold tabsL; exact LeO.refl _
  | _ :: _, [] => by unfold tabsL; exact LeO.refl _
  | a :: ar, b :: br => LeO.bind (gaugerref24_Same.mono _ _ _ _ _ _ _ _ _) fun r => LeO.ite (tabsL_mono k ar br) (LeO.refl _)
set_option maxRecDepth 100000 in
theorem c_same (k : Nat) (A0 : Option Addr) (c0 : Nat) (l0 : List (List (List S140))) (A1 : Option Addr) (c1 : Nat) (l1 : List (List (List S140))) (r : Bool) (w : World) (hr0 : Kd.C (Kd.slice 138 (Kd.slice 140 k140)) w A0 l0.length l0) (hc0 : l0.length ≤ c0) (hr1 : Kd.C (Kd.slice 138 (Kd.slice 140 k140)) w A1 l1.length l1) (hc1 : l1.length ≤ c1) (h : tabsSame k l0 l1 = some r) :
    Calls Try.prog 42 #[.slice A0 l0.length c0, .slice A1 l1.length c1] w fun e w' => e = .returned (.bool r) ∧ Below w.heap.size w w' := by
  have H0 := Lib.hid hr0
  have H1 := Lib.hid hr1
  have H := Lib.hid h
  clear hr0 hr1 h
  have hB1 : Hid (Below w.heap.size w (w.alloc (.cells #[.slice none 0 0, .slice none 0 0, .slice A0 l0.length c0, .bool false] 170))) := below_alloc (Below.refl _ _) _
  have hB2 : Hid (Below w.heap.size w ((w.alloc (.cells #[.slice none 0 0, .slice none 0 0, .slice A0 l0.length c0, .bool false] 170)).alloc (.cells #[.slice none 0 0, .slice none 0 0, .slice A1 l1.length c1, .bool false] 170))) := below_alloc hB1.out _
  have k1 := heap_alloc_new w (.cells #[.slice none 0 0, .slice none 0 0, .slice A0 l0.length c0, .bool false] 170)
  have k1' := blk_alloc k1 (.cells #[.slice none 0 0, .slice none 0 0, .slice A1 l1.length c1, .bool false] 170)
  have k2 := heap_alloc_new (w.alloc (.cells #[.slice none 0 0, .slice none 0 0, .slice A0 l0.length c0, .bool false] 170)) (.cells #[.slice none 0 0, .slice none 0 0, .slice A1 l1.length c1, .bool false] 170)
  have X1 := Lib.hid ((blk_cell k1' 2).trans rfl)
  have X2 := Lib.hid ((blk_cell k2 2).trans rfl)
  clear k1 k1' k2
  go_enter Try.func42, Try.ntmps42
  go_wp2_with fail
  refine (c_Tables k _ _ A0 c0 l0 A1 c1 l1 r _ X1.out (by have := X2.out; rw [show (w.alloc (.cells #[.slice none 0 0, .slice none 0 0, .slice A0 l0.length c0, .bool false] 170)).heap.size = w.heap.size + 1 from by simp] at this; exact this) (Kd.C_below H0.out hB2.out) (Kd.C_below H1.out hB2.out) H.out).mono ?_
  rintro e w2 ⟨rfl, hb⟩
  have HB := Lib.hid (below_step hB2.out hb)
  clear hb
  go_wp2
  go_ret
  exact ⟨rfl, HB.out⟩
namespace PArk
def gaugerlaw35_same.f (k : Nat) (l0 l1 : List (List (List S140))) : Option Bool := tabsSame k l0 l1
theorem gaugerlaw35_same.mono : ∀ a0 a1 k, LeO (gaugerlaw35_same.f k a0 a1) (gaugerlaw35_same.f (k + 1) a0 a1) := fun a b k => LeO.ite (tabsL_mono k a b) (LeO.refl _)
theorem gaugerlaw35_same.calls (k : Nat) (A0 : Option Addr) (c0 : Nat) (l0 : List (List (List S140))) (A1 : Option Addr) (c1 : Nat) (l1 : List (List (List S140))) (r : Bool) (w : World) (hr0 : Kd.C (Kd.slice 138 (Kd.slice 140 k140)) w A0 l0.length l0) (hc0 : l0.length ≤ c0) (hr1 : Kd.C (Kd.slice 138 (Kd.slice 140 k140)) w A1 l1.length l1) (hc1 : l1.length ≤ c1) (h : gaugerlaw35_same.f k l0 l1 = some r) :
    Calls Try.prog 42 #[.slice A0 l0.length c0, .slice A1 l1.length c1] w fun e w' => e = .returned (.bool r) ∧ Below w.heap.size w w' := c_same k A0 c0 l0 A1 c1 l1 r w hr0 hc0 hr1 hc1 h
end PArk
end Go.Proofs.Ytkcckhlchjmkkaa
