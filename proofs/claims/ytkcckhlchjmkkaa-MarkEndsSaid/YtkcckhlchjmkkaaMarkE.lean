/-
  LAYER 22: the law MarkExact's walk.
-/
import Derived.Test.YtkcckhlchjmkkaaMarkW
import Derived.IntWalk
import Derived.Deep.QuietTactic
import Derived.BigQuiet
set_option linter.unusedVariables false
set_option linter.unusedSimpArgs false
namespace Go.Proofs.Ytkcckhlchjmkkaa
open Go.RowKit Go.Maps Go.Proofs.YtkcckhlchjmkkaaW.PrintWords Go.Proofs.YtkcckhlchjmkkaaW.PrintMore Go.Proofs.Ytkcckhlchjmkkaa.PMark

def recAt (L : List Rec) (i : Nat) : Rec := L.getD i z53
theorem rd_rec (L : List Rec) (i : Nat) : rd_T53 L (i : Int) = recAt L i := rfl
theorem recL_stamp (L : List Rec) : recL (stampN L L.length) = L := by
  unfold recL stampN
  rw [List.map_map]
  apply List.ext_getElem
  · simp
  · intro i h1 h2
    simp [h2]
theorem stmL_stamp (L : List Rec) (k : Nat) : stmL (stampN L k) = numsN k := by
  unfold stmL stampN numsN
  rw [List.map_map]
  rfl
theorem openN_len (S : List Stp) (k : Nat) : (openN S k).length ≤ (openAt S).length + k := by
  have h1 : ∀ (F l : List Opn), (F.foldl putO l).length ≤ l.length + F.length := by
    intro F
    induction F with
    | nil => exact fun l => by simp
    | cons x r ih => exact fun l => by have := ih (putO l x); have := putO_len l x; simp only [List.foldl_cons, List.length_cons]; omega
  have h2 : ∀ (X : List Stp) (l : List Opn), (X.foldl (fun l x => stepO l x.f0 x.f1.f0 x.f1.f1) l).length ≤ l.length + X.length := by
    intro X
    induction X with
    | nil => exact fun l => by simp
    | cons x r ih => exact fun l => by have := ih (stepO l x.f0 x.f1.f0 x.f1.f1); have := stepO_len l x.f0 x.f1.f0 x.f1.f1; simp only [List.foldl_cons, List.length_cons]; omega
  unfold openN base0
  have := h2 ((S.take k).drop (atS S + 1).toNat) ((openAt S).foldl putO [])
  have := h1 (openAt S) []
  have : ((S.take k).drop (atS S + 1).toNat).length ≤ k := by rw [List.length_drop, List.length_take]; omega
  simp at *
  omega
theorem openN_len' (S : List Stp) (hS : OkS S) : (openN S S.length).length ≤ 100000000 := by
  have := openN_len S S.length
  have h1 := hS.1
  have : (openAt S).length ≤ 1000000 := by
    unfold openAt
    split
    · simp
    · rename_i h
      have hr := lastS_range S S.length
      unfold atS at h ⊢
      exact (hS.2 _ (mem_stp S _ (by omega))).2.1
  omega
def GoodR (x : Rec) : Prop := GoodP x.f0 x.f1 x.f6 x.f7
theorem okS_stamp (L : List Rec) (hl : L.length ≤ 40) (h : ∀ x ∈ L, GoodR x) : OkS (stampN L L.length) := by
  refine ⟨by rw [stampN_len]; omega, fun x hx => ?_⟩
  obtain ⟨i, hi, rfl⟩ := List.mem_map.1 hx
  have hi := List.mem_range.1 hi
  have hm : L.getD i z53 ∈ L := by
    rw [List.getD_eq_getElem?_getD, List.getElem?_eq_getElem hi]
    exact List.getElem_mem _
  obtain ⟨h1, h2, h3, h4⟩ := h _ hm
  simp only
  refine ⟨by omega, by omega, ⟨by omega, by omega⟩, ⟨by omega, by omega⟩, fun o ho => ?_⟩
  have := h4 o ho
  exact ⟨⟨by omega, by omega⟩, ⟨by omega, by omega⟩⟩
/-- Good, called: some answer; yes tells. -/
theorem c_good (x : Rec) (A4 A9 A10 : Option Addr) (c4 c9 c10 : Nat) (w : World) (l4 : x.f4.length ≤ c4) (g4 : k124.C w A4 x.f4.length x.f4) (l9 : x.f6.length ≤ c9) (g9 : kOpn.C w A9 x.f6.length x.f6) (l10 : x.f7.length ≤ c10) (g10 : k72.C w A10 x.f7.length x.f7) :
    ∃ b, (b = true → GoodR x) ∧ ∀ w1, Below w.heap.size w w1 → Calls Try.prog 29 #[.agg #[.int .i64 x.f0, .int .i64 x.f1, .int .i64 x.f2, .int .i64 x.f3, .slice A4 x.f4.length c4, .int .i64 x.f5.f0, .int .i64 x.f5.f1, .string x.f5.f2, .string x.f5.f3, .slice A9 x.f6.length c9, .slice A10 x.f7.length c10]] w1 fun e w' => e = .returned (.bool b) ∧ Below w1.heap.size w1 w' := by
  obtain ⟨b, hb, hP⟩ := good_ev x.f0 x.f1 x.f2 x.f3 x.f4 x.f5.f0 x.f5.f1 x.f5.f2 x.f5.f3 x.f6 x.f7
  obtain ⟨k, hk⟩ := hb.rounds
  exact ⟨b, hP, fun w1 hB => gaugerref06_Good.calls k _ _ _ _ A4 c4 _ _ _ _ _ A9 c9 _ A10 c10 _ b w1 (Kd.C_below g4 hB) l4 (Kd.C_below g9 hB) l9 (Kd.C_below g10 hB) l10 hk⟩

set_option maxRecDepth 100000 in
set_option maxHeartbeats 2000000 in
theorem l_MarkExact (L : List Rec) (A : Option Addr) (c : Nat) (w : World) (h : kRec.C w A L.length L) (hc : L.length ≤ c) (hm : L.length ≤ 9223372036854775807) :
    Calls Try.prog 5 #[.slice A L.length c] w fun e w' => e = .returned (.bool true) ∧ Below w.heap.size w w' := by
  have H0 := Lib.hid h
  have HC := Lib.hid hc
  clear h hc
  have hB : Hid (Below w.heap.size w w) := Below.refl _ _
  by_cases hl : 40 < (L.length : Int)
  · have hd : decide (40 < L.length) = true := decide_eq_true (by omega)
    go_enter Try.func5, Try.ntmps5
    go_wp2_with (go_at_call 28; refine (c_awake22 _).mono ?_; rintro e w1 ⟨rfl, hb⟩; have hB := Lib.hid (below_step hB.out hb); clear hb)
    go_ret
    exact ⟨rfl, hB.out⟩
  have hl40 : L.length ≤ 40 := by omega
  have hd : decide (40 < L.length) = false := decide_eq_false (by omega)
  have hd2 : decide (40 < (L.length : Int)) = false := decide_eq_false (by omega)
  clear hl
  go_enter Try.func5, Try.ntmps5
  go_wp2_with (go_at_call 28; refine (c_awake22 _).mono ?_; rintro e w1 ⟨rfl, hb⟩; have hB := Lib.hid (below_step hB.out hb); clear hb)
  go_loopw [3] (fun v wr => ∃ k : Nat, k ≤ L.length ∧ v = .int .i64 k ∧ Hid (∀ j, j < k → GoodR (recAt L j)) ∧ Hid (Below w.heap.size w wr)) (fun v _ => L.length - (intOf v).toNat)
  case atStart => exact ⟨0, by omega, rfl, Lib.hid (fun j hj => by omega), hB⟩
  case round =>
    obtain ⟨k, hk, rfl, HG, HB⟩ := hrel
    by_cases hlt : k < L.length
    · obtain ⟨ad, A4, c4, A9, c9, A10, c10, rfl, x0, x1, x2, x3, x4, x5, x6, x7, x8, x9, x10, l4, g4, l9, g9, l10, g10⟩ := at_T53 H0.out k (by omega) (by omega)
      simp only [Int.toNat_natCast] at x0 x1 x2 x3 x4 x5 x6 x7 x8 x9 x10
      obtain ⟨b, hb, hgood⟩ := c_good (rd_T53 L k) A4 A9 A10 c4 c9 c10 w l4 g4 l9 g9 l10 g10
      rw [rd_rec] at *
      have G9 := Lib.hid g9
      have Hgood := Lib.hid hgood
      have HGb := Lib.hid hb
      clear l4 g4 l9 g9 l10 g10 hgood hb
      have X9 := Lib.hid x9
      replace x0 := (HB.out.cell (World.block_lt_of_cell? w _ x0)).trans x0
      replace x1 := (HB.out.cell (World.block_lt_of_cell? w _ x1)).trans x1
      replace x2 := (HB.out.cell (World.block_lt_of_cell? w _ x2)).trans x2
      replace x3 := (HB.out.cell (World.block_lt_of_cell? w _ x3)).trans x3
      replace x4 := (HB.out.cell (World.block_lt_of_cell? w _ x4)).trans x4
      replace x5 := (HB.out.cell (World.block_lt_of_cell? w _ x5)).trans x5
      replace x6 := (HB.out.cell (World.block_lt_of_cell? w _ x6)).trans x6
      replace x7 := (HB.out.cell (World.block_lt_of_cell? w _ x7)).trans x7
      replace x8 := (HB.out.cell (World.block_lt_of_cell? w _ x8)).trans x8
      replace x9 := (HB.out.cell (World.block_lt_of_cell? w _ x9)).trans x9
      replace x10 := (HB.out.cell (World.block_lt_of_cell? w _ x10)).trans x10
      generalize hr : recAt L k = r at *
      have HR := Lib.hid hr
      clear hr
      cases b with
      | false =>
        go_wp2_with (go_at_call 29; refine (Hgood.out _ HB.out).mono ?_; rintro e w2 ⟨rfl, hb⟩; have hB := Lib.hid (below_step HB.out hb); clear hb)
        go_ret
        exact ⟨rfl, hB.out⟩
      | true =>
        have HP := Lib.hid (HGb.out rfl)
        go_wp2_with (go_at_call 29; refine (Hgood.out _ HB.out).mono ?_; rintro e w2 ⟨rfl, hb⟩; have hB := Lib.hid (below_step HB.out hb); clear hb x9)
        clear x0 x1 x2 x3 x4 x5 x6 x7 x8 x10
        have HK := Lib.hid hlt
        have H16 := Lib.hid HP.out.2.1
        go_loopw [4] (fun v wr2 => ∃ m : Nat, 1 ≤ m ∧ m ≤ 17 ∧ v = .int .i64 m ∧ Hid (Below w.heap.size w wr2)) (fun v _ => 18 - (intOf v).toNat)
        case atStart => exact ⟨1, by omega, by omega, rfl, hB⟩
        case round =>
          obtain ⟨m, hm1, hm17, rfl, HB2⟩ := hrel
          have x9 := (HB2.out.cell (World.block_lt_of_cell? w _ X9.out)).trans X9.out
          have W1 : wrap64 ((m : Int) + 1) = m + 1 := by unfold wrap64; omega
          by_cases hml : m < r.f6.length
          · obtain ⟨ad2, rfl, y0, y1⟩ := at_T55 G9.out m (by omega) (by omega)
            obtain ⟨ad3, he3, z0, z1⟩ := at_T55 G9.out ((m - 1 : Nat) : Int) (by omega) (by omega)
            injection he3 with he3
            subst he3
            simp only [Int.toNat_natCast] at y0 z0
            replace y0 := (HB2.out.cell (World.block_lt_of_cell? w _ y0)).trans y0
            replace z0 := (HB2.out.cell (World.block_lt_of_cell? w _ z0)).trans z0
            clear y1 z1
            generalize (rd_T55 r.f6 m).f0 = p at *
            generalize (rd_T55 r.f6 ((m - 1 : Nat) : Int)).f0 = q at *
            have e1 : ((m : Int) - 1).toNat = m - 1 := by omega
            have e2 : 0 ≤ (m : Int) - 1 := by omega
            have e3 : (m : Int) - 1 < (r.f6.length : Int) := by omega
            have e4 : IntKind.i64.wrap ((m : Int) - 1) = (m : Int) - 1 := IntWalk.i64_in _ (by omega)
            have e5 : wrap64 ((m : Int) - 1) = (m : Int) - 1 := by unfold wrap64; omega
            by_cases hpq : p ≤ q
            · have hd : decide (p ≤ q) = true := decide_eq_true hpq
              go_wp2
              go_quiet (fail)
              clear e1 e2 e3 e4 e5
              go_wp2
              go_ret
              exact ⟨rfl, pw_below_drewN HB2.out _⟩
            · have hd : decide (p ≤ q) = false := decide_eq_false hpq
              go_wp2
              go_quiet (fail)
              clear e1 e2 e3 e4 e5
              go_wp2
              go_roundw
              case rel =>
                try rw [W1]
                exact ⟨m + 1, by omega, by have := H16.out; omega, by rw [Int.natCast_succ], pw_below_drewN HB2.out _⟩
              case measure =>
                try rw [W1]
                show 18 - ((m : Int) + 1).toNat < 18 - (m : Int).toNat
                have := H16.out
                omega
          · have W2 : wrap64 ((k : Int) + 1) = k + 1 := by unfold wrap64; omega
            go_wp2
            go_roundw
            case rel =>
              try rw [W2]
              refine ⟨k + 1, HK.out, by rw [Int.natCast_succ], Lib.hid (fun j hj => ?_), HB2⟩
              rcases Nat.lt_or_ge j k with h1 | h1
              · exact HG.out j h1
              · obtain rfl : j = k := by omega
                rw [HR.out]
                exact HP.out
            case measure =>
              try rw [W2]
              show L.length - ((k : Int) + 1).toNat < L.length - (k : Int).toNat
              have := HK.out
              omega
    · have hkL : k = L.length := by omega
      subst hkL
      have HO := Lib.hid (okS_stamp L hl40 (fun x hx => by
        obtain ⟨i, hi, rfl⟩ := List.getElem_of_mem hx
        have := HG.out i hi
        unfold recAt at this
        rw [List.getD_eq_getElem?_getD, List.getElem?_eq_getElem hi] at this
        exact this))
      have H1 := Lib.hid (Kd.C_below H0.out HB.out)
      go_wp2_with fail
      refine (c_stamped L _ _ (by omega) _ H1.out HC.out).mono ?_
      rintro e w1 ⟨A1, c1, A2, c2, rfl, l1, l2, r1, r2, hb⟩
      have hB := Lib.hid (below_step HB.out hb)
      have L1 := Lib.hid l1; have L2 := Lib.hid l2; have R1 := Lib.hid r1; have R2 := Lib.hid r2
      clear hb l1 l2 r1 r2
      have eN : numsN L.length = stmL (stampN L L.length) := (stmL_stamp L L.length).symm
      have eL : recL (stampN L L.length) = L := recL_stamp L
      have eS : (stampN L L.length).length = L.length := stampN_len L L.length
      generalize stampN L L.length = S at *
      have EN := Lib.hid eN; have EL := Lib.hid eL; have ES := Lib.hid eS
      clear eN eL eS
      have c_rd : ∀ w1, Below w.heap.size w w1 → kStp.C w1 A1 L.length S → Calls Try.prog 32 #[.slice A1 L.length c1] w1 fun e w' => ∃ A1 c1 A2 c2, e = .returned (.agg #[.int .i64 (startS S (atS S)), .slice A1 (openN S S.length).length c1, .int .i64 (nextN S S.length), .slice A2 (commN S S.length).length c2]) ∧
          (openN S S.length).length ≤ c1 ∧ (commN S S.length).length ≤ c2 ∧ kOpn.C w' A1 (openN S S.length).length (openN S S.length) ∧ (Kd.int .i64).C w' A2 (commN S S.length).length (commN S S.length) ∧ Below w1.heap.size w1 w' := by
        intro w1 _ h
        rw [← ES.out] at h ⊢
        exact c_Read22 S A1 c1 HO.out w1 h (by rw [ES.out]; exact L1.out)
      have c_rr : ∀ w1, kRec.C w1 A L.length L → (Kd.int .i64).C w1 A2 L.length (numsN L.length) → Calls Try.prog 33 #[.slice A L.length c, .slice A2 L.length c2] w1 fun e w' => ∃ A1 c1 A2 c2, e = .returned (.agg #[.int .i64 (startS S (atS S)), .slice A1 (openN S S.length).length c1, .int .i64 (nextN S S.length), .slice A2 (commN S S.length).length c2]) ∧
          (openN S S.length).length ≤ c1 ∧ (commN S S.length).length ≤ c2 ∧ kOpn.C w' A1 (openN S S.length).length (openN S S.length) ∧ (Kd.int .i64).C w' A2 (commN S S.length).length (commN S S.length) ∧ Below w1.heap.size w1 w' := by
        intro w1 h h'
        rw [EN.out] at h'
        have h2 : kRec.C w1 A L.length (recL S) := by rw [EL.out]; exact h
        rw [← ES.out] at h' h2 ⊢
        exact c_RefRead22 S HO.out A A2 c c2 w1 h2 (by rw [ES.out]; exact HC.out) h' (by rw [ES.out]; exact L2.out)
      have CRD := Lib.hid c_rd
      have CRR := Lib.hid c_rr
      clear c_rd c_rr
      have hol : (openN S S.length).length ≤ 100000000 := openN_len' S HO.out
      have hcl : (commN S S.length).length ≤ 1000000 := by have := commN_len S S.length; have := HO.out.1; omega
      obtain ⟨ks, hks⟩ := (same_ev (startS S (atS S)) (startS S (atS S)) (nextN S S.length) (openN S S.length) (commN S S.length) hol hcl).rounds
      have KS := Lib.hid hks
      clear hks hol hcl
      generalize startS S (atS S) = st at *
      generalize openN S S.length = op at *
      generalize nextN S S.length = nx at *
      generalize commN S S.length = cm at *
      go_wp2_with fail
      refine (CRD.out _ hB.out R1.out).mono ?_
      rintro e w2 ⟨B1, d1, B2, d2, rfl, m1, m2, q1, q2, hb⟩
      have hB := Lib.hid (below_step hB.out hb)
      have R2 := Lib.hid (Kd.C_below R2.out hb)
      have M1 := Lib.hid m1; have M2 := Lib.hid m2; have Q1 := Lib.hid q1; have Q2 := Lib.hid q2
      clear hb m1 m2 q1 q2
      go_wp2_with fail
      refine (c_story _ _ _ _ _ _ _ _ _).mono ?_
      rintro e w3 ⟨rfl, hb⟩
      have hB := Lib.hid (below_alloc (below_step hB.out hb) (.cells #[.int .i64 st, .slice B1 op.length d1, .int .i64 nx, .slice B2 cm.length d2] 61))
      have ha : Below w2.heap.size w2 (w3.alloc (.cells #[.int .i64 st, .slice B1 op.length d1, .int .i64 nx, .slice B2 cm.length d2] 61)) := below_alloc hb _
      have R2 := Lib.hid (Kd.C_below R2.out ha)
      have Q1 := Lib.hid (Kd.C_below Q1.out ha)
      have Q2 := Lib.hid (Kd.C_below Q2.out ha)
      have k7 := heap_alloc_new w3 (.cells #[.int .i64 st, .slice B1 op.length d1, .int .i64 nx, .slice B2 cm.length d2] 61)
      go_wp2_with fail
      generalize w3.alloc (.cells #[.int .i64 st, .slice B1 op.length d1, .int .i64 nx, .slice B2 cm.length d2] 61) = W3 at *
      generalize w3.heap.size = g7 at *
      have K7 := Lib.hid k7
      clear k7 ha hb
      refine (CRR.out _ (Kd.C_below H0.out hB.out) R2.out).mono ?_
      rintro e w4 ⟨C1, f1, C2, f2, rfl, n1, n2, p1, p2, hb⟩
      have hB := Lib.hid (below_alloc (below_step hB.out hb) (.cells #[.int .i64 st, .slice C1 op.length f1, .int .i64 nx, .slice C2 cm.length f2] 61))
      have ha : Below W3.heap.size W3 (w4.alloc (.cells #[.int .i64 st, .slice C1 op.length f1, .int .i64 nx, .slice C2 cm.length f2] 61)) := below_alloc hb _
      have hb4 : Below w4.heap.size w4 (w4.alloc (.cells #[.int .i64 st, .slice C1 op.length f1, .int .i64 nx, .slice C2 cm.length f2] 61)) := below_alloc (Below.refl _ _) _
      have Q1 := Lib.hid (Kd.C_below Q1.out ha)
      have Q2 := Lib.hid (Kd.C_below Q2.out ha)
      have P1 := Lib.hid (Kd.C_below p1 hb4)
      have P2 := Lib.hid (Kd.C_below p2 hb4)
      have N1 := Lib.hid n1; have N2 := Lib.hid n2
      have k7 := blk_below K7.out ha
      clear ha hb hb4 n1 n2 p1 p2 K7
      have a0 := (blk_cell k7 0).trans rfl
      have a1 := (blk_cell k7 1).trans rfl
      have a2 := (blk_cell k7 2).trans rfl
      have a3 := (blk_cell k7 3).trans rfl
      clear k7
      go_wp2_with fail
      refine (gaugerref22_Same.calls ks st B1 d1 op nx B2 d2 cm st C1 f1 op nx C2 f2 cm true _ Q1.out M1.out Q2.out M2.out P1.out N1.out P2.out N2.out KS.out).mono ?_
      rintro e w5 ⟨rfl, hb⟩
      have hB := Lib.hid (below_step hB.out hb)
      clear hb
      go_wp2
      go_ret
      exact ⟨rfl, hB.out⟩
end Go.Proofs.Ytkcckhlchjmkkaa
