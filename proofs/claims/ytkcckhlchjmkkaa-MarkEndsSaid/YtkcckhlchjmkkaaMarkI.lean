/-
  LAYER 22: the law MarkEnds' walk.
-/
import Derived.Test.YtkcckhlchjmkkaaMarkF
import Derived.Test.YtkcckhlchjmkkaaMarkX
import Derived.Test.YtkcckhlchjmkkaaMarkH
import Derived.Outline
set_option linter.unusedVariables false
set_option linter.unusedSimpArgs false
namespace Go.Proofs.Ytkcckhlchjmkkaa
open Go.RowKit Go.Maps Go.Proofs.YtkcckhlchjmkkaaW.PrintWords Go.Proofs.YtkcckhlchjmkkaaW.PrintMore Go.Proofs.Ytkcckhlchjmkkaa.PMark

theorem infoRec : (Try.prog.info? 53).map (fun i => (i.zero, i.size, i.bytes)) = some (some (.agg #[.int .i64 0, .int .i64 0, .int .i64 0, .int .i64 0, .slice none 0 0, .int .i64 0, .int .i64 0, .string ByteArray.empty, .string ByteArray.empty, .slice none 0 0, .slice none 0 0]), 11, 152) := by kernel_rfl
theorem rc_mk (w : World) (k d : Int) : kRec.K w (rc k d) [.int .i64 k, .int .i64 d, .int .i64 0, .int .i64 0, .slice none 0 0, .int .i64 0, .int .i64 0, .string ⟨#[]⟩, .string ⟨#[]⟩, .slice none 0 0, .slice none 0 0] :=
  k53_mk w (A4 := none) (c4 := 0) (A9 := none) (c9 := 0) (A10 := none) (c10 := 0) (rc k d) (Nat.le_refl _) ⟨rfl, Nat.zero_le _, fun h => absurd h (Nat.lt_irrefl 0)⟩ (Nat.le_refl _) ⟨rfl, Nat.zero_le _, fun h => absurd h (Nat.lt_irrefl 0)⟩ (Nat.le_refl _) ⟨rfl, Nat.zero_le _, fun h => absurd h (Nat.lt_irrefl 0)⟩
def A5 (w : World) (g : Nat) (f : Nat → Int) : Prop := w.heap[g]? = some (.cells (arr5 f) 74 (0, 0))
theorem A5.cell {w : World} {g : Nat} {f : Nat → Int} (h : A5 w g f) (k : Nat) (hk : k < 5) : w.cell? ⟨g, k, none⟩ = some (.int .i64 (f k)) := (blk_cell h k).trans (arr5_get f k hk)
theorem A5.set {w : World} {g : Nat} {f : Nat → Int} (h : A5 w g f) (k : Nat) (hk : k < 5) (v : Int) : A5 (w.setCell ⟨g, k, none⟩ (.int .i64 v)) g (upd f k v) := by
  have := blk_set h k (.int .i64 v)
  rw [arr5_set f k hk v] at this
  exact this

set_option maxRecDepth 100000 in
set_option maxHeartbeats 2000000 in
theorem l_MarkEnds (ds es : List Int) (A A2 : Option Addr) (c cd : Nat) (w : World) (h : (Kd.int .i64).C w A ds.length ds) (hc : ds.length ≤ c) (hm : ds.length ≤ 9223372036854775807)
    (h2 : (Kd.int .i64).C w A2 es.length es) (hc2 : es.length ≤ cd) (hm2 : es.length ≤ 9223372036854775807) :
    Calls Try.prog 7 #[.slice A ds.length c, .slice A2 es.length cd] w fun e w' => e = .returned (.bool true) ∧ Below w.heap.size w w' := by
  have H0 := Lib.hid h
  have HC := Lib.hid hc
  have H2 := Lib.hid h2
  have HC2 := Lib.hid hc2
  clear h hc h2 hc2
  have hB : Hid (Below w.heap.size w w) := Below.refl _ _
  by_cases hl : 40 < (ds.length : Int)
  · have hd : decide (40 < ds.length) = true := decide_eq_true (by omega)
    have hd2 : decide (40 < (ds.length : Int)) = true := decide_eq_true (by omega)
    go_enter Try.func7, Try.ntmps7
    go_wp2_with (go_at_call 28; refine (c_awake22 _).mono ?_; rintro e w1 ⟨rfl, hb⟩; have hB := Lib.hid (below_step hB.out hb); clear hb)
    go_ret
    exact ⟨rfl, hB.out⟩
  have hl40 : ds.length ≤ 40 := by omega
  clear hl
  by_cases hl : 10 < (es.length : Int)
  · have hd : decide (40 < ds.length) = false := decide_eq_false (by omega)
    have hd2 : decide (40 < (ds.length : Int)) = false := decide_eq_false (by omega)
    have hd3 : decide (10 < es.length) = true := decide_eq_true (by omega)
    have hd4 : decide (10 < (es.length : Int)) = true := decide_eq_true (by omega)
    go_enter Try.func7, Try.ntmps7
    go_wp2_with (go_at_call 28; refine (c_awake22 _).mono ?_; rintro e w1 ⟨rfl, hb⟩; have hB := Lib.hid (below_step hB.out hb); clear hb)
    go_ret
    exact ⟨rfl, hB.out⟩
  have hl10 : es.length ≤ 10 := by omega
  clear hl
  have hd : decide (40 < ds.length) = false := decide_eq_false (by omega)
  have hd2 : decide (40 < (ds.length : Int)) = false := decide_eq_false (by omega)
  have hd3 : decide (10 < es.length) = false := decide_eq_false (by omega)
  have hd4 : decide (10 < (es.length : Int)) = false := decide_eq_false (by omega)
  go_enter Try.func7, Try.ntmps7
  go_wp2_with (go_at_call 28; refine (c_awake22 _).mono ?_; rintro e w1 ⟨rfl, hb⟩; have hB := Lib.hid (below_step hB.out hb); clear hb)
  have hsz : w.heap.size ≤ w1.heap.size := hB.out.size
  have k6 : A5 ((w1.alloc (.cells #[] 53)).alloc (.cells #[.int .i64 0, .int .i64 0, .int .i64 0, .int .i64 0, .int .i64 0] 74)) (w1.heap.size + 1) (fun _ => 0) := by
    have h := heap_alloc_new (w1.alloc (.cells #[] 53)) (.cells #[.int .i64 0, .int .i64 0, .int .i64 0, .int .i64 0, .int .i64 0] 74)
    have e : (w1.alloc (.cells #[] 53)).heap.size = w1.heap.size + 1 := by simp
    rw [e] at h
    exact h
  have r5 : (ro w kRec).R 53 ((w1.alloc (.cells #[] 53)).alloc (.cells #[.int .i64 0, .int .i64 0, .int .i64 0, .int .i64 0, .int .i64 0] 74)) w.heap.size (fun _ => True) (.slice (some ⟨w1.heap.size, 0, none⟩) 0 0) [] := Kd.R_alloc (R_empty _ _ w1 _ hsz) _
  have hB := Lib.hid (below_alloc (below_alloc hB.out (.cells #[] 53)) (.cells #[.int .i64 0, .int .i64 0, .int .i64 0, .int .i64 0, .int .i64 0] 74))
  have hg6 : w.heap.size ≤ w1.heap.size + 1 := by omega
  generalize (w1.alloc (.cells #[] 53)).alloc (.cells #[.int .i64 0, .int .i64 0, .int .i64 0, .int .i64 0, .int .i64 0] 74) = W0 at *
  generalize (Value.slice (some ⟨w1.heap.size, 0, none⟩) 0 0) = v50 at *
  generalize w1.heap.size + 1 = g6 at *
  have K6 := Lib.hid k6
  have R5 := Lib.hid r5
  have G6 := Lib.hid hg6
  clear k6 r5 hg6 hsz
  go_loopw [5, 7] (fun v5 v7 wr => ∃ i : Nat, i ≤ ds.length ∧ v7 = .int .i64 i ∧ ∃ (L : List Rec) (f : Nat → Int), Hid (L.length = i) ∧ Hid ((ro w kRec).R 53 wr w.heap.size (fun _ => True) v5 L) ∧ Hid (Tells L f 0) ∧ Hid (A5 wr g6 f) ∧ Hid (Below w.heap.size w wr)) (fun _ v _ => ds.length - (intOf v).toNat)
  case atStart => exact ⟨0, by omega, rfl, [], _, rfl, R5, tells_nil, K6, hB⟩
  case round =>
    obtain ⟨i, hi, rfl, L, f, HLL, HR, HT, HK, HB⟩ := hrel
    by_cases hlt : i < ds.length
    · obtain ⟨ad, rfl, y0⟩ := Kd.at_int H0.out i (by omega) (by omega)
      simp only [Int.toNat_natCast] at y0
      replace y0 := (HB.out.cell (World.block_lt_of_cell? w _ y0)).trans y0
      obtain ⟨hq, hk5⟩ := kOf_spec (rd ds i)
      have HTn := Lib.hid (tells_do HT.out (kOf (rd ds i)) hk5)
      generalize kOf (rd ds i) = k at *
      generalize rd ds i = x at *
      have b0 : 0 ≤ (k : Int) := by omega
      have b1 : (k : Int) < 5 := by omega
      have z0 := HK.out.cell k hk5
      have z1 := blk_frozen HK.out k
      have HK' := Lib.hid (HK.out.set k hk5 (1 + 10 * (i : Int)))
      have HR' := Lib.hid (Kd.R_set HR.out HK.out (by simp [ro]) k (.int .i64 (1 + 10 * (i : Int))))
      have hB := Lib.hid (below_set (j := k) (v := .int .i64 (1 + 10 * (i : Int))) HB.out G6.out)
      obtain ⟨Al, cl, rfl⟩ := Kd.R_slice HR.out
      rw [HLL.out] at HTn
      have W1 : wrap64 ((i : Int) + 1) = i + 1 := by unfold wrap64; omega
      have HLT := Lib.hid hlt
      have HLE := HLL.out
      have hr' := HR'.out
      rw [HLE] at hr' ⊢
      have HR' := Lib.hid hr'
      have HLE := Lib.hid HLE
      clear hr'
      go_wp2_with (first
        | (at_builtin; refine Kd.R_append (ro w kRec) (w0 := w) w.heap.size rfl (.tmp 48) (.tmp 52) 45 53 _ 152 rfl Try.underlying45 infoRec rfl (show 0 < 11 by decide) (by omega) (.slice Al i cl) L (rc 1 ((k : Int) + 1)) _ (fun _ => True) (fun _ => False) rfl (by have e : (wr.setCell ⟨g6, k, none⟩ (.int .i64 (1 + 10 * (i : Int)))).heap.size = wr.heap.size := (by simp); rw [e]; rfl) (rc_mk w _ _) (fun _ hk => hk.elim) (fun _ _ => trivial) HR'.out hB.out hB.out.size (by rw [HLE.out]; omega) ?_; intro v1 w3 ho hb hg hat; have HN := Lib.hid ho; have K7 : Hid (A5 w3 g6 (upd f k (1 + 10 * (i : Int)))) := blk_grown HK'.out hg (Kd.R_ne HR'.out HK'.out (by decide)); have HB3 := Lib.hid hb; clear ho hb hg hat))
      go_roundw
      case rel =>
        try rw [W1]
        exact ⟨i + 1, HLT.out, by rw [Int.natCast_succ], _, _, Lib.hid (by rw [List.length_append, HLE.out]; rfl), HN, HTn, K7, HB3⟩
      case measure =>
        try rw [W1]
        show ds.length - ((i : Int) + 1).toNat < ds.length - (i : Int).toNat
        have := HLT.out
        omega
    · have hil : i = ds.length := by omega
      subst hil
      clear hlt
      go_wp2
      rw [show (0 : Nat) = (0 + 1) / 2 from rfl] at HT
      go_loopw [5, 9] (fun v5 v9 wr2 => ∃ i : Nat, i ≤ es.length ∧ v9 = .int .i64 i ∧ ∃ (L : List Rec) (f : Nat → Int), Hid (L.length = ds.length + i) ∧ Hid ((ro w kRec).R 53 wr2 w.heap.size (fun _ => True) v5 L) ∧ Hid (Tells L f ((i + 1) / 2)) ∧ Hid (A5 wr2 g6 f) ∧ Hid (Below w.heap.size w wr2)) (fun _ v _ => es.length - (intOf v).toNat)
      case atStart => exact ⟨0, by omega, rfl, L, f, HLL, HR, HT, HK, HB⟩
      case round =>
        obtain ⟨i, hi, rfl, L2, f2, HLE, HR2, HT2, HK2, HB2⟩ := hrel
        clear HLL HR HT HK HB
        by_cases hlt : i < es.length
        · obtain ⟨ad, rfl, y0⟩ := Kd.at_int H2.out i (by omega) (by omega)
          simp only [Int.toNat_natCast] at y0
          replace y0 := (HB2.out.cell (World.block_lt_of_cell? w _ y0)).trans y0
          obtain ⟨hq, hk5⟩ := kOf_spec (rd es i)
          generalize kOf (rd es i) = k at *
          generalize rd es i = x at *
          have b0 : 0 ≤ (k : Int) := by omega
          have b1 : (k : Int) < 5 := by omega
          have z0 := HK2.out.cell k hk5
          have z1 := blk_frozen HK2.out k
          have HK' := Lib.hid (HK2.out.set k hk5 0)
          have HR' := Lib.hid (Kd.R_set HR2.out HK2.out (by simp [ro]) k (.int .i64 0))
          have hB := Lib.hid (below_set (j := k) (v := .int .i64 0) HB2.out G6.out)
          obtain ⟨Al, cl, rfl⟩ := Kd.R_slice HR2.out
          have W1 : wrap64 ((i : Int) + 1) = i + 1 := by unfold wrap64; omega
          have HLT := Lib.hid hlt
          by_cases hp : i % 2 = 1
          · have hd5 : (((i : Int) % 2) == 1) = true := by rw [beq_iff_eq]; omega
            have HP := Lib.hid hp
            clear hp
            have HTn := Lib.hid (tells_end HT2.out k hk5 4 (by omega))
            go_wp2_with (first
              | (at_builtin; refine Kd.R_append (ro w kRec) (w0 := w) w.heap.size rfl (.tmp 72) (.tmp 77) 45 53 _ 152 rfl Try.underlying45 infoRec rfl (show 0 < 11 by decide) (by omega) (.slice Al L2.length cl) L2 (rc 4 ((k : Int) + 1)) _ (fun _ => True) (fun _ => False) rfl (by have e : (wr.setCell ⟨g6, k, none⟩ (.int .i64 0)).heap.size = wr.heap.size := (by simp); rw [e]; rfl) (rc_mk w _ _) (fun _ hk => hk.elim) (fun _ _ => trivial) HR'.out hB.out hB.out.size (by rw [HLE.out]; omega) ?_; intro v1 w3 ho hb hg hat; have HN := Lib.hid ho; have K7 : Hid (A5 w3 g6 (upd f2 k 0)) := blk_grown HK'.out hg (Kd.R_ne HR'.out HK'.out (by decide)); have HB3 := Lib.hid hb; clear ho hb hg hat))
            go_roundw
            case rel =>
              try rw [W1]
              refine ⟨i + 1, HLT.out, by rw [Int.natCast_succ], _, _, Lib.hid (by rw [List.length_append, HLE.out]; rfl), HN, ?_, K7, HB3⟩
              have := HTn.out
              rw [show (i + 1) / 2 + (if (4 : Int) = 3 then 1 else 0) = (i + 1 + 1) / 2 from by simp; have := HP.out; omega] at this
              exact Lib.hid this
            case measure =>
              try rw [W1]
              show es.length - ((i : Int) + 1).toNat < es.length - (i : Int).toNat
              have := HLT.out
              omega
          · have hd5 : (((i : Int) % 2) == 1) = false := by rw [beq_eq_false_iff_ne]; omega
            have HP := Lib.hid hp
            clear hp
            have HTn := Lib.hid (tells_end HT2.out k hk5 3 (by omega))
            go_wp2_with (first
              | (at_builtin; refine Kd.R_append (ro w kRec) (w0 := w) w.heap.size rfl (.tmp 72) (.tmp 77) 45 53 _ 152 rfl Try.underlying45 infoRec rfl (show 0 < 11 by decide) (by omega) (.slice Al L2.length cl) L2 (rc 3 ((k : Int) + 1)) _ (fun _ => True) (fun _ => False) rfl (by have e : (wr.setCell ⟨g6, k, none⟩ (.int .i64 0)).heap.size = wr.heap.size := (by simp); rw [e]; rfl) (rc_mk w _ _) (fun _ hk => hk.elim) (fun _ _ => trivial) HR'.out hB.out hB.out.size (by rw [HLE.out]; omega) ?_; intro v1 w3 ho hb hg hat; have HN := Lib.hid ho; have K7 : Hid (A5 w3 g6 (upd f2 k 0)) := blk_grown HK'.out hg (Kd.R_ne HR'.out HK'.out (by decide)); have HB3 := Lib.hid hb; clear ho hb hg hat))
            go_roundw
            case rel =>
              try rw [W1]
              refine ⟨i + 1, HLT.out, by rw [Int.natCast_succ], _, _, Lib.hid (by rw [List.length_append, HLE.out]; rfl), HN, ?_, K7, HB3⟩
              have := HTn.out
              rw [show (i + 1) / 2 + (if (3 : Int) = 3 then 1 else 0) = (i + 1 + 1) / 2 from by simp; have := HP.out; omega] at this
              exact Lib.hid this
            case measure =>
              try rw [W1]
              show es.length - ((i : Int) + 1).toNat < es.length - (i : Int).toNat
              have := HLT.out
              omega
        · have hil : i = es.length := by omega
          subst hil
          clear hlt
          obtain ⟨Al, cl, rfl, el, rl⟩ := Kd.R_reads HR2.out
          have RL := Lib.hid (ro_C rl HB2.out)
          have EL := Lib.hid el
          have hl50 : L2.length ≤ 50 := by have := HLE.out; omega
          obtain ⟨hok, hk6⟩ := tells_ok HT2.out hl50
          have hop := openN_none (stampN L2 L2.length) hk6
          rw [HT2.out.1] at hop
          have hcm := HT2.out.2.1
          rw [← stampN_len L2 L2.length] at hcm
          rw [stampN_len L2 L2.length] at hcm
          have cRd : ∀ w1 A1 c1, L2.length ≤ c1 → kStp.C w1 A1 L2.length (stampN L2 L2.length) → Calls Try.prog 32 #[.slice A1 L2.length c1] w1 fun e w' => ∃ s A3 c3 nx A4 c4, e = .returned (.agg #[.int .i64 s, .slice A3 (openF f2).length c3, .int .i64 nx, .slice A4 ((es.length + 1) / 2) c4]) ∧ kOpn.C w' A3 (openF f2).length (openF f2) ∧ Below w1.heap.size w1 w' := by
            intro w1 A1 c1 hc h
            have := c_Read22 (stampN L2 L2.length) A1 c1 hok w1 (by rw [stampN_len]; exact h) (by rw [stampN_len]; exact hc)
            rw [hop] at this
            rw [stampN_len, hcm] at this
            refine this.mono ?_
            rintro e w' ⟨A3, c3, A4, c4, rfl, m1, m2, q1, q2, hb⟩
            exact ⟨_, A3, c3, _, A4, c4, rfl, q1, hb⟩
          have CRD := Lib.hid cRd
          clear cRd hop hcm hok hk6 rl el
          go_wp2_with fail
          refine (c_stamped L2 Al cl (by omega) _ RL.out EL.out).mono ?_
          rintro e w4 ⟨A1, c1, A3, c3, rfl, l1, l2, r1, r2, hb⟩
          have HB4 := Lib.hid (below_step HB2.out hb)
          have K4 : Hid (A5 w4 g6 f2) := blk_below HK2.out hb
          have R1 := Lib.hid r1; have L1 := Lib.hid l1
          clear hb r1 r2 l1 l2
          go_wp2_with fail
          refine (CRD.out _ _ _ L1.out R1.out).mono ?_
          rintro e w5 ⟨s1, A5', c5, nx, A6, c6, rfl, q1, hb⟩
          have HB5 := Lib.hid (below_alloc (below_step HB4.out hb) (.cells #[.int .i64 s1, .slice A5' (openF f2).length c5, .int .i64 nx, .slice A6 ((es.length + 1) / 2) c6] 63))
          have hb5 : Below w5.heap.size w5 (w5.alloc (.cells #[.int .i64 s1, .slice A5' (openF f2).length c5, .int .i64 nx, .slice A6 ((es.length + 1) / 2) c6] 63)) := below_alloc (Below.refl _ _) _
          have K5 : Hid (A5 (w5.alloc (.cells #[.int .i64 s1, .slice A5' (openF f2).length c5, .int .i64 nx, .slice A6 ((es.length + 1) / 2) c6] 63)) g6 f2) := blk_below (blk_below K4.out hb) hb5
          have Q1 := Lib.hid (Kd.C_below q1 hb5)
          have k14 := heap_alloc_new w5 (.cells #[.int .i64 s1, .slice A5' (openF f2).length c5, .int .i64 nx, .slice A6 ((es.length + 1) / 2) c6] 63)
          clear hb hb5 q1
          go_wp2_with fail
          generalize w5.alloc (.cells #[.int .i64 s1, .slice A5' (openF f2).length c5, .int .i64 nx, .slice A6 ((es.length + 1) / 2) c6] 63) = WA at *
          generalize w5.heap.size = g14 at *
          have K14 := Lib.hid k14
          clear k14
          go_loopw [15, 16] (fun v15 v16 wr3 => ∃ k : Nat, k ≤ 5 ∧ v16 = .int .i64 k ∧ v15 = .int .i64 (cnt f2 k : Int) ∧ Hid (wr3.heap[g14]? = some (.cells #[.int .i64 s1, .slice A5' (openF f2).length c5, .int .i64 nx, .slice A6 ((es.length + 1) / 2) c6] 63 (0, 0))) ∧ Hid (A5 wr3 g6 f2) ∧ Hid (kOpn.C wr3 A5' (openF f2).length (openF f2)) ∧ Hid (Below w.heap.size w wr3)) (fun _ v _ => 5 - (intOf v).toNat)
          case atStart => exact ⟨0, by omega, rfl, rfl, K14, K5, Q1, HB5⟩
          case round =>
            obtain ⟨k, hk, rfl, rfl, K14, K5, Q1, HB5⟩ := hrel
            have hc5 : cnt f2 k ≤ 5 := by
              have : ∀ n, cnt f2 n ≤ n := fun n => by induction n with
                | zero => exact Nat.le_refl _
                | succ n ih => unfold cnt; split <;> omega
              have := this k
              omega
            have W1 : wrap64 ((k : Int) + 1) = k + 1 := by unfold wrap64; omega
            have W2 : wrap64 ((cnt f2 k : Int) + 1) = cnt f2 k + 1 := by unfold wrap64; omega
            have a1 : wr.cell? ⟨g14, 1, none⟩ = some (.slice A5' (openF f2).length c5) := (blk_cell K14.out 1).trans rfl
            have a3 : wr.cell? ⟨g14, 3, none⟩ = some (.slice A6 ((es.length + 1) / 2) c6) := (blk_cell K14.out 3).trans rfl
            by_cases hlt : k < 5
            · have z0 := K5.out.cell k hlt
              have hcs : cnt f2 (k + 1) = cnt f2 k + if f2 k = 0 then 0 else 1 := rfl
              have b0 : 0 ≤ (k : Int) := by omega
              have b1 : (k : Int) < 5 := by omega
              have HLT := Lib.hid hlt
              by_cases hf : f2 k = 0
              · have hd5 : (f2 k == 0) = true := by rw [beq_iff_eq]; exact hf
                rw [if_pos hf] at hcs
                have HCS := Lib.hid hcs
                clear hf hcs
                go_wp2
                go_roundw
                case rel =>
                  try rw [W1]
                  exact ⟨k + 1, HLT.out, by rw [Int.natCast_succ], by rw [HCS.out]; rfl, K14, K5, Q1, HB5⟩
                case measure =>
                  try rw [W1]
                  show 5 - ((k : Int) + 1).toNat < 5 - (k : Int).toNat
                  omega
              · have hd5 : (f2 k == 0) = false := by rw [beq_eq_false_iff_ne]; exact hf
                rw [if_neg hf] at hcs
                obtain ⟨hcl, hce⟩ := cnt_at f2 k hlt hf
                obtain ⟨ad, rfl, y0, y1⟩ := at_T55 Q1.out (cnt f2 k) (by omega) (by omega)
                rw [rd_opn, hce] at y0 y1
                simp only [Int.toNat_natCast] at y0 y1
                have HCS := Lib.hid hcs
                clear hf hcs hce
                have hdl : decide ((openF f2).length ≤ cnt f2 k) = false := decide_eq_false (by omega)
                have hdl2 : decide (((openF f2).length : Int) ≤ (cnt f2 k : Int)) = false := decide_eq_false (by omega)
                have d0 : 0 ≤ (cnt f2 k : Int) := by omega
                have d1 : (cnt f2 k : Int) < ((openF f2).length : Int) := by omega
                have e4 : IntKind.i64.wrap ((k : Int) + 1) = (k : Int) + 1 := IntWalk.i64_in _ (by omega)
                generalize cnt f2 k = n at *
                go_wp2
                go_quiet (fail)
                clear e4
                go_wp2
                go_roundw
                case rel =>
                  try rw [W1]
                  exact ⟨k + 1, HLT.out, by rw [Int.natCast_succ], by rw [HCS.out, Int.natCast_succ], Lib.hid (blk_drewN K14.out _), Lib.hid (blk_drewN K5.out _), Lib.hid (Kd.C_below Q1.out (pw_below_drewN (Below.refl _ _) _)), Lib.hid (pw_below_drewN HB5.out _)⟩
                case measure =>
                  try rw [W1]
                  show 5 - ((k : Int) + 1).toNat < 5 - (k : Int).toNat
                  omega
            · have hk5 : k = 5 := by omega
              subst hk5
              have hcA := cnt_all f2
              rw [hcA] at hc5 W2 ⊢
              clear hcA
              go_wp2
              go_ret
              exact ⟨rfl, HB5.out⟩
end Go.Proofs.Ytkcckhlchjmkkaa
