/-
  LAYER 22: the law MarkSame's walk.
-/
import Derived.Test.YtkcckhlchjmkkaaMarkF
import Derived.Test.YtkcckhlchjmkkaaMarkY
import Derived.Outline
set_option linter.unusedVariables false
set_option linter.unusedSimpArgs false
namespace Go.Proofs.Ytkcckhlchjmkkaa
open Go.RowKit Go.Maps Go.Proofs.YtkcckhlchjmkkaaW.PrintWords Go.Proofs.YtkcckhlchjmkkaaW.PrintMore Go.Proofs.Ytkcckhlchjmkkaa.PMark

theorem ro_ok {α : Type} {W0 : World} {d : Kd α} {e : Nat} {W : World} {base : Nat} {ok ok' : Nat → Prop} {v : Value} {xs : List α} (h : (ro W0 d).R e W base ok v xs) (hk : ∀ k, v.ownBlock = some k → ok' k) : (ro W0 d).R e W base ok' v xs := ⟨hk, h.2⟩
theorem ro_C' {α : Type} {W0 w : World} {d : Kd α} {A : Option Addr} {n : Nat} {xs : List α} (h : d.C W0 A n xs) (hb : Below W0.heap.size W0 w) : ReadsRow (fun x cs => d.K W0 x cs) d.sz w A n xs := by
  refine ⟨h.1, h.2.1, fun h0 => ?_⟩
  obtain ⟨ad, rfl, hc⟩ := h.2.2 h0
  refine ⟨ad, rfl, fun j p hp => ?_⟩
  obtain ⟨c, h1, h2, h3⟩ := hc j p hp
  exact ⟨c, h1, h2, fun i u hu => (hb.cell (World.block_lt_of_cell? _ _ (h3 i u hu))).trans (h3 i u hu)⟩
/-- Two values that own different blocks. -/
def Apart (v u : Value) : Prop := ∀ k, v.ownBlock = some k → u.ownBlock ≠ some k
theorem Apart.symm {v u : Value} (h : Apart v u) : Apart u v := fun k h1 h2 => h k h2 h1
theorem ro_two {α : Type} {W0 : World} {d : Kd α} {e : Nat} {W w1 : World} {base : Nat} {v v1 u : Value} {xs ys : List α} (hv : (ro W0 d).R e W base (fun _ => True) v xs) (hu : (ro W0 d).R e W base (fun _ => True) u ys) (ha : Apart v u) (hg : W.grownBy w1 v.ownBlock)
    (hat : v1.ownBlock = v.ownBlock ∨ ∃ b, v1.ownBlock = some b ∧ W.heap.size ≤ b) : (ro W0 d).R e w1 base (fun _ => True) u ys ∧ Apart v1 u := by
  refine ⟨?_, fun k h1 h2 => ?_⟩
  · refine Kd.R_mono (Kd.R_grown (ro_ok hu (ok' := fun k => v.ownBlock ≠ some k) (fun k h1 h2 => ha k h2 h1)) hg ?_) (fun _ _ => trivial)
    intro k hk hk'
    exact hk hk'.symm
  · rcases hat with h | ⟨b, h, hb⟩
    · exact ha k (h ▸ h1) h2
    · rw [h] at h1
      injection h1 with h1
      subst h1
      obtain ⟨inner, hin⟩ := Kd.R_own hu
      obtain ⟨cs, hc⟩ := own_typed hin b h2
      have := blk_lt hc
      omega
set_option maxRecDepth 100000 in
set_option maxHeartbeats 2000000 in
theorem l_MarkSame (L : List Rec) (D : List Dty) (A A2 : Option Addr) (c cd : Nat) (at' : Int) (w : World) (h : kRec.C w A L.length L) (hc : L.length ≤ c) (hm : L.length ≤ 9223372036854775807)
    (h2 : k72.C w A2 D.length D) (hc2 : D.length ≤ cd) (hm2 : D.length ≤ 9223372036854775807) (hat : -9223372036854775808 ≤ at' ∧ at' ≤ 9223372036854775807) :
    Calls Try.prog 6 #[.slice A L.length c, .int .i64 at', .slice A2 D.length cd] w fun e w' => e = .returned (.bool true) ∧ Below w.heap.size w w' := by
  have H0 := Lib.hid h
  have HC := Lib.hid hc
  have H2 := Lib.hid h2
  have HC2 := Lib.hid hc2
  have HAT := Lib.hid hat
  clear h hc h2 hc2 hat
  have hB : Hid (Below w.heap.size w w) := Below.refl _ _
  by_cases hl : 40 < (L.length : Int)
  · have hd : decide (40 < L.length) = true := decide_eq_true (by omega)
    have hd2 : decide (40 < (L.length : Int)) = true := decide_eq_true (by omega)
    go_enter Try.func6, Try.ntmps6
    go_wp2_with (go_at_call 28; refine (c_awake22 _).mono ?_; rintro e w1 ⟨rfl, hb⟩; have hB := Lib.hid (below_step hB.out hb); clear hb)
    go_ret
    exact ⟨rfl, hB.out⟩
  have hl40 : L.length ≤ 40 := by omega
  clear hl
  by_cases hl : 20 < (D.length : Int)
  · have hd : decide (40 < L.length) = false := decide_eq_false (by omega)
    have hd2 : decide (40 < (L.length : Int)) = false := decide_eq_false (by omega)
    have hd3 : decide (20 < D.length) = true := decide_eq_true (by omega)
    have hd4 : decide (20 < (D.length : Int)) = true := decide_eq_true (by omega)
    go_enter Try.func6, Try.ntmps6
    go_wp2_with (go_at_call 28; refine (c_awake22 _).mono ?_; rintro e w1 ⟨rfl, hb⟩; have hB := Lib.hid (below_step hB.out hb); clear hb)
    go_ret
    exact ⟨rfl, hB.out⟩
  have hl20 : D.length ≤ 20 := by omega
  clear hl
  have hd : decide (40 < L.length) = false := decide_eq_false (by omega)
  have hd2 : decide (40 < (L.length : Int)) = false := decide_eq_false (by omega)
  have hd3 : decide (20 < D.length) = false := decide_eq_false (by omega)
  have hd4 : decide (20 < (D.length : Int)) = false := decide_eq_false (by omega)
  go_enter Try.func6, Try.ntmps6
  go_wp2_with (go_at_call 28; refine (c_awake22 _).mono ?_; rintro e w1 ⟨rfl, hb⟩; have hB := Lib.hid (below_step hB.out hb); clear hb)
  obtain ⟨kk, hkk, hkl⟩ : ∃ kk : Nat, wrap64 ((IntKind.u64.wrap at').tmod (↑L.length + 1)) = (kk : Int) ∧ kk ≤ L.length := pick_k at' L.length (by omega)
  rw [hkk]
  have HKK := Lib.hid hkk
  have HKL := Lib.hid hkl
  clear hkk hkl
  go_loopw [8, 9, 10] (fun v8 v9 v10 wr => ∃ n : Nat, n ≤ L.length ∧ v10 = .int .i64 n ∧ Hid ((ro w kStp).R 70 wr w.heap.size (fun _ => True) v8 (stampB L n)) ∧ Hid ((ro w kStp).R 70 wr w.heap.size (fun _ => True) v9 (stampB L (min n kk))) ∧ Hid (Apart v8 v9) ∧ Hid (∀ j, j < n → GoodR (recAt L j) ∧ (recAt L j).f0 ≠ 6) ∧ Hid (Below w.heap.size w wr)) (fun _ _ v _ => L.length - (intOf v).toNat)
  case atStart =>
    have hsz : w.heap.size ≤ w1.heap.size := hB.out.size
    refine ⟨0, by omega, rfl, ?_, ?_, Lib.hid (fun k h1 h2 => ?_), Lib.hid (fun j hj => by omega), below_alloc (below_alloc hB.out _) _⟩
    · exact Kd.R_alloc (R_empty _ _ w1 _ hsz) _
    · have h := R_empty (ro w kStp) 70 (w1.alloc (.cells #[] 70)) w.heap.size (by simp; omega)
      have e : (w1.alloc (.cells #[] 70)).heap.size = w1.heap.size + 1 := by simp
      rw [e] at h
      rw [show min 0 kk = 0 from by omega]
      exact h
    · simp [Value.ownBlock] at h1 h2
      omega
  case round =>
    obtain ⟨n, hn, rfl, HR8, HR9, HAP, HG, HB⟩ := hrel
    by_cases hlt : n < L.length
    · obtain ⟨ad, A4, c4, A9, c9, A10, c10, rfl, x0, x1, x2, x3, x4, x5, x6, x7, x8, x9, x10, l4, g4, l9, g9, l10, g10⟩ := at_T53 H0.out n (by omega) (by omega)
      simp only [Int.toNat_natCast] at x0 x1 x2 x3 x4 x5 x6 x7 x8 x9 x10
      rw [rd_rec] at x0 x1 x2 x3 x4 x5 x6 x7 x8 x9 x10 l4 g4 l9 g9 l10 g10
      obtain ⟨b, hb, hgood⟩ := c_good (recAt L n) A4 A9 A10 c4 c9 c10 w l4 g4 l9 g9 l10 g10
      have hm := k70_mk w ⟨11 + 10 * (n : Int), recAt L n⟩ l4 g4 l9 g9 l10 g10
      have HM := Lib.hid hm
      have Hgood := Lib.hid hgood
      have HGb := Lib.hid hb
      clear l4 g4 l9 g9 l10 g10 hgood hb hm
      replace x0 := (HB.out.cell (World.block_lt_of_cell? w _ x0)).trans x0
      replace x1 := (HB.out.cell (World.block_lt_of_cell? w _ x1)).trans x1
      replace x2 := (HB.out.cell (World.block_lt_of_cell? w _ x2)).trans x2
      replace x3 := (HB.out.cell (World.block_lt_of_cell? w _ x3)).trans x3
      replace x4 := (HB.out.cell (World.block_lt_of_cell? w _ x4)).trans x4
      replace x5 := (HB.out.cell (World.block_lt_of_cell? w _ x5)).trans x5
      replace x6 := (HB.out.cell (World.block_lt_of_cell? w _ x6)).trans x6
      replace x7 := (HB.out.cell (World.block_lt_of_cell? w _ x7)).trans x7
      replace x8 := (HB.out.cell (World.block_lt_of_cell? w _ x8)).trans x8
      replace x9 := (HB.out.cell (World.block_lt_of_cell? w _ x9)).trans x9
      replace x10 := (HB.out.cell (World.block_lt_of_cell? w _ x10)).trans x10
      have hs8 := stampB_snoc L n
      generalize hr : recAt L n = r at *
      have HR := Lib.hid hr
      have HS8 := Lib.hid hs8
      clear hr hs8
      cases b with
      | false =>
        go_wp2_with (go_at_call 29; refine (Hgood.out _ HB.out).mono ?_; rintro e w2 ⟨rfl, hb⟩; have hB := Lib.hid (below_step HB.out hb); clear hb)
        go_ret
        exact ⟨rfl, hB.out⟩
      | true =>
        have HP := Lib.hid (HGb.out rfl)
        by_cases h6 : r.f0 = 6
        · have hd6 : (r.f0 == 6) = true := by simpa using h6
          clear h6
          go_wp2_with (go_at_call 29; refine (Hgood.out _ HB.out).mono ?_; rintro e w2 ⟨rfl, hb⟩; have hB := Lib.hid (below_step HB.out hb); have x0 := pw_cell_below hb x0; clear hb)
          go_ret
          exact ⟨rfl, hB.out⟩
        have hd6 : (r.f0 == 6) = false := by simpa using h6
        have H6 := Lib.hid h6
        clear h6
        have W1 : wrap64 (10 * (n : Int)) = 10 * n := by unfold wrap64; omega
        have W2 : wrap64 (11 + 10 * (n : Int)) = 11 + 10 * n := by unfold wrap64; omega
        have W3 : wrap64 ((n : Int) + 1) = n + 1 := by unfold wrap64; omega
        have HLT := Lib.hid hlt
        by_cases hnk : n < kk
        · have hdk : decide (n < kk) = true := decide_eq_true hnk
          have hdk2 : decide ((n : Int) < (kk : Int)) = true := decide_eq_true (by omega)
          have HNK := Lib.hid hnk
          clear hnk
          go_wp2_with (first
            | (go_at_call 29; refine (Hgood.out _ HB.out).mono ?_; rintro e w2 ⟨rfl, hb⟩; have hB := Lib.hid (below_step HB.out hb); have R8 := Lib.hid (Kd.R_below HR8.out hb); have R9 := Lib.hid (Kd.R_below HR9.out hb); have x0 := pw_cell_below hb x0; have x1 := pw_cell_below hb x1; have x2 := pw_cell_below hb x2; have x3 := pw_cell_below hb x3; have x4 := pw_cell_below hb x4; have x5 := pw_cell_below hb x5; have x6 := pw_cell_below hb x6; have x7 := pw_cell_below hb x7; have x8 := pw_cell_below hb x8; have x9 := pw_cell_below hb x9; have x10 := pw_cell_below hb x10; clear hb)
            | (at_builtin; refine Kd.R_append (ro w kStp) (w0 := w) w.heap.size rfl (.tmp 66) (.tmp 68) 56 70 _ 160 rfl Try.underlying56 infoStp rfl (show 0 < 12 by decide) (by omega) u8 (stampB L n) ⟨11 + 10 * (n : Int), r⟩ _ (fun _ => True) (fun _ => False) rfl (by have e : (w2.alloc (.cells #[.int .i64 (11 + 10 * (n : Int)), .int .i64 r.f0, .int .i64 r.f1, .int .i64 r.f2, .int .i64 r.f3, .slice A4 r.f4.length c4, .int .i64 r.f5.f0, .int .i64 r.f5.f1, .string r.f5.f2, .string r.f5.f3, .slice A9 r.f6.length c9, .slice A10 r.f7.length c10] 70)).heap.size = w2.heap.size + 1 := (by simp); rw [e]; rfl) HM.out (fun _ hk => hk.elim) (fun _ _ => trivial) (Kd.R_alloc R8.out (.cells #[.int .i64 (11 + 10 * (n : Int)), .int .i64 r.f0, .int .i64 r.f1, .int .i64 r.f2, .int .i64 r.f3, .slice A4 r.f4.length c4, .int .i64 r.f5.f0, .int .i64 r.f5.f1, .string r.f5.f2, .string r.f5.f3, .slice A9 r.f6.length c9, .slice A10 r.f7.length c10] 70)) (below_alloc hB.out (.cells #[.int .i64 (11 + 10 * (n : Int)), .int .i64 r.f0, .int .i64 r.f1, .int .i64 r.f2, .int .i64 r.f3, .slice A4 r.f4.length c4, .int .i64 r.f5.f0, .int .i64 r.f5.f1, .string r.f5.f2, .string r.f5.f3, .slice A9 r.f6.length c9, .slice A10 r.f7.length c10] 70)) (below_alloc hB.out (.cells #[.int .i64 (11 + 10 * (n : Int)), .int .i64 r.f0, .int .i64 r.f1, .int .i64 r.f2, .int .i64 r.f3, .slice A4 r.f4.length c4, .int .i64 r.f5.f0, .int .i64 r.f5.f1, .string r.f5.f2, .string r.f5.f3, .slice A9 r.f6.length c9, .slice A10 r.f7.length c10] 70)).size (by rw [stampB_len]; omega) ?_; intro v1 w3 ho hb hg hat; have hh := ro_two (Kd.R_alloc R8.out (.cells #[.int .i64 (11 + 10 * (n : Int)), .int .i64 r.f0, .int .i64 r.f1, .int .i64 r.f2, .int .i64 r.f3, .slice A4 r.f4.length c4, .int .i64 r.f5.f0, .int .i64 r.f5.f1, .string r.f5.f2, .string r.f5.f3, .slice A9 r.f6.length c9, .slice A10 r.f7.length c10] 70)) (Kd.R_alloc R9.out (.cells #[.int .i64 (11 + 10 * (n : Int)), .int .i64 r.f0, .int .i64 r.f1, .int .i64 r.f2, .int .i64 r.f3, .slice A4 r.f4.length c4, .int .i64 r.f5.f0, .int .i64 r.f5.f1, .string r.f5.f2, .string r.f5.f3, .slice A9 r.f6.length c9, .slice A10 r.f7.length c10] 70)) HAP.out hg hat; have S8 := Lib.hid ho; have S9 := Lib.hid hh.1; have AP := Lib.hid hh.2; have kb := blk_grown (heap_alloc_new w2 (.cells #[.int .i64 (11 + 10 * (n : Int)), .int .i64 r.f0, .int .i64 r.f1, .int .i64 r.f2, .int .i64 r.f3, .slice A4 r.f4.length c4, .int .i64 r.f5.f0, .int .i64 r.f5.f1, .string r.f5.f2, .string r.f5.f3, .slice A9 r.f6.length c9, .slice A10 r.f7.length c10] 70)) hg (fun e => by obtain ⟨inn, hin⟩ := Kd.R_own R8.out; obtain ⟨cs, hcs⟩ := own_typed hin w2.heap.size e.symm; have := blk_lt hcs; omega); have z0 : w3.cell? ⟨w2.heap.size, 0, none⟩ = some (.int .i64 (11 + 10 * (n : Int))) := (blk_cell kb 0).trans rfl; have z1 : w3.cell? ⟨w2.heap.size, 1, none⟩ = some (.int .i64 r.f0) := (blk_cell kb 1).trans rfl; have z2 : w3.cell? ⟨w2.heap.size, 2, none⟩ = some (.int .i64 r.f1) := (blk_cell kb 2).trans rfl; have z3 : w3.cell? ⟨w2.heap.size, 3, none⟩ = some (.int .i64 r.f2) := (blk_cell kb 3).trans rfl; have z4 : w3.cell? ⟨w2.heap.size, 4, none⟩ = some (.int .i64 r.f3) := (blk_cell kb 4).trans rfl; have z5 : w3.cell? ⟨w2.heap.size, 5, none⟩ = some (.slice A4 r.f4.length c4) := (blk_cell kb 5).trans rfl; have z6 : w3.cell? ⟨w2.heap.size, 6, none⟩ = some (.int .i64 r.f5.f0) := (blk_cell kb 6).trans rfl; have z7 : w3.cell? ⟨w2.heap.size, 7, none⟩ = some (.int .i64 r.f5.f1) := (blk_cell kb 7).trans rfl; have z8 : w3.cell? ⟨w2.heap.size, 8, none⟩ = some (.string r.f5.f2) := (blk_cell kb 8).trans rfl; have z9 : w3.cell? ⟨w2.heap.size, 9, none⟩ = some (.string r.f5.f3) := (blk_cell kb 9).trans rfl; have z10 : w3.cell? ⟨w2.heap.size, 10, none⟩ = some (.slice A9 r.f6.length c9) := (blk_cell kb 10).trans rfl; have z11 : w3.cell? ⟨w2.heap.size, 11, none⟩ = some (.slice A10 r.f7.length c10) := (blk_cell kb 11).trans rfl; have kb := Lib.hid kb; have hB := Lib.hid hb; clear ho hh hg hat hb)
            | (at_builtin; refine Kd.R_append (ro w kStp) (w0 := w) w.heap.size rfl (.tmp 73) (.tmp 75) 56 70 _ 160 rfl Try.underlying56 infoStp rfl (show 0 < 12 by decide) (by omega) u9 (stampB L (min n kk)) ⟨11 + 10 * (n : Int), r⟩ _ (fun _ => True) (fun _ => False) rfl rfl HM.out (fun _ hk => hk.elim) (fun _ _ => trivial) S9.out hB.out hB.out.size (by rw [stampB_len]; omega) ?_; intro v2 w4 ho hb hg hat; have hh := ro_two S9.out S8.out AP.out.symm hg hat; have T9 := Lib.hid ho; have T8 := Lib.hid hh.1; have AQ := Lib.hid hh.2.symm; have hB := Lib.hid hb; clear ho hh hg hat hb))
          go_roundw
          case rel =>
            try rw [W3]
            have e1 := HNK.out
            have e2 : min (n + 1) kk = min n kk + 1 := by omega
            have e3 : min n kk = n := by omega
            rw [e3] at T9
            refine ⟨n + 1, HLT.out, by rw [Int.natCast_succ], ?_, ?_, AQ, Lib.hid (fun j hj => ?_), hB⟩
            · rw [HS8.out]; exact T8
            · rw [e2, e3, HS8.out]; exact T9
            · rcases Nat.lt_or_ge j n with h1 | h1
              · exact HG.out j h1
              · obtain rfl : j = n := by omega
                rw [HR.out]
                exact ⟨HP.out, H6.out⟩
          case measure =>
            try rw [W3]
            show L.length - ((n : Int) + 1).toNat < L.length - (n : Int).toNat
            have := HLT.out
            omega
        · have hdk : decide (n < kk) = false := decide_eq_false hnk
          have hdk2 : decide ((n : Int) < (kk : Int)) = false := decide_eq_false (by omega)
          have HNK := Lib.hid hnk
          clear hnk
          go_wp2_with (first
            | (go_at_call 29; refine (Hgood.out _ HB.out).mono ?_; rintro e w2 ⟨rfl, hb⟩; have hB := Lib.hid (below_step HB.out hb); have R8 := Lib.hid (Kd.R_below HR8.out hb); have R9 := Lib.hid (Kd.R_below HR9.out hb); have x0 := pw_cell_below hb x0; have x1 := pw_cell_below hb x1; have x2 := pw_cell_below hb x2; have x3 := pw_cell_below hb x3; have x4 := pw_cell_below hb x4; have x5 := pw_cell_below hb x5; have x6 := pw_cell_below hb x6; have x7 := pw_cell_below hb x7; have x8 := pw_cell_below hb x8; have x9 := pw_cell_below hb x9; have x10 := pw_cell_below hb x10; clear hb)
            | (at_builtin; refine Kd.R_append (ro w kStp) (w0 := w) w.heap.size rfl (.tmp 66) (.tmp 68) 56 70 _ 160 rfl Try.underlying56 infoStp rfl (show 0 < 12 by decide) (by omega) u8 (stampB L n) ⟨11 + 10 * (n : Int), r⟩ _ (fun _ => True) (fun _ => False) rfl (by have e : (w2.alloc (.cells #[.int .i64 (11 + 10 * (n : Int)), .int .i64 r.f0, .int .i64 r.f1, .int .i64 r.f2, .int .i64 r.f3, .slice A4 r.f4.length c4, .int .i64 r.f5.f0, .int .i64 r.f5.f1, .string r.f5.f2, .string r.f5.f3, .slice A9 r.f6.length c9, .slice A10 r.f7.length c10] 70)).heap.size = w2.heap.size + 1 := (by simp); rw [e]; rfl) HM.out (fun _ hk => hk.elim) (fun _ _ => trivial) (Kd.R_alloc R8.out (.cells #[.int .i64 (11 + 10 * (n : Int)), .int .i64 r.f0, .int .i64 r.f1, .int .i64 r.f2, .int .i64 r.f3, .slice A4 r.f4.length c4, .int .i64 r.f5.f0, .int .i64 r.f5.f1, .string r.f5.f2, .string r.f5.f3, .slice A9 r.f6.length c9, .slice A10 r.f7.length c10] 70)) (below_alloc hB.out (.cells #[.int .i64 (11 + 10 * (n : Int)), .int .i64 r.f0, .int .i64 r.f1, .int .i64 r.f2, .int .i64 r.f3, .slice A4 r.f4.length c4, .int .i64 r.f5.f0, .int .i64 r.f5.f1, .string r.f5.f2, .string r.f5.f3, .slice A9 r.f6.length c9, .slice A10 r.f7.length c10] 70)) (below_alloc hB.out (.cells #[.int .i64 (11 + 10 * (n : Int)), .int .i64 r.f0, .int .i64 r.f1, .int .i64 r.f2, .int .i64 r.f3, .slice A4 r.f4.length c4, .int .i64 r.f5.f0, .int .i64 r.f5.f1, .string r.f5.f2, .string r.f5.f3, .slice A9 r.f6.length c9, .slice A10 r.f7.length c10] 70)).size (by rw [stampB_len]; omega) ?_; intro v1 w3 ho hb hg hat; have hh := ro_two (Kd.R_alloc R8.out (.cells #[.int .i64 (11 + 10 * (n : Int)), .int .i64 r.f0, .int .i64 r.f1, .int .i64 r.f2, .int .i64 r.f3, .slice A4 r.f4.length c4, .int .i64 r.f5.f0, .int .i64 r.f5.f1, .string r.f5.f2, .string r.f5.f3, .slice A9 r.f6.length c9, .slice A10 r.f7.length c10] 70)) (Kd.R_alloc R9.out (.cells #[.int .i64 (11 + 10 * (n : Int)), .int .i64 r.f0, .int .i64 r.f1, .int .i64 r.f2, .int .i64 r.f3, .slice A4 r.f4.length c4, .int .i64 r.f5.f0, .int .i64 r.f5.f1, .string r.f5.f2, .string r.f5.f3, .slice A9 r.f6.length c9, .slice A10 r.f7.length c10] 70)) HAP.out hg hat; have S8 := Lib.hid ho; have S9 := Lib.hid hh.1; have AP := Lib.hid hh.2; have kb := blk_grown (heap_alloc_new w2 (.cells #[.int .i64 (11 + 10 * (n : Int)), .int .i64 r.f0, .int .i64 r.f1, .int .i64 r.f2, .int .i64 r.f3, .slice A4 r.f4.length c4, .int .i64 r.f5.f0, .int .i64 r.f5.f1, .string r.f5.f2, .string r.f5.f3, .slice A9 r.f6.length c9, .slice A10 r.f7.length c10] 70)) hg (fun e => by obtain ⟨inn, hin⟩ := Kd.R_own R8.out; obtain ⟨cs, hcs⟩ := own_typed hin w2.heap.size e.symm; have := blk_lt hcs; omega); have z0 : w3.cell? ⟨w2.heap.size, 0, none⟩ = some (.int .i64 (11 + 10 * (n : Int))) := (blk_cell kb 0).trans rfl; have z1 : w3.cell? ⟨w2.heap.size, 1, none⟩ = some (.int .i64 r.f0) := (blk_cell kb 1).trans rfl; have z2 : w3.cell? ⟨w2.heap.size, 2, none⟩ = some (.int .i64 r.f1) := (blk_cell kb 2).trans rfl; have z3 : w3.cell? ⟨w2.heap.size, 3, none⟩ = some (.int .i64 r.f2) := (blk_cell kb 3).trans rfl; have z4 : w3.cell? ⟨w2.heap.size, 4, none⟩ = some (.int .i64 r.f3) := (blk_cell kb 4).trans rfl; have z5 : w3.cell? ⟨w2.heap.size, 5, none⟩ = some (.slice A4 r.f4.length c4) := (blk_cell kb 5).trans rfl; have z6 : w3.cell? ⟨w2.heap.size, 6, none⟩ = some (.int .i64 r.f5.f0) := (blk_cell kb 6).trans rfl; have z7 : w3.cell? ⟨w2.heap.size, 7, none⟩ = some (.int .i64 r.f5.f1) := (blk_cell kb 7).trans rfl; have z8 : w3.cell? ⟨w2.heap.size, 8, none⟩ = some (.string r.f5.f2) := (blk_cell kb 8).trans rfl; have z9 : w3.cell? ⟨w2.heap.size, 9, none⟩ = some (.string r.f5.f3) := (blk_cell kb 9).trans rfl; have z10 : w3.cell? ⟨w2.heap.size, 10, none⟩ = some (.slice A9 r.f6.length c9) := (blk_cell kb 10).trans rfl; have z11 : w3.cell? ⟨w2.heap.size, 11, none⟩ = some (.slice A10 r.f7.length c10) := (blk_cell kb 11).trans rfl; have kb := Lib.hid kb; have hB := Lib.hid hb; clear ho hh hg hat hb))
          go_roundw
          case rel =>
            try rw [W3]
            have e1 := HNK.out
            have e2 : min (n + 1) kk = min n kk := by omega
            refine ⟨n + 1, HLT.out, by rw [Int.natCast_succ], ?_, ?_, AP, Lib.hid (fun j hj => ?_), hB⟩
            · rw [HS8.out]; exact S8
            · rw [e2]; exact S9
            · rcases Nat.lt_or_ge j n with h1 | h1
              · exact HG.out j h1
              · obtain rfl : j = n := by omega
                rw [HR.out]
                exact ⟨HP.out, H6.out⟩
          case measure =>
            try rw [W3]
            show L.length - ((n : Int) + 1).toNat < L.length - (n : Int).toNat
            have := HLT.out
            omega
    · have hnl : n = L.length := by omega
      subst hnl
      clear hlt
      have hmin : min L.length kk = kk := by have := HKL.out; omega
      rw [hmin] at HR9
      have hoA := Lib.hid (okS_B L kk (by have := HKL.out; omega) (fun j hj => (HG.out j (by have := HKL.out; omega)).1))
      have hoB := Lib.hid (okS_B L L.length hl40 (fun j hj => (HG.out j hj).1))
      have hoW := Lib.hid (okS_W L D hl20 kk L.length hl40 HKL.out HG.out)
      have hsame := Lib.hid (withL_same L D kk L.length HKL.out (fun j hj => (HG.out j hj).2))
      obtain ⟨A8, c8, rfl, e8, r8⟩ := Kd.R_reads HR8.out
      obtain ⟨A9, c9, rfl, e9, r9⟩ := Kd.R_reads HR9.out
      rw [stampB_len] at e8 r8 e9 r9
      simp only [stampB_len]
      have R8 := Lib.hid r8; have R9 := Lib.hid r9; have E8 := Lib.hid e8; have E9 := Lib.hid e9
      have C8 := Lib.hid (ro_C r8 HB.out); have C9 := Lib.hid (ro_C r9 HB.out)
      clear r8 r9 e8 e9 hmin HR8 HR9 HAP
      have cRA : ∀ w1, kStp.C w1 A9 kk (stampB L kk) → Calls Try.prog 32 #[.slice A9 kk c9] w1 fun e w' => ∃ s A1 c1 nx A2 n2 c2, e = .returned (.agg #[.int .i64 s, .slice A1 (openN (stampB L kk) (stampB L kk).length).length c1, .int .i64 nx, .slice A2 n2 c2]) ∧
          (openN (stampB L kk) (stampB L kk).length).length ≤ c1 ∧ kOpn.C w' A1 (openN (stampB L kk) (stampB L kk).length).length (openN (stampB L kk) (stampB L kk).length) ∧ Below w1.heap.size w1 w' := by
        intro w1 h
        have := c_Read22 (stampB L kk) A9 c9 hoA.out w1 (by rw [stampB_len]; exact h) (by rw [stampB_len]; exact E9.out)
        rw [stampB_len] at this ⊢
        refine this.mono ?_
        rintro e w' ⟨B1, d1, B2, d2, rfl, m1, m2, q1, q2, hb⟩
        exact ⟨_, B1, d1, _, B2, _, d2, rfl, m1, q1, hb⟩
      have CRA := Lib.hid cRA
      clear cRA
      have holA : (openN (stampB L kk) (stampB L kk).length).length ≤ 100000000 := openN_len' _ hoA.out
      have HMK : Hid (markM (6 + 10 * (kk : Int)) (stampB L kk) D = ⟨6 + 10 * (kk : Int), ⟨6, 0, 0, 0, [], ⟨0, 0, ⟨#[]⟩, ⟨#[]⟩⟩, openN (stampB L kk) (stampB L kk).length, D⟩⟩) := rfl
      generalize openN (stampB L kk) (stampB L kk).length = op at *
      go_wp2_with fail
      refine (CRA.out _ C9.out).mono ?_
      rintro e w5 ⟨s1, B1, d1, x1, B2, n2, d2, rfl, m1, q1, hb⟩
      have hfd : ∀ w : World, (Instr.field 63 (.agg #[.int .i64 s1, .slice B1 op.length d1, .int .i64 x1, .slice B2 n2 d2]) 1).run Try.prog w = .ok (.slice B1 op.length d1) w := fun _ => by kernel_rfl
      have hB5 := Lib.hid (below_step HB.out hb)
      have R8 := Lib.hid ((Kd.C_below (d := kStp) (ro_C R8.out HB.out) hb))
      have R9 := Lib.hid ((Kd.C_below (d := kStp) (ro_C R9.out HB.out) hb))
      have M1 := Lib.hid m1; have Q1 := Lib.hid q1
      have H5 := Lib.hid (Below.refl w5.heap.size w5)
      have HMm := Lib.hid (k70_mk w5 (A5 := none) (c5 := 0) ⟨6 + 10 * (kk : Int), ⟨6, 0, 0, 0, [], ⟨0, 0, ⟨#[]⟩, ⟨#[]⟩⟩, op, D⟩⟩ (Nat.le_refl _) ⟨rfl, Nat.zero_le _, fun h => absurd h (Nat.lt_irrefl 0)⟩ m1 q1 HC2.out (Kd.C_below H2.out hB5.out))
      clear hb m1 q1
      have hk40 : kk ≤ 40 := by have := HKL.out; omega
      go_wp2_with (first
        | (at_builtin; refine Kd.R_append_rows (ro w5 kStp) (Rr := fun x cs => kStp.K w5 x cs) (w0 := w5) w5.heap.size rfl (.tmp 80) (.tmp 81) 56 70 _ 160 rfl Try.underlying56 infoStp rfl (show 0 < 12 by decide) (by omega) (.slice (some ⟨w5.heap.size, 0, none⟩) 0 0) [] (stampB L kk) A9 kk c9 (fun _ => True) (fun _ => False) rfl rfl (R_empty _ _ w5 _ (Nat.le_refl _)) (ro_C' R9.out (below_alloc H5.out _)) (fun x cs h => h) (fun _ hk => hk.elim) (fun _ _ => trivial) (below_alloc H5.out _) (below_alloc H5.out _).size (by have := HKL.out; simp; omega) ?_; intro v1 w6 ho hb hg hat; have HO := Lib.hid ho; have H5 := Lib.hid hb; clear ho hb hg hat)
        | (at_builtin; refine Kd.R_append (ro w5 kStp) (w0 := w5) w5.heap.size rfl (.tmp 83) (.tmp 91) 56 70 _ 160 rfl Try.underlying56 infoStp rfl (show 0 < 12 by decide) (by omega) v1 ([] ++ stampB L kk) ⟨6 + 10 * (kk : Int), ⟨6, 0, 0, 0, [], ⟨0, 0, ⟨#[]⟩, ⟨#[]⟩⟩, op, D⟩⟩ _ (fun _ => True) (fun _ => False) rfl rfl HMm.out (fun _ hk => hk.elim) (fun _ _ => trivial) HO.out H5.out H5.out.size (by have := HKL.out; simp [stampB_len]; omega) ?_; intro v2 w7 ho hb hg hat; have HO := Lib.hid ho; have H5 := Lib.hid hb; clear ho hb hg hat))
      have HO2 : Hid ((ro w5 kStp).R 70 w7 w5.heap.size (fun _ => True) v2 (withL L D kk kk)) := by
        rw [withL_nil]
        rw [HMK.out]
        exact HO.out
      clear hfd HMm M1 Q1 HO
      go_loopw [13, 14] (fun v13 v14 wr2 => ∃ j : Nat, kk ≤ j ∧ j ≤ L.length ∧ v14 = .int .i64 j ∧ Hid ((ro w5 kStp).R 70 wr2 w5.heap.size (fun _ => True) v13 (withL L D kk j)) ∧ Hid (Below w5.heap.size w5 wr2)) (fun _ v _ => L.length - (intOf v).toNat)
      case atStart => exact ⟨kk, Nat.le_refl _, HKL.out, rfl, HO2, H5⟩
      case round =>
        obtain ⟨j, hkj, hj, rfl, HRW, HB7⟩ := hrel
        by_cases hlt : j < L.length
        · obtain ⟨ad, A5, c5, A10, c10, A11, c11, rfl, x0, x1, x2, x3, x4, x5, x6, x7, x8, x9, x10, x11, l5, g5, l10, g10, l11, g11⟩ := at_T70 R8.out j (by omega) (by omega)
          simp only [Int.toNat_natCast] at x0 x1 x2 x3 x4 x5 x6 x7 x8 x9 x10 x11
          have he : rd_T70 (stampB L L.length) (j : Int) = ⟨11 + 10 * (j : Int), recAt L j⟩ := by
            show (stampB L L.length).getD j _ = _
            unfold stampB
            rw [List.getD_eq_getElem?_getD, List.getElem?_map, List.getElem?_range hlt]
            rfl
          rw [he] at x0 x1 x2 x3 x4 x5 x6 x7 x8 x9 x10 x11 l5 g5 l10 g10 l11 g11
          have hm := Lib.hid (k70_mk w5 ⟨11 + 10 * (j : Int), recAt L j⟩ l5 g5 l10 g10 l11 g11)
          have hs := withL_snoc L D kk j hkj
          generalize recAt L j = r at *
          have HS := Lib.hid hs
          clear l5 g5 l10 g10 l11 g11 he hs
          simp only at x0 x1 x2 x3 x4 x5 x6 x7 x8 x9 x10 x11
          replace x0 := (HB7.out.cell (World.block_lt_of_cell? w5 _ x0)).trans x0
          replace x1 := (HB7.out.cell (World.block_lt_of_cell? w5 _ x1)).trans x1
          replace x2 := (HB7.out.cell (World.block_lt_of_cell? w5 _ x2)).trans x2
          replace x3 := (HB7.out.cell (World.block_lt_of_cell? w5 _ x3)).trans x3
          replace x4 := (HB7.out.cell (World.block_lt_of_cell? w5 _ x4)).trans x4
          replace x5 := (HB7.out.cell (World.block_lt_of_cell? w5 _ x5)).trans x5
          replace x6 := (HB7.out.cell (World.block_lt_of_cell? w5 _ x6)).trans x6
          replace x7 := (HB7.out.cell (World.block_lt_of_cell? w5 _ x7)).trans x7
          replace x8 := (HB7.out.cell (World.block_lt_of_cell? w5 _ x8)).trans x8
          replace x9 := (HB7.out.cell (World.block_lt_of_cell? w5 _ x9)).trans x9
          replace x10 := (HB7.out.cell (World.block_lt_of_cell? w5 _ x10)).trans x10
          replace x11 := (HB7.out.cell (World.block_lt_of_cell? w5 _ x11)).trans x11
          have W3 : wrap64 ((j : Int) + 1) = j + 1 := by unfold wrap64; omega
          have HLT := Lib.hid hlt
          go_wp2_with (first
            | (at_builtin; refine Kd.R_append (ro w5 kStp) (w0 := w5) w5.heap.size rfl (.tmp 100) (.tmp 105) 56 70 _ 160 rfl Try.underlying56 infoStp rfl (show 0 < 12 by decide) (by omega) u13 (withL L D kk j) ⟨11 + 10 * (j : Int), r⟩ _ (fun _ => True) (fun _ => False) rfl rfl hm.out (fun _ hk => hk.elim) (fun _ _ => trivial) HRW.out HB7.out HB7.out.size (by rw [withL_len L D kk j hkj]; omega) ?_; intro v3 w8 ho hb hg hat; have HN := Lib.hid (HS.out ▸ ho); have HB8 := Lib.hid hb; clear ho hb hg hat))
          go_roundw
          case rel =>
            try rw [W3]
            exact ⟨j + 1, by omega, HLT.out, by rw [Int.natCast_succ], HN, HB8⟩
          case measure =>
            try rw [W3]
            show L.length - ((j : Int) + 1).toNat < L.length - (j : Int).toNat
            have := HLT.out
            omega
        · have hjl : j = L.length := by omega
          subst hjl
          clear hlt
          obtain ⟨A13, c13, rfl, e13, r13⟩ := Kd.R_reads HRW.out
          have hwl := withL_len L D kk L.length HKL.out
          have EW := Lib.hid e13; have RW := Lib.hid (ro_C r13 HB7.out)
          clear e13 r13
          obtain ⟨s1', s2', s3', s4'⟩ := hsame.out
          have cRW : ∀ w1, kStp.C w1 A13 (withL L D kk L.length).length (withL L D kk L.length) → Calls Try.prog 32 #[.slice A13 (withL L D kk L.length).length c13] w1 fun e w' => ∃ A1 c1 A2 c2, e = .returned (.agg #[.int .i64 (leastD (6 + 10 * (kk : Int)) D), .slice A1 (openN (stampB L L.length) (stampB L L.length).length).length c1, .int .i64 (nextN (stampB L L.length) (stampB L L.length).length), .slice A2 (commN (stampB L L.length) (stampB L L.length).length).length c2]) ∧
              (openN (stampB L L.length) (stampB L L.length).length).length ≤ c1 ∧ (commN (stampB L L.length) (stampB L L.length).length).length ≤ c2 ∧ kOpn.C w' A1 (openN (stampB L L.length) (stampB L L.length).length).length (openN (stampB L L.length) (stampB L L.length).length) ∧ (Kd.int .i64).C w' A2 (commN (stampB L L.length) (stampB L L.length).length).length (commN (stampB L L.length) (stampB L L.length).length) ∧ Below w1.heap.size w1 w' := by
            intro w1 h
            have := c_Read22 (withL L D kk L.length) A13 c13 hoW.out w1 h EW.out
            rw [s1', s2', s3', s4'] at this
            exact this
          have cRB : ∀ w1, kStp.C w1 A8 L.length (stampB L L.length) → Calls Try.prog 32 #[.slice A8 L.length c8] w1 fun e w' => ∃ s A1 c1 A2 c2, e = .returned (.agg #[.int .i64 s, .slice A1 (openN (stampB L L.length) (stampB L L.length).length).length c1, .int .i64 (nextN (stampB L L.length) (stampB L L.length).length), .slice A2 (commN (stampB L L.length) (stampB L L.length).length).length c2]) ∧
              (openN (stampB L L.length) (stampB L L.length).length).length ≤ c1 ∧ (commN (stampB L L.length) (stampB L L.length).length).length ≤ c2 ∧ kOpn.C w' A1 (openN (stampB L L.length) (stampB L L.length).length).length (openN (stampB L L.length) (stampB L L.length).length) ∧ (Kd.int .i64).C w' A2 (commN (stampB L L.length) (stampB L L.length).length).length (commN (stampB L L.length) (stampB L L.length).length) ∧ Below w1.heap.size w1 w' := by
            intro w1 h
            have := c_Read22 (stampB L L.length) A8 c8 hoB.out w1 (by rw [stampB_len]; exact h) (by rw [stampB_len]; exact E8.out)
            rw [stampB_len] at this ⊢
            refine this.mono ?_
            rintro e w' ⟨A1, c1, A2, c2, rfl, hh⟩
            exact ⟨_, A1, c1, A2, c2, rfl, hh⟩
          have CRW := Lib.hid cRW; have CRB := Lib.hid cRB
          clear cRW cRB s1' s2' s3' s4'
          have hol : (openN (stampB L L.length) (stampB L L.length).length).length ≤ 100000000 := openN_len' _ hoB.out
          have hcl : (commN (stampB L L.length) (stampB L L.length).length).length ≤ 1000000 := by have := commN_len (stampB L L.length) (stampB L L.length).length; rw [stampB_len] at *; omega
          have hks := Lib.hid (fun s2 => (same_ev (leastD (6 + 10 * (kk : Int)) D) s2 (nextN (stampB L L.length) (stampB L L.length).length) (openN (stampB L L.length) (stampB L L.length).length) (commN (stampB L L.length) (stampB L L.length).length) hol hcl).rounds)
          clear hol hcl
          have hle := leastD_le D (6 + 10 * (kk : Int))
          generalize hst : leastD (6 + 10 * (kk : Int)) D = st at *
          have HST := Lib.hid hst
          clear hst
          generalize openN (stampB L L.length) (stampB L L.length).length = oq at *
          generalize nextN (stampB L L.length) (stampB L L.length).length = nx at *
          generalize commN (stampB L L.length) (stampB L L.length).length = cm at *
          generalize (withL L D kk L.length).length = wl at *
          clear hwl
          have HBA := Lib.hid (below_step hB5.out HB7.out)
          have C8' := Lib.hid (Kd.C_below R8.out HB7.out)
          go_wp2_with fail
          refine (CRW.out _ RW.out).mono ?_
          rintro e w9 ⟨E1, f1, E2, f2, rfl, m1, m2, q1, q2, hb⟩
          have HBB := Lib.hid (below_alloc (below_step HBA.out hb) (.cells #[.int .i64 st, .slice E1 oq.length f1, .int .i64 nx, .slice E2 cm.length f2] 63))
          have hb' : Below w9.heap.size w9 (w9.alloc (.cells #[.int .i64 st, .slice E1 oq.length f1, .int .i64 nx, .slice E2 cm.length f2] 63)) := below_alloc (Below.refl _ _) _
          have C8' := Lib.hid (Kd.C_below (Kd.C_below C8'.out hb) hb')
          have M1 := Lib.hid m1; have M2 := Lib.hid m2; have Q1 := Lib.hid (Kd.C_below q1 hb'); have Q2 := Lib.hid (Kd.C_below q2 hb')
          have k15 := heap_alloc_new w9 (.cells #[.int .i64 st, .slice E1 oq.length f1, .int .i64 nx, .slice E2 cm.length f2] 63)
          clear hb hb' m1 m2 q1 q2
          go_wp2_with fail
          generalize w9.alloc (.cells #[.int .i64 st, .slice E1 oq.length f1, .int .i64 nx, .slice E2 cm.length f2] 63) = WA at *
          generalize w9.heap.size = g15 at *
          have K15 := Lib.hid k15
          clear k15
          refine (c_story _ _ _ _ _ _ _ _ _).mono ?_
          rintro e w10 ⟨rfl, hb⟩
          have HBB := Lib.hid (below_step HBB.out hb)
          have K15 := Lib.hid (blk_below K15.out hb)
          have C8' := Lib.hid (Kd.C_below C8'.out hb)
          have Q1 := Lib.hid (Kd.C_below Q1.out hb); have Q2 := Lib.hid (Kd.C_below Q2.out hb)
          clear hb
          go_wp2_with fail
          refine (CRB.out _ C8'.out).mono ?_
          rintro e w11 ⟨s2, F1, h1, F2, h2, rfl, m1, m2, q1, q2, hb⟩
          have HBB := Lib.hid (below_step HBB.out hb)
          have K15 := Lib.hid (blk_below K15.out hb)
          have Q1 := Lib.hid (Kd.C_below Q1.out hb); have Q2 := Lib.hid (Kd.C_below Q2.out hb)
          have N1 := Lib.hid m1; have N2 := Lib.hid m2; have P1 := Lib.hid q1; have P2 := Lib.hid q2
          clear hb m1 m2 q1 q2
          go_wp2_with fail
          refine (c_story _ _ _ _ _ _ _ _ _).mono ?_
          rintro e w12 ⟨rfl, hb⟩
          have HBB := Lib.hid (below_step HBB.out hb)
          have K15 := Lib.hid (blk_below K15.out hb)
          have Q1 := Lib.hid (Kd.C_below Q1.out hb); have Q2 := Lib.hid (Kd.C_below Q2.out hb)
          have P1 := Lib.hid (Kd.C_below P1.out hb); have P2 := Lib.hid (Kd.C_below P2.out hb)
          clear hb
          obtain ⟨ks, hkS⟩ := hks.out s2
          go_wp2_with fail
          refine (gaugerref22_Same.calls ks st E1 f1 oq nx E2 f2 cm s2 F1 h1 oq nx F2 h2 cm true _ Q1.out M1.out Q2.out M2.out P1.out N1.out P2.out N2.out hkS).mono ?_
          rintro e w13 ⟨rfl, hb⟩
          have HBB := Lib.hid (below_step HBB.out hb)
          have k15 := blk_below K15.out hb
          clear hb
          have a0 : w13.cell? ⟨g15, 0, none⟩ = some (.int .i64 st) := (blk_cell k15 0).trans rfl
          clear k15
          have hdl : decide (6 + 10 * (kk : Int) < st) = false := decide_eq_false (by omega)
          go_wp2_with fail
          go_loopw [16, 17] (fun v16 v17 wr3 => ∃ i : Nat, i ≤ D.length ∧ v17 = .int .i64 i ∧ v16 = .int .i64 (leastD (6 + 10 * (kk : Int)) (D.take i)) ∧ Hid (Below w.heap.size w wr3) ∧ Hid (wr3.cell? ⟨g15, 0, none⟩ = some (.int .i64 st))) (fun _ v _ => D.length - (intOf v).toNat)
          case atStart => exact ⟨0, by omega, rfl, rfl, HBB, Lib.hid a0⟩
          case round =>
            obtain ⟨i, hi, rfl, rfl, HBB, A0⟩ := hrel
            by_cases hlt : i < D.length
            · obtain ⟨ad, rfl, y0, y1⟩ := at_T72 H2.out i (by omega) (by omega)
              simp only [Int.toNat_natCast] at y0 y1
              replace y1 := (HBB.out.cell (World.block_lt_of_cell? w _ y1)).trans y1
              clear y0
              have hsn : leastD (6 + 10 * (kk : Int)) (D.take (i + 1)) = mn (leastD (6 + 10 * (kk : Int)) (D.take i)) (rd_T72 D i).f1 := by
                unfold leastD
                rw [List.take_add_one, List.getElem?_eq_getElem hlt, List.foldl_append]
                show _ = mn _ (D.getD i _).f1
                rw [List.getD_eq_getElem?_getD, List.getElem?_eq_getElem hlt]
                rfl
              generalize leastD (6 + 10 * (kk : Int)) (D.take i) = ls at *
              have HSN := Lib.hid hsn
              clear hsn
              have W3 : wrap64 ((i : Int) + 1) = i + 1 := by unfold wrap64; omega
              have HLT := Lib.hid hlt
              go_wp2
              go_roundw
              case rel =>
                try rw [W3]
                refine ⟨i + 1, HLT.out, by rw [Int.natCast_succ], ?_, HBB, A0⟩
                rw [HSN.out]
                congr 1
                unfold mn
                omega
              case measure =>
                try rw [W3]
                show D.length - ((i : Int) + 1).toNat < D.length - (i : Int).toNat
                have := HLT.out
                omega
            · have hil : i = D.length := by omega
              subst hil
              rw [List.take_length, HST.out]
              have a0 := A0.out
              go_wp2
              go_ret
              exact ⟨rfl, HBB.out⟩
end Go.Proofs.Ytkcckhlchjmkkaa
