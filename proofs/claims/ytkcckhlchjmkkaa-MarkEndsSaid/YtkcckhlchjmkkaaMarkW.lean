/-
  LAYER 22: the reference's Read by its printed contract at the specification; the law's awake.
-/
import Derived.Test.YtkcckhlchjmkkaaMarkV
import Derived.Test.YtkcckhlchjmkkaaMarkG
import Derived.Test.YtkcckhlchjmkkaaPMarkRd1
import Derived.Outline
set_option linter.unusedVariables false
set_option linter.unusedSimpArgs false
namespace Go.Proofs.Ytkcckhlchjmkkaa
open Go.RowKit Go.Maps Go.Proofs.YtkcckhlchjmkkaaW.PrintWords Go.Proofs.YtkcckhlchjmkkaaW.PrintMore Go.Proofs.Ytkcckhlchjmkkaa.PMark

theorem c_RefRead22 (S : List Stp) (hS : OkS S) (A0 A1 : Option Addr) (c0 c1 : Nat) (w : World) (h0 : kRec.C w A0 S.length (recL S)) (hc0 : S.length ≤ c0) (h1 : (Kd.int .i64).C w A1 S.length (stmL S)) (hc1 : S.length ≤ c1) :
    Calls Try.prog 33 #[.slice A0 S.length c0, .slice A1 S.length c1] w fun e w' => ∃ A1 c1 A2 c2, e = .returned (.agg #[.int .i64 (startS S (atS S)), .slice A1 (openN S S.length).length c1, .int .i64 (nextN S S.length), .slice A2 (commN S S.length).length c2]) ∧
      (openN S S.length).length ≤ c1 ∧ (commN S S.length).length ≤ c2 ∧ kOpn.C w' A1 (openN S S.length).length (openN S S.length) ∧ (Kd.int .i64).C w' A2 (commN S S.length).length (commN S S.length) ∧ Below w.heap.size w w' := by
  obtain ⟨k, hk⟩ := (ev_Read S hS).rounds
  have := gaugerref22_Read.calls k A0 c0 (recL S) A1 c1 (stmL S) _ _ _ _ w (by rw [recL_len]; exact h0) (by rw [recL_len]; exact hc0) (by rw [stmL_len]; exact h1) (by rw [stmL_len]; exact hc1) hk
  rw [recL_len, stmL_len] at this
  refine this.mono ?_
  rintro e w' ⟨v1, v3, rfl, g1, g3, hb⟩
  obtain ⟨B1, d1, rfl, e1, r1⟩ := Kd.R_reads g1
  obtain ⟨B2, d2, rfl, e2, r2⟩ := Kd.R_reads g3
  exact ⟨B1, d1, B2, d2, rfl, e1, e2, r1, r2, hb⟩

/-- A literal row, as it lies. -/
theorem R_laid {α : Type} (d : Kd α) (e : Nat) (W : World) (base : Nat) (xs : List α) (inner : List Value) (hrep : Reps (d.M W base (fun _ => False)) d.sz xs inner) (hbase : base ≤ W.heap.size) (hm : xs.length ≤ 9223372036854775807) :
    d.R e (W.alloc (.cells inner.toArray e)) base (fun _ => True) (.slice (some ⟨W.heap.size, 0, none⟩) xs.length xs.length) xs := by
  refine ⟨fun _ _ => trivial, inner, ?_, ?_⟩
  · have h2 := World.ownsRow_lit (base := base) (e := e) (size := d.sz) W inner.toArray xs.length hbase (by simpa [maxLen] using hm) (by simpa using hrep.1)
    simpa using h2
  · exact hrep.imp_ (fun p c hp => d.M_mono (fun k hk => hk.1.elim) (Kd.M_below (d.M_bound hp) (below_alloc (Below.refl _ _) _)))

def rc (k d : Int) : Rec := ⟨k, d, 0, 0, [], ⟨0, 0, ⟨#[]⟩, ⟨#[]⟩⟩, [], []⟩
def awL : List Rec := [rc 1 5, rc 1 7, rc 3 5]
def awS : List Stp := stampN awL 3
theorem awS_ok : OkS awS := by
  refine ⟨by decide, fun x hx => ?_⟩
  have : x = ⟨1, rc 1 5⟩ ∨ x = ⟨11, rc 1 7⟩ ∨ x = ⟨21, rc 3 5⟩ := by
    simpa [awS, awL, stampN, List.range_succ] using hx
  rcases this with rfl | rfl | rfl <;> simp [rc, In64]
theorem awS_len : awS.length = 3 := rfl
theorem aw_read (A : Option Addr) (c : Nat) (w : World) (h : kStp.C w A 3 awS) (hc : 3 ≤ c) :
    Calls Try.prog 32 #[.slice A 3 c] w fun e w' => ∃ a1 c1 a2 c2, e = .returned (.agg #[.int .i64 1, .slice (some a1) 1 c1, .int .i64 8, .slice (some a2) 1 c2]) ∧
      w'.cell? a1 = some (.int .i64 7) ∧ w'.cell? ⟨a1.block, a1.off + 1, none⟩ = some (.int .i64 11) ∧ w'.cell? a2 = some (.int .i64 5) ∧ Below w.heap.size w w' := by
  refine (c_Read22 awS A c awS_ok w h hc).mono ?_
  rintro e w' ⟨A1, c1, A2, c2, rfl, l1, l2, r1, r2, hb⟩
  have e1 : startS awS (atS awS) = 1 := by rfl
  have e2 : openN awS awS.length = [⟨7, 11⟩] := by rfl
  have e3 : nextN awS awS.length = 8 := by decide +kernel
  have e4 : commN awS awS.length = [5] := by rfl
  rw [e2] at r1
  rw [e4] at r2
  obtain ⟨a1, rfl, x0, x1⟩ := at_T55 r1 0 (by decide) (by decide)
  obtain ⟨a2, rfl, x2⟩ := Kd.at_int r2 0 (by decide) (by decide)
  simp only [Int.toNat_zero, Nat.zero_mul, Addr.add_zero'] at x0 x1 x2
  exact ⟨a1, c1, a2, c2, by rw [e1, e2, e3, e4]; rfl, x0, x1, x2, hb⟩
theorem aw_nil (w : World) : Calls Try.prog 32 #[.slice none 0 0] w fun e w' => ∃ s A1 n1 c1 A2 n2 c2, e = .returned (.agg #[.int .i64 s, .slice A1 n1 c1, .int .i64 1, .slice A2 n2 c2]) ∧ Below w.heap.size w w' := by
  refine (c_Read22 [] none 0 ⟨by decide, fun x hx => by cases hx⟩ w ⟨rfl, by decide, fun h => by cases h⟩ (Nat.le_refl _)).mono ?_
  rintro e w' ⟨A1, c1, A2, c2, rfl, l1, l2, r1, r2, hb⟩
  exact ⟨_, _, _, _, _, _, _, rfl, hb⟩

theorem aw_lit (w : World) :
    kRec.C (w.alloc (.cells #[.int .i64 1, .int .i64 5, .int .i64 0, .int .i64 0, .slice none 0 0, .int .i64 0, .int .i64 0, .string ⟨#[]⟩, .string ⟨#[]⟩, .slice none 0 0, .slice none 0 0,
    .int .i64 1, .int .i64 7, .int .i64 0, .int .i64 0, .slice none 0 0, .int .i64 0, .int .i64 0, .string ⟨#[]⟩, .string ⟨#[]⟩, .slice none 0 0, .slice none 0 0,
    .int .i64 3, .int .i64 5, .int .i64 0, .int .i64 0, .slice none 0 0, .int .i64 0, .int .i64 0, .string ⟨#[]⟩, .string ⟨#[]⟩, .slice none 0 0, .slice none 0 0] 53)) (some ⟨w.heap.size, 0, none⟩) 3 awL := by
  have hp : ∀ x ∈ awL, kRec.M w w.heap.size (fun _ => False) x [.int .i64 x.f0, .int .i64 x.f1, .int .i64 0, .int .i64 0, .slice none 0 0, .int .i64 0, .int .i64 0, .string ⟨#[]⟩, .string ⟨#[]⟩, .slice none 0 0, .slice none 0 0] := by
    intro x hx
    have : x = rc x.f0 x.f1 := by
      have : x = rc 1 5 ∨ x = rc 1 7 ∨ x = rc 3 5 := by simpa [awL] using hx
      rcases this with rfl | rfl | rfl <;> rfl
    rw [this]
    exact k53_mkM w w.heap.size _ (rc x.f0 x.f1) (Kd.R_nil _ _ _ _ _) (Kd.R_nil _ _ _ _ _) (Kd.R_nil _ _ _ _ _)
  have hr := ((((Reps.none (kRec.M w w.heap.size (fun _ => False)) 11).snoc (hp (rc 1 5) (by simp [awL])) rfl).snoc (hp (rc 1 7) (by simp [awL])) rfl).snoc (hp (rc 3 5) (by simp [awL])) rfl)
  have h := R_laid kRec 53 w w.heap.size awL _ hr (Nat.le_refl _) (by decide)
  obtain ⟨A, c, he, _, hc⟩ := Kd.R_reads h
  injection he with he
  subst he
  exact hc
theorem aw_stamped (w : World) : Calls Try.prog 30 #[.slice (some ⟨w.heap.size, 0, none⟩) 3 3] (w.alloc (.cells #[.int .i64 1, .int .i64 5, .int .i64 0, .int .i64 0, .slice none 0 0, .int .i64 0, .int .i64 0, .string ⟨#[]⟩, .string ⟨#[]⟩, .slice none 0 0, .slice none 0 0,
    .int .i64 1, .int .i64 7, .int .i64 0, .int .i64 0, .slice none 0 0, .int .i64 0, .int .i64 0, .string ⟨#[]⟩, .string ⟨#[]⟩, .slice none 0 0, .slice none 0 0,
    .int .i64 3, .int .i64 5, .int .i64 0, .int .i64 0, .slice none 0 0, .int .i64 0, .int .i64 0, .string ⟨#[]⟩, .string ⟨#[]⟩, .slice none 0 0, .slice none 0 0] 53)) fun e w' => ∃ A1 c1 A2 c2, e = .returned (.tuple #[.slice A1 3 c1, .slice A2 3 c2]) ∧ 3 ≤ c1 ∧ kStp.C w' A1 3 awS ∧ Below w.heap.size w w' := by
  refine (c_stamped awL _ 3 (by decide) _ (aw_lit w) (by decide)).mono ?_
  rintro e w' ⟨A1, c1, A2, c2, rfl, l1, l2, r1, r2, hb⟩
  exact ⟨A1, c1, A2, c2, rfl, l1, r1, below_step (below_alloc (Below.refl _ _) _) hb⟩
set_option maxHeartbeats 1000000 in
set_option maxRecDepth 100000 in
theorem c_awake22 (w : World) : Calls Try.prog 28 #[] w fun e w' => e = .returned (.bool true) ∧ Below w.heap.size w w' := by
  go_enter Try.func28, Try.ntmps28
  have hB : Hid (Below w.heap.size w w) := Below.refl _ _
  go_wp2_with fail
  with_reducible refine (aw_stamped w).mono ?_
  rintro e w1 ⟨A1, c1, A2, c2, rfl, l1, r1, hb⟩
  have hB := Lib.hid hb; have HC := Lib.hid l1; have HR := Lib.hid r1; clear hb l1 r1
  go_wp2_with fail
  with_reducible refine (aw_read _ _ _ HR.out HC.out).mono ?_
  rintro e w2 ⟨a1, d1, a2, d2, rfl, x0, x1, x2, hb⟩
  have hB := Lib.hid (below_alloc (below_step hB.out hb) (.cells #[.int .i64 1, .slice (some a1) 1 d1, .int .i64 8, .slice (some a2) 1 d2] 63))
  have y0 := pw_cell_below (below_alloc (Below.refl w2.heap.size w2) (.cells #[.int .i64 1, .slice (some a1) 1 d1, .int .i64 8, .slice (some a2) 1 d2] 63)) x0
  have y1 := pw_cell_below (below_alloc (Below.refl w2.heap.size w2) (.cells #[.int .i64 1, .slice (some a1) 1 d1, .int .i64 8, .slice (some a2) 1 d2] 63)) x1
  have y2 := pw_cell_below (below_alloc (Below.refl w2.heap.size w2) (.cells #[.int .i64 1, .slice (some a1) 1 d1, .int .i64 8, .slice (some a2) 1 d2] 63)) x2
  clear hb x0 x1 x2
  go_wp2_with fail
  refine (aw_nil _).mono ?_
  rintro e w3 ⟨s, B1, n1, e1, B2, n2, e2, rfl, hb⟩
  have hB := Lib.hid (below_step hB.out hb)
  clear hb
  have hfd : ∀ w : World, (Instr.field 63 (.agg #[.int .i64 s, .slice B1 n1 e1, .int .i64 1, .slice B2 n2 e2]) 2).run Try.prog w = .ok (.int .i64 1) w := fun _ => by kernel_rfl
  go_wp2
  go_ret
  exact ⟨rfl, hB.out⟩
end Go.Proofs.Ytkcckhlchjmkkaa
