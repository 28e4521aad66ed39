/-
  LAYER 22: the walk of mark.follow.
-/
import Derived.Test.YtkcckhlchjmkkaaMarkA
set_option linter.unusedVariables false
set_option linter.unusedSimpArgs false
namespace Go.Proofs.Ytkcckhlchjmkkaa
open Go.RowKit Go.Proofs.YtkcckhlchjmkkaaW.PrintWords Go.Proofs.Ytkcckhlchjmkkaa.PMark Go.Maps

/-- Who is open, behind a record. -/
def stepO (l : List Opn) (s kind deal : Int) : List Opn := if kind = 1 ∨ kind = 2 then putO l ⟨deal, s⟩ else if kind = 3 ∨ kind = 4 then delO l deal else l
/-- A map from int to int that reads as l. -/
abbrev OM (w : World) (b n : Nat) (l : List Opn) : Prop := w.ownsMap (H := Unit) Try.prog 3 (plainElem Try.prog 3) b n (AM l)
theorem wf64 {a : Int} (h : -9223372036854775808 ≤ a) (h2 : a ≤ 9223372036854775807) : (Lit.int .i64 a).wf = true := by
  simp [Lit.wf, IntKind.min, IntKind.max, IntKind.signed, IntKind.bits]
  omega
def In64 (a : Int) : Prop := -9223372036854775808 ≤ a ∧ a ≤ 9223372036854775807
theorem In64.wf {a : Int} (h : In64 a) : (Lit.int .i64 a).wf = true := wf64 h.1 h.2

theorem follow_end {w w' : World} {b n : Nat} {l : List Opn} {a : Act} (h : OM w' b n l) (hg : w.grownBy w' (some b)) (hd : a.defers = []) :
    bodyPost Try.prog Try.f66 (fun e w' => (∃ v, e = Ending.returned v) ∧ OM w' b n l ∧ w.grownBy w' (some b)) Exit.normal a w' := by
  simp [bodyPost, results, Try.results66, hd]
  exact ⟨h, hg⟩

set_option maxRecDepth 100000 in
theorem c_follow (b n : Nat) (l : List Opn) (s kind deal p nx : Int) (u0 u1 : Int) (k0 v0 : ByteArray) (A4 A9 A10 : Option Addr) (n4 c4 n9 c9 n10 c10 : Nat) (hs : In64 s) (hd : In64 deal) (hn : n < maxLen) (w : World) (hm : OM w b n l) :
    Calls Try.prog 66 #[.map (some b), .agg #[.int .i64 s, .int .i64 kind, .int .i64 deal, .int .i64 p, .int .i64 nx, .slice A4 n4 c4, .int .i64 u0, .int .i64 u1, .string k0, .string v0, .slice A9 n9 c9, .slice A10 n10 c10]] w fun e w' => (∃ v, e = .returned v) ∧ OM w' b (n + 1) (stepO l s kind deal) ∧ w.grownBy w' (some b) := by
  have HM := Lib.hid hm
  have HS := Lib.hid hs
  have HD := Lib.hid hd
  have HN := Lib.hid hn
  have hk : (kind = 1 ∨ kind = 2) ∨ (¬ (kind = 1 ∨ kind = 2) ∧ (kind = 3 ∨ kind = 4)) ∨ (¬ (kind = 1 ∨ kind = 2) ∧ ¬ (kind = 3 ∨ kind = 4)) := by omega
  have hst : Hid (stepO l s kind deal = if kind = 1 ∨ kind = 2 then putO l ⟨deal, s⟩ else if kind = 3 ∨ kind = 4 then delO l deal else l) := rfl
  clear hm hs hd hn
  go_enter Try.func66, Try.ntmps66
  go_wp2_with (first
    | (at_mapUpdate; refine wpList_mapUpdate_own _ rfl _ _ _ 126 rfl 3 3 (int_keyed Try.underlying3) Try.underlying126 (plainElem Try.prog 3) b n (AM l : DataW Unit) rfl (HM.out.alloc _) HN.out _ _ (.int .i64 deal) rfl rfl (keyOf_int_mk Try.underlying3 HD.out.wf) (.lit (.int .i64 s)) [] (plainElem_int Try.underlying3 HS.out.wf) ?_; intro w1 hown1 hg1; rw [AM_put l ⟨deal, s⟩] at hown1; have HO := Lib.hid hown1; have HG := Lib.hid hg1; clear hown1 hg1)
    | (at_delete; refine wpList_delete_own _ rfl _ _ 126 3 rfl 3 (int_keyed Try.underlying3) Try.underlying126 (plainElem Try.prog 3) b n (AM l : DataW Unit) rfl (HM.out.alloc _) _ _ rfl (keyOf_int_mk Try.underlying3 HD.out.wf) ?_; intro w1 hown1 hg1; rw [AM_del l deal] at hown1; have HO := Lib.hid hown1; have HG := Lib.hid hg1.grown; clear hown1 hg1))
  all_goals (simp only [beq_iff_eq, beq_eq_false_iff_ne, ne_eq] at *)
  all_goals (first
    | rw [show stepO l s kind deal = putO l ⟨deal, s⟩ from by unfold stepO; rw [if_pos (by omega)]]
    | rw [show stepO l s kind deal = delO l deal from by unfold stepO; rw [if_neg (by omega), if_pos (by omega)]]
    | rw [show stepO l s kind deal = l from by unfold stepO; rw [if_neg (by omega), if_neg (by omega)]])
  all_goals (refine follow_end ?_ ?_ ?_)
  all_goals (first | rfl | skip)
  · exact HO.out
  · exact World.grownBy.trans (World.grownBy_alloc w _ _) HG.out
  · exact HO.out
  · exact World.grownBy.trans (World.grownBy_alloc w _ _) HG.out
  · exact HO.out.mono (Nat.le_succ _)
  · exact World.grownBy.trans (World.grownBy_alloc w _ _) HG.out
  · exact HO.out.mono (Nat.le_succ _)
  · exact World.grownBy.trans (World.grownBy_alloc w _ _) HG.out
  · exact (HM.out.alloc _).mono (Nat.le_succ _)
  · exact World.grownBy_alloc w _ _
end Go.Proofs.Ytkcckhlchjmkkaa
