/-
  'gauger's law WitnessPasses: what comes in, and the law.
-/
import Derived.Test.YtlogcjaigjcmiaaGreatWpC
import Derived.Test.YtlogcjaigjcmiaaGreatAmW
set_option linter.unusedVariables false
set_option linter.unusedSimpArgs false
set_option maxRecDepth 100000
namespace Go.Proofs.YtlogcjaigjcmiaaGreat.AM.Wp
open Go Go.RowKit

theorem rI : ARd Tryz.prog 3 (fun v : AV => v) OkI := ard_id (ard_int Tryz.underlying3) fun n _ => ⟨n, rfl⟩
theorem rIs : ARd Tryz.prog 28 (fun v : AV => v) (Row 1 OkI) := ard_row Tryz.underlying28 (by kernel_rfl) (by omega) rI
theorem rTab : ARd Tryz.prog 30 (fun v : AV => v) OkTab :=
  ard_str (sz := 1) Tryz.underlying30 (by kernel_rfl) (ardF_one (by kernel_rfl) (by kernel_rfl) rIs) fun a h => by
    obtain ⟨es, ex, rfl, h1, h2⟩ := h
    exact ⟨es, ex, rfl, h1, h2⟩
theorem rView : ARd Tryz.prog 32 (fun v : AV => v) OkView := by
  refine ard_str (sz := 3) (α := AV × AV × AV) (en := fun x => x.1.cells ++ (x.2.1.cells ++ x.2.2.cells)) (Q := fun x => OkI x.1 ∧ OkI x.2.1 ∧ Row 1 OkI x.2.2) Tryz.underlying32 (by kernel_rfl) ?_ fun a h => ?_
  · exact ardF_cons (sz := 1) (sz' := 2) (en := fun v : AV => v) (by kernel_rfl) (by kernel_rfl) rI (ardF_cons (sz := 1) (sz' := 1) (en := fun v : AV => v) (by kernel_rfl) (by kernel_rfl) rI (ardF_one (sz := 1) (en := fun v : AV => v) (by kernel_rfl) (by kernel_rfl) rIs))
  · obtain ⟨x, y, z⟩ := a
    obtain ⟨⟨t, rfl⟩, ⟨b, rfl⟩, es, ex, rfl, h1, h2⟩ := h
    exact ⟨t, b, es, ex, rfl, h1, h2⟩
theorem rTabs : ARd Tryz.prog 22 (fun v : AV => v) (Row 1 OkTab) := ard_row Tryz.underlying22 (by kernel_rfl) (by omega) rTab
theorem rViews : ARd Tryz.prog 23 (fun v : AV => v) (Row 3 OkView) := ard_row Tryz.underlying23 (by kernel_rfl) (by omega) rView
theorem rPlan : ARd Tryz.prog 25 (fun v : AV => v) OkPlan := by
  refine ard_str (sz := 2) (α := AV × AV) (en := fun x => x.1.cells ++ x.2.cells) (Q := fun x => Row 1 OkTab x.1 ∧ Row 3 OkView x.2) Tryz.underlying25 (by kernel_rfl) ?_ fun a h => ?_
  · exact ardF_cons (sz := 1) (sz' := 1) (en := fun v : AV => v) (by kernel_rfl) (by kernel_rfl) rTabs (ardF_one (sz := 1) (en := fun v : AV => v) (by kernel_rfl) (by kernel_rfl) rViews)
  · obtain ⟨x, y⟩ := a
    obtain ⟨⟨ts, ex, rfl, h1, h2⟩, vs, ex', rfl, h3, h4⟩ := h
    exact ⟨.ro ts 1 ex, vs, ex', rfl, ⟨ts, ex, rfl, h1, h2⟩, h3, h4⟩
theorem law (e : Int) (w : World) {z : AV} {cs : Array Value} (hL : LRel (Lies w) (fun _ => none) w z.cells (Value.agg cs).cells.toList) (hz : OkPlan z) :
    Calls Tryz.prog 7 #[.int .i64 e, .agg cs] w fun e w' => e = .returned (.bool true) ∧ RowKit.Below w.heap.size w w' := by
  obtain ⟨h', lo, n, hc⟩ := law_cl e hz
  obtain ⟨ts, vs, ex, rfl, _⟩ := hz
  exact law_true K3 (n := n) (by rw [hc]; rfl) (by kernel_rfl) (S := Lies w) (fun b hb => hb) (LRel.cons .int (LRel.cons (ard_agg hL) LRel.nil))
end Go.Proofs.YtlogcjaigjcmiaaGreat.AM.Wp
