/-
  'gauger's law WitnessPasses holds of every input: it returns true, and each argument reads behind the call as it read before.
-/
import Derived.Test.YtlogcjaigjcmiaaGreatWpD
import Derived.Test.YtlogcjaigjcmiaaGreatRows
import Derived.SizedLaws
import Derived.ChangeSlices
import Derived.WalkKit
import Derived.ProofKit
import Derived.OpenShut
import Derived.ShutString
import Derived.ChangeOld
import Derived.Below
import Derived.Lib.SmallJoins
set_option linter.unusedVariables false
set_option linter.unusedSimpArgs false
namespace Go.Proofs.YtlogcjaigjcmiaaGreat.witnessPassesR
open Go.ChangeShapes Go.WideShapes Go.ChangeAt Go.RowKit Go.Joins Go.Proofs.YtlogcjaigjcmiaaGreatW.PrintWords
open Go.ChangeMaps (open_string shut_string)
theorem own : ownKnob Tryz.prog.godebug = none := by kernel_rfl
theorem laidOut : laidOutB Tryz.prog = true := by kernel_rfl
set_option maxRecDepth 100000 in
theorem lifted (os : Os) (started : os.Started) (H : Type) (enc : TypeId × Value → H) :
    ReturnsInHanded {} Tryz.checked os 7 .any (Rows.witnessPassesSpec.pre6 enc Tryz.prog Tryz.f7 Rows.witnessPassesRow.domain false) (Rows.witnessPassesSpec.post enc Tryz.prog Tryz.f7 false true false false) := by
  refine returnsInHanded_of_change_sized (C := Tryz.checked) own started (by kernel_rfl) Tryz.func7
    (ChangeSpec.witness6 (enc := enc) (C := Tryz.checked) false ⟨#[], #[.int .i64 0, .agg #[.slice none 0 0, .slice none 0 0]], []⟩ 8 (by kernel_rfl) (by kernel_rfl) (by kernel_rfl) (by kernel_rfl)) ?_
  intro W base args ds gs before hval0 hW hcnd hsz0 _
  have hsz : (DataW.weightsEach Tryz.prog (Tryz.f7.params.toList ++ Rows.witnessPassesSpec.plain.varTypes Tryz.prog) (ds ++ gs)).all (· ≤ reachBytes) = true := hsz0
  have hval : ∀ (j : Nat) t v, Tryz.f7.params[j]? = some t → args[j]? = some v → Value.okWide Tryz.prog W .any base t v := hval0
  have hW' := hW
  obtain ⟨p, q, hA0, hV, rfl, hfz, hnd⟩ := hW
  have hA : DataW.TrodAll enc Tryz.prog W 0 (fun _ => true) true Tryz.f7.params.toList args.toList ds p := hA0
  rw [Tryz.params7] at hA hval hsz
  obtain ⟨v0, vs0, d0, ds0, p0, q0, hargs, rfl, rfl, h0, r0⟩ := trodAll_cons hA
  obtain ⟨v1, vs1, d1, ds1, p1, q1, rfl, rfl, rfl, h1, r1⟩ := trodAll_cons r0
  obtain ⟨rfl, rfl, rfl⟩ := trodAll_nil r1
  obtain rfl : args = #[v0, v1] := by cases args; simp_all
  obtain ⟨rfl, rfl⟩ := trodVars_none hV
  obtain ⟨a0, rfl, rfl, rfl, w0⟩ := open_int Tryz.underlying46 (hval 0 46 v0 rfl rfl) h0
  obtain ⟨cs1, rfl, sz1⟩ := okWide_struct Tryz.underlying25 (hval 1 25 v1 rfl rfl)
  have k1 := h1
  have lt1 : ∀ x ∈ p1, x.block < W.heap.size := by obtain ⟨m, hm⟩ := k1; exact DataW.trod_lt m _ _ _ hm
  obtain ⟨z1, L1, Q1⟩ := AM.ard_arg AM.Wp.rPlan h1
  clear hA0 hval0 hsz0
  refine (AM.Wp.law a0 W L1 Q1).mono fun e W' ⟨he, bel⟩ => ?_
  subst he
  exact ⟨_, rfl, _, _, _, [], _, [], hW', trodAll_mk1 (shut_bool Tryz.underlying4 _), (trodAll_cons_mk (shut_int Tryz.underlying46 w0) (trodAll_cons_mk (Below.trod laidOut (by kernel_rfl) (of_decide_eq_true (by kernel_rfl)) k1 bel lt1) trodAll_mk0)), rfl, bel.frame _, fun h => by cases h⟩
theorem fNamed : Tryz.prog.funcNamed Rows.witnessPassesRow.func = some 7 := by kernel_rfl
theorem f_inPlace : (Rows.witnessPassesRow.inPlace == Tryz.prog.inPlace 7) = true := by kernel_rfl
theorem f_unfollowed : (Rows.witnessPassesRow.unfollowed == Tryz.prog.unfollowed 7) = true := by kernel_rfl
theorem f_recurses : (Rows.witnessPassesRow.recurses == Tryz.prog.recurses 7) = true := by kernel_rfl
theorem f_named : (Rows.witnessPassesRow.named == Tryz.prog.varsNamed 7) = true := by kernel_rfl
theorem facts : joinedFacts Tryz.prog 7 Tryz.f7 Rows.witnessPassesSpec Rows.witnessPassesRow = true := by
  unfold joinedFacts
  rw [f_inPlace, f_unfollowed, f_recurses, f_named]
  kernel_rfl
theorem over : Rows.witnessPassesRow.holds Tryz.pinned (OpenSpec.ofChange Rows.witnessPassesSpec) :=
  OpenClaim.holds_of_wide 7 Tryz.f7 rfl rfl rfl rfl rfl rfl rfl ⟨rfl, rfl, rfl, rfl, rfl⟩ rfl rfl rfl rfl rfl fNamed Tryz.func7 facts
    (of_decide_eq_true (by kernel_rfl)) (by unfold Func.isWrapper; first | (rw [if_pos (by decide +kernel)]; kernel_rfl) | (rw [if_neg (by decide +kernel)]; exact ⟨rfl, rfl⟩))
    (fun os started H enc _ => lifted os started H enc)
end Go.Proofs.YtlogcjaigjcmiaaGreat.witnessPassesR
namespace Go.Proofs.YtlogcjaigjcmiaaGreat
theorem witnessPasses_holds : Rows.WitnessPassesSaid := witnessPassesR.over
end Go.Proofs.YtlogcjaigjcmiaaGreat
