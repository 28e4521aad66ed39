/-
  'gauger's law ChainExact holds of every input: it returns true, and each argument reads behind the call as it read before.
  This text: part 14 of 14 of the proof (LawChainExact).
-/
import Derived.Test.YtlhbfikfnecknaaMam
import Derived.Test.YtlhbfikfnecknaaRows
import Derived.SizedLaws
import Derived.ChangeSlices
import Derived.WalkKit
import Derived.ProofKit
import Derived.OpenShut
import Derived.ShutString
import Derived.ChangeOld
import Derived.Below
import Derived.Lib.SmallJoins
set_option linter.unusedVariables false
set_option linter.unusedSimpArgs false
namespace Go.Proofs.Ytlhbfikfnecknaa.chainExactR
open Go.ChangeShapes Go.WideShapes Go.ChangeAt Go.RowKit Go.Joins Go.Proofs.YtlhbfikfnecknaaW.PrintWords
open Go.ChangeMaps (open_string shut_string)
theorem own : ownKnob Try.prog.godebug = none := by kernel_rfl
theorem laidOut : laidOutB Try.prog = true := by kernel_rfl
set_option maxRecDepth 100000 in
theorem lifted (os : Os) (started : os.Started) (H : Type) (enc : TypeId × Value → H) :
  ReturnsInHanded {} Try.checked os 3 .any (Rows.chainExactSpec.pre6 enc Try.prog Try.f3 Rows.chainExactRow.domain false) (Rows.chainExactSpec.post enc Try.prog Try.f3 false true false false) := by
 refine returnsInHanded_of_change_sized (C := Try.checked) own started (by kernel_rfl) Try.func3
  (ChangeSpec.witness6 (enc := enc) (C := Try.checked) false ⟨#[], #[.slice none 0 0], []⟩ 8 (by kernel_rfl) (by kernel_rfl) (by kernel_rfl) (by kernel_rfl)) ?_
 intro W base args ds gs before hval0 hW hcnd hsz0 _
 have hsz : (DataW.weightsEach Try.prog (Try.f3.params.toList ++ Rows.chainExactSpec.plain.varTypes Try.prog) (ds ++ gs)).all (· ≤ reachBytes) = true := hsz0
 have hval : ∀ (j : Nat) t v, Try.f3.params[j]? = some t → args[j]? = some v → Value.okWide Try.prog W .any base t v := hval0
 have hW' := hW
 obtain ⟨p, q, hA0, hV, rfl, hfz, hnd⟩ := hW
 have hA : DataW.TrodAll enc Try.prog W 0 (fun _ => true) true Try.f3.params.toList args.toList ds p := hA0
 rw [Try.params3] at hA hval hsz
 obtain ⟨v0, vs0, d0, ds0, p0, q0, hargs, rfl, rfl, h0, r0⟩ := trodAll_cons hA
 obtain ⟨rfl, rfl, rfl⟩ := trodAll_nil r0
 obtain rfl : args = #[v0] := by cases args; simp_all
 obtain ⟨rfl, rfl⟩ := trodVars_none hV
 obtain ⟨a0, len0, cap0, rfl⟩ := okWide_slice Try.underlying22 (hval 0 22 v0 rfl rfl)
 have k0 := h0
 have lt0 : ∀ x ∈ p0, x.block < W.heap.size := by obtain ⟨m, hm⟩ := k0; exact DataW.trod_lt m _ _ _ hm
 obtain ⟨z0, L0, Q0⟩ := AM.ard_arg AM.Ch.rStms h0
 clear hA0 hval0 hsz0
 refine (AM.Ch.law L0 Q0).mono fun e W' ⟨he, bel⟩ => ?_
 subst he
 exact ⟨_, rfl, _, _, _, [], _, [], hW', trodAll_mk1 (shut_bool Try.underlying4 _), (trodAll_cons_mk (Below.trod laidOut (by kernel_rfl) (of_decide_eq_true (by kernel_rfl)) k0 bel lt0) trodAll_mk0), rfl, bel.frame _, fun h => by cases h⟩
theorem fNamed : Try.prog.funcNamed Rows.chainExactRow.func = some 3 := by kernel_rfl
theorem f_inPlace : (Rows.chainExactRow.inPlace == Try.prog.inPlace 3) = true := by kernel_rfl
theorem f_unfollowed : (Rows.chainExactRow.unfollowed == Try.prog.unfollowed 3) = true := by kernel_rfl
theorem f_recurses : (Rows.chainExactRow.recurses == Try.prog.recurses 3) = true := by kernel_rfl
theorem f_named : (Rows.chainExactRow.named == Try.prog.varsNamed 3) = true := by kernel_rfl
theorem facts : joinedFacts Try.prog 3 Try.f3 Rows.chainExactSpec Rows.chainExactRow = true := by
 unfold joinedFacts
 rw [f_inPlace, f_unfollowed, f_recurses, f_named]
 kernel_rfl
theorem over : Rows.chainExactRow.holds Try.pinned (OpenSpec.ofChange Rows.chainExactSpec) :=
 OpenClaim.holds_of_wide 3 Try.f3 rfl rfl rfl rfl rfl rfl rfl ⟨rfl, rfl, rfl, rfl, rfl⟩ rfl rfl rfl rfl rfl fNamed Try.func3 facts
  (of_decide_eq_true (by kernel_rfl)) (by unfold Func.isWrapper; first | (rw [if_pos (by decide +kernel)]; kernel_rfl) | (rw [if_neg (by decide +kernel)]; exact ⟨rfl, rfl⟩))
  (fun os started H enc _ => lifted os started H enc)
end Go.Proofs.Ytlhbfikfnecknaa.chainExactR
namespace Go.Proofs.Ytlhbfikfnecknaa
theorem chainExact_holds : Rows.ChainExactSaid := chainExactR.over
end Go.Proofs.Ytlhbfikfnecknaa
