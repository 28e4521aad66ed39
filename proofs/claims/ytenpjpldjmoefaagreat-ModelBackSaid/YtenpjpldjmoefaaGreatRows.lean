/-
  No cell of these rows narrows 'for every input' (looked for: loops, veiled, ifaces, maps, wideKeys, modest, calm, conditions, laid).
  DERIVED. THE GIVEN ROWS OF THIS SEAT. 4 by the template 'for every input the law returns true; each argument reads behind the call as it read before'; 0 by the template 'total and deterministic' (their statements: YtenpjpldjmoefaaGreatTotals.lean).
  GIVEN WITH THE SEED: the statements are not yours to turn. If you find one false, say at which input.
  Laid BY PROGRAM, IN A SANDBOX (cutbox-rows.mjs): the forced cells as the released guide's own fill.sh prints them over the translation 10ec98df31a309d4… (all of the seat's roots in one cut). By AI agents, Wed Nov 11 2026. No macro, syntax, notation, axiom, sorry.
-/
import Derived.Test.YtenpjpldjmoefaaGreatChecked
import GoSem.Claim
import GoSem.ClaimJoined
import GoSem.ClaimMapViews
import Derived.JoinedTies
import Derived.KernelRfl
namespace Go.Proofs.YtenpjpldjmoefaaGreat
/- THE CELL 'sum', in the pinned program and in every row, IS THE sha256 OF THE DUMP (.gsa) THAT YtenpjpldjmoefaaGreatProg.lean LOADS. Nothing in Lean hashes anything: it is a label: what it is worth is what the hold of that sum in a sandbox is worth. -/
noncomputable def Tryz.pinned : Pinned := { name := "ytenpjpldjmoefaagreat", sum := "10ec98df31a309d438b74c137446c02bcc473d4910535815e0573f1c6cc67fa1", checked := Tryz.checked }
namespace Rows
def none {H : Type} : Left H := { results := [], args := [] }

/-- 'gaugerlaw30.ModelExact': WHATEVER THE INPUT: true; the input reads as it did. -/
def modelExactSpec : ChangeSpec := { name := "modelExact", fn := fun _ => fun
  | [d1, d2, d3] => { results := [.lit (.bool true)], args := [d1, d2, d3] }
  | _ => none }
def modelExactRow : OpenClaim := { program := "ytenpjpldjmoefaagreat", sum := "10ec98df31a309d438b74c137446c02bcc473d4910535815e0573f1c6cc67fa1", func := "gauger/gaugerlaw30.ModelExact", spec := "modelExact", inPlace := ["slices.overlaps[[]gauger/api.Value]", "internal/abi.NoEscape", "internal/bytealg.MakeNoZero", "math/bits.Sub64", "math/bits.Add64"], unfollowed := true, recurses := true, apart := false }
def ModelExactSaid : Prop := modelExactRow.holds Tryz.pinned (OpenSpec.ofChange modelExactSpec)

/-- ITS FALSE NEIGHBOUR: 'it returns false'. Refute it at one input. -/
def modelExactWrong : ChangeSpec := { name := "modelExact", fn := fun _ => fun
  | [d1, d2, d3] => { results := [.lit (.bool false)], args := [d1, d2, d3] }
  | _ => none }
def ModelExactWrongFalsely : Prop := modelExactRow.holds Tryz.pinned (OpenSpec.ofChange modelExactWrong)

/-- 'gaugerlaw30.ModelBack': WHATEVER THE INPUT: true; the input reads as it did. -/
def modelBackSpec : ChangeSpec := { name := "modelBack", fn := fun _ => fun
  | [d1, d2, d3] => { results := [.lit (.bool true)], args := [d1, d2, d3] }
  | _ => none }
def modelBackRow : OpenClaim := { program := "ytenpjpldjmoefaagreat", sum := "10ec98df31a309d438b74c137446c02bcc473d4910535815e0573f1c6cc67fa1", func := "gauger/gaugerlaw30.ModelBack", spec := "modelBack", inPlace := ["slices.overlaps[[]gauger/api.Value]", "internal/abi.NoEscape", "internal/bytealg.MakeNoZero", "math/bits.Sub64", "math/bits.Add64"], unfollowed := true, recurses := true, apart := false }
def ModelBackSaid : Prop := modelBackRow.holds Tryz.pinned (OpenSpec.ofChange modelBackSpec)

/-- ITS FALSE NEIGHBOUR: 'it returns false'. Refute it at one input. -/
def modelBackWrong : ChangeSpec := { name := "modelBack", fn := fun _ => fun
  | [d1, d2, d3] => { results := [.lit (.bool false)], args := [d1, d2, d3] }
  | _ => none }
def ModelBackWrongFalsely : Prop := modelBackRow.holds Tryz.pinned (OpenSpec.ofChange modelBackWrong)

/-- 'gaugerlaw30.ModelCopies': WHATEVER THE INPUT: true; the input reads as it did. -/
def modelCopiesSpec : ChangeSpec := { name := "modelCopies", fn := fun _ => fun
  | [d1, d2] => { results := [.lit (.bool true)], args := [d1, d2] }
  | _ => none }
def modelCopiesRow : OpenClaim := { program := "ytenpjpldjmoefaagreat", sum := "10ec98df31a309d438b74c137446c02bcc473d4910535815e0573f1c6cc67fa1", func := "gauger/gaugerlaw30.ModelCopies", spec := "modelCopies", inPlace := ["slices.overlaps[[]gauger/api.Value]", "internal/abi.NoEscape", "internal/bytealg.MakeNoZero", "math/bits.Sub64", "math/bits.Add64"], unfollowed := true, recurses := true, apart := false }
def ModelCopiesSaid : Prop := modelCopiesRow.holds Tryz.pinned (OpenSpec.ofChange modelCopiesSpec)

/-- ITS FALSE NEIGHBOUR: 'it returns false'. Refute it at one input. -/
def modelCopiesWrong : ChangeSpec := { name := "modelCopies", fn := fun _ => fun
  | [d1, d2] => { results := [.lit (.bool false)], args := [d1, d2] }
  | _ => none }
def ModelCopiesWrongFalsely : Prop := modelCopiesRow.holds Tryz.pinned (OpenSpec.ofChange modelCopiesWrong)

/-- 'gaugerlaw31.WitnessExact': WHATEVER THE INPUT: true; the input reads as it did. -/
def witnessExactSpec : ChangeSpec := { name := "witnessExact", fn := fun _ => fun
  | [d1, d2] => { results := [.lit (.bool true)], args := [d1, d2] }
  | _ => none }
def witnessExactRow : OpenClaim := { program := "ytenpjpldjmoefaagreat", sum := "10ec98df31a309d438b74c137446c02bcc473d4910535815e0573f1c6cc67fa1", func := "gauger/gaugerlaw31.WitnessExact", spec := "witnessExact", inPlace := ["slices.overlaps[[]gauger/api.Value]", "internal/abi.NoEscape", "internal/bytealg.MakeNoZero", "math/bits.Sub64", "math/bits.Add64"], unfollowed := true, recurses := true, apart := false }
def WitnessExactSaid : Prop := witnessExactRow.holds Tryz.pinned (OpenSpec.ofChange witnessExactSpec)

/-- ITS FALSE NEIGHBOUR: 'it returns false'. Refute it at one input. -/
def witnessExactWrong : ChangeSpec := { name := "witnessExact", fn := fun _ => fun
  | [d1, d2] => { results := [.lit (.bool false)], args := [d1, d2] }
  | _ => none }
def WitnessExactWrongFalsely : Prop := witnessExactRow.holds Tryz.pinned (OpenSpec.ofChange witnessExactWrong)

/- THE SECOND FORM. 'bulk': how many values and letters a reading holds, each counted each time it is reached (what is shared counts as often as it is met; a slice's spare places count too). A statement '..UptoSaid' is the law's where the arguments, and the package variables that the reading takes, are together of bulk at most 1048576: NARROWER than '..Said'. Prove '..Said' where nothing that the law and all that it calls make is longer than what came in: it says more and counts as full. Else prove '..UptoSaid'. A law counts once. -/
mutual
def uptoBulk {H : Type} : DataW H → Nat
  | .lit (.string bytes) => bytes.length + 1
  | .lit _ => 1
  | .nil => 1
  | .ptr d => uptoBulk d + 1
  | .slice elems spare => uptoBulkAll elems + uptoBulkAll spare + 1
  | .agg parts => uptoBulkAll parts + 1
  | .iface _ d => uptoBulk d + 1
  | .map entries => uptoBulkEntries entries + 1
  | .held _ => 1
def uptoBulkAll {H : Type} : List (DataW H) → Nat
  | [] => 0
  | d :: r => uptoBulk d + uptoBulkAll r
def uptoBulkEntries {H : Type} : List (Lit × DataW H) → Nat
  | [] => 0
  | x :: r => uptoBulkEntry x + uptoBulkEntries r
def uptoBulkEntry {H : Type} : Lit × DataW H → Nat
  | (.string bytes, d) => bytes.length + uptoBulk d + 1
  | (_, d) => uptoBulk d + 1
 end
def uptoSmall : (H : Type) → List (DataW H) → Bool := fun _ ds => decide (uptoBulkAll ds ≤ 1048576)
def OpenSpec.upto (s : _root_.Go.ChangeSpec) : _root_.Go.OpenSpec := { _root_.Go.OpenSpec.ofChange s with cond := some uptoSmall }

/-- 'gaugerlaw30.ModelExact', WHERE WHAT IT READS IS OF BULK AT MOST 1048576: true; the input reads as it did. -/
def modelExactUptoRow : OpenClaim := { program := "ytenpjpldjmoefaagreat", sum := "10ec98df31a309d438b74c137446c02bcc473d4910535815e0573f1c6cc67fa1", func := "gauger/gaugerlaw30.ModelExact", spec := "modelExact", inPlace := ["slices.overlaps[[]gauger/api.Value]", "internal/abi.NoEscape", "internal/bytealg.MakeNoZero", "math/bits.Sub64", "math/bits.Add64"], unfollowed := true, recurses := true, apart := false, narrowed := true }
def ModelExactUptoSaid : Prop := modelExactUptoRow.holds Tryz.pinned (OpenSpec.upto modelExactSpec)

/-- 'gaugerlaw30.ModelBack', WHERE WHAT IT READS IS OF BULK AT MOST 1048576: true; the input reads as it did. -/
def modelBackUptoRow : OpenClaim := { program := "ytenpjpldjmoefaagreat", sum := "10ec98df31a309d438b74c137446c02bcc473d4910535815e0573f1c6cc67fa1", func := "gauger/gaugerlaw30.ModelBack", spec := "modelBack", inPlace := ["slices.overlaps[[]gauger/api.Value]", "internal/abi.NoEscape", "internal/bytealg.MakeNoZero", "math/bits.Sub64", "math/bits.Add64"], unfollowed := true, recurses := true, apart := false, narrowed := true }
def ModelBackUptoSaid : Prop := modelBackUptoRow.holds Tryz.pinned (OpenSpec.upto modelBackSpec)

/-- 'gaugerlaw30.ModelCopies', WHERE WHAT IT READS IS OF BULK AT MOST 1048576: true; the input reads as it did. -/
def modelCopiesUptoRow : OpenClaim := { program := "ytenpjpldjmoefaagreat", sum := "10ec98df31a309d438b74c137446c02bcc473d4910535815e0573f1c6cc67fa1", func := "gauger/gaugerlaw30.ModelCopies", spec := "modelCopies", inPlace := ["slices.overlaps[[]gauger/api.Value]", "internal/abi.NoEscape", "internal/bytealg.MakeNoZero", "math/bits.Sub64", "math/bits.Add64"], unfollowed := true, recurses := true, apart := false, narrowed := true }
def ModelCopiesUptoSaid : Prop := modelCopiesUptoRow.holds Tryz.pinned (OpenSpec.upto modelCopiesSpec)

/-- 'gaugerlaw31.WitnessExact', WHERE WHAT IT READS IS OF BULK AT MOST 1048576: true; the input reads as it did. -/
def witnessExactUptoRow : OpenClaim := { program := "ytenpjpldjmoefaagreat", sum := "10ec98df31a309d438b74c137446c02bcc473d4910535815e0573f1c6cc67fa1", func := "gauger/gaugerlaw31.WitnessExact", spec := "witnessExact", inPlace := ["slices.overlaps[[]gauger/api.Value]", "internal/abi.NoEscape", "internal/bytealg.MakeNoZero", "math/bits.Sub64", "math/bits.Add64"], unfollowed := true, recurses := true, apart := false, narrowed := true }
def WitnessExactUptoSaid : Prop := witnessExactUptoRow.holds Tryz.pinned (OpenSpec.upto witnessExactSpec)

end Rows
end Go.Proofs.YtenpjpldjmoefaaGreat
