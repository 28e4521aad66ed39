/-
  No cell of these rows narrows 'for every input' (looked for: loops, veiled, ifaces, maps, wideKeys, modest, calm, conditions, laid).
  DERIVED. THE GIVEN ROWS OF THIS SEAT. 9 by the template 'for every input the law returns true; each argument reads behind the call as it read before'; 0 by the template 'total and deterministic' (their statements: YtkcckhlchjmkkaaTotals.lean).
  GIVEN WITH THE SEED: the statements are not yours to turn. If you find one false, say at which input.
  Laid BY PROGRAM, IN A SANDBOX (cutbox-rows.mjs): the forced cells as the released guide's own fill.sh prints them over the translation 7d89d404e1fa9289… (all of the seat's roots in one cut). By AI agents, Wed Nov 11 2026. No macro, syntax, notation, axiom, sorry.
-/
import Derived.Test.YtkcckhlchjmkkaaChecked
import GoSem.Claim
import GoSem.ClaimJoined
import GoSem.ClaimMapViews
import Derived.JoinedTies
import Derived.KernelRfl
namespace Go.Proofs.Ytkcckhlchjmkkaa
/- THE CELL 'sum', in the pinned program and in every row, IS THE sha256 OF THE DUMP (.gsa) THAT YtkcckhlchjmkkaaProg.lean LOADS. Nothing in Lean hashes anything: it is a label: what it is worth is what the hold of that sum in a sandbox is worth. -/
noncomputable def Try.pinned : Pinned := { name := "ytkcckhlchjmkkaa", sum := "7d89d404e1fa9289a58524ffcbce1e724cbfce3e76b816b05b6be73b62f19d0d", checked := Try.checked }
namespace Rows
def none {H : Type} : Left H := { results := [], args := [] }

/-- 'gaugerlaw15.WideExact': WHATEVER THE INPUT: true; the input reads as it did. -/
def wideExactSpec : ChangeSpec := { name := "wideExact", fn := fun _ => fun
  | [d1, d2, d3, d4] => { results := [.lit (.bool true)], args := [d1, d2, d3, d4] }
  | _ => none }
def wideExactRow : OpenClaim := { program := "ytkcckhlchjmkkaa", sum := "7d89d404e1fa9289a58524ffcbce1e724cbfce3e76b816b05b6be73b62f19d0d", func := "gauger/gaugerlaw15.WideExact", spec := "wideExact", inPlace := ["math/bits.Add64", "math/bits.Sub64"], apart := false }
def WideExactSaid : Prop := wideExactRow.holds Try.pinned (OpenSpec.ofChange wideExactSpec)

/-- ITS FALSE NEIGHBOUR: 'it returns false'. Refute it at one input. -/
def wideExactWrong : ChangeSpec := { name := "wideExact", fn := fun _ => fun
  | [d1, d2, d3, d4] => { results := [.lit (.bool false)], args := [d1, d2, d3, d4] }
  | _ => none }
def WideExactWrongFalsely : Prop := wideExactRow.holds Try.pinned (OpenSpec.ofChange wideExactWrong)

/-- 'gaugerlaw15.WideLaws': WHATEVER THE INPUT: true; the input reads as it did. -/
def wideLawsSpec : ChangeSpec := { name := "wideLaws", fn := fun _ => fun
  | [d1, d2, d3, d4, d5] => { results := [.lit (.bool true)], args := [d1, d2, d3, d4, d5] }
  | _ => none }
def wideLawsRow : OpenClaim := { program := "ytkcckhlchjmkkaa", sum := "7d89d404e1fa9289a58524ffcbce1e724cbfce3e76b816b05b6be73b62f19d0d", func := "gauger/gaugerlaw15.WideLaws", spec := "wideLaws", inPlace := ["math/bits.Add64", "math/bits.Sub64"], apart := false }
def WideLawsSaid : Prop := wideLawsRow.holds Try.pinned (OpenSpec.ofChange wideLawsSpec)

/-- ITS FALSE NEIGHBOUR: 'it returns false'. Refute it at one input. -/
def wideLawsWrong : ChangeSpec := { name := "wideLaws", fn := fun _ => fun
  | [d1, d2, d3, d4, d5] => { results := [.lit (.bool false)], args := [d1, d2, d3, d4, d5] }
  | _ => none }
def WideLawsWrongFalsely : Prop := wideLawsRow.holds Try.pinned (OpenSpec.ofChange wideLawsWrong)

/-- 'gaugerlaw22.MarkExact': WHATEVER THE INPUT: true; the input reads as it did. -/
def markExactSpec : ChangeSpec := { name := "markExact", fn := fun _ => fun
  | [d] => { results := [.lit (.bool true)], args := [d] }
  | _ => none }
def markExactRow : OpenClaim := { program := "ytkcckhlchjmkkaa", sum := "7d89d404e1fa9289a58524ffcbce1e724cbfce3e76b816b05b6be73b62f19d0d", func := "gauger/gaugerlaw22.MarkExact", spec := "markExact", unfollowed := true, recurses := true, apart := false }
def MarkExactSaid : Prop := markExactRow.holds Try.pinned (OpenSpec.ofChange markExactSpec)

/-- ITS FALSE NEIGHBOUR: 'it returns false'. Refute it at one input. -/
def markExactWrong : ChangeSpec := { name := "markExact", fn := fun _ => fun
  | [d] => { results := [.lit (.bool false)], args := [d] }
  | _ => none }
def MarkExactWrongFalsely : Prop := markExactRow.holds Try.pinned (OpenSpec.ofChange markExactWrong)

/-- 'gaugerlaw22.MarkSame': WHATEVER THE INPUT: true; the input reads as it did. -/
def markSameSpec : ChangeSpec := { name := "markSame", fn := fun _ => fun
  | [d1, d2, d3] => { results := [.lit (.bool true)], args := [d1, d2, d3] }
  | _ => none }
def markSameRow : OpenClaim := { program := "ytkcckhlchjmkkaa", sum := "7d89d404e1fa9289a58524ffcbce1e724cbfce3e76b816b05b6be73b62f19d0d", func := "gauger/gaugerlaw22.MarkSame", spec := "markSame", unfollowed := true, recurses := true, apart := false }
def MarkSameSaid : Prop := markSameRow.holds Try.pinned (OpenSpec.ofChange markSameSpec)

/-- ITS FALSE NEIGHBOUR: 'it returns false'. Refute it at one input. -/
def markSameWrong : ChangeSpec := { name := "markSame", fn := fun _ => fun
  | [d1, d2, d3] => { results := [.lit (.bool false)], args := [d1, d2, d3] }
  | _ => none }
def MarkSameWrongFalsely : Prop := markSameRow.holds Try.pinned (OpenSpec.ofChange markSameWrong)

/-- 'gaugerlaw22.MarkEnds': WHATEVER THE INPUT: true; the input reads as it did. -/
def markEndsSpec : ChangeSpec := { name := "markEnds", fn := fun _ => fun
  | [d1, d2] => { results := [.lit (.bool true)], args := [d1, d2] }
  | _ => none }
def markEndsRow : OpenClaim := { program := "ytkcckhlchjmkkaa", sum := "7d89d404e1fa9289a58524ffcbce1e724cbfce3e76b816b05b6be73b62f19d0d", func := "gauger/gaugerlaw22.MarkEnds", spec := "markEnds", unfollowed := true, recurses := true, apart := false }
def MarkEndsSaid : Prop := markEndsRow.holds Try.pinned (OpenSpec.ofChange markEndsSpec)

/-- ITS FALSE NEIGHBOUR: 'it returns false'. Refute it at one input. -/
def markEndsWrong : ChangeSpec := { name := "markEnds", fn := fun _ => fun
  | [d1, d2] => { results := [.lit (.bool false)], args := [d1, d2] }
  | _ => none }
def MarkEndsWrongFalsely : Prop := markEndsRow.holds Try.pinned (OpenSpec.ofChange markEndsWrong)

/-- 'gaugerlaw35.ArkExact': WHATEVER THE INPUT: true; the input reads as it did. -/
def arkExactSpec : ChangeSpec := { name := "arkExact", fn := fun _ => fun
  | [d1, d2, d3] => { results := [.lit (.bool true)], args := [d1, d2, d3] }
  | _ => none }
def arkExactRow : OpenClaim := { program := "ytkcckhlchjmkkaa", sum := "7d89d404e1fa9289a58524ffcbce1e724cbfce3e76b816b05b6be73b62f19d0d", func := "gauger/gaugerlaw35.ArkExact", spec := "arkExact", inPlace := ["internal/abi.NoEscape", "internal/bytealg.MakeNoZero"], unfollowed := true, recurses := true, apart := false }
def ArkExactSaid : Prop := arkExactRow.holds Try.pinned (OpenSpec.ofChange arkExactSpec)

/-- ITS FALSE NEIGHBOUR: 'it returns false'. Refute it at one input. -/
def arkExactWrong : ChangeSpec := { name := "arkExact", fn := fun _ => fun
  | [d1, d2, d3] => { results := [.lit (.bool false)], args := [d1, d2, d3] }
  | _ => none }
def ArkExactWrongFalsely : Prop := arkExactRow.holds Try.pinned (OpenSpec.ofChange arkExactWrong)

/-- 'gaugerlaw35.ArkBack': WHATEVER THE INPUT: true; the input reads as it did. -/
def arkBackSpec : ChangeSpec := { name := "arkBack", fn := fun _ => fun
  | [d1, d2, d3, d4] => { results := [.lit (.bool true)], args := [d1, d2, d3, d4] }
  | _ => none }
def arkBackRow : OpenClaim := { program := "ytkcckhlchjmkkaa", sum := "7d89d404e1fa9289a58524ffcbce1e724cbfce3e76b816b05b6be73b62f19d0d", func := "gauger/gaugerlaw35.ArkBack", spec := "arkBack", inPlace := ["internal/abi.NoEscape", "internal/bytealg.MakeNoZero"], unfollowed := true, recurses := true, apart := false }
def ArkBackSaid : Prop := arkBackRow.holds Try.pinned (OpenSpec.ofChange arkBackSpec)

/-- ITS FALSE NEIGHBOUR: 'it returns false'. Refute it at one input. -/
def arkBackWrong : ChangeSpec := { name := "arkBack", fn := fun _ => fun
  | [d1, d2, d3, d4] => { results := [.lit (.bool false)], args := [d1, d2, d3, d4] }
  | _ => none }
def ArkBackWrongFalsely : Prop := arkBackRow.holds Try.pinned (OpenSpec.ofChange arkBackWrong)

/-- 'gaugerlaw34.ChainExact': WHATEVER THE INPUT: true; the input reads as it did. -/
def chainExactSpec : ChangeSpec := { name := "chainExact", fn := fun _ => fun
  | [d] => { results := [.lit (.bool true)], args := [d] }
  | _ => none }
def chainExactRow : OpenClaim := { program := "ytkcckhlchjmkkaa", sum := "7d89d404e1fa9289a58524ffcbce1e724cbfce3e76b816b05b6be73b62f19d0d", func := "gauger/gaugerlaw34.ChainExact", spec := "chainExact", unfollowed := true, recurses := true, apart := false }
def ChainExactSaid : Prop := chainExactRow.holds Try.pinned (OpenSpec.ofChange chainExactSpec)

/-- ITS FALSE NEIGHBOUR: 'it returns false'. Refute it at one input. -/
def chainExactWrong : ChangeSpec := { name := "chainExact", fn := fun _ => fun
  | [d] => { results := [.lit (.bool false)], args := [d] }
  | _ => none }
def ChainExactWrongFalsely : Prop := chainExactRow.holds Try.pinned (OpenSpec.ofChange chainExactWrong)

/-- 'gaugerlaw34.ChainReads': WHATEVER THE INPUT: true; the input reads as it did. -/
def chainReadsSpec : ChangeSpec := { name := "chainReads", fn := fun _ => fun
  | [d] => { results := [.lit (.bool true)], args := [d] }
  | _ => none }
def chainReadsRow : OpenClaim := { program := "ytkcckhlchjmkkaa", sum := "7d89d404e1fa9289a58524ffcbce1e724cbfce3e76b816b05b6be73b62f19d0d", func := "gauger/gaugerlaw34.ChainReads", spec := "chainReads", inPlace := ["internal/abi.NoEscape"], unfollowed := true, recurses := true, apart := false }
def ChainReadsSaid : Prop := chainReadsRow.holds Try.pinned (OpenSpec.ofChange chainReadsSpec)

/-- ITS FALSE NEIGHBOUR: 'it returns false'. Refute it at one input. -/
def chainReadsWrong : ChangeSpec := { name := "chainReads", fn := fun _ => fun
  | [d] => { results := [.lit (.bool false)], args := [d] }
  | _ => none }
def ChainReadsWrongFalsely : Prop := chainReadsRow.holds Try.pinned (OpenSpec.ofChange chainReadsWrong)

/- THE SECOND FORM. 'bulk': how many values and letters a reading holds, each counted each time it is reached (what is shared counts as often as it is met; a slice's spare places count too). A statement '..UptoSaid' is the law's where the arguments, and the package variables that the reading takes, are together of bulk at most 1048576: NARROWER than '..Said'. Prove '..Said' where nothing that the law and all that it calls make is longer than what came in: it says more and counts as full. Else prove '..UptoSaid'. A law counts once. -/
mutual
def uptoBulk {H : Type} : DataW H → Nat
  | .lit (.string bytes) => bytes.length + 1
  | .lit _ => 1
  | .nil => 1
  | .ptr d => uptoBulk d + 1
  | .slice elems spare => uptoBulkAll elems + uptoBulkAll spare + 1
  | .agg parts => uptoBulkAll parts + 1
  | .iface _ d => uptoBulk d + 1
  | .map entries => uptoBulkEntries entries + 1
  | .held _ => 1
def uptoBulkAll {H : Type} : List (DataW H) → Nat
  | [] => 0
  | d :: r => uptoBulk d + uptoBulkAll r
def uptoBulkEntries {H : Type} : List (Lit × DataW H) → Nat
  | [] => 0
  | x :: r => uptoBulkEntry x + uptoBulkEntries r
def uptoBulkEntry {H : Type} : Lit × DataW H → Nat
  | (.string bytes, d) => bytes.length + uptoBulk d + 1
  | (_, d) => uptoBulk d + 1
 end
def uptoSmall : (H : Type) → List (DataW H) → Bool := fun _ ds => decide (uptoBulkAll ds ≤ 1048576)
def OpenSpec.upto (s : _root_.Go.ChangeSpec) : _root_.Go.OpenSpec := { _root_.Go.OpenSpec.ofChange s with cond := some uptoSmall }

/-- 'gaugerlaw15.WideExact', WHERE WHAT IT READS IS OF BULK AT MOST 1048576: true; the input reads as it did. -/
def wideExactUptoRow : OpenClaim := { program := "ytkcckhlchjmkkaa", sum := "7d89d404e1fa9289a58524ffcbce1e724cbfce3e76b816b05b6be73b62f19d0d", func := "gauger/gaugerlaw15.WideExact", spec := "wideExact", inPlace := ["math/bits.Add64", "math/bits.Sub64"], apart := false, narrowed := true }
def WideExactUptoSaid : Prop := wideExactUptoRow.holds Try.pinned (OpenSpec.upto wideExactSpec)

/-- 'gaugerlaw15.WideLaws', WHERE WHAT IT READS IS OF BULK AT MOST 1048576: true; the input reads as it did. -/
def wideLawsUptoRow : OpenClaim := { program := "ytkcckhlchjmkkaa", sum := "7d89d404e1fa9289a58524ffcbce1e724cbfce3e76b816b05b6be73b62f19d0d", func := "gauger/gaugerlaw15.WideLaws", spec := "wideLaws", inPlace := ["math/bits.Add64", "math/bits.Sub64"], apart := false, narrowed := true }
def WideLawsUptoSaid : Prop := wideLawsUptoRow.holds Try.pinned (OpenSpec.upto wideLawsSpec)

/-- 'gaugerlaw22.MarkExact', WHERE WHAT IT READS IS OF BULK AT MOST 1048576: true; the input reads as it did. -/
def markExactUptoRow : OpenClaim := { program := "ytkcckhlchjmkkaa", sum := "7d89d404e1fa9289a58524ffcbce1e724cbfce3e76b816b05b6be73b62f19d0d", func := "gauger/gaugerlaw22.MarkExact", spec := "markExact", unfollowed := true, recurses := true, apart := false, narrowed := true }
def MarkExactUptoSaid : Prop := markExactUptoRow.holds Try.pinned (OpenSpec.upto markExactSpec)

/-- 'gaugerlaw22.MarkSame', WHERE WHAT IT READS IS OF BULK AT MOST 1048576: true; the input reads as it did. -/
def markSameUptoRow : OpenClaim := { program := "ytkcckhlchjmkkaa", sum := "7d89d404e1fa9289a58524ffcbce1e724cbfce3e76b816b05b6be73b62f19d0d", func := "gauger/gaugerlaw22.MarkSame", spec := "markSame", unfollowed := true, recurses := true, apart := false, narrowed := true }
def MarkSameUptoSaid : Prop := markSameUptoRow.holds Try.pinned (OpenSpec.upto markSameSpec)

/-- 'gaugerlaw22.MarkEnds', WHERE WHAT IT READS IS OF BULK AT MOST 1048576: true; the input reads as it did. -/
def markEndsUptoRow : OpenClaim := { program := "ytkcckhlchjmkkaa", sum := "7d89d404e1fa9289a58524ffcbce1e724cbfce3e76b816b05b6be73b62f19d0d", func := "gauger/gaugerlaw22.MarkEnds", spec := "markEnds", unfollowed := true, recurses := true, apart := false, narrowed := true }
def MarkEndsUptoSaid : Prop := markEndsUptoRow.holds Try.pinned (OpenSpec.upto markEndsSpec)

/-- 'gaugerlaw35.ArkExact', WHERE WHAT IT READS IS OF BULK AT MOST 1048576: true; the input reads as it did. -/
def arkExactUptoRow : OpenClaim := { program := "ytkcckhlchjmkkaa", sum := "7d89d404e1fa9289a58524ffcbce1e724cbfce3e76b816b05b6be73b62f19d0d", func := "gauger/gaugerlaw35.ArkExact", spec := "arkExact", inPlace := ["internal/abi.NoEscape", "internal/bytealg.MakeNoZero"], unfollowed := true, recurses := true, apart := false, narrowed := true }
def ArkExactUptoSaid : Prop := arkExactUptoRow.holds Try.pinned (OpenSpec.upto arkExactSpec)

/-- 'gaugerlaw35.ArkBack', WHERE WHAT IT READS IS OF BULK AT MOST 1048576: true; the input reads as it did. -/
def arkBackUptoRow : OpenClaim := { program := "ytkcckhlchjmkkaa", sum := "7d89d404e1fa9289a58524ffcbce1e724cbfce3e76b816b05b6be73b62f19d0d", func := "gauger/gaugerlaw35.ArkBack", spec := "arkBack", inPlace := ["internal/abi.NoEscape", "internal/bytealg.MakeNoZero"], unfollowed := true, recurses := true, apart := false, narrowed := true }
def ArkBackUptoSaid : Prop := arkBackUptoRow.holds Try.pinned (OpenSpec.upto arkBackSpec)

/-- 'gaugerlaw34.ChainExact', WHERE WHAT IT READS IS OF BULK AT MOST 1048576: true; the input reads as it did. -/
def chainExactUptoRow : OpenClaim := { program := "ytkcckhlchjmkkaa", sum := "7d89d404e1fa9289a58524ffcbce1e724cbfce3e76b816b05b6be73b62f19d0d", func := "gauger/gaugerlaw34.ChainExact", spec := "chainExact", unfollowed := true, recurses := true, apart := false, narrowed := true }
def ChainExactUptoSaid : Prop := chainExactUptoRow.holds Try.pinned (OpenSpec.upto chainExactSpec)

/-- 'gaugerlaw34.ChainReads', WHERE WHAT IT READS IS OF BULK AT MOST 1048576: true; the input reads as it did. -/
def chainReadsUptoRow : OpenClaim := { program := "ytkcckhlchjmkkaa", sum := "7d89d404e1fa9289a58524ffcbce1e724cbfce3e76b816b05b6be73b62f19d0d", func := "gauger/gaugerlaw34.ChainReads", spec := "chainReads", inPlace := ["internal/abi.NoEscape"], unfollowed := true, recurses := true, apart := false, narrowed := true }
def ChainReadsUptoSaid : Prop := chainReadsUptoRow.holds Try.pinned (OpenSpec.upto chainReadsSpec)

end Rows
end Go.Proofs.Ytkcckhlchjmkkaa
