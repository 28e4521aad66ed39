/-
  CONTRACTS OF THE SHELF AT THIS DUMP, in plain words (written by the kit's lay-plain.mjs).
-/
import Derived.Shelf.Strings.Builder1
import Derived.Shelf.Strings.Builder2
import Derived.Shelf.Strings.Repeat
import Derived.Test.YtkcckhlchjmkkaaProg
namespace Go.Proofs.Ytkcckhlchjmkkaa
open Go.Shelf
def lays169_ren : Go.Shelf.Ren := ⟨fun | 169 => 76 | n => n, fun | 70 => 141 | 9 => 9 | 0 => 0 | 72 => 143 | 37 => 120 | 127 => 205 | 3 => 3 | 5 => 5 | n => n, fun | n => n⟩
theorem lays169 : Go.Proofs.Lays.n169 Try.prog lays169_ren := {
  mixed := by kernel_rfl
  f169 := Try.func76.trans (congrArg some (by kernel_rfl))
  t0 := Try.underlying0
  a0 := Try.isAgg0
  z0 := Try.sizeOf0
  v0 := Try.zeroValue0
  t3 := Try.underlying3
  a3 := Try.isAgg3
  z3 := Try.sizeOf3
  v3 := Try.zeroValue3
  t9 := Try.underlying9
  a9 := Try.isAgg9
  z9 := Try.sizeOf9
  v9 := Try.zeroValue9
  t37 := Try.underlying120
  a37 := Try.isAgg120
  z37 := Try.sizeOf120
  v37 := Try.zeroValue120
  t70 := Try.underlying141
  a70 := Try.isAgg141
  z70 := Try.sizeOf141
  v70 := Try.zeroValue141
  t72 := Try.underlying143
  a72 := Try.isAgg143
  z72 := Try.sizeOf143
  v72 := Try.zeroValue143
  t127 := Try.underlying205
  a127 := Try.isAgg205
  z127 := Try.sizeOf205
  v127 := Try.zeroValue205 }
theorem Builder_Extra_169 : Builder.Extra Try.prog lays169_ren := {
  sizeBuilder := by kernel_rfl
  liesBuilder := by kernel_rfl
  t5 := Try.underlying5
  a5 := Try.isAgg5
  z5 := Try.sizeOf5
  v5 := Try.zeroValue5
  infoByte := by kernel_rfl
  cellsByte := by kernel_rfl
  sizeByte := by kernel_rfl
  neB5 := by decide }
open Go.RowKit in
/-- (*strings.Builder).String: "String returns the accumulated string.": WHATEVER THE BUILDER HOLDS. (LAID: no walk: one application.) -/
theorem Builder_String_any (B b : Nat) (l : List UInt8) (w : World) (h : Lib.IsBuilder 143 5 B b (Lib.byteCells l) w) (hBw : B ≤ w.heap.size) :
    Calls Try.prog 76 #[.pointer (some ⟨b, 0, none⟩)] w fun e w' => e = .returned (.string ⟨l.toArray⟩) ∧ Below B w w' := Any.Builder_String_any lays169 Builder_Extra_169 B b l w h hBw
def lays105_ren : Go.Shelf.Ren := ⟨fun | 105 => 154 | 212 => 186 | 99 => 187 | 165 => 188 | 166 => 74 | 170 => 189 | 169 => 76 | 263 => 201 | 264 => 60 | 206 => 202 | 240 => 113 | 241 => 203 | 276 => 152 | 277 => 205 | n => n, fun | 9 => 9 | 3 => 3 | 4 => 4 | 20 => 20 | 0 => 0 | 46 => 68 | 109 => 281 | 5 => 5 | 72 => 143 | 76 => 146 | 51 => 157 | 146 => 294 | 53 => 22 | 148 => 113 | 70 => 141 | 37 => 120 | 75 => 145 | 127 => 205 | 164 => 244 | 80 => 151 | n => n, fun | n => n⟩
theorem lays105 : Go.Proofs.Lays.n105 Try.prog lays105_ren := {
  mixed := by kernel_rfl
  f99 := Try.func187.trans (congrArg some (by kernel_rfl))
  f105 := Try.func154.trans (congrArg some (by kernel_rfl))
  f165 := Try.func188.trans (congrArg some (by kernel_rfl))
  f166 := Try.func74.trans (congrArg some (by kernel_rfl))
  f169 := Try.func76.trans (congrArg some (by kernel_rfl))
  f170 := Try.func189.trans (congrArg some (by kernel_rfl))
  f206 := Try.func202.trans (congrArg some (by kernel_rfl))
  f212 := Try.func186.trans (congrArg some (by kernel_rfl))
  f240 := Try.func113.trans (congrArg some (by kernel_rfl))
  f241 := Try.func203.trans (congrArg some (by kernel_rfl))
  f263 := Try.func201.trans (congrArg some (by kernel_rfl))
  f264 := Try.func60.trans (congrArg some (by kernel_rfl))
  f276 := Try.func152.trans (congrArg some (by kernel_rfl))
  f277 := Try.func205.trans (congrArg some (by kernel_rfl))
  t0 := Try.underlying0
  a0 := Try.isAgg0
  z0 := Try.sizeOf0
  v0 := Try.zeroValue0
  t3 := Try.underlying3
  a3 := Try.isAgg3
  z3 := Try.sizeOf3
  v3 := Try.zeroValue3
  t4 := Try.underlying4
  a4 := Try.isAgg4
  z4 := Try.sizeOf4
  v4 := Try.zeroValue4
  t5 := Try.underlying5
  a5 := Try.isAgg5
  z5 := Try.sizeOf5
  v5 := Try.zeroValue5
  t9 := Try.underlying9
  a9 := Try.isAgg9
  z9 := Try.sizeOf9
  v9 := Try.zeroValue9
  t20 := Try.underlying20
  a20 := Try.isAgg20
  z20 := Try.sizeOf20
  v20 := Try.zeroValue20
  t37 := Try.underlying120
  a37 := Try.isAgg120
  z37 := Try.sizeOf120
  v37 := Try.zeroValue120
  t46 := Try.underlying68
  a46 := Try.isAgg68
  z46 := Try.sizeOf68
  v46 := Try.zeroValue68
  t51 := Try.underlying157
  a51 := Try.isAgg157
  z51 := Try.sizeOf157
  v51 := Try.zeroValue157
  t53 := Try.underlying22
  a53 := Try.isAgg22
  z53 := Try.sizeOf22
  v53 := Try.zeroValue22
  t70 := Try.underlying141
  a70 := Try.isAgg141
  z70 := Try.sizeOf141
  v70 := Try.zeroValue141
  t72 := Try.underlying143
  a72 := Try.isAgg143
  z72 := Try.sizeOf143
  v72 := Try.zeroValue143
  t75 := Try.underlying145
  a75 := Try.isAgg145
  z75 := Try.sizeOf145
  v75 := Try.zeroValue145
  t76 := Try.underlying146
  a76 := Try.isAgg146
  z76 := Try.sizeOf146
  v76 := Try.zeroValue146
  t109 := Try.underlying281
  a109 := Try.isAgg281
  z109 := Try.sizeOf281
  v109 := Try.zeroValue281
  t127 := Try.underlying205
  a127 := Try.isAgg205
  z127 := Try.sizeOf205
  v127 := Try.zeroValue205
  t146 := Try.underlying294
  a146 := Try.isAgg294
  z146 := Try.sizeOf294
  v146 := Try.zeroValue294
  t148 := Try.underlying113
  a148 := Try.isAgg113
  z148 := Try.sizeOf113
  v148 := Try.zeroValue113
  t164 := Try.underlying244
  a164 := Try.isAgg244
  z164 := Try.sizeOf244
  v164 := Try.zeroValue244 }
theorem Builder_Extra_105 : Builder.Extra Try.prog lays105_ren := {
  sizeBuilder := by kernel_rfl
  liesBuilder := by kernel_rfl
  t5 := Try.underlying5
  a5 := Try.isAgg5
  z5 := Try.sizeOf5
  v5 := Try.zeroValue5
  infoByte := by kernel_rfl
  cellsByte := by kernel_rfl
  sizeByte := by kernel_rfl
  neB5 := by decide }
open Go.RowKit Go.Lib in
/-- **strings.Repeat: count ≥ 0, the result within one allocation: count copies of s.** (LAID: no walk: one application.) -/
theorem strings_Repeat (s : ByteArray) (c : Nat) (w : World) (hc : c ≤ 9223372036854775807) (hlen : s.size * c ≤ 140737488355328) :
    Calls Try.prog 154 #[.string s, .int .i64 c] w fun e w' => e = .returned (.string ⟨(Lib.repeatL s.data.toList c).toArray⟩) ∧ Below w.heap.size w w' := Any.strings_Repeat lays105 Builder_Extra_105 s c w hc hlen
end Go.Proofs.Ytkcckhlchjmkkaa
