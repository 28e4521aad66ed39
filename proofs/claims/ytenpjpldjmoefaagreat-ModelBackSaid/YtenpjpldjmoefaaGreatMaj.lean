/-
  'gauger's law ModelBack holds of every input: it returns true, and each argument reads behind the call as it read before.
  This text: part 10 of 22 of the proof (LKeys).
-/
import Derived.Shelf.SlIter.Nil
import Derived.Shelf.SortM.Plain
import Derived.Shelf.SortM.SortNone
import Derived.Ground.GgzProg
import Derived.Ground.SlgmProg
import Derived.Test.YtenpjpldjmoefaaGreatProg
namespace Go.Proofs.YtenpjpldjmoefaaGreat
open Go.Shelf
def keysA_ren : Go.Shelf.Ren := ⟨fun | 7 => 134 | 10 => 159 | n => n, fun | 23 => 184 | 26 => 9 | 3 => 147 | 28 => 218 | 0 => 0 | 27 => 217 | 33 => 236 | 4 => 4 | n => n, fun | n => n⟩
theorem keysA : Go.Proofs.SlLaysZ.n7 Tryz.prog keysA_ren := {
 mixed := by kernel_rfl
 f7 := ⟨Tryz.f134.name, by decide, Tryz.func134.trans (congrArg some (by kernel_rfl))⟩
 f10 := ⟨Tryz.f159.name, by decide, Tryz.func159.trans (congrArg some (by kernel_rfl))⟩
 t0 := Tryz.underlying0
 a0 := Tryz.isAgg0
 z0 := Tryz.sizeOf0
 v0 := Tryz.zeroValue0
 t4 := Tryz.underlying4
 a4 := Tryz.isAgg4
 z4 := Tryz.sizeOf4
 v4 := Tryz.zeroValue4
 t23 := Tryz.underlying184
 a23 := Tryz.isAgg184
 z23 := Tryz.sizeOf184
 v23 := Tryz.zeroValue184
 t26 := Tryz.underlying9
 a26 := Tryz.isAgg9
 z26 := Tryz.sizeOf9
 v26 := Tryz.zeroValue9
 t27 := Tryz.underlying217
 a27 := Tryz.isAgg217
 z27 := Tryz.sizeOf217
 v27 := Tryz.zeroValue217
 t28 := Tryz.underlying218
 a28 := Tryz.isAgg218
 z28 := Tryz.sizeOf218
 v28 := Tryz.zeroValue218
 t33 := Tryz.underlying236
 a33 := Tryz.isAgg236
 z33 := Tryz.sizeOf236
 v33 := Tryz.zeroValue236 }
def sortedA_ren : Go.Shelf.Ren := ⟨fun | 6 => 133 | 8 => 157 | 9 => 158 | 11 => 174 | 13 => 176 | 12 => 175 | 23 => 194 | 24 => 195 | 14 => 185 | 15 => 186 | 16 => 187 | 17 => 188 | 18 => 189 | 19 => 190 | 20 => 191 | 21 => 192 | 22 => 193 | 25 => 198 | 26 => 199 | 27 => 200 | 28 => 201 | 29 => 202 | 30 => 163 | 31 => 203 | n => n, fun | 26 => 9 | 28 => 218 | 24 => 215 | 0 => 0 | 3 => 3 | 37 => 204 | 48 => 261 | 50 => 142 | 4 => 4 | 40 => 268 | 39 => 267 | 45 => 172 | 5 => 5 | 9 => 9 | 51 => 278 | 55 => 282 | 57 => 284 | 58 => 285 | 33 => 236 | n => n, fun | n => n⟩
theorem sortedA : Go.Proofs.SlLaysZ.n6 Tryz.prog sortedA_ren := {
 mixed := by kernel_rfl
 f6 := ⟨Tryz.f133.name, by decide, Tryz.func133.trans (congrArg some (by kernel_rfl))⟩
 f8 := ⟨Tryz.f157.name, by decide, Tryz.func157.trans (congrArg some (by kernel_rfl))⟩
 f11 := ⟨Tryz.f174.name, by decide, Tryz.func174.trans (congrArg some (by kernel_rfl))⟩
 t0 := Tryz.underlying0
 a0 := Tryz.isAgg0
 z0 := Tryz.sizeOf0
 v0 := Tryz.zeroValue0
 t24 := Tryz.underlying215
 a24 := Tryz.isAgg215
 z24 := Tryz.sizeOf215
 v24 := Tryz.zeroValue215
 t26 := Tryz.underlying9
 a26 := Tryz.isAgg9
 z26 := Tryz.sizeOf9
 v26 := Tryz.zeroValue9
 t28 := Tryz.underlying218
 a28 := Tryz.isAgg218
 z28 := Tryz.sizeOf218
 v28 := Tryz.zeroValue218
 i26 := by kernel_rfl }
def sortA_ren : Go.Shelf.Ren := ⟨fun | 6 => 158 | 8 => 176 | 9 => 175 | 19 => 194 | 20 => 195 | 21 => 185 | 22 => 186 | 23 => 187 | 24 => 188 | 25 => 189 | 26 => 190 | 27 => 191 | 28 => 192 | 29 => 193 | 36 => 198 | 31 => 199 | 32 => 200 | 37 => 201 | 38 => 202 | 39 => 163 | 41 => 203 | n => n, fun | 27 => 215 | 29 => 9 | 3 => 3 | 32 => 204 | 26 => 215 | 0 => 0 | 44 => 261 | 46 => 142 | 4 => 4 | 36 => 268 | 35 => 267 | 41 => 172 | 5 => 5 | 9 => 9 | 53 => 278 | 57 => 282 | 63 => 284 | 64 => 285 | n => n, fun | n => n⟩
theorem sortA : Go.Proofs.SlLaysM.n6 Tryz.prog sortA_ren := {
 mixed := by kernel_rfl
 f6 := ⟨Tryz.f158.name, by decide, Tryz.func158.trans (congrArg some (by kernel_rfl))⟩
 f8 := Tryz.func176.trans (congrArg some (by kernel_rfl))
 f9 := ⟨Tryz.f175.name, by decide, Tryz.func175.trans (congrArg some (by kernel_rfl))⟩
 f19 := Tryz.func194.trans (congrArg some (by kernel_rfl))
 f20 := Tryz.func195.trans (congrArg some (by kernel_rfl))
 f21 := ⟨Tryz.f185.name, by decide, Tryz.func185.trans (congrArg some (by kernel_rfl))⟩
 f22 := ⟨Tryz.f186.name, by decide, Tryz.func186.trans (congrArg some (by kernel_rfl))⟩
 f23 := ⟨Tryz.f187.name, by decide, Tryz.func187.trans (congrArg some (by kernel_rfl))⟩
 f24 := ⟨Tryz.f188.name, by decide, Tryz.func188.trans (congrArg some (by kernel_rfl))⟩
 f25 := ⟨Tryz.f189.name, by decide, Tryz.func189.trans (congrArg some (by kernel_rfl))⟩
 f26 := ⟨Tryz.f190.name, by decide, Tryz.func190.trans (congrArg some (by kernel_rfl))⟩
 f27 := ⟨Tryz.f191.name, by decide, Tryz.func191.trans (congrArg some (by kernel_rfl))⟩
 f28 := ⟨Tryz.f192.name, by decide, Tryz.func192.trans (congrArg some (by kernel_rfl))⟩
 f29 := ⟨Tryz.f193.name, by decide, Tryz.func193.trans (congrArg some (by kernel_rfl))⟩
 f31 := Tryz.func199.trans (congrArg some (by kernel_rfl))
 f32 := Tryz.func200.trans (congrArg some (by kernel_rfl))
 f36 := ⟨Tryz.f198.name, by decide, Tryz.func198.trans (congrArg some (by kernel_rfl))⟩
 f37 := ⟨Tryz.f201.name, by decide, Tryz.func201.trans (congrArg some (by kernel_rfl))⟩
 f38 := ⟨Tryz.f202.name, by decide, Tryz.func202.trans (congrArg some (by kernel_rfl))⟩
 f39 := ⟨Tryz.f163.name, by decide, Tryz.func163.trans (congrArg some (by kernel_rfl))⟩
 f41 := ⟨Tryz.f203.name, by decide, Tryz.func203.trans (congrArg some (by kernel_rfl))⟩
 t0 := Tryz.underlying0
 a0 := Tryz.isAgg0
 z0 := Tryz.sizeOf0
 v0 := Tryz.zeroValue0
 t3 := Tryz.underlying3
 a3 := Tryz.isAgg3
 z3 := Tryz.sizeOf3
 v3 := Tryz.zeroValue3
 t4 := Tryz.underlying4
 a4 := Tryz.isAgg4
 z4 := Tryz.sizeOf4
 v4 := Tryz.zeroValue4
 t5 := Tryz.underlying5
 a5 := Tryz.isAgg5
 z5 := Tryz.sizeOf5
 v5 := Tryz.zeroValue5
 t9 := Tryz.underlying9
 a9 := Tryz.isAgg9
 z9 := Tryz.sizeOf9
 v9 := Tryz.zeroValue9
 t26 := Tryz.underlying215
 a26 := Tryz.isAgg215
 z26 := Tryz.sizeOf215
 v26 := Tryz.zeroValue215
 t27 := Tryz.underlying215
 a27 := Tryz.isAgg215
 z27 := Tryz.sizeOf215
 v27 := Tryz.zeroValue215
 t29 := Tryz.underlying9
 a29 := Tryz.isAgg9
 z29 := Tryz.sizeOf9
 v29 := Tryz.zeroValue9
 t32 := Tryz.underlying204
 a32 := Tryz.isAgg204
 z32 := Tryz.sizeOf204
 v32 := Tryz.zeroValue204
 t35 := Tryz.underlying267
 a35 := Tryz.isAgg267
 z35 := Tryz.sizeOf267
 v35 := Tryz.zeroValue267
 t36 := Tryz.underlying268
 a36 := Tryz.isAgg268
 z36 := Tryz.sizeOf268
 v36 := Tryz.zeroValue268
 t41 := Tryz.underlying172
 a41 := Tryz.isAgg172
 z41 := Tryz.sizeOf172
 v41 := Tryz.zeroValue172
 t44 := Tryz.underlying261
 a44 := Tryz.isAgg261
 z44 := Tryz.sizeOf261
 v44 := Tryz.zeroValue261
 t46 := Tryz.underlying142
 a46 := Tryz.isAgg142
 z46 := Tryz.sizeOf142
 v46 := Tryz.zeroValue142
 t53 := Tryz.underlying278
 a53 := Tryz.isAgg278
 z53 := Tryz.sizeOf278
 v53 := Tryz.zeroValue278
 t57 := Tryz.underlying282
 a57 := Tryz.isAgg282
 z57 := Tryz.sizeOf282
 v57 := Tryz.zeroValue282
 t63 := Tryz.underlying284
 a63 := Tryz.isAgg284
 z63 := Tryz.sizeOf284
 v63 := Tryz.zeroValue284
 t64 := Tryz.underlying285
 a64 := Tryz.isAgg285
 z64 := Tryz.sizeOf285
 v64 := Tryz.zeroValue285 }
end Go.Proofs.YtenpjpldjmoefaaGreat
