/-
  The codes of functions, as the abstract machine has them; printed by amtab.py.
-/
import Derived.Test.YtlogcjaigjcmiaaGreatAmY
import Derived.Test.YtlogcjaigjcmiaaGreatProg
import Derived.KernelRfl
set_option maxRecDepth 100000
namespace Go.Proofs.YtlogcjaigjcmiaaGreat.AM.Wp
open Go
/-- cmp.Or[int] -/
def a262 : AFunc := ⟨18, (.seq (.reg [⟨some 2, .mv (.c (.int .i64 0)), none, 0, 0⟩])
 (.seq (.reg [⟨some 3, .mv (.c (.int .i64 0)), none, 0, 0⟩])
 (.seq (.seq (.reg [⟨some 6, .mv (.t 0), none, 0, 0⟩, ⟨some 7, .len 1 (.t 6), none, 0, 0⟩, ⟨some 8, .mv (.c (.int .i64 0)), none, 0, 0⟩])
 (.block 0 (.loop (.seq (.reg [⟨some 9, .bin .lss (.t 8) (.t 7), none, 0, 0⟩])
  (.seq (.cond (.t 9) (.skip)
   (.exit 0))
  (.seq (.block 1 (.seq (.reg [⟨some 10, .idxAddr 1 (.t 6) (.t 8), none, 0, 0⟩, ⟨some 11, .load none (.t 10), none, 0, 0⟩, ⟨some 5, .mv (.t 11), none, 0, 0⟩])
  (.seq (.reg [⟨some 12, .mv (.t 5), none, 0, 0⟩, ⟨some 13, .mv (.t 3), none, 0, 0⟩, ⟨some 14, .bin .neq (.t 12) (.t 13), none, 0, 0⟩])
  (.cond (.t 14) (.seq (.reg [⟨some 15, .mv (.t 5), none, 0, 0⟩, ⟨some 2, .mv (.t 15), none, 0, 0⟩])
   .ret)
   (.skip)))))
  (.reg [⟨some 16, .bin .add (.t 8) (.c (.int .i64 1)), none, 0, 0⟩, ⟨some 8, .mv (.t 16), none, 0, 0⟩])))))))
 (.seq (.reg [⟨some 17, .mv (.t 3), none, 0, 0⟩, ⟨some 2, .mv (.t 17), none, 0, 0⟩])
 .ret)))), [.t 2]⟩
theorem c262 : ∃ fn, Tryz.prog.funcs[262]? = some fn ∧ compFn Tryz.prog fn = some a262 := ⟨_, Tryz.func262, by kernel_rfl⟩
/-- cmp.Compare[int] -/
def a263 : AFunc := ⟨20, (.seq (.reg [⟨some 4, .mv (.c (.int .i64 0)), none, 0, 0⟩])
 (.seq (.reg [⟨some 7, .mv (.t 0), none, 0, 0⟩, ⟨some 8, .call (.c (.fn (.func 297) [] [])) [(.t 7)], none, 0, 0⟩, ⟨some 5, .mv (.t 8), none, 0, 0⟩])
 (.seq (.reg [⟨some 9, .mv (.t 1), none, 0, 0⟩, ⟨some 10, .call (.c (.fn (.func 297) [] [])) [(.t 9)], none, 0, 0⟩, ⟨some 6, .mv (.t 10), none, 0, 0⟩])
 (.seq (.seq (.reg [⟨some 11, .mv (.t 5), none, 0, 0⟩])
 (.cond (.t 11) (.seq (.seq (.reg [⟨some 12, .mv (.t 6), none, 0, 0⟩])
  (.cond (.t 12) (.seq (.reg [⟨some 4, .mv (.c (.int .i64 0)), none, 0, 0⟩])
   .ret)
   (.skip)))
  (.seq (.reg [⟨some 4, .mv (.c (.int .i64 (-1))), none, 0, 0⟩])
  .ret))
  (.skip)))
 (.seq (.seq (.reg [⟨some 13, .mv (.t 6), none, 0, 0⟩])
 (.cond (.t 13) (.seq (.reg [⟨some 4, .mv (.c (.int .i64 1)), none, 0, 0⟩])
  .ret)
  (.skip)))
 (.seq (.seq (.reg [⟨some 14, .mv (.t 0), none, 0, 0⟩, ⟨some 15, .mv (.t 1), none, 0, 0⟩, ⟨some 16, .bin .lss (.t 14) (.t 15), none, 0, 0⟩])
 (.cond (.t 16) (.seq (.reg [⟨some 4, .mv (.c (.int .i64 (-1))), none, 0, 0⟩])
  .ret)
  (.skip)))
 (.seq (.seq (.reg [⟨some 17, .mv (.t 0), none, 0, 0⟩, ⟨some 18, .mv (.t 1), none, 0, 0⟩, ⟨some 19, .bin .gtr (.t 17) (.t 18), none, 0, 0⟩])
 (.cond (.t 19) (.seq (.reg [⟨some 4, .mv (.c (.int .i64 1)), none, 0, 0⟩])
  .ret)
  (.skip)))
 (.seq (.reg [⟨some 4, .mv (.c (.int .i64 0)), none, 0, 0⟩])
 .ret)))))))), [.t 4]⟩
theorem c263 : ∃ fn, Tryz.prog.funcs[263]? = some fn ∧ compFn Tryz.prog fn = some a263 := ⟨_, Tryz.func263, by kernel_rfl⟩
/-- cmp.Compare[string] -/
def a264 : AFunc := ⟨20, (.seq (.reg [⟨some 4, .mv (.c (.int .i64 0)), none, 0, 0⟩])
 (.seq (.reg [⟨some 7, .mv (.t 0), none, 0, 0⟩, ⟨some 8, .call (.c (.fn (.func 298) [] [])) [(.t 7)], none, 0, 0⟩, ⟨some 5, .mv (.t 8), none, 0, 0⟩])
 (.seq (.reg [⟨some 9, .mv (.t 1), none, 0, 0⟩, ⟨some 10, .call (.c (.fn (.func 298) [] [])) [(.t 9)], none, 0, 0⟩, ⟨some 6, .mv (.t 10), none, 0, 0⟩])
 (.seq (.seq (.reg [⟨some 11, .mv (.t 5), none, 0, 0⟩])
 (.cond (.t 11) (.seq (.seq (.reg [⟨some 12, .mv (.t 6), none, 0, 0⟩])
  (.cond (.t 12) (.seq (.reg [⟨some 4, .mv (.c (.int .i64 0)), none, 0, 0⟩])
   .ret)
   (.skip)))
  (.seq (.reg [⟨some 4, .mv (.c (.int .i64 (-1))), none, 0, 0⟩])
  .ret))
  (.skip)))
 (.seq (.seq (.reg [⟨some 13, .mv (.t 6), none, 0, 0⟩])
 (.cond (.t 13) (.seq (.reg [⟨some 4, .mv (.c (.int .i64 1)), none, 0, 0⟩])
  .ret)
  (.skip)))
 (.seq (.seq (.reg [⟨some 14, .mv (.t 0), none, 0, 0⟩, ⟨some 15, .mv (.t 1), none, 0, 0⟩, ⟨some 16, .bin .lss (.t 14) (.t 15), none, 0, 0⟩])
 (.cond (.t 16) (.seq (.reg [⟨some 4, .mv (.c (.int .i64 (-1))), none, 0, 0⟩])
  .ret)
  (.skip)))
 (.seq (.seq (.reg [⟨some 17, .mv (.t 0), none, 0, 0⟩, ⟨some 18, .mv (.t 1), none, 0, 0⟩, ⟨some 19, .bin .gtr (.t 17) (.t 18), none, 0, 0⟩])
 (.cond (.t 19) (.seq (.reg [⟨some 4, .mv (.c (.int .i64 1)), none, 0, 0⟩])
  .ret)
  (.skip)))
 (.seq (.reg [⟨some 4, .mv (.c (.int .i64 0)), none, 0, 0⟩])
 .ret)))))))), [.t 4]⟩
theorem c264 : ∃ fn, Tryz.prog.funcs[264]? = some fn ∧ compFn Tryz.prog fn = some a264 := ⟨_, Tryz.func264, by kernel_rfl⟩
/-- (*gauger/model.DB).isOver$1 -/
def a265 : AFunc := ⟨12, (.seq (.reg [⟨some 1, .box (.t 0), none, 0, 0⟩, ⟨some 2, .mv (.c (.bool false)), none, 0, 0⟩])
 (.seq (.reg [⟨some 6, .load (some 2) (.t 1), none, 0, 0⟩, ⟨some 7, .call (.c (.fn (.func 266) [] [])) [(.t 6)], none, 0, 0⟩, ⟨some 5, .mv (.t 7), none, 0, 0⟩, ⟨some 8, .extract (.t 5) 0, none, 0, 0⟩, ⟨some 9, .extract (.t 5) 1, none, 0, 0⟩, ⟨some 3, .mv (.t 8), none, 0, 0⟩, ⟨some 4, .mv (.t 9), none, 0, 0⟩])
 (.seq (.reg [⟨some 10, .mv (.t 4), none, 0, 0⟩, ⟨some 11, .un .not (.t 10), none, 0, 0⟩, ⟨some 2, .mv (.t 11), none, 0, 0⟩])
 .ret))), [.t 2]⟩
theorem c265 : ∃ fn, Tryz.prog.funcs[265]? = some fn ∧ compFn Tryz.prog fn = some a265 := ⟨_, Tryz.func265, by kernel_rfl⟩
/-- gauger/wide.Int -/
def a266 : AFunc := ⟨13, (.seq (.reg [⟨some 1, .box (.t 0), none, 0, 0⟩, ⟨some 2, .mv (.c (.int .i64 0)), none, 0, 0⟩, ⟨some 3, .mv (.c (.bool false)), none, 0, 0⟩])
 (.seq (.reg [⟨some 5, .fieldAddr 1 (.t 1), none, 0, 0⟩, ⟨some 6, .load none (.t 5), none, 0, 0⟩, ⟨some 7, .conv .i64 (.t 6), none, 0, 0⟩, ⟨some 4, .mv (.t 7), none, 0, 0⟩])
 (.seq (.seq (.dreg [⟨some 8, .mv (.t 4), none, 0, 0⟩, ⟨some 9, .call (.c (.fn (.func 272) [] [])) [(.t 8)], none, 0, 0⟩, ⟨some 10, .load (some 2) (.t 1), none, 0, 1⟩, ⟨some 11, .eqS true [1, 1] (.t 9) (.t 10), none, 1, 1⟩])
 (.cond (.t 11) (.seq (.reg [⟨some 2, .mv (.c (.int .i64 0)), none, 0, 0⟩, ⟨some 3, .mv (.c (.bool false)), none, 0, 0⟩])
  .ret)
  (.skip)))
 (.seq (.reg [⟨some 12, .mv (.t 4), none, 0, 0⟩, ⟨some 2, .mv (.t 12), none, 0, 0⟩, ⟨some 3, .mv (.c (.bool true)), none, 0, 0⟩])
 .ret)))), [.t 2, .t 3]⟩
theorem c266 : ∃ fn, Tryz.prog.funcs[266]? = some fn ∧ compFn Tryz.prog fn = some a266 := ⟨_, Tryz.func266, by kernel_rfl⟩
/-- gauger/plan.Views -/
def a267 : AFunc := ⟨25, (.seq (.reg [⟨some 2, .box (.t 0), none, 0, 0⟩, ⟨some 4, .mv (.c .nils), none, 0, 0⟩])
 (.seq (.seq (.reg [⟨some 7, .fieldAddr 1 (.t 2), none, 0, 0⟩, ⟨some 8, .load none (.t 7), none, 0, 0⟩, ⟨some 9, .len 1 (.t 8), none, 0, 0⟩, ⟨some 10, .mv (.c (.int .i64 0)), none, 0, 0⟩])
 (.block 0 (.loop (.seq (.reg [⟨some 11, .bin .lss (.t 10) (.t 9), none, 0, 0⟩])
  (.seq (.cond (.t 11) (.skip)
   (.exit 0))
  (.seq (.block 1 (.seq (.reg [⟨some 12, .mv (.t 10), none, 0, 0⟩, ⟨some 13, .idxAddr 3 (.t 8) (.t 10), none, 0, 0⟩, ⟨some 14, .load (some 3) (.t 13), none, 0, 0⟩, ⟨some 6, .alloc [(.int .i64 0), (.int .i64 0), .nils], none, 0, 0⟩, ⟨some 5, .mv (.t 12), none, 0, 0⟩, ⟨none, .store 3 (.t 6) (.t 14), none, 0, 0⟩])
  (.seq (.reg [⟨some 15, .fieldAddr 0 (.t 6), none, 0, 0⟩, ⟨some 16, .load none (.t 15), none, 0, 0⟩, ⟨some 17, .mv (.t 1), none, 0, 0⟩, ⟨some 18, .bin .eql (.t 16) (.t 17), none, 0, 0⟩])
  (.cond (.t 18) (.reg [⟨some 19, .mv (.t 4), none, 0, 0⟩, ⟨some 20, .mv (.t 5), none, 0, 0⟩, ⟨some 21, .buildSl [(.int .i64 0)] 1 [(0, (.t 20))], none, 0, 0⟩, ⟨some 22, .append 1 8 (.t 19) (.t 21), none, 0, 0⟩, ⟨some 4, .mv (.t 22), none, 0, 0⟩])
   (.skip)))))
  (.reg [⟨some 23, .bin .add (.t 10) (.c (.int .i64 1)), none, 0, 0⟩, ⟨some 10, .mv (.t 23), none, 0, 0⟩])))))))
 (.seq (.reg [⟨some 24, .mv (.t 4), none, 0, 0⟩, ⟨some 4, .mv (.t 24), none, 0, 0⟩])
 .ret))), [.t 4]⟩
theorem c267 : ∃ fn, Tryz.prog.funcs[267]? = some fn ∧ compFn Tryz.prog fn = some a267 := ⟨_, Tryz.func267, by kernel_rfl⟩
/-- slices.ContainsFunc[[]gauger/api.Wide,gauger/api.Wide] -/
def a268 : AFunc := ⟨9, (.seq (.reg [⟨some 4, .mv (.c (.bool false)), none, 0, 0⟩])
 (.seq (.reg [⟨some 5, .mv (.t 0), none, 0, 0⟩, ⟨some 6, .mv (.t 1), none, 0, 0⟩, ⟨some 7, .call (.c (.fn (.func 299) [] [])) [(.t 5), (.t 6)], none, 0, 0⟩, ⟨some 8, .bin .geq (.t 7) (.c (.int .i64 0)), none, 0, 0⟩, ⟨some 4, .mv (.t 8), none, 0, 0⟩])
 .ret)), [.t 4]⟩
theorem c268 : ∃ fn, Tryz.prog.funcs[268]? = some fn ∧ compFn Tryz.prog fn = some a268 := ⟨_, Tryz.func268, by kernel_rfl⟩
/-- slices.rotateLeft[[]gauger/api.Value] -/
def a269 : AFunc := ⟨14, (.seq (.reg [⟨some 4, .mv (.t 0), none, 0, 0⟩, ⟨some 5, .mv (.t 1), none, 0, 0⟩, ⟨some 6, .slc 1 (.t 4) none (some (.t 5)) none, none, 0, 0⟩, ⟨some 7, .call (.c (.fn (.func 300) [] [])) [(.t 6)], none, 0, 0⟩])
 (.seq (.reg [⟨some 8, .mv (.t 0), none, 0, 0⟩, ⟨some 9, .mv (.t 1), none, 0, 0⟩, ⟨some 10, .slc 1 (.t 8) (some (.t 9)) none none, none, 0, 0⟩, ⟨some 11, .call (.c (.fn (.func 300) [] [])) [(.t 10)], none, 0, 0⟩])
 (.reg [⟨some 12, .mv (.t 0), none, 0, 0⟩, ⟨some 13, .call (.c (.fn (.func 300) [] [])) [(.t 12)], none, 0, 0⟩]))), []⟩
theorem c269 : ∃ fn, Tryz.prog.funcs[269]? = some fn ∧ compFn Tryz.prog fn = some a269 := ⟨_, Tryz.func269, by kernel_rfl⟩
/-- gauger/sign.number -/
def a270 : AFunc := ⟨27, (.seq (.reg [⟨some 2, .mv (.c (.str [])), none, 0, 0⟩])
 (.seq (.reg [⟨some 6, .mksl [(.int .u8 0)] 1 (.c (.int .i64 8)) (.c (.int .i64 8)), none, 0, 0⟩, ⟨some 3, .mv (.t 6), none, 0, 0⟩])
 (.seq (.reg [⟨some 7, .mv (.t 0), none, 0, 0⟩, ⟨some 8, .conv .u64 (.t 7), none, 0, 0⟩, ⟨some 9, .bin .xor (.t 8) (.c (.int .u64 9223372036854775808)), none, 0, 0⟩, ⟨some 4, .mv (.t 9), none, 0, 0⟩])
 (.seq (.seq (.reg [⟨some 10, .mv (.t 3), none, 0, 0⟩, ⟨some 11, .len 1 (.t 10), none, 0, 0⟩, ⟨some 12, .mv (.c (.int .i64 0)), none, 0, 0⟩])
 (.block 0 (.loop (.seq (.reg [⟨some 13, .bin .lss (.t 12) (.t 11), none, 0, 0⟩])
  (.seq (.cond (.t 13) (.skip)
   (.exit 0))
  (.seq (.block 1 (.seq (.reg [⟨some 14, .mv (.t 12), none, 0, 0⟩, ⟨some 5, .mv (.t 14), none, 0, 0⟩])
  (.reg [⟨some 15, .mv (.t 3), none, 0, 0⟩, ⟨some 16, .mv (.t 5), none, 0, 0⟩, ⟨some 17, .bin .sub (.c (.int .i64 7)) (.t 16), none, 0, 0⟩, ⟨some 18, .mv (.t 4), none, 0, 0⟩, ⟨some 19, .mv (.t 5), none, 0, 0⟩, ⟨some 20, .bin .mul (.c (.int .i64 8)) (.t 19), none, 0, 0⟩, ⟨some 21, .bin .shr (.t 18) (.t 20), none, 0, 0⟩, ⟨some 22, .conv .u8 (.t 21), none, 0, 0⟩, ⟨some 23, .idxAddr 1 (.t 15) (.t 17), none, 0, 0⟩, ⟨none, .store 1 (.t 23) (.t 22), none, 0, 0⟩])))
  (.reg [⟨some 24, .bin .add (.t 12) (.c (.int .i64 1)), none, 0, 0⟩, ⟨some 12, .mv (.t 24), none, 0, 0⟩])))))))
 (.seq (.reg [⟨some 25, .mv (.t 3), none, 0, 0⟩, ⟨some 26, .b2s (.t 25), none, 0, 0⟩, ⟨some 2, .mv (.t 26), none, 0, 0⟩])
 .ret))))), [.t 2]⟩
theorem c270 : ∃ fn, Tryz.prog.funcs[270]? = some fn ∧ compFn Tryz.prog fn = some a270 := ⟨_, Tryz.func270, by kernel_rfl⟩
/-- gauger/wide.Of -/
def a272 : AFunc := ⟨8, (.seq (.reg [⟨some 2, .alloc [(.int .i64 0), (.int .u64 0)], none, 0, 0⟩])
 (.seq (.reg [⟨some 3, .mv (.t 0), none, 0, 0⟩, ⟨some 4, .bin .shr (.t 3) (.c (.int .u64 63)), none, 0, 0⟩, ⟨some 5, .mv (.t 0), none, 0, 0⟩, ⟨some 6, .conv .u64 (.t 5), none, 0, 0⟩, ⟨some 7, .build [(.int .i64 0), (.int .u64 0)] [(0, 1, (.t 4)), (1, 1, (.t 6))], none, 0, 0⟩, ⟨none, .store 2 (.t 2) (.t 7), none, 0, 0⟩])
 .ret)), [.cell 2 (some 2)]⟩
theorem c272 : ∃ fn, Tryz.prog.funcs[272]? = some fn ∧ compFn Tryz.prog fn = some a272 := ⟨_, Tryz.func272, by kernel_rfl⟩
/-- gauger/wide.Sub -/
def a273 : AFunc := ⟨25, (.seq (.reg [⟨some 2, .box (.t 0), none, 0, 0⟩, ⟨some 3, .box (.t 1), none, 0, 0⟩, ⟨some 4, .alloc [(.int .i64 0), (.int .u64 0)], none, 0, 0⟩])
 (.seq (.reg [⟨some 8, .fieldAddr 1 (.t 2), none, 0, 0⟩, ⟨some 9, .load none (.t 8), none, 0, 0⟩, ⟨some 10, .fieldAddr 1 (.t 3), none, 0, 0⟩, ⟨some 11, .load none (.t 10), none, 0, 0⟩, ⟨some 12, .call (.c (.fn (.func 301) [] [])) [(.t 9), (.t 11), (.c (.int .u64 0))], none, 0, 0⟩, ⟨some 7, .mv (.t 12), none, 0, 0⟩, ⟨some 13, .extract (.t 7) 0, none, 0, 0⟩, ⟨some 14, .extract (.t 7) 1, none, 0, 0⟩, ⟨some 5, .mv (.t 13), none, 0, 0⟩, ⟨some 6, .mv (.t 14), none, 0, 0⟩])
 (.seq (.reg [⟨some 15, .fieldAddr 0 (.t 2), none, 0, 0⟩, ⟨some 16, .load none (.t 15), none, 0, 0⟩, ⟨some 17, .fieldAddr 0 (.t 3), none, 0, 0⟩, ⟨some 18, .load none (.t 17), none, 0, 0⟩, ⟨some 19, .bin .sub (.t 16) (.t 18), none, 0, 0⟩, ⟨some 20, .mv (.t 6), none, 0, 0⟩, ⟨some 21, .conv .i64 (.t 20), none, 0, 0⟩, ⟨some 22, .bin .sub (.t 19) (.t 21), none, 0, 0⟩, ⟨some 23, .mv (.t 5), none, 0, 0⟩, ⟨some 24, .build [(.int .i64 0), (.int .u64 0)] [(0, 1, (.t 22)), (1, 1, (.t 23))], none, 0, 0⟩, ⟨none, .store 2 (.t 4) (.t 24), none, 0, 0⟩])
 .ret))), [.cell 4 (some 2)]⟩
theorem c273 : ∃ fn, Tryz.prog.funcs[273]? = some fn ∧ compFn Tryz.prog fn = some a273 := ⟨_, Tryz.func273, by kernel_rfl⟩
/-- gauger/wide.Add -/
def a274 : AFunc := ⟨25, (.seq (.reg [⟨some 2, .box (.t 0), none, 0, 0⟩, ⟨some 3, .box (.t 1), none, 0, 0⟩, ⟨some 4, .alloc [(.int .i64 0), (.int .u64 0)], none, 0, 0⟩])
 (.seq (.reg [⟨some 8, .fieldAddr 1 (.t 2), none, 0, 0⟩, ⟨some 9, .load none (.t 8), none, 0, 0⟩, ⟨some 10, .fieldAddr 1 (.t 3), none, 0, 0⟩, ⟨some 11, .load none (.t 10), none, 0, 0⟩, ⟨some 12, .call (.c (.fn (.func 302) [] [])) [(.t 9), (.t 11), (.c (.int .u64 0))], none, 0, 0⟩, ⟨some 7, .mv (.t 12), none, 0, 0⟩, ⟨some 13, .extract (.t 7) 0, none, 0, 0⟩, ⟨some 14, .extract (.t 7) 1, none, 0, 0⟩, ⟨some 5, .mv (.t 13), none, 0, 0⟩, ⟨some 6, .mv (.t 14), none, 0, 0⟩])
 (.seq (.reg [⟨some 15, .fieldAddr 0 (.t 2), none, 0, 0⟩, ⟨some 16, .load none (.t 15), none, 0, 0⟩, ⟨some 17, .fieldAddr 0 (.t 3), none, 0, 0⟩, ⟨some 18, .load none (.t 17), none, 0, 0⟩, ⟨some 19, .bin .add (.t 16) (.t 18), none, 0, 0⟩, ⟨some 20, .mv (.t 6), none, 0, 0⟩, ⟨some 21, .conv .i64 (.t 20), none, 0, 0⟩, ⟨some 22, .bin .add (.t 19) (.t 21), none, 0, 0⟩, ⟨some 23, .mv (.t 5), none, 0, 0⟩, ⟨some 24, .build [(.int .i64 0), (.int .u64 0)] [(0, 1, (.t 22)), (1, 1, (.t 23))], none, 0, 0⟩, ⟨none, .store 2 (.t 4) (.t 24), none, 0, 0⟩])
 .ret))), [.cell 4 (some 2)]⟩
theorem c274 : ∃ fn, Tryz.prog.funcs[274]? = some fn ∧ compFn Tryz.prog fn = some a274 := ⟨_, Tryz.func274, by kernel_rfl⟩
/-- slices.Collect[string] -/
def a275 : AFunc := ⟨5, (.seq (.reg [⟨some 2, .mv (.c .nils), none, 0, 0⟩])
 (.seq (.reg [⟨some 3, .mv (.t 0), none, 0, 0⟩, ⟨some 4, .call (.c (.fn (.func 303) [] [])) [(.c .nils), (.t 3)], none, 0, 0⟩, ⟨some 2, .mv (.t 4), none, 0, 0⟩])
 .ret)), [.t 2]⟩
theorem c275 : ∃ fn, Tryz.prog.funcs[275]? = some fn ∧ compFn Tryz.prog fn = some a275 := ⟨_, Tryz.func275, by kernel_rfl⟩
/-- slices.Sort[[]string,string] -/
def a276 : AFunc := ⟨11, (.seq (.reg [⟨some 3, .mv (.t 0), none, 0, 0⟩, ⟨some 4, .len 1 (.t 3), none, 0, 0⟩, ⟨some 2, .mv (.t 4), none, 0, 0⟩])
 (.reg [⟨some 5, .mv (.t 0), none, 0, 0⟩, ⟨some 6, .mv (.t 2), none, 0, 0⟩, ⟨some 7, .mv (.t 2), none, 0, 0⟩, ⟨some 8, .conv .u64 (.t 7), none, 0, 0⟩, ⟨some 9, .call (.c (.fn (.func 295) [] [])) [(.t 8)], none, 0, 0⟩, ⟨some 10, .call (.c (.fn (.func 304) [] [])) [(.t 5), (.c (.int .i64 0)), (.t 6), (.t 9)], none, 0, 0⟩])), []⟩
theorem c276 : ∃ fn, Tryz.prog.funcs[276]? = some fn ∧ compFn Tryz.prog fn = some a276 := ⟨_, Tryz.func276, by kernel_rfl⟩
/-- maps.Keys[gauger/delta.sums,string,gauger/api.Total]$1 -/
def a277 : AFunc := ⟨14, (.seq (.reg [⟨some 4, .load none (.t 1), none, 0, 0⟩, ⟨some 5, .bad, none, 0, 0⟩])
 (.block 0 (.loop (.seq (.reg [⟨some 6, .bad, none, 0, 0⟩, ⟨some 7, .extract (.t 6) 0, none, 0, 0⟩])
  (.seq (.cond (.t 7) (.skip)
   (.exit 0))
  (.block 1 (.seq (.reg [⟨some 8, .bad, none, 0, 0⟩, ⟨some 9, .extract (.t 8) 0, none, 0, 0⟩, ⟨some 3, .mv (.t 9), none, 0, 0⟩])
  (.seq (.reg [⟨some 10, .mv (.t 0), none, 0, 0⟩, ⟨some 11, .mv (.t 3), none, 0, 0⟩, ⟨some 12, .call (.t 10) [(.t 11)], none, 0, 0⟩, ⟨some 13, .un .not (.t 12), none, 0, 0⟩])
  (.cond (.t 13) .ret
   (.skip)))))))))), []⟩
theorem c277 : ∃ fn, Tryz.prog.funcs[277]? = some fn ∧ compFn Tryz.prog fn = some a277 := ⟨_, Tryz.func277, by kernel_rfl⟩
/-- math/bits.Mul -/
def a289 : AFunc := ⟨30, (.seq (.reg [⟨some 4, .mv (.c (.int .u64 0)), none, 0, 0⟩, ⟨some 5, .mv (.c (.int .u64 0)), none, 0, 0⟩])
 (.seq (.cond (.c (.bool false)) (.seq (.reg [⟨some 11, .mv (.t 0), none, 0, 0⟩, ⟨some 12, .conv .u32 (.t 11), none, 0, 0⟩, ⟨some 13, .mv (.t 1), none, 0, 0⟩, ⟨some 14, .conv .u32 (.t 13), none, 0, 0⟩, ⟨some 15, .call (.c (.fn (.func 310) [] [])) [(.t 12), (.t 14)], none, 0, 0⟩, ⟨some 10, .mv (.t 15), none, 0, 0⟩, ⟨some 16, .extract (.t 10) 0, none, 0, 0⟩, ⟨some 17, .extract (.t 10) 1, none, 0, 0⟩, ⟨some 6, .mv (.t 16), none, 0, 0⟩, ⟨some 7, .mv (.t 17), none, 0, 0⟩])
  (.seq (.reg [⟨some 18, .mv (.t 6), none, 0, 0⟩, ⟨some 19, .conv .u64 (.t 18), none, 0, 0⟩, ⟨some 20, .mv (.t 7), none, 0, 0⟩, ⟨some 21, .conv .u64 (.t 20), none, 0, 0⟩, ⟨some 4, .mv (.t 19), none, 0, 0⟩, ⟨some 5, .mv (.t 21), none, 0, 0⟩])
  .ret))
  (.skip))
 (.seq (.reg [⟨some 23, .mv (.t 0), none, 0, 0⟩, ⟨some 24, .mv (.t 1), none, 0, 0⟩, ⟨some 25, .call (.c (.fn (.func 311) [] [])) [(.t 23), (.t 24)], none, 0, 0⟩, ⟨some 22, .mv (.t 25), none, 0, 0⟩, ⟨some 26, .extract (.t 22) 0, none, 0, 0⟩, ⟨some 27, .extract (.t 22) 1, none, 0, 0⟩, ⟨some 8, .mv (.t 26), none, 0, 0⟩, ⟨some 9, .mv (.t 27), none, 0, 0⟩])
 (.seq (.reg [⟨some 28, .mv (.t 8), none, 0, 0⟩, ⟨some 29, .mv (.t 9), none, 0, 0⟩, ⟨some 4, .mv (.t 28), none, 0, 0⟩, ⟨some 5, .mv (.t 29), none, 0, 0⟩])
 .ret)))), [.t 4, .t 5]⟩
theorem c289 : ∃ fn, Tryz.prog.funcs[289]? = some fn ∧ compFn Tryz.prog fn = some a289 := ⟨_, Tryz.func289, by kernel_rfl⟩
/-- strings.HasPrefix -/
def a290 : AFunc := ⟨8, (.seq (.reg [⟨some 4, .mv (.c (.bool false)), none, 0, 0⟩])
 (.seq (.reg [⟨some 5, .mv (.t 0), none, 0, 0⟩, ⟨some 6, .mv (.t 1), none, 0, 0⟩, ⟨some 7, .call (.c (.fn (.func 312) [] [])) [(.t 5), (.t 6)], none, 0, 0⟩, ⟨some 4, .mv (.t 7), none, 0, 0⟩])
 .ret)), [.t 4]⟩
theorem c290 : ∃ fn, Tryz.prog.funcs[290]? = some fn ∧ compFn Tryz.prog fn = some a290 := ⟨_, Tryz.func290, by kernel_rfl⟩
/-- (*strings.Builder).Grow -/
def a291 : AFunc := ⟨25, (.seq (.reg [⟨some 4, .mv (.t 0), none, 0, 0⟩, ⟨some 5, .call (.c (.fn (.func 238) [] [])) [(.t 4)], none, 0, 0⟩])
 (.seq (.seq (.reg [⟨some 6, .mv (.t 1), none, 0, 0⟩, ⟨some 7, .bin .lss (.t 6) (.c (.int .i64 0)), none, 0, 0⟩])
 (.cond (.t 7) (.reg [⟨some 8, .bad, none, 0, 0⟩, ⟨none, .bad, none, 0, 0⟩])
  (.skip)))
 (.seq (.dreg [⟨some 9, .mv (.t 0), none, 0, 0⟩, ⟨some 10, .nilck (.t 9), none, 0, 0⟩, ⟨some 11, .fieldAddr 1 (.t 10), none, 0, 0⟩, ⟨some 12, .load none (.t 11), none, 0, 0⟩, ⟨some 13, .bad, none, 0, 0⟩, ⟨some 14, .mv (.t 0), none, 0, 0⟩, ⟨some 15, .nilck (.t 14), none, 0, 0⟩, ⟨some 16, .fieldAddr 1 (.t 15), none, 0, 0⟩, ⟨some 17, .load none (.t 16), none, 0, 0⟩, ⟨some 18, .len 1 (.t 17), none, 0, 0⟩, ⟨some 19, .bin .sub (.t 13) (.t 18), none, 0, 0⟩, ⟨some 20, .mv (.t 1), none, 0, 0⟩, ⟨some 21, .bin .lss (.t 19) (.t 20), none, 0, 0⟩])
 (.cond (.t 21) (.reg [⟨some 22, .mv (.t 0), none, 0, 0⟩, ⟨some 23, .mv (.t 1), none, 0, 0⟩, ⟨some 24, .call (.c (.fn (.func 313) [] [])) [(.t 22), (.t 23)], none, 0, 0⟩])
  (.skip))))), []⟩
theorem c291 : ∃ fn, Tryz.prog.funcs[291]? = some fn ∧ compFn Tryz.prog fn = some a291 := ⟨_, Tryz.func291, by kernel_rfl⟩
/-- slices.Equal[[]int,int] -/
def a292 : AFunc := ⟨26, (.seq (.reg [⟨some 4, .mv (.c (.bool false)), none, 0, 0⟩])
 (.seq (.seq (.reg [⟨some 6, .mv (.t 0), none, 0, 0⟩, ⟨some 7, .len 1 (.t 6), none, 0, 0⟩, ⟨some 8, .mv (.t 1), none, 0, 0⟩, ⟨some 9, .len 1 (.t 8), none, 0, 0⟩, ⟨some 10, .bin .neq (.t 7) (.t 9), none, 0, 0⟩])
 (.cond (.t 10) (.seq (.reg [⟨some 4, .mv (.c (.bool false)), none, 0, 0⟩])
  .ret)
  (.skip)))
 (.seq (.seq (.reg [⟨some 11, .mv (.t 0), none, 0, 0⟩, ⟨some 12, .len 1 (.t 11), none, 0, 0⟩, ⟨some 13, .mv (.c (.int .i64 0)), none, 0, 0⟩])
 (.block 0 (.loop (.seq (.reg [⟨some 14, .bin .lss (.t 13) (.t 12), none, 0, 0⟩])
  (.seq (.cond (.t 14) (.skip)
   (.exit 0))
  (.seq (.block 1 (.seq (.reg [⟨some 15, .mv (.t 13), none, 0, 0⟩, ⟨some 5, .mv (.t 15), none, 0, 0⟩])
  (.seq (.dreg [⟨some 16, .mv (.t 0), none, 0, 0⟩, ⟨some 17, .mv (.t 5), none, 0, 0⟩, ⟨some 18, .idxAddr 1 (.t 16) (.t 17), none, 0, 0⟩, ⟨some 19, .load none (.t 18), none, 0, 0⟩, ⟨some 20, .mv (.t 1), none, 0, 0⟩, ⟨some 21, .mv (.t 5), none, 0, 0⟩, ⟨some 22, .idxAddr 1 (.t 20) (.t 21), none, 0, 0⟩, ⟨some 23, .load none (.t 22), none, 0, 0⟩, ⟨some 24, .bin .neq (.t 19) (.t 23), none, 0, 0⟩])
  (.cond (.t 24) (.seq (.reg [⟨some 4, .mv (.c (.bool false)), none, 0, 0⟩])
   .ret)
   (.skip)))))
  (.reg [⟨some 25, .bin .add (.t 13) (.c (.int .i64 1)), none, 0, 0⟩, ⟨some 13, .mv (.t 25), none, 0, 0⟩])))))))
 (.seq (.reg [⟨some 4, .mv (.c (.bool true)), none, 0, 0⟩])
 .ret)))), [.t 4]⟩
theorem c292 : ∃ fn, Tryz.prog.funcs[292]? = some fn ∧ compFn Tryz.prog fn = some a292 := ⟨_, Tryz.func292, by kernel_rfl⟩
/-- math/bits.Len -/
def a295 : AFunc := ⟨8, (.seq (.reg [⟨some 2, .mv (.c (.int .i64 0)), none, 0, 0⟩])
 (.seq (.cond (.c (.bool false)) (.seq (.reg [⟨some 3, .mv (.t 0), none, 0, 0⟩, ⟨some 4, .conv .u32 (.t 3), none, 0, 0⟩, ⟨some 5, .call (.c (.fn (.func 323) [] [])) [(.t 4)], none, 0, 0⟩, ⟨some 2, .mv (.t 5), none, 0, 0⟩])
  .ret)
  (.skip))
 (.seq (.reg [⟨some 6, .mv (.t 0), none, 0, 0⟩, ⟨some 7, .call (.c (.fn (.func 324) [] [])) [(.t 6)], none, 0, 0⟩, ⟨some 2, .mv (.t 7), none, 0, 0⟩])
 .ret))), [.t 2]⟩
theorem c295 : ∃ fn, Tryz.prog.funcs[295]? = some fn ∧ compFn Tryz.prog fn = some a295 := ⟨_, Tryz.func295, by kernel_rfl⟩
/-- cmp.isNaN[int] -/
def a297 : AFunc := ⟨6, (.seq (.reg [⟨some 2, .mv (.c (.bool false)), none, 0, 0⟩])
 (.seq (.reg [⟨some 3, .mv (.t 0), none, 0, 0⟩, ⟨some 4, .mv (.t 0), none, 0, 0⟩, ⟨some 5, .bin .neq (.t 3) (.t 4), none, 0, 0⟩, ⟨some 2, .mv (.t 5), none, 0, 0⟩])
 .ret)), [.t 2]⟩
theorem c297 : ∃ fn, Tryz.prog.funcs[297]? = some fn ∧ compFn Tryz.prog fn = some a297 := ⟨_, Tryz.func297, by kernel_rfl⟩
/-- cmp.isNaN[string] -/
def a298 : AFunc := ⟨6, (.seq (.reg [⟨some 2, .mv (.c (.bool false)), none, 0, 0⟩])
 (.seq (.reg [⟨some 3, .mv (.t 0), none, 0, 0⟩, ⟨some 4, .mv (.t 0), none, 0, 0⟩, ⟨some 5, .bin .neq (.t 3) (.t 4), none, 0, 0⟩, ⟨some 2, .mv (.t 5), none, 0, 0⟩])
 .ret)), [.t 2]⟩
theorem c298 : ∃ fn, Tryz.prog.funcs[298]? = some fn ∧ compFn Tryz.prog fn = some a298 := ⟨_, Tryz.func298, by kernel_rfl⟩
/-- slices.IndexFunc[[]gauger/api.Wide,gauger/api.Wide] -/
def a299 : AFunc := ⟨19, (.seq (.reg [⟨some 4, .mv (.c (.int .i64 0)), none, 0, 0⟩])
 (.seq (.seq (.reg [⟨some 6, .mv (.t 0), none, 0, 0⟩, ⟨some 7, .len 1 (.t 6), none, 0, 0⟩, ⟨some 8, .mv (.c (.int .i64 0)), none, 0, 0⟩])
 (.block 0 (.loop (.seq (.reg [⟨some 9, .bin .lss (.t 8) (.t 7), none, 0, 0⟩])
  (.seq (.cond (.t 9) (.skip)
   (.exit 0))
  (.seq (.block 1 (.seq (.reg [⟨some 10, .mv (.t 8), none, 0, 0⟩, ⟨some 5, .mv (.t 10), none, 0, 0⟩])
  (.seq (.reg [⟨some 11, .mv (.t 1), none, 0, 0⟩, ⟨some 12, .mv (.t 0), none, 0, 0⟩, ⟨some 13, .mv (.t 5), none, 0, 0⟩, ⟨some 14, .idxAddr 2 (.t 12) (.t 13), none, 0, 0⟩, ⟨some 15, .load (some 2) (.t 14), none, 0, 0⟩, ⟨some 16, .call (.t 11) [(.t 15)], none, 0, 0⟩])
  (.cond (.t 16) (.seq (.reg [⟨some 17, .mv (.t 5), none, 0, 0⟩, ⟨some 4, .mv (.t 17), none, 0, 0⟩])
   .ret)
   (.skip)))))
  (.reg [⟨some 18, .bin .add (.t 8) (.c (.int .i64 1)), none, 0, 0⟩, ⟨some 8, .mv (.t 18), none, 0, 0⟩])))))))
 (.seq (.reg [⟨some 4, .mv (.c (.int .i64 (-1))), none, 0, 0⟩])
 .ret))), [.t 4]⟩
theorem c299 : ∃ fn, Tryz.prog.funcs[299]? = some fn ∧ compFn Tryz.prog fn = some a299 := ⟨_, Tryz.func299, by kernel_rfl⟩
/-- slices.Reverse[[][]gauger/api.Value,[]gauger/api.Value] -/
def a300 : AFunc := ⟨28, (.seq (.reg [⟨some 4, .mv (.t 0), none, 0, 0⟩, ⟨some 5, .len 1 (.t 4), none, 0, 0⟩, ⟨some 6, .bin .sub (.t 5) (.c (.int .i64 1)), none, 0, 0⟩, ⟨some 2, .mv (.c (.int .i64 0)), none, 0, 0⟩, ⟨some 3, .mv (.t 6), none, 0, 0⟩])
 (.block 0 (.loop (.seq (.seq (.reg [⟨some 7, .mv (.t 2), none, 0, 0⟩, ⟨some 8, .mv (.t 3), none, 0, 0⟩, ⟨some 9, .bin .lss (.t 7) (.t 8), none, 0, 0⟩])
  (.cond (.t 9) (.skip)
   (.exit 0)))
  (.seq (.block 1 (.dreg [⟨some 14, .mv (.t 0), none, 0, 0⟩, ⟨some 15, .mv (.t 2), none, 0, 0⟩, ⟨some 16, .mv (.t 0), none, 0, 1⟩, ⟨some 17, .mv (.t 3), none, 0, 1⟩, ⟨some 18, .mv (.t 0), none, 0, 0⟩, ⟨some 19, .mv (.t 3), none, 0, 0⟩, ⟨some 20, .idxAddr 1 (.t 18) (.t 19), none, 0, 0⟩, ⟨some 21, .load none (.t 20), none, 0, 0⟩, ⟨some 22, .mv (.t 0), none, 0, 0⟩, ⟨some 23, .mv (.t 2), none, 0, 0⟩, ⟨some 24, .idxAddr 1 (.t 22) (.t 23), none, 0, 0⟩, ⟨some 25, .load none (.t 24), none, 0, 0⟩, ⟨some 26, .idxAddr 1 (.t 14) (.t 15), none, 0, 0⟩, ⟨none, .store 1 (.t 26) (.t 21), none, 0, 0⟩, ⟨some 27, .idxAddr 1 (.t 16) (.t 17), none, 1, 1⟩, ⟨none, .store 1 (.t 27) (.t 25), none, 0, 0⟩]))
  (.reg [⟨some 10, .mv (.t 2), none, 0, 0⟩, ⟨some 11, .bin .add (.t 10) (.c (.int .i64 1)), none, 0, 0⟩, ⟨some 12, .mv (.t 3), none, 0, 0⟩, ⟨some 13, .bin .sub (.t 12) (.c (.int .i64 1)), none, 0, 0⟩, ⟨some 2, .mv (.t 11), none, 0, 0⟩, ⟨some 3, .mv (.t 13), none, 0, 0⟩])))))), []⟩
theorem c300 : ∃ fn, Tryz.prog.funcs[300]? = some fn ∧ compFn Tryz.prog fn = some a300 := ⟨_, Tryz.func300, by kernel_rfl⟩
/-- slices.AppendSeq[[]string,string] -/
def a303 : AFunc := ⟨13, (.seq (.reg [⟨some 2, .box (.t 0), none, 0, 0⟩, ⟨some 4, .mv (.c .nils), none, 0, 0⟩])
 (.seq (.seq (.reg [⟨some 6, .mv (.t 1), none, 0, 0⟩])
 (.block 0 .bad))
 (.seq (.reg [⟨some 12, .load none (.t 2), none, 0, 0⟩, ⟨some 4, .mv (.t 12), none, 0, 0⟩])
 .ret))), [.t 4]⟩
theorem c303 : ∃ fn, Tryz.prog.funcs[303]? = some fn ∧ compFn Tryz.prog fn = some a303 := ⟨_, Tryz.func303, by kernel_rfl⟩
/-- slices.pdqsortOrdered[string] -/
def a304 : AFunc := ⟨134, (.seq (.reg [⟨some 8, .mv (.c (.bool true)), none, 0, 0⟩])
 (.seq (.reg [⟨some 9, .mv (.c (.bool true)), none, 0, 0⟩])
 (.block 0 (.loop (.block 1 (.seq (.reg [⟨some 19, .mv (.t 2), none, 0, 0⟩, ⟨some 20, .mv (.t 1), none, 0, 0⟩, ⟨some 21, .bin .sub (.t 19) (.t 20), none, 0, 0⟩, ⟨some 10, .mv (.t 21), none, 0, 0⟩])
  (.seq (.seq (.reg [⟨some 22, .mv (.t 10), none, 0, 0⟩, ⟨some 23, .bin .leq (.t 22) (.c (.int .i64 12)), none, 0, 0⟩])
  (.cond (.t 23) (.seq (.reg [⟨some 24, .mv (.t 0), none, 0, 0⟩, ⟨some 25, .mv (.t 1), none, 0, 0⟩, ⟨some 26, .mv (.t 2), none, 0, 0⟩, ⟨some 27, .call (.c (.fn (.func 325) [] [])) [(.t 24), (.t 25), (.t 26)], none, 0, 0⟩])
   .ret)
   (.skip)))
  (.seq (.seq (.reg [⟨some 28, .mv (.t 3), none, 0, 0⟩, ⟨some 29, .bin .eql (.t 28) (.c (.int .i64 0)), none, 0, 0⟩])
  (.cond (.t 29) (.seq (.reg [⟨some 30, .mv (.t 0), none, 0, 0⟩, ⟨some 31, .mv (.t 1), none, 0, 0⟩, ⟨some 32, .mv (.t 2), none, 0, 0⟩, ⟨some 33, .call (.c (.fn (.func 326) [] [])) [(.t 30), (.t 31), (.t 32)], none, 0, 0⟩])
   .ret)
   (.skip)))
  (.seq (.seq (.reg [⟨some 34, .mv (.t 8), none, 0, 0⟩, ⟨some 35, .un .not (.t 34), none, 0, 0⟩])
  (.cond (.t 35) (.seq (.reg [⟨some 36, .mv (.t 0), none, 0, 0⟩, ⟨some 37, .mv (.t 1), none, 0, 0⟩, ⟨some 38, .mv (.t 2), none, 0, 0⟩, ⟨some 39, .call (.c (.fn (.func 327) [] [])) [(.t 36), (.t 37), (.t 38)], none, 0, 0⟩])
   (.reg [⟨some 40, .mv (.t 3), none, 0, 0⟩, ⟨some 41, .bin .sub (.t 40) (.c (.int .i64 1)), none, 0, 0⟩, ⟨some 3, .mv (.t 41), none, 0, 0⟩]))
   (.skip)))
  (.seq (.reg [⟨some 43, .mv (.t 0), none, 0, 0⟩, ⟨some 44, .mv (.t 1), none, 0, 0⟩, ⟨some 45, .mv (.t 2), none, 0, 0⟩, ⟨some 46, .call (.c (.fn (.func 328) [] [])) [(.t 43), (.t 44), (.t 45)], none, 0, 0⟩, ⟨some 42, .mv (.t 46), none, 0, 0⟩, ⟨some 47, .extract (.t 42) 0, none, 0, 0⟩, ⟨some 48, .extract (.t 42) 1, none, 0, 0⟩, ⟨some 11, .mv (.t 47), none, 0, 0⟩, ⟨some 12, .mv (.t 48), none, 0, 0⟩])
  (.seq (.seq (.reg [⟨some 49, .mv (.t 12), none, 0, 0⟩, ⟨some 50, .bin .eql (.t 49) (.c (.int .i64 2)), none, 0, 0⟩])
  (.cond (.t 50) (.seq (.reg [⟨some 51, .mv (.t 0), none, 0, 0⟩, ⟨some 52, .mv (.t 1), none, 0, 0⟩, ⟨some 53, .mv (.t 2), none, 0, 0⟩, ⟨some 54, .call (.c (.fn (.func 329) [] [])) [(.t 51), (.t 52), (.t 53)], none, 0, 0⟩])
   (.seq (.reg [⟨some 55, .mv (.t 2), none, 0, 0⟩, ⟨some 56, .bin .sub (.t 55) (.c (.int .i64 1)), none, 0, 0⟩, ⟨some 57, .mv (.t 11), none, 0, 0⟩, ⟨some 58, .mv (.t 1), none, 0, 0⟩, ⟨some 59, .bin .sub (.t 57) (.t 58), none, 0, 0⟩, ⟨some 60, .bin .sub (.t 56) (.t 59), none, 0, 0⟩, ⟨some 11, .mv (.t 60), none, 0, 0⟩])
   (.reg [⟨some 12, .mv (.c (.int .i64 1)), none, 0, 0⟩])))
   (.skip)))
  (.seq (.seq (.reg [⟨some 61, .mv (.t 8), none, 0, 0⟩, ⟨some 62, .mv (.t 61), none, 0, 0⟩, ⟨some 63, .mv (.t 9), (some (62, true)), 0, 0⟩, ⟨some 64, .pick (.t 62) (.t 63) (.c (.bool false)), none, 0, 0⟩, ⟨some 65, .mv (.t 64), none, 0, 0⟩, ⟨some 66, .mv (.t 12), (some (65, true)), 0, 0⟩, ⟨some 67, .bin .eql (.t 66) (.c (.int .i64 1)), (some (65, true)), 0, 0⟩, ⟨some 68, .pick (.t 65) (.t 67) (.c (.bool false)), none, 0, 0⟩])
  (.cond (.t 68) (.seq (.reg [⟨some 69, .mv (.t 0), none, 0, 0⟩, ⟨some 70, .mv (.t 1), none, 0, 0⟩, ⟨some 71, .mv (.t 2), none, 0, 0⟩, ⟨some 72, .call (.c (.fn (.func 330) [] [])) [(.t 69), (.t 70), (.t 71)], none, 0, 0⟩])
   (.cond (.t 72) .ret
    (.skip)))
   (.skip)))
  (.seq (.seq (.dreg [⟨some 73, .mv (.t 1), none, 0, 0⟩, ⟨some 74, .bin .gtr (.t 73) (.c (.int .i64 0)), none, 0, 0⟩, ⟨some 75, .mv (.t 74), none, 0, 0⟩, ⟨some 76, .mv (.t 0), (some (75, true)), 0, 0⟩, ⟨some 77, .mv (.t 1), (some (75, true)), 0, 0⟩, ⟨some 78, .bin .sub (.t 77) (.c (.int .i64 1)), (some (75, true)), 0, 0⟩, ⟨some 79, .idxAddr 1 (.t 76) (.t 78), (some (75, true)), 0, 0⟩, ⟨some 80, .load none (.t 79), (some (75, true)), 0, 0⟩, ⟨some 81, .mv (.t 0), (some (75, true)), 0, 0⟩, ⟨some 82, .mv (.t 11), (some (75, true)), 0, 0⟩, ⟨some 83, .idxAddr 1 (.t 81) (.t 82), (some (75, true)), 0, 0⟩, ⟨some 84, .load none (.t 83), (some (75, true)), 0, 0⟩, ⟨some 85, .call (.c (.fn (.func 331) [] [])) [(.t 80), (.t 84)], (some (75, true)), 0, 0⟩, ⟨some 86, .un .not (.t 85), (some (75, true)), 1, 1⟩, ⟨some 87, .pick (.t 75) (.t 86) (.c (.bool false)), none, 1, 1⟩])
  (.cond (.t 87) (.seq (.reg [⟨some 88, .mv (.t 0), none, 0, 0⟩, ⟨some 89, .mv (.t 1), none, 0, 0⟩, ⟨some 90, .mv (.t 2), none, 0, 0⟩, ⟨some 91, .mv (.t 11), none, 0, 0⟩, ⟨some 92, .call (.c (.fn (.func 332) [] [])) [(.t 88), (.t 89), (.t 90), (.t 91)], none, 0, 0⟩, ⟨some 13, .mv (.t 92), none, 0, 0⟩])
   (.seq (.reg [⟨some 93, .mv (.t 13), none, 0, 0⟩, ⟨some 1, .mv (.t 93), none, 0, 0⟩])
   (.exit 1)))
   (.skip)))
  (.seq (.reg [⟨some 95, .mv (.t 0), none, 0, 0⟩, ⟨some 96, .mv (.t 1), none, 0, 0⟩, ⟨some 97, .mv (.t 2), none, 0, 0⟩, ⟨some 98, .mv (.t 11), none, 0, 0⟩, ⟨some 99, .call (.c (.fn (.func 333) [] [])) [(.t 95), (.t 96), (.t 97), (.t 98)], none, 0, 0⟩, ⟨some 94, .mv (.t 99), none, 0, 0⟩, ⟨some 100, .extract (.t 94) 0, none, 0, 0⟩, ⟨some 101, .extract (.t 94) 1, none, 0, 0⟩, ⟨some 14, .mv (.t 100), none, 0, 0⟩, ⟨some 15, .mv (.t 101), none, 0, 0⟩])
  (.seq (.reg [⟨some 102, .mv (.t 15), none, 0, 0⟩, ⟨some 9, .mv (.t 102), none, 0, 0⟩])
  (.seq (.reg [⟨some 103, .mv (.t 14), none, 0, 0⟩, ⟨some 104, .mv (.t 1), none, 0, 0⟩, ⟨some 105, .bin .sub (.t 103) (.t 104), none, 0, 0⟩, ⟨some 106, .mv (.t 2), none, 0, 0⟩, ⟨some 107, .mv (.t 14), none, 0, 0⟩, ⟨some 108, .bin .sub (.t 106) (.t 107), none, 0, 0⟩, ⟨some 16, .mv (.t 105), none, 0, 0⟩, ⟨some 17, .mv (.t 108), none, 0, 0⟩])
  (.seq (.reg [⟨some 109, .mv (.t 10), none, 0, 0⟩, ⟨some 110, .bin .quo (.t 109) (.c (.int .i64 8)), none, 0, 0⟩, ⟨some 18, .mv (.t 110), none, 0, 0⟩])
  (.seq (.reg [⟨some 111, .mv (.t 16), none, 0, 0⟩, ⟨some 112, .mv (.t 17), none, 0, 0⟩, ⟨some 113, .bin .lss (.t 111) (.t 112), none, 0, 0⟩])
  (.cond (.t 113) (.seq (.reg [⟨some 114, .mv (.t 16), none, 0, 0⟩, ⟨some 115, .mv (.t 18), none, 0, 0⟩, ⟨some 116, .bin .geq (.t 114) (.t 115), none, 0, 0⟩, ⟨some 8, .mv (.t 116), none, 0, 0⟩])
   (.seq (.reg [⟨some 117, .mv (.t 0), none, 0, 0⟩, ⟨some 118, .mv (.t 1), none, 0, 0⟩, ⟨some 119, .mv (.t 14), none, 0, 0⟩, ⟨some 120, .mv (.t 3), none, 0, 0⟩, ⟨some 121, .call (.c (.fn (.func 304) [] [])) [(.t 117), (.t 118), (.t 119), (.t 120)], none, 0, 0⟩])
   (.reg [⟨some 122, .mv (.t 14), none, 0, 0⟩, ⟨some 123, .bin .add (.t 122) (.c (.int .i64 1)), none, 0, 0⟩, ⟨some 1, .mv (.t 123), none, 0, 0⟩])))
   (.seq (.reg [⟨some 124, .mv (.t 17), none, 0, 0⟩, ⟨some 125, .mv (.t 18), none, 0, 0⟩, ⟨some 126, .bin .geq (.t 124) (.t 125), none, 0, 0⟩, ⟨some 8, .mv (.t 126), none, 0, 0⟩])
   (.seq (.reg [⟨some 127, .mv (.t 0), none, 0, 0⟩, ⟨some 128, .mv (.t 14), none, 0, 0⟩, ⟨some 129, .bin .add (.t 128) (.c (.int .i64 1)), none, 0, 0⟩, ⟨some 130, .mv (.t 2), none, 0, 0⟩, ⟨some 131, .mv (.t 3), none, 0, 0⟩, ⟨some 132, .call (.c (.fn (.func 304) [] [])) [(.t 127), (.t 129), (.t 130), (.t 131)], none, 0, 0⟩])
   (.reg [⟨some 133, .mv (.t 14), none, 0, 0⟩, ⟨some 2, .mv (.t 133), none, 0, 0⟩])))))))))))))))))))))), []⟩
theorem c304 : ∃ fn, Tryz.prog.funcs[304]? = some fn ∧ compFn Tryz.prog fn = some a304 := ⟨_, Tryz.func304, by kernel_rfl⟩
/-- math/bits.Mul32 -/
def a310 : AFunc := ⟨17, (.seq (.reg [⟨some 4, .mv (.c (.int .u32 0)), none, 0, 0⟩, ⟨some 5, .mv (.c (.int .u32 0)), none, 0, 0⟩])
 (.seq (.reg [⟨some 7, .mv (.t 0), none, 0, 0⟩, ⟨some 8, .conv .u64 (.t 7), none, 0, 0⟩, ⟨some 9, .mv (.t 1), none, 0, 0⟩, ⟨some 10, .conv .u64 (.t 9), none, 0, 0⟩, ⟨some 11, .bin .mul (.t 8) (.t 10), none, 0, 0⟩, ⟨some 6, .mv (.t 11), none, 0, 0⟩])
 (.seq (.reg [⟨some 12, .mv (.t 6), none, 0, 0⟩, ⟨some 13, .bin .shr (.t 12) (.c (.int .u64 32)), none, 0, 0⟩, ⟨some 14, .conv .u32 (.t 13), none, 0, 0⟩, ⟨some 15, .mv (.t 6), none, 0, 0⟩, ⟨some 16, .conv .u32 (.t 15), none, 0, 0⟩, ⟨some 4, .mv (.t 14), none, 0, 0⟩, ⟨some 5, .mv (.t 16), none, 0, 0⟩])
 .ret))), [.t 4, .t 5]⟩
theorem c310 : ∃ fn, Tryz.prog.funcs[310]? = some fn ∧ compFn Tryz.prog fn = some a310 := ⟨_, Tryz.func310, by kernel_rfl⟩
/-- math/bits.Mul64 -/
def a311 : AFunc := ⟨51, (.seq (.reg [⟨some 4, .mv (.c (.int .u64 0)), none, 0, 0⟩, ⟨some 5, .mv (.c (.int .u64 0)), none, 0, 0⟩])
 (.seq (.reg [⟨some 14, .mv (.t 0), none, 0, 0⟩, ⟨some 15, .bin .and (.t 14) (.c (.int .u64 4294967295)), none, 0, 0⟩, ⟨some 6, .mv (.t 15), none, 0, 0⟩])
 (.seq (.reg [⟨some 16, .mv (.t 0), none, 0, 0⟩, ⟨some 17, .bin .shr (.t 16) (.c (.int .u64 32)), none, 0, 0⟩, ⟨some 7, .mv (.t 17), none, 0, 0⟩])
 (.seq (.reg [⟨some 18, .mv (.t 1), none, 0, 0⟩, ⟨some 19, .bin .and (.t 18) (.c (.int .u64 4294967295)), none, 0, 0⟩, ⟨some 8, .mv (.t 19), none, 0, 0⟩])
 (.seq (.reg [⟨some 20, .mv (.t 1), none, 0, 0⟩, ⟨some 21, .bin .shr (.t 20) (.c (.int .u64 32)), none, 0, 0⟩, ⟨some 9, .mv (.t 21), none, 0, 0⟩])
 (.seq (.reg [⟨some 22, .mv (.t 6), none, 0, 0⟩, ⟨some 23, .mv (.t 8), none, 0, 0⟩, ⟨some 24, .bin .mul (.t 22) (.t 23), none, 0, 0⟩, ⟨some 10, .mv (.t 24), none, 0, 0⟩])
 (.seq (.reg [⟨some 25, .mv (.t 7), none, 0, 0⟩, ⟨some 26, .mv (.t 8), none, 0, 0⟩, ⟨some 27, .bin .mul (.t 25) (.t 26), none, 0, 0⟩, ⟨some 28, .mv (.t 10), none, 0, 0⟩, ⟨some 29, .bin .shr (.t 28) (.c (.int .u64 32)), none, 0, 0⟩, ⟨some 30, .bin .add (.t 27) (.t 29), none, 0, 0⟩, ⟨some 11, .mv (.t 30), none, 0, 0⟩])
 (.seq (.reg [⟨some 31, .mv (.t 11), none, 0, 0⟩, ⟨some 32, .bin .and (.t 31) (.c (.int .u64 4294967295)), none, 0, 0⟩, ⟨some 12, .mv (.t 32), none, 0, 0⟩])
 (.seq (.reg [⟨some 33, .mv (.t 11), none, 0, 0⟩, ⟨some 34, .bin .shr (.t 33) (.c (.int .u64 32)), none, 0, 0⟩, ⟨some 13, .mv (.t 34), none, 0, 0⟩])
 (.seq (.reg [⟨some 35, .mv (.t 12), none, 0, 0⟩, ⟨some 36, .mv (.t 6), none, 0, 0⟩, ⟨some 37, .mv (.t 9), none, 0, 0⟩, ⟨some 38, .bin .mul (.t 36) (.t 37), none, 0, 0⟩, ⟨some 39, .bin .add (.t 35) (.t 38), none, 0, 0⟩, ⟨some 12, .mv (.t 39), none, 0, 0⟩])
 (.seq (.reg [⟨some 40, .mv (.t 7), none, 0, 0⟩, ⟨some 41, .mv (.t 9), none, 0, 0⟩, ⟨some 42, .bin .mul (.t 40) (.t 41), none, 0, 0⟩, ⟨some 43, .mv (.t 13), none, 0, 0⟩, ⟨some 44, .bin .add (.t 42) (.t 43), none, 0, 0⟩, ⟨some 45, .mv (.t 12), none, 0, 0⟩, ⟨some 46, .bin .shr (.t 45) (.c (.int .u64 32)), none, 0, 0⟩, ⟨some 47, .bin .add (.t 44) (.t 46), none, 0, 0⟩, ⟨some 4, .mv (.t 47), none, 0, 0⟩])
 (.seq (.reg [⟨some 48, .mv (.t 0), none, 0, 0⟩, ⟨some 49, .mv (.t 1), none, 0, 0⟩, ⟨some 50, .bin .mul (.t 48) (.t 49), none, 0, 0⟩, ⟨some 5, .mv (.t 50), none, 0, 0⟩])
 .ret)))))))))))), [.t 4, .t 5]⟩
theorem c311 : ∃ fn, Tryz.prog.funcs[311]? = some fn ∧ compFn Tryz.prog fn = some a311 := ⟨_, Tryz.func311, by kernel_rfl⟩
/-- internal/stringslite.HasPrefix -/
def a312 : AFunc := ⟨18, (.seq (.reg [⟨some 4, .mv (.c (.bool false)), none, 0, 0⟩])
 (.seq (.reg [⟨some 5, .mv (.t 0), none, 0, 0⟩, ⟨some 6, .len 0 (.t 5), none, 0, 0⟩, ⟨some 7, .mv (.t 1), none, 0, 0⟩, ⟨some 8, .len 0 (.t 7), none, 0, 0⟩, ⟨some 9, .bin .geq (.t 6) (.t 8), none, 0, 0⟩, ⟨some 10, .mv (.t 9), none, 0, 0⟩, ⟨some 11, .mv (.t 0), (some (10, true)), 0, 0⟩, ⟨some 12, .mv (.t 1), (some (10, true)), 0, 0⟩, ⟨some 13, .len 0 (.t 12), (some (10, true)), 0, 0⟩, ⟨some 14, .slcS (.t 11) none (some (.t 13)), (some (10, true)), 0, 0⟩, ⟨some 15, .mv (.t 1), (some (10, true)), 0, 0⟩, ⟨some 16, .bin .eql (.t 14) (.t 15), (some (10, true)), 0, 0⟩, ⟨some 17, .pick (.t 10) (.t 16) (.c (.bool false)), none, 0, 0⟩, ⟨some 4, .mv (.t 17), none, 0, 0⟩])
 .ret)), [.t 4]⟩
theorem c312 : ∃ fn, Tryz.prog.funcs[312]? = some fn ∧ compFn Tryz.prog fn = some a312 := ⟨_, Tryz.func312, by kernel_rfl⟩
/-- (*strings.Builder).grow -/
def a313 : AFunc := ⟨30, (.seq (.dreg [⟨some 5, .mv (.t 0), none, 0, 0⟩, ⟨some 6, .nilck (.t 5), none, 0, 0⟩, ⟨some 7, .fieldAddr 1 (.t 6), none, 0, 0⟩, ⟨some 8, .load none (.t 7), none, 0, 0⟩, ⟨some 9, .bad, none, 0, 0⟩, ⟨some 10, .bin .mul (.c (.int .i64 2)) (.t 9), none, 0, 0⟩, ⟨some 11, .mv (.t 1), none, 0, 0⟩, ⟨some 12, .bin .add (.t 10) (.t 11), none, 0, 0⟩, ⟨some 13, .call (.c (.fn (.func 334) [] [])) [(.t 12)], none, 0, 0⟩, ⟨some 14, .mv (.t 0), none, 0, 1⟩, ⟨some 15, .nilck (.t 14), none, 0, 1⟩, ⟨some 16, .fieldAddr 1 (.t 15), none, 0, 1⟩, ⟨some 17, .load none (.t 16), none, 0, 1⟩, ⟨some 18, .len 1 (.t 17), none, 0, 1⟩, ⟨some 19, .slc 1 (.t 13) none (some (.t 18)) none, none, 1, 1⟩, ⟨some 4, .mv (.t 19), none, 1, 1⟩])
 (.seq (.reg [⟨some 20, .mv (.t 4), none, 0, 0⟩, ⟨some 21, .mv (.t 0), none, 0, 0⟩, ⟨some 22, .nilck (.t 21), none, 0, 0⟩, ⟨some 23, .fieldAddr 1 (.t 22), none, 0, 0⟩, ⟨some 24, .load none (.t 23), none, 0, 0⟩, ⟨some 25, .copy 1 (.t 20) (.t 24), none, 0, 0⟩])
 (.reg [⟨some 26, .mv (.t 0), none, 0, 0⟩, ⟨some 27, .mv (.t 4), none, 0, 0⟩, ⟨some 28, .nilck (.t 26), none, 0, 0⟩, ⟨some 29, .fieldAddr 1 (.t 28), none, 0, 0⟩, ⟨none, .store 1 (.t 29) (.t 27), none, 0, 0⟩]))), []⟩
theorem c313 : ∃ fn, Tryz.prog.funcs[313]? = some fn ∧ compFn Tryz.prog fn = some a313 := ⟨_, Tryz.func313, by kernel_rfl⟩
/-- math/bits.Len32 -/
def a323 : AFunc := ⟨19, (.seq (.reg [⟨some 2, .mv (.c (.int .i64 0)), none, 0, 0⟩])
 (.seq (.seq (.reg [⟨some 3, .mv (.t 0), none, 0, 0⟩, ⟨some 4, .bin .geq (.t 3) (.c (.int .u32 65536)), none, 0, 0⟩])
 (.cond (.t 4) (.seq (.reg [⟨some 5, .mv (.t 0), none, 0, 0⟩, ⟨some 6, .bin .shr (.t 5) (.c (.int .u64 16)), none, 0, 0⟩, ⟨some 0, .mv (.t 6), none, 0, 0⟩])
  (.reg [⟨some 2, .mv (.c (.int .i64 16)), none, 0, 0⟩]))
  (.skip)))
 (.seq (.seq (.reg [⟨some 7, .mv (.t 0), none, 0, 0⟩, ⟨some 8, .bin .geq (.t 7) (.c (.int .u32 256)), none, 0, 0⟩])
 (.cond (.t 8) (.seq (.reg [⟨some 9, .mv (.t 0), none, 0, 0⟩, ⟨some 10, .bin .shr (.t 9) (.c (.int .u64 8)), none, 0, 0⟩, ⟨some 0, .mv (.t 10), none, 0, 0⟩])
  (.reg [⟨some 11, .mv (.t 2), none, 0, 0⟩, ⟨some 12, .bin .add (.t 11) (.c (.int .i64 8)), none, 0, 0⟩, ⟨some 2, .mv (.t 12), none, 0, 0⟩]))
  (.skip)))
 (.seq (.reg [⟨some 13, .mv (.t 2), none, 0, 0⟩, ⟨some 14, .mv (.t 0), none, 0, 0⟩, ⟨some 15, .conv .u8 (.t 14), none, 0, 0⟩, ⟨some 16, .idxS (.c (.str [0, 1, 2, 2, 3, 3, 3, 3, 4, 4, 4, 4, 4, 4, 4, 4, 5, 5, 5, 5, 5, 5, 5, 5, 5, 5, 5, 5, 5, 5, 5, 5, 6, 6, 6, 6, 6, 6, 6, 6, 6, 6, 6, 6, 6, 6, 6, 6, 6, 6, 6, 6, 6, 6, 6, 6, 6, 6, 6, 6, 6, 6, 6, 6, 7, 7, 7, 7, 7, 7, 7, 7, 7, 7, 7, 7, 7, 7, 7, 7, 7, 7, 7, 7, 7, 7, 7, 7, 7, 7, 7, 7, 7, 7, 7, 7, 7, 7, 7, 7, 7, 7, 7, 7, 7, 7, 7, 7, 7, 7, 7, 7, 7, 7, 7, 7, 7, 7, 7, 7, 7, 7, 7, 7, 7, 7, 7, 7, 8, 8, 8, 8, 8, 8, 8, 8, 8, 8, 8, 8, 8, 8, 8, 8, 8, 8, 8, 8, 8, 8, 8, 8, 8, 8, 8, 8, 8, 8, 8, 8, 8, 8, 8, 8, 8, 8, 8, 8, 8, 8, 8, 8, 8, 8, 8, 8, 8, 8, 8, 8, 8, 8, 8, 8, 8, 8, 8, 8, 8, 8, 8, 8, 8, 8, 8, 8, 8, 8, 8, 8, 8, 8, 8, 8, 8, 8, 8, 8, 8, 8, 8, 8, 8, 8, 8, 8, 8, 8, 8, 8, 8, 8, 8, 8, 8, 8, 8, 8, 8, 8, 8, 8, 8, 8, 8, 8, 8, 8, 8, 8, 8, 8, 8, 8, 8, 8, 8, 8, 8, 8, 8, 8, 8, 8, 8, 8])) (.t 15), none, 0, 0⟩, ⟨some 17, .conv .i64 (.t 16), none, 0, 0⟩, ⟨some 18, .bin .add (.t 13) (.t 17), none, 0, 0⟩, ⟨some 2, .mv (.t 18), none, 0, 0⟩])
 .ret)))), [.t 2]⟩
theorem c323 : ∃ fn, Tryz.prog.funcs[323]? = some fn ∧ compFn Tryz.prog fn = some a323 := ⟨_, Tryz.func323, by kernel_rfl⟩
/-- math/bits.Len64 -/
def a324 : AFunc := ⟨25, (.seq (.reg [⟨some 2, .mv (.c (.int .i64 0)), none, 0, 0⟩])
 (.seq (.seq (.reg [⟨some 3, .mv (.t 0), none, 0, 0⟩, ⟨some 4, .bin .geq (.t 3) (.c (.int .u64 4294967296)), none, 0, 0⟩])
 (.cond (.t 4) (.seq (.reg [⟨some 5, .mv (.t 0), none, 0, 0⟩, ⟨some 6, .bin .shr (.t 5) (.c (.int .u64 32)), none, 0, 0⟩, ⟨some 0, .mv (.t 6), none, 0, 0⟩])
  (.reg [⟨some 2, .mv (.c (.int .i64 32)), none, 0, 0⟩]))
  (.skip)))
 (.seq (.seq (.reg [⟨some 7, .mv (.t 0), none, 0, 0⟩, ⟨some 8, .bin .geq (.t 7) (.c (.int .u64 65536)), none, 0, 0⟩])
 (.cond (.t 8) (.seq (.reg [⟨some 9, .mv (.t 0), none, 0, 0⟩, ⟨some 10, .bin .shr (.t 9) (.c (.int .u64 16)), none, 0, 0⟩, ⟨some 0, .mv (.t 10), none, 0, 0⟩])
  (.reg [⟨some 11, .mv (.t 2), none, 0, 0⟩, ⟨some 12, .bin .add (.t 11) (.c (.int .i64 16)), none, 0, 0⟩, ⟨some 2, .mv (.t 12), none, 0, 0⟩]))
  (.skip)))
 (.seq (.seq (.reg [⟨some 13, .mv (.t 0), none, 0, 0⟩, ⟨some 14, .bin .geq (.t 13) (.c (.int .u64 256)), none, 0, 0⟩])
 (.cond (.t 14) (.seq (.reg [⟨some 15, .mv (.t 0), none, 0, 0⟩, ⟨some 16, .bin .shr (.t 15) (.c (.int .u64 8)), none, 0, 0⟩, ⟨some 0, .mv (.t 16), none, 0, 0⟩])
  (.reg [⟨some 17, .mv (.t 2), none, 0, 0⟩, ⟨some 18, .bin .add (.t 17) (.c (.int .i64 8)), none, 0, 0⟩, ⟨some 2, .mv (.t 18), none, 0, 0⟩]))
  (.skip)))
 (.seq (.reg [⟨some 19, .mv (.t 2), none, 0, 0⟩, ⟨some 20, .mv (.t 0), none, 0, 0⟩, ⟨some 21, .conv .u8 (.t 20), none, 0, 0⟩, ⟨some 22, .idxS (.c (.str [0, 1, 2, 2, 3, 3, 3, 3, 4, 4, 4, 4, 4, 4, 4, 4, 5, 5, 5, 5, 5, 5, 5, 5, 5, 5, 5, 5, 5, 5, 5, 5, 6, 6, 6, 6, 6, 6, 6, 6, 6, 6, 6, 6, 6, 6, 6, 6, 6, 6, 6, 6, 6, 6, 6, 6, 6, 6, 6, 6, 6, 6, 6, 6, 7, 7, 7, 7, 7, 7, 7, 7, 7, 7, 7, 7, 7, 7, 7, 7, 7, 7, 7, 7, 7, 7, 7, 7, 7, 7, 7, 7, 7, 7, 7, 7, 7, 7, 7, 7, 7, 7, 7, 7, 7, 7, 7, 7, 7, 7, 7, 7, 7, 7, 7, 7, 7, 7, 7, 7, 7, 7, 7, 7, 7, 7, 7, 7, 8, 8, 8, 8, 8, 8, 8, 8, 8, 8, 8, 8, 8, 8, 8, 8, 8, 8, 8, 8, 8, 8, 8, 8, 8, 8, 8, 8, 8, 8, 8, 8, 8, 8, 8, 8, 8, 8, 8, 8, 8, 8, 8, 8, 8, 8, 8, 8, 8, 8, 8, 8, 8, 8, 8, 8, 8, 8, 8, 8, 8, 8, 8, 8, 8, 8, 8, 8, 8, 8, 8, 8, 8, 8, 8, 8, 8, 8, 8, 8, 8, 8, 8, 8, 8, 8, 8, 8, 8, 8, 8, 8, 8, 8, 8, 8, 8, 8, 8, 8, 8, 8, 8, 8, 8, 8, 8, 8, 8, 8, 8, 8, 8, 8, 8, 8, 8, 8, 8, 8, 8, 8, 8, 8, 8, 8, 8, 8])) (.t 21), none, 0, 0⟩, ⟨some 23, .conv .i64 (.t 22), none, 0, 0⟩, ⟨some 24, .bin .add (.t 19) (.t 23), none, 0, 0⟩, ⟨some 2, .mv (.t 24), none, 0, 0⟩])
 .ret))))), [.t 2]⟩
theorem c324 : ∃ fn, Tryz.prog.funcs[324]? = some fn ∧ compFn Tryz.prog fn = some a324 := ⟨_, Tryz.func324, by kernel_rfl⟩
/-- slices.insertionSortOrdered[string] -/
def a325 : AFunc := ⟨49, (.seq (.reg [⟨some 8, .mv (.t 1), none, 0, 0⟩, ⟨some 9, .bin .add (.t 8) (.c (.int .i64 1)), none, 0, 0⟩, ⟨some 6, .mv (.t 9), none, 0, 0⟩])
 (.block 0 (.loop (.seq (.seq (.reg [⟨some 10, .mv (.t 6), none, 0, 0⟩, ⟨some 11, .mv (.t 2), none, 0, 0⟩, ⟨some 12, .bin .lss (.t 10) (.t 11), none, 0, 0⟩])
  (.cond (.t 12) (.skip)
   (.exit 0)))
  (.seq (.block 1 (.seq (.reg [⟨some 15, .mv (.t 6), none, 0, 0⟩, ⟨some 7, .mv (.t 15), none, 0, 0⟩])
  (.block 2 (.loop (.seq (.seq (.dreg [⟨some 16, .mv (.t 7), none, 0, 0⟩, ⟨some 17, .mv (.t 1), none, 0, 0⟩, ⟨some 18, .bin .gtr (.t 16) (.t 17), none, 0, 0⟩, ⟨some 19, .mv (.t 18), none, 0, 0⟩, ⟨some 20, .mv (.t 0), (some (19, true)), 0, 0⟩, ⟨some 21, .mv (.t 7), (some (19, true)), 0, 0⟩, ⟨some 22, .idxAddr 1 (.t 20) (.t 21), (some (19, true)), 0, 0⟩, ⟨some 23, .load none (.t 22), (some (19, true)), 0, 0⟩, ⟨some 24, .mv (.t 0), (some (19, true)), 0, 0⟩, ⟨some 25, .mv (.t 7), (some (19, true)), 0, 0⟩, ⟨some 26, .bin .sub (.t 25) (.c (.int .i64 1)), (some (19, true)), 0, 0⟩, ⟨some 27, .idxAddr 1 (.t 24) (.t 26), (some (19, true)), 0, 0⟩, ⟨some 28, .load none (.t 27), (some (19, true)), 0, 0⟩, ⟨some 29, .call (.c (.fn (.func 331) [] [])) [(.t 23), (.t 28)], (some (19, true)), 0, 0⟩, ⟨some 30, .pick (.t 19) (.t 29) (.c (.bool false)), none, 1, 1⟩])
   (.cond (.t 30) (.skip)
    (.exit 2)))
   (.seq (.block 3 (.dreg [⟨some 33, .mv (.t 0), none, 0, 0⟩, ⟨some 34, .mv (.t 7), none, 0, 0⟩, ⟨some 35, .mv (.t 0), none, 0, 1⟩, ⟨some 36, .mv (.t 7), none, 0, 1⟩, ⟨some 37, .bin .sub (.t 36) (.c (.int .i64 1)), none, 0, 1⟩, ⟨some 38, .mv (.t 0), none, 0, 0⟩, ⟨some 39, .mv (.t 7), none, 0, 0⟩, ⟨some 40, .bin .sub (.t 39) (.c (.int .i64 1)), none, 0, 0⟩, ⟨some 41, .idxAddr 1 (.t 38) (.t 40), none, 0, 0⟩, ⟨some 42, .load none (.t 41), none, 0, 0⟩, ⟨some 43, .mv (.t 0), none, 0, 0⟩, ⟨some 44, .mv (.t 7), none, 0, 0⟩, ⟨some 45, .idxAddr 1 (.t 43) (.t 44), none, 0, 0⟩, ⟨some 46, .load none (.t 45), none, 0, 0⟩, ⟨some 47, .idxAddr 1 (.t 33) (.t 34), none, 0, 0⟩, ⟨none, .store 1 (.t 47) (.t 42), none, 0, 0⟩, ⟨some 48, .idxAddr 1 (.t 35) (.t 37), none, 1, 1⟩, ⟨none, .store 1 (.t 48) (.t 46), none, 0, 0⟩]))
   (.reg [⟨some 31, .mv (.t 7), none, 0, 0⟩, ⟨some 32, .bin .sub (.t 31) (.c (.int .i64 1)), none, 0, 0⟩, ⟨some 7, .mv (.t 32), none, 0, 0⟩])))))))
  (.reg [⟨some 13, .mv (.t 6), none, 0, 0⟩, ⟨some 14, .bin .add (.t 13) (.c (.int .i64 1)), none, 0, 0⟩, ⟨some 6, .mv (.t 14), none, 0, 0⟩])))))), []⟩
theorem c325 : ∃ fn, Tryz.prog.funcs[325]? = some fn ∧ compFn Tryz.prog fn = some a325 := ⟨_, Tryz.func325, by kernel_rfl⟩
/-- slices.heapSortOrdered[string] -/
def a326 : AFunc := ⟨56, (.seq (.reg [⟨some 11, .mv (.t 1), none, 0, 0⟩, ⟨some 6, .mv (.t 11), none, 0, 0⟩])
 (.seq (.reg [⟨some 7, .mv (.c (.int .i64 0)), none, 0, 0⟩])
 (.seq (.reg [⟨some 12, .mv (.t 2), none, 0, 0⟩, ⟨some 13, .mv (.t 1), none, 0, 0⟩, ⟨some 14, .bin .sub (.t 12) (.t 13), none, 0, 0⟩, ⟨some 8, .mv (.t 14), none, 0, 0⟩])
 (.seq (.seq (.reg [⟨some 15, .mv (.t 8), none, 0, 0⟩, ⟨some 16, .bin .sub (.t 15) (.c (.int .i64 1)), none, 0, 0⟩, ⟨some 17, .bin .quo (.t 16) (.c (.int .i64 2)), none, 0, 0⟩, ⟨some 9, .mv (.t 17), none, 0, 0⟩])
 (.block 0 (.loop (.seq (.seq (.reg [⟨some 18, .mv (.t 9), none, 0, 0⟩, ⟨some 19, .bin .geq (.t 18) (.c (.int .i64 0)), none, 0, 0⟩])
  (.cond (.t 19) (.skip)
   (.exit 0)))
  (.seq (.block 1 (.reg [⟨some 22, .mv (.t 0), none, 0, 0⟩, ⟨some 23, .mv (.t 9), none, 0, 0⟩, ⟨some 24, .mv (.t 8), none, 0, 0⟩, ⟨some 25, .mv (.t 6), none, 0, 0⟩, ⟨some 26, .call (.c (.fn (.func 340) [] [])) [(.t 22), (.t 23), (.t 24), (.t 25)], none, 0, 0⟩]))
  (.reg [⟨some 20, .mv (.t 9), none, 0, 0⟩, ⟨some 21, .bin .sub (.t 20) (.c (.int .i64 1)), none, 0, 0⟩, ⟨some 9, .mv (.t 21), none, 0, 0⟩]))))))
 (.seq (.reg [⟨some 27, .mv (.t 8), none, 0, 0⟩, ⟨some 28, .bin .sub (.t 27) (.c (.int .i64 1)), none, 0, 0⟩, ⟨some 10, .mv (.t 28), none, 0, 0⟩])
 (.block 2 (.loop (.seq (.seq (.reg [⟨some 29, .mv (.t 10), none, 0, 0⟩, ⟨some 30, .bin .geq (.t 29) (.c (.int .i64 0)), none, 0, 0⟩])
  (.cond (.t 30) (.skip)
   (.exit 2)))
  (.seq (.block 3 (.seq (.dreg [⟨some 33, .mv (.t 0), none, 0, 0⟩, ⟨some 34, .mv (.t 6), none, 0, 0⟩, ⟨some 35, .mv (.t 0), none, 0, 1⟩, ⟨some 36, .mv (.t 6), none, 0, 1⟩, ⟨some 37, .mv (.t 10), none, 0, 1⟩, ⟨some 38, .bin .add (.t 36) (.t 37), none, 0, 1⟩, ⟨some 39, .mv (.t 0), none, 0, 0⟩, ⟨some 40, .mv (.t 6), none, 0, 0⟩, ⟨some 41, .mv (.t 10), none, 0, 0⟩, ⟨some 42, .bin .add (.t 40) (.t 41), none, 0, 0⟩, ⟨some 43, .idxAddr 1 (.t 39) (.t 42), none, 0, 0⟩, ⟨some 44, .load none (.t 43), none, 0, 0⟩, ⟨some 45, .mv (.t 0), none, 0, 0⟩, ⟨some 46, .mv (.t 6), none, 0, 0⟩, ⟨some 47, .idxAddr 1 (.t 45) (.t 46), none, 0, 0⟩, ⟨some 48, .load none (.t 47), none, 0, 0⟩, ⟨some 49, .idxAddr 1 (.t 33) (.t 34), none, 0, 0⟩, ⟨none, .store 1 (.t 49) (.t 44), none, 0, 0⟩, ⟨some 50, .idxAddr 1 (.t 35) (.t 38), none, 1, 1⟩, ⟨none, .store 1 (.t 50) (.t 48), none, 0, 0⟩])
  (.reg [⟨some 51, .mv (.t 0), none, 0, 0⟩, ⟨some 52, .mv (.t 7), none, 0, 0⟩, ⟨some 53, .mv (.t 10), none, 0, 0⟩, ⟨some 54, .mv (.t 6), none, 0, 0⟩, ⟨some 55, .call (.c (.fn (.func 340) [] [])) [(.t 51), (.t 52), (.t 53), (.t 54)], none, 0, 0⟩])))
  (.reg [⟨some 31, .mv (.t 10), none, 0, 0⟩, ⟨some 32, .bin .sub (.t 31) (.c (.int .i64 1)), none, 0, 0⟩, ⟨some 10, .mv (.t 32), none, 0, 0⟩])))))))))), []⟩
theorem c326 : ∃ fn, Tryz.prog.funcs[326]? = some fn ∧ compFn Tryz.prog fn = some a326 := ⟨_, Tryz.func326, by kernel_rfl⟩
/-- slices.breakPatternsOrdered[string] -/
def a327 : AFunc := ⟨65, (.seq (.reg [⟨some 11, .mv (.t 2), none, 0, 0⟩, ⟨some 12, .mv (.t 1), none, 0, 0⟩, ⟨some 13, .bin .sub (.t 11) (.t 12), none, 0, 0⟩, ⟨some 6, .mv (.t 13), none, 0, 0⟩])
 (.seq (.reg [⟨some 14, .mv (.t 6), none, 0, 0⟩, ⟨some 15, .bin .geq (.t 14) (.c (.int .i64 8)), none, 0, 0⟩])
 (.cond (.t 15) (.seq (.reg [⟨some 16, .mv (.t 6), none, 0, 0⟩, ⟨some 17, .conv .u64 (.t 16), none, 0, 0⟩, ⟨some 7, .alloc [(.int .u64 0)], none, 0, 0⟩, ⟨none, .store 1 (.t 7) (.t 17), none, 0, 0⟩])
  (.seq (.reg [⟨some 18, .mv (.t 6), none, 0, 0⟩, ⟨some 19, .call (.c (.fn (.func 336) [] [])) [(.t 18)], none, 0, 0⟩, ⟨some 8, .mv (.t 19), none, 0, 0⟩])
  (.seq (.reg [⟨some 20, .mv (.t 1), none, 0, 0⟩, ⟨some 21, .mv (.t 6), none, 0, 0⟩, ⟨some 22, .bin .quo (.t 21) (.c (.int .i64 4)), none, 0, 0⟩, ⟨some 23, .bin .mul (.t 22) (.c (.int .i64 2)), none, 0, 0⟩, ⟨some 24, .bin .add (.t 20) (.t 23), none, 0, 0⟩, ⟨some 25, .bin .sub (.t 24) (.c (.int .i64 1)), none, 0, 0⟩, ⟨some 9, .mv (.t 25), none, 0, 0⟩])
  (.block 0 (.loop (.seq (.seq (.reg [⟨some 26, .mv (.t 9), none, 0, 0⟩, ⟨some 27, .mv (.t 1), none, 0, 0⟩, ⟨some 28, .mv (.t 6), none, 0, 0⟩, ⟨some 29, .bin .quo (.t 28) (.c (.int .i64 4)), none, 0, 0⟩, ⟨some 30, .bin .mul (.t 29) (.c (.int .i64 2)), none, 0, 0⟩, ⟨some 31, .bin .add (.t 27) (.t 30), none, 0, 0⟩, ⟨some 32, .bin .add (.t 31) (.c (.int .i64 1)), none, 0, 0⟩, ⟨some 33, .bin .leq (.t 26) (.t 32), none, 0, 0⟩])
   (.cond (.t 33) (.skip)
    (.exit 0)))
   (.seq (.block 1 (.seq (.reg [⟨some 36, .call (.c (.fn (.func 337) [] [])) [(.t 7)], none, 0, 0⟩, ⟨some 37, .mv (.t 8), none, 0, 0⟩, ⟨some 38, .bin .sub (.t 37) (.c (.int .u64 1)), none, 0, 0⟩, ⟨some 39, .bin .and (.t 36) (.t 38), none, 0, 0⟩, ⟨some 40, .conv .i64 (.t 39), none, 0, 0⟩, ⟨some 10, .mv (.t 40), none, 0, 0⟩])
   (.seq (.seq (.reg [⟨some 41, .mv (.t 10), none, 0, 0⟩, ⟨some 42, .mv (.t 6), none, 0, 0⟩, ⟨some 43, .bin .geq (.t 41) (.t 42), none, 0, 0⟩])
   (.cond (.t 43) (.reg [⟨some 44, .mv (.t 10), none, 0, 0⟩, ⟨some 45, .mv (.t 6), none, 0, 0⟩, ⟨some 46, .bin .sub (.t 44) (.t 45), none, 0, 0⟩, ⟨some 10, .mv (.t 46), none, 0, 0⟩])
    (.skip)))
   (.dreg [⟨some 47, .mv (.t 0), none, 0, 0⟩, ⟨some 48, .mv (.t 9), none, 0, 0⟩, ⟨some 49, .mv (.t 0), none, 0, 1⟩, ⟨some 50, .mv (.t 1), none, 0, 1⟩, ⟨some 51, .mv (.t 10), none, 0, 1⟩, ⟨some 52, .bin .add (.t 50) (.t 51), none, 0, 1⟩, ⟨some 53, .mv (.t 0), none, 0, 0⟩, ⟨some 54, .mv (.t 1), none, 0, 0⟩, ⟨some 55, .mv (.t 10), none, 0, 0⟩, ⟨some 56, .bin .add (.t 54) (.t 55), none, 0, 0⟩, ⟨some 57, .idxAddr 1 (.t 53) (.t 56), none, 0, 0⟩, ⟨some 58, .load none (.t 57), none, 0, 0⟩, ⟨some 59, .mv (.t 0), none, 0, 0⟩, ⟨some 60, .mv (.t 9), none, 0, 0⟩, ⟨some 61, .idxAddr 1 (.t 59) (.t 60), none, 0, 0⟩, ⟨some 62, .load none (.t 61), none, 0, 0⟩, ⟨some 63, .idxAddr 1 (.t 47) (.t 48), none, 0, 0⟩, ⟨none, .store 1 (.t 63) (.t 58), none, 0, 0⟩, ⟨some 64, .idxAddr 1 (.t 49) (.t 52), none, 1, 1⟩, ⟨none, .store 1 (.t 64) (.t 62), none, 0, 0⟩]))))
   (.reg [⟨some 34, .mv (.t 9), none, 0, 0⟩, ⟨some 35, .bin .add (.t 34) (.c (.int .i64 1)), none, 0, 0⟩, ⟨some 9, .mv (.t 35), none, 0, 0⟩]))))))))
  (.skip)))), []⟩
theorem c327 : ∃ fn, Tryz.prog.funcs[327]? = some fn ∧ compFn Tryz.prog fn = some a327 := ⟨_, Tryz.func327, by kernel_rfl⟩
/-- slices.choosePivotOrdered[string] -/
def a328 : AFunc := ⟨57, (.seq (.reg [⟨some 6, .mv (.c (.int .i64 0)), none, 0, 0⟩, ⟨some 7, .mv (.c (.int .i64 0)), none, 0, 0⟩])
 (.seq (.reg [⟨some 13, .mv (.t 2), none, 0, 0⟩, ⟨some 14, .mv (.t 1), none, 0, 0⟩, ⟨some 15, .bin .sub (.t 13) (.t 14), none, 0, 0⟩, ⟨some 8, .mv (.t 15), none, 0, 0⟩])
 (.seq (.reg [⟨some 9, .alloc [(.int .i64 0)], none, 0, 0⟩])
 (.seq (.reg [⟨some 16, .mv (.t 1), none, 0, 0⟩, ⟨some 17, .mv (.t 8), none, 0, 0⟩, ⟨some 18, .bin .quo (.t 17) (.c (.int .i64 4)), none, 0, 0⟩, ⟨some 19, .bin .mul (.t 18) (.c (.int .i64 1)), none, 0, 0⟩, ⟨some 20, .bin .add (.t 16) (.t 19), none, 0, 0⟩, ⟨some 10, .mv (.t 20), none, 0, 0⟩])
 (.seq (.reg [⟨some 21, .mv (.t 1), none, 0, 0⟩, ⟨some 22, .mv (.t 8), none, 0, 0⟩, ⟨some 23, .bin .quo (.t 22) (.c (.int .i64 4)), none, 0, 0⟩, ⟨some 24, .bin .mul (.t 23) (.c (.int .i64 2)), none, 0, 0⟩, ⟨some 25, .bin .add (.t 21) (.t 24), none, 0, 0⟩, ⟨some 11, .mv (.t 25), none, 0, 0⟩])
 (.seq (.reg [⟨some 26, .mv (.t 1), none, 0, 0⟩, ⟨some 27, .mv (.t 8), none, 0, 0⟩, ⟨some 28, .bin .quo (.t 27) (.c (.int .i64 4)), none, 0, 0⟩, ⟨some 29, .bin .mul (.t 28) (.c (.int .i64 3)), none, 0, 0⟩, ⟨some 30, .bin .add (.t 26) (.t 29), none, 0, 0⟩, ⟨some 12, .mv (.t 30), none, 0, 0⟩])
 (.seq (.seq (.reg [⟨some 31, .mv (.t 8), none, 0, 0⟩, ⟨some 32, .bin .geq (.t 31) (.c (.int .i64 8)), none, 0, 0⟩])
 (.cond (.t 32) (.seq (.seq (.reg [⟨some 33, .mv (.t 8), none, 0, 0⟩, ⟨some 34, .bin .geq (.t 33) (.c (.int .i64 50)), none, 0, 0⟩])
  (.cond (.t 34) (.seq (.reg [⟨some 35, .mv (.t 0), none, 0, 0⟩, ⟨some 36, .mv (.t 10), none, 0, 0⟩, ⟨some 37, .call (.c (.fn (.func 341) [] [])) [(.t 35), (.t 36), (.t 9)], none, 0, 0⟩, ⟨some 10, .mv (.t 37), none, 0, 0⟩])
   (.seq (.reg [⟨some 38, .mv (.t 0), none, 0, 0⟩, ⟨some 39, .mv (.t 11), none, 0, 0⟩, ⟨some 40, .call (.c (.fn (.func 341) [] [])) [(.t 38), (.t 39), (.t 9)], none, 0, 0⟩, ⟨some 11, .mv (.t 40), none, 0, 0⟩])
   (.reg [⟨some 41, .mv (.t 0), none, 0, 0⟩, ⟨some 42, .mv (.t 12), none, 0, 0⟩, ⟨some 43, .call (.c (.fn (.func 341) [] [])) [(.t 41), (.t 42), (.t 9)], none, 0, 0⟩, ⟨some 12, .mv (.t 43), none, 0, 0⟩])))
   (.skip)))
  (.reg [⟨some 44, .mv (.t 0), none, 0, 0⟩, ⟨some 45, .mv (.t 10), none, 0, 0⟩, ⟨some 46, .mv (.t 11), none, 0, 0⟩, ⟨some 47, .mv (.t 12), none, 0, 0⟩, ⟨some 48, .call (.c (.fn (.func 342) [] [])) [(.t 44), (.t 45), (.t 46), (.t 47), (.t 9)], none, 0, 0⟩, ⟨some 11, .mv (.t 48), none, 0, 0⟩]))
  (.skip)))
 (.seq (.reg [⟨some 49, .load none (.t 9), none, 0, 0⟩])
 (.block 0 (.seq (.reg [⟨some 52, .bin .eql (.t 49) (.c (.int .i64 0)), none, 0, 0⟩, ⟨some 51, .mv (.t 52), none, 0, 0⟩])
 (.cond (.t 51) (.seq (.reg [⟨some 53, .mv (.t 11), none, 0, 0⟩, ⟨some 6, .mv (.t 53), none, 0, 0⟩, ⟨some 7, .mv (.c (.int .i64 1)), none, 0, 0⟩])
  .ret)
  (.seq (.reg [⟨some 55, .bin .eql (.t 49) (.c (.int .i64 12)), none, 0, 0⟩, ⟨some 54, .mv (.t 55), none, 0, 0⟩])
  (.cond (.t 54) (.seq (.reg [⟨some 56, .mv (.t 11), none, 0, 0⟩, ⟨some 6, .mv (.t 56), none, 0, 0⟩, ⟨some 7, .mv (.c (.int .i64 2)), none, 0, 0⟩])
   .ret)
   (.seq (.reg [⟨some 50, .mv (.t 11), none, 0, 0⟩, ⟨some 6, .mv (.t 50), none, 0, 0⟩, ⟨some 7, .mv (.c (.int .i64 0)), none, 0, 0⟩])
   .ret)))))))))))))), [.t 6, .t 7]⟩
theorem c328 : ∃ fn, Tryz.prog.funcs[328]? = some fn ∧ compFn Tryz.prog fn = some a328 := ⟨_, Tryz.func328, by kernel_rfl⟩
/-- slices.reverseRangeOrdered[string] -/
def a329 : AFunc := ⟨32, (.seq (.reg [⟨some 8, .mv (.t 1), none, 0, 0⟩, ⟨some 6, .mv (.t 8), none, 0, 0⟩])
 (.seq (.reg [⟨some 9, .mv (.t 2), none, 0, 0⟩, ⟨some 10, .bin .sub (.t 9) (.c (.int .i64 1)), none, 0, 0⟩, ⟨some 7, .mv (.t 10), none, 0, 0⟩])
 (.block 0 (.loop (.seq (.seq (.reg [⟨some 11, .mv (.t 6), none, 0, 0⟩, ⟨some 12, .mv (.t 7), none, 0, 0⟩, ⟨some 13, .bin .lss (.t 11) (.t 12), none, 0, 0⟩])
  (.cond (.t 13) (.skip)
   (.exit 0)))
  (.block 1 (.seq (.dreg [⟨some 14, .mv (.t 0), none, 0, 0⟩, ⟨some 15, .mv (.t 6), none, 0, 0⟩, ⟨some 16, .mv (.t 0), none, 0, 1⟩, ⟨some 17, .mv (.t 7), none, 0, 1⟩, ⟨some 18, .mv (.t 0), none, 0, 0⟩, ⟨some 19, .mv (.t 7), none, 0, 0⟩, ⟨some 20, .idxAddr 1 (.t 18) (.t 19), none, 0, 0⟩, ⟨some 21, .load none (.t 20), none, 0, 0⟩, ⟨some 22, .mv (.t 0), none, 0, 0⟩, ⟨some 23, .mv (.t 6), none, 0, 0⟩, ⟨some 24, .idxAddr 1 (.t 22) (.t 23), none, 0, 0⟩, ⟨some 25, .load none (.t 24), none, 0, 0⟩, ⟨some 26, .idxAddr 1 (.t 14) (.t 15), none, 0, 0⟩, ⟨none, .store 1 (.t 26) (.t 21), none, 0, 0⟩, ⟨some 27, .idxAddr 1 (.t 16) (.t 17), none, 1, 1⟩, ⟨none, .store 1 (.t 27) (.t 25), none, 0, 0⟩])
  (.seq (.reg [⟨some 28, .mv (.t 6), none, 0, 0⟩, ⟨some 29, .bin .add (.t 28) (.c (.int .i64 1)), none, 0, 0⟩, ⟨some 6, .mv (.t 29), none, 0, 0⟩])
  (.reg [⟨some 30, .mv (.t 7), none, 0, 0⟩, ⟨some 31, .bin .sub (.t 30) (.c (.int .i64 1)), none, 0, 0⟩, ⟨some 7, .mv (.t 31), none, 0, 0⟩]))))))))), []⟩
theorem c329 : ∃ fn, Tryz.prog.funcs[329]? = some fn ∧ compFn Tryz.prog fn = some a329 := ⟨_, Tryz.func329, by kernel_rfl⟩
/-- slices.partialInsertionSortOrdered[string] -/
def a330 : AFunc := ⟨133, (.seq (.reg [⟨some 6, .mv (.c (.bool false)), none, 0, 0⟩])
 (.seq (.reg [⟨some 11, .mv (.t 1), none, 0, 0⟩, ⟨some 12, .bin .add (.t 11) (.c (.int .i64 1)), none, 0, 0⟩, ⟨some 7, .mv (.t 12), none, 0, 0⟩])
 (.seq (.seq (.reg [⟨some 8, .mv (.c (.int .i64 0)), none, 0, 0⟩])
 (.block 0 (.loop (.seq (.seq (.reg [⟨some 13, .mv (.t 8), none, 0, 0⟩, ⟨some 14, .bin .lss (.t 13) (.c (.int .i64 5)), none, 0, 0⟩])
  (.cond (.t 14) (.skip)
   (.exit 0)))
  (.seq (.block 1 (.seq (.block 2 (.loop (.seq (.seq (.dreg [⟨some 17, .mv (.t 7), none, 0, 0⟩, ⟨some 18, .mv (.t 2), none, 0, 0⟩, ⟨some 19, .bin .lss (.t 17) (.t 18), none, 0, 0⟩, ⟨some 20, .mv (.t 19), none, 0, 0⟩, ⟨some 21, .mv (.t 0), (some (20, true)), 0, 0⟩, ⟨some 22, .mv (.t 7), (some (20, true)), 0, 0⟩, ⟨some 23, .idxAddr 1 (.t 21) (.t 22), (some (20, true)), 0, 0⟩, ⟨some 24, .load none (.t 23), (some (20, true)), 0, 0⟩, ⟨some 25, .mv (.t 0), (some (20, true)), 0, 0⟩, ⟨some 26, .mv (.t 7), (some (20, true)), 0, 0⟩, ⟨some 27, .bin .sub (.t 26) (.c (.int .i64 1)), (some (20, true)), 0, 0⟩, ⟨some 28, .idxAddr 1 (.t 25) (.t 27), (some (20, true)), 0, 0⟩, ⟨some 29, .load none (.t 28), (some (20, true)), 0, 0⟩, ⟨some 30, .call (.c (.fn (.func 331) [] [])) [(.t 24), (.t 29)], (some (20, true)), 0, 0⟩, ⟨some 31, .un .not (.t 30), (some (20, true)), 1, 1⟩, ⟨some 32, .pick (.t 20) (.t 31) (.c (.bool false)), none, 1, 1⟩])
   (.cond (.t 32) (.skip)
    (.exit 2)))
   (.block 3 (.reg [⟨some 33, .mv (.t 7), none, 0, 0⟩, ⟨some 34, .bin .add (.t 33) (.c (.int .i64 1)), none, 0, 0⟩, ⟨some 7, .mv (.t 34), none, 0, 0⟩])))))
  (.seq (.seq (.reg [⟨some 35, .mv (.t 7), none, 0, 0⟩, ⟨some 36, .mv (.t 2), none, 0, 0⟩, ⟨some 37, .bin .eql (.t 35) (.t 36), none, 0, 0⟩])
  (.cond (.t 37) (.seq (.reg [⟨some 6, .mv (.c (.bool true)), none, 0, 0⟩])
   .ret)
   (.skip)))
  (.seq (.seq (.reg [⟨some 38, .mv (.t 2), none, 0, 0⟩, ⟨some 39, .mv (.t 1), none, 0, 0⟩, ⟨some 40, .bin .sub (.t 38) (.t 39), none, 0, 0⟩, ⟨some 41, .bin .lss (.t 40) (.c (.int .i64 50)), none, 0, 0⟩])
  (.cond (.t 41) (.seq (.reg [⟨some 6, .mv (.c (.bool false)), none, 0, 0⟩])
   .ret)
   (.skip)))
  (.seq (.dreg [⟨some 42, .mv (.t 0), none, 0, 0⟩, ⟨some 43, .mv (.t 7), none, 0, 0⟩, ⟨some 44, .mv (.t 0), none, 0, 1⟩, ⟨some 45, .mv (.t 7), none, 0, 1⟩, ⟨some 46, .bin .sub (.t 45) (.c (.int .i64 1)), none, 0, 1⟩, ⟨some 47, .mv (.t 0), none, 0, 0⟩, ⟨some 48, .mv (.t 7), none, 0, 0⟩, ⟨some 49, .bin .sub (.t 48) (.c (.int .i64 1)), none, 0, 0⟩, ⟨some 50, .idxAddr 1 (.t 47) (.t 49), none, 0, 0⟩, ⟨some 51, .load none (.t 50), none, 0, 0⟩, ⟨some 52, .mv (.t 0), none, 0, 0⟩, ⟨some 53, .mv (.t 7), none, 0, 0⟩, ⟨some 54, .idxAddr 1 (.t 52) (.t 53), none, 0, 0⟩, ⟨some 55, .load none (.t 54), none, 0, 0⟩, ⟨some 56, .idxAddr 1 (.t 42) (.t 43), none, 0, 0⟩, ⟨none, .store 1 (.t 56) (.t 51), none, 0, 0⟩, ⟨some 57, .idxAddr 1 (.t 44) (.t 46), none, 1, 1⟩, ⟨none, .store 1 (.t 57) (.t 55), none, 0, 0⟩])
  (.seq (.seq (.reg [⟨some 58, .mv (.t 7), none, 0, 0⟩, ⟨some 59, .mv (.t 1), none, 0, 0⟩, ⟨some 60, .bin .sub (.t 58) (.t 59), none, 0, 0⟩, ⟨some 61, .bin .geq (.t 60) (.c (.int .i64 2)), none, 0, 0⟩])
  (.cond (.t 61) (.seq (.reg [⟨some 62, .mv (.t 7), none, 0, 0⟩, ⟨some 63, .bin .sub (.t 62) (.c (.int .i64 1)), none, 0, 0⟩, ⟨some 9, .mv (.t 63), none, 0, 0⟩])
   (.block 4 (.loop (.seq (.seq (.reg [⟨some 64, .mv (.t 9), none, 0, 0⟩, ⟨some 65, .bin .geq (.t 64) (.c (.int .i64 1)), none, 0, 0⟩])
    (.cond (.t 65) (.skip)
     (.exit 4)))
    (.seq (.block 5 (.seq (.seq (.dreg [⟨some 68, .mv (.t 0), none, 0, 0⟩, ⟨some 69, .mv (.t 9), none, 0, 0⟩, ⟨some 70, .idxAddr 1 (.t 68) (.t 69), none, 0, 0⟩, ⟨some 71, .load none (.t 70), none, 0, 0⟩, ⟨some 72, .mv (.t 0), none, 0, 0⟩, ⟨some 73, .mv (.t 9), none, 0, 0⟩, ⟨some 74, .bin .sub (.t 73) (.c (.int .i64 1)), none, 0, 0⟩, ⟨some 75, .idxAddr 1 (.t 72) (.t 74), none, 0, 0⟩, ⟨some 76, .load none (.t 75), none, 0, 0⟩, ⟨some 77, .call (.c (.fn (.func 331) [] [])) [(.t 71), (.t 76)], none, 0, 0⟩, ⟨some 78, .un .not (.t 77), none, 1, 1⟩])
    (.cond (.t 78) (.exit 4)
     (.skip)))
    (.dreg [⟨some 79, .mv (.t 0), none, 0, 0⟩, ⟨some 80, .mv (.t 9), none, 0, 0⟩, ⟨some 81, .mv (.t 0), none, 0, 1⟩, ⟨some 82, .mv (.t 9), none, 0, 1⟩, ⟨some 83, .bin .sub (.t 82) (.c (.int .i64 1)), none, 0, 1⟩, ⟨some 84, .mv (.t 0), none, 0, 0⟩, ⟨some 85, .mv (.t 9), none, 0, 0⟩, ⟨some 86, .bin .sub (.t 85) (.c (.int .i64 1)), none, 0, 0⟩, ⟨some 87, .idxAddr 1 (.t 84) (.t 86), none, 0, 0⟩, ⟨some 88, .load none (.t 87), none, 0, 0⟩, ⟨some 89, .mv (.t 0), none, 0, 0⟩, ⟨some 90, .mv (.t 9), none, 0, 0⟩, ⟨some 91, .idxAddr 1 (.t 89) (.t 90), none, 0, 0⟩, ⟨some 92, .load none (.t 91), none, 0, 0⟩, ⟨some 93, .idxAddr 1 (.t 79) (.t 80), none, 0, 0⟩, ⟨none, .store 1 (.t 93) (.t 88), none, 0, 0⟩, ⟨some 94, .idxAddr 1 (.t 81) (.t 83), none, 1, 1⟩, ⟨none, .store 1 (.t 94) (.t 92), none, 0, 0⟩])))
    (.reg [⟨some 66, .mv (.t 9), none, 0, 0⟩, ⟨some 67, .bin .sub (.t 66) (.c (.int .i64 1)), none, 0, 0⟩, ⟨some 9, .mv (.t 67), none, 0, 0⟩]))))))
   (.skip)))
  (.seq (.reg [⟨some 95, .mv (.t 2), none, 0, 0⟩, ⟨some 96, .mv (.t 7), none, 0, 0⟩, ⟨some 97, .bin .sub (.t 95) (.t 96), none, 0, 0⟩, ⟨some 98, .bin .geq (.t 97) (.c (.int .i64 2)), none, 0, 0⟩])
  (.cond (.t 98) (.seq (.reg [⟨some 99, .mv (.t 7), none, 0, 0⟩, ⟨some 100, .bin .add (.t 99) (.c (.int .i64 1)), none, 0, 0⟩, ⟨some 10, .mv (.t 100), none, 0, 0⟩])
   (.block 6 (.loop (.seq (.seq (.reg [⟨some 101, .mv (.t 10), none, 0, 0⟩, ⟨some 102, .mv (.t 2), none, 0, 0⟩, ⟨some 103, .bin .lss (.t 101) (.t 102), none, 0, 0⟩])
    (.cond (.t 103) (.skip)
     (.exit 6)))
    (.seq (.block 7 (.seq (.seq (.dreg [⟨some 106, .mv (.t 0), none, 0, 0⟩, ⟨some 107, .mv (.t 10), none, 0, 0⟩, ⟨some 108, .idxAddr 1 (.t 106) (.t 107), none, 0, 0⟩, ⟨some 109, .load none (.t 108), none, 0, 0⟩, ⟨some 110, .mv (.t 0), none, 0, 0⟩, ⟨some 111, .mv (.t 10), none, 0, 0⟩, ⟨some 112, .bin .sub (.t 111) (.c (.int .i64 1)), none, 0, 0⟩, ⟨some 113, .idxAddr 1 (.t 110) (.t 112), none, 0, 0⟩, ⟨some 114, .load none (.t 113), none, 0, 0⟩, ⟨some 115, .call (.c (.fn (.func 331) [] [])) [(.t 109), (.t 114)], none, 0, 0⟩, ⟨some 116, .un .not (.t 115), none, 1, 1⟩])
    (.cond (.t 116) (.exit 6)
     (.skip)))
    (.dreg [⟨some 117, .mv (.t 0), none, 0, 0⟩, ⟨some 118, .mv (.t 10), none, 0, 0⟩, ⟨some 119, .mv (.t 0), none, 0, 1⟩, ⟨some 120, .mv (.t 10), none, 0, 1⟩, ⟨some 121, .bin .sub (.t 120) (.c (.int .i64 1)), none, 0, 1⟩, ⟨some 122, .mv (.t 0), none, 0, 0⟩, ⟨some 123, .mv (.t 10), none, 0, 0⟩, ⟨some 124, .bin .sub (.t 123) (.c (.int .i64 1)), none, 0, 0⟩, ⟨some 125, .idxAddr 1 (.t 122) (.t 124), none, 0, 0⟩, ⟨some 126, .load none (.t 125), none, 0, 0⟩, ⟨some 127, .mv (.t 0), none, 0, 0⟩, ⟨some 128, .mv (.t 10), none, 0, 0⟩, ⟨some 129, .idxAddr 1 (.t 127) (.t 128), none, 0, 0⟩, ⟨some 130, .load none (.t 129), none, 0, 0⟩, ⟨some 131, .idxAddr 1 (.t 117) (.t 118), none, 0, 0⟩, ⟨none, .store 1 (.t 131) (.t 126), none, 0, 0⟩, ⟨some 132, .idxAddr 1 (.t 119) (.t 121), none, 1, 1⟩, ⟨none, .store 1 (.t 132) (.t 130), none, 0, 0⟩])))
    (.reg [⟨some 104, .mv (.t 10), none, 0, 0⟩, ⟨some 105, .bin .add (.t 104) (.c (.int .i64 1)), none, 0, 0⟩, ⟨some 10, .mv (.t 105), none, 0, 0⟩]))))))
   (.skip)))))))))
  (.reg [⟨some 15, .mv (.t 8), none, 0, 0⟩, ⟨some 16, .bin .add (.t 15) (.c (.int .i64 1)), none, 0, 0⟩, ⟨some 8, .mv (.t 16), none, 0, 0⟩]))))))
 (.seq (.reg [⟨some 6, .mv (.c (.bool false)), none, 0, 0⟩])
 .ret)))), [.t 6]⟩
theorem c330 : ∃ fn, Tryz.prog.funcs[330]? = some fn ∧ compFn Tryz.prog fn = some a330 := ⟨_, Tryz.func330, by kernel_rfl⟩
/-- cmp.Less[string] -/
def a331 : AFunc := ⟨17, (.seq (.reg [⟨some 4, .mv (.c (.bool false)), none, 0, 0⟩])
 (.seq (.reg [⟨some 5, .mv (.t 0), none, 0, 0⟩, ⟨some 6, .call (.c (.fn (.func 298) [] [])) [(.t 5)], none, 0, 0⟩, ⟨some 7, .mv (.t 6), none, 0, 0⟩, ⟨some 8, .mv (.t 1), (some (7, true)), 0, 0⟩, ⟨some 9, .call (.c (.fn (.func 298) [] [])) [(.t 8)], (some (7, true)), 0, 0⟩, ⟨some 10, .un .not (.t 9), (some (7, true)), 0, 0⟩, ⟨some 11, .pick (.t 7) (.t 10) (.c (.bool false)), none, 0, 0⟩, ⟨some 12, .mv (.t 11), none, 0, 0⟩, ⟨some 13, .mv (.t 0), (some (12, false)), 0, 0⟩, ⟨some 14, .mv (.t 1), (some (12, false)), 0, 0⟩, ⟨some 15, .bin .lss (.t 13) (.t 14), (some (12, false)), 0, 0⟩, ⟨some 16, .pick (.t 12) (.c (.bool true)) (.t 15), none, 0, 0⟩, ⟨some 4, .mv (.t 16), none, 0, 0⟩])
 .ret)), [.t 4]⟩
theorem c331 : ∃ fn, Tryz.prog.funcs[331]? = some fn ∧ compFn Tryz.prog fn = some a331 := ⟨_, Tryz.func331, by kernel_rfl⟩
/-- slices.partitionEqualOrdered[string] -/
def a332 : AFunc := ⟨84, (.seq (.reg [⟨some 8, .mv (.c (.int .i64 0)), none, 0, 0⟩])
 (.seq (.dreg [⟨some 11, .mv (.t 0), none, 0, 0⟩, ⟨some 12, .mv (.t 1), none, 0, 0⟩, ⟨some 13, .mv (.t 0), none, 0, 1⟩, ⟨some 14, .mv (.t 3), none, 0, 1⟩, ⟨some 15, .mv (.t 0), none, 0, 0⟩, ⟨some 16, .mv (.t 3), none, 0, 0⟩, ⟨some 17, .idxAddr 1 (.t 15) (.t 16), none, 0, 0⟩, ⟨some 18, .load none (.t 17), none, 0, 0⟩, ⟨some 19, .mv (.t 0), none, 0, 0⟩, ⟨some 20, .mv (.t 1), none, 0, 0⟩, ⟨some 21, .idxAddr 1 (.t 19) (.t 20), none, 0, 0⟩, ⟨some 22, .load none (.t 21), none, 0, 0⟩, ⟨some 23, .idxAddr 1 (.t 11) (.t 12), none, 0, 0⟩, ⟨none, .store 1 (.t 23) (.t 18), none, 0, 0⟩, ⟨some 24, .idxAddr 1 (.t 13) (.t 14), none, 1, 1⟩, ⟨none, .store 1 (.t 24) (.t 22), none, 0, 0⟩])
 (.seq (.reg [⟨some 25, .mv (.t 1), none, 0, 0⟩, ⟨some 26, .bin .add (.t 25) (.c (.int .i64 1)), none, 0, 0⟩, ⟨some 27, .mv (.t 2), none, 0, 0⟩, ⟨some 28, .bin .sub (.t 27) (.c (.int .i64 1)), none, 0, 0⟩, ⟨some 9, .mv (.t 26), none, 0, 0⟩, ⟨some 10, .mv (.t 28), none, 0, 0⟩])
 (.seq (.block 0 (.loop (.block 1 (.seq (.block 2 (.loop (.seq (.seq (.dreg [⟨some 29, .mv (.t 9), none, 0, 0⟩, ⟨some 30, .mv (.t 10), none, 0, 0⟩, ⟨some 31, .bin .leq (.t 29) (.t 30), none, 0, 0⟩, ⟨some 32, .mv (.t 31), none, 0, 0⟩, ⟨some 33, .mv (.t 0), (some (32, true)), 0, 0⟩, ⟨some 34, .mv (.t 1), (some (32, true)), 0, 0⟩, ⟨some 35, .idxAddr 1 (.t 33) (.t 34), (some (32, true)), 0, 0⟩, ⟨some 36, .load none (.t 35), (some (32, true)), 0, 0⟩, ⟨some 37, .mv (.t 0), (some (32, true)), 0, 0⟩, ⟨some 38, .mv (.t 9), (some (32, true)), 0, 0⟩, ⟨some 39, .idxAddr 1 (.t 37) (.t 38), (some (32, true)), 0, 0⟩, ⟨some 40, .load none (.t 39), (some (32, true)), 0, 0⟩, ⟨some 41, .call (.c (.fn (.func 331) [] [])) [(.t 36), (.t 40)], (some (32, true)), 0, 0⟩, ⟨some 42, .un .not (.t 41), (some (32, true)), 1, 1⟩, ⟨some 43, .pick (.t 32) (.t 42) (.c (.bool false)), none, 1, 1⟩])
   (.cond (.t 43) (.skip)
    (.exit 2)))
   (.block 3 (.reg [⟨some 44, .mv (.t 9), none, 0, 0⟩, ⟨some 45, .bin .add (.t 44) (.c (.int .i64 1)), none, 0, 0⟩, ⟨some 9, .mv (.t 45), none, 0, 0⟩])))))
  (.seq (.block 4 (.loop (.seq (.seq (.dreg [⟨some 46, .mv (.t 9), none, 0, 0⟩, ⟨some 47, .mv (.t 10), none, 0, 0⟩, ⟨some 48, .bin .leq (.t 46) (.t 47), none, 0, 0⟩, ⟨some 49, .mv (.t 48), none, 0, 0⟩, ⟨some 50, .mv (.t 0), (some (49, true)), 0, 0⟩, ⟨some 51, .mv (.t 1), (some (49, true)), 0, 0⟩, ⟨some 52, .idxAddr 1 (.t 50) (.t 51), (some (49, true)), 0, 0⟩, ⟨some 53, .load none (.t 52), (some (49, true)), 0, 0⟩, ⟨some 54, .mv (.t 0), (some (49, true)), 0, 0⟩, ⟨some 55, .mv (.t 10), (some (49, true)), 0, 0⟩, ⟨some 56, .idxAddr 1 (.t 54) (.t 55), (some (49, true)), 0, 0⟩, ⟨some 57, .load none (.t 56), (some (49, true)), 0, 0⟩, ⟨some 58, .call (.c (.fn (.func 331) [] [])) [(.t 53), (.t 57)], (some (49, true)), 0, 0⟩, ⟨some 59, .pick (.t 49) (.t 58) (.c (.bool false)), none, 1, 1⟩])
   (.cond (.t 59) (.skip)
    (.exit 4)))
   (.block 5 (.reg [⟨some 60, .mv (.t 10), none, 0, 0⟩, ⟨some 61, .bin .sub (.t 60) (.c (.int .i64 1)), none, 0, 0⟩, ⟨some 10, .mv (.t 61), none, 0, 0⟩])))))
  (.seq (.seq (.reg [⟨some 62, .mv (.t 9), none, 0, 0⟩, ⟨some 63, .mv (.t 10), none, 0, 0⟩, ⟨some 64, .bin .gtr (.t 62) (.t 63), none, 0, 0⟩])
  (.cond (.t 64) (.exit 0)
   (.skip)))
  (.seq (.dreg [⟨some 65, .mv (.t 0), none, 0, 0⟩, ⟨some 66, .mv (.t 9), none, 0, 0⟩, ⟨some 67, .mv (.t 0), none, 0, 1⟩, ⟨some 68, .mv (.t 10), none, 0, 1⟩, ⟨some 69, .mv (.t 0), none, 0, 0⟩, ⟨some 70, .mv (.t 10), none, 0, 0⟩, ⟨some 71, .idxAddr 1 (.t 69) (.t 70), none, 0, 0⟩, ⟨some 72, .load none (.t 71), none, 0, 0⟩, ⟨some 73, .mv (.t 0), none, 0, 0⟩, ⟨some 74, .mv (.t 9), none, 0, 0⟩, ⟨some 75, .idxAddr 1 (.t 73) (.t 74), none, 0, 0⟩, ⟨some 76, .load none (.t 75), none, 0, 0⟩, ⟨some 77, .idxAddr 1 (.t 65) (.t 66), none, 0, 0⟩, ⟨none, .store 1 (.t 77) (.t 72), none, 0, 0⟩, ⟨some 78, .idxAddr 1 (.t 67) (.t 68), none, 1, 1⟩, ⟨none, .store 1 (.t 78) (.t 76), none, 0, 0⟩])
  (.seq (.reg [⟨some 79, .mv (.t 9), none, 0, 0⟩, ⟨some 80, .bin .add (.t 79) (.c (.int .i64 1)), none, 0, 0⟩, ⟨some 9, .mv (.t 80), none, 0, 0⟩])
  (.reg [⟨some 81, .mv (.t 10), none, 0, 0⟩, ⟨some 82, .bin .sub (.t 81) (.c (.int .i64 1)), none, 0, 0⟩, ⟨some 10, .mv (.t 82), none, 0, 0⟩])))))))))
 (.seq (.reg [⟨some 83, .mv (.t 9), none, 0, 0⟩, ⟨some 8, .mv (.t 83), none, 0, 0⟩])
 .ret))))), [.t 8]⟩
theorem c332 : ∃ fn, Tryz.prog.funcs[332]? = some fn ∧ compFn Tryz.prog fn = some a332 := ⟨_, Tryz.func332, by kernel_rfl⟩
/-- slices.partitionOrdered[string] -/
def a333 : AFunc := ⟨168, (.seq (.reg [⟨some 8, .mv (.c (.int .i64 0)), none, 0, 0⟩, ⟨some 9, .mv (.c (.bool false)), none, 0, 0⟩])
 (.seq (.dreg [⟨some 12, .mv (.t 0), none, 0, 0⟩, ⟨some 13, .mv (.t 1), none, 0, 0⟩, ⟨some 14, .mv (.t 0), none, 0, 1⟩, ⟨some 15, .mv (.t 3), none, 0, 1⟩, ⟨some 16, .mv (.t 0), none, 0, 0⟩, ⟨some 17, .mv (.t 3), none, 0, 0⟩, ⟨some 18, .idxAddr 1 (.t 16) (.t 17), none, 0, 0⟩, ⟨some 19, .load none (.t 18), none, 0, 0⟩, ⟨some 20, .mv (.t 0), none, 0, 0⟩, ⟨some 21, .mv (.t 1), none, 0, 0⟩, ⟨some 22, .idxAddr 1 (.t 20) (.t 21), none, 0, 0⟩, ⟨some 23, .load none (.t 22), none, 0, 0⟩, ⟨some 24, .idxAddr 1 (.t 12) (.t 13), none, 0, 0⟩, ⟨none, .store 1 (.t 24) (.t 19), none, 0, 0⟩, ⟨some 25, .idxAddr 1 (.t 14) (.t 15), none, 1, 1⟩, ⟨none, .store 1 (.t 25) (.t 23), none, 0, 0⟩])
 (.seq (.reg [⟨some 26, .mv (.t 1), none, 0, 0⟩, ⟨some 27, .bin .add (.t 26) (.c (.int .i64 1)), none, 0, 0⟩, ⟨some 28, .mv (.t 2), none, 0, 0⟩, ⟨some 29, .bin .sub (.t 28) (.c (.int .i64 1)), none, 0, 0⟩, ⟨some 10, .mv (.t 27), none, 0, 0⟩, ⟨some 11, .mv (.t 29), none, 0, 0⟩])
 (.seq (.block 0 (.loop (.seq (.seq (.dreg [⟨some 30, .mv (.t 10), none, 0, 0⟩, ⟨some 31, .mv (.t 11), none, 0, 0⟩, ⟨some 32, .bin .leq (.t 30) (.t 31), none, 0, 0⟩, ⟨some 33, .mv (.t 32), none, 0, 0⟩, ⟨some 34, .mv (.t 0), (some (33, true)), 0, 0⟩, ⟨some 35, .mv (.t 10), (some (33, true)), 0, 0⟩, ⟨some 36, .idxAddr 1 (.t 34) (.t 35), (some (33, true)), 0, 0⟩, ⟨some 37, .load none (.t 36), (some (33, true)), 0, 0⟩, ⟨some 38, .mv (.t 0), (some (33, true)), 0, 0⟩, ⟨some 39, .mv (.t 1), (some (33, true)), 0, 0⟩, ⟨some 40, .idxAddr 1 (.t 38) (.t 39), (some (33, true)), 0, 0⟩, ⟨some 41, .load none (.t 40), (some (33, true)), 0, 0⟩, ⟨some 42, .call (.c (.fn (.func 331) [] [])) [(.t 37), (.t 41)], (some (33, true)), 0, 0⟩, ⟨some 43, .pick (.t 33) (.t 42) (.c (.bool false)), none, 1, 1⟩])
  (.cond (.t 43) (.skip)
   (.exit 0)))
  (.block 1 (.reg [⟨some 44, .mv (.t 10), none, 0, 0⟩, ⟨some 45, .bin .add (.t 44) (.c (.int .i64 1)), none, 0, 0⟩, ⟨some 10, .mv (.t 45), none, 0, 0⟩])))))
 (.seq (.block 2 (.loop (.seq (.seq (.dreg [⟨some 46, .mv (.t 10), none, 0, 0⟩, ⟨some 47, .mv (.t 11), none, 0, 0⟩, ⟨some 48, .bin .leq (.t 46) (.t 47), none, 0, 0⟩, ⟨some 49, .mv (.t 48), none, 0, 0⟩, ⟨some 50, .mv (.t 0), (some (49, true)), 0, 0⟩, ⟨some 51, .mv (.t 11), (some (49, true)), 0, 0⟩, ⟨some 52, .idxAddr 1 (.t 50) (.t 51), (some (49, true)), 0, 0⟩, ⟨some 53, .load none (.t 52), (some (49, true)), 0, 0⟩, ⟨some 54, .mv (.t 0), (some (49, true)), 0, 0⟩, ⟨some 55, .mv (.t 1), (some (49, true)), 0, 0⟩, ⟨some 56, .idxAddr 1 (.t 54) (.t 55), (some (49, true)), 0, 0⟩, ⟨some 57, .load none (.t 56), (some (49, true)), 0, 0⟩, ⟨some 58, .call (.c (.fn (.func 331) [] [])) [(.t 53), (.t 57)], (some (49, true)), 0, 0⟩, ⟨some 59, .un .not (.t 58), (some (49, true)), 1, 1⟩, ⟨some 60, .pick (.t 49) (.t 59) (.c (.bool false)), none, 1, 1⟩])
  (.cond (.t 60) (.skip)
   (.exit 2)))
  (.block 3 (.reg [⟨some 61, .mv (.t 11), none, 0, 0⟩, ⟨some 62, .bin .sub (.t 61) (.c (.int .i64 1)), none, 0, 0⟩, ⟨some 11, .mv (.t 62), none, 0, 0⟩])))))
 (.seq (.seq (.reg [⟨some 63, .mv (.t 10), none, 0, 0⟩, ⟨some 64, .mv (.t 11), none, 0, 0⟩, ⟨some 65, .bin .gtr (.t 63) (.t 64), none, 0, 0⟩])
 (.cond (.t 65) (.seq (.dreg [⟨some 66, .mv (.t 0), none, 0, 0⟩, ⟨some 67, .mv (.t 11), none, 0, 0⟩, ⟨some 68, .mv (.t 0), none, 0, 1⟩, ⟨some 69, .mv (.t 1), none, 0, 1⟩, ⟨some 70, .mv (.t 0), none, 0, 0⟩, ⟨some 71, .mv (.t 1), none, 0, 0⟩, ⟨some 72, .idxAddr 1 (.t 70) (.t 71), none, 0, 0⟩, ⟨some 73, .load none (.t 72), none, 0, 0⟩, ⟨some 74, .mv (.t 0), none, 0, 0⟩, ⟨some 75, .mv (.t 11), none, 0, 0⟩, ⟨some 76, .idxAddr 1 (.t 74) (.t 75), none, 0, 0⟩, ⟨some 77, .load none (.t 76), none, 0, 0⟩, ⟨some 78, .idxAddr 1 (.t 66) (.t 67), none, 0, 0⟩, ⟨none, .store 1 (.t 78) (.t 73), none, 0, 0⟩, ⟨some 79, .idxAddr 1 (.t 68) (.t 69), none, 1, 1⟩, ⟨none, .store 1 (.t 79) (.t 77), none, 0, 0⟩])
  (.seq (.reg [⟨some 80, .mv (.t 11), none, 0, 0⟩, ⟨some 8, .mv (.t 80), none, 0, 0⟩, ⟨some 9, .mv (.c (.bool true)), none, 0, 0⟩])
  .ret))
  (.skip)))
 (.seq (.dreg [⟨some 81, .mv (.t 0), none, 0, 0⟩, ⟨some 82, .mv (.t 10), none, 0, 0⟩, ⟨some 83, .mv (.t 0), none, 0, 1⟩, ⟨some 84, .mv (.t 11), none, 0, 1⟩, ⟨some 85, .mv (.t 0), none, 0, 0⟩, ⟨some 86, .mv (.t 11), none, 0, 0⟩, ⟨some 87, .idxAddr 1 (.t 85) (.t 86), none, 0, 0⟩, ⟨some 88, .load none (.t 87), none, 0, 0⟩, ⟨some 89, .mv (.t 0), none, 0, 0⟩, ⟨some 90, .mv (.t 10), none, 0, 0⟩, ⟨some 91, .idxAddr 1 (.t 89) (.t 90), none, 0, 0⟩, ⟨some 92, .load none (.t 91), none, 0, 0⟩, ⟨some 93, .idxAddr 1 (.t 81) (.t 82), none, 0, 0⟩, ⟨none, .store 1 (.t 93) (.t 88), none, 0, 0⟩, ⟨some 94, .idxAddr 1 (.t 83) (.t 84), none, 1, 1⟩, ⟨none, .store 1 (.t 94) (.t 92), none, 0, 0⟩])
 (.seq (.reg [⟨some 95, .mv (.t 10), none, 0, 0⟩, ⟨some 96, .bin .add (.t 95) (.c (.int .i64 1)), none, 0, 0⟩, ⟨some 10, .mv (.t 96), none, 0, 0⟩])
 (.seq (.reg [⟨some 97, .mv (.t 11), none, 0, 0⟩, ⟨some 98, .bin .sub (.t 97) (.c (.int .i64 1)), none, 0, 0⟩, ⟨some 11, .mv (.t 98), none, 0, 0⟩])
 (.seq (.block 4 (.loop (.block 5 (.seq (.block 6 (.loop (.seq (.seq (.dreg [⟨some 99, .mv (.t 10), none, 0, 0⟩, ⟨some 100, .mv (.t 11), none, 0, 0⟩, ⟨some 101, .bin .leq (.t 99) (.t 100), none, 0, 0⟩, ⟨some 102, .mv (.t 101), none, 0, 0⟩, ⟨some 103, .mv (.t 0), (some (102, true)), 0, 0⟩, ⟨some 104, .mv (.t 10), (some (102, true)), 0, 0⟩, ⟨some 105, .idxAddr 1 (.t 103) (.t 104), (some (102, true)), 0, 0⟩, ⟨some 106, .load none (.t 105), (some (102, true)), 0, 0⟩, ⟨some 107, .mv (.t 0), (some (102, true)), 0, 0⟩, ⟨some 108, .mv (.t 1), (some (102, true)), 0, 0⟩, ⟨some 109, .idxAddr 1 (.t 107) (.t 108), (some (102, true)), 0, 0⟩, ⟨some 110, .load none (.t 109), (some (102, true)), 0, 0⟩, ⟨some 111, .call (.c (.fn (.func 331) [] [])) [(.t 106), (.t 110)], (some (102, true)), 0, 0⟩, ⟨some 112, .pick (.t 102) (.t 111) (.c (.bool false)), none, 1, 1⟩])
   (.cond (.t 112) (.skip)
    (.exit 6)))
   (.block 7 (.reg [⟨some 113, .mv (.t 10), none, 0, 0⟩, ⟨some 114, .bin .add (.t 113) (.c (.int .i64 1)), none, 0, 0⟩, ⟨some 10, .mv (.t 114), none, 0, 0⟩])))))
  (.seq (.block 8 (.loop (.seq (.seq (.dreg [⟨some 115, .mv (.t 10), none, 0, 0⟩, ⟨some 116, .mv (.t 11), none, 0, 0⟩, ⟨some 117, .bin .leq (.t 115) (.t 116), none, 0, 0⟩, ⟨some 118, .mv (.t 117), none, 0, 0⟩, ⟨some 119, .mv (.t 0), (some (118, true)), 0, 0⟩, ⟨some 120, .mv (.t 11), (some (118, true)), 0, 0⟩, ⟨some 121, .idxAddr 1 (.t 119) (.t 120), (some (118, true)), 0, 0⟩, ⟨some 122, .load none (.t 121), (some (118, true)), 0, 0⟩, ⟨some 123, .mv (.t 0), (some (118, true)), 0, 0⟩, ⟨some 124, .mv (.t 1), (some (118, true)), 0, 0⟩, ⟨some 125, .idxAddr 1 (.t 123) (.t 124), (some (118, true)), 0, 0⟩, ⟨some 126, .load none (.t 125), (some (118, true)), 0, 0⟩, ⟨some 127, .call (.c (.fn (.func 331) [] [])) [(.t 122), (.t 126)], (some (118, true)), 0, 0⟩, ⟨some 128, .un .not (.t 127), (some (118, true)), 1, 1⟩, ⟨some 129, .pick (.t 118) (.t 128) (.c (.bool false)), none, 1, 1⟩])
   (.cond (.t 129) (.skip)
    (.exit 8)))
   (.block 9 (.reg [⟨some 130, .mv (.t 11), none, 0, 0⟩, ⟨some 131, .bin .sub (.t 130) (.c (.int .i64 1)), none, 0, 0⟩, ⟨some 11, .mv (.t 131), none, 0, 0⟩])))))
  (.seq (.seq (.reg [⟨some 132, .mv (.t 10), none, 0, 0⟩, ⟨some 133, .mv (.t 11), none, 0, 0⟩, ⟨some 134, .bin .gtr (.t 132) (.t 133), none, 0, 0⟩])
  (.cond (.t 134) (.exit 4)
   (.skip)))
  (.seq (.dreg [⟨some 135, .mv (.t 0), none, 0, 0⟩, ⟨some 136, .mv (.t 10), none, 0, 0⟩, ⟨some 137, .mv (.t 0), none, 0, 1⟩, ⟨some 138, .mv (.t 11), none, 0, 1⟩, ⟨some 139, .mv (.t 0), none, 0, 0⟩, ⟨some 140, .mv (.t 11), none, 0, 0⟩, ⟨some 141, .idxAddr 1 (.t 139) (.t 140), none, 0, 0⟩, ⟨some 142, .load none (.t 141), none, 0, 0⟩, ⟨some 143, .mv (.t 0), none, 0, 0⟩, ⟨some 144, .mv (.t 10), none, 0, 0⟩, ⟨some 145, .idxAddr 1 (.t 143) (.t 144), none, 0, 0⟩, ⟨some 146, .load none (.t 145), none, 0, 0⟩, ⟨some 147, .idxAddr 1 (.t 135) (.t 136), none, 0, 0⟩, ⟨none, .store 1 (.t 147) (.t 142), none, 0, 0⟩, ⟨some 148, .idxAddr 1 (.t 137) (.t 138), none, 1, 1⟩, ⟨none, .store 1 (.t 148) (.t 146), none, 0, 0⟩])
  (.seq (.reg [⟨some 149, .mv (.t 10), none, 0, 0⟩, ⟨some 150, .bin .add (.t 149) (.c (.int .i64 1)), none, 0, 0⟩, ⟨some 10, .mv (.t 150), none, 0, 0⟩])
  (.reg [⟨some 151, .mv (.t 11), none, 0, 0⟩, ⟨some 152, .bin .sub (.t 151) (.c (.int .i64 1)), none, 0, 0⟩, ⟨some 11, .mv (.t 152), none, 0, 0⟩])))))))))
 (.seq (.dreg [⟨some 153, .mv (.t 0), none, 0, 0⟩, ⟨some 154, .mv (.t 11), none, 0, 0⟩, ⟨some 155, .mv (.t 0), none, 0, 1⟩, ⟨some 156, .mv (.t 1), none, 0, 1⟩, ⟨some 157, .mv (.t 0), none, 0, 0⟩, ⟨some 158, .mv (.t 1), none, 0, 0⟩, ⟨some 159, .idxAddr 1 (.t 157) (.t 158), none, 0, 0⟩, ⟨some 160, .load none (.t 159), none, 0, 0⟩, ⟨some 161, .mv (.t 0), none, 0, 0⟩, ⟨some 162, .mv (.t 11), none, 0, 0⟩, ⟨some 163, .idxAddr 1 (.t 161) (.t 162), none, 0, 0⟩, ⟨some 164, .load none (.t 163), none, 0, 0⟩, ⟨some 165, .idxAddr 1 (.t 153) (.t 154), none, 0, 0⟩, ⟨none, .store 1 (.t 165) (.t 160), none, 0, 0⟩, ⟨some 166, .idxAddr 1 (.t 155) (.t 156), none, 1, 1⟩, ⟨none, .store 1 (.t 166) (.t 164), none, 0, 0⟩])
 (.seq (.reg [⟨some 167, .mv (.t 11), none, 0, 0⟩, ⟨some 8, .mv (.t 167), none, 0, 0⟩, ⟨some 9, .mv (.c (.bool false)), none, 0, 0⟩])
 .ret)))))))))))), [.t 8, .t 9]⟩
theorem c333 : ∃ fn, Tryz.prog.funcs[333]? = some fn ∧ compFn Tryz.prog fn = some a333 := ⟨_, Tryz.func333, by kernel_rfl⟩
/-- slices.nextPowerOfTwo -/
def a336 : AFunc := ⟨7, (.seq (.reg [⟨some 2, .mv (.c (.int .u64 0)), none, 0, 0⟩])
 (.seq (.reg [⟨some 3, .mv (.t 0), none, 0, 0⟩, ⟨some 4, .conv .u64 (.t 3), none, 0, 0⟩, ⟨some 5, .call (.c (.fn (.func 295) [] [])) [(.t 4)], none, 0, 0⟩, ⟨some 6, .bin .shl (.c (.int .u64 1)) (.t 5), none, 0, 0⟩, ⟨some 2, .mv (.t 6), none, 0, 0⟩])
 .ret)), [.t 2]⟩
theorem c336 : ∃ fn, Tryz.prog.funcs[336]? = some fn ∧ compFn Tryz.prog fn = some a336 := ⟨_, Tryz.func336, by kernel_rfl⟩
/-- (*slices.xorshift).Next -/
def a337 : AFunc := ⟨33, (.seq (.reg [⟨some 2, .mv (.c (.int .u64 0)), none, 0, 0⟩])
 (.seq (.dreg [⟨some 3, .mv (.t 0), none, 0, 0⟩, ⟨some 4, .nilck (.t 3), none, 0, 0⟩, ⟨some 5, .load none (.t 4), none, 0, 0⟩, ⟨some 6, .mv (.t 0), none, 0, 0⟩, ⟨some 7, .nilck (.t 6), none, 0, 0⟩, ⟨some 8, .load none (.t 7), none, 0, 0⟩, ⟨some 9, .bin .shl (.t 8) (.c (.int .u64 13)), none, 0, 0⟩, ⟨some 10, .bin .xor (.t 5) (.t 9), none, 0, 0⟩, ⟨some 11, .nilck (.t 3), none, 0, 0⟩, ⟨none, .store 1 (.t 11) (.t 10), none, 0, 0⟩])
 (.seq (.dreg [⟨some 12, .mv (.t 0), none, 0, 0⟩, ⟨some 13, .nilck (.t 12), none, 0, 0⟩, ⟨some 14, .load none (.t 13), none, 0, 0⟩, ⟨some 15, .mv (.t 0), none, 0, 0⟩, ⟨some 16, .nilck (.t 15), none, 0, 0⟩, ⟨some 17, .load none (.t 16), none, 0, 0⟩, ⟨some 18, .bin .shr (.t 17) (.c (.int .u64 7)), none, 0, 0⟩, ⟨some 19, .bin .xor (.t 14) (.t 18), none, 0, 0⟩, ⟨some 20, .nilck (.t 12), none, 0, 0⟩, ⟨none, .store 1 (.t 20) (.t 19), none, 0, 0⟩])
 (.seq (.dreg [⟨some 21, .mv (.t 0), none, 0, 0⟩, ⟨some 22, .nilck (.t 21), none, 0, 0⟩, ⟨some 23, .load none (.t 22), none, 0, 0⟩, ⟨some 24, .mv (.t 0), none, 0, 0⟩, ⟨some 25, .nilck (.t 24), none, 0, 0⟩, ⟨some 26, .load none (.t 25), none, 0, 0⟩, ⟨some 27, .bin .shl (.t 26) (.c (.int .u64 17)), none, 0, 0⟩, ⟨some 28, .bin .xor (.t 23) (.t 27), none, 0, 0⟩, ⟨some 29, .nilck (.t 21), none, 0, 0⟩, ⟨none, .store 1 (.t 29) (.t 28), none, 0, 0⟩])
 (.seq (.reg [⟨some 30, .mv (.t 0), none, 0, 0⟩, ⟨some 31, .nilck (.t 30), none, 0, 0⟩, ⟨some 32, .load none (.t 31), none, 0, 0⟩, ⟨some 2, .mv (.t 32), none, 0, 0⟩])
 .ret))))), [.t 2]⟩
theorem c337 : ∃ fn, Tryz.prog.funcs[337]? = some fn ∧ compFn Tryz.prog fn = some a337 := ⟨_, Tryz.func337, by kernel_rfl⟩
/-- slices.siftDownOrdered[string] -/
def a340 : AFunc := ⟨76, (.seq (.reg [⟨some 10, .mv (.t 1), none, 0, 0⟩, ⟨some 8, .mv (.t 10), none, 0, 0⟩])
 (.block 0 (.loop (.block 1 (.seq (.reg [⟨some 11, .mv (.t 8), none, 0, 0⟩, ⟨some 12, .bin .mul (.c (.int .i64 2)) (.t 11), none, 0, 0⟩, ⟨some 13, .bin .add (.t 12) (.c (.int .i64 1)), none, 0, 0⟩, ⟨some 9, .mv (.t 13), none, 0, 0⟩])
  (.seq (.seq (.reg [⟨some 14, .mv (.t 9), none, 0, 0⟩, ⟨some 15, .mv (.t 2), none, 0, 0⟩, ⟨some 16, .bin .geq (.t 14) (.t 15), none, 0, 0⟩])
  (.cond (.t 16) (.exit 0)
   (.skip)))
  (.seq (.seq (.dreg [⟨some 17, .mv (.t 9), none, 0, 0⟩, ⟨some 18, .bin .add (.t 17) (.c (.int .i64 1)), none, 0, 0⟩, ⟨some 19, .mv (.t 2), none, 0, 0⟩, ⟨some 20, .bin .lss (.t 18) (.t 19), none, 0, 0⟩, ⟨some 21, .mv (.t 20), none, 0, 0⟩, ⟨some 22, .mv (.t 0), (some (21, true)), 0, 0⟩, ⟨some 23, .mv (.t 3), (some (21, true)), 0, 0⟩, ⟨some 24, .mv (.t 9), (some (21, true)), 0, 0⟩, ⟨some 25, .bin .add (.t 23) (.t 24), (some (21, true)), 0, 0⟩, ⟨some 26, .idxAddr 1 (.t 22) (.t 25), (some (21, true)), 0, 0⟩, ⟨some 27, .load none (.t 26), (some (21, true)), 0, 0⟩, ⟨some 28, .mv (.t 0), (some (21, true)), 0, 0⟩, ⟨some 29, .mv (.t 3), (some (21, true)), 0, 0⟩, ⟨some 30, .mv (.t 9), (some (21, true)), 0, 0⟩, ⟨some 31, .bin .add (.t 29) (.t 30), (some (21, true)), 0, 0⟩, ⟨some 32, .bin .add (.t 31) (.c (.int .i64 1)), (some (21, true)), 0, 0⟩, ⟨some 33, .idxAddr 1 (.t 28) (.t 32), (some (21, true)), 0, 0⟩, ⟨some 34, .load none (.t 33), (some (21, true)), 0, 0⟩, ⟨some 35, .call (.c (.fn (.func 331) [] [])) [(.t 27), (.t 34)], (some (21, true)), 0, 0⟩, ⟨some 36, .pick (.t 21) (.t 35) (.c (.bool false)), none, 1, 1⟩])
  (.cond (.t 36) (.reg [⟨some 37, .mv (.t 9), none, 0, 0⟩, ⟨some 38, .bin .add (.t 37) (.c (.int .i64 1)), none, 0, 0⟩, ⟨some 9, .mv (.t 38), none, 0, 0⟩])
   (.skip)))
  (.seq (.seq (.dreg [⟨some 39, .mv (.t 0), none, 0, 0⟩, ⟨some 40, .mv (.t 3), none, 0, 0⟩, ⟨some 41, .mv (.t 8), none, 0, 0⟩, ⟨some 42, .bin .add (.t 40) (.t 41), none, 0, 0⟩, ⟨some 43, .idxAddr 1 (.t 39) (.t 42), none, 0, 0⟩, ⟨some 44, .load none (.t 43), none, 0, 0⟩, ⟨some 45, .mv (.t 0), none, 0, 0⟩, ⟨some 46, .mv (.t 3), none, 0, 0⟩, ⟨some 47, .mv (.t 9), none, 0, 0⟩, ⟨some 48, .bin .add (.t 46) (.t 47), none, 0, 0⟩, ⟨some 49, .idxAddr 1 (.t 45) (.t 48), none, 0, 0⟩, ⟨some 50, .load none (.t 49), none, 0, 0⟩, ⟨some 51, .call (.c (.fn (.func 331) [] [])) [(.t 44), (.t 50)], none, 0, 0⟩, ⟨some 52, .un .not (.t 51), none, 1, 1⟩])
  (.cond (.t 52) .ret
   (.skip)))
  (.seq (.dreg [⟨some 53, .mv (.t 0), none, 0, 0⟩, ⟨some 54, .mv (.t 3), none, 0, 0⟩, ⟨some 55, .mv (.t 8), none, 0, 0⟩, ⟨some 56, .bin .add (.t 54) (.t 55), none, 0, 0⟩, ⟨some 57, .mv (.t 0), none, 0, 1⟩, ⟨some 58, .mv (.t 3), none, 0, 1⟩, ⟨some 59, .mv (.t 9), none, 0, 1⟩, ⟨some 60, .bin .add (.t 58) (.t 59), none, 0, 1⟩, ⟨some 61, .mv (.t 0), none, 0, 0⟩, ⟨some 62, .mv (.t 3), none, 0, 0⟩, ⟨some 63, .mv (.t 9), none, 0, 0⟩, ⟨some 64, .bin .add (.t 62) (.t 63), none, 0, 0⟩, ⟨some 65, .idxAddr 1 (.t 61) (.t 64), none, 0, 0⟩, ⟨some 66, .load none (.t 65), none, 0, 0⟩, ⟨some 67, .mv (.t 0), none, 0, 0⟩, ⟨some 68, .mv (.t 3), none, 0, 0⟩, ⟨some 69, .mv (.t 8), none, 0, 0⟩, ⟨some 70, .bin .add (.t 68) (.t 69), none, 0, 0⟩, ⟨some 71, .idxAddr 1 (.t 67) (.t 70), none, 0, 0⟩, ⟨some 72, .load none (.t 71), none, 0, 0⟩, ⟨some 73, .idxAddr 1 (.t 53) (.t 56), none, 0, 0⟩, ⟨none, .store 1 (.t 73) (.t 66), none, 0, 0⟩, ⟨some 74, .idxAddr 1 (.t 57) (.t 60), none, 1, 1⟩, ⟨none, .store 1 (.t 74) (.t 72), none, 0, 0⟩])
  (.reg [⟨some 75, .mv (.t 9), none, 0, 0⟩, ⟨some 8, .mv (.t 75), none, 0, 0⟩])))))))))), []⟩
theorem c340 : ∃ fn, Tryz.prog.funcs[340]? = some fn ∧ compFn Tryz.prog fn = some a340 := ⟨_, Tryz.func340, by kernel_rfl⟩
/-- slices.medianAdjacentOrdered[string] -/
def a341 : AFunc := ⟨15, (.seq (.reg [⟨some 6, .mv (.c (.int .i64 0)), none, 0, 0⟩])
 (.seq (.reg [⟨some 7, .mv (.t 0), none, 0, 0⟩, ⟨some 8, .mv (.t 1), none, 0, 0⟩, ⟨some 9, .bin .sub (.t 8) (.c (.int .i64 1)), none, 0, 0⟩, ⟨some 10, .mv (.t 1), none, 0, 0⟩, ⟨some 11, .mv (.t 1), none, 0, 0⟩, ⟨some 12, .bin .add (.t 11) (.c (.int .i64 1)), none, 0, 0⟩, ⟨some 13, .mv (.t 2), none, 0, 0⟩, ⟨some 14, .call (.c (.fn (.func 342) [] [])) [(.t 7), (.t 9), (.t 10), (.t 12), (.t 13)], none, 0, 0⟩, ⟨some 6, .mv (.t 14), none, 0, 0⟩])
 .ret)), [.t 6]⟩
theorem c341 : ∃ fn, Tryz.prog.funcs[341]? = some fn ∧ compFn Tryz.prog fn = some a341 := ⟨_, Tryz.func341, by kernel_rfl⟩
/-- slices.medianOrdered[string] -/
def a342 : AFunc := ⟨36, (.seq (.reg [⟨some 10, .mv (.c (.int .i64 0)), none, 0, 0⟩])
 (.seq (.reg [⟨some 12, .mv (.t 0), none, 0, 0⟩, ⟨some 13, .mv (.t 1), none, 0, 0⟩, ⟨some 14, .mv (.t 2), none, 0, 0⟩, ⟨some 15, .mv (.t 4), none, 0, 0⟩, ⟨some 16, .call (.c (.fn (.func 344) [] [])) [(.t 12), (.t 13), (.t 14), (.t 15)], none, 0, 0⟩, ⟨some 11, .mv (.t 16), none, 0, 0⟩, ⟨some 17, .extract (.t 11) 0, none, 0, 0⟩, ⟨some 18, .extract (.t 11) 1, none, 0, 0⟩, ⟨some 1, .mv (.t 17), none, 0, 0⟩, ⟨some 2, .mv (.t 18), none, 0, 0⟩])
 (.seq (.reg [⟨some 20, .mv (.t 0), none, 0, 0⟩, ⟨some 21, .mv (.t 2), none, 0, 0⟩, ⟨some 22, .mv (.t 3), none, 0, 0⟩, ⟨some 23, .mv (.t 4), none, 0, 0⟩, ⟨some 24, .call (.c (.fn (.func 344) [] [])) [(.t 20), (.t 21), (.t 22), (.t 23)], none, 0, 0⟩, ⟨some 19, .mv (.t 24), none, 0, 0⟩, ⟨some 25, .extract (.t 19) 0, none, 0, 0⟩, ⟨some 26, .extract (.t 19) 1, none, 0, 0⟩, ⟨some 2, .mv (.t 25), none, 0, 0⟩, ⟨some 3, .mv (.t 26), none, 0, 0⟩])
 (.seq (.reg [⟨some 28, .mv (.t 0), none, 0, 0⟩, ⟨some 29, .mv (.t 1), none, 0, 0⟩, ⟨some 30, .mv (.t 2), none, 0, 0⟩, ⟨some 31, .mv (.t 4), none, 0, 0⟩, ⟨some 32, .call (.c (.fn (.func 344) [] [])) [(.t 28), (.t 29), (.t 30), (.t 31)], none, 0, 0⟩, ⟨some 27, .mv (.t 32), none, 0, 0⟩, ⟨some 33, .extract (.t 27) 0, none, 0, 0⟩, ⟨some 34, .extract (.t 27) 1, none, 0, 0⟩, ⟨some 1, .mv (.t 33), none, 0, 0⟩, ⟨some 2, .mv (.t 34), none, 0, 0⟩])
 (.seq (.reg [⟨some 35, .mv (.t 2), none, 0, 0⟩, ⟨some 10, .mv (.t 35), none, 0, 0⟩])
 .ret))))), [.t 10]⟩
theorem c342 : ∃ fn, Tryz.prog.funcs[342]? = some fn ∧ compFn Tryz.prog fn = some a342 := ⟨_, Tryz.func342, by kernel_rfl⟩
/-- slices.order2Ordered[string] -/
def a344 : AFunc := ⟨28, (.seq (.reg [⟨some 8, .mv (.c (.int .i64 0)), none, 0, 0⟩, ⟨some 9, .mv (.c (.int .i64 0)), none, 0, 0⟩])
 (.seq (.seq (.dreg [⟨some 10, .mv (.t 0), none, 0, 0⟩, ⟨some 11, .mv (.t 2), none, 0, 0⟩, ⟨some 12, .idxAddr 1 (.t 10) (.t 11), none, 0, 0⟩, ⟨some 13, .load none (.t 12), none, 0, 0⟩, ⟨some 14, .mv (.t 0), none, 0, 0⟩, ⟨some 15, .mv (.t 1), none, 0, 0⟩, ⟨some 16, .idxAddr 1 (.t 14) (.t 15), none, 0, 0⟩, ⟨some 17, .load none (.t 16), none, 0, 0⟩, ⟨some 18, .call (.c (.fn (.func 331) [] [])) [(.t 13), (.t 17)], none, 0, 0⟩])
 (.cond (.t 18) (.seq (.reg [⟨some 19, .mv (.t 3), none, 0, 0⟩, ⟨some 20, .nilck (.t 19), none, 0, 0⟩, ⟨some 21, .load none (.t 20), none, 0, 0⟩, ⟨some 22, .bin .add (.t 21) (.c (.int .i64 1)), none, 0, 0⟩, ⟨some 23, .nilck (.t 19), none, 0, 0⟩, ⟨none, .store 1 (.t 23) (.t 22), none, 0, 0⟩])
  (.seq (.reg [⟨some 24, .mv (.t 2), none, 0, 0⟩, ⟨some 25, .mv (.t 1), none, 0, 0⟩, ⟨some 8, .mv (.t 24), none, 0, 0⟩, ⟨some 9, .mv (.t 25), none, 0, 0⟩])
  .ret))
  (.skip)))
 (.seq (.reg [⟨some 26, .mv (.t 1), none, 0, 0⟩, ⟨some 27, .mv (.t 2), none, 0, 0⟩, ⟨some 8, .mv (.t 26), none, 0, 0⟩, ⟨some 9, .mv (.t 27), none, 0, 0⟩])
 .ret))), [.t 8, .t 9]⟩
theorem c344 : ∃ fn, Tryz.prog.funcs[344]? = some fn ∧ compFn Tryz.prog fn = some a344 := ⟨_, Tryz.func344, by kernel_rfl⟩
end Go.Proofs.YtlogcjaigjcmiaaGreat.AM.Wp
