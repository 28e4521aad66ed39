/-
  The codes of functions, as the abstract machine has them; printed by amtab.py.
-/
import Derived.Test.YtlogcjaigjcmiaaGreatAmY
import Derived.Test.YtlogcjaigjcmiaaGreatProg
import Derived.KernelRfl
set_option maxRecDepth 100000
namespace Go.Proofs.YtlogcjaigjcmiaaGreat.AM.Wp
open Go
/-- gauger/gaugerlaw31.WitnessPasses -/
def a7 : AFunc := ⟨94, (.seq (.reg [⟨some 3, .box (.t 1), none, 0, 0⟩, ⟨some 4, .mv (.c (.bool false)), none, 0, 0⟩])
 (.seq (.seq (.reg [⟨some 11, .call (.c (.fn (.func 51) [] [])) [], none, 0, 0⟩, ⟨some 12, .un .not (.t 11), none, 0, 0⟩])
 (.cond (.t 12) (.seq (.reg [⟨some 4, .mv (.c (.bool false)), none, 0, 0⟩])
  .ret)
  (.skip)))
 (.seq (.seq (.reg [⟨some 13, .fieldAddr 0 (.t 3), none, 0, 0⟩, ⟨some 14, .load none (.t 13), none, 0, 0⟩, ⟨some 15, .len 1 (.t 14), none, 0, 0⟩, ⟨some 16, .bin .gtr (.t 15) (.c (.int .i64 6)), none, 0, 0⟩, ⟨some 17, .mv (.t 16), none, 0, 0⟩, ⟨some 18, .fieldAddr 1 (.t 3), (some (17, false)), 0, 0⟩, ⟨some 19, .load none (.t 18), (some (17, false)), 0, 0⟩, ⟨some 20, .len 1 (.t 19), (some (17, false)), 0, 0⟩, ⟨some 21, .bin .gtr (.t 20) (.c (.int .i64 8)), (some (17, false)), 0, 0⟩, ⟨some 22, .pick (.t 17) (.c (.bool true)) (.t 21), none, 0, 0⟩])
 (.cond (.t 22) (.seq (.reg [⟨some 4, .mv (.c (.bool true)), none, 0, 0⟩])
  .ret)
  (.skip)))
 (.seq (.seq (.reg [⟨some 5, .mv (.c (.int .i64 0)), none, 0, 0⟩])
 (.block 0 (.loop (.seq (.seq (.reg [⟨some 23, .mv (.t 5), none, 0, 0⟩, ⟨some 24, .fieldAddr 0 (.t 3), none, 0, 0⟩, ⟨some 25, .load none (.t 24), none, 0, 0⟩, ⟨some 26, .len 1 (.t 25), none, 0, 0⟩, ⟨some 27, .bin .lss (.t 23) (.t 26), none, 0, 0⟩])
  (.cond (.t 27) (.skip)
   (.exit 0)))
  (.seq (.block 1 (.seq (.reg [⟨some 30, .fieldAddr 0 (.t 3), none, 0, 0⟩, ⟨some 31, .load none (.t 30), none, 0, 0⟩, ⟨some 32, .mv (.t 5), none, 0, 0⟩, ⟨some 33, .idxAddr 1 (.t 31) (.t 32), none, 0, 0⟩, ⟨some 34, .fieldAddr 0 (.t 33), none, 0, 0⟩, ⟨some 35, .load none (.t 34), none, 0, 0⟩, ⟨some 36, .len 1 (.t 35), none, 0, 0⟩, ⟨some 37, .bin .gtr (.t 36) (.c (.int .i64 10)), none, 0, 0⟩])
  (.cond (.t 37) (.seq (.reg [⟨some 4, .mv (.c (.bool true)), none, 0, 0⟩])
   .ret)
   (.skip))))
  (.reg [⟨some 28, .mv (.t 5), none, 0, 0⟩, ⟨some 29, .bin .add (.t 28) (.c (.int .i64 1)), none, 0, 0⟩, ⟨some 5, .mv (.t 29), none, 0, 0⟩]))))))
 (.seq (.seq (.reg [⟨some 6, .mv (.c (.int .i64 0)), none, 0, 0⟩])
 (.block 2 (.loop (.seq (.seq (.reg [⟨some 38, .mv (.t 6), none, 0, 0⟩, ⟨some 39, .fieldAddr 1 (.t 3), none, 0, 0⟩, ⟨some 40, .load none (.t 39), none, 0, 0⟩, ⟨some 41, .len 1 (.t 40), none, 0, 0⟩, ⟨some 42, .bin .lss (.t 38) (.t 41), none, 0, 0⟩])
  (.cond (.t 42) (.skip)
   (.exit 2)))
  (.seq (.block 3 (.seq (.reg [⟨some 45, .fieldAddr 1 (.t 3), none, 0, 0⟩, ⟨some 46, .load none (.t 45), none, 0, 0⟩, ⟨some 47, .mv (.t 6), none, 0, 0⟩, ⟨some 48, .idxAddr 3 (.t 46) (.t 47), none, 0, 0⟩, ⟨some 49, .fieldAddr 2 (.t 48), none, 0, 0⟩, ⟨some 50, .load none (.t 49), none, 0, 0⟩, ⟨some 51, .len 1 (.t 50), none, 0, 0⟩, ⟨some 52, .bin .gtr (.t 51) (.c (.int .i64 10)), none, 0, 0⟩])
  (.cond (.t 52) (.seq (.reg [⟨some 4, .mv (.c (.bool true)), none, 0, 0⟩])
   .ret)
   (.skip))))
  (.reg [⟨some 43, .mv (.t 6), none, 0, 0⟩, ⟨some 44, .bin .add (.t 43) (.c (.int .i64 1)), none, 0, 0⟩, ⟨some 6, .mv (.t 44), none, 0, 0⟩]))))))
 (.seq (.reg [⟨some 54, .load (some 2) (.t 3), none, 0, 0⟩, ⟨some 55, .call (.c (.fn (.func 52) [] [])) [(.t 54), (.c .nils), (.c .nils)], none, 0, 0⟩, ⟨some 53, .mv (.t 55), none, 0, 0⟩, ⟨some 56, .extract (.t 53) 0, none, 0, 0⟩, ⟨some 57, .extract (.t 53) 1, none, 0, 0⟩, ⟨some 58, .extract (.t 53) 2, none, 0, 0⟩, ⟨some 8, .alloc [(.int .i64 0), (.int .i64 0)], none, 0, 0⟩, ⟨some 7, .mv (.t 56), none, 0, 0⟩, ⟨none, .store 2 (.t 8) (.t 57), none, 0, 0⟩, ⟨some 9, .mv (.t 58), none, 0, 0⟩])
 (.seq (.reg [⟨some 59, .mv (.t 0), none, 0, 0⟩, ⟨some 60, .bin .eql (.t 59) (.c (.int .i64 1)), none, 0, 0⟩, ⟨some 61, .mv (.t 60), none, 0, 0⟩, ⟨some 62, .mv (.t 0), (some (61, false)), 0, 0⟩, ⟨some 63, .bin .eql (.t 62) (.c (.int .i64 5)), (some (61, false)), 0, 0⟩, ⟨some 64, .pick (.t 61) (.c (.bool true)) (.t 63), none, 0, 0⟩, ⟨some 65, .mv (.t 64), none, 0, 0⟩, ⟨some 66, .mv (.t 0), (some (65, false)), 0, 0⟩, ⟨some 67, .bin .eql (.t 66) (.c (.int .i64 8)), (some (65, false)), 0, 0⟩, ⟨some 68, .pick (.t 65) (.c (.bool true)) (.t 67), none, 0, 0⟩, ⟨some 69, .mv (.t 68), none, 0, 0⟩, ⟨some 70, .mv (.t 0), (some (69, false)), 0, 0⟩, ⟨some 71, .bin .eql (.t 70) (.c (.int .i64 10)), (some (69, false)), 0, 0⟩, ⟨some 72, .pick (.t 69) (.c (.bool true)) (.t 71), none, 0, 0⟩, ⟨some 10, .mv (.t 72), none, 0, 0⟩])
 (.seq (.reg [⟨some 73, .mv (.t 0), none, 0, 0⟩, ⟨some 74, .call (.c (.fn (.func 53) [] [])) [(.t 73)], none, 0, 0⟩, ⟨some 75, .mv (.t 10), none, 0, 0⟩, ⟨some 76, .beq false (.t 74) (.t 75), none, 0, 0⟩, ⟨some 77, .mv (.t 76), none, 0, 0⟩, ⟨some 78, .mv (.t 9), (some (77, true)), 0, 0⟩, ⟨some 79, .load (some 2) (.t 3), (some (77, true)), 0, 0⟩, ⟨some 80, .call (.c (.fn (.func 13) [] [])) [(.t 79)], (some (77, true)), 0, 0⟩, ⟨some 81, .beq false (.t 78) (.t 80), (some (77, true)), 0, 0⟩, ⟨some 82, .pick (.t 77) (.t 81) (.c (.bool false)), none, 0, 0⟩, ⟨some 83, .mv (.t 82), none, 0, 0⟩, ⟨some 84, .mv (.t 9), (some (83, true)), 0, 0⟩, ⟨some 85, .mv (.t 7), (some (83, true)), 0, 0⟩, ⟨some 86, .isNil 0 true (.t 85), (some (83, true)), 0, 0⟩, ⟨some 87, .beq false (.t 84) (.t 86), (some (83, true)), 0, 0⟩, ⟨some 88, .pick (.t 83) (.t 87) (.c (.bool false)), none, 0, 0⟩, ⟨some 89, .mv (.t 88), none, 0, 0⟩, ⟨some 90, .load (some 2) (.t 8), (some (89, true)), 0, 0⟩, ⟨some 91, .build [(.int .i64 0), (.int .i64 0)] [], (some (89, true)), 0, 0⟩, ⟨some 92, .eqS false [1, 1] (.t 90) (.t 91), (some (89, true)), 0, 0⟩, ⟨some 93, .pick (.t 89) (.t 92) (.c (.bool false)), none, 0, 0⟩, ⟨some 4, .mv (.t 93), none, 0, 0⟩])
 .ret)))))))), [.t 4]⟩
theorem c7 : ∃ fn, Tryz.prog.funcs[7]? = some fn ∧ compFn Tryz.prog fn = some a7 := ⟨_, Tryz.func7, by kernel_rfl⟩
/-- gauger/model.New -/
def a12 : AFunc := ⟨16, (.seq (.reg [⟨some 2, .box (.t 0), none, 0, 0⟩, ⟨some 4, .mv (.c .nilp), none, 0, 0⟩])
 (.seq (.seq (.reg [⟨some 5, .load (some 2) (.t 2), none, 0, 0⟩, ⟨some 6, .call (.c (.fn (.func 13) [] [])) [(.t 5)], none, 0, 0⟩, ⟨some 7, .un .not (.t 6), none, 0, 0⟩])
 (.cond (.t 7) (.seq (.reg [⟨some 4, .mv (.c .nilp), none, 0, 0⟩])
  .ret)
  (.skip)))
 (.seq (.dreg [⟨some 8, .load (some 2) (.t 2), none, 0, 1⟩, ⟨some 9, .mv (.t 1), none, 0, 1⟩, ⟨some 10, .fieldAddr 0 (.t 2), none, 0, 0⟩, ⟨some 11, .load none (.t 10), none, 0, 0⟩, ⟨some 12, .len 1 (.t 11), none, 0, 0⟩, ⟨some 13, .mksl [.nils] 24 (.t 12) (.t 12), none, 0, 0⟩, ⟨some 14, .build [.nils, .nils, (.bool false), .nils, .nils, .nils] [(0, 2, (.t 8)), (2, 1, (.t 9)), (3, 1, (.t 13))], none, 1, 1⟩, ⟨some 15, .box (.t 14), none, 0, 0⟩, ⟨some 4, .mv (.t 15), none, 2, 2⟩])
 .ret))), [.t 4]⟩
theorem c12 : ∃ fn, Tryz.prog.funcs[12]? = some fn ∧ compFn Tryz.prog fn = some a12 := ⟨_, Tryz.func12, by kernel_rfl⟩
/-- gauger/plan.Good -/
def a13 : AFunc := ⟨34, (.seq (.reg [⟨some 1, .box (.t 0), none, 0, 0⟩, ⟨some 2, .mv (.c (.bool false)), none, 0, 0⟩])
 (.seq (.seq (.reg [⟨some 5, .fieldAddr 0 (.t 1), none, 0, 0⟩, ⟨some 6, .load none (.t 5), none, 0, 0⟩, ⟨some 7, .len 1 (.t 6), none, 0, 0⟩, ⟨some 8, .bin .lss (.t 7) (.c (.int .i64 1)), none, 0, 0⟩, ⟨some 9, .mv (.t 8), none, 0, 0⟩, ⟨some 10, .fieldAddr 0 (.t 1), (some (9, false)), 0, 0⟩, ⟨some 11, .load none (.t 10), (some (9, false)), 0, 0⟩, ⟨some 12, .len 1 (.t 11), (some (9, false)), 0, 0⟩, ⟨some 13, .bin .gtr (.t 12) (.c (.int .i64 3)), (some (9, false)), 0, 0⟩, ⟨some 14, .pick (.t 9) (.c (.bool true)) (.t 13), none, 0, 0⟩, ⟨some 15, .mv (.t 14), none, 0, 0⟩, ⟨some 16, .fieldAddr 1 (.t 1), (some (15, false)), 0, 0⟩, ⟨some 17, .load none (.t 16), (some (15, false)), 0, 0⟩, ⟨some 18, .len 1 (.t 17), (some (15, false)), 0, 0⟩, ⟨some 19, .bin .gtr (.t 18) (.c (.int .i64 4)), (some (15, false)), 0, 0⟩, ⟨some 20, .pick (.t 15) (.c (.bool true)) (.t 19), none, 0, 0⟩])
 (.cond (.t 20) (.seq (.reg [⟨some 2, .mv (.c (.bool false)), none, 0, 0⟩])
  .ret)
  (.skip)))
 (.seq (.reg [⟨some 3, .mv (.c (.fn (.func 72) [] [])), none, 0, 0⟩])
 (.seq (.reg [⟨some 21, .mkfn (.func 74) [] [(.t 1)], none, 0, 0⟩, ⟨some 4, .mv (.t 21), none, 0, 0⟩])
 (.seq (.reg [⟨some 22, .fieldAddr 0 (.t 1), none, 0, 0⟩, ⟨some 23, .load none (.t 22), none, 0, 0⟩, ⟨some 24, .mv (.t 3), none, 0, 0⟩, ⟨some 25, .call (.c (.fn (.func 76) [] [])) [(.t 23), (.t 24)], none, 0, 0⟩, ⟨some 26, .un .not (.t 25), none, 0, 0⟩, ⟨some 27, .mv (.t 26), none, 0, 0⟩, ⟨some 28, .fieldAddr 1 (.t 1), (some (27, true)), 0, 0⟩, ⟨some 29, .load none (.t 28), (some (27, true)), 0, 0⟩, ⟨some 30, .mv (.t 4), (some (27, true)), 0, 0⟩, ⟨some 31, .call (.c (.fn (.func 77) [] [])) [(.t 29), (.t 30)], (some (27, true)), 0, 0⟩, ⟨some 32, .un .not (.t 31), (some (27, true)), 0, 0⟩, ⟨some 33, .pick (.t 27) (.t 32) (.c (.bool false)), none, 0, 0⟩, ⟨some 2, .mv (.t 33), none, 0, 0⟩])
 .ret))))), [.t 2]⟩
theorem c13 : ∃ fn, Tryz.prog.funcs[13]? = some fn ∧ compFn Tryz.prog fn = some a13 := ⟨_, Tryz.func13, by kernel_rfl⟩
/-- (*gauger/model.DB).Begin -/
def a16 : AFunc := ⟨20, (.seq (.reg [⟨some 2, .mv (.c (.int .i64 0)), none, 0, 0⟩])
 (.seq (.block 0 (.seq (.reg [⟨some 4, .mv (.t 0), none, 0, 0⟩, ⟨some 5, .isNil 0 false (.t 4), none, 0, 0⟩, ⟨some 3, .mv (.t 5), none, 0, 0⟩])
 (.cond (.t 3) (.seq (.reg [⟨some 2, .mv (.c (.int .i64 2)), none, 0, 0⟩])
  .ret)
  (.seq (.reg [⟨some 7, .mv (.t 0), none, 0, 0⟩, ⟨some 8, .nilck (.t 7), none, 0, 0⟩, ⟨some 9, .fieldAddr 4 (.t 8), none, 0, 0⟩, ⟨some 10, .load none (.t 9), none, 0, 0⟩, ⟨some 11, .isNil 1 true (.t 10), none, 0, 0⟩, ⟨some 6, .mv (.t 11), none, 0, 0⟩])
  (.cond (.t 6) (.seq (.reg [⟨some 2, .mv (.c (.int .i64 13)), none, 0, 0⟩])
   .ret)
   (.skip))))))
 (.seq (.reg [⟨some 12, .mv (.t 0), none, 0, 0⟩, ⟨some 13, .mv (.t 0), none, 0, 0⟩, ⟨some 14, .nilck (.t 13), none, 0, 0⟩, ⟨some 15, .fieldAddr 3 (.t 14), none, 0, 0⟩, ⟨some 16, .load none (.t 15), none, 0, 0⟩, ⟨some 17, .call (.c (.fn (.func 79) [] [])) [(.t 16)], none, 0, 0⟩, ⟨some 18, .nilck (.t 12), none, 0, 0⟩, ⟨some 19, .fieldAddr 4 (.t 18), none, 0, 0⟩, ⟨none, .store 1 (.t 19) (.t 17), none, 0, 0⟩])
 (.seq (.reg [⟨some 2, .mv (.c (.int .i64 0)), none, 0, 0⟩])
 .ret)))), [.t 2]⟩
theorem c16 : ∃ fn, Tryz.prog.funcs[16]? = some fn ∧ compFn Tryz.prog fn = some a16 := ⟨_, Tryz.func16, by kernel_rfl⟩
/-- (*gauger/model.DB).Commit -/
def a18 : AFunc := ⟨5, (.seq (.reg [⟨some 2, .mv (.c (.int .i64 0)), none, 0, 0⟩])
 (.seq (.reg [⟨some 3, .mv (.t 0), none, 0, 0⟩, ⟨some 4, .call (.c (.fn (.func 81) [] [])) [(.t 3), (.c (.bool true))], none, 0, 0⟩, ⟨some 2, .mv (.t 4), none, 0, 0⟩])
 .ret)), [.t 2]⟩
theorem c18 : ∃ fn, Tryz.prog.funcs[18]? = some fn ∧ compFn Tryz.prog fn = some a18 := ⟨_, Tryz.func18, by kernel_rfl⟩
/-- (*gauger/model.DB).Do -/
def a23 : AFunc := ⟨89, (.seq (.reg [⟨some 3, .box (.t 1), none, 0, 0⟩, ⟨some 4, .alloc [(.int .i64 0), .nils, .nils, (.int .i64 0)], none, 0, 0⟩])
 (.seq (.block 0 (.seq (.reg [⟨some 6, .mv (.t 0), none, 0, 0⟩, ⟨some 7, .isNil 0 false (.t 6), none, 0, 0⟩, ⟨some 5, .mv (.t 7), none, 0, 0⟩])
 (.cond (.t 5) (.seq (.reg [⟨some 8, .build [(.int .i64 0), .nils, .nils, (.int .i64 0)] [(0, 1, (.c (.int .i64 2)))], none, 0, 0⟩, ⟨none, .store 4 (.t 4) (.t 8), none, 0, 0⟩])
  .ret)
  (.seq (.reg [⟨some 10, .mv (.t 0), none, 0, 0⟩, ⟨some 11, .nilck (.t 10), none, 0, 0⟩, ⟨some 12, .fieldAddr 4 (.t 11), none, 0, 0⟩, ⟨some 13, .load none (.t 12), none, 0, 0⟩, ⟨some 14, .isNil 1 false (.t 13), none, 0, 0⟩, ⟨some 9, .mv (.t 14), none, 0, 0⟩])
  (.cond (.t 9) (.seq (.reg [⟨some 15, .build [(.int .i64 0), .nils, .nils, (.int .i64 0)] [(0, 1, (.c (.int .i64 13)))], none, 0, 0⟩, ⟨none, .store 4 (.t 4) (.t 15), none, 0, 0⟩])
   .ret)
   (.seq (.dreg [⟨some 17, .mv (.t 0), none, 0, 0⟩, ⟨some 18, .nilck (.t 17), none, 0, 0⟩, ⟨some 19, .fieldAddr 0 (.t 18), none, 0, 0⟩, ⟨some 20, .load (some 2) (.t 19), none, 0, 0⟩, ⟨some 21, .load (some 14) (.t 3), none, 0, 0⟩, ⟨some 22, .call (.c (.fn (.func 83) [] [])) [(.t 20), (.t 21)], none, 0, 0⟩, ⟨some 23, .un .not (.t 22), none, 1, 1⟩, ⟨some 16, .mv (.t 23), none, 1, 1⟩])
   (.cond (.t 16) (.seq (.reg [⟨some 24, .build [(.int .i64 0), .nils, .nils, (.int .i64 0)] [(0, 1, (.c (.int .i64 1)))], none, 0, 0⟩, ⟨none, .store 4 (.t 4) (.t 24), none, 0, 0⟩])
    .ret)
    (.skip))))))))
 (.seq (.seq (.reg [⟨some 25, .fieldAddr 0 (.t 3), none, 0, 0⟩, ⟨some 26, .load none (.t 25), none, 0, 0⟩])
 (.block 1 (.seq (.reg [⟨some 28, .bin .eql (.t 26) (.c (.int .i64 1)), none, 0, 0⟩, ⟨some 27, .mv (.t 28), none, 0, 0⟩])
 (.cond (.t 27) (.seq (.reg [⟨some 29, .mv (.t 0), none, 0, 0⟩, ⟨some 30, .load (some 14) (.t 3), none, 0, 0⟩, ⟨some 31, .call (.c (.fn (.func 84) [] [])) [(.t 29), (.t 30)], none, 0, 0⟩, ⟨none, .store 4 (.t 4) (.t 31), none, 0, 0⟩])
  .ret)
  (.seq (.seq (.reg [⟨some 33, .bin .eql (.t 26) (.c (.int .i64 2)), none, 0, 0⟩, ⟨some 32, .mv (.t 33), none, 0, 0⟩])
  (.cond (.t 32) (.skip)
   (.reg [⟨some 34, .bin .eql (.t 26) (.c (.int .i64 3)), none, 0, 0⟩, ⟨some 32, .mv (.t 34), none, 0, 0⟩])))
  (.cond (.t 32) (.seq (.reg [⟨some 35, .mv (.t 0), none, 0, 0⟩, ⟨some 36, .load (some 14) (.t 3), none, 0, 0⟩, ⟨some 37, .call (.c (.fn (.func 85) [] [])) [(.t 35), (.t 36)], none, 0, 0⟩, ⟨none, .store 4 (.t 4) (.t 37), none, 0, 0⟩])
   .ret)
   (.seq (.reg [⟨some 39, .bin .eql (.t 26) (.c (.int .i64 4)), none, 0, 0⟩, ⟨some 38, .mv (.t 39), none, 0, 0⟩])
   (.cond (.t 38) (.seq (.reg [⟨some 40, .mv (.t 0), none, 0, 0⟩, ⟨some 41, .fieldAddr 1 (.t 3), none, 0, 0⟩, ⟨some 42, .load none (.t 41), none, 0, 0⟩, ⟨some 43, .fieldAddr 2 (.t 3), none, 0, 0⟩, ⟨some 44, .load (some 3) (.t 43), none, 0, 0⟩, ⟨some 45, .fieldAddr 2 (.t 3), none, 0, 0⟩, ⟨some 46, .load (some 3) (.t 45), none, 0, 0⟩, ⟨some 47, .call (.c (.fn (.func 86) [] [])) [(.t 40), (.t 42), (.t 44), (.t 46)], none, 0, 0⟩, ⟨none, .store 4 (.t 4) (.t 47), none, 0, 0⟩])
    .ret)
    (.seq (.reg [⟨some 49, .bin .eql (.t 26) (.c (.int .i64 5)), none, 0, 0⟩, ⟨some 48, .mv (.t 49), none, 0, 0⟩])
    (.cond (.t 48) (.seq (.reg [⟨some 50, .mv (.t 0), none, 0, 0⟩, ⟨some 51, .fieldAddr 1 (.t 3), none, 0, 0⟩, ⟨some 52, .load none (.t 51), none, 0, 0⟩, ⟨some 53, .fieldAddr 2 (.t 3), none, 0, 0⟩, ⟨some 54, .load (some 3) (.t 53), none, 0, 0⟩, ⟨some 55, .fieldAddr 5 (.t 3), none, 0, 0⟩, ⟨some 56, .load (some 3) (.t 55), none, 0, 0⟩, ⟨some 57, .call (.c (.fn (.func 86) [] [])) [(.t 50), (.t 52), (.t 54), (.t 56)], none, 0, 0⟩, ⟨none, .store 4 (.t 4) (.t 57), none, 0, 0⟩])
     .ret)
     (.seq (.reg [⟨some 59, .bin .eql (.t 26) (.c (.int .i64 6)), none, 0, 0⟩, ⟨some 58, .mv (.t 59), none, 0, 0⟩])
     (.cond (.t 58) (.seq (.reg [⟨some 60, .mv (.t 0), none, 0, 0⟩, ⟨some 61, .fieldAddr 1 (.t 3), none, 0, 0⟩, ⟨some 62, .load none (.t 61), none, 0, 0⟩, ⟨some 63, .fieldAddr 2 (.t 3), none, 0, 0⟩, ⟨some 64, .load (some 3) (.t 63), none, 0, 0⟩, ⟨some 65, .fieldAddr 2 (.t 3), none, 0, 0⟩, ⟨some 66, .load (some 3) (.t 65), none, 0, 0⟩, ⟨some 67, .call (.c (.fn (.func 87) [] [])) [(.t 60), (.t 62), (.t 64), (.t 66)], none, 0, 0⟩, ⟨none, .store 4 (.t 4) (.t 67), none, 0, 0⟩])
      .ret)
      (.seq (.reg [⟨some 69, .bin .eql (.t 26) (.c (.int .i64 7)), none, 0, 0⟩, ⟨some 68, .mv (.t 69), none, 0, 0⟩])
      (.cond (.t 68) (.seq (.reg [⟨some 70, .mv (.t 0), none, 0, 0⟩, ⟨some 71, .fieldAddr 1 (.t 3), none, 0, 0⟩, ⟨some 72, .load none (.t 71), none, 0, 0⟩, ⟨some 73, .fieldAddr 2 (.t 3), none, 0, 0⟩, ⟨some 74, .load (some 3) (.t 73), none, 0, 0⟩, ⟨some 75, .fieldAddr 5 (.t 3), none, 0, 0⟩, ⟨some 76, .load (some 3) (.t 75), none, 0, 0⟩, ⟨some 77, .call (.c (.fn (.func 87) [] [])) [(.t 70), (.t 72), (.t 74), (.t 76)], none, 0, 0⟩, ⟨none, .store 4 (.t 4) (.t 77), none, 0, 0⟩])
       .ret)
       (.seq (.reg [⟨some 79, .bin .eql (.t 26) (.c (.int .i64 8)), none, 0, 0⟩, ⟨some 78, .mv (.t 79), none, 0, 0⟩])
       (.cond (.t 78) (.seq (.reg [⟨some 80, .mv (.t 0), none, 0, 0⟩, ⟨some 81, .call (.c (.fn (.func 88) [] [])) [(.t 80)], none, 0, 0⟩, ⟨none, .store 4 (.t 4) (.t 81), none, 0, 0⟩])
        .ret)
        (.seq (.reg [⟨some 83, .bin .eql (.t 26) (.c (.int .i64 9)), none, 0, 0⟩, ⟨some 82, .mv (.t 83), none, 0, 0⟩])
        (.cond (.t 82) (.seq (.reg [⟨some 84, .mv (.t 0), none, 0, 0⟩, ⟨some 85, .fieldAddr 13 (.t 3), none, 0, 0⟩, ⟨some 86, .load none (.t 85), none, 0, 0⟩, ⟨some 87, .call (.c (.fn (.func 89) [] [])) [(.t 84), (.t 86)], none, 0, 0⟩, ⟨none, .store 4 (.t 4) (.t 87), none, 0, 0⟩])
         .ret)
         (.skip)))))))))))))))))))
 (.seq (.reg [⟨some 88, .build [(.int .i64 0), .nils, .nils, (.int .i64 0)] [], none, 0, 0⟩, ⟨none, .store 4 (.t 4) (.t 88), none, 0, 0⟩])
 .ret)))), [.cell 4 (some 4)]⟩
theorem c23 : ∃ fn, Tryz.prog.funcs[23]? = some fn ∧ compFn Tryz.prog fn = some a23 := ⟨_, Tryz.func23, by kernel_rfl⟩
/-- (*gauger/model.DB).Tables -/
def a27 : AFunc := ⟨36, (.seq (.reg [⟨some 2, .mv (.c .nils), none, 0, 0⟩])
 (.seq (.seq (.reg [⟨some 8, .mv (.t 0), none, 0, 0⟩, ⟨some 9, .isNil 0 false (.t 8), none, 0, 0⟩])
 (.cond (.t 9) (.seq (.reg [⟨some 2, .mv (.c .nils), none, 0, 0⟩])
  .ret)
  (.skip)))
 (.seq (.reg [⟨some 10, .mv (.t 0), none, 0, 0⟩, ⟨some 11, .nilck (.t 10), none, 0, 0⟩, ⟨some 12, .fieldAddr 3 (.t 11), none, 0, 0⟩, ⟨some 13, .load none (.t 12), none, 0, 0⟩, ⟨some 14, .call (.c (.fn (.func 79) [] [])) [(.t 13)], none, 0, 0⟩, ⟨some 3, .mv (.t 14), none, 0, 0⟩])
 (.seq (.seq (.reg [⟨some 15, .mv (.t 3), none, 0, 0⟩, ⟨some 16, .len 1 (.t 15), none, 0, 0⟩, ⟨some 17, .mv (.c (.int .i64 0)), none, 0, 0⟩])
 (.block 0 (.loop (.seq (.reg [⟨some 18, .bin .lss (.t 17) (.t 16), none, 0, 0⟩])
  (.seq (.cond (.t 18) (.skip)
   (.exit 0))
  (.seq (.block 1 (.seq (.reg [⟨some 19, .idxAddr 1 (.t 15) (.t 17), none, 0, 0⟩, ⟨some 20, .load none (.t 19), none, 0, 0⟩, ⟨some 5, .mv (.t 20), none, 0, 0⟩])
  (.seq (.reg [⟨some 21, .mv (.t 5), none, 0, 0⟩, ⟨some 22, .len 1 (.t 21), none, 0, 0⟩, ⟨some 23, .mv (.c (.int .i64 0)), none, 0, 0⟩])
  (.block 2 (.loop (.seq (.reg [⟨some 24, .bin .lss (.t 23) (.t 22), none, 0, 0⟩])
   (.seq (.cond (.t 24) (.skip)
    (.exit 2))
   (.seq (.block 3 (.seq (.reg [⟨some 25, .mv (.t 23), none, 0, 0⟩, ⟨some 26, .idxAddr 1 (.t 21) (.t 23), none, 0, 0⟩, ⟨some 27, .load none (.t 26), none, 0, 0⟩, ⟨some 6, .mv (.t 25), none, 0, 0⟩, ⟨some 7, .mv (.t 27), none, 0, 0⟩])
   (.reg [⟨some 28, .mv (.t 5), none, 0, 0⟩, ⟨some 29, .mv (.t 6), none, 0, 0⟩, ⟨some 30, .mv (.t 7), none, 0, 0⟩, ⟨some 31, .call (.c (.fn (.func 92) [] [])) [(.t 30)], none, 0, 0⟩, ⟨some 32, .idxAddr 1 (.t 28) (.t 29), none, 0, 0⟩, ⟨none, .store 1 (.t 32) (.t 31), none, 0, 0⟩])))
   (.reg [⟨some 33, .bin .add (.t 23) (.c (.int .i64 1)), none, 0, 0⟩, ⟨some 23, .mv (.t 33), none, 0, 0⟩])))))))))
  (.reg [⟨some 34, .bin .add (.t 17) (.c (.int .i64 1)), none, 0, 0⟩, ⟨some 17, .mv (.t 34), none, 0, 0⟩])))))))
 (.seq (.reg [⟨some 35, .mv (.t 3), none, 0, 0⟩, ⟨some 2, .mv (.t 35), none, 0, 0⟩])
 .ret))))), [.t 2]⟩
theorem c27 : ∃ fn, Tryz.prog.funcs[27]? = some fn ∧ compFn Tryz.prog fn = some a27 := ⟨_, Tryz.func27, by kernel_rfl⟩
/-- (*gauger/model.DB).Groups -/
def a29 : AFunc := ⟨42, (.seq (.reg [⟨some 4, .mv (.c .nils), none, 0, 0⟩])
 (.seq (.seq (.reg [⟨some 5, .mv (.t 0), none, 0, 0⟩, ⟨some 6, .isNil 0 false (.t 5), none, 0, 0⟩, ⟨some 7, .mv (.t 6), none, 0, 0⟩, ⟨some 8, .mv (.t 1), (some (7, false)), 0, 0⟩, ⟨some 9, .bin .lss (.t 8) (.c (.int .i64 0)), (some (7, false)), 0, 0⟩, ⟨some 10, .pick (.t 7) (.c (.bool true)) (.t 9), none, 0, 0⟩, ⟨some 11, .mv (.t 10), none, 0, 0⟩, ⟨some 12, .mv (.t 1), (some (11, false)), 0, 0⟩, ⟨some 13, .mv (.t 0), (some (11, false)), 0, 0⟩, ⟨some 14, .nilck (.t 13), (some (11, false)), 0, 0⟩, ⟨some 15, .fieldAddr 0 (.t 14), (some (11, false)), 0, 0⟩, ⟨some 16, .fieldAddr 1 (.t 15), (some (11, false)), 0, 0⟩, ⟨some 17, .load none (.t 16), (some (11, false)), 0, 0⟩, ⟨some 18, .len 1 (.t 17), (some (11, false)), 0, 0⟩, ⟨some 19, .bin .geq (.t 12) (.t 18), (some (11, false)), 0, 0⟩, ⟨some 20, .pick (.t 11) (.c (.bool true)) (.t 19), none, 0, 0⟩])
 (.cond (.t 20) (.seq (.reg [⟨some 4, .mv (.c .nils), none, 0, 0⟩])
  .ret)
  (.skip)))
 (.seq (.dreg [⟨some 21, .mv (.t 0), none, 0, 0⟩, ⟨some 22, .nilck (.t 21), none, 0, 0⟩, ⟨some 23, .fieldAddr 0 (.t 22), none, 0, 0⟩, ⟨some 24, .load (some 2) (.t 23), none, 0, 0⟩, ⟨some 25, .mv (.t 1), none, 0, 0⟩, ⟨some 26, .mv (.t 0), none, 0, 0⟩, ⟨some 27, .nilck (.t 26), none, 0, 0⟩, ⟨some 28, .fieldAddr 3 (.t 27), none, 0, 0⟩, ⟨some 29, .load none (.t 28), none, 0, 0⟩, ⟨some 30, .mv (.t 0), none, 0, 0⟩, ⟨some 31, .nilck (.t 30), none, 0, 0⟩, ⟨some 32, .fieldAddr 0 (.t 31), none, 0, 0⟩, ⟨some 33, .fieldAddr 1 (.t 32), none, 0, 0⟩, ⟨some 34, .load none (.t 33), none, 0, 0⟩, ⟨some 35, .mv (.t 1), none, 0, 0⟩, ⟨some 36, .idxAddr 3 (.t 34) (.t 35), none, 0, 0⟩, ⟨some 37, .fieldAddr 0 (.t 36), none, 0, 0⟩, ⟨some 38, .load none (.t 37), none, 0, 0⟩, ⟨some 39, .idxAddr 1 (.t 29) (.t 38), none, 0, 0⟩, ⟨some 40, .load none (.t 39), none, 0, 0⟩, ⟨some 41, .call (.c (.fn (.func 94) [] [])) [(.t 24), (.t 25), (.t 40)], none, 0, 0⟩, ⟨some 4, .mv (.t 41), none, 1, 1⟩])
 .ret))), [.t 4]⟩
theorem c29 : ∃ fn, Tryz.prog.funcs[29]? = some fn ∧ compFn Tryz.prog fn = some a29 := ⟨_, Tryz.func29, by kernel_rfl⟩
/-- gauger/gaugerlaw31.awake -/
def a51 : AFunc := ⟨105, (.seq (.reg [⟨some 0, .mv (.c (.bool false)), none, 0, 0⟩])
 (.seq (.reg [⟨some 13, .call (.c (.fn (.func 124) [] [])) [(.c (.int .i64 1))], none, 0, 0⟩, ⟨some 14, .call (.c (.fn (.func 124) [] [])) [(.c (.int .i64 2))], none, 0, 0⟩, ⟨some 15, .call (.c (.fn (.func 124) [] [])) [(.c (.int .i64 3))], none, 0, 0⟩, ⟨some 16, .buildSl [(.int .i64 0), (.int .i64 0), (.str [])] 3 [(0, (.t 13)), (1, (.t 14)), (2, (.t 15))], none, 0, 0⟩, ⟨some 1, .mv (.t 16), none, 0, 0⟩])
 (.seq (.reg [⟨some 17, .mv (.t 1), none, 0, 0⟩, ⟨some 18, .build [(.int .i64 0), (.int .i64 0), (.int .i64 0), (.int .i64 0), (.str []), (.int .i64 0), (.int .i64 0), (.str []), .nils, (.int .i64 0), (.int .i64 0), (.int .i64 0), (.str []), (.int .i64 0)] [(0, 1, (.c (.int .i64 1))), (8, 1, (.t 17))], none, 0, 0⟩, ⟨some 19, .build [(.int .i64 0), .nils, .nils, (.int .i64 0)] [], none, 0, 0⟩, ⟨some 20, .call (.c (.fn (.func 125) [] [])) [(.c (.int .i64 5)), (.c (.int .i64 4)), (.t 18), (.t 19)], none, 0, 0⟩, ⟨some 21, .build [(.int .i64 0), (.int .i64 0), (.int .i64 0), (.int .i64 0), (.str []), (.int .i64 0), (.int .i64 0), (.str []), .nils, (.int .i64 0), (.int .i64 0), (.int .i64 0), (.str []), (.int .i64 0)] [], none, 0, 0⟩, ⟨some 22, .build [(.int .i64 0), .nils, .nils, (.int .i64 0)] [], none, 0, 0⟩, ⟨some 23, .call (.c (.fn (.func 125) [] [])) [(.c (.int .i64 5)), (.c (.int .i64 2)), (.t 21), (.t 22)], none, 0, 0⟩, ⟨some 24, .call (.c (.fn (.func 124) [] [])) [(.c (.int .i64 1))], none, 0, 0⟩, ⟨some 25, .build [(.int .i64 0), (.int .i64 0), (.int .i64 0), (.int .i64 0), (.str []), (.int .i64 0), (.int .i64 0), (.str []), .nils, (.int .i64 0), (.int .i64 0), (.int .i64 0), (.str []), (.int .i64 0)] [(0, 1, (.c (.int .i64 4))), (2, 3, (.t 24))], none, 0, 0⟩, ⟨some 26, .build [(.int .i64 0), .nils, .nils, (.int .i64 0)] [], none, 0, 0⟩, ⟨some 27, .call (.c (.fn (.func 125) [] [])) [(.c (.int .i64 6)), (.c (.int .i64 4)), (.t 25), (.t 26)], none, 0, 0⟩, ⟨some 28, .build [(.int .i64 0), (.int .i64 0), (.int .i64 0), (.int .i64 0), (.str []), (.int .i64 0), (.int .i64 0), (.str []), .nils, (.int .i64 0), (.int .i64 0), (.int .i64 0), (.str []), (.int .i64 0)] [], none, 0, 0⟩, ⟨some 29, .build [(.int .i64 0), .nils, .nils, (.int .i64 0)] [], none, 0, 0⟩, ⟨some 30, .call (.c (.fn (.func 125) [] [])) [(.c (.int .i64 6)), (.c (.int .i64 2)), (.t 28), (.t 29)], none, 0, 0⟩, ⟨some 31, .buildSl [(.int .i64 0), (.int .i64 0), (.int .i64 0), (.int .i64 0), (.int .i64 0), (.int .i64 0), (.int .i64 0), (.int .i64 0), (.str []), (.int .i64 0), (.int .i64 0), (.str []), .nils, (.int .i64 0), (.int .i64 0), (.int .i64 0), (.str []), (.int .i64 0), (.int .i64 0), .nils, .nils, (.int .i64 0)] 4 [(0, (.t 20)), (1, (.t 23)), (2, (.t 27)), (3, (.t 30))], none, 0, 0⟩, ⟨some 2, .mv (.t 31), none, 0, 0⟩])
 (.seq (.reg [⟨some 32, .mv (.t 2), none, 0, 0⟩, ⟨some 33, .call (.c (.fn (.func 61) [] [])) [(.t 32)], none, 0, 0⟩, ⟨some 3, .mv (.t 33), none, 0, 0⟩])
 (.seq (.reg [⟨some 35, .call (.c (.fn (.func 69) [] [])) [], none, 0, 0⟩, ⟨some 36, .mv (.t 3), none, 0, 0⟩, ⟨some 37, .buildSl [(.int .i64 0)] 2 [(0, (.c (.int .i64 6))), (1, (.c (.int .i64 5)))], none, 0, 0⟩, ⟨some 38, .call (.c (.fn (.func 52) [] [])) [(.t 35), (.t 36), (.t 37)], none, 0, 0⟩, ⟨some 34, .mv (.t 38), none, 0, 0⟩, ⟨some 39, .extract (.t 34) 0, none, 0, 0⟩, ⟨some 40, .extract (.t 34) 1, none, 0, 0⟩, ⟨some 41, .extract (.t 34) 2, none, 0, 0⟩, ⟨some 5, .alloc [(.int .i64 0), (.int .i64 0)], none, 0, 0⟩, ⟨some 4, .mv (.t 39), none, 0, 0⟩, ⟨none, .store 2 (.t 5) (.t 40), none, 0, 0⟩, ⟨some 6, .mv (.t 41), none, 0, 0⟩])
 (.seq (.reg [⟨some 43, .call (.c (.fn (.func 69) [] [])) [], none, 0, 0⟩, ⟨some 44, .mv (.t 3), none, 0, 0⟩, ⟨some 45, .buildSl [(.int .i64 0)] 2 [(0, (.c (.int .i64 5))), (1, (.c (.int .i64 6)))], none, 0, 0⟩, ⟨some 46, .call (.c (.fn (.func 52) [] [])) [(.t 43), (.t 44), (.t 45)], none, 0, 0⟩, ⟨some 42, .mv (.t 46), none, 0, 0⟩, ⟨some 47, .extract (.t 42) 0, none, 0, 0⟩, ⟨some 48, .extract (.t 42) 1, none, 0, 0⟩, ⟨some 49, .extract (.t 42) 2, none, 0, 0⟩, ⟨some 8, .alloc [(.int .i64 0), (.int .i64 0)], none, 0, 0⟩, ⟨some 7, .mv (.t 47), none, 0, 0⟩, ⟨none, .store 2 (.t 8) (.t 48), none, 0, 0⟩, ⟨some 9, .mv (.t 49), none, 0, 0⟩])
 (.seq (.reg [⟨some 51, .call (.c (.fn (.func 69) [] [])) [], none, 0, 0⟩, ⟨some 52, .mv (.t 3), none, 0, 0⟩, ⟨some 53, .buildSl [(.int .i64 0)] 1 [(0, (.c (.int .i64 7)))], none, 0, 0⟩, ⟨some 54, .call (.c (.fn (.func 52) [] [])) [(.t 51), (.t 52), (.t 53)], none, 0, 0⟩, ⟨some 50, .mv (.t 54), none, 0, 0⟩, ⟨some 55, .extract (.t 50) 0, none, 0, 0⟩, ⟨some 56, .extract (.t 50) 1, none, 0, 0⟩, ⟨some 57, .extract (.t 50) 2, none, 0, 0⟩, ⟨some 11, .alloc [(.int .i64 0), (.int .i64 0)], none, 0, 0⟩, ⟨some 10, .mv (.t 55), none, 0, 0⟩, ⟨none, .store 2 (.t 11) (.t 56), none, 0, 0⟩, ⟨some 12, .mv (.t 57), none, 0, 0⟩])
 (.seq (.reg [⟨some 58, .mv (.t 3), none, 0, 0⟩, ⟨some 59, .len 1 (.t 58), none, 0, 0⟩, ⟨some 60, .bin .eql (.t 59) (.c (.int .i64 2)), none, 0, 0⟩, ⟨some 61, .mv (.t 60), none, 0, 0⟩, ⟨some 62, .mv (.t 3), (some (61, true)), 0, 0⟩, ⟨some 63, .idxAddr 5 (.t 62) (.c (.int .i64 0)), (some (61, true)), 0, 0⟩, ⟨some 64, .fieldAddr 4 (.t 63), (some (61, true)), 0, 0⟩, ⟨some 65, .load none (.t 64), (some (61, true)), 0, 0⟩, ⟨some 66, .pick (.t 61) (.t 65) (.c (.bool false)), none, 0, 0⟩, ⟨some 67, .mv (.t 66), none, 0, 0⟩, ⟨some 68, .mv (.t 6), (some (67, true)), 0, 0⟩, ⟨some 69, .pick (.t 67) (.t 68) (.c (.bool false)), none, 0, 0⟩, ⟨some 70, .mv (.t 69), none, 0, 0⟩, ⟨some 71, .load (some 2) (.t 5), (some (70, true)), 0, 0⟩, ⟨some 72, .build [(.int .i64 0), (.int .i64 0)] [], (some (70, true)), 0, 0⟩, ⟨some 73, .eqS false [1, 1] (.t 71) (.t 72), (some (70, true)), 0, 0⟩, ⟨some 74, .pick (.t 70) (.t 73) (.c (.bool false)), none, 0, 0⟩, ⟨some 75, .mv (.t 74), none, 0, 0⟩, ⟨some 76, .mv (.t 4), (some (75, true)), 0, 0⟩, ⟨some 77, .isNil 0 true (.t 76), (some (75, true)), 0, 0⟩, ⟨some 78, .pick (.t 75) (.t 77) (.c (.bool false)), none, 0, 0⟩, ⟨some 79, .mv (.t 78), none, 0, 0⟩, ⟨some 80, .mv (.t 4), (some (79, true)), 0, 0⟩, ⟨some 81, .call (.c (.fn (.func 27) [] [])) [(.t 80)], (some (79, true)), 0, 0⟩, ⟨some 82, .idxAddr 1 (.t 81) (.c (.int .i64 0)), (some (79, true)), 0, 0⟩, ⟨some 83, .load none (.t 82), (some (79, true)), 0, 0⟩, ⟨some 84, .len 1 (.t 83), (some (79, true)), 0, 0⟩, ⟨some 85, .bin .eql (.t 84) (.c (.int .i64 1)), (some (79, true)), 0, 0⟩, ⟨some 86, .pick (.t 79) (.t 85) (.c (.bool false)), none, 0, 0⟩, ⟨some 87, .mv (.t 86), none, 0, 0⟩, ⟨some 88, .mv (.t 9), (some (87, true)), 0, 0⟩, ⟨some 89, .un .not (.t 88), (some (87, true)), 0, 0⟩, ⟨some 90, .pick (.t 87) (.t 89) (.c (.bool false)), none, 0, 0⟩, ⟨some 91, .mv (.t 90), none, 0, 0⟩, ⟨some 92, .load (some 2) (.t 8), (some (91, true)), 0, 0⟩, ⟨some 93, .build [(.int .i64 0), (.int .i64 0)] [(0, 1, (.c (.int .i64 6)))], (some (91, true)), 0, 0⟩, ⟨some 94, .eqS false [1, 1] (.t 92) (.t 93), (some (91, true)), 0, 0⟩, ⟨some 95, .pick (.t 91) (.t 94) (.c (.bool false)), none, 0, 0⟩, ⟨some 96, .mv (.t 95), none, 0, 0⟩, ⟨some 97, .mv (.t 12), (some (96, true)), 0, 0⟩, ⟨some 98, .un .not (.t 97), (some (96, true)), 0, 0⟩, ⟨some 99, .pick (.t 96) (.t 98) (.c (.bool false)), none, 0, 0⟩, ⟨some 100, .mv (.t 99), none, 0, 0⟩, ⟨some 101, .load (some 2) (.t 11), (some (100, true)), 0, 0⟩, ⟨some 102, .build [(.int .i64 0), (.int .i64 0)] [(0, 1, (.c (.int .i64 7))), (1, 1, (.c (.int .i64 (-1))))], (some (100, true)), 0, 0⟩, ⟨some 103, .eqS false [1, 1] (.t 101) (.t 102), (some (100, true)), 0, 0⟩, ⟨some 104, .pick (.t 100) (.t 103) (.c (.bool false)), none, 0, 0⟩, ⟨some 0, .mv (.t 104), none, 0, 0⟩])
 .ret)))))))), [.t 0]⟩
theorem c51 : ∃ fn, Tryz.prog.funcs[51]? = some fn ∧ compFn Tryz.prog fn = some a51 := ⟨_, Tryz.func51, by kernel_rfl⟩
/-- gauger/witness.Serial -/
def a52 : AFunc := ⟨58, (.seq (.reg [⟨some 3, .box (.t 0), none, 0, 0⟩, ⟨some 6, .mv (.c .nilp), none, 0, 0⟩, ⟨some 7, .alloc [(.int .i64 0), (.int .i64 0)], none, 0, 0⟩, ⟨some 8, .mv (.c (.bool false)), none, 0, 0⟩])
 (.seq (.reg [⟨some 14, .load (some 2) (.t 3), none, 0, 0⟩, ⟨some 15, .call (.c (.fn (.func 12) [] [])) [(.t 14), (.c (.bool true))], none, 0, 0⟩, ⟨some 9, .mv (.t 15), none, 0, 0⟩])
 (.seq (.seq (.reg [⟨some 16, .mv (.t 9), none, 0, 0⟩, ⟨some 17, .isNil 0 false (.t 16), none, 0, 0⟩])
 (.cond (.t 17) (.seq (.reg [⟨some 18, .build [(.int .i64 0), (.int .i64 0)] [], none, 0, 0⟩, ⟨some 6, .mv (.c .nilp), none, 0, 0⟩, ⟨none, .store 2 (.t 7) (.t 18), none, 0, 0⟩, ⟨some 8, .mv (.c (.bool false)), none, 0, 0⟩])
  .ret)
  (.skip)))
 (.seq (.seq (.reg [⟨some 19, .mv (.t 2), none, 0, 0⟩, ⟨some 20, .len 1 (.t 19), none, 0, 0⟩, ⟨some 21, .mv (.c (.int .i64 0)), none, 0, 0⟩])
 (.block 0 (.loop (.seq (.reg [⟨some 22, .bin .lss (.t 21) (.t 20), none, 0, 0⟩])
  (.seq (.cond (.t 22) (.skip)
   (.exit 0))
  (.seq (.block 1 (.seq (.reg [⟨some 23, .idxAddr 1 (.t 19) (.t 21), none, 0, 0⟩, ⟨some 24, .load none (.t 23), none, 0, 0⟩, ⟨some 11, .mv (.t 24), none, 0, 0⟩])
  (.seq (.reg [⟨some 25, .mv (.t 1), none, 0, 0⟩, ⟨some 26, .mv (.t 11), none, 0, 0⟩, ⟨some 27, .call (.c (.fn (.func 126) [] [])) [(.t 25), (.t 26)], none, 0, 0⟩, ⟨some 12, .mv (.t 27), none, 0, 0⟩])
  (.seq (.seq (.reg [⟨some 28, .mv (.t 12), none, 0, 0⟩, ⟨some 29, .bin .lss (.t 28) (.c (.int .i64 0)), none, 0, 0⟩, ⟨some 30, .mv (.t 29), none, 0, 0⟩, ⟨some 31, .mv (.t 1), (some (30, false)), 0, 0⟩, ⟨some 32, .mv (.t 12), (some (30, false)), 0, 0⟩, ⟨some 33, .idxAddr 5 (.t 31) (.t 32), (some (30, false)), 0, 0⟩, ⟨some 34, .fieldAddr 3 (.t 33), (some (30, false)), 0, 0⟩, ⟨some 35, .load none (.t 34), (some (30, false)), 0, 0⟩, ⟨some 36, .un .not (.t 35), (some (30, false)), 0, 0⟩, ⟨some 37, .pick (.t 30) (.c (.bool true)) (.t 36), none, 0, 0⟩])
  (.cond (.t 37) (.seq (.reg [⟨some 38, .mv (.t 11), none, 0, 0⟩, ⟨some 39, .build [(.int .i64 0), (.int .i64 0)] [(0, 1, (.t 38)), (1, 1, (.c (.int .i64 (-1))))], none, 0, 0⟩, ⟨some 6, .mv (.c .nilp), none, 0, 0⟩, ⟨none, .store 2 (.t 7) (.t 39), none, 0, 0⟩, ⟨some 8, .mv (.c (.bool false)), none, 0, 0⟩])
   .ret)
   (.skip)))
  (.seq (.reg [⟨some 40, .mv (.t 9), none, 0, 0⟩, ⟨some 41, .call (.c (.fn (.func 16) [] [])) [(.t 40)], none, 0, 0⟩])
  (.seq (.seq (.reg [⟨some 42, .mv (.t 1), none, 0, 0⟩, ⟨some 43, .mv (.t 12), none, 0, 0⟩, ⟨some 44, .idxAddr 5 (.t 42) (.t 43), none, 0, 0⟩, ⟨some 45, .load (some 5) (.t 44), none, 0, 0⟩, ⟨some 46, .mv (.t 9), none, 0, 0⟩, ⟨some 47, .call (.c (.fn (.func 127) [] [])) [(.t 45), (.t 46)], none, 0, 0⟩, ⟨some 13, .mv (.t 47), none, 0, 0⟩])
  (.seq (.reg [⟨some 48, .mv (.t 13), none, 0, 0⟩, ⟨some 49, .bin .geq (.t 48) (.c (.int .i64 0)), none, 0, 0⟩])
  (.cond (.t 49) (.seq (.reg [⟨some 50, .mv (.t 11), none, 0, 0⟩, ⟨some 51, .mv (.t 13), none, 0, 0⟩, ⟨some 52, .build [(.int .i64 0), (.int .i64 0)] [(0, 1, (.t 50)), (1, 1, (.t 51))], none, 0, 0⟩, ⟨some 6, .mv (.c .nilp), none, 0, 0⟩, ⟨none, .store 2 (.t 7) (.t 52), none, 0, 0⟩, ⟨some 8, .mv (.c (.bool false)), none, 0, 0⟩])
   .ret)
   (.skip))))
  (.reg [⟨some 53, .mv (.t 9), none, 0, 0⟩, ⟨some 54, .call (.c (.fn (.func 18) [] [])) [(.t 53)], none, 0, 0⟩])))))))
  (.reg [⟨some 55, .bin .add (.t 21) (.c (.int .i64 1)), none, 0, 0⟩, ⟨some 21, .mv (.t 55), none, 0, 0⟩])))))))
 (.seq (.reg [⟨some 56, .mv (.t 9), none, 0, 0⟩, ⟨some 57, .build [(.int .i64 0), (.int .i64 0)] [], none, 0, 0⟩, ⟨some 6, .mv (.t 56), none, 0, 0⟩, ⟨none, .store 2 (.t 7) (.t 57), none, 0, 0⟩, ⟨some 8, .mv (.c (.bool true)), none, 0, 0⟩])
 .ret))))), [.t 6, .cell 7 (some 2), .t 8]⟩
theorem c52 : ∃ fn, Tryz.prog.funcs[52]? = some fn ∧ compFn Tryz.prog fn = some a52 := ⟨_, Tryz.func52, by kernel_rfl⟩
/-- gauger/witness.Passes -/
def a53 : AFunc := ⟨9, (.seq (.reg [⟨some 2, .mv (.c (.bool false)), none, 0, 0⟩])
 (.seq (.seq (.reg [⟨some 3, .mv (.t 0), none, 0, 0⟩])
 (.block 0 (.seq (.seq (.reg [⟨some 5, .bin .eql (.t 3) (.c (.int .i64 1)), none, 0, 0⟩, ⟨some 4, .mv (.t 5), none, 0, 0⟩])
 (.cond (.t 4) (.skip)
  (.seq (.reg [⟨some 6, .bin .eql (.t 3) (.c (.int .i64 5)), none, 0, 0⟩, ⟨some 4, .mv (.t 6), none, 0, 0⟩])
  (.cond (.t 4) (.skip)
   (.seq (.reg [⟨some 7, .bin .eql (.t 3) (.c (.int .i64 8)), none, 0, 0⟩, ⟨some 4, .mv (.t 7), none, 0, 0⟩])
   (.cond (.t 4) (.skip)
    (.reg [⟨some 8, .bin .eql (.t 3) (.c (.int .i64 10)), none, 0, 0⟩, ⟨some 4, .mv (.t 8), none, 0, 0⟩])))))))
 (.cond (.t 4) (.seq (.reg [⟨some 2, .mv (.c (.bool true)), none, 0, 0⟩])
  .ret)
  (.skip)))))
 (.seq (.reg [⟨some 2, .mv (.c (.bool false)), none, 0, 0⟩])
 .ret))), [.t 2]⟩
theorem c53 : ∃ fn, Tryz.prog.funcs[53]? = some fn ∧ compFn Tryz.prog fn = some a53 := ⟨_, Tryz.func53, by kernel_rfl⟩
/-- gauger/witness.Deals -/
def a61 : AFunc := ⟨40, (.seq (.reg [⟨some 2, .mv (.c .nils), none, 0, 0⟩])
 (.seq (.seq (.reg [⟨some 7, .mv (.t 0), none, 0, 0⟩, ⟨some 8, .len 1 (.t 7), none, 0, 0⟩, ⟨some 9, .mv (.c (.int .i64 0)), none, 0, 0⟩])
 (.block 0 (.loop (.seq (.reg [⟨some 10, .bin .lss (.t 9) (.t 8), none, 0, 0⟩])
  (.seq (.cond (.t 10) (.skip)
   (.exit 0))
  (.seq (.block 1 (.seq (.reg [⟨some 11, .idxAddr 22 (.t 7) (.t 9), none, 0, 0⟩, ⟨some 12, .load (some 22) (.t 11), none, 0, 0⟩, ⟨some 4, .alloc [(.int .i64 0), (.int .i64 0), (.int .i64 0), (.int .i64 0), (.int .i64 0), (.int .i64 0), (.int .i64 0), (.int .i64 0), (.str []), (.int .i64 0), (.int .i64 0), (.str []), .nils, (.int .i64 0), (.int .i64 0), (.int .i64 0), (.str []), (.int .i64 0), (.int .i64 0), .nils, .nils, (.int .i64 0)], none, 0, 0⟩, ⟨none, .store 22 (.t 4) (.t 12), none, 0, 0⟩])
  (.seq (.reg [⟨some 13, .fieldAddr 1 (.t 4), none, 0, 0⟩, ⟨some 14, .fieldAddr 1 (.t 13), none, 0, 0⟩, ⟨some 15, .load none (.t 14), none, 0, 0⟩, ⟨some 5, .alloc [(.int .i64 0)], none, 0, 0⟩, ⟨none, .store 1 (.t 5) (.t 15), none, 0, 0⟩])
  (.seq (.seq (.reg [⟨some 16, .load none (.t 5), none, 0, 0⟩, ⟨some 17, .bin .eql (.t 16) (.c (.int .i64 0)), none, 0, 0⟩])
  (.cond (.t 17) (.exit 1)
   (.skip)))
  (.seq (.reg [⟨some 18, .mv (.t 2), none, 0, 0⟩, ⟨some 19, .mkfn (.func 135) [] [(.t 4), (.t 5)], none, 0, 0⟩, ⟨some 20, .call (.c (.fn (.func 134) [] [])) [(.t 18), (.t 19)], none, 0, 0⟩, ⟨some 6, .mv (.t 20), none, 0, 0⟩])
  (.seq (.seq (.reg [⟨some 21, .mv (.t 6), none, 0, 0⟩, ⟨some 22, .bin .lss (.t 21) (.c (.int .i64 0)), none, 0, 0⟩])
  (.cond (.t 22) (.seq (.reg [⟨some 23, .mv (.t 2), none, 0, 0⟩, ⟨some 24, .len 1 (.t 23), none, 0, 0⟩, ⟨some 6, .mv (.t 24), none, 0, 0⟩])
   (.reg [⟨some 25, .mv (.t 2), none, 0, 0⟩, ⟨some 26, .fieldAddr 0 (.t 4), none, 0, 0⟩, ⟨some 27, .load none (.t 26), none, 0, 0⟩, ⟨some 28, .load none (.t 5), none, 0, 0⟩, ⟨some 29, .build [(.int .i64 0), (.int .i64 0), .nils, (.bool false), (.bool false)] [(0, 1, (.t 27)), (1, 1, (.t 28))], none, 0, 0⟩, ⟨some 30, .buildSl [(.int .i64 0), (.int .i64 0), .nils, (.bool false), (.bool false)] 1 [(0, (.t 29))], none, 0, 0⟩, ⟨some 31, .append 5 48 (.t 25) (.t 30), none, 0, 0⟩, ⟨some 2, .mv (.t 31), none, 0, 0⟩]))
   (.skip)))
  (.dreg [⟨some 32, .mv (.t 2), none, 0, 0⟩, ⟨some 33, .mv (.t 6), none, 0, 0⟩, ⟨some 34, .idxAddr 5 (.t 32) (.t 33), none, 0, 0⟩, ⟨some 35, .fieldAddr 1 (.t 4), none, 0, 0⟩, ⟨some 36, .load (some 21) (.t 35), none, 0, 0⟩, ⟨some 37, .call (.c (.fn (.func 136) [] [])) [(.t 34), (.t 36)], none, 0, 0⟩])))))))
  (.reg [⟨some 38, .bin .add (.t 9) (.c (.int .i64 1)), none, 0, 0⟩, ⟨some 9, .mv (.t 38), none, 0, 0⟩])))))))
 (.seq (.reg [⟨some 39, .mv (.t 2), none, 0, 0⟩, ⟨some 2, .mv (.t 39), none, 0, 0⟩])
 .ret))), [.t 2]⟩
theorem c61 : ∃ fn, Tryz.prog.funcs[61]? = some fn ∧ compFn Tryz.prog fn = some a61 := ⟨_, Tryz.func61, by kernel_rfl⟩
/-- gauger/gaugerlaw31.plans -/
def a69 : AFunc := ⟨11, (.seq (.reg [⟨some 0, .alloc [.nils, .nils], none, 0, 0⟩])
 (.seq (.reg [⟨some 1, .buildSl [(.int .i64 0)] 3 [(0, (.c (.int .i64 1))), (1, (.c (.int .i64 1))), (2, (.c (.int .i64 1)))], none, 0, 0⟩, ⟨some 2, .build [.nils] [(0, 1, (.t 1))], none, 0, 0⟩, ⟨some 3, .buildSl [(.int .i64 0)] 1 [(0, (.c (.int .i64 1)))], none, 0, 0⟩, ⟨some 4, .build [.nils] [(0, 1, (.t 3))], none, 0, 0⟩, ⟨some 5, .buildSl [.nils] 2 [(0, (.t 2)), (1, (.t 4))], none, 0, 0⟩, ⟨some 6, .buildSl [(.int .i64 0)] 1 [(0, (.c (.int .i64 2)))], none, 0, 0⟩, ⟨some 7, .build [(.int .i64 0), (.int .i64 0), .nils] [(1, 1, (.c (.int .i64 1))), (2, 1, (.t 6))], none, 0, 0⟩, ⟨some 8, .build [(.int .i64 0), (.int .i64 0), .nils] [(1, 1, (.c (.int .i64 2)))], none, 0, 0⟩, ⟨some 9, .buildSl [(.int .i64 0), (.int .i64 0), .nils] 2 [(0, (.t 7)), (1, (.t 8))], none, 0, 0⟩, ⟨some 10, .build [.nils, .nils] [(0, 1, (.t 5)), (1, 1, (.t 9))], none, 0, 0⟩, ⟨none, .store 2 (.t 0) (.t 10), none, 0, 0⟩])
 .ret)), [.cell 0 (some 2)]⟩
theorem c69 : ∃ fn, Tryz.prog.funcs[69]? = some fn ∧ compFn Tryz.prog fn = some a69 := ⟨_, Tryz.func69, by kernel_rfl⟩
/-- gauger/plan.Good$1 -/
def a72 : AFunc := ⟨6, (.seq (.reg [⟨some 1, .box (.t 0), none, 0, 0⟩, ⟨some 2, .mv (.c (.bool false)), none, 0, 0⟩])
 (.seq (.reg [⟨some 3, .load (some 1) (.t 1), none, 0, 0⟩, ⟨some 4, .call (.c (.fn (.func 73) [] [])) [(.t 3)], none, 0, 0⟩, ⟨some 5, .un .not (.t 4), none, 0, 0⟩, ⟨some 2, .mv (.t 5), none, 0, 0⟩])
 .ret)), [.t 2]⟩
theorem c72 : ∃ fn, Tryz.prog.funcs[72]? = some fn ∧ compFn Tryz.prog fn = some a72 := ⟨_, Tryz.func72, by kernel_rfl⟩
/-- gauger/plan.isTable -/
def a73 : AFunc := ⟨21, (.seq (.reg [⟨some 1, .box (.t 0), none, 0, 0⟩, ⟨some 2, .mv (.c (.bool false)), none, 0, 0⟩])
 (.seq (.reg [⟨some 3, .mv (.c (.fn (.func 143) [] [])), none, 0, 0⟩])
 (.seq (.reg [⟨some 4, .fieldAddr 0 (.t 1), none, 0, 0⟩, ⟨some 5, .load none (.t 4), none, 0, 0⟩, ⟨some 6, .len 1 (.t 5), none, 0, 0⟩, ⟨some 7, .bin .geq (.t 6) (.c (.int .i64 1)), none, 0, 0⟩, ⟨some 8, .mv (.t 7), none, 0, 0⟩, ⟨some 9, .fieldAddr 0 (.t 1), (some (8, true)), 0, 0⟩, ⟨some 10, .load none (.t 9), (some (8, true)), 0, 0⟩, ⟨some 11, .len 1 (.t 10), (some (8, true)), 0, 0⟩, ⟨some 12, .bin .leq (.t 11) (.c (.int .i64 4)), (some (8, true)), 0, 0⟩, ⟨some 13, .pick (.t 8) (.t 12) (.c (.bool false)), none, 0, 0⟩, ⟨some 14, .mv (.t 13), none, 0, 0⟩, ⟨some 15, .fieldAddr 0 (.t 1), (some (14, true)), 0, 0⟩, ⟨some 16, .load none (.t 15), (some (14, true)), 0, 0⟩, ⟨some 17, .mv (.t 3), (some (14, true)), 0, 0⟩, ⟨some 18, .call (.c (.fn (.func 144) [] [])) [(.t 16), (.t 17)], (some (14, true)), 0, 0⟩, ⟨some 19, .un .not (.t 18), (some (14, true)), 0, 0⟩, ⟨some 20, .pick (.t 14) (.t 19) (.c (.bool false)), none, 0, 0⟩, ⟨some 2, .mv (.t 20), none, 0, 0⟩])
 .ret))), [.t 2]⟩
theorem c73 : ∃ fn, Tryz.prog.funcs[73]? = some fn ∧ compFn Tryz.prog fn = some a73 := ⟨_, Tryz.func73, by kernel_rfl⟩
/-- gauger/plan.Good$2 -/
def a74 : AFunc := ⟨9, (.seq (.reg [⟨some 2, .box (.t 0), none, 0, 0⟩, ⟨some 3, .mv (.c (.bool false)), none, 0, 0⟩])
 (.seq (.reg [⟨some 4, .load (some 3) (.t 2), none, 0, 0⟩, ⟨some 5, .fieldAddr 0 (.t 1), none, 0, 0⟩, ⟨some 6, .load none (.t 5), none, 0, 0⟩, ⟨some 7, .call (.c (.fn (.func 75) [] [])) [(.t 4), (.t 6)], none, 0, 0⟩, ⟨some 8, .un .not (.t 7), none, 0, 0⟩, ⟨some 3, .mv (.t 8), none, 0, 0⟩])
 .ret)), [.t 3]⟩
theorem c74 : ∃ fn, Tryz.prog.funcs[74]? = some fn ∧ compFn Tryz.prog fn = some a74 := ⟨_, Tryz.func74, by kernel_rfl⟩
/-- gauger/plan.isView -/
def a75 : AFunc := ⟨66, (.seq (.reg [⟨some 2, .box (.t 0), none, 0, 0⟩, ⟨some 4, .mv (.c (.bool false)), none, 0, 0⟩])
 (.seq (.seq (.reg [⟨some 9, .fieldAddr 0 (.t 2), none, 0, 0⟩, ⟨some 10, .load none (.t 9), none, 0, 0⟩, ⟨some 11, .bin .lss (.t 10) (.c (.int .i64 0)), none, 0, 0⟩, ⟨some 12, .mv (.t 11), none, 0, 0⟩, ⟨some 13, .fieldAddr 0 (.t 2), (some (12, false)), 0, 0⟩, ⟨some 14, .load none (.t 13), (some (12, false)), 0, 0⟩, ⟨some 15, .mv (.t 1), (some (12, false)), 0, 0⟩, ⟨some 16, .len 1 (.t 15), (some (12, false)), 0, 0⟩, ⟨some 17, .bin .geq (.t 14) (.t 16), (some (12, false)), 0, 0⟩, ⟨some 18, .pick (.t 12) (.c (.bool true)) (.t 17), none, 0, 0⟩, ⟨some 19, .mv (.t 18), none, 0, 0⟩, ⟨some 20, .fieldAddr 2 (.t 2), (some (19, false)), 0, 0⟩, ⟨some 21, .load none (.t 20), (some (19, false)), 0, 0⟩, ⟨some 22, .len 1 (.t 21), (some (19, false)), 0, 0⟩, ⟨some 23, .bin .gtr (.t 22) (.c (.int .i64 2)), (some (19, false)), 0, 0⟩, ⟨some 24, .pick (.t 19) (.c (.bool true)) (.t 23), none, 0, 0⟩])
 (.cond (.t 24) (.seq (.reg [⟨some 4, .mv (.c (.bool false)), none, 0, 0⟩])
  .ret)
  (.skip)))
 (.seq (.reg [⟨some 25, .mv (.t 1), none, 0, 0⟩, ⟨some 26, .fieldAddr 0 (.t 2), none, 0, 0⟩, ⟨some 27, .load none (.t 26), none, 0, 0⟩, ⟨some 28, .idxAddr 1 (.t 25) (.t 27), none, 0, 0⟩, ⟨some 29, .fieldAddr 0 (.t 28), none, 0, 0⟩, ⟨some 30, .load none (.t 29), none, 0, 0⟩, ⟨some 5, .mv (.t 30), none, 0, 0⟩])
 (.seq (.reg [⟨some 6, .mv (.c (.int .i64 (-1))), none, 0, 0⟩])
 (.seq (.seq (.reg [⟨some 31, .fieldAddr 2 (.t 2), none, 0, 0⟩, ⟨some 32, .load none (.t 31), none, 0, 0⟩, ⟨some 33, .len 1 (.t 32), none, 0, 0⟩, ⟨some 34, .mv (.c (.int .i64 0)), none, 0, 0⟩])
 (.block 0 (.loop (.seq (.reg [⟨some 35, .bin .lss (.t 34) (.t 33), none, 0, 0⟩])
  (.seq (.cond (.t 35) (.skip)
   (.exit 0))
  (.seq (.block 1 (.seq (.reg [⟨some 36, .idxAddr 1 (.t 32) (.t 34), none, 0, 0⟩, ⟨some 37, .load none (.t 36), none, 0, 0⟩, ⟨some 8, .mv (.t 37), none, 0, 0⟩])
  (.seq (.seq (.reg [⟨some 38, .mv (.t 8), none, 0, 0⟩, ⟨some 39, .mv (.t 6), none, 0, 0⟩, ⟨some 40, .bin .leq (.t 38) (.t 39), none, 0, 0⟩, ⟨some 41, .mv (.t 40), none, 0, 0⟩, ⟨some 42, .mv (.t 8), (some (41, false)), 0, 0⟩, ⟨some 43, .mv (.t 5), (some (41, false)), 0, 0⟩, ⟨some 44, .len 1 (.t 43), (some (41, false)), 0, 0⟩, ⟨some 45, .bin .geq (.t 42) (.t 44), (some (41, false)), 0, 0⟩, ⟨some 46, .pick (.t 41) (.c (.bool true)) (.t 45), none, 0, 0⟩, ⟨some 47, .mv (.t 46), none, 0, 0⟩, ⟨some 48, .mv (.t 5), (some (47, false)), 0, 0⟩, ⟨some 49, .mv (.t 8), (some (47, false)), 0, 0⟩, ⟨some 50, .idxAddr 1 (.t 48) (.t 49), (some (47, false)), 0, 0⟩, ⟨some 51, .load none (.t 50), (some (47, false)), 0, 0⟩, ⟨some 52, .bin .neq (.t 51) (.c (.int .i64 1)), (some (47, false)), 0, 0⟩, ⟨some 53, .pick (.t 47) (.c (.bool true)) (.t 52), none, 0, 0⟩])
  (.cond (.t 53) (.seq (.reg [⟨some 4, .mv (.c (.bool false)), none, 0, 0⟩])
   .ret)
   (.skip)))
  (.reg [⟨some 54, .mv (.t 8), none, 0, 0⟩, ⟨some 6, .mv (.t 54), none, 0, 0⟩]))))
  (.reg [⟨some 55, .bin .add (.t 34) (.c (.int .i64 1)), none, 0, 0⟩, ⟨some 34, .mv (.t 55), none, 0, 0⟩])))))))
 (.seq (.reg [⟨some 56, .fieldAddr 1 (.t 2), none, 0, 0⟩, ⟨some 57, .load none (.t 56), none, 0, 0⟩, ⟨some 58, .bin .geq (.t 57) (.c (.int .i64 0)), none, 0, 0⟩, ⟨some 59, .mv (.t 58), none, 0, 0⟩, ⟨some 60, .fieldAddr 1 (.t 2), (some (59, true)), 0, 0⟩, ⟨some 61, .load none (.t 60), (some (59, true)), 0, 0⟩, ⟨some 62, .mv (.t 5), (some (59, true)), 0, 0⟩, ⟨some 63, .len 1 (.t 62), (some (59, true)), 0, 0⟩, ⟨some 64, .bin .lss (.t 61) (.t 63), (some (59, true)), 0, 0⟩, ⟨some 65, .pick (.t 59) (.t 64) (.c (.bool false)), none, 0, 0⟩, ⟨some 4, .mv (.t 65), none, 0, 0⟩])
 .ret)))))), [.t 4]⟩
theorem c75 : ∃ fn, Tryz.prog.funcs[75]? = some fn ∧ compFn Tryz.prog fn = some a75 := ⟨_, Tryz.func75, by kernel_rfl⟩
/-- slices.ContainsFunc[[]gauger/api.Table,gauger/api.Table] -/
def a76 : AFunc := ⟨9, (.seq (.reg [⟨some 4, .mv (.c (.bool false)), none, 0, 0⟩])
 (.seq (.reg [⟨some 5, .mv (.t 0), none, 0, 0⟩, ⟨some 6, .mv (.t 1), none, 0, 0⟩, ⟨some 7, .call (.c (.fn (.func 145) [] [])) [(.t 5), (.t 6)], none, 0, 0⟩, ⟨some 8, .bin .geq (.t 7) (.c (.int .i64 0)), none, 0, 0⟩, ⟨some 4, .mv (.t 8), none, 0, 0⟩])
 .ret)), [.t 4]⟩
theorem c76 : ∃ fn, Tryz.prog.funcs[76]? = some fn ∧ compFn Tryz.prog fn = some a76 := ⟨_, Tryz.func76, by kernel_rfl⟩
/-- slices.ContainsFunc[[]gauger/api.View,gauger/api.View] -/
def a77 : AFunc := ⟨9, (.seq (.reg [⟨some 4, .mv (.c (.bool false)), none, 0, 0⟩])
 (.seq (.reg [⟨some 5, .mv (.t 0), none, 0, 0⟩, ⟨some 6, .mv (.t 1), none, 0, 0⟩, ⟨some 7, .call (.c (.fn (.func 146) [] [])) [(.t 5), (.t 6)], none, 0, 0⟩, ⟨some 8, .bin .geq (.t 7) (.c (.int .i64 0)), none, 0, 0⟩, ⟨some 4, .mv (.t 8), none, 0, 0⟩])
 .ret)), [.t 4]⟩
theorem c77 : ∃ fn, Tryz.prog.funcs[77]? = some fn ∧ compFn Tryz.prog fn = some a77 := ⟨_, Tryz.func77, by kernel_rfl⟩
/-- (gauger/model.tables).copied -/
def a79 : AFunc := ⟨23, (.seq (.reg [⟨some 2, .mv (.c .nils), none, 0, 0⟩])
 (.seq (.reg [⟨some 6, .mv (.t 0), none, 0, 0⟩, ⟨some 7, .len 1 (.t 6), none, 0, 0⟩, ⟨some 8, .mksl [.nils] 24 (.t 7) (.t 7), none, 0, 0⟩, ⟨some 3, .mv (.t 8), none, 0, 0⟩])
 (.seq (.seq (.reg [⟨some 9, .mv (.t 0), none, 0, 0⟩, ⟨some 10, .len 1 (.t 9), none, 0, 0⟩, ⟨some 11, .mv (.c (.int .i64 0)), none, 0, 0⟩])
 (.block 0 (.loop (.seq (.reg [⟨some 12, .bin .lss (.t 11) (.t 10), none, 0, 0⟩])
  (.seq (.cond (.t 12) (.skip)
   (.exit 0))
  (.seq (.block 1 (.seq (.reg [⟨some 13, .mv (.t 11), none, 0, 0⟩, ⟨some 14, .idxAddr 1 (.t 9) (.t 11), none, 0, 0⟩, ⟨some 15, .load none (.t 14), none, 0, 0⟩, ⟨some 4, .mv (.t 13), none, 0, 0⟩, ⟨some 5, .mv (.t 15), none, 0, 0⟩])
  (.reg [⟨some 16, .mv (.t 3), none, 0, 0⟩, ⟨some 17, .mv (.t 4), none, 0, 0⟩, ⟨some 18, .mv (.t 5), none, 0, 0⟩, ⟨some 19, .call (.c (.fn (.func 147) [] [])) [(.t 18)], none, 0, 0⟩, ⟨some 20, .idxAddr 1 (.t 16) (.t 17), none, 0, 0⟩, ⟨none, .store 1 (.t 20) (.t 19), none, 0, 0⟩])))
  (.reg [⟨some 21, .bin .add (.t 11) (.c (.int .i64 1)), none, 0, 0⟩, ⟨some 11, .mv (.t 21), none, 0, 0⟩])))))))
 (.seq (.reg [⟨some 22, .mv (.t 3), none, 0, 0⟩, ⟨some 2, .mv (.t 22), none, 0, 0⟩])
 .ret)))), [.t 2]⟩
theorem c79 : ∃ fn, Tryz.prog.funcs[79]? = some fn ∧ compFn Tryz.prog fn = some a79 := ⟨_, Tryz.func79, by kernel_rfl⟩
/-- (*gauger/model.DB).end -/
def a81 : AFunc := ⟨29, (.seq (.reg [⟨some 4, .mv (.c (.int .i64 0)), none, 0, 0⟩])
 (.seq (.block 0 (.seq (.reg [⟨some 6, .mv (.t 0), none, 0, 0⟩, ⟨some 7, .isNil 0 false (.t 6), none, 0, 0⟩, ⟨some 5, .mv (.t 7), none, 0, 0⟩])
 (.cond (.t 5) (.seq (.reg [⟨some 4, .mv (.c (.int .i64 2)), none, 0, 0⟩])
  .ret)
  (.seq (.reg [⟨some 9, .mv (.t 0), none, 0, 0⟩, ⟨some 10, .nilck (.t 9), none, 0, 0⟩, ⟨some 11, .fieldAddr 4 (.t 10), none, 0, 0⟩, ⟨some 12, .load none (.t 11), none, 0, 0⟩, ⟨some 13, .isNil 1 false (.t 12), none, 0, 0⟩, ⟨some 8, .mv (.t 13), none, 0, 0⟩])
  (.cond (.t 8) (.seq (.reg [⟨some 4, .mv (.c (.int .i64 13)), none, 0, 0⟩])
   .ret)
   (.skip))))))
 (.seq (.seq (.reg [⟨some 14, .mv (.t 1), none, 0, 0⟩, ⟨some 15, .un .not (.t 14), none, 0, 0⟩])
 (.cond (.t 15) (.reg [⟨some 16, .mv (.t 0), none, 0, 0⟩, ⟨some 17, .mv (.t 0), none, 0, 0⟩, ⟨some 18, .nilck (.t 17), none, 0, 0⟩, ⟨some 19, .fieldAddr 4 (.t 18), none, 0, 0⟩, ⟨some 20, .load none (.t 19), none, 0, 0⟩, ⟨some 21, .nilck (.t 16), none, 0, 0⟩, ⟨some 22, .fieldAddr 3 (.t 21), none, 0, 0⟩, ⟨none, .store 1 (.t 22) (.t 20), none, 0, 0⟩])
  (.skip)))
 (.seq (.reg [⟨some 23, .mv (.t 0), none, 0, 0⟩, ⟨some 24, .mv (.t 0), none, 0, 0⟩, ⟨some 25, .nilck (.t 23), none, 0, 0⟩, ⟨some 26, .fieldAddr 4 (.t 25), none, 0, 0⟩, ⟨none, .store 1 (.t 26) (.c .nils), none, 0, 0⟩, ⟨some 27, .nilck (.t 24), none, 0, 0⟩, ⟨some 28, .fieldAddr 5 (.t 27), none, 0, 0⟩, ⟨none, .store 1 (.t 28) (.c .nils), none, 0, 0⟩])
 (.seq (.reg [⟨some 4, .mv (.c (.int .i64 0)), none, 0, 0⟩])
 .ret))))), [.t 4]⟩
theorem c81 : ∃ fn, Tryz.prog.funcs[81]? = some fn ∧ compFn Tryz.prog fn = some a81 := ⟨_, Tryz.func81, by kernel_rfl⟩
/-- gauger/wish.Good -/
def a83 : AFunc := ⟨26, (.seq (.reg [⟨some 2, .box (.t 0), none, 0, 0⟩, ⟨some 3, .box (.t 1), none, 0, 0⟩, ⟨some 4, .mv (.c (.bool false)), none, 0, 0⟩])
 (.seq (.seq (.reg [⟨some 5, .fieldAddr 0 (.t 3), none, 0, 0⟩, ⟨some 6, .load none (.t 5), none, 0, 0⟩])
 (.block 0 (.seq (.seq (.reg [⟨some 8, .bin .eql (.t 6) (.c (.int .i64 6)), none, 0, 0⟩, ⟨some 7, .mv (.t 8), none, 0, 0⟩])
 (.cond (.t 7) (.skip)
  (.reg [⟨some 9, .bin .eql (.t 6) (.c (.int .i64 7)), none, 0, 0⟩, ⟨some 7, .mv (.t 9), none, 0, 0⟩])))
 (.cond (.t 7) (.seq (.reg [⟨some 10, .load (some 2) (.t 2), none, 0, 0⟩, ⟨some 11, .load (some 14) (.t 3), none, 0, 0⟩, ⟨some 12, .call (.c (.fn (.func 148) [] [])) [(.t 10), (.t 11)], none, 0, 0⟩, ⟨some 4, .mv (.t 12), none, 0, 0⟩])
  .ret)
  (.seq (.seq (.reg [⟨some 14, .bin .eql (.t 6) (.c (.int .i64 8)), none, 0, 0⟩, ⟨some 13, .mv (.t 14), none, 0, 0⟩])
  (.cond (.t 13) (.skip)
   (.reg [⟨some 15, .bin .eql (.t 6) (.c (.int .i64 9)), none, 0, 0⟩, ⟨some 13, .mv (.t 15), none, 0, 0⟩])))
  (.cond (.t 13) (.seq (.reg [⟨some 4, .mv (.c (.bool true)), none, 0, 0⟩])
   .ret)
   (.seq (.seq (.reg [⟨some 17, .bin .eql (.t 6) (.c (.int .i64 1)), none, 0, 0⟩, ⟨some 16, .mv (.t 17), none, 0, 0⟩])
   (.cond (.t 16) (.skip)
    (.seq (.reg [⟨some 18, .bin .eql (.t 6) (.c (.int .i64 2)), none, 0, 0⟩, ⟨some 16, .mv (.t 18), none, 0, 0⟩])
    (.cond (.t 16) (.skip)
     (.seq (.reg [⟨some 19, .bin .eql (.t 6) (.c (.int .i64 3)), none, 0, 0⟩, ⟨some 16, .mv (.t 19), none, 0, 0⟩])
     (.cond (.t 16) (.skip)
      (.seq (.reg [⟨some 20, .bin .eql (.t 6) (.c (.int .i64 4)), none, 0, 0⟩, ⟨some 16, .mv (.t 20), none, 0, 0⟩])
      (.cond (.t 16) (.skip)
       (.seq (.reg [⟨some 21, .bin .eql (.t 6) (.c (.int .i64 5)), none, 0, 0⟩, ⟨some 16, .mv (.t 21), none, 0, 0⟩])
       (.cond (.t 16) (.skip)
        (.reg [⟨some 22, .bin .eql (.t 6) (.c (.int .i64 10)), none, 0, 0⟩, ⟨some 16, .mv (.t 22), none, 0, 0⟩])))))))))))
   (.cond (.t 16) (.seq (.reg [⟨some 23, .load (some 2) (.t 2), none, 0, 0⟩, ⟨some 24, .load (some 14) (.t 3), none, 0, 0⟩, ⟨some 25, .call (.c (.fn (.func 149) [] [])) [(.t 23), (.t 24)], none, 0, 0⟩, ⟨some 4, .mv (.t 25), none, 0, 0⟩])
    .ret)
    (.skip)))))))))
 (.seq (.reg [⟨some 4, .mv (.c (.bool false)), none, 0, 0⟩])
 .ret))), [.t 4]⟩
theorem c83 : ∃ fn, Tryz.prog.funcs[83]? = some fn ∧ compFn Tryz.prog fn = some a83 := ⟨_, Tryz.func83, by kernel_rfl⟩
/-- (*gauger/model.DB).insert -/
def a84 : AFunc := ⟨39, (.seq (.reg [⟨some 3, .box (.t 1), none, 0, 0⟩, ⟨some 4, .alloc [(.int .i64 0), .nils, .nils, (.int .i64 0)], none, 0, 0⟩])
 (.seq (.dreg [⟨some 8, .mv (.t 0), none, 0, 0⟩, ⟨some 9, .fieldAddr 1 (.t 3), none, 0, 0⟩, ⟨some 10, .load none (.t 9), none, 0, 0⟩, ⟨some 11, .fieldAddr 8 (.t 3), none, 0, 0⟩, ⟨some 12, .load none (.t 11), none, 0, 0⟩, ⟨some 13, .idxAddr 3 (.t 12) (.c (.int .i64 0)), none, 0, 0⟩, ⟨some 14, .load (some 3) (.t 13), none, 0, 0⟩, ⟨some 15, .call (.c (.fn (.func 150) [] [])) [(.t 8), (.t 10), (.t 14)], none, 0, 0⟩, ⟨some 7, .mv (.t 15), none, 1, 1⟩, ⟨some 16, .extract (.t 7) 0, none, 1, 1⟩, ⟨some 17, .extract (.t 7) 1, none, 1, 1⟩, ⟨some 5, .mv (.t 16), none, 1, 1⟩, ⟨some 6, .mv (.t 17), none, 1, 1⟩])
 (.seq (.seq (.reg [⟨some 18, .mv (.t 6), none, 0, 0⟩])
 (.cond (.t 18) (.seq (.reg [⟨some 19, .build [(.int .i64 0), .nils, .nils, (.int .i64 0)] [(0, 1, (.c (.int .i64 6)))], none, 0, 0⟩, ⟨none, .store 4 (.t 4) (.t 19), none, 0, 0⟩])
  .ret)
  (.skip)))
 (.seq (.dreg [⟨some 20, .mv (.t 0), none, 0, 4⟩, ⟨some 21, .fieldAddr 1 (.t 3), none, 0, 4⟩, ⟨some 22, .load none (.t 21), none, 0, 4⟩, ⟨some 23, .mv (.t 0), none, 0, 0⟩, ⟨some 24, .nilck (.t 23), none, 0, 0⟩, ⟨some 25, .fieldAddr 3 (.t 24), none, 0, 0⟩, ⟨some 26, .load none (.t 25), none, 0, 0⟩, ⟨some 27, .fieldAddr 1 (.t 3), none, 0, 0⟩, ⟨some 28, .load none (.t 27), none, 0, 0⟩, ⟨some 29, .idxAddr 1 (.t 26) (.t 28), none, 0, 0⟩, ⟨some 30, .load none (.t 29), none, 0, 0⟩, ⟨some 31, .call (.c (.fn (.func 147) [] [])) [(.t 30)], none, 0, 0⟩, ⟨some 32, .mv (.t 5), none, 0, 3⟩, ⟨some 33, .fieldAddr 8 (.t 3), none, 0, 1⟩, ⟨some 34, .load none (.t 33), none, 0, 1⟩, ⟨some 35, .call (.c (.fn (.func 92) [] [])) [(.t 34)], none, 0, 0⟩, ⟨some 36, .buildSl [.nils] 1 [(0, (.t 35))], none, 0, 0⟩, ⟨some 37, .call (.c (.fn (.func 152) [] [])) [(.t 31), (.t 32), (.t 36)], none, 0, 0⟩, ⟨some 38, .call (.c (.fn (.func 151) [] [])) [(.t 20), (.t 22), (.t 37)], none, 0, 0⟩, ⟨none, .store 4 (.t 4) (.t 38), none, 0, 0⟩])
 .ret)))), [.cell 4 (some 4)]⟩
theorem c84 : ∃ fn, Tryz.prog.funcs[84]? = some fn ∧ compFn Tryz.prog fn = some a84 := ⟨_, Tryz.func84, by kernel_rfl⟩
/-- (*gauger/model.DB).change -/
def a85 : AFunc := ⟨63, (.seq (.reg [⟨some 3, .box (.t 1), none, 0, 0⟩, ⟨some 4, .alloc [(.int .i64 0), .nils, .nils, (.int .i64 0)], none, 0, 0⟩])
 (.seq (.reg [⟨some 9, .mv (.t 0), none, 0, 0⟩, ⟨some 10, .fieldAddr 1 (.t 3), none, 0, 0⟩, ⟨some 11, .load none (.t 10), none, 0, 0⟩, ⟨some 12, .fieldAddr 2 (.t 3), none, 0, 0⟩, ⟨some 13, .load (some 3) (.t 12), none, 0, 0⟩, ⟨some 14, .call (.c (.fn (.func 150) [] [])) [(.t 9), (.t 11), (.t 13)], none, 0, 0⟩, ⟨some 8, .mv (.t 14), none, 0, 0⟩, ⟨some 15, .extract (.t 8) 0, none, 0, 0⟩, ⟨some 16, .extract (.t 8) 1, none, 0, 0⟩, ⟨some 5, .mv (.t 15), none, 0, 0⟩, ⟨some 6, .mv (.t 16), none, 0, 0⟩])
 (.seq (.seq (.reg [⟨some 17, .mv (.t 6), none, 0, 0⟩, ⟨some 18, .un .not (.t 17), none, 0, 0⟩])
 (.cond (.t 18) (.seq (.reg [⟨some 19, .build [(.int .i64 0), .nils, .nils, (.int .i64 0)] [(0, 1, (.c (.int .i64 7)))], none, 0, 0⟩, ⟨none, .store 4 (.t 4) (.t 19), none, 0, 0⟩])
  .ret)
  (.skip)))
 (.seq (.dreg [⟨some 20, .mv (.t 0), none, 0, 0⟩, ⟨some 21, .nilck (.t 20), none, 0, 0⟩, ⟨some 22, .fieldAddr 3 (.t 21), none, 0, 0⟩, ⟨some 23, .load none (.t 22), none, 0, 0⟩, ⟨some 24, .fieldAddr 1 (.t 3), none, 0, 0⟩, ⟨some 25, .load none (.t 24), none, 0, 0⟩, ⟨some 26, .idxAddr 1 (.t 23) (.t 25), none, 0, 0⟩, ⟨some 27, .load none (.t 26), none, 0, 0⟩, ⟨some 28, .call (.c (.fn (.func 147) [] [])) [(.t 27)], none, 0, 0⟩, ⟨some 7, .mv (.t 28), none, 1, 1⟩])
 (.seq (.seq (.reg [⟨some 29, .fieldAddr 0 (.t 3), none, 0, 0⟩, ⟨some 30, .load none (.t 29), none, 0, 0⟩, ⟨some 31, .bin .eql (.t 30) (.c (.int .i64 2)), none, 0, 0⟩])
 (.cond (.t 31) (.seq (.dreg [⟨some 32, .mv (.t 0), none, 0, 1⟩, ⟨some 33, .fieldAddr 1 (.t 3), none, 0, 1⟩, ⟨some 34, .load none (.t 33), none, 0, 1⟩, ⟨some 35, .mv (.t 7), none, 0, 0⟩, ⟨some 36, .mv (.t 5), none, 0, 0⟩, ⟨some 37, .mv (.t 5), none, 0, 0⟩, ⟨some 38, .bin .add (.t 37) (.c (.int .i64 1)), none, 0, 0⟩, ⟨some 39, .call (.c (.fn (.func 153) [] [])) [(.t 35), (.t 36), (.t 38)], none, 0, 0⟩, ⟨some 40, .call (.c (.fn (.func 151) [] [])) [(.t 32), (.t 34), (.t 39)], none, 0, 0⟩, ⟨none, .store 4 (.t 4) (.t 40), none, 0, 0⟩])
  .ret)
  (.skip)))
 (.seq (.reg [⟨some 41, .mv (.t 7), none, 0, 0⟩, ⟨some 42, .mv (.t 5), none, 0, 0⟩, ⟨some 43, .mv (.t 7), none, 0, 0⟩, ⟨some 44, .mv (.t 5), none, 0, 0⟩, ⟨some 45, .idxAddr 1 (.t 43) (.t 44), none, 0, 0⟩, ⟨some 46, .load none (.t 45), none, 0, 0⟩, ⟨some 47, .call (.c (.fn (.func 92) [] [])) [(.t 46)], none, 0, 0⟩, ⟨some 48, .idxAddr 1 (.t 41) (.t 42), none, 0, 0⟩, ⟨none, .store 1 (.t 48) (.t 47), none, 0, 0⟩])
 (.seq (.dreg [⟨some 49, .mv (.t 7), none, 0, 0⟩, ⟨some 50, .mv (.t 5), none, 0, 0⟩, ⟨some 51, .idxAddr 1 (.t 49) (.t 50), none, 0, 0⟩, ⟨some 52, .load none (.t 51), none, 0, 0⟩, ⟨some 53, .fieldAddr 9 (.t 3), none, 0, 0⟩, ⟨some 54, .load none (.t 53), none, 0, 0⟩, ⟨some 55, .fieldAddr 10 (.t 3), none, 0, 0⟩, ⟨some 56, .load (some 3) (.t 55), none, 0, 0⟩, ⟨some 57, .idxAddr 3 (.t 52) (.t 54), none, 0, 0⟩, ⟨none, .store 3 (.t 57) (.t 56), none, 0, 0⟩])
 (.seq (.reg [⟨some 58, .mv (.t 0), none, 0, 0⟩, ⟨some 59, .fieldAddr 1 (.t 3), none, 0, 0⟩, ⟨some 60, .load none (.t 59), none, 0, 0⟩, ⟨some 61, .mv (.t 7), none, 0, 0⟩, ⟨some 62, .call (.c (.fn (.func 151) [] [])) [(.t 58), (.t 60), (.t 61)], none, 0, 0⟩, ⟨none, .store 4 (.t 4) (.t 62), none, 0, 0⟩])
 .ret)))))))), [.cell 4 (some 4)]⟩
theorem c85 : ∃ fn, Tryz.prog.funcs[85]? = some fn ∧ compFn Tryz.prog fn = some a85 := ⟨_, Tryz.func85, by kernel_rfl⟩
/-- (*gauger/model.DB).rows -/
def a86 : AFunc := ⟨38, (.seq (.reg [⟨some 6, .box (.t 2), none, 0, 0⟩, ⟨some 7, .box (.t 3), none, 0, 0⟩, ⟨some 8, .alloc [(.int .i64 0), .nils, .nils, (.int .i64 0)], none, 0, 0⟩])
 (.seq (.seq (.reg [⟨some 11, .mv (.t 0), none, 0, 0⟩, ⟨some 12, .nilck (.t 11), none, 0, 0⟩, ⟨some 13, .fieldAddr 3 (.t 12), none, 0, 0⟩, ⟨some 14, .load none (.t 13), none, 0, 0⟩, ⟨some 15, .mv (.t 1), none, 0, 0⟩, ⟨some 16, .idxAddr 1 (.t 14) (.t 15), none, 0, 0⟩, ⟨some 17, .load none (.t 16), none, 0, 0⟩, ⟨some 18, .len 1 (.t 17), none, 0, 0⟩, ⟨some 19, .mv (.c (.int .i64 0)), none, 0, 0⟩])
 (.block 0 (.loop (.seq (.reg [⟨some 20, .bin .lss (.t 19) (.t 18), none, 0, 0⟩])
  (.seq (.cond (.t 20) (.skip)
   (.exit 0))
  (.seq (.block 1 (.seq (.reg [⟨some 21, .idxAddr 1 (.t 17) (.t 19), none, 0, 0⟩, ⟨some 22, .load none (.t 21), none, 0, 0⟩, ⟨some 10, .mv (.t 22), none, 0, 0⟩])
  (.seq (.dreg [⟨some 23, .mv (.t 10), none, 0, 0⟩, ⟨some 24, .idxAddr 3 (.t 23) (.c (.int .i64 0)), none, 0, 0⟩, ⟨some 25, .load (some 3) (.t 24), none, 0, 0⟩, ⟨some 26, .load (some 3) (.t 6), none, 0, 0⟩, ⟨some 27, .load (some 3) (.t 7), none, 0, 0⟩, ⟨some 28, .call (.c (.fn (.func 154) [] [])) [(.t 25), (.t 26), (.t 27)], none, 0, 0⟩])
  (.cond (.t 28) (.dreg [⟨some 29, .fieldAddr 1 (.t 8), none, 0, 2⟩, ⟨some 30, .load none (.t 29), none, 0, 2⟩, ⟨some 31, .mv (.t 10), none, 0, 0⟩, ⟨some 32, .call (.c (.fn (.func 92) [] [])) [(.t 31)], none, 0, 0⟩, ⟨some 33, .buildSl [.nils] 1 [(0, (.t 32))], none, 0, 0⟩, ⟨some 34, .append 1 24 (.t 30) (.t 33), none, 0, 0⟩, ⟨some 35, .fieldAddr 1 (.t 8), none, 3, 3⟩, ⟨none, .store 1 (.t 35) (.t 34), none, 0, 0⟩])
   (.skip)))))
  (.reg [⟨some 36, .bin .add (.t 19) (.c (.int .i64 1)), none, 0, 0⟩, ⟨some 19, .mv (.t 36), none, 0, 0⟩])))))))
 (.seq (.reg [⟨some 37, .load (some 4) (.t 8), none, 0, 0⟩, ⟨none, .store 4 (.t 8) (.t 37), none, 0, 0⟩])
 .ret))), [.cell 8 (some 4)]⟩
theorem c86 : ∃ fn, Tryz.prog.funcs[86]? = some fn ∧ compFn Tryz.prog fn = some a86 := ⟨_, Tryz.func86, by kernel_rfl⟩
/-- (*gauger/model.DB).sums -/
def a87 : AFunc := ⟨71, (.seq (.reg [⟨some 6, .box (.t 2), none, 0, 0⟩, ⟨some 7, .box (.t 3), none, 0, 0⟩, ⟨some 8, .alloc [(.int .i64 0), .nils, .nils, (.int .i64 0)], none, 0, 0⟩])
 (.seq (.seq (.reg [⟨some 16, .mv (.t 0), none, 0, 0⟩, ⟨some 17, .mv (.t 1), none, 0, 0⟩, ⟨some 18, .call (.c (.fn (.func 29) [] [])) [(.t 16), (.t 17)], none, 0, 0⟩, ⟨some 19, .len 1 (.t 18), none, 0, 0⟩, ⟨some 20, .mv (.c (.int .i64 0)), none, 0, 0⟩])
 (.block 0 (.loop (.seq (.reg [⟨some 21, .bin .lss (.t 20) (.t 19), none, 0, 0⟩])
  (.seq (.cond (.t 21) (.skip)
   (.exit 0))
  (.seq (.block 1 (.seq (.reg [⟨some 22, .idxAddr 4 (.t 18) (.t 20), none, 0, 0⟩, ⟨some 23, .load (some 4) (.t 22), none, 0, 0⟩, ⟨some 10, .alloc [(.str []), (.int .i64 0), (.int .u64 0), .nils], none, 0, 0⟩, ⟨none, .store 4 (.t 10) (.t 23), none, 0, 0⟩])
  (.seq (.reg [⟨some 25, .fieldAddr 0 (.t 10), none, 0, 0⟩, ⟨some 26, .load none (.t 25), none, 0, 0⟩, ⟨some 27, .call (.c (.fn (.func 155) [] [])) [(.t 26)], none, 0, 0⟩, ⟨some 24, .mv (.t 27), none, 0, 0⟩, ⟨some 28, .extract (.t 24) 0, none, 0, 0⟩, ⟨some 29, .extract (.t 24) 1, none, 0, 0⟩, ⟨some 11, .alloc [(.int .i64 0), (.int .i64 0), (.str [])], none, 0, 0⟩, ⟨none, .store 3 (.t 11) (.t 28), none, 0, 0⟩, ⟨some 12, .mv (.t 29), none, 0, 0⟩])
  (.seq (.seq (.reg [⟨some 30, .mv (.t 12), none, 0, 0⟩, ⟨some 31, .bin .neq (.t 30) (.c (.int .i64 0)), none, 0, 0⟩, ⟨some 32, .mv (.t 31), none, 0, 0⟩, ⟨some 33, .load (some 3) (.t 11), (some (32, false)), 0, 0⟩, ⟨some 34, .load (some 3) (.t 6), (some (32, false)), 0, 0⟩, ⟨some 35, .load (some 3) (.t 7), (some (32, false)), 0, 0⟩, ⟨some 36, .call (.c (.fn (.func 154) [] [])) [(.t 33), (.t 34), (.t 35)], (some (32, false)), 0, 0⟩, ⟨some 37, .un .not (.t 36), (some (32, false)), 0, 0⟩, ⟨some 38, .pick (.t 32) (.c (.bool true)) (.t 37), none, 0, 0⟩])
  (.cond (.t 38) (.exit 1)
   (.skip)))
  (.seq (.reg [⟨some 39, .load (some 3) (.t 11), none, 0, 0⟩, ⟨some 40, .fieldAddr 1 (.t 10), none, 0, 0⟩, ⟨some 41, .fieldAddr 0 (.t 40), none, 0, 0⟩, ⟨some 42, .fieldAddr 1 (.t 41), none, 0, 0⟩, ⟨some 43, .load none (.t 42), none, 0, 0⟩, ⟨some 44, .conv .i64 (.t 43), none, 0, 0⟩, ⟨some 45, .build [(.int .i64 0), (.int .i64 0), (.str []), (.int .i64 0), .nils] [(0, 3, (.t 39)), (3, 1, (.t 44))], none, 0, 0⟩, ⟨some 13, .alloc [(.int .i64 0), (.int .i64 0), (.str []), (.int .i64 0), .nils], none, 0, 0⟩, ⟨none, .store 5 (.t 13) (.t 45), none, 0, 0⟩])
  (.seq (.seq (.reg [⟨some 46, .fieldAddr 1 (.t 10), none, 0, 0⟩, ⟨some 47, .fieldAddr 2 (.t 46), none, 0, 0⟩, ⟨some 48, .load none (.t 47), none, 0, 0⟩, ⟨some 49, .len 1 (.t 48), none, 0, 0⟩, ⟨some 50, .mv (.c (.int .i64 0)), none, 0, 0⟩])
  (.block 2 (.loop (.seq (.reg [⟨some 51, .bin .lss (.t 50) (.t 49), none, 0, 0⟩])
   (.seq (.cond (.t 51) (.skip)
    (.exit 2))
   (.seq (.block 3 (.seq (.reg [⟨some 52, .idxAddr 2 (.t 48) (.t 50), none, 0, 0⟩, ⟨some 53, .load (some 2) (.t 52), none, 0, 0⟩, ⟨some 15, .alloc [(.int .i64 0), (.int .u64 0)], none, 0, 0⟩, ⟨none, .store 2 (.t 15) (.t 53), none, 0, 0⟩])
   (.reg [⟨some 54, .fieldAddr 4 (.t 13), none, 0, 0⟩, ⟨some 55, .load none (.t 54), none, 0, 0⟩, ⟨some 56, .fieldAddr 1 (.t 15), none, 0, 0⟩, ⟨some 57, .load none (.t 56), none, 0, 0⟩, ⟨some 58, .conv .i64 (.t 57), none, 0, 0⟩, ⟨some 59, .buildSl [(.int .i64 0)] 1 [(0, (.t 58))], none, 0, 0⟩, ⟨some 60, .append 1 8 (.t 55) (.t 59), none, 0, 0⟩, ⟨some 61, .fieldAddr 4 (.t 13), none, 0, 0⟩, ⟨none, .store 1 (.t 61) (.t 60), none, 0, 0⟩])))
   (.reg [⟨some 62, .bin .add (.t 50) (.c (.int .i64 1)), none, 0, 0⟩, ⟨some 50, .mv (.t 62), none, 0, 0⟩])))))))
  (.reg [⟨some 63, .fieldAddr 2 (.t 8), none, 0, 0⟩, ⟨some 64, .load none (.t 63), none, 0, 0⟩, ⟨some 65, .load (some 5) (.t 13), none, 0, 0⟩, ⟨some 66, .buildSl [(.int .i64 0), (.int .i64 0), (.str []), (.int .i64 0), .nils] 1 [(0, (.t 65))], none, 0, 0⟩, ⟨some 67, .append 5 64 (.t 64) (.t 66), none, 0, 0⟩, ⟨some 68, .fieldAddr 2 (.t 8), none, 0, 0⟩, ⟨none, .store 1 (.t 68) (.t 67), none, 0, 0⟩])))))))
  (.reg [⟨some 69, .bin .add (.t 20) (.c (.int .i64 1)), none, 0, 0⟩, ⟨some 20, .mv (.t 69), none, 0, 0⟩])))))))
 (.seq (.reg [⟨some 70, .load (some 4) (.t 8), none, 0, 0⟩, ⟨none, .store 4 (.t 8) (.t 70), none, 0, 0⟩])
 .ret))), [.cell 8 (some 4)]⟩
theorem c87 : ∃ fn, Tryz.prog.funcs[87]? = some fn ∧ compFn Tryz.prog fn = some a87 := ⟨_, Tryz.func87, by kernel_rfl⟩
/-- (*gauger/model.DB).save -/
def a88 : AFunc := ⟨31, (.seq (.reg [⟨some 2, .alloc [(.int .i64 0), .nils, .nils, (.int .i64 0)], none, 0, 0⟩])
 (.seq (.seq (.reg [⟨some 3, .mv (.t 0), none, 0, 0⟩, ⟨some 4, .nilck (.t 3), none, 0, 0⟩, ⟨some 5, .fieldAddr 5 (.t 4), none, 0, 0⟩, ⟨some 6, .load none (.t 5), none, 0, 0⟩, ⟨some 7, .len 1 (.t 6), none, 0, 0⟩, ⟨some 8, .bin .geq (.t 7) (.c (.int .i64 4)), none, 0, 0⟩])
 (.cond (.t 8) (.seq (.reg [⟨some 9, .build [(.int .i64 0), .nils, .nils, (.int .i64 0)] [(0, 1, (.c (.int .i64 5)))], none, 0, 0⟩, ⟨none, .store 4 (.t 2) (.t 9), none, 0, 0⟩])
  .ret)
  (.skip)))
 (.seq (.dreg [⟨some 10, .mv (.t 0), none, 0, 3⟩, ⟨some 11, .mv (.t 0), none, 0, 2⟩, ⟨some 12, .nilck (.t 11), none, 0, 2⟩, ⟨some 13, .fieldAddr 5 (.t 12), none, 0, 2⟩, ⟨some 14, .load none (.t 13), none, 0, 2⟩, ⟨some 15, .mv (.t 0), none, 0, 0⟩, ⟨some 16, .nilck (.t 15), none, 0, 0⟩, ⟨some 17, .fieldAddr 3 (.t 16), none, 0, 0⟩, ⟨some 18, .load none (.t 17), none, 0, 0⟩, ⟨some 19, .call (.c (.fn (.func 79) [] [])) [(.t 18)], none, 0, 0⟩, ⟨some 20, .buildSl [.nils] 1 [(0, (.t 19))], none, 0, 0⟩, ⟨some 21, .append 1 24 (.t 14) (.t 20), none, 0, 0⟩, ⟨some 22, .nilck (.t 10), none, 3, 3⟩, ⟨some 23, .fieldAddr 5 (.t 22), none, 3, 3⟩, ⟨none, .store 1 (.t 23) (.t 21), none, 0, 0⟩])
 (.seq (.reg [⟨some 24, .mv (.t 0), none, 0, 0⟩, ⟨some 25, .nilck (.t 24), none, 0, 0⟩, ⟨some 26, .fieldAddr 5 (.t 25), none, 0, 0⟩, ⟨some 27, .load none (.t 26), none, 0, 0⟩, ⟨some 28, .len 1 (.t 27), none, 0, 0⟩, ⟨some 29, .bin .sub (.t 28) (.c (.int .i64 1)), none, 0, 0⟩, ⟨some 30, .build [(.int .i64 0), .nils, .nils, (.int .i64 0)] [(3, 1, (.t 29))], none, 0, 0⟩, ⟨none, .store 4 (.t 2) (.t 30), none, 0, 0⟩])
 .ret)))), [.cell 2 (some 4)]⟩
theorem c88 : ∃ fn, Tryz.prog.funcs[88]? = some fn ∧ compFn Tryz.prog fn = some a88 := ⟨_, Tryz.func88, by kernel_rfl⟩
/-- (*gauger/model.DB).back -/
def a89 : AFunc := ⟨39, (.seq (.reg [⟨some 4, .alloc [(.int .i64 0), .nils, .nils, (.int .i64 0)], none, 0, 0⟩])
 (.seq (.seq (.reg [⟨some 5, .mv (.t 1), none, 0, 0⟩, ⟨some 6, .bin .lss (.t 5) (.c (.int .i64 0)), none, 0, 0⟩, ⟨some 7, .mv (.t 6), none, 0, 0⟩, ⟨some 8, .mv (.t 1), (some (7, false)), 0, 0⟩, ⟨some 9, .mv (.t 0), (some (7, false)), 0, 0⟩, ⟨some 10, .nilck (.t 9), (some (7, false)), 0, 0⟩, ⟨some 11, .fieldAddr 5 (.t 10), (some (7, false)), 0, 0⟩, ⟨some 12, .load none (.t 11), (some (7, false)), 0, 0⟩, ⟨some 13, .len 1 (.t 12), (some (7, false)), 0, 0⟩, ⟨some 14, .bin .geq (.t 8) (.t 13), (some (7, false)), 0, 0⟩, ⟨some 15, .pick (.t 7) (.c (.bool true)) (.t 14), none, 0, 0⟩])
 (.cond (.t 15) (.seq (.reg [⟨some 16, .build [(.int .i64 0), .nils, .nils, (.int .i64 0)] [(0, 1, (.c (.int .i64 1)))], none, 0, 0⟩, ⟨none, .store 4 (.t 4) (.t 16), none, 0, 0⟩])
  .ret)
  (.skip)))
 (.seq (.reg [⟨some 17, .mv (.t 0), none, 0, 0⟩, ⟨some 18, .mv (.t 0), none, 0, 0⟩, ⟨some 19, .nilck (.t 18), none, 0, 0⟩, ⟨some 20, .fieldAddr 5 (.t 19), none, 0, 0⟩, ⟨some 21, .load none (.t 20), none, 0, 0⟩, ⟨some 22, .mv (.t 1), none, 0, 0⟩, ⟨some 23, .idxAddr 1 (.t 21) (.t 22), none, 0, 0⟩, ⟨some 24, .load none (.t 23), none, 0, 0⟩, ⟨some 25, .call (.c (.fn (.func 79) [] [])) [(.t 24)], none, 0, 0⟩, ⟨some 26, .nilck (.t 17), none, 0, 0⟩, ⟨some 27, .fieldAddr 3 (.t 26), none, 0, 0⟩, ⟨none, .store 1 (.t 27) (.t 25), none, 0, 0⟩])
 (.seq (.reg [⟨some 28, .mv (.t 0), none, 0, 0⟩, ⟨some 29, .mv (.t 0), none, 0, 0⟩, ⟨some 30, .nilck (.t 29), none, 0, 0⟩, ⟨some 31, .fieldAddr 5 (.t 30), none, 0, 0⟩, ⟨some 32, .load none (.t 31), none, 0, 0⟩, ⟨some 33, .mv (.t 1), none, 0, 0⟩, ⟨some 34, .bin .add (.t 33) (.c (.int .i64 1)), none, 0, 0⟩, ⟨some 35, .slc 1 (.t 32) none (some (.t 34)) none, none, 0, 0⟩, ⟨some 36, .nilck (.t 28), none, 0, 0⟩, ⟨some 37, .fieldAddr 5 (.t 36), none, 0, 0⟩, ⟨none, .store 1 (.t 37) (.t 35), none, 0, 0⟩])
 (.seq (.reg [⟨some 38, .build [(.int .i64 0), .nils, .nils, (.int .i64 0)] [], none, 0, 0⟩, ⟨none, .store 4 (.t 4) (.t 38), none, 0, 0⟩])
 .ret))))), [.cell 4 (some 4)]⟩
theorem c89 : ∃ fn, Tryz.prog.funcs[89]? = some fn ∧ compFn Tryz.prog fn = some a89 := ⟨_, Tryz.func89, by kernel_rfl⟩
/-- slices.Clone[[]gauger/api.Value,gauger/api.Value] -/
def a92 : AFunc := ⟨8, (.seq (.reg [⟨some 2, .mv (.c .nils), none, 0, 0⟩])
 (.seq (.seq (.reg [⟨some 3, .mv (.t 0), none, 0, 0⟩, ⟨some 4, .isNil 1 false (.t 3), none, 0, 0⟩])
 (.cond (.t 4) (.seq (.reg [⟨some 2, .mv (.c .nils), none, 0, 0⟩])
  .ret)
  (.skip)))
 (.seq (.reg [⟨some 5, .buildSl [(.int .i64 0), (.int .i64 0), (.str [])] 0 [], none, 0, 0⟩, ⟨some 6, .mv (.t 0), none, 0, 0⟩, ⟨some 7, .append 3 32 (.t 5) (.t 6), none, 0, 0⟩, ⟨some 2, .mv (.t 7), none, 0, 0⟩])
 .ret))), [.t 2]⟩
theorem c92 : ∃ fn, Tryz.prog.funcs[92]? = some fn ∧ compFn Tryz.prog fn = some a92 := ⟨_, Tryz.func92, by kernel_rfl⟩
/-- gauger/delta.View -/
def a94 : AFunc := ⟨25, (.seq (.reg [⟨some 3, .box (.t 0), none, 0, 0⟩, ⟨some 6, .mv (.c .nils), none, 0, 0⟩])
 (.seq (.reg [⟨some 10, .mkmap, none, 0, 0⟩, ⟨some 7, .mv (.t 10), none, 0, 0⟩])
 (.seq (.seq (.reg [⟨some 11, .mv (.t 2), none, 0, 0⟩, ⟨some 12, .len 1 (.t 11), none, 0, 0⟩, ⟨some 13, .mv (.c (.int .i64 0)), none, 0, 0⟩])
 (.block 0 (.loop (.seq (.reg [⟨some 14, .bin .lss (.t 13) (.t 12), none, 0, 0⟩])
  (.seq (.cond (.t 14) (.skip)
   (.exit 0))
  (.seq (.block 1 (.seq (.reg [⟨some 15, .idxAddr 1 (.t 11) (.t 13), none, 0, 0⟩, ⟨some 16, .load none (.t 15), none, 0, 0⟩, ⟨some 9, .mv (.t 16), none, 0, 0⟩])
  (.reg [⟨some 17, .mv (.t 7), none, 0, 0⟩, ⟨some 18, .load (some 2) (.t 3), none, 0, 0⟩, ⟨some 19, .mv (.t 1), none, 0, 0⟩, ⟨some 20, .mv (.t 9), none, 0, 0⟩, ⟨some 21, .call (.c (.fn (.func 162) [] [])) [(.t 17), (.t 18), (.t 19), (.t 20), (.c (.bool false))], none, 0, 0⟩])))
  (.reg [⟨some 22, .bin .add (.t 13) (.c (.int .i64 1)), none, 0, 0⟩, ⟨some 13, .mv (.t 22), none, 0, 0⟩])))))))
 (.seq (.reg [⟨some 23, .mv (.t 7), none, 0, 0⟩, ⟨some 24, .call (.c (.fn (.func 163) [] [])) [(.t 23), (.c (.fn (.func 164) [] []))], none, 0, 0⟩, ⟨some 6, .mv (.t 24), none, 0, 0⟩])
 .ret)))), [.t 6]⟩
theorem c94 : ∃ fn, Tryz.prog.funcs[94]? = some fn ∧ compFn Tryz.prog fn = some a94 := ⟨_, Tryz.func94, by kernel_rfl⟩
/-- slices.Equal[[]gauger/api.Value,gauger/api.Value] -/
def a97 : AFunc := ⟨26, (.seq (.reg [⟨some 4, .mv (.c (.bool false)), none, 0, 0⟩])
 (.seq (.seq (.reg [⟨some 6, .mv (.t 0), none, 0, 0⟩, ⟨some 7, .len 1 (.t 6), none, 0, 0⟩, ⟨some 8, .mv (.t 1), none, 0, 0⟩, ⟨some 9, .len 1 (.t 8), none, 0, 0⟩, ⟨some 10, .bin .neq (.t 7) (.t 9), none, 0, 0⟩])
 (.cond (.t 10) (.seq (.reg [⟨some 4, .mv (.c (.bool false)), none, 0, 0⟩])
  .ret)
  (.skip)))
 (.seq (.seq (.reg [⟨some 11, .mv (.t 0), none, 0, 0⟩, ⟨some 12, .len 1 (.t 11), none, 0, 0⟩, ⟨some 13, .mv (.c (.int .i64 0)), none, 0, 0⟩])
 (.block 0 (.loop (.seq (.reg [⟨some 14, .bin .lss (.t 13) (.t 12), none, 0, 0⟩])
  (.seq (.cond (.t 14) (.skip)
   (.exit 0))
  (.seq (.block 1 (.seq (.reg [⟨some 15, .mv (.t 13), none, 0, 0⟩, ⟨some 5, .mv (.t 15), none, 0, 0⟩])
  (.seq (.dreg [⟨some 16, .mv (.t 0), none, 0, 0⟩, ⟨some 17, .mv (.t 5), none, 0, 0⟩, ⟨some 18, .idxAddr 3 (.t 16) (.t 17), none, 0, 0⟩, ⟨some 19, .load (some 3) (.t 18), none, 0, 0⟩, ⟨some 20, .mv (.t 1), none, 0, 0⟩, ⟨some 21, .mv (.t 5), none, 0, 0⟩, ⟨some 22, .idxAddr 3 (.t 20) (.t 21), none, 0, 0⟩, ⟨some 23, .load (some 3) (.t 22), none, 0, 0⟩, ⟨some 24, .eqS true [1, 1, 2] (.t 19) (.t 23), none, 0, 0⟩])
  (.cond (.t 24) (.seq (.reg [⟨some 4, .mv (.c (.bool false)), none, 0, 0⟩])
   .ret)
   (.skip)))))
  (.reg [⟨some 25, .bin .add (.t 13) (.c (.int .i64 1)), none, 0, 0⟩, ⟨some 13, .mv (.t 25), none, 0, 0⟩])))))))
 (.seq (.reg [⟨some 4, .mv (.c (.bool true)), none, 0, 0⟩])
 .ret)))), [.t 4]⟩
theorem c97 : ∃ fn, Tryz.prog.funcs[97]? = some fn ∧ compFn Tryz.prog fn = some a97 := ⟨_, Tryz.func97, by kernel_rfl⟩
/-- slices.EqualFunc[[][]gauger/api.Value,[][]gauger/api.Value,[]gauger/api.Value,[]gauger/api.Value] -/
def a99 : AFunc := ⟨32, (.seq (.reg [⟨some 6, .mv (.c (.bool false)), none, 0, 0⟩])
 (.seq (.seq (.reg [⟨some 10, .mv (.t 0), none, 0, 0⟩, ⟨some 11, .len 1 (.t 10), none, 0, 0⟩, ⟨some 12, .mv (.t 1), none, 0, 0⟩, ⟨some 13, .len 1 (.t 12), none, 0, 0⟩, ⟨some 14, .bin .neq (.t 11) (.t 13), none, 0, 0⟩])
 (.cond (.t 14) (.seq (.reg [⟨some 6, .mv (.c (.bool false)), none, 0, 0⟩])
  .ret)
  (.skip)))
 (.seq (.seq (.reg [⟨some 15, .mv (.t 0), none, 0, 0⟩, ⟨some 16, .len 1 (.t 15), none, 0, 0⟩, ⟨some 17, .mv (.c (.int .i64 0)), none, 0, 0⟩])
 (.block 0 (.loop (.seq (.reg [⟨some 18, .bin .lss (.t 17) (.t 16), none, 0, 0⟩])
  (.seq (.cond (.t 18) (.skip)
   (.exit 0))
  (.seq (.block 1 (.seq (.reg [⟨some 19, .mv (.t 17), none, 0, 0⟩, ⟨some 20, .idxAddr 1 (.t 15) (.t 17), none, 0, 0⟩, ⟨some 21, .load none (.t 20), none, 0, 0⟩, ⟨some 7, .mv (.t 19), none, 0, 0⟩, ⟨some 8, .mv (.t 21), none, 0, 0⟩])
  (.seq (.reg [⟨some 22, .mv (.t 1), none, 0, 0⟩, ⟨some 23, .mv (.t 7), none, 0, 0⟩, ⟨some 24, .idxAddr 1 (.t 22) (.t 23), none, 0, 0⟩, ⟨some 25, .load none (.t 24), none, 0, 0⟩, ⟨some 9, .mv (.t 25), none, 0, 0⟩])
  (.seq (.reg [⟨some 26, .mv (.t 2), none, 0, 0⟩, ⟨some 27, .mv (.t 8), none, 0, 0⟩, ⟨some 28, .mv (.t 9), none, 0, 0⟩, ⟨some 29, .call (.t 26) [(.t 27), (.t 28)], none, 0, 0⟩, ⟨some 30, .un .not (.t 29), none, 0, 0⟩])
  (.cond (.t 30) (.seq (.reg [⟨some 6, .mv (.c (.bool false)), none, 0, 0⟩])
   .ret)
   (.skip))))))
  (.reg [⟨some 31, .bin .add (.t 17) (.c (.int .i64 1)), none, 0, 0⟩, ⟨some 17, .mv (.t 31), none, 0, 0⟩])))))))
 (.seq (.reg [⟨some 6, .mv (.c (.bool true)), none, 0, 0⟩])
 .ret)))), [.t 6]⟩
theorem c99 : ∃ fn, Tryz.prog.funcs[99]? = some fn ∧ compFn Tryz.prog fn = some a99 := ⟨_, Tryz.func99, by kernel_rfl⟩
/-- gauger/gaugerlaw31.num -/
def a124 : AFunc := ⟨5, (.seq (.reg [⟨some 2, .alloc [(.int .i64 0), (.int .i64 0), (.str [])], none, 0, 0⟩])
 (.seq (.reg [⟨some 3, .mv (.t 0), none, 0, 0⟩, ⟨some 4, .build [(.int .i64 0), (.int .i64 0), (.str [])] [(0, 1, (.c (.int .i64 1))), (1, 1, (.t 3))], none, 0, 0⟩, ⟨none, .store 3 (.t 2) (.t 4), none, 0, 0⟩])
 .ret)), [.cell 2 (some 3)]⟩
theorem c124 : ∃ fn, Tryz.prog.funcs[124]? = some fn ∧ compFn Tryz.prog fn = some a124 := ⟨_, Tryz.func124, by kernel_rfl⟩
/-- gauger/gaugerlaw31.event -/
def a125 : AFunc := ⟨16, (.seq (.reg [⟨some 6, .box (.t 2), none, 0, 0⟩, ⟨some 7, .box (.t 3), none, 0, 0⟩, ⟨some 8, .alloc [(.int .i64 0), (.int .i64 0), (.int .i64 0), (.int .i64 0), (.int .i64 0), (.int .i64 0), (.int .i64 0), (.int .i64 0), (.str []), (.int .i64 0), (.int .i64 0), (.str []), .nils, (.int .i64 0), (.int .i64 0), (.int .i64 0), (.str []), (.int .i64 0), (.int .i64 0), .nils, .nils, (.int .i64 0)], none, 0, 0⟩])
 (.seq (.reg [⟨some 9, .mv (.t 0), none, 0, 0⟩, ⟨some 10, .mv (.t 1), none, 0, 0⟩, ⟨some 11, .load (some 14) (.t 6), none, 0, 0⟩, ⟨some 12, .build [(.int .i64 0), (.int .i64 0), (.int .i64 0), (.int .i64 0), (.int .i64 0), (.str []), (.int .i64 0), (.int .i64 0), (.str []), .nils, (.int .i64 0), (.int .i64 0), (.int .i64 0), (.str []), (.int .i64 0)] [(0, 1, (.t 10)), (1, 14, (.t 11))], none, 0, 0⟩, ⟨some 13, .load (some 4) (.t 7), none, 0, 0⟩, ⟨some 14, .build [(.int .i64 0), (.int .i64 0), (.int .i64 0), (.int .i64 0), (.int .i64 0), (.int .i64 0), (.int .i64 0), (.str []), (.int .i64 0), (.int .i64 0), (.str []), .nils, (.int .i64 0), (.int .i64 0), (.int .i64 0), (.str []), (.int .i64 0), (.int .i64 0), .nils, .nils, (.int .i64 0)] [(1, 1, (.t 9)), (2, 15, (.t 12)), (17, 4, (.t 13))], none, 0, 0⟩, ⟨some 15, .build [(.int .i64 0), (.int .i64 0), (.int .i64 0), (.int .i64 0), (.int .i64 0), (.int .i64 0), (.int .i64 0), (.int .i64 0), (.str []), (.int .i64 0), (.int .i64 0), (.str []), .nils, (.int .i64 0), (.int .i64 0), (.int .i64 0), (.str []), (.int .i64 0), (.int .i64 0), .nils, .nils, (.int .i64 0)] [(1, 21, (.t 14))], none, 0, 0⟩, ⟨none, .store 22 (.t 8) (.t 15), none, 0, 0⟩])
 .ret)), [.cell 8 (some 22)]⟩
theorem c125 : ∃ fn, Tryz.prog.funcs[125]? = some fn ∧ compFn Tryz.prog fn = some a125 := ⟨_, Tryz.func125, by kernel_rfl⟩
/-- gauger/witness.last -/
def a126 : AFunc := ⟨36, (.seq (.reg [⟨some 4, .mv (.c (.int .i64 0)), none, 0, 0⟩])
 (.seq (.reg [⟨some 5, .mv (.c (.int .i64 (-1))), none, 0, 0⟩])
 (.seq (.seq (.reg [⟨some 8, .mv (.t 0), none, 0, 0⟩, ⟨some 9, .len 1 (.t 8), none, 0, 0⟩, ⟨some 10, .mv (.c (.int .i64 0)), none, 0, 0⟩])
 (.block 0 (.loop (.seq (.reg [⟨some 11, .bin .lss (.t 10) (.t 9), none, 0, 0⟩])
  (.seq (.cond (.t 11) (.skip)
   (.exit 0))
  (.seq (.block 1 (.seq (.reg [⟨some 12, .mv (.t 10), none, 0, 0⟩, ⟨some 13, .idxAddr 5 (.t 8) (.t 10), none, 0, 0⟩, ⟨some 14, .load (some 5) (.t 13), none, 0, 0⟩, ⟨some 7, .alloc [(.int .i64 0), (.int .i64 0), .nils, (.bool false), (.bool false)], none, 0, 0⟩, ⟨some 6, .mv (.t 12), none, 0, 0⟩, ⟨none, .store 5 (.t 7) (.t 14), none, 0, 0⟩])
  (.seq (.dreg [⟨some 15, .fieldAddr 1 (.t 7), none, 0, 0⟩, ⟨some 16, .load none (.t 15), none, 0, 0⟩, ⟨some 17, .mv (.t 1), none, 0, 0⟩, ⟨some 18, .bin .eql (.t 16) (.t 17), none, 0, 0⟩, ⟨some 19, .mv (.t 18), none, 0, 0⟩, ⟨some 20, .mv (.t 5), (some (19, true)), 0, 0⟩, ⟨some 21, .bin .lss (.t 20) (.c (.int .i64 0)), (some (19, true)), 0, 0⟩, ⟨some 22, .mv (.t 21), (some (19, true)), 0, 0⟩, ⟨some 23, .fieldAddr 0 (.t 7), (some (22, false)), 0, 0⟩, ⟨some 24, .load none (.t 23), (some (22, false)), 0, 0⟩, ⟨some 25, .mv (.t 0), (some (22, false)), 0, 0⟩, ⟨some 26, .mv (.t 5), (some (22, false)), 0, 0⟩, ⟨some 27, .idxAddr 5 (.t 25) (.t 26), (some (22, false)), 0, 0⟩, ⟨some 28, .fieldAddr 0 (.t 27), (some (22, false)), 0, 0⟩, ⟨some 29, .load none (.t 28), (some (22, false)), 0, 0⟩, ⟨some 30, .bin .geq (.t 24) (.t 29), (some (22, false)), 0, 0⟩, ⟨some 31, .pick (.t 22) (.c (.bool true)) (.t 30), (some (19, true)), 0, 0⟩, ⟨some 32, .pick (.t 19) (.t 31) (.c (.bool false)), none, 0, 0⟩])
  (.cond (.t 32) (.reg [⟨some 33, .mv (.t 6), none, 0, 0⟩, ⟨some 5, .mv (.t 33), none, 0, 0⟩])
   (.skip)))))
  (.reg [⟨some 34, .bin .add (.t 10) (.c (.int .i64 1)), none, 0, 0⟩, ⟨some 10, .mv (.t 34), none, 0, 0⟩])))))))
 (.seq (.reg [⟨some 35, .mv (.t 5), none, 0, 0⟩, ⟨some 4, .mv (.t 35), none, 0, 0⟩])
 .ret)))), [.t 4]⟩
theorem c126 : ∃ fn, Tryz.prog.funcs[126]? = some fn ∧ compFn Tryz.prog fn = some a126 := ⟨_, Tryz.func126, by kernel_rfl⟩
/-- (gauger/witness.Deal).play -/
def a127 : AFunc := ⟨32, (.seq (.reg [⟨some 2, .box (.t 0), none, 0, 0⟩, ⟨some 4, .mv (.c (.int .i64 0)), none, 0, 0⟩])
 (.seq (.seq (.reg [⟨some 7, .fieldAddr 2 (.t 2), none, 0, 0⟩, ⟨some 8, .load none (.t 7), none, 0, 0⟩, ⟨some 9, .len 1 (.t 8), none, 0, 0⟩, ⟨some 10, .mv (.c (.int .i64 0)), none, 0, 0⟩])
 (.block 0 (.loop (.seq (.reg [⟨some 11, .bin .lss (.t 10) (.t 9), none, 0, 0⟩])
  (.seq (.cond (.t 11) (.skip)
   (.exit 0))
  (.seq (.block 1 (.seq (.reg [⟨some 12, .mv (.t 10), none, 0, 0⟩, ⟨some 13, .idxAddr 18 (.t 8) (.t 10), none, 0, 0⟩, ⟨some 14, .load (some 18) (.t 13), none, 0, 0⟩, ⟨some 6, .alloc [(.int .i64 0), (.int .i64 0), (.int .i64 0), (.int .i64 0), (.str []), (.int .i64 0), (.int .i64 0), (.str []), .nils, (.int .i64 0), (.int .i64 0), (.int .i64 0), (.str []), (.int .i64 0), (.int .i64 0), .nils, .nils, (.int .i64 0)], none, 0, 0⟩, ⟨some 5, .mv (.t 12), none, 0, 0⟩, ⟨none, .store 18 (.t 6) (.t 14), none, 0, 0⟩])
  (.seq (.dreg [⟨some 15, .fieldAddr 14 (.t 6), none, 0, 0⟩, ⟨some 16, .fieldAddr 0 (.t 15), none, 0, 0⟩, ⟨some 17, .load none (.t 16), none, 0, 0⟩, ⟨some 18, .call (.c (.fn (.func 53) [] [])) [(.t 17)], none, 0, 0⟩, ⟨some 19, .un .not (.t 18), none, 1, 1⟩, ⟨some 20, .mv (.t 19), none, 1, 1⟩, ⟨some 21, .mv (.t 1), (some (20, true)), 1, 1⟩, ⟨some 22, .fieldAddr 0 (.t 6), (some (20, true)), 1, 1⟩, ⟨some 23, .load (some 14) (.t 22), (some (20, true)), 1, 1⟩, ⟨some 24, .call (.c (.fn (.func 23) [] [])) [(.t 21), (.t 23)], (some (20, true)), 0, 0⟩, ⟨some 25, .fieldAddr 14 (.t 6), (some (20, true)), 1, 2⟩, ⟨some 26, .load (some 4) (.t 25), (some (20, true)), 1, 2⟩, ⟨some 27, .call (.c (.fn (.func 197) [] [])) [(.t 24), (.t 26)], (some (20, true)), 0, 0⟩, ⟨some 28, .un .not (.t 27), (some (20, true)), 3, 3⟩, ⟨some 29, .pick (.t 20) (.t 28) (.c (.bool false)), none, 3, 3⟩])
  (.cond (.t 29) (.seq (.reg [⟨some 30, .mv (.t 5), none, 0, 0⟩, ⟨some 4, .mv (.t 30), none, 0, 0⟩])
   .ret)
   (.skip)))))
  (.reg [⟨some 31, .bin .add (.t 10) (.c (.int .i64 1)), none, 0, 0⟩, ⟨some 10, .mv (.t 31), none, 0, 0⟩])))))))
 (.seq (.reg [⟨some 4, .mv (.c (.int .i64 (-1))), none, 0, 0⟩])
 .ret))), [.t 4]⟩
theorem c127 : ∃ fn, Tryz.prog.funcs[127]? = some fn ∧ compFn Tryz.prog fn = some a127 := ⟨_, Tryz.func127, by kernel_rfl⟩
/-- slices.IndexFunc[[]gauger/witness.Deal,gauger/witness.Deal] -/
def a134 : AFunc := ⟨19, (.seq (.reg [⟨some 4, .mv (.c (.int .i64 0)), none, 0, 0⟩])
 (.seq (.seq (.reg [⟨some 6, .mv (.t 0), none, 0, 0⟩, ⟨some 7, .len 1 (.t 6), none, 0, 0⟩, ⟨some 8, .mv (.c (.int .i64 0)), none, 0, 0⟩])
 (.block 0 (.loop (.seq (.reg [⟨some 9, .bin .lss (.t 8) (.t 7), none, 0, 0⟩])
  (.seq (.cond (.t 9) (.skip)
   (.exit 0))
  (.seq (.block 1 (.seq (.reg [⟨some 10, .mv (.t 8), none, 0, 0⟩, ⟨some 5, .mv (.t 10), none, 0, 0⟩])
  (.seq (.reg [⟨some 11, .mv (.t 1), none, 0, 0⟩, ⟨some 12, .mv (.t 0), none, 0, 0⟩, ⟨some 13, .mv (.t 5), none, 0, 0⟩, ⟨some 14, .idxAddr 5 (.t 12) (.t 13), none, 0, 0⟩, ⟨some 15, .load (some 5) (.t 14), none, 0, 0⟩, ⟨some 16, .call (.t 11) [(.t 15)], none, 0, 0⟩])
  (.cond (.t 16) (.seq (.reg [⟨some 17, .mv (.t 5), none, 0, 0⟩, ⟨some 4, .mv (.t 17), none, 0, 0⟩])
   .ret)
   (.skip)))))
  (.reg [⟨some 18, .bin .add (.t 8) (.c (.int .i64 1)), none, 0, 0⟩, ⟨some 8, .mv (.t 18), none, 0, 0⟩])))))))
 (.seq (.reg [⟨some 4, .mv (.c (.int .i64 (-1))), none, 0, 0⟩])
 .ret))), [.t 4]⟩
theorem c134 : ∃ fn, Tryz.prog.funcs[134]? = some fn ∧ compFn Tryz.prog fn = some a134 := ⟨_, Tryz.func134, by kernel_rfl⟩
/-- gauger/witness.Deals$1 -/
def a135 : AFunc := ⟨16, (.seq (.reg [⟨some 3, .box (.t 0), none, 0, 0⟩, ⟨some 4, .mv (.c (.bool false)), none, 0, 0⟩])
 (.seq (.reg [⟨some 5, .fieldAddr 0 (.t 3), none, 0, 0⟩, ⟨some 6, .load none (.t 5), none, 0, 0⟩, ⟨some 7, .fieldAddr 0 (.t 1), none, 0, 0⟩, ⟨some 8, .load none (.t 7), none, 0, 0⟩, ⟨some 9, .bin .eql (.t 6) (.t 8), none, 0, 0⟩, ⟨some 10, .mv (.t 9), none, 0, 0⟩, ⟨some 11, .fieldAddr 1 (.t 3), (some (10, true)), 0, 0⟩, ⟨some 12, .load none (.t 11), (some (10, true)), 0, 0⟩, ⟨some 13, .load none (.t 2), (some (10, true)), 0, 0⟩, ⟨some 14, .bin .eql (.t 12) (.t 13), (some (10, true)), 0, 0⟩, ⟨some 15, .pick (.t 10) (.t 14) (.c (.bool false)), none, 0, 0⟩, ⟨some 4, .mv (.t 15), none, 0, 0⟩])
 .ret)), [.t 4]⟩
theorem c135 : ∃ fn, Tryz.prog.funcs[135]? = some fn ∧ compFn Tryz.prog fn = some a135 := ⟨_, Tryz.func135, by kernel_rfl⟩
/-- (*gauger/witness.Deal).add -/
def a136 : AFunc := ⟨42, (.seq (.reg [⟨some 3, .box (.t 1), none, 0, 0⟩])
 (.seq (.reg [⟨some 4, .fieldAddr 2 (.t 3), none, 0, 0⟩, ⟨some 5, .fieldAddr 0 (.t 4), none, 0, 0⟩, ⟨some 6, .load none (.t 5), none, 0, 0⟩])
 (.block 0 (.seq (.reg [⟨some 8, .bin .eql (.t 6) (.c (.int .i64 4)), none, 0, 0⟩, ⟨some 7, .mv (.t 8), none, 0, 0⟩])
 (.cond (.t 7) (.seq (.reg [⟨some 9, .fieldAddr 17 (.t 3), none, 0, 0⟩, ⟨some 10, .fieldAddr 0 (.t 9), none, 0, 0⟩, ⟨some 11, .load none (.t 10), none, 0, 0⟩, ⟨some 12, .bin .neq (.t 11) (.c (.int .i64 4)), none, 0, 0⟩])
  (.cond (.t 12) (.dreg [⟨some 13, .mv (.t 0), none, 0, 4⟩, ⟨some 14, .mv (.t 0), none, 0, 3⟩, ⟨some 15, .nilck (.t 14), none, 0, 3⟩, ⟨some 16, .fieldAddr 2 (.t 15), none, 0, 3⟩, ⟨some 17, .load none (.t 16), none, 0, 3⟩, ⟨some 18, .fieldAddr 2 (.t 3), none, 0, 0⟩, ⟨some 19, .fieldAddr 1 (.t 18), none, 0, 0⟩, ⟨some 20, .load (some 14) (.t 19), none, 0, 0⟩, ⟨some 21, .call (.c (.fn (.func 139) [] [])) [(.t 20)], none, 0, 0⟩, ⟨some 22, .fieldAddr 17 (.t 3), none, 0, 1⟩, ⟨some 23, .load (some 4) (.t 22), none, 0, 1⟩, ⟨some 24, .call (.c (.fn (.func 140) [] [])) [(.t 23)], none, 0, 0⟩, ⟨some 25, .build [(.int .i64 0), (.int .i64 0), (.int .i64 0), (.int .i64 0), (.str []), (.int .i64 0), (.int .i64 0), (.str []), .nils, (.int .i64 0), (.int .i64 0), (.int .i64 0), (.str []), (.int .i64 0), (.int .i64 0), .nils, .nils, (.int .i64 0)] [(0, 14, (.t 21)), (14, 4, (.t 24))], none, 2, 2⟩, ⟨some 26, .buildSl [(.int .i64 0), (.int .i64 0), (.int .i64 0), (.int .i64 0), (.str []), (.int .i64 0), (.int .i64 0), (.str []), .nils, (.int .i64 0), (.int .i64 0), (.int .i64 0), (.str []), (.int .i64 0), (.int .i64 0), .nils, .nils, (.int .i64 0)] 1 [(0, (.t 25))], none, 0, 0⟩, ⟨some 27, .append 18 216 (.t 17) (.t 26), none, 0, 0⟩, ⟨some 28, .nilck (.t 13), none, 4, 4⟩, ⟨some 29, .fieldAddr 2 (.t 28), none, 4, 4⟩, ⟨none, .store 1 (.t 29) (.t 27), none, 0, 0⟩])
   (.skip)))
  (.seq (.reg [⟨some 31, .bin .eql (.t 6) (.c (.int .i64 2)), none, 0, 0⟩, ⟨some 30, .mv (.t 31), none, 0, 0⟩])
  (.cond (.t 30) (.dreg [⟨some 32, .mv (.t 0), none, 0, 0⟩, ⟨some 33, .mv (.t 0), none, 0, 1⟩, ⟨some 34, .fieldAddr 17 (.t 3), none, 0, 1⟩, ⟨some 35, .fieldAddr 0 (.t 34), none, 0, 1⟩, ⟨some 36, .load none (.t 35), none, 0, 1⟩, ⟨some 37, .bin .eql (.t 36) (.c (.int .i64 0)), none, 0, 1⟩, ⟨some 38, .nilck (.t 32), none, 0, 0⟩, ⟨some 39, .fieldAddr 3 (.t 38), none, 0, 0⟩, ⟨none, .store 1 (.t 39) (.c (.bool true)), none, 0, 0⟩, ⟨some 40, .nilck (.t 33), none, 1, 1⟩, ⟨some 41, .fieldAddr 4 (.t 40), none, 1, 1⟩, ⟨none, .store 1 (.t 41) (.t 37), none, 0, 0⟩])
   (.skip)))))))), []⟩
theorem c136 : ∃ fn, Tryz.prog.funcs[136]? = some fn ∧ compFn Tryz.prog fn = some a136 := ⟨_, Tryz.func136, by kernel_rfl⟩
/-- gauger/witness.copiedWish -/
def a139 : AFunc := ⟨8, (.seq (.reg [⟨some 1, .box (.t 0), none, 0, 0⟩, ⟨some 2, .alloc [(.int .i64 0), (.int .i64 0), (.int .i64 0), (.int .i64 0), (.str []), (.int .i64 0), (.int .i64 0), (.str []), .nils, (.int .i64 0), (.int .i64 0), (.int .i64 0), (.str []), (.int .i64 0)], none, 0, 0⟩])
 (.seq (.reg [⟨some 3, .fieldAddr 8 (.t 1), none, 0, 0⟩, ⟨some 4, .load none (.t 3), none, 0, 0⟩, ⟨some 5, .call (.c (.fn (.func 92) [] [])) [(.t 4)], none, 0, 0⟩, ⟨some 6, .fieldAddr 8 (.t 1), none, 0, 0⟩, ⟨none, .store 1 (.t 6) (.t 5), none, 0, 0⟩])
 (.seq (.reg [⟨some 7, .load (some 14) (.t 1), none, 0, 0⟩, ⟨none, .store 14 (.t 2) (.t 7), none, 0, 0⟩])
 .ret))), [.cell 2 (some 14)]⟩
theorem c139 : ∃ fn, Tryz.prog.funcs[139]? = some fn ∧ compFn Tryz.prog fn = some a139 := ⟨_, Tryz.func139, by kernel_rfl⟩
/-- gauger/witness.copiedAnswer -/
def a140 : AFunc := ⟨49, (.seq (.reg [⟨some 1, .box (.t 0), none, 0, 0⟩, ⟨some 2, .alloc [(.int .i64 0), .nils, .nils, (.int .i64 0)], none, 0, 0⟩])
 (.seq (.dreg [⟨some 6, .fieldAddr 1 (.t 1), none, 0, 0⟩, ⟨some 7, .load none (.t 6), none, 0, 0⟩, ⟨some 8, .call (.c (.fn (.func 147) [] [])) [(.t 7)], none, 0, 0⟩, ⟨some 9, .fieldAddr 2 (.t 1), none, 0, 1⟩, ⟨some 10, .load none (.t 9), none, 0, 1⟩, ⟨some 11, .call (.c (.fn (.func 201) [] [])) [(.t 10)], none, 0, 0⟩, ⟨some 12, .fieldAddr 1 (.t 1), none, 1, 2⟩, ⟨none, .store 1 (.t 12) (.t 8), none, 0, 0⟩, ⟨some 13, .fieldAddr 2 (.t 1), none, 3, 3⟩, ⟨none, .store 1 (.t 13) (.t 11), none, 0, 0⟩])
 (.seq (.seq (.reg [⟨some 14, .fieldAddr 1 (.t 1), none, 0, 0⟩, ⟨some 15, .load none (.t 14), none, 0, 0⟩, ⟨some 16, .len 1 (.t 15), none, 0, 0⟩, ⟨some 17, .mv (.c (.int .i64 0)), none, 0, 0⟩])
 (.block 0 (.loop (.seq (.reg [⟨some 18, .bin .lss (.t 17) (.t 16), none, 0, 0⟩])
  (.seq (.cond (.t 18) (.skip)
   (.exit 0))
  (.seq (.block 1 (.seq (.reg [⟨some 19, .mv (.t 17), none, 0, 0⟩, ⟨some 20, .idxAddr 1 (.t 15) (.t 17), none, 0, 0⟩, ⟨some 21, .load none (.t 20), none, 0, 0⟩, ⟨some 3, .mv (.t 19), none, 0, 0⟩, ⟨some 4, .mv (.t 21), none, 0, 0⟩])
  (.dreg [⟨some 22, .fieldAddr 1 (.t 1), none, 0, 1⟩, ⟨some 23, .load none (.t 22), none, 0, 1⟩, ⟨some 24, .mv (.t 3), none, 0, 1⟩, ⟨some 25, .mv (.t 4), none, 0, 0⟩, ⟨some 26, .call (.c (.fn (.func 92) [] [])) [(.t 25)], none, 0, 0⟩, ⟨some 27, .idxAddr 1 (.t 23) (.t 24), none, 1, 1⟩, ⟨none, .store 1 (.t 27) (.t 26), none, 0, 0⟩])))
  (.reg [⟨some 28, .bin .add (.t 17) (.c (.int .i64 1)), none, 0, 0⟩, ⟨some 17, .mv (.t 28), none, 0, 0⟩])))))))
 (.seq (.seq (.reg [⟨some 29, .fieldAddr 2 (.t 1), none, 0, 0⟩, ⟨some 30, .load none (.t 29), none, 0, 0⟩, ⟨some 31, .len 1 (.t 30), none, 0, 0⟩, ⟨some 32, .mv (.c (.int .i64 0)), none, 0, 0⟩])
 (.block 2 (.loop (.seq (.reg [⟨some 33, .bin .lss (.t 32) (.t 31), none, 0, 0⟩])
  (.seq (.cond (.t 33) (.skip)
   (.exit 2))
  (.seq (.block 3 (.seq (.reg [⟨some 34, .mv (.t 32), none, 0, 0⟩, ⟨some 5, .mv (.t 34), none, 0, 0⟩])
  (.dreg [⟨some 35, .fieldAddr 2 (.t 1), none, 0, 1⟩, ⟨some 36, .load none (.t 35), none, 0, 1⟩, ⟨some 37, .mv (.t 5), none, 0, 1⟩, ⟨some 38, .fieldAddr 2 (.t 1), none, 0, 0⟩, ⟨some 39, .load none (.t 38), none, 0, 0⟩, ⟨some 40, .mv (.t 5), none, 0, 0⟩, ⟨some 41, .idxAddr 5 (.t 39) (.t 40), none, 0, 0⟩, ⟨some 42, .fieldAddr 4 (.t 41), none, 0, 0⟩, ⟨some 43, .load none (.t 42), none, 0, 0⟩, ⟨some 44, .call (.c (.fn (.func 202) [] [])) [(.t 43)], none, 0, 0⟩, ⟨some 45, .idxAddr 5 (.t 36) (.t 37), none, 1, 1⟩, ⟨some 46, .fieldAddr 4 (.t 45), none, 1, 1⟩, ⟨none, .store 1 (.t 46) (.t 44), none, 0, 0⟩])))
  (.reg [⟨some 47, .bin .add (.t 32) (.c (.int .i64 1)), none, 0, 0⟩, ⟨some 32, .mv (.t 47), none, 0, 0⟩])))))))
 (.seq (.reg [⟨some 48, .load (some 4) (.t 1), none, 0, 0⟩, ⟨none, .store 4 (.t 2) (.t 48), none, 0, 0⟩])
 .ret))))), [.cell 2 (some 4)]⟩
theorem c140 : ∃ fn, Tryz.prog.funcs[140]? = some fn ∧ compFn Tryz.prog fn = some a140 := ⟨_, Tryz.func140, by kernel_rfl⟩
/-- gauger/plan.isTable$1 -/
def a143 : AFunc := ⟨9, (.seq (.reg [⟨some 2, .mv (.c (.bool false)), none, 0, 0⟩])
 (.seq (.reg [⟨some 3, .mv (.t 0), none, 0, 0⟩, ⟨some 4, .bin .neq (.t 3) (.c (.int .i64 1)), none, 0, 0⟩, ⟨some 5, .mv (.t 4), none, 0, 0⟩, ⟨some 6, .mv (.t 0), (some (5, true)), 0, 0⟩, ⟨some 7, .bin .neq (.t 6) (.c (.int .i64 2)), (some (5, true)), 0, 0⟩, ⟨some 8, .pick (.t 5) (.t 7) (.c (.bool false)), none, 0, 0⟩, ⟨some 2, .mv (.t 8), none, 0, 0⟩])
 .ret)), [.t 2]⟩
theorem c143 : ∃ fn, Tryz.prog.funcs[143]? = some fn ∧ compFn Tryz.prog fn = some a143 := ⟨_, Tryz.func143, by kernel_rfl⟩
/-- slices.ContainsFunc[[]int,int] -/
def a144 : AFunc := ⟨9, (.seq (.reg [⟨some 4, .mv (.c (.bool false)), none, 0, 0⟩])
 (.seq (.reg [⟨some 5, .mv (.t 0), none, 0, 0⟩, ⟨some 6, .mv (.t 1), none, 0, 0⟩, ⟨some 7, .call (.c (.fn (.func 204) [] [])) [(.t 5), (.t 6)], none, 0, 0⟩, ⟨some 8, .bin .geq (.t 7) (.c (.int .i64 0)), none, 0, 0⟩, ⟨some 4, .mv (.t 8), none, 0, 0⟩])
 .ret)), [.t 4]⟩
theorem c144 : ∃ fn, Tryz.prog.funcs[144]? = some fn ∧ compFn Tryz.prog fn = some a144 := ⟨_, Tryz.func144, by kernel_rfl⟩
/-- slices.IndexFunc[[]gauger/api.Table,gauger/api.Table] -/
def a145 : AFunc := ⟨19, (.seq (.reg [⟨some 4, .mv (.c (.int .i64 0)), none, 0, 0⟩])
 (.seq (.seq (.reg [⟨some 6, .mv (.t 0), none, 0, 0⟩, ⟨some 7, .len 1 (.t 6), none, 0, 0⟩, ⟨some 8, .mv (.c (.int .i64 0)), none, 0, 0⟩])
 (.block 0 (.loop (.seq (.reg [⟨some 9, .bin .lss (.t 8) (.t 7), none, 0, 0⟩])
  (.seq (.cond (.t 9) (.skip)
   (.exit 0))
  (.seq (.block 1 (.seq (.reg [⟨some 10, .mv (.t 8), none, 0, 0⟩, ⟨some 5, .mv (.t 10), none, 0, 0⟩])
  (.seq (.reg [⟨some 11, .mv (.t 1), none, 0, 0⟩, ⟨some 12, .mv (.t 0), none, 0, 0⟩, ⟨some 13, .mv (.t 5), none, 0, 0⟩, ⟨some 14, .idxAddr 1 (.t 12) (.t 13), none, 0, 0⟩, ⟨some 15, .load (some 1) (.t 14), none, 0, 0⟩, ⟨some 16, .call (.t 11) [(.t 15)], none, 0, 0⟩])
  (.cond (.t 16) (.seq (.reg [⟨some 17, .mv (.t 5), none, 0, 0⟩, ⟨some 4, .mv (.t 17), none, 0, 0⟩])
   .ret)
   (.skip)))))
  (.reg [⟨some 18, .bin .add (.t 8) (.c (.int .i64 1)), none, 0, 0⟩, ⟨some 8, .mv (.t 18), none, 0, 0⟩])))))))
 (.seq (.reg [⟨some 4, .mv (.c (.int .i64 (-1))), none, 0, 0⟩])
 .ret))), [.t 4]⟩
theorem c145 : ∃ fn, Tryz.prog.funcs[145]? = some fn ∧ compFn Tryz.prog fn = some a145 := ⟨_, Tryz.func145, by kernel_rfl⟩
/-- slices.IndexFunc[[]gauger/api.View,gauger/api.View] -/
def a146 : AFunc := ⟨19, (.seq (.reg [⟨some 4, .mv (.c (.int .i64 0)), none, 0, 0⟩])
 (.seq (.seq (.reg [⟨some 6, .mv (.t 0), none, 0, 0⟩, ⟨some 7, .len 1 (.t 6), none, 0, 0⟩, ⟨some 8, .mv (.c (.int .i64 0)), none, 0, 0⟩])
 (.block 0 (.loop (.seq (.reg [⟨some 9, .bin .lss (.t 8) (.t 7), none, 0, 0⟩])
  (.seq (.cond (.t 9) (.skip)
   (.exit 0))
  (.seq (.block 1 (.seq (.reg [⟨some 10, .mv (.t 8), none, 0, 0⟩, ⟨some 5, .mv (.t 10), none, 0, 0⟩])
  (.seq (.reg [⟨some 11, .mv (.t 1), none, 0, 0⟩, ⟨some 12, .mv (.t 0), none, 0, 0⟩, ⟨some 13, .mv (.t 5), none, 0, 0⟩, ⟨some 14, .idxAddr 3 (.t 12) (.t 13), none, 0, 0⟩, ⟨some 15, .load (some 3) (.t 14), none, 0, 0⟩, ⟨some 16, .call (.t 11) [(.t 15)], none, 0, 0⟩])
  (.cond (.t 16) (.seq (.reg [⟨some 17, .mv (.t 5), none, 0, 0⟩, ⟨some 4, .mv (.t 17), none, 0, 0⟩])
   .ret)
   (.skip)))))
  (.reg [⟨some 18, .bin .add (.t 8) (.c (.int .i64 1)), none, 0, 0⟩, ⟨some 8, .mv (.t 18), none, 0, 0⟩])))))))
 (.seq (.reg [⟨some 4, .mv (.c (.int .i64 (-1))), none, 0, 0⟩])
 .ret))), [.t 4]⟩
theorem c146 : ∃ fn, Tryz.prog.funcs[146]? = some fn ∧ compFn Tryz.prog fn = some a146 := ⟨_, Tryz.func146, by kernel_rfl⟩
/-- slices.Clone[[][]gauger/api.Value,[]gauger/api.Value] -/
def a147 : AFunc := ⟨8, (.seq (.reg [⟨some 2, .mv (.c .nils), none, 0, 0⟩])
 (.seq (.seq (.reg [⟨some 3, .mv (.t 0), none, 0, 0⟩, ⟨some 4, .isNil 1 false (.t 3), none, 0, 0⟩])
 (.cond (.t 4) (.seq (.reg [⟨some 2, .mv (.c .nils), none, 0, 0⟩])
  .ret)
  (.skip)))
 (.seq (.reg [⟨some 5, .buildSl [.nils] 0 [], none, 0, 0⟩, ⟨some 6, .mv (.t 0), none, 0, 0⟩, ⟨some 7, .append 1 24 (.t 5) (.t 6), none, 0, 0⟩, ⟨some 2, .mv (.t 7), none, 0, 0⟩])
 .ret))), [.t 2]⟩
theorem c147 : ∃ fn, Tryz.prog.funcs[147]? = some fn ∧ compFn Tryz.prog fn = some a147 := ⟨_, Tryz.func147, by kernel_rfl⟩
/-- gauger/wish.ofView -/
def a148 : AFunc := ⟨50, (.seq (.reg [⟨some 2, .box (.t 0), none, 0, 0⟩, ⟨some 3, .box (.t 1), none, 0, 0⟩, ⟨some 4, .mv (.c (.bool false)), none, 0, 0⟩])
 (.seq (.seq (.reg [⟨some 7, .fieldAddr 1 (.t 3), none, 0, 0⟩, ⟨some 8, .load none (.t 7), none, 0, 0⟩, ⟨some 9, .bin .lss (.t 8) (.c (.int .i64 0)), none, 0, 0⟩, ⟨some 10, .mv (.t 9), none, 0, 0⟩, ⟨some 11, .fieldAddr 1 (.t 3), (some (10, false)), 0, 0⟩, ⟨some 12, .load none (.t 11), (some (10, false)), 0, 0⟩, ⟨some 13, .fieldAddr 1 (.t 2), (some (10, false)), 0, 0⟩, ⟨some 14, .load none (.t 13), (some (10, false)), 0, 0⟩, ⟨some 15, .len 1 (.t 14), (some (10, false)), 0, 0⟩, ⟨some 16, .bin .geq (.t 12) (.t 15), (some (10, false)), 0, 0⟩, ⟨some 17, .pick (.t 10) (.c (.bool true)) (.t 16), none, 0, 0⟩])
 (.cond (.t 17) (.seq (.reg [⟨some 4, .mv (.c (.bool false)), none, 0, 0⟩])
  .ret)
  (.skip)))
 (.seq (.reg [⟨some 18, .fieldAddr 1 (.t 2), none, 0, 0⟩, ⟨some 19, .load none (.t 18), none, 0, 0⟩, ⟨some 20, .fieldAddr 1 (.t 3), none, 0, 0⟩, ⟨some 21, .load none (.t 20), none, 0, 0⟩, ⟨some 22, .idxAddr 3 (.t 19) (.t 21), none, 0, 0⟩, ⟨some 23, .load (some 3) (.t 22), none, 0, 0⟩, ⟨some 5, .alloc [(.int .i64 0), (.int .i64 0), .nils], none, 0, 0⟩, ⟨none, .store 3 (.t 5) (.t 23), none, 0, 0⟩])
 (.seq (.dreg [⟨some 24, .fieldAddr 0 (.t 2), none, 0, 0⟩, ⟨some 25, .load none (.t 24), none, 0, 0⟩, ⟨some 26, .fieldAddr 0 (.t 5), none, 0, 0⟩, ⟨some 27, .load none (.t 26), none, 0, 0⟩, ⟨some 28, .idxAddr 1 (.t 25) (.t 27), none, 0, 0⟩, ⟨some 29, .fieldAddr 0 (.t 28), none, 0, 0⟩, ⟨some 30, .load none (.t 29), none, 0, 0⟩, ⟨some 31, .fieldAddr 1 (.t 5), none, 0, 0⟩, ⟨some 32, .load none (.t 31), none, 0, 0⟩, ⟨some 33, .idxAddr 1 (.t 30) (.t 32), none, 0, 0⟩, ⟨some 34, .load none (.t 33), none, 0, 0⟩, ⟨some 6, .mv (.t 34), none, 0, 0⟩])
 (.seq (.reg [⟨some 35, .fieldAddr 2 (.t 3), none, 0, 0⟩, ⟨some 36, .load (some 3) (.t 35), none, 0, 0⟩, ⟨some 37, .mv (.t 6), none, 0, 0⟩, ⟨some 38, .call (.c (.fn (.func 205) [] [])) [(.t 36), (.t 37)], none, 0, 0⟩, ⟨some 39, .mv (.t 38), none, 0, 0⟩, ⟨some 40, .fieldAddr 0 (.t 3), (some (39, true)), 0, 0⟩, ⟨some 41, .load none (.t 40), (some (39, true)), 0, 0⟩, ⟨some 42, .bin .eql (.t 41) (.c (.int .i64 6)), (some (39, true)), 0, 0⟩, ⟨some 43, .mv (.t 42), (some (39, true)), 0, 0⟩, ⟨some 44, .fieldAddr 5 (.t 3), (some (43, false)), 0, 0⟩, ⟨some 45, .load (some 3) (.t 44), (some (43, false)), 0, 0⟩, ⟨some 46, .mv (.t 6), (some (43, false)), 0, 0⟩, ⟨some 47, .call (.c (.fn (.func 205) [] [])) [(.t 45), (.t 46)], (some (43, false)), 0, 0⟩, ⟨some 48, .pick (.t 43) (.c (.bool true)) (.t 47), (some (39, true)), 0, 0⟩, ⟨some 49, .pick (.t 39) (.t 48) (.c (.bool false)), none, 0, 0⟩, ⟨some 4, .mv (.t 49), none, 0, 0⟩])
 .ret))))), [.t 4]⟩
theorem c148 : ∃ fn, Tryz.prog.funcs[148]? = some fn ∧ compFn Tryz.prog fn = some a148 := ⟨_, Tryz.func148, by kernel_rfl⟩
/-- gauger/wish.ofTable -/
def a149 : AFunc := ⟨97, (.seq (.reg [⟨some 2, .box (.t 0), none, 0, 0⟩, ⟨some 3, .box (.t 1), none, 0, 0⟩, ⟨some 4, .mv (.c (.bool false)), none, 0, 0⟩])
 (.seq (.seq (.reg [⟨some 6, .fieldAddr 1 (.t 3), none, 0, 0⟩, ⟨some 7, .load none (.t 6), none, 0, 0⟩, ⟨some 8, .bin .lss (.t 7) (.c (.int .i64 0)), none, 0, 0⟩, ⟨some 9, .mv (.t 8), none, 0, 0⟩, ⟨some 10, .fieldAddr 1 (.t 3), (some (9, false)), 0, 0⟩, ⟨some 11, .load none (.t 10), (some (9, false)), 0, 0⟩, ⟨some 12, .fieldAddr 0 (.t 2), (some (9, false)), 0, 0⟩, ⟨some 13, .load none (.t 12), (some (9, false)), 0, 0⟩, ⟨some 14, .len 1 (.t 13), (some (9, false)), 0, 0⟩, ⟨some 15, .bin .geq (.t 11) (.t 14), (some (9, false)), 0, 0⟩, ⟨some 16, .pick (.t 9) (.c (.bool true)) (.t 15), none, 0, 0⟩])
 (.cond (.t 16) (.seq (.reg [⟨some 4, .mv (.c (.bool false)), none, 0, 0⟩])
  .ret)
  (.skip)))
 (.seq (.reg [⟨some 17, .fieldAddr 0 (.t 2), none, 0, 0⟩, ⟨some 18, .load none (.t 17), none, 0, 0⟩, ⟨some 19, .fieldAddr 1 (.t 3), none, 0, 0⟩, ⟨some 20, .load none (.t 19), none, 0, 0⟩, ⟨some 21, .idxAddr 1 (.t 18) (.t 20), none, 0, 0⟩, ⟨some 22, .fieldAddr 0 (.t 21), none, 0, 0⟩, ⟨some 23, .load none (.t 22), none, 0, 0⟩, ⟨some 5, .mv (.t 23), none, 0, 0⟩])
 (.seq (.seq (.reg [⟨some 24, .fieldAddr 0 (.t 3), none, 0, 0⟩, ⟨some 25, .load none (.t 24), none, 0, 0⟩])
 (.block 0 (.seq (.reg [⟨some 27, .bin .eql (.t 25) (.c (.int .i64 1)), none, 0, 0⟩, ⟨some 26, .mv (.t 27), none, 0, 0⟩])
 (.cond (.t 26) (.seq (.reg [⟨some 28, .load (some 2) (.t 2), none, 0, 0⟩, ⟨some 29, .fieldAddr 1 (.t 3), none, 0, 0⟩, ⟨some 30, .load none (.t 29), none, 0, 0⟩, ⟨some 31, .fieldAddr 8 (.t 3), none, 0, 0⟩, ⟨some 32, .load none (.t 31), none, 0, 0⟩, ⟨some 33, .call (.c (.fn (.func 206) [] [])) [(.t 28), (.t 30), (.t 32)], none, 0, 0⟩, ⟨some 34, .bin .eql (.t 33) (.c (.int .i64 0)), none, 0, 0⟩, ⟨some 4, .mv (.t 34), none, 0, 0⟩])
  .ret)
  (.seq (.reg [⟨some 36, .bin .eql (.t 25) (.c (.int .i64 5)), none, 0, 0⟩, ⟨some 35, .mv (.t 36), none, 0, 0⟩])
  (.cond (.t 35) (.seq (.dreg [⟨some 37, .fieldAddr 2 (.t 3), none, 0, 0⟩, ⟨some 38, .load (some 3) (.t 37), none, 0, 0⟩, ⟨some 39, .mv (.t 5), none, 0, 0⟩, ⟨some 40, .idxAddr 1 (.t 39) (.c (.int .i64 0)), none, 0, 0⟩, ⟨some 41, .load none (.t 40), none, 0, 0⟩, ⟨some 42, .call (.c (.fn (.func 205) [] [])) [(.t 38), (.t 41)], none, 0, 0⟩, ⟨some 43, .mv (.t 42), none, 1, 1⟩, ⟨some 44, .fieldAddr 5 (.t 3), (some (43, true)), 1, 1⟩, ⟨some 45, .load (some 3) (.t 44), (some (43, true)), 1, 1⟩, ⟨some 46, .mv (.t 5), (some (43, true)), 1, 1⟩, ⟨some 47, .idxAddr 1 (.t 46) (.c (.int .i64 0)), (some (43, true)), 1, 1⟩, ⟨some 48, .load none (.t 47), (some (43, true)), 1, 1⟩, ⟨some 49, .call (.c (.fn (.func 205) [] [])) [(.t 45), (.t 48)], (some (43, true)), 0, 0⟩, ⟨some 50, .pick (.t 43) (.t 49) (.c (.bool false)), none, 2, 2⟩, ⟨some 4, .mv (.t 50), none, 2, 2⟩])
   .ret)
   (.seq (.reg [⟨some 52, .bin .eql (.t 25) (.c (.int .i64 3)), none, 0, 0⟩, ⟨some 51, .mv (.t 52), none, 0, 0⟩])
   (.cond (.t 51) (.seq (.dreg [⟨some 53, .fieldAddr 2 (.t 3), none, 0, 0⟩, ⟨some 54, .load (some 3) (.t 53), none, 0, 0⟩, ⟨some 55, .mv (.t 5), none, 0, 0⟩, ⟨some 56, .idxAddr 1 (.t 55) (.c (.int .i64 0)), none, 0, 0⟩, ⟨some 57, .load none (.t 56), none, 0, 0⟩, ⟨some 58, .call (.c (.fn (.func 205) [] [])) [(.t 54), (.t 57)], none, 0, 0⟩, ⟨some 59, .mv (.t 58), none, 1, 1⟩, ⟨some 60, .fieldAddr 9 (.t 3), (some (59, true)), 1, 1⟩, ⟨some 61, .load none (.t 60), (some (59, true)), 1, 1⟩, ⟨some 62, .bin .geq (.t 61) (.c (.int .i64 1)), (some (59, true)), 1, 1⟩, ⟨some 63, .pick (.t 59) (.t 62) (.c (.bool false)), none, 1, 1⟩, ⟨some 64, .mv (.t 63), none, 1, 1⟩, ⟨some 65, .fieldAddr 9 (.t 3), (some (64, true)), 1, 1⟩, ⟨some 66, .load none (.t 65), (some (64, true)), 1, 1⟩, ⟨some 67, .mv (.t 5), (some (64, true)), 1, 1⟩, ⟨some 68, .len 1 (.t 67), (some (64, true)), 1, 1⟩, ⟨some 69, .bin .lss (.t 66) (.t 68), (some (64, true)), 1, 1⟩, ⟨some 70, .pick (.t 64) (.t 69) (.c (.bool false)), none, 1, 1⟩, ⟨some 71, .mv (.t 70), none, 1, 1⟩, ⟨some 72, .fieldAddr 10 (.t 3), (some (71, true)), 1, 1⟩, ⟨some 73, .load (some 3) (.t 72), (some (71, true)), 1, 1⟩, ⟨some 74, .mv (.t 5), (some (71, true)), 1, 1⟩, ⟨some 75, .fieldAddr 9 (.t 3), (some (71, true)), 1, 1⟩, ⟨some 76, .load none (.t 75), (some (71, true)), 1, 1⟩, ⟨some 77, .idxAddr 1 (.t 74) (.t 76), (some (71, true)), 1, 1⟩, ⟨some 78, .load none (.t 77), (some (71, true)), 1, 1⟩, ⟨some 79, .call (.c (.fn (.func 205) [] [])) [(.t 73), (.t 78)], (some (71, true)), 0, 0⟩, ⟨some 80, .pick (.t 71) (.t 79) (.c (.bool false)), none, 2, 2⟩, ⟨some 4, .mv (.t 80), none, 2, 2⟩])
    .ret)
    (.seq (.reg [⟨some 82, .bin .eql (.t 25) (.c (.int .i64 10)), none, 0, 0⟩, ⟨some 81, .mv (.t 82), none, 0, 0⟩])
    (.cond (.t 81) (.seq (.reg [⟨some 83, .fieldAddr 13 (.t 3), none, 0, 0⟩, ⟨some 84, .load none (.t 83), none, 0, 0⟩, ⟨some 85, .bin .eql (.t 84) (.c (.int .i64 3)), none, 0, 0⟩, ⟨some 86, .mv (.t 85), none, 0, 0⟩, ⟨some 87, .fieldAddr 13 (.t 3), (some (86, false)), 0, 0⟩, ⟨some 88, .load none (.t 87), (some (86, false)), 0, 0⟩, ⟨some 89, .bin .eql (.t 88) (.c (.int .i64 5)), (some (86, false)), 0, 0⟩, ⟨some 90, .pick (.t 86) (.c (.bool true)) (.t 89), none, 0, 0⟩, ⟨some 4, .mv (.t 90), none, 0, 0⟩])
     .ret)
     (.skip)))))))))))
 (.seq (.dreg [⟨some 91, .fieldAddr 2 (.t 3), none, 0, 0⟩, ⟨some 92, .load (some 3) (.t 91), none, 0, 0⟩, ⟨some 93, .mv (.t 5), none, 0, 0⟩, ⟨some 94, .idxAddr 1 (.t 93) (.c (.int .i64 0)), none, 0, 0⟩, ⟨some 95, .load none (.t 94), none, 0, 0⟩, ⟨some 96, .call (.c (.fn (.func 205) [] [])) [(.t 92), (.t 95)], none, 0, 0⟩, ⟨some 4, .mv (.t 96), none, 1, 1⟩])
 .ret))))), [.t 4]⟩
theorem c149 : ∃ fn, Tryz.prog.funcs[149]? = some fn ∧ compFn Tryz.prog fn = some a149 := ⟨_, Tryz.func149, by kernel_rfl⟩
/-- (*gauger/model.DB).find -/
def a150 : AFunc := ⟨19, (.seq (.reg [⟨some 5, .box (.t 2), none, 0, 0⟩, ⟨some 6, .mv (.c (.int .i64 0)), none, 0, 0⟩, ⟨some 7, .mv (.c (.bool false)), none, 0, 0⟩])
 (.seq (.dreg [⟨some 8, .mv (.t 0), none, 0, 0⟩, ⟨some 9, .nilck (.t 8), none, 0, 0⟩, ⟨some 10, .fieldAddr 3 (.t 9), none, 0, 0⟩, ⟨some 11, .load none (.t 10), none, 0, 0⟩, ⟨some 12, .mv (.t 1), none, 0, 0⟩, ⟨some 13, .idxAddr 1 (.t 11) (.t 12), none, 0, 0⟩, ⟨some 14, .load none (.t 13), none, 0, 0⟩, ⟨some 15, .load (some 3) (.t 5), none, 0, 0⟩, ⟨some 16, .call (.c (.fn (.func 207) [] [])) [(.t 14), (.t 15), (.c (.fn (.func 208) [] []))], none, 0, 0⟩, ⟨some 17, .extract (.t 16) 0, none, 1, 1⟩, ⟨some 18, .extract (.t 16) 1, none, 1, 1⟩, ⟨some 6, .mv (.t 17), none, 1, 1⟩, ⟨some 7, .mv (.t 18), none, 1, 1⟩])
 .ret)), [.t 6, .t 7]⟩
theorem c150 : ∃ fn, Tryz.prog.funcs[150]? = some fn ∧ compFn Tryz.prog fn = some a150 := ⟨_, Tryz.func150, by kernel_rfl⟩
/-- (*gauger/model.DB).changed -/
def a151 : AFunc := ⟨41, (.seq (.reg [⟨some 6, .alloc [(.int .i64 0), .nils, .nils, (.int .i64 0)], none, 0, 0⟩])
 (.seq (.reg [⟨some 8, .mv (.t 0), none, 0, 0⟩, ⟨some 9, .nilck (.t 8), none, 0, 0⟩, ⟨some 10, .fieldAddr 3 (.t 9), none, 0, 0⟩, ⟨some 11, .load none (.t 10), none, 0, 0⟩, ⟨some 12, .mv (.t 1), none, 0, 0⟩, ⟨some 13, .idxAddr 1 (.t 11) (.t 12), none, 0, 0⟩, ⟨some 14, .load none (.t 13), none, 0, 0⟩, ⟨some 7, .mv (.t 14), none, 0, 0⟩])
 (.seq (.reg [⟨some 15, .mv (.t 0), none, 0, 0⟩, ⟨some 16, .nilck (.t 15), none, 0, 0⟩, ⟨some 17, .fieldAddr 3 (.t 16), none, 0, 0⟩, ⟨some 18, .load none (.t 17), none, 0, 0⟩, ⟨some 19, .mv (.t 1), none, 0, 0⟩, ⟨some 20, .mv (.t 2), none, 0, 0⟩, ⟨some 21, .idxAddr 1 (.t 18) (.t 19), none, 0, 0⟩, ⟨none, .store 1 (.t 21) (.t 20), none, 0, 0⟩])
 (.seq (.seq (.reg [⟨some 22, .mv (.t 0), none, 0, 0⟩, ⟨some 23, .nilck (.t 22), none, 0, 0⟩, ⟨some 24, .fieldAddr 2 (.t 23), none, 0, 0⟩, ⟨some 25, .load none (.t 24), none, 0, 0⟩, ⟨some 26, .un .not (.t 25), none, 0, 0⟩, ⟨some 27, .mv (.t 26), none, 0, 0⟩, ⟨some 28, .mv (.t 0), (some (27, true)), 0, 0⟩, ⟨some 29, .mv (.t 1), (some (27, true)), 0, 0⟩, ⟨some 30, .call (.c (.fn (.func 210) [] [])) [(.t 28), (.t 29)], (some (27, true)), 0, 0⟩, ⟨some 31, .pick (.t 27) (.t 30) (.c (.bool false)), none, 0, 0⟩])
 (.cond (.t 31) (.seq (.reg [⟨some 32, .mv (.t 0), none, 0, 0⟩, ⟨some 33, .nilck (.t 32), none, 0, 0⟩, ⟨some 34, .fieldAddr 3 (.t 33), none, 0, 0⟩, ⟨some 35, .load none (.t 34), none, 0, 0⟩, ⟨some 36, .mv (.t 1), none, 0, 0⟩, ⟨some 37, .mv (.t 7), none, 0, 0⟩, ⟨some 38, .idxAddr 1 (.t 35) (.t 36), none, 0, 0⟩, ⟨none, .store 1 (.t 38) (.t 37), none, 0, 0⟩])
  (.seq (.reg [⟨some 39, .build [(.int .i64 0), .nils, .nils, (.int .i64 0)] [(0, 1, (.c (.int .i64 8)))], none, 0, 0⟩, ⟨none, .store 4 (.t 6) (.t 39), none, 0, 0⟩])
  .ret))
  (.skip)))
 (.seq (.reg [⟨some 40, .build [(.int .i64 0), .nils, .nils, (.int .i64 0)] [], none, 0, 0⟩, ⟨none, .store 4 (.t 6) (.t 40), none, 0, 0⟩])
 .ret))))), [.cell 6 (some 4)]⟩
theorem c151 : ∃ fn, Tryz.prog.funcs[151]? = some fn ∧ compFn Tryz.prog fn = some a151 := ⟨_, Tryz.func151, by kernel_rfl⟩
/-- slices.Insert[[][]gauger/api.Value,[]gauger/api.Value] -/
def a152 : AFunc := ⟨95, (.seq (.reg [⟨some 6, .mv (.c .nils), none, 0, 0⟩])
 (.seq (.reg [⟨some 10, .mv (.t 0), none, 0, 0⟩, ⟨some 11, .mv (.t 1), none, 0, 0⟩, ⟨some 12, .slc 1 (.t 10) (some (.t 11)) none none, none, 0, 0⟩])
 (.seq (.reg [⟨some 13, .mv (.t 2), none, 0, 0⟩, ⟨some 14, .len 1 (.t 13), none, 0, 0⟩, ⟨some 7, .mv (.t 14), none, 0, 0⟩])
 (.seq (.seq (.reg [⟨some 15, .mv (.t 7), none, 0, 0⟩, ⟨some 16, .bin .eql (.t 15) (.c (.int .i64 0)), none, 0, 0⟩])
 (.cond (.t 16) (.seq (.reg [⟨some 17, .mv (.t 0), none, 0, 0⟩, ⟨some 6, .mv (.t 17), none, 0, 0⟩])
  .ret)
  (.skip)))
 (.seq (.reg [⟨some 18, .mv (.t 0), none, 0, 0⟩, ⟨some 19, .len 1 (.t 18), none, 0, 0⟩, ⟨some 8, .mv (.t 19), none, 0, 0⟩])
 (.seq (.seq (.reg [⟨some 20, .mv (.t 1), none, 0, 0⟩, ⟨some 21, .mv (.t 8), none, 0, 0⟩, ⟨some 22, .bin .eql (.t 20) (.t 21), none, 0, 0⟩])
 (.cond (.t 22) (.seq (.reg [⟨some 23, .mv (.t 0), none, 0, 0⟩, ⟨some 24, .mv (.t 2), none, 0, 0⟩, ⟨some 25, .append 1 24 (.t 23) (.t 24), none, 0, 0⟩, ⟨some 6, .mv (.t 25), none, 0, 0⟩])
  .ret)
  (.skip)))
 (.seq (.seq (.reg [⟨some 26, .mv (.t 8), none, 0, 0⟩, ⟨some 27, .mv (.t 7), none, 0, 0⟩, ⟨some 28, .bin .add (.t 26) (.t 27), none, 0, 0⟩, ⟨some 29, .mv (.t 0), none, 0, 0⟩, ⟨some 30, .bad, none, 0, 0⟩, ⟨some 31, .bin .gtr (.t 28) (.t 30), none, 0, 0⟩])
 (.cond (.t 31) (.seq (.reg [⟨some 32, .mv (.t 0), none, 0, 0⟩, ⟨some 33, .mv (.t 1), none, 0, 0⟩, ⟨some 34, .slc 1 (.t 32) none (some (.t 33)) none, none, 0, 0⟩, ⟨some 35, .mv (.t 8), none, 0, 0⟩, ⟨some 36, .mv (.t 7), none, 0, 0⟩, ⟨some 37, .bin .add (.t 35) (.t 36), none, 0, 0⟩, ⟨some 38, .mv (.t 1), none, 0, 0⟩, ⟨some 39, .bin .sub (.t 37) (.t 38), none, 0, 0⟩, ⟨some 40, .bad, none, 0, 0⟩, ⟨some 9, .mv (.t 40), none, 0, 0⟩])
  (.seq (.reg [⟨some 41, .mv (.t 9), none, 0, 0⟩, ⟨some 42, .mv (.t 1), none, 0, 0⟩, ⟨some 43, .slc 1 (.t 41) (some (.t 42)) none none, none, 0, 0⟩, ⟨some 44, .mv (.t 2), none, 0, 0⟩, ⟨some 45, .copy 1 (.t 43) (.t 44), none, 0, 0⟩])
  (.seq (.dreg [⟨some 46, .mv (.t 9), none, 0, 0⟩, ⟨some 47, .mv (.t 1), none, 0, 0⟩, ⟨some 48, .mv (.t 7), none, 0, 0⟩, ⟨some 49, .bin .add (.t 47) (.t 48), none, 0, 0⟩, ⟨some 50, .slc 1 (.t 46) (some (.t 49)) none none, none, 0, 0⟩, ⟨some 51, .mv (.t 0), none, 0, 0⟩, ⟨some 52, .mv (.t 1), none, 0, 0⟩, ⟨some 53, .slc 1 (.t 51) (some (.t 52)) none none, none, 0, 0⟩, ⟨some 54, .copy 1 (.t 50) (.t 53), none, 0, 0⟩])
  (.seq (.reg [⟨some 55, .mv (.t 9), none, 0, 0⟩, ⟨some 6, .mv (.t 55), none, 0, 0⟩])
  .ret))))
  (.skip)))
 (.seq (.reg [⟨some 56, .mv (.t 0), none, 0, 0⟩, ⟨some 57, .mv (.t 8), none, 0, 0⟩, ⟨some 58, .mv (.t 7), none, 0, 0⟩, ⟨some 59, .bin .add (.t 57) (.t 58), none, 0, 0⟩, ⟨some 60, .slc 1 (.t 56) none (some (.t 59)) none, none, 0, 0⟩, ⟨some 0, .mv (.t 60), none, 0, 0⟩])
 (.seq (.seq (.reg [⟨some 61, .mv (.t 2), none, 0, 0⟩, ⟨some 62, .mv (.t 0), none, 0, 0⟩, ⟨some 63, .mv (.t 1), none, 0, 0⟩, ⟨some 64, .mv (.t 7), none, 0, 0⟩, ⟨some 65, .bin .add (.t 63) (.t 64), none, 0, 0⟩, ⟨some 66, .slc 1 (.t 62) (some (.t 65)) none none, none, 0, 0⟩, ⟨some 67, .call (.c (.fn (.func 211) [] [])) [(.t 61), (.t 66)], none, 0, 0⟩, ⟨some 68, .un .not (.t 67), none, 0, 0⟩])
 (.cond (.t 68) (.seq (.dreg [⟨some 69, .mv (.t 0), none, 0, 0⟩, ⟨some 70, .mv (.t 1), none, 0, 0⟩, ⟨some 71, .mv (.t 7), none, 0, 0⟩, ⟨some 72, .bin .add (.t 70) (.t 71), none, 0, 0⟩, ⟨some 73, .slc 1 (.t 69) (some (.t 72)) none none, none, 0, 0⟩, ⟨some 74, .mv (.t 0), none, 0, 0⟩, ⟨some 75, .mv (.t 1), none, 0, 0⟩, ⟨some 76, .slc 1 (.t 74) (some (.t 75)) none none, none, 0, 0⟩, ⟨some 77, .copy 1 (.t 73) (.t 76), none, 0, 0⟩])
  (.seq (.reg [⟨some 78, .mv (.t 0), none, 0, 0⟩, ⟨some 79, .mv (.t 1), none, 0, 0⟩, ⟨some 80, .slc 1 (.t 78) (some (.t 79)) none none, none, 0, 0⟩, ⟨some 81, .mv (.t 2), none, 0, 0⟩, ⟨some 82, .copy 1 (.t 80) (.t 81), none, 0, 0⟩])
  (.seq (.reg [⟨some 83, .mv (.t 0), none, 0, 0⟩, ⟨some 6, .mv (.t 83), none, 0, 0⟩])
  .ret)))
  (.skip)))
 (.seq (.reg [⟨some 84, .mv (.t 0), none, 0, 0⟩, ⟨some 85, .mv (.t 8), none, 0, 0⟩, ⟨some 86, .slc 1 (.t 84) (some (.t 85)) none none, none, 0, 0⟩, ⟨some 87, .mv (.t 2), none, 0, 0⟩, ⟨some 88, .copy 1 (.t 86) (.t 87), none, 0, 0⟩])
 (.seq (.reg [⟨some 89, .mv (.t 0), none, 0, 0⟩, ⟨some 90, .mv (.t 1), none, 0, 0⟩, ⟨some 91, .slc 1 (.t 89) (some (.t 90)) none none, none, 0, 0⟩, ⟨some 92, .mv (.t 7), none, 0, 0⟩, ⟨some 93, .call (.c (.fn (.func 212) [] [])) [(.t 91), (.t 92)], none, 0, 0⟩])
 (.seq (.reg [⟨some 94, .mv (.t 0), none, 0, 0⟩, ⟨some 6, .mv (.t 94), none, 0, 0⟩])
 .ret)))))))))))), [.t 6]⟩
theorem c152 : ∃ fn, Tryz.prog.funcs[152]? = some fn ∧ compFn Tryz.prog fn = some a152 := ⟨_, Tryz.func152, by kernel_rfl⟩
/-- slices.Delete[[][]gauger/api.Value,[]gauger/api.Value] -/
def a153 : AFunc := ⟨33, (.seq (.reg [⟨some 6, .mv (.c .nils), none, 0, 0⟩])
 (.seq (.reg [⟨some 8, .mv (.t 0), none, 0, 0⟩, ⟨some 9, .mv (.t 1), none, 0, 0⟩, ⟨some 10, .mv (.t 2), none, 0, 0⟩, ⟨some 11, .mv (.t 0), none, 0, 0⟩, ⟨some 12, .len 1 (.t 11), none, 0, 0⟩, ⟨some 13, .slc 1 (.t 8) (some (.t 9)) (some (.t 10)) (some (.t 12)), none, 0, 0⟩])
 (.seq (.seq (.reg [⟨some 14, .mv (.t 1), none, 0, 0⟩, ⟨some 15, .mv (.t 2), none, 0, 0⟩, ⟨some 16, .bin .eql (.t 14) (.t 15), none, 0, 0⟩])
 (.cond (.t 16) (.seq (.reg [⟨some 17, .mv (.t 0), none, 0, 0⟩, ⟨some 6, .mv (.t 17), none, 0, 0⟩])
  .ret)
  (.skip)))
 (.seq (.reg [⟨some 18, .mv (.t 0), none, 0, 0⟩, ⟨some 19, .len 1 (.t 18), none, 0, 0⟩, ⟨some 7, .mv (.t 19), none, 0, 0⟩])
 (.seq (.dreg [⟨some 20, .mv (.t 0), none, 0, 0⟩, ⟨some 21, .mv (.t 1), none, 0, 0⟩, ⟨some 22, .slc 1 (.t 20) none (some (.t 21)) none, none, 0, 0⟩, ⟨some 23, .mv (.t 0), none, 0, 0⟩, ⟨some 24, .mv (.t 2), none, 0, 0⟩, ⟨some 25, .slc 1 (.t 23) (some (.t 24)) none none, none, 0, 0⟩, ⟨some 26, .append 1 24 (.t 22) (.t 25), none, 0, 0⟩, ⟨some 0, .mv (.t 26), none, 1, 1⟩])
 (.seq (.reg [⟨some 27, .mv (.t 0), none, 0, 0⟩, ⟨some 28, .mv (.t 0), none, 0, 0⟩, ⟨some 29, .len 1 (.t 28), none, 0, 0⟩, ⟨some 30, .mv (.t 7), none, 0, 0⟩, ⟨some 31, .slc 1 (.t 27) (some (.t 29)) (some (.t 30)) none, none, 0, 0⟩, ⟨none, .bad, none, 0, 0⟩])
 (.seq (.reg [⟨some 32, .mv (.t 0), none, 0, 0⟩, ⟨some 6, .mv (.t 32), none, 0, 0⟩])
 .ret))))))), [.t 6]⟩
theorem c153 : ∃ fn, Tryz.prog.funcs[153]? = some fn ∧ compFn Tryz.prog fn = some a153 := ⟨_, Tryz.func153, by kernel_rfl⟩
/-- gauger/model.isIn -/
def a154 : AFunc := ⟨17, (.seq (.reg [⟨some 3, .box (.t 0), none, 0, 0⟩, ⟨some 4, .box (.t 1), none, 0, 0⟩, ⟨some 5, .box (.t 2), none, 0, 0⟩, ⟨some 6, .mv (.c (.bool false)), none, 0, 0⟩])
 (.seq (.reg [⟨some 7, .load (some 3) (.t 3), none, 0, 0⟩, ⟨some 8, .load (some 3) (.t 4), none, 0, 0⟩, ⟨some 9, .call (.c (.fn (.func 209) [] [])) [(.t 7), (.t 8)], none, 0, 0⟩, ⟨some 10, .bin .geq (.t 9) (.c (.int .i64 0)), none, 0, 0⟩, ⟨some 11, .mv (.t 10), none, 0, 0⟩, ⟨some 12, .load (some 3) (.t 3), (some (11, true)), 0, 0⟩, ⟨some 13, .load (some 3) (.t 5), (some (11, true)), 0, 0⟩, ⟨some 14, .call (.c (.fn (.func 209) [] [])) [(.t 12), (.t 13)], (some (11, true)), 0, 0⟩, ⟨some 15, .bin .leq (.t 14) (.c (.int .i64 0)), (some (11, true)), 0, 0⟩, ⟨some 16, .pick (.t 11) (.t 15) (.c (.bool false)), none, 0, 0⟩, ⟨some 6, .mv (.t 16), none, 0, 0⟩])
 .ret)), [.t 6]⟩
theorem c154 : ∃ fn, Tryz.prog.funcs[154]? = some fn ∧ compFn Tryz.prog fn = some a154 := ⟨_, Tryz.func154, by kernel_rfl⟩
/-- gauger/sign.Read -/
def a155 : AFunc := ⟨71, (.seq (.reg [⟨some 2, .alloc [(.int .i64 0), (.int .i64 0), (.str [])], none, 0, 0⟩, ⟨some 3, .mv (.c (.int .i64 0)), none, 0, 0⟩])
 (.seq (.seq (.reg [⟨some 11, .mv (.t 0), none, 0, 0⟩, ⟨some 12, .len 0 (.t 11), none, 0, 0⟩, ⟨some 13, .bin .neq (.t 12) (.c (.int .i64 9)), none, 0, 0⟩])
 (.cond (.t 13) (.seq (.reg [⟨some 14, .build [(.int .i64 0), (.int .i64 0), (.str [])] [], none, 0, 0⟩, ⟨none, .store 3 (.t 2) (.t 14), none, 0, 0⟩, ⟨some 3, .mv (.c (.int .i64 3)), none, 0, 0⟩])
  .ret)
  (.skip)))
 (.seq (.reg [⟨some 15, .mv (.t 0), none, 0, 0⟩, ⟨some 16, .idxS (.t 15) (.c (.int .i64 0)), none, 0, 0⟩, ⟨some 17, .conv .i64 (.t 16), none, 0, 0⟩, ⟨some 18, .build [(.int .i64 0), (.int .i64 0), (.str [])] [(0, 1, (.t 17))], none, 0, 0⟩, ⟨some 4, .alloc [(.int .i64 0), (.int .i64 0), (.str [])], none, 0, 0⟩, ⟨none, .store 3 (.t 4) (.t 18), none, 0, 0⟩])
 (.seq (.reg [⟨some 19, .mv (.t 0), none, 0, 0⟩, ⟨some 20, .idxS (.t 19) (.c (.int .i64 8)), none, 0, 0⟩, ⟨some 21, .conv .i64 (.t 20), none, 0, 0⟩, ⟨some 5, .mv (.t 21), none, 0, 0⟩])
 (.seq (.block 0 (.seq (.reg [⟨some 23, .fieldAddr 0 (.t 4), none, 0, 0⟩, ⟨some 24, .load none (.t 23), none, 0, 0⟩, ⟨some 25, .bin .eql (.t 24) (.c (.int .i64 1)), none, 0, 0⟩, ⟨some 22, .mv (.t 25), none, 0, 0⟩])
 (.cond (.t 22) (.seq (.reg [⟨some 6, .mv (.c (.int .u64 0)), none, 0, 0⟩])
  (.seq (.seq (.reg [⟨some 26, .mv (.t 0), none, 0, 0⟩, ⟨some 27, .slcS (.t 26) (some (.c (.int .i64 1))) none, none, 0, 0⟩, ⟨some 28, .s2b (.t 27), none, 0, 0⟩, ⟨some 29, .len 1 (.t 28), none, 0, 0⟩, ⟨some 30, .mv (.c (.int .i64 0)), none, 0, 0⟩])
  (.block 1 (.loop (.seq (.reg [⟨some 31, .bin .lss (.t 30) (.t 29), none, 0, 0⟩])
   (.seq (.cond (.t 31) (.skip)
    (.exit 1))
   (.seq (.block 2 (.seq (.reg [⟨some 32, .idxAddr 1 (.t 28) (.t 30), none, 0, 0⟩, ⟨some 33, .load none (.t 32), none, 0, 0⟩, ⟨some 8, .mv (.t 33), none, 0, 0⟩])
   (.reg [⟨some 34, .mv (.t 6), none, 0, 0⟩, ⟨some 35, .bin .shl (.t 34) (.c (.int .u64 8)), none, 0, 0⟩, ⟨some 36, .mv (.t 8), none, 0, 0⟩, ⟨some 37, .conv .u64 (.t 36), none, 0, 0⟩, ⟨some 38, .bin .or (.t 35) (.t 37), none, 0, 0⟩, ⟨some 6, .mv (.t 38), none, 0, 0⟩])))
   (.reg [⟨some 39, .bin .add (.t 30) (.c (.int .i64 1)), none, 0, 0⟩, ⟨some 30, .mv (.t 39), none, 0, 0⟩])))))))
  (.reg [⟨some 40, .mv (.t 6), none, 0, 0⟩, ⟨some 41, .bin .xor (.t 40) (.c (.int .u64 9223372036854775808)), none, 0, 0⟩, ⟨some 42, .conv .i64 (.t 41), none, 0, 0⟩, ⟨some 43, .fieldAddr 1 (.t 4), none, 0, 0⟩, ⟨none, .store 1 (.t 43) (.t 42), none, 0, 0⟩])))
  (.seq (.reg [⟨some 45, .fieldAddr 0 (.t 4), none, 0, 0⟩, ⟨some 46, .load none (.t 45), none, 0, 0⟩, ⟨some 47, .bin .eql (.t 46) (.c (.int .i64 2)), none, 0, 0⟩, ⟨some 48, .mv (.t 47), none, 0, 0⟩, ⟨some 49, .mv (.t 5), (some (48, true)), 0, 0⟩, ⟨some 50, .bin .leq (.t 49) (.c (.int .i64 7)), (some (48, true)), 0, 0⟩, ⟨some 51, .pick (.t 48) (.t 50) (.c (.bool false)), none, 0, 0⟩, ⟨some 44, .mv (.t 51), none, 0, 0⟩])
  (.cond (.t 44) (.reg [⟨some 52, .mv (.t 0), none, 0, 0⟩, ⟨some 53, .mv (.t 5), none, 0, 0⟩, ⟨some 54, .bin .add (.c (.int .i64 1)) (.t 53), none, 0, 0⟩, ⟨some 55, .slcS (.t 52) (some (.c (.int .i64 1))) (some (.t 54)), none, 0, 0⟩, ⟨some 56, .fieldAddr 2 (.t 4), none, 0, 0⟩, ⟨none, .store 1 (.t 56) (.t 55), none, 0, 0⟩])
   (.skip))))))
 (.seq (.seq (.reg [⟨some 58, .load (some 3) (.t 4), none, 0, 0⟩, ⟨some 59, .call (.c (.fn (.func 213) [] [])) [(.t 58)], none, 0, 0⟩, ⟨some 57, .mv (.t 59), none, 0, 0⟩, ⟨some 60, .extract (.t 57) 0, none, 0, 0⟩, ⟨some 61, .extract (.t 57) 1, none, 0, 0⟩, ⟨some 9, .mv (.t 60), none, 0, 0⟩, ⟨some 10, .mv (.t 61), none, 0, 0⟩])
 (.seq (.reg [⟨some 62, .mv (.t 10), none, 0, 0⟩, ⟨some 63, .bin .neq (.t 62) (.c (.int .i64 0)), none, 0, 0⟩, ⟨some 64, .mv (.t 63), none, 0, 0⟩, ⟨some 65, .mv (.t 9), (some (64, false)), 0, 0⟩, ⟨some 66, .mv (.t 0), (some (64, false)), 0, 0⟩, ⟨some 67, .bin .neq (.t 65) (.t 66), (some (64, false)), 0, 0⟩, ⟨some 68, .pick (.t 64) (.c (.bool true)) (.t 67), none, 0, 0⟩])
 (.cond (.t 68) (.seq (.reg [⟨some 69, .build [(.int .i64 0), (.int .i64 0), (.str [])] [], none, 0, 0⟩, ⟨none, .store 3 (.t 2) (.t 69), none, 0, 0⟩, ⟨some 3, .mv (.c (.int .i64 3)), none, 0, 0⟩])
  .ret)
  (.skip))))
 (.seq (.reg [⟨some 70, .load (some 3) (.t 4), none, 0, 0⟩, ⟨none, .store 3 (.t 2) (.t 70), none, 0, 0⟩, ⟨some 3, .mv (.c (.int .i64 0)), none, 0, 0⟩])
 .ret))))))), [.cell 2 (some 3), .t 3]⟩
theorem c155 : ∃ fn, Tryz.prog.funcs[155]? = some fn ∧ compFn Tryz.prog fn = some a155 := ⟨_, Tryz.func155, by kernel_rfl⟩
/-- (gauger/delta.sums).add -/
def a162 : AFunc := ⟨43, (.seq (.reg [⟨some 6, .box (.t 1), none, 0, 0⟩])
 (.seq (.reg [⟨some 14, .load (some 2) (.t 6), none, 0, 0⟩, ⟨some 15, .mv (.t 2), none, 0, 0⟩, ⟨some 16, .mv (.t 3), none, 0, 0⟩, ⟨some 17, .call (.c (.fn (.func 218) [] [])) [(.t 14), (.t 15), (.t 16)], none, 0, 0⟩, ⟨some 10, .mv (.t 17), none, 0, 0⟩])
 (.seq (.seq (.reg [⟨some 18, .mv (.t 10), none, 0, 0⟩, ⟨some 19, .bin .eql (.t 18) (.c (.str [])), none, 0, 0⟩])
 (.cond (.t 19) .ret
  (.skip)))
 (.seq (.reg [⟨some 20, .fieldAddr 1 (.t 6), none, 0, 0⟩, ⟨some 21, .load none (.t 20), none, 0, 0⟩, ⟨some 22, .mv (.t 2), none, 0, 0⟩, ⟨some 23, .idxAddr 3 (.t 21) (.t 22), none, 0, 0⟩, ⟨some 24, .load (some 3) (.t 23), none, 0, 0⟩, ⟨some 25, .mv (.t 3), none, 0, 0⟩, ⟨some 26, .call (.c (.fn (.func 219) [] [])) [(.t 24), (.t 25)], none, 0, 0⟩, ⟨some 11, .alloc [(.int .i64 0), (.int .u64 0), .nils], none, 0, 0⟩, ⟨none, .store 3 (.t 11) (.t 26), none, 0, 0⟩])
 (.seq (.seq (.reg [⟨some 27, .mv (.t 4), none, 0, 0⟩])
 (.cond (.t 27) (.reg [⟨some 28, .load (some 3) (.t 11), none, 0, 0⟩, ⟨some 29, .call (.c (.fn (.func 220) [] [])) [(.t 28)], none, 0, 0⟩, ⟨none, .store 3 (.t 11) (.t 29), none, 0, 0⟩])
  (.skip)))
 (.seq (.seq (.reg [⟨some 31, .mv (.t 0), none, 0, 0⟩, ⟨some 32, .mv (.t 10), none, 0, 0⟩, ⟨some 33, .lookup (.agg [(.int .i64 0), (.int .u64 0), .nils]) 2 (.t 31) (.t 32) true, none, 0, 0⟩, ⟨some 30, .mv (.t 33), none, 0, 0⟩, ⟨some 34, .extract (.t 30) 0, none, 0, 0⟩, ⟨some 35, .extract (.t 30) 1, none, 0, 0⟩, ⟨some 12, .alloc [(.int .i64 0), (.int .u64 0), .nils], none, 0, 0⟩, ⟨none, .store 3 (.t 12) (.t 34), none, 0, 0⟩, ⟨some 13, .mv (.t 35), none, 0, 0⟩])
 (.seq (.reg [⟨some 36, .mv (.t 13), none, 0, 0⟩])
 (.cond (.t 36) (.reg [⟨some 37, .load (some 3) (.t 12), none, 0, 0⟩, ⟨some 38, .load (some 3) (.t 11), none, 0, 0⟩, ⟨some 39, .call (.c (.fn (.func 221) [] [])) [(.t 37), (.t 38)], none, 0, 0⟩, ⟨none, .store 3 (.t 11) (.t 39), none, 0, 0⟩])
  (.skip))))
 (.reg [⟨some 40, .mv (.t 0), none, 0, 0⟩, ⟨some 41, .mv (.t 10), none, 0, 0⟩, ⟨some 42, .load (some 3) (.t 11), none, 0, 0⟩, ⟨none, .mapUpd 2 (.t 40) (.t 41) (.t 42), none, 0, 0⟩]))))))), []⟩
theorem c162 : ∃ fn, Tryz.prog.funcs[162]? = some fn ∧ compFn Tryz.prog fn = some a162 := ⟨_, Tryz.func162, by kernel_rfl⟩
/-- (gauger/delta.sums).groups -/
def a163 : AFunc := ⟨30, (.seq (.reg [⟨some 4, .mv (.c .nils), none, 0, 0⟩])
 (.seq (.seq (.reg [⟨some 7, .mv (.t 0), none, 0, 0⟩, ⟨some 8, .call (.c (.fn (.func 223) [] [])) [(.t 7)], none, 0, 0⟩, ⟨some 9, .call (.c (.fn (.func 222) [] [])) [(.t 8)], none, 0, 0⟩, ⟨some 10, .len 1 (.t 9), none, 0, 0⟩, ⟨some 11, .mv (.c (.int .i64 0)), none, 0, 0⟩])
 (.block 0 (.loop (.seq (.reg [⟨some 12, .bin .lss (.t 11) (.t 10), none, 0, 0⟩])
  (.seq (.cond (.t 12) (.skip)
   (.exit 0))
  (.seq (.block 1 (.seq (.reg [⟨some 13, .idxAddr 1 (.t 9) (.t 11), none, 0, 0⟩, ⟨some 14, .load none (.t 13), none, 0, 0⟩, ⟨some 6, .mv (.t 14), none, 0, 0⟩])
  (.seq (.reg [⟨some 15, .mv (.t 1), none, 0, 0⟩, ⟨some 16, .mv (.t 0), none, 0, 0⟩, ⟨some 17, .mv (.t 6), none, 0, 0⟩, ⟨some 18, .lookup (.agg [(.int .i64 0), (.int .u64 0), .nils]) 2 (.t 16) (.t 17) false, none, 0, 0⟩, ⟨some 19, .call (.t 15) [(.t 18)], none, 0, 0⟩])
  (.cond (.t 19) (.reg [⟨some 20, .mv (.t 4), none, 0, 0⟩, ⟨some 21, .mv (.t 6), none, 0, 0⟩, ⟨some 22, .mv (.t 0), none, 0, 0⟩, ⟨some 23, .mv (.t 6), none, 0, 0⟩, ⟨some 24, .lookup (.agg [(.int .i64 0), (.int .u64 0), .nils]) 2 (.t 22) (.t 23) false, none, 0, 0⟩, ⟨some 25, .build [(.str []), (.int .i64 0), (.int .u64 0), .nils] [(0, 1, (.t 21)), (1, 3, (.t 24))], none, 0, 0⟩, ⟨some 26, .buildSl [(.str []), (.int .i64 0), (.int .u64 0), .nils] 1 [(0, (.t 25))], none, 0, 0⟩, ⟨some 27, .append 4 56 (.t 20) (.t 26), none, 0, 0⟩, ⟨some 4, .mv (.t 27), none, 0, 0⟩])
   (.skip)))))
  (.reg [⟨some 28, .bin .add (.t 11) (.c (.int .i64 1)), none, 0, 0⟩, ⟨some 11, .mv (.t 28), none, 0, 0⟩])))))))
 (.seq (.reg [⟨some 29, .mv (.t 4), none, 0, 0⟩, ⟨some 4, .mv (.t 29), none, 0, 0⟩])
 .ret))), [.t 4]⟩
theorem c163 : ∃ fn, Tryz.prog.funcs[163]? = some fn ∧ compFn Tryz.prog fn = some a163 := ⟨_, Tryz.func163, by kernel_rfl⟩
/-- gauger/delta.View$1 -/
def a164 : AFunc := ⟨3, (.seq (.reg [⟨some 1, .box (.t 0), none, 0, 0⟩, ⟨some 2, .mv (.c (.bool false)), none, 0, 0⟩])
 (.seq (.reg [⟨some 2, .mv (.c (.bool true)), none, 0, 0⟩])
 .ret)), [.t 2]⟩
theorem c164 : ∃ fn, Tryz.prog.funcs[164]? = some fn ∧ compFn Tryz.prog fn = some a164 := ⟨_, Tryz.func164, by kernel_rfl⟩
/-- (*strings.Builder).WriteString -/
def a176 : AFunc := ⟨19, (.seq (.reg [⟨some 4, .mv (.c (.int .i64 0)), none, 0, 0⟩, ⟨some 5, .bad, none, 0, 0⟩])
 (.seq (.reg [⟨some 6, .mv (.t 0), none, 0, 0⟩, ⟨some 7, .call (.c (.fn (.func 238) [] [])) [(.t 6)], none, 0, 0⟩])
 (.seq (.reg [⟨some 8, .mv (.t 0), none, 0, 0⟩, ⟨some 9, .mv (.t 0), none, 0, 0⟩, ⟨some 10, .nilck (.t 9), none, 0, 0⟩, ⟨some 11, .fieldAddr 1 (.t 10), none, 0, 0⟩, ⟨some 12, .load none (.t 11), none, 0, 0⟩, ⟨some 13, .mv (.t 1), none, 0, 0⟩, ⟨some 14, .append 1 1 (.t 12) (.t 13), none, 0, 0⟩, ⟨some 15, .nilck (.t 8), none, 0, 0⟩, ⟨some 16, .fieldAddr 1 (.t 15), none, 0, 0⟩, ⟨none, .store 1 (.t 16) (.t 14), none, 0, 0⟩])
 (.seq (.reg [⟨some 17, .mv (.t 1), none, 0, 0⟩, ⟨some 18, .len 0 (.t 17), none, 0, 0⟩, ⟨some 4, .mv (.t 18), none, 0, 0⟩, ⟨some 5, .bad, none, 0, 0⟩])
 .ret)))), [.t 4, .t 5]⟩
theorem c176 : ∃ fn, Tryz.prog.funcs[176]? = some fn ∧ compFn Tryz.prog fn = some a176 := ⟨_, Tryz.func176, by kernel_rfl⟩
/-- (*strings.Builder).String -/
def a178 : AFunc := ⟨14, (.seq (.reg [⟨some 2, .mv (.c (.str [])), none, 0, 0⟩])
 (.seq (.dreg [⟨some 3, .mv (.t 0), none, 0, 0⟩, ⟨some 4, .nilck (.t 3), none, 0, 0⟩, ⟨some 5, .fieldAddr 1 (.t 4), none, 0, 0⟩, ⟨some 6, .load none (.t 5), none, 0, 0⟩, ⟨some 7, .bad, none, 0, 0⟩, ⟨some 8, .mv (.t 0), none, 0, 0⟩, ⟨some 9, .nilck (.t 8), none, 0, 0⟩, ⟨some 10, .fieldAddr 1 (.t 9), none, 0, 0⟩, ⟨some 11, .load none (.t 10), none, 0, 0⟩, ⟨some 12, .len 1 (.t 11), none, 0, 0⟩, ⟨some 13, .bad, none, 0, 0⟩, ⟨some 2, .mv (.t 13), none, 0, 0⟩])
 .ret)), [.t 2]⟩
theorem c178 : ∃ fn, Tryz.prog.funcs[178]? = some fn ∧ compFn Tryz.prog fn = some a178 := ⟨_, Tryz.func178, by kernel_rfl⟩
/-- gauger/witness.same -/
def a197 : AFunc := ⟨33, (.seq (.reg [⟨some 2, .box (.t 0), none, 0, 0⟩, ⟨some 3, .box (.t 1), none, 0, 0⟩, ⟨some 4, .mv (.c (.bool false)), none, 0, 0⟩])
 (.seq (.reg [⟨some 5, .mv (.c (.fn (.func 254) [] [])), none, 0, 0⟩])
 (.seq (.reg [⟨some 6, .fieldAddr 0 (.t 2), none, 0, 0⟩, ⟨some 7, .load none (.t 6), none, 0, 0⟩, ⟨some 8, .fieldAddr 0 (.t 3), none, 0, 0⟩, ⟨some 9, .load none (.t 8), none, 0, 0⟩, ⟨some 10, .bin .eql (.t 7) (.t 9), none, 0, 0⟩, ⟨some 11, .mv (.t 10), none, 0, 0⟩, ⟨some 12, .fieldAddr 3 (.t 2), (some (11, true)), 0, 0⟩, ⟨some 13, .load none (.t 12), (some (11, true)), 0, 0⟩, ⟨some 14, .fieldAddr 3 (.t 3), (some (11, true)), 0, 0⟩, ⟨some 15, .load none (.t 14), (some (11, true)), 0, 0⟩, ⟨some 16, .bin .eql (.t 13) (.t 15), (some (11, true)), 0, 0⟩, ⟨some 17, .pick (.t 11) (.t 16) (.c (.bool false)), none, 0, 0⟩, ⟨some 18, .mv (.t 17), none, 0, 0⟩, ⟨some 19, .fieldAddr 1 (.t 2), (some (18, true)), 0, 0⟩, ⟨some 20, .load none (.t 19), (some (18, true)), 0, 0⟩, ⟨some 21, .fieldAddr 1 (.t 3), (some (18, true)), 0, 0⟩, ⟨some 22, .load none (.t 21), (some (18, true)), 0, 0⟩, ⟨some 23, .mv (.t 5), (some (18, true)), 0, 0⟩, ⟨some 24, .call (.c (.fn (.func 99) [] [])) [(.t 20), (.t 22), (.t 23)], (some (18, true)), 0, 0⟩, ⟨some 25, .pick (.t 18) (.t 24) (.c (.bool false)), none, 0, 0⟩, ⟨some 26, .mv (.t 25), none, 0, 0⟩, ⟨some 27, .fieldAddr 2 (.t 2), (some (26, true)), 0, 0⟩, ⟨some 28, .load none (.t 27), (some (26, true)), 0, 0⟩, ⟨some 29, .fieldAddr 2 (.t 3), (some (26, true)), 0, 0⟩, ⟨some 30, .load none (.t 29), (some (26, true)), 0, 0⟩, ⟨some 31, .call (.c (.fn (.func 255) [] [])) [(.t 28), (.t 30), (.c (.fn (.func 256) [] []))], (some (26, true)), 0, 0⟩, ⟨some 32, .pick (.t 26) (.t 31) (.c (.bool false)), none, 0, 0⟩, ⟨some 4, .mv (.t 32), none, 0, 0⟩])
 .ret))), [.t 4]⟩
theorem c197 : ∃ fn, Tryz.prog.funcs[197]? = some fn ∧ compFn Tryz.prog fn = some a197 := ⟨_, Tryz.func197, by kernel_rfl⟩
/-- slices.Clone[[]gauger/wish.Sum,gauger/wish.Sum] -/
def a201 : AFunc := ⟨8, (.seq (.reg [⟨some 2, .mv (.c .nils), none, 0, 0⟩])
 (.seq (.seq (.reg [⟨some 3, .mv (.t 0), none, 0, 0⟩, ⟨some 4, .isNil 1 false (.t 3), none, 0, 0⟩])
 (.cond (.t 4) (.seq (.reg [⟨some 2, .mv (.c .nils), none, 0, 0⟩])
  .ret)
  (.skip)))
 (.seq (.reg [⟨some 5, .buildSl [(.int .i64 0), (.int .i64 0), (.str []), (.int .i64 0), .nils] 0 [], none, 0, 0⟩, ⟨some 6, .mv (.t 0), none, 0, 0⟩, ⟨some 7, .append 5 64 (.t 5) (.t 6), none, 0, 0⟩, ⟨some 2, .mv (.t 7), none, 0, 0⟩])
 .ret))), [.t 2]⟩
theorem c201 : ∃ fn, Tryz.prog.funcs[201]? = some fn ∧ compFn Tryz.prog fn = some a201 := ⟨_, Tryz.func201, by kernel_rfl⟩
/-- slices.Clone[[]int,int] -/
def a202 : AFunc := ⟨8, (.seq (.reg [⟨some 2, .mv (.c .nils), none, 0, 0⟩])
 (.seq (.seq (.reg [⟨some 3, .mv (.t 0), none, 0, 0⟩, ⟨some 4, .isNil 1 false (.t 3), none, 0, 0⟩])
 (.cond (.t 4) (.seq (.reg [⟨some 2, .mv (.c .nils), none, 0, 0⟩])
  .ret)
  (.skip)))
 (.seq (.reg [⟨some 5, .buildSl [(.int .i64 0)] 0 [], none, 0, 0⟩, ⟨some 6, .mv (.t 0), none, 0, 0⟩, ⟨some 7, .append 1 8 (.t 5) (.t 6), none, 0, 0⟩, ⟨some 2, .mv (.t 7), none, 0, 0⟩])
 .ret))), [.t 2]⟩
theorem c202 : ∃ fn, Tryz.prog.funcs[202]? = some fn ∧ compFn Tryz.prog fn = some a202 := ⟨_, Tryz.func202, by kernel_rfl⟩
/-- slices.IndexFunc[[]int,int] -/
def a204 : AFunc := ⟨19, (.seq (.reg [⟨some 4, .mv (.c (.int .i64 0)), none, 0, 0⟩])
 (.seq (.seq (.reg [⟨some 6, .mv (.t 0), none, 0, 0⟩, ⟨some 7, .len 1 (.t 6), none, 0, 0⟩, ⟨some 8, .mv (.c (.int .i64 0)), none, 0, 0⟩])
 (.block 0 (.loop (.seq (.reg [⟨some 9, .bin .lss (.t 8) (.t 7), none, 0, 0⟩])
  (.seq (.cond (.t 9) (.skip)
   (.exit 0))
  (.seq (.block 1 (.seq (.reg [⟨some 10, .mv (.t 8), none, 0, 0⟩, ⟨some 5, .mv (.t 10), none, 0, 0⟩])
  (.seq (.reg [⟨some 11, .mv (.t 1), none, 0, 0⟩, ⟨some 12, .mv (.t 0), none, 0, 0⟩, ⟨some 13, .mv (.t 5), none, 0, 0⟩, ⟨some 14, .idxAddr 1 (.t 12) (.t 13), none, 0, 0⟩, ⟨some 15, .load none (.t 14), none, 0, 0⟩, ⟨some 16, .call (.t 11) [(.t 15)], none, 0, 0⟩])
  (.cond (.t 16) (.seq (.reg [⟨some 17, .mv (.t 5), none, 0, 0⟩, ⟨some 4, .mv (.t 17), none, 0, 0⟩])
   .ret)
   (.skip)))))
  (.reg [⟨some 18, .bin .add (.t 8) (.c (.int .i64 1)), none, 0, 0⟩, ⟨some 8, .mv (.t 18), none, 0, 0⟩])))))))
 (.seq (.reg [⟨some 4, .mv (.c (.int .i64 (-1))), none, 0, 0⟩])
 .ret))), [.t 4]⟩
theorem c204 : ∃ fn, Tryz.prog.funcs[204]? = some fn ∧ compFn Tryz.prog fn = some a204 := ⟨_, Tryz.func204, by kernel_rfl⟩
/-- gauger/wish.isValue -/
def a205 : AFunc := ⟨13, (.seq (.reg [⟨some 2, .box (.t 0), none, 0, 0⟩, ⟨some 4, .mv (.c (.bool false)), none, 0, 0⟩])
 (.seq (.reg [⟨some 5, .fieldAddr 0 (.t 2), none, 0, 0⟩, ⟨some 6, .load none (.t 5), none, 0, 0⟩, ⟨some 7, .mv (.t 1), none, 0, 0⟩, ⟨some 8, .bin .eql (.t 6) (.t 7), none, 0, 0⟩, ⟨some 9, .mv (.t 8), none, 0, 0⟩, ⟨some 10, .load (some 3) (.t 2), (some (9, true)), 0, 0⟩, ⟨some 11, .call (.c (.fn (.func 261) [] [])) [(.t 10)], (some (9, true)), 0, 0⟩, ⟨some 12, .pick (.t 9) (.t 11) (.c (.bool false)), none, 0, 0⟩, ⟨some 4, .mv (.t 12), none, 0, 0⟩])
 .ret)), [.t 4]⟩
theorem c205 : ∃ fn, Tryz.prog.funcs[205]? = some fn ∧ compFn Tryz.prog fn = some a205 := ⟨_, Tryz.func205, by kernel_rfl⟩
/-- gauger/plan.Fits -/
def a206 : AFunc := ⟨55, (.seq (.reg [⟨some 3, .box (.t 0), none, 0, 0⟩, ⟨some 6, .mv (.c (.int .i64 0)), none, 0, 0⟩])
 (.seq (.seq (.reg [⟨some 9, .mv (.t 1), none, 0, 0⟩, ⟨some 10, .bin .lss (.t 9) (.c (.int .i64 0)), none, 0, 0⟩, ⟨some 11, .mv (.t 10), none, 0, 0⟩, ⟨some 12, .mv (.t 1), (some (11, false)), 0, 0⟩, ⟨some 13, .fieldAddr 0 (.t 3), (some (11, false)), 0, 0⟩, ⟨some 14, .load none (.t 13), (some (11, false)), 0, 0⟩, ⟨some 15, .len 1 (.t 14), (some (11, false)), 0, 0⟩, ⟨some 16, .bin .geq (.t 12) (.t 15), (some (11, false)), 0, 0⟩, ⟨some 17, .pick (.t 11) (.c (.bool true)) (.t 16), none, 0, 0⟩, ⟨some 18, .mv (.t 17), none, 0, 0⟩, ⟨some 19, .mv (.t 2), (some (18, false)), 0, 0⟩, ⟨some 20, .len 1 (.t 19), (some (18, false)), 0, 0⟩, ⟨some 21, .fieldAddr 0 (.t 3), (some (18, false)), 0, 0⟩, ⟨some 22, .load none (.t 21), (some (18, false)), 0, 0⟩, ⟨some 23, .mv (.t 1), (some (18, false)), 0, 0⟩, ⟨some 24, .idxAddr 1 (.t 22) (.t 23), (some (18, false)), 0, 0⟩, ⟨some 25, .fieldAddr 0 (.t 24), (some (18, false)), 0, 0⟩, ⟨some 26, .load none (.t 25), (some (18, false)), 0, 0⟩, ⟨some 27, .len 1 (.t 26), (some (18, false)), 0, 0⟩, ⟨some 28, .bin .neq (.t 20) (.t 27), (some (18, false)), 0, 0⟩, ⟨some 29, .pick (.t 18) (.c (.bool true)) (.t 28), none, 0, 0⟩])
 (.cond (.t 29) (.seq (.reg [⟨some 6, .mv (.c (.int .i64 1)), none, 0, 0⟩])
  .ret)
  (.skip)))
 (.seq (.seq (.reg [⟨some 30, .mv (.t 2), none, 0, 0⟩, ⟨some 31, .len 1 (.t 30), none, 0, 0⟩, ⟨some 32, .mv (.c (.int .i64 0)), none, 0, 0⟩])
 (.block 0 (.loop (.seq (.reg [⟨some 33, .bin .lss (.t 32) (.t 31), none, 0, 0⟩])
  (.seq (.cond (.t 33) (.skip)
   (.exit 0))
  (.seq (.block 1 (.seq (.reg [⟨some 34, .mv (.t 32), none, 0, 0⟩, ⟨some 35, .idxAddr 3 (.t 30) (.t 32), none, 0, 0⟩, ⟨some 36, .load (some 3) (.t 35), none, 0, 0⟩, ⟨some 8, .alloc [(.int .i64 0), (.int .i64 0), (.str [])], none, 0, 0⟩, ⟨some 7, .mv (.t 34), none, 0, 0⟩, ⟨none, .store 3 (.t 8) (.t 36), none, 0, 0⟩])
  (.seq (.dreg [⟨some 37, .fieldAddr 0 (.t 8), none, 0, 0⟩, ⟨some 38, .load none (.t 37), none, 0, 0⟩, ⟨some 39, .fieldAddr 0 (.t 3), none, 0, 0⟩, ⟨some 40, .load none (.t 39), none, 0, 0⟩, ⟨some 41, .mv (.t 1), none, 0, 0⟩, ⟨some 42, .idxAddr 1 (.t 40) (.t 41), none, 0, 0⟩, ⟨some 43, .fieldAddr 0 (.t 42), none, 0, 0⟩, ⟨some 44, .load none (.t 43), none, 0, 0⟩, ⟨some 45, .mv (.t 7), none, 0, 0⟩, ⟨some 46, .idxAddr 1 (.t 44) (.t 45), none, 0, 0⟩, ⟨some 47, .load none (.t 46), none, 0, 0⟩, ⟨some 48, .bin .neq (.t 38) (.t 47), none, 0, 0⟩, ⟨some 49, .mv (.t 48), none, 0, 0⟩, ⟨some 50, .load (some 3) (.t 8), (some (49, false)), 0, 0⟩, ⟨some 51, .call (.c (.fn (.func 261) [] [])) [(.t 50)], (some (49, false)), 0, 0⟩, ⟨some 52, .un .not (.t 51), (some (49, false)), 1, 1⟩, ⟨some 53, .pick (.t 49) (.c (.bool true)) (.t 52), none, 1, 1⟩])
  (.cond (.t 53) (.seq (.reg [⟨some 6, .mv (.c (.int .i64 1)), none, 0, 0⟩])
   .ret)
   (.skip)))))
  (.reg [⟨some 54, .bin .add (.t 32) (.c (.int .i64 1)), none, 0, 0⟩, ⟨some 32, .mv (.t 54), none, 0, 0⟩])))))))
 (.seq (.reg [⟨some 6, .mv (.c (.int .i64 0)), none, 0, 0⟩])
 .ret)))), [.t 6]⟩
theorem c206 : ∃ fn, Tryz.prog.funcs[206]? = some fn ∧ compFn Tryz.prog fn = some a206 := ⟨_, Tryz.func206, by kernel_rfl⟩
/-- slices.BinarySearchFunc[[][]gauger/api.Value,[]gauger/api.Value,gauger/api.Value] -/
def a207 : AFunc := ⟨49, (.seq (.reg [⟨some 4, .box (.t 1), none, 0, 0⟩, ⟨some 6, .mv (.c (.int .i64 0)), none, 0, 0⟩, ⟨some 7, .mv (.c (.bool false)), none, 0, 0⟩])
 (.seq (.reg [⟨some 12, .mv (.t 0), none, 0, 0⟩, ⟨some 13, .len 1 (.t 12), none, 0, 0⟩, ⟨some 8, .mv (.t 13), none, 0, 0⟩])
 (.seq (.reg [⟨some 14, .mv (.t 8), none, 0, 0⟩, ⟨some 9, .mv (.c (.int .i64 0)), none, 0, 0⟩, ⟨some 10, .mv (.t 14), none, 0, 0⟩])
 (.seq (.block 0 (.loop (.seq (.seq (.reg [⟨some 15, .mv (.t 9), none, 0, 0⟩, ⟨some 16, .mv (.t 10), none, 0, 0⟩, ⟨some 17, .bin .lss (.t 15) (.t 16), none, 0, 0⟩])
  (.cond (.t 17) (.skip)
   (.exit 0)))
  (.block 1 (.seq (.reg [⟨some 18, .mv (.t 9), none, 0, 0⟩, ⟨some 19, .mv (.t 10), none, 0, 0⟩, ⟨some 20, .bin .add (.t 18) (.t 19), none, 0, 0⟩, ⟨some 21, .conv .u64 (.t 20), none, 0, 0⟩, ⟨some 22, .bin .shr (.t 21) (.c (.int .u64 1)), none, 0, 0⟩, ⟨some 23, .conv .i64 (.t 22), none, 0, 0⟩, ⟨some 11, .mv (.t 23), none, 0, 0⟩])
  (.seq (.dreg [⟨some 24, .mv (.t 2), none, 0, 0⟩, ⟨some 25, .mv (.t 0), none, 0, 0⟩, ⟨some 26, .mv (.t 11), none, 0, 0⟩, ⟨some 27, .idxAddr 1 (.t 25) (.t 26), none, 0, 0⟩, ⟨some 28, .load none (.t 27), none, 0, 0⟩, ⟨some 29, .load (some 3) (.t 4), none, 0, 0⟩, ⟨some 30, .call (.t 24) [(.t 28), (.t 29)], none, 0, 0⟩, ⟨some 31, .bin .lss (.t 30) (.c (.int .i64 0)), none, 1, 1⟩])
  (.cond (.t 31) (.reg [⟨some 32, .mv (.t 11), none, 0, 0⟩, ⟨some 33, .bin .add (.t 32) (.c (.int .i64 1)), none, 0, 0⟩, ⟨some 9, .mv (.t 33), none, 0, 0⟩])
   (.reg [⟨some 34, .mv (.t 11), none, 0, 0⟩, ⟨some 10, .mv (.t 34), none, 0, 0⟩]))))))))
 (.seq (.dreg [⟨some 35, .mv (.t 9), none, 0, 1⟩, ⟨some 36, .mv (.t 9), none, 0, 0⟩, ⟨some 37, .mv (.t 8), none, 0, 0⟩, ⟨some 38, .bin .lss (.t 36) (.t 37), none, 0, 0⟩, ⟨some 39, .mv (.t 38), none, 0, 0⟩, ⟨some 40, .mv (.t 2), (some (39, true)), 0, 0⟩, ⟨some 41, .mv (.t 0), (some (39, true)), 0, 0⟩, ⟨some 42, .mv (.t 9), (some (39, true)), 0, 0⟩, ⟨some 43, .idxAddr 1 (.t 41) (.t 42), (some (39, true)), 0, 0⟩, ⟨some 44, .load none (.t 43), (some (39, true)), 0, 0⟩, ⟨some 45, .load (some 3) (.t 4), (some (39, true)), 0, 0⟩, ⟨some 46, .call (.t 40) [(.t 44), (.t 45)], (some (39, true)), 0, 0⟩, ⟨some 47, .bin .eql (.t 46) (.c (.int .i64 0)), (some (39, true)), 1, 1⟩, ⟨some 48, .pick (.t 39) (.t 47) (.c (.bool false)), none, 1, 1⟩, ⟨some 6, .mv (.t 35), none, 1, 1⟩, ⟨some 7, .mv (.t 48), none, 1, 1⟩])
 .ret))))), [.t 6, .t 7]⟩
theorem c207 : ∃ fn, Tryz.prog.funcs[207]? = some fn ∧ compFn Tryz.prog fn = some a207 := ⟨_, Tryz.func207, by kernel_rfl⟩
/-- (*gauger/model.DB).find$1 -/
def a208 : AFunc := ⟨10, (.seq (.reg [⟨some 3, .box (.t 1), none, 0, 0⟩, ⟨some 4, .mv (.c (.int .i64 0)), none, 0, 0⟩])
 (.seq (.dreg [⟨some 5, .mv (.t 0), none, 0, 0⟩, ⟨some 6, .idxAddr 3 (.t 5) (.c (.int .i64 0)), none, 0, 0⟩, ⟨some 7, .load (some 3) (.t 6), none, 0, 0⟩, ⟨some 8, .load (some 3) (.t 3), none, 0, 0⟩, ⟨some 9, .call (.c (.fn (.func 209) [] [])) [(.t 7), (.t 8)], none, 0, 0⟩, ⟨some 4, .mv (.t 9), none, 1, 1⟩])
 .ret)), [.t 4]⟩
theorem c208 : ∃ fn, Tryz.prog.funcs[208]? = some fn ∧ compFn Tryz.prog fn = some a208 := ⟨_, Tryz.func208, by kernel_rfl⟩
/-- gauger/sign.Compare -/
def a209 : AFunc := ⟨30, (.seq (.reg [⟨some 2, .box (.t 0), none, 0, 0⟩, ⟨some 3, .box (.t 1), none, 0, 0⟩, ⟨some 4, .mv (.c (.int .i64 0)), none, 0, 0⟩])
 (.seq (.seq (.reg [⟨some 5, .load (some 3) (.t 2), none, 0, 0⟩, ⟨some 6, .call (.c (.fn (.func 261) [] [])) [(.t 5)], none, 0, 0⟩, ⟨some 7, .un .not (.t 6), none, 0, 0⟩, ⟨some 8, .mv (.t 7), none, 0, 0⟩, ⟨some 9, .load (some 3) (.t 3), (some (8, false)), 0, 0⟩, ⟨some 10, .call (.c (.fn (.func 261) [] [])) [(.t 9)], (some (8, false)), 0, 0⟩, ⟨some 11, .un .not (.t 10), (some (8, false)), 0, 0⟩, ⟨some 12, .pick (.t 8) (.c (.bool true)) (.t 11), none, 0, 0⟩])
 (.cond (.t 12) (.seq (.reg [⟨some 4, .mv (.c (.int .i64 0)), none, 0, 0⟩])
  .ret)
  (.skip)))
 (.seq (.dreg [⟨some 13, .fieldAddr 0 (.t 2), none, 0, 0⟩, ⟨some 14, .load none (.t 13), none, 0, 0⟩, ⟨some 15, .fieldAddr 0 (.t 3), none, 0, 0⟩, ⟨some 16, .load none (.t 15), none, 0, 0⟩, ⟨some 17, .call (.c (.fn (.func 263) [] [])) [(.t 14), (.t 16)], none, 0, 0⟩, ⟨some 18, .fieldAddr 1 (.t 2), none, 0, 1⟩, ⟨some 19, .load none (.t 18), none, 0, 1⟩, ⟨some 20, .fieldAddr 1 (.t 3), none, 0, 1⟩, ⟨some 21, .load none (.t 20), none, 0, 1⟩, ⟨some 22, .call (.c (.fn (.func 263) [] [])) [(.t 19), (.t 21)], none, 0, 0⟩, ⟨some 23, .fieldAddr 2 (.t 2), none, 0, 2⟩, ⟨some 24, .load none (.t 23), none, 0, 2⟩, ⟨some 25, .fieldAddr 2 (.t 3), none, 0, 2⟩, ⟨some 26, .load none (.t 25), none, 0, 2⟩, ⟨some 27, .call (.c (.fn (.func 264) [] [])) [(.t 24), (.t 26)], none, 0, 0⟩, ⟨some 28, .buildSl [(.int .i64 0)] 3 [(0, (.t 17)), (1, (.t 22)), (2, (.t 27))], none, 0, 0⟩, ⟨some 29, .call (.c (.fn (.func 262) [] [])) [(.t 28)], none, 0, 0⟩, ⟨some 4, .mv (.t 29), none, 5, 5⟩])
 .ret))), [.t 4]⟩
theorem c209 : ∃ fn, Tryz.prog.funcs[209]? = some fn ∧ compFn Tryz.prog fn = some a209 := ⟨_, Tryz.func209, by kernel_rfl⟩
/-- (*gauger/model.DB).isOver -/
def a210 : AFunc := ⟨36, (.seq (.reg [⟨some 4, .mv (.c (.bool false)), none, 0, 0⟩])
 (.seq (.reg [⟨some 5, .mv (.c (.fn (.func 265) [] [])), none, 0, 0⟩])
 (.seq (.seq (.reg [⟨some 10, .mv (.t 0), none, 0, 0⟩, ⟨some 11, .nilck (.t 10), none, 0, 0⟩, ⟨some 12, .fieldAddr 0 (.t 11), none, 0, 0⟩, ⟨some 13, .load (some 2) (.t 12), none, 0, 0⟩, ⟨some 14, .mv (.t 1), none, 0, 0⟩, ⟨some 15, .call (.c (.fn (.func 267) [] [])) [(.t 13), (.t 14)], none, 0, 0⟩, ⟨some 16, .len 1 (.t 15), none, 0, 0⟩, ⟨some 17, .mv (.c (.int .i64 0)), none, 0, 0⟩])
 (.block 0 (.loop (.seq (.reg [⟨some 18, .bin .lss (.t 17) (.t 16), none, 0, 0⟩])
  (.seq (.cond (.t 18) (.skip)
   (.exit 0))
  (.seq (.block 1 (.seq (.reg [⟨some 19, .idxAddr 1 (.t 15) (.t 17), none, 0, 0⟩, ⟨some 20, .load none (.t 19), none, 0, 0⟩, ⟨some 7, .mv (.t 20), none, 0, 0⟩])
  (.seq (.reg [⟨some 21, .mv (.t 0), none, 0, 0⟩, ⟨some 22, .mv (.t 7), none, 0, 0⟩, ⟨some 23, .call (.c (.fn (.func 29) [] [])) [(.t 21), (.t 22)], none, 0, 0⟩, ⟨some 24, .len 1 (.t 23), none, 0, 0⟩, ⟨some 25, .mv (.c (.int .i64 0)), none, 0, 0⟩])
  (.block 2 (.loop (.seq (.reg [⟨some 26, .bin .lss (.t 25) (.t 24), none, 0, 0⟩])
   (.seq (.cond (.t 26) (.skip)
    (.exit 2))
   (.seq (.block 3 (.seq (.reg [⟨some 27, .idxAddr 4 (.t 23) (.t 25), none, 0, 0⟩, ⟨some 28, .load (some 4) (.t 27), none, 0, 0⟩, ⟨some 9, .alloc [(.str []), (.int .i64 0), (.int .u64 0), .nils], none, 0, 0⟩, ⟨none, .store 4 (.t 9) (.t 28), none, 0, 0⟩])
   (.seq (.reg [⟨some 29, .fieldAddr 1 (.t 9), none, 0, 0⟩, ⟨some 30, .fieldAddr 2 (.t 29), none, 0, 0⟩, ⟨some 31, .load none (.t 30), none, 0, 0⟩, ⟨some 32, .mv (.t 5), none, 0, 0⟩, ⟨some 33, .call (.c (.fn (.func 268) [] [])) [(.t 31), (.t 32)], none, 0, 0⟩])
   (.cond (.t 33) (.seq (.reg [⟨some 4, .mv (.c (.bool true)), none, 0, 0⟩])
    .ret)
    (.skip)))))
   (.reg [⟨some 34, .bin .add (.t 25) (.c (.int .i64 1)), none, 0, 0⟩, ⟨some 25, .mv (.t 34), none, 0, 0⟩])))))))))
  (.reg [⟨some 35, .bin .add (.t 17) (.c (.int .i64 1)), none, 0, 0⟩, ⟨some 17, .mv (.t 35), none, 0, 0⟩])))))))
 (.seq (.reg [⟨some 4, .mv (.c (.bool false)), none, 0, 0⟩])
 .ret)))), [.t 4]⟩
theorem c210 : ∃ fn, Tryz.prog.funcs[210]? = some fn ∧ compFn Tryz.prog fn = some a210 := ⟨_, Tryz.func210, by kernel_rfl⟩
/-- slices.rotateRight[[]gauger/api.Value] -/
def a212 : AFunc := ⟨10, (.reg [⟨some 4, .mv (.t 0), none, 0, 0⟩, ⟨some 5, .mv (.t 0), none, 0, 0⟩, ⟨some 6, .len 1 (.t 5), none, 0, 0⟩, ⟨some 7, .mv (.t 1), none, 0, 0⟩, ⟨some 8, .bin .sub (.t 6) (.t 7), none, 0, 0⟩, ⟨some 9, .call (.c (.fn (.func 269) [] [])) [(.t 4), (.t 8)], none, 0, 0⟩]), []⟩
theorem c212 : ∃ fn, Tryz.prog.funcs[212]? = some fn ∧ compFn Tryz.prog fn = some a212 := ⟨_, Tryz.func212, by kernel_rfl⟩
/-- gauger/sign.Code -/
def a213 : AFunc := ⟨33, (.seq (.reg [⟨some 1, .box (.t 0), none, 0, 0⟩, ⟨some 2, .mv (.c (.str [])), none, 0, 0⟩, ⟨some 3, .mv (.c (.int .i64 0)), none, 0, 0⟩])
 (.seq (.block 0 (.seq (.reg [⟨some 6, .load (some 3) (.t 1), none, 0, 0⟩, ⟨some 7, .call (.c (.fn (.func 261) [] [])) [(.t 6)], none, 0, 0⟩, ⟨some 8, .un .not (.t 7), none, 0, 0⟩, ⟨some 5, .mv (.t 8), none, 0, 0⟩])
 (.cond (.t 5) (.seq (.reg [⟨some 2, .mv (.c (.str [])), none, 0, 0⟩, ⟨some 3, .mv (.c (.int .i64 1)), none, 0, 0⟩])
  .ret)
  (.seq (.reg [⟨some 10, .fieldAddr 0 (.t 1), none, 0, 0⟩, ⟨some 11, .load none (.t 10), none, 0, 0⟩, ⟨some 12, .bin .eql (.t 11) (.c (.int .i64 1)), none, 0, 0⟩, ⟨some 9, .mv (.t 12), none, 0, 0⟩])
  (.cond (.t 9) (.seq (.reg [⟨some 13, .fieldAddr 1 (.t 1), none, 0, 0⟩, ⟨some 14, .load none (.t 13), none, 0, 0⟩, ⟨some 15, .call (.c (.fn (.func 270) [] [])) [(.t 14)], none, 0, 0⟩, ⟨some 16, .bin .add (.c (.str [1])) (.t 15), none, 0, 0⟩, ⟨some 2, .mv (.t 16), none, 0, 0⟩, ⟨some 3, .mv (.c (.int .i64 0)), none, 0, 0⟩])
   .ret)
   (.skip))))))
 (.seq (.reg [⟨some 17, .fieldAddr 2 (.t 1), none, 0, 0⟩, ⟨some 18, .load none (.t 17), none, 0, 0⟩, ⟨some 19, .len 0 (.t 18), none, 0, 0⟩, ⟨some 20, .bin .sub (.c (.int .i64 7)) (.t 19), none, 0, 0⟩, ⟨some 21, .call (.c (.fn (.func 246) [] [])) [(.c (.str [0])), (.t 20)], none, 0, 0⟩, ⟨some 4, .mv (.t 21), none, 0, 0⟩])
 (.seq (.reg [⟨some 22, .fieldAddr 2 (.t 1), none, 0, 0⟩, ⟨some 23, .load none (.t 22), none, 0, 0⟩, ⟨some 24, .bin .add (.c (.str [2])) (.t 23), none, 0, 0⟩, ⟨some 25, .mv (.t 4), none, 0, 0⟩, ⟨some 26, .bin .add (.t 24) (.t 25), none, 0, 0⟩, ⟨some 27, .fieldAddr 2 (.t 1), none, 0, 0⟩, ⟨some 28, .load none (.t 27), none, 0, 0⟩, ⟨some 29, .len 0 (.t 28), none, 0, 0⟩, ⟨some 30, .conv .i32 (.t 29), none, 0, 0⟩, ⟨some 31, .bad, none, 0, 0⟩, ⟨some 32, .bin .add (.t 26) (.t 31), none, 0, 0⟩, ⟨some 2, .mv (.t 32), none, 0, 0⟩, ⟨some 3, .mv (.c (.int .i64 0)), none, 0, 0⟩])
 .ret)))), [.t 2, .t 3]⟩
theorem c213 : ∃ fn, Tryz.prog.funcs[213]? = some fn ∧ compFn Tryz.prog fn = some a213 := ⟨_, Tryz.func213, by kernel_rfl⟩
/-- gauger/plan.Group -/
def a218 : AFunc := ⟨44, (.seq (.reg [⟨some 3, .box (.t 0), none, 0, 0⟩, ⟨some 6, .mv (.c (.str [])), none, 0, 0⟩])
 (.seq (.seq (.dreg [⟨some 9, .mv (.t 1), none, 0, 0⟩, ⟨some 10, .bin .lss (.t 9) (.c (.int .i64 0)), none, 0, 0⟩, ⟨some 11, .mv (.t 10), none, 0, 0⟩, ⟨some 12, .mv (.t 1), (some (11, false)), 0, 0⟩, ⟨some 13, .fieldAddr 1 (.t 3), (some (11, false)), 0, 0⟩, ⟨some 14, .load none (.t 13), (some (11, false)), 0, 0⟩, ⟨some 15, .len 1 (.t 14), (some (11, false)), 0, 0⟩, ⟨some 16, .bin .geq (.t 12) (.t 15), (some (11, false)), 0, 0⟩, ⟨some 17, .pick (.t 11) (.c (.bool true)) (.t 16), none, 0, 0⟩, ⟨some 18, .mv (.t 17), none, 0, 0⟩, ⟨some 19, .load (some 2) (.t 3), (some (18, false)), 0, 0⟩, ⟨some 20, .fieldAddr 1 (.t 3), (some (18, false)), 0, 0⟩, ⟨some 21, .load none (.t 20), (some (18, false)), 0, 0⟩, ⟨some 22, .mv (.t 1), (some (18, false)), 0, 0⟩, ⟨some 23, .idxAddr 3 (.t 21) (.t 22), (some (18, false)), 0, 0⟩, ⟨some 24, .fieldAddr 0 (.t 23), (some (18, false)), 0, 0⟩, ⟨some 25, .load none (.t 24), (some (18, false)), 0, 0⟩, ⟨some 26, .mv (.t 2), (some (18, false)), 0, 0⟩, ⟨some 27, .call (.c (.fn (.func 206) [] [])) [(.t 19), (.t 25), (.t 26)], (some (18, false)), 0, 0⟩, ⟨some 28, .bin .neq (.t 27) (.c (.int .i64 0)), (some (18, false)), 1, 1⟩, ⟨some 29, .pick (.t 18) (.c (.bool true)) (.t 28), none, 1, 1⟩])
 (.cond (.t 29) (.seq (.reg [⟨some 6, .mv (.c (.str [])), none, 0, 0⟩])
  .ret)
  (.skip)))
 (.seq (.reg [⟨some 31, .mv (.t 2), none, 0, 0⟩, ⟨some 32, .fieldAddr 1 (.t 3), none, 0, 0⟩, ⟨some 33, .load none (.t 32), none, 0, 0⟩, ⟨some 34, .mv (.t 1), none, 0, 0⟩, ⟨some 35, .idxAddr 3 (.t 33) (.t 34), none, 0, 0⟩, ⟨some 36, .fieldAddr 1 (.t 35), none, 0, 0⟩, ⟨some 37, .load none (.t 36), none, 0, 0⟩, ⟨some 38, .idxAddr 3 (.t 31) (.t 37), none, 0, 0⟩, ⟨some 39, .load (some 3) (.t 38), none, 0, 0⟩, ⟨some 40, .call (.c (.fn (.func 213) [] [])) [(.t 39)], none, 0, 0⟩, ⟨some 30, .mv (.t 40), none, 0, 0⟩, ⟨some 41, .extract (.t 30) 0, none, 0, 0⟩, ⟨some 42, .extract (.t 30) 1, none, 0, 0⟩, ⟨some 7, .mv (.t 41), none, 0, 0⟩, ⟨some 8, .mv (.t 42), none, 0, 0⟩])
 (.seq (.reg [⟨some 43, .mv (.t 7), none, 0, 0⟩, ⟨some 6, .mv (.t 43), none, 0, 0⟩])
 .ret)))), [.t 6]⟩
theorem c218 : ∃ fn, Tryz.prog.funcs[218]? = some fn ∧ compFn Tryz.prog fn = some a218 := ⟨_, Tryz.func218, by kernel_rfl⟩
/-- gauger/delta.total -/
def a219 : AFunc := ⟨30, (.seq (.reg [⟨some 2, .box (.t 0), none, 0, 0⟩, ⟨some 4, .alloc [(.int .i64 0), (.int .u64 0), .nils], none, 0, 0⟩])
 (.seq (.reg [⟨some 8, .call (.c (.fn (.func 272) [] [])) [(.c (.int .i64 1))], none, 0, 0⟩, ⟨some 9, .build [(.int .i64 0), (.int .u64 0), .nils] [(0, 2, (.t 8))], none, 0, 0⟩, ⟨some 5, .alloc [(.int .i64 0), (.int .u64 0), .nils], none, 0, 0⟩, ⟨none, .store 3 (.t 5) (.t 9), none, 0, 0⟩])
 (.seq (.seq (.reg [⟨some 10, .fieldAddr 2 (.t 2), none, 0, 0⟩, ⟨some 11, .load none (.t 10), none, 0, 0⟩, ⟨some 12, .len 1 (.t 11), none, 0, 0⟩, ⟨some 13, .mv (.c (.int .i64 0)), none, 0, 0⟩])
 (.block 0 (.loop (.seq (.reg [⟨some 14, .bin .lss (.t 13) (.t 12), none, 0, 0⟩])
  (.seq (.cond (.t 14) (.skip)
   (.exit 0))
  (.seq (.block 1 (.seq (.reg [⟨some 15, .idxAddr 1 (.t 11) (.t 13), none, 0, 0⟩, ⟨some 16, .load none (.t 15), none, 0, 0⟩, ⟨some 7, .mv (.t 16), none, 0, 0⟩])
  (.dreg [⟨some 17, .fieldAddr 2 (.t 5), none, 0, 2⟩, ⟨some 18, .load none (.t 17), none, 0, 2⟩, ⟨some 19, .mv (.t 1), none, 0, 0⟩, ⟨some 20, .mv (.t 7), none, 0, 0⟩, ⟨some 21, .idxAddr 3 (.t 19) (.t 20), none, 0, 0⟩, ⟨some 22, .fieldAddr 1 (.t 21), none, 0, 0⟩, ⟨some 23, .load none (.t 22), none, 0, 0⟩, ⟨some 24, .call (.c (.fn (.func 272) [] [])) [(.t 23)], none, 0, 0⟩, ⟨some 25, .buildSl [(.int .i64 0), (.int .u64 0)] 1 [(0, (.t 24))], none, 0, 0⟩, ⟨some 26, .append 2 16 (.t 18) (.t 25), none, 0, 0⟩, ⟨some 27, .fieldAddr 2 (.t 5), none, 3, 3⟩, ⟨none, .store 1 (.t 27) (.t 26), none, 0, 0⟩])))
  (.reg [⟨some 28, .bin .add (.t 13) (.c (.int .i64 1)), none, 0, 0⟩, ⟨some 13, .mv (.t 28), none, 0, 0⟩])))))))
 (.seq (.reg [⟨some 29, .load (some 3) (.t 5), none, 0, 0⟩, ⟨none, .store 3 (.t 4) (.t 29), none, 0, 0⟩])
 .ret)))), [.cell 4 (some 3)]⟩
theorem c219 : ∃ fn, Tryz.prog.funcs[219]? = some fn ∧ compFn Tryz.prog fn = some a219 := ⟨_, Tryz.func219, by kernel_rfl⟩
/-- gauger/delta.Turn -/
def a220 : AFunc := ⟨28, (.seq (.reg [⟨some 1, .box (.t 0), none, 0, 0⟩, ⟨some 2, .alloc [(.int .i64 0), (.int .u64 0), .nils], none, 0, 0⟩])
 (.seq (.reg [⟨some 6, .build [(.int .i64 0), (.int .u64 0)] [], none, 0, 0⟩, ⟨some 7, .fieldAddr 0 (.t 1), none, 0, 0⟩, ⟨some 8, .load (some 2) (.t 7), none, 0, 0⟩, ⟨some 9, .call (.c (.fn (.func 273) [] [])) [(.t 6), (.t 8)], none, 0, 0⟩, ⟨some 10, .build [(.int .i64 0), (.int .u64 0), .nils] [(0, 2, (.t 9))], none, 0, 0⟩, ⟨some 3, .alloc [(.int .i64 0), (.int .u64 0), .nils], none, 0, 0⟩, ⟨none, .store 3 (.t 3) (.t 10), none, 0, 0⟩])
 (.seq (.seq (.reg [⟨some 11, .fieldAddr 2 (.t 1), none, 0, 0⟩, ⟨some 12, .load none (.t 11), none, 0, 0⟩, ⟨some 13, .len 1 (.t 12), none, 0, 0⟩, ⟨some 14, .mv (.c (.int .i64 0)), none, 0, 0⟩])
 (.block 0 (.loop (.seq (.reg [⟨some 15, .bin .lss (.t 14) (.t 13), none, 0, 0⟩])
  (.seq (.cond (.t 15) (.skip)
   (.exit 0))
  (.seq (.block 1 (.seq (.reg [⟨some 16, .idxAddr 2 (.t 12) (.t 14), none, 0, 0⟩, ⟨some 17, .load (some 2) (.t 16), none, 0, 0⟩, ⟨some 5, .alloc [(.int .i64 0), (.int .u64 0)], none, 0, 0⟩, ⟨none, .store 2 (.t 5) (.t 17), none, 0, 0⟩])
  (.dreg [⟨some 18, .fieldAddr 2 (.t 3), none, 0, 2⟩, ⟨some 19, .load none (.t 18), none, 0, 2⟩, ⟨some 20, .build [(.int .i64 0), (.int .u64 0)] [], none, 0, 0⟩, ⟨some 21, .load (some 2) (.t 5), none, 0, 0⟩, ⟨some 22, .call (.c (.fn (.func 273) [] [])) [(.t 20), (.t 21)], none, 0, 0⟩, ⟨some 23, .buildSl [(.int .i64 0), (.int .u64 0)] 1 [(0, (.t 22))], none, 0, 0⟩, ⟨some 24, .append 2 16 (.t 19) (.t 23), none, 0, 0⟩, ⟨some 25, .fieldAddr 2 (.t 3), none, 3, 3⟩, ⟨none, .store 1 (.t 25) (.t 24), none, 0, 0⟩])))
  (.reg [⟨some 26, .bin .add (.t 14) (.c (.int .i64 1)), none, 0, 0⟩, ⟨some 14, .mv (.t 26), none, 0, 0⟩])))))))
 (.seq (.reg [⟨some 27, .load (some 3) (.t 3), none, 0, 0⟩, ⟨none, .store 3 (.t 2) (.t 27), none, 0, 0⟩])
 .ret)))), [.cell 2 (some 3)]⟩
theorem c220 : ∃ fn, Tryz.prog.funcs[220]? = some fn ∧ compFn Tryz.prog fn = some a220 := ⟨_, Tryz.func220, by kernel_rfl⟩
/-- gauger/plan.Add -/
def a221 : AFunc := ⟨41, (.seq (.reg [⟨some 2, .box (.t 0), none, 0, 0⟩, ⟨some 3, .box (.t 1), none, 0, 0⟩, ⟨some 4, .alloc [(.int .i64 0), (.int .u64 0), .nils], none, 0, 0⟩])
 (.seq (.reg [⟨some 7, .fieldAddr 0 (.t 2), none, 0, 0⟩, ⟨some 8, .load (some 2) (.t 7), none, 0, 0⟩, ⟨some 9, .fieldAddr 0 (.t 3), none, 0, 0⟩, ⟨some 10, .load (some 2) (.t 9), none, 0, 0⟩, ⟨some 11, .call (.c (.fn (.func 274) [] [])) [(.t 8), (.t 10)], none, 0, 0⟩, ⟨some 12, .build [(.int .i64 0), (.int .u64 0), .nils] [(0, 2, (.t 11))], none, 0, 0⟩, ⟨some 5, .alloc [(.int .i64 0), (.int .u64 0), .nils], none, 0, 0⟩, ⟨none, .store 3 (.t 5) (.t 12), none, 0, 0⟩])
 (.seq (.seq (.reg [⟨some 13, .fieldAddr 2 (.t 2), none, 0, 0⟩, ⟨some 14, .load none (.t 13), none, 0, 0⟩, ⟨some 15, .len 1 (.t 14), none, 0, 0⟩, ⟨some 16, .fieldAddr 2 (.t 3), none, 0, 0⟩, ⟨some 17, .load none (.t 16), none, 0, 0⟩, ⟨some 18, .len 1 (.t 17), none, 0, 0⟩, ⟨some 19, .mxmn false [(.t 15), (.t 18)], none, 0, 0⟩, ⟨some 20, .mv (.c (.int .i64 0)), none, 0, 0⟩])
 (.block 0 (.loop (.seq (.reg [⟨some 21, .bin .lss (.t 20) (.t 19), none, 0, 0⟩])
  (.seq (.cond (.t 21) (.skip)
   (.exit 0))
  (.seq (.block 1 (.seq (.reg [⟨some 22, .mv (.t 20), none, 0, 0⟩, ⟨some 6, .mv (.t 22), none, 0, 0⟩])
  (.dreg [⟨some 23, .fieldAddr 2 (.t 5), none, 0, 2⟩, ⟨some 24, .load none (.t 23), none, 0, 2⟩, ⟨some 25, .fieldAddr 2 (.t 2), none, 0, 0⟩, ⟨some 26, .load none (.t 25), none, 0, 0⟩, ⟨some 27, .mv (.t 6), none, 0, 0⟩, ⟨some 28, .idxAddr 2 (.t 26) (.t 27), none, 0, 0⟩, ⟨some 29, .load (some 2) (.t 28), none, 0, 0⟩, ⟨some 30, .fieldAddr 2 (.t 3), none, 0, 0⟩, ⟨some 31, .load none (.t 30), none, 0, 0⟩, ⟨some 32, .mv (.t 6), none, 0, 0⟩, ⟨some 33, .idxAddr 2 (.t 31) (.t 32), none, 0, 0⟩, ⟨some 34, .load (some 2) (.t 33), none, 0, 0⟩, ⟨some 35, .call (.c (.fn (.func 274) [] [])) [(.t 29), (.t 34)], none, 0, 0⟩, ⟨some 36, .buildSl [(.int .i64 0), (.int .u64 0)] 1 [(0, (.t 35))], none, 0, 0⟩, ⟨some 37, .append 2 16 (.t 24) (.t 36), none, 0, 0⟩, ⟨some 38, .fieldAddr 2 (.t 5), none, 3, 3⟩, ⟨none, .store 1 (.t 38) (.t 37), none, 0, 0⟩])))
  (.reg [⟨some 39, .bin .add (.t 20) (.c (.int .i64 1)), none, 0, 0⟩, ⟨some 20, .mv (.t 39), none, 0, 0⟩])))))))
 (.seq (.reg [⟨some 40, .load (some 3) (.t 5), none, 0, 0⟩, ⟨none, .store 3 (.t 4) (.t 40), none, 0, 0⟩])
 .ret)))), [.cell 4 (some 3)]⟩
theorem c221 : ∃ fn, Tryz.prog.funcs[221]? = some fn ∧ compFn Tryz.prog fn = some a221 := ⟨_, Tryz.func221, by kernel_rfl⟩
/-- slices.Sorted[string] -/
def a222 : AFunc := ⟨9, (.seq (.reg [⟨some 2, .mv (.c .nils), none, 0, 0⟩])
 (.seq (.reg [⟨some 4, .mv (.t 0), none, 0, 0⟩, ⟨some 5, .call (.c (.fn (.func 275) [] [])) [(.t 4)], none, 0, 0⟩, ⟨some 3, .mv (.t 5), none, 0, 0⟩])
 (.seq (.reg [⟨some 6, .mv (.t 3), none, 0, 0⟩, ⟨some 7, .call (.c (.fn (.func 276) [] [])) [(.t 6)], none, 0, 0⟩])
 (.seq (.reg [⟨some 8, .mv (.t 3), none, 0, 0⟩, ⟨some 2, .mv (.t 8), none, 0, 0⟩])
 .ret)))), [.t 2]⟩
theorem c222 : ∃ fn, Tryz.prog.funcs[222]? = some fn ∧ compFn Tryz.prog fn = some a222 := ⟨_, Tryz.func222, by kernel_rfl⟩
/-- maps.Keys[gauger/delta.sums,string,gauger/api.Total] -/
def a223 : AFunc := ⟨4, (.seq (.reg [⟨some 1, .box (.t 0), none, 0, 0⟩, ⟨some 2, .mv (.c .nilf), none, 0, 0⟩])
 (.seq (.reg [⟨some 3, .mkfn (.func 277) [] [(.t 1)], none, 0, 0⟩, ⟨some 2, .mv (.t 3), none, 0, 0⟩])
 .ret)), [.t 2]⟩
theorem c223 : ∃ fn, Tryz.prog.funcs[223]? = some fn ∧ compFn Tryz.prog fn = some a223 := ⟨_, Tryz.func223, by kernel_rfl⟩
/-- (*strings.Builder).copyCheck -/
def a238 : AFunc := ⟨20, (.seq (.reg [⟨some 2, .mv (.t 0), none, 0, 0⟩, ⟨some 3, .nilck (.t 2), none, 0, 0⟩, ⟨some 4, .fieldAddr 0 (.t 3), none, 0, 0⟩, ⟨some 5, .load none (.t 4), none, 0, 0⟩, ⟨some 6, .isNil 0 false (.t 5), none, 0, 0⟩])
 (.cond (.t 6) (.reg [⟨some 7, .mv (.t 0), none, 0, 0⟩, ⟨some 8, .mv (.t 0), none, 0, 0⟩, ⟨some 9, .bad, none, 0, 0⟩, ⟨some 10, .call (.c (.fn (.func 284) [] [])) [(.t 9)], none, 0, 0⟩, ⟨some 11, .bad, none, 0, 0⟩, ⟨some 12, .nilck (.t 7), none, 0, 0⟩, ⟨some 13, .fieldAddr 0 (.t 12), none, 0, 0⟩, ⟨none, .store 1 (.t 13) (.t 11), none, 0, 0⟩])
  (.seq (.reg [⟨some 14, .mv (.t 0), none, 0, 0⟩, ⟨some 15, .nilck (.t 14), none, 0, 0⟩, ⟨some 16, .fieldAddr 0 (.t 15), none, 0, 0⟩, ⟨some 17, .load none (.t 16), none, 0, 0⟩, ⟨some 18, .mv (.t 0), none, 0, 0⟩, ⟨some 19, .bad, none, 0, 0⟩])
  (.cond (.t 19) .bad
   (.skip))))), []⟩
theorem c238 : ∃ fn, Tryz.prog.funcs[238]? = some fn ∧ compFn Tryz.prog fn = some a238 := ⟨_, Tryz.func238, by kernel_rfl⟩
/-- strings.Repeat -/
def a246 : AFunc := ⟨125, (.seq (.reg [⟨some 4, .mv (.c (.str [])), none, 0, 0⟩])
 (.seq (.seq (.reg [⟨some 11, .mv (.t 1), none, 0, 0⟩])
 (.block 0 (.seq (.reg [⟨some 13, .bin .eql (.t 11) (.c (.int .i64 0)), none, 0, 0⟩, ⟨some 12, .mv (.t 13), none, 0, 0⟩])
 (.cond (.t 12) (.seq (.reg [⟨some 4, .mv (.c (.str [])), none, 0, 0⟩])
  .ret)
  (.seq (.reg [⟨some 15, .bin .eql (.t 11) (.c (.int .i64 1)), none, 0, 0⟩, ⟨some 14, .mv (.t 15), none, 0, 0⟩])
  (.cond (.t 14) (.seq (.reg [⟨some 16, .mv (.t 0), none, 0, 0⟩, ⟨some 4, .mv (.t 16), none, 0, 0⟩])
   .ret)
   (.skip)))))))
 (.seq (.seq (.reg [⟨some 17, .mv (.t 1), none, 0, 0⟩, ⟨some 18, .bin .lss (.t 17) (.c (.int .i64 0)), none, 0, 0⟩])
 (.cond (.t 18) (.reg [⟨some 19, .bad, none, 0, 0⟩, ⟨none, .bad, none, 0, 0⟩])
  (.skip)))
 (.seq (.reg [⟨some 21, .mv (.t 0), none, 0, 0⟩, ⟨some 22, .len 0 (.t 21), none, 0, 0⟩, ⟨some 23, .conv .u64 (.t 22), none, 0, 0⟩, ⟨some 24, .mv (.t 1), none, 0, 0⟩, ⟨some 25, .conv .u64 (.t 24), none, 0, 0⟩, ⟨some 26, .call (.c (.fn (.func 289) [] [])) [(.t 23), (.t 25)], none, 0, 0⟩, ⟨some 20, .mv (.t 26), none, 0, 0⟩, ⟨some 27, .extract (.t 20) 0, none, 0, 0⟩, ⟨some 28, .extract (.t 20) 1, none, 0, 0⟩, ⟨some 5, .mv (.t 27), none, 0, 0⟩, ⟨some 6, .mv (.t 28), none, 0, 0⟩])
 (.seq (.seq (.reg [⟨some 29, .mv (.t 5), none, 0, 0⟩, ⟨some 30, .bin .gtr (.t 29) (.c (.int .u64 0)), none, 0, 0⟩, ⟨some 31, .mv (.t 30), none, 0, 0⟩, ⟨some 32, .mv (.t 6), (some (31, false)), 0, 0⟩, ⟨some 33, .bin .gtr (.t 32) (.c (.int .u64 9223372036854775807)), (some (31, false)), 0, 0⟩, ⟨some 34, .pick (.t 31) (.c (.bool true)) (.t 33), none, 0, 0⟩])
 (.cond (.t 34) (.reg [⟨some 35, .bad, none, 0, 0⟩, ⟨none, .bad, none, 0, 0⟩])
  (.skip)))
 (.seq (.reg [⟨some 36, .mv (.t 6), none, 0, 0⟩, ⟨some 37, .conv .i64 (.t 36), none, 0, 0⟩, ⟨some 7, .mv (.t 37), none, 0, 0⟩])
 (.seq (.seq (.reg [⟨some 38, .mv (.t 0), none, 0, 0⟩, ⟨some 39, .len 0 (.t 38), none, 0, 0⟩, ⟨some 40, .bin .eql (.t 39) (.c (.int .i64 0)), none, 0, 0⟩])
 (.cond (.t 40) (.seq (.reg [⟨some 4, .mv (.c (.str [])), none, 0, 0⟩])
  .ret)
  (.skip)))
 (.seq (.seq (.reg [⟨some 41, .mv (.t 0), none, 0, 0⟩, ⟨some 42, .idxS (.t 41) (.c (.int .i64 0)), none, 0, 0⟩])
 (.block 1 (.seq (.seq (.reg [⟨some 44, .bin .eql (.t 42) (.c (.int .u8 32)), none, 0, 0⟩, ⟨some 43, .mv (.t 44), none, 0, 0⟩])
 (.cond (.t 43) (.skip)
  (.seq (.reg [⟨some 45, .bin .eql (.t 42) (.c (.int .u8 45)), none, 0, 0⟩, ⟨some 43, .mv (.t 45), none, 0, 0⟩])
  (.cond (.t 43) (.skip)
   (.seq (.reg [⟨some 46, .bin .eql (.t 42) (.c (.int .u8 48)), none, 0, 0⟩, ⟨some 43, .mv (.t 46), none, 0, 0⟩])
   (.cond (.t 43) (.skip)
    (.seq (.reg [⟨some 47, .bin .eql (.t 42) (.c (.int .u8 61)), none, 0, 0⟩, ⟨some 43, .mv (.t 47), none, 0, 0⟩])
    (.cond (.t 43) (.skip)
     (.reg [⟨some 48, .bin .eql (.t 42) (.c (.int .u8 9)), none, 0, 0⟩, ⟨some 43, .mv (.t 48), none, 0, 0⟩])))))))))
 (.cond (.t 43) (.block 2 (.seq (.reg [⟨some 50, .mv (.t 7), none, 0, 0⟩, ⟨some 51, .bin .leq (.t 50) (.c (.int .i64 128)), none, 0, 0⟩, ⟨some 52, .mv (.t 51), none, 0, 0⟩, ⟨some 53, .mv (.t 0), (some (52, true)), 0, 0⟩, ⟨some 54, .call (.c (.fn (.func 290) [] [])) [(.c (.str [32, 32, 32, 32, 32, 32, 32, 32, 32, 32, 32, 32, 32, 32, 32, 32, 32, 32, 32, 32, 32, 32, 32, 32, 32, 32, 32, 32, 32, 32, 32, 32, 32, 32, 32, 32, 32, 32, 32, 32, 32, 32, 32, 32, 32, 32, 32, 32, 32, 32, 32, 32, 32, 32, 32, 32, 32, 32, 32, 32, 32, 32, 32, 32, 32, 32, 32, 32, 32, 32, 32, 32, 32, 32, 32, 32, 32, 32, 32, 32, 32, 32, 32, 32, 32, 32, 32, 32, 32, 32, 32, 32, 32, 32, 32, 32, 32, 32, 32, 32, 32, 32, 32, 32, 32, 32, 32, 32, 32, 32, 32, 32, 32, 32, 32, 32, 32, 32, 32, 32, 32, 32, 32, 32, 32, 32, 32, 32])), (.t 53)], (some (52, true)), 0, 0⟩, ⟨some 55, .pick (.t 52) (.t 54) (.c (.bool false)), none, 0, 0⟩, ⟨some 49, .mv (.t 55), none, 0, 0⟩])
  (.cond (.t 49) (.seq (.reg [⟨some 56, .mv (.t 7), none, 0, 0⟩, ⟨some 57, .slcS (.c (.str [32, 32, 32, 32, 32, 32, 32, 32, 32, 32, 32, 32, 32, 32, 32, 32, 32, 32, 32, 32, 32, 32, 32, 32, 32, 32, 32, 32, 32, 32, 32, 32, 32, 32, 32, 32, 32, 32, 32, 32, 32, 32, 32, 32, 32, 32, 32, 32, 32, 32, 32, 32, 32, 32, 32, 32, 32, 32, 32, 32, 32, 32, 32, 32, 32, 32, 32, 32, 32, 32, 32, 32, 32, 32, 32, 32, 32, 32, 32, 32, 32, 32, 32, 32, 32, 32, 32, 32, 32, 32, 32, 32, 32, 32, 32, 32, 32, 32, 32, 32, 32, 32, 32, 32, 32, 32, 32, 32, 32, 32, 32, 32, 32, 32, 32, 32, 32, 32, 32, 32, 32, 32, 32, 32, 32, 32, 32, 32])) none (some (.t 56)), none, 0, 0⟩, ⟨some 4, .mv (.t 57), none, 0, 0⟩])
   .ret)
   (.seq (.reg [⟨some 59, .mv (.t 7), none, 0, 0⟩, ⟨some 60, .bin .leq (.t 59) (.c (.int .i64 128)), none, 0, 0⟩, ⟨some 61, .mv (.t 60), none, 0, 0⟩, ⟨some 62, .mv (.t 0), (some (61, true)), 0, 0⟩, ⟨some 63, .call (.c (.fn (.func 290) [] [])) [(.c (.str [45, 45, 45, 45, 45, 45, 45, 45, 45, 45, 45, 45, 45, 45, 45, 45, 45, 45, 45, 45, 45, 45, 45, 45, 45, 45, 45, 45, 45, 45, 45, 45, 45, 45, 45, 45, 45, 45, 45, 45, 45, 45, 45, 45, 45, 45, 45, 45, 45, 45, 45, 45, 45, 45, 45, 45, 45, 45, 45, 45, 45, 45, 45, 45, 45, 45, 45, 45, 45, 45, 45, 45, 45, 45, 45, 45, 45, 45, 45, 45, 45, 45, 45, 45, 45, 45, 45, 45, 45, 45, 45, 45, 45, 45, 45, 45, 45, 45, 45, 45, 45, 45, 45, 45, 45, 45, 45, 45, 45, 45, 45, 45, 45, 45, 45, 45, 45, 45, 45, 45, 45, 45, 45, 45, 45, 45, 45, 45])), (.t 62)], (some (61, true)), 0, 0⟩, ⟨some 64, .pick (.t 61) (.t 63) (.c (.bool false)), none, 0, 0⟩, ⟨some 58, .mv (.t 64), none, 0, 0⟩])
   (.cond (.t 58) (.seq (.reg [⟨some 65, .mv (.t 7), none, 0, 0⟩, ⟨some 66, .slcS (.c (.str [45, 45, 45, 45, 45, 45, 45, 45, 45, 45, 45, 45, 45, 45, 45, 45, 45, 45, 45, 45, 45, 45, 45, 45, 45, 45, 45, 45, 45, 45, 45, 45, 45, 45, 45, 45, 45, 45, 45, 45, 45, 45, 45, 45, 45, 45, 45, 45, 45, 45, 45, 45, 45, 45, 45, 45, 45, 45, 45, 45, 45, 45, 45, 45, 45, 45, 45, 45, 45, 45, 45, 45, 45, 45, 45, 45, 45, 45, 45, 45, 45, 45, 45, 45, 45, 45, 45, 45, 45, 45, 45, 45, 45, 45, 45, 45, 45, 45, 45, 45, 45, 45, 45, 45, 45, 45, 45, 45, 45, 45, 45, 45, 45, 45, 45, 45, 45, 45, 45, 45, 45, 45, 45, 45, 45, 45, 45, 45])) none (some (.t 65)), none, 0, 0⟩, ⟨some 4, .mv (.t 66), none, 0, 0⟩])
    .ret)
    (.seq (.reg [⟨some 68, .mv (.t 7), none, 0, 0⟩, ⟨some 69, .bin .leq (.t 68) (.c (.int .i64 64)), none, 0, 0⟩, ⟨some 70, .mv (.t 69), none, 0, 0⟩, ⟨some 71, .mv (.t 0), (some (70, true)), 0, 0⟩, ⟨some 72, .call (.c (.fn (.func 290) [] [])) [(.c (.str [48, 48, 48, 48, 48, 48, 48, 48, 48, 48, 48, 48, 48, 48, 48, 48, 48, 48, 48, 48, 48, 48, 48, 48, 48, 48, 48, 48, 48, 48, 48, 48, 48, 48, 48, 48, 48, 48, 48, 48, 48, 48, 48, 48, 48, 48, 48, 48, 48, 48, 48, 48, 48, 48, 48, 48, 48, 48, 48, 48, 48, 48, 48, 48])), (.t 71)], (some (70, true)), 0, 0⟩, ⟨some 73, .pick (.t 70) (.t 72) (.c (.bool false)), none, 0, 0⟩, ⟨some 67, .mv (.t 73), none, 0, 0⟩])
    (.cond (.t 67) (.seq (.reg [⟨some 74, .mv (.t 7), none, 0, 0⟩, ⟨some 75, .slcS (.c (.str [48, 48, 48, 48, 48, 48, 48, 48, 48, 48, 48, 48, 48, 48, 48, 48, 48, 48, 48, 48, 48, 48, 48, 48, 48, 48, 48, 48, 48, 48, 48, 48, 48, 48, 48, 48, 48, 48, 48, 48, 48, 48, 48, 48, 48, 48, 48, 48, 48, 48, 48, 48, 48, 48, 48, 48, 48, 48, 48, 48, 48, 48, 48, 48])) none (some (.t 74)), none, 0, 0⟩, ⟨some 4, .mv (.t 75), none, 0, 0⟩])
     .ret)
     (.seq (.reg [⟨some 77, .mv (.t 7), none, 0, 0⟩, ⟨some 78, .bin .leq (.t 77) (.c (.int .i64 128)), none, 0, 0⟩, ⟨some 79, .mv (.t 78), none, 0, 0⟩, ⟨some 80, .mv (.t 0), (some (79, true)), 0, 0⟩, ⟨some 81, .call (.c (.fn (.func 290) [] [])) [(.c (.str [61, 61, 61, 61, 61, 61, 61, 61, 61, 61, 61, 61, 61, 61, 61, 61, 61, 61, 61, 61, 61, 61, 61, 61, 61, 61, 61, 61, 61, 61, 61, 61, 61, 61, 61, 61, 61, 61, 61, 61, 61, 61, 61, 61, 61, 61, 61, 61, 61, 61, 61, 61, 61, 61, 61, 61, 61, 61, 61, 61, 61, 61, 61, 61, 61, 61, 61, 61, 61, 61, 61, 61, 61, 61, 61, 61, 61, 61, 61, 61, 61, 61, 61, 61, 61, 61, 61, 61, 61, 61, 61, 61, 61, 61, 61, 61, 61, 61, 61, 61, 61, 61, 61, 61, 61, 61, 61, 61, 61, 61, 61, 61, 61, 61, 61, 61, 61, 61, 61, 61, 61, 61, 61, 61, 61, 61, 61, 61])), (.t 80)], (some (79, true)), 0, 0⟩, ⟨some 82, .pick (.t 79) (.t 81) (.c (.bool false)), none, 0, 0⟩, ⟨some 76, .mv (.t 82), none, 0, 0⟩])
     (.cond (.t 76) (.seq (.reg [⟨some 83, .mv (.t 7), none, 0, 0⟩, ⟨some 84, .slcS (.c (.str [61, 61, 61, 61, 61, 61, 61, 61, 61, 61, 61, 61, 61, 61, 61, 61, 61, 61, 61, 61, 61, 61, 61, 61, 61, 61, 61, 61, 61, 61, 61, 61, 61, 61, 61, 61, 61, 61, 61, 61, 61, 61, 61, 61, 61, 61, 61, 61, 61, 61, 61, 61, 61, 61, 61, 61, 61, 61, 61, 61, 61, 61, 61, 61, 61, 61, 61, 61, 61, 61, 61, 61, 61, 61, 61, 61, 61, 61, 61, 61, 61, 61, 61, 61, 61, 61, 61, 61, 61, 61, 61, 61, 61, 61, 61, 61, 61, 61, 61, 61, 61, 61, 61, 61, 61, 61, 61, 61, 61, 61, 61, 61, 61, 61, 61, 61, 61, 61, 61, 61, 61, 61, 61, 61, 61, 61, 61, 61])) none (some (.t 83)), none, 0, 0⟩, ⟨some 4, .mv (.t 84), none, 0, 0⟩])
      .ret)
      (.seq (.reg [⟨some 86, .mv (.t 7), none, 0, 0⟩, ⟨some 87, .bin .leq (.t 86) (.c (.int .i64 64)), none, 0, 0⟩, ⟨some 88, .mv (.t 87), none, 0, 0⟩, ⟨some 89, .mv (.t 0), (some (88, true)), 0, 0⟩, ⟨some 90, .call (.c (.fn (.func 290) [] [])) [(.c (.str [9, 9, 9, 9, 9, 9, 9, 9, 9, 9, 9, 9, 9, 9, 9, 9, 9, 9, 9, 9, 9, 9, 9, 9, 9, 9, 9, 9, 9, 9, 9, 9, 9, 9, 9, 9, 9, 9, 9, 9, 9, 9, 9, 9, 9, 9, 9, 9, 9, 9, 9, 9, 9, 9, 9, 9, 9, 9, 9, 9, 9, 9, 9, 9])), (.t 89)], (some (88, true)), 0, 0⟩, ⟨some 91, .pick (.t 88) (.t 90) (.c (.bool false)), none, 0, 0⟩, ⟨some 85, .mv (.t 91), none, 0, 0⟩])
      (.cond (.t 85) (.seq (.reg [⟨some 92, .mv (.t 7), none, 0, 0⟩, ⟨some 93, .slcS (.c (.str [9, 9, 9, 9, 9, 9, 9, 9, 9, 9, 9, 9, 9, 9, 9, 9, 9, 9, 9, 9, 9, 9, 9, 9, 9, 9, 9, 9, 9, 9, 9, 9, 9, 9, 9, 9, 9, 9, 9, 9, 9, 9, 9, 9, 9, 9, 9, 9, 9, 9, 9, 9, 9, 9, 9, 9, 9, 9, 9, 9, 9, 9, 9, 9])) none (some (.t 92)), none, 0, 0⟩, ⟨some 4, .mv (.t 93), none, 0, 0⟩])
       .ret)
       (.skip))))))))))))
  (.skip)))))
 (.seq (.reg [⟨some 94, .mv (.t 7), none, 0, 0⟩, ⟨some 8, .mv (.t 94), none, 0, 0⟩])
 (.seq (.seq (.reg [⟨some 95, .mv (.t 7), none, 0, 0⟩, ⟨some 96, .bin .gtr (.t 95) (.c (.int .i64 8192)), none, 0, 0⟩])
 (.cond (.t 96) (.seq (.reg [⟨some 97, .mv (.t 0), none, 0, 0⟩, ⟨some 98, .len 0 (.t 97), none, 0, 0⟩, ⟨some 99, .bin .quo (.c (.int .i64 8192)) (.t 98), none, 0, 0⟩, ⟨some 100, .mv (.t 0), none, 0, 0⟩, ⟨some 101, .len 0 (.t 100), none, 0, 0⟩, ⟨some 102, .bin .mul (.t 99) (.t 101), none, 0, 0⟩, ⟨some 8, .mv (.t 102), none, 0, 0⟩])
  (.seq (.reg [⟨some 103, .mv (.t 8), none, 0, 0⟩, ⟨some 104, .bin .eql (.t 103) (.c (.int .i64 0)), none, 0, 0⟩])
  (.cond (.t 104) (.reg [⟨some 105, .mv (.t 0), none, 0, 0⟩, ⟨some 106, .len 0 (.t 105), none, 0, 0⟩, ⟨some 8, .mv (.t 106), none, 0, 0⟩])
   (.skip))))
  (.skip)))
 (.seq (.reg [⟨some 9, .alloc [.nilp, .nils], none, 0, 0⟩])
 (.seq (.reg [⟨some 107, .mv (.t 7), none, 0, 0⟩, ⟨some 108, .call (.c (.fn (.func 291) [] [])) [(.t 9), (.t 107)], none, 0, 0⟩])
 (.seq (.reg [⟨some 109, .mv (.t 0), none, 0, 0⟩, ⟨some 110, .call (.c (.fn (.func 176) [] [])) [(.t 9), (.t 109)], none, 0, 0⟩])
 (.seq (.block 3 (.loop (.seq (.seq (.reg [⟨some 111, .call (.c (.fn (.func 247) [] [])) [(.t 9)], none, 0, 0⟩, ⟨some 112, .mv (.t 7), none, 0, 0⟩, ⟨some 113, .bin .lss (.t 111) (.t 112), none, 0, 0⟩])
  (.cond (.t 113) (.skip)
   (.exit 3)))
  (.block 4 (.seq (.reg [⟨some 114, .mv (.t 7), none, 0, 0⟩, ⟨some 115, .call (.c (.fn (.func 247) [] [])) [(.t 9)], none, 0, 0⟩, ⟨some 116, .bin .sub (.t 114) (.t 115), none, 0, 0⟩, ⟨some 117, .call (.c (.fn (.func 247) [] [])) [(.t 9)], none, 0, 0⟩, ⟨some 118, .mv (.t 8), none, 0, 0⟩, ⟨some 119, .mxmn false [(.t 116), (.t 117), (.t 118)], none, 0, 0⟩, ⟨some 10, .mv (.t 119), none, 0, 0⟩])
  (.reg [⟨some 120, .call (.c (.fn (.func 178) [] [])) [(.t 9)], none, 0, 0⟩, ⟨some 121, .mv (.t 10), none, 0, 0⟩, ⟨some 122, .slcS (.t 120) none (some (.t 121)), none, 0, 0⟩, ⟨some 123, .call (.c (.fn (.func 176) [] [])) [(.t 9), (.t 122)], none, 0, 0⟩]))))))
 (.seq (.reg [⟨some 124, .call (.c (.fn (.func 178) [] [])) [(.t 9)], none, 0, 0⟩, ⟨some 4, .mv (.t 124), none, 0, 0⟩])
 .ret))))))))))))))), [.t 4]⟩
theorem c246 : ∃ fn, Tryz.prog.funcs[246]? = some fn ∧ compFn Tryz.prog fn = some a246 := ⟨_, Tryz.func246, by kernel_rfl⟩
/-- (*strings.Builder).Len -/
def a247 : AFunc := ⟨8, (.seq (.reg [⟨some 2, .mv (.c (.int .i64 0)), none, 0, 0⟩])
 (.seq (.reg [⟨some 3, .mv (.t 0), none, 0, 0⟩, ⟨some 4, .nilck (.t 3), none, 0, 0⟩, ⟨some 5, .fieldAddr 1 (.t 4), none, 0, 0⟩, ⟨some 6, .load none (.t 5), none, 0, 0⟩, ⟨some 7, .len 1 (.t 6), none, 0, 0⟩, ⟨some 2, .mv (.t 7), none, 0, 0⟩])
 .ret)), [.t 2]⟩
theorem c247 : ∃ fn, Tryz.prog.funcs[247]? = some fn ∧ compFn Tryz.prog fn = some a247 := ⟨_, Tryz.func247, by kernel_rfl⟩
/-- gauger/witness.same$1 -/
def a254 : AFunc := ⟨8, (.seq (.reg [⟨some 4, .mv (.c (.bool false)), none, 0, 0⟩])
 (.seq (.reg [⟨some 5, .mv (.t 0), none, 0, 0⟩, ⟨some 6, .mv (.t 1), none, 0, 0⟩, ⟨some 7, .call (.c (.fn (.func 97) [] [])) [(.t 5), (.t 6)], none, 0, 0⟩, ⟨some 4, .mv (.t 7), none, 0, 0⟩])
 .ret)), [.t 4]⟩
theorem c254 : ∃ fn, Tryz.prog.funcs[254]? = some fn ∧ compFn Tryz.prog fn = some a254 := ⟨_, Tryz.func254, by kernel_rfl⟩
/-- slices.EqualFunc[[]gauger/wish.Sum,[]gauger/wish.Sum,gauger/wish.Sum,gauger/wish.Sum] -/
def a255 : AFunc := ⟨32, (.seq (.reg [⟨some 6, .mv (.c (.bool false)), none, 0, 0⟩])
 (.seq (.seq (.reg [⟨some 10, .mv (.t 0), none, 0, 0⟩, ⟨some 11, .len 1 (.t 10), none, 0, 0⟩, ⟨some 12, .mv (.t 1), none, 0, 0⟩, ⟨some 13, .len 1 (.t 12), none, 0, 0⟩, ⟨some 14, .bin .neq (.t 11) (.t 13), none, 0, 0⟩])
 (.cond (.t 14) (.seq (.reg [⟨some 6, .mv (.c (.bool false)), none, 0, 0⟩])
  .ret)
  (.skip)))
 (.seq (.seq (.reg [⟨some 15, .mv (.t 0), none, 0, 0⟩, ⟨some 16, .len 1 (.t 15), none, 0, 0⟩, ⟨some 17, .mv (.c (.int .i64 0)), none, 0, 0⟩])
 (.block 0 (.loop (.seq (.reg [⟨some 18, .bin .lss (.t 17) (.t 16), none, 0, 0⟩])
  (.seq (.cond (.t 18) (.skip)
   (.exit 0))
  (.seq (.block 1 (.seq (.reg [⟨some 19, .mv (.t 17), none, 0, 0⟩, ⟨some 20, .idxAddr 5 (.t 15) (.t 17), none, 0, 0⟩, ⟨some 21, .load (some 5) (.t 20), none, 0, 0⟩, ⟨some 8, .alloc [(.int .i64 0), (.int .i64 0), (.str []), (.int .i64 0), .nils], none, 0, 0⟩, ⟨some 7, .mv (.t 19), none, 0, 0⟩, ⟨none, .store 5 (.t 8) (.t 21), none, 0, 0⟩])
  (.seq (.reg [⟨some 22, .mv (.t 1), none, 0, 0⟩, ⟨some 23, .mv (.t 7), none, 0, 0⟩, ⟨some 24, .idxAddr 5 (.t 22) (.t 23), none, 0, 0⟩, ⟨some 25, .load (some 5) (.t 24), none, 0, 0⟩, ⟨some 9, .alloc [(.int .i64 0), (.int .i64 0), (.str []), (.int .i64 0), .nils], none, 0, 0⟩, ⟨none, .store 5 (.t 9) (.t 25), none, 0, 0⟩])
  (.seq (.reg [⟨some 26, .mv (.t 2), none, 0, 0⟩, ⟨some 27, .load (some 5) (.t 8), none, 0, 0⟩, ⟨some 28, .load (some 5) (.t 9), none, 0, 0⟩, ⟨some 29, .call (.t 26) [(.t 27), (.t 28)], none, 0, 0⟩, ⟨some 30, .un .not (.t 29), none, 0, 0⟩])
  (.cond (.t 30) (.seq (.reg [⟨some 6, .mv (.c (.bool false)), none, 0, 0⟩])
   .ret)
   (.skip))))))
  (.reg [⟨some 31, .bin .add (.t 17) (.c (.int .i64 1)), none, 0, 0⟩, ⟨some 17, .mv (.t 31), none, 0, 0⟩])))))))
 (.seq (.reg [⟨some 6, .mv (.c (.bool true)), none, 0, 0⟩])
 .ret)))), [.t 6]⟩
theorem c255 : ∃ fn, Tryz.prog.funcs[255]? = some fn ∧ compFn Tryz.prog fn = some a255 := ⟨_, Tryz.func255, by kernel_rfl⟩
/-- gauger/witness.sameSum -/
def a256 : AFunc := ⟨24, (.seq (.reg [⟨some 2, .box (.t 0), none, 0, 0⟩, ⟨some 3, .box (.t 1), none, 0, 0⟩, ⟨some 4, .mv (.c (.bool false)), none, 0, 0⟩])
 (.seq (.reg [⟨some 5, .fieldAddr 0 (.t 2), none, 0, 0⟩, ⟨some 6, .load (some 3) (.t 5), none, 0, 0⟩, ⟨some 7, .fieldAddr 0 (.t 3), none, 0, 0⟩, ⟨some 8, .load (some 3) (.t 7), none, 0, 0⟩, ⟨some 9, .eqS false [1, 1, 2] (.t 6) (.t 8), none, 0, 0⟩, ⟨some 10, .mv (.t 9), none, 0, 0⟩, ⟨some 11, .fieldAddr 3 (.t 2), (some (10, true)), 0, 0⟩, ⟨some 12, .load none (.t 11), (some (10, true)), 0, 0⟩, ⟨some 13, .fieldAddr 3 (.t 3), (some (10, true)), 0, 0⟩, ⟨some 14, .load none (.t 13), (some (10, true)), 0, 0⟩, ⟨some 15, .bin .eql (.t 12) (.t 14), (some (10, true)), 0, 0⟩, ⟨some 16, .pick (.t 10) (.t 15) (.c (.bool false)), none, 0, 0⟩, ⟨some 17, .mv (.t 16), none, 0, 0⟩, ⟨some 18, .fieldAddr 4 (.t 2), (some (17, true)), 0, 0⟩, ⟨some 19, .load none (.t 18), (some (17, true)), 0, 0⟩, ⟨some 20, .fieldAddr 4 (.t 3), (some (17, true)), 0, 0⟩, ⟨some 21, .load none (.t 20), (some (17, true)), 0, 0⟩, ⟨some 22, .call (.c (.fn (.func 292) [] [])) [(.t 19), (.t 21)], (some (17, true)), 0, 0⟩, ⟨some 23, .pick (.t 17) (.t 22) (.c (.bool false)), none, 0, 0⟩, ⟨some 4, .mv (.t 23), none, 0, 0⟩])
 .ret)), [.t 4]⟩
theorem c256 : ∃ fn, Tryz.prog.funcs[256]? = some fn ∧ compFn Tryz.prog fn = some a256 := ⟨_, Tryz.func256, by kernel_rfl⟩
/-- gauger/sign.Good -/
def a261 : AFunc := ⟨21, (.seq (.reg [⟨some 1, .box (.t 0), none, 0, 0⟩, ⟨some 2, .mv (.c (.bool false)), none, 0, 0⟩])
 (.seq (.seq (.reg [⟨some 3, .fieldAddr 0 (.t 1), none, 0, 0⟩, ⟨some 4, .load none (.t 3), none, 0, 0⟩])
 (.block 0 (.seq (.reg [⟨some 6, .bin .eql (.t 4) (.c (.int .i64 1)), none, 0, 0⟩, ⟨some 5, .mv (.t 6), none, 0, 0⟩])
 (.cond (.t 5) (.seq (.reg [⟨some 7, .fieldAddr 2 (.t 1), none, 0, 0⟩, ⟨some 8, .load none (.t 7), none, 0, 0⟩, ⟨some 9, .bin .eql (.t 8) (.c (.str [])), none, 0, 0⟩, ⟨some 2, .mv (.t 9), none, 0, 0⟩])
  .ret)
  (.seq (.reg [⟨some 11, .bin .eql (.t 4) (.c (.int .i64 2)), none, 0, 0⟩, ⟨some 10, .mv (.t 11), none, 0, 0⟩])
  (.cond (.t 10) (.seq (.reg [⟨some 12, .fieldAddr 1 (.t 1), none, 0, 0⟩, ⟨some 13, .load none (.t 12), none, 0, 0⟩, ⟨some 14, .bin .eql (.t 13) (.c (.int .i64 0)), none, 0, 0⟩, ⟨some 15, .mv (.t 14), none, 0, 0⟩, ⟨some 16, .fieldAddr 2 (.t 1), (some (15, true)), 0, 0⟩, ⟨some 17, .load none (.t 16), (some (15, true)), 0, 0⟩, ⟨some 18, .len 0 (.t 17), (some (15, true)), 0, 0⟩, ⟨some 19, .bin .leq (.t 18) (.c (.int .i64 7)), (some (15, true)), 0, 0⟩, ⟨some 20, .pick (.t 15) (.t 19) (.c (.bool false)), none, 0, 0⟩, ⟨some 2, .mv (.t 20), none, 0, 0⟩])
   .ret)
   (.skip)))))))
 (.seq (.reg [⟨some 2, .mv (.c (.bool false)), none, 0, 0⟩])
 .ret))), [.t 2]⟩
theorem c261 : ∃ fn, Tryz.prog.funcs[261]? = some fn ∧ compFn Tryz.prog fn = some a261 := ⟨_, Tryz.func261, by kernel_rfl⟩
end Go.Proofs.YtlogcjaigjcmiaaGreat.AM.Wp
