/-
  'gauger's law ArkExact holds of every input: it returns true, and each argument reads behind the call as it read before.
  This text: part 15 of 19 of the proof (Ax0, Ax, AxA, AxB).
-/
import Derived.Test.YtfkkeddjfiljfaaMam
import Derived.Test.YtfkkeddjfiljfaaProg
import Derived.KernelRfl
set_option maxRecDepth 100000
set_option linter.unusedVariables false
set_option linter.unusedSimpArgs false
namespace Go.Proofs.Ytfkkeddjfiljfaa.AM.Ax
open Go
abbrev o_ (d : Nat) (i : AOp) : AOper := ⟨some d, i, none, 0, 0⟩
def a3 : AFunc := ⟨74, (.seq (.reg [o_ 3 (.box (.t 0)), o_ 6 (.mv (.c (.bool false)))])
 (.seq (.seq (.reg [o_ 13 (.call (.c (.fn (.func 4) [] [])) []), o_ 14 (.un .not (.t 13))])
 (.cond (.t 14) (.seq (.reg [o_ 6 (.mv (.c (.bool false)))])
  .ret)
  (.skip)))
 (.seq (.seq (.reg [o_ 15 (.load (some 2) (.t 3)), o_ 16 (.mv (.t 1)), o_ 17 (.call (.c (.fn (.func 5) [] [])) [(.t 15), (.t 16)]), o_ 18 (.mv (.t 17)), ⟨some 19, .mv (.t 2), (some (18, false)), 0, 0⟩, ⟨some 20, .len 0 (.t 19), (some (18, false)), 0, 0⟩, ⟨some 21, .bin .gtr (.t 20) (.c (.int .i64 2048)), (some (18, false)), 0, 0⟩, o_ 22 (.pick (.t 18) (.c (.bool true)) (.t 21))])
 (.cond (.t 22) (.seq (.reg [o_ 6 (.mv (.c (.bool true)))])
  .ret)
  (.skip)))
 (.seq (.reg [o_ 24 (.load (some 2) (.t 3)), o_ 25 (.mv (.t 1)), o_ 26 (.call (.c (.fn (.func 6) [] [])) [(.t 24), (.t 25)]), o_ 23 (.mv (.t 26)), o_ 27 (.extract (.t 23) 0), o_ 28 (.extract (.t 23) 1), o_ 7 (.mv (.t 27)), o_ 8 (.mv (.t 28))])
 (.seq (.seq (.reg [o_ 29 (.load (some 2) (.t 3)), o_ 30 (.mv (.t 1)), o_ 31 (.call (.c (.fn (.func 7) [] [])) [(.t 29), (.t 30)])])
 (.cond (.t 31) (.seq (.reg [o_ 32 (.mv (.t 8)), o_ 33 (.bin .neq (.t 32) (.c (.int .i64 0))), o_ 34 (.mv (.t 33)), ⟨some 35, .mv (.t 7), (some (34, false)), 0, 0⟩, ⟨some 36, .mv (.t 1), (some (34, false)), 0, 0⟩, ⟨some 37, .call (.c (.fn (.func 8) [] [])) [(.t 36)], (some (34, false)), 0, 0⟩, ⟨some 38, .bin .neq (.t 35) (.t 37), (some (34, false)), 0, 0⟩, o_ 39 (.pick (.t 34) (.c (.bool true)) (.t 38))])
  (.cond (.t 39) (.seq (.reg [o_ 6 (.mv (.c (.bool false)))])
   .ret)
   (.skip)))
  (.seq (.reg [o_ 40 (.mv (.t 8)), o_ 41 (.bin .neq (.t 40) (.c (.int .i64 1))), o_ 42 (.mv (.t 41)), ⟨some 43, .mv (.t 7), (some (42, false)), 0, 0⟩, ⟨some 44, .bin .neq (.t 43) (.c (.str [])), (some (42, false)), 0, 0⟩, o_ 45 (.pick (.t 42) (.c (.bool true)) (.t 44))])
  (.cond (.t 45) (.seq (.reg [o_ 6 (.mv (.c (.bool false)))])
   .ret)
   (.skip)))))
 (.seq (.reg [o_ 47 (.load (some 2) (.t 3)), o_ 48 (.mv (.t 2)), o_ 49 (.call (.c (.fn (.func 9) [] [])) [(.t 47), (.t 48)]), o_ 46 (.mv (.t 49)), o_ 50 (.extract (.t 46) 0), o_ 51 (.extract (.t 46) 1), o_ 9 (.mv (.t 50)), o_ 10 (.mv (.t 51))])
 (.seq (.reg [o_ 53 (.load (some 2) (.t 3)), o_ 54 (.mv (.t 2)), o_ 55 (.call (.c (.fn (.func 10) [] [])) [(.t 53), (.t 54)]), o_ 52 (.mv (.t 55)), o_ 56 (.extract (.t 52) 0), o_ 57 (.extract (.t 52) 1), o_ 11 (.mv (.t 56)), o_ 12 (.mv (.t 57))])
 (.seq (.seq (.reg [o_ 58 (.mv (.t 12)), o_ 59 (.un .not (.t 58))])
 (.cond (.t 59) (.seq (.reg [o_ 60 (.mv (.t 10)), o_ 61 (.bin .eql (.t 60) (.c (.int .i64 3))), o_ 62 (.mv (.t 61)), ⟨some 63, .mv (.t 9), (some (62, true)), 0, 0⟩, ⟨some 64, .len 1 (.t 63), (some (62, true)), 0, 0⟩, ⟨some 65, .bin .eql (.t 64) (.c (.int .i64 0)), (some (62, true)), 0, 0⟩, o_ 66 (.pick (.t 62) (.t 65) (.c (.bool false))), o_ 6 (.mv (.t 66))])
  .ret)
  (.skip)))
 (.seq (.reg [o_ 67 (.mv (.t 10)), o_ 68 (.bin .eql (.t 67) (.c (.int .i64 0))), o_ 69 (.mv (.t 68)), ⟨some 70, .mv (.t 9), (some (69, true)), 0, 0⟩, ⟨some 71, .mv (.t 11), (some (69, true)), 0, 0⟩, ⟨some 72, .call (.c (.fn (.func 11) [] [])) [(.t 70), (.t 71)], (some (69, true)), 0, 0⟩, o_ 73 (.pick (.t 69) (.t 72) (.c (.bool false))), o_ 6 (.mv (.t 73))])
 .ret))))))))), [.t 6]⟩
theorem c3 : ∃ fn, Try.prog.funcs[3]? = some fn ∧ compFn Try.prog fn = some a3 := ⟨_, Try.func3, by kernel_rfl⟩
def a4 : AFunc := ⟨56, (.seq (.reg [o_ 0 (.mv (.c (.bool false)))])
 (.seq (.reg [o_ 8 (.buildSl [(.int .i64 0)] 1 [(0, (.c (.int .i64 1)))]), o_ 9 (.build [.nils] [(0, 1, (.t 8))]), o_ 10 (.buildSl [.nils] 1 [(0, (.t 9))]), o_ 11 (.build [.nils, .nils] [(0, 1, (.t 10))]), o_ 1 (.alloc [.nils, .nils]), ⟨none, .store 2 (.t 1) (.t 11), none, 0, 0⟩])
 (.seq (.reg [o_ 13 (.load (some 2) (.t 1)), o_ 14 (.buildSl [.nils] 0 []), o_ 15 (.buildSl [.nils] 1 [(0, (.t 14))]), o_ 16 (.call (.c (.fn (.func 6) [] [])) [(.t 13), (.t 15)]), o_ 12 (.mv (.t 16)), o_ 17 (.extract (.t 12) 0), o_ 18 (.extract (.t 12) 1), o_ 2 (.mv (.t 17)), o_ 3 (.mv (.t 18))])
 (.seq (.reg [o_ 20 (.load (some 2) (.t 1)), o_ 21 (.mv (.t 2)), o_ 22 (.call (.c (.fn (.func 9) [] [])) [(.t 20), (.t 21)]), o_ 19 (.mv (.t 22)), o_ 23 (.extract (.t 19) 0), o_ 24 (.extract (.t 19) 1), o_ 4 (.mv (.t 23)), o_ 5 (.mv (.t 24))])
 (.seq (.reg [o_ 26 (.load (some 2) (.t 1)), o_ 27 (.call (.c (.fn (.func 9) [] [])) [(.t 26), (.c (.str []))]), o_ 25 (.mv (.t 27)), o_ 28 (.extract (.t 25) 0), o_ 29 (.extract (.t 25) 1), o_ 6 (.mv (.t 28)), o_ 7 (.mv (.t 29))])
 (.seq (.reg [o_ 30 (.mv (.t 3)), o_ 31 (.bin .eql (.t 30) (.c (.int .i64 0))), o_ 32 (.mv (.t 31)), ⟨some 33, .mv (.t 2), (some (32, true)), 0, 0⟩, ⟨some 34, .bin .eql (.t 33) (.c (.str [0, 0, 255, 18, 217, 65])), (some (32, true)), 0, 0⟩, o_ 35 (.pick (.t 32) (.t 34) (.c (.bool false))), o_ 36 (.mv (.t 35)), ⟨some 37, .mv (.t 5), (some (36, true)), 0, 0⟩, ⟨some 38, .bin .eql (.t 37) (.c (.int .i64 0)), (some (36, true)), 0, 0⟩, o_ 39 (.pick (.t 36) (.t 38) (.c (.bool false))), o_ 40 (.mv (.t 39)), ⟨some 41, .mv (.t 4), (some (40, true)), 0, 0⟩, ⟨some 42, .len 1 (.t 41), (some (40, true)), 0, 0⟩, ⟨some 43, .bin .eql (.t 42) (.c (.int .i64 1)), (some (40, true)), 0, 0⟩, o_ 44 (.pick (.t 40) (.t 43) (.c (.bool false))), o_ 45 (.mv (.t 44)), ⟨some 46, .mv (.t 4), (some (45, true)), 0, 0⟩, ⟨some 47, .idxAddr 1 (.t 46) (.c (.int .i64 0)), (some (45, true)), 0, 0⟩, ⟨some 48, .load none (.t 47), (some (45, true)), 0, 0⟩, ⟨some 49, .len 1 (.t 48), (some (45, true)), 0, 0⟩, ⟨some 50, .bin .eql (.t 49) (.c (.int .i64 0)), (some (45, true)), 0, 0⟩, o_ 51 (.pick (.t 45) (.t 50) (.c (.bool false))), o_ 52 (.mv (.t 51)), ⟨some 53, .mv (.t 7), (some (52, true)), 0, 0⟩, ⟨some 54, .bin .eql (.t 53) (.c (.int .i64 3)), (some (52, true)), 0, 0⟩, o_ 55 (.pick (.t 52) (.t 54) (.c (.bool false))), o_ 0 (.mv (.t 55))])
 .ret)))))), [.t 0]⟩
theorem c4 : ∃ fn, Try.prog.funcs[4]? = some fn ∧ compFn Try.prog fn = some a4 := ⟨_, Try.func4, by kernel_rfl⟩
def a5 : AFunc := ⟨110, (.seq (.reg [o_ 2 (.box (.t 0)), o_ 4 (.mv (.c (.bool false)))])
 (.seq (.seq (.reg [o_ 10 (.fieldAddr 0 (.t 2)), o_ 11 (.load none (.t 10)), o_ 12 (.len 1 (.t 11)), o_ 13 (.bin .gtr (.t 12) (.c (.int .i64 6))), o_ 14 (.mv (.t 13)), ⟨some 15, .fieldAddr 1 (.t 2), (some (14, false)), 0, 0⟩, ⟨some 16, .load none (.t 15), (some (14, false)), 0, 0⟩, ⟨some 17, .len 1 (.t 16), (some (14, false)), 0, 0⟩, ⟨some 18, .bin .gtr (.t 17) (.c (.int .i64 8)), (some (14, false)), 0, 0⟩, o_ 19 (.pick (.t 14) (.c (.bool true)) (.t 18)), o_ 20 (.mv (.t 19)), ⟨some 21, .mv (.t 1), (some (20, false)), 0, 0⟩, ⟨some 22, .len 1 (.t 21), (some (20, false)), 0, 0⟩, ⟨some 23, .bin .gtr (.t 22) (.c (.int .i64 6)), (some (20, false)), 0, 0⟩, o_ 24 (.pick (.t 20) (.c (.bool true)) (.t 23))])
 (.cond (.t 24) (.seq (.reg [o_ 4 (.mv (.c (.bool true)))])
  .ret)
  (.skip)))
 (.seq (.seq (.reg [o_ 5 (.mv (.c (.int .i64 0)))])
 (.block 0 (.loop (.seq (.seq (.reg [o_ 25 (.mv (.t 5)), o_ 26 (.fieldAddr 0 (.t 2)), o_ 27 (.load none (.t 26)), o_ 28 (.len 1 (.t 27)), o_ 29 (.bin .lss (.t 25) (.t 28))])
  (.cond (.t 29) (.skip)
   (.exit 0)))
  (.seq (.block 1 (.seq (.reg [o_ 32 (.fieldAddr 0 (.t 2)), o_ 33 (.load none (.t 32)), o_ 34 (.mv (.t 5)), o_ 35 (.idxAddr 1 (.t 33) (.t 34)), o_ 36 (.fieldAddr 0 (.t 35)), o_ 37 (.load none (.t 36)), o_ 38 (.len 1 (.t 37)), o_ 39 (.bin .gtr (.t 38) (.c (.int .i64 10)))])
  (.cond (.t 39) (.seq (.reg [o_ 4 (.mv (.c (.bool true)))])
   .ret)
   (.skip))))
  (.reg [o_ 30 (.mv (.t 5)), o_ 31 (.bin .add (.t 30) (.c (.int .i64 1))), o_ 5 (.mv (.t 31))]))))))
 (.seq (.seq (.reg [o_ 6 (.mv (.c (.int .i64 0)))])
 (.block 2 (.loop (.seq (.seq (.reg [o_ 40 (.mv (.t 6)), o_ 41 (.fieldAddr 1 (.t 2)), o_ 42 (.load none (.t 41)), o_ 43 (.len 1 (.t 42)), o_ 44 (.bin .lss (.t 40) (.t 43))])
  (.cond (.t 44) (.skip)
   (.exit 2)))
  (.seq (.block 3 (.seq (.reg [o_ 47 (.fieldAddr 1 (.t 2)), o_ 48 (.load none (.t 47)), o_ 49 (.mv (.t 6)), o_ 50 (.idxAddr 3 (.t 48) (.t 49)), o_ 51 (.fieldAddr 2 (.t 50)), o_ 52 (.load none (.t 51)), o_ 53 (.len 1 (.t 52)), o_ 54 (.bin .gtr (.t 53) (.c (.int .i64 10)))])
  (.cond (.t 54) (.seq (.reg [o_ 4 (.mv (.c (.bool true)))])
   .ret)
   (.skip))))
  (.reg [o_ 45 (.mv (.t 6)), o_ 46 (.bin .add (.t 45) (.c (.int .i64 1))), o_ 6 (.mv (.t 46))]))))))
 (.seq (.seq (.reg [o_ 7 (.mv (.c (.int .i64 0)))])
 (.block 4 (.loop (.seq (.seq (.reg [o_ 55 (.mv (.t 7)), o_ 56 (.mv (.t 1)), o_ 57 (.len 1 (.t 56)), o_ 58 (.bin .lss (.t 55) (.t 57))])
  (.cond (.t 58) (.skip)
   (.exit 4)))
  (.seq (.block 5 (.seq (.seq (.reg [o_ 61 (.mv (.t 1)), o_ 62 (.mv (.t 7)), o_ 63 (.idxAddr 1 (.t 61) (.t 62)), o_ 64 (.load none (.t 63)), o_ 65 (.len 1 (.t 64)), o_ 66 (.bin .gtr (.t 65) (.c (.int .i64 60)))])
  (.cond (.t 66) (.seq (.reg [o_ 4 (.mv (.c (.bool true)))])
   .ret)
   (.skip)))
  (.seq (.reg [o_ 8 (.mv (.c (.int .i64 0)))])
  (.block 6 (.loop (.seq (.seq (.reg [o_ 67 (.mv (.t 8)), o_ 68 (.mv (.t 1)), o_ 69 (.mv (.t 7)), o_ 70 (.idxAddr 1 (.t 68) (.t 69)), o_ 71 (.load none (.t 70)), o_ 72 (.len 1 (.t 71)), o_ 73 (.bin .lss (.t 67) (.t 72))])
   (.cond (.t 73) (.skip)
    (.exit 6)))
   (.seq (.block 7 (.seq (.seq (.reg [o_ 76 (.mv (.t 1)), o_ 77 (.mv (.t 7)), o_ 78 (.idxAddr 1 (.t 76) (.t 77)), o_ 79 (.load none (.t 78)), o_ 80 (.mv (.t 8)), o_ 81 (.idxAddr 1 (.t 79) (.t 80)), o_ 82 (.load none (.t 81)), o_ 83 (.len 1 (.t 82)), o_ 84 (.bin .gtr (.t 83) (.c (.int .i64 8)))])
   (.cond (.t 84) (.seq (.reg [o_ 4 (.mv (.c (.bool true)))])
    .ret)
    (.skip)))
   (.seq (.reg [o_ 9 (.mv (.c (.int .i64 0)))])
   (.block 8 (.loop (.seq (.seq (.reg [o_ 85 (.mv (.t 9)), o_ 86 (.mv (.t 1)), o_ 87 (.mv (.t 7)), o_ 88 (.idxAddr 1 (.t 86) (.t 87)), o_ 89 (.load none (.t 88)), o_ 90 (.mv (.t 8)), o_ 91 (.idxAddr 1 (.t 89) (.t 90)), o_ 92 (.load none (.t 91)), o_ 93 (.len 1 (.t 92)), o_ 94 (.bin .lss (.t 85) (.t 93))])
    (.cond (.t 94) (.skip)
     (.exit 8)))
    (.seq (.block 9 (.seq (.reg [o_ 97 (.mv (.t 1)), o_ 98 (.mv (.t 7)), o_ 99 (.idxAddr 1 (.t 97) (.t 98)), o_ 100 (.load none (.t 99)), o_ 101 (.mv (.t 8)), o_ 102 (.idxAddr 1 (.t 100) (.t 101)), o_ 103 (.load none (.t 102)), o_ 104 (.mv (.t 9)), o_ 105 (.idxAddr 3 (.t 103) (.t 104)), o_ 106 (.fieldAddr 2 (.t 105)), o_ 107 (.load none (.t 106)), o_ 108 (.len 0 (.t 107)), o_ 109 (.bin .gtr (.t 108) (.c (.int .i64 60)))])
    (.cond (.t 109) (.seq (.reg [o_ 4 (.mv (.c (.bool true)))])
     .ret)
     (.skip))))
    (.reg [o_ 95 (.mv (.t 9)), o_ 96 (.bin .add (.t 95) (.c (.int .i64 1))), o_ 9 (.mv (.t 96))]))))))))
   (.reg [o_ 74 (.mv (.t 8)), o_ 75 (.bin .add (.t 74) (.c (.int .i64 1))), o_ 8 (.mv (.t 75))]))))))))
  (.reg [o_ 59 (.mv (.t 7)), o_ 60 (.bin .add (.t 59) (.c (.int .i64 1))), o_ 7 (.mv (.t 60))]))))))
 (.seq (.reg [o_ 4 (.mv (.c (.bool false)))])
 .ret)))))), [.t 4]⟩
theorem c5 : ∃ fn, Try.prog.funcs[5]? = some fn ∧ compFn Try.prog fn = some a5 := ⟨_, Try.func5, by kernel_rfl⟩
def a7 : AFunc := ⟨78, (.seq (.reg [o_ 2 (.box (.t 0)), o_ 4 (.mv (.c (.bool false)))])
 (.seq (.seq (.reg [o_ 8 (.load (some 2) (.t 2)), o_ 9 (.call (.c (.fn (.func 18) [] [])) [(.t 8)]), o_ 10 (.un .not (.t 9)), o_ 11 (.mv (.t 10)), ⟨some 12, .mv (.t 1), (some (11, false)), 0, 0⟩, ⟨some 13, .len 1 (.t 12), (some (11, false)), 0, 0⟩, ⟨some 14, .fieldAddr 0 (.t 2), (some (11, false)), 0, 0⟩, ⟨some 15, .load none (.t 14), (some (11, false)), 0, 0⟩, ⟨some 16, .len 1 (.t 15), (some (11, false)), 0, 0⟩, ⟨some 17, .bin .neq (.t 13) (.t 16), (some (11, false)), 0, 0⟩, o_ 18 (.pick (.t 11) (.c (.bool true)) (.t 17))])
 (.cond (.t 18) (.seq (.reg [o_ 4 (.mv (.c (.bool false)))])
  .ret)
  (.skip)))
 (.seq (.reg [o_ 5 (.mv (.c (.int .i64 0)))])
 (.seq (.seq (.reg [o_ 6 (.mv (.c (.int .i64 0)))])
 (.block 0 (.loop (.seq (.seq (.reg [o_ 19 (.mv (.t 6)), o_ 20 (.mv (.t 1)), o_ 21 (.len 1 (.t 20)), o_ 22 (.bin .lss (.t 19) (.t 21))])
  (.cond (.t 22) (.skip)
   (.exit 0)))
  (.seq (.block 1 (.seq (.reg [o_ 7 (.mv (.c (.int .i64 0)))])
  (.block 2 (.loop (.seq (.seq (.reg [o_ 25 (.mv (.t 7)), o_ 26 (.mv (.t 1)), o_ 27 (.mv (.t 6)), o_ 28 (.idxAddr 1 (.t 26) (.t 27)), o_ 29 (.load none (.t 28)), o_ 30 (.len 1 (.t 29)), o_ 31 (.bin .lss (.t 25) (.t 30))])
   (.cond (.t 31) (.skip)
    (.exit 2)))
   (.seq (.block 3 (.seq (.reg [o_ 34 (.mv (.t 5)), o_ 35 (.bin .add (.t 34) (.c (.int .i64 1))), o_ 5 (.mv (.t 35))])
   (.seq (.dreg [o_ 36 (.mv (.t 5)), o_ 37 (.bin .gtr (.t 36) (.c (.int .i64 1000))), o_ 38 (.mv (.t 37)), ⟨some 39, .load (some 2) (.t 2), (some (38, false)), 0, 0⟩, ⟨some 40, .mv (.t 6), (some (38, false)), 0, 0⟩, ⟨some 41, .mv (.t 1), (some (38, false)), 0, 0⟩, ⟨some 42, .mv (.t 6), (some (38, false)), 0, 0⟩, ⟨some 43, .idxAddr 1 (.t 41) (.t 42), (some (38, false)), 0, 0⟩, ⟨some 44, .load none (.t 43), (some (38, false)), 0, 0⟩, ⟨some 45, .mv (.t 7), (some (38, false)), 0, 0⟩, ⟨some 46, .idxAddr 1 (.t 44) (.t 45), (some (38, false)), 0, 0⟩, ⟨some 47, .load none (.t 46), (some (38, false)), 0, 0⟩, ⟨some 48, .call (.c (.fn (.func 19) [] [])) [(.t 39), (.t 40), (.t 47)], (some (38, false)), 0, 0⟩, ⟨some 49, .un .not (.t 48), (some (38, false)), 1, 1⟩, ⟨some 50, .pick (.t 38) (.c (.bool true)) (.t 49), none, 1, 1⟩, ⟨some 51, .mv (.t 50), none, 1, 1⟩, ⟨some 52, .mv (.t 7), (some (51, false)), 1, 1⟩, ⟨some 53, .bin .gtr (.t 52) (.c (.int .i64 0)), (some (51, false)), 1, 1⟩, ⟨some 54, .mv (.t 53), (some (51, false)), 1, 1⟩, ⟨some 55, .mv (.t 1), (some (54, true)), 1, 1⟩, ⟨some 56, .mv (.t 6), (some (54, true)), 1, 1⟩, ⟨some 57, .idxAddr 1 (.t 55) (.t 56), (some (54, true)), 1, 1⟩, ⟨some 58, .load none (.t 57), (some (54, true)), 1, 1⟩, ⟨some 59, .mv (.t 7), (some (54, true)), 1, 1⟩, ⟨some 60, .bin .sub (.t 59) (.c (.int .i64 1)), (some (54, true)), 1, 1⟩, ⟨some 61, .idxAddr 1 (.t 58) (.t 60), (some (54, true)), 1, 1⟩, ⟨some 62, .load none (.t 61), (some (54, true)), 1, 1⟩, ⟨some 63, .idxAddr 3 (.t 62) (.c (.int .i64 0)), (some (54, true)), 1, 1⟩, ⟨some 64, .load (some 3) (.t 63), (some (54, true)), 1, 1⟩, ⟨some 65, .mv (.t 1), (some (54, true)), 1, 1⟩, ⟨some 66, .mv (.t 6), (some (54, true)), 1, 1⟩, ⟨some 67, .idxAddr 1 (.t 65) (.t 66), (some (54, true)), 1, 1⟩, ⟨some 68, .load none (.t 67), (some (54, true)), 1, 1⟩, ⟨some 69, .mv (.t 7), (some (54, true)), 1, 1⟩, ⟨some 70, .idxAddr 1 (.t 68) (.t 69), (some (54, true)), 1, 1⟩, ⟨some 71, .load none (.t 70), (some (54, true)), 1, 1⟩, ⟨some 72, .idxAddr 3 (.t 71) (.c (.int .i64 0)), (some (54, true)), 1, 1⟩, ⟨some 73, .load (some 3) (.t 72), (some (54, true)), 1, 1⟩, ⟨some 74, .call (.c (.fn (.func 20) [] [])) [(.t 64), (.t 73)], (some (54, true)), 0, 0⟩, ⟨some 75, .bin .geq (.t 74) (.c (.int .i64 0)), (some (54, true)), 2, 2⟩, ⟨some 76, .pick (.t 54) (.t 75) (.c (.bool false)), (some (51, false)), 2, 2⟩, ⟨some 77, .pick (.t 51) (.c (.bool true)) (.t 76), none, 2, 2⟩])
   (.cond (.t 77) (.seq (.reg [o_ 4 (.mv (.c (.bool false)))])
    .ret)
    (.skip)))))
   (.reg [o_ 32 (.mv (.t 7)), o_ 33 (.bin .add (.t 32) (.c (.int .i64 1))), o_ 7 (.mv (.t 33))])))))))
  (.reg [o_ 23 (.mv (.t 6)), o_ 24 (.bin .add (.t 23) (.c (.int .i64 1))), o_ 6 (.mv (.t 24))]))))))
 (.seq (.reg [o_ 4 (.mv (.c (.bool true)))])
 .ret))))), [.t 4]⟩
theorem c7 : ∃ fn, Try.prog.funcs[7]? = some fn ∧ compFn Try.prog fn = some a7 := ⟨_, Try.func7, by kernel_rfl⟩
def a8 : AFunc := ⟨63, (.seq (.reg [o_ 2 (.mv (.c (.str [])))])
 (.seq (.reg [o_ 3 (.mv (.c (.str [])))])
 (.seq (.seq (.reg [o_ 4 (.mv (.c (.int .i64 0)))])
 (.block 0 (.loop (.seq (.seq (.reg [o_ 8 (.mv (.t 4)), o_ 9 (.mv (.t 0)), o_ 10 (.len 1 (.t 9)), o_ 11 (.bin .lss (.t 8) (.t 10))])
  (.cond (.t 11) (.skip)
   (.exit 0)))
  (.seq (.block 1 (.seq (.reg [o_ 14 (.mv (.t 0)), o_ 15 (.mv (.t 4)), o_ 16 (.idxAddr 1 (.t 14) (.t 15)), o_ 17 (.load none (.t 16)), o_ 18 (.len 1 (.t 17)), o_ 5 (.mv (.t 18))])
  (.seq (.reg [o_ 19 (.mv (.t 3)), o_ 20 (.mv (.t 5)), o_ 21 (.conv .u8 (.t 20)), o_ 22 (.mv (.t 5)), o_ 23 (.bin .shr (.t 22) (.c (.int .u64 8))), o_ 24 (.conv .u8 (.t 23)), o_ 25 (.buildSl [(.int .u8 0)] 2 [(0, (.t 21)), (1, (.t 24))]), o_ 26 (.b2s (.t 25)), o_ 27 (.bin .add (.t 19) (.t 26)), o_ 3 (.mv (.t 27))])
  (.seq (.reg [o_ 6 (.mv (.c (.int .i64 0)))])
  (.block 2 (.loop (.seq (.seq (.reg [o_ 28 (.mv (.t 6)), o_ 29 (.mv (.t 5)), o_ 30 (.bin .lss (.t 28) (.t 29))])
   (.cond (.t 30) (.skip)
    (.exit 2)))
   (.seq (.block 3 (.seq (.reg [o_ 7 (.mv (.c (.int .i64 0)))])
   (.block 4 (.loop (.seq (.seq (.reg [o_ 33 (.mv (.t 7)), o_ 34 (.mv (.t 0)), o_ 35 (.mv (.t 4)), o_ 36 (.idxAddr 1 (.t 34) (.t 35)), o_ 37 (.load none (.t 36)), o_ 38 (.mv (.t 6)), o_ 39 (.idxAddr 1 (.t 37) (.t 38)), o_ 40 (.load none (.t 39)), o_ 41 (.len 1 (.t 40)), o_ 42 (.bin .lss (.t 33) (.t 41))])
    (.cond (.t 42) (.skip)
     (.exit 4)))
    (.seq (.block 5 (.reg [o_ 45 (.mv (.t 3)), o_ 46 (.mv (.t 0)), o_ 47 (.mv (.t 4)), o_ 48 (.idxAddr 1 (.t 46) (.t 47)), o_ 49 (.load none (.t 48)), o_ 50 (.mv (.t 6)), o_ 51 (.idxAddr 1 (.t 49) (.t 50)), o_ 52 (.load none (.t 51)), o_ 53 (.mv (.t 7)), o_ 54 (.idxAddr 3 (.t 52) (.t 53)), o_ 55 (.load (some 3) (.t 54)), o_ 56 (.call (.c (.fn (.func 21) [] [])) [(.t 55)]), o_ 57 (.bin .add (.t 45) (.t 56)), o_ 3 (.mv (.t 57))]))
    (.reg [o_ 43 (.mv (.t 7)), o_ 44 (.bin .add (.t 43) (.c (.int .i64 1))), o_ 7 (.mv (.t 44))])))))))
   (.reg [o_ 31 (.mv (.t 6)), o_ 32 (.bin .add (.t 31) (.c (.int .i64 1))), o_ 6 (.mv (.t 32))])))))))))
  (.reg [o_ 12 (.mv (.t 4)), o_ 13 (.bin .add (.t 12) (.c (.int .i64 1))), o_ 4 (.mv (.t 13))]))))))
 (.seq (.reg [o_ 58 (.mv (.t 3)), o_ 59 (.mv (.t 3)), o_ 60 (.call (.c (.fn (.func 23) [] [])) [(.t 59)]), o_ 61 (.call (.c (.fn (.func 22) [] [])) [(.t 60)]), o_ 62 (.bin .add (.t 58) (.t 61)), o_ 2 (.mv (.t 62))])
 .ret)))), [.t 2]⟩
theorem c8 : ∃ fn, Try.prog.funcs[8]? = some fn ∧ compFn Try.prog fn = some a8 := ⟨_, Try.func8, by kernel_rfl⟩
def a10 : AFunc := ⟨98, (.seq (.reg [o_ 2 (.box (.t 0)), o_ 4 (.mv (.c .nils)), o_ 5 (.mv (.c (.bool false)))])
 (.seq (.reg [o_ 17 (.mv (.t 1)), o_ 18 (.call (.c (.fn (.func 27) [] [])) [(.t 17)]), o_ 16 (.mv (.t 18)), o_ 19 (.extract (.t 16) 0), o_ 20 (.extract (.t 16) 1), o_ 6 (.mv (.t 19)), o_ 7 (.mv (.t 20))])
 (.seq (.seq (.reg [o_ 21 (.mv (.t 7)), o_ 22 (.un .not (.t 21)), o_ 23 (.mv (.t 22)), ⟨some 24, .load (some 2) (.t 2), (some (23, false)), 0, 0⟩, ⟨some 25, .call (.c (.fn (.func 18) [] [])) [(.t 24)], (some (23, false)), 0, 0⟩, ⟨some 26, .un .not (.t 25), (some (23, false)), 0, 0⟩, o_ 27 (.pick (.t 23) (.c (.bool true)) (.t 26))])
 (.cond (.t 27) (.seq (.reg [o_ 4 (.mv (.c .nils)), o_ 5 (.mv (.c (.bool false)))])
  .ret)
  (.skip)))
 (.seq (.reg [o_ 28 (.buildSl [.nils] 0 []), o_ 8 (.mv (.t 28))])
 (.seq (.seq (.reg [o_ 9 (.mv (.c (.int .i64 0)))])
 (.block 0 (.loop (.seq (.seq (.reg [o_ 29 (.mv (.t 9)), o_ 30 (.fieldAddr 0 (.t 2)), o_ 31 (.load none (.t 30)), o_ 32 (.len 1 (.t 31)), o_ 33 (.bin .lss (.t 29) (.t 32))])
  (.cond (.t 33) (.skip)
   (.exit 0)))
  (.seq (.block 1 (.seq (.seq (.reg [o_ 36 (.mv (.t 6)), o_ 37 (.len 0 (.t 36)), o_ 38 (.bin .lss (.t 37) (.c (.int .i64 2)))])
  (.cond (.t 38) (.seq (.reg [o_ 4 (.mv (.c .nils)), o_ 5 (.mv (.c (.bool false)))])
   .ret)
   (.skip)))
  (.seq (.dreg [o_ 39 (.mv (.t 6)), o_ 40 (.idxS (.t 39) (.c (.int .i64 0))), o_ 41 (.conv .i64 (.t 40)), o_ 42 (.mv (.t 6)), o_ 43 (.idxS (.t 42) (.c (.int .i64 1))), o_ 44 (.conv .i64 (.t 43)), o_ 45 (.bin .mul (.t 44) (.c (.int .i64 256))), o_ 46 (.bin .add (.t 41) (.t 45)), o_ 10 (.mv (.t 46))])
  (.seq (.reg [o_ 47 (.mv (.t 6)), o_ 48 (.slcS (.t 47) (some (.c (.int .i64 2))) none), o_ 6 (.mv (.t 48))])
  (.seq (.reg [o_ 49 (.buildSl [.nils] 0 []), o_ 11 (.mv (.t 49))])
  (.seq (.reg [o_ 50 (.fieldAddr 0 (.t 2)), o_ 51 (.load none (.t 50)), o_ 52 (.mv (.t 9)), o_ 53 (.idxAddr 1 (.t 51) (.t 52)), o_ 54 (.fieldAddr 0 (.t 53)), o_ 55 (.load none (.t 54)), o_ 56 (.len 1 (.t 55)), o_ 57 (.bin .mul (.c (.int .i64 9)) (.t 56)), o_ 12 (.mv (.t 57))])
  (.seq (.seq (.reg [o_ 13 (.mv (.c (.int .i64 0)))])
  (.block 2 (.loop (.seq (.seq (.reg [o_ 58 (.mv (.t 13)), o_ 59 (.mv (.t 10)), o_ 60 (.bin .lss (.t 58) (.t 59))])
   (.cond (.t 60) (.skip)
    (.exit 2)))
   (.seq (.block 3 (.seq (.seq (.reg [o_ 63 (.mv (.t 6)), o_ 64 (.len 0 (.t 63)), o_ 65 (.mv (.t 12)), o_ 66 (.bin .lss (.t 64) (.t 65))])
   (.cond (.t 66) (.seq (.reg [o_ 4 (.mv (.c .nils)), o_ 5 (.mv (.c (.bool false)))])
    .ret)
    (.skip)))
   (.seq (.reg [o_ 68 (.mv (.t 6)), o_ 69 (.mv (.t 12)), o_ 70 (.slcS (.t 68) none (some (.t 69))), o_ 71 (.call (.c (.fn (.func 28) [] [])) [(.t 70)]), o_ 67 (.mv (.t 71)), o_ 72 (.extract (.t 67) 0), o_ 73 (.extract (.t 67) 1), o_ 14 (.mv (.t 72)), o_ 15 (.mv (.t 73))])
   (.seq (.seq (.reg [o_ 74 (.mv (.t 15)), o_ 75 (.un .not (.t 74))])
   (.cond (.t 75) (.seq (.reg [o_ 4 (.mv (.c .nils)), o_ 5 (.mv (.c (.bool false)))])
    .ret)
    (.skip)))
   (.seq (.reg [o_ 76 (.mv (.t 11)), o_ 77 (.mv (.t 14)), o_ 78 (.buildSl [.nils] 1 [(0, (.t 77))]), o_ 79 (.append 1 24 (.t 76) (.t 78)), o_ 11 (.mv (.t 79))])
   (.reg [o_ 80 (.mv (.t 6)), o_ 81 (.mv (.t 12)), o_ 82 (.slcS (.t 80) (some (.t 81)) none), o_ 6 (.mv (.t 82))]))))))
   (.reg [o_ 61 (.mv (.t 13)), o_ 62 (.bin .add (.t 61) (.c (.int .i64 1))), o_ 13 (.mv (.t 62))]))))))
  (.reg [o_ 83 (.mv (.t 8)), o_ 84 (.mv (.t 11)), o_ 85 (.buildSl [.nils] 1 [(0, (.t 84))]), o_ 86 (.append 1 24 (.t 83) (.t 85)), o_ 8 (.mv (.t 86))]))))))))
  (.reg [o_ 34 (.mv (.t 9)), o_ 35 (.bin .add (.t 34) (.c (.int .i64 1))), o_ 9 (.mv (.t 35))]))))))
 (.seq (.seq (.reg [o_ 87 (.load (some 2) (.t 2)), o_ 88 (.mv (.t 8)), o_ 89 (.call (.c (.fn (.func 7) [] [])) [(.t 87), (.t 88)]), o_ 90 (.un .not (.t 89)), o_ 91 (.mv (.t 90)), ⟨some 92, .mv (.t 8), (some (91, false)), 0, 0⟩, ⟨some 93, .call (.c (.fn (.func 8) [] [])) [(.t 92)], (some (91, false)), 0, 0⟩, ⟨some 94, .mv (.t 1), (some (91, false)), 0, 0⟩, ⟨some 95, .bin .neq (.t 93) (.t 94), (some (91, false)), 0, 0⟩, o_ 96 (.pick (.t 91) (.c (.bool true)) (.t 95))])
 (.cond (.t 96) (.seq (.reg [o_ 4 (.mv (.c .nils)), o_ 5 (.mv (.c (.bool false)))])
  .ret)
  (.skip)))
 (.seq (.reg [o_ 97 (.mv (.t 8)), o_ 4 (.mv (.t 97)), o_ 5 (.mv (.c (.bool true)))])
 .ret))))))), [.t 4, .t 5]⟩
theorem c10 : ∃ fn, Try.prog.funcs[10]? = some fn ∧ compFn Try.prog fn = some a10 := ⟨_, Try.func10, by kernel_rfl⟩
def a11 : AFunc := ⟨12, (.seq (.reg [o_ 4 (.mv (.c (.bool false)))])
 (.seq (.reg [o_ 5 (.mv (.t 0)), o_ 6 (.build [.nils, .nils, .nils, (.bool false)] [(2, 1, (.t 5))]), o_ 7 (.box (.t 6)), o_ 8 (.mv (.t 1)), o_ 9 (.build [.nils, .nils, .nils, (.bool false)] [(2, 1, (.t 8))]), o_ 10 (.box (.t 9)), o_ 11 (.call (.c (.fn (.func 29) [] [])) [(.t 7), (.t 10)]), o_ 4 (.mv (.t 11))])
 .ret)), [.t 4]⟩
theorem c11 : ∃ fn, Try.prog.funcs[11]? = some fn ∧ compFn Try.prog fn = some a11 := ⟨_, Try.func11, by kernel_rfl⟩
def a18 : AFunc := ⟨153, (.seq (.reg [o_ 1 (.box (.t 0)), o_ 2 (.mv (.c (.bool false)))])
 (.seq (.seq (.reg [o_ 11 (.fieldAddr 0 (.t 1)), o_ 12 (.load none (.t 11)), o_ 13 (.len 1 (.t 12)), o_ 14 (.bin .lss (.t 13) (.c (.int .i64 1))), o_ 15 (.mv (.t 14)), ⟨some 16, .fieldAddr 0 (.t 1), (some (15, false)), 0, 0⟩, ⟨some 17, .load none (.t 16), (some (15, false)), 0, 0⟩, ⟨some 18, .len 1 (.t 17), (some (15, false)), 0, 0⟩, ⟨some 19, .bin .gtr (.t 18) (.c (.int .i64 3)), (some (15, false)), 0, 0⟩, o_ 20 (.pick (.t 15) (.c (.bool true)) (.t 19)), o_ 21 (.mv (.t 20)), ⟨some 22, .fieldAddr 1 (.t 1), (some (21, false)), 0, 0⟩, ⟨some 23, .load none (.t 22), (some (21, false)), 0, 0⟩, ⟨some 24, .len 1 (.t 23), (some (21, false)), 0, 0⟩, ⟨some 25, .bin .gtr (.t 24) (.c (.int .i64 4)), (some (21, false)), 0, 0⟩, o_ 26 (.pick (.t 21) (.c (.bool true)) (.t 25))])
 (.cond (.t 26) (.seq (.reg [o_ 2 (.mv (.c (.bool false)))])
  .ret)
  (.skip)))
 (.seq (.seq (.reg [o_ 3 (.mv (.c (.int .i64 0)))])
 (.block 0 (.loop (.seq (.seq (.reg [o_ 27 (.mv (.t 3)), o_ 28 (.fieldAddr 0 (.t 1)), o_ 29 (.load none (.t 28)), o_ 30 (.len 1 (.t 29)), o_ 31 (.bin .lss (.t 27) (.t 30))])
  (.cond (.t 31) (.skip)
   (.exit 0)))
  (.seq (.block 1 (.seq (.reg [o_ 34 (.fieldAddr 0 (.t 1)), o_ 35 (.load none (.t 34)), o_ 36 (.mv (.t 3)), o_ 37 (.idxAddr 1 (.t 35) (.t 36)), o_ 38 (.fieldAddr 0 (.t 37)), o_ 39 (.load none (.t 38)), o_ 4 (.mv (.t 39))])
  (.seq (.seq (.reg [o_ 40 (.mv (.t 4)), o_ 41 (.len 1 (.t 40)), o_ 42 (.bin .lss (.t 41) (.c (.int .i64 1))), o_ 43 (.mv (.t 42)), ⟨some 44, .mv (.t 4), (some (43, false)), 0, 0⟩, ⟨some 45, .len 1 (.t 44), (some (43, false)), 0, 0⟩, ⟨some 46, .bin .gtr (.t 45) (.c (.int .i64 4)), (some (43, false)), 0, 0⟩, o_ 47 (.pick (.t 43) (.c (.bool true)) (.t 46))])
  (.cond (.t 47) (.seq (.reg [o_ 2 (.mv (.c (.bool false)))])
   .ret)
   (.skip)))
  (.seq (.reg [o_ 5 (.mv (.c (.int .i64 0)))])
  (.block 2 (.loop (.seq (.seq (.reg [o_ 48 (.mv (.t 5)), o_ 49 (.mv (.t 4)), o_ 50 (.len 1 (.t 49)), o_ 51 (.bin .lss (.t 48) (.t 50))])
   (.cond (.t 51) (.skip)
    (.exit 2)))
   (.seq (.block 3 (.seq (.reg [o_ 54 (.mv (.t 4)), o_ 55 (.mv (.t 5)), o_ 56 (.idxAddr 1 (.t 54) (.t 55)), o_ 57 (.load none (.t 56)), o_ 58 (.bin .neq (.t 57) (.c (.int .i64 1))), o_ 59 (.mv (.t 58)), ⟨some 60, .mv (.t 4), (some (59, true)), 0, 0⟩, ⟨some 61, .mv (.t 5), (some (59, true)), 0, 0⟩, ⟨some 62, .idxAddr 1 (.t 60) (.t 61), (some (59, true)), 0, 0⟩, ⟨some 63, .load none (.t 62), (some (59, true)), 0, 0⟩, ⟨some 64, .bin .neq (.t 63) (.c (.int .i64 2)), (some (59, true)), 0, 0⟩, o_ 65 (.pick (.t 59) (.t 64) (.c (.bool false)))])
   (.cond (.t 65) (.seq (.reg [o_ 2 (.mv (.c (.bool false)))])
    .ret)
    (.skip))))
   (.reg [o_ 52 (.mv (.t 5)), o_ 53 (.bin .add (.t 52) (.c (.int .i64 1))), o_ 5 (.mv (.t 53))])))))))))
  (.reg [o_ 32 (.mv (.t 3)), o_ 33 (.bin .add (.t 32) (.c (.int .i64 1))), o_ 3 (.mv (.t 33))]))))))
 (.seq (.seq (.reg [o_ 6 (.mv (.c (.int .i64 0)))])
 (.block 4 (.loop (.seq (.seq (.reg [o_ 66 (.mv (.t 6)), o_ 67 (.fieldAddr 1 (.t 1)), o_ 68 (.load none (.t 67)), o_ 69 (.len 1 (.t 68)), o_ 70 (.bin .lss (.t 66) (.t 69))])
  (.cond (.t 70) (.skip)
   (.exit 4)))
  (.seq (.block 5 (.seq (.reg [o_ 73 (.fieldAddr 1 (.t 1)), o_ 74 (.load none (.t 73)), o_ 75 (.mv (.t 6)), o_ 76 (.idxAddr 3 (.t 74) (.t 75)), o_ 77 (.load (some 3) (.t 76)), o_ 7 (.alloc [(.int .i64 0), (.int .i64 0), .nils]), ⟨none, .store 3 (.t 7) (.t 77), none, 0, 0⟩])
  (.seq (.seq (.reg [o_ 78 (.fieldAddr 0 (.t 7)), o_ 79 (.load none (.t 78)), o_ 80 (.bin .lss (.t 79) (.c (.int .i64 0))), o_ 81 (.mv (.t 80)), ⟨some 82, .fieldAddr 0 (.t 7), (some (81, false)), 0, 0⟩, ⟨some 83, .load none (.t 82), (some (81, false)), 0, 0⟩, ⟨some 84, .fieldAddr 0 (.t 1), (some (81, false)), 0, 0⟩, ⟨some 85, .load none (.t 84), (some (81, false)), 0, 0⟩, ⟨some 86, .len 1 (.t 85), (some (81, false)), 0, 0⟩, ⟨some 87, .bin .geq (.t 83) (.t 86), (some (81, false)), 0, 0⟩, o_ 88 (.pick (.t 81) (.c (.bool true)) (.t 87))])
  (.cond (.t 88) (.seq (.reg [o_ 2 (.mv (.c (.bool false)))])
   .ret)
   (.skip)))
  (.seq (.reg [o_ 89 (.fieldAddr 0 (.t 1)), o_ 90 (.load none (.t 89)), o_ 91 (.fieldAddr 0 (.t 7)), o_ 92 (.load none (.t 91)), o_ 93 (.idxAddr 1 (.t 90) (.t 92)), o_ 94 (.fieldAddr 0 (.t 93)), o_ 95 (.load none (.t 94)), o_ 8 (.mv (.t 95))])
  (.seq (.seq (.reg [o_ 96 (.fieldAddr 1 (.t 7)), o_ 97 (.load none (.t 96)), o_ 98 (.bin .lss (.t 97) (.c (.int .i64 0))), o_ 99 (.mv (.t 98)), ⟨some 100, .fieldAddr 1 (.t 7), (some (99, false)), 0, 0⟩, ⟨some 101, .load none (.t 100), (some (99, false)), 0, 0⟩, ⟨some 102, .mv (.t 8), (some (99, false)), 0, 0⟩, ⟨some 103, .len 1 (.t 102), (some (99, false)), 0, 0⟩, ⟨some 104, .bin .geq (.t 101) (.t 103), (some (99, false)), 0, 0⟩, o_ 105 (.pick (.t 99) (.c (.bool true)) (.t 104)), o_ 106 (.mv (.t 105)), ⟨some 107, .fieldAddr 2 (.t 7), (some (106, false)), 0, 0⟩, ⟨some 108, .load none (.t 107), (some (106, false)), 0, 0⟩, ⟨some 109, .len 1 (.t 108), (some (106, false)), 0, 0⟩, ⟨some 110, .bin .gtr (.t 109) (.c (.int .i64 2)), (some (106, false)), 0, 0⟩, o_ 111 (.pick (.t 106) (.c (.bool true)) (.t 110))])
  (.cond (.t 111) (.seq (.reg [o_ 2 (.mv (.c (.bool false)))])
   .ret)
   (.skip)))
  (.seq (.reg [o_ 9 (.mv (.c (.int .i64 0)))])
  (.block 6 (.loop (.seq (.seq (.reg [o_ 112 (.mv (.t 9)), o_ 113 (.fieldAddr 2 (.t 7)), o_ 114 (.load none (.t 113)), o_ 115 (.len 1 (.t 114)), o_ 116 (.bin .lss (.t 112) (.t 115))])
   (.cond (.t 116) (.skip)
    (.exit 6)))
   (.seq (.block 7 (.seq (.reg [o_ 119 (.fieldAddr 2 (.t 7)), o_ 120 (.load none (.t 119)), o_ 121 (.mv (.t 9)), o_ 122 (.idxAddr 1 (.t 120) (.t 121)), o_ 123 (.load none (.t 122)), o_ 10 (.mv (.t 123))])
   (.seq (.reg [o_ 124 (.mv (.t 10)), o_ 125 (.bin .lss (.t 124) (.c (.int .i64 0))), o_ 126 (.mv (.t 125)), ⟨some 127, .mv (.t 10), (some (126, false)), 0, 0⟩, ⟨some 128, .mv (.t 8), (some (126, false)), 0, 0⟩, ⟨some 129, .len 1 (.t 128), (some (126, false)), 0, 0⟩, ⟨some 130, .bin .geq (.t 127) (.t 129), (some (126, false)), 0, 0⟩, o_ 131 (.pick (.t 126) (.c (.bool true)) (.t 130)), o_ 132 (.mv (.t 131)), ⟨some 133, .mv (.t 8), (some (132, false)), 0, 0⟩, ⟨some 134, .mv (.t 10), (some (132, false)), 0, 0⟩, ⟨some 135, .idxAddr 1 (.t 133) (.t 134), (some (132, false)), 0, 0⟩, ⟨some 136, .load none (.t 135), (some (132, false)), 0, 0⟩, ⟨some 137, .bin .neq (.t 136) (.c (.int .i64 1)), (some (132, false)), 0, 0⟩, o_ 138 (.pick (.t 132) (.c (.bool true)) (.t 137)), o_ 139 (.mv (.t 138)), ⟨some 140, .mv (.t 9), (some (139, false)), 0, 0⟩, ⟨some 141, .bin .gtr (.t 140) (.c (.int .i64 0)), (some (139, false)), 0, 0⟩, ⟨some 142, .mv (.t 141), (some (139, false)), 0, 0⟩, ⟨some 143, .mv (.t 10), (some (142, true)), 0, 0⟩, ⟨some 144, .fieldAddr 2 (.t 7), (some (142, true)), 0, 0⟩, ⟨some 145, .load none (.t 144), (some (142, true)), 0, 0⟩, ⟨some 146, .mv (.t 9), (some (142, true)), 0, 0⟩, ⟨some 147, .bin .sub (.t 146) (.c (.int .i64 1)), (some (142, true)), 0, 0⟩, ⟨some 148, .idxAddr 1 (.t 145) (.t 147), (some (142, true)), 0, 0⟩, ⟨some 149, .load none (.t 148), (some (142, true)), 0, 0⟩, ⟨some 150, .bin .leq (.t 143) (.t 149), (some (142, true)), 0, 0⟩, ⟨some 151, .pick (.t 142) (.t 150) (.c (.bool false)), (some (139, false)), 0, 0⟩, o_ 152 (.pick (.t 139) (.c (.bool true)) (.t 151))])
   (.cond (.t 152) (.seq (.reg [o_ 2 (.mv (.c (.bool false)))])
    .ret)
    (.skip)))))
   (.reg [o_ 117 (.mv (.t 9)), o_ 118 (.bin .add (.t 117) (.c (.int .i64 1))), o_ 9 (.mv (.t 118))])))))))))))
  (.reg [o_ 71 (.mv (.t 6)), o_ 72 (.bin .add (.t 71) (.c (.int .i64 1))), o_ 6 (.mv (.t 72))]))))))
 (.seq (.reg [o_ 2 (.mv (.c (.bool true)))])
 .ret))))), [.t 2]⟩
theorem c18 : ∃ fn, Try.prog.funcs[18]? = some fn ∧ compFn Try.prog fn = some a18 := ⟨_, Try.func18, by kernel_rfl⟩
def a19 : AFunc := ⟨58, (.seq (.reg [o_ 3 (.box (.t 0)), o_ 6 (.mv (.c (.bool false)))])
 (.seq (.seq (.reg [o_ 8 (.mv (.t 1)), o_ 9 (.bin .lss (.t 8) (.c (.int .i64 0))), o_ 10 (.mv (.t 9)), ⟨some 11, .mv (.t 1), (some (10, false)), 0, 0⟩, ⟨some 12, .fieldAddr 0 (.t 3), (some (10, false)), 0, 0⟩, ⟨some 13, .load none (.t 12), (some (10, false)), 0, 0⟩, ⟨some 14, .len 1 (.t 13), (some (10, false)), 0, 0⟩, ⟨some 15, .bin .geq (.t 11) (.t 14), (some (10, false)), 0, 0⟩, o_ 16 (.pick (.t 10) (.c (.bool true)) (.t 15)), o_ 17 (.mv (.t 16)), ⟨some 18, .mv (.t 2), (some (17, false)), 0, 0⟩, ⟨some 19, .len 1 (.t 18), (some (17, false)), 0, 0⟩, ⟨some 20, .fieldAddr 0 (.t 3), (some (17, false)), 0, 0⟩, ⟨some 21, .load none (.t 20), (some (17, false)), 0, 0⟩, ⟨some 22, .mv (.t 1), (some (17, false)), 0, 0⟩, ⟨some 23, .idxAddr 1 (.t 21) (.t 22), (some (17, false)), 0, 0⟩, ⟨some 24, .fieldAddr 0 (.t 23), (some (17, false)), 0, 0⟩, ⟨some 25, .load none (.t 24), (some (17, false)), 0, 0⟩, ⟨some 26, .len 1 (.t 25), (some (17, false)), 0, 0⟩, ⟨some 27, .bin .neq (.t 19) (.t 26), (some (17, false)), 0, 0⟩, o_ 28 (.pick (.t 17) (.c (.bool true)) (.t 27))])
 (.cond (.t 28) (.seq (.reg [o_ 6 (.mv (.c (.bool false)))])
  .ret)
  (.skip)))
 (.seq (.seq (.reg [o_ 7 (.mv (.c (.int .i64 0)))])
 (.block 0 (.loop (.seq (.seq (.reg [o_ 29 (.mv (.t 7)), o_ 30 (.mv (.t 2)), o_ 31 (.len 1 (.t 30)), o_ 32 (.bin .lss (.t 29) (.t 31))])
  (.cond (.t 32) (.skip)
   (.exit 0)))
  (.seq (.block 1 (.seq (.dreg [o_ 35 (.mv (.t 2)), o_ 36 (.mv (.t 7)), o_ 37 (.idxAddr 3 (.t 35) (.t 36)), o_ 38 (.fieldAddr 0 (.t 37)), o_ 39 (.load none (.t 38)), o_ 40 (.fieldAddr 0 (.t 3)), o_ 41 (.load none (.t 40)), o_ 42 (.mv (.t 1)), o_ 43 (.idxAddr 1 (.t 41) (.t 42)), o_ 44 (.fieldAddr 0 (.t 43)), o_ 45 (.load none (.t 44)), o_ 46 (.mv (.t 7)), o_ 47 (.idxAddr 1 (.t 45) (.t 46)), o_ 48 (.load none (.t 47)), o_ 49 (.bin .neq (.t 39) (.t 48)), o_ 50 (.mv (.t 49)), ⟨some 51, .mv (.t 2), (some (50, false)), 0, 0⟩, ⟨some 52, .mv (.t 7), (some (50, false)), 0, 0⟩, ⟨some 53, .idxAddr 3 (.t 51) (.t 52), (some (50, false)), 0, 0⟩, ⟨some 54, .load (some 3) (.t 53), (some (50, false)), 0, 0⟩, ⟨some 55, .call (.c (.fn (.func 36) [] [])) [(.t 54)], (some (50, false)), 0, 0⟩, ⟨some 56, .un .not (.t 55), (some (50, false)), 1, 1⟩, ⟨some 57, .pick (.t 50) (.c (.bool true)) (.t 56), none, 1, 1⟩])
  (.cond (.t 57) (.seq (.reg [o_ 6 (.mv (.c (.bool false)))])
   .ret)
   (.skip))))
  (.reg [o_ 33 (.mv (.t 7)), o_ 34 (.bin .add (.t 33) (.c (.int .i64 1))), o_ 7 (.mv (.t 34))]))))))
 (.seq (.reg [o_ 6 (.mv (.c (.bool true)))])
 .ret)))), [.t 6]⟩
theorem c19 : ∃ fn, Try.prog.funcs[19]? = some fn ∧ compFn Try.prog fn = some a19 := ⟨_, Try.func19, by kernel_rfl⟩
def a20 : AFunc := ⟨39, (.seq (.reg [o_ 2 (.box (.t 0)), o_ 3 (.box (.t 1)), o_ 4 (.mv (.c (.int .i64 0)))])
 (.seq (.seq (.reg [o_ 5 (.load (some 3) (.t 2)), o_ 6 (.call (.c (.fn (.func 36) [] [])) [(.t 5)]), o_ 7 (.un .not (.t 6)), o_ 8 (.mv (.t 7)), ⟨some 9, .load (some 3) (.t 3), (some (8, false)), 0, 0⟩, ⟨some 10, .call (.c (.fn (.func 36) [] [])) [(.t 9)], (some (8, false)), 0, 0⟩, ⟨some 11, .un .not (.t 10), (some (8, false)), 0, 0⟩, o_ 12 (.pick (.t 8) (.c (.bool true)) (.t 11))])
 (.cond (.t 12) (.seq (.reg [o_ 4 (.mv (.c (.int .i64 0)))])
  .ret)
  (.skip)))
 (.seq (.seq (.reg [o_ 13 (.fieldAddr 0 (.t 2)), o_ 14 (.load none (.t 13)), o_ 15 (.fieldAddr 0 (.t 3)), o_ 16 (.load none (.t 15)), o_ 17 (.bin .neq (.t 14) (.t 16))])
 (.cond (.t 17) (.seq (.seq (.reg [o_ 18 (.fieldAddr 0 (.t 2)), o_ 19 (.load none (.t 18)), o_ 20 (.bin .eql (.t 19) (.c (.int .i64 1)))])
  (.cond (.t 20) (.seq (.reg [o_ 4 (.mv (.c (.int .i64 (-1))))])
   .ret)
   (.skip)))
  (.seq (.reg [o_ 4 (.mv (.c (.int .i64 1)))])
  .ret))
  (.skip)))
 (.seq (.seq (.reg [o_ 21 (.fieldAddr 0 (.t 2)), o_ 22 (.load none (.t 21)), o_ 23 (.bin .eql (.t 22) (.c (.int .i64 2)))])
 (.cond (.t 23) (.seq (.reg [o_ 24 (.fieldAddr 2 (.t 2)), o_ 25 (.load none (.t 24)), o_ 26 (.fieldAddr 2 (.t 3)), o_ 27 (.load none (.t 26)), o_ 28 (.call (.c (.fn (.func 37) [] [])) [(.t 25), (.t 27)]), o_ 4 (.mv (.t 28))])
  .ret)
  (.skip)))
 (.seq (.seq (.reg [o_ 29 (.fieldAddr 1 (.t 2)), o_ 30 (.load none (.t 29)), o_ 31 (.fieldAddr 1 (.t 3)), o_ 32 (.load none (.t 31)), o_ 33 (.bin .lss (.t 30) (.t 32))])
 (.cond (.t 33) (.seq (.reg [o_ 4 (.mv (.c (.int .i64 (-1))))])
  .ret)
  (.skip)))
 (.seq (.seq (.reg [o_ 34 (.fieldAddr 1 (.t 2)), o_ 35 (.load none (.t 34)), o_ 36 (.fieldAddr 1 (.t 3)), o_ 37 (.load none (.t 36)), o_ 38 (.bin .gtr (.t 35) (.t 37))])
 (.cond (.t 38) (.seq (.reg [o_ 4 (.mv (.c (.int .i64 1)))])
  .ret)
  (.skip)))
 (.seq (.reg [o_ 4 (.mv (.c (.int .i64 0)))])
 .ret))))))), [.t 4]⟩
theorem c20 : ∃ fn, Try.prog.funcs[20]? = some fn ∧ compFn Try.prog fn = some a20 := ⟨_, Try.func20, by kernel_rfl⟩
def a21 : AFunc := ⟨65, (.seq (.reg [o_ 1 (.box (.t 0)), o_ 2 (.mv (.c (.str [])))])
 (.seq (.reg [o_ 8 (.fieldAddr 0 (.t 1)), o_ 9 (.load none (.t 8)), o_ 10 (.conv .u8 (.t 9)), o_ 11 (.buildSl [(.int .u8 0)] 1 [(0, (.t 10))]), o_ 3 (.mv (.t 11))])
 (.seq (.seq (.reg [o_ 12 (.fieldAddr 0 (.t 1)), o_ 13 (.load none (.t 12)), o_ 14 (.bin .eql (.t 13) (.c (.int .i64 1)))])
 (.cond (.t 14) (.seq (.reg [o_ 15 (.fieldAddr 1 (.t 1)), o_ 16 (.load none (.t 15)), o_ 17 (.conv .u64 (.t 16)), o_ 4 (.mv (.t 17))])
  (.seq (.seq (.reg [o_ 5 (.mv (.c (.int .i64 0)))])
  (.block 0 (.loop (.seq (.seq (.reg [o_ 18 (.mv (.t 5)), o_ 19 (.bin .lss (.t 18) (.c (.int .i64 8)))])
   (.cond (.t 19) (.skip)
    (.exit 0)))
   (.seq (.block 1 (.seq (.reg [o_ 22 (.mv (.t 4)), o_ 23 (.mv (.t 5)), o_ 24 (.bin .mul (.c (.int .i64 8)) (.t 23)), o_ 25 (.bin .sub (.c (.int .i64 56)) (.t 24)), o_ 26 (.bin .shr (.t 22) (.t 25)), o_ 27 (.conv .u8 (.t 26)), o_ 6 (.mv (.t 27))])
   (.seq (.seq (.reg [o_ 28 (.mv (.t 5)), o_ 29 (.bin .eql (.t 28) (.c (.int .i64 0)))])
   (.cond (.t 29) (.reg [o_ 30 (.mv (.t 6)), o_ 31 (.bin .xor (.t 30) (.c (.int .u8 128))), o_ 6 (.mv (.t 31))])
    (.skip)))
   (.reg [o_ 32 (.mv (.t 3)), o_ 33 (.mv (.t 6)), o_ 34 (.buildSl [(.int .u8 0)] 1 [(0, (.t 33))]), o_ 35 (.append 1 1 (.t 32) (.t 34)), o_ 3 (.mv (.t 35))]))))
   (.reg [o_ 20 (.mv (.t 5)), o_ 21 (.bin .add (.t 20) (.c (.int .i64 1))), o_ 5 (.mv (.t 21))]))))))
  (.seq (.reg [o_ 36 (.mv (.t 3)), o_ 37 (.b2s (.t 36)), o_ 2 (.mv (.t 37))])
  .ret)))
  (.skip)))
 (.seq (.seq (.reg [o_ 7 (.mv (.c (.int .i64 0)))])
 (.block 2 (.loop (.seq (.seq (.reg [o_ 38 (.mv (.t 7)), o_ 39 (.bin .lss (.t 38) (.c (.int .i64 7)))])
  (.cond (.t 39) (.skip)
   (.exit 2)))
  (.seq (.block 3 (.seq (.reg [o_ 42 (.mv (.t 7)), o_ 43 (.fieldAddr 2 (.t 1)), o_ 44 (.load none (.t 43)), o_ 45 (.len 0 (.t 44)), o_ 46 (.bin .lss (.t 42) (.t 45))])
  (.cond (.t 46) (.reg [o_ 47 (.mv (.t 3)), o_ 48 (.fieldAddr 2 (.t 1)), o_ 49 (.load none (.t 48)), o_ 50 (.mv (.t 7)), o_ 51 (.idxS (.t 49) (.t 50)), o_ 52 (.buildSl [(.int .u8 0)] 1 [(0, (.t 51))]), o_ 53 (.append 1 1 (.t 47) (.t 52)), o_ 3 (.mv (.t 53))])
   (.reg [o_ 54 (.mv (.t 3)), o_ 55 (.buildSl [(.int .u8 0)] 1 [(0, (.c (.int .u8 0)))]), o_ 56 (.append 1 1 (.t 54) (.t 55)), o_ 3 (.mv (.t 56))]))))
  (.reg [o_ 40 (.mv (.t 7)), o_ 41 (.bin .add (.t 40) (.c (.int .i64 1))), o_ 7 (.mv (.t 41))]))))))
 (.seq (.reg [o_ 57 (.mv (.t 3)), o_ 58 (.fieldAddr 2 (.t 1)), o_ 59 (.load none (.t 58)), o_ 60 (.len 0 (.t 59)), o_ 61 (.conv .u8 (.t 60)), o_ 62 (.buildSl [(.int .u8 0)] 1 [(0, (.t 61))]), o_ 63 (.append 1 1 (.t 57) (.t 62)), o_ 64 (.b2s (.t 63)), o_ 2 (.mv (.t 64))])
 .ret))))), [.t 2]⟩
theorem c21 : ∃ fn, Try.prog.funcs[21]? = some fn ∧ compFn Try.prog fn = some a21 := ⟨_, Try.func21, by kernel_rfl⟩
def a22 : AFunc := ⟨16, (.seq (.reg [o_ 2 (.mv (.c (.str [])))])
 (.seq (.reg [o_ 3 (.mv (.t 0)), o_ 4 (.conv .u8 (.t 3)), o_ 5 (.mv (.t 0)), o_ 6 (.bin .shr (.t 5) (.c (.int .u64 8))), o_ 7 (.conv .u8 (.t 6)), o_ 8 (.mv (.t 0)), o_ 9 (.bin .shr (.t 8) (.c (.int .u64 16))), o_ 10 (.conv .u8 (.t 9)), o_ 11 (.mv (.t 0)), o_ 12 (.bin .shr (.t 11) (.c (.int .u64 24))), o_ 13 (.conv .u8 (.t 12)), o_ 14 (.buildSl [(.int .u8 0)] 4 [(0, (.t 4)), (1, (.t 7)), (2, (.t 10)), (3, (.t 13))]), o_ 15 (.b2s (.t 14)), o_ 2 (.mv (.t 15))])
 .ret)), [.t 2]⟩
theorem c22 : ∃ fn, Try.prog.funcs[22]? = some fn ∧ compFn Try.prog fn = some a22 := ⟨_, Try.func22, by kernel_rfl⟩
def a23 : AFunc := ⟨33, (.seq (.reg [o_ 2 (.mv (.c (.int .u32 0)))])
 (.seq (.reg [o_ 3 (.mv (.c (.int .u32 4294967295)))])
 (.seq (.seq (.reg [o_ 4 (.mv (.c (.int .i64 0)))])
 (.block 0 (.loop (.seq (.seq (.reg [o_ 7 (.mv (.t 4)), o_ 8 (.mv (.t 0)), o_ 9 (.len 0 (.t 8)), o_ 10 (.bin .lss (.t 7) (.t 9))])
  (.cond (.t 10) (.skip)
   (.exit 0)))
  (.seq (.block 1 (.seq (.reg [o_ 13 (.mv (.t 3)), o_ 14 (.mv (.t 0)), o_ 15 (.mv (.t 4)), o_ 16 (.idxS (.t 14) (.t 15)), o_ 17 (.conv .u32 (.t 16)), o_ 18 (.bin .xor (.t 13) (.t 17)), o_ 3 (.mv (.t 18))])
  (.seq (.reg [o_ 5 (.mv (.c (.int .i64 0)))])
  (.block 2 (.loop (.seq (.seq (.reg [o_ 19 (.mv (.t 5)), o_ 20 (.bin .lss (.t 19) (.c (.int .i64 8)))])
   (.cond (.t 20) (.skip)
    (.exit 2)))
   (.seq (.block 3 (.seq (.reg [o_ 23 (.mv (.t 3)), o_ 24 (.bin .and (.t 23) (.c (.int .u32 1))), o_ 6 (.mv (.t 24))])
   (.seq (.reg [o_ 25 (.mv (.t 3)), o_ 26 (.bin .shr (.t 25) (.c (.int .u64 1))), o_ 3 (.mv (.t 26))])
   (.seq (.reg [o_ 27 (.mv (.t 6)), o_ 28 (.bin .eql (.t 27) (.c (.int .u32 1)))])
   (.cond (.t 28) (.reg [o_ 29 (.mv (.t 3)), o_ 30 (.bin .xor (.t 29) (.c (.int .u32 3988292384))), o_ 3 (.mv (.t 30))])
    (.skip))))))
   (.reg [o_ 21 (.mv (.t 5)), o_ 22 (.bin .add (.t 21) (.c (.int .i64 1))), o_ 5 (.mv (.t 22))]))))))))
  (.reg [o_ 11 (.mv (.t 4)), o_ 12 (.bin .add (.t 11) (.c (.int .i64 1))), o_ 4 (.mv (.t 12))]))))))
 (.seq (.reg [o_ 31 (.mv (.t 3)), o_ 32 (.bin .xor (.t 31) (.c (.int .u32 4294967295))), o_ 2 (.mv (.t 32))])
 .ret)))), [.t 2]⟩
theorem c23 : ∃ fn, Try.prog.funcs[23]? = some fn ∧ compFn Try.prog fn = some a23 := ⟨_, Try.func23, by kernel_rfl⟩
def a27 : AFunc := ⟨23, (.seq (.reg [o_ 2 (.mv (.c (.str []))), o_ 3 (.mv (.c (.bool false)))])
 (.seq (.seq (.reg [o_ 5 (.mv (.t 0)), o_ 6 (.len 0 (.t 5)), o_ 7 (.bin .lss (.t 6) (.c (.int .i64 4)))])
 (.cond (.t 7) (.seq (.reg [o_ 2 (.mv (.c (.str []))), o_ 3 (.mv (.c (.bool false)))])
  .ret)
  (.skip)))
 (.seq (.reg [o_ 8 (.mv (.t 0)), o_ 9 (.mv (.t 0)), o_ 10 (.len 0 (.t 9)), o_ 11 (.bin .sub (.t 10) (.c (.int .i64 4))), o_ 12 (.slcS (.t 8) none (some (.t 11))), o_ 4 (.mv (.t 12))])
 (.seq (.seq (.dreg [o_ 13 (.mv (.t 4)), o_ 14 (.call (.c (.fn (.func 23) [] [])) [(.t 13)]), o_ 15 (.call (.c (.fn (.func 22) [] [])) [(.t 14)]), ⟨some 16, .mv (.t 0), none, 0, 2⟩, ⟨some 17, .mv (.t 0), none, 0, 2⟩, ⟨some 18, .len 0 (.t 17), none, 0, 2⟩, ⟨some 19, .bin .sub (.t 18) (.c (.int .i64 4)), none, 0, 2⟩, ⟨some 20, .slcS (.t 16) (some (.t 19)) none, none, 0, 2⟩, ⟨some 21, .bin .neq (.t 15) (.t 20), none, 2, 2⟩])
 (.cond (.t 21) (.seq (.reg [o_ 2 (.mv (.c (.str []))), o_ 3 (.mv (.c (.bool false)))])
  .ret)
  (.skip)))
 (.seq (.reg [o_ 22 (.mv (.t 4)), o_ 2 (.mv (.t 22)), o_ 3 (.mv (.c (.bool true)))])
 .ret))))), [.t 2, .t 3]⟩
theorem c27 : ∃ fn, Try.prog.funcs[27]? = some fn ∧ compFn Try.prog fn = some a27 := ⟨_, Try.func27, by kernel_rfl⟩
def a28 : AFunc := ⟨40, (.seq (.reg [o_ 2 (.mv (.c .nils)), o_ 3 (.mv (.c (.bool false)))])
 (.seq (.seq (.reg [o_ 8 (.mv (.t 0)), o_ 9 (.len 0 (.t 8)), o_ 10 (.bin .rem (.t 9) (.c (.int .i64 9))), o_ 11 (.bin .neq (.t 10) (.c (.int .i64 0))), o_ 12 (.mv (.t 11)), ⟨some 13, .mv (.t 0), (some (12, false)), 0, 0⟩, ⟨some 14, .len 0 (.t 13), (some (12, false)), 0, 0⟩, ⟨some 15, .bin .gtr (.t 14) (.c (.int .i64 36)), (some (12, false)), 0, 0⟩, o_ 16 (.pick (.t 12) (.c (.bool true)) (.t 15))])
 (.cond (.t 16) (.seq (.reg [o_ 2 (.mv (.c .nils)), o_ 3 (.mv (.c (.bool false)))])
  .ret)
  (.skip)))
 (.seq (.reg [o_ 17 (.buildSl [(.int .i64 0), (.int .i64 0), (.str [])] 0 []), o_ 4 (.mv (.t 17))])
 (.seq (.seq (.reg [o_ 5 (.mv (.c (.int .i64 0)))])
 (.block 0 (.loop (.seq (.seq (.reg [o_ 18 (.mv (.t 5)), o_ 19 (.mv (.t 0)), o_ 20 (.len 0 (.t 19)), o_ 21 (.bin .lss (.t 18) (.t 20))])
  (.cond (.t 21) (.skip)
   (.exit 0)))
  (.seq (.block 1 (.seq (.reg [o_ 25 (.mv (.t 0)), o_ 26 (.mv (.t 5)), o_ 27 (.mv (.t 5)), o_ 28 (.bin .add (.t 27) (.c (.int .i64 9))), o_ 29 (.slcS (.t 25) (some (.t 26)) (some (.t 28))), o_ 30 (.call (.c (.fn (.func 47) [] [])) [(.t 29)]), o_ 24 (.mv (.t 30)), o_ 31 (.extract (.t 24) 0), o_ 32 (.extract (.t 24) 1), o_ 6 (.alloc [(.int .i64 0), (.int .i64 0), (.str [])]), ⟨none, .store 3 (.t 6) (.t 31), none, 0, 0⟩, o_ 7 (.mv (.t 32))])
  (.seq (.seq (.reg [o_ 33 (.mv (.t 7)), o_ 34 (.un .not (.t 33))])
  (.cond (.t 34) (.seq (.reg [o_ 2 (.mv (.c .nils)), o_ 3 (.mv (.c (.bool false)))])
   .ret)
   (.skip)))
  (.reg [o_ 35 (.mv (.t 4)), o_ 36 (.load (some 3) (.t 6)), o_ 37 (.buildSl [(.int .i64 0), (.int .i64 0), (.str [])] 1 [(0, (.t 36))]), o_ 38 (.append 3 32 (.t 35) (.t 37)), o_ 4 (.mv (.t 38))]))))
  (.reg [o_ 22 (.mv (.t 5)), o_ 23 (.bin .add (.t 22) (.c (.int .i64 9))), o_ 5 (.mv (.t 23))]))))))
 (.seq (.reg [o_ 39 (.mv (.t 4)), o_ 2 (.mv (.t 39)), o_ 3 (.mv (.c (.bool true)))])
 .ret))))), [.t 2, .t 3]⟩
theorem c28 : ∃ fn, Try.prog.funcs[28]? = some fn ∧ compFn Try.prog fn = some a28 := ⟨_, Try.func28, by kernel_rfl⟩
def a29 : AFunc := ⟨44, (.seq (.reg [o_ 4 (.mv (.c (.bool false)))])
 (.seq (.seq (.dreg [o_ 6 (.mv (.t 0)), o_ 7 (.nilck (.t 6)), o_ 8 (.fieldAddr 2 (.t 7)), o_ 9 (.load none (.t 8)), o_ 10 (.len 1 (.t 9)), o_ 11 (.mv (.t 1)), o_ 12 (.nilck (.t 11)), o_ 13 (.fieldAddr 2 (.t 12)), o_ 14 (.load none (.t 13)), o_ 15 (.len 1 (.t 14)), o_ 16 (.bin .neq (.t 10) (.t 15))])
 (.cond (.t 16) (.seq (.reg [o_ 4 (.mv (.c (.bool false)))])
  .ret)
  (.skip)))
 (.seq (.seq (.reg [o_ 5 (.mv (.c (.int .i64 0)))])
 (.block 0 (.loop (.seq (.seq (.reg [o_ 17 (.mv (.t 5)), o_ 18 (.mv (.t 0)), o_ 19 (.nilck (.t 18)), o_ 20 (.fieldAddr 2 (.t 19)), o_ 21 (.load none (.t 20)), o_ 22 (.len 1 (.t 21)), o_ 23 (.bin .lss (.t 17) (.t 22))])
  (.cond (.t 23) (.skip)
   (.exit 0)))
  (.seq (.block 1 (.seq (.dreg [o_ 26 (.mv (.t 0)), o_ 27 (.nilck (.t 26)), o_ 28 (.fieldAddr 2 (.t 27)), o_ 29 (.load none (.t 28)), o_ 30 (.mv (.t 5)), o_ 31 (.idxAddr 1 (.t 29) (.t 30)), o_ 32 (.load none (.t 31)), o_ 33 (.build [(.int .i64 0), .nils, .nils, (.int .i64 0)] [(1, 1, (.t 32))]), o_ 34 (.mv (.t 1)), o_ 35 (.nilck (.t 34)), o_ 36 (.fieldAddr 2 (.t 35)), o_ 37 (.load none (.t 36)), o_ 38 (.mv (.t 5)), o_ 39 (.idxAddr 1 (.t 37) (.t 38)), o_ 40 (.load none (.t 39)), o_ 41 (.build [(.int .i64 0), .nils, .nils, (.int .i64 0)] [(1, 1, (.t 40))]), o_ 42 (.call (.c (.fn (.func 48) [] [])) [(.t 33), (.t 41)]), ⟨some 43, .un .not (.t 42), none, 1, 1⟩])
  (.cond (.t 43) (.seq (.reg [o_ 4 (.mv (.c (.bool false)))])
   .ret)
   (.skip))))
  (.reg [o_ 24 (.mv (.t 5)), o_ 25 (.bin .add (.t 24) (.c (.int .i64 1))), o_ 5 (.mv (.t 25))]))))))
 (.seq (.reg [o_ 4 (.mv (.c (.bool true)))])
 .ret)))), [.t 4]⟩
theorem c29 : ∃ fn, Try.prog.funcs[29]? = some fn ∧ compFn Try.prog fn = some a29 := ⟨_, Try.func29, by kernel_rfl⟩
def a36 : AFunc := ⟨23, (.seq (.reg [o_ 1 (.box (.t 0)), o_ 2 (.mv (.c (.bool false)))])
 (.seq (.seq (.reg [o_ 3 (.fieldAddr 0 (.t 1)), o_ 4 (.load none (.t 3)), o_ 5 (.bin .eql (.t 4) (.c (.int .i64 1)))])
 (.cond (.t 5) (.seq (.reg [o_ 6 (.fieldAddr 2 (.t 1)), o_ 7 (.load none (.t 6)), o_ 8 (.bin .eql (.t 7) (.c (.str []))), o_ 2 (.mv (.t 8))])
  .ret)
  (.skip)))
 (.seq (.reg [o_ 9 (.fieldAddr 0 (.t 1)), o_ 10 (.load none (.t 9)), o_ 11 (.bin .eql (.t 10) (.c (.int .i64 2))), o_ 12 (.mv (.t 11)), ⟨some 13, .fieldAddr 1 (.t 1), (some (12, true)), 0, 0⟩, ⟨some 14, .load none (.t 13), (some (12, true)), 0, 0⟩, ⟨some 15, .bin .eql (.t 14) (.c (.int .i64 0)), (some (12, true)), 0, 0⟩, o_ 16 (.pick (.t 12) (.t 15) (.c (.bool false))), o_ 17 (.mv (.t 16)), ⟨some 18, .fieldAddr 2 (.t 1), (some (17, true)), 0, 0⟩, ⟨some 19, .load none (.t 18), (some (17, true)), 0, 0⟩, ⟨some 20, .len 0 (.t 19), (some (17, true)), 0, 0⟩, ⟨some 21, .bin .leq (.t 20) (.c (.int .i64 7)), (some (17, true)), 0, 0⟩, o_ 22 (.pick (.t 17) (.t 21) (.c (.bool false))), o_ 2 (.mv (.t 22))])
 .ret))), [.t 2]⟩
theorem c36 : ∃ fn, Try.prog.funcs[36]? = some fn ∧ compFn Try.prog fn = some a36 := ⟨_, Try.func36, by kernel_rfl⟩
def a37 : AFunc := ⟨42, (.seq (.reg [o_ 4 (.mv (.c (.int .i64 0)))])
 (.seq (.seq (.reg [o_ 5 (.mv (.c (.int .i64 0)))])
 (.block 0 (.loop (.seq (.seq (.reg [o_ 6 (.mv (.t 5)), o_ 7 (.mv (.t 0)), o_ 8 (.len 0 (.t 7)), o_ 9 (.bin .lss (.t 6) (.t 8)), o_ 10 (.mv (.t 9)), ⟨some 11, .mv (.t 5), (some (10, true)), 0, 0⟩, ⟨some 12, .mv (.t 1), (some (10, true)), 0, 0⟩, ⟨some 13, .len 0 (.t 12), (some (10, true)), 0, 0⟩, ⟨some 14, .bin .lss (.t 11) (.t 13), (some (10, true)), 0, 0⟩, o_ 15 (.pick (.t 10) (.t 14) (.c (.bool false)))])
  (.cond (.t 15) (.skip)
   (.exit 0)))
  (.seq (.block 1 (.seq (.seq (.dreg [o_ 18 (.mv (.t 0)), o_ 19 (.mv (.t 5)), o_ 20 (.idxS (.t 18) (.t 19)), o_ 21 (.mv (.t 1)), o_ 22 (.mv (.t 5)), o_ 23 (.idxS (.t 21) (.t 22)), o_ 24 (.bin .lss (.t 20) (.t 23))])
  (.cond (.t 24) (.seq (.reg [o_ 4 (.mv (.c (.int .i64 (-1))))])
   .ret)
   (.skip)))
  (.seq (.dreg [o_ 25 (.mv (.t 0)), o_ 26 (.mv (.t 5)), o_ 27 (.idxS (.t 25) (.t 26)), o_ 28 (.mv (.t 1)), o_ 29 (.mv (.t 5)), o_ 30 (.idxS (.t 28) (.t 29)), o_ 31 (.bin .gtr (.t 27) (.t 30))])
  (.cond (.t 31) (.seq (.reg [o_ 4 (.mv (.c (.int .i64 1)))])
   .ret)
   (.skip)))))
  (.reg [o_ 16 (.mv (.t 5)), o_ 17 (.bin .add (.t 16) (.c (.int .i64 1))), o_ 5 (.mv (.t 17))]))))))
 (.seq (.seq (.reg [o_ 32 (.mv (.t 0)), o_ 33 (.len 0 (.t 32)), o_ 34 (.mv (.t 1)), o_ 35 (.len 0 (.t 34)), o_ 36 (.bin .lss (.t 33) (.t 35))])
 (.cond (.t 36) (.seq (.reg [o_ 4 (.mv (.c (.int .i64 (-1))))])
  .ret)
  (.skip)))
 (.seq (.seq (.reg [o_ 37 (.mv (.t 0)), o_ 38 (.len 0 (.t 37)), o_ 39 (.mv (.t 1)), o_ 40 (.len 0 (.t 39)), o_ 41 (.bin .gtr (.t 38) (.t 40))])
 (.cond (.t 41) (.seq (.reg [o_ 4 (.mv (.c (.int .i64 1)))])
  .ret)
  (.skip)))
 (.seq (.reg [o_ 4 (.mv (.c (.int .i64 0)))])
 .ret))))), [.t 4]⟩
theorem c37 : ∃ fn, Try.prog.funcs[37]? = some fn ∧ compFn Try.prog fn = some a37 := ⟨_, Try.func37, by kernel_rfl⟩
def a47 : AFunc := ⟨54, (.seq (.reg [o_ 2 (.alloc [(.int .i64 0), (.int .i64 0), (.str [])]), o_ 3 (.mv (.c (.bool false)))])
 (.seq (.seq (.reg [o_ 7 (.mv (.t 0)), o_ 8 (.len 0 (.t 7)), o_ 9 (.bin .neq (.t 8) (.c (.int .i64 9)))])
 (.cond (.t 9) (.seq (.reg [o_ 10 (.build [(.int .i64 0), (.int .i64 0), (.str [])] []), ⟨none, .store 3 (.t 2) (.t 10), none, 0, 0⟩, o_ 3 (.mv (.c (.bool false)))])
  .ret)
  (.skip)))
 (.seq (.reg [o_ 11 (.mv (.t 0)), o_ 12 (.idxS (.t 11) (.c (.int .i64 0))), o_ 13 (.conv .i64 (.t 12)), o_ 14 (.build [(.int .i64 0), (.int .i64 0), (.str [])] [(0, 1, (.t 13))]), o_ 4 (.alloc [(.int .i64 0), (.int .i64 0), (.str [])]), ⟨none, .store 3 (.t 4) (.t 14), none, 0, 0⟩])
 (.seq (.seq (.reg [o_ 15 (.mv (.t 0)), o_ 16 (.idxS (.t 15) (.c (.int .i64 0)))])
 (.block 0 (.seq (.reg [o_ 19 (.bin .eql (.t 16) (.c (.int .u8 1))), o_ 18 (.mv (.t 19))])
 (.cond (.t 18) (.seq (.reg [o_ 5 (.mv (.c (.int .u64 0)))])
  (.seq (.seq (.reg [o_ 6 (.mv (.c (.int .i64 1)))])
  (.block 1 (.loop (.seq (.seq (.reg [o_ 20 (.mv (.t 6)), o_ 21 (.bin .lss (.t 20) (.c (.int .i64 9)))])
   (.cond (.t 21) (.skip)
    (.exit 1)))
   (.seq (.block 2 (.reg [o_ 24 (.mv (.t 5)), o_ 25 (.bin .mul (.t 24) (.c (.int .u64 256))), o_ 26 (.mv (.t 0)), o_ 27 (.mv (.t 6)), o_ 28 (.idxS (.t 26) (.t 27)), o_ 29 (.conv .u64 (.t 28)), o_ 30 (.bin .add (.t 25) (.t 29)), o_ 5 (.mv (.t 30))]))
   (.reg [o_ 22 (.mv (.t 6)), o_ 23 (.bin .add (.t 22) (.c (.int .i64 1))), o_ 6 (.mv (.t 23))]))))))
  (.reg [o_ 31 (.mv (.t 5)), o_ 32 (.bin .xor (.t 31) (.c (.int .u64 9223372036854775808))), o_ 33 (.conv .i64 (.t 32)), o_ 34 (.fieldAddr 1 (.t 4)), ⟨none, .store 1 (.t 34) (.t 33), none, 0, 0⟩])))
  (.seq (.reg [o_ 36 (.bin .eql (.t 16) (.c (.int .u8 2))), o_ 35 (.mv (.t 36))])
  (.cond (.t 35) (.seq (.seq (.reg [o_ 37 (.mv (.t 0)), o_ 38 (.idxS (.t 37) (.c (.int .i64 8))), o_ 39 (.bin .gtr (.t 38) (.c (.int .u8 7)))])
   (.cond (.t 39) (.seq (.reg [o_ 40 (.build [(.int .i64 0), (.int .i64 0), (.str [])] []), ⟨none, .store 3 (.t 2) (.t 40), none, 0, 0⟩, o_ 3 (.mv (.c (.bool false)))])
    .ret)
    (.skip)))
   (.reg [o_ 41 (.mv (.t 0)), o_ 42 (.mv (.t 0)), o_ 43 (.idxS (.t 42) (.c (.int .i64 8))), o_ 44 (.conv .i64 (.t 43)), o_ 45 (.bin .add (.c (.int .i64 1)) (.t 44)), o_ 46 (.slcS (.t 41) (some (.c (.int .i64 1))) (some (.t 45))), o_ 47 (.fieldAddr 2 (.t 4)), ⟨none, .store 1 (.t 47) (.t 46), none, 0, 0⟩]))
   (.seq (.reg [o_ 17 (.build [(.int .i64 0), (.int .i64 0), (.str [])] []), ⟨none, .store 3 (.t 2) (.t 17), none, 0, 0⟩, o_ 3 (.mv (.c (.bool false)))])
   .ret)))))))
 (.seq (.seq (.reg [o_ 48 (.load (some 3) (.t 4)), o_ 49 (.call (.c (.fn (.func 21) [] [])) [(.t 48)]), o_ 50 (.mv (.t 0)), o_ 51 (.bin .neq (.t 49) (.t 50))])
 (.cond (.t 51) (.seq (.reg [o_ 52 (.build [(.int .i64 0), (.int .i64 0), (.str [])] []), ⟨none, .store 3 (.t 2) (.t 52), none, 0, 0⟩, o_ 3 (.mv (.c (.bool false)))])
  .ret)
  (.skip)))
 (.seq (.reg [o_ 53 (.load (some 3) (.t 4)), ⟨none, .store 3 (.t 2) (.t 53), none, 0, 0⟩, o_ 3 (.mv (.c (.bool true)))])
 .ret)))))), [.cell 2 (some 3), .t 3]⟩
theorem c47 : ∃ fn, Try.prog.funcs[47]? = some fn ∧ compFn Try.prog fn = some a47 := ⟨_, Try.func47, by kernel_rfl⟩
def a48 : AFunc := ⟨139, (.seq (.reg [o_ 2 (.box (.t 0)), o_ 3 (.box (.t 1)), o_ 4 (.mv (.c (.bool false)))])
 (.seq (.seq (.reg [o_ 8 (.fieldAddr 0 (.t 2)), o_ 9 (.load none (.t 8)), o_ 10 (.fieldAddr 0 (.t 3)), o_ 11 (.load none (.t 10)), o_ 12 (.bin .neq (.t 9) (.t 11)), o_ 13 (.mv (.t 12)), ⟨some 14, .fieldAddr 3 (.t 2), (some (13, false)), 0, 0⟩, ⟨some 15, .load none (.t 14), (some (13, false)), 0, 0⟩, ⟨some 16, .fieldAddr 3 (.t 3), (some (13, false)), 0, 0⟩, ⟨some 17, .load none (.t 16), (some (13, false)), 0, 0⟩, ⟨some 18, .bin .neq (.t 15) (.t 17), (some (13, false)), 0, 0⟩, o_ 19 (.pick (.t 13) (.c (.bool true)) (.t 18)), o_ 20 (.mv (.t 19)), ⟨some 21, .fieldAddr 1 (.t 2), (some (20, false)), 0, 0⟩, ⟨some 22, .load none (.t 21), (some (20, false)), 0, 0⟩, ⟨some 23, .len 1 (.t 22), (some (20, false)), 0, 0⟩, ⟨some 24, .fieldAddr 1 (.t 3), (some (20, false)), 0, 0⟩, ⟨some 25, .load none (.t 24), (some (20, false)), 0, 0⟩, ⟨some 26, .len 1 (.t 25), (some (20, false)), 0, 0⟩, ⟨some 27, .bin .neq (.t 23) (.t 26), (some (20, false)), 0, 0⟩, o_ 28 (.pick (.t 20) (.c (.bool true)) (.t 27)), o_ 29 (.mv (.t 28)), ⟨some 30, .fieldAddr 2 (.t 2), (some (29, false)), 0, 0⟩, ⟨some 31, .load none (.t 30), (some (29, false)), 0, 0⟩, ⟨some 32, .len 1 (.t 31), (some (29, false)), 0, 0⟩, ⟨some 33, .fieldAddr 2 (.t 3), (some (29, false)), 0, 0⟩, ⟨some 34, .load none (.t 33), (some (29, false)), 0, 0⟩, ⟨some 35, .len 1 (.t 34), (some (29, false)), 0, 0⟩, ⟨some 36, .bin .neq (.t 32) (.t 35), (some (29, false)), 0, 0⟩, o_ 37 (.pick (.t 29) (.c (.bool true)) (.t 36))])
 (.cond (.t 37) (.seq (.reg [o_ 4 (.mv (.c (.bool false)))])
  .ret)
  (.skip)))
 (.seq (.seq (.reg [o_ 5 (.mv (.c (.int .i64 0)))])
 (.block 0 (.loop (.seq (.seq (.reg [o_ 38 (.mv (.t 5)), o_ 39 (.fieldAddr 1 (.t 2)), o_ 40 (.load none (.t 39)), o_ 41 (.len 1 (.t 40)), o_ 42 (.bin .lss (.t 38) (.t 41))])
  (.cond (.t 42) (.skip)
   (.exit 0)))
  (.seq (.block 1 (.seq (.dreg [o_ 45 (.fieldAddr 1 (.t 2)), o_ 46 (.load none (.t 45)), o_ 47 (.mv (.t 5)), o_ 48 (.idxAddr 1 (.t 46) (.t 47)), o_ 49 (.load none (.t 48)), o_ 50 (.fieldAddr 1 (.t 3)), o_ 51 (.load none (.t 50)), o_ 52 (.mv (.t 5)), o_ 53 (.idxAddr 1 (.t 51) (.t 52)), o_ 54 (.load none (.t 53)), o_ 55 (.call (.c (.fn (.func 62) [] [])) [(.t 49), (.t 54)]), ⟨some 56, .un .not (.t 55), none, 1, 1⟩])
  (.cond (.t 56) (.seq (.reg [o_ 4 (.mv (.c (.bool false)))])
   .ret)
   (.skip))))
  (.reg [o_ 43 (.mv (.t 5)), o_ 44 (.bin .add (.t 43) (.c (.int .i64 1))), o_ 5 (.mv (.t 44))]))))))
 (.seq (.seq (.reg [o_ 6 (.mv (.c (.int .i64 0)))])
 (.block 2 (.loop (.seq (.seq (.reg [o_ 57 (.mv (.t 6)), o_ 58 (.fieldAddr 2 (.t 2)), o_ 59 (.load none (.t 58)), o_ 60 (.len 1 (.t 59)), o_ 61 (.bin .lss (.t 57) (.t 60))])
  (.cond (.t 61) (.skip)
   (.exit 2)))
  (.seq (.block 3 (.seq (.seq (.dreg [o_ 64 (.fieldAddr 2 (.t 2)), o_ 65 (.load none (.t 64)), o_ 66 (.mv (.t 6)), o_ 67 (.idxAddr 5 (.t 65) (.t 66)), o_ 68 (.fieldAddr 0 (.t 67)), o_ 69 (.load (some 3) (.t 68)), o_ 70 (.fieldAddr 2 (.t 3)), o_ 71 (.load none (.t 70)), o_ 72 (.mv (.t 6)), o_ 73 (.idxAddr 5 (.t 71) (.t 72)), o_ 74 (.fieldAddr 0 (.t 73)), o_ 75 (.load (some 3) (.t 74)), o_ 76 (.eqS true [1, 1, 2] (.t 69) (.t 75)), o_ 77 (.mv (.t 76)), ⟨some 78, .fieldAddr 2 (.t 2), (some (77, false)), 0, 0⟩, ⟨some 79, .load none (.t 78), (some (77, false)), 0, 0⟩, ⟨some 80, .mv (.t 6), (some (77, false)), 0, 0⟩, ⟨some 81, .idxAddr 5 (.t 79) (.t 80), (some (77, false)), 0, 0⟩, ⟨some 82, .fieldAddr 3 (.t 81), (some (77, false)), 0, 0⟩, ⟨some 83, .load none (.t 82), (some (77, false)), 0, 0⟩, ⟨some 84, .fieldAddr 2 (.t 3), (some (77, false)), 0, 0⟩, ⟨some 85, .load none (.t 84), (some (77, false)), 0, 0⟩, ⟨some 86, .mv (.t 6), (some (77, false)), 0, 0⟩, ⟨some 87, .idxAddr 5 (.t 85) (.t 86), (some (77, false)), 0, 0⟩, ⟨some 88, .fieldAddr 3 (.t 87), (some (77, false)), 0, 0⟩, ⟨some 89, .load none (.t 88), (some (77, false)), 0, 0⟩, ⟨some 90, .bin .neq (.t 83) (.t 89), (some (77, false)), 0, 0⟩, o_ 91 (.pick (.t 77) (.c (.bool true)) (.t 90)), o_ 92 (.mv (.t 91)), ⟨some 93, .fieldAddr 2 (.t 2), (some (92, false)), 0, 0⟩, ⟨some 94, .load none (.t 93), (some (92, false)), 0, 0⟩, ⟨some 95, .mv (.t 6), (some (92, false)), 0, 0⟩, ⟨some 96, .idxAddr 5 (.t 94) (.t 95), (some (92, false)), 0, 0⟩, ⟨some 97, .fieldAddr 4 (.t 96), (some (92, false)), 0, 0⟩, ⟨some 98, .load none (.t 97), (some (92, false)), 0, 0⟩, ⟨some 99, .len 1 (.t 98), (some (92, false)), 0, 0⟩, ⟨some 100, .fieldAddr 2 (.t 3), (some (92, false)), 0, 0⟩, ⟨some 101, .load none (.t 100), (some (92, false)), 0, 0⟩, ⟨some 102, .mv (.t 6), (some (92, false)), 0, 0⟩, ⟨some 103, .idxAddr 5 (.t 101) (.t 102), (some (92, false)), 0, 0⟩, ⟨some 104, .fieldAddr 4 (.t 103), (some (92, false)), 0, 0⟩, ⟨some 105, .load none (.t 104), (some (92, false)), 0, 0⟩, ⟨some 106, .len 1 (.t 105), (some (92, false)), 0, 0⟩, ⟨some 107, .bin .neq (.t 99) (.t 106), (some (92, false)), 0, 0⟩, o_ 108 (.pick (.t 92) (.c (.bool true)) (.t 107))])
  (.cond (.t 108) (.seq (.reg [o_ 4 (.mv (.c (.bool false)))])
   .ret)
   (.skip)))
  (.seq (.reg [o_ 7 (.mv (.c (.int .i64 0)))])
  (.block 4 (.loop (.seq (.seq (.reg [o_ 109 (.mv (.t 7)), o_ 110 (.fieldAddr 2 (.t 2)), o_ 111 (.load none (.t 110)), o_ 112 (.mv (.t 6)), o_ 113 (.idxAddr 5 (.t 111) (.t 112)), o_ 114 (.fieldAddr 4 (.t 113)), o_ 115 (.load none (.t 114)), o_ 116 (.len 1 (.t 115)), o_ 117 (.bin .lss (.t 109) (.t 116))])
   (.cond (.t 117) (.skip)
    (.exit 4)))
   (.seq (.block 5 (.seq (.dreg [o_ 120 (.fieldAddr 2 (.t 2)), o_ 121 (.load none (.t 120)), o_ 122 (.mv (.t 6)), o_ 123 (.idxAddr 5 (.t 121) (.t 122)), o_ 124 (.fieldAddr 4 (.t 123)), o_ 125 (.load none (.t 124)), o_ 126 (.mv (.t 7)), o_ 127 (.idxAddr 1 (.t 125) (.t 126)), o_ 128 (.load none (.t 127)), o_ 129 (.fieldAddr 2 (.t 3)), o_ 130 (.load none (.t 129)), o_ 131 (.mv (.t 6)), o_ 132 (.idxAddr 5 (.t 130) (.t 131)), o_ 133 (.fieldAddr 4 (.t 132)), o_ 134 (.load none (.t 133)), o_ 135 (.mv (.t 7)), o_ 136 (.idxAddr 1 (.t 134) (.t 135)), o_ 137 (.load none (.t 136)), o_ 138 (.bin .neq (.t 128) (.t 137))])
   (.cond (.t 138) (.seq (.reg [o_ 4 (.mv (.c (.bool false)))])
    .ret)
    (.skip))))
   (.reg [o_ 118 (.mv (.t 7)), o_ 119 (.bin .add (.t 118) (.c (.int .i64 1))), o_ 7 (.mv (.t 119))]))))))))
  (.reg [o_ 62 (.mv (.t 6)), o_ 63 (.bin .add (.t 62) (.c (.int .i64 1))), o_ 6 (.mv (.t 63))]))))))
 (.seq (.reg [o_ 4 (.mv (.c (.bool true)))])
 .ret))))), [.t 4]⟩
theorem c48 : ∃ fn, Try.prog.funcs[48]? = some fn ∧ compFn Try.prog fn = some a48 := ⟨_, Try.func48, by kernel_rfl⟩
def a62 : AFunc := ⟨26, (.seq (.reg [o_ 4 (.mv (.c (.bool false)))])
 (.seq (.seq (.reg [o_ 6 (.mv (.t 0)), o_ 7 (.len 1 (.t 6)), o_ 8 (.mv (.t 1)), o_ 9 (.len 1 (.t 8)), o_ 10 (.bin .neq (.t 7) (.t 9))])
 (.cond (.t 10) (.seq (.reg [o_ 4 (.mv (.c (.bool false)))])
  .ret)
  (.skip)))
 (.seq (.seq (.reg [o_ 5 (.mv (.c (.int .i64 0)))])
 (.block 0 (.loop (.seq (.seq (.reg [o_ 11 (.mv (.t 5)), o_ 12 (.mv (.t 0)), o_ 13 (.len 1 (.t 12)), o_ 14 (.bin .lss (.t 11) (.t 13))])
  (.cond (.t 14) (.skip)
   (.exit 0)))
  (.seq (.block 1 (.seq (.dreg [o_ 17 (.mv (.t 0)), o_ 18 (.mv (.t 5)), o_ 19 (.idxAddr 3 (.t 17) (.t 18)), o_ 20 (.load (some 3) (.t 19)), o_ 21 (.mv (.t 1)), o_ 22 (.mv (.t 5)), o_ 23 (.idxAddr 3 (.t 21) (.t 22)), o_ 24 (.load (some 3) (.t 23)), o_ 25 (.eqS true [1, 1, 2] (.t 20) (.t 24))])
  (.cond (.t 25) (.seq (.reg [o_ 4 (.mv (.c (.bool false)))])
   .ret)
   (.skip))))
  (.reg [o_ 15 (.mv (.t 5)), o_ 16 (.bin .add (.t 15) (.c (.int .i64 1))), o_ 5 (.mv (.t 16))]))))))
 (.seq (.reg [o_ 4 (.mv (.c (.bool true)))])
 .ret)))), [.t 4]⟩
theorem c62 : ∃ fn, Try.prog.funcs[62]? = some fn ∧ compFn Try.prog fn = some a62 := ⟨_, Try.func62, by kernel_rfl⟩
open Go
def tree : Tr := (.br (.br (.br (.br (.node 3 a3) 4 (.node 4 a4)) 5 (.br (.node 5 a5) 7 (.br (.node 7 a7) 8 (.node 8 a8)))) 10 (.br (.br (.node 10 a10) 11 (.node 11 a11)) 18 (.br (.node 18 a18) 19 (.br (.node 19 a19) 20 (.node 20 a20))))) 21 (.br (.br (.br (.node 21 a21) 22 (.node 22 a22)) 23 (.br (.node 23 a23) 27 (.br (.node 27 a27) 28 (.node 28 a28)))) 29 (.br (.br (.node 29 a29) 36 (.br (.node 36 a36) 37 (.node 37 a37))) 47 (.br (.node 47 a47) 48 (.br (.node 48 a48) 62 (.node 62 a62))))))
theorem all : tree.All Try.prog := ⟨⟨⟨⟨c3, c4⟩, ⟨c5, ⟨c7, c8⟩⟩⟩, ⟨⟨c10, c11⟩, ⟨c18, ⟨c19, c20⟩⟩⟩⟩, ⟨⟨⟨c21, c22⟩, ⟨c23, ⟨c27, c28⟩⟩⟩, ⟨⟨c29, ⟨c36, c37⟩⟩, ⟨c47, ⟨c48, c62⟩⟩⟩⟩⟩
open Go
abbrev Val := Int × Int × List UInt8
abbrev iV (n : Int) : AV := .int .i64 n
abbrev vV (v : Val) : AV := .agg [.int .i64 v.1, .int .i64 v.2.1, .str v.2.2]
def goodVal (v : Val) : Bool := if v.1 = 1 then bytesEq v.2.2 [] else (decide (v.1 = 2) && (decide (v.2.1 = 0) && decide ((v.2.2.length : Int) ≤ 7)))
noncomputable abbrev T : FuncId → Option AFunc := tree.get
noncomputable def gam0 : List (Nat × GF) := []
theorem K0 : Known (gGet gam0) tree.get Try.prog := known_of (by kernel_rfl) trivial all
theorem good_cl (v : Val) : Cl (gGet gam0) T 36 [vV v] [] (.bool (goodVal v), [.cells [.int .i64 v.1, .int .i64 v.2.1, .str v.2.2]], none) := by
 obtain ⟨k, n, s⟩ := v
 by_cases h1 : k = 1
 ·rw [show goodVal (k, n, s) = bytesEq s [] by simp [goodVal, h1]]
  exact clPath (af := a36) (ds := [.b true, .b (bytesEq s [])]) [some (AV.bool (k == 1)) = some (.bool true), some (AV.bool (bytesEq s [])) = some (.bool (bytesEq s []))] (by kernel_rfl) (by kernel_rfl) rfl (by kernel_rfl) ⟨by simp [h1], rfl, trivial⟩
 by_cases h2 : k = 2
 ·by_cases h3 : n = 0
  ·rw [show goodVal (k, n, s) = decide ((s.length : Int) ≤ 7) by simp [goodVal, h2, h3]]
   exact clPath (af := a36) (ds := [.b false, .b true, .b true, .b (decide ((s.length : Int) ≤ 7))]) [some (AV.bool (k == 1)) = some (.bool false), some (AV.bool (k == 2)) = some (.bool true), some (AV.bool (n == 0)) = some (.bool true), some (AV.bool (decide ((s.length : Int) ≤ 7))) = some (.bool (decide ((s.length : Int) ≤ 7)))] (by kernel_rfl) (by kernel_rfl) rfl (by kernel_rfl) ⟨by simp [h1], by simp [h2], by simp [h3], rfl, trivial⟩
  ·rw [show goodVal (k, n, s) = false by simp [goodVal, h2, h3]]
   exact clPath (af := a36) (ds := [.b false, .b true, .b false]) [some (AV.bool (k == 1)) = some (.bool false), some (AV.bool (k == 2)) = some (.bool true), some (AV.bool (n == 0)) = some (.bool false)] (by kernel_rfl) (by kernel_rfl) rfl (by kernel_rfl) ⟨by simp [h1], by simp [h2], by simp [h3], trivial⟩
 ·rw [show goodVal (k, n, s) = false by simp [goodVal, h1, h2]]
  exact clPath (af := a36) (ds := [.b false, .b false]) [some (AV.bool (k == 1)) = some (.bool false), some (AV.bool (k == 2)) = some (.bool false)] (by kernel_rfl) (by kernel_rfl) rfl (by kernel_rfl) ⟨by simp [h1], by simp [h2], trivial⟩
def gGood : List AV → Option AV
 | [.agg [.int .i64 k, .int .i64 n, .str s]] => some (.bool (goodVal (k, n, s)))
 | _ => none
theorem good_ok : GOk Try.prog 36 (pureG gGood) := by
 refine pureG_known ⟨_, Try.func36, by kernel_rfl, by kernel_rfl⟩ fun args r hr _ => ?_
 unfold gGood at hr
 split at hr <;> cases hr
 rename_i k n s _
 exact pureS_cl K0 (good_cl (k, n, s)) (by kernel_rfl) rfl
noncomputable def gam1 : List (Nat × GF) := (36, pureG gGood) :: gam0
theorem K1 : Known (gGet gam1) tree.get Try.prog := known_of (by kernel_rfl) ⟨good_ok, trivial⟩ all
noncomputable abbrev G1 : FuncId → Option GF := gGet gam1
theorem good1 (v : Val) (h : List Blk) : Cl G1 T 36 [vV v] h (.bool (goodVal v), h, none) := Cl.pure (g := gGood) (by kernel_rfl) rfl rfl rfl h
def texts : List UInt8 → List UInt8 → Int
 | [], [] => 0
 | [], _ :: _ => -1
 | _ :: _, [] => 1
 | a :: x, b :: y => if (a.toNat : Int) < b.toNat then -1 else if (a.toNat : Int) > b.toNat then 1 else texts x y
section
variable {Γ : FuncId → Option GF}
def QT (r : Int) (h : List Blk) (e : AExit) (s : St) : Prop := e = .ret ∧ s.lo = none ∧ getX s.t 4 = .int .i64 r ∧ s.h = h
theorem QT_of {t : List AV} {h : List Blk} {r : Int} (hl : Lv 42 [(4, .int .i64 r)] t) : QT r h .ret { t := t, h := h, lo := none } := ⟨rfl, rfl, hl.get _ (List.mem_singleton.2 rfl), rfl⟩
theorem texts_cl (hg : Γ 37 = none) {a b : List UInt8} (ha : a.length ≤ 9223372036854775807) (hb : b.length ≤ 9223372036854775807) (h : List Blk) : Cl Γ T 37 [.str a, .str b] h (.int .i64 (texts a b), h, none) := by
 suffices hw : Wp Γ T a37.body { t := [.str a, .str b] ++ List.replicate 40 (.tup []), h := h } (QT (texts a b) h) by
  obtain ⟨r, h', ⟨rfl, rfl⟩, hc⟩ := Cl.slot (Γ := Γ) (tbl := T) (af := a37) (args := [.str a, .str b]) (h := h) hg (by kernel_rfl) rfl rfl (fun r h' => r = .int .i64 (texts a b) ∧ h' = h) hw
  exact hc
 refine Wp.seq ?_
 refine (path2 (nt := 42) (live := [(0, .str a), (1, .str b)]) [0, 1] (e := .normal) (vals := [.str a, .str b]) (h' := h) (ds := []) (cs := []) ⟨by simp, by simp [getX_eq]⟩ (fun t0 => by kernel_rfl) trivial).mono ?_
 rintro e s ⟨rfl, t1, rfl, hl1⟩
 refine Wp.seq (Wp.seq ?_)
 refine (path2 [0, 1, 5] (e := .normal) (vals := [.str a, .str b, .int .i64 0]) (h' := h) (ds := []) (cs := []) hl1 (fun t0 => by kernel_rfl) trivial).mono ?_
 rintro e s ⟨rfl, t2, rfl, hl2⟩
 refine Wp.block ?_
 refine (Wp.loop (Q := fun e s => QT (texts a b) h e s ∨ (e = .exit 0 ∧ ∃ i t, s = { t := t, h := h, lo := none } ∧ Lv 42 [(0, .str a), (1, .str b)] t ∧ (i = a.length ∨ i = b.length) ∧ i ≤ a.length ∧ i ≤ b.length ∧ texts (a.drop i) (b.drop i) = texts a b)) (fun k s => ∃ (i : Nat) (t : List AV), s = { t := t, h := h, lo := none } ∧ k = a.length - i ∧ i ≤ a.length ∧ i ≤ b.length ∧ Lv 42 [(0, .str a), (1, .str b), (5, .int .i64 (i : Int))] t ∧ texts (a.drop i) (b.drop i) = texts a b) ?_ a.length _ ⟨0, t2, rfl, by omega, by omega, by omega, hl2, rfl⟩).mono ?_
 ·rintro k s ⟨i, t, rfl, rfl, hi, hi2, hl, hT⟩
  by_cases h1 : i < a.length
  ·by_cases h2 : i < b.length
   ·have e1 := List.getElem?_eq_getElem h1
    have e2 := List.getElem?_eq_getElem h2
    rw [List.drop_eq_getElem_cons h1, List.drop_eq_getElem_cons h2, texts] at hT
    generalize a[i] = x at e1 hT
    generalize b[i] = y at e2 hT
    have c1 : some (AV.bool (decide ((i : Int) < (a.length : Int)))) = some (.bool true) := by simp; omega
    have c2 : some (AV.bool (decide ((i : Int) < (b.length : Int)))) = some (.bool true) := by simp; omega
    have c3 : (if 0 ≤ (i : Int) then (a[(i : Int).toNat]?).map (fun b => AV.int .u8 b.toNat) else none) = some (.int .u8 x.toNat) := by simp [e1]
    have c4 : (if 0 ≤ (i : Int) then (b[(i : Int).toNat]?).map (fun b => AV.int .u8 b.toNat) else none) = some (.int .u8 y.toNat) := by simp [e2]
    by_cases h3 : (x.toNat : Int) < y.toNat
    ·rw [if_pos h3] at hT
     rw [← hT]
     refine (path2 [4] (e := .ret) (vals := [.int .i64 (-1)]) (h' := h) (ds := [.b true, .b true, .f (.int .u8 x.toNat), .f (.int .u8 y.toNat), .b true])
      (cs := [some (AV.bool (decide ((i : Int) < (a.length : Int)))) = some (.bool true), some (AV.bool (decide ((i : Int) < (b.length : Int)))) = some (.bool true), (if 0 ≤ (i : Int) then (a[(i : Int).toNat]?).map (fun b => AV.int .u8 b.toNat) else none) = some (.int .u8 x.toNat), (if 0 ≤ (i : Int) then (b[(i : Int).toNat]?).map (fun b => AV.int .u8 b.toNat) else none) = some (.int .u8 y.toNat), some (AV.bool (decide ((x.toNat : Int) < (y.toNat : Int)))) = some (.bool true)]) hl (fun t0 => by kernel_rfl) ⟨c1, c2, c3, c4, by rw [decide_eq_true h3], trivial⟩).mono ?_
     rintro e s ⟨rfl, t3, rfl, hl3⟩
     exact .inl (QT_of hl3)
    rw [if_neg h3] at hT
    by_cases h4 : (x.toNat : Int) > y.toNat
    ·rw [if_pos h4] at hT
     rw [← hT]
     refine (path2 [4] (e := .ret) (vals := [.int .i64 1]) (h' := h) (ds := [.b true, .b true, .f (.int .u8 x.toNat), .f (.int .u8 y.toNat), .b false, .f (.int .u8 x.toNat), .f (.int .u8 y.toNat), .b true])
      (cs := [some (AV.bool (decide ((i : Int) < (a.length : Int)))) = some (.bool true), some (AV.bool (decide ((i : Int) < (b.length : Int)))) = some (.bool true), (if 0 ≤ (i : Int) then (a[(i : Int).toNat]?).map (fun b => AV.int .u8 b.toNat) else none) = some (.int .u8 x.toNat), (if 0 ≤ (i : Int) then (b[(i : Int).toNat]?).map (fun b => AV.int .u8 b.toNat) else none) = some (.int .u8 y.toNat), some (AV.bool (decide ((x.toNat : Int) < (y.toNat : Int)))) = some (.bool false),
       (if 0 ≤ (i : Int) then (a[(i : Int).toNat]?).map (fun b => AV.int .u8 b.toNat) else none) = some (.int .u8 x.toNat), (if 0 ≤ (i : Int) then (b[(i : Int).toNat]?).map (fun b => AV.int .u8 b.toNat) else none) = some (.int .u8 y.toNat), some (AV.bool (decide ((x.toNat : Int) > (y.toNat : Int)))) = some (.bool true)]) hl (fun t0 => by kernel_rfl) ⟨c1, c2, c3, c4, by rw [decide_eq_false h3], c3, c4, by rw [decide_eq_true h4], trivial⟩).mono ?_
     rintro e s ⟨rfl, t3, rfl, hl3⟩
     exact .inl (QT_of hl3)
    rw [if_neg h4] at hT
    refine (path2 [0, 1, 5] (e := .normal) (vals := [.str a, .str b, .int .i64 (IntKind.i64.wrap ((i : Int) + 1))]) (h' := h) (ds := [.b true, .b true, .f (.int .u8 x.toNat), .f (.int .u8 y.toNat), .b false, .f (.int .u8 x.toNat), .f (.int .u8 y.toNat), .b false])
      (cs := [some (AV.bool (decide ((i : Int) < (a.length : Int)))) = some (.bool true), some (AV.bool (decide ((i : Int) < (b.length : Int)))) = some (.bool true), (if 0 ≤ (i : Int) then (a[(i : Int).toNat]?).map (fun b => AV.int .u8 b.toNat) else none) = some (.int .u8 x.toNat), (if 0 ≤ (i : Int) then (b[(i : Int).toNat]?).map (fun b => AV.int .u8 b.toNat) else none) = some (.int .u8 y.toNat), some (AV.bool (decide ((x.toNat : Int) < (y.toNat : Int)))) = some (.bool false),
       (if 0 ≤ (i : Int) then (a[(i : Int).toNat]?).map (fun b => AV.int .u8 b.toNat) else none) = some (.int .u8 x.toNat), (if 0 ≤ (i : Int) then (b[(i : Int).toNat]?).map (fun b => AV.int .u8 b.toNat) else none) = some (.int .u8 y.toNat), some (AV.bool (decide ((x.toNat : Int) > (y.toNat : Int)))) = some (.bool false)]) hl (fun t0 => by kernel_rfl) ⟨c1, c2, c3, c4, by rw [decide_eq_false h3], c3, c4, by rw [decide_eq_false h4], trivial⟩).mono ?_
    rintro e s ⟨rfl, t3, rfl, hl3⟩
    rw [i64_succ (by omega) (by omega)] at hl3
    exact ⟨a.length - (i + 1), by omega, i + 1, t3, rfl, rfl, by omega, by omega, hl3, hT⟩
   ·refine (path2 [0, 1] (e := .exit 0) (vals := [.str a, .str b]) (h' := h) (ds := [.b true, .b false])
      (cs := [some (AV.bool (decide ((i : Int) < (a.length : Int)))) = some (.bool true), some (AV.bool (decide ((i : Int) < (b.length : Int)))) = some (.bool false)]) hl (fun t0 => by kernel_rfl) ⟨by simp; omega, by simp; omega, trivial⟩).mono ?_
    rintro e s ⟨rfl, t3, rfl, hl3⟩
    exact .inr ⟨rfl, i, t3, rfl, hl3, by omega, hi, hi2, hT⟩
  ·refine (path2 [0, 1] (e := .exit 0) (vals := [.str a, .str b]) (h' := h) (ds := [.b false])
      (cs := [some (AV.bool (decide ((i : Int) < (a.length : Int)))) = some (.bool false)]) hl (fun t0 => by kernel_rfl) ⟨by simp; omega, trivial⟩).mono ?_
   rintro e s ⟨rfl, t3, rfl, hl3⟩
   exact .inr ⟨rfl, i, t3, rfl, hl3, by omega, hi, hi2, hT⟩
 ·rintro e s (h1 | ⟨rfl, i, t3, rfl, hl3, hi, hia, hib, hT⟩)
  ·obtain ⟨rfl, h2⟩ := h1
   exact ⟨rfl, h2⟩
  ·by_cases h1 : (a.length : Int) < b.length
   ·have e : texts a b = -1 := by
     rw [← hT, List.drop_of_length_le (show a.length ≤ i by omega), List.drop_eq_getElem_cons (show i < b.length by omega)]
     rfl
    rw [e]
    refine (path2 [4] (e := .ret) (vals := [.int .i64 (-1)]) (h' := h) (ds := [.b true]) (cs := [some (AV.bool (decide ((a.length : Int) < (b.length : Int)))) = some (.bool true)]) hl3 (fun t0 => by kernel_rfl) ⟨by rw [decide_eq_true h1], trivial⟩).mono ?_
    rintro e s ⟨rfl, t4, rfl, hl4⟩
    exact QT_of hl4
   by_cases h2 : (a.length : Int) > b.length
   ·have e : texts a b = 1 := by
     rw [← hT, List.drop_of_length_le (show b.length ≤ i by omega), List.drop_eq_getElem_cons (show i < a.length by omega)]
     rfl
    rw [e]
    refine (path2 [4] (e := .ret) (vals := [.int .i64 1]) (h' := h) (ds := [.b false, .b true]) (cs := [some (AV.bool (decide ((a.length : Int) < (b.length : Int)))) = some (.bool false), some (AV.bool (decide ((a.length : Int) > (b.length : Int)))) = some (.bool true)]) hl3 (fun t0 => by kernel_rfl) ⟨by rw [decide_eq_false h1], by rw [decide_eq_true h2], trivial⟩).mono ?_
    rintro e s ⟨rfl, t4, rfl, hl4⟩
    exact QT_of hl4
   ·have e : texts a b = 0 := by
     rw [← hT, List.drop_of_length_le (show a.length ≤ i by omega), List.drop_of_length_le (show b.length ≤ i by omega)]
     rfl
    rw [e]
    refine (path2 [4] (e := .ret) (vals := [.int .i64 0]) (h' := h) (ds := [.b false, .b false]) (cs := [some (AV.bool (decide ((a.length : Int) < (b.length : Int)))) = some (.bool false), some (AV.bool (decide ((a.length : Int) > (b.length : Int)))) = some (.bool false)]) hl3 (fun t0 => by kernel_rfl) ⟨by rw [decide_eq_false h1], by rw [decide_eq_false h2], trivial⟩).mono ?_
    rintro e s ⟨rfl, t4, rfl, hl4⟩
    exact QT_of hl4
end
def OkStr (v : Val) : Prop := v.2.2.length ≤ 9223372036854775807
def cmpVal (a b : Val) : Int :=
 if !goodVal a then 0 else if !goodVal b then 0 else if a.1 ≠ b.1 then (if a.1 = 1 then -1 else 1) else if a.1 = 2 then texts a.2.2 b.2.2 else if a.2.1 < b.2.1 then -1 else if a.2.1 > b.2.1 then 1 else 0
abbrev h2 (a b : Val) : List Blk := [.cells [.int .i64 a.1, .int .i64 a.2.1, .str a.2.2], .cells [.int .i64 b.1, .int .i64 b.2.1, .str b.2.2]]
theorem compare_cl {a b : Val} (ha : OkStr a) (hb : OkStr b) : Cl G1 T 20 [vV a, vV b] [] (.int .i64 (cmpVal a b), h2 a b, none) := by
 have ga := good1 a (h2 a b)
 have gb := good1 b (h2 a b)
 have tx := texts_cl (Γ := G1) (by kernel_rfl) ha hb (h2 a b)
 cases hga : goodVal a with
 | false =>
  rw [hga] at ga
  rw [show cmpVal a b = 0 by simp [cmpVal, hga]]
  exact clPath (af := a20) (ds := [.r (.bool false) (h2 a b) none]) [Cl G1 T 36 [vV a] (h2 a b) (.bool false, h2 a b, none)] (by kernel_rfl) (by kernel_rfl) rfl (by kernel_rfl) ⟨ga, trivial⟩
 | true =>
  rw [hga] at ga
  cases hgb : goodVal b with
  | false =>
   rw [hgb] at gb
   rw [show cmpVal a b = 0 by simp [cmpVal, hga, hgb]]
   exact clPath (af := a20) (ds := [.r (.bool true) (h2 a b) none, .r (.bool false) (h2 a b) none]) [Cl G1 T 36 [vV a] (h2 a b) (.bool true, h2 a b, none), Cl G1 T 36 [vV b] (h2 a b) (.bool false, h2 a b, none)] (by kernel_rfl) (by kernel_rfl) rfl (by kernel_rfl) ⟨ga, gb, trivial⟩
  | true =>
   rw [hgb] at gb
   by_cases h1 : a.1 = b.1
   ·by_cases h3 : a.1 = 2
    ·rw [show cmpVal a b = texts a.2.2 b.2.2 by simp [cmpVal, hga, hgb, h1.symm, h3]]
     exact clPath (af := a20) (ds := [.r (.bool true) (h2 a b) none, .r (.bool true) (h2 a b) none, .b false, .b true, .r (.int .i64 (texts a.2.2 b.2.2)) (h2 a b) none]) [Cl G1 T 36 [vV a] (h2 a b) (.bool true, h2 a b, none), Cl G1 T 36 [vV b] (h2 a b) (.bool true, h2 a b, none), some (AV.bool (a.1 != b.1)) = some (.bool false), some (AV.bool (a.1 == 2)) = some (.bool true), Cl G1 T 37 [.str a.2.2, .str b.2.2] (h2 a b) (.int .i64 (texts a.2.2 b.2.2), h2 a b, none)] (by kernel_rfl) (by kernel_rfl) rfl (by kernel_rfl) ⟨ga, gb, by simp [h1], by simp [h3], tx, trivial⟩
    ·by_cases h4 : a.2.1 < b.2.1
     ·rw [show cmpVal a b = -1 by simp [cmpVal, hga, hgb, h1.symm, h3, h4]]
      exact clPath (af := a20) (ds := [.r (.bool true) (h2 a b) none, .r (.bool true) (h2 a b) none, .b false, .b false, .b true]) [Cl G1 T 36 [vV a] (h2 a b) (.bool true, h2 a b, none), Cl G1 T 36 [vV b] (h2 a b) (.bool true, h2 a b, none), some (AV.bool (a.1 != b.1)) = some (.bool false), some (AV.bool (a.1 == 2)) = some (.bool false), some (AV.bool (decide (a.2.1 < b.2.1))) = some (.bool true)] (by kernel_rfl) (by kernel_rfl) rfl (by kernel_rfl) ⟨ga, gb, by simp [h1], by simp [h3], by simp [h4], trivial⟩
     ·by_cases h5 : a.2.1 > b.2.1
      ·rw [show cmpVal a b = 1 by simp [cmpVal, hga, hgb, h1.symm, h3, h4, h5]]
       exact clPath (af := a20) (ds := [.r (.bool true) (h2 a b) none, .r (.bool true) (h2 a b) none, .b false, .b false, .b false, .b true]) [Cl G1 T 36 [vV a] (h2 a b) (.bool true, h2 a b, none), Cl G1 T 36 [vV b] (h2 a b) (.bool true, h2 a b, none), some (AV.bool (a.1 != b.1)) = some (.bool false), some (AV.bool (a.1 == 2)) = some (.bool false), some (AV.bool (decide (a.2.1 < b.2.1))) = some (.bool false), some (AV.bool (decide (a.2.1 > b.2.1))) = some (.bool true)] (by kernel_rfl) (by kernel_rfl) rfl (by kernel_rfl) ⟨ga, gb, by simp [h1], by simp [h3], by simp [h4], by simp [h5], trivial⟩
      ·rw [show cmpVal a b = 0 by simp [cmpVal, hga, hgb, h1.symm, h3, h4, h5]]
       exact clPath (af := a20) (ds := [.r (.bool true) (h2 a b) none, .r (.bool true) (h2 a b) none, .b false, .b false, .b false, .b false]) [Cl G1 T 36 [vV a] (h2 a b) (.bool true, h2 a b, none), Cl G1 T 36 [vV b] (h2 a b) (.bool true, h2 a b, none), some (AV.bool (a.1 != b.1)) = some (.bool false), some (AV.bool (a.1 == 2)) = some (.bool false), some (AV.bool (decide (a.2.1 < b.2.1))) = some (.bool false), some (AV.bool (decide (a.2.1 > b.2.1))) = some (.bool false)] (by kernel_rfl) (by kernel_rfl) rfl (by kernel_rfl) ⟨ga, gb, by simp [h1], by simp [h3], by simp [h4], by simp [h5], trivial⟩
   ·by_cases h3 : a.1 = 1
    ·rw [show cmpVal a b = -1 by simp [cmpVal, hga, hgb, h1, h3]; intro h; exact absurd (h3.trans h) h1]
     exact clPath (af := a20) (ds := [.r (.bool true) (h2 a b) none, .r (.bool true) (h2 a b) none, .b true, .b true]) [Cl G1 T 36 [vV a] (h2 a b) (.bool true, h2 a b, none), Cl G1 T 36 [vV b] (h2 a b) (.bool true, h2 a b, none), some (AV.bool (a.1 != b.1)) = some (.bool true), some (AV.bool (a.1 == 1)) = some (.bool true)] (by kernel_rfl) (by kernel_rfl) rfl (by kernel_rfl) ⟨ga, gb, by simp [h1], by simp [h3], trivial⟩
    ·rw [show cmpVal a b = 1 by simp [cmpVal, hga, hgb, h1, h3]]
     exact clPath (af := a20) (ds := [.r (.bool true) (h2 a b) none, .r (.bool true) (h2 a b) none, .b true, .b false]) [Cl G1 T 36 [vV a] (h2 a b) (.bool true, h2 a b, none), Cl G1 T 36 [vV b] (h2 a b) (.bool true, h2 a b, none), some (AV.bool (a.1 != b.1)) = some (.bool true), some (AV.bool (a.1 == 1)) = some (.bool false)] (by kernel_rfl) (by kernel_rfl) rfl (by kernel_rfl) ⟨ga, gb, by simp [h1], by simp [h3], trivial⟩
open Go
abbrev tV (c : List Int) : AV := .agg [.ro (c.map iV) 1 false]
abbrev rV (row : List Val) : AV := .ro (row.map vV) 3 false
abbrev pA (T : List (List Int)) (vs : AV) : AV := .agg [.ro (T.map tV) 1 false, vs]
abbrev pH (T : List (List Int)) (vs : AV) : Blk := .cells [.ro (T.map tV) 1 false, vs]
def fitsRow : List Int → List Val → Bool
 | [], [] => true
 | k :: c, v :: r => decide (v.1 = k) && (goodVal v && fitsRow c r)
 | _, _ => false
def fitsB (T : List (List Int)) (t : Int) (row : List Val) : Bool := if t < 0 then false else match T[t.toNat]? with
 | some c => fitsRow c row
 | none => false
theorem fitsRow_len : ∀ {c : List Int} {r : List Val}, fitsRow c r = true → r.length = c.length
 | [], [], _ => rfl
 | k :: c, v :: r, h => by
  rw [fitsRow, Bool.and_eq_true, Bool.and_eq_true] at h
  simp [fitsRow_len h.2.2]
 | [], _ :: _, h => by cases h
 | _ :: _, [], h => by cases h
def QF (r : Bool) (h : List Blk) (e : AExit) (s : St) : Prop := e = .ret ∧ s.lo = none ∧ getX s.t 6 = .bool r ∧ s.h = h
theorem QF_of {t : List AV} {h : List Blk} {r : Bool} (hl : Lv 58 [(6, .bool r)] t) : QF r h .ret { t := t, h := h, lo := none } := ⟨rfl, rfl, hl.get _ (List.mem_singleton.2 rfl), rfl⟩
theorem fits_cl {T : List (List Int)} {vs : AV} {t : Int} {row : List Val} (hT : T.length ≤ 9223372036854775807) (hr : row.length ≤ 9223372036854775807) : Cl G1 Ax.T 19 [pA T vs, .int .i64 t, rV row] [] (.bool (fitsB T t row), [pH T vs], none) := by
 suffices hw : Wp G1 Ax.T a19.body { t := [pA T vs, .int .i64 t, rV row] ++ List.replicate 55 (.tup []), h := [] } (QF (fitsB T t row) [pH T vs]) by
  obtain ⟨r, h', ⟨rfl, rfl⟩, hc⟩ := Cl.slot (Γ := G1) (tbl := Ax.T) (af := a19) (args := [pA T vs, .int .i64 t, rV row]) (h := []) (by kernel_rfl) (by kernel_rfl) rfl rfl (fun r h' => r = .bool (fitsB T t row) ∧ h' = [pH T vs]) hw
  exact hc
 refine Wp.seq ?_
 refine (path2 (nt := 58) (live := [(0, pA T vs), (1, .int .i64 t), (2, rV row)]) [1, 2, 3] (e := .normal) (vals := [.int .i64 t, rV row, .ptr 0 0]) (h' := [pH T vs]) (ds := []) (cs := []) ⟨by simp, by simp [getX_eq]⟩ (fun t0 => by kernel_rfl) trivial).mono ?_
 rintro e s ⟨rfl, t1, rfl, hl1⟩
 refine Wp.seq ?_
 by_cases h1 : t < 0
 ·rw [show fitsB T t row = false by simp [fitsB, h1]]
  refine (path2 [6] (e := .ret) (vals := [.bool false]) (h' := [pH T vs]) (ds := [.b true]) (cs := [cB (decide (t < 0)) true]) hl1 (fun t0 => by kernel_rfl) ⟨cT h1, trivial⟩).mono ?_
  rintro e s ⟨rfl, t3, rfl, hl3⟩
  exact QF_of hl3
 by_cases h2 : t ≥ ((T.map tV).length : Int)
 ·have h2' := h2
  rw [List.length_map] at h2'
  rw [show fitsB T t row = false by simp [fitsB, h1, List.getElem?_eq_none (show T.length ≤ t.toNat by omega)]]
  refine (path2 [6] (e := .ret) (vals := [.bool false]) (h' := [pH T vs]) (ds := [.b false, .b true]) (cs := [cB (decide (t < 0)) false, cB (decide (t ≥ ((T.map tV).length : Int))) true]) hl1 (fun t0 => by kernel_rfl) ⟨cF h1, cT h2, trivial⟩).mono ?_
  rintro e s ⟨rfl, t3, rfl, hl3⟩
  exact QF_of hl3
 have h2' : t.toNat < T.length := by rw [List.length_map] at h2; omega
 have hc := List.getElem?_eq_getElem h2'
 generalize T[t.toNat] = c at hc
 have hfb : fitsB T t row = fitsRow c row := by simp [fitsB, h1, hc]
 have c2 : (T.map tV)[t.toNat]? = some (tV c) := by simp [hc]
 have c2l : t < ((T.map tV).length : Int) := by omega
 rw [hfb]
 by_cases h3 : ((row.map vV).length : Int) = ((c.map iV).length : Int)
 case neg =>
  rw [show fitsRow c row = false by
   cases hx : fitsRow c row with
   | false => rfl
   | true => have := fitsRow_len hx; simp at h3; omega]
  refine (path2 [6] (e := .ret) (vals := [.bool false]) (h' := [pH T vs]) (ds := [.b false, .b false, .v (tV c), .b true]) (cs := [cB (decide (t < 0)) false, cB (decide (t ≥ ((T.map tV).length : Int))) false, 1 = 1, 0 ≤ t, t < ((T.map tV).length : Int), (T.map tV)[t.toNat]? = some (tV c), cB (((row.map vV).length : Int) != ((c.map iV).length : Int)) true]) hl1 (fun t0 => by kernel_rfl) ⟨cF h1, cF h2, rfl, by omega, c2l, c2, cD h3, trivial⟩).mono ?_
  rintro e s ⟨rfl, t3, rfl, hl3⟩
  exact QF_of hl3
 refine (path2 [1, 2, 3] (e := .normal) (vals := [.int .i64 t, rV row, .ptr 0 0]) (h' := [pH T vs]) (ds := [.b false, .b false, .v (tV c), .b false]) (cs := [cB (decide (t < 0)) false, cB (decide (t ≥ ((T.map tV).length : Int))) false, 1 = 1, 0 ≤ t, t < ((T.map tV).length : Int), (T.map tV)[t.toNat]? = some (tV c), cB (((row.map vV).length : Int) != ((c.map iV).length : Int)) false]) hl1 (fun t0 => by kernel_rfl) ⟨cF h1, cF h2, rfl, by omega, c2l, c2, cS h3, trivial⟩).mono ?_
 rintro e s ⟨rfl, t2, rfl, hl2⟩
 have hlen : row.length = c.length := by simp at h3; omega
 refine Wp.seq (Wp.seq ?_)
 refine (path2 [1, 2, 3, 7] (e := .normal) (vals := [.int .i64 t, rV row, .ptr 0 0, .int .i64 0]) (h' := [pH T vs]) (ds := []) (cs := []) hl2 (fun t0 => by kernel_rfl) trivial).mono ?_
 rintro e s ⟨rfl, t3, rfl, hl3⟩
 refine Wp.block ?_
 refine (Wp.loop (Q := fun e s => QF (fitsRow c row) [pH T vs] e s ∨ (e = .exit 0 ∧ fitsRow c row = true ∧ ∃ t, s = { t := t, h := [pH T vs], lo := none } ∧ t.length = 58)) (fun k s => ∃ (i : Nat) (t1 : List AV), s = { t := t1, h := [pH T vs], lo := none } ∧ k = row.length - i ∧ i ≤ row.length ∧ Lv 58 [(1, .int .i64 t), (2, rV row), (3, .ptr 0 0), (7, .int .i64 (i : Int))] t1 ∧ fitsRow (c.drop i) (row.drop i) = fitsRow c row) ?_ row.length _ ⟨0, t3, rfl, by omega, by omega, hl3, rfl⟩).mono ?_
 ·rintro k s ⟨i, t1, rfl, rfl, hi, hl, hF⟩
  by_cases hlt : i < row.length
  ·have hli : i < c.length := by omega
   have e1 := List.getElem?_eq_getElem hlt
   have e2 := List.getElem?_eq_getElem hli
   rw [List.drop_eq_getElem_cons hlt, List.drop_eq_getElem_cons hli, fitsRow] at hF
   generalize row[i] = v at e1 hF
   generalize c[i] = kd at e2 hF
   have g1 : (i : Int) < ((row.map vV).length : Int) := by simp; omega
   have g2 : (row.map vV)[(i : Int).toNat]? = some (vV v) := by simp [e1]
   have g3 : (i : Int) < ((c.map iV).length : Int) := by simp; omega
   have g4 : (c.map iV)[(i : Int).toNat]? = some (iV kd) := by simp [e2]
   by_cases h4 : v.1 = kd
   ·have hg := good1 v [pH T vs]
    cases h5 : goodVal v with
    | false =>
     rw [h5] at hg hF
     rw [show fitsRow c row = false by rw [← hF]; simp]
     refine (path2 [6] (e := .ret) (vals := [.bool false]) (h' := [pH T vs]) (ds := [.b true, .v (vV v), .v (tV c), .v (iV kd), .b false, .v (vV v), .r (.bool false) [pH T vs] none])
      (cs := [cB (decide ((i : Int) < ((row.map vV).length : Int))) true, 3 = 3, 0 ≤ (i : Int), (i : Int) < ((row.map vV).length : Int), (row.map vV)[(i : Int).toNat]? = some (vV v), 1 = 1, 0 ≤ t, t < ((T.map tV).length : Int), (T.map tV)[t.toNat]? = some (tV c), 1 = 1, 0 ≤ (i : Int), (i : Int) < ((c.map iV).length : Int), (c.map iV)[(i : Int).toNat]? = some (iV kd), cB (v.1 != kd) false,
       3 = 3, 0 ≤ (i : Int), (i : Int) < ((row.map vV).length : Int), (row.map vV)[(i : Int).toNat]? = some (vV v), Cl G1 Ax.T 36 [vV v] [pH T vs] (.bool false, [pH T vs], none)]) hl (fun t0 => by kernel_rfl)
      ⟨cT g1, rfl, by omega, g1, g2, rfl, by omega, c2l, c2, rfl, by omega, g3, g4, cS h4, rfl, by omega, g1, g2, hg, trivial⟩).mono ?_
     rintro e s ⟨rfl, t3, rfl, hl3⟩
     exact .inl (QF_of hl3)
    | true =>
     rw [h5] at hg hF
     refine (path2 [1, 2, 3, 7] (e := .normal) (vals := [.int .i64 t, rV row, .ptr 0 0, .int .i64 (IntKind.i64.wrap ((i : Int) + 1))]) (h' := [pH T vs]) (ds := [.b true, .v (vV v), .v (tV c), .v (iV kd), .b false, .v (vV v), .r (.bool true) [pH T vs] none])
      (cs := [cB (decide ((i : Int) < ((row.map vV).length : Int))) true, 3 = 3, 0 ≤ (i : Int), (i : Int) < ((row.map vV).length : Int), (row.map vV)[(i : Int).toNat]? = some (vV v), 1 = 1, 0 ≤ t, t < ((T.map tV).length : Int), (T.map tV)[t.toNat]? = some (tV c), 1 = 1, 0 ≤ (i : Int), (i : Int) < ((c.map iV).length : Int), (c.map iV)[(i : Int).toNat]? = some (iV kd), cB (v.1 != kd) false,
       3 = 3, 0 ≤ (i : Int), (i : Int) < ((row.map vV).length : Int), (row.map vV)[(i : Int).toNat]? = some (vV v), Cl G1 Ax.T 36 [vV v] [pH T vs] (.bool true, [pH T vs], none)]) hl (fun t0 => by kernel_rfl)
      ⟨cT g1, rfl, by omega, g1, g2, rfl, by omega, c2l, c2, rfl, by omega, g3, g4, cS h4, rfl, by omega, g1, g2, hg, trivial⟩).mono ?_
     rintro e s ⟨rfl, t3, rfl, hl3⟩
     rw [i64_succ (by omega) (by omega)] at hl3
     exact ⟨row.length - (i + 1), by omega, i + 1, t3, rfl, rfl, by omega, hl3, by rw [← hF]; simp [h4]⟩
   ·rw [show fitsRow c row = false by rw [← hF]; simp [h4]]
    refine (path2 [6] (e := .ret) (vals := [.bool false]) (h' := [pH T vs]) (ds := [.b true, .v (vV v), .v (tV c), .v (iV kd), .b true])
     (cs := [cB (decide ((i : Int) < ((row.map vV).length : Int))) true, 3 = 3, 0 ≤ (i : Int), (i : Int) < ((row.map vV).length : Int), (row.map vV)[(i : Int).toNat]? = some (vV v), 1 = 1, 0 ≤ t, t < ((T.map tV).length : Int), (T.map tV)[t.toNat]? = some (tV c), 1 = 1, 0 ≤ (i : Int), (i : Int) < ((c.map iV).length : Int), (c.map iV)[(i : Int).toNat]? = some (iV kd), cB (v.1 != kd) true]) hl (fun t0 => by kernel_rfl)
     ⟨cT g1, rfl, by omega, g1, g2, rfl, by omega, c2l, c2, rfl, by omega, g3, g4, cD h4, trivial⟩).mono ?_
    rintro e s ⟨rfl, t3, rfl, hl3⟩
    exact .inl (QF_of hl3)
  ·have hend : fitsRow c row = true := by
    rw [← hF, List.drop_of_length_le (show row.length ≤ i by omega), List.drop_of_length_le (show c.length ≤ i by omega)]
    rfl
   refine (path2 [2] (e := .exit 0) (vals := [rV row]) (h' := [pH T vs]) (ds := [.b false]) (cs := [cB (decide ((i : Int) < ((row.map vV).length : Int))) false]) hl (fun t0 => by kernel_rfl) ⟨cF (by simp; omega), trivial⟩).mono ?_
   rintro e s ⟨rfl, t3, rfl, hl3⟩
   exact .inr ⟨rfl, hend, t3, rfl, hl3.len⟩
 ·rintro e s (h1 | ⟨rfl, hend, t3, rfl, hl3⟩)
  ·obtain ⟨rfl, h2⟩ := h1
   exact ⟨rfl, h2⟩
  ·rw [hend]
   refine (path2 (nt := 58) (live := []) [6] (e := .ret) (vals := [.bool true]) (h' := [pH T vs]) (ds := []) (cs := []) ⟨hl3, by simp⟩ (fun t0 => by kernel_rfl) trivial).mono ?_
   rintro e s ⟨rfl, t4, rfl, hl4⟩
   exact QF_of hl4
end Go.Proofs.Ytfkkeddjfiljfaa.AM.Ax
