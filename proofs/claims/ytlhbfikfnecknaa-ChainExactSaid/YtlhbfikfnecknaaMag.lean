/-
  'gauger's law ChainExact holds of every input: it returns true, and each argument reads behind the call as it read before.
  This text: part 7 of 14 of the proof (Ch0, Ch, ChA).
-/
import Derived.Test.YtlhbfikfnecknaaMae
import Derived.Test.YtlhbfikfnecknaaProg
import Derived.KernelRfl
import Derived.Test.YtlhbfikfnecknaaMaf
set_option maxRecDepth 100000
set_option linter.unusedVariables false
set_option linter.unusedSimpArgs false
namespace Go.Proofs.Ytlhbfikfnecknaa.AM.Ch
open Go
abbrev o_ (d : Nat) (i : AOp) : AOper := ⟨some d, i, none, 0, 0⟩
def a3 : AFunc := ⟨142, (.seq (.reg [o_ 2 (.mv (.c (.bool false)))])
 (.seq (.seq (.reg [o_ 9 (.call (.c (.fn (.func 4) [] [])) []), o_ 10 (.un .not (.t 9))])
 (.cond (.t 10) (.seq (.reg [o_ 2 (.mv (.c (.bool false)))])
  .ret)
  (.skip)))
 (.seq (.seq (.reg [o_ 11 (.mv (.t 0)), o_ 12 (.len 1 (.t 11)), o_ 13 (.bin .gtr (.t 12) (.c (.int .i64 40)))])
 (.cond (.t 13) (.seq (.reg [o_ 2 (.mv (.c (.bool true)))])
  .ret)
  (.skip)))
 (.seq (.reg [o_ 14 (.buildSl [(.int .i64 0), (.int .i64 0), (.int .i64 0), (.int .i64 0), .nils, (.int .i64 0), (.int .i64 0), (.str []), (.str []), .nils, .nils] 0 []), o_ 3 (.mv (.t 14))])
 (.seq (.reg [o_ 15 (.buildSl [(.int .i64 0)] 0 []), o_ 4 (.mv (.t 15))])
 (.seq (.seq (.reg [o_ 5 (.mv (.c (.int .i64 0)))])
 (.block 0 (.loop (.seq (.seq (.reg [o_ 16 (.mv (.t 5)), o_ 17 (.mv (.t 0)), o_ 18 (.len 1 (.t 17)), o_ 19 (.bin .lss (.t 16) (.t 18))])
  (.cond (.t 19) (.skip)
   (.exit 0)))
  (.seq (.block 1 (.seq (.seq (.reg [o_ 22 (.mv (.t 0)), o_ 23 (.mv (.t 5)), o_ 24 (.idxAddr 12 (.t 22) (.t 23)), o_ 25 (.fieldAddr 1 (.t 24)), o_ 26 (.load (some 11) (.t 25)), o_ 27 (.call (.c (.fn (.func 5) [] [])) [(.t 26)])])
  (.cond (.t 27) (.seq (.reg [o_ 2 (.mv (.c (.bool true)))])
   .ret)
   (.skip)))
  (.seq (.reg [o_ 28 (.mv (.t 3)), o_ 29 (.mv (.t 0)), o_ 30 (.mv (.t 5)), o_ 31 (.idxAddr 12 (.t 29) (.t 30)), o_ 32 (.fieldAddr 1 (.t 31)), o_ 33 (.load (some 11) (.t 32)), o_ 34 (.buildSl [(.int .i64 0), (.int .i64 0), (.int .i64 0), (.int .i64 0), .nils, (.int .i64 0), (.int .i64 0), (.str []), (.str []), .nils, .nils] 1 [(0, (.t 33))]), o_ 35 (.append 11 152 (.t 28) (.t 34)), o_ 3 (.mv (.t 35))])
  (.reg [o_ 36 (.mv (.t 4)), o_ 37 (.mv (.t 0)), o_ 38 (.mv (.t 5)), o_ 39 (.idxAddr 12 (.t 37) (.t 38)), o_ 40 (.fieldAddr 0 (.t 39)), o_ 41 (.load none (.t 40)), o_ 42 (.buildSl [(.int .i64 0)] 1 [(0, (.t 41))]), o_ 43 (.append 1 8 (.t 36) (.t 42)), o_ 4 (.mv (.t 43))]))))
  (.reg [o_ 20 (.mv (.t 5)), o_ 21 (.bin .add (.t 20) (.c (.int .i64 1))), o_ 5 (.mv (.t 21))]))))))
 (.seq (.reg [o_ 44 (.mv (.t 0)), o_ 45 (.call (.c (.fn (.func 6) [] [])) [(.t 44)]), o_ 6 (.mv (.t 45))])
 (.seq (.reg [o_ 46 (.mv (.t 3)), o_ 47 (.mv (.t 4)), o_ 48 (.call (.c (.fn (.func 7) [] [])) [(.t 46), (.t 47)]), o_ 7 (.mv (.t 48))])
 (.seq (.seq (.reg [o_ 49 (.mv (.t 6)), o_ 50 (.len 1 (.t 49)), o_ 51 (.mv (.t 7)), o_ 52 (.len 1 (.t 51)), o_ 53 (.bin .neq (.t 50) (.t 52))])
 (.cond (.t 53) (.seq (.reg [o_ 2 (.mv (.c (.bool false)))])
  .ret)
  (.skip)))
 (.seq (.seq (.reg [o_ 8 (.mv (.c (.int .i64 0)))])
 (.block 2 (.loop (.seq (.seq (.reg [o_ 54 (.mv (.t 8)), o_ 55 (.mv (.t 6)), o_ 56 (.len 1 (.t 55)), o_ 57 (.bin .lss (.t 54) (.t 56))])
  (.cond (.t 57) (.skip)
   (.exit 2)))
  (.seq (.block 3 (.seq (.dreg [o_ 60 (.mv (.t 6)), o_ 61 (.mv (.t 8)), o_ 62 (.idxAddr 6 (.t 60) (.t 61)), o_ 63 (.fieldAddr 0 (.t 62)), o_ 64 (.load none (.t 63)), o_ 65 (.mv (.t 7)), o_ 66 (.mv (.t 8)), o_ 67 (.idxAddr 6 (.t 65) (.t 66)), o_ 68 (.fieldAddr 0 (.t 67)), o_ 69 (.load none (.t 68)), o_ 70 (.bin .neq (.t 64) (.t 69)), o_ 71 (.mv (.t 70)), ⟨some 72, .mv (.t 6), (some (71, false)), 0, 0⟩, ⟨some 73, .mv (.t 8), (some (71, false)), 0, 0⟩, ⟨some 74, .idxAddr 6 (.t 72) (.t 73), (some (71, false)), 0, 0⟩, ⟨some 75, .fieldAddr 1 (.t 74), (some (71, false)), 0, 0⟩, ⟨some 76, .load none (.t 75), (some (71, false)), 0, 0⟩, ⟨some 77, .mv (.t 7), (some (71, false)), 0, 0⟩, ⟨some 78, .mv (.t 8), (some (71, false)), 0, 0⟩, ⟨some 79, .idxAddr 6 (.t 77) (.t 78), (some (71, false)), 0, 0⟩, ⟨some 80, .fieldAddr 1 (.t 79), (some (71, false)), 0, 0⟩, ⟨some 81, .load none (.t 80), (some (71, false)), 0, 0⟩, ⟨some 82, .bin .neq (.t 76) (.t 81), (some (71, false)), 0, 0⟩, o_ 83 (.pick (.t 71) (.c (.bool true)) (.t 82)), o_ 84 (.mv (.t 83)), ⟨some 85, .mv (.t 6), (some (84, false)), 0, 0⟩, ⟨some 86, .mv (.t 8), (some (84, false)), 0, 0⟩, ⟨some 87, .idxAddr 6 (.t 85) (.t 86), (some (84, false)), 0, 0⟩, ⟨some 88, .fieldAddr 2 (.t 87), (some (84, false)), 0, 0⟩, ⟨some 89, .load none (.t 88), (some (84, false)), 0, 0⟩, ⟨some 90, .mv (.t 7), (some (84, false)), 0, 0⟩, ⟨some 91, .mv (.t 8), (some (84, false)), 0, 0⟩, ⟨some 92, .idxAddr 6 (.t 90) (.t 91), (some (84, false)), 0, 0⟩, ⟨some 93, .fieldAddr 2 (.t 92), (some (84, false)), 0, 0⟩, ⟨some 94, .load none (.t 93), (some (84, false)), 0, 0⟩, ⟨some 95, .bin .neq (.t 89) (.t 94), (some (84, false)), 0, 0⟩, o_ 96 (.pick (.t 84) (.c (.bool true)) (.t 95)), o_ 97 (.mv (.t 96)), ⟨some 98, .mv (.t 6), (some (97, false)), 0, 0⟩, ⟨some 99, .mv (.t 8), (some (97, false)), 0, 0⟩, ⟨some 100, .idxAddr 6 (.t 98) (.t 99), (some (97, false)), 0, 0⟩, ⟨some 101, .fieldAddr 3 (.t 100), (some (97, false)), 0, 0⟩, ⟨some 102, .load none (.t 101), (some (97, false)), 0, 0⟩, ⟨some 103, .mv (.t 7), (some (97, false)), 0, 0⟩, ⟨some 104, .mv (.t 8), (some (97, false)), 0, 0⟩, ⟨some 105, .idxAddr 6 (.t 103) (.t 104), (some (97, false)), 0, 0⟩, ⟨some 106, .fieldAddr 3 (.t 105), (some (97, false)), 0, 0⟩, ⟨some 107, .load none (.t 106), (some (97, false)), 0, 0⟩, ⟨some 108, .bin .neq (.t 102) (.t 107), (some (97, false)), 0, 0⟩, o_ 109 (.pick (.t 97) (.c (.bool true)) (.t 108)), o_ 110 (.mv (.t 109)), ⟨some 111, .mv (.t 6), (some (110, false)), 0, 0⟩, ⟨some 112, .mv (.t 8), (some (110, false)), 0, 0⟩, ⟨some 113, .idxAddr 6 (.t 111) (.t 112), (some (110, false)), 0, 0⟩, ⟨some 114, .fieldAddr 4 (.t 113), (some (110, false)), 0, 0⟩, ⟨some 115, .load none (.t 114), (some (110, false)), 0, 0⟩, ⟨some 116, .mv (.t 7), (some (110, false)), 0, 0⟩, ⟨some 117, .mv (.t 8), (some (110, false)), 0, 0⟩, ⟨some 118, .idxAddr 6 (.t 116) (.t 117), (some (110, false)), 0, 0⟩, ⟨some 119, .fieldAddr 4 (.t 118), (some (110, false)), 0, 0⟩, ⟨some 120, .load none (.t 119), (some (110, false)), 0, 0⟩, ⟨some 121, .bin .neq (.t 115) (.t 120), (some (110, false)), 0, 0⟩, o_ 122 (.pick (.t 110) (.c (.bool true)) (.t 121)), o_ 123 (.mv (.t 122)), ⟨some 124, .mv (.t 6), (some (123, false)), 0, 0⟩, ⟨some 125, .mv (.t 8), (some (123, false)), 0, 0⟩, ⟨some 126, .idxAddr 6 (.t 124) (.t 125), (some (123, false)), 0, 0⟩, ⟨some 127, .fieldAddr 5 (.t 126), (some (123, false)), 0, 0⟩, ⟨some 128, .load none (.t 127), (some (123, false)), 0, 0⟩, ⟨some 129, .mv (.t 7), (some (123, false)), 0, 0⟩, ⟨some 130, .mv (.t 8), (some (123, false)), 0, 0⟩, ⟨some 131, .idxAddr 6 (.t 129) (.t 130), (some (123, false)), 0, 0⟩, ⟨some 132, .fieldAddr 5 (.t 131), (some (123, false)), 0, 0⟩, ⟨some 133, .load none (.t 132), (some (123, false)), 0, 0⟩, ⟨some 134, .bin .neq (.t 128) (.t 133), (some (123, false)), 0, 0⟩, o_ 135 (.pick (.t 123) (.c (.bool true)) (.t 134))])
  (.cond (.t 135) (.seq (.reg [o_ 2 (.mv (.c (.bool false)))])
   .ret)
   (.skip))))
  (.reg [o_ 58 (.mv (.t 8)), o_ 59 (.bin .add (.t 58) (.c (.int .i64 1))), o_ 8 (.mv (.t 59))]))))))
 (.seq (.reg [o_ 136 (.mv (.t 0)), o_ 137 (.call (.c (.fn (.func 8) [] [])) [(.t 136)]), o_ 138 (.mv (.t 3)), o_ 139 (.mv (.t 4)), o_ 140 (.call (.c (.fn (.func 9) [] [])) [(.t 138), (.t 139)]), o_ 141 (.bin .eql (.t 137) (.t 140)), o_ 2 (.mv (.t 141))])
 .ret))))))))))), [.t 2]⟩
theorem c3 : ∃ fn, Try.prog.funcs[3]? = some fn ∧ compFn Try.prog fn = some a3 := ⟨_, Try.func3, by kernel_rfl⟩
def a4 : AFunc := ⟨50, (.seq (.reg [o_ 0 (.mv (.c (.bool false)))])
 (.seq (.reg [o_ 4 (.build [(.int .i64 0), (.int .i64 0), (.int .i64 0), (.int .i64 0), .nils, (.int .i64 0), (.int .i64 0), (.str []), (.str []), .nils, .nils] [(0, 1, (.c (.int .i64 5)))]), o_ 5 (.build [(.int .i64 0), (.int .i64 0), (.int .i64 0), (.int .i64 0), (.int .i64 0), .nils, (.int .i64 0), (.int .i64 0), (.str []), (.str []), .nils, .nils] [(0, 1, (.c (.int .i64 1))), (1, 11, (.t 4))]), o_ 6 (.build [(.int .i64 0), (.int .i64 0), (.str []), (.str [])] [(0, 1, (.c (.int .i64 1)))]), o_ 7 (.build [(.int .i64 0), (.int .i64 0), (.int .i64 0), (.int .i64 0), .nils, (.int .i64 0), (.int .i64 0), (.str []), (.str []), .nils, .nils] [(0, 1, (.c (.int .i64 1))), (1, 1, (.c (.int .i64 2))), (5, 4, (.t 6))]), o_ 8 (.build [(.int .i64 0), (.int .i64 0), (.int .i64 0), (.int .i64 0), (.int .i64 0), .nils, (.int .i64 0), (.int .i64 0), (.str []), (.str []), .nils, .nils] [(0, 1, (.c (.int .i64 5))), (1, 11, (.t 7))]), o_ 9 (.build [(.int .i64 0), (.int .i64 0), (.int .i64 0), (.int .i64 0), .nils, (.int .i64 0), (.int .i64 0), (.str []), (.str []), .nils, .nils] [(0, 1, (.c (.int .i64 2))), (1, 1, (.c (.int .i64 2))), (2, 1, (.c (.int .i64 5)))]), o_ 10 (.build [(.int .i64 0), (.int .i64 0), (.int .i64 0), (.int .i64 0), (.int .i64 0), .nils, (.int .i64 0), (.int .i64 0), (.str []), (.str []), .nils, .nils] [(0, 1, (.c (.int .i64 9))), (1, 11, (.t 9))]), o_ 11 (.build [(.int .i64 0), (.int .i64 0), (.int .i64 0), (.int .i64 0), .nils, (.int .i64 0), (.int .i64 0), (.str []), (.str []), .nils, .nils] [(0, 1, (.c (.int .i64 4))), (1, 1, (.c (.int .i64 2))), (2, 1, (.c (.int .i64 9)))]), o_ 12 (.build [(.int .i64 0), (.int .i64 0), (.int .i64 0), (.int .i64 0), (.int .i64 0), .nils, (.int .i64 0), (.int .i64 0), (.str []), (.str []), .nils, .nils] [(0, 1, (.c (.int .i64 12))), (1, 11, (.t 11))]), o_ 13 (.buildSl [(.int .i64 0), (.int .i64 0), (.int .i64 0), (.int .i64 0), (.int .i64 0), .nils, (.int .i64 0), (.int .i64 0), (.str []), (.str []), .nils, .nils] 4 [(0, (.t 5)), (1, (.t 8)), (2, (.t 10)), (3, (.t 12))]), o_ 1 (.mv (.t 13))])
 (.seq (.dreg [o_ 14 (.mv (.t 1)), o_ 15 (.idxAddr 12 (.t 14) (.c (.int .i64 0))), o_ 16 (.load (some 12) (.t 15)), o_ 17 (.mv (.t 1)), o_ 18 (.idxAddr 12 (.t 17) (.c (.int .i64 1))), o_ 19 (.load (some 12) (.t 18)), o_ 20 (.build [(.int .i64 0), (.int .i64 0), (.int .i64 0), (.int .i64 0), .nils, (.int .i64 0), (.int .i64 0), (.str []), (.str []), .nils, .nils] [(0, 1, (.c (.int .i64 4))), (1, 1, (.c (.int .i64 2))), (2, 1, (.c (.int .i64 5)))]), o_ 21 (.build [(.int .i64 0), (.int .i64 0), (.int .i64 0), (.int .i64 0), (.int .i64 0), .nils, (.int .i64 0), (.int .i64 0), (.str []), (.str []), .nils, .nils] [(0, 1, (.c (.int .i64 9))), (1, 11, (.t 20))]), o_ 22 (.buildSl [(.int .i64 0), (.int .i64 0), (.int .i64 0), (.int .i64 0), (.int .i64 0), .nils, (.int .i64 0), (.int .i64 0), (.str []), (.str []), .nils, .nils] 3 [(0, (.t 16)), (1, (.t 19)), (2, (.t 21))]), ⟨some 2, .mv (.t 22), none, 1, 1⟩])
 (.seq (.reg [o_ 23 (.mv (.t 1)), o_ 24 (.call (.c (.fn (.func 6) [] [])) [(.t 23)]), o_ 3 (.mv (.t 24))])
 (.seq (.reg [o_ 25 (.mv (.t 1)), o_ 26 (.call (.c (.fn (.func 8) [] [])) [(.t 25)]), o_ 27 (.bin .eql (.t 26) (.c (.int .i64 (-1)))), o_ 28 (.mv (.t 27)), ⟨some 29, .mv (.t 2), (some (28, true)), 0, 0⟩, ⟨some 30, .call (.c (.fn (.func 8) [] [])) [(.t 29)], (some (28, true)), 0, 0⟩, ⟨some 31, .bin .eql (.t 30) (.c (.int .i64 2)), (some (28, true)), 0, 0⟩, o_ 32 (.pick (.t 28) (.t 31) (.c (.bool false))), o_ 33 (.mv (.t 32)), ⟨some 34, .mv (.t 3), (some (33, true)), 0, 0⟩, ⟨some 35, .len 1 (.t 34), (some (33, true)), 0, 0⟩, ⟨some 36, .bin .eql (.t 35) (.c (.int .i64 1)), (some (33, true)), 0, 0⟩, o_ 37 (.pick (.t 33) (.t 36) (.c (.bool false))), o_ 38 (.mv (.t 37)), ⟨some 39, .mv (.t 3), (some (38, true)), 0, 0⟩, ⟨some 40, .idxAddr 6 (.t 39) (.c (.int .i64 0)), (some (38, true)), 0, 0⟩, ⟨some 41, .load (some 6) (.t 40), (some (38, true)), 0, 0⟩, ⟨some 42, .build [(.int .i64 0), (.int .i64 0), (.int .i64 0), (.int .i64 0), (.int .i64 0), (.int .i64 0)] [(0, 1, (.c (.int .i64 2))), (1, 1, (.c (.int .i64 5))), (2, 1, (.c (.int .i64 12))), (3, 1, (.c (.int .i64 1))), (4, 1, (.c (.int .i64 1))), (5, 1, (.c (.int .i64 4)))], (some (38, true)), 0, 0⟩, ⟨some 43, .eqS false [1, 1, 1, 1, 1, 1] (.t 41) (.t 42), (some (38, true)), 0, 0⟩, o_ 44 (.pick (.t 38) (.t 43) (.c (.bool false))), o_ 45 (.mv (.t 44)), ⟨some 46, .call (.c (.fn (.func 10) [] [])) [(.c .nilp)], (some (45, true)), 0, 0⟩, ⟨some 47, .len 1 (.t 46), (some (45, true)), 0, 0⟩, ⟨some 48, .bin .eql (.t 47) (.c (.int .i64 0)), (some (45, true)), 0, 0⟩, o_ 49 (.pick (.t 45) (.t 48) (.c (.bool false))), o_ 0 (.mv (.t 49))])
 .ret))))), [.t 0]⟩
theorem c4 : ∃ fn, Try.prog.funcs[4]? = some fn ∧ compFn Try.prog fn = some a4 := ⟨_, Try.func4, by kernel_rfl⟩
def a5 : AFunc := ⟨19, (.seq (.reg [o_ 1 (.box (.t 0)), o_ 2 (.mv (.c (.bool false)))])
 (.seq (.reg [o_ 3 (.fieldAddr 4 (.t 1)), o_ 4 (.load none (.t 3)), o_ 5 (.len 1 (.t 4)), o_ 6 (.bin .gtr (.t 5) (.c (.int .i64 8))), o_ 7 (.mv (.t 6)), ⟨some 8, .fieldAddr 9 (.t 1), (some (7, false)), 0, 0⟩, ⟨some 9, .load none (.t 8), (some (7, false)), 0, 0⟩, ⟨some 10, .len 1 (.t 9), (some (7, false)), 0, 0⟩, ⟨some 11, .bin .gtr (.t 10) (.c (.int .i64 20)), (some (7, false)), 0, 0⟩, o_ 12 (.pick (.t 7) (.c (.bool true)) (.t 11)), o_ 13 (.mv (.t 12)), ⟨some 14, .fieldAddr 10 (.t 1), (some (13, false)), 0, 0⟩, ⟨some 15, .load none (.t 14), (some (13, false)), 0, 0⟩, ⟨some 16, .len 1 (.t 15), (some (13, false)), 0, 0⟩, ⟨some 17, .bin .gtr (.t 16) (.c (.int .i64 20)), (some (13, false)), 0, 0⟩, o_ 18 (.pick (.t 13) (.c (.bool true)) (.t 17)), o_ 2 (.mv (.t 18))])
 .ret)), [.t 2]⟩
theorem c5 : ∃ fn, Try.prog.funcs[5]? = some fn ∧ compFn Try.prog fn = some a5 := ⟨_, Try.func5, by kernel_rfl⟩
def a6 : AFunc := ⟨67, (.seq (.reg [o_ 2 (.mv (.c .nils))])
 (.seq (.reg [o_ 9 (.mkmap), o_ 3 (.mv (.t 9))])
 (.seq (.seq (.reg [o_ 10 (.mv (.t 0)), o_ 11 (.len 1 (.t 10)), o_ 12 (.mv (.c (.int .i64 0)))])
 (.block 0 (.loop (.seq (.reg [o_ 13 (.bin .lss (.t 12) (.t 11))])
  (.seq (.cond (.t 13) (.skip)
   (.exit 0))
  (.seq (.block 1 (.seq (.reg [o_ 14 (.idxAddr 12 (.t 10) (.t 12)), o_ 15 (.load (some 12) (.t 14)), o_ 5 (.alloc [(.int .i64 0), (.int .i64 0), (.int .i64 0), (.int .i64 0), (.int .i64 0), .nils, (.int .i64 0), (.int .i64 0), (.str []), (.str []), .nils, .nils]), ⟨none, .store 12 (.t 5) (.t 15), none, 0, 0⟩])
  (.seq (.seq (.reg [o_ 16 (.fieldAddr 1 (.t 5)), o_ 17 (.load (some 11) (.t 16)), o_ 18 (.call (.c (.fn (.func 11) [] [])) [(.t 17)]), o_ 19 (.un .not (.t 18)), o_ 20 (.mv (.t 19)), ⟨some 21, .fieldAddr 1 (.t 5), (some (20, false)), 0, 0⟩, ⟨some 22, .fieldAddr 1 (.t 21), (some (20, false)), 0, 0⟩, ⟨some 23, .load none (.t 22), (some (20, false)), 0, 0⟩, ⟨some 24, .bin .leq (.t 23) (.c (.int .i64 0)), (some (20, false)), 0, 0⟩, o_ 25 (.pick (.t 20) (.c (.bool true)) (.t 24))])
  (.cond (.t 25) (.exit 1)
   (.skip)))
  (.seq (.reg [o_ 26 (.mv (.t 3)), o_ 27 (.fieldAddr 1 (.t 5)), o_ 28 (.fieldAddr 1 (.t 27)), o_ 29 (.load none (.t 28)), o_ 30 (.lookup .nilp 1 (.t 26) (.t 29) false), o_ 6 (.mv (.t 30))])
  (.seq (.seq (.reg [o_ 31 (.mv (.t 6)), o_ 32 (.isNil 0 false (.t 31))])
  (.cond (.t 32) (.seq (.reg [o_ 33 (.fieldAddr 1 (.t 5)), o_ 34 (.fieldAddr 1 (.t 33)), o_ 35 (.load none (.t 34)), o_ 36 (.fieldAddr 0 (.t 5)), o_ 37 (.load none (.t 36)), o_ 38 (.build [(.int .i64 0), (.int .i64 0), (.int .i64 0), (.int .i64 0), (.int .i64 0), (.int .i64 0)] [(0, 1, (.t 35)), (1, 1, (.t 37))]), o_ 39 (.box (.t 38)), o_ 6 (.mv (.t 39))])
   (.reg [o_ 40 (.mv (.t 3)), o_ 41 (.fieldAddr 1 (.t 5)), o_ 42 (.fieldAddr 1 (.t 41)), o_ 43 (.load none (.t 42)), o_ 44 (.mv (.t 6)), ⟨none, .mapUpd 1 (.t 40) (.t 43) (.t 44), none, 0, 0⟩]))
   (.skip)))
  (.reg [o_ 45 (.mv (.t 6)), o_ 46 (.load (some 12) (.t 5)), o_ 47 (.call (.c (.fn (.func 12) [] [])) [(.t 45), (.t 46)])]))))))
  (.reg [o_ 48 (.bin .add (.t 12) (.c (.int .i64 1))), o_ 12 (.mv (.t 48))])))))))
 (.seq (.seq (.reg [o_ 49 (.mv (.t 3)), o_ 50 (.call (.c (.fn (.func 14) [] [])) [(.t 49)]), o_ 51 (.call (.c (.fn (.func 13) [] [])) [(.t 50)]), o_ 52 (.len 1 (.t 51)), o_ 53 (.mv (.c (.int .i64 0)))])
 (.block 2 (.loop (.seq (.reg [o_ 54 (.bin .lss (.t 53) (.t 52))])
  (.seq (.cond (.t 54) (.skip)
   (.exit 2))
  (.seq (.block 3 (.seq (.reg [o_ 55 (.idxAddr 1 (.t 51) (.t 53)), o_ 56 (.load none (.t 55)), o_ 8 (.mv (.t 56))])
  (.reg [o_ 57 (.mv (.t 2)), o_ 58 (.mv (.t 3)), o_ 59 (.mv (.t 8)), o_ 60 (.lookup .nilp 1 (.t 58) (.t 59) false), o_ 61 (.nilck (.t 60)), o_ 62 (.load (some 6) (.t 61)), o_ 63 (.buildSl [(.int .i64 0), (.int .i64 0), (.int .i64 0), (.int .i64 0), (.int .i64 0), (.int .i64 0)] 1 [(0, (.t 62))]), o_ 64 (.append 6 48 (.t 57) (.t 63)), o_ 2 (.mv (.t 64))])))
  (.reg [o_ 65 (.bin .add (.t 53) (.c (.int .i64 1))), o_ 53 (.mv (.t 65))])))))))
 (.seq (.reg [o_ 66 (.mv (.t 2)), o_ 2 (.mv (.t 66))])
 .ret))))), [.t 2]⟩
theorem c6 : ∃ fn, Try.prog.funcs[6]? = some fn ∧ compFn Try.prog fn = some a6 := ⟨_, Try.func6, by kernel_rfl⟩
def a7 : AFunc := ⟨120, (.seq (.reg [o_ 4 (.mv (.c .nils))])
 (.seq (.reg [o_ 11 (.buildSl [(.int .i64 0), (.int .i64 0), (.int .i64 0), (.int .i64 0), (.int .i64 0), (.int .i64 0)] 0 []), o_ 5 (.mv (.t 11))])
 (.seq (.seq (.reg [o_ 6 (.mv (.c (.int .i64 0)))])
 (.block 0 (.loop (.seq (.seq (.reg [o_ 12 (.mv (.t 6)), o_ 13 (.mv (.t 0)), o_ 14 (.len 1 (.t 13)), o_ 15 (.bin .lss (.t 12) (.t 14))])
  (.cond (.t 15) (.skip)
   (.exit 0)))
  (.seq (.block 1 (.seq (.reg [o_ 18 (.mv (.t 0)), o_ 19 (.mv (.t 6)), o_ 20 (.idxAddr 11 (.t 18) (.t 19)), o_ 21 (.load (some 11) (.t 20)), o_ 7 (.alloc [(.int .i64 0), (.int .i64 0), (.int .i64 0), (.int .i64 0), .nils, (.int .i64 0), (.int .i64 0), (.str []), (.str []), .nils, .nils]), ⟨none, .store 11 (.t 7) (.t 21), none, 0, 0⟩])
  (.seq (.seq (.reg [o_ 22 (.load (some 11) (.t 7)), o_ 23 (.call (.c (.fn (.func 15) [] [])) [(.t 22)]), o_ 24 (.un .not (.t 23)), o_ 25 (.mv (.t 24)), ⟨some 26, .fieldAddr 1 (.t 7), (some (25, false)), 0, 0⟩, ⟨some 27, .load none (.t 26), (some (25, false)), 0, 0⟩, ⟨some 28, .bin .leq (.t 27) (.c (.int .i64 0)), (some (25, false)), 0, 0⟩, o_ 29 (.pick (.t 25) (.c (.bool true)) (.t 28))])
  (.cond (.t 29) (.exit 1)
   (.skip)))
  (.seq (.reg [o_ 8 (.mv (.c (.int .i64 0)))])
  (.seq (.block 2 (.loop (.seq (.seq (.dreg [o_ 30 (.mv (.t 8)), o_ 31 (.mv (.t 5)), o_ 32 (.len 1 (.t 31)), o_ 33 (.bin .lss (.t 30) (.t 32)), o_ 34 (.mv (.t 33)), ⟨some 35, .mv (.t 5), (some (34, true)), 0, 0⟩, ⟨some 36, .mv (.t 8), (some (34, true)), 0, 0⟩, ⟨some 37, .idxAddr 6 (.t 35) (.t 36), (some (34, true)), 0, 0⟩, ⟨some 38, .fieldAddr 0 (.t 37), (some (34, true)), 0, 0⟩, ⟨some 39, .load none (.t 38), (some (34, true)), 0, 0⟩, ⟨some 40, .fieldAddr 1 (.t 7), (some (34, true)), 0, 0⟩, ⟨some 41, .load none (.t 40), (some (34, true)), 0, 0⟩, ⟨some 42, .bin .lss (.t 39) (.t 41), (some (34, true)), 0, 0⟩, o_ 43 (.pick (.t 34) (.t 42) (.c (.bool false)))])
   (.cond (.t 43) (.skip)
    (.exit 2)))
   (.block 3 (.reg [o_ 44 (.mv (.t 8)), o_ 45 (.bin .add (.t 44) (.c (.int .i64 1))), o_ 8 (.mv (.t 45))])))))
  (.seq (.seq (.dreg [o_ 46 (.mv (.t 8)), o_ 47 (.mv (.t 5)), o_ 48 (.len 1 (.t 47)), o_ 49 (.bin .eql (.t 46) (.t 48)), o_ 50 (.mv (.t 49)), ⟨some 51, .mv (.t 5), (some (50, false)), 0, 0⟩, ⟨some 52, .mv (.t 8), (some (50, false)), 0, 0⟩, ⟨some 53, .idxAddr 6 (.t 51) (.t 52), (some (50, false)), 0, 0⟩, ⟨some 54, .fieldAddr 0 (.t 53), (some (50, false)), 0, 0⟩, ⟨some 55, .load none (.t 54), (some (50, false)), 0, 0⟩, ⟨some 56, .fieldAddr 1 (.t 7), (some (50, false)), 0, 0⟩, ⟨some 57, .load none (.t 56), (some (50, false)), 0, 0⟩, ⟨some 58, .bin .neq (.t 55) (.t 57), (some (50, false)), 0, 0⟩, o_ 59 (.pick (.t 50) (.c (.bool true)) (.t 58))])
  (.cond (.t 59) (.seq (.reg [o_ 60 (.buildSl [(.int .i64 0), (.int .i64 0), (.int .i64 0), (.int .i64 0), (.int .i64 0), (.int .i64 0)] 0 []), o_ 61 (.mv (.t 5)), o_ 62 (.mv (.t 8)), o_ 63 (.slc 6 (.t 61) none (some (.t 62)) none), o_ 64 (.append 6 48 (.t 60) (.t 63)), o_ 9 (.mv (.t 64))])
   (.dreg [⟨some 65, .mv (.t 9), none, 0, 1⟩, o_ 66 (.fieldAddr 1 (.t 7)), o_ 67 (.load none (.t 66)), o_ 68 (.mv (.t 1)), o_ 69 (.mv (.t 6)), o_ 70 (.idxAddr 1 (.t 68) (.t 69)), o_ 71 (.load none (.t 70)), o_ 72 (.build [(.int .i64 0), (.int .i64 0), (.int .i64 0), (.int .i64 0), (.int .i64 0), (.int .i64 0)] [(0, 1, (.t 67)), (1, 1, (.t 71))]), o_ 73 (.buildSl [(.int .i64 0), (.int .i64 0), (.int .i64 0), (.int .i64 0), (.int .i64 0), (.int .i64 0)] 1 [(0, (.t 72))]), o_ 74 (.append 6 48 (.t 65) (.t 73)), ⟨some 75, .mv (.t 5), none, 0, 2⟩, ⟨some 76, .mv (.t 8), none, 0, 2⟩, ⟨some 77, .slc 6 (.t 75) (some (.t 76)) none none, none, 0, 2⟩, o_ 78 (.append 6 48 (.t 74) (.t 77)), ⟨some 5, .mv (.t 78), none, 3, 3⟩]))
   (.skip)))
  (.seq (.reg [o_ 79 (.mv (.t 5)), o_ 80 (.mv (.t 8)), o_ 81 (.idxAddr 6 (.t 79) (.t 80)), o_ 10 (.mv (.t 81))])
  (.seq (.reg [o_ 82 (.mv (.t 10)), o_ 83 (.mv (.t 1)), o_ 84 (.mv (.t 6)), o_ 85 (.idxAddr 1 (.t 83) (.t 84)), o_ 86 (.load none (.t 85)), o_ 87 (.nilck (.t 82)), o_ 88 (.fieldAddr 2 (.t 87)), ⟨none, .store 1 (.t 88) (.t 86), none, 0, 0⟩])
  (.seq (.reg [o_ 89 (.fieldAddr 0 (.t 7)), o_ 90 (.load none (.t 89))])
  (.block 4 (.seq (.reg [o_ 102 (.bin .eql (.t 90) (.c (.int .i64 1))), o_ 101 (.mv (.t 102))])
  (.cond (.t 101) (.reg [o_ 103 (.mv (.t 10)), o_ 104 (.nilck (.t 103)), o_ 105 (.fieldAddr 3 (.t 104)), o_ 106 (.load none (.t 105)), o_ 107 (.bin .add (.t 106) (.c (.int .i64 1))), o_ 108 (.nilck (.t 103)), o_ 109 (.fieldAddr 3 (.t 108)), ⟨none, .store 1 (.t 109) (.t 107), none, 0, 0⟩])
   (.seq (.reg [o_ 111 (.bin .eql (.t 90) (.c (.int .i64 2))), o_ 110 (.mv (.t 111))])
   (.cond (.t 110) (.reg [o_ 112 (.mv (.t 10)), o_ 113 (.nilck (.t 112)), o_ 114 (.fieldAddr 4 (.t 113)), o_ 115 (.load none (.t 114)), o_ 116 (.bin .add (.t 115) (.c (.int .i64 1))), o_ 117 (.nilck (.t 112)), o_ 118 (.fieldAddr 4 (.t 117)), ⟨none, .store 1 (.t 118) (.t 116), none, 0, 0⟩])
    (.seq (.reg [o_ 91 (.mv (.t 10)), o_ 92 (.nilck (.t 91)), o_ 93 (.fieldAddr 5 (.t 92)), o_ 94 (.load none (.t 93)), o_ 95 (.bin .eql (.t 94) (.c (.int .i64 0)))])
    (.cond (.t 95) (.reg [o_ 96 (.mv (.t 10)), o_ 97 (.fieldAddr 0 (.t 7)), o_ 98 (.load none (.t 97)), o_ 99 (.nilck (.t 96)), o_ 100 (.fieldAddr 5 (.t 99)), ⟨none, .store 1 (.t 100) (.t 98), none, 0, 0⟩])
     (.skip)))))))))))))))))
  (.reg [o_ 16 (.mv (.t 6)), o_ 17 (.bin .add (.t 16) (.c (.int .i64 1))), o_ 6 (.mv (.t 17))]))))))
 (.seq (.reg [o_ 119 (.mv (.t 5)), o_ 4 (.mv (.t 119))])
 .ret)))), [.t 4]⟩
theorem c7 : ∃ fn, Try.prog.funcs[7]? = some fn ∧ compFn Try.prog fn = some a7 := ⟨_, Try.func7, by kernel_rfl⟩
def a8 : AFunc := ⟨25, (.seq (.reg [o_ 2 (.mv (.c (.int .i64 0)))])
 (.seq (.reg [o_ 6 (.mkmap), o_ 7 (.build [(.int .i64 0), .nilm] [(1, 1, (.t 6))]), o_ 8 (.box (.t 7)), o_ 3 (.mv (.t 8))])
 (.seq (.seq (.reg [o_ 9 (.mv (.t 0)), o_ 10 (.len 1 (.t 9)), o_ 11 (.mv (.c (.int .i64 0)))])
 (.block 0 (.loop (.seq (.reg [o_ 12 (.bin .lss (.t 11) (.t 10))])
  (.seq (.cond (.t 12) (.skip)
   (.exit 0))
  (.seq (.block 1 (.seq (.reg [o_ 13 (.mv (.t 11)), o_ 14 (.idxAddr 12 (.t 9) (.t 11)), o_ 15 (.load (some 12) (.t 14)), o_ 5 (.alloc [(.int .i64 0), (.int .i64 0), (.int .i64 0), (.int .i64 0), (.int .i64 0), .nils, (.int .i64 0), (.int .i64 0), (.str []), (.str []), .nils, .nils]), o_ 4 (.mv (.t 13)), ⟨none, .store 12 (.t 5) (.t 15), none, 0, 0⟩])
  (.seq (.seq (.reg [o_ 16 (.mv (.t 3)), o_ 17 (.load (some 12) (.t 5)), o_ 18 (.call (.c (.fn (.func 16) [] [])) [(.t 16), (.t 17)]), o_ 19 (.un .not (.t 18))])
  (.cond (.t 19) (.seq (.reg [o_ 20 (.mv (.t 4)), o_ 2 (.mv (.t 20))])
   .ret)
   (.skip)))
  (.reg [o_ 21 (.mv (.t 3)), o_ 22 (.load (some 12) (.t 5)), o_ 23 (.call (.c (.fn (.func 17) [] [])) [(.t 21), (.t 22)])]))))
  (.reg [o_ 24 (.bin .add (.t 11) (.c (.int .i64 1))), o_ 11 (.mv (.t 24))])))))))
 (.seq (.reg [o_ 2 (.mv (.c (.int .i64 (-1))))])
 .ret)))), [.t 2]⟩
theorem c8 : ∃ fn, Try.prog.funcs[8]? = some fn ∧ compFn Try.prog fn = some a8 := ⟨_, Try.func8, by kernel_rfl⟩
def a9 : AFunc := ⟨18, (.seq (.reg [o_ 4 (.mv (.c (.int .i64 0)))])
 (.seq (.seq (.reg [o_ 5 (.mv (.c (.int .i64 0)))])
 (.block 0 (.loop (.seq (.seq (.reg [o_ 6 (.mv (.t 5)), o_ 7 (.mv (.t 0)), o_ 8 (.len 1 (.t 7)), o_ 9 (.bin .lss (.t 6) (.t 8))])
  (.cond (.t 9) (.skip)
   (.exit 0)))
  (.seq (.block 1 (.seq (.reg [o_ 12 (.mv (.t 0)), o_ 13 (.mv (.t 1)), o_ 14 (.mv (.t 5)), o_ 15 (.call (.c (.fn (.func 18) [] [])) [(.t 12), (.t 13), (.t 14)]), o_ 16 (.un .not (.t 15))])
  (.cond (.t 16) (.seq (.reg [o_ 17 (.mv (.t 5)), o_ 4 (.mv (.t 17))])
   .ret)
   (.skip))))
  (.reg [o_ 10 (.mv (.t 5)), o_ 11 (.bin .add (.t 10) (.c (.int .i64 1))), o_ 5 (.mv (.t 11))]))))))
 (.seq (.reg [o_ 4 (.mv (.c (.int .i64 (-1))))])
 .ret))), [.t 4]⟩
theorem c9 : ∃ fn, Try.prog.funcs[9]? = some fn ∧ compFn Try.prog fn = some a9 := ⟨_, Try.func9, by kernel_rfl⟩
def a10 : AFunc := ⟨31, (.seq (.reg [o_ 2 (.mv (.c .nils))])
 (.seq (.reg [o_ 3 (.mv (.c (.int .i64 1)))])
 (.seq (.seq (.reg [o_ 7 (.mv (.t 0)), o_ 8 (.mv (.t 3)), o_ 9 (.call (.c (.fn (.func 19) [] [])) [(.t 7), (.t 8)]), o_ 6 (.mv (.t 9)), o_ 10 (.extract (.t 6) 0), o_ 11 (.extract (.t 6) 1), o_ 4 (.alloc [(.int .i64 0), (.int .i64 0), (.int .i64 0), (.int .i64 0), .nils, (.int .i64 0), (.int .i64 0), (.str []), (.str []), .nils, .nils]), ⟨none, .store 11 (.t 4) (.t 10), none, 0, 0⟩, o_ 5 (.mv (.t 11))])
 (.block 0 (.loop (.seq (.seq (.reg [o_ 12 (.mv (.t 5))])
  (.cond (.t 12) (.skip)
   (.exit 0)))
  (.seq (.block 1 (.seq (.reg [o_ 19 (.mv (.t 2)), o_ 20 (.mv (.t 3)), o_ 21 (.load (some 11) (.t 4)), o_ 22 (.build [(.int .i64 0), (.int .i64 0), (.int .i64 0), (.int .i64 0), (.int .i64 0), .nils, (.int .i64 0), (.int .i64 0), (.str []), (.str []), .nils, .nils] [(0, 1, (.t 20)), (1, 11, (.t 21))]), o_ 23 (.buildSl [(.int .i64 0), (.int .i64 0), (.int .i64 0), (.int .i64 0), (.int .i64 0), .nils, (.int .i64 0), (.int .i64 0), (.str []), (.str []), .nils, .nils] 1 [(0, (.t 22))]), o_ 24 (.append 12 160 (.t 19) (.t 23)), o_ 2 (.mv (.t 24))])
  (.reg [o_ 25 (.mv (.t 3)), o_ 26 (.load (some 11) (.t 4)), o_ 27 (.call (.c (.fn (.func 20) [] [])) [(.t 26)]), o_ 28 (.bin .add (.t 25) (.t 27)), o_ 3 (.mv (.t 28))])))
  (.seq (.seq (.reg [o_ 29 (.load (some 11) (.t 4))])
  (.reg [o_ 4 (.alloc [(.int .i64 0), (.int .i64 0), (.int .i64 0), (.int .i64 0), .nils, (.int .i64 0), (.int .i64 0), (.str []), (.str []), .nils, .nils]), ⟨none, .store 11 (.t 4) (.t 29), none, 0, 0⟩]))
  (.reg [o_ 14 (.mv (.t 0)), o_ 15 (.mv (.t 3)), o_ 16 (.call (.c (.fn (.func 19) [] [])) [(.t 14), (.t 15)]), o_ 13 (.mv (.t 16)), o_ 17 (.extract (.t 13) 0), o_ 18 (.extract (.t 13) 1), ⟨none, .store 11 (.t 4) (.t 17), none, 0, 0⟩, o_ 5 (.mv (.t 18))])))))))
 (.seq (.reg [o_ 30 (.mv (.t 2)), o_ 2 (.mv (.t 30))])
 .ret)))), [.t 2]⟩
theorem c10 : ∃ fn, Try.prog.funcs[10]? = some fn ∧ compFn Try.prog fn = some a10 := ⟨_, Try.func10, by kernel_rfl⟩
def a11 : AFunc := ⟨11, (.seq (.reg [o_ 1 (.box (.t 0)), o_ 2 (.mv (.c (.bool false)))])
 (.seq (.reg [o_ 3 (.fieldAddr 0 (.t 1)), o_ 4 (.load none (.t 3)), o_ 5 (.bin .geq (.t 4) (.c (.int .i64 1))), o_ 6 (.mv (.t 5)), ⟨some 7, .fieldAddr 0 (.t 1), (some (6, true)), 0, 0⟩, ⟨some 8, .load none (.t 7), (some (6, true)), 0, 0⟩, ⟨some 9, .bin .leq (.t 8) (.c (.int .i64 4)), (some (6, true)), 0, 0⟩, o_ 10 (.pick (.t 6) (.t 9) (.c (.bool false))), o_ 2 (.mv (.t 10))])
 .ret)), [.t 2]⟩
theorem c11 : ∃ fn, Try.prog.funcs[11]? = some fn ∧ compFn Try.prog fn = some a11 := ⟨_, Try.func11, by kernel_rfl⟩
def a12 : AFunc := ⟨41, (.seq (.reg [o_ 3 (.box (.t 1))])
 (.seq (.reg [o_ 4 (.mv (.t 0)), o_ 5 (.fieldAddr 0 (.t 3)), o_ 6 (.load none (.t 5)), o_ 7 (.nilck (.t 4)), o_ 8 (.fieldAddr 2 (.t 7)), ⟨none, .store 1 (.t 8) (.t 6), none, 0, 0⟩])
 (.seq (.reg [o_ 9 (.fieldAddr 1 (.t 3)), o_ 10 (.fieldAddr 0 (.t 9)), o_ 11 (.load none (.t 10))])
 (.block 0 (.seq (.reg [o_ 24 (.bin .eql (.t 11) (.c (.int .i64 1))), o_ 23 (.mv (.t 24))])
 (.cond (.t 23) (.reg [o_ 25 (.mv (.t 0)), o_ 26 (.nilck (.t 25)), o_ 27 (.fieldAddr 3 (.t 26)), o_ 28 (.load none (.t 27)), o_ 29 (.bin .add (.t 28) (.c (.int .i64 1))), o_ 30 (.nilck (.t 25)), o_ 31 (.fieldAddr 3 (.t 30)), ⟨none, .store 1 (.t 31) (.t 29), none, 0, 0⟩])
  (.seq (.reg [o_ 33 (.bin .eql (.t 11) (.c (.int .i64 2))), o_ 32 (.mv (.t 33))])
  (.cond (.t 32) (.reg [o_ 34 (.mv (.t 0)), o_ 35 (.nilck (.t 34)), o_ 36 (.fieldAddr 4 (.t 35)), o_ 37 (.load none (.t 36)), o_ 38 (.bin .add (.t 37) (.c (.int .i64 1))), o_ 39 (.nilck (.t 34)), o_ 40 (.fieldAddr 4 (.t 39)), ⟨none, .store 1 (.t 40) (.t 38), none, 0, 0⟩])
   (.seq (.reg [o_ 12 (.mv (.t 0)), o_ 13 (.nilck (.t 12)), o_ 14 (.fieldAddr 5 (.t 13)), o_ 15 (.load none (.t 14)), o_ 16 (.bin .eql (.t 15) (.c (.int .i64 0)))])
   (.cond (.t 16) (.reg [o_ 17 (.mv (.t 0)), o_ 18 (.fieldAddr 1 (.t 3)), o_ 19 (.fieldAddr 0 (.t 18)), o_ 20 (.load none (.t 19)), o_ 21 (.nilck (.t 17)), o_ 22 (.fieldAddr 5 (.t 21)), ⟨none, .store 1 (.t 22) (.t 20), none, 0, 0⟩])
    (.skip))))))))))), []⟩
theorem c12 : ∃ fn, Try.prog.funcs[12]? = some fn ∧ compFn Try.prog fn = some a12 := ⟨_, Try.func12, by kernel_rfl⟩
def a14 : AFunc := ⟨4, (.seq (.reg [o_ 1 (.box (.t 0)), o_ 2 (.mv (.c .nilf))])
 (.seq (.reg [o_ 3 (.mkfn (.func 23) [] [(.t 1)]), o_ 2 (.mv (.t 3))])
 .ret)), [.t 2]⟩
theorem c14 : ∃ fn, Try.prog.funcs[14]? = some fn ∧ compFn Try.prog fn = some a14 := ⟨_, Try.func14, by kernel_rfl⟩
def a15 : AFunc := ⟨11, (.seq (.reg [o_ 1 (.box (.t 0)), o_ 2 (.mv (.c (.bool false)))])
 (.seq (.reg [o_ 3 (.fieldAddr 0 (.t 1)), o_ 4 (.load none (.t 3)), o_ 5 (.bin .geq (.t 4) (.c (.int .i64 1))), o_ 6 (.mv (.t 5)), ⟨some 7, .fieldAddr 0 (.t 1), (some (6, true)), 0, 0⟩, ⟨some 8, .load none (.t 7), (some (6, true)), 0, 0⟩, ⟨some 9, .bin .leq (.t 8) (.c (.int .i64 4)), (some (6, true)), 0, 0⟩, o_ 10 (.pick (.t 6) (.t 9) (.c (.bool false))), o_ 2 (.mv (.t 10))])
 .ret)), [.t 2]⟩
theorem c15 : ∃ fn, Try.prog.funcs[15]? = some fn ∧ compFn Try.prog fn = some a15 := ⟨_, Try.func15, by kernel_rfl⟩
def a16 : AFunc := ⟨49, (.seq (.reg [o_ 3 (.box (.t 1)), o_ 4 (.mv (.c (.bool false)))])
 (.seq (.reg [o_ 6 (.fieldAddr 1 (.t 3)), o_ 7 (.load (some 11) (.t 6)), o_ 5 (.alloc [(.int .i64 0), (.int .i64 0), (.int .i64 0), (.int .i64 0), .nils, (.int .i64 0), (.int .i64 0), (.str []), (.str []), .nils, .nils]), ⟨none, .store 11 (.t 5) (.t 7), none, 0, 0⟩])
 (.seq (.block 0 (.seq (.dreg [o_ 9 (.fieldAddr 0 (.t 3)), o_ 10 (.load none (.t 9)), o_ 11 (.mv (.t 0)), o_ 12 (.nilck (.t 11)), o_ 13 (.fieldAddr 0 (.t 12)), o_ 14 (.load none (.t 13)), o_ 15 (.bin .leq (.t 10) (.t 14)), o_ 8 (.mv (.t 15))])
 (.cond (.t 8) (.seq (.reg [o_ 4 (.mv (.c (.bool false)))])
  .ret)
  (.seq (.reg [o_ 17 (.load (some 11) (.t 5)), o_ 18 (.call (.c (.fn (.func 11) [] [])) [(.t 17)]), o_ 16 (.mv (.t 18))])
  (.cond (.t 16) (.seq (.reg [o_ 19 (.mv (.t 0)), o_ 20 (.load (some 11) (.t 5)), o_ 21 (.call (.c (.fn (.func 24) [] [])) [(.t 19), (.t 20)]), o_ 4 (.mv (.t 21))])
   .ret)
   (.seq (.seq (.reg [o_ 23 (.fieldAddr 0 (.t 5)), o_ 24 (.load none (.t 23)), o_ 25 (.bin .neq (.t 24) (.c (.int .i64 5))), o_ 26 (.mv (.t 25)), ⟨some 27, .fieldAddr 0 (.t 5), (some (26, true)), 0, 0⟩, ⟨some 28, .load none (.t 27), (some (26, true)), 0, 0⟩, ⟨some 29, .bin .neq (.t 28) (.c (.int .i64 6)), (some (26, true)), 0, 0⟩, o_ 30 (.pick (.t 26) (.t 29) (.c (.bool false))), o_ 22 (.mv (.t 30))])
   (.cond (.t 22) (.skip)
    (.seq (.reg [o_ 31 (.fieldAddr 1 (.t 5)), o_ 32 (.load none (.t 31)), o_ 33 (.bin .neq (.t 32) (.c (.int .i64 0))), o_ 22 (.mv (.t 33))])
    (.cond (.t 22) (.skip)
     (.seq (.reg [o_ 34 (.fieldAddr 2 (.t 5)), o_ 35 (.load none (.t 34)), o_ 36 (.bin .neq (.t 35) (.c (.int .i64 0))), o_ 22 (.mv (.t 36))])
     (.cond (.t 22) (.skip)
      (.reg [o_ 37 (.fieldAddr 3 (.t 5)), o_ 38 (.load none (.t 37)), o_ 39 (.bin .neq (.t 38) (.c (.int .i64 0))), o_ 22 (.mv (.t 39))])))))))
   (.cond (.t 22) (.seq (.reg [o_ 4 (.mv (.c (.bool false)))])
    .ret)
    (.skip))))))))
 (.seq (.reg [o_ 40 (.fieldAddr 0 (.t 5)), o_ 41 (.load none (.t 40)), o_ 42 (.bin .eql (.t 41) (.c (.int .i64 5))), o_ 43 (.mv (.t 42)), ⟨some 44, .mv (.t 0), (some (43, false)), 0, 0⟩, ⟨some 45, .fieldAddr 9 (.t 5), (some (43, false)), 0, 0⟩, ⟨some 46, .load none (.t 45), (some (43, false)), 0, 0⟩, ⟨some 47, .call (.c (.fn (.func 25) [] [])) [(.t 44), (.t 46)], (some (43, false)), 0, 0⟩, o_ 48 (.pick (.t 43) (.c (.bool true)) (.t 47)), o_ 4 (.mv (.t 48))])
 .ret)))), [.t 4]⟩
theorem c16 : ∃ fn, Try.prog.funcs[16]? = some fn ∧ compFn Try.prog fn = some a16 := ⟨_, Try.func16, by kernel_rfl⟩
def a17 : AFunc := ⟨39, (.seq (.reg [o_ 3 (.box (.t 1))])
 (.seq (.reg [o_ 5 (.mv (.t 0)), o_ 6 (.fieldAddr 0 (.t 3)), o_ 7 (.load none (.t 6)), o_ 8 (.nilck (.t 5)), o_ 9 (.fieldAddr 0 (.t 8)), ⟨none, .store 1 (.t 9) (.t 7), none, 0, 0⟩])
 (.seq (.seq (.reg [o_ 10 (.fieldAddr 1 (.t 3)), o_ 11 (.load (some 11) (.t 10)), o_ 12 (.call (.c (.fn (.func 11) [] [])) [(.t 11)]), o_ 13 (.un .not (.t 12))])
 (.cond (.t 13) .ret
  (.skip)))
 (.seq (.reg [o_ 14 (.mv (.t 0)), o_ 15 (.fieldAddr 1 (.t 3)), o_ 16 (.fieldAddr 1 (.t 15)), o_ 17 (.load none (.t 16)), o_ 18 (.call (.c (.fn (.func 26) [] [])) [(.t 14), (.t 17)]), o_ 4 (.mv (.t 18))])
 (.seq (.reg [o_ 19 (.mv (.t 4)), o_ 20 (.fieldAddr 0 (.t 3)), o_ 21 (.load none (.t 20)), o_ 22 (.nilck (.t 19)), o_ 23 (.fieldAddr 0 (.t 22)), ⟨none, .store 1 (.t 23) (.t 21), none, 0, 0⟩])
 (.seq (.reg [o_ 24 (.mv (.t 4)), o_ 25 (.fieldAddr 1 (.t 3)), o_ 26 (.fieldAddr 0 (.t 25)), o_ 27 (.load none (.t 26)), o_ 28 (.bin .geq (.t 27) (.c (.int .i64 3))), o_ 29 (.nilck (.t 24)), o_ 30 (.fieldAddr 1 (.t 29)), ⟨none, .store 1 (.t 30) (.t 28), none, 0, 0⟩])
 (.dreg [o_ 31 (.mv (.t 4)), o_ 32 (.nilck (.t 31)), o_ 33 (.fieldAddr 2 (.t 32)), o_ 34 (.load none (.t 33)), o_ 35 (.fieldAddr 0 (.t 3)), o_ 36 (.load none (.t 35)), o_ 37 (.fieldAddr 1 (.t 3)), o_ 38 (.load (some 11) (.t 37)), ⟨none, .mapUpd 1 (.t 34) (.t 36) (.t 38), none, 0, 0⟩]))))))), []⟩
theorem c17 : ∃ fn, Try.prog.funcs[17]? = some fn ∧ compFn Try.prog fn = some a17 := ⟨_, Try.func17, by kernel_rfl⟩
def a18 : AFunc := ⟨129, (.seq (.reg [o_ 6 (.mv (.c (.bool false)))])
 (.seq (.reg [o_ 11 (.mv (.t 0)), o_ 12 (.mv (.t 2)), o_ 13 (.idxAddr 11 (.t 11) (.t 12)), o_ 14 (.load (some 11) (.t 13)), o_ 7 (.alloc [(.int .i64 0), (.int .i64 0), (.int .i64 0), (.int .i64 0), .nils, (.int .i64 0), (.int .i64 0), (.str []), (.str []), .nils, .nils]), ⟨none, .store 11 (.t 7) (.t 14), none, 0, 0⟩])
 (.seq (.seq (.dreg [o_ 15 (.mv (.t 1)), o_ 16 (.mv (.t 2)), o_ 17 (.idxAddr 1 (.t 15) (.t 16)), o_ 18 (.load none (.t 17)), o_ 19 (.bin .lss (.t 18) (.c (.int .i64 1))), o_ 20 (.mv (.t 19)), ⟨some 21, .mv (.t 2), (some (20, false)), 0, 0⟩, ⟨some 22, .bin .gtr (.t 21) (.c (.int .i64 0)), (some (20, false)), 0, 0⟩, ⟨some 23, .mv (.t 22), (some (20, false)), 0, 0⟩, ⟨some 24, .mv (.t 1), (some (23, true)), 0, 0⟩, ⟨some 25, .mv (.t 2), (some (23, true)), 0, 0⟩, ⟨some 26, .bin .sub (.t 25) (.c (.int .i64 1)), (some (23, true)), 0, 0⟩, ⟨some 27, .idxAddr 1 (.t 24) (.t 26), (some (23, true)), 0, 0⟩, ⟨some 28, .load none (.t 27), (some (23, true)), 0, 0⟩, ⟨some 29, .mv (.t 1), (some (23, true)), 0, 0⟩, ⟨some 30, .mv (.t 2), (some (23, true)), 0, 0⟩, ⟨some 31, .idxAddr 1 (.t 29) (.t 30), (some (23, true)), 0, 0⟩, ⟨some 32, .load none (.t 31), (some (23, true)), 0, 0⟩, ⟨some 33, .bin .geq (.t 28) (.t 32), (some (23, true)), 0, 0⟩, ⟨some 34, .pick (.t 23) (.t 33) (.c (.bool false)), (some (20, false)), 0, 0⟩, o_ 35 (.pick (.t 20) (.c (.bool true)) (.t 34))])
 (.cond (.t 35) (.seq (.reg [o_ 6 (.mv (.c (.bool false)))])
  .ret)
  (.skip)))
 (.seq (.seq (.reg [o_ 36 (.fieldAddr 0 (.t 7)), o_ 37 (.load none (.t 36)), o_ 38 (.bin .eql (.t 37) (.c (.int .i64 5))), o_ 39 (.mv (.t 38)), ⟨some 40, .fieldAddr 0 (.t 7), (some (39, false)), 0, 0⟩, ⟨some 41, .load none (.t 40), (some (39, false)), 0, 0⟩, ⟨some 42, .bin .eql (.t 41) (.c (.int .i64 6)), (some (39, false)), 0, 0⟩, o_ 43 (.pick (.t 39) (.c (.bool true)) (.t 42))])
 (.cond (.t 43) (.seq (.reg [o_ 44 (.fieldAddr 1 (.t 7)), o_ 45 (.load none (.t 44)), o_ 46 (.bin .eql (.t 45) (.c (.int .i64 0))), o_ 47 (.mv (.t 46)), ⟨some 48, .fieldAddr 2 (.t 7), (some (47, true)), 0, 0⟩, ⟨some 49, .load none (.t 48), (some (47, true)), 0, 0⟩, ⟨some 50, .bin .eql (.t 49) (.c (.int .i64 0)), (some (47, true)), 0, 0⟩, o_ 51 (.pick (.t 47) (.t 50) (.c (.bool false))), o_ 52 (.mv (.t 51)), ⟨some 53, .fieldAddr 3 (.t 7), (some (52, true)), 0, 0⟩, ⟨some 54, .load none (.t 53), (some (52, true)), 0, 0⟩, ⟨some 55, .bin .eql (.t 54) (.c (.int .i64 0)), (some (52, true)), 0, 0⟩, o_ 56 (.pick (.t 52) (.t 55) (.c (.bool false))), o_ 57 (.mv (.t 56)), ⟨some 58, .fieldAddr 0 (.t 7), (some (57, true)), 0, 0⟩, ⟨some 59, .load none (.t 58), (some (57, true)), 0, 0⟩, ⟨some 60, .bin .eql (.t 59) (.c (.int .i64 5)), (some (57, true)), 0, 0⟩, ⟨some 61, .mv (.t 60), (some (57, true)), 0, 0⟩, ⟨some 62, .mv (.t 0), (some (61, false)), 0, 0⟩, ⟨some 63, .mv (.t 1), (some (61, false)), 0, 0⟩, ⟨some 64, .mv (.t 2), (some (61, false)), 0, 0⟩, ⟨some 65, .call (.c (.fn (.func 27) [] [])) [(.t 62), (.t 63), (.t 64)], (some (61, false)), 0, 0⟩, ⟨some 66, .pick (.t 61) (.c (.bool true)) (.t 65), (some (57, true)), 0, 0⟩, o_ 67 (.pick (.t 57) (.t 66) (.c (.bool false))), o_ 6 (.mv (.t 67))])
  .ret)
  (.skip)))
 (.seq (.seq (.reg [o_ 68 (.load (some 11) (.t 7)), o_ 69 (.call (.c (.fn (.func 15) [] [])) [(.t 68)]), o_ 70 (.un .not (.t 69)), o_ 71 (.mv (.t 70)), ⟨some 72, .fieldAddr 1 (.t 7), (some (71, false)), 0, 0⟩, ⟨some 73, .load none (.t 72), (some (71, false)), 0, 0⟩, ⟨some 74, .bin .leq (.t 73) (.c (.int .i64 0)), (some (71, false)), 0, 0⟩, o_ 75 (.pick (.t 71) (.c (.bool true)) (.t 74))])
 (.cond (.t 75) (.seq (.reg [o_ 6 (.mv (.c (.bool false)))])
  .ret)
  (.skip)))
 (.seq (.reg [o_ 77 (.mv (.t 0)), o_ 78 (.mv (.t 1)), o_ 79 (.mv (.t 2)), o_ 80 (.fieldAddr 1 (.t 7)), o_ 81 (.load none (.t 80)), o_ 82 (.call (.c (.fn (.func 28) [] [])) [(.t 77), (.t 78), (.t 79), (.t 81)]), o_ 76 (.mv (.t 82)), o_ 83 (.extract (.t 76) 0), o_ 84 (.extract (.t 76) 1), o_ 85 (.extract (.t 76) 2), o_ 8 (.mv (.t 83)), o_ 9 (.mv (.t 84)), o_ 10 (.mv (.t 85))])
 (.seq (.seq (.reg [o_ 86 (.mv (.t 9)), o_ 87 (.mv (.t 86)), ⟨some 88, .fieldAddr 2 (.t 7), (some (87, false)), 0, 0⟩, ⟨some 89, .load none (.t 88), (some (87, false)), 0, 0⟩, ⟨some 90, .mv (.t 8), (some (87, false)), 0, 0⟩, ⟨some 91, .bin .neq (.t 89) (.t 90), (some (87, false)), 0, 0⟩, o_ 92 (.pick (.t 87) (.c (.bool true)) (.t 91)), o_ 93 (.mv (.t 92)), ⟨some 94, .fieldAddr 0 (.t 7), (some (93, false)), 0, 0⟩, ⟨some 95, .load none (.t 94), (some (93, false)), 0, 0⟩, ⟨some 96, .bin .neq (.t 95) (.c (.int .i64 2)), (some (93, false)), 0, 0⟩, ⟨some 97, .mv (.t 96), (some (93, false)), 0, 0⟩, ⟨some 98, .fieldAddr 3 (.t 7), (some (97, true)), 0, 0⟩, ⟨some 99, .load none (.t 98), (some (97, true)), 0, 0⟩, ⟨some 100, .bin .neq (.t 99) (.c (.int .i64 0)), (some (97, true)), 0, 0⟩, ⟨some 101, .pick (.t 97) (.t 100) (.c (.bool false)), (some (93, false)), 0, 0⟩, o_ 102 (.pick (.t 93) (.c (.bool true)) (.t 101))])
 (.cond (.t 102) (.seq (.reg [o_ 6 (.mv (.c (.bool false)))])
  .ret)
  (.skip)))
 (.seq (.seq (.reg [o_ 103 (.fieldAddr 0 (.t 7)), o_ 104 (.load none (.t 103))])
 (.block 0 (.seq (.reg [o_ 106 (.bin .eql (.t 104) (.c (.int .i64 1))), o_ 105 (.mv (.t 106))])
 (.cond (.t 105) (.seq (.reg [o_ 107 (.fieldAddr 5 (.t 7)), o_ 108 (.fieldAddr 0 (.t 107)), o_ 109 (.load none (.t 108)), o_ 110 (.bin .neq (.t 109) (.c (.int .i64 0))), o_ 6 (.mv (.t 110))])
  .ret)
  (.seq (.reg [o_ 112 (.bin .eql (.t 104) (.c (.int .i64 2))), o_ 111 (.mv (.t 112))])
  (.cond (.t 111) (.seq (.dreg [o_ 113 (.mv (.t 10)), o_ 114 (.bin .geq (.t 113) (.c (.int .i64 0))), o_ 115 (.mv (.t 114)), ⟨some 116, .fieldAddr 3 (.t 7), (some (115, true)), 0, 0⟩, ⟨some 117, .load none (.t 116), (some (115, true)), 0, 0⟩, ⟨some 118, .mv (.t 0), (some (115, true)), 0, 0⟩, ⟨some 119, .mv (.t 10), (some (115, true)), 0, 0⟩, ⟨some 120, .idxAddr 11 (.t 118) (.t 119), (some (115, true)), 0, 0⟩, ⟨some 121, .fieldAddr 2 (.t 120), (some (115, true)), 0, 0⟩, ⟨some 122, .load none (.t 121), (some (115, true)), 0, 0⟩, ⟨some 123, .bin .eql (.t 117) (.t 122), (some (115, true)), 0, 0⟩, o_ 124 (.pick (.t 115) (.t 123) (.c (.bool false))), o_ 6 (.mv (.t 124))])
   .ret)
   (.seq (.reg [o_ 126 (.bin .eql (.t 104) (.c (.int .i64 4))), o_ 125 (.mv (.t 126))])
   (.cond (.t 125) (.seq (.reg [o_ 127 (.mv (.t 10)), o_ 128 (.bin .lss (.t 127) (.c (.int .i64 0))), o_ 6 (.mv (.t 128))])
    .ret)
    (.skip)))))))))
 (.seq (.reg [o_ 6 (.mv (.c (.bool true)))])
 .ret))))))))), [.t 6]⟩
theorem c18 : ∃ fn, Try.prog.funcs[18]? = some fn ∧ compFn Try.prog fn = some a18 := ⟨_, Try.func18, by kernel_rfl⟩
def a19 : AFunc := ⟨23, (.seq (.reg [o_ 4 (.alloc [(.int .i64 0), (.int .i64 0), (.int .i64 0), (.int .i64 0), .nils, (.int .i64 0), (.int .i64 0), (.str []), (.str []), .nils, .nils]), o_ 5 (.mv (.c (.bool false)))])
 (.seq (.seq (.reg [o_ 8 (.mv (.t 0)), o_ 9 (.isNil 0 false (.t 8))])
 (.cond (.t 9) (.seq (.reg [o_ 10 (.build [(.int .i64 0), (.int .i64 0), (.int .i64 0), (.int .i64 0), .nils, (.int .i64 0), (.int .i64 0), (.str []), (.str []), .nils, .nils] []), ⟨none, .store 11 (.t 4) (.t 10), none, 0, 0⟩, o_ 5 (.mv (.c (.bool false)))])
  .ret)
  (.skip)))
 (.seq (.reg [o_ 12 (.mv (.t 0)), o_ 13 (.nilck (.t 12)), o_ 14 (.fieldAddr 1 (.t 13)), o_ 15 (.load none (.t 14)), o_ 16 (.mv (.t 1)), o_ 17 (.lookup (.agg [(.int .i64 0), (.int .i64 0), (.int .i64 0), (.int .i64 0), .nils, (.int .i64 0), (.int .i64 0), (.str []), (.str []), .nils, .nils]) 1 (.t 15) (.t 16) true), o_ 11 (.mv (.t 17)), o_ 18 (.extract (.t 11) 0), o_ 19 (.extract (.t 11) 1), o_ 6 (.alloc [(.int .i64 0), (.int .i64 0), (.int .i64 0), (.int .i64 0), .nils, (.int .i64 0), (.int .i64 0), (.str []), (.str []), .nils, .nils]), ⟨none, .store 11 (.t 6) (.t 18), none, 0, 0⟩, o_ 7 (.mv (.t 19))])
 (.seq (.reg [o_ 20 (.load (some 11) (.t 6)), o_ 21 (.call (.c (.fn (.func 29) [] [])) [(.t 20)]), o_ 22 (.mv (.t 7)), ⟨none, .store 11 (.t 4) (.t 21), none, 0, 0⟩, o_ 5 (.mv (.t 22))])
 .ret)))), [.cell 4 (some 11), .t 5]⟩
theorem c19 : ∃ fn, Try.prog.funcs[19]? = some fn ∧ compFn Try.prog fn = some a19 := ⟨_, Try.func19, by kernel_rfl⟩
def a23 : AFunc := ⟨14, (.seq (.reg [o_ 4 (.load none (.t 1)), o_ 5 (.bad)])
 (.block 0 (.loop (.seq (.reg [o_ 6 (.bad), o_ 7 (.extract (.t 6) 0)])
  (.seq (.cond (.t 7) (.skip)
   (.exit 0))
  (.block 1 (.seq (.reg [o_ 8 (.bad), o_ 9 (.extract (.t 8) 0), o_ 3 (.mv (.t 9))])
  (.seq (.reg [o_ 10 (.mv (.t 0)), o_ 11 (.mv (.t 3)), o_ 12 (.call (.t 10) [(.t 11)]), o_ 13 (.un .not (.t 12))])
  (.cond (.t 13) .ret
   (.skip)))))))))), []⟩
theorem c23 : ∃ fn, Try.prog.funcs[23]? = some fn ∧ compFn Try.prog fn = some a23 := ⟨_, Try.func23, by kernel_rfl⟩
def a24 : AFunc := ⟨65, (.seq (.reg [o_ 3 (.box (.t 1)), o_ 4 (.mv (.c (.bool false)))])
 (.seq (.seq (.reg [o_ 8 (.fieldAddr 1 (.t 3)), o_ 9 (.load none (.t 8)), o_ 10 (.bin .leq (.t 9) (.c (.int .i64 0)))])
 (.cond (.t 10) (.seq (.reg [o_ 4 (.mv (.c (.bool false)))])
  .ret)
  (.skip)))
 (.seq (.reg [o_ 11 (.mv (.t 0)), o_ 12 (.fieldAddr 1 (.t 3)), o_ 13 (.load none (.t 12)), o_ 14 (.call (.c (.fn (.func 26) [] [])) [(.t 11), (.t 13)]), o_ 5 (.mv (.t 14))])
 (.seq (.seq (.dreg [o_ 15 (.mv (.t 5)), o_ 16 (.nilck (.t 15)), o_ 17 (.fieldAddr 1 (.t 16)), o_ 18 (.load none (.t 17)), o_ 19 (.mv (.t 18)), ⟨some 20, .fieldAddr 2 (.t 3), (some (19, false)), 0, 0⟩, ⟨some 21, .load none (.t 20), (some (19, false)), 0, 0⟩, ⟨some 22, .mv (.t 5), (some (19, false)), 0, 0⟩, ⟨some 23, .nilck (.t 22), (some (19, false)), 0, 0⟩, ⟨some 24, .fieldAddr 0 (.t 23), (some (19, false)), 0, 0⟩, ⟨some 25, .load none (.t 24), (some (19, false)), 0, 0⟩, ⟨some 26, .bin .neq (.t 21) (.t 25), (some (19, false)), 0, 0⟩, o_ 27 (.pick (.t 19) (.c (.bool true)) (.t 26)), o_ 28 (.mv (.t 27)), ⟨some 29, .fieldAddr 0 (.t 3), (some (28, false)), 0, 0⟩, ⟨some 30, .load none (.t 29), (some (28, false)), 0, 0⟩, ⟨some 31, .bin .neq (.t 30) (.c (.int .i64 2)), (some (28, false)), 0, 0⟩, ⟨some 32, .mv (.t 31), (some (28, false)), 0, 0⟩, ⟨some 33, .fieldAddr 3 (.t 3), (some (32, true)), 0, 0⟩, ⟨some 34, .load none (.t 33), (some (32, true)), 0, 0⟩, ⟨some 35, .bin .neq (.t 34) (.c (.int .i64 0)), (some (32, true)), 0, 0⟩, ⟨some 36, .pick (.t 32) (.t 35) (.c (.bool false)), (some (28, false)), 0, 0⟩, o_ 37 (.pick (.t 28) (.c (.bool true)) (.t 36))])
 (.cond (.t 37) (.seq (.reg [o_ 4 (.mv (.c (.bool false)))])
  .ret)
  (.skip)))
 (.seq (.reg [o_ 39 (.mv (.t 5)), o_ 40 (.call (.c (.fn (.func 34) [] [])) [(.t 39)]), o_ 38 (.mv (.t 40)), o_ 41 (.extract (.t 38) 0), o_ 42 (.extract (.t 38) 1), o_ 6 (.alloc [(.int .i64 0), (.int .i64 0), (.int .i64 0), (.int .i64 0), .nils, (.int .i64 0), (.int .i64 0), (.str []), (.str []), .nils, .nils]), ⟨none, .store 11 (.t 6) (.t 41), none, 0, 0⟩, o_ 7 (.mv (.t 42))])
 (.seq (.seq (.reg [o_ 43 (.fieldAddr 0 (.t 3)), o_ 44 (.load none (.t 43))])
 (.block 0 (.seq (.reg [o_ 46 (.bin .eql (.t 44) (.c (.int .i64 1))), o_ 45 (.mv (.t 46))])
 (.cond (.t 45) (.seq (.reg [o_ 47 (.fieldAddr 5 (.t 3)), o_ 48 (.fieldAddr 0 (.t 47)), o_ 49 (.load none (.t 48)), o_ 50 (.bin .neq (.t 49) (.c (.int .i64 0))), o_ 4 (.mv (.t 50))])
  .ret)
  (.seq (.reg [o_ 52 (.bin .eql (.t 44) (.c (.int .i64 2))), o_ 51 (.mv (.t 52))])
  (.cond (.t 51) (.seq (.reg [o_ 53 (.mv (.t 7)), o_ 54 (.mv (.t 53)), ⟨some 55, .fieldAddr 3 (.t 3), (some (54, true)), 0, 0⟩, ⟨some 56, .load none (.t 55), (some (54, true)), 0, 0⟩, ⟨some 57, .fieldAddr 2 (.t 6), (some (54, true)), 0, 0⟩, ⟨some 58, .load none (.t 57), (some (54, true)), 0, 0⟩, ⟨some 59, .bin .eql (.t 56) (.t 58), (some (54, true)), 0, 0⟩, o_ 60 (.pick (.t 54) (.t 59) (.c (.bool false))), o_ 4 (.mv (.t 60))])
   .ret)
   (.seq (.reg [o_ 62 (.bin .eql (.t 44) (.c (.int .i64 4))), o_ 61 (.mv (.t 62))])
   (.cond (.t 61) (.seq (.reg [o_ 63 (.mv (.t 7)), o_ 64 (.un .not (.t 63)), o_ 4 (.mv (.t 64))])
    .ret)
    (.skip)))))))))
 (.seq (.reg [o_ 4 (.mv (.c (.bool true)))])
 .ret))))))), [.t 4]⟩
theorem c24 : ∃ fn, Try.prog.funcs[24]? = some fn ∧ compFn Try.prog fn = some a24 := ⟨_, Try.func24, by kernel_rfl⟩
def a25 : AFunc := ⟨83, (.seq (.reg [o_ 4 (.mv (.c (.bool false)))])
 (.seq (.reg [o_ 11 (.mkmap), o_ 5 (.mv (.t 11))])
 (.seq (.seq (.reg [o_ 12 (.mv (.t 1)), o_ 13 (.len 1 (.t 12)), o_ 14 (.mv (.c (.int .i64 0)))])
 (.block 0 (.loop (.seq (.reg [o_ 15 (.bin .lss (.t 14) (.t 13))])
  (.seq (.cond (.t 15) (.skip)
   (.exit 0))
  (.seq (.block 1 (.seq (.reg [o_ 16 (.mv (.t 14)), o_ 17 (.idxAddr 2 (.t 12) (.t 14)), o_ 18 (.load (some 2) (.t 17)), o_ 7 (.alloc [(.int .i64 0), (.int .i64 0)]), o_ 6 (.mv (.t 16)), ⟨none, .store 2 (.t 7) (.t 18), none, 0, 0⟩])
  (.seq (.reg [o_ 19 (.mv (.t 0)), o_ 20 (.fieldAddr 0 (.t 7)), o_ 21 (.load none (.t 20)), o_ 22 (.call (.c (.fn (.func 26) [] [])) [(.t 19), (.t 21)]), o_ 8 (.mv (.t 22))])
  (.seq (.seq (.dreg [o_ 23 (.mv (.t 6)), o_ 24 (.bin .gtr (.t 23) (.c (.int .i64 0))), o_ 25 (.mv (.t 24)), ⟨some 26, .mv (.t 1), (some (25, true)), 0, 0⟩, ⟨some 27, .mv (.t 6), (some (25, true)), 0, 0⟩, ⟨some 28, .bin .sub (.t 27) (.c (.int .i64 1)), (some (25, true)), 0, 0⟩, ⟨some 29, .idxAddr 2 (.t 26) (.t 28), (some (25, true)), 0, 0⟩, ⟨some 30, .fieldAddr 0 (.t 29), (some (25, true)), 0, 0⟩, ⟨some 31, .load none (.t 30), (some (25, true)), 0, 0⟩, ⟨some 32, .fieldAddr 0 (.t 7), (some (25, true)), 0, 0⟩, ⟨some 33, .load none (.t 32), (some (25, true)), 0, 0⟩, ⟨some 34, .bin .geq (.t 31) (.t 33), (some (25, true)), 0, 0⟩, o_ 35 (.pick (.t 25) (.t 34) (.c (.bool false))), o_ 36 (.mv (.t 35)), ⟨some 37, .mv (.t 8), (some (36, false)), 0, 0⟩, ⟨some 38, .nilck (.t 37), (some (36, false)), 0, 0⟩, ⟨some 39, .fieldAddr 1 (.t 38), (some (36, false)), 0, 0⟩, ⟨some 40, .load none (.t 39), (some (36, false)), 0, 0⟩, o_ 41 (.pick (.t 36) (.c (.bool true)) (.t 40)), o_ 42 (.mv (.t 41)), ⟨some 43, .mv (.t 8), (some (42, false)), 0, 0⟩, ⟨some 44, .nilck (.t 43), (some (42, false)), 0, 0⟩, ⟨some 45, .fieldAddr 0 (.t 44), (some (42, false)), 0, 0⟩, ⟨some 46, .load none (.t 45), (some (42, false)), 0, 0⟩, ⟨some 47, .fieldAddr 1 (.t 7), (some (42, false)), 0, 0⟩, ⟨some 48, .load none (.t 47), (some (42, false)), 0, 0⟩, ⟨some 49, .bin .neq (.t 46) (.t 48), (some (42, false)), 0, 0⟩, o_ 50 (.pick (.t 42) (.c (.bool true)) (.t 49))])
  (.cond (.t 50) (.seq (.reg [o_ 4 (.mv (.c (.bool false)))])
   .ret)
   (.skip)))
  (.reg [o_ 51 (.mv (.t 5)), o_ 52 (.fieldAddr 0 (.t 7)), o_ 53 (.load none (.t 52)), ⟨none, .mapUpd 1 (.t 51) (.t 53) (.c (.bool true)), none, 0, 0⟩])))))
  (.reg [o_ 54 (.bin .add (.t 14) (.c (.int .i64 1))), o_ 14 (.mv (.t 54))])))))))
 (.seq (.seq (.reg [o_ 55 (.mv (.t 0)), o_ 56 (.nilck (.t 55)), o_ 57 (.fieldAddr 1 (.t 56)), o_ 58 (.load none (.t 57)), o_ 59 (.bad)])
 (.block 2 (.loop (.seq (.reg [o_ 60 (.bad), o_ 61 (.extract (.t 60) 0)])
  (.seq (.cond (.t 61) (.skip)
   (.exit 2))
  (.block 3 (.seq (.reg [o_ 62 (.bad), o_ 63 (.extract (.t 62) 0), o_ 64 (.extract (.t 62) 1), o_ 9 (.mv (.t 63)), o_ 10 (.mv (.t 64))])
  (.seq (.reg [o_ 65 (.mv (.t 10)), o_ 66 (.nilck (.t 65)), o_ 67 (.fieldAddr 0 (.t 66)), o_ 68 (.load none (.t 67)), o_ 69 (.bin .gtr (.t 68) (.c (.int .i64 0))), o_ 70 (.mv (.t 69)), ⟨some 71, .mv (.t 10), (some (70, true)), 0, 0⟩, ⟨some 72, .nilck (.t 71), (some (70, true)), 0, 0⟩, ⟨some 73, .fieldAddr 1 (.t 72), (some (70, true)), 0, 0⟩, ⟨some 74, .load none (.t 73), (some (70, true)), 0, 0⟩, ⟨some 75, .un .not (.t 74), (some (70, true)), 0, 0⟩, o_ 76 (.pick (.t 70) (.t 75) (.c (.bool false))), o_ 77 (.mv (.t 76)), ⟨some 78, .mv (.t 5), (some (77, true)), 0, 0⟩, ⟨some 79, .mv (.t 9), (some (77, true)), 0, 0⟩, ⟨some 80, .lookup (.bool false) 1 (.t 78) (.t 79) false, (some (77, true)), 0, 0⟩, ⟨some 81, .un .not (.t 80), (some (77, true)), 0, 0⟩, o_ 82 (.pick (.t 77) (.t 81) (.c (.bool false)))])
  (.cond (.t 82) (.seq (.reg [o_ 4 (.mv (.c (.bool false)))])
   .ret)
   (.skip))))))))))
 (.seq (.reg [o_ 4 (.mv (.c (.bool true)))])
 .ret))))), [.t 4]⟩
theorem c25 : ∃ fn, Try.prog.funcs[25]? = some fn ∧ compFn Try.prog fn = some a25 := ⟨_, Try.func25, by kernel_rfl⟩
def a26 : AFunc := ⟨24, (.seq (.reg [o_ 4 (.mv (.c .nilp))])
 (.seq (.reg [o_ 6 (.mv (.t 0)), o_ 7 (.nilck (.t 6)), o_ 8 (.fieldAddr 1 (.t 7)), o_ 9 (.load none (.t 8)), o_ 10 (.mv (.t 1)), o_ 11 (.lookup .nilp 1 (.t 9) (.t 10) false), o_ 5 (.mv (.t 11))])
 (.seq (.seq (.reg [o_ 12 (.mv (.t 5)), o_ 13 (.isNil 0 false (.t 12))])
 (.cond (.t 13) (.seq (.reg [o_ 14 (.mkmap), o_ 15 (.build [(.int .i64 0), (.bool false), .nilm] [(2, 1, (.t 14))]), o_ 16 (.box (.t 15)), o_ 5 (.mv (.t 16))])
  (.reg [o_ 17 (.mv (.t 0)), o_ 18 (.nilck (.t 17)), o_ 19 (.fieldAddr 1 (.t 18)), o_ 20 (.load none (.t 19)), o_ 21 (.mv (.t 1)), o_ 22 (.mv (.t 5)), ⟨none, .mapUpd 1 (.t 20) (.t 21) (.t 22), none, 0, 0⟩]))
  (.skip)))
 (.seq (.reg [o_ 23 (.mv (.t 5)), o_ 4 (.mv (.t 23))])
 .ret)))), [.t 4]⟩
theorem c26 : ∃ fn, Try.prog.funcs[26]? = some fn ∧ compFn Try.prog fn = some a26 := ⟨_, Try.func26, by kernel_rfl⟩
def a27 : AFunc := ⟨115, (.seq (.reg [o_ 6 (.mv (.c (.bool false)))])
 (.seq (.reg [o_ 18 (.mv (.t 0)), o_ 19 (.mv (.t 2)), o_ 20 (.idxAddr 11 (.t 18) (.t 19)), o_ 21 (.fieldAddr 9 (.t 20)), o_ 22 (.load none (.t 21)), o_ 7 (.mv (.t 22))])
 (.seq (.seq (.reg [o_ 8 (.mv (.c (.int .i64 0)))])
 (.block 0 (.loop (.seq (.seq (.reg [o_ 23 (.mv (.t 8)), o_ 24 (.mv (.t 7)), o_ 25 (.len 1 (.t 24)), o_ 26 (.bin .lss (.t 23) (.t 25))])
  (.cond (.t 26) (.skip)
   (.exit 0)))
  (.seq (.block 1 (.seq (.seq (.dreg [o_ 29 (.mv (.t 8)), o_ 30 (.bin .gtr (.t 29) (.c (.int .i64 0))), o_ 31 (.mv (.t 30)), ⟨some 32, .mv (.t 7), (some (31, true)), 0, 0⟩, ⟨some 33, .mv (.t 8), (some (31, true)), 0, 0⟩, ⟨some 34, .bin .sub (.t 33) (.c (.int .i64 1)), (some (31, true)), 0, 0⟩, ⟨some 35, .idxAddr 2 (.t 32) (.t 34), (some (31, true)), 0, 0⟩, ⟨some 36, .fieldAddr 0 (.t 35), (some (31, true)), 0, 0⟩, ⟨some 37, .load none (.t 36), (some (31, true)), 0, 0⟩, ⟨some 38, .mv (.t 7), (some (31, true)), 0, 0⟩, ⟨some 39, .mv (.t 8), (some (31, true)), 0, 0⟩, ⟨some 40, .idxAddr 2 (.t 38) (.t 39), (some (31, true)), 0, 0⟩, ⟨some 41, .fieldAddr 0 (.t 40), (some (31, true)), 0, 0⟩, ⟨some 42, .load none (.t 41), (some (31, true)), 0, 0⟩, ⟨some 43, .bin .geq (.t 37) (.t 42), (some (31, true)), 0, 0⟩, o_ 44 (.pick (.t 31) (.t 43) (.c (.bool false)))])
  (.cond (.t 44) (.seq (.reg [o_ 6 (.mv (.c (.bool false)))])
   .ret)
   (.skip)))
  (.seq (.reg [o_ 46 (.mv (.t 0)), o_ 47 (.mv (.t 1)), o_ 48 (.mv (.t 2)), o_ 49 (.mv (.t 7)), o_ 50 (.mv (.t 8)), o_ 51 (.idxAddr 2 (.t 49) (.t 50)), o_ 52 (.fieldAddr 0 (.t 51)), o_ 53 (.load none (.t 52)), o_ 54 (.call (.c (.fn (.func 28) [] [])) [(.t 46), (.t 47), (.t 48), (.t 53)]), o_ 45 (.mv (.t 54)), o_ 55 (.extract (.t 45) 0), o_ 56 (.extract (.t 45) 1), o_ 57 (.extract (.t 45) 2), o_ 9 (.mv (.t 55)), o_ 10 (.mv (.t 56)), o_ 11 (.mv (.t 57))])
  (.seq (.reg [o_ 58 (.mv (.t 10)), o_ 59 (.mv (.t 58)), ⟨some 60, .mv (.t 9), (some (59, false)), 0, 0⟩, ⟨some 61, .mv (.t 7), (some (59, false)), 0, 0⟩, ⟨some 62, .mv (.t 8), (some (59, false)), 0, 0⟩, ⟨some 63, .idxAddr 2 (.t 61) (.t 62), (some (59, false)), 0, 0⟩, ⟨some 64, .fieldAddr 1 (.t 63), (some (59, false)), 0, 0⟩, ⟨some 65, .load none (.t 64), (some (59, false)), 0, 0⟩, ⟨some 66, .bin .neq (.t 60) (.t 65), (some (59, false)), 0, 0⟩, o_ 67 (.pick (.t 59) (.c (.bool true)) (.t 66))])
  (.cond (.t 67) (.seq (.reg [o_ 6 (.mv (.c (.bool false)))])
   .ret)
   (.skip))))))
  (.reg [o_ 27 (.mv (.t 8)), o_ 28 (.bin .add (.t 27) (.c (.int .i64 1))), o_ 8 (.mv (.t 28))]))))))
 (.seq (.seq (.reg [o_ 12 (.mv (.c (.int .i64 0)))])
 (.block 2 (.loop (.seq (.seq (.reg [o_ 68 (.mv (.t 12)), o_ 69 (.mv (.t 2)), o_ 70 (.bin .lss (.t 68) (.t 69))])
  (.cond (.t 70) (.skip)
   (.exit 2)))
  (.seq (.block 3 (.seq (.seq (.reg [o_ 73 (.mv (.t 0)), o_ 74 (.mv (.t 12)), o_ 75 (.idxAddr 11 (.t 73) (.t 74)), o_ 76 (.load (some 11) (.t 75)), o_ 77 (.call (.c (.fn (.func 15) [] [])) [(.t 76)]), o_ 78 (.un .not (.t 77))])
  (.cond (.t 78) (.exit 3)
   (.skip)))
  (.seq (.reg [o_ 80 (.mv (.t 0)), o_ 81 (.mv (.t 1)), o_ 82 (.mv (.t 2)), o_ 83 (.mv (.t 0)), o_ 84 (.mv (.t 12)), o_ 85 (.idxAddr 11 (.t 83) (.t 84)), o_ 86 (.fieldAddr 1 (.t 85)), o_ 87 (.load none (.t 86)), o_ 88 (.call (.c (.fn (.func 28) [] [])) [(.t 80), (.t 81), (.t 82), (.t 87)]), o_ 79 (.mv (.t 88)), o_ 89 (.extract (.t 79) 0), o_ 90 (.extract (.t 79) 1), o_ 91 (.extract (.t 79) 2), o_ 13 (.mv (.t 89)), o_ 14 (.mv (.t 90)), o_ 15 (.mv (.t 91))])
  (.seq (.reg [o_ 92 (.mv (.t 14)), o_ 16 (.mv (.t 92))])
  (.seq (.seq (.reg [o_ 17 (.mv (.c (.int .i64 0)))])
  (.block 4 (.loop (.seq (.seq (.reg [o_ 93 (.mv (.t 17)), o_ 94 (.mv (.t 7)), o_ 95 (.len 1 (.t 94)), o_ 96 (.bin .lss (.t 93) (.t 95))])
   (.cond (.t 96) (.skip)
    (.exit 4)))
   (.seq (.block 5 (.dreg [o_ 99 (.mv (.t 16)), o_ 100 (.mv (.t 99)), ⟨some 101, .mv (.t 7), (some (100, false)), 0, 0⟩, ⟨some 102, .mv (.t 17), (some (100, false)), 0, 0⟩, ⟨some 103, .idxAddr 2 (.t 101) (.t 102), (some (100, false)), 0, 0⟩, ⟨some 104, .fieldAddr 0 (.t 103), (some (100, false)), 0, 0⟩, ⟨some 105, .load none (.t 104), (some (100, false)), 0, 0⟩, ⟨some 106, .mv (.t 0), (some (100, false)), 0, 0⟩, ⟨some 107, .mv (.t 12), (some (100, false)), 0, 0⟩, ⟨some 108, .idxAddr 11 (.t 106) (.t 107), (some (100, false)), 0, 0⟩, ⟨some 109, .fieldAddr 1 (.t 108), (some (100, false)), 0, 0⟩, ⟨some 110, .load none (.t 109), (some (100, false)), 0, 0⟩, ⟨some 111, .bin .eql (.t 105) (.t 110), (some (100, false)), 0, 0⟩, o_ 112 (.pick (.t 100) (.c (.bool true)) (.t 111)), o_ 16 (.mv (.t 112))]))
   (.reg [o_ 97 (.mv (.t 17)), o_ 98 (.bin .add (.t 97) (.c (.int .i64 1))), o_ 17 (.mv (.t 98))]))))))
  (.seq (.reg [o_ 113 (.mv (.t 16)), o_ 114 (.un .not (.t 113))])
  (.cond (.t 114) (.seq (.reg [o_ 6 (.mv (.c (.bool false)))])
   .ret)
   (.skip))))))))
  (.reg [o_ 71 (.mv (.t 12)), o_ 72 (.bin .add (.t 71) (.c (.int .i64 1))), o_ 12 (.mv (.t 72))]))))))
 (.seq (.reg [o_ 6 (.mv (.c (.bool true)))])
 .ret))))), [.t 6]⟩
theorem c27 : ∃ fn, Try.prog.funcs[27]? = some fn ∧ compFn Try.prog fn = some a27 := ⟨_, Try.func27, by kernel_rfl⟩
def a28 : AFunc := ⟨112, (.seq (.reg [o_ 8 (.mv (.c (.int .i64 0))), o_ 9 (.mv (.c (.bool false))), o_ 10 (.mv (.c (.int .i64 0)))])
 (.seq (.reg [o_ 11 (.mv (.c (.int .i64 0)))])
 (.seq (.reg [o_ 12 (.mv (.c (.bool false)))])
 (.seq (.seq (.reg [o_ 13 (.mv (.c (.int .i64 0)))])
 (.block 0 (.loop (.seq (.seq (.reg [o_ 18 (.mv (.t 13)), o_ 19 (.mv (.t 2)), o_ 20 (.bin .lss (.t 18) (.t 19))])
  (.cond (.t 20) (.skip)
   (.exit 0)))
  (.seq (.block 1 (.seq (.reg [o_ 23 (.mv (.t 0)), o_ 24 (.mv (.t 13)), o_ 25 (.idxAddr 11 (.t 23) (.t 24)), o_ 26 (.load (some 11) (.t 25)), o_ 27 (.call (.c (.fn (.func 15) [] [])) [(.t 26)]), o_ 28 (.mv (.t 27)), ⟨some 29, .mv (.t 0), (some (28, true)), 0, 0⟩, ⟨some 30, .mv (.t 13), (some (28, true)), 0, 0⟩, ⟨some 31, .idxAddr 11 (.t 29) (.t 30), (some (28, true)), 0, 0⟩, ⟨some 32, .fieldAddr 1 (.t 31), (some (28, true)), 0, 0⟩, ⟨some 33, .load none (.t 32), (some (28, true)), 0, 0⟩, ⟨some 34, .mv (.t 3), (some (28, true)), 0, 0⟩, ⟨some 35, .bin .eql (.t 33) (.t 34), (some (28, true)), 0, 0⟩, o_ 36 (.pick (.t 28) (.t 35) (.c (.bool false)))])
  (.cond (.t 36) (.seq (.reg [o_ 37 (.mv (.t 1)), o_ 38 (.mv (.t 13)), o_ 39 (.idxAddr 1 (.t 37) (.t 38)), o_ 40 (.load none (.t 39)), o_ 11 (.mv (.t 40))])
   (.reg [o_ 41 (.mv (.t 12)), o_ 42 (.mv (.t 41)), ⟨some 43, .mv (.t 0), (some (42, false)), 0, 0⟩, ⟨some 44, .mv (.t 13), (some (42, false)), 0, 0⟩, ⟨some 45, .idxAddr 11 (.t 43) (.t 44), (some (42, false)), 0, 0⟩, ⟨some 46, .fieldAddr 0 (.t 45), (some (42, false)), 0, 0⟩, ⟨some 47, .load none (.t 46), (some (42, false)), 0, 0⟩, ⟨some 48, .bin .geq (.t 47) (.c (.int .i64 3)), (some (42, false)), 0, 0⟩, o_ 49 (.pick (.t 42) (.c (.bool true)) (.t 48)), o_ 12 (.mv (.t 49))]))
   (.skip))))
  (.reg [o_ 21 (.mv (.t 13)), o_ 22 (.bin .add (.t 21) (.c (.int .i64 1))), o_ 13 (.mv (.t 22))]))))))
 (.seq (.reg [o_ 50 (.mv (.t 11)), o_ 14 (.mv (.t 50))])
 (.seq (.seq (.reg [o_ 15 (.mv (.c (.int .i64 0)))])
 (.block 2 (.loop (.seq (.seq (.reg [o_ 51 (.mv (.t 15)), o_ 52 (.mv (.t 2)), o_ 53 (.bin .leq (.t 51) (.t 52))])
  (.cond (.t 53) (.skip)
   (.exit 2)))
  (.seq (.block 3 (.seq (.reg [o_ 16 (.mv (.c (.int .i64 (-1))))])
  (.seq (.seq (.reg [o_ 17 (.mv (.c (.int .i64 0)))])
  (.block 4 (.loop (.seq (.seq (.reg [o_ 56 (.mv (.t 17)), o_ 57 (.mv (.t 2)), o_ 58 (.bin .lss (.t 56) (.t 57))])
   (.cond (.t 58) (.skip)
    (.exit 4)))
   (.seq (.block 5 (.seq (.reg [o_ 61 (.mv (.t 0)), o_ 62 (.mv (.t 17)), o_ 63 (.idxAddr 11 (.t 61) (.t 62)), o_ 64 (.load (some 11) (.t 63)), o_ 65 (.call (.c (.fn (.func 15) [] [])) [(.t 64)]), o_ 66 (.mv (.t 65)), ⟨some 67, .mv (.t 0), (some (66, true)), 0, 0⟩, ⟨some 68, .mv (.t 17), (some (66, true)), 0, 0⟩, ⟨some 69, .idxAddr 11 (.t 67) (.t 68), (some (66, true)), 0, 0⟩, ⟨some 70, .fieldAddr 1 (.t 69), (some (66, true)), 0, 0⟩, ⟨some 71, .load none (.t 70), (some (66, true)), 0, 0⟩, ⟨some 72, .mv (.t 3), (some (66, true)), 0, 0⟩, ⟨some 73, .bin .eql (.t 71) (.t 72), (some (66, true)), 0, 0⟩, o_ 74 (.pick (.t 66) (.t 73) (.c (.bool false))), o_ 75 (.mv (.t 74)), ⟨some 76, .mv (.t 1), (some (75, true)), 0, 0⟩, ⟨some 77, .mv (.t 17), (some (75, true)), 0, 0⟩, ⟨some 78, .idxAddr 1 (.t 76) (.t 77), (some (75, true)), 0, 0⟩, ⟨some 79, .load none (.t 78), (some (75, true)), 0, 0⟩, ⟨some 80, .mv (.t 14), (some (75, true)), 0, 0⟩, ⟨some 81, .bin .eql (.t 79) (.t 80), (some (75, true)), 0, 0⟩, o_ 82 (.pick (.t 75) (.t 81) (.c (.bool false)))])
   (.cond (.t 82) (.reg [o_ 83 (.mv (.t 17)), o_ 16 (.mv (.t 83))])
    (.skip))))
   (.reg [o_ 59 (.mv (.t 17)), o_ 60 (.bin .add (.t 59) (.c (.int .i64 1))), o_ 17 (.mv (.t 60))]))))))
  (.seq (.seq (.reg [o_ 84 (.mv (.t 16)), o_ 85 (.bin .lss (.t 84) (.c (.int .i64 0)))])
  (.cond (.t 85) (.seq (.reg [o_ 86 (.mv (.t 11)), o_ 87 (.mv (.t 12)), o_ 8 (.mv (.t 86)), o_ 9 (.mv (.t 87)), o_ 10 (.mv (.c (.int .i64 (-1))))])
   .ret)
   (.skip)))
  (.seq (.seq (.reg [o_ 88 (.mv (.t 0)), o_ 89 (.mv (.t 16)), o_ 90 (.idxAddr 11 (.t 88) (.t 89)), o_ 91 (.fieldAddr 0 (.t 90)), o_ 92 (.load none (.t 91)), o_ 93 (.bin .neq (.t 92) (.c (.int .i64 2)))])
  (.cond (.t 93) (.seq (.seq (.reg [o_ 94 (.mv (.t 0)), o_ 95 (.mv (.t 16)), o_ 96 (.idxAddr 11 (.t 94) (.t 95)), o_ 97 (.fieldAddr 0 (.t 96)), o_ 98 (.load none (.t 97)), o_ 99 (.bin .eql (.t 98) (.c (.int .i64 1)))])
   (.cond (.t 99) (.seq (.reg [o_ 100 (.mv (.t 11)), o_ 101 (.mv (.t 12)), o_ 102 (.mv (.t 16)), o_ 8 (.mv (.t 100)), o_ 9 (.mv (.t 101)), o_ 10 (.mv (.t 102))])
    .ret)
    (.skip)))
   (.seq (.reg [o_ 103 (.mv (.t 11)), o_ 104 (.mv (.t 12)), o_ 8 (.mv (.t 103)), o_ 9 (.mv (.t 104)), o_ 10 (.mv (.c (.int .i64 (-1))))])
   .ret))
   (.skip)))
  (.reg [o_ 105 (.mv (.t 0)), o_ 106 (.mv (.t 16)), o_ 107 (.idxAddr 11 (.t 105) (.t 106)), o_ 108 (.fieldAddr 3 (.t 107)), o_ 109 (.load none (.t 108)), o_ 14 (.mv (.t 109))]))))))
  (.reg [o_ 54 (.mv (.t 15)), o_ 55 (.bin .add (.t 54) (.c (.int .i64 1))), o_ 15 (.mv (.t 55))]))))))
 (.seq (.reg [o_ 110 (.mv (.t 11)), o_ 111 (.mv (.t 12)), o_ 8 (.mv (.t 110)), o_ 9 (.mv (.t 111)), o_ 10 (.mv (.c (.int .i64 (-1))))])
 .ret))))))), [.t 8, .t 9, .t 10]⟩
theorem c28 : ∃ fn, Try.prog.funcs[28]? = some fn ∧ compFn Try.prog fn = some a28 := ⟨_, Try.func28, by kernel_rfl⟩
def a34 : AFunc := ⟨46, (.seq (.reg [o_ 2 (.alloc [(.int .i64 0), (.int .i64 0), (.int .i64 0), (.int .i64 0), .nils, (.int .i64 0), (.int .i64 0), (.str []), (.str []), .nils, .nils]), o_ 3 (.mv (.c (.bool false)))])
 (.seq (.reg [o_ 7 (.mv (.t 0)), o_ 8 (.nilck (.t 7)), o_ 9 (.fieldAddr 0 (.t 8)), o_ 10 (.load none (.t 9)), o_ 4 (.mv (.t 10))])
 (.seq (.seq (.reg [o_ 11 (.mv (.t 0)), o_ 12 (.nilck (.t 11)), o_ 13 (.fieldAddr 2 (.t 12)), o_ 14 (.load none (.t 13)), o_ 15 (.len 2 (.t 14)), o_ 16 (.bin .add (.t 15) (.c (.int .i64 1))), o_ 17 (.mv (.c (.int .i64 0)))])
 (.block 0 (.loop (.seq (.reg [o_ 18 (.bin .lss (.t 17) (.t 16))])
  (.seq (.cond (.t 18) (.skip)
   (.exit 0))
  (.seq (.block 1 (.seq (.reg [o_ 20 (.mv (.t 0)), o_ 21 (.nilck (.t 20)), o_ 22 (.fieldAddr 2 (.t 21)), o_ 23 (.load none (.t 22)), o_ 24 (.mv (.t 4)), o_ 25 (.lookup (.agg [(.int .i64 0), (.int .i64 0), (.int .i64 0), (.int .i64 0), .nils, (.int .i64 0), (.int .i64 0), (.str []), (.str []), .nils, .nils]) 1 (.t 23) (.t 24) true), o_ 19 (.mv (.t 25)), o_ 26 (.extract (.t 19) 0), o_ 27 (.extract (.t 19) 1), o_ 5 (.alloc [(.int .i64 0), (.int .i64 0), (.int .i64 0), (.int .i64 0), .nils, (.int .i64 0), (.int .i64 0), (.str []), (.str []), .nils, .nils]), ⟨none, .store 11 (.t 5) (.t 26), none, 0, 0⟩, o_ 6 (.mv (.t 27))])
  (.seq (.block 2 (.seq (.reg [o_ 29 (.mv (.t 6)), o_ 30 (.un .not (.t 29)), o_ 31 (.mv (.t 30)), ⟨some 32, .fieldAddr 0 (.t 5), (some (31, false)), 0, 0⟩, ⟨some 33, .load none (.t 32), (some (31, false)), 0, 0⟩, ⟨some 34, .bin .gtr (.t 33) (.c (.int .i64 2)), (some (31, false)), 0, 0⟩, o_ 35 (.pick (.t 31) (.c (.bool true)) (.t 34)), o_ 28 (.mv (.t 35))])
  (.cond (.t 28) (.seq (.reg [o_ 36 (.build [(.int .i64 0), (.int .i64 0), (.int .i64 0), (.int .i64 0), .nils, (.int .i64 0), (.int .i64 0), (.str []), (.str []), .nils, .nils] []), ⟨none, .store 11 (.t 2) (.t 36), none, 0, 0⟩, o_ 3 (.mv (.c (.bool false)))])
   .ret)
   (.seq (.reg [o_ 38 (.fieldAddr 0 (.t 5)), o_ 39 (.load none (.t 38)), o_ 40 (.bin .eql (.t 39) (.c (.int .i64 1))), o_ 37 (.mv (.t 40))])
   (.cond (.t 37) (.seq (.reg [o_ 41 (.load (some 11) (.t 5)), ⟨none, .store 11 (.t 2) (.t 41), none, 0, 0⟩, o_ 3 (.mv (.c (.bool true)))])
    .ret)
    (.skip))))))
  (.reg [o_ 42 (.fieldAddr 3 (.t 5)), o_ 43 (.load none (.t 42)), o_ 4 (.mv (.t 43))]))))
  (.reg [o_ 44 (.bin .add (.t 17) (.c (.int .i64 1))), o_ 17 (.mv (.t 44))])))))))
 (.seq (.reg [o_ 45 (.build [(.int .i64 0), (.int .i64 0), (.int .i64 0), (.int .i64 0), .nils, (.int .i64 0), (.int .i64 0), (.str []), (.str []), .nils, .nils] []), ⟨none, .store 11 (.t 2) (.t 45), none, 0, 0⟩, o_ 3 (.mv (.c (.bool false)))])
 .ret)))), [.cell 2 (some 11), .t 3]⟩
theorem c34 : ∃ fn, Try.prog.funcs[34]? = some fn ∧ compFn Try.prog fn = some a34 := ⟨_, Try.func34, by kernel_rfl⟩
open Go
def tree : Tr := (.br (.br (.br (.br (.node 3 a3) 4 (.node 4 a4)) 5 (.br (.node 5 a5) 6 (.br (.node 6 a6) 7 (.node 7 a7)))) 8 (.br (.br (.node 8 a8) 9 (.br (.node 9 a9) 10 (.node 10 a10))) 11 (.br (.node 11 a11) 12 (.br (.node 12 a12) 14 (.node 14 a14))))) 15 (.br (.br (.br (.node 15 a15) 16 (.br (.node 16 a16) 17 (.node 17 a17))) 18 (.br (.node 18 a18) 19 (.br (.node 19 a19) 23 (.node 23 a23)))) 24 (.br (.br (.node 24 a24) 25 (.br (.node 25 a25) 26 (.node 26 a26))) 27 (.br (.node 27 a27) 28 (.br (.node 28 a28) 34 (.node 34 a34))))))
theorem all : tree.All Try.prog := ⟨⟨⟨⟨c3, c4⟩, ⟨c5, ⟨c6, c7⟩⟩⟩, ⟨⟨c8, ⟨c9, c10⟩⟩, ⟨c11, ⟨c12, c14⟩⟩⟩⟩, ⟨⟨⟨c15, ⟨c16, c17⟩⟩, ⟨c18, ⟨c19, c23⟩⟩⟩, ⟨⟨c24, ⟨c25, c26⟩⟩, ⟨c27, ⟨c28, c34⟩⟩⟩⟩⟩
open Go
structure Rec where
 k : Int
 deal : Int
 prev : Int
 next : Int
 pages : AV
 uk : Int
 ut : Int
 uy : List UInt8
 uv : List UInt8
 opv : AV
 dirty : AV
 op : List (Int × Int)
abbrev enO (o : Int × Int) : AV := .agg [.int .i64 o.1, .int .i64 o.2]
def OpIs (v : AV) (l : List (Int × Int)) : Prop := (v = .nils ∧ l = []) ∨ ∃ ex, v = .ro (l.map enO) 2 ex
def enR (r : Rec) : List AV := [.int .i64 r.k, .int .i64 r.deal, .int .i64 r.prev, .int .i64 r.next, r.pages, .int .i64 r.uk, .int .i64 r.ut, .str r.uy, .str r.uv, r.opv, r.dirty]
structure Stm where
 st : Int
 r : Rec
def enS (s : Stm) : List AV := .int .i64 s.st :: enR s.r
def zR : Rec := ⟨0, 0, 0, 0, .nils, 0, 0, [], [], .nils, .nils, []⟩
structure One (r : Rec) : Prop where
 pages : r.pages.one = true
 op : OpIs r.opv r.op
 dirty : r.dirty.one = true
theorem One.opv {r : Rec} (h : One r) : r.opv.one = true := by
 rcases h.op with ⟨h, _⟩ | ⟨ex, h⟩ <;> rw [h] <;> rfl
theorem One.all {r : Rec} (h : One r) : (enR r).all AV.one = true := by
 simp only [enR, List.all_cons, List.all_nil, h.pages, h.opv, h.dirty, Bool.and_true, Bool.true_and]
 rfl
theorem One.all' {r : Rec} (h : One r) : (AV.agg (enR r)).cells.all AV.one = true := h.all
theorem One.zero : One zR := ⟨rfl, .inl ⟨rfl, rfl⟩, rfl⟩
def isOwn (r : Rec) : Bool := decide (1 ≤ r.k) && decide (r.k ≤ 4)
def own (l : List Stm) (id : Int) : List Stm := l.filter fun s => isOwn s.r && decide (s.r.deal = id)
def lastOf (f : List Stm) : Int := match f.getLast? with
 | some s => s.st
 | none => 0
def endOf (f : List Stm) : Bool := match f.getLast? with
 | some s => decide (3 ≤ s.r.k)
 | none => false
def atOf (f : List Stm) (n : Int) : Option Stm := f.find? fun s => s.st == n
def nx (f : List Stm) : Nat → Int → Option Rec
 | 0, _ => none
 | n + 1, a => match atOf f a with
  | none => none
  | some s => if s.r.k > 2 then none else if s.r.k = 1 then some s.r else nx f n s.r.next
def nextOf (f : List Stm) : Option Rec := nx f (f.length + 1) (lastOf f)
def undoB : Option Rec → Rec → Bool
 | some u, r => r.next == u.prev
 | none, _ => false
def dealB (f : List Stm) (r : Rec) : Bool :=
 if endOf f = true then false else if r.prev ≠ lastOf f then false else if r.k ≠ 2 ∧ r.next ≠ 0 then false else
 if r.k = 1 then decide (r.uk ≠ 0) else
 if r.k = 2 then undoB (nextOf f) r else
 if r.k = 4 then (nextOf f).isNone else true
theorem nx_mem {f : List Stm} : ∀ {n : Nat} {a : Int} {w : Rec}, nx f n a = some w → ∃ s ∈ f, s.r = w
 | 0, _, _, h => by cases h
 | n + 1, a, w, h => by
  rw [nx] at h
  cases hat : atOf f a with
  | none => rw [hat] at h; cases h
  | some s =>
   rw [hat] at h
   simp only at h
   split at h
   ·cases h
   ·split at h
    ·cases h; exact ⟨s, List.mem_of_find?_eq_some hat, rfl⟩
    ·exact nx_mem h
def openB (pre : List Stm) : Option Int → List (Int × Int) → Bool
 | _, [] => true
 | p, o :: r => !(match p with | some x => decide (x ≥ o.1) | none => false) && (!endOf (own pre o.1) && (decide (lastOf (own pre o.1) = o.2) && openB pre (some o.1) r))
def toldB (pre : List Stm) (op : List (Int × Int)) (s : Stm) : Bool := !isOwn s.r || (!decide (lastOf (own pre s.r.deal) > 0) || (endOf (own pre s.r.deal) || op.any fun o => decide (o.1 = s.r.deal)))
def markB (pre : List Stm) (op : List (Int × Int)) : Bool := openB pre none op && pre.all (toldB pre op)
def hangsB (pre : List Stm) (s : Stm) : Bool :=
 if s.st ≤ lastOf pre then false else if isOwn s.r = true then (if s.r.deal ≤ 0 then false else dealB (own pre s.r.deal) s.r) else
 if (s.r.k ≠ 5 ∧ s.r.k ≠ 6) ∨ s.r.deal ≠ 0 ∨ s.r.prev ≠ 0 ∨ s.r.next ≠ 0 then false else if s.r.k = 5 then true else markB pre s.r.op
def wrongB : List Stm → List Stm → Nat → Int
 | _, [], _ => -1
 | pre, s :: l, i => if hangsB pre s = true then wrongB (pre ++ [s]) l (i + 1) else i
structure GoodP (pre : List Stm) : Prop where
 one : ∀ s ∈ pre, One s.r
 srt : pre.Pairwise fun x y => x.st < y.st
 pos : ∀ s ∈ pre, 0 < s.st
 len : pre.length ≤ 1000
theorem GoodP.inj {pre : List Stm} (h : GoodP pre) : ∀ x ∈ pre, ∀ y ∈ pre, x.st = y.st → x = y := by
 intro x hx y hy e
 obtain ⟨i, hi, rfl⟩ := List.getElem_of_mem hx
 obtain ⟨j, hj, rfl⟩ := List.getElem_of_mem hy
 have hs := List.pairwise_iff_getElem.1 h.srt
 by_cases h1 : i < j
 ·have := hs i j hi hj h1; omega
 ·by_cases h2 : j < i
  ·have := hs j i hj hi h2; omega
  ·have : i = j := by omega
   subst this; rfl
theorem GoodP.up {pre : List Stm} (h : GoodP pre) : ∀ s ∈ pre, s.st ≤ lastOf pre := by
 intro s hs
 obtain ⟨i, hi, rfl⟩ := List.getElem_of_mem hs
 have hl : lastOf pre = (pre[pre.length - 1]'(by omega)).st := by
  unfold lastOf
  rw [List.getLast?_eq_getElem?, List.getElem?_eq_getElem (by omega)]
 rw [hl]
 by_cases h1 : i < pre.length - 1
 ·have := List.pairwise_iff_getElem.1 h.srt i (pre.length - 1) hi (by omega) h1; omega
 ·have : i = pre.length - 1 := by omega
  subst this; exact Int.le_refl _
theorem GoodP.last {pre : List Stm} (h : GoodP pre) : 0 ≤ lastOf pre := by
 unfold lastOf
 cases hl : pre.getLast? with
 | none => exact Int.le_refl _
 | some s => have := h.pos s (List.mem_of_getLast? hl); simp only; omega
theorem GoodP.snoc {pre : List Stm} {s : Stm} (h : GoodP pre) (hr : One s.r) (hs : lastOf pre < s.st) (hl : pre.length + 1 ≤ 1000) : GoodP (pre ++ [s]) := by
 refine ⟨fun x hx => ?_, ?_, fun x hx => ?_, by simpa using hl⟩
 ·rcases List.mem_append.1 hx with hx | hx
  ·exact h.one x hx
  ·rw [List.mem_singleton.1 hx]; exact hr
 ·rw [List.pairwise_append]
  refine ⟨h.srt, List.pairwise_singleton _ _, fun x hx y hy => ?_⟩
  rw [List.mem_singleton.1 hy]
  have := h.up x hx
  omega
 ·rcases List.mem_append.1 hx with hx | hx
  ·exact h.pos x hx
  ·rw [List.mem_singleton.1 hx]; have := h.last; omega
theorem GoodP.nil : GoodP [] := ⟨(fun s hs => by cases hs), List.Pairwise.nil, (fun s hs => by cases hs), by simp⟩
theorem take_lt {l : List Stm} {i j : Nat} (hij : i < j) (hj : j ≤ l.length) (h : GoodP (l.take j)) : lastOf (l.take i) < lastOf (l.take j) := by
 have hl : ∀ k, 0 < k → (hk : k ≤ l.length) → lastOf (l.take k) = (l[k - 1]'(by omega)).st := fun k h0 hk => by
  unfold lastOf
  rw [List.getLast?_eq_getElem?, List.length_take, Nat.min_eq_left hk, List.getElem?_take_of_lt (by omega), List.getElem?_eq_getElem (by omega)]
 rw [hl j (by omega) hj]
 have hm : ∀ k, k < j → ∃ hk : k < l.length, l[k] ∈ l.take j := fun k hk => ⟨by omega, by
  have : (l.take j)[k]? = some l[k] := by rw [List.getElem?_take_of_lt hk, List.getElem?_eq_getElem (by omega)]
  exact List.mem_of_getElem? this⟩
 by_cases h0 : i = 0
 ·subst h0
  obtain ⟨_, hk⟩ := hm (j - 1) (by omega)
  exact h.pos _ hk
 ·rw [hl i (by omega) (by omega)]
  have := List.pairwise_iff_getElem.1 h.srt (i - 1) (j - 1) (by rw [List.length_take]; omega) (by rw [List.length_take]; omega) (by omega)
  simpa using this
theorem take_eq {l : List Stm} {i j : Nat} (hi : i ≤ l.length) (hj : j ≤ l.length) (h1 : GoodP (l.take i)) (h2 : GoodP (l.take j)) (h : lastOf (l.take i) = lastOf (l.take j)) : i = j := by
 by_cases hij : i < j
 ·have := take_lt hij hj h2; omega
 ·by_cases hji : j < i
  ·have := take_lt hji hi h1; omega
  ·omega
structure E where
 id : Int
 p : Nat
 q : Nat
abbrev kvE (e : E) : AV × AV := (.int .i64 e.id, .ptr e.p 0)
abbrev kvS (s : Stm) : AV × AV := (.int .i64 s.st, .agg (enR s.r))
structure LookAt (H : List Blk) (a m : Nat) (st : Int) (pre : List Stm) (es : List E) : Prop where
 ha : H[a]? = some (.cells [.int .i64 st, .map m])
 hm : H[m]? = some (.map (es.map kvE))
 hp : ∀ e ∈ es, H[e.p]? = some (.cells [.int .i64 (lastOf (own pre e.id)), .bool (endOf (own pre e.id)), .map e.q])
 hq : ∀ e ∈ es, H[e.q]? = some (.map ((own pre e.id).map kvS))
 qm : ∀ e ∈ es, e.q ≠ m
 inj : ∀ e ∈ es, ∀ e' ∈ es, e.p = e'.p ∨ e.q = e'.q ∨ e.id = e'.id → e = e'
 all : ∀ s ∈ pre, isOwn s.r = true → ∃ e ∈ es, e.id = s.r.deal
section
variable {H : List Blk} {a m : Nat} {st : Int} {pre : List Stm} {es : List E}
theorem LookAt.am (h : LookAt H a m st pre es) : a ≠ m := fun e => by have := h.ha; rw [e, h.hm] at this; cases this
theorem LookAt.ap (h : LookAt H a m st pre es) {e : E} (he : e ∈ es) : a ≠ e.p := fun x => by have := h.ha; rw [x, h.hp e he] at this; simp at this
theorem LookAt.aq (h : LookAt H a m st pre es) {e : E} (he : e ∈ es) : a ≠ e.q := fun x => by have := h.ha; rw [x, h.hq e he] at this; cases this
theorem LookAt.pm (h : LookAt H a m st pre es) {e : E} (he : e ∈ es) : e.p ≠ m := fun x => by have := h.hp e he; rw [x, h.hm] at this; cases this
theorem LookAt.pq (h : LookAt H a m st pre es) {e e' : E} (he : e ∈ es) (he' : e' ∈ es) : e.p ≠ e'.q := fun x => by have := h.hp e he; rw [x, h.hq e' he'] at this; cases this
theorem LookAt.uniq (h : LookAt H a m st pre es) {e : E} (he : e ∈ es) : ∀ x ∈ es, x.id = e.id → x = e := fun x hx hi => h.inj x hx e he (.inr (.inr hi))
def Up (H H' : List Blk) : Prop := H.length ≤ H'.length ∧ ∀ (i : Nat) (x : Blk), H[i]? = some x → H'[i]? = some x
theorem Up.refl (H : List Blk) : Up H H := ⟨Nat.le_refl _, fun _ _ h => h⟩
theorem Up.trans {H H' H2 : List Blk} (h : Up H H') (k : Up H' H2) : Up H H2 := ⟨Nat.le_trans h.1 k.1, fun i x hx => k.2 i x (h.2 i x hx)⟩
theorem Up.app (H : List Blk) (b : Blk) : Up H (H ++ [b]) := ⟨by simp, fun i x hx => ga hx⟩
theorem LookAt.up {H' : List Blk} (h : LookAt H a m st pre es) (u : Up H H') : LookAt H' a m st pre es :=
 ⟨u.2 _ _ h.ha, u.2 _ _ h.hm, fun e he => u.2 _ _ (h.hp e he), fun e he => u.2 _ _ (h.hq e he), h.qm, h.inj, h.all⟩
theorem own_none (h : LookAt H a m st pre es) {id : Int} (hn : ∀ e ∈ es, e.id ≠ id) : own pre id = [] := by
 unfold own
 rw [List.filter_eq_nil_iff]
 intro s hs hk
 simp only [Bool.and_eq_true, decide_eq_true_eq] at hk
 obtain ⟨e, he, h1⟩ := h.all s hs hk.1
 exact hn e he (h1.trans hk.2)
theorem LookAt.new (h : LookAt H a m st pre es) {id : Int} (hn : ∀ e ∈ es, e.id ≠ id) :
  LookAt (((H ++ [Blk.map []]) ++ [Blk.cells [.int .i64 0, .bool false, .map H.length]]).set m (.map (es.map kvE ++ [(AV.int .i64 id, AV.ptr (H ++ [Blk.map []]).length 0)]))) a m st pre (es ++ [⟨id, (H ++ [Blk.map []]).length, H.length⟩]) := by
 have hm := glt h.hm
 have keep : ∀ {i x}, i ≠ m → H[i]? = some x → (((H ++ [Blk.map []]) ++ [Blk.cells [.int .i64 0, .bool false, .map H.length]]).set m (.map (es.map kvE ++ [(AV.int .i64 id, AV.ptr (H ++ [Blk.map []]).length 0)])))[i]? = some x := fun hne hx => gne (Ne.symm hne) (ga (ga hx))
 have e0 := own_none h hn
 refine ⟨keep h.am h.ha, ?_, ?_, ?_, ?_, ?_, ?_⟩
 ·rw [gset (ga (ga h.hm))]
  simp
 ·intro e he
  rcases List.mem_append.1 he with he | he
  ·exact keep (h.pm he) (h.hp e he)
  ·rw [List.mem_singleton.1 he]
   show _ = some (Blk.cells [.int .i64 (lastOf (own pre id)), .bool (endOf (own pre id)), _])
   rw [e0]
   refine gne ?_ gl
   simp; omega
 ·intro e he
  rcases List.mem_append.1 he with he | he
  ·exact keep (h.qm e he) (h.hq e he)
  ·rw [List.mem_singleton.1 he]
   show _ = some (Blk.map ((own pre id).map kvS))
   rw [e0]
   refine gne ?_ (ga gl)
   show m ≠ H.length
   omega
 ·intro e he
  rcases List.mem_append.1 he with he | he
  ·exact h.qm e he
  ·rw [List.mem_singleton.1 he]
   show H.length ≠ m
   omega
 ·have lp : ∀ e ∈ es, e.p < H.length := fun e he => glt (h.hp e he)
  have lq : ∀ e ∈ es, e.q < H.length := fun e he => glt (h.hq e he)
  intro e he e' he' hh
  rcases List.mem_append.1 he with he | he <;> rcases List.mem_append.1 he' with he' | he'
  ·exact h.inj e he e' he' hh
  ·rw [List.mem_singleton.1 he'] at hh
   simp only [List.length_append, List.length_cons, List.length_nil] at hh
   have := lp e he
   have := lq e he
   rcases hh with hh | hh | hh
   ·omega
   ·omega
   ·exact absurd hh (hn e he)
  ·rw [List.mem_singleton.1 he] at hh
   simp only [List.length_append, List.length_cons, List.length_nil] at hh
   have := lp e' he'
   have := lq e' he'
   rcases hh with hh | hh | hh
   ·omega
   ·omega
   ·exact absurd hh.symm (hn e' he')
  ·rw [List.mem_singleton.1 he, List.mem_singleton.1 he']
 ·intro s hs ho
  obtain ⟨e, he, h1⟩ := h.all s hs ho
  exact ⟨e, List.mem_append_left _ he, h1⟩
end
theorem own_snoc (pre : List Stm) (s : Stm) (id : Int) : own (pre ++ [s]) id = own pre id ++ (if isOwn s.r = true ∧ s.r.deal = id then [s] else []) := by
 unfold own
 rw [List.filter_append]
 congr 1
 by_cases h : isOwn s.r = true ∧ s.r.deal = id
 ·rw [if_pos h, List.filter_cons_of_pos (by simp [h.1, h.2])]
  rfl
 ·rw [if_neg h, List.filter_cons_of_neg (by simpa using h)]
  rfl
theorem lastOf_snoc (f : List Stm) (s : Stm) : lastOf (f ++ [s]) = s.st := by simp [lastOf]
theorem endOf_snoc (f : List Stm) (s : Stm) : endOf (f ++ [s]) = decide (3 ≤ s.r.k) := by simp [endOf]
theorem own_mem {pre : List Stm} {id : Int} {s : Stm} (h : s ∈ own pre id) : s ∈ pre ∧ isOwn s.r = true ∧ s.r.deal = id := by
 unfold own at h
 rw [List.mem_filter] at h
 simpa using h
theorem LookAt.stamp {H : List Blk} {a m : Nat} {st : Int} {pre : List Stm} {es : List E} (h : LookAt H a m st pre es) (st' : Int) : LookAt (H.set a (.cells [.int .i64 st', .map m])) a m st' pre es :=
 ⟨gset h.ha, gne h.am h.hm, fun e he => gne (h.ap he) (h.hp e he), fun e he => gne (h.aq he) (h.hq e he), h.qm, h.inj, h.all⟩
theorem LookAt.sys {H : List Blk} {a m : Nat} {st : Int} {pre : List Stm} {es : List E} (h : LookAt H a m st pre es) {s : Stm} (ho : isOwn s.r = false) : LookAt H a m st (pre ++ [s]) es := by
 have e0 : ∀ id, own (pre ++ [s]) id = own pre id := fun id => by rw [own_snoc, if_neg (by simp [ho]), List.append_nil]
 refine ⟨h.ha, h.hm, fun e he => ?_, fun e he => ?_, h.qm, h.inj, fun x hx hox => ?_⟩
 ·rw [e0]; exact h.hp e he
 ·rw [e0]; exact h.hq e he
 ·rcases List.mem_append.1 hx with hx | hx
  ·exact h.all x hx hox
  ·rw [List.mem_singleton.1 hx, ho] at hox; cases hox
theorem LookAt.add {H : List Blk} {a m : Nat} {st : Int} {pre : List Stm} {es : List E} (h : LookAt H a m st pre es) {s : Stm} (ho : isOwn s.r = true) {e : E} (he : e ∈ es) (hi : e.id = s.r.deal) :
  LookAt ((H.set e.p (.cells [.int .i64 s.st, .bool (decide (3 ≤ s.r.k)), .map e.q])).set e.q (.map ((own pre e.id).map kvS ++ [kvS s]))) a m st (pre ++ [s]) es := by
 have e1 : own (pre ++ [s]) e.id = own pre e.id ++ [s] := by rw [own_snoc, if_pos ⟨ho, hi.symm⟩]
 have e0 : ∀ e' ∈ es, e' ≠ e → own (pre ++ [s]) e'.id = own pre e'.id := fun e' he' hne => by
  rw [own_snoc, if_neg, List.append_nil]
  rintro ⟨_, h2⟩
  exact hne (h.inj e' he' e he (.inr (.inr (by omega))))
 refine ⟨?_, ?_, fun e' he' => ?_, fun e' he' => ?_, h.qm, h.inj, fun x hx hox => ?_⟩
 ·exact gne (Ne.symm (h.aq he)) (gne (Ne.symm (h.ap he)) h.ha)
 ·exact gne (h.qm e he) (gne (h.pm he) h.hm)
 ·by_cases hee : e' = e
  ·subst hee
   rw [e1, lastOf_snoc, endOf_snoc]
   exact gne (Ne.symm (h.pq he he)) (gset (h.hp _ he))
  ·rw [e0 e' he' hee]
   exact gne (Ne.symm (h.pq he' he)) (gne (fun x => hee (h.inj e' he' e he (.inl x.symm))) (h.hp e' he'))
 ·by_cases hee : e' = e
  ·subst hee
   rw [e1, List.map_append]
   exact gset (gne (h.pq he he) (h.hq _ he))
  ·rw [e0 e' he' hee]
   exact gne (fun x => hee (h.inj e' he' e he (.inr (.inl x.symm)))) (gne (h.pq he he') (h.hq e' he'))
 ·rcases List.mem_append.1 hx with hx | hx
  ·exact h.all x hx hox
  ·rw [List.mem_singleton.1 hx]; exact ⟨e, he, hi⟩
end Go.Proofs.Ytlhbfikfnecknaa.AM.Ch
