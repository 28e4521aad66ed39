/-
  WitnessLast: some of its cases, by the kernel.
-/
import Derived.Test.YtlogcjaigjcmiaaGreatWlA
set_option maxRecDepth 100000
namespace Go.Proofs.YtlogcjaigjcmiaaGreat.AM.Wl
open Go
theorem case_7_4 : Rest 7 4 := fun lives sure v18 v19 v20 v21 v22 v24 v25 v26 v27 v28 v29 => by kernel_rfl
theorem case_7_5 : Rest 7 5 := fun lives sure v18 v19 v20 v21 v22 v24 v25 v26 v27 v28 v29 => by kernel_rfl
theorem case_7_6 : Rest 7 6 := fun lives sure v18 v19 v20 v21 v22 v24 v25 v26 v27 v28 v29 => by kernel_rfl
theorem case_3_0 : Rest 3 0 := fun lives sure v18 v19 v20 v21 v22 v24 v25 v26 v27 v28 v29 => by kernel_rfl
theorem case_3_1 : Rest 3 1 := fun lives sure v18 v19 v20 v21 v22 v24 v25 v26 v27 v28 v29 => by kernel_rfl
end Go.Proofs.YtlogcjaigjcmiaaGreat.AM.Wl
