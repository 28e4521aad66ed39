/-
  WitnessLast: some of its cases, by the kernel.
-/
import Derived.Test.YtlogcjaigjcmiaaGreatWlA
set_option maxRecDepth 100000
namespace Go.Proofs.YtlogcjaigjcmiaaGreat.AM.Wl
open Go
theorem case_6_0 : Rest 6 0 := fun lives sure v18 v19 v20 v21 v22 v24 v25 v26 v27 v28 v29 => by kernel_rfl
theorem case_6_1 : Rest 6 1 := fun lives sure v18 v19 v20 v21 v22 v24 v25 v26 v27 v28 v29 => by kernel_rfl
theorem case_6_2 : Rest 6 2 := fun lives sure v18 v19 v20 v21 v22 v24 v25 v26 v27 v28 v29 => by kernel_rfl
theorem case_6_3 : Rest 6 3 := fun lives sure v18 v19 v20 v21 v22 v24 v25 v26 v27 v28 v29 => by kernel_rfl
theorem case_6_4 : Rest 6 4 := fun lives sure v18 v19 v20 v21 v22 v24 v25 v26 v27 v28 v29 => by kernel_rfl
theorem case_6_5 : Rest 6 5 := fun lives sure v18 v19 v20 v21 v22 v24 v25 v26 v27 v28 v29 => by kernel_rfl
end Go.Proofs.YtlogcjaigjcmiaaGreat.AM.Wl
