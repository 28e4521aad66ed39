/-
  WitnessLast: some of its cases, by the kernel.
-/
import Derived.Test.YtlogcjaigjcmiaaGreatWlA
set_option maxRecDepth 100000
namespace Go.Proofs.YtlogcjaigjcmiaaGreat.AM.Wl
open Go
theorem case_4_0 : Rest 4 0 := fun lives sure v18 v19 v20 v21 v22 v24 v25 v26 v27 v28 v29 => by kernel_rfl
theorem case_4_1 : Rest 4 1 := fun lives sure v18 v19 v20 v21 v22 v24 v25 v26 v27 v28 v29 => by kernel_rfl
theorem case_4_2 : Rest 4 2 := fun lives sure v18 v19 v20 v21 v22 v24 v25 v26 v27 v28 v29 => by kernel_rfl
theorem case_4_3 : Rest 4 3 := fun lives sure v18 v19 v20 v21 v22 v24 v25 v26 v27 v28 v29 => by kernel_rfl
theorem case_2_0 : Rest 2 0 := fun lives sure v18 v19 v20 v21 v22 v24 v25 v26 v27 v28 v29 => by kernel_rfl
theorem case_2_1 : Rest 2 1 := fun lives sure v18 v19 v20 v21 v22 v24 v25 v26 v27 v28 v29 => by kernel_rfl
theorem case_1_0 : Rest 1 0 := fun lives sure v18 v19 v20 v21 v22 v24 v25 v26 v27 v28 v29 => by kernel_rfl
end Go.Proofs.YtlogcjaigjcmiaaGreat.AM.Wl
