/-
  WitnessLast: some of its cases, by the kernel.
-/
import Derived.Test.YtlogcjaigjcmiaaGreatWlA
set_option maxRecDepth 100000
namespace Go.Proofs.YtlogcjaigjcmiaaGreat.AM.Wl
open Go
theorem case_8_0 : Rest 8 0 := fun lives sure v18 v19 v20 v21 v22 v24 v25 v26 v27 v28 v29 => by kernel_rfl
theorem case_8_1 : Rest 8 1 := fun lives sure v18 v19 v20 v21 v22 v24 v25 v26 v27 v28 v29 => by kernel_rfl
theorem case_8_2 : Rest 8 2 := fun lives sure v18 v19 v20 v21 v22 v24 v25 v26 v27 v28 v29 => by kernel_rfl
theorem case_8_3 : Rest 8 3 := fun lives sure v18 v19 v20 v21 v22 v24 v25 v26 v27 v28 v29 => by kernel_rfl
end Go.Proofs.YtlogcjaigjcmiaaGreat.AM.Wl
