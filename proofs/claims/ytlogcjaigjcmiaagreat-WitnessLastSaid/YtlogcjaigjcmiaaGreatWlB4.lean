/-
  WitnessLast: some of its cases, by the kernel.
-/
import Derived.Test.YtlogcjaigjcmiaaGreatWlA
set_option maxRecDepth 100000
namespace Go.Proofs.YtlogcjaigjcmiaaGreat.AM.Wl
open Go
theorem case_8_4 : Rest 8 4 := fun lives sure v18 v19 v20 v21 v22 v24 v25 v26 v27 v28 v29 => by kernel_rfl
theorem case_8_5 : Rest 8 5 := fun lives sure v18 v19 v20 v21 v22 v24 v25 v26 v27 v28 v29 => by kernel_rfl
theorem case_8_6 : Rest 8 6 := fun lives sure v18 v19 v20 v21 v22 v24 v25 v26 v27 v28 v29 => by kernel_rfl
theorem case_8_7 : Rest 8 7 := fun lives sure v18 v19 v20 v21 v22 v24 v25 v26 v27 v28 v29 => by kernel_rfl
end Go.Proofs.YtlogcjaigjcmiaaGreat.AM.Wl
