/-
  reevelaw09.TreeNil, run by the kernel.
  Conditions: none.
-/
import Derived.Test.YtagmkceblklgaaaGreatNl
namespace Go.Proofs.YtagmkceblklgaaaGreat.Ex
open Go.Proofs
set_option maxRecDepth 1000000
theorem nil_not : nilRun false (.opq 0 []) = some true := by kernel_rfl
theorem nil_0 : nilRun true (.lit (.int .i64 0)) = some true := by kernel_rfl
theorem nil_low : nilRun true (.opq 0 facts1) = some true := by kernel_rfl
theorem nil_high : nilRun true (.opq 0 facts31) = some true := by kernel_rfl
end Go.Proofs.YtagmkceblklgaaaGreat.Ex
