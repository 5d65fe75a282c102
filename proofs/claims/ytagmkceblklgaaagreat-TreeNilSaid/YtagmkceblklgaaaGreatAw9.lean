/-
  reevelaw09.awake, run by the kernel: it answers true.
  Conditions: none.
-/
import Derived.Test.YtagmkceblklgaaaGreatRb
namespace Go.Proofs.YtagmkceblklgaaaGreat.Ex
open Go.Proofs Go.Shelf Go.RowKit
set_option maxRecDepth 1000000
theorem awake9_run : ((callIn Tryz.prog sums9 10000 6 [] ⟨.nil, 0⟩).bind fun r => r.1.toBool) = some true := by kernel_rfl

theorem awake9 (w : World) : Calls Tryz.prog 6 #[] w fun e w' => e = .returned (.bool true) ∧ Below w.heap.size w w' :=
  run_below ⟨fun _ => .bool false, w.heap⟩ (fun _ => rfl) rfl (sums9_ok _) Tryz.func6 rfl (toBool_run awake9_run) .nil
end Go.Proofs.YtagmkceblklgaaaGreat.Ex
