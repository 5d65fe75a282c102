/-
  reevelaw09.TreeNil, run by the kernel at the roots 1 to 30. (Written by a program.)
  Conditions: none.
-/
import Derived.Test.YtagmkceblklgaaaGreatNl
namespace Go.Proofs.YtagmkceblklgaaaGreat.Ex
open Go.Proofs
set_option maxRecDepth 1000000
theorem nil_1 : nilRun true (.lit (.int .i64 1)) = some true := by kernel_rfl
theorem nil_2 : nilRun true (.lit (.int .i64 2)) = some true := by kernel_rfl
theorem nil_3 : nilRun true (.lit (.int .i64 3)) = some true := by kernel_rfl
theorem nil_4 : nilRun true (.lit (.int .i64 4)) = some true := by kernel_rfl
theorem nil_5 : nilRun true (.lit (.int .i64 5)) = some true := by kernel_rfl
theorem nil_6 : nilRun true (.lit (.int .i64 6)) = some true := by kernel_rfl
theorem nil_7 : nilRun true (.lit (.int .i64 7)) = some true := by kernel_rfl
theorem nil_8 : nilRun true (.lit (.int .i64 8)) = some true := by kernel_rfl
theorem nil_9 : nilRun true (.lit (.int .i64 9)) = some true := by kernel_rfl
theorem nil_10 : nilRun true (.lit (.int .i64 10)) = some true := by kernel_rfl
theorem nil_11 : nilRun true (.lit (.int .i64 11)) = some true := by kernel_rfl
theorem nil_12 : nilRun true (.lit (.int .i64 12)) = some true := by kernel_rfl
theorem nil_13 : nilRun true (.lit (.int .i64 13)) = some true := by kernel_rfl
theorem nil_14 : nilRun true (.lit (.int .i64 14)) = some true := by kernel_rfl
theorem nil_15 : nilRun true (.lit (.int .i64 15)) = some true := by kernel_rfl
theorem nil_16 : nilRun true (.lit (.int .i64 16)) = some true := by kernel_rfl
theorem nil_17 : nilRun true (.lit (.int .i64 17)) = some true := by kernel_rfl
theorem nil_18 : nilRun true (.lit (.int .i64 18)) = some true := by kernel_rfl
theorem nil_19 : nilRun true (.lit (.int .i64 19)) = some true := by kernel_rfl
theorem nil_20 : nilRun true (.lit (.int .i64 20)) = some true := by kernel_rfl
theorem nil_21 : nilRun true (.lit (.int .i64 21)) = some true := by kernel_rfl
theorem nil_22 : nilRun true (.lit (.int .i64 22)) = some true := by kernel_rfl
theorem nil_23 : nilRun true (.lit (.int .i64 23)) = some true := by kernel_rfl
theorem nil_24 : nilRun true (.lit (.int .i64 24)) = some true := by kernel_rfl
theorem nil_25 : nilRun true (.lit (.int .i64 25)) = some true := by kernel_rfl
theorem nil_26 : nilRun true (.lit (.int .i64 26)) = some true := by kernel_rfl
theorem nil_27 : nilRun true (.lit (.int .i64 27)) = some true := by kernel_rfl
theorem nil_28 : nilRun true (.lit (.int .i64 28)) = some true := by kernel_rfl
theorem nil_29 : nilRun true (.lit (.int .i64 29)) = some true := by kernel_rfl
theorem nil_30 : nilRun true (.lit (.int .i64 30)) = some true := by kernel_rfl
theorem nil_all : ∀ r : Nat, 1 ≤ r → r ≤ 30 → nilRun true (.lit (.int .i64 (r : Int))) = some true
  | 1, _, _ => nil_1
  | 2, _, _ => nil_2
  | 3, _, _ => nil_3
  | 4, _, _ => nil_4
  | 5, _, _ => nil_5
  | 6, _, _ => nil_6
  | 7, _, _ => nil_7
  | 8, _, _ => nil_8
  | 9, _, _ => nil_9
  | 10, _, _ => nil_10
  | 11, _, _ => nil_11
  | 12, _, _ => nil_12
  | 13, _, _ => nil_13
  | 14, _, _ => nil_14
  | 15, _, _ => nil_15
  | 16, _, _ => nil_16
  | 17, _, _ => nil_17
  | 18, _, _ => nil_18
  | 19, _, _ => nil_19
  | 20, _, _ => nil_20
  | 21, _, _ => nil_21
  | 22, _, _ => nil_22
  | 23, _, _ => nil_23
  | 24, _, _ => nil_24
  | 25, _, _ => nil_25
  | 26, _, _ => nil_26
  | 27, _, _ => nil_27
  | 28, _, _ => nil_28
  | 29, _, _ => nil_29
  | 30, _, _ => nil_30
  | 0, h, _ => absurd h (by omega)
  | r + 31, _, h => absurd h (by omega)
end Go.Proofs.YtagmkceblklgaaaGreat.Ex
