/-
  reevelaw09.TreeNil answers true at any root, key and list, and changes nothing of old.
  Conditions: the list can be read.
-/
import Derived.Test.YtagmkceblklgaaaGreatNk
import Derived.Test.YtagmkceblklgaaaGreatNm
namespace Go.Proofs.YtagmkceblklgaaaGreat.Ex
open Go.Proofs Go.Shelf Go.RowKit

theorem nil_run {v : Bool} {x : AV} (h : nilRun v x = some true) : ∃ A', callIn Tryz.prog (sumsN v) 10000 3 [x, .opq 1 [], .opq 2 []] ⟨.nil, 0⟩ = some (.lit (.bool true), A') := toBool_run h

set_option maxRecDepth 100000 in
theorem treeNil_any (w : World) (n : Int) (k : ByteArray) (sv : Value) (xs : List Chg) (hone : oneV sv = true) (hv : ChgsV w.heap.size w sv xs) (hl : xs.length ≤ 100000000000000) :
    Calls Tryz.prog 3 #[.int .i64 n, .string k, sv] w fun e w' => e = .returned (.bool true) ∧ Below w.heap.size w w' := by
  let ω : Env := ⟨fun i => match i with | 0 => .int .i64 n | 1 => .string k | 2 => sv | _ => .bool false, w.heap⟩
  have hω : ∀ i, oneV (ω.val i) = true := fun i => by
    match i with
    | 0 => rfl
    | 1 => rfl
    | 2 => exact hone
    | i + 3 => rfl
  have hS := sumsN_ok (ω := ω) (w₀ := w) rfl (xs := xs) hv hl
  have h1 : R (fun _ => none) ω (.opq 1 []) (.string k) := R.opq (ω := ω) 1 (fun f h => by cases h)
  have h2 : R (fun _ => none) ω (.opq 2 []) sv := R.opq (ω := ω) 2 (fun f h => by cases h)
  obtain ⟨f0, f1, f31⟩ := fact_ok n
  cases hb : fewB [xs] with
  | false =>
    rw [hb] at hS
    exact run_below ω hω rfl hS Tryz.func3 rfl (nil_run nil_not) (RL.cons (R.opq (ω := ω) 0 (fun f h => by cases h)) (RL.cons h1 (RL.cons h2 .nil)))
  | true =>
    rw [hb] at hS
    by_cases hn0 : n = 0
    · subst hn0
      exact run_below ω hω rfl hS Tryz.func3 rfl (nil_run nil_0) (RL.cons (.lit _) (RL.cons h1 (RL.cons h2 .nil)))
    · by_cases hn1 : n < 1
      · refine run_below ω hω rfl hS Tryz.func3 rfl (nil_run nil_low) (RL.cons (R.opq (ω := ω) 0 ?_) (RL.cons h1 (RL.cons h2 .nil)))
        intro f hf P w t xo yo
        simp only [facts1, List.mem_cons, List.not_mem_nil, or_false] at hf
        rcases hf with rfl | rfl
        · have h := f0 P w t xo yo; rw [show decide (n = 0) = false by simp [hn0]] at h; exact h
        · have h := f1 P w t xo yo; rw [show decide (n < 1) = true by simp [hn1]] at h; exact h
      · by_cases hn31 : 31 ≤ n
        · refine run_below ω hω rfl hS Tryz.func3 rfl (nil_run nil_high) (RL.cons (R.opq (ω := ω) 0 ?_) (RL.cons h1 (RL.cons h2 .nil)))
          intro f hf P w t xo yo
          simp only [facts31, List.mem_cons, List.not_mem_nil, or_false] at hf
          rcases hf with rfl | rfl | rfl
          · have h := f0 P w t xo yo; rw [show decide (n = 0) = false by simp [hn0]] at h; exact h
          · have h := f1 P w t xo yo; rw [show decide (n < 1) = false by simp [hn1]] at h; exact h
          · have h := f31 P w t xo yo; rw [show decide (31 ≤ n) = true by simp [hn31]] at h; exact h
        · obtain ⟨r, rfl⟩ : ∃ r : Nat, n = r := ⟨n.toNat, by omega⟩
          exact run_below ω hω rfl hS Tryz.func3 rfl (nil_run (nil_all r (by omega) (by omega))) (RL.cons (.lit _) (RL.cons h1 (RL.cons h2 .nil)))

end Go.Proofs.YtagmkceblklgaaaGreat.Ex
