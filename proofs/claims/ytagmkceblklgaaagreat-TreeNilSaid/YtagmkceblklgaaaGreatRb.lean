/-
  What the kernel runs of the layers up to the tree: the functions that are told, and that it is so; a run from nothing named.
  Conditions: none.
-/
import Derived.Test.YtagmkceblklgaaaGreatSs
import Derived.Test.YtagmkceblklgaaaGreatProg
import Derived.KernelRfl
namespace Go.Proofs.YtagmkceblklgaaaGreat.Ex
open Go.Proofs Go.Shelf Go.RowKit
/-- the functions that are not run but told -/
def sums9 : Sums := fun f =>
  cond (Nat.beq f 30) (some (sumSortedI [55, 66, 124]))
    (cond (Nat.beq f 58) (some (sumCollect 60))
      (cond (Nat.beq f 41) (some sumCmp)
        (cond (Nat.beq f 85) (some sumSum) none)))
set_option maxRecDepth 1000000

theorem names_all : (Tryz.prog.funcs.all fun fn => !(fn.name == "runtime.NumGoroutine")) = true := by kernel_rfl
theorem named : Named Tryz.prog := fun f fn hf hb args w => by
  have h := Array.all_eq_true_iff_forall_mem.1 names_all fn (Array.mem_of_getElem? hf)
  obtain ⟨c, hc⟩ := Option.isSome_iff_exists.1 hb
  exact enters_of hf (by simpa using h) hc args w
theorem mixed : Tryz.prog.follows .mixedOrders = true := by kernel_rfl

theorem sums9_ok (ω : Env) : SumsOK Tryz.prog ω sums9 := by
  intro f s hs args A x A' h ρ w cargs hg hn ha
  unfold sums9 at hs
  cases h1 : Nat.beq f 30 with
  | true =>
    rw [h1] at hs; cases hs
    obtain rfl := Nat.eq_of_beq_eq_true h1
    exact sumSortedI_ok named h hg hn ha
  | false =>
  rw [h1] at hs
  cases h2 : Nat.beq f 58 with
  | true =>
    rw [h2] at hs; cases hs
    obtain rfl := Nat.eq_of_beq_eq_true h2
    exact sumCollect_ok named h hg hn ha
  | false =>
  rw [h2] at hs
  cases h3 : Nat.beq f 41 with
  | true =>
    rw [h3] at hs; cases hs
    obtain rfl := Nat.eq_of_beq_eq_true h3
    exact sumCmp_ok named h hg hn ha
  | false =>
  rw [h3] at hs
  cases h4 : Nat.beq f 85 with
  | true =>
    rw [h4] at hs; cases hs
    obtain rfl := Nat.eq_of_beq_eq_true h4
    exact sumSum_ok named h hg hn ha
  | false => rw [h4] at hs; cases hs

/-- a run from nothing named: what was there is as it was -/
theorem run_below {S : Sums} {fuel : Nat} {f : FuncId} {args : List AV} {v : Value} {w : World} {cargs : Array Value} {fn : Func} (ω : Env) (hω : ∀ n, oneV (ω.val n) = true) (hh : ω.heap = w.heap) (hS : SumsOK Tryz.prog ω S)
    (hf : Tryz.prog.funcs[f]? = some fn) (hb : fn.body.isSome = true) (hrun : ∃ A', callIn Tryz.prog S fuel f args ⟨.nil, 0⟩ = some (.lit v, A')) (ha : RL (fun _ => none) ω args cargs.toList) :
    Calls Tryz.prog f cargs w fun e w' => e = .returned v ∧ Below w.heap.size w w' := by
  obtain ⟨A', hrun⟩ := hrun
  have hnil : ∀ b, (⟨.nil, 0⟩ : St).mem.get b = none := fun b => rfl
  have hg : Rel (fun _ => none) ω (⟨.nil, 0⟩ : St).mem.get w := ⟨fun b B h => (by rw [hnil] at h; cases h), fun b b' B B' s s' h => (by rw [hnil] at h; cases h), by rw [hh]; exact Nat.le_refl _, fun i _ => by rw [hh], fun b B s h => (by rw [hnil] at h; cases h)⟩
  have hr := call_ok hω mixed hS named fuel f args _ _ _ hrun (fun _ => none) w cargs hg (fun b s h => by cases h) ha
  unfold Runs at hr
  rw [named f fn hf hb cargs w] at hr
  refine Calls.mono hr ?_
  intro e w' he
  cases e with
  | returned u =>
    obtain ⟨ρ', hu, _, _, hev⟩ := he
    exact ⟨by rw [hu.lit_inv], hev.os, hev.tape, hev.output, hev.size, fun k hk => hev.keep k hk (fun b B s h => by rw [hnil] at h; cases h)⟩
  | _ => exact he.elim

theorem toBool_run {r : Option (AV × St)} {b : Bool} (h : (r.bind fun r => r.1.toBool) = some b) : ∃ A', r = some (.lit (.bool b), A') := by
  obtain ⟨⟨x, A'⟩, rfl, h'⟩ := Option.bind_eq_some_iff.1 h
  have e : x = .lit (.bool b) := AV.toBool_eq h'
  exact ⟨A', by rw [e]⟩

end Go.Proofs.YtagmkceblklgaaaGreat.Ex
