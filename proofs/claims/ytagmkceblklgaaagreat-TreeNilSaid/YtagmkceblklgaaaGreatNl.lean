/-
  reevelaw09.TreeNil: what its run asks beyond the tree's layers: awake, few.
  Conditions: the list can be read.
-/
import Derived.Test.YtagmkceblklgaaaGreatAw9
import Derived.Test.YtagmkceblklgaaaGreatFew
namespace Go.Proofs.YtagmkceblklgaaaGreat.Ex
open Go.Proofs Go.Shelf Go.RowKit
variable {ρ : Nat → Option Spot} {ω : Env} {A : St} {w w' : World}

def sumAwake (args : List AV) (A : St) : Option (AV × St) :=
  match args with
  | [] => some (.lit (.bool true), A)
  | _ => none
/-- few of the one list that is the value 2 -/
def sumFew (v : Bool) (args : List AV) (A : St) : Option (AV × St) :=
  match args with
  | [.sl b off 1 1 _ _] => (A.mem.get b).bind fun B => B.toCells.bind fun c => c[off]?.bind fun x =>
    match x with
    | .opq 2 _ => some (.lit (.bool v), A)
    | _ => none
  | _ => none
def sumsN (v : Bool) : Sums := fun f =>
  cond (Nat.beq f 6) (some sumAwake) (cond (Nat.beq f 7) (some (sumFew v)) (sums9 f))

set_option maxRecDepth 100000 in
theorem sumAwake_ok {args : List AV} {x : AV} {A' : St} (h : sumAwake args A = some (x, A')) {cargs : Array Value} (hg : Rel ρ ω A.mem.get w) (hn : Nm ρ A.next) (ha : RL ρ ω args cargs.toList) : Runs Tryz.prog 6 cargs w (HOut ρ ω A w x A') := by
  unfold sumAwake at h
  split at h
  · cases h
    have hc : cargs = #[] := by
      have := ha.1
      apply Array.eq_empty_of_size_eq_zero
      simpa using this.symm
    subst hc
    refine runs_of_calls named Tryz.func6 rfl ((awake9 w).mono ?_)
    rintro e w' ⟨rfl, hb⟩
    exact ⟨_, rfl, out_lit hg hn hb _⟩
  · cases h

theorem chgsV_old {w₀ : World} (h : ∀ i, i < w₀.heap.size → w.heap[i]? = w₀.heap[i]?) (hs : w₀.heap.size ≤ w.heap.size) {sv : Value} {xs : List Chg} : ChgsV w₀.heap.size w₀ sv xs → ChgsV w.heap.size w sv xs
  | .inl e => .inl e
  | .inr ⟨b, off, cap, e, hb, hc⟩ => .inr ⟨b, off, cap, e, by omega, fun j hj => by
      have : ∀ o, w.cell? ⟨b, o, none⟩ = w₀.cell? ⟨b, o, none⟩ := fun o => by simp only [World.cell?, h b hb]
      rw [this, this, this]
      exact hc j hj⟩

set_option maxRecDepth 100000 in
theorem sumFew_ok {w₀ : World} (hheap : ω.heap = w₀.heap) {xs : List Chg} (hv : ChgsV w₀.heap.size w₀ (ω.val 2) xs) (hl : xs.length ≤ 100000000000000) {args : List AV} {x : AV} {A' : St} (h : sumFew (fewB [xs]) args A = some (x, A')) {cargs : Array Value} (hg : Rel ρ ω A.mem.get w) (hn : Nm ρ A.next) (ha : RL ρ ω args cargs.toList) : Runs Tryz.prog 7 cargs w (HOut ρ ω A w x A') := by
  unfold sumFew at h
  split at h
  · rename_i b off lo ex
    simp only [Option.bind_eq_some_iff] at h
    obtain ⟨B, hB, c, hc, y, hy, h⟩ := h
    split at h
    · cases h
      obtain ⟨v, rfl, hr⟩ := one_arg ha
      obtain ⟨s, a, cap, hs, rfl, hl1, hl2, hblk, hcap, _⟩ := hr.sl_inv
      obtain ⟨rfl, hroom⟩ := hcap (by omega)
      obtain ⟨cs, t, fr, hh, hsz, hlc, _, hcells⟩ := hg.cells hB hc hs
      obtain ⟨u, hu, hru⟩ := hcells _ _ hy
      have hu2 : u = ω.val 2 := by cases hru; rfl
      subst hu2
      have hV := chgsV_old (w := w) (fun i hi => by rw [← hheap]; exact hg.old i (by rw [hheap]; exact hi)) (by rw [← hheap]; exact hg.size) hv
      refine runs_of_calls named Tryz.func7 rfl ?_
      refine (few_any s.block (s.base + off) cap [xs] w (by simpa using hl) (by simp) ⟨(Array.getElem?_eq_some_iff.1 hh).1, fun i hi => ?_⟩).mono ?_
      · obtain rfl : i = 0 := by simp at hi; omega
        exact ⟨_, by simp only [World.cell?, hh, Nat.add_zero]; exact hu, hV⟩
      · rintro e w' ⟨rfl, hb⟩
        exact ⟨_, rfl, out_lit hg hn hb _⟩
    · cases h
  · cases h

set_option maxRecDepth 100000 in
theorem sumsN_ok {w₀ : World} (hheap : ω.heap = w₀.heap) {xs : List Chg} (hv : ChgsV w₀.heap.size w₀ (ω.val 2) xs) (hl : xs.length ≤ 100000000000000) : SumsOK Tryz.prog ω (sumsN (fewB [xs])) := by
  intro f s hs args A x A' h ρ w cargs hg hn ha
  unfold sumsN at hs
  cases h1 : Nat.beq f 6 with
  | true =>
    rw [h1] at hs; cases hs
    obtain rfl := Nat.eq_of_beq_eq_true h1
    exact sumAwake_ok h hg hn ha
  | false =>
  rw [h1] at hs
  cases h2 : Nat.beq f 7 with
  | true =>
    rw [h2] at hs; cases hs
    obtain rfl := Nat.eq_of_beq_eq_true h2
    exact sumFew_ok hheap hv hl h hg hn ha
  | false =>
  rw [h2] at hs
  exact sums9_ok ω f s hs args A x A' h ρ w cargs hg hn ha

def facts1 : Facts := [(.eql, .int .i64 0, false), (.lss, .int .i64 1, true)]
def facts31 : Facts := [(.eql, .int .i64 0, false), (.lss, .int .i64 1, false), (.geq, .int .i64 31, true)]
theorem fact_ok (n : Int) : (∀ (P : Program) (w : World) (t : TypeId) (xo yo : Operand), (do eqGuard .eql t xo yo (.int .i64 n) (.int .i64 0); binOp .eql t (.int .i64 n) (.int .i64 0) : Sem Value).run P w = .ok (.bool (decide (n = 0))) w) ∧
    (∀ (P : Program) (w : World) (t : TypeId) (xo yo : Operand), (do eqGuard .lss t xo yo (.int .i64 n) (.int .i64 1); binOp .lss t (.int .i64 n) (.int .i64 1) : Sem Value).run P w = .ok (.bool (decide (n < 1))) w) ∧
    (∀ (P : Program) (w : World) (t : TypeId) (xo yo : Operand), (do eqGuard .geq t xo yo (.int .i64 n) (.int .i64 31); binOp .geq t (.int .i64 n) (.int .i64 31) : Sem Value).run P w = .ok (.bool (decide (31 ≤ n))) w) := by
  refine ⟨fun P w t xo yo => ?_, fun P w t xo yo => ?_, fun P w t xo yo => ?_⟩
  · go_simp
    exact Bool.eq_iff_iff.2 (by simp)
  · go_simp
  · go_simp
/-- the law's run -/
noncomputable def nilRun (v : Bool) (root : AV) : Option Bool := (callIn Tryz.prog (sumsN v) 10000 3 [root, .opq 1 [], .opq 2 []] ⟨.nil, 0⟩).bind fun r => r.1.toBool

end Go.Proofs.YtagmkceblklgaaaGreat.Ex
