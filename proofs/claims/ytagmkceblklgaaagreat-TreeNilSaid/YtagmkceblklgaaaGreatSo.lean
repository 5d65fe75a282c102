/-
  SUMMARIES for the runner, that they are so: what a call left that changed nothing of old.
  Conditions: none.
-/
import Derived.Test.YtagmkceblklgaaaGreatSn
import Derived.Below
import Derived.Laws.AppendOwn
import Derived.Test.YtagmkceblklgaaaGreatProg
namespace Go.Proofs.YtagmkceblklgaaaGreat.Ex
open Go.RowKit
variable {ρ : Nat → Option Spot} {ω : Env} {g : Nat → Option Blk} {A : St} {w w' : World}

theorem Rel.below (hg : Rel ρ ω g w) (h : Below w.heap.size w w') : Rel ρ ω g w' ∧ Ev ρ g w ρ g w' := by
  refine ⟨⟨fun b B e => ?_, hg.inj, Nat.le_trans hg.size h.size, fun i hi => ?_, hg.new⟩, ⟨.refl _, h.size, fun i hi _ => h.block i hi, fun b B s e r _ => ⟨b, B, s, e, r, rfl⟩, h.os, h.tape, h.output⟩⟩
  · obtain ⟨s, o, hs, ho, hb⟩ := hg.blk b B e
    exact ⟨s, o, hs, (h.block _ (Array.getElem?_eq_some_iff.1 ho).1).trans ho, hb⟩
  · rw [h.block i (by have := hg.size; omega)]; exact hg.old i hi

theorem add_below (hg : Rel ρ ω A.mem.get w) (hn : Nm ρ A.next) (h : Below w.heap.size w w') {B : Blk} {o : Obj} {s : Spot} (hs : w.heap.size ≤ s.block) (ho : w'.heap[s.block]? = some o) (hB : BR ρ ω s B o) :
    ∃ ρ', ρ' A.next = some s ∧ Rel ρ' ω (A.add B).mem.get w' ∧ Nn ρ A.next ρ' (A.add B).next ∧ Ev ρ A.mem.get w ρ' (A.add B).mem.get w' := by
  have hno : ρ A.next = none := hn.none (Nat.le_refl _)
  have hle : Le ρ (fun b => if b = A.next then some s else ρ b) := by
    intro b t e
    have : b ≠ A.next := by intro e'; subst e'; rw [hno] at e; cases e
    simp [this, e]
  have hlt : ∀ b C t, A.mem.get b = some C → ρ b = some t → t.block < w.heap.size := fun b C t e r => by
    obtain ⟨t', o', ht, ho', _⟩ := hg.blk b C e
    rw [r] at ht; cases ht
    exact (Array.getElem?_eq_some_iff.1 ho').1
  have hg' := (hg.below h).1
  refine ⟨fun b => if b = A.next then some s else ρ b, by simp, ?_, ⟨by rw [St.add_next]; exact Nat.le_succ _, fun b hb => if_neg (by omega), fun b t hb => ?_⟩, ?_⟩
  · rw [add_get]
    refine ⟨fun b C e => ?_, fun b b' C C' t t' e e' r r' q => ?_, hg'.size, hg'.old, fun b C t e r => ?_⟩
    · by_cases hb : b = A.next
      · simp [hb] at e; subst e
        exact ⟨s, o, by simp [hb], ho, hB.mono hle⟩
      · simp [hb] at e
        obtain ⟨t, o', ht, ho', hC⟩ := hg'.blk b C e
        exact ⟨t, o', by simp [hb, ht], ho', hC.mono hle⟩
    · by_cases hb : b = A.next <;> by_cases hb' : b' = A.next
      · rw [hb, hb']
      · simp [hb] at r; subst r
        simp [hb'] at e' r'
        have := hlt _ _ _ e' r'
        omega
      · simp [hb'] at r'; subst r'
        simp [hb] at e r
        have := hlt _ _ _ e r
        omega
      · simp [hb, hb'] at e e' r r'
        exact hg.inj b b' C C' t t' e e' r r' q
    · by_cases hb : b = A.next
      · simp [hb] at r; subst r
        have := hg.size
        omega
      · simp [hb] at e r
        exact hg.new b C t e r
  · rw [St.add_next]
    by_cases e : b = A.next
    · omega
    · simp [e] at hb; have := hn b t hb; omega
  · rw [add_get]
    refine ⟨hle, h.size, fun i hi _ => h.block i hi, fun b C t e r ht => ?_, h.os, h.tape, h.output⟩
    by_cases hb : b = A.next
    · simp [hb] at r; subst r; omega
    · simp [hb] at e r
      exact ⟨b, C, t, e, r, rfl⟩

/-- a call that answered a value and changed nothing of old -/
theorem out_lit (hg : Rel ρ ω A.mem.get w) (hn : Nm ρ A.next) (h : Below w.heap.size w w') (v : Value) : HOut ρ ω A w (.lit v) A v w' :=
  ⟨ρ, .lit v, (hg.below h).1, Nn.refl hn, (hg.below h).2⟩

/-- a call that answered a slice of its own, and changed nothing of old -/
theorem out_row (hg : Rel ρ ω A.mem.get w) (hn : Nm ρ A.next) (h : Below w.heap.size w w') {e : TypeId} {size n : Nat} {v : Value} {xs : List Value} {c : List AV} (hrow : w'.ownsRow w.heap.size e size v n xs) (hnz : n ≠ 0) (hc : RL ρ ω c xs) :
    HOut ρ ω A w (.sl A.next 0 n size n false) (A.add (.cells c)) v w' := by
  obtain ⟨hlen, ⟨_, rfl⟩ | ⟨g, cap, cur, rfl, hge, hb, hncap, _, hsz, htake⟩⟩ := hrow
  · exact absurd rfl hnz
  have hB : BR ρ ω ⟨g, 0, cur.size⟩ (.cells c) (.cells cur e (0, 0)) :=
    BR.row xs (cur.toList.drop (n * size)) hc (by rw [← htake]; exact (List.take_append_drop _ _).symm) (.inl rfl)
  obtain ⟨ρ', hr, hg', hn', hev⟩ := add_below hg hn h (s := ⟨g, 0, cur.size⟩) hge hb hB
  refine ⟨ρ', .sl hr (Nat.le_refl _) hncap ⟨rfl, rfl⟩ (fun _ => ⟨rfl, by simp; omega⟩) (fun h => by cases h), hg', hn', hev⟩

/-- a summary that a contract shows -/
theorem runs_of_calls {P : Program} (hN : Named P) {f : FuncId} {fn : Func} (hf : P.funcs[f]? = some fn) (hb : fn.body.isSome = true) {args : Array Value} {R : Value → World → Prop} (h : Calls P f args w fun e w' => ∃ v, e = .returned v ∧ R v w') :
    Runs P f args w R := by
  unfold Runs
  rw [hN f fn hf hb args w]
  refine h.mono ?_
  rintro e w' ⟨v, rfl, hr⟩
  exact hr

end Go.Proofs.YtagmkceblklgaaaGreat.Ex
