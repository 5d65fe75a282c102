/-
  THE OPERATIONS THAT TURN MEMORY ARE THE MODEL's (their proofs).
  Conditions: the values that are not known are of one cell.
-/
import Derived.Test.YtagmkceblklgaaaGreatEx7
namespace Go.Proofs.YtagmkceblklgaaaGreat.Ex

def Nm (ρ : Nat → Option Spot) (n : Nat) : Prop := ∀ b s, ρ b = some s → b < n
/-- names are given anew only behind those that were given -/
structure Nn (ρ : Nat → Option Spot) (n : Nat) (ρ' : Nat → Option Spot) (n' : Nat) : Prop where
  le : n ≤ n'
  same : ∀ b, b < n → ρ' b = ρ b
  nm : Nm ρ' n'
theorem Nn.refl {ρ : Nat → Option Spot} {n : Nat} (h : Nm ρ n) : Nn ρ n ρ n := ⟨Nat.le_refl _, fun _ _ => rfl, h⟩
theorem Nn.trans {ρ ρ' ρ'' : Nat → Option Spot} {n n' n'' : Nat} (h : Nn ρ n ρ' n') (h' : Nn ρ' n' ρ'' n'') : Nn ρ n ρ'' n'' :=
  ⟨Nat.le_trans h.le h'.le, fun b hb => (h'.same b (Nat.lt_of_lt_of_le hb h.le)).trans (h.same b hb), h'.nm⟩

section
variable {P : Program} {ρ : Nat → Option Spot} {ω : Env} {A : St} {w : World} {ev : Operand → Option AV} {e : Operand → Value}

/-- what an operation that turns memory comes to -/
def HOut (ρ : Nat → Option Spot) (ω : Env) (A : St) (w : World) (x : AV) (A' : St) (v : Value) (w' : World) : Prop :=
  ∃ ρ', R ρ' ω x v ∧ Rel ρ' ω A'.mem.get w' ∧ Nn ρ A.next ρ' A'.next ∧ Ev ρ A.mem.get w ρ' A'.mem.get w'

theorem add_get (A : St) (B : Blk) : (A.add B).mem.get = fun b => if b = A.next then some B else A.mem.get b := by
  funext b; rw [St.add_eq]; exact Tr.get_set _ _ _ _
theorem put_get (A : St) (n : Nat) (B : Option Blk) : (A.put n B).mem.get = fun b => if b = n then B else A.mem.get b := by
  funext b; rw [St.put_eq]; exact Tr.get_set _ _ _ _

theorem Nm.none {n : Nat} (h : Nm ρ n) {b : Nat} (hb : n ≤ b) : ρ b = none := by
  cases e : ρ b with
  | none => rfl
  | some s => have := h b s e; omega

theorem add_ok (hg : Rel ρ ω A.mem.get w) (hn : Nm ρ A.next) (B : Blk) (o : Obj) (s : Spot) (hs : s.block = w.heap.size) (hB : BR ρ ω s B o) :
    ∃ ρ', ρ' A.next = some s ∧ Le ρ ρ' ∧ Rel ρ' ω (A.add B).mem.get { w with heap := w.heap.push o } ∧ Nn ρ A.next ρ' (A.add B).next ∧
      Ev ρ A.mem.get w ρ' (A.add B).mem.get { w with heap := w.heap.push o } := by
  obtain ⟨h1, h2⟩ := hg.fresh A.next (hn.none (Nat.le_refl _)) B o s hs hB
  rw [← add_get] at h1 h2
  refine ⟨_, by simp, h2.le, h1, ⟨by rw [St.add_next]; exact Nat.le_succ _, fun b hb => if_neg (by omega), fun b t hb => ?_⟩, h2⟩
  rw [St.add_next]
  by_cases e : b = A.next
  · omega
  · simp [e] at hb; have := hn b t hb; omega

theorem put_ok (hg : Rel ρ ω A.mem.get w) (hn : Nm ρ A.next) (n : Nat) (B₀ B : Blk) (o : Obj) (s : Spot) (hb : A.mem.get n = some B₀) (hr : ρ n = some s) (hB : BR ρ ω s B o) :
    Rel ρ ω (A.put n (some B)).mem.get { w with heap := w.heap.setIfInBounds s.block o } ∧ Nn ρ A.next ρ (A.put n (some B)).next ∧
      Ev ρ A.mem.get w ρ (A.put n (some B)).mem.get { w with heap := w.heap.setIfInBounds s.block o } := by
  obtain ⟨h1, h2⟩ := hg.turned n B₀ B o s hb hr hB
  rw [← put_get] at h1 h2
  exact ⟨h1, by rw [St.put_next]; exact Nn.refl hn, h2⟩

/-- a row of cells whose first ones are known -/
theorem BR.row {n : Nat} {c : List AV} {cs : Array Value} {t : TypeId} {fr : Nat × Nat} (m rest : List Value) (h : RL ρ ω c m) (hcs : cs.toList = m ++ rest) (hfr : fr.1 = fr.2 ∨ cs.size ≤ fr.1) :
    BR ρ ω ⟨n, 0, cs.size⟩ (.cells c) (.cells cs t fr) := by
  have hsz : cs.size = m.length + rest.length := by rw [← Array.length_toList, hcs, List.length_append]
  refine .cells ⟨by simp, rfl⟩ (by rw [h.1, hsz]; exact Nat.le_add_right _ _) hfr fun i x hx => ?_
  obtain ⟨v, hv, hr⟩ := h.get hx
  refine ⟨v, ?_, hr⟩
  simp only [Nat.zero_add]
  rw [← Array.getElem?_toList, hcs, List.getElem?_append_left (List.getElem?_eq_some_iff.1 hv).1, hv]

theorem run_newRow' (t : TypeId) (cs : Array Value) : (newRow t cs).run P w = .ok ⟨w.heap.size, 0, none⟩ { w with heap := w.heap.push (.cells cs t) } := by
  simp [newRow, newObj, Sem.run]

/-- what an operation that makes a block comes to -/
def MOut (P : Program) (ρ : Nat → Option Spot) (ω : Env) (w : World) (n : Nat) (s : Sem Value) (x : AV) (B : Blk) : Prop :=
  ∃ v o sp, s.run P w = .ok v { w with heap := w.heap.push o } ∧ sp.block = w.heap.size ∧ BR ρ ω sp B o ∧ ∀ ρ', Le ρ ρ' → ρ' n = some sp → R ρ' ω x v

theorem mAlloc_ok {t : TypeId} {n : Nat} {x : AV} {B : Blk} (h : mAlloc P n t = some (x, B)) : MOut P ρ ω w n (Instr.alloc t true (.tuple #[])) x B := by
  simp only [mAlloc, Option.bind_eq_some_iff] at h
  obtain ⟨z, hz, h⟩ := h
  cases h
  have hrz := det_run hz w
  exact ⟨.pointer (some ⟨w.heap.size, 0, none⟩), .cells z.cells t, ⟨w.heap.size, 0, z.cells.size⟩, by simp only [Instr.alloc, Sem.run_bind, hrz, Result.andThen, newVar, run_newRow', Sem.run_pure], rfl, BR.row z.cells.toList [] (RL.lits _) (by simp) (.inl rfl), fun ρ' _ h => R.ptr (off := 0) h⟩

theorem mBox_ok (hω : ∀ n, oneV (ω.val n) = true) (hev : Evs ρ ω ev e) (t : TypeId) {y : Operand} {n : Nat} {x : AV} {B : Blk} (h : mBox ev n y = some (x, B)) : MOut P ρ ω w n (Instr.box t (e y)) x B := by
  simp only [mBox, Option.bind_eq_some_iff] at h
  obtain ⟨u, hu, h⟩ := h
  cases h
  have hr := (hev _ _ hu).cells hω
  exact ⟨.pointer (some ⟨w.heap.size, 0, none⟩), .cells (e y).cells t, ⟨w.heap.size, 0, (e y).cells.size⟩, by simp only [Instr.box, Sem.run_bind, newVar, run_newRow', Result.andThen, Sem.run_pure], rfl, BR.row (e y).cells.toList [] hr (by simp) (.inl rfl), fun ρ' _ h => R.ptr (off := 0) h⟩

theorem setCell_heap {b o : Nat} {cs : Array Value} {t : TypeId} {fr : Nat × Nat} (v : Value) (h : w.heap[b]? = some (.cells cs t fr)) :
    w.setCell ⟨b, o, none⟩ v = { w with heap := w.heap.setIfInBounds b (.cells (cs.setIfInBounds o v) t fr) } := by
  unfold World.setCell
  congr 1
  apply Array.ext_getElem?
  intro i
  rw [Array.getElem?_modify, Array.getElem?_setIfInBounds]
  by_cases hi : b = i
  · subst hi
    obtain ⟨hlt, heq⟩ := Array.getElem?_eq_some_iff.1 h
    simp [hlt, heq]
  · simp [hi]

theorem set_self {b : Nat} {o : Obj} (h : w.heap[b]? = some o) : { w with heap := w.heap.setIfInBounds b o } = w := by
  have : w.heap.setIfInBounds b o = w.heap := by
    apply Array.ext_getElem?
    intro i
    rw [Array.getElem?_setIfInBounds]
    by_cases hi : b = i
    · subst hi
      obtain ⟨hlt, heq⟩ := Array.getElem?_eq_some_iff.1 h
      simp [hlt, heq]
    · simp [hi]
  rw [this]

def splice (cs : Array Value) (o : Nat) (vs : List Value) : Array Value := (cs.toList.take o ++ vs ++ cs.toList.drop (o + vs.length)).toArray

theorem splice_size {cs : Array Value} {o : Nat} {vs : List Value} (h : o + vs.length ≤ cs.size) : (splice cs o vs).size = cs.size := by
  simp [splice]; omega

theorem run_storeCells' (b o : Nat) (t : TypeId) (fr : Nat × Nat) : ∀ (vs : List Value) (i : Nat) (cs : Array Value) (w : World), w.heap[b]? = some (.cells cs t fr) → (fr.1 = fr.2 ∨ cs.size ≤ fr.1) →
    o + i + vs.length ≤ cs.size → (∀ v ∈ vs, oneV v = true) →
    (storeCells ⟨b, o, none⟩ vs i).run P w = .ok () { w with heap := w.heap.setIfInBounds b (.cells (splice cs (o + i) vs) t fr) }
  | [], i, cs, w, h, _, _, _ => by
    simp only [storeCells, Sem.run_pure]
    have : splice cs (o + i) [] = cs := by simp [splice]
    rw [this, set_self h]
  | v :: vs, i, cs, w, h, hf, hl, ho => by
    simp only [List.length_cons] at hl
    have hone := ho v (by simp)
    have hfz : w.frozen? ⟨b, o + i, none⟩ = false := by
      simp only [World.frozen?, h]
      rcases hf with hf | hf <;> simp <;> omega
    have hst : (store ((⟨b, o, none⟩ : Addr).add i) v).run P w = .ok () { w with heap := w.heap.setIfInBounds b (.cells (cs.setIfInBounds (o + i) v) t fr) } := by
      rw [Addr.add_none, ← setCell_heap v h]
      have hc : w.cell? ⟨b, o + i, none⟩ = some cs[o + i] := by rw [cell_of h]; exact Array.getElem?_eq_getElem (by omega)
      cases v <;> simp [oneV] at hone <;> simp [store, Sem.run, hc, hfz]
    simp only [storeCells, Sem.run_bind, hst, Result.andThen]
    have hb : b < w.heap.size := lt_of_heap h
    rw [run_storeCells' b o t fr vs (i + 1) (cs.setIfInBounds (o + i) v) _ (by simp [hb]) (by simpa using hf) (by simp; omega) (fun u hu => ho u (by simp [hu]))]
    congr 2
    have : splice (cs.setIfInBounds (o + i) v) (o + (i + 1)) vs = splice cs (o + i) (v :: vs) := by
      unfold splice
      congr 1
      rw [Array.toList_setIfInBounds, set_split v (by simp; omega)]
      generalize cs.toList = l
      apply List.ext_getElem?
      intro k
      simp only [List.getElem?_append, List.getElem?_take, List.getElem?_drop, List.length_append, List.length_take, List.getElem?_cons, List.length_cons]
      grind
    rw [this]
    simp

theorem ones_ok (hω : ∀ n, oneV (ω.val n) = true) : ∀ {l : List AV} {m : List Value}, ones l = true → RL ρ ω l m → ∀ v ∈ m, oneV v = true
  | [], m, _, hm, v, hv => by have := hm.1; have : m = [] := List.length_eq_zero_iff.1 (by simpa using this.symm); rw [this] at hv; cases hv
  | x :: l, [], _, hm, v, hv => by cases hv
  | x :: l, u :: m, h, hm, v, hv => by
    simp only [ones, Bool.and_eq_true] at h
    cases hv with
    | head => exact (hm.2 0 _ _ rfl rfl).one hω h.1
    | tail _ hv => exact ones_ok hω (l := l) (m := m) h.2 ⟨by have := hm.1; simpa using this, fun i x v a b => hm.2 (i + 1) x v (by simpa using a) (by simpa using b)⟩ v hv

/-- known cells with some of them turned -/
theorem BR.spliced {s : Spot} {c xs : List AV} {cs : Array Value} {t : TypeId} {fr : Nat × Nat} {vs : List Value} {o : Nat} (h00 : s.base = 0) (hsz : cs.size = s.base + s.room) (hl : c.length ≤ s.room) (hfr : fr.1 = fr.2 ∨ cs.size ≤ fr.1)
    (hc : ∀ (i : Nat) x, c[i]? = some x → ∃ v, cs[s.base + i]? = some v ∧ R ρ ω x v) (hx : RL ρ ω xs vs) (ho : o ≤ c.length) (hr : o + xs.length ≤ s.room) :
    BR ρ ω s (.cells (c.take o ++ xs ++ c.drop (o + xs.length))) (.cells (splice cs (s.base + o) vs) t fr) := by
  have hxl := hx.1
  have hss : (splice cs (s.base + o) vs).size = cs.size := splice_size (by omega)
  refine .cells ⟨by rw [hss]; exact hsz, h00⟩ (by simp; omega) (by rw [hss]; exact hfr) fun i x hi => ?_
  have hget : (splice cs (s.base + o) vs)[s.base + i]? = if i < o then cs[s.base + i]? else if i < o + vs.length then vs[i - o]? else cs[s.base + i]? := by
    simp only [splice, List.getElem?_toArray, List.getElem?_append, List.getElem?_take, List.getElem?_drop, List.length_append, List.length_take, Array.length_toList, Array.getElem?_toList]
    grind
  rw [hget]
  simp only [List.getElem?_append, List.getElem?_take, List.getElem?_drop, List.length_append, List.length_take] at hi
  by_cases h1 : i < o
  · rw [if_pos h1]
    have : c[i]? = some x := by
      have e : i < min o c.length + xs.length := by omega
      have e2 : i < min o c.length := by omega
      rw [if_pos e, if_pos e2, if_pos h1] at hi; exact hi
    exact hc i x this
  · rw [if_neg h1]
    by_cases h2 : i < o + vs.length
    · rw [if_pos h2]
      have e : i < min o c.length + xs.length := by omega
      have e2 : ¬ i < min o c.length := by omega
      rw [if_pos e, if_neg e2] at hi
      rw [show min o c.length = o by omega] at hi
      exact hx.get hi
    · rw [if_neg h2]
      have e : ¬ i < min o c.length + xs.length := by omega
      rw [if_neg e] at hi
      have : c[i]? = some x := by rw [← hi]; congr 1; omega
      exact hc i x this

theorem hStore_ok (hω : ∀ n, oneV (ω.val n) = true) (hg : Rel ρ ω A.mem.get w) (hn : Nm ρ A.next) (hev : Evs ρ ω ev e) {t : TypeId} {a y : Operand} {x : AV} {A' : St} (h : hStore P ev A t a y = some (x, A')) :
    ∃ w', (Instr.storeAt t (e a) (e y)).run P w = .ok () w' ∧ HOut ρ ω A w x A' undef w' := by
  simp only [hStore, Option.bind_eq_some_iff] at h
  obtain ⟨p, hp, ⟨b, off⟩, hb, B, hB, c, hc, v, hv, n, hsn, h⟩ := h
  cases hcond : (Nat.beq v.cells.length n && Nat.ble (off + n) c.length && ones v.cells) with
  | false => simp only [hcond] at h; cases h
  | true =>
    simp only [hcond, cond_true] at h
    cases h
    simp only [Bool.and_eq_true, Nat.beq_eq, Nat.ble_eq] at hcond
    obtain ⟨⟨h1, h2⟩, h3⟩ := hcond
    rw [AV.toPtr_eq hb] at hp
    obtain ⟨s, hs, he⟩ := (hev _ _ hp).ptr_inv
    obtain ⟨cs, t', fr, hh, hsz, hlen, hfr, hcell⟩ := hg.cells hB hc hs
    have hrn := det_run hsn w
    have hrv := (hev _ _ hv).cells hω
    have hvl : (e y).cells.size = n := by have := hrv.1; simp at this; omega
    have hst := run_storeCells' (P := P) s.block (s.base + off) t' fr (e y).cells.toList 0 cs w hh hfr (by simp [hvl]; omega) (ones_ok hω h3 hrv)
    have hBR := BR.spliced (ρ := ρ) (ω := ω) (t := t') (hg.base ‹_› ‹_› hs) hsz hlen hfr hcell hrv (o := off) (by omega) (by omega)
    rw [Blk.toCells_eq hc] at hB
    obtain ⟨q1, q2, q3⟩ := put_ok hg hn b _ _ _ s hB hs hBR
    rw [h1] at q1 q2 q3
    refine ⟨_, ?_, ρ, .lit _, q1, q2, q3⟩
    simp only [Instr.storeAt, Instr.sureAddr, he, Sem.run_bind, Sem.run_pure, Result.andThen, storeVar, hrn, hvl]
    simpa using hst

theorem zeros_len (z : List Value) : ∀ n, (zeros z n).length = n * z.length
  | 0 => by simp [zeros]
  | n + 1 => by simp [zeros, zeros_len z n, Nat.succ_mul]; omega
def zerosV (z : List Value) : Nat → List Value
  | 0 => []
  | n + 1 => z ++ zerosV z n
theorem zeros_eq (z : List Value) : ∀ n, zeros z n = (zerosV z n).map .lit
  | 0 => rfl
  | n + 1 => by simp [zeros, zerosV, zeros_eq z n]
theorem zerosV_len (z : List Value) : ∀ n, (zerosV z n).length = n * z.length
  | 0 => by simp [zerosV]
  | n + 1 => by simp [zerosV, zerosV_len z n, Nat.succ_mul]; omega
theorem zerosV_get (z : List Value) : ∀ n i, i < n * z.length → (zerosV z n)[i]? = z[i % z.length]?
  | 0, i, h => by simp at h
  | n + 1, i, h => by
    simp only [zerosV, List.getElem?_append]
    by_cases hi : i < z.length
    · rw [if_pos hi, Nat.mod_eq_of_lt hi]
    · have hm : (i - z.length) % z.length = i % z.length := (Nat.mod_eq_sub_mod (by omega)).symm
      rw [if_neg hi, zerosV_get z n _ (by rw [Nat.succ_mul] at h; omega), hm]
theorem range_zeros (z : Array Value) (n k : Nat) (hz : z.size = k) (hk : 1 ≤ k) : ((Array.range (n * k)).map fun i => z[i % z.size]!).toList = zerosV z.toList n := by
  apply List.ext_getElem?
  intro i
  by_cases hi : i < n * k
  · rw [zerosV_get _ _ _ (by simp [hz]; exact hi)]
    have : i % z.size < z.size := Nat.mod_lt _ (by omega)
    simp [hi, this, Array.getElem!_eq_getD, Array.getD]
  · rw [List.getElem?_eq_none (by simp; omega), List.getElem?_eq_none (by rw [zerosV_len]; simp [hz]; omega)]

end
end Go.Proofs.YtagmkceblklgaaaGreat.Ex
