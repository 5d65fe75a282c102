/-
  RUNNING A CLOSED PIECE OF THE PROGRAM: values whose addresses are names, memory as a tree of named blocks, and what it means that a world has such memory.
  Conditions: none; no program in sight.
-/
import Derived.WalkKit
import Derived.Orders
import Derived.MapKept
namespace Go.Proofs.YtagmkceblklgaaaGreat.Ex

/-- a tree of things by number -/
inductive Tr (α : Type) where
  | nil
  | node (l : Tr α) (v : Option α) (r : Tr α)

def Tr.get {α : Type} : Tr α → Nat → Option α
  | .nil, _ => none
  | .node l v r, k => cond (Nat.beq k 0) v (cond (Nat.beq (k % 2) 1) (l.get (k / 2)) (r.get (k / 2 - 1)))

def Tr.left {α : Type} : Tr α → Tr α
  | .nil => .nil
  | .node l _ _ => l
def Tr.right {α : Type} : Tr α → Tr α
  | .nil => .nil
  | .node _ _ r => r
def Tr.here {α : Type} : Tr α → Option α
  | .nil => none
  | .node _ v _ => v

def Tr.setF {α : Type} : Nat → Tr α → Nat → Option α → Tr α
  | 0, t, _, _ => t
  | f + 1, t, k, v =>
    cond (Nat.beq k 0) (.node t.left v t.right)
      (cond (Nat.beq (k % 2) 1) (.node (Tr.setF f t.left (k / 2) v) t.here t.right) (.node t.left t.here (Tr.setF f t.right (k / 2 - 1) v)))

def Tr.set {α : Type} (t : Tr α) (k : Nat) (v : Option α) : Tr α := Tr.setF (k + 1) t k v

theorem Tr.get_left {α : Type} (t : Tr α) (k : Nat) (h : k % 2 = 1) : t.get k = t.left.get (k / 2) := by
  cases t with
  | nil => simp [Tr.get, Tr.left]
  | node l v r =>
    have h0 : Nat.beq k 0 = false := by cases k with | zero => simp at h | succ n => rfl
    have h1 : Nat.beq (k % 2) 1 = true := by rw [h]; rfl
    simp [Tr.get, Tr.left, h0, h1]

theorem Tr.get_right {α : Type} (t : Tr α) (k : Nat) (h : k % 2 ≠ 1) (hk : k ≠ 0) : t.get k = t.right.get (k / 2 - 1) := by
  cases t with
  | nil => simp [Tr.get, Tr.right]
  | node l v r =>
    have h0 : Nat.beq k 0 = false := by cases k with | zero => exact absurd rfl hk | succ n => rfl
    have h1 : Nat.beq (k % 2) 1 = false := by
      have : k % 2 = 0 := by omega
      rw [this]; rfl
    simp [Tr.get, Tr.right, h0, h1]

theorem Tr.get_here {α : Type} (t : Tr α) : t.get 0 = t.here := by cases t <;> rfl

theorem Tr.get_setF {α : Type} : ∀ (f : Nat) (t : Tr α) (k : Nat) (v : Option α) (j : Nat), k < f → (Tr.setF f t k v).get j = if j = k then v else t.get j
  | 0, _, _, _, _, h => absurd h (by omega)
  | f + 1, t, k, v, j, h => by
    by_cases hk : k = 0
    · subst hk
      have : Tr.setF (f + 1) t 0 v = .node t.left v t.right := rfl
      rw [this]
      by_cases hj : j = 0
      · subst hj; rfl
      · rw [if_neg hj]
        by_cases ho : j % 2 = 1
        · rw [Tr.get_left _ _ ho, Tr.get_left t _ ho]; rfl
        · rw [Tr.get_right _ _ ho hj, Tr.get_right t _ ho hj]; rfl
    · have h0 : Nat.beq k 0 = false := by cases k with | zero => exact absurd rfl hk | succ n => rfl
      by_cases ho : k % 2 = 1
      · have h1 : Nat.beq (k % 2) 1 = true := by rw [ho]; rfl
        have e : Tr.setF (f + 1) t k v = .node (Tr.setF f t.left (k / 2) v) t.here t.right := by simp [Tr.setF, h0, h1]
        rw [e]
        by_cases hj : j = 0
        · subst hj; rw [if_neg (by omega)]; rw [Tr.get_here t]; rfl
        · by_cases hjo : j % 2 = 1
          · rw [Tr.get_left _ _ hjo, Tr.get_left t _ hjo]
            show (Tr.setF f t.left (k / 2) v).get (j / 2) = _
            rw [Tr.get_setF f _ _ _ _ (by omega)]
            by_cases hjk : j = k
            · subst hjk; simp
            · rw [if_neg hjk, if_neg (by omega)]
          · rw [Tr.get_right _ _ hjo hj, Tr.get_right t _ hjo hj, if_neg (by intro e; subst e; exact hjo ho)]; rfl
      · have h1 : Nat.beq (k % 2) 1 = false := by
          have : k % 2 = 0 := by omega
          rw [this]; rfl
        have e : Tr.setF (f + 1) t k v = .node t.left t.here (Tr.setF f t.right (k / 2 - 1) v) := by simp [Tr.setF, h0, h1]
        rw [e]
        by_cases hj : j = 0
        · subst hj; rw [if_neg (by omega)]; rw [Tr.get_here t]; rfl
        · by_cases hjo : j % 2 = 1
          · rw [Tr.get_left _ _ hjo, Tr.get_left t _ hjo, if_neg (by intro e; subst e; exact ho hjo)]; rfl
          · rw [Tr.get_right _ _ hjo hj, Tr.get_right t _ hjo hj]
            show (Tr.setF f t.right (k / 2 - 1) v).get (j / 2 - 1) = _
            rw [Tr.get_setF f _ _ _ _ (by omega)]
            by_cases hjk : j = k
            · subst hjk; simp
            · rw [if_neg hjk, if_neg (by omega)]

theorem Tr.get_set {α : Type} (t : Tr α) (k : Nat) (v : Option α) (j : Nat) : (t.set k v).get j = if j = k then v else t.get j :=
  Tr.get_setF _ _ _ _ _ (by omega)

/-- what is known of a value that is not: the answers of some tests against known values -/
abbrev Facts := List (BinOp × Value × Bool)
def FactsOK (fs : Facts) (v : Value) : Prop := ∀ f ∈ fs, ∀ (P : Program) (w : World) (t : TypeId) (xo yo : Operand),
  (do eqGuard f.1 t xo yo v f.2.1; binOp f.1 t v f.2.1 : Sem Value).run P w = .ok (.bool f.2.2) w

/-- what lies ahead of the run: the values that are not known, and memory as it was -/
structure Env where
  val : Nat → Value
  heap : Array Obj

/-- is it a value of one cell? -/
def oneV : Value → Bool
  | .agg _ | .tuple _ => false
  | _ => true

/-- a value: known, or with named blocks in place of addresses, or unknown (a number for it) -/
inductive AV where
  | lit (v : Value)
  | opq (n : Nat) (fs : Facts)
  | any
  | ptr (b off : Nat)
  | sl (b off len size lo : Nat) (ex : Bool)
  | mp (b : Nat)
  | fn (f : Fn) (first captured : List AV)
  | ifc (t : TypeId) (v : AV)
  | agg (l : List AV)
  | tup (l : List AV)

/-- where a named block lies: the block, its first cell, how many cells from there -/
structure Spot where
  block : Nat
  base : Nat
  room : Nat

/-- the value a name stands for -/
inductive R (ρ : Nat → Option Spot) (ω : Env) : AV → Value → Prop where
  | lit (v : Value) : R ρ ω (.lit v) v
  | opq (n : Nat) {fs : Facts} : FactsOK fs (ω.val n) → R ρ ω (.opq n fs) (ω.val n)
  | any {v : Value} : oneV v = true → R ρ ω .any v
  | ptr {b off : Nat} {s : Spot} : ρ b = some s → R ρ ω (.ptr b off) (.pointer (some ⟨s.block, s.base + off, none⟩))
  | sl {b off len size lo cap : Nat} {ex : Bool} {s : Spot} {a : Addr} : ρ b = some s → len ≤ lo → lo ≤ cap → a.block = s.block ∧ a.spot = none →
      (0 < cap → a = ⟨s.block, s.base + off, none⟩ ∧ off + cap * size ≤ s.room) → (ex = true → cap = lo) → R ρ ω (.sl b off len size lo ex) (.slice (some a) len cap)
  | mp {b : Nat} {s : Spot} : ρ b = some s → R ρ ω (.mp b) (.map (some s.block))
  | fn {f : Fn} {l m : List AV} {l' m' : Array Value} : l.length = l'.size → (∀ (i : Nat) x v, l[i]? = some x → l'[i]? = some v → R ρ ω x v) →
      m.length = m'.size → (∀ (i : Nat) x v, m[i]? = some x → m'[i]? = some v → R ρ ω x v) → R ρ ω (.fn f l m) (.func f l' m')
  | ifc {t : TypeId} {x : AV} {v : Value} : R ρ ω x v → R ρ ω (.ifc t x) (.iface t v)
  | agg {l : List AV} {cs : Array Value} : l.length = cs.size → (∀ (i : Nat) x v, l[i]? = some x → cs[i]? = some v → R ρ ω x v) → R ρ ω (.agg l) (.agg cs)
  | tup {l : List AV} {cs : Array Value} : l.length = cs.size → (∀ (i : Nat) x v, l[i]? = some x → cs[i]? = some v → R ρ ω x v) → R ρ ω (.tup l) (.tuple cs)

def Le (ρ ρ' : Nat → Option Spot) : Prop := ∀ b s, ρ b = some s → ρ' b = some s
theorem Le.refl (ρ : Nat → Option Spot) : Le ρ ρ := fun _ _ h => h
theorem Le.trans {ρ ρ' ρ'' : Nat → Option Spot} (h : Le ρ ρ') (h' : Le ρ' ρ'') : Le ρ ρ'' := fun b s e => h' b s (h b s e)

theorem R.mono {ρ ρ' : Nat → Option Spot} {ω : Env} (hl : Le ρ ρ') {x : AV} {v : Value} (h : R ρ ω x v) : R ρ' ω x v := by
  induction h with
  | lit v => exact .lit v
  | opq n h => exact .opq n h
  | any h => exact .any h
  | ptr h => exact .ptr (hl _ _ h)
  | sl h a b c d e => exact .sl (hl _ _ h) a b c d e
  | mp h => exact .mp (hl _ _ h)
  | fn a _ c _ ih ih' => exact .fn a ih c ih'
  | ifc _ ih => exact .ifc ih
  | agg a _ ih => exact .agg a ih
  | tup a _ ih => exact .tup a ih

/-- lists, one by one -/
def RL (ρ : Nat → Option Spot) (ω : Env) (l : List AV) (m : List Value) : Prop :=
  l.length = m.length ∧ ∀ (i : Nat) x v, l[i]? = some x → m[i]? = some v → R ρ ω x v

theorem RL.mono {ρ ρ' : Nat → Option Spot} {ω : Env} (hl : Le ρ ρ') {l : List AV} {m : List Value} (h : RL ρ ω l m) : RL ρ' ω l m :=
  ⟨h.1, fun i x v a b => (h.2 i x v a b).mono hl⟩
theorem RL.nil {ρ : Nat → Option Spot} {ω : Env} : RL ρ ω [] [] := ⟨rfl, fun i x v h => by simp at h⟩
theorem RL.cons {ρ : Nat → Option Spot} {ω : Env} {x : AV} {v : Value} {l : List AV} {m : List Value} (h : R ρ ω x v) (hl : RL ρ ω l m) : RL ρ ω (x :: l) (v :: m) := by
  refine ⟨by simp [hl.1], fun i y u a b => ?_⟩
  cases i with
  | zero => simp at a b; subst a; subst b; exact h
  | succ i => simp at a b; exact hl.2 i y u a b
theorem RL.append {ρ : Nat → Option Spot} {ω : Env} {l l' : List AV} {m m' : List Value} (h : RL ρ ω l m) (h' : RL ρ ω l' m') : RL ρ ω (l ++ l') (m ++ m') := by
  refine ⟨by simp [h.1, h'.1], fun i y u a b => ?_⟩
  rw [List.getElem?_append] at a b
  have hl := h.1
  by_cases hi : i < l.length
  · rw [if_pos hi] at a; rw [if_pos (by omega)] at b; exact h.2 i y u a b
  · rw [if_neg hi] at a; rw [if_neg (by omega), ← hl] at b; exact h'.2 _ y u a b
theorem RL.take {ρ : Nat → Option Spot} {ω : Env} {l : List AV} {m : List Value} (h : RL ρ ω l m) (n : Nat) : RL ρ ω (l.take n) (m.take n) := by
  refine ⟨by simp [h.1], fun i y u a b => ?_⟩
  rw [List.getElem?_take] at a b
  split at a
  · exact h.2 i y u a (by simpa [*] using b)
  · cases a
theorem RL.drop {ρ : Nat → Option Spot} {ω : Env} {l : List AV} {m : List Value} (h : RL ρ ω l m) (n : Nat) : RL ρ ω (l.drop n) (m.drop n) := by
  refine ⟨by simp [h.1], fun i y u a b => ?_⟩
  rw [List.getElem?_drop] at a b
  exact h.2 _ y u a b
theorem RL.lits {ρ : Nat → Option Spot} {ω : Env} (m : List Value) : RL ρ ω (m.map AV.lit) m := by
  refine ⟨by simp, fun i y u a b => ?_⟩
  rw [List.getElem?_map, b] at a
  simp at a; subst a; exact .lit u
theorem RL.get {ρ : Nat → Option Spot} {ω : Env} {l : List AV} {m : List Value} (h : RL ρ ω l m) {i : Nat} {x : AV} (hx : l[i]? = some x) : ∃ v, m[i]? = some v ∧ R ρ ω x v := by
  have hi : i < m.length := by
    have := (List.getElem?_eq_some_iff.1 hx).1
    rw [h.1] at this; exact this
  exact ⟨m[i], List.getElem?_eq_getElem hi, h.2 i x _ hx (List.getElem?_eq_getElem hi)⟩
theorem R.agg' {ρ : Nat → Option Spot} {ω : Env} {l : List AV} {cs : Array Value} (h : RL ρ ω l cs.toList) : R ρ ω (.agg l) (.agg cs) :=
  .agg (by simpa using h.1) fun i x v a b => h.2 i x v a (by simpa using b)
theorem R.tup' {ρ : Nat → Option Spot} {ω : Env} {l : List AV} {cs : Array Value} (h : RL ρ ω l cs.toList) : R ρ ω (.tup l) (.tuple cs) :=
  .tup (by simpa using h.1) fun i x v a b => h.2 i x v a (by simpa using b)
theorem R.of_agg {ρ : Nat → Option Spot} {ω : Env} {l : List AV} {v : Value} (h : R ρ ω (.agg l) v) : ∃ cs, v = .agg cs ∧ RL ρ ω l cs.toList := by
  cases h with
  | agg a b => exact ⟨_, rfl, by simpa using a, fun i x v c d => b i x v c (by simpa using d)⟩
theorem R.of_tup {ρ : Nat → Option Spot} {ω : Env} {l : List AV} {v : Value} (h : R ρ ω (.tup l) v) : ∃ cs, v = .tuple cs ∧ RL ρ ω l cs.toList := by
  cases h with
  | tup a b => exact ⟨_, rfl, by simpa using a, fun i x v c d => b i x v c (by simpa using d)⟩
theorem R.of_fn {ρ : Nat → Option Spot} {ω : Env} {f : Fn} {l m : List AV} {v : Value} (h : R ρ ω (.fn f l m) v) : ∃ l' m', v = .func f l' m' ∧ RL ρ ω l l'.toList ∧ RL ρ ω m m'.toList := by
  cases h with
  | fn a b c d => exact ⟨_, _, rfl, ⟨by simpa using a, fun i x v e g => b i x v e (by simpa using g)⟩, ⟨by simpa using c, fun i x v e g => d i x v e (by simpa using g)⟩⟩

/-- a value's cells -/
def AV.cells : AV → List AV
  | .agg l => l
  | .lit (.agg cs) => cs.toList.map .lit
  | x => [x]

theorem R.cells {ρ : Nat → Option Spot} {ω : Env} (hω : ∀ n, oneV (ω.val n) = true) {x : AV} {v : Value} (h : R ρ ω x v) : RL ρ ω x.cells v.cells.toList := by
  cases h with
  | lit v =>
    cases v <;> first
      | exact RL.lits _
      | exact RL.cons (.lit _) .nil
  | opq n h =>
    have := hω n
    cases e : ω.val n <;> rw [e] at this <;> first
      | (cases this; done)
      | exact RL.cons (e ▸ .opq n h) .nil
  | any h =>
    cases v <;> first
      | (cases h; done)
      | exact RL.cons (.any h) .nil
  | agg a b => exact ⟨by simpa [AV.cells, Value.cells] using a, fun i x v c d => b i x v c (by simpa [Value.cells] using d)⟩
  | ptr h => exact RL.cons (.ptr h) .nil
  | sl a b c d e f => exact RL.cons (.sl a b c d e f) .nil
  | mp h => exact RL.cons (.mp h) .nil
  | fn a b c d => exact RL.cons (.fn a b c d) .nil
  | ifc h => exact RL.cons (.ifc h) .nil
  | tup a b => exact RL.cons (.tup a b) .nil

/-- is it a value of one cell? -/
def AV.one : AV → Bool
  | .lit v => oneV v
  | .agg _ | .tup _ => false
  | _ => true
theorem R.one {ρ : Nat → Option Spot} {ω : Env} (hω : ∀ n, oneV (ω.val n) = true) {x : AV} {v : Value} (h : R ρ ω x v) (ho : x.one = true) : oneV v = true := by
  cases h <;> first
    | exact ho
    | exact hω _
    | rfl
    | assumption
    | cases ho

/-- a named block -/
inductive Blk where
  | cells (c : List AV)
  | map (es : List (Value × AV))

/-- the object that a named block is -/
inductive BR (ρ : Nat → Option Spot) (ω : Env) (s : Spot) : Blk → Obj → Prop where
  | cells {c : List AV} {cs : Array Value} {t : TypeId} {fr : Nat × Nat} : cs.size = s.base + s.room ∧ s.base = 0 → c.length ≤ s.room → (fr.1 = fr.2 ∨ cs.size ≤ fr.1) →
      (∀ (i : Nat) x, c[i]? = some x → ∃ v, cs[s.base + i]? = some v ∧ R ρ ω x v) → BR ρ ω s (.cells c) (.cells cs t fr)
  | map {es : List (Value × AV)} {es' : Array MapEntry} {clock : Nat} : es.length = es'.size →
      (∀ (i : Nat) k x e, es[i]? = some (k, x) → es'[i]? = some e → e.key = k ∧ R ρ ω x e.val) → MapKept.Stamped es' clock → BR ρ ω s (.map es) (.map es' clock)

theorem BR.mono {ρ ρ' : Nat → Option Spot} {ω : Env} (hl : Le ρ ρ') {s : Spot} {B : Blk} {o : Obj} (h : BR ρ ω s B o) : BR ρ' ω s B o := by
  cases h with
  | cells a b c d => exact .cells a b c fun i x hx => let ⟨v, e, r⟩ := d i x hx; ⟨v, e, r.mono hl⟩
  | map a b c => exact .map a (fun i k x e hx he => let ⟨p, q⟩ := b i k x e hx he; ⟨p, q.mono hl⟩) c

/-- a world that has this memory -/
structure Rel (ρ : Nat → Option Spot) (ω : Env) (g : Nat → Option Blk) (w : World) : Prop where
  blk : ∀ b B, g b = some B → ∃ s o, ρ b = some s ∧ w.heap[s.block]? = some o ∧ BR ρ ω s B o
  inj : ∀ b b' B B' s s', g b = some B → g b' = some B' → ρ b = some s → ρ b' = some s' → s.block = s'.block → b = b'
  size : ω.heap.size ≤ w.heap.size
  old : ∀ i, i < ω.heap.size → w.heap[i]? = ω.heap[i]?
  new : ∀ b B s, g b = some B → ρ b = some s → ω.heap.size ≤ s.block

theorem Rel.weaken {ρ : Nat → Option Spot} {ω : Env} {g g' : Nat → Option Blk} {w : World} (h : Rel ρ ω g w) (hg : ∀ b B, g' b = some B → g b = some B) : Rel ρ ω g' w :=
  ⟨fun b B e => h.blk b B (hg b B e), fun b b' B B' s s' e e' => h.inj b b' B B' s s' (hg _ _ e) (hg _ _ e'), h.size, h.old, fun b B s e => h.new b B s (hg _ _ e)⟩

/-- what became of a world -/
structure Ev (ρ : Nat → Option Spot) (g : Nat → Option Blk) (w : World) (ρ' : Nat → Option Spot) (g' : Nat → Option Blk) (w' : World) : Prop where
  le : Le ρ ρ'
  size : w.heap.size ≤ w'.heap.size
  keep : ∀ i, i < w.heap.size → (∀ b B s, g b = some B → ρ b = some s → s.block ≠ i) → w'.heap[i]? = w.heap[i]?
  old : ∀ b B s, g' b = some B → ρ' b = some s → s.block < w.heap.size → ∃ b₀ B₀ s₀, g b₀ = some B₀ ∧ ρ b₀ = some s₀ ∧ s₀.block = s.block
  os : w'.os = w.os
  tape : w'.tape = w.tape
  output : w'.output = w.output

theorem Ev.refl (ρ : Nat → Option Spot) (g : Nat → Option Blk) (w : World) : Ev ρ g w ρ g w :=
  ⟨.refl _, Nat.le_refl _, fun _ _ _ => rfl, fun b B s h h' _ => ⟨b, B, s, h, h', rfl⟩, rfl, rfl, rfl⟩

theorem Ev.trans {ρ ρ' ρ'' : Nat → Option Spot} {g g' g'' : Nat → Option Blk} {w w' w'' : World} (h : Ev ρ g w ρ' g' w') (h' : Ev ρ' g' w' ρ'' g'' w'') : Ev ρ g w ρ'' g'' w'' := by
  refine ⟨h.le.trans h'.le, Nat.le_trans h.size h'.size, fun i hi hn => ?_, fun b B s hb hr hs => ?_, h'.os.trans h.os, h'.tape.trans h.tape, h'.output.trans h.output⟩
  · rw [h'.keep i (Nat.lt_of_lt_of_le hi h.size) ?_, h.keep i hi hn]
    intro b B s hb hr e
    subst e
    obtain ⟨b₀, B₀, s₀, e₀, r₀, q⟩ := h.old b B s hb hr hi
    exact hn b₀ B₀ s₀ e₀ r₀ q
  · obtain ⟨b₁, B₁, s₁, e₁, r₁, q₁⟩ := h'.old b B s hb hr (Nat.lt_of_lt_of_le hs h.size)
    obtain ⟨b₀, B₀, s₀, e₀, r₀, q₀⟩ := h.old b₁ B₁ s₁ e₁ r₁ (q₁ ▸ hs)
    exact ⟨b₀, B₀, s₀, e₀, r₀, q₀.trans q₁⟩

/-- a world that drew an answer -/
theorem Ev.drew {ρ : Nat → Option Spot} {g : Nat → Option Blk} {w : World} (n : Nat) : Ev ρ g w ρ g { w with drawn := n } :=
  ⟨.refl _, Nat.le_refl _, fun _ _ _ => rfl, fun b B s h h' _ => ⟨b, B, s, h, h', rfl⟩, rfl, rfl, rfl⟩
theorem Rel.drew {ρ : Nat → Option Spot} {ω : Env} {g : Nat → Option Blk} {w : World} (n : Nat) (h : Rel ρ ω g w) : Rel ρ ω g { w with drawn := n } :=
  ⟨h.blk, h.inj, h.size, h.old, h.new⟩

theorem heap_push_lt {w : World} {o : Obj} {i : Nat} (h : i < w.heap.size) : (w.heap.push o)[i]? = w.heap[i]? := by
  rw [Array.getElem?_push]; rw [if_neg (by omega)]
theorem lt_of_heap {w : World} {i : Nat} {o : Obj} (h : w.heap[i]? = some o) : i < w.heap.size := by
  rcases Nat.lt_or_ge i w.heap.size with hi | hi
  · exact hi
  · rw [Array.getElem?_eq_none hi] at h; cases h

/-- a new block under a new name -/
theorem Rel.fresh {ρ : Nat → Option Spot} {ω : Env} {g : Nat → Option Blk} {w : World} (h : Rel ρ ω g w) (n : Nat) (hn : ρ n = none) (B : Blk) (o : Obj) (s : Spot)
    (hs : s.block = w.heap.size) (hB : BR ρ ω s B o) :
    Rel (fun b => if b = n then some s else ρ b) ω (fun b => if b = n then some B else g b) { w with heap := w.heap.push o } ∧
    Ev ρ g w (fun b => if b = n then some s else ρ b) (fun b => if b = n then some B else g b) { w with heap := w.heap.push o } := by
  have hle : Le ρ (fun b => if b = n then some s else ρ b) := by
    intro b t e
    have : b ≠ n := by intro e'; subst e'; rw [hn] at e; cases e
    simp [this, e]
  refine ⟨⟨fun b C e => ?_, fun b b' C C' t t' e e' r r' q => ?_, by have := h.size; simp; omega, fun i hi => by have := h.size; rw [← h.old i hi]; exact heap_push_lt (by omega), fun b C t e r => ?_⟩, hle, by simp, fun i hi _ => heap_push_lt hi, fun b C t e r hlt => ?_, rfl, rfl, rfl⟩
  · by_cases hb : b = n
    · simp [hb] at e; subst e
      exact ⟨s, o, by simp [hb], by show (w.heap.push o)[s.block]? = _; rw [hs]; simp, hB.mono hle⟩
    · simp [hb] at e
      obtain ⟨t, p, r, q, br⟩ := h.blk b C e
      exact ⟨t, p, hle _ _ r, by show (w.heap.push o)[t.block]? = _; rw [heap_push_lt (lt_of_heap q)]; exact q, br.mono hle⟩
  · by_cases hb : b = n <;> by_cases hb' : b' = n
    · rw [hb, hb']
    · simp [hb] at r; simp [hb'] at e' r'; subst r
      obtain ⟨t2, p, r2, q2, _⟩ := h.blk b' C' e'
      rw [r'] at r2; cases r2
      have := lt_of_heap q2; omega
    · simp [hb] at e r; simp [hb'] at r'; subst r'
      obtain ⟨t2, p, r2, q2, _⟩ := h.blk b C e
      rw [r] at r2; cases r2
      have := lt_of_heap q2; omega
    · simp [hb] at e r; simp [hb'] at e' r'
      exact h.inj b b' C C' t t' e e' r r' q
  · by_cases hb : b = n
    · simp [hb] at r; subst r; have := h.size; omega
    · simp [hb] at e r; exact h.new b C t e r
  · by_cases hb : b = n
    · simp [hb] at r; subst r; omega
    · simp [hb] at e r; exact ⟨b, C, t, e, r, rfl⟩

/-- a named block turned in place -/
theorem Rel.turned {ρ : Nat → Option Spot} {ω : Env} {g : Nat → Option Blk} {w : World} (h : Rel ρ ω g w) (n : Nat) (B₀ B : Blk) (o : Obj) (s : Spot)
    (hg : g n = some B₀) (hr : ρ n = some s) (hB : BR ρ ω s B o) :
    Rel ρ ω (fun b => if b = n then some B else g b) { w with heap := w.heap.setIfInBounds s.block o } ∧
    Ev ρ g w ρ (fun b => if b = n then some B else g b) { w with heap := w.heap.setIfInBounds s.block o } := by
  obtain ⟨s', o', hr', hh, _⟩ := h.blk n B₀ hg
  rw [hr] at hr'; cases hr'
  have hlt := lt_of_heap hh
  have hset : ∀ i, i ≠ s.block → (w.heap.setIfInBounds s.block o)[i]? = w.heap[i]? := fun i hi => by
    rw [Array.getElem?_setIfInBounds]; rw [if_neg (fun e => hi e.symm)]
  have hns := h.new n B₀ s hg hr
  refine ⟨⟨fun b C e => ?_, fun b b' C C' t t' e e' r r' q => ?_, by have := h.size; simp; omega, fun i hi => by rw [← h.old i hi]; exact hset i (by omega), fun b C t e r => ?_⟩, .refl _, by simp, fun i hi hno => hset i ?_, fun b C t e r hlt' => ?_, rfl, rfl, rfl⟩
  · by_cases hb : b = n
    · simp [hb] at e; subst e
      exact ⟨s, o, by rw [hb]; exact hr, by show (w.heap.setIfInBounds s.block o)[s.block]? = _; rw [Array.getElem?_setIfInBounds]; simp [hlt], hB⟩
    · simp [hb] at e
      obtain ⟨t, p, r, q, br⟩ := h.blk b C e
      refine ⟨t, p, r, ?_, br⟩
      show (w.heap.setIfInBounds s.block o)[t.block]? = _
      rw [hset _ (fun e' => hb (h.inj b n C B₀ t s e hg r hr e'))]; exact q
  · have f : ∀ c D, (if c = n then some B else g c) = some D → ∃ D', g c = some D' := fun c D hc => by
      by_cases hcn : c = n
      · exact ⟨B₀, by rw [hcn]; exact hg⟩
      · simp [hcn] at hc; exact ⟨D, hc⟩
    obtain ⟨D, hD⟩ := f b C e
    obtain ⟨D', hD'⟩ := f b' C' e'
    exact h.inj b b' D D' t t' hD hD' r r' q
  · by_cases hb : b = n
    · rw [hb] at r; rw [hr] at r; cases r; exact hns
    · simp [hb] at e; exact h.new b C t e r
  · exact fun e => hno n B₀ s hg hr e.symm
  · by_cases hb : b = n
    · rw [hb] at r; rw [hr] at r; cases r; exact ⟨n, B₀, s, hg, hr, rfl⟩
    · simp [hb] at e; exact ⟨b, C, t, e, r, rfl⟩

end Go.Proofs.YtagmkceblklgaaaGreat.Ex
