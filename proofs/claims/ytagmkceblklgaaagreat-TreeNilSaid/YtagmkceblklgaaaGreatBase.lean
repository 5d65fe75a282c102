/-
  WORDS ON MEMORY that all walks of this claim share: rows of cells, slices of bytes, what a call leaves alone. No program in sight.
-/
import Derived.WalkKit
import Derived.WalkSpells
import Derived.WalkLawsBesides
import Derived.Lib.Hide
import Derived.Test.YtagmkceblklgaaaGreatCodec
namespace Go.Proofs.YtagmkceblklgaaaGreat
open Go.RowKit

def u8v (c : UInt8) : Value := .int .u8 c.toNat
def u8s (l : Bytes) : List Value := l.map u8v
theorem u8s_length (l : Bytes) : (u8s l).length = l.length := by simp [u8s]
theorem u8s_append (l m : Bytes) : u8s (l ++ m) = u8s l ++ u8s m := by simp [u8s]

/-- the cells of a block from off on -/
def RowAt (w : World) (b off : Nat) (xs : List Value) : Prop := ∀ i v, xs[i]? = some v → w.cell? ⟨b, off + i, none⟩ = some v

theorem RowAt.u8 {w : World} {b off : Nat} {l : Bytes} (h : RowAt w b off (u8s l)) {i : Nat} (hi : i < l.length) : w.cell? ⟨b, off + i, none⟩ = some (.int .u8 (l[i]).toNat) :=
  h i _ (by simp [u8s, hi, u8v])

theorem RowAt.drop {w : World} {b off : Nat} {xs : List Value} (h : RowAt w b off xs) (k : Nat) : RowAt w b (off + k) (xs.drop k) := by
  intro i v hv
  rw [List.getElem?_drop] at hv
  have := h _ _ hv
  rwa [← Nat.add_assoc] at this

theorem RowAt.take {w : World} {b off : Nat} {xs : List Value} (h : RowAt w b off xs) (k : Nat) : RowAt w b off (xs.take k) := by
  intro i v hv
  rw [List.getElem?_take] at hv
  split at hv
  · exact h _ _ hv
  · cases hv

/-- What a call leaves alone: every block that was there but those of S. -/
structure Keeps (S : Nat → Prop) (w w' : World) : Prop where
  os : w'.os = w.os
  tape : w'.tape = w.tape
  output : w'.output = w.output
  size : w.heap.size ≤ w'.heap.size
  block : ∀ k, k < w.heap.size → ¬ S k → w'.heap[k]? = w.heap[k]?

theorem Keeps.refl (S : Nat → Prop) (w : World) : Keeps S w w := ⟨rfl, rfl, rfl, Nat.le_refl _, fun _ _ _ => rfl⟩

/-- one call behind the other: what the second turns was turned by the first, or is new -/
theorem Keeps.trans {S T : Nat → Prop} {a b c : World} (h : Keeps S a b) (k : Keeps T b c) (hT : ∀ i, T i → S i ∨ a.heap.size ≤ i) : Keeps S a c :=
  ⟨k.os.trans h.os, k.tape.trans h.tape, k.output.trans h.output, Nat.le_trans h.size k.size,
   fun i hi hS => (k.block i (Nat.lt_of_lt_of_le hi h.size) (fun ht => (hT i ht).elim hS (fun h => absurd h (by omega)))).trans (h.block i hi hS)⟩

theorem Keeps.mono {S T : Nat → Prop} {w w' : World} (h : Keeps S w w') (hT : ∀ i, S i → T i) : Keeps T w w' :=
  ⟨h.os, h.tape, h.output, h.size, fun k hk hn => h.block k hk (fun hs => hn (hT k hs))⟩

theorem Keeps.below {w w' : World} {B : Nat} (h : Below B w w') : Keeps (fun k => B ≤ k) w w' :=
  ⟨h.os, h.tape, h.output, h.size, fun k _ hn => h.block k (by omega)⟩

theorem Keeps.of_below {w w' : World} (h : Below w.heap.size w w') (S : Nat → Prop) : Keeps S w w' :=
  ⟨h.os, h.tape, h.output, h.size, fun k hk _ => h.block k hk⟩

theorem Keeps.toBelow {S : Nat → Prop} {B : Nat} {w w' : World} (h : Keeps S w w') (hS : ∀ k, S k → B ≤ k) (hB : B ≤ w.heap.size) : Below B w w' :=
  ⟨h.os, h.tape, h.output, h.size, fun k hk => h.block k (by omega) (fun hs => by have := hS k hs; omega)⟩

theorem Keeps.of_grown {w w' : World} {row : Option Nat} (h : w.grownBy w' row) : Keeps (fun k => some k = row) w w' :=
  ⟨h.os, h.tape, h.output, h.size, fun k hk hn => h.block k hk hn⟩

theorem Keeps.alloc {S : Nat → Prop} (w : World) (o : Obj) : Keeps S w (w.alloc o) :=
  ⟨rfl, rfl, rfl, by simp, fun k hk _ => Below.heap_alloc _ _ _ hk⟩

theorem Keeps.setCell {S : Nat → Prop} (w : World) {a : Addr} (ha : S a.block) (v : Value) : Keeps S w (w.setCell a v) :=
  ⟨rfl, rfl, rfl, by simp, fun k _ hn => Below.heap_setCell _ _ _ _ (fun e => hn (e ▸ ha))⟩

theorem Keeps.drew {S : Nat → Prop} (w : World) : Keeps S w w.drew := ⟨rfl, rfl, rfl, Nat.le_refl _, fun _ _ _ => rfl⟩
theorem Keeps.drewN {S : Nat → Prop} (w : World) (n : Nat) : Keeps S w (w.drewN n) := ⟨rfl, rfl, rfl, Nat.le_refl _, fun _ _ _ => rfl⟩

theorem Keeps.cell {S : Nat → Prop} {w w' : World} (h : Keeps S w w') {p : Addr} {v : Value} (hc : w.cell? p = some v) (hp : ¬ S p.block) : w'.cell? p = some v :=
  (World.cell?_of_block (h.block p.block (World.block_lt_of_cell? w p hc) hp)).trans hc

theorem Keeps.heap {S : Nat → Prop} {w w' : World} (h : Keeps S w w') {k : Nat} {o : Obj} (hc : w.heap[k]? = some o) (hp : ¬ S k) : w'.heap[k]? = some o :=
  (h.block k (Array.getElem?_eq_some_iff.1 hc).1 hp).trans hc

theorem Keeps.row {S : Nat → Prop} {w w' : World} (h : Keeps S w w') {b off : Nat} {xs : List Value} (hr : RowAt w b off xs) (hp : ¬ S b) : RowAt w' b off xs :=
  fun i v hv => h.cell (hr i v hv) hp

theorem lt_of_heap {w : World} {k : Nat} {o : Obj} (h : w.heap[k]? = some o) : k < w.heap.size := (Array.getElem?_eq_some_iff.1 h).1

/-- cells and marks of a block that is known whole -/
theorem cell_of_heap {w : World} {b : Nat} {c : Array Value} {t : TypeId} {f : Nat × Nat} (h : w.heap[b]? = some (.cells c t f)) (i : Nat) : w.cell? ⟨b, i, none⟩ = c[i]? := by
  simp [World.cell?, h]
theorem frozen_of_heap {w : World} {b : Nat} {c : Array Value} {t : TypeId} (h : w.heap[b]? = some (.cells c t (0, 0))) (i : Nat) : w.frozen? ⟨b, i, none⟩ = false := by
  simp [World.frozen?, h]

theorem heap_setCell_same {w : World} {b i : Nat} {c : Array Value} {t : TypeId} {f : Nat × Nat} (h : w.heap[b]? = some (.cells c t f)) (v : Value) :
    (w.setCell ⟨b, i, none⟩ v).heap[b]? = some (.cells (c.setIfInBounds i v) t f) := by
  simp [World.setCell, Array.getElem?_modify, h]

theorem heap_setCell_ne {w : World} {b i k : Nat} (hne : k ≠ b) (v : Value) : (w.setCell ⟨b, i, none⟩ v).heap[k]? = w.heap[k]? :=
  Below.heap_setCell _ _ _ _ hne

theorem heap_alloc_lt {w : World} {k : Nat} {o : Obj} (h : k < w.heap.size) : (w.alloc o).heap[k]? = w.heap[k]? := Below.heap_alloc _ _ _ h
theorem heap_alloc_self (w : World) (o : Obj) : (w.alloc o).heap[w.heap.size]? = some o := by
  show (w.heap.push o)[w.heap.size]? = _
  simp

theorem row_of_heap {w : World} {b : Nat} {c : Array Value} {t : TypeId} {f : Nat × Nat} (h : w.heap[b]? = some (.cells c t f)) {off : Nat} {xs : List Value} (hx : (c.toList.drop off).take xs.length = xs) : RowAt w b off xs := by
  intro i v hv
  rw [cell_of_heap h, ← Array.getElem?_toList]
  have hi : i < xs.length := (List.getElem?_eq_some_iff.1 hv).1
  rw [← hx, List.getElem?_take, if_pos hi, List.getElem?_drop] at hv
  exact hv

/-- a slice of bytes that can be read -/
def Bys (w : World) (v : Value) (l : Bytes) : Prop :=
  (v = .slice none 0 0 ∧ l = []) ∨ ∃ b off cap, v = .slice (some ⟨b, off, none⟩) l.length cap ∧ l.length ≤ cap ∧ b < w.heap.size ∧ RowAt w b off (u8s l)

theorem Bys.kept {S : Nat → Prop} {w w' : World} {v : Value} {l : Bytes} (h : Bys w v l) (hk : Keeps S w w') (hv : ∀ b, v.ownBlock = some b → ¬ S b) : Bys w' v l := by
  rcases h with h | ⟨b, off, cap, rfl, h1, h2, h3⟩
  · exact .inl h
  · exact .inr ⟨b, off, cap, rfl, h1, Nat.lt_of_lt_of_le h2 hk.size, hk.row h3 (hv b rfl)⟩

theorem Bys.of_owns {w : World} {base e : Nat} {v : Value} {l : Bytes} (h : w.ownsRow base e 1 v l.length (u8s l)) : Bys w v l := by
  obtain ⟨h1, h2⟩ := h
  rcases h2 with ⟨rfl, h2⟩ | ⟨g, cap, cur, rfl, hg, hh, hn, hm, hs, ht⟩
  · exact .inl ⟨rfl, List.eq_nil_of_length_eq_zero h2⟩
  · refine .inr ⟨g, 0, cap, rfl, hn, lt_of_heap hh, row_of_heap hh ?_⟩
    rw [List.drop_zero, u8s_length]
    simpa using ht

theorem ownsRow_kept {S : Nat → Prop} {w w' : World} {base e sz n : Nat} {v : Value} {xs : List Value} (h : w.ownsRow base e sz v n xs) (hk : Keeps S w w') (hv : ∀ b, v.ownBlock = some b → ¬ S b) : w'.ownsRow base e sz v n xs := by
  obtain ⟨h1, h2⟩ := h
  refine ⟨h1, ?_⟩
  rcases h2 with h2 | ⟨g, cap, cur, rfl, hg, hh, r⟩
  · exact .inl h2
  · exact .inr ⟨g, cap, cur, rfl, hg, hk.heap hh (hv g rfl), r⟩

theorem ownsRow_block {w : World} {base e sz n : Nat} {v : Value} {xs : List Value} (h : w.ownsRow base e sz v n xs) : ∀ b, v.ownBlock = some b → base ≤ b ∧ b < w.heap.size := fun b hb => h.lt b hb

end Go.Proofs.YtagmkceblklgaaaGreat
