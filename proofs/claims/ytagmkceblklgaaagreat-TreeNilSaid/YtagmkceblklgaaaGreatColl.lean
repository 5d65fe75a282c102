/-
  slices.Values over a slice of changes, and slices.AppendSeq, slices.Collect over what it hands back: the same changes, in a row of their own.
  Conditions: fewer than a million changes, which can be read.
-/
import Derived.RangeFuncNested
import Derived.RangeFuncBound
import Derived.RangeFuncCalls
import Derived.RangeFuncLeaves
import Derived.RangeFuncBox
import Derived.Shelf.Abstract
import Derived.Shelf.RegionOpen
import Derived.WalkKit
import Derived.OwnWalkIn
import Derived.TacticsInMore
import Derived.LoopNIn
import Derived.LoopIn
import Derived.Maps.AppendAt
import Derived.KernelRfl
import Derived.Test.YtagmkceblklgaaaGreatProg
namespace Go.Proofs.YtagmkceblklgaaaGreat
open Go.RowKit Go.Shelf
attribute [local go_sem] Oper.semAt_some

/-- a change, as it lies in memory -/
structure Chg where
  k : ByteArray
  a : Option Addr
  l : Nat
  c : Nat
  g : Bool

def Chg.agg (x : Chg) : Value := .agg #[.string x.k, .slice x.a x.l x.c, .bool x.g]
def Chg.row (x : Chg) : List Value := [.string x.k, .slice x.a x.l x.c, .bool x.g]
def chgZ : Chg := ⟨.empty, none, 0, 0, false⟩
def chgAt (xs : List Chg) (k : Nat) : Chg := xs.getD k chgZ

def upto {α : Type} (f : Nat → α) (k : Nat) : List α := (List.range k).map f
theorem upto_succ {α : Type} (f : Nat → α) (k : Nat) : upto f (k + 1) = upto f k ++ [f k] := by simp [upto, List.range_succ]
theorem upto_length {α : Type} (f : Nat → α) (k : Nat) : (upto f k).length = k := by simp [upto]
theorem upto_all (xs : List Chg) : upto (chgAt xs) xs.length = xs := by
  apply List.ext_getElem
  · simp [upto]
  · intro i h1 h2
    simp [upto, chgAt, h2]
theorem upto_take (xs : List Chg) {k : Nat} (hk : k ≤ xs.length) : upto (chgAt xs) k = xs.take k := by
  apply List.ext_getElem
  · simp [upto, hk]
  · intro i h1 h2
    have : i < xs.length := by simp [upto] at h1; omega
    simp [upto, chgAt, this]

/-- the changes xs lie from off on in block b -/
def ChgsAt (W : World) (b off : Nat) (xs : List Chg) : Prop := ∀ j, j < xs.length → W.cell? ⟨b, off + j * 3, none⟩ = some (.string (chgAt xs j).k) ∧
  W.cell? ⟨b, off + j * 3 + 1, none⟩ = some (.slice (chgAt xs j).a (chgAt xs j).l (chgAt xs j).c) ∧ W.cell? ⟨b, off + j * 3 + 2, none⟩ = some (.bool (chgAt xs j).g)

set_option maxRecDepth 100000 in
set_option maxHeartbeats 2000000 in
theorem values1_in (F : Fence) (n : Nat) (hF : F.fn 60) (hro : F.round = none) (hn : 1 ≤ n) (l Bs n₀ b off cap : Nat) (xs : List Chg) (hreach : xs.length ≤ 1000000) (hb : b < n₀) (J Jx : List Chg → World → Prop)
    (hY : ∀ pre x W, J pre W → pre.length < xs.length → YieldAt F (n - 1) Tryz.prog l #[x.agg] W fun e W' =>
      (e = .returned (.bool true) ∧ J (pre ++ [x]) W' ∧ Below n₀ W W') ∨ (e = .returned (.bool false) ∧ Jx (pre ++ [x]) W'))
    (W : World) (hJA : AbidesFrom W.heap.size J) (hn₀ : n₀ ≤ W.heap.size) (hBs : W.cell? ⟨Bs, 0, none⟩ = some (.slice (some ⟨b, off, none⟩) xs.length cap)) (hc : ChgsAt W b off xs) (h0 : J [] W) :
    CallsIn F n Tryz.prog 60 #[.func (.yield l) #[] #[], .pointer (some ⟨Bs, 0, none⟩)] W fun e W' => (∃ v, e = .returned v) ∧
      ((∃ ys, ys = upto (chgAt xs) xs.length ∧ J ys W') ∨ (∃ pre, (∃ k, k ≤ xs.length ∧ pre = upto (chgAt xs) k) ∧ Jx pre W')) := by
  refine callsIn_of_wp Tryz.func60 rfl hF ?_ hro
  simp only [Tryz.ntmps60, List.size_toArray, List.length_cons, List.length_nil, Nat.reduceAdd, Nat.reduceSub, Array.replicate_succ, Array.replicate_zero, List.push_toArray, List.append_toArray, List.nil_append, List.cons_append]
  generalize hlen : xs.length = len at *
  gi_wp2
  gi_loopw [7] (fun i wr => ∃ k : Nat, k ≤ len ∧ i = .int .i64 k ∧ J (upto (chgAt xs) k) wr ∧ Below n₀ W wr)
    (fun i _ => len - (intOf i).toNat)
  case atStart => exact ⟨0, Nat.zero_le _, rfl, h0, Below.refl _ _⟩
  case round =>
    obtain ⟨k, hk, rfl, hJs, hnx⟩ := hrel
    by_cases hlt : k < len
    · obtain ⟨hc0, hc1, hc2⟩ := hc k (by omega)
      have hc0 := (hnx.cell (p := ⟨b, off + k * 3, none⟩) hb).trans hc0
      have hc1 := (hnx.cell (p := ⟨b, off + k * 3 + 1, none⟩) hb).trans hc1
      have hc2 := (hnx.cell (p := ⟨b, off + k * 3 + 2, none⟩) hb).trans hc2
      have hJ2 : J (upto (chgAt xs) k) (wr.alloc (.cells #[.string (chgAt xs k).k, .slice (chgAt xs k).a (chgAt xs k).l (chgAt xs k).c, .bool (chgAt xs k).g] 56)) := hJA _ _ _ none hJs (World.grownBy_alloc wr _ none) (fun r e => by cases e)
      obtain ⟨fn, tmps, assign, body, hy, hR⟩ := hY _ (chgAt xs k) _ hJ2 (by rw [upto_length]; exact hlt)
      simp only [Chg.agg] at hy
      have hsz := hnx.size
      gi_wp2
      refine hR.mono ?_
      rintro e W3 (⟨rfl, hJ3, hk3⟩ | ⟨rfl, hJx3⟩)
      · gi_wp2
        go_roundw
        case rel => exact ⟨k + 1, by omega, by simp, by rw [upto_succ]; exact hJ3, (hnx.alloc (by omega) _).trans hk3⟩
        case measure => simp [intOf]; omega
      · gi_wp2
        refine bodyPost_ret (results_none rfl _ _ _) rfl ?_
        exact ⟨⟨_, rfl⟩, .inr ⟨_, ⟨k + 1, by omega, (upto_succ _ _).symm⟩, hJx3⟩⟩
    · obtain rfl : k = len := by omega
      gi_wp2
      go_end0
      exact ⟨⟨_, rfl⟩, .inl ⟨_, by rw [← hlen], hJs⟩⟩

/-- a slice of changes, nil too, below n₀ -/
def Chgs (n₀ : Nat) (W : World) (sv : Value) (xs : List Chg) : Prop :=
  (sv = .slice none 0 0 ∧ xs = []) ∨ ∃ b off cap, sv = .slice (some ⟨b, off, none⟩) xs.length cap ∧ b < n₀ ∧ ChgsAt W b off xs
theorem ChgsAt.below {n₀ : Nat} {A B : World} (h : Below n₀ A B) {b off : Nat} {xs : List Chg} (hb : b < n₀) (hc : ChgsAt A b off xs) : ChgsAt B b off xs := fun j hj => by
  obtain ⟨h0, h1, h2⟩ := hc j hj
  exact ⟨(h.cell (p := ⟨b, off + j * 3, none⟩) hb).trans h0, (h.cell (p := ⟨b, off + j * 3 + 1, none⟩) hb).trans h1, (h.cell (p := ⟨b, off + j * 3 + 2, none⟩) hb).trans h2⟩
theorem Chgs.below {n₀ : Nat} {A B : World} (h : Below n₀ A B) {sv : Value} {xs : List Chg} : Chgs n₀ A sv xs → Chgs n₀ B sv xs
  | .inl e => .inl e
  | .inr ⟨b, off, cap, e, hb, hc⟩ => .inr ⟨b, off, cap, e, hb, hc.below h hb⟩

set_option maxRecDepth 100000 in
set_option maxHeartbeats 1000000 in
theorem values1_nil_in (F : Fence) (n : Nat) (hF : F.fn 60) (hro : F.round = none) (l Bs : Nat) (J : List Chg → World → Prop) (W : World) (hBs : W.cell? ⟨Bs, 0, none⟩ = some (.slice none 0 0)) (h0 : J [] W) :
    CallsIn F n Tryz.prog 60 #[.func (.yield l) #[] #[], .pointer (some ⟨Bs, 0, none⟩)] W fun e W' => (∃ v, e = .returned v) ∧ J [] W' := by
  refine callsIn_of_wp Tryz.func60 rfl hF ?_ hro
  simp only [Tryz.ntmps60, List.size_toArray, List.length_cons, List.length_nil, Nat.reduceAdd, Nat.reduceSub, Array.replicate_succ, Array.replicate_zero, List.push_toArray, List.append_toArray, List.nil_append, List.cons_append]
  gi_wp2
  gi_loopw [7] (fun i wr => i = .int .i64 0 ∧ J [] wr) (fun _ _ => 0)
  case atStart => exact ⟨rfl, h0⟩
  case round =>
    obtain ⟨rfl, hJs⟩ := hrel
    gi_wp2
    go_end0
    exact ⟨⟨_, rfl⟩, hJs⟩

theorem values_stops (F : Fence) (n : Nat) (hF : F.fn 60) (hro : F.round = none) (hn : 1 ≤ n) (Bs n₀ : Nat) (sv : Value) (xs : List Chg) (hreach : xs.length ≤ 1000000) (w : World) (hBs : Bs < w.heap.size) (hn₀ : n₀ ≤ w.heap.size)
    (hc : w.cell? ⟨Bs, 0, none⟩ = some sv) (hI : Chgs n₀ w sv xs) :
    SeqStopsK F n Tryz.prog 60 #[.pointer (some ⟨Bs, 0, none⟩)] (fun x : Chg => #[x.agg]) (Below n₀) (fun ys => ys = xs) (fun pre => pre <+: xs) xs.length w := fun l J Jx W hW hJA _ hY h0 => by
  have hc' := (hW.cell (p := ⟨Bs, 0, none⟩) hBs).trans hc
  have hsz := hW.size
  rcases hI.below (hW.mono hn₀) with ⟨rfl, rfl⟩ | ⟨b, off, cap, rfl, hb, hcs⟩
  · exact (values1_nil_in F n hF hro l Bs J W hc' h0).mono fun e W' ⟨he, hj⟩ => ⟨he, .inl ⟨_, rfl, hj⟩⟩
  · refine (values1_in F n hF hro hn l Bs n₀ b off cap xs hreach hb J Jx hY W hJA (by omega) hc' hcs h0).mono ?_
    rintro e W' ⟨he, ⟨ys, rfl, hj⟩ | ⟨pre, ⟨k, hk, rfl⟩, hj⟩⟩
    · exact ⟨he, .inl ⟨_, upto_all xs, hj⟩⟩
    · exact ⟨he, .inr ⟨_, by rw [upto_take xs hk]; exact List.take_prefix _ _, hj⟩⟩

def rows3 (xs : List Chg) : List Value := xs.flatMap Chg.row
theorem rows3_snoc (xs : List Chg) (x : Chg) : rows3 (xs ++ [x]) = rows3 xs ++ x.row := by simp [rows3]
theorem infoC : (Tryz.prog.info? 56).map (fun i => (i.zero, i.size, i.bytes)) = some (some (.agg #[.string ⟨#[]⟩, .slice none 0 0, .bool false]), 3, 48) := by kernel_rfl
theorem cells3_new (W : World) (x : Chg) (t : TypeId) : ∀ j u, x.row[j]? = some u → (W.alloc (.cells #[.string x.k, .slice x.a x.l x.c, .bool x.g] t)).cell? ((⟨W.heap.size, 0, none⟩ : Addr).add j) = some u := by
  intro j u hj
  have hadd : (⟨W.heap.size, 0, none⟩ : Addr).add j = ⟨W.heap.size, j, none⟩ := by
    unfold Addr.add; split
    · subst_vars; rfl
    · simp
  rw [hadd]
  have hh : (W.alloc (.cells #[.string x.k, .slice x.a x.l x.c, .bool x.g] t)).heap[W.heap.size]? = some (.cells #[.string x.k, .slice x.a x.l x.c, .bool x.g] t) := World.alloc_heap_new W _
  simp only [World.cell?, hh]
  rw [← hj]; simp [Chg.row]

/-- what a slice of changes that the call made holds -/
def RowC (W : World) (n₀ : Nat) (v : Value) (xs : List Chg) : Prop := W.ownsRow n₀ 56 3 v xs.length (rows3 xs) ∧ (v = .slice none 0 0 ↔ xs = [])

theorem box3_own {β : Type} (B : Nat) (f : β → Array Value) (t : TypeId) : Own (fun s W => W.heap[B]? = some (.cells (f s) t (0, 0))) := fun s X Y row hs hg hrow => by
  have hlt : B < X.heap.size := (Array.getElem?_eq_some_iff.1 hs).1
  have hne : some B ≠ row := fun e' => by
    obtain ⟨o, ho, hc⟩ := hrow B e'.symm
    rw [show X.heap[B]? = _ from hs] at ho; cases ho; cases hc
  exact (hg.block B hlt hne).trans hs

set_option maxRecDepth 100000 in
set_option maxHeartbeats 4000000 in
theorem appendSeq_in (F : Fence) (n : Nat) (hF : F.fn 78) (hV : F.fn 60) (hro : F.round = none) (hn : 4 ≤ n) (Bs : Nat) (sv : Value) (xs : List Chg) (hreach : xs.length ≤ 1000000) (w : World)
    (hBs : Bs < w.heap.size) (hc : w.cell? ⟨Bs, 0, none⟩ = some sv) (hI : Chgs w.heap.size w sv xs) :
    CallsIn F n Tryz.prog 78 #[.slice none 0 0, .func (.func 60) #[] #[.pointer (some ⟨Bs, 0, none⟩)]] w fun e w' => ∃ v, e = .returned v ∧ RowC w' w.heap.size v xs ∧ Below w.heap.size w w' := by
  have h1 : 1 ≤ n := by omega
  obtain ⟨i0, hi, hz0, hz1, hz2⟩ := info_parts infoC
  refine callsIn_of_wp_marks Tryz.func78 rfl hF ?_ hro
  simp only [Tryz.ntmps78, List.size_toArray, List.length_cons, List.length_nil, Nat.reduceAdd, Nat.reduceSub, Array.replicate_succ, Array.replicate_zero, List.push_toArray, List.append_toArray, List.nil_append, List.cons_append]
  gi_wp2
  have bS := Boxed.new w 22 (.slice none 0 0)
  have hB0 : Below w.heap.size w (w.alloc (.cells #[.slice none 0 0] 22)) := (Below.refl _ w).alloc (Nat.le_refl _) _
  have hsz : (w.alloc (.cells #[.slice none 0 0] 22)).heap.size = w.heap.size + 1 := by simp
  obtain ⟨W0, hW0⟩ : ∃ W0, w.alloc (.cells #[.slice none 0 0] 22) = W0 := ⟨_, rfl⟩
  rw [hW0] at bS hB0 hsz ⊢
  clear hW0
  refine wpIn_rangeFunc_ownH hro h1 (gf := 60) (lb := #[.pointer (some ⟨Bs, 0, none⟩)]) rfl hV (enters_of Tryz.func60 (by kernel_rfl) rfl)
    (values_stops F (n - 1) hV hro (by omega) Bs w.heap.size sv xs hreach W0 (by omega) (by omega) ((hB0.cell (p := ⟨Bs, 0, none⟩) hBs).trans hc) (hI.below hB0)) belowK_t (belowK_b (by omega)) (Below.refl _ _) (fun _ => rfl)
    (fun pre W => (∃ v, Boxed W w.heap.size 22 v ∧ W.ownsRow w.heap.size 56 3 v pre.length (rows3 pre) ∧ (v = .slice none 0 0 ↔ pre = [])) ∧ Below w.heap.size w W)
    (fun _ _ _ => False)
    (OwnFrom.and (Own.from (holdsRow_own w.heap.size w.heap.size 22 56 3 (fun pre : List Chg => pre.length) (fun pre => rows3 pre) (fun pre v => v = .slice none 0 0 ↔ pre = [])) _) (ownFrom_below (Nat.le_refl _) (by omega)))
    (fun _ _ _ _ _ hs _ _ => hs)
    ⟨⟨_, bS, World.ownsRow_nil _ _ _ _, by simp⟩, hB0⟩
    (fun x a' W => ∃ Bx, w.heap.size < Bx ∧ W.heap[Bx]? = some (.cells #[.string x.k, .slice x.a x.l x.c, .bool x.g] 56 (0, 0)) ∧ a' = { tmps := #[.slice none 0 0, .func (.func 60) #[] #[.pointer (some ⟨Bs, 0, none⟩)], .pointer (some ⟨w.heap.size, 0, none⟩), undef, .slice none 0 0, .pointer (some ⟨Bx, 0, none⟩), .func (.func 60) #[] #[.pointer (some ⟨Bs, 0, none⟩)], x.agg, undef, undef, undef, undef, undef], defers := [] })
    (fun x a' _ X Y row hs hg hr => by obtain ⟨Bx, h1, h2, h3⟩ := hs; exact ⟨Bx, h1, box3_own Bx (fun (_ : Unit) => #[.string x.k, .slice x.a x.l x.c, .bool x.g]) _ () X Y row h2 hg (fun r e => (hr r e).2), h3⟩)
    ?assign ?body ?done ?stop
  case assign =>
    rintro l pre x W K ⟨⟨v, hv, hrow, hnil⟩, hB1⟩ hK
    have hvl := hv.lt
    simp only [Chg.agg]
    gi_wp2
    refine hK _ _ ?_ ?_ ⟨⟨v, ?_, ?_, hnil⟩, ?_⟩ ⟨W.heap.size, by omega, ?_, rfl⟩
    · exact (KeepsOthers.alloc _ _).from _
    · exact (Below.refl _ W).alloc hB1.size _
    · exact hv.alloc _
    · exact hrow.alloc _
    · exact hB1.alloc hB1.size _
    · exact World.alloc_heap_new W _
  case body =>
    rintro l pre x a' W hl ⟨r, hr⟩ ⟨⟨v, hv, hrow, hnil⟩, hB1⟩ ⟨Bx, hBx, bX, rfl⟩ hlt
    have hx0 : W.cell? ⟨Bx, 0, none⟩ = some (.string x.k) := by simp [World.cell?, bX]
    have hx1 : W.cell? ⟨Bx, 1, none⟩ = some (.slice x.a x.l x.c) := by simp [World.cell?, bX]
    have hx2 : W.cell? ⟨Bx, 2, none⟩ = some (.bool x.g) := by simp [World.cell?, bX]
    have hvc := hv.cell
    have hle := hB1.size
    gi_wp2_with (gi_at_builtin; refine wpListIn_append_own _ rfl _ _ 22 rfl w.heap.size 56 i0 (.agg #[.string ⟨#[]⟩, .slice none 0 0, .bool false]) 3 48 Tryz.underlying22 hi hz0 hz1 hz2 rfl (by decide) _ _ _ rfl (hrow.alloc _) ⟨W.heap.size, 0, none⟩ 1 1 x.row rfl rfl (cells3_new _ _ _) (by simp [Value.oneCell', Chg.row]) (by unfold maxLen; omega) (by omega) (by simp; omega) ?_; intro v' w1 hown' hgrow _; obtain ⟨g', cap', rfl⟩ := ownsRow_succ hown'; obtain ⟨hv1, hv2, hr2, hk2, hb2⟩ := hv.appended (by decide) hrow hle (Nat.le_refl _) hown' hgrow; have hc1 := hv1.cell; have hf1 := hv1.frozen)
    exact ⟨hk2.from _, hb2, ⟨_, hv2, by simpa [rows3_snoc] using hr2, by simp⟩, hB1.trans hb2⟩
  case done =>
    rintro D ys W hD rfl ⟨⟨v, hv, hrow, hnil⟩, hB1⟩ hK
    have hvc := hv.cell
    gi_wp2
    refine ⟨by simp, .inl ⟨_, _, rfl, run_takeDeferred hK, ?_⟩⟩
    exact ⟨_, results_tmp rfl _ _ _, v, rfl, ⟨ownsRow_putObj hrow _ hK rfl, hnil⟩, hB1.trans (belowK_b (w := W0) (by omega) _ _ _ _ hD hK rfl rfl)⟩
  case stop =>
    rintro D c pre W hD _ hf _
    exact hf.elim

set_option maxRecDepth 100000 in
theorem collect_any (Bs : Nat) (sv : Value) (xs : List Chg) (hreach : xs.length ≤ 1000000) (w : World) (hc : w.cell? ⟨Bs, 0, none⟩ = some sv) (hI : Chgs w.heap.size w sv xs) :
    Calls Tryz.prog 58 #[.func (.func 60) #[] #[.pointer (some ⟨Bs, 0, none⟩)]] w fun e w' => ∃ v, e = .returned v ∧ RowC w' w.heap.size v xs ∧ Below w.heap.size w w' := by
  have hA := appendSeq_in Fence.wide 5 trivial trivial rfl (by omega) Bs sv xs hreach w (World.block_lt_of_cell? w _ hc) hc hI
  refine (callsIn_wide (n := 6)).1 (callsIn_of_wp Tryz.func58 rfl trivial ?_ rfl)
  simp only [Tryz.ntmps58, List.size_toArray, List.length_cons, List.length_nil, Nat.reduceAdd, Nat.reduceSub, Array.replicate_succ, Array.replicate_zero, List.push_toArray, List.append_toArray, List.nil_append, List.cons_append]
  gi_wp2

  refine ⟨trivial, hA.mono ?_⟩
  rintro e w' ⟨v, rfl, hr, hb⟩
  gi_wp2
  trace_state
  refine bodyPost_ret (results_tmp rfl _ _ _) rfl ?_
  exact ⟨_, rfl, hr, hb⟩

end Go.Proofs.YtagmkceblklgaaaGreat
