/-
  reevelaw09.few: lists of a size that is looked at, as a plain function.
  Conditions: the lists can be read; none is longer than a machine's memory.
-/
import Derived.Test.YtagmkceblklgaaaGreatColl
import Derived.Below
import Derived.WalkKit
import Derived.LoopN
import Derived.Lib.Hide
namespace Go.Proofs.YtagmkceblklgaaaGreat
open Go.RowKit
theorem min2_ints (k k' : IntKind) (x y : Int) : Builtin.min2 (.int k x) (.int k' y) = pure (.int k (if y < x then y else x)) := by simp only [Builtin.min2]
theorem min_two_ (ats : Array TypeId) (ty : TypeId) (a b : Value) : Builtin.min_ ats ty #[a, b] = (Builtin.min2 a b >>= fun s => pure s) := by simp only [Builtin.min_, List.foldlM_cons, List.foldlM_nil]
attribute [local go_sem] min2_ints min_two_

/-- what one change counts -/
def Chg.wt (x : Chg) : Nat := 30 + min x.l 30000 + min x.k.size 1000
def wts (l : List Chg) : Nat := (l.map Chg.wt).sum
theorem wts_le (l : List Chg) : wts l ≤ 31030 * l.length := by
  induction l with
  | nil => simp [wts]
  | cons x l ih =>
    simp only [wts, List.map_cons, List.sum_cons, List.length_cons] at *
    have : x.wt ≤ 31030 := by unfold Chg.wt; omega
    omega
theorem wts_take {l : List Chg} {j : Nat} (h : j < l.length) : wts (l.take (j + 1)) = wts (l.take j) + (chgAt l j).wt := by
  unfold wts
  rw [List.take_succ_eq_append_getElem h, List.map_append, List.sum_append]
  simp [chgAt, h]
def fewGo (n c i : Nat) : List (List Chg) → Bool
  | [] => true
  | l :: r => if n + wts l > 60000 ∨ c + l.length > 500 ∨ i ≥ 40 then false else fewGo (n + wts l) (c + l.length) (i + 1) r
def fewB (ll : List (List Chg)) : Bool := fewGo 0 0 0 ll

/-- a slice of changes that can be read -/
def ChgsV (n₀ : Nat) (W : World) (sv : Value) (xs : List Chg) : Prop :=
  (∃ p cap, sv = .slice p 0 cap ∧ xs = []) ∨ ∃ b off cap, sv = .slice (some ⟨b, off, none⟩) xs.length cap ∧ b < n₀ ∧ ChgsAt W b off xs
theorem ChgsV.below {n₀ : Nat} {A B : World} (h : Below n₀ A B) {sv : Value} {xs : List Chg} : ChgsV n₀ A sv xs → ChgsV n₀ B sv xs
  | .inl e => .inl e
  | .inr ⟨b, off, cap, e, hb, hc⟩ => .inr ⟨b, off, cap, e, hb, hc.below h hb⟩
def ListsAt (n₀ : Nat) (W : World) (b off : Nat) (ll : List (List Chg)) : Prop := b < n₀ ∧ ∀ i, i < ll.length → ∃ sv, W.cell? ⟨b, off + i, none⟩ = some sv ∧ ChgsV n₀ W sv (ll.getD i [])

theorem drop_getD {ll : List (List Chg)} {k : Nat} (h : k < ll.length) : ll.drop k = ll.getD k [] :: ll.drop (k + 1) := by
  rw [List.drop_eq_getElem_cons h]; simp [h]

set_option maxRecDepth 100000 in
set_option maxHeartbeats 2000000 in
theorem few_any (b off cap : Nat) (ll : List (List Chg)) (w : World) (hl : ∀ l ∈ ll, l.length ≤ 100000000000000) (hlen : ll.length ≤ 100000000000000) (hat : ListsAt w.heap.size w b off ll) :
    Calls Tryz.prog 7 #[.slice (some ⟨b, off, none⟩) ll.length cap] w fun e w' => e = .returned (.bool (fewB ll)) ∧ Below w.heap.size w w' := by
  have HL := Lib.hid hl; clear hl
  have HA := Lib.hid hat; clear hat
  go_enter Tryz.func7, Tryz.ntmps7
  go_wp2
  repeat (go_quiet (fail); try go_wp2)
  generalize hN : ll.length = N at *
  go_loopw [3, 4, 9] (fun n c i wr => ∃ (k m d : Nat), k ≤ N ∧ k ≤ 40 ∧ i = .int .i64 k ∧ n = .int .i64 m ∧ c = .int .i64 d ∧ m ≤ 60000 ∧ d ≤ 500 ∧ Hid (fewGo m d k (ll.drop k) = fewB ll) ∧ Below w.heap.size w wr) (fun _ _ i _ => N - (intOf i).toNat)
  case atStart => exact ⟨0, 0, 0, by omega, by omega, rfl, rfl, rfl, by omega, by omega, Lib.hid rfl, by repeat (first | exact Below.refl _ _ | apply Below.drew)⟩
  case round =>
    obtain ⟨k, m, d, hk, hk40, rfl, rfl, rfl, hm, hd, HG, hB⟩ := hrel
    by_cases hlt : k < N
    · obtain ⟨sv, hsv, hc⟩ := HA.out.2 k (by omega)
      have hcr := (hB.cell (p := ⟨b, off + k, none⟩) HA.out.1).trans hsv
      have hfew := HG.out
      rw [drop_getD (by omega : k < ll.length)] at hfew
      have hll : (ll.getD k []).length ≤ 100000000000000 := HL.out _ (by simp [List.getD, (show k < ll.length by omega)])
      generalize ll.getD k [] = l at hc hfew hll
      have HFW := Lib.hid hfew
      clear hfew HG
      obtain ⟨p, cp, rfl, hread⟩ : ∃ p cp, sv = .slice p l.length cp ∧ ∀ j, j < l.length → ∃ b' o', p = some ⟨b', o', none⟩ ∧ b' < w.heap.size ∧ ChgsAt w b' o' l := by
        rcases hc with ⟨p, cp, rfl, rfl⟩ | ⟨b', o', cp, rfl, hb', hat'⟩
        · exact ⟨p, cp, rfl, fun j hj => by simp at hj⟩
        · exact ⟨_, cp, rfl, fun j hj => ⟨b', o', rfl, hb', hat'⟩⟩
      clear hc
      have HS := Lib.hid hsv
      clear hsv
      have HRD := Lib.hid hread
      clear hread
      have hw := wts_le l
      have HW := Lib.hid hw
      clear hw
      generalize hM : l.length = M at *
      go_wp2
      repeat (go_quiet (fail); try go_wp2)
      go_loopw [3, 4, 17] (fun n c i wr => ∃ (j : Nat), j ≤ M ∧ i = .int .i64 j ∧ n = .int .i64 (m + wts (l.take j) : Nat) ∧ c = .int .i64 (d + j : Nat) ∧ Below w.heap.size w wr) (fun _ _ i _ => M - (intOf i).toNat)
      case atStart => exact ⟨0, by omega, rfl, by simp [wts], by simp, by repeat (first | exact hB | apply Below.drew)⟩
      case round =>
        clear hB hcr
        obtain ⟨j, hj, rfl, rfl, rfl, hB⟩ := hrel
        by_cases hjt : j < M
        · obtain ⟨b', o', rfl, hb', hat'⟩ := HRD.out j hjt
          obtain ⟨hc0, hc1, hc2⟩ := hat' j (by omega)
          have hc0 := (hB.cell (p := ⟨b', o' + j * 3, none⟩) hb').trans hc0
          have hc1 := (hB.cell (p := ⟨b', o' + j * 3 + 1, none⟩) hb').trans hc1
          have hcr := (hB.cell (p := ⟨b, off + k, none⟩) HA.out.1).trans HS.out
          have hs := wts_take (l := l) (j := j) (by omega)
          have hw := wts_le (l.take j)
          rw [List.length_take] at hw
          clear hc2
          generalize chgAt l j = x at *
          unfold Chg.wt at hs
          have hs := Lib.hid hs
          have hw' : wts (l.take j) ≤ 31030 * j := by omega
          clear hw
          generalize wts (l.take j) = q at *
          go_wp2
          repeat (go_quiet (fail); try go_wp2)
          refine ⟨⟨j + 1, by omega, by simp, ?_, by simp; omega, ⟨hB.os, hB.tape, hB.output, hB.size, hB.block⟩⟩, by simp [intOf]; omega⟩
          rw [hs.out]
          congr 1
          split <;> split <;> omega
        · obtain rfl : j = M := by omega
          rw [List.take_of_length_le (by omega)]
          have hfw := HFW.out
          have hww := HW.out
          unfold fewGo at hfw
          generalize wts l = q at *
          by_cases h1 : m + q > 60000
          · rw [if_pos (.inl h1)] at hfw
            have HFF := Lib.hid hfw
            clear hfw
            have h1' : (60000 : Int) < (m + q : Nat) := by omega
            go_wp2
            go_ret
            exact ⟨by rw [← HFF.out]; rfl, ⟨hB.os, hB.tape, hB.output, hB.size, hB.block⟩⟩
          · by_cases h2 : d + j > 500
            · rw [if_pos (.inr (.inl (by omega)))] at hfw
              have HFF := Lib.hid hfw
              clear hfw
              have h2' : (500 : Int) < (d + j : Nat) := by omega
              have h1' : ¬ (60000 : Int) < (m + q : Nat) := by omega
              go_wp2
              go_ret
              exact ⟨by rw [← HFF.out]; rfl, ⟨hB.os, hB.tape, hB.output, hB.size, hB.block⟩⟩
            · by_cases h3 : k ≥ 40
              · rw [if_pos (.inr (.inr h3))] at hfw
                have HFF := Lib.hid hfw
                clear hfw
                go_wp2
                go_ret
                exact ⟨by rw [← HFF.out]; rfl, ⟨hB.os, hB.tape, hB.output, hB.size, hB.block⟩⟩
              · rw [if_neg (by omega)] at hfw
                have HFF := Lib.hid hfw
                clear hfw
                go_wp2
                exact ⟨⟨k + 1, m + q, d + j, by omega, by omega, by simp, by simp, by simp, by omega, by omega, Lib.hid (by have h := HFF.out; rwa [hM] at h), hB⟩, by simp [intOf]; omega⟩
    · obtain rfl : k = N := by omega
      have hfew := HG.out
      rw [List.drop_of_length_le (by omega)] at hfew
      simp only [fewGo] at hfew
      have HFF := Lib.hid hfew
      clear hfew
      go_wp2
      go_ret
      exact ⟨by rw [← HFF.out]; rfl, ⟨hB.os, hB.tape, hB.output, hB.size, hB.block⟩⟩
end Go.Proofs.YtagmkceblklgaaaGreat
