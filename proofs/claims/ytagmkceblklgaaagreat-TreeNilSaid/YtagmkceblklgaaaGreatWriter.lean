/-
  THE WRITER (codec): each call lays what the plain functions of Codec say.
-/
import Derived.Test.YtagmkceblklgaaaGreatProg
import Derived.Test.YtagmkceblklgaaaGreatOwn
import Derived.Test.YtagmkceblklgaaaGreatShelf
import Derived.Deep.RegionHeld3
import Derived.Deep.DrawnRows
import Derived.Deep.RegionLaw
namespace Go.Proofs.YtagmkceblklgaaaGreat
open Go.RowKit
attribute [local go_sem ↓] Go.wp_at_zero Go.wp_at_succ

/-- one call behind the other, with what each may turn -/
structure Step (w : World) (S : Nat → Prop) (w' : World) (S' : Nat → Prop) : Prop where
  keeps : Keeps S w w'
  new : ∀ k, S' k → S k ∨ w.heap.size ≤ k

theorem Step.trans {w w1 w2 : World} {S S1 S2 : Nat → Prop} (h : Step w S w1 S1) (k : Step w1 S1 w2 S2) : Step w S w2 S2 :=
  ⟨h.keeps.trans k.keeps h.new, fun i hi => (k.new i hi).elim (h.new i) (fun hj => .inr (Nat.le_trans h.keeps.size hj))⟩

/-- the block wb is a writer that has laid l; v: its slice -/
def Wr (w : World) (wb : Nat) (v : Value) (l : Bytes) : Prop :=
  w.heap[wb]? = some (.cells #[v] 173 (0, 0)) ∧ OwnS w 5 1 v l.length (u8s l) ∧ v.ownBlock ≠ some wb

theorem u8_info : (Tryz.prog.info? 5).map (fun i => (i.zero, i.size, i.bytes)) = some (some (.int .u8 0), 1, 1) := by kernel_rfl

theorem OwnS.alloc {w : World} {e : TypeId} {size n : Nat} {v : Value} {xs : List Value} (h : OwnS w e size v n xs) (o : Obj) : OwnS (w.alloc o) e size v n xs :=
  h.kept (Keeps.alloc (S := fun _ => False) w o) (fun _ _ h => h)

theorem OwnS.drew {w : World} {e : TypeId} {size n : Nat} {v : Value} {xs : List Value} (h : OwnS w e size v n xs) : OwnS w.drew e size v n xs := h

theorem Keeps.alloc_drew {S : Nat → Prop} (w : World) (o : Obj) : Keeps S w (w.alloc o).drew := ⟨rfl, rfl, rfl, by simp, fun k hk _ => Below.heap_alloc _ _ _ hk⟩

theorem shr_byte (n j : Nat) : IntKind.u8.wrap ((n : Int) / 2 ^ (8 * (j : Int)).toNat) = ((UInt8.ofNat (n / 256 ^ j % 256)).toNat : Int) := by
  rw [IntKind.wrap_u8, UInt8.toNat_ofNat', show (8 * (j : Int)).toNat = 8 * j by omega]
  have h1 : (2 : Int) ^ (8 * j) = ((256 ^ j : Nat) : Int) := by
    rw [show (2 : Int) = ((2 : Nat) : Int) from rfl, ← Int.natCast_pow, Nat.pow_mul]
  rw [h1]
  omega

theorem be_take {k j n : Nat} (h : j < k) : (be k n).take (k - j) = (be k n).take (k - (j + 1)) ++ [UInt8.ofNat (n / 256 ^ j % 256)] := by
  induction k with
  | zero => omega
  | succ k ih =>
    by_cases hj : j = k
    · subst hj
      rw [be, show j + 1 - j = 1 by omega, show j + 1 - (j + 1) = 0 by omega]; rfl
    · rw [be, show k + 1 - j = (k - j) + 1 by omega, show k + 1 - (j + 1) = (k - (j + 1)) + 1 by omega, List.take_succ_cons, List.take_succ_cons, ih (by omega)]; rfl

theorem u8_lit (n : Nat) (h : n < 256) : #[Value.int .u8 (n : Int)] = (u8s [UInt8.ofNat n]).toArray := by
  simp [u8s, u8v, UInt8.toNat_ofNat']; omega
theorem u8s_one (l : Bytes) : ∀ u ∈ u8s l, u.oneCell' = true := by
  intro u hu; obtain ⟨c, _, rfl⟩ := List.mem_map.1 hu; rfl

/-- what the writer's slice is behind an append -/
theorem Wr.grow {w W w' : World} {wb g off cap : Nat} {v : Value} {l m : Bytes} (h : Wr w wb v l) (hW : Keeps (fun _ => False) w W) (hk : Keeps (fun k => v.ownBlock = some k) W w')
    (hs : OwnS w' 5 1 (.slice (some ⟨g, off, none⟩) (l.length + m.length) cap) (l.length + m.length) (u8s l ++ u8s m)) (hg : v.ownBlock = some g ∨ W.heap.size ≤ g) :
    w'.cell? ⟨wb, 0, none⟩ = some v ∧ w'.frozen? ⟨wb, 0, none⟩ = false ∧
    Wr (w'.setCell ⟨wb, 0, none⟩ (.slice (some ⟨g, off, none⟩) (l.length + m.length) cap)) wb (.slice (some ⟨g, off, none⟩) (l.length + m.length) cap) (l ++ m) ∧
    Step w (fun k => k = wb ∨ v.ownBlock = some k) (w'.setCell ⟨wb, 0, none⟩ (.slice (some ⟨g, off, none⟩) (l.length + m.length) cap)) (fun k => k = wb ∨ (Value.slice (some ⟨g, off, none⟩) (l.length + m.length) cap).ownBlock = some k) := by
  obtain ⟨hh, ho, hne⟩ := h
  have hlt := lt_of_heap hh
  have h1 := hk.heap (hW.heap hh (fun h => h)) (by simpa using hne)
  have hgw : g ≠ wb := by
    rcases hg with hg | hg
    · intro e; subst e; exact hne hg
    · have := hW.size; omega
  have hK : Keeps (· = wb) w' (w'.setCell ⟨wb, 0, none⟩ (.slice (some ⟨g, off, none⟩) (l.length + m.length) cap)) := Keeps.setCell (S := (· = wb)) w' rfl _
  refine ⟨by rw [cell_of_heap h1]; rfl, frozen_of_heap h1 0, ⟨by rw [heap_setCell_same h1]; rfl, ?_, by simp [Value.ownBlock]; exact hgw⟩, ?_, ?_⟩
  · rw [List.length_append, u8s_append]
    exact hs.kept hK (fun b hb => by simp [Value.ownBlock] at hb; omega)
  · refine ((hW.mono (T := fun k => k = wb ∨ v.ownBlock = some k) (fun _ h => h.elim)).trans hk (fun i h => .inl (.inr h))).trans hK (fun i h => .inl (.inl h))
  · intro k hk'
    rcases hk' with rfl | hk'
    · exact .inl (.inl rfl)
    · simp [Value.ownBlock] at hk'
      subst hk'
      rcases hg with hg | hg
      · exact .inl (.inr hg)
      · right; have := hW.size; omega

/-- an end at which the writer has laid m more -/
def Laid (wb : Nat) (v : Value) (l m : Bytes) (w : World) (e : Ending) (w' : World) : Prop :=
  e = .returned (.tuple #[]) ∧ ∃ v', Wr w' wb v' (l ++ m) ∧ v' ≠ .slice none 0 0 ∧ Step w (fun k => k = wb ∨ v.ownBlock = some k) w' (fun k => k = wb ∨ v'.ownBlock = some k)

set_option maxRecDepth 100000 in
set_option maxHeartbeats 800000 in
theorem wnum_small (wb : Nat) (v : Value) (l : Bytes) (n : Nat) (w : World) (h : Wr w wb v l) (hn : n < 248) (hl : l.length ≤ 1000000000000) :
    Calls Tryz.prog 108 #[.pointer (some ⟨wb, 0, none⟩), .int .u64 n] w (Laid wb v l [UInt8.ofNat n] w) := by
  obtain ⟨i0, hi, hz0, hz1, hz2⟩ := info_parts u8_info
  have H := Lib.hid h
  obtain ⟨hh, ho, hne⟩ := h
  have c0 := cell_of_heap hh 0
  have f0 := frozen_of_heap hh 0
  clear hh hne
  have HB : (l.length + 1) * 1 ≤ 140737488355328 := by omega
  have HS : Src Tryz.prog 1 38 (.slice (some ⟨w.heap.size, 0, none⟩) 1 1) 1 (u8s [UInt8.ofNat n]) (w.alloc (.cells #[.int .u8 n] 5)) :=
    Src.block Tryz.underlying38 (heap_alloc_self w _) (u8_lit n (by omega)) (by rfl) (u8s_one _)
  have HS := Lib.hid HS
  go_enter Tryz.func108, Tryz.ntmps108
  go_wp2_with (at_builtin; go_must (refine wpList_append_S (by rfl) _ _ _ _ (by rfl) 5 i0 _ 1 1 Tryz.underlying38 hi hz0 hz1 hz2 (by rfl) v l.length (u8s l) (by rfl) (ho.alloc _) _ 1 (u8s [UInt8.ofNat n]) (by rfl) HS.out (Or.inl (by omega)) (by unfold maxLen; omega) HB ?_); intro g off cap w1 hown1 hk1 hg1; obtain ⟨hc1, hf1, hW1, hS1⟩ := H.out.grow (m := [UInt8.ofNat n]) (Keeps.alloc _ _) hk1 hown1 hg1; clear hown1 hk1 hg1)
  go_end0
  exact ⟨rfl, _, hW1, by simp, hS1⟩
theorem Wr.lt {w : World} {wb : Nat} {v : Value} {l : Bytes} (h : Wr w wb v l) : wb < w.heap.size := lt_of_heap h.1

set_option maxRecDepth 100000 in
set_option maxHeartbeats 1600000 in
theorem wnum_large (wb : Nat) (v : Value) (l : Bytes) (n k : Nat) (w : World) (h : Wr w wb v l) (hn : 248 ≤ n) (hn2 : n ≤ 18446744073709551615) (hk : bl n = k) (hb : (Lib.bitLen n + 7) / 8 = k) (hl : l.length ≤ 1000000000000) :
    Calls Tryz.prog 108 #[.pointer (some ⟨wb, 0, none⟩), .int .u64 n] w (Laid wb v l (numB n) w) := by
  obtain ⟨i0, hi, hz0, hz1, hz2⟩ := info_parts u8_info
  have H := Lib.hid h
  obtain ⟨hh, ho, hne⟩ := h
  have c0 := cell_of_heap hh 0
  have f0 := frozen_of_heap hh 0
  have hk8 : k ≤ 8 := by rw [← hk]; exact bl_8 (by omega)
  have hk1 : 1 ≤ k := by rw [← hk, bl_pos (by omega)]; omega
  generalize hbl : Lib.bitLen n = B at *
  have hb1 : 8 * k ≤ B + 7 := by omega
  have hb2 : B + 7 < 8 * k + 8 := by omega
  have HBL := Lib.hid hbl
  have HK := Lib.hid hk
  have HU := u8_lit (247 + k) (by omega)
  have HS : Src Tryz.prog 1 38 (.slice (some ⟨w.heap.size, 0, none⟩) 1 1) 1 (u8s [UInt8.ofNat (247 + k)]) (w.alloc (.cells #[.int .u8 (247 + (k : Int))] 5)) :=
    Src.block Tryz.underlying38 (heap_alloc_self w _) (by rw [← HU]; simp) (by rfl) (u8s_one _)
  have HS := Lib.hid HS
  have HB : (l.length + 1) * 1 ≤ 140737488355328 := by omega
  clear hh hne hbl hk hb HU
  go_enter Tryz.func108, Tryz.ntmps108
  go_wp2_with fail
  refine (Tryz.bits_Len64 _ _ (by omega) (by omega)).mono ?_
  rintro e w' ⟨rfl, hw⟩
  obtain rfl := hw.symm
  rw [show ((n : Int)).toNat = n from rfl, HBL.out]
  have hq : ((B : Int) + 7) / 8 = k := by omega
  go_wp2_with (at_builtin; go_must (refine wpList_append_S (by rfl) _ _ _ _ (by rfl) 5 i0 _ 1 1 Tryz.underlying38 hi hz0 hz1 hz2 (by rfl) v l.length (u8s l) (by rfl) (ho.alloc _) _ 1 (u8s [UInt8.ofNat (247 + k)]) (by rfl) HS.out (Or.inl (by omega)) (by unfold maxLen; omega) HB ?_); intro g off cap w1 hown1 hk1 hg1; obtain ⟨hc1, hf1, hW1, hS1⟩ := H.out.grow (m := [UInt8.ofNat (247 + k)]) (Keeps.alloc _ _) hk1 hown1 hg1; clear hown1 hk1 hg1)
  have hjl : ∀ j, j ≤ k → (l ++ UInt8.ofNat (247 + k) :: (be k n).take (k - j)).length = l.length + 1 + (k - j) := by
    intro j hj; simp [be_length]; omega
  go_loopw [5] (fun i wr => ∃ (j : Nat) (v' : Value), j ≤ k ∧ i = .int .i64 ((j : Int) - 1) ∧ Wr wr wb v' (l ++ UInt8.ofNat (247 + k) :: (be k n).take (k - j)) ∧ v' ≠ .slice none 0 0 ∧ Step w (fun k => k = wb ∨ v.ownBlock = some k) wr (fun k => k = wb ∨ v'.ownBlock = some k)) (fun i _ => (intOf i + 1).toNat)
  case atStart => exact ⟨k, _, Nat.le_refl _, rfl, by simpa using hW1, by simp, hS1⟩
  case round =>
    obtain ⟨j, v', hj, rfl, hWr, hnn, hSt⟩ := hrel
    cases j with
    | zero =>
      have hfin : l ++ UInt8.ofNat (247 + k) :: (be k n).take (k - 0) = l ++ numB n := by
        have h1 : numB n = UInt8.ofNat (247 + k) :: be k n := by rw [numB, if_neg (by omega), HK.out]
        rw [h1, List.take_of_length_le (by rw [be_length]; omega)]
      rw [hfin] at hWr
      clear hfin
      go_wp2
      go_end0
      exact ⟨rfl, v', hWr, hnn, hSt⟩
    | succ j =>
      generalize hL : l ++ UInt8.ofNat (247 + k) :: (be k n).take (k - (j + 1)) = L at *
      have hLl : L.length ≤ 1000000000009 := by rw [← hL, hjl _ hj]; omega
      have HL := Lib.hid hL
      clear hL hjl
      have HW := Lib.hid hWr
      obtain ⟨hh, ho, hne⟩ := hWr
      have c0 := cell_of_heap hh 0
      have hltw := lt_of_heap hh
      have hnw := World.new_ne wr ⟨wb, 0, none⟩ c0
      clear hh hne
      have he : ((j : Int) + 1 - 1) = j := by omega
      have hw8 : IntKind.i64.wrap (8 * (j : Int)) = 8 * (j : Int) := by rw [IntKind.wrap_i64]; omega
      have hp8 : (0 : Int) ≤ 8 * (j : Int) := by omega
      have hX := shr_byte n j
      have hT := be_take (n := n) hj
      generalize UInt8.ofNat (n / 256 ^ j % 256) = d at hX hT
      have HT := Lib.hid hT
      have HS2 : Src Tryz.prog 1 38 (.slice (some ⟨wr.heap.size, 0, none⟩) 1 1) 1 (u8s [d]) (wr.alloc (.cells #[.int .u8 d.toNat] 5)).drew :=
        Src.block Tryz.underlying38 (heap_alloc_self wr _) rfl (by rfl) (u8s_one _)
      have HS2 := Lib.hid HS2
      have HB2 : (L.length + 1) * 1 ≤ 140737488355328 := by omega
      clear hT HB HS
      go_wp2_with fail
      go_region_law (first | (refine step_append_S (by rfl) _ _ _ _ (by rfl) 5 i0 _ 1 1 Tryz.underlying38 hi hz0 hz1 hz2 (by rfl) v' L.length (u8s L) (by rfl) ((ho.alloc _).drew) _ 1 (u8s [d]) (by rfl) HS2.out (Or.inl (by omega)) (by unfold maxLen; omega) HB2 ?_; intro g2 off2 cap2 w2 hown2 hk2 hg2; obtain ⟨hc2, hf2, hW2, hS2⟩ := HW.out.grow (m := [d]) (Keeps.alloc_drew _ _) hk2 hown2 hg2; clear hown2 hk2 hg2))
      all_goals
        go_wp2
        go_roundw
        case rel =>
          refine ⟨j, _, by omega, by go_num, ?_, by simp, hSt.trans hS2⟩
          rw [HT.out, ← List.cons_append, ← List.append_assoc, HL.out]
          exact hW2
        case measure => simp [intOf]

theorem bitLen_bl (n : Nat) (h : n < 18446744073709551616) : (Lib.bitLen n + 7) / 8 = bl n := by
  induction n using Nat.strongRecOn with
  | ind n ih =>
    by_cases h0 : n = 0
    · subst h0; rw [bl_zero]; decide
    · rw [bl_pos h0]
      by_cases h1 : n < 256
      · rw [show n / 256 = 0 by omega, bl_zero]
        have h2 := Lib.bitLen_le8 ⟨n, h1⟩
        have h3 := Lib.bitLen_half n h0 (by omega)
        simp only at h2
        omega
      · rw [Lib.bitLen_shift8 n (by omega) h, ← ih (n / 256) (by omega) (by omega)]
        omega

/-- Number lays 'numB' -/
theorem wnum_any (wb : Nat) (v : Value) (l : Bytes) (n : Nat) (w : World) (h : Wr w wb v l) (hn : n ≤ 18446744073709551615) (hl : l.length ≤ 1000000000000) :
    Calls Tryz.prog 108 #[.pointer (some ⟨wb, 0, none⟩), .int .u64 n] w (Laid wb v l (numB n) w) := by
  rcases Nat.lt_or_ge n 248 with h1 | h1
  · have e : numB n = [UInt8.ofNat n] := by rw [numB, if_pos h1]
    rw [e]; exact wnum_small wb v l n w h h1 hl
  · exact wnum_large wb v l n (bl n) w h h1 hn rfl (bitLen_bl n (by omega)) hl

set_option maxRecDepth 100000 in
set_option maxHeartbeats 800000 in
/-- Text lays 'textB' -/
theorem wtext_any (wb : Nat) (v : Value) (l : Bytes) (s : ByteArray) (w : World) (h : Wr w wb v l) (hs : s.size ≤ 1000000000000) (hl : l.length ≤ 1000000000000) :
    Calls Tryz.prog 109 #[.pointer (some ⟨wb, 0, none⟩), .string s] w (Laid wb v l (textB s.data.toList) w) := by
  obtain ⟨i0, hi, hz0, hz1, hz2⟩ := info_parts u8_info
  have HE : Hid (l ++ textB s.data.toList = l ++ numB s.size ++ s.data.toList) := Lib.hid (by rw [textB, List.append_assoc]; rfl)
  go_enter Tryz.func109, Tryz.ntmps109
  go_wp2_with fail
  refine (wnum_any wb v l s.size w h (by omega) hl).mono ?_
  rintro e w1 ⟨rfl, v1, hW1, hnn1, hS1⟩
  have H := Lib.hid hW1
  have HN := Lib.hid hnn1
  have hlen := numB_length_le (n := s.size) (by omega)
  obtain ⟨hh, ho, hne⟩ := hW1
  generalize hL : l ++ numB s.size = L at *
  have hLl : L.length ≤ 1000000000009 := by rw [← hL]; simp; omega
  have hsz : s.data.toList.length = s.size := rfl
  have HL := Lib.hid hL
  have HSZ := Lib.hid hsz
  clear hL hlen hsz
  have c0 := cell_of_heap hh 0
  have f0 := frozen_of_heap hh 0
  clear hh hne hnn1
  have HB : (L.length + s.size) * 1 ≤ 140737488355328 := by omega
  go_wp2_with (at_builtin; go_must (refine wpList_append_S (by rfl) _ _ _ _ (by rfl) 5 i0 _ 1 1 Tryz.underlying38 hi hz0 hz1 hz2 (by rfl) v1 L.length (u8s L) (by rfl) ho _ s.size (u8s s.data.toList) (by rfl) (Src.ofString w1 Tryz.underlying9 s) (Or.inr HN.out) (by unfold maxLen; omega) HB ?_); intro g2 off2 cap2 w2 hown2 hk2 hg2; obtain ⟨hc2, hf2, hW2, hS2⟩ := H.out.grow (m := s.data.toList) (Keeps.refl _ _) hk2 hown2 hg2; clear hown2 hk2 hg2)
  go_end0
  exact ⟨rfl, _, by rw [HE.out]; exact hW2, by simp, hS1.trans hS2⟩

/-- a slice of bytes that is new -/
def NewBys (w : World) (l : Bytes) (v : Value) (w' : World) : Prop :=
  ∃ g off cap, v = .slice (some ⟨g, off, none⟩) l.length cap ∧ w.heap.size ≤ g ∧ OwnS w' 5 1 v l.length (u8s l) ∧ Below w.heap.size w w'

def RetNew (w : World) (l : Bytes) (e : Ending) (w' : World) : Prop := ∃ v, e = .returned v ∧ NewBys w l v w'

theorem OwnS.empty (w : World) (e : TypeId) (size : Nat) : OwnS (w.alloc (.cells #[] e)) e size (.slice (some ⟨w.heap.size, 0, none⟩) 0 0) 0 [] :=
  ⟨by simp, .inr ⟨w.heap.size, 0, 0, #[], rfl, heap_alloc_self w _, Nat.le_refl _, by simp, by simp, by simp⟩⟩

theorem newBys_of {w w1 : World} {l : Bytes} {g off cap n : Nat} {o : Obj} (hn : n = l.length) (hown : OwnS w1 5 1 (.slice (some ⟨g, off, none⟩) n cap) n (u8s l)) (hk : Keeps (fun k => (Value.slice (some ⟨w.heap.size, 0, none⟩) 0 0).ownBlock = some k) (w.alloc o) w1)
    (hg : (Value.slice (some ⟨w.heap.size, 0, none⟩) 0 0).ownBlock = some g ∨ (w.alloc o).heap.size ≤ g) : NewBys w l (.slice (some ⟨g, off, none⟩) n cap) w1 := by
  subst hn
  refine ⟨g, off, cap, rfl, ?_, hown, ?_⟩
  · rcases hg with hg | hg
    · simp [Value.ownBlock] at hg; omega
    · simp at hg; omega
  · exact ((Below.refl _ w).alloc (Nat.le_refl _) o).trans (hk.toBelow (fun k hk => by simp [Value.ownBlock] at hk; omega) (by simp))

set_option maxRecDepth 100000 in
set_option maxHeartbeats 800000 in
theorem wbytes_any (wb : Nat) (v : Value) (l : Bytes) (w : World) (h : Wr w wb v l) (hl : l.length ≤ 1000000000000) :
    Calls Tryz.prog 110 #[.pointer (some ⟨wb, 0, none⟩)] w (RetNew w l) := by
  obtain ⟨i0, hi, hz0, hz1, hz2⟩ := info_parts u8_info
  obtain ⟨hh, ho, hne⟩ := h
  have c0 := cell_of_heap hh 0
  have hlt := lt_of_heap hh
  clear hh hne
  have HB : (0 + l.length) * 1 ≤ 140737488355328 := by omega
  have HO := Lib.hid (OwnS.empty w 5 1)
  have HS := Lib.hid (Src.owns Tryz.underlying38 (ho.alloc (.cells #[] 5)) (u8s_one _))
  go_enter Tryz.func110, Tryz.ntmps110
  go_wp2_with (at_builtin; go_must (refine wpList_append_S (by rfl) _ _ _ _ (by rfl) 5 i0 _ 1 1 Tryz.underlying38 hi hz0 hz1 hz2 (by rfl) (.slice (some ⟨w.heap.size, 0, none⟩) 0 0) 0 [] (by rfl) HO.out _ l.length (u8s l) (by rfl) HS.out (Or.inr (by simp)) (by unfold maxLen; omega) HB ?_); intro g2 off2 cap2 w2 hown2 hk2 hg2; simp only [Nat.zero_add, List.nil_append] at hown2)
  go_ret
  exact ⟨_, rfl, newBys_of (by simp) hown2 hk2 hg2⟩

set_option maxRecDepth 100000 in
set_option maxHeartbeats 800000 in
theorem newWriter_any (w : World) :
    Calls Tryz.prog 107 #[] w fun e w' => e = .returned (.pointer (some ⟨w.heap.size, 0, none⟩)) ∧ w' = w.alloc (.cells #[.slice none 0 0] 173) := by
  go_enter Tryz.func107, Tryz.ntmps107
  go_wp2
  go_ret
  exact ⟨rfl, rfl⟩

theorem wr_new (w : World) : Wr (w.alloc (.cells #[.slice none 0 0] 173)) w.heap.size (.slice none 0 0) [] :=
  ⟨heap_alloc_self w _, OwnS.nil _ _ _, by simp [Value.ownBlock]⟩

end Go.Proofs.YtagmkceblklgaaaGreat
