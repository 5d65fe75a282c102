/-
  SEALED BLOCKS (sum): Sum, Seal, Open do what the plain functions of Seal say.
-/
import Derived.Test.YtagmkceblklgaaaGreatSeal
import Derived.Test.YtagmkceblklgaaaGreatWriter
import Derived.Laws.CopyOwn
namespace Go.Proofs.YtagmkceblklgaaaGreat
open Go.RowKit

set_option maxRecDepth 100000 in
set_option maxHeartbeats 400000 in
theorem sum_any (b off n cap : Nat) (l : Bytes) (w : World) (hn : l.length = n) (hl : n ≤ 100000) (hr : RowAt w b off (u8s l)) :
    Calls Tryz.prog 85 #[.slice (some ⟨b, off, none⟩) n cap] w fun e w' => e = .returned (.int .u64 (fnv l)) ∧ w = w' := by
  subst hn
  have HR := Lib.hid hr; clear hr
  have HF := Lib.hid (fnv_cast l)
  have h0 : fnvI (l.take 0) = 14695981039346656037 := rfl
  have H0 := Lib.hid h0; clear h0
  go_enter Tryz.func85, Tryz.ntmps85
  go_wp2
  go_loop [3, 5, 8] (fun x c i => ∃ (k : Nat), k ≤ l.length ∧ i = .int .i64 k ∧ x = .int .u64 (fnvI (l.take k))) (fun _ _ i => l.length - (intOf i).toNat)
  case atStart => exact ⟨0, Nat.zero_le _, rfl, by rw [H0.out]⟩
  case round =>
    obtain ⟨k, hk, rfl, rfl⟩ := hrel
    by_cases hlt : k < l.length
    · have hck := HR.out.u8 hlt
      have hs : Hid (fnvI (l.take (k + 1)) = _) := Lib.hid (fnvI_take_succ l hlt)
      generalize fnvI (l.take k) = x at *
      go_wp2
      go_round
      case rel => exact ⟨k + 1, by omega, by go_num, by rw [hs.out]; rfl⟩
      case measure => simp [intOf]; omega
    · obtain rfl : k = l.length := by omega
      rw [List.take_length] 
      rw [HF.out]
      go_wp2
      go_ret
      exact ⟨rfl, rfl⟩

/-- the block g: 256 bytes, A and then noughts -/
def Fill (w : World) (g : Nat) (A : Bytes) : Prop := A.length ≤ 256 ∧ w.heap[g]? = some (.cells (u8s (A ++ zeros (256 - A.length))).toArray 5 (0, 0))

theorem zeros_succ (n : Nat) : zeros (n + 1) = 0 :: zeros n := rfl

theorem Fill.cell {w : World} {g k : Nat} {A : Bytes} (h : Fill w g A) (hk : A.length = k) (hl : k < 256) : w.cell? ⟨g, k, none⟩ = some (.int .u8 0) := by
  subst hk
  rw [cell_of_heap h.2, show 256 - A.length = (255 - A.length) + 1 by omega, zeros_succ]
  simp [u8s, u8v]
theorem Fill.frozen {w : World} {g : Nat} {A : Bytes} (h : Fill w g A) (k : Nat) : w.frozen? ⟨g, k, none⟩ = false := frozen_of_heap h.2 k
theorem Fill.lt {w : World} {g : Nat} {A : Bytes} (h : Fill w g A) : g < w.heap.size := lt_of_heap h.2

theorem Fill.set {w : World} {g k : Nat} {A : Bytes} (h : Fill w g A) (hk : A.length = k) (hl : k < 256) (x : UInt8) : Fill (w.setCell ⟨g, k, none⟩ (.int .u8 x.toNat)) g (A ++ [x]) := by
  subst hk
  refine ⟨by simp; omega, ?_⟩
  rw [heap_setCell_same h.2]
  congr 2
  rw [show 256 - A.length = (255 - A.length) + 1 by omega, zeros_succ, show 256 - (A ++ [x]).length = 255 - A.length by simp]
  simp [u8s, u8v]

theorem Fill.copy {w : World} {g k : Nat} {A p : Bytes} (hk : A.length = k) (hl : k + p.length ≤ 256) (h : w.heap[g]? = some (.cells (splice (u8s (A ++ zeros (256 - A.length))) k (u8s p)).toArray 5 (0, 0))) : Fill w g (A ++ p) := by
  subst hk
  refine ⟨by simpa using hl, ?_⟩
  rw [h]
  congr 2
  unfold splice
  have h1 : (u8s (A ++ zeros (256 - A.length))).take A.length = u8s A := by simp [u8s]
  have h2 : (u8s (A ++ zeros (256 - A.length))).drop (A.length + (u8s p).length) = u8s (zeros (256 - (A ++ p).length)) := by
    rw [u8s_length, u8s_append, List.drop_append, List.drop_of_length_le (by rw [u8s_length]; omega), u8s_length]
    simp [u8s, zeros]
    omega
  rw [h1, h2, u8s_append, u8s_append, List.append_assoc]

theorem Fill.set' {w : World} {g k : Nat} {A : Bytes} (h : Fill w g A) (hk : A.length = k) (hl : k < 256) (x : UInt8) {y : Int} (hy : y = x.toNat) : Fill (w.setCell ⟨g, k, none⟩ (.int .u8 y)) g (A ++ [x]) := by
  subst hy; exact h.set hk hl x

theorem shr_byte2 (n j m : Nat) (h : m = 8 * j) : (n : Int) / 2 ^ m % 256 = ((UInt8.ofNat (n / 256 ^ j % 256)).toNat : Int) := by
  have := shr_byte n j
  rw [IntKind.wrap_u8, show (8 * (j : Int)).toNat = m by omega] at this
  exact this

theorem be_take' {k i n : Nat} (h : i < k) : (be k n).take (i + 1) = (be k n).take i ++ [UInt8.ofNat (n / 256 ^ (k - 1 - i) % 256)] := by
  have := be_take (k := k) (j := k - 1 - i) (n := n) (by omega)
  rwa [show k - (k - 1 - i) = i + 1 by omega, show k - (k - 1 - i + 1) = i by omega] at this

/-- an end at which a new block of bytes b is answered, and OK -/
def RetSeal (w : World) (b : Bytes) (e : Ending) (w' : World) : Prop :=
  e = .returned (.tuple #[.slice (some ⟨w.heap.size, 0, none⟩) 256 256, .int .i64 0]) ∧ w'.heap[w.heap.size]? = some (.cells (u8s b).toArray 5 (0, 0)) ∧ Below w.heap.size w w'

theorem set_sum {w : World} {g k : Nat} {body : Bytes} {x : Nat} (hk : k < 8) (hb : body.length = 248) (h : w.heap[g]? = some (.cells (u8s ((be 8 x).take k ++ zeros (8 - k) ++ body)).toArray 5 (0, 0))) {y : Int} (hy : y = (UInt8.ofNat (x / 256 ^ (7 - k) % 256)).toNat) :
    w.cell? ⟨g, k, none⟩ = some (.int .u8 0) ∧ (w.setCell ⟨g, k, none⟩ (.int .u8 y)).heap[g]? = some (.cells (u8s ((be 8 x).take (k + 1) ++ zeros (8 - (k + 1)) ++ body)).toArray 5 (0, 0)) := by
  subst hy
  have hl : ((be 8 x).take k).length = k := by simp [be_length]; omega
  have hl2 : (u8s ((be 8 x).take k)).length = k := by rw [u8s_length]; exact hl
  have e1 : (be 8 x).take k ++ zeros (8 - k) ++ body = (be 8 x).take k ++ (0 :: (zeros (7 - k) ++ body)) := by
    rw [show 8 - k = (7 - k) + 1 by omega, zeros_succ]; simp
  have e2 : (be 8 x).take (k + 1) ++ zeros (8 - (k + 1)) ++ body = (be 8 x).take k ++ (UInt8.ofNat (x / 256 ^ (7 - k) % 256) :: (zeros (7 - k) ++ body)) := by
    rw [be_take' hk, show 8 - (k + 1) = 7 - k by omega]; simp
  rw [e1] at h
  rw [e2]
  refine ⟨?_, ?_⟩
  · rw [cell_of_heap h, u8s_append]
    rw [← Array.getElem?_toList]
    simp only [List.getElem?_append_right (show (u8s ((be 8 x).take k)).length ≤ k by omega), hl2, Nat.sub_self]
    rfl
  · rw [heap_setCell_same h]
    congr 2
    rw [u8s_append, u8s_append]
    apply Array.ext'
    simp only [Array.toList_setIfInBounds]
    rw [List.set_append_right (h := by omega), hl2, Nat.sub_self]
    rfl

set_option maxRecDepth 100000 in
set_option maxHeartbeats 1600000 in
theorem seal_any (kind : UInt8) (place : Nat) (v : Value) (p : Bytes) (w : World) (hp : Bys w v p) (hl : p.length ≤ 242) (hpl : place < 4294967296) :
    Calls Tryz.prog 67 #[.int .u8 kind.toNat, .int .u32 place, v] w (RetSeal w (sealB kind place p)) := by
  have hmk : ∀ W : World, (Instr.makeSlice 38 (.int .i64 256) (.int .i64 256)).run Tryz.prog W = .ok (.slice (some ⟨W.heap.size, 0, none⟩) 256 256) (W.alloc (.cells (u8s (zeros 256)).toArray 5)) := fun _ => by kernel_rfl
  have hF0 : Fill (w.alloc (.cells (u8s (zeros 256)).toArray 5)) w.heap.size (zeros 8) := ⟨by decide, by rw [heap_alloc_self]; rfl⟩
  have hlen8 : (zeros 8).length = 8 := rfl
  generalize hz : zeros 256 = z at hmk hF0
  have hlv : ∃ a c, v = .slice a p.length c := by
    rcases hp with ⟨rfl, rfl⟩ | ⟨b, off, cap, rfl, _⟩
    · exact ⟨_, _, rfl⟩
    · exact ⟨_, _, rfl⟩
  obtain ⟨a, c, rfl⟩ := hlv
  have c8 := hF0.cell hlen8 (by omega)
  have f8 := hF0.frozen 8
  have hF1 := hF0.set hlen8 (by omega) kind
  have e1 : (w.alloc (.cells (u8s z).toArray 5)).setCell ⟨w.heap.size, 8, none⟩ (.int .u8 kind.toNat) = w.alloc (.cells ((u8s z).set 8 (.int .u8 kind.toNat)).toArray 5) := by simp [go_sem]
  rw [e1] at hF1
  have HF1 := Lib.hid hF1
  have HP := Lib.hid hp
  clear hz hF0 hp hF1 e1
  have hkl := kind.toNat_lt
  go_enter Tryz.func67, Tryz.ntmps67
  go_wp2_with fail
  go_loopw [9, 19] (fun _ i wr => ∃ k : Nat, k ≤ 4 ∧ i = .int .i64 k ∧ Fill wr w.heap.size (zeros 8 ++ [kind] ++ (be 4 place).take k) ∧ Below w.heap.size w wr) (fun _ i _ => 4 - (intOf i).toNat)
  case atStart => exact ⟨0, by omega, rfl, by simpa using HF1.out, (Below.refl _ w).alloc (Nat.le_refl _) _⟩
  case round =>
    obtain ⟨k, hk, rfl, hF, hB⟩ := hrel
    by_cases hlt : k < 4
    · have hlk : (zeros 8 ++ [kind] ++ (be 4 place).take k).length = 9 + k := by simp [be_length, zeros]; omega
      have hT := be_take' (n := place) hlt
      have hX := shr_byte2 place (3 - k) (24 - 8 * k) (by omega)
      rw [show 4 - 1 - k = 3 - k by omega] at hT
      generalize UInt8.ofNat (place / 256 ^ (3 - k) % 256) = d at hX hT
      have ck := hF.cell hlk (by omega)
      have fk := hF.frozen (9 + k)
      have hF2 := hF.set hlk (by omega) d
      rw [List.append_assoc, ← hT] at hF2
      have HF2 := Lib.hid hF2
      have hlw := hF.lt
      clear hF hF2 hT hlk
      go_wp2
      go_roundw
      case rel => exact ⟨k + 1, by omega, by go_num, by simpa [hX] using HF2.out, hB.setCell (by simp) _⟩
      case measure => simp [intOf]; omega
    · obtain rfl : k = 4 := by omega
      rw [List.take_of_length_le (by rw [be_length]; omega)] at hF
      have hlk : (zeros 8 ++ [kind] ++ be 4 place).length = 13 := by simp [be_length, zeros]
      generalize hA : zeros 8 ++ [kind] ++ be 4 place = A at *
      have HA := Lib.hid hA
      have c13 := hF.cell hlk (by omega)
      have f13 := hF.frozen 13
      have hF3 := hF.set' hlk (by omega) (UInt8.ofNat p.length) (y := (p.length : Int)) (by rw [UInt8.toNat_ofNat']; omega)
      have hlk14 : (A ++ [UInt8.ofNat p.length]).length = 14 := by rw [List.length_append, hlk]; rfl
      have HF3 := Lib.hid hF3
      have HL := Lib.hid hlk14
      have hlw := hF.lt
      clear hF hF3 hA hlk hlk14 HF1
      have hsrc : Hid (0 < (u8s p).length → ∃ ad, a = some ad ∧ ∀ j u, (u8s p)[j]? = some u → (wr.setCell ⟨w.heap.size, 13, none⟩ (.int .u8 p.length)).cell? (ad.add j) = some u) := Lib.hid (fun h0 => by
        rcases HP.out with ⟨h1, h2⟩ | ⟨b, off, cap, h1, h2, h3, h4⟩
        · subst h2; simp [u8s] at h0
        · cases h1
          refine ⟨_, rfl, fun j u hu => ?_⟩
          rw [Addr.add_lit]
          exact ((Keeps.below hB).trans (Keeps.setCell (S := fun k => w.heap.size ≤ k) wr (by simp) _) (fun _ h => .inl h)).cell (h4 j u hu) (by simp; omega))
      have hu8 : (Tryz.prog.info? 5).map (·.size) = some 1 := by kernel_rfl
      have hc1 : Hid ((u8s p).length = Nat.min p.length 242) := Lib.hid (by rw [u8s_length]; exact (Nat.min_eq_left hl).symm)
      have hc2 : Hid (14 + (u8s p).length ≤ (u8s (A ++ [UInt8.ofNat p.length] ++ zeros (256 - (A ++ [UInt8.ofNat p.length]).length))).length) := Lib.hid (by
        rw [u8s_length, u8s_length, List.length_append, HL.out]; simp [zeros]; omega)
      have HB3 := Lib.hid (hB.setCell (p := ⟨w.heap.size, 13, none⟩) (by simp) (.int .u8 p.length))
      go_wp2_with (refine wpList_copy_splice (by rfl) _ _ _ _ (by rfl) 5 Tryz.underlying38 hu8 (some ⟨w.heap.size, 14, none⟩) a _ _ _ _ (by rfl) (by rfl) w.heap.size 14 _ 5 HF3.out.2 (u8s p) hc1.out (fun h => ⟨rfl, hsrc.out h⟩) hc2.out (u8s_one p) w.heap.size w HB3.out (Nat.le_refl _) ?_; intro w2 hH2 hB2)
      have hF4 := Fill.copy HL.out (by omega) hH2.out
      have hbl : (sealBody kind place p).length = 248 := sealBody_length kind place p hl
      have hcont : w2.heap[w.heap.size]? = some (.cells (u8s (zeros 8 ++ sealBody kind place p)).toArray 5 (0, 0)) := by
        rw [hF4.2]
        congr 3
        rw [← HA.out]
        have : 256 - (zeros 8 ++ [kind] ++ be 4 place ++ [UInt8.ofNat p.length] ++ p).length = 242 - p.length := by simp [be_length, zeros]; omega
        rw [this]
        simp [sealBody]
      generalize hbody : sealBody kind place p = body at *
      have hrow : RowAt w2 w.heap.size 8 (u8s body) := row_of_heap hcont (by rw [u8s_append]; simp only [List.drop_append, u8s_length]; simp [u8s, zeros]; exact List.take_of_length_le (by simp [hbl]))
      have HBo := Lib.hid hbody
      have HC := Lib.hid hcont
      clear hF4 hH2 hcont hbody HF3 hc1 hc2 hsrc HB3
      refine (sum_any w.heap.size 8 248 248 body w2 hbl (by omega) hrow).mono ?_
      rintro e w3 ⟨rfl, rfl⟩
      have hx := fnv_lt body
      have HX := Lib.hid (show fnv body = fnv body from rfl)
      generalize hX : fnv body = x at *
      have HXX := Lib.hid hX
      have hlw2 := Array.getElem?_eq_some_iff.1 HC.out |>.1
      clear hX HX hrow
      go_wp2
      go_loopw [11, 45] (fun _ i wr => ∃ k : Nat, k ≤ 8 ∧ i = .int .i64 k ∧ wr.heap[w.heap.size]? = some (.cells (u8s ((be 8 x).take k ++ zeros (8 - k) ++ body)).toArray 5 (0, 0)) ∧ Below w.heap.size w wr) (fun _ i _ => 8 - (intOf i).toNat)
      case atStart => exact ⟨0, by omega, rfl, HC.out, hB2⟩
      case round =>
        obtain ⟨k, hk, rfl, hh, hB3⟩ := hrel
        by_cases hlt2 : k < 8
        · have hX := shr_byte2 x (7 - k) (56 - 8 * k) (by omega)
          have hs := set_sum (y := ((UInt8.ofNat (x / 256 ^ (7 - k) % 256)).toNat : Int)) hlt2 hbl hh rfl
          have fk := frozen_of_heap hh k
          have ck := hs.1
          generalize UInt8.ofNat (x / 256 ^ (7 - k) % 256) = d at hX hs
          have HS := Lib.hid hs.2
          clear hs hh
          go_wp2
          go_roundw
          case rel => exact ⟨k + 1, by omega, by go_num, HS.out, hB3.setCell (by simp) _⟩
          case measure => simp [intOf]; omega
        · obtain rfl : k = 8 := by omega
          have HH : Hid (wr.heap[w.heap.size]? = some (.cells (u8s (sealB kind place p)).toArray 5 (0, 0))) := Lib.hid (by
            rw [hh, List.take_of_length_le (by rw [be_length]; omega), sealB, HBo.out, HXX.out]
            simp [zeros])
          clear hh
          go_wp2
          go_ret2
          exact ⟨rfl, HH.out, hB3⟩

set_option maxRecDepth 100000 in
set_option maxHeartbeats 400000 in
theorem seal_long (kind : UInt8) (place : Nat) (v : Value) (p : Bytes) (w : World) (hp : Bys w v p) (hl : 242 < p.length) (hl2 : p.length ≤ 1000000000000) :
    Calls Tryz.prog 67 #[.int .u8 kind.toNat, .int .u32 place, v] w fun e w' => e = .returned (.tuple #[.slice none 0 0, .int .i64 4]) ∧ w = w' := by
  have hlv : ∃ a c, v = .slice a p.length c := by
    rcases hp with ⟨rfl, rfl⟩ | ⟨b, off, cap, rfl, _⟩
    · exact ⟨_, _, rfl⟩
    · exact ⟨_, _, rfl⟩
  obtain ⟨a, c, rfl⟩ := hlv
  clear hp
  go_enter Tryz.func67, Tryz.ntmps67
  go_wp2
  go_ret2
  exact ⟨rfl, rfl⟩

end Go.Proofs.YtagmkceblklgaaaGreat
