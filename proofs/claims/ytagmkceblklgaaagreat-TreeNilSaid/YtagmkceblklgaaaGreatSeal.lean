/-
  PLAIN: sealed blocks (layer 2) as functions on lists of bytes.
-/
import Derived.WalkKit
import Derived.Test.YtagmkceblklgaaaGreatCodec
namespace Go.Proofs.YtagmkceblklgaaaGreat

/-- one step of the sum, as the machine reckons it -/
def fnvStep (x : Int) (c : UInt8) : Int := IntKind.u64.wrap (bits .xor .u64 x (IntKind.u64.wrap c.toNat) * 1099511628211)
def fnvI (l : Bytes) : Int := l.foldl fnvStep 14695981039346656037

theorem fnvStep_range (x : Int) (c : UInt8) : 0 ≤ fnvStep x c ∧ fnvStep x c < 18446744073709551616 := by
  unfold fnvStep; rw [IntKind.wrap_u64]; omega

theorem foldl_fnv_range (l : Bytes) : ∀ x : Int, 0 ≤ x → x < 18446744073709551616 → 0 ≤ l.foldl fnvStep x ∧ l.foldl fnvStep x < 18446744073709551616 := by
  induction l with
  | nil => intro x h0 h1; exact ⟨h0, h1⟩
  | cons c l ih => intro x _ _; exact ih _ (fnvStep_range x c).1 (fnvStep_range x c).2

def fnv (l : Bytes) : Nat := (fnvI l).toNat
theorem fnv_cast (l : Bytes) : fnvI l = (fnv l : Int) := by
  have := (foldl_fnv_range l 14695981039346656037 (by decide) (by decide)).1
  unfold fnv fnvI at *; omega
theorem fnv_lt (l : Bytes) : fnv l < 18446744073709551616 := by
  have := (foldl_fnv_range l 14695981039346656037 (by decide) (by decide)).2
  unfold fnv fnvI at *; omega

theorem fnvI_take_succ (l : Bytes) {k : Nat} (h : k < l.length) : fnvI (l.take (k + 1)) = fnvStep (fnvI (l.take k)) l[k] := by
  rw [List.take_succ_eq_append_getElem h]; unfold fnvI; rw [List.foldl_append]; rfl

def zeros (n : Nat) : Bytes := List.replicate n 0

/-- what stands behind a sealed block's sum -/
def sealBody (kind : UInt8) (place : Nat) (p : Bytes) : Bytes := kind :: (be 4 place ++ UInt8.ofNat p.length :: (p ++ zeros (242 - p.length)))
def sealB (kind : UInt8) (place : Nat) (p : Bytes) : Bytes := be 8 (fnv (sealBody kind place p)) ++ sealBody kind place p

theorem sealBody_length (kind : UInt8) (place : Nat) (p : Bytes) (h : p.length ≤ 242) : (sealBody kind place p).length = 248 := by
  simp [sealBody, be_length, zeros]; omega
theorem sealB_length (kind : UInt8) (place : Nat) (p : Bytes) (h : p.length ≤ 242) : (sealB kind place p).length = 256 := by
  simp [sealB, be_length, sealBody_length kind place p h]

/-- what Open finds in a block -/
def openB (kind : UInt8) (place : Nat) (b : Bytes) : Option Bytes :=
  if b.length ≠ 256 then none
  else if 242 < (b.getD 13 0).toNat then none
  else if sealB kind place ((b.drop 14).take (b.getD 13 0).toNat) = b then some ((b.drop 14).take (b.getD 13 0).toNat) else none

theorem sealB_at13 (kind : UInt8) (place : Nat) (p : Bytes) : (sealB kind place p).getD 13 0 = UInt8.ofNat p.length := by
  have h1 : (be 8 (fnv (sealBody kind place p))).length = 8 := be_length _ _
  have h2 : (be 4 place).length = 4 := be_length _ _
  unfold sealB
  rw [List.getD_eq_getElem?_getD, List.getElem?_append_right (by omega), h1]
  unfold sealBody
  rw [show 13 - 8 = 4 + 1 by rfl, List.getElem?_cons_succ, List.getElem?_append_right (by omega), h2]
  rfl

theorem sealB_drop14 (kind : UInt8) (place : Nat) (p : Bytes) : (sealB kind place p).drop 14 = p ++ zeros (242 - p.length) := by
  have h1 : (be 8 (fnv (sealBody kind place p))).length = 8 := be_length _ _
  have h2 : (be 4 place).length = 4 := be_length _ _
  unfold sealB
  rw [List.drop_append, List.drop_of_length_le (by omega), h1]
  unfold sealBody
  rw [show 14 - 8 = 5 + 1 by rfl, List.drop_succ_cons, List.drop_append, List.drop_of_length_le (by omega), h2]
  rfl

theorem openB_sealB (kind : UInt8) (place : Nat) (p : Bytes) (h : p.length ≤ 242) : openB kind place (sealB kind place p) = some p := by
  unfold openB
  have hl : (UInt8.ofNat p.length).toNat = p.length := by simp [UInt8.toNat_ofNat']; omega
  rw [if_neg (by simp [sealB_length kind place p h]), sealB_at13, hl, if_neg (by omega), sealB_drop14]
  have ht : (p ++ zeros (242 - p.length)).take p.length = p := List.take_left
  rw [ht, if_pos rfl]

theorem sealB_kind (kind : UInt8) (place : Nat) (p : Bytes) : (sealB kind place p).getD 8 0 = kind := by
  have h1 : (be 8 (fnv (sealBody kind place p))).length = 8 := be_length _ _
  unfold sealB
  rw [List.getD_eq_getElem?_getD, List.getElem?_append_right (by omega), h1]
  rfl

/-- a block whose kind's place holds another kind is none of this kind -/
theorem openB_kind {kind : UInt8} {place : Nat} {b : Bytes} (h : b.getD 8 0 ≠ kind) : openB kind place b = none := by
  unfold openB
  split
  · rfl
  · split
    · rfl
    · split
      · rename_i h3
        rw [← h3, sealB_kind] at h
        exact absurd rfl h
      · rfl

theorem openB_zeros {kind : UInt8} (place : Nat) (h : kind ≠ 0) : openB kind place (zeros 256) = none :=
  openB_kind (by
    have : (zeros 256).getD 8 0 = 0 := by decide
    rw [this]; exact Ne.symm h)

theorem openB_some {kind : UInt8} {place : Nat} {b p : Bytes} (h : openB kind place b = some p) : b = sealB kind place p ∧ p.length ≤ 242 := by
  unfold openB at h
  split at h
  · cases h
  · rename_i h1
    split at h
    · cases h
    · rename_i h2
      split at h
      · rename_i h3
        cases h
        exact ⟨h3.symm, by simp; omega⟩
      · cases h

end Go.Proofs.YtagmkceblklgaaaGreat
