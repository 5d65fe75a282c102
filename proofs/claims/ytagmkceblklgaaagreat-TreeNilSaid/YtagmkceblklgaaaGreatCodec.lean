/-
  PLAIN: numbers and texts as bytes (layer 1), as functions on lists of bytes; what was laid is read back. No program in sight.
-/
import Derived.KernelRfl
namespace Go.Proofs.YtagmkceblklgaaaGreat

abbrev Bytes := List UInt8

/-- the k low bytes of n, the highest first -/
def be : Nat → Nat → Bytes
  | 0, _ => []
  | k + 1, n => UInt8.ofNat (n / 256 ^ k % 256) :: be k n

theorem be_length : ∀ k n, (be k n).length = k
  | 0, _ => rfl
  | k + 1, n => by simp [be, be_length k n]

/-- the number of bytes read one behind the other, behind a -/
def val (a : Nat) (l : Bytes) : Nat := l.foldl (fun x c => x * 256 + c.toNat) a

theorem val_nil (a : Nat) : val a [] = a := rfl
theorem val_cons (a : Nat) (c : UInt8) (l : Bytes) : val a (c :: l) = val (a * 256 + c.toNat) l := rfl
theorem val_append (a : Nat) (l m : Bytes) : val a (l ++ m) = val (val a l) m := by simp [val]

theorem val_be : ∀ k n a, val a (be k n) = a * 256 ^ k + n % 256 ^ k
  | 0, n, a => by simp [be, val, Nat.mod_one]
  | k + 1, n, a => by
    rw [be, val_cons, val_be k]
    have h1 : (UInt8.ofNat (n / 256 ^ k % 256)).toNat = n / 256 ^ k % 256 := by
      simp [UInt8.toNat_ofNat']
    rw [h1]
    have h2 : n % 256 ^ (k + 1) = n / 256 ^ k % 256 * 256 ^ k + n % 256 ^ k := by
      rw [Nat.pow_succ, Nat.mod_mul]; rw [Nat.mul_comm]; omega
    rw [h2, Nat.pow_succ, Nat.add_mul]
    rw [show a * (256 ^ k * 256) = a * 256 * 256 ^ k by rw [Nat.mul_comm (256 ^ k) 256, Nat.mul_assoc]]
    omega

theorem val_lt : ∀ (l : Bytes) a, val a l < (a + 1) * 256 ^ l.length
  | [], a => by simp [val]
  | c :: l, a => by
    rw [val_cons, List.length_cons, Nat.pow_succ]
    have := val_lt l (a * 256 + c.toNat)
    have hc : c.toNat < 256 := c.toNat_lt
    have h2 : (a * 256 + c.toNat + 1) * 256 ^ l.length ≤ ((a + 1) * 256) * 256 ^ l.length := Nat.mul_le_mul_right _ (by omega)
    rw [Nat.mul_comm (256 ^ l.length) 256, ← Nat.mul_assoc]
    omega

/-- how many bytes a number needs -/
def bl (n : Nat) : Nat := if h : n = 0 then 0 else bl (n / 256) + 1
termination_by n

theorem bl_zero : bl 0 = 0 := by unfold bl; simp
theorem bl_pos {n : Nat} (h : n ≠ 0) : bl n = bl (n / 256) + 1 := by rw [bl]; simp [h]

theorem lt_pow_bl (n : Nat) : n < 256 ^ bl n := by
  induction n using Nat.strongRecOn with
  | ind n ih =>
    by_cases h : n = 0
    · subst h; simp [bl_zero]
    · rw [bl_pos h, Nat.pow_succ]
      have := ih (n / 256) (by omega)
      omega

theorem pow_bl_le {n : Nat} (h : n ≠ 0) : 256 ^ (bl n - 1) ≤ n := by
  induction n using Nat.strongRecOn with
  | ind n ih =>
    rw [bl_pos h]
    simp only [Nat.add_sub_cancel]
    by_cases h2 : n / 256 = 0
    · rw [h2, bl_zero]; simp; omega
    · have := ih (n / 256) (by omega) h2
      obtain ⟨k, hk⟩ : ∃ k, bl (n / 256) = k + 1 := ⟨bl (n / 256) - 1, by rw [bl_pos h2]; omega⟩
      rw [hk] at this ⊢
      simp only [Nat.add_sub_cancel] at this
      rw [Nat.pow_succ]
      omega

theorem bl_le {n k : Nat} (h : n < 256 ^ k) : bl n ≤ k := by
  rcases Nat.lt_or_ge k (bl n) with hl | hl
  · by_cases h0 : n = 0
    · subst h0; simp [bl_zero]
    · have h1 := pow_bl_le h0
      have h2 : 256 ^ k ≤ 256 ^ (bl n - 1) := Nat.pow_le_pow_right (by omega) (by omega)
      omega
  · exact hl

theorem bl_8 {n : Nat} (h : n < 2 ^ 64) : bl n ≤ 8 := bl_le (by simpa using h)

/-- a number as bytes -/
def numB (n : Nat) : Bytes := if n < 248 then [UInt8.ofNat n] else UInt8.ofNat (247 + bl n) :: be (bl n) n

/-- a text as bytes -/
def textB (s : Bytes) : Bytes := numB s.length ++ s

/-- what Reader.Number reads; 'none': the reader has gone bad -/
def rdNum : Bytes → Option (Nat × Bytes)
  | [] => none
  | c :: t =>
    if c.toNat < 248 then some (c.toNat, t)
    else if t.length < c.toNat - 247 then none
    else if val 0 (t.take (c.toNat - 247)) < 248 ∨ t.headD 0 = 0 then none
    else some (val 0 (t.take (c.toNat - 247)), t.drop (c.toNat - 247))

theorem rdNum_numB {n : Nat} (h : n < 2 ^ 64) (r : Bytes) : rdNum (numB n ++ r) = some (n, r) := by
  unfold numB
  split
  · rename_i hn
    simp only [List.cons_append, List.nil_append, rdNum]
    have : (UInt8.ofNat n).toNat = n := by simp [UInt8.toNat_ofNat']; omega
    rw [this, if_pos hn]
  · rename_i hn
    simp only [List.cons_append, rdNum]
    have h8 := bl_8 h
    have e1 : (UInt8.ofNat (247 + bl n)).toNat = 247 + bl n := by simp [UInt8.toNat_ofNat']; omega
    have h1 : 1 ≤ bl n := by rw [bl_pos (by omega)]; omega
    rw [e1, if_neg (by omega)]
    have e2 : 247 + bl n - 247 = bl n := by omega
    have e3 : (be (bl n) n ++ r).take (bl n) = be (bl n) n := by
      rw [List.take_append_of_le_length (by rw [be_length]; exact Nat.le_refl _), List.take_of_length_le (by rw [be_length]; exact Nat.le_refl _)]
    have e4 : (be (bl n) n ++ r).drop (bl n) = r := by
      rw [List.drop_append, List.drop_of_length_le (by rw [be_length]; exact Nat.le_refl _), be_length]; simp
    rw [e2, e3, e4, val_be, if_neg (by simp [be_length])]
    have e5 : n % 256 ^ bl n = n := Nat.mod_eq_of_lt (lt_pow_bl n)
    rw [e5, Nat.zero_mul, Nat.zero_add, if_neg]
    rintro (hlt | h0)
    · exact hn hlt
    · obtain ⟨k, hk⟩ : ∃ k, bl n = k + 1 := ⟨bl n - 1, by omega⟩
      rw [hk, be] at h0
      simp only [List.cons_append, List.headD_cons] at h0
      have hp := pow_bl_le (n := n) (by omega)
      rw [hk, Nat.add_sub_cancel] at hp
      have hl := lt_pow_bl n
      rw [hk, Nat.pow_succ] at hl
      have hd : n / 256 ^ k < 256 := Nat.div_lt_of_lt_mul hl
      have hd1 : 1 ≤ n / 256 ^ k := (Nat.le_div_iff_mul_le (Nat.pos_of_ne_zero (by simp))).2 (by omega)
      have := congrArg UInt8.toNat h0
      simp [UInt8.toNat_ofNat'] at this
      omega

/-- what Reader.Text reads -/
def rdText (s : Bytes) : Option (Bytes × Bytes) :=
  match rdNum s with
  | none => none
  | some (n, t) => if t.length < n then none else some (t.take n, t.drop n)

theorem rdText_textB {s : Bytes} (h : s.length < 2 ^ 64) (r : Bytes) : rdText (textB s ++ r) = some (s, r) := by
  unfold rdText textB
  rw [List.append_assoc, rdNum_numB h]
  simp

theorem numB_length_le {n : Nat} (h : n < 2 ^ 64) : (numB n).length ≤ 9 := by
  unfold numB
  split
  · simp
  · have := bl_8 h; simp [be_length]; omega

theorem numB_pos (n : Nat) : 1 ≤ (numB n).length := by unfold numB; split <;> simp

theorem rdNum_length {s t : Bytes} {n : Nat} (h : rdNum s = some (n, t)) : t.length < s.length := by
  cases s with
  | nil => simp [rdNum] at h
  | cons c r =>
    simp only [rdNum] at h
    split at h
    · simp only [Option.some.injEq, Prod.mk.injEq] at h; obtain ⟨rfl, rfl⟩ := h; simp
    · split at h
      · cases h
      · split at h
        · cases h
        · simp only [Option.some.injEq, Prod.mk.injEq] at h; obtain ⟨rfl, rfl⟩ := h; simp; omega

theorem rdNum_lt {s t : Bytes} {n : Nat} (h : rdNum s = some (n, t)) : n < 2 ^ 64 := by
  cases s with
  | nil => simp [rdNum] at h
  | cons c r =>
    simp only [rdNum] at h
    split at h
    · simp only [Option.some.injEq, Prod.mk.injEq] at h; obtain ⟨rfl, rfl⟩ := h; have := c.toNat_lt; omega
    · split at h
      · cases h
      · split at h
        · cases h
        · simp only [Option.some.injEq, Prod.mk.injEq] at h; obtain ⟨rfl, rfl⟩ := h
          have h1 := val_lt (r.take (c.toNat - 247)) 0
          have h2 : (r.take (c.toNat - 247)).length ≤ 8 := by have := c.toNat_lt; simp; omega
          have h3 : 256 ^ (r.take (c.toNat - 247)).length ≤ 256 ^ 8 := Nat.pow_le_pow_right (by omega) h2
          omega

end Go.Proofs.YtagmkceblklgaaaGreat
