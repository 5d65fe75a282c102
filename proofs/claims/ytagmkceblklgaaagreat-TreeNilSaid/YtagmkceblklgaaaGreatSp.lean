/-
  SUMMARIES for the runner, that they are so: sum.Sum, strings.Compare.
  Conditions: none.
-/
import Derived.Test.YtagmkceblklgaaaGreatSo
import Derived.Test.YtagmkceblklgaaaGreatSum
import Derived.Test.YtagmkceblklgaaaGreatShelf
namespace Go.Proofs.YtagmkceblklgaaaGreat.Ex
open Go.RowKit
variable {ρ : Nat → Option Spot} {ω : Env} {g : Nat → Option Blk} {A : St} {w w' : World}

theorem fnvStep_nat (x : Nat) (hx : x < 18446744073709551616) (c : UInt8) : fnvStep (x : Int) c = ((Nat.mod (Nat.mul (Nat.xor x c.toNat) 1099511628211) 18446744073709551616 : Nat) : Int) := by
  have hc := c.toNat_lt
  have h1 : IntKind.u64.wrap (c.toNat : Int) = (c.toNat : Int) := by rw [IntKind.wrap_u64]; omega
  have h2 : bits .xor .u64 (x : Int) (c.toNat : Int) = ((x ^^^ c.toNat : Nat) : Int) := by
    have hlt : x ^^^ c.toNat < 2 ^ 64 := Nat.xor_lt_two_pow (by omega) (by omega)
    show IntKind.u64.wrap ((BitVec.ofInt 64 (x : Int) ^^^ BitVec.ofInt 64 (c.toNat : Int)).toNat : Int) = _
    have e1 : BitVec.ofInt 64 (x : Int) = BitVec.ofNat 64 x := BitVec.ofInt_natCast ..
    have e2 : BitVec.ofInt 64 (c.toNat : Int) = BitVec.ofNat 64 c.toNat := BitVec.ofInt_natCast ..
    rw [e1, e2, BitVec.toNat_xor, BitVec.toNat_ofNat, BitVec.toNat_ofNat, Nat.mod_eq_of_lt (by omega), Nat.mod_eq_of_lt (by omega), IntKind.wrap_u64]
    omega
  unfold fnvStep
  rw [h1, h2, IntKind.wrap_u64]
  show ((x ^^^ c.toNat : Nat) : Int) * 1099511628211 % 18446744073709551616 = (((x ^^^ c.toNat) * 1099511628211 % 18446744073709551616 : Nat) : Int)
  generalize x ^^^ c.toNat = z
  omega

theorem fnvL_ok : ∀ {l : List AV} {x y : Nat}, fnvL l x = some y → x < 18446744073709551616 → ∃ bs : Bytes, l = bs.map (fun c => AV.lit (u8v c)) ∧ (y : Int) = bs.foldl fnvStep (x : Int)
  | [], x, y, h, hx => by simp [fnvL] at h; subst h; exact ⟨[], rfl, rfl⟩
  | a :: l, x, y, h, hx => by
    unfold fnvL at h
    split at h
    · rename_i heq; cases heq
    · rename_i n l' x' heq
      cases heq
      cases hn : Nat.ble l' 255 with
      | false => rw [hn] at h; cases h
      | true =>
        rw [hn] at h
        have hn' : l' < 256 := by have := Nat.le_of_ble_eq_true hn; omega
        obtain ⟨bs, rfl, hy⟩ := fnvL_ok h (Nat.mod_lt _ (by omega))
        refine ⟨UInt8.ofNat l' :: bs, ?_, ?_⟩
        · simp [u8v, UInt8.toNat_ofNat_of_lt' (show l' < UInt8.size from hn')]
        · rw [List.foldl_cons, fnvStep_nat _ hx, UInt8.toNat_ofNat_of_lt' (show l' < UInt8.size from hn')]
          exact hy
    · cases h

set_option maxRecDepth 100000 in
theorem sumSum_ok (hN : Named Tryz.prog) {args : List AV} {x : AV} {A' : St} (h : sumSum args A = some (x, A')) {cargs : Array Value} (hg : Rel ρ ω A.mem.get w) (hn : Nm ρ A.next) (ha : RL ρ ω args cargs.toList) : Runs Tryz.prog 85 cargs w (HOut ρ ω A w x A') := by
  unfold sumSum at h
  split at h
  · rename_i b off len lo ex
    simp only [Option.bind_eq_some_iff] at h
    obtain ⟨B, hB, c, hc, h⟩ := h
    cases hcond : (Nat.ble (off + len) c.length && Nat.ble 1 len && Nat.ble len 100000) with
    | false => rw [hcond] at h; cases h
    | true =>
      rw [hcond] at h
      simp only [Bool.and_eq_true] at hcond
      have h1 := Nat.le_of_ble_eq_true hcond.1.1
      have h2 := Nat.le_of_ble_eq_true hcond.1.2
      have h3 := Nat.le_of_ble_eq_true hcond.2
      simp only [cond_true, Option.bind_eq_some_iff] at h
      obtain ⟨y, hy, h⟩ := h
      cases h
      obtain ⟨bs, hbs, hyv⟩ := fnvL_ok hy (by omega)
      obtain ⟨v, hv, hr⟩ := ha.get (i := 0) rfl
      have hca : cargs = #[v] := by
        have hl := ha.1
        cases cargs with
        | mk l =>
          cases l with
          | nil => simp at hl
          | cons a l =>
            cases l with
            | nil => simp at hv; subst hv; rfl
            | cons _ _ => simp at hl
      subst hca
      obtain ⟨s, a, cap, hs, rfl, hl1, hl2, hblk, hcap, _⟩ := hr.sl_inv
      obtain ⟨rfl, hroom⟩ := hcap (by omega)
      obtain ⟨cs, t, fr, hheap, hsz, hlc, _, hcells⟩ := hg.cells hB hc hs
      have hlen : bs.length = len := by
        have := congrArg List.length hbs
        simp at this; omega
      have hrow : RowAt w s.block (s.base + off) (u8s bs) := by
        intro i u hu
        have hi : i < bs.length := by
          have := (List.getElem?_eq_some_iff.1 hu).1
          simpa [u8s] using this
        have hci : c[off + i]? = some (.lit (u8v bs[i])) := by
          have := congrArg (fun l => l[i]?) hbs
          simp only [List.getElem?_take, List.getElem?_drop, List.getElem?_map] at this
          rw [if_pos (by omega)] at this
          rw [this]; simp [hi]
        obtain ⟨v, hv, hr⟩ := hcells _ _ hci
        obtain rfl := hr.lit_inv
        have hu' : u = u8v bs[i] := by simpa [u8s, hi] using hu.symm
        subst hu'
        simp only [World.cell?, hheap]
        rw [← hv, Nat.add_assoc]; rfl
      refine runs_of_calls hN (Tryz.func85) rfl ?_
      refine (sum_any s.block (s.base + off) len cap bs w hlen h3 hrow).mono ?_
      rintro e w' ⟨rfl, rfl⟩
      have e1 : (fnv bs : Int) = (y : Int) := by rw [hyv, ← fnv_cast]; rfl
      refine ⟨_, rfl, ?_⟩
      rw [e1]
      exact out_lit hg hn (Below.refl _ _) _
  · cases h

set_option maxRecDepth 100000 in
theorem sumCmp_ok (hN : Named Tryz.prog) {args : List AV} {x : AV} {A' : St} (h : sumCmp args A = some (x, A')) {cargs : Array Value} (hg : Rel ρ ω A.mem.get w) (hn : Nm ρ A.next) (ha : RL ρ ω args cargs.toList) : Runs Tryz.prog 41 cargs w (HOut ρ ω A w x A') := by
  unfold sumCmp at h
  split at h
  · rename_i a b
    cases h
    have hca : cargs = #[.string a, .string b] := by
      have hl := ha.1
      cases cargs with
      | mk l =>
        match l, hl, ha with
        | [u, v], _, ha =>
          have h0 := (ha.2 0 _ _ rfl rfl).lit_inv
          have h1 := (ha.2 1 _ _ rfl rfl).lit_inv
          subst h0; subst h1; rfl
    subst hca
    refine runs_of_calls hN (Tryz.func41) rfl ?_
    refine (Tryz.strings_Compare a b w).mono ?_
    rintro e w' ⟨rfl, rfl⟩
    exact ⟨_, rfl, out_lit hg hn (Below.refl _ _) _⟩
  · cases h

end Go.Proofs.YtagmkceblklgaaaGreat.Ex
