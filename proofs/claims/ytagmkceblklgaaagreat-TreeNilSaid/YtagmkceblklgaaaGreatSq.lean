/-
  SUMMARIES for the runner, that they are so: slices.Collect over changes, slices.Sorted over a map's keys.
  Conditions: none.
-/
import Derived.Test.YtagmkceblklgaaaGreatSo
import Derived.Test.YtagmkceblklgaaaGreatSrt
import Derived.Test.YtagmkceblklgaaaGreatColl
namespace Go.Proofs.YtagmkceblklgaaaGreat.Ex
open Go.RowKit
variable {ρ : Nat → Option Spot} {ω : Env} {g : Nat → Option Blk} {A : St} {w w' : World}

theorem one_arg {x : AV} {cargs : Array Value} (ha : RL ρ ω [x] cargs.toList) : ∃ v, cargs = #[v] ∧ R ρ ω x v := by
  have hl := ha.1
  cases cargs with
  | mk l =>
    match l, hl, ha with
    | [v], _, ha => exact ⟨v, rfl, ha.2 0 _ _ rfl rfl⟩

theorem box_inv (hg : Rel ρ ω A.mem.get w) {k b : Nat} {cargs : Array Value} (ha : RL ρ ω [.fn (.func k) [] [.ptr b 0]] cargs.toList) {B : Blk} {c : List AV} {x : AV} (hB : A.mem.get b = some B) (hc : B.toCells = some c) (hx : c[0]? = some x) :
    ∃ Bs v, cargs = #[.func (.func k) #[] #[.pointer (some ⟨Bs, 0, none⟩)]] ∧ w.cell? ⟨Bs, 0, none⟩ = some v ∧ R ρ ω x v := by
  obtain ⟨f, rfl, hf⟩ := one_arg ha
  obtain ⟨l', m', rfl, hl, hm⟩ := hf.of_fn
  obtain ⟨p, rfl, hp⟩ := one_arg hm
  have hl0 : l' = #[] := by
    have := hl.1
    apply Array.eq_empty_of_size_eq_zero
    simpa using this.symm
  subst hl0
  obtain ⟨s, hs, rfl⟩ := hp.ptr_inv
  have h0 := hg.base hB hc hs
  obtain ⟨cs, t, fr, hh, hsz, hlen, _, hcell⟩ := hg.cells hB hc hs
  obtain ⟨v, hv, hr⟩ := hcell 0 x hx
  refine ⟨s.block, v, by rw [h0], ?_, hr⟩
  rw [h0] at hv
  simp only [World.cell?, hh]
  exact hv

/-! ### Collect -/

theorem okChg_rows : ∀ {l : List AV} {vs : List Value}, okChg l = true → RL ρ ω l vs → ∃ xs : List Chg, vs = rows3 xs ∧ xs.length * 3 = l.length
  | [], vs, _, h => by
    have := h.1
    have : vs = [] := List.length_eq_zero_iff.1 (by simpa using this.symm)
    subst this
    exact ⟨[], rfl, rfl⟩
  | [_], _, h, _ => by simp [okChg] at h
  | [_, _], _, h, _ => by simp [okChg] at h
  | a :: b :: c :: l, vs, h, hr => by
    simp only [okChg, Bool.and_eq_true] at h
    obtain ⟨⟨⟨h1, h2⟩, h3⟩, h4⟩ := h
    match vs, hr with
    | [], hr => have := hr.1; simp at this
    | [_], hr => have := hr.1; simp at this
    | [_, _], hr => have := hr.1; simp at this
    | u0 :: u1 :: u2 :: us, hr =>
      obtain ⟨xs, rfl, hx⟩ := okChg_rows (l := l) (vs := us) h4 ⟨by have := hr.1; simpa using this, fun i x v p q => hr.2 (i + 3) x v (by simpa using p) (by simpa using q)⟩
      have r0 := hr.2 0 _ _ rfl rfl
      have r1 := hr.2 1 _ _ rfl rfl
      have r2 := hr.2 2 _ _ rfl rfl
      obtain ⟨s, rfl⟩ : ∃ s, u0 = .string s := by
        unfold isStrV at h1
        split at h1
        · exact ⟨_, r0.lit_inv⟩
        · cases h1
      obtain ⟨p, n, q, rfl⟩ : ∃ p n q, u1 = .slice p n q := by
        unfold isSlV at h2
        split at h2
        · exact ⟨_, _, _, r1.lit_inv⟩
        · obtain ⟨_, _, _, _, rfl, _⟩ := r1.sl_inv; exact ⟨_, _, _, rfl⟩
        · cases h2
      obtain ⟨t, rfl⟩ : ∃ t, u2 = .bool t := by
        unfold isBoolV at h3
        split at h3
        · exact ⟨_, r2.lit_inv⟩
        · cases h3
      exact ⟨⟨s, p, n, q, t⟩ :: xs, by simp [rows3, Chg.row], by simp; omega⟩

theorem rows3_get : ∀ (xs : List Chg) (j i : Nat), i < 3 → j < xs.length → (rows3 xs)[j * 3 + i]? = (chgAt xs j).row[i]?
  | [], j, i, _, hj => by simp at hj
  | x :: xs, 0, i, hi, _ => by
    simp only [rows3, List.flatMap_cons, chgAt, List.getD_cons_zero, Nat.zero_mul, Nat.zero_add]
    rw [List.getElem?_append_left (by simp [Chg.row]; omega)]
  | x :: xs, j + 1, i, hi, hj => by
    have ih := rows3_get xs j i hi (by simpa using hj)
    simp only [rows3, List.flatMap_cons, chgAt, List.getD_cons_succ]
    rw [List.getElem?_append_right (by simp [Chg.row]; omega)]
    rw [show (j + 1) * 3 + i - x.row.length = j * 3 + i by simp [Chg.row]; omega]
    exact ih

set_option maxRecDepth 100000 in
theorem sumCollect_ok (hN : Named Tryz.prog) {args : List AV} {x : AV} {A' : St} (h : sumCollect 60 args A = some (x, A')) {cargs : Array Value} (hg : Rel ρ ω A.mem.get w) (hn : Nm ρ A.next) (ha : RL ρ ω args cargs.toList) : Runs Tryz.prog 58 cargs w (HOut ρ ω A w x A') := by
  unfold sumCollect at h
  split at h
  · rename_i k b
    cases hk : Nat.beq 60 k with
    | false => rw [hk] at h; cases h
    | true =>
      rw [hk] at h
      obtain rfl := (Nat.eq_of_beq_eq_true hk).symm
      simp only [cond_true, Option.bind_eq_some_iff] at h
      obtain ⟨B, hB, c, hc, y, hy, h⟩ := h
      obtain ⟨Bs, v, rfl, hcell, hr⟩ := box_inv hg ha hB hc hy
      split at h
      · cases h
        obtain rfl := hr.lit_inv
        refine runs_of_calls hN (Tryz.func58) rfl ?_
        refine (collect_any Bs _ [] (by simp) w hcell (.inl ⟨rfl, rfl⟩)).mono ?_
        rintro e w' ⟨v, rfl, ⟨_, hnil⟩, hb⟩
        obtain rfl := hnil.2 rfl
        exact ⟨_, rfl, out_lit hg hn hb _⟩
      · rename_i b' off len lo ex
        simp only [Option.bind_eq_some_iff] at h
        obtain ⟨B', hB', c', hc', h⟩ := h
        cases hcond : (Nat.ble (off + len * 3) c'.length && Nat.ble 1 len && Nat.ble len 1000000 && okChg ((c'.drop off).take (len * 3))) with
        | false => rw [hcond] at h; cases h
        | true =>
          rw [hcond] at h
          cases h
          simp only [Bool.and_eq_true] at hcond
          obtain ⟨⟨⟨h1, h2⟩, h3⟩, h4⟩ := hcond
          have h1 := Nat.le_of_ble_eq_true h1
          have h2 := Nat.le_of_ble_eq_true h2
          have h3 := Nat.le_of_ble_eq_true h3
          obtain ⟨s, a, cap, hs, rfl, hl1, hl2, hblk, hcap, _⟩ := hr.sl_inv
          obtain ⟨rfl, hroom⟩ := hcap (by omega)
          obtain ⟨cs, t, fr, hheap, hsz, hlc, _, hcells⟩ := hg.cells hB' hc' hs
          have hrl : RL ρ ω ((c'.drop off).take (len * 3)) ((cs.toList.drop (s.base + off)).take (len * 3)) := by
            refine ⟨by simp; omega, fun i y u p q => ?_⟩
            rw [List.getElem?_take] at p q
            split at p
            · rename_i hi
              rw [if_pos hi] at q
              rw [List.getElem?_drop] at p q
              obtain ⟨v, hv, hr⟩ := hcells _ _ p
              have : cs.toList[s.base + off + i]? = some v := by rw [← hv, Nat.add_assoc]; simp
              rw [this] at q; cases q
              exact hr
            · cases p
          obtain ⟨xs, hxs, hxl⟩ := okChg_rows h4 hrl
          have hlen : xs.length = len := by simp at hxl; omega
          have hat : ChgsAt w s.block (s.base + off) xs := by
            have key : ∀ j i u, j < xs.length → i < 3 → (chgAt xs j).row[i]? = some u → w.cell? ⟨s.block, s.base + off + j * 3 + i, none⟩ = some u := by
              intro j i u hj hi hu
              rw [← rows3_get xs j i hi hj, ← hxs, List.getElem?_take, if_pos (by omega), List.getElem?_drop] at hu
              simp only [World.cell?, hheap]
              rw [← hu]
              simp [Nat.add_assoc]
            intro j hj
            exact ⟨key j 0 _ hj (by omega) rfl, key j 1 _ hj (by omega) rfl, key j 2 _ hj (by omega) rfl⟩
          refine runs_of_calls hN (Tryz.func58) rfl ?_
          refine (collect_any Bs _ xs (by omega) w hcell (.inr ⟨s.block, s.base + off, cap, by rw [hlen], (Array.getElem?_eq_some_iff.1 hheap).1, hat⟩)).mono ?_
          rintro e w' ⟨v, rfl, ⟨hrow, _⟩, hb⟩
          rw [hlen] at hrow
          exact ⟨_, rfl, out_row hg hn hb hrow (by omega) (by rw [← hxs]; exact hrl)⟩
      · cases h
  · cases h

end Go.Proofs.YtagmkceblklgaaaGreat.Ex
