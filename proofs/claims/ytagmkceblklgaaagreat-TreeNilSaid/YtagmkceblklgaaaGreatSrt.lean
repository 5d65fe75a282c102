/-
  slices.Sorted over the keys of a map from int, wherever the box that holds the map lies.
  Conditions: fewer than a million keys, none negative.
-/
import Derived.Test.YtagmkceblklgaaaGreatKeys
namespace Go.Proofs.YtagmkceblklgaaaGreat
open Go.RowKit Go.Maps Go.Sort Go.Shelf

set_option maxHeartbeats 1000000 in
theorem sortg0 {w : World} {Bs b n : Nat} {f : Lit → Option Value} (h : KMap w Tryz.prog 3 b f n) (hf : ∀ l v, f l = some v → ∃ m : Nat, l = .int .i64 m) (hn : n ≤ 1000000) (hBs : w.cell? ⟨Bs, 0, none⟩ = some (.map (some b))) :
    Calls Tryz.prog 30 #[.func (.func 55) #[] #[.pointer (some ⟨Bs, 0, none⟩)]] w fun e w' => ∃ (v : Value) (ns : List Nat), e = .returned v ∧ ns.Pairwise (· < ·) ∧ (∀ m : Nat, m ∈ ns ↔ f (.int .i64 m) ≠ none) ∧ w'.ownsRow w.heap.size 3 1 v ns.length (i64s ns) ∧ (v = .slice none 0 0 ↔ ns = []) ∧ Below w.heap.size w w' := by
  have hBl := World.block_lt_of_cell? w _ hBs
  obtain ⟨L, hown, hlen, hmem, hheld, hkeys⟩ := h.owns
  have hK : Keyed Tryz.prog 3 := int_keyed (q := .i64) Tryz.underlying3
  have hpw : L.Pairwise (fun p q => p.1 ≠ q.1) := by
    obtain ⟨es, hD, hpw, _⟩ := hown.entries hK
    obtain rfl : L = es := by simpa using hD
    exact hpw
  have hL : ∀ p ∈ L, ∃ m : Nat, p.1 = .int .i64 m := by
    intro p hp
    obtain ⟨v, hv⟩ := hheld p hp
    exact hf p.1 v ((hmem _ _).1 (by rw [← hv]; exact hp))
  have hsize : Maps.size (.map L : DataW Value) = n := by rw [← hlen]; rfl
  have hseq : SeqGives Fence.wide 2 Tryz.prog 55 #[.pointer (some ⟨Bs, 0, none⟩)] encZ (fun ss => ss.Perm (intKeys (.map L : DataW Value))) (Maps.size (.map L : DataW Value)) w :=
    AnyZI.keys_gives (ρ := Tryz.keysI0_ren) { Tryz.keysI0 with } Fence.wide _ trivial rfl (by omega) Bs b n _ _ hBl hBs hown
  have cS := AnyZI.sorted_in Tryz.sortedI Fence.wide 5 trivial trivial trivial trivial rfl (by omega) (sortsI _) (enters_of Tryz.func54 (by kernel_rfl) rfl) 55 #[.pointer (some ⟨Bs, 0, none⟩)] trivial (enters_of Tryz.func55 (by kernel_rfl) rfl) _ _ (by rw [hsize]; unfold maxLen; omega) (by rw [hsize]; omega) _ hseq
  change CallsIn _ _ Tryz.prog 30 _ _ _ at cS
  refine ((callsIn_wide).1 cS).mono ?_
  rintro e w' ⟨v, ss, rfl, hS, hrow, hnil, hb⟩
  obtain ⟨ns, h1, h2, h3, h4⟩ := nats_of_keys hpw hL hS
  have hrow' := hrow
  rw [h2] at hrow'
  have hssl : ss.length = ns.length := by rw [h4, hS.length_eq]; show (L.map _).length = _; simp
  rw [hssl] at hrow'
  refine ⟨v, ns, rfl, h1, fun m => ?_, hrow', ?_, hb⟩
  · rw [h3]
    constructor
    · rintro ⟨p, hp, hpm⟩ hno
      obtain ⟨v, hv⟩ := hheld p hp
      have := (hmem (.int .i64 m) v).1 (by rw [← hpm, ← hv]; exact hp)
      rw [hno] at this; cases this
    · intro hne
      obtain ⟨v, hv⟩ := Option.ne_none_iff_exists'.1 hne
      exact ⟨_, (hmem _ _).2 hv, rfl⟩
  · rw [hnil]
    constructor
    · rintro rfl; exact List.eq_nil_of_length_eq_zero (by simpa using hssl.symm)
    · rintro rfl; exact List.eq_nil_of_length_eq_zero (by simpa using hssl)

set_option maxHeartbeats 1000000 in
theorem sortg1 {w : World} {Bs b n : Nat} {f : Lit → Option Value} (h : KMap w Tryz.prog 3 b f n) (hf : ∀ l v, f l = some v → ∃ m : Nat, l = .int .i64 m) (hn : n ≤ 1000000) (hBs : w.cell? ⟨Bs, 0, none⟩ = some (.map (some b))) :
    Calls Tryz.prog 30 #[.func (.func 66) #[] #[.pointer (some ⟨Bs, 0, none⟩)]] w fun e w' => ∃ (v : Value) (ns : List Nat), e = .returned v ∧ ns.Pairwise (· < ·) ∧ (∀ m : Nat, m ∈ ns ↔ f (.int .i64 m) ≠ none) ∧ w'.ownsRow w.heap.size 3 1 v ns.length (i64s ns) ∧ (v = .slice none 0 0 ↔ ns = []) ∧ Below w.heap.size w w' := by
  have hBl := World.block_lt_of_cell? w _ hBs
  obtain ⟨L, hown, hlen, hmem, hheld, hkeys⟩ := h.owns
  have hK : Keyed Tryz.prog 3 := int_keyed (q := .i64) Tryz.underlying3
  have hpw : L.Pairwise (fun p q => p.1 ≠ q.1) := by
    obtain ⟨es, hD, hpw, _⟩ := hown.entries hK
    obtain rfl : L = es := by simpa using hD
    exact hpw
  have hL : ∀ p ∈ L, ∃ m : Nat, p.1 = .int .i64 m := by
    intro p hp
    obtain ⟨v, hv⟩ := hheld p hp
    exact hf p.1 v ((hmem _ _).1 (by rw [← hv]; exact hp))
  have hsize : Maps.size (.map L : DataW Value) = n := by rw [← hlen]; rfl
  have hseq : SeqGives Fence.wide 2 Tryz.prog 66 #[.pointer (some ⟨Bs, 0, none⟩)] encZ (fun ss => ss.Perm (intKeys (.map L : DataW Value))) (Maps.size (.map L : DataW Value)) w :=
    AnyZI.keys_gives (ρ := Tryz.keysI1_ren) { Tryz.keysI1 with } Fence.wide _ trivial rfl (by omega) Bs b n _ _ hBl hBs hown
  have cS := AnyZI.sorted_in Tryz.sortedI Fence.wide 5 trivial trivial trivial trivial rfl (by omega) (sortsI _) (enters_of Tryz.func54 (by kernel_rfl) rfl) 66 #[.pointer (some ⟨Bs, 0, none⟩)] trivial (enters_of Tryz.func66 (by kernel_rfl) rfl) _ _ (by rw [hsize]; unfold maxLen; omega) (by rw [hsize]; omega) _ hseq
  change CallsIn _ _ Tryz.prog 30 _ _ _ at cS
  refine ((callsIn_wide).1 cS).mono ?_
  rintro e w' ⟨v, ss, rfl, hS, hrow, hnil, hb⟩
  obtain ⟨ns, h1, h2, h3, h4⟩ := nats_of_keys hpw hL hS
  have hrow' := hrow
  rw [h2] at hrow'
  have hssl : ss.length = ns.length := by rw [h4, hS.length_eq]; show (L.map _).length = _; simp
  rw [hssl] at hrow'
  refine ⟨v, ns, rfl, h1, fun m => ?_, hrow', ?_, hb⟩
  · rw [h3]
    constructor
    · rintro ⟨p, hp, hpm⟩ hno
      obtain ⟨v, hv⟩ := hheld p hp
      have := (hmem (.int .i64 m) v).1 (by rw [← hpm, ← hv]; exact hp)
      rw [hno] at this; cases this
    · intro hne
      obtain ⟨v, hv⟩ := Option.ne_none_iff_exists'.1 hne
      exact ⟨_, (hmem _ _).2 hv, rfl⟩
  · rw [hnil]
    constructor
    · rintro rfl; exact List.eq_nil_of_length_eq_zero (by simpa using hssl.symm)
    · rintro rfl; exact List.eq_nil_of_length_eq_zero (by simpa using hssl)

set_option maxHeartbeats 1000000 in
theorem sortg2 {w : World} {Bs b n : Nat} {f : Lit → Option Value} (h : KMap w Tryz.prog 3 b f n) (hf : ∀ l v, f l = some v → ∃ m : Nat, l = .int .i64 m) (hn : n ≤ 1000000) (hBs : w.cell? ⟨Bs, 0, none⟩ = some (.map (some b))) :
    Calls Tryz.prog 30 #[.func (.func 124) #[] #[.pointer (some ⟨Bs, 0, none⟩)]] w fun e w' => ∃ (v : Value) (ns : List Nat), e = .returned v ∧ ns.Pairwise (· < ·) ∧ (∀ m : Nat, m ∈ ns ↔ f (.int .i64 m) ≠ none) ∧ w'.ownsRow w.heap.size 3 1 v ns.length (i64s ns) ∧ (v = .slice none 0 0 ↔ ns = []) ∧ Below w.heap.size w w' := by
  have hBl := World.block_lt_of_cell? w _ hBs
  obtain ⟨L, hown, hlen, hmem, hheld, hkeys⟩ := h.owns
  have hK : Keyed Tryz.prog 3 := int_keyed (q := .i64) Tryz.underlying3
  have hpw : L.Pairwise (fun p q => p.1 ≠ q.1) := by
    obtain ⟨es, hD, hpw, _⟩ := hown.entries hK
    obtain rfl : L = es := by simpa using hD
    exact hpw
  have hL : ∀ p ∈ L, ∃ m : Nat, p.1 = .int .i64 m := by
    intro p hp
    obtain ⟨v, hv⟩ := hheld p hp
    exact hf p.1 v ((hmem _ _).1 (by rw [← hv]; exact hp))
  have hsize : Maps.size (.map L : DataW Value) = n := by rw [← hlen]; rfl
  have hseq : SeqGives Fence.wide 2 Tryz.prog 124 #[.pointer (some ⟨Bs, 0, none⟩)] encZ (fun ss => ss.Perm (intKeys (.map L : DataW Value))) (Maps.size (.map L : DataW Value)) w :=
    AnyZI.keys_gives (ρ := Tryz.keysI2_ren) { Tryz.keysI2 with } Fence.wide _ trivial rfl (by omega) Bs b n _ _ hBl hBs hown
  have cS := AnyZI.sorted_in Tryz.sortedI Fence.wide 5 trivial trivial trivial trivial rfl (by omega) (sortsI _) (enters_of Tryz.func54 (by kernel_rfl) rfl) 124 #[.pointer (some ⟨Bs, 0, none⟩)] trivial (enters_of Tryz.func124 (by kernel_rfl) rfl) _ _ (by rw [hsize]; unfold maxLen; omega) (by rw [hsize]; omega) _ hseq
  change CallsIn _ _ Tryz.prog 30 _ _ _ at cS
  refine ((callsIn_wide).1 cS).mono ?_
  rintro e w' ⟨v, ss, rfl, hS, hrow, hnil, hb⟩
  obtain ⟨ns, h1, h2, h3, h4⟩ := nats_of_keys hpw hL hS
  have hrow' := hrow
  rw [h2] at hrow'
  have hssl : ss.length = ns.length := by rw [h4, hS.length_eq]; show (L.map _).length = _; simp
  rw [hssl] at hrow'
  refine ⟨v, ns, rfl, h1, fun m => ?_, hrow', ?_, hb⟩
  · rw [h3]
    constructor
    · rintro ⟨p, hp, hpm⟩ hno
      obtain ⟨v, hv⟩ := hheld p hp
      have := (hmem (.int .i64 m) v).1 (by rw [← hpm, ← hv]; exact hp)
      rw [hno] at this; cases this
    · intro hne
      obtain ⟨v, hv⟩ := Option.ne_none_iff_exists'.1 hne
      exact ⟨_, (hmem _ _).2 hv, rfl⟩
  · rw [hnil]
    constructor
    · rintro rfl; exact List.eq_nil_of_length_eq_zero (by simpa using hssl.symm)
    · rintro rfl; exact List.eq_nil_of_length_eq_zero (by simpa using hssl)

end Go.Proofs.YtagmkceblklgaaaGreat
