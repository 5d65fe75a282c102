/-
  slices.Sorted(maps.Keys(m)) at maps from int: a new slice of the keys, in order. (Written by wip/keys.py.)
-/
import Derived.Test.YtagmkceblklgaaaGreatMap
import Derived.Test.YtagmkceblklgaaaGreatInts
import Derived.Test.YtagmkceblklgaaaGreatIter
namespace Go.Proofs.YtagmkceblklgaaaGreat
open Go.RowKit Go.Maps Go.Sort Go.Shelf

theorem nats_of_keys {L : List (Lit × DataW Value)} (hpw : L.Pairwise (fun p q => p.1 ≠ q.1)) (hL : ∀ p ∈ L, ∃ m : Nat, p.1 = .int .i64 m) {ss : List Int} (hp : ss.Perm (intKeys (.map L))) :
    ∃ ns : List Nat, ns.Pairwise (· < ·) ∧ (ss.mergeSort (fun x y => decide (x ≤ y))).map encZ = i64s ns ∧ (∀ m : Nat, m ∈ ns ↔ ∃ p ∈ L, p.1 = .int .i64 m) ∧ ns.length = L.length := by
  have hmem : ∀ x : Int, x ∈ ss ↔ ∃ p ∈ L, p.1 = .int .i64 x := by
    intro x
    rw [hp.mem_iff]
    show x ∈ L.map (fun p => Go.intOf p.1) ↔ _
    rw [List.mem_map]
    constructor
    · rintro ⟨p, h1, h2⟩
      obtain ⟨m, hm⟩ := hL p h1
      rw [hm] at h2
      exact ⟨p, h1, by rw [hm, ← h2]; rfl⟩
    · rintro ⟨p, h1, h2⟩
      exact ⟨p, h1, by rw [h2]; rfl⟩
  have hnd : ss.Nodup := by
    rw [hp.nodup_iff]
    show (L.map (fun p => Go.intOf p.1)).Nodup
    refine List.pairwise_map.2 (hpw.imp_of_mem fun {p q} hp' hq' hne e => hne ?_)
    obtain ⟨a, ha⟩ := hL p hp'
    obtain ⟨b, hb⟩ := hL q hq'
    rw [ha, hb] at e ⊢
    exact congrArg _ e
  have tr : ∀ a b c : Int, leI a b = true → leI b c = true → leI a c = true := fun a b c h1 h2 => by simp only [leI, decide_eq_true_eq] at *; exact Int.le_trans h1 h2
  have to : ∀ a b : Int, (leI a b || leI b a) = true := fun a b => by simp only [leI, Bool.or_eq_true, decide_eq_true_eq]; exact Int.le_total a b
  have hs := List.pairwise_mergeSort tr to ss
  have hperm := List.mergeSort_perm ss leI
  have hnn : ∀ x ∈ ss.mergeSort leI, ∃ m : Nat, x = m := by
    intro x hx
    obtain ⟨p, h1, h2⟩ := (hmem x).1 (hperm.mem_iff.1 hx)
    obtain ⟨m, hm⟩ := hL p h1
    rw [hm] at h2
    exact ⟨m, by cases h2; rfl⟩
  have hback : ((ss.mergeSort leI).map Int.toNat).map (fun m : Nat => (m : Int)) = ss.mergeSort leI := by
    rw [List.map_map]
    conv => rhs; rw [← List.map_id (ss.mergeSort leI)]
    refine List.map_congr_left fun x hx => ?_
    obtain ⟨m, rfl⟩ := hnn x hx
    simp
  refine ⟨(ss.mergeSort leI).map Int.toNat, ?_, ?_, ?_, ?_⟩
  · have h1 : (ss.mergeSort leI).Nodup := hperm.nodup_iff.2 hnd
    have h2 : (ss.mergeSort leI).Pairwise (fun a b => a < b) := by
      refine (List.Pairwise.and hs h1).imp ?_
      intro a b ⟨h3, h4⟩
      simp only [leI, decide_eq_true_eq] at h3
      have : a ≠ b := h4
      omega
    refine List.pairwise_map.2 (h2.imp_of_mem ?_)
    intro a b ha hb hab
    obtain ⟨x, rfl⟩ := hnn a ha
    obtain ⟨y, rfl⟩ := hnn b hb
    simp; omega
  · show (ss.mergeSort leI).map encZ = _
    conv => lhs; rw [← hback]
    simp [i64s, List.map_map]
  · intro m
    rw [List.mem_map]
    constructor
    · rintro ⟨x, hx, hxm⟩
      obtain ⟨y, rfl⟩ := hnn x hx
      obtain rfl : y = m := by simpa using hxm
      exact (hmem _).1 (hperm.mem_iff.1 hx)
    · intro hm
      exact ⟨m, hperm.mem_iff.2 ((hmem m).2 hm), by simp⟩
  · rw [List.length_map, hperm.length_eq, hp.length_eq]
    show (L.map _).length = _
    simp

/-- slices.Sort's two contracts at this dump, at the fence that asks nothing. -/
theorem sortsI (m : Nat) : AnyZI.SortsIn Tryz.prog Tryz.sortedI_ren Fence.wide m :=
  ⟨fun blk off cap ss W hH hblk hsz => callsIn_wide.2 (AnyM.slices_Sort_int Tryz.sortI blk off cap ss W hH hblk hsz),
   fun p cap W => callsIn_wide.2 (AnyM.slices_Sort_int_none Tryz.sortI p cap W)⟩

/-- what slices.Sorted(maps.Keys(m)) answers in the world behind maps.Keys -/
def RetKeys (w : World) (f : Lit → Option Value) (n : Nat) (e : Ending) (w' : World) : Prop :=
  ∃ (v : Value) (ns : List Nat), e = .returned v ∧ ns.Pairwise (· < ·) ∧ (∀ m : Nat, m ∈ ns ↔ f (.int .i64 m) ≠ none) ∧ ns.length = n ∧ OwnS w' 3 1 v ns.length (i64s ns) ∧ (∀ k, v.ownBlock = some k → w.heap.size ≤ k) ∧ (v = .slice none 0 0 ↔ ns = []) ∧ Below w.heap.size w w'

theorem keys0_any (mb : Option Nat) (W : World) : Calls Tryz.prog 31 #[.map mb] W fun e w' => e = .returned (.func (.func 55) #[] #[.pointer (some ⟨W.heap.size, 0, none⟩)]) ∧ w' = W.alloc (.cells #[.map mb] 57) :=
  (callsIn_wide (n := 5)).1 (AnyZI.keys_in Tryz.keysI0 Fence.wide 5 trivial rfl mb W)

set_option maxHeartbeats 1000000 in
theorem sorted0_any {w : World} {b n : Nat} {f : Lit → Option Value} (h : KMap w Tryz.prog 3 b f n) (hf : ∀ l v, f l = some v → ∃ m : Nat, l = .int .i64 m) (hn : n ≤ 1000000) :
    Calls Tryz.prog 30 #[.func (.func 55) #[] #[.pointer (some ⟨w.heap.size, 0, none⟩)]] (w.alloc (.cells #[.map (some b)] 57)) (RetKeys w f n) := by
  have hbl := h.lt
  obtain ⟨L, hown, hlen, hmem, hheld, hkeys⟩ := h.owns
  have hK : Keyed Tryz.prog 3 := int_keyed (q := .i64) Tryz.underlying3
  have hpw : L.Pairwise (fun p q => p.1 ≠ q.1) := by
    obtain ⟨es, hD, hpw, _⟩ := hown.entries hK
    obtain rfl : L = es := by simpa using hD
    exact hpw
  have hL : ∀ p ∈ L, ∃ m : Nat, p.1 = .int .i64 m := by
    intro p hp
    obtain ⟨v, hv⟩ := hheld p hp
    exact hf p.1 v ((hmem _ _).1 (by rw [← hv]; exact hp))
  have hsize : Maps.size (.map L : DataW Value) = n := by rw [← hlen]; rfl
  have hseq : SeqGives Fence.wide 2 Tryz.prog 55 #[.pointer (some ⟨w.heap.size, 0, none⟩)] encZ (fun ss => ss.Perm (intKeys (.map L : DataW Value))) (Maps.size (.map L : DataW Value)) (w.alloc (.cells #[.map (some b)] 57)) :=
    AnyZI.keys_gives (ρ := Tryz.keysI0_ren) { Tryz.keysI0 with } Fence.wide _ trivial rfl (by omega) w.heap.size b n _ _ (by simp) (by simp) (by
      obtain ⟨es, clock, hb, Ft, hs, hD⟩ := hown
      exact ⟨es, clock, (Below.heap_alloc _ _ b hbl).trans hb, Ft, hs, hD⟩)
  have cS := AnyZI.sorted_in Tryz.sortedI Fence.wide 5 trivial trivial trivial trivial rfl (by omega) (sortsI _) (enters_of Tryz.func54 (by kernel_rfl) rfl) 55 #[.pointer (some ⟨w.heap.size, 0, none⟩)] trivial (enters_of Tryz.func55 (by kernel_rfl) rfl) _ _ (by rw [hsize]; unfold maxLen; omega) (by rw [hsize]; omega) _ hseq
  change CallsIn _ _ Tryz.prog 30 _ _ _ at cS
  refine ((callsIn_wide).1 cS).mono ?_
  rintro e w' ⟨v, ss, rfl, hS, hrow, hnil, hb⟩
  obtain ⟨ns, h1, h2, h3, h4⟩ := nats_of_keys hpw hL hS
  have hrow' := hrow
  rw [h2] at hrow'
  have hssl : ss.length = ns.length := by rw [h4, hS.length_eq]; show (L.map _).length = _; simp
  rw [hssl] at hrow'
  refine ⟨v, ns, rfl, h1, fun m => ?_, by rw [h4, hlen], OwnS.of_owns hrow', ?_, ?_, ((Below.refl _ w).alloc (Nat.le_refl _) _).trans (hb.mono (by simp))⟩
  · rw [h3]
    constructor
    · rintro ⟨p, hp, hpm⟩ hno
      obtain ⟨v, hv⟩ := hheld p hp
      have := (hmem (.int .i64 m) v).1 (by rw [← hpm, ← hv]; exact hp)
      rw [hno] at this; cases this
    · intro hne
      obtain ⟨v, hv⟩ := Option.ne_none_iff_exists'.1 hne
      exact ⟨_, (hmem _ _).2 hv, rfl⟩
  · intro k hk
    rcases hrow'.2 with ⟨rfl, _⟩ | ⟨g, cap, cur, rfl, hg, _⟩
    · simp [Value.ownBlock] at hk
    · obtain rfl : g = k := by simpa [Value.ownBlock] using hk
      have : (w.alloc (.cells #[.map (some b)] 57)).heap.size = w.heap.size + 1 := by unfold World.alloc; exact Array.size_push _
      omega
  · rw [hnil]
    constructor
    · rintro rfl; exact List.eq_nil_of_length_eq_zero (by simpa using hssl.symm)
    · rintro rfl; exact List.eq_nil_of_length_eq_zero (by simpa using hssl)

theorem keys1_any (mb : Option Nat) (W : World) : Calls Tryz.prog 44 #[.map mb] W fun e w' => e = .returned (.func (.func 66) #[] #[.pointer (some ⟨W.heap.size, 0, none⟩)]) ∧ w' = W.alloc (.cells #[.map mb] 67) :=
  (callsIn_wide (n := 5)).1 (AnyZI.keys_in Tryz.keysI1 Fence.wide 5 trivial rfl mb W)

set_option maxHeartbeats 1000000 in
theorem sorted1_any {w : World} {b n : Nat} {f : Lit → Option Value} (h : KMap w Tryz.prog 3 b f n) (hf : ∀ l v, f l = some v → ∃ m : Nat, l = .int .i64 m) (hn : n ≤ 1000000) :
    Calls Tryz.prog 30 #[.func (.func 66) #[] #[.pointer (some ⟨w.heap.size, 0, none⟩)]] (w.alloc (.cells #[.map (some b)] 67)) (RetKeys w f n) := by
  have hbl := h.lt
  obtain ⟨L, hown, hlen, hmem, hheld, hkeys⟩ := h.owns
  have hK : Keyed Tryz.prog 3 := int_keyed (q := .i64) Tryz.underlying3
  have hpw : L.Pairwise (fun p q => p.1 ≠ q.1) := by
    obtain ⟨es, hD, hpw, _⟩ := hown.entries hK
    obtain rfl : L = es := by simpa using hD
    exact hpw
  have hL : ∀ p ∈ L, ∃ m : Nat, p.1 = .int .i64 m := by
    intro p hp
    obtain ⟨v, hv⟩ := hheld p hp
    exact hf p.1 v ((hmem _ _).1 (by rw [← hv]; exact hp))
  have hsize : Maps.size (.map L : DataW Value) = n := by rw [← hlen]; rfl
  have hseq : SeqGives Fence.wide 2 Tryz.prog 66 #[.pointer (some ⟨w.heap.size, 0, none⟩)] encZ (fun ss => ss.Perm (intKeys (.map L : DataW Value))) (Maps.size (.map L : DataW Value)) (w.alloc (.cells #[.map (some b)] 67)) :=
    AnyZI.keys_gives (ρ := Tryz.keysI1_ren) { Tryz.keysI1 with } Fence.wide _ trivial rfl (by omega) w.heap.size b n _ _ (by simp) (by simp) (by
      obtain ⟨es, clock, hb, Ft, hs, hD⟩ := hown
      exact ⟨es, clock, (Below.heap_alloc _ _ b hbl).trans hb, Ft, hs, hD⟩)
  have cS := AnyZI.sorted_in Tryz.sortedI Fence.wide 5 trivial trivial trivial trivial rfl (by omega) (sortsI _) (enters_of Tryz.func54 (by kernel_rfl) rfl) 66 #[.pointer (some ⟨w.heap.size, 0, none⟩)] trivial (enters_of Tryz.func66 (by kernel_rfl) rfl) _ _ (by rw [hsize]; unfold maxLen; omega) (by rw [hsize]; omega) _ hseq
  change CallsIn _ _ Tryz.prog 30 _ _ _ at cS
  refine ((callsIn_wide).1 cS).mono ?_
  rintro e w' ⟨v, ss, rfl, hS, hrow, hnil, hb⟩
  obtain ⟨ns, h1, h2, h3, h4⟩ := nats_of_keys hpw hL hS
  have hrow' := hrow
  rw [h2] at hrow'
  have hssl : ss.length = ns.length := by rw [h4, hS.length_eq]; show (L.map _).length = _; simp
  rw [hssl] at hrow'
  refine ⟨v, ns, rfl, h1, fun m => ?_, by rw [h4, hlen], OwnS.of_owns hrow', ?_, ?_, ((Below.refl _ w).alloc (Nat.le_refl _) _).trans (hb.mono (by simp))⟩
  · rw [h3]
    constructor
    · rintro ⟨p, hp, hpm⟩ hno
      obtain ⟨v, hv⟩ := hheld p hp
      have := (hmem (.int .i64 m) v).1 (by rw [← hpm, ← hv]; exact hp)
      rw [hno] at this; cases this
    · intro hne
      obtain ⟨v, hv⟩ := Option.ne_none_iff_exists'.1 hne
      exact ⟨_, (hmem _ _).2 hv, rfl⟩
  · intro k hk
    rcases hrow'.2 with ⟨rfl, _⟩ | ⟨g, cap, cur, rfl, hg, _⟩
    · simp [Value.ownBlock] at hk
    · obtain rfl : g = k := by simpa [Value.ownBlock] using hk
      have : (w.alloc (.cells #[.map (some b)] 67)).heap.size = w.heap.size + 1 := by unfold World.alloc; exact Array.size_push _
      omega
  · rw [hnil]
    constructor
    · rintro rfl; exact List.eq_nil_of_length_eq_zero (by simpa using hssl.symm)
    · rintro rfl; exact List.eq_nil_of_length_eq_zero (by simpa using hssl)

theorem keys2_any (mb : Option Nat) (W : World) : Calls Tryz.prog 123 #[.map mb] W fun e w' => e = .returned (.func (.func 124) #[] #[.pointer (some ⟨W.heap.size, 0, none⟩)]) ∧ w' = W.alloc (.cells #[.map mb] 68) :=
  (callsIn_wide (n := 5)).1 (AnyZI.keys_in Tryz.keysI2 Fence.wide 5 trivial rfl mb W)

set_option maxHeartbeats 1000000 in
theorem sorted2_any {w : World} {b n : Nat} {f : Lit → Option Value} (h : KMap w Tryz.prog 3 b f n) (hf : ∀ l v, f l = some v → ∃ m : Nat, l = .int .i64 m) (hn : n ≤ 1000000) :
    Calls Tryz.prog 30 #[.func (.func 124) #[] #[.pointer (some ⟨w.heap.size, 0, none⟩)]] (w.alloc (.cells #[.map (some b)] 68)) (RetKeys w f n) := by
  have hbl := h.lt
  obtain ⟨L, hown, hlen, hmem, hheld, hkeys⟩ := h.owns
  have hK : Keyed Tryz.prog 3 := int_keyed (q := .i64) Tryz.underlying3
  have hpw : L.Pairwise (fun p q => p.1 ≠ q.1) := by
    obtain ⟨es, hD, hpw, _⟩ := hown.entries hK
    obtain rfl : L = es := by simpa using hD
    exact hpw
  have hL : ∀ p ∈ L, ∃ m : Nat, p.1 = .int .i64 m := by
    intro p hp
    obtain ⟨v, hv⟩ := hheld p hp
    exact hf p.1 v ((hmem _ _).1 (by rw [← hv]; exact hp))
  have hsize : Maps.size (.map L : DataW Value) = n := by rw [← hlen]; rfl
  have hseq : SeqGives Fence.wide 2 Tryz.prog 124 #[.pointer (some ⟨w.heap.size, 0, none⟩)] encZ (fun ss => ss.Perm (intKeys (.map L : DataW Value))) (Maps.size (.map L : DataW Value)) (w.alloc (.cells #[.map (some b)] 68)) :=
    AnyZI.keys_gives (ρ := Tryz.keysI2_ren) { Tryz.keysI2 with } Fence.wide _ trivial rfl (by omega) w.heap.size b n _ _ (by simp) (by simp) (by
      obtain ⟨es, clock, hb, Ft, hs, hD⟩ := hown
      exact ⟨es, clock, (Below.heap_alloc _ _ b hbl).trans hb, Ft, hs, hD⟩)
  have cS := AnyZI.sorted_in Tryz.sortedI Fence.wide 5 trivial trivial trivial trivial rfl (by omega) (sortsI _) (enters_of Tryz.func54 (by kernel_rfl) rfl) 124 #[.pointer (some ⟨w.heap.size, 0, none⟩)] trivial (enters_of Tryz.func124 (by kernel_rfl) rfl) _ _ (by rw [hsize]; unfold maxLen; omega) (by rw [hsize]; omega) _ hseq
  change CallsIn _ _ Tryz.prog 30 _ _ _ at cS
  refine ((callsIn_wide).1 cS).mono ?_
  rintro e w' ⟨v, ss, rfl, hS, hrow, hnil, hb⟩
  obtain ⟨ns, h1, h2, h3, h4⟩ := nats_of_keys hpw hL hS
  have hrow' := hrow
  rw [h2] at hrow'
  have hssl : ss.length = ns.length := by rw [h4, hS.length_eq]; show (L.map _).length = _; simp
  rw [hssl] at hrow'
  refine ⟨v, ns, rfl, h1, fun m => ?_, by rw [h4, hlen], OwnS.of_owns hrow', ?_, ?_, ((Below.refl _ w).alloc (Nat.le_refl _) _).trans (hb.mono (by simp))⟩
  · rw [h3]
    constructor
    · rintro ⟨p, hp, hpm⟩ hno
      obtain ⟨v, hv⟩ := hheld p hp
      have := (hmem (.int .i64 m) v).1 (by rw [← hpm, ← hv]; exact hp)
      rw [hno] at this; cases this
    · intro hne
      obtain ⟨v, hv⟩ := Option.ne_none_iff_exists'.1 hne
      exact ⟨_, (hmem _ _).2 hv, rfl⟩
  · intro k hk
    rcases hrow'.2 with ⟨rfl, _⟩ | ⟨g, cap, cur, rfl, hg, _⟩
    · simp [Value.ownBlock] at hk
    · obtain rfl : g = k := by simpa [Value.ownBlock] using hk
      have : (w.alloc (.cells #[.map (some b)] 68)).heap.size = w.heap.size + 1 := by unfold World.alloc; exact Array.size_push _
      omega
  · rw [hnil]
    constructor
    · rintro rfl; exact List.eq_nil_of_length_eq_zero (by simpa using hssl.symm)
    · rintro rfl; exact List.eq_nil_of_length_eq_zero (by simpa using hssl)

end Go.Proofs.YtagmkceblklgaaaGreat
