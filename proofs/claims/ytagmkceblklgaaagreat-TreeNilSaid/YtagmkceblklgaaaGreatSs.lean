/-
  SUMMARIES for the runner, that they are so: slices.Sorted over the keys of a map from int; all of them together.
  Conditions: none.
-/
import Derived.Test.YtagmkceblklgaaaGreatSq
import Derived.Test.YtagmkceblklgaaaGreatSp
namespace Go.Proofs.YtagmkceblklgaaaGreat.Ex
open Go.RowKit
open Go.WideElems (Fit rd rg)
variable {ρ : Nat → Option Spot} {ω : Env} {g : Nat → Option Blk} {A : St} {w w' : World}

theorem mem_insN (k : Nat) : ∀ (l : List Nat) (m : Nat), m ∈ insN k l ↔ m = k ∨ m ∈ l
  | [], m => by simp [insN]
  | x :: l, m => by
    unfold insN
    cases Nat.ble k x
    · simp only [cond_false, List.mem_cons, mem_insN k l m]; grind
    · simp
theorem mem_sortN : ∀ (l : List Nat) (m : Nat), m ∈ sortN l ↔ m ∈ l
  | [], m => by simp [sortN]
  | k :: l, m => by unfold sortN; rw [mem_insN, mem_sortN l m]; simp
theorem upN_pairwise : ∀ {l : List Nat}, upN l = true → l.Pairwise (· < ·)
  | [], _ => .nil
  | [a], _ => by simp
  | a :: b :: l, h => by
    unfold upN at h
    cases hb : Nat.blt a b with
    | false => rw [hb] at h; cases h
    | true =>
      rw [hb] at h
      have hab : a < b := by simpa [Nat.blt_eq] using hb
      have ih := upN_pairwise (l := b :: l) h
      refine List.pairwise_cons.2 ⟨fun c hc => ?_, ih⟩
      rcases List.mem_cons.1 hc with rfl | hc
      · exact hab
      · exact Nat.lt_trans hab ((List.pairwise_cons.1 ih).1 c hc)
theorem strict_eq : ∀ {l m : List Nat}, l.Pairwise (· < ·) → m.Pairwise (· < ·) → (∀ x, x ∈ l ↔ x ∈ m) → l = m
  | [], [], _, _, _ => rfl
  | [], b :: m, _, _, h => by have := (h b).2 (by simp); simp at this
  | a :: l, [], _, _, h => by have := (h a).1 (by simp); simp at this
  | a :: l, b :: m, hl, hm, h => by
    have ha := List.pairwise_cons.1 hl
    have hb := List.pairwise_cons.1 hm
    have hab : a = b := by
      rcases List.mem_cons.1 ((h a).1 (by simp)) with e | e
      · exact e
      · rcases List.mem_cons.1 ((h b).2 (by simp)) with e' | e'
        · exact e'.symm
        · have := hb.1 a e; have := ha.1 b e'; omega
    subst hab
    have : l = m := strict_eq ha.2 hb.2 (fun x => by
      constructor
      · intro hx
        rcases List.mem_cons.1 ((h x).1 (by simp [hx])) with e | e
        · have := ha.1 x hx; omega
        · exact e
      · intro hx
        rcases List.mem_cons.1 ((h x).2 (by simp [hx])) with e | e
        · have := hb.1 x hx; omega
        · exact e)
    rw [this]

theorem natsOf_ok : ∀ {es : List (Value × AV)} {l : List Nat}, natsOf es = some l → es.map (·.1) = l.map (fun n : Nat => Value.int .i64 n) ∧ ∀ n ∈ l, n ≤ 9000000000000000000
  | [], l, h => by simp [natsOf] at h; subst h; simp
  | e :: es, l, h => by
    unfold natsOf at h
    split at h
    · rename_i heq; cases heq
    · rename_i n v es' heq
      cases heq
      cases hn : Nat.ble n 9000000000000000000 with
      | false => rw [hn] at h; cases h
      | true =>
        rw [hn] at h
        simp only [cond_true, Option.bind_eq_some_iff] at h
        obtain ⟨r, hr, h⟩ := h
        cases h
        obtain ⟨h1, h2⟩ := natsOf_ok hr
        refine ⟨by simp [h1], fun m hm => ?_⟩
        rcases List.mem_cons.1 hm with rfl | hm
        · exact Nat.le_of_ble_eq_true hn
        · exact h2 m hm
    · cases h

theorem uniq_key {l : List MapEntry} (h : (l.map (·.key)).Nodup) {x y : MapEntry} (hx : x ∈ l) (hy : y ∈ l) (e : x.key = y.key) : x = y := by
  induction l with
  | nil => cases hx
  | cons a l ih =>
    simp only [List.map_cons, List.nodup_cons] at h
    rcases List.mem_cons.1 hx with rfl | hx1 <;> rcases List.mem_cons.1 hy with rfl | hy1
    · rfl
    · exact absurd (List.mem_map.2 ⟨y, hy1, e.symm⟩) h.1
    · exact absurd (List.mem_map.2 ⟨x, hx1, e⟩) h.1
    · exact ih h.2 hx1 hy1

theorem key_int {n : Int} (h1 : -9223372036854775808 ≤ n) (h2 : n ≤ 9223372036854775807) : keyOf Tryz.prog 3 (.int .i64 n) = some (.int .i64 n) := by
  have e1 : IntKind.i64.min = -9223372036854775808 := by decide
  have e2 : IntKind.i64.max = 9223372036854775807 := by decide
  simp [keyOf, Tryz.underlying3, mapKey, Lit.wf, e1, e2, h1, h2]

open Classical in
/-- a map from int, as the sorting asks it -/
theorem kmap_of (hg : Rel ρ ω A.mem.get w) {b : Nat} {B : Blk} {es : List (Value × AV)} {s : Spot} (hB : A.mem.get b = some B) (hM : B.toMap = some es) (hs : ρ b = some s) {l : List Nat} (hl : natsOf es = some l) (hm : es.length ≤ 1000000) :
    ∃ f, KMap w Tryz.prog 3 s.block f es.length ∧ (∀ k v, f k = some v → ∃ m : Nat, k = .int .i64 m) ∧ ∀ m : Nat, f (.int .i64 m) ≠ none ↔ m ∈ l := by
  obtain ⟨es', clock, hh, hlen, hall, hst⟩ := hg.map hB hM hs
  obtain ⟨hk, hle⟩ := natsOf_ok hl
  have hll : l.length = es.length := by have := congrArg List.length hk; simpa using this.symm
  have hkey : ∀ e ∈ es'.toList, ∃ m, m ∈ l ∧ e.key = .int .i64 (m : Nat) ∧ keyOf Tryz.prog 3 e.key = some (.int .i64 m) := by
    intro e he
    obtain ⟨i, hi, rfl⟩ := List.getElem_of_mem he
    have hi' : i < es.length := by rw [hlen]; simpa using hi
    have hil : i < l.length := by omega
    obtain ⟨h1, _⟩ := hall i es[i].1 es[i].2 (es'[i]'(by simpa using hi)) (by simp [hi']) (by simp)
    have h2 : es[i].1 = Value.int .i64 (l[i] : Nat) := by
      have := congrArg (fun z => z[i]?) hk
      simpa [hi', hil] using this
    have h3 : es'.toList[i].key = .int .i64 (l[i] : Nat) := by simpa [h2] using h1
    have := hle l[i] (List.getElem_mem hil)
    exact ⟨l[i], List.getElem_mem hil, h3, by rw [h3]; exact key_int (by omega) (by omega)⟩
  have hmem : ∀ m ∈ l, ∃ e ∈ es'.toList, keyOf Tryz.prog 3 e.key = some (.int .i64 (m : Nat)) := by
    intro m hm
    obtain ⟨i, hi, rfl⟩ := List.getElem_of_mem hm
    have hi' : i < es.length := by omega
    have hie : i < es'.size := by omega
    obtain ⟨h1, _⟩ := hall i es[i].1 es[i].2 es'[i] (by simp [hi']) (by simp [hie])
    have h2 : es[i].1 = Value.int .i64 (l[i] : Nat) := by
      have := congrArg (fun z => z[i]?) hk
      simpa [hi', hi] using this
    have := hle l[i] hm
    refine ⟨es'[i], by simp, ?_⟩
    rw [h1, h2]
    exact key_int (by omega) (by omega)
  refine ⟨fun k => if h : ∃ e ∈ es'.toList, keyOf Tryz.prog 3 e.key = some k then some (Classical.choose h).val else none, ⟨es', clock, hh, ⟨?_, hst, ?_⟩, hlen.symm, fun k v => ?_⟩, fun k v h => ?_, fun m => ?_⟩
  · unfold maxLen; omega
  · intro e he
    obtain ⟨m, _, _, h⟩ := hkey e he
    exact ⟨_, by simp [rd, h, RV]; rfl⟩
  · dsimp only
    constructor
    · intro h
      split at h
      · rename_i hex
        cases h
        have := Classical.choose_spec hex
        exact ⟨_, this.1, this.2, rfl⟩
      · cases h
    · rintro ⟨e, he, hek, rfl⟩
      have hex : ∃ e ∈ es'.toList, keyOf Tryz.prog 3 e.key = some k := ⟨e, he, hek⟩
      rw [dif_pos hex]
      have hsp := Classical.choose_spec hex
      obtain ⟨m, _, h1, h2⟩ := hkey e he
      obtain ⟨m', _, h1', h2'⟩ := hkey _ hsp.1
      rw [hek] at h2; rw [hsp.2] at h2'
      rw [h2] at h2'
      have : (m : Int) = m' := (Lit.int.inj (Option.some.inj h2')).2
      rw [uniq_key hst.2.2 hsp.1 he (by rw [h1, h1', this])]
  · dsimp only at h
    split at h
    · rename_i hex
      obtain ⟨e, he, hek⟩ := hex
      obtain ⟨m, _, _, h2⟩ := hkey e he
      rw [hek] at h2
      exact ⟨m, Option.some.inj h2⟩
    · cases h
  · dsimp only
    constructor
    · intro h
      split at h
      · rename_i hex
        obtain ⟨e, he, hek⟩ := hex
        obtain ⟨m', hm', _, h2⟩ := hkey e he
        rw [hek] at h2
        have : (m : Int) = m' := (Lit.int.inj (Option.some.inj h2)).2
        obtain rfl : m = m' := by omega
        exact hm'
      · exact absurd rfl h
    · intro h
      rw [dif_pos (hmem m h)]
      simp

set_option maxRecDepth 100000 in
theorem sumSortedI_ok (hN : Named Tryz.prog) {args : List AV} {x : AV} {A' : St} (h : sumSortedI [55, 66, 124] args A = some (x, A')) {cargs : Array Value} (hg : Rel ρ ω A.mem.get w) (hn : Nm ρ A.next) (ha : RL ρ ω args cargs.toList) : Runs Tryz.prog 30 cargs w (HOut ρ ω A w x A') := by
  unfold sumSortedI at h
  split at h
  · rename_i k b
    cases hk : ([55, 66, 124].any fun j => Nat.beq j k) with
    | false => rw [hk] at h; cases h
    | true =>
      rw [hk] at h
      simp only [cond_true, Option.bind_eq_some_iff] at h
      obtain ⟨B, hB, c, hc, y, hy, m, hm, M, hM, es, hes, h⟩ := h
      obtain ⟨Bs, v, rfl, hcell, hr⟩ := box_inv hg ha hB hc hy
      rw [AV.toMp_eq hm] at hr
      obtain ⟨s, hs, rfl⟩ := hr.mp_inv
      cases hle : Nat.ble es.length 1000000 with
      | false => rw [hle] at h; cases h
      | true =>
        rw [hle] at h
        have hle := Nat.le_of_ble_eq_true hle
        simp only [cond_true, Option.bind_eq_some_iff] at h
        obtain ⟨l, hl, h⟩ := h
        obtain ⟨f, hK, hf, hfl⟩ := kmap_of hg hM hes hs hl hle
        have hcall : Calls Tryz.prog 30 #[.func (.func k) #[] #[.pointer (some ⟨Bs, 0, none⟩)]] w fun e w' => ∃ (v : Value) (ns : List Nat), e = .returned v ∧ ns.Pairwise (· < ·) ∧ (∀ m : Nat, m ∈ ns ↔ f (.int .i64 m) ≠ none) ∧ w'.ownsRow w.heap.size 3 1 v ns.length (i64s ns) ∧ (v = .slice none 0 0 ↔ ns = []) ∧ Below w.heap.size w w' := by
          simp only [List.any_cons, List.any_nil, Bool.or_false, Bool.or_eq_true] at hk
          rcases hk with hk | hk | hk
          · obtain rfl := Nat.eq_of_beq_eq_true hk
            exact sortg0 hK hf hle hcell
          · obtain rfl := Nat.eq_of_beq_eq_true hk
            exact sortg1 hK hf hle hcell
          · obtain rfl := Nat.eq_of_beq_eq_true hk
            exact sortg2 hK hf hle hcell
        refine runs_of_calls hN (Tryz.func30) rfl ?_
        refine hcall.mono ?_
        rintro e w' ⟨v, ns, rfl, hpw, hmem, hrow, hnil, hb⟩
        refine ⟨v, rfl, ?_⟩
        split at h
        · rename_i hs0
          cases h
          have : ns = [] := by
            apply List.eq_nil_iff_forall_not_mem.2
            intro z hz
            have := (mem_sortN l z).2 ((hfl z).1 ((hmem z).1 hz))
            rw [hs0] at this; cases this
          rw [hnil.2 this]
          exact out_lit hg hn hb _
        · rename_i hne
          cases hup : upN (sortN l) with
          | false => rw [hup] at h; cases h
          | true =>
            rw [hup] at h
            cases h
            have hns : ns = sortN l := strict_eq hpw (upN_pairwise hup) (fun z => by rw [hmem, hfl, mem_sortN])
            subst hns
            refine out_row hg hn hb hrow (fun h0 => hne (List.eq_nil_of_length_eq_zero h0)) ?_
            refine ⟨by simp [i64s], fun i p q hp hq => ?_⟩
            simp only [i64s, List.getElem?_map, Option.map_eq_some_iff] at hp hq
            obtain ⟨z, hz, rfl⟩ := hp
            obtain ⟨z', hz', rfl⟩ := hq
            rw [hz] at hz'; cases hz'
            exact .lit _
  · cases h

end Go.Proofs.YtagmkceblklgaaaGreat.Ex
