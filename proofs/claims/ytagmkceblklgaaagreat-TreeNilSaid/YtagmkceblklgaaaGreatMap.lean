/-
  A MAP IN MEMORY as a function from keys to values, of whatever element type. No program in sight.
-/
import Derived.Test.YtagmkceblklgaaaGreatOwn
import Derived.Maps.Own
import Derived.Maps.OwnSet
namespace Go.Proofs.YtagmkceblklgaaaGreat
open Go.RowKit Go.Maps Go.MapKept
open Go.ChangeMaps (notKey putKey delKey mem_insert_iff setBlock heap_setBlock_same heap_setBlock_other)
open Go.WideElems (Fit rd rg pl rd_key rd_val rg_of rd_stay)
open Go.WideShapes (sorted_perm)

/-- a value read as itself -/
def RV : Value → Option (DataW Value × List MemPlace) := fun v => some (.held v, [])

/-- the block b is a map of n keys; f: what it holds -/
def KMap (w : World) (P : Program) (kt : TypeId) (b : Nat) (f : Lit → Option Value) (n : Nat) : Prop :=
  ∃ es clock, w.heap[b]? = some (.map es clock) ∧ Fit P kt RV es clock ∧ es.size = n ∧ ∀ l v, f l = some v ↔ ∃ e ∈ es.toList, keyOf P kt e.key = some l ∧ e.val = v

variable {P : Program} {kt : TypeId} {w w' : World} {b n : Nat} {f : Lit → Option Value}

theorem KMap.kept {S : Nat → Prop} (h : KMap w P kt b f n) (hk : Keeps S w w') (hb : ¬ S b) : KMap w' P kt b f n := by
  obtain ⟨es, clock, h1, h2⟩ := h
  exact ⟨es, clock, hk.heap h1 hb, h2⟩
theorem KMap.lt (h : KMap w P kt b f n) : b < w.heap.size := by obtain ⟨es, clock, h1, _⟩ := h; exact lt_of_heap h1

theorem KMap.made (w : World) (P : Program) (kt : TypeId) : KMap (w.alloc (.map #[] 0)) P kt w.heap.size (fun _ => none) 0 :=
  ⟨#[], 0, heap_alloc_self w _, ⟨by simp, stamped_empty 0, by simp⟩, rfl, fun l v => by simp⟩

theorem rg_RV {e : MapEntry} {l : Lit} (h : keyOf P kt e.key = some l) : rg P kt RV e = (l, .held e.val) := by
  simp [rg, rd, h, RV]

/-- the pairs of a map's entries -/
theorem mem_pairs {es : Array MapEntry} {clock : Nat} (F : Fit P kt RV es clock) (l : Lit) (v : Value) :
    (l, DataW.held v) ∈ es.toList.map (rg P kt RV) ↔ ∃ e ∈ es.toList, keyOf P kt e.key = some l ∧ e.val = v := by
  constructor
  · intro h
    obtain ⟨e, he, hr⟩ := List.mem_map.1 h
    obtain ⟨y, hy⟩ := F.reads e he
    have hk := rd_key hy
    rw [rg_RV hk] at hr
    simp only [Prod.mk.injEq, DataW.held.injEq] at hr
    exact ⟨e, he, by rw [hk, hr.1], hr.2⟩
  · rintro ⟨e, he, h1, h2⟩
    exact List.mem_map.2 ⟨e, he, by rw [rg_RV h1, h2]⟩

theorem mem_foldr_insert {H : Type} (p : Lit × DataW H) (l : List (Lit × DataW H)) : p ∈ l.foldr DataW.insert [] ↔ p ∈ l := by
  induction l with
  | nil => simp
  | cons x l ih => simp only [List.foldr_cons]; rw [mem_insert_iff, ih]; simp

open Classical in
/-- a function turned at one place -/
noncomputable def upd (f : Lit → Option Value) (l : Lit) (v : Option Value) : Lit → Option Value := fun l' => if l' = l then v else f l'
theorem upd_same (f : Lit → Option Value) (l : Lit) (v : Option Value) : upd f l v l = v := by simp [upd]
theorem upd_ne (f : Lit → Option Value) {l l' : Lit} (v : Option Value) (h : l' ≠ l) : upd f l v l' = f l' := by simp [upd, h]

/-- 'v, ok := m[k]' and 'm[k]' -/
theorem KMap.look (h : KMap w P kt b f n) (K : Keyed P kt) {t e : TypeId} (ht : P.underlying t = some (.map kt e)) {z : Value} (hz : (zeroValue e).run P w = .ok z w) {key : Value} {l : Lit} (hkey : keyOf P kt key = some l) (c : Bool) :
    (f l = none → (Instr.lookup t (.map (some b)) key c).run P w = .ok (if c then .tuple #[z, .bool false] else z) w) ∧
    (∀ v, f l = some v → (Instr.lookup t (.map (some b)) key c).run P w = .ok (if c then .tuple #[v, .bool true] else v) w) := by
  obtain ⟨es, clock, hb, F, hn, hf⟩ := h
  rcases fit_look c K ht hz hb F hkey with ⟨hrun, hno, _⟩ | ⟨e0, y, he, hek, hrun, hR, _⟩
  · refine ⟨fun _ => hrun, fun v hv => ?_⟩
    obtain ⟨x, hx, hxk, _⟩ := (hf l v).1 hv
    exact absurd (K.inj hxk hkey) (hno x hx)
  · have hfl : f l = some e0.val := (hf l e0.val).2 ⟨e0, he, by rw [hek]; exact hkey, rfl⟩
    refine ⟨fun h => (by rw [hfl] at h; cases h), fun v hv => ?_⟩
    rw [hfl] at hv; cases hv; exact hrun

/-- 'm[k] = v' -/
theorem KMap.store (h : KMap w P kt b f n) (K : Keyed P kt) {t e : TypeId} (ht : P.underlying t = some (.map kt e)) (hn : n < maxLen) {key : Value} {l : Lit} (hkey : keyOf P kt key = some l) (v : Value) :
    ∃ w', (Instr.mapUpdate t (.map (some b)) key v).run P w = .ok () w' ∧ KMap w' P kt b (upd f l (some v)) (if (f l).isSome then n else n + 1) ∧ Keeps (· = b) w w' := by
  obtain ⟨es, clock, hb, F, hsz, hf⟩ := h
  obtain ⟨es', clock', hrun, F', hput, _, _, hmem⟩ := fit_store (R' := RV) (yv := (.held v, [])) K ht hb F (by omega) (fun _ _ _ _ h => h) hkey rfl
  have hKl : WideAt.IsKeyLit l := K.key hkey
  have hpair : ∀ l' u, (l', DataW.held u) ∈ es'.toList.map (rg P kt RV) ↔ (l' = l ∧ u = v) ∨ (l' ≠ l ∧ (l', DataW.held u) ∈ es.toList.map (rg P kt RV)) := by
    intro l' u
    rw [← mem_foldr_insert, hput]
    unfold putKey
    rw [mem_insert_iff, List.mem_filter, mem_foldr_insert, notKey_iff hKl]
    simp only [Prod.mk.injEq, DataW.held.injEq]
    exact ⟨fun h => h.imp id (fun h => ⟨h.2, h.1⟩), fun h => h.imp id (fun h => ⟨h.2, h.1⟩)⟩
  have hlen : es'.size = (if (f l).isSome then n else n + 1) := by
    have e1 : es'.size = ((es'.toList.map (rg P kt RV)).foldr DataW.insert []).length := by rw [length_sorted, List.length_map, Array.length_toList]
    rw [e1, hput]
    unfold putKey
    rw [length_insert]
    have hnd : ((es.toList.map (rg P kt RV)).foldr DataW.insert []).Pairwise (fun p q => p.1 ≠ q.1) := by
      have := fit_apart K F
      exact ((sorted_perm _).symm.pairwise_iff (fun {a b} (h : a.1 ≠ b.1) => h.symm)).1 this
    have hlen0 : ((es.toList.map (rg P kt RV)).foldr DataW.insert []).length = n := by rw [length_sorted]; simpa using hsz
    generalize hL : (es.toList.map (rg P kt RV)).foldr DataW.insert [] = L at *
    have hL' : ∀ l' u, (l', DataW.held u) ∈ L ↔ f l' = some u := fun l' u => by rw [← hL, mem_foldr_insert, mem_pairs F, hf]
    by_cases hfl : (f l).isSome
    · rw [if_pos hfl]
      obtain ⟨u, hu⟩ := Option.isSome_iff_exists.1 hfl
      have hm := (hL' l u).2 hu
      have : ∀ (M : List (Lit × DataW Value)), M.Pairwise (fun p q => p.1 ≠ q.1) → (l, DataW.held u) ∈ M → (M.filter (notKey l)).length + 1 = M.length := by
        intro M
        induction M with
        | nil => intro _ h; cases h
        | cons x M ih =>
          intro hp hm
          obtain ⟨hp1, hp2⟩ := List.pairwise_cons.1 hp
          rw [List.filter_cons]
          by_cases hx : x.1 = l
          · have : notKey l x = false := by
              rw [← Bool.not_eq_true]; intro h; exact (notKey_iff hKl).1 h hx
            rw [this]
            have hall : M.filter (notKey l) = M := List.filter_eq_self.2 (fun y hy => (notKey_iff hKl).2 (fun e => hp1 y hy (by rw [hx, e])))
            simp [hall]
          · have : notKey l x = true := (notKey_iff hKl).2 hx
            rw [this]
            have hm' : (l, DataW.held u) ∈ M := by
              rcases List.mem_cons.1 hm with h | h
              · exact absurd (by rw [← h]) hx
              · exact h
            simp [ih hp2 hm']
      have := this L hnd hm
      omega
    · rw [if_neg hfl]
      have hall : L.filter (notKey l) = L := List.filter_eq_self.2 (fun y hy => (notKey_iff hKl).2 (fun e => by
        have hy' : y ∈ es.toList.map (rg P kt RV) := by rw [← mem_foldr_insert, hL]; exact hy
        obtain ⟨e0, he0, hr0⟩ := List.mem_map.1 hy'
        obtain ⟨y0, hy0⟩ := F.reads e0 he0
        rw [rg_RV (rd_key hy0)] at hr0
        have : f l = some e0.val := (hf l e0.val).2 ⟨e0, he0, by rw [rd_key hy0, ← e, ← hr0], rfl⟩
        rw [this] at hfl; exact hfl rfl))
      rw [hall, hlen0]
  refine ⟨_, hrun, ⟨es', clock', heap_setBlock_same hb _, F', hlen, fun l' u => ?_⟩, ⟨rfl, rfl, rfl, by simp [setBlock], fun k hk hne => heap_setBlock_other hb _ hne⟩⟩
  rw [← mem_pairs F', hpair, mem_pairs F, ← hf]
  by_cases h : l' = l
  · rw [h, upd_same]
    constructor
    · intro e; cases e; exact .inl ⟨rfl, rfl⟩
    · rintro (⟨_, rfl⟩ | ⟨h2, _⟩)
      · rfl
      · exact absurd rfl h2
  · rw [upd_ne _ _ h]
    exact ⟨fun e => .inr ⟨h, e⟩, fun e => e.elim (fun e => absurd e.1 h) (fun e => e.2)⟩

/-- 'delete(m, k)' -/
theorem KMap.drop (h : KMap w P kt b f n) (K : Keyed P kt) {t e ty : TypeId} (ht : P.underlying t = some (.map kt e)) {key : Value} {l : Lit} (hkey : keyOf P kt key = some l) :
    ∃ w' n', (Builtin.delete_ #[t, kt] ty #[.map (some b), key]).run P w = .ok (.tuple #[]) w' ∧ KMap w' P kt b (upd f l none) n' ∧ n' ≤ n ∧ Keeps (· = b) w w' := by
  obtain ⟨es, clock, hb, F, hsz, hf⟩ := h
  obtain ⟨es', hrun, F', hle, hput, _⟩ := fit_drop (ty := ty) K ht hb F hkey
  have hKl : WideAt.IsKeyLit l := K.key hkey
  refine ⟨_, es'.size, hrun, ⟨es', clock, heap_setBlock_same hb _, F', rfl, fun l' u => ?_⟩, by omega, ⟨rfl, rfl, rfl, by simp [setBlock], fun k hk hne => heap_setBlock_other hb _ hne⟩⟩
  rw [← mem_pairs F', ← mem_foldr_insert, hput]
  unfold delKey
  rw [List.mem_filter, mem_foldr_insert, notKey_iff hKl, mem_pairs F, ← hf]
  by_cases h : l' = l
  · rw [h, upd_same]
    constructor
    · intro e; cases e
    · rintro ⟨_, h2⟩; exact absurd rfl h2
  · rw [upd_ne _ _ h]
    exact ⟨fun e => ⟨e, h⟩, fun e => e.1⟩

theorem KMap.len (h : KMap w P kt b f n) {t e : TypeId} (ht : P.underlying t = some (.map kt e)) (ty : TypeId) : (Builtin.len_ #[t] ty #[.map (some b)]).run P w = .ok (.int .i64 n) w := by
  obtain ⟨es, clock, hb, F, hsz, hf⟩ := h
  have hown : w.ownsMap P kt RV b n (.map ((es.toList.map (rg P kt RV)).foldr DataW.insert [])) := ⟨es, clock, hb, F, by omega, rfl⟩
  rw [hown.len ht ty]
  congr 3
  unfold Maps.size
  simp [length_sorted, hsz]

/-- as the library's contracts on keys want it -/
theorem KMap.owns (h : KMap w P kt b f n) : ∃ L : List (Lit × DataW Value), w.ownsMap P kt RV b n (.map L) ∧ L.length = n ∧ (∀ l v, (l, DataW.held v) ∈ L ↔ f l = some v) ∧ (∀ p ∈ L, ∃ v, p.2 = .held v) ∧ (∀ p ∈ L, ∃ k, keyOf P kt k = some p.1) := by
  obtain ⟨es, clock, hb, F, hsz, hf⟩ := h
  refine ⟨_, ⟨es, clock, hb, F, by omega, rfl⟩, by rw [length_sorted]; simpa using hsz, fun l v => by rw [mem_foldr_insert, mem_pairs F, hf], fun p hp => ?_, fun p hp => ?_⟩
  all_goals
    rw [mem_foldr_insert] at hp
    obtain ⟨e0, he0, hr0⟩ := List.mem_map.1 hp
    obtain ⟨y0, hy0⟩ := F.reads e0 he0
    rw [rg_RV (rd_key hy0)] at hr0
  · exact ⟨e0.val, by rw [← hr0]⟩
  · refine ⟨e0.key, ?_⟩
    have := rd_key hy0
    rw [← hr0]; exact this

end Go.Proofs.YtagmkceblklgaaaGreat
