/-
  A SLICE OF THE CALL's OWN, at whatever place of its block; 'append' onto it, of whatever source. No program in sight.
-/
import Derived.Test.YtagmkceblklgaaaGreatBase
import Derived.Deep.AppendSrc
namespace Go.Proofs.YtagmkceblklgaaaGreat
open Go.RowKit

/-- v is a slice of n elements of type e (size cells each), which hold xs; its block is all cells of that type, none frozen, and v may be written on behind its end -/
def OwnS (w : World) (e : TypeId) (size : Nat) (v : Value) (n : Nat) (xs : List Value) : Prop :=
  xs.length = n * size ∧ ((v = .slice none 0 0 ∧ n = 0) ∨
    ∃ g off cap cur, v = .slice (some ⟨g, off, none⟩) n cap ∧ w.heap[g]? = some (.cells cur e (0, 0)) ∧ n ≤ cap ∧ cap ≤ maxLen ∧ off + cap * size ≤ cur.size ∧ (cur.toList.drop off).take (n * size) = xs)

variable {w w' : World} {e : TypeId} {size n : Nat} {v : Value} {xs : List Value}

theorem OwnS.nil (w : World) (e : TypeId) (size : Nat) : OwnS w e size (.slice none 0 0) 0 [] := ⟨by simp, .inl ⟨rfl, rfl⟩⟩

theorem OwnS.of_owns {base : Nat} (h : w.ownsRow base e size v n xs) : OwnS w e size v n xs := by
  obtain ⟨h1, h2⟩ := h
  refine ⟨h1, ?_⟩
  rcases h2 with h2 | ⟨g, cap, cur, hv, hg, hh, hn, hm, hs, ht⟩
  · exact .inl h2
  · exact .inr ⟨g, 0, cap, cur, hv, hh, hn, hm, by omega, by simpa using ht⟩

theorem OwnS.kept {S : Nat → Prop} (h : OwnS w e size v n xs) (hk : Keeps S w w') (hv : ∀ b, v.ownBlock = some b → ¬ S b) : OwnS w' e size v n xs := by
  obtain ⟨h1, h2⟩ := h
  refine ⟨h1, ?_⟩
  rcases h2 with h2 | ⟨g, off, cap, cur, rfl, hh, r⟩
  · exact .inl h2
  · exact .inr ⟨g, off, cap, cur, rfl, hk.heap hh (hv g rfl), r⟩

theorem OwnS.lt (h : OwnS w e size v n xs) : ∀ b, v.ownBlock = some b → b < w.heap.size := by
  intro b hb
  rcases h.2 with ⟨rfl, _⟩ | ⟨g, off, cap, cur, rfl, hh, r⟩
  · simp [Value.ownBlock] at hb
  · simp [Value.ownBlock] at hb; subst hb; exact lt_of_heap hh

theorem OwnS.row (h : OwnS w e size v n xs) {g off c : Nat} (hv : v = .slice (some ⟨g, off, none⟩) n c) : RowAt w g off xs := by
  rcases h.2 with ⟨rfl, _⟩ | ⟨g', off', cap, cur, rfl, hh, hn, hm, hs, ht⟩
  · cases hv
  · cases hv; exact row_of_heap hh (by rw [h.1]; exact ht)

theorem OwnS.bys {l : Bytes} (h : OwnS w e 1 v l.length (u8s l)) : Bys w v l := by
  rcases h.2 with ⟨rfl, h2⟩ | ⟨g, off, cap, cur, rfl, hh, hn, hm, hs, ht⟩
  · exact .inl ⟨rfl, List.eq_nil_of_length_eq_zero h2⟩
  · exact .inr ⟨g, off, cap, rfl, hn, lt_of_heap hh, h.row rfl⟩

/-- what a source of bytes gives to append -/
theorem Src.bys {P : Program} {tx e' : TypeId} (hk : P.underlying tx = some (.slice e')) {l : Bytes} (h : Bys w v l) : Src P 1 tx v l.length (u8s l) w := by
  rcases h with ⟨rfl, rfl⟩ | ⟨b, off, cap, rfl, h1, h2, h3⟩
  · exact Src.ofNil w hk 0
  · refine Src.ofSlice w hk _ _ _ _ (by simp [u8s]) (fun j u hu => ?_) (fun u hu => ?_)
    · rw [Addr.add_lit]; exact h3 j u hu
    · obtain ⟨c, _, rfl⟩ := List.mem_map.1 hu; rfl

theorem Src.owns {P : Program} {tx e' : TypeId} (hk : P.underlying tx = some (.slice e')) (h : OwnS w e size v n xs) (h1 : ∀ u ∈ xs, u.oneCell' = true) : Src P size tx v n xs w := by
  have hr := @OwnS.row w e size n v xs h
  obtain ⟨hl, h2⟩ := h
  rcases h2 with ⟨rfl, rfl⟩ | ⟨g, off, cap, cur, rfl, hh, r⟩
  · obtain rfl : xs = [] := List.eq_nil_of_length_eq_zero (by simpa using hl)
    exact Src.ofNil w hk 0
  · exact Src.ofSlice w hk _ _ _ _ hl (fun j u hu => by rw [Addr.add_lit]; exact hr rfl j u hu) h1

section
variable {P : Program}

theorem run_append_S (t tx ty e : TypeId) (i : TypeInfo) (z : Value) (size bytes : Nat) (ht : P.underlying t = some (.slice e)) (hi : P.info? e = some i) (hz : i.zero = some z)
    (hsize : i.size = size) (hby : i.bytes = bytes) (hzs : z.cells.size = size)
    (v : Value) (n : Nat) (xs : List Value) (hown : OwnS w e size v n xs) (xv : Value) (m : Nat) (news : List Value) (hsrc : Src P size tx xv m news w)
    (h63 : n + m ≤ maxLen) (hbytes : (n + m) * bytes ≤ 140737488355328) :
    ∃ v' w', (Builtin.append_ #[t, tx] ty #[v, xv]).run P w = .ok v' w' ∧ OwnS w' e size v' (n + m) (xs ++ news) ∧ Keeps (fun k => v.ownBlock = some k) w w' ∧
      (∀ b, v'.ownBlock = some b → v.ownBlock = some b ∨ w.heap.size ≤ b) ∧ (v' = .slice none 0 0 ↔ v = .slice none 0 0 ∧ m = 0) := by
  subst hsize
  subst hby
  have hsmall : n + m ≤ 9223372036854775807 := by simp only [maxLen] at h63; omega
  have hl := hsrc.newsLen
  have hlen : (xs ++ news).length = (n + m) * i.size := by rw [List.length_append, hown.1, hl, Nat.add_mul]
  have grown : ∀ (old : Nat), old < n + m →
      OwnS (w.drew.alloc (.cells ((xs ++ news).toArray ++ Builtin.zeroCells z.cells (grownCap w (n + m) old e - (n + m))) e)) e i.size
        (.slice (some ⟨w.heap.size, 0, none⟩) (n + m) (grownCap w (n + m) old e)) (n + m) (xs ++ news) ∧
      Keeps (fun k => v.ownBlock = some k) w (w.drew.alloc (.cells ((xs ++ news).toArray ++ Builtin.zeroCells z.cells (grownCap w (n + m) old e - (n + m))) e)) := by
    intro old ho
    have hge := grownCap_ge w (n + m) old e
    have hcm : grownCap w (n + m) old e ≤ maxLen := grownCap_le_maxLen w (n + m) old e h63
    refine ⟨⟨hlen, .inr ⟨w.heap.size, 0, _, _, rfl, heap_alloc_new w.drew _, hge, hcm, ?_, ?_⟩⟩, (Keeps.drew w).trans (Keeps.alloc (S := fun k => v.ownBlock = some k) _ _) (fun _ h => .inl h)⟩
    · simp only [Array.size_append, List.size_toArray, size_zeroCells, hzs, hlen, ← Nat.add_mul, Nat.zero_add]
      exact Nat.mul_le_mul_right _ (by omega)
    · simp only [Array.toList_append, List.drop_zero]
      rw [← hlen]
      exact List.take_left
  have hgrow : ∀ (base : Option Addr) (cap : Nat), v = .slice base n cap → cap < n + m → (Builtin.firstCells i.size n (.slice base n cap)).run P w.drew = .ok xs.toArray w.drew →
      ∃ v' w', (Builtin.append_ #[t, tx] ty #[v, xv]).run P w = .ok v' w' ∧ OwnS w' e i.size v' (n + m) (xs ++ news) ∧ Keeps (fun k => v.ownBlock = some k) w w' ∧
      (∀ b, v'.ownBlock = some b → v.ownBlock = some b ∨ w.heap.size ≤ b) ∧ (v' = .slice none 0 0 ↔ v = .slice none 0 0 ∧ m = 0) := by
    intro base cap hv hlt hold
    have hr := run_append_grow_src (P := P) w t tx ty e i z ht hi hz base n cap xs hold xv m news hsrc hlt (by omega) (growslice_fits (by omega) hbytes)
    have hg := grown cap hlt
    refine ⟨_, _, by rw [hv]; exact hr, hg.1, hg.2, ?_, ?_⟩
    · intro b hb; simp [Value.ownBlock] at hb; omega
    · constructor
      · intro h; cases h
      · rintro ⟨h, rfl⟩
        rw [hv] at h
        cases h
        simp at hlt
  rcases hown.2 with ⟨hv, rfl⟩ | ⟨g, off, cap, cur, hv, hg, hnc, hcm, hcs, htake⟩
  · have hx : xs = [] := List.eq_nil_of_length_eq_zero (by simpa using hown.1)
    subst hx
    by_cases hm : m = 0
    · subst hm
      have hn : news = [] := List.eq_nil_of_length_eq_zero (by simpa using hl)
      subst hn
      subst hv
      refine ⟨.slice none 0 0, w, ?_, OwnS.nil w e i.size, Keeps.refl _ _, fun b hb => by simp [Value.ownBlock] at hb, by simp⟩
      have hc := hsrc.cells
      have hL := hsrc.len
      rcases hsrc.kind with ⟨e', hk⟩ | hk <;> simp [Builtin.append_, run_underlying ht, run_underlying hk, sizeOf, typeInfo, hi, hL, hc, storeCells]
    · exact hgrow none 0 hv (by omega) (run_firstCells_none w.drew i.size 0 0 0)
  · by_cases hroom : n + m ≤ cap
    · have hfit : off + n * i.size + news.length ≤ cur.size := by
        rw [hl, Nat.add_assoc, ← Nat.add_mul]
        have := Nat.mul_le_mul_right i.size hroom
        omega
      have hst := run_storeCells_at P g (off + n * i.size) e news 0 cur w hg (by simpa using hfit) hsrc.one
      simp only [Nat.add_zero] at hst
      have hr : (Builtin.append_ #[t, tx] ty #[v, xv]).run P w = .ok (.slice (some ⟨g, off, none⟩) (n + m) cap) (w.setRow g (cur.toList.take (off + n * i.size) ++ news ++ cur.toList.drop (off + n * i.size + news.length)).toArray) := by
        rw [hv]
        rcases hsrc.kind with ⟨e', hk⟩ | hk <;> simp [Builtin.append_, run_underlying ht, run_underlying hk, sizeOf, typeInfo, hi, hsrc.len, hroom, hsrc.cells, Addr.add_lit, hst]
      have hoff : off ≤ cur.toList.length := by simp; omega
      refine ⟨_, _, hr, ⟨hlen, .inr ⟨g, off, cap, _, rfl, setRow_heap w g cur _ e _ hg, hroom, hcm, ?_, ?_⟩⟩, ⟨rfl, rfl, rfl, by simp, fun k _ hk => setRow_other w g k _ (fun e => hk (by rw [hv]; simp [Value.ownBlock, e]))⟩, ?_, ?_⟩
      · simp only [List.size_toArray, List.length_append, List.length_take, List.length_drop, Array.length_toList]
        omega
      · have e1 : (cur.toList.take (off + n * i.size)).drop off = xs := by
          rw [List.drop_take]
          rw [show off + n * i.size - off = n * i.size by omega]; exact htake
        rw [List.append_assoc, List.drop_append_of_le_length (by rw [List.length_take]; simp; omega), e1, ← List.append_assoc, ← hlen]
        exact List.take_left
      · intro b hb; left; rw [hv]; exact hb
      · rw [hv]; simp
    · refine hgrow (some ⟨g, off, none⟩) cap hv (by omega) ?_
      refine run_firstCells_some w.drew i.size n _ _ _ xs hown.1 (fun j u hu => ?_)
      rw [Addr.add_lit]; exact hown.row hv j u hu

theorem OwnS.form (h : OwnS w e size v n xs) (hv : v ≠ .slice none 0 0) : ∃ g off cap, v = .slice (some ⟨g, off, none⟩) n cap := by
  rcases h.2 with ⟨h, _⟩ | ⟨g, off, cap, cur, h, _⟩
  · exact absurd h hv
  · exact ⟨g, off, cap, h⟩

/-- the append at its operation: something is appended, or what it is appended to is not nil: the new value comes written out -/
theorem wp_append_S {o : Oper} {a : Act} {K : Act → World → Prop} {Q : Exit → Act → World → Prop} (s x : Operand) (t tx : TypeId)
    (ho : o.op = .call { callee := .builtin .append, args := #[s, x], argTypes := #[t, tx] })
    (e : TypeId) (i : TypeInfo) (z : Value) (size bytes : Nat) (ht : P.underlying t = some (.slice e)) (hi : P.info? e = some i) (hz : i.zero = some z)
    (hsize : i.size = size) (hby : i.bytes = bytes) (hzs : z.cells.size = size)
    (v : Value) (n : Nat) (xs : List Value) (hs : a.eval s = v) (hown : OwnS w e size v n xs)
    (xv : Value) (m : Nat) (news : List Value) (hx : a.eval x = xv) (hsrc : Src P size tx xv m news w)
    (hm : 0 < m ∨ v ≠ .slice none 0 0) (h63 : n + m ≤ maxLen) (hbytes : (n + m) * bytes ≤ 140737488355328)
    (h : ∀ g off cap w', OwnS w' e size (.slice (some ⟨g, off, none⟩) (n + m) cap) (n + m) (xs ++ news) → Keeps (fun k => v.ownBlock = some k) w w' → (v.ownBlock = some g ∨ w.heap.size ≤ g) →
      K (a.put o.dst (.slice (some ⟨g, off, none⟩) (n + m) cap)) w') : o.wp P a w K Q := by
  obtain ⟨v', w', hr, h2, h3, h4, h5⟩ := run_append_S t tx o.type e i z size bytes ht hi hz hsize hby hzs v n xs hown xv m news hsrc h63 hbytes
  obtain ⟨g, off, cap, rfl⟩ := h2.form (fun hn => by
    obtain ⟨h6, h7⟩ := h5.1 hn
    rcases hm with hm | hm
    · omega
    · exact hm h6)
  unfold Oper.wp execOp
  simp only [ho, resolve, invoke, builtin, Sem.run_bind, Sem.run_pure, Result.andThen_ok, List.map_toArray, List.map_cons, List.map_nil, hs, hx, hr]
  exact h g off cap w' h2 h3 (h4 g rfl)

theorem wpList_append_S {ops : Array Oper} {rest : List Oper} {o : Oper} {a : Act} {Q : Exit → Act → World → Prop} (hgd : o.guard = none) (s x : Operand) (t tx : TypeId)
    (ho : o.op = .call { callee := .builtin .append, args := #[s, x], argTypes := #[t, tx] })
    (e : TypeId) (i : TypeInfo) (z : Value) (size bytes : Nat) (ht : P.underlying t = some (.slice e)) (hi : P.info? e = some i) (hz : i.zero = some z)
    (hsize : i.size = size) (hby : i.bytes = bytes) (hzs : z.cells.size = size)
    (v : Value) (n : Nat) (xs : List Value) (hs : a.eval s = v) (hown : OwnS w e size v n xs)
    (xv : Value) (m : Nat) (news : List Value) (hx : a.eval x = xv) (hsrc : Src P size tx xv m news w)
    (hm : 0 < m ∨ v ≠ .slice none 0 0) (h63 : n + m ≤ maxLen) (hbytes : (n + m) * bytes ≤ 140737488355328)
    (h : ∀ g off cap w', OwnS w' e size (.slice (some ⟨g, off, none⟩) (n + m) cap) (n + m) (xs ++ news) → Keeps (fun k => v.ownBlock = some k) w w' → (v.ownBlock = some g ∨ w.heap.size ≤ g) →
      wpList P ops Q rest (a.put o.dst (.slice (some ⟨g, off, none⟩) (n + m) cap)) w') : wpList P ops Q (o :: rest) a w :=
  wpList_plain hgd fun K hK => wp_append_S s x t tx ho e i z size bytes ht hi hz hsize hby hzs v n xs hs hown xv m news hx hsrc hm h63 hbytes fun g off cap w' h2 h3 h4 => hK _ _ (h g off cap w' h2 h3 h4)

/-- .. whatever is appended -/
theorem wpList_append_S0 {ops : Array Oper} {rest : List Oper} {o : Oper} {a : Act} {Q : Exit → Act → World → Prop} (hgd : o.guard = none) (s x : Operand) (t tx : TypeId)
    (ho : o.op = .call { callee := .builtin .append, args := #[s, x], argTypes := #[t, tx] })
    (e : TypeId) (i : TypeInfo) (z : Value) (size bytes : Nat) (ht : P.underlying t = some (.slice e)) (hi : P.info? e = some i) (hz : i.zero = some z)
    (hsize : i.size = size) (hby : i.bytes = bytes) (hzs : z.cells.size = size)
    (v : Value) (n : Nat) (xs : List Value) (hs : a.eval s = v) (hown : OwnS w e size v n xs)
    (xv : Value) (m : Nat) (news : List Value) (hx : a.eval x = xv) (hsrc : Src P size tx xv m news w)
    (h63 : n + m ≤ maxLen) (hbytes : (n + m) * bytes ≤ 140737488355328)
    (h : ∀ v' w', OwnS w' e size v' (n + m) (xs ++ news) → Keeps (fun k => v.ownBlock = some k) w w' → (∀ b, v'.ownBlock = some b → v.ownBlock = some b ∨ w.heap.size ≤ b) →
      (v' = .slice none 0 0 ↔ v = .slice none 0 0 ∧ m = 0) → wpList P ops Q rest (a.put o.dst v') w') : wpList P ops Q (o :: rest) a w := by
  refine wpList_plain hgd fun K hK => ?_
  obtain ⟨v', w', hr, h2, h3, h4, h5⟩ := run_append_S t tx o.type e i z size bytes ht hi hz hsize hby hzs v n xs hown xv m news hsrc h63 hbytes
  unfold Oper.wp execOp
  simp only [ho, resolve, invoke, builtin, Sem.run_bind, Sem.run_pure, Result.andThen_ok, List.map_toArray, List.map_cons, List.map_nil, hs, hx, hr]
  exact hK _ _ (h v' w' h2 h3 h4 h5)

theorem step_append_S {ops : Array Oper} {o : Oper} {a : Act} {K : Act → World → Prop} {Q : Exit → Act → World → Prop} {E : Prop} (hgd : o.guard = none) (s x : Operand) (t tx : TypeId)
    (ho : o.op = .call { callee := .builtin .append, args := #[s, x], argTypes := #[t, tx] })
    (e : TypeId) (i : TypeInfo) (z : Value) (size bytes : Nat) (ht : P.underlying t = some (.slice e)) (hi : P.info? e = some i) (hz : i.zero = some z)
    (hsize : i.size = size) (hby : i.bytes = bytes) (hzs : z.cells.size = size)
    (v : Value) (n : Nat) (xs : List Value) (hs : a.eval s = v) (hown : OwnS w e size v n xs)
    (xv : Value) (m : Nat) (news : List Value) (hx : a.eval x = xv) (hsrc : Src P size tx xv m news w)
    (hm : 0 < m ∨ v ≠ .slice none 0 0) (h63 : n + m ≤ maxLen) (hbytes : (n + m) * bytes ≤ 140737488355328)
    (h : ∀ g off cap w', OwnS w' e size (.slice (some ⟨g, off, none⟩) (n + m) cap) (n + m) (xs ++ news) → Keeps (fun k => v.ownBlock = some k) w w' → (v.ownBlock = some g ∨ w.heap.size ≤ g) →
      K (a.put o.dst (.slice (some ⟨g, off, none⟩) (n + m) cap)) w') :
    if Region.wanted o (yielded ops a.tmps) = true then Oper.wp P o a w K Q else E := by
  have hw : Region.wanted o (yielded ops a.tmps) = true := by simp [Region.wanted, hgd]
  rw [if_pos hw]
  exact wp_append_S s x t tx ho e i z size bytes ht hi hz hsize hby hzs v n xs hs hown xv m news hx hsrc hm h63 hbytes h

/-- the cells of a block that was just made, as a source -/
theorem Src.block {tx e' : TypeId} (hk : P.underlying tx = some (.slice e')) {b size m c : Nat} {cs : List Value} {ca : Array Value} {t : TypeId} (hb : w.heap[b]? = some (.cells ca t (0, 0))) (hc : ca = cs.toArray) (hl : cs.length = m * size) (h1 : ∀ u ∈ cs, u.oneCell' = true) :
    Src P size tx (.slice (some ⟨b, 0, none⟩) m c) m cs w := by
  subst hc
  refine Src.ofSlice w hk _ _ _ _ hl (fun j u hu => ?_) h1
  rw [Addr.add_lit, Nat.zero_add, cell_of_heap hb]
  simpa using hu
end

/-- string(b) -/
theorem conv_string {P : Program} {w : World} {src dst e : TypeId} (hs : P.underlying src = some (.slice e)) (he : P.underlying e = some (.int .u8)) (hd : P.underlying dst = some .string) {b off n cap : Nat} {l : Bytes} (hr : RowAt w b off (u8s l)) (hn : l.length = n) :
    (convert src dst (.slice (some ⟨b, off, none⟩) n cap)).run P w = .ok (.string ⟨l.toArray⟩) w := by
  rw [run_convert_bytes_arg w src e hs he b off n cap (l.map fun c => (c.toNat : Int)) (by simpa using hn) (fun i hi => ?_) dst hd]
  · congr 2
    simp only [strOfNums, List.map_map]
    have : (fun n : Int => UInt8.ofNat n.toNat) ∘ (fun c : UInt8 => (c.toNat : Int)) = id := by funext c; simp
    rw [this, List.map_id]
  · subst hn
    have := hr.u8 hi
    rw [this]
    simp [hi]
end Go.Proofs.YtagmkceblklgaaaGreat
