/-
  THE OPERATIONS THAT TURN MEMORY ARE THE MODEL's (their proofs, third part: bytes, append, copy; then all of them).
  Conditions: the values that are not known are of one cell.
-/
import Derived.Test.YtagmkceblklgaaaGreatEx9
namespace Go.Proofs.YtagmkceblklgaaaGreat.Ex
section
variable {P : Program} {ρ : Nat → Option Spot} {ω : Env} {A : St} {w : World} {ev : Operand → Option AV} {e : Operand → Value}

theorem push_modify (h : Array Obj) (o : Obj) (f : Obj → Obj) : (h.push o).modify h.size f = h.push (f o) := by
  apply Array.ext_getElem?
  intro i
  rw [Array.getElem?_modify, Array.getElem?_push, Array.getElem?_push]
  by_cases hi : h.size = i
  · subst hi; simp
  · simp [hi, Ne.symm hi]

theorem ev_drew_add {ρ' : Nat → Option Spot} {g' : Nat → Option Blk} {w' : World} (n : Nat) (h : Ev ρ A.mem.get { w with drawn := n } ρ' g' w') : Ev ρ A.mem.get w ρ' g' w' := (Ev.drew n).trans h

theorem hBytes_ok (hg : Rel ρ ω A.mem.get w) (hn : Nm ρ A.next) (hev : Evs ρ ω ev e) {src dst : TypeId} {y : Operand} {x : AV} {A' : St} (h : hBytes P ev A src dst y = some (x, A')) :
    ∃ v w', (convert src dst (e y)).run P w = .ok v w' ∧ HOut ρ ω A w x A' v w' := by
  simp only [hBytes, Option.bind_eq_some_iff] at h
  obtain ⟨sd, hsd, dd, hdd, el, hel, ed, hed, h⟩ := h
  cases hb : (isStr sd && isU8 ed) with
  | false => simp only [hb] at h; cases h
  | true =>
    simp only [hb, cond_true, Option.bind_eq_some_iff] at h
    simp only [Bool.and_eq_true] at hb
    obtain ⟨v, hv, h⟩ := h
    split at h
    · rename_i s
      cases h
      rw [toSlice_eq hel] at hdd
      rw [isStr_eq hb.1] at hsd
      rw [isU8_eq hb.2] at hed
      have hr1 := det_run hsd w
      have hr2 := det_run hdd w
      have hr3 := det_run hed w
      have he := (hev _ _ hv).lit_inv
      obtain ⟨cap, hcap, hch⟩ : ∃ cap, s.size ≤ cap ∧ (choose (.appendCap s.size 0 el)).run P w = .ok cap { w with drawn := w.drawn + 1 } :=
        ⟨(Question.appendCap s.size 0 el).cut (w.tape w.drawn (.appendCap s.size 0 el)), by simp [Question.cut], by simp [choose, Sem.run, Question.forced]⟩
      have hdl : s.data.size = s.size := rfl
      let cs : Array Value := s.data.map (fun b => Value.int .u8 b.toNat) ++ Array.replicate (cap - s.size) (.int .u8 0)
      have hcsz : cs.size = cap := by simp [cs, hdl]; omega
      obtain ⟨ρ', q1, _, q2, q3, q4⟩ := add_ok (w := { w with drawn := w.drawn + 1 }) (hg.drew _) hn (.cells (s.data.toList.map fun b => .lit (.int .u8 b.toNat))) (.cells cs el (cs.size, cs.size + 1)) ⟨w.heap.size, 0, cs.size⟩ rfl
        (BR.row (s.data.toList.map fun b => Value.int .u8 b.toNat) (List.replicate (cap - s.size) (.int .u8 0)) (by have := RL.lits (ρ := ρ) (ω := ω) (s.data.toList.map fun b => Value.int .u8 b.toNat); rw [List.map_map] at this; exact this) (by simp [cs]) (.inr (Nat.le_refl _)))
      refine ⟨.slice (some ⟨w.heap.size, 0, none⟩) s.size cap, _, ?_, ρ', .sl (s := ⟨w.heap.size, 0, cs.size⟩) q1 (Nat.le_refl _) hcap ⟨rfl, rfl⟩ (fun _ => ⟨rfl, by simp [hcsz]⟩) (fun h => by cases h), q2, q3, ev_drew_add _ q4⟩
      have hms : ∀ (b : Nat) (W : World) (n : Nat) (t : TypeId), W.shape? b = some (t, n) → n ≠ 0 ∨ True → (markStringish ⟨b, 0, none⟩).run P W = .ok () (W.freeze ⟨b, n, none⟩ 1) := by
        intro b W n t hs _
        simp [markStringish, shape, freeze, Sem.run, hs]
      simp only [convert, Sem.run_bind, hr1, hr2, Result.andThen, he, hr3, Conv.stringToBytes, hch, run_newRow']
      rw [hms w.heap.size _ cs.size el (by simp [World.shape?, cs]) (.inr trivial)]
      simp only [Sem.run_pure]
      congr 1
      simp only [World.freeze, Nat.one_ne_zero, if_false]
      congr 1
      rw [push_modify]
      simp [cs]
    · cases h

theorem shape_of {b : Nat} {cs : Array Value} {t : TypeId} {fr : Nat × Nat} (h : w.heap[b]? = some (.cells cs t fr)) : w.shape? b = some (t, cs.size) := by simp [World.shape?, h]

theorem hSame_ok (hg : Rel ρ ω A.mem.get w) (hn : Nm ρ A.next) (hev : Evs ρ ω ev e) {src dst : TypeId} {y : Operand} {x : AV} {A' : St} (h : hSame P ev A src dst y = some (x, A')) :
    ∃ v w', (convert src dst (e y)).run P w = .ok v w' ∧ HOut ρ ω A w x A' v w' := by
  simp only [hSame, Option.bind_eq_some_iff] at h
  obtain ⟨sd, hsd, dd, hdd, el, hel, ed, hed, v, hv, s, hs, B, hB, c, hc, h⟩ := h
  cases hb : (Nat.beq src dst && isU8 ed && (toSlice sd).isSome) with
  | false => simp only [hb] at h; cases h
  | true =>
    simp only [hb, cond_true] at h
    cases h
    simp only [Bool.and_eq_true, Nat.beq_eq] at hb
    obtain ⟨⟨rfl, hu8⟩, hsl⟩ := hb
    obtain ⟨se, hse⟩ := Option.isSome_iff_exists.1 hsl
    rw [toSlice_eq hel] at hdd
    rw [toSlice_eq hse] at hsd
    rw [isU8_eq hu8] at hed
    have hee : se = el := by have := hsd.symm.trans hdd; cases this; rfl
    subst hee
    have hr1 := det_run hsd w
    have hr2 := det_run hdd w
    have hr3 := det_run hed w
    have hr := hev _ _ hv
    rw [AV.toSl_eq hs] at hr
    obtain ⟨s', a, cap, hs', he, _, _, hsp, _⟩ := hr.sl_inv
    obtain ⟨cs, t', fr, hh, hsz, hlen, hfr, hcell⟩ := hg.cells hB hc hs'
    obtain ⟨ab, ao, asp⟩ := a
    obtain ⟨hsp1, hsp2⟩ := hsp
    simp only at hsp1 hsp2
    subst hsp1; subst hsp2
    have hfz : ∃ fr', (fr'.1 = fr'.2 ∨ cs.size ≤ fr'.1) ∧ w.freeze ⟨s'.block, cs.size, none⟩ 1 = { w with heap := w.heap.setIfInBounds s'.block (.cells cs t' fr') } := by
      refine ⟨if fr.1 == fr.2 then (cs.size, cs.size + 1) else (min fr.1 cs.size, max fr.2 (cs.size + 1)), ?_, ?_⟩
      · split
        · exact .inr (Nat.le_refl _)
        · rename_i hne
          rcases hfr with h | h
          · exact absurd h (by simpa using hne)
          · right; simp; omega
      · simp only [World.freeze, Nat.one_ne_zero, if_false]
        congr 1
        apply Array.ext_getElem?
        intro i
        rw [Array.getElem?_modify, Array.getElem?_setIfInBounds]
        by_cases hi : s'.block = i
        · subst hi
          obtain ⟨hlt, heq⟩ := Array.getElem?_eq_some_iff.1 hh
          simp [hlt, heq]
        · simp [hi]
    obtain ⟨fr', hfr', hfz⟩ := hfz
    have hBR : BR ρ ω s' (.cells c) (.cells cs t' fr') := .cells ⟨hsz, hg.base hB hc ‹_›⟩ hlen hfr' hcell
    have hB' := hB
    rw [Blk.toCells_eq hc] at hB'
    obtain ⟨h1, h2⟩ := hg.turned s.b _ _ _ s' hB' hs' hBR
    have hid : (fun b => if b = s.b then some (Blk.cells c) else A.mem.get b) = A.mem.get := by
      funext b; split
      · subst_vars; exact hB'.symm
      · rfl
    rw [hid] at h1 h2
    refine ⟨.slice (some ⟨s'.block, ao, none⟩) s.len cap, _, ?_, ρ, by rw [AV.toSl_eq hs, ← he]; exact hr, h1, Nn.refl hn, h2⟩
    rw [← hfz]
    have hms : (markStringish ⟨s'.block, ao, none⟩).run P w = .ok () (w.freeze ⟨s'.block, cs.size, none⟩ 1) := by
      simp [markStringish, shape, freeze, Sem.run, shape_of hh]
    simp [convert, hr1, hr2, he, hr3, hms]

/-- what is appended or copied -/
theorem src_ok (hg : Rel ρ ω A.mem.get w) {n k : Nat} {x : AV} {v : Value} {xs : List AV} (hx : R ρ ω x v) (h : srcCells A n x = some (k, xs)) :
    xs.length = k * n ∧ (∀ W : World, (Builtin.lenOf v).run P W = .ok k W) ∧ ∀ m, m ≤ k → ∃ vs, (∀ W : World, W.heap = w.heap → (Builtin.firstCells n m v).run P W = .ok vs W) ∧ RL ρ ω (xs.take (m * n)) vs.toList := by
  unfold srcCells at h
  split at h
  · cases h
    cases hx
    exact ⟨by simp, fun W => by simp [Builtin.lenOf], fun m _ => ⟨#[], fun W _ => by simp [Builtin.firstCells], by simp; exact .nil⟩⟩
  · rename_i s
    cases hb : Nat.beq n 1 with
    | false => rw [hb] at h; cases h
    | true =>
      rw [hb] at h; cases h
      cases hx
      have hn1 : n = 1 := by simpa using hb
      subst hn1
      have hdl : s.data.toList.length = s.size := Array.length_toList
      refine ⟨by rw [List.length_map, hdl]; omega, fun W => rfl, fun m hm => ⟨(s.extract 0 m).data.map fun b => Value.int .u8 b.toNat, fun W _ => rfl, ?_⟩⟩
      have := (RL.lits (ρ := ρ) (ω := ω) (s.data.toList.map fun b => Value.int .u8 b.toNat)).take m
      have e1 : ((s.extract 0 m).data.map fun b => Value.int .u8 b.toNat).toList = (s.data.toList.map fun b => Value.int .u8 b.toNat).take m := by
        simp [List.map_take]
      rw [e1]
      rw [List.map_map] at this
      rw [Nat.mul_one]
      exact this
  · rename_i b off len size lo ex
    obtain ⟨s', a, cap, hs', he, h1, h2, _, ha, _⟩ := hx.sl_inv
    subst he
    cases hb : Nat.beq len 0 with
    | true =>
      rw [hb] at h; cases h
      have : len = 0 := by simpa using hb
      subst this
      exact ⟨by simp, fun W => by simp [Builtin.lenOf], fun m hm => by
        obtain rfl : m = 0 := by omega
        exact ⟨#[], fun W _ => by simp [Builtin.firstCells, loadCells, loadCellsFrom], by simp; exact .nil⟩⟩
    | false =>
      have hl0 : len ≠ 0 := by intro e; subst e; simp at hb
      rw [hb] at h
      simp only [cond_false, Option.bind_eq_some_iff] at h
      obtain ⟨B, hB, c, hc, h⟩ := h
      cases hle : Nat.ble (off + len * n) c.length with
      | false => rw [hle] at h; cases h
      | true =>
        rw [hle] at h; cases h
        have hle' := Nat.le_of_ble_eq_true hle
        obtain ⟨rfl, _⟩ := ha (by omega)
        obtain ⟨cs, t', fr, hh, hsz, hlen, hfr, hcell⟩ := hg.cells hB hc hs'
        refine ⟨by simp; omega, fun W => by simp [Builtin.lenOf], fun m hm => ?_⟩
        have hmn := Nat.mul_le_mul_right n hm
        refine ⟨((List.range (m * n)).map fun j => cs.getD (s'.base + off + j) undef).toArray, fun W hW => ?_, ?_⟩
        · have hhW : W.heap[s'.block]? = some (.cells cs t' fr) := by rw [hW]; exact hh
          simp only [Builtin.firstCells]
          exact run_loadCells (P := P) W ⟨s'.block, s'.base + off, none⟩ (m * n) (fun j => cs.getD (s'.base + off + j) undef) (fun j hj => by
            rw [Addr.add_none, cell_of hhW]
            obtain ⟨u, hu, _⟩ := hcell (off + j) _ (List.getElem?_eq_getElem (by omega))
            rw [show s'.base + (off + j) = s'.base + off + j by omega] at hu
            simp [hu])
        · rw [List.take_take, Nat.min_eq_left hmn]
          exact cells_range (ρ := ρ) (ω := ω) hcell (by omega)
  · cases h

set_option maxHeartbeats 1000000 in
/-- append where there is room -/
theorem append_in {t u ty el : TypeId} {n : Nat} {ud : TypeDesc} (hrt : (underlying t).run P w = .ok (.slice el) w) (hru : (underlying u).run P w = .ok ud w) (hud : okSrc ud = true) (hsz : (sizeOf el).run P w = .ok n w)
    {a : Addr} {len cap k : Nat} {x : Value} {vs : Array Value} (hlen : (Builtin.lenOf x).run P w = .ok k w) (hfc : (Builtin.firstCells n k x).run P w = .ok vs w) (hfit : len + k ≤ cap)
    {w' : World} (hst : (storeCells (a.add (len * n)) vs.toList).run P w = .ok () w') :
    (Builtin.append_ #[t, u] ty #[.slice (some a) len cap, x]).run P w = .ok (.slice (some a) (len + k) cap) w' := by
  cases ud <;> simp [okSrc] at hud <;> simp [Builtin.append_, hrt, hsz, hru, hlen, hfit, hfc, hst]

set_option maxHeartbeats 1000000 in
/-- append of nothing -/
theorem append_none {t u ty el : TypeId} {n : Nat} {ud : TypeDesc} (hrt : (underlying t).run P w = .ok (.slice el) w) (hru : (underlying u).run P w = .ok ud w) (hud : okSrc ud = true) (hsz : (sizeOf el).run P w = .ok n w)
    {a : Option Addr} {len cap : Nat} {x : Value} (hlen : (Builtin.lenOf x).run P w = .ok 0 w) (hfc : (Builtin.firstCells n 0 x).run P w = .ok #[] w) (hfit : len ≤ cap) :
    (Builtin.append_ #[t, u] ty #[.slice a len cap, x]).run P w = .ok (.slice a len cap) w := by
  cases ud <;> simp [okSrc] at hud <;> cases a <;> simp [Builtin.append_, hrt, hsz, hru, hlen, hfit, hfc, storeCells]

set_option maxHeartbeats 1000000 in
/-- append where there is no room -/
theorem append_out {t u ty el : TypeId} {n : Nat} {ud : TypeDesc} {z : Value} {i : TypeInfo} (hrt : (underlying t).run P w = .ok (.slice el) w) (hru : (underlying u).run P w = .ok ud w) (hud : okSrc ud = true) (hsz : (sizeOf el).run P w = .ok n w)
    (hz : (zeroValue el).run P w.drew = .ok z w.drew) (hi : (typeInfo el).run P w = .ok i w) (hi' : (typeInfo el).run P w.drew = .ok i w.drew) (hb : i.bytes ≤ 4096)
    {a : Option Addr} {len cap k : Nat} {x : Value} {os vs : Array Value} (hlen : (Builtin.lenOf x).run P w = .ok k w) (hfo : (Builtin.firstCells n len (.slice a len cap)).run P w.drew = .ok os w.drew)
    (hfc : (Builtin.firstCells n k x).run P w.drew = .ok vs w.drew) (hfit : cap < len + k) (hsmall : len + k ≤ 33554432) :
    ∃ nc, len + k ≤ nc ∧ (Builtin.append_ #[t, u] ty #[.slice a len cap, x]).run P w = .ok (.slice (some ⟨w.heap.size, 0, none⟩) (len + k) nc)
      (w.drew.alloc (.cells (os ++ vs ++ Builtin.zeroCells z.cells (nc - (len + k))) el)) := by
  have h2 : ¬ (len + k ≤ cap) := by omega
  have h3 : ¬ (9223372036854775807 < ((len : Int) + (k : Int))) := by omega
  have h4 : ¬ (281474976710656 < Builtin.nextslicecap (len + k) cap * i.bytes) := by
    have := growslice_fits (need := len + k) (old := cap) (bytes := i.bytes) hfit (by
      have : (len + k) * i.bytes ≤ 33554432 * 4096 := Nat.mul_le_mul hsmall hb
      omega)
    omega
  refine ⟨grownCap w (len + k) cap el, by simp [grownCap, Question.cut], ?_⟩
  cases ud <;> simp [okSrc] at hud <;> simp [Builtin.append_, hrt, hsz, hru, hlen, h2, hi, h3, h4, Question.forced, hfo, hfc, hz, hi', newRow, grownCap]

theorem drew_eq : w.drew = { w with drawn := w.drawn + 1 } := rfl
theorem alloc_eq (W : World) (o : Obj) : W.alloc o = { W with heap := W.heap.push o } := rfl

/-- a block taken up by another name: the grown slice of an append whose room is not known -/
theorem renamed_ok (hg : Rel ρ ω A.mem.get w) (hn : Nm ρ A.next) {b off : Nat} {c c' : List AV} {s : Spot} {cs : Array Value} {t : TypeId} {fr : Nat × Nat} (hb : A.mem.get b = some (.cells c)) (hs : ρ b = some s) (hoff : off ≤ s.room)
    (hB : BR ρ ω ⟨s.block, s.base + off, s.room - off⟩ (.cells c') (.cells cs t fr)) :
    ∃ ρ', ρ' A.next = some ⟨s.block, s.base + off, s.room - off⟩ ∧ Le ρ ρ' ∧ Rel ρ' ω ((A.put b none).add (.cells c')).mem.get { w with heap := w.heap.setIfInBounds s.block (.cells cs t fr) } ∧ Nn ρ A.next ρ' ((A.put b none).add (.cells c')).next ∧
      Ev ρ A.mem.get w ρ' ((A.put b none).add (.cells c')).mem.get { w with heap := w.heap.setIfInBounds s.block (.cells cs t fr) } := by
  obtain ⟨s', o', hs', hh, _⟩ := hg.blk b _ hb
  rw [hs] at hs'; cases hs'
  have hlt := lt_of_heap hh
  have hbn : b < A.next := hn b s hs
  have hg' : ((A.put b none).add (.cells c')).mem.get = fun x => if x = A.next then some (.cells c') else if x = b then none else A.mem.get x := by
    rw [add_get, St.put_next, put_get]
  have hle : Le ρ (fun x => if x = A.next then some ⟨s.block, s.base + off, s.room - off⟩ else ρ x) := by
    intro x u hx
    have := hn x u hx
    have : x ≠ A.next := by omega
    simp [this, hx]
  have hset : ∀ i, i ≠ s.block → (w.heap.setIfInBounds s.block (.cells cs t fr))[i]? = w.heap[i]? := fun i hi => by
    rw [Array.getElem?_setIfInBounds, if_neg (fun e => hi e.symm)]
  have hns := hg.new b _ s hb hs
  refine ⟨_, by simp, hle, ⟨fun x C e => ?_, fun x y C D u v e e' r r' q => ?_, by have := hg.size; simp; omega, fun i hi => by rw [← hg.old i hi]; exact hset i (by omega), fun x C u e r => ?_⟩, ⟨by rw [St.add_next, St.put_next]; exact Nat.le_succ _, fun x hx => if_neg (by omega), fun x u hx => ?_⟩, ⟨hle, by simp, fun i hi hno => hset i (fun e => hno b _ s hb hs e.symm), fun x C u e r hl => ?_, rfl, rfl, rfl⟩⟩
  · rw [hg'] at e
    by_cases hx : x = A.next
    · simp only [hx, if_true] at e; cases e
      exact ⟨_, _, by simp [hx], by show (w.heap.setIfInBounds s.block _)[s.block]? = _; rw [Array.getElem?_setIfInBounds]; simp [hlt], hB.mono hle⟩
    · simp only [hx, if_false] at e
      by_cases hxb : x = b
      · simp [hxb] at e
      · simp only [hxb, if_false] at e
        obtain ⟨u, p, r, q, br⟩ := hg.blk x C e
        refine ⟨u, p, hle _ _ r, ?_, br.mono hle⟩
        show (w.heap.setIfInBounds s.block _)[u.block]? = _
        rw [hset _ (fun e' => hxb (hg.inj x b C _ u s e hb r hs e'))]; exact q
  · rw [hg'] at e e'
    by_cases hx : x = A.next <;> by_cases hy : y = A.next
    · rw [hx, hy]
    · simp [hx] at r; subst r
      simp only [hy, if_false] at e' r'
      by_cases hyb : y = b
      · simp [hyb] at e'
      · simp only [hyb, if_false] at e'
        exact absurd (hg.inj y b D _ v s e' hb r' hs q.symm) hyb
    · simp [hy] at r'; subst r'
      simp only [hx, if_false] at e r
      by_cases hxb : x = b
      · simp [hxb] at e
      · simp only [hxb, if_false] at e
        exact absurd (hg.inj x b C _ u s e hb r hs q) hxb
    · simp only [hx, hy, if_false] at e e' r r'
      by_cases hxb : x = b
      · simp [hxb] at e
      · by_cases hyb : y = b
        · simp [hyb] at e'
        · simp only [hxb, hyb, if_false] at e e'
          exact hg.inj x y C D u v e e' r r' q
  · rw [hg'] at e
    by_cases hx : x = A.next
    · simp [hx] at r; subst r; exact hns
    · simp only [hx, if_false] at e r
      by_cases hxb : x = b
      · simp [hxb] at e
      · simp only [hxb, if_false] at e; exact hg.new x C u e r
  · rw [St.add_next, St.put_next]
    by_cases e : x = A.next
    · omega
    · simp [e] at hx; have := hn x u hx; omega
  · rw [hg'] at e
    by_cases hx : x = A.next
    · simp [hx] at r; subst r; exact ⟨b, _, s, hb, hs, rfl⟩
    · simp only [hx, if_false] at e r
      by_cases hxb : x = b
      · simp [hxb] at e
      · simp only [hxb, if_false] at e; exact ⟨x, C, u, e, r, rfl⟩

end
end Go.Proofs.YtagmkceblklgaaaGreat.Ex
