/-
  A REGION THAT DRAWS ITS ORDER: whatever the order, it comes to what its one run came to.
  Conditions: the values that are not known are of one cell; the calls are sound; the checks of opsAny.
-/
import Derived.Test.YtagmkceblklgaaaGreatEx12
namespace Go.Proofs.YtagmkceblklgaaaGreat.Ex

/-! what comes ahead -/

theorem befOf_spec {o : Oper} {acc : List Nat} {j : Nat} (h : (befOf o acc).testBit j = true) : ∃ e ∈ o.after.toList, Region.binds .any e = true ∧ (j = e.on ∨ ((acc[e.on]?).getD 0).testBit j = true) := by
  have key : ∀ (l : List Edge) (s : Nat), (l.foldl (fun s e => cond (Region.binds .any e) (s ||| 2 ^ e.on ||| (acc[e.on]?).getD 0) s) s).testBit j = true →
      s.testBit j = true ∨ ∃ e ∈ l, Region.binds .any e = true ∧ (j = e.on ∨ ((acc[e.on]?).getD 0).testBit j = true) := by
    intro l
    induction l with
    | nil => intro s h; exact .inl h
    | cons e l ih =>
      intro s h
      rw [List.foldl_cons] at h
      rcases ih _ h with h | ⟨x, hx, hy⟩
      · cases hb : Region.binds .any e with
        | false => rw [hb] at h; exact .inl h
        | true =>
          rw [hb] at h
          simp only [cond_true, Nat.testBit_or, Bool.or_eq_true] at h
          rcases h with (h | h) | h
          · exact .inl h
          · refine .inr ⟨e, by simp, hb, .inl ?_⟩
            rw [Nat.testBit_two_pow] at h
            exact (by simpa using h : e.on = j).symm
          · exact .inr ⟨e, by simp, hb, .inr h⟩
      · exact .inr ⟨x, by simp [hx], hy⟩
  rcases key _ 0 h with h | h
  · simp at h
  · exact h

theorem befsF_get : ∀ (l : List Oper) (acc : List Nat) (i : Nat), (i < acc.length → (befsF l acc)[i]? = acc[i]?) ∧
    (∀ o, l[i]? = some o → ∃ pre, pre.length = acc.length + i ∧ (∀ q, q < acc.length + i → pre[q]? = (befsF l acc)[q]?) ∧ (befsF l acc)[acc.length + i]? = some (befOf o pre))
  | [], acc, i => ⟨fun _ => rfl, fun o h => by simp at h⟩
  | x :: l, acc, i => by
    refine ⟨fun hi => ?_, fun o ho => ?_⟩
    · have := (befsF_get l (acc ++ [befOf x acc]) i).1 (by simp; omega)
      show (befsF l (acc ++ [befOf x acc]))[i]? = _
      rw [this, List.getElem?_append_left hi]
    · show ∃ pre, _ ∧ (∀ q, _ → pre[q]? = (befsF l (acc ++ [befOf x acc]))[q]?) ∧ (befsF l (acc ++ [befOf x acc]))[acc.length + i]? = _
      cases i with
      | zero =>
        simp at ho; subst ho
        refine ⟨acc, rfl, fun q hq => ?_, ?_⟩
        · rw [(befsF_get l (acc ++ [befOf x acc]) q).1 (by simp; omega), List.getElem?_append_left (by omega)]
        · rw [(befsF_get l (acc ++ [befOf x acc]) _).1 (by simp)]; simp
      | succ i =>
        obtain ⟨pre, h1, h2, h3⟩ := (befsF_get l (acc ++ [befOf x acc]) i).2 o (by simpa using ho)
        simp only [List.length_append, List.length_singleton] at h1 h2 h3
        exact ⟨pre, by omega, fun q hq => h2 q (by omega), by rw [show acc.length + (i + 1) = acc.length + 1 + i by omega]; exact h3⟩

/-- what comes ahead of an operation has come when all that its edges name has -/
theorem bef_closed {l : List Oper} {L : Nat → Bool} (hcl : ∀ i o, l[i]? = some o → L i = true → ∀ e ∈ o.after.toList, Region.binds .any e = true → L e.on = true) :
    ∀ (i : Nat) (o : Oper), l[i]? = some o → (∀ e ∈ o.after.toList, Region.binds .any e = true → L e.on = true) → ∀ j, bit (befsF l []) i j = true → L j = true := by
  intro i
  induction i using Nat.strongRecOn with
  | _ i ih =>
    intro o ho hed j hj
    obtain ⟨pre, h1, h2, h3⟩ := (befsF_get l [] i).2 o ho
    simp only [List.length_nil, Nat.zero_add] at h1 h2 h3
    unfold bit at hj
    rw [h3] at hj
    obtain ⟨e, he, hb, hor⟩ := befOf_spec (by simpa using hj)
    have hL := hed e he hb
    rcases hor with rfl | hj
    · exact hL
    · by_cases hq : e.on < i
      · have : bit (befsF l []) e.on j = true := by unfold bit; rw [← h2 _ hq]; exact hj
        have hlen : e.on < l.length := by have := (List.getElem?_eq_some_iff.1 ho).1; omega
        exact ih e.on hq _ (List.getElem?_eq_getElem hlen) (hcl e.on _ (List.getElem?_eq_getElem hlen) hL) j this
      · rw [List.getElem?_eq_none (by omega)] at hj; simp at hj

theorem writerF_spec (t : Nat) : ∀ (l : List Oper) (i j : Nat), writerF t l i = some j → ∃ o, l[j - i]? = some o ∧ o.dst = some t ∧ i ≤ j
  | [], i, j, h => by simp [writerF] at h
  | o :: l, i, j, h => by
    unfold writerF at h
    split at h
    · rename_i d hd
      cases hb : Nat.beq d t with
      | true =>
        rw [hb] at h; cases h
        have : d = t := by simpa using hb
        subst this
        exact ⟨o, by simp, hd, Nat.le_refl _⟩
      | false =>
        rw [hb] at h
        obtain ⟨o', h1, h2, h3⟩ := writerF_spec t l (i + 1) j h
        exact ⟨o', by rw [show j - i = j - (i + 1) + 1 by omega]; simpa using h1, h2, by omega⟩
    · obtain ⟨o', h1, h2, h3⟩ := writerF_spec t l (i + 1) j h
      exact ⟨o', by rw [show j - i = j - (i + 1) + 1 by omega]; simpa using h1, h2, by omega⟩

theorem uniqD_spec {ops : List Oper} {n : Nat} : ∀ (l : List Oper) (i : Nat), uniqD ops n l i = true → ∀ j o d, l[j]? = some o → o.dst = some d → d < n ∧ writerF d ops 0 = some (i + j)
  | [], i, h, j, o, d, ho, hd => by simp at ho
  | x :: l, i, h, j, o, d, ho, hd => by
    simp only [uniqD, Bool.and_eq_true] at h
    cases j with
    | zero =>
      simp at ho; subst ho
      have h1 := h.1
      rw [hd] at h1
      simp only [Bool.and_eq_true, Nat.ble_eq] at h1
      obtain ⟨h2, h3⟩ := h1
      split at h3
      · rename_i k hk; rw [hk]; exact ⟨by omega, by simpa using h3⟩
      · cases h3
    | succ j =>
      have := uniqD_spec l (i + 1) h.2 j o d (by simpa using ho) hd
      exact ⟨this.1, by rw [this.2]; congr 1; omega⟩

theorem edgesDown_spec : ∀ (l : List Oper) (i : Nat), edgesDown l i = true → ∀ j o, l[j]? = some o → ∀ e ∈ o.after.toList, Region.binds .any e = true → e.on < i + j
  | [], i, h, j, o, ho => by simp at ho
  | x :: l, i, h, j, o, ho => by
    simp only [edgesDown, Bool.and_eq_true] at h
    cases j with
    | zero =>
      simp at ho; subst ho
      intro e he hb
      have := List.all_eq_true.1 h.1 e he
      rw [hb] at this
      simp only [Bool.not_true, Bool.false_or, Nat.ble_eq] at this
      omega
    | succ j =>
      intro e he hb
      have := edgesDown_spec l (i + 1) h.2 j o (by simpa using ho) e he hb
      omega

theorem same_go : ∀ {l m : List AV}, AV.same.go l m = true → l = m
  | [], [], _ => rfl
  | x :: l, [], h => by cases x <;> simp [AV.same.go] at h
  | [], y :: m, h => by simp [AV.same.go] at h
  | x :: l, y :: m, h => by
    cases x <;> cases y <;> simp only [AV.same.go, Bool.and_eq_true, Nat.beq_eq, beq_iff_eq, Bool.false_eq_true] at h
    · rw [vsame_eq h.1, same_go h.2]
    · obtain ⟨⟨rfl, rfl⟩, h⟩ := h; rw [same_go h]
    · obtain ⟨⟨⟨⟨⟨⟨rfl, rfl⟩, rfl⟩, rfl⟩, rfl⟩, rfl⟩, h⟩ := h; rw [same_go h]
    · obtain ⟨rfl, h⟩ := h; rw [same_go h]

theorem same_eq {a b : AV} (h : AV.same a b = true) : a = b := by
  cases a <;> cases b <;> simp only [AV.same, Bool.and_eq_true, Nat.beq_eq, beq_iff_eq, decide_eq_true_eq, Bool.false_eq_true] at h
  · rw [vsame_eq h]
  · rw [h.1, h.2]
  · obtain ⟨⟨⟨⟨⟨rfl, rfl⟩, rfl⟩, rfl⟩, rfl⟩, rfl⟩ := h; rfl
  · rw [h]
  · obtain ⟨⟨rfl, h1⟩, h2⟩ := h; rw [same_go h1, same_go h2]
  · rw [same_go h]
  · rw [same_go h]

theorem allowed_spec {bm : List Nat} {i k : Nat} : ∀ (hs : List Stage) (j₀ : Nat), (∀ j st, hs[j]? = some st → (bit bm i st.i = true → j₀ + j < k) ∧ (bit bm st.i i = true → k ≤ j₀ + j)) → allowed bm i k hs j₀ = true
  | [], _, _ => rfl
  | st :: hs, j₀, h => by
    have h0 := h 0 st rfl
    simp only [Nat.add_zero] at h0
    have ih := allowed_spec hs (j₀ + 1) (fun j st' hj => by
      have := h (j + 1) st' (by simpa using hj)
      rw [show j₀ + 1 + j = j₀ + (j + 1) by omega]; exact this)
    simp only [allowed, ih, Bool.and_true, Bool.and_eq_true, Bool.or_eq_true, Bool.not_eq_true']
    constructor
    · cases hb : bit bm i st.i with
      | false => exact .inl rfl
      | true => exact .inr (Nat.ble_eq_true_of_le (h0.1 hb))
    · cases hb : bit bm st.i i with
      | false => exact .inl rfl
      | true => exact .inr (Nat.ble_eq_true_of_le (h0.2 hb))

section
variable {P : Program} {call : CallF} {l : List Oper} {bm : List Nat} {a : AA} {base : Nat} {S₀ : St}

theorem layIn_spec (i inc : Nat) : ∀ (recs : List Rec) (j : Nat) (A : St),
    (layIn bm i base inc recs j A).2.next = A.next ∧
    (∀ b C, (layIn bm i base inc recs j A).2.mem.get b = some C → (∃ q v, recs[q]? = some (.made v C) ∧ b = base + (j + q) ∧ bit bm i (j + q) = true ∧ inc.testBit (j + q) = false) ∨
      (A.mem.get b = some C ∧ ∀ q v D, recs[q]? = some (.made v D) → b = base + (j + q) → bit bm i (j + q) = true → inc.testBit (j + q) = true)) ∧
    (∀ q, (layIn bm i base inc recs j A).1.testBit q = true ↔ inc.testBit q = true ∨ ∃ p v C, recs[p]? = some (.made v C) ∧ q = j + p ∧ bit bm i q = true)
  | [], j, A => by
    refine ⟨rfl, fun b C h => .inr ⟨h, fun q v D hq => by simp at hq⟩, fun q => ?_⟩
    simp [layIn]
  | r :: recs, j, A => by
    have hskip : ∀ (hr : ∀ v C, r ≠ .made v C), layIn bm i base inc (r :: recs) j A = layIn bm i base inc recs (j + 1) A := by
      intro hr; cases r <;> first | rfl | exact absurd rfl (hr _ _)
    have hshift : ∀ (hcase : ∀ v C, r = .made v C → bit bm i j = true → inc.testBit j = true) (heq : layIn bm i base inc (r :: recs) j A = layIn bm i base inc recs (j + 1) A),
        (layIn bm i base inc (r :: recs) j A).2.next = A.next ∧
        (∀ b C, (layIn bm i base inc (r :: recs) j A).2.mem.get b = some C → (∃ q v, (r :: recs)[q]? = some (.made v C) ∧ b = base + (j + q) ∧ bit bm i (j + q) = true ∧ inc.testBit (j + q) = false) ∨
          (A.mem.get b = some C ∧ ∀ q v D, (r :: recs)[q]? = some (.made v D) → b = base + (j + q) → bit bm i (j + q) = true → inc.testBit (j + q) = true)) ∧
        (∀ q, (layIn bm i base inc (r :: recs) j A).1.testBit q = true ↔ inc.testBit q = true ∨ ∃ p v C, (r :: recs)[p]? = some (.made v C) ∧ q = j + p ∧ bit bm i q = true) := by
      intro hcase heq
      obtain ⟨h1, h2, h3⟩ := layIn_spec i inc recs (j + 1) A
      rw [heq]
      refine ⟨h1, fun b C h => ?_, fun q => ?_⟩
      · rcases h2 b C h with ⟨q, v, hq, rfl, h4, h5⟩ | ⟨hA, hall⟩
        · exact .inl ⟨q + 1, v, by simpa using hq, by omega, by rw [show j + (q + 1) = j + 1 + q by omega]; exact h4, by rw [show j + (q + 1) = j + 1 + q by omega]; exact h5⟩
        · refine .inr ⟨hA, fun q v D hq hb hbit => ?_⟩
          cases q with
          | zero => simp at hq; exact hcase v D hq hbit
          | succ q =>
            rw [show j + (q + 1) = j + 1 + q by omega] at hb hbit ⊢
            exact hall q v D (by simpa using hq) hb hbit
      · rw [h3 q]
        constructor
        · rintro (h | ⟨p, v, C, hp, rfl, hb⟩)
          · exact .inl h
          · exact .inr ⟨p + 1, v, C, by simpa using hp, by omega, hb⟩
        · rintro (h | ⟨p, v, C, hp, rfl, hb⟩)
          · exact .inl h
          · cases p with
            | zero => simp at hp; exact .inl (hcase v C hp hb)
            | succ p => exact .inr ⟨p, v, C, by simpa using hp, by omega, hb⟩
    cases r with
    | skip => exact hshift (fun v C h => by cases h) (hskip fun v C h => by cases h)
    | light v => exact hshift (fun v C h => by cases h) (hskip fun v C h => by cases h)
    | heavy v => exact hshift (fun v C h => by cases h) (hskip fun v C h => by cases h)
    | made v B =>
      cases hb : (bit bm i j && !inc.testBit j) with
      | false =>
        refine hshift (fun v' C' h hbit => ?_) (by simp only [layIn, hb, cond_false])
        cases hi : inc.testBit j with
        | true => rfl
        | false => rw [hbit, hi] at hb; cases hb
      | true =>
        obtain ⟨h1, h2, h3⟩ := layIn_spec i inc recs (j + 1) (A.put (base + j) (some B))
        have heq : layIn bm i base inc (.made v B :: recs) j A = ((layIn bm i base inc recs (j + 1) (A.put (base + j) (some B))).1 ||| 2 ^ j, (layIn bm i base inc recs (j + 1) (A.put (base + j) (some B))).2) := by
          simp only [layIn, hb, cond_true]
        simp only [Bool.and_eq_true, Bool.not_eq_true'] at hb
        rw [heq]
        refine ⟨h1.trans (St.put_next _ _ _), fun b C h => ?_, fun q => ?_⟩
        · rcases h2 b C h with ⟨q, u, hq, rfl, h4, h5⟩ | ⟨hA, hall⟩
          · exact .inl ⟨q + 1, u, by simpa using hq, by omega, by rw [show j + (q + 1) = j + 1 + q by omega]; exact h4, by rw [show j + (q + 1) = j + 1 + q by omega]; exact h5⟩
          · rw [put_get] at hA
            simp only at hA
            by_cases hbj : b = base + j
            · rw [if_pos hbj] at hA; cases hA
              exact .inl ⟨0, v, rfl, by omega, hb.1, hb.2⟩
            · rw [if_neg hbj] at hA
              refine .inr ⟨hA, fun q u D hq hb' hbit => ?_⟩
              cases q with
              | zero => exact absurd hb' (by simpa using hbj)
              | succ q =>
                rw [show j + (q + 1) = j + 1 + q by omega] at hb' hbit ⊢
                exact hall q u D (by simpa using hq) hb' hbit
        · simp only [Nat.testBit_or, Bool.or_eq_true, Nat.testBit_two_pow, decide_eq_true_eq]
          rw [h3 q]
          constructor
          · rintro ((h | ⟨p, u, C, hp, rfl, hbit⟩) | rfl)
            · exact .inl h
            · exact .inr ⟨p + 1, u, C, by simpa using hp, by omega, hbit⟩
            · exact .inr ⟨0, v, B, rfl, by omega, hb.1⟩
          · rintro (h | ⟨p, u, C, hp, rfl, hbit⟩)
            · exact .inl (.inl h)
            · cases p with
              | zero => exact .inr (by omega)
              | succ p => exact .inl (.inr ⟨p, u, C, by simpa using hp, by omega, hbit⟩)

/-- what one operation of the run says -/
def StepSpec (P : Program) (call : CallF) (l : List Oper) (bm : List Nat) (a : AA) (base : Nat) (S₀ : St) (recs : List Rec) (hs : List Stage) (i : Nat) (o : Oper) : Rec → Prop
  | .skip => wantsAt l bm a (recs.take i) i o = some false
  | .made v B => wantsAt l bm a (recs.take i) i o = some true ∧ maker P (envAt l bm a (recs.take i) i) (base + i) o = some (v, B)
  | .light _ => wantsAt l bm a (recs.take i) i o = some true
  | .heavy v => wantsAt l bm a (recs.take i) i o = some true ∧ ∃ k st, hs[k]? = some st ∧ st.i = i ∧
      st.inc = (layIn bm i base (stageOf S₀ hs k).inc (recs.take i) 0 (stageOf S₀ hs k).A).1 ∧
      stepHeavy P call (envAt l bm a (recs.take i) i) (layIn bm i base (stageOf S₀ hs k).inc (recs.take i) 0 (stageOf S₀ hs k).A).2 o = some (v, st.A)

theorem stageOf_append (hs ht : List Stage) {k : Nat} (h : k ≤ hs.length) : stageOf S₀ (hs ++ ht) k = stageOf S₀ hs k := by
  cases k with
  | zero => rfl
  | succ k => simp only [stageOf]; rw [List.getElem?_append_left (by omega)]

theorem canon_spec : ∀ (rest : List Oper) (i : Nat) (rs : List Rec) (hs : List Stage) (inc : Nat) (cur : St) (recs : List Rec) (hs' : List Stage) (inc' : Nat) (cur' : St),
    canon P call l bm a base i rest rs hs inc cur = some (recs, hs', inc', cur') → rs.length = i → inc = (stageOf S₀ hs hs.length).inc → cur = (stageOf S₀ hs hs.length).A →
    ∃ rt ht, recs = rs ++ rt ∧ hs' = hs ++ ht ∧ rt.length = rest.length ∧ inc' = (stageOf S₀ hs' hs'.length).inc ∧ cur' = (stageOf S₀ hs' hs'.length).A ∧
      (∀ j o, rest[j]? = some o → ∃ r, recs[i + j]? = some r ∧ StepSpec P call l bm a base S₀ recs hs' (i + j) o r) ∧
      (∀ st ∈ ht, ∃ v, recs[st.i]? = some (.heavy v))
  | [], i, rs, hs, inc, cur, recs, hs', inc', cur', h, hl, hi, hc => by
    simp only [canon] at h
    cases h
    exact ⟨[], [], by simp, by simp, rfl, hi, hc, fun j o ho => by simp at ho, fun st hst => by simp at hst⟩
  | o :: rest, i, rs, hs, inc, cur, recs, hs', inc', cur', h, hl, hi, hc => by
    simp only [canon, Option.bind_eq_some_iff] at h
    obtain ⟨wt, hwt, h⟩ := h
    -- one more record, no more stage
    have plain : ∀ r, canon P call l bm a base (i + 1) rest (rs ++ [r]) hs inc cur = some (recs, hs', inc', cur') → (∀ recs hs', recs.take i = rs → StepSpec P call l bm a base S₀ recs hs' i o r) →
        ∃ rt ht, recs = rs ++ rt ∧ hs' = hs ++ ht ∧ rt.length = (o :: rest).length ∧ inc' = (stageOf S₀ hs' hs'.length).inc ∧ cur' = (stageOf S₀ hs' hs'.length).A ∧
          (∀ j p, (o :: rest)[j]? = some p → ∃ r, recs[i + j]? = some r ∧ StepSpec P call l bm a base S₀ recs hs' (i + j) p r) ∧
          (∀ st ∈ ht, ∃ v, recs[st.i]? = some (.heavy v)) := by
      intro r h hspec
      obtain ⟨rt, ht, h1, h2, h3, h4, h5, h6, h7⟩ := canon_spec rest (i + 1) (rs ++ [r]) hs inc cur recs hs' inc' cur' h (by simp [hl]) hi hc
      have htake : recs.take i = rs := by rw [h1, List.append_assoc, List.take_append_of_le_length (by omega), List.take_of_length_le (by omega)]
      refine ⟨r :: rt, ht, by rw [h1]; simp, h2, by simp [h3], h4, h5, fun j p hp => ?_, h7⟩
      cases j with
      | zero =>
        simp at hp; subst hp
        exact ⟨r, by rw [h1]; simp [← hl], hspec recs hs' htake⟩
      | succ j =>
        rw [show i + (j + 1) = i + 1 + j by omega]
        exact h6 j p (by simpa using hp)
    cases wt with
    | false => exact plain .skip h fun recs hs' ht => by simp only [StepSpec, ht]; exact hwt
    | true =>
      simp only [cond_true] at h
      split at h
      · rename_i m hm
        exact plain (.made m.1 m.2) h fun recs hs' ht => by simp only [StepSpec, ht]; exact ⟨hwt, hm⟩
      · split at h
        · rename_i v hv
          exact plain (.light v) h fun recs hs' ht => by simp only [StepSpec, ht]; exact hwt
        · simp only [Option.bind_eq_some_iff] at h
          obtain ⟨⟨v, A'⟩, hr, h⟩ := h
          simp only at h
          have hst : stageOf S₀ (hs ++ [⟨i, (layIn bm i base inc rs 0 cur).1, A'⟩]) (hs ++ [(⟨i, (layIn bm i base inc rs 0 cur).1, A'⟩ : Stage)]).length = ⟨i, (layIn bm i base inc rs 0 cur).1, A'⟩ := by
            simp [stageOf]
          obtain ⟨rt, ht, h1, h2, h3, h4, h5, h6, h7⟩ := canon_spec rest (i + 1) (rs ++ [.heavy v]) (hs ++ [⟨i, (layIn bm i base inc rs 0 cur).1, A'⟩]) (layIn bm i base inc rs 0 cur).1 A' recs hs' inc' cur' h (by simp [hl]) (by rw [hst]) (by rw [hst])
          have htake : recs.take i = rs := by rw [h1, List.append_assoc, List.take_append_of_le_length (by omega), List.take_of_length_le (by omega)]
          have hreci : recs[i]? = some (.heavy v) := by rw [h1]; simp [← hl]
          refine ⟨.heavy v :: rt, ⟨i, (layIn bm i base inc rs 0 cur).1, A'⟩ :: ht, by rw [h1]; simp, by rw [h2]; simp, by simp [h3], h4, h5, fun j p hp => ?_, fun st hst => ?_⟩
          · cases j with
            | zero =>
              simp at hp; subst hp
              refine ⟨.heavy v, hreci, ?_⟩
              simp only [Nat.add_zero, StepSpec, htake]
              have hsk : stageOf S₀ hs' hs.length = stageOf S₀ hs hs.length := by rw [h2, List.append_assoc, stageOf_append hs _ (Nat.le_refl _)]
              refine ⟨hwt, hs.length, ⟨i, (layIn bm i base inc rs 0 cur).1, A'⟩, by rw [h2]; simp, rfl, ?_, ?_⟩
              · rw [hsk, ← hi, ← hc]
              · rw [hsk, ← hi, ← hc]; exact hr
            | succ j =>
              rw [show i + (j + 1) = i + 1 + j by omega]
              exact h6 j p (by simpa using hp)
          · cases hst with
            | head => exact ⟨v, hreci⟩
            | tail _ hst => exact h7 st hst

theorem steadyAt_spec {A : St} {recs : List Rec} {hs : List Stage} {i : Nat} {o : Oper} {v : AV} : ∀ (n : Nat), steadyAt P l bm a A recs hs i o v n = true → ∀ k, k < n → allowed bm i k hs 0 = true →
    light P (stageOf A hs k).A.mem.get (envAt l bm a (recs.take i) i) o = some v
  | 0, _, k, hk, _ => by omega
  | n + 1, h, k, hk, ha => by
    simp only [steadyAt, Bool.and_eq_true] at h
    by_cases e : k = n
    · subst e
      have h1 := h.1
      rw [ha] at h1
      simp only [cond_true] at h1
      split at h1
      · rename_i u hu; rw [hu, same_eq h1]
      · cases h1
    · exact steadyAt_spec n h.2 k (by omega) ha

theorem steady_spec {A : St} {recs : List Rec} {hs : List Stage} : ∀ (rest : List Oper) (i : Nat), steady P l bm a A recs hs rest i = true → ∀ j o v, rest[j]? = some o → recs[i + j]? = some (.light v) → ∀ k, k ≤ hs.length → allowed bm (i + j) k hs 0 = true →
    light P (stageOf A hs k).A.mem.get (envAt l bm a (recs.take (i + j)) (i + j)) o = some v
  | [], i, h, j, o, v, ho => by simp at ho
  | x :: rest, i, h, j, o, v, ho => by
    simp only [steady, Bool.and_eq_true] at h
    cases j with
    | zero =>
      simp at ho; subst ho
      intro hr k hk ha
      have h1 := h.1
      simp only [Nat.add_zero] at hr ha ⊢
      rw [hr] at h1
      exact steadyAt_spec _ h1 k (by omega) ha
    | succ j =>
      intro hr k hk ha
      rw [show i + (j + 1) = i + 1 + j by omega] at hr ha ⊢
      exact steady_spec rest (i + 1) h.2 j o v (by simpa using ho) hr k hk ha

theorem apartAt_spec {inc : Nat} {g : Nat → Option Blk} : ∀ (recs : List Rec) (j : Nat), apartAt base inc g recs j = true → ∀ q v B, recs[q]? = some (.made v B) → inc.testBit (j + q) = false → g (base + (j + q)) = none
  | [], j, h, q, v, B, hq, _ => by simp at hq
  | r :: recs, j, h, q, v, B, hq, hi => by
    cases q with
    | zero =>
      simp at hq; subst hq
      simp only [apartAt, Bool.and_eq_true, Bool.or_eq_true, Option.isNone_iff_eq_none, Nat.add_zero] at h hi ⊢
      rcases h.1 with h1 | h1
      · rw [hi] at h1; cases h1
      · exact h1
    | succ q =>
      have h' : apartAt base inc g recs (j + 1) = true := by
        cases r <;> simp only [apartAt, Bool.and_eq_true] at h <;> first | exact h | exact h.2
      rw [show j + (q + 1) = j + 1 + q by omega] at hi ⊢
      exact apartAt_spec recs (j + 1) h' q v B (by simpa using hq) hi

theorem apart_spec {recs : List Rec} : ∀ (hs : List Stage), apart base recs hs = true → ∀ (k : Nat) (st : Stage), hs[k]? = some st → apartAt base st.inc st.A.mem.get recs 0 = true
  | [], _, k, st, h => by simp at h
  | x :: hs, h, k, st, hk => by
    simp only [apart, Bool.and_eq_true] at h
    cases k with
    | zero => simp at hk; subst hk; exact h.1
    | succ k => exact apart_spec hs h.2 k st (by simpa using hk)

theorem chained_spec : ∀ (hs : List Stage), chained bm hs = true → ∀ (k : Nat) (st st' : Stage), hs[k]? = some st → hs[k + 1]? = some st' → bit bm st'.i st.i = true
  | [], _, k, st, st', h, _ => by simp at h
  | [x], _, k, st, st', h, h' => by simp at h'
  | x :: y :: hs, h, k, st, st', hk, hk' => by
    simp only [chained, Bool.and_eq_true] at h
    cases k with
    | zero => simp at hk hk'; subst hk; subst hk'; exact h.1
    | succ k => exact chained_spec (y :: hs) h.2 k st st' (by simpa using hk) (by simpa using hk')

end
end Go.Proofs.YtagmkceblklgaaaGreat.Ex
