/-
  A REGION THAT DRAWS ITS ORDER (second part): at each place what is known, and a step from there.
  Conditions: the values that are not known are of one cell; the calls are sound; the checks of opsAny.
-/
import Derived.Test.YtagmkceblklgaaaGreatEx13
namespace Go.Proofs.YtagmkceblklgaaaGreat.Ex

/-- new blocks that are made and not laid in yet -/
def Fl (recs : List Rec) (base : Nat) (L : Nat → Bool) (inc : Nat) (b : Nat) : Option Blk :=
  match recs[b - base]? with
  | some (.made _ B) => if base ≤ b ∧ L (b - base) = true ∧ inc.testBit (b - base) = false then some B else none
  | _ => none
def ov (F g : Nat → Option Blk) (b : Nat) : Option Blk :=
  match F b with
  | some B => some B
  | none => g b

theorem Fl_some {recs : List Rec} {base inc b : Nat} {L : Nat → Bool} {B : Blk} (h : Fl recs base L inc b = some B) : ∃ q v, b = base + q ∧ recs[q]? = some (.made v B) ∧ L q = true ∧ inc.testBit q = false := by
  unfold Fl at h
  split at h
  · rename_i v C hr
    split at h
    · rename_i hc; cases h
      exact ⟨b - base, v, by omega, hr, hc.2.1, hc.2.2⟩
    · cases h
  · cases h
theorem Fl_mk {recs : List Rec} {base inc q : Nat} {L : Nat → Bool} {v : AV} {B : Blk} (hr : recs[q]? = some (.made v B)) (hL : L q = true) (hi : inc.testBit q = false) : Fl recs base L inc (base + q) = some B := by
  unfold Fl
  rw [Nat.add_sub_cancel_left, hr]
  simp [hL, hi]

section
variable {P : Program} {ω : Env} {call : CallF} {ops : Array Oper} {a : AA} {A : St} {recs : List Rec} {hs : List Stage}

/-- the facts about the one run -/
structure Canon (P : Program) (call : CallF) (ops : Array Oper) (a : AA) (A : St) (recs : List Rec) (hs : List Stage) : Prop where
  len : recs.length = ops.toList.length
  rec_ : ∀ i o, ops.toList[i]? = some o → ∃ r, recs[i]? = some r ∧ StepSpec P call ops.toList (befsF ops.toList []) a A.next ⟨A.mem, A.next + ops.toList.length⟩ recs hs i o r
  heavy : ∀ (k : Nat) (st : Stage), hs[k]? = some st → ∃ v, recs[st.i]? = some (Rec.heavy v)
  chain : chained (befsF ops.toList []) hs = true
  uniq : uniqD ops.toList a.n ops.toList 0 = true
  down : edgesDown ops.toList 0 = true
  nosel : Region.noSelect ops = true
  steady : steady P ops.toList (befsF ops.toList []) a ⟨A.mem, A.next + ops.toList.length⟩ recs hs ops.toList 0 = true
  apart0 : apartAt A.next 0 A.mem.get recs 0 = true
  apart : apart A.next recs hs = true

/-- the i-th slot's value when L have come -/
def slotL (l : List Oper) (a : AA) (recs : List Rec) (L : Nat → Bool) (t : Nat) : Option AV :=
  match writerF t l 0 with
  | none => a.tmps.get t
  | some j => cond (L j) ((recs[j]?).map Rec.val) (a.tmps.get t)

/-- what is known when L have come, k of which turn memory -/
structure RInv (ω : Env) (ops : Array Oper) (a : AA) (A : St) (recs : List Rec) (hs : List Stage) (ρ₀ : Nat → Option Spot) (w₀ : World) (L : Nat → Bool) (k : Nat) (act : Act) (w : World) (ρ : Nat → Option Spot) : Prop where
  closed : ∀ i o, ops.toList[i]? = some o → L i = true → ∀ e ∈ o.after.toList, Region.binds .any e = true → L e.on = true
  kle : k ≤ hs.length
  pref : ∀ j st, hs[j]? = some st → (L st.i = true ↔ j < k)
  rel : Rel ρ ω (ov (Fl recs A.next L (stageOf ⟨A.mem, A.next + ops.toList.length⟩ hs k).inc) (stageOf ⟨A.mem, A.next + ops.toList.length⟩ hs k).A.mem.get) w
  nn : Nn ρ₀ A.next ρ (stageOf ⟨A.mem, A.next + ops.toList.length⟩ hs k).A.next
  big : A.next + ops.toList.length ≤ (stageOf ⟨A.mem, A.next + ops.toList.length⟩ hs k).A.next
  unl : ∀ q, q < ops.toList.length → L q = false → ρ (A.next + q) = none
  ev : Ev ρ₀ A.mem.get w₀ ρ (ov (Fl recs A.next L (stageOf ⟨A.mem, A.next + ops.toList.length⟩ hs k).inc) (stageOf ⟨A.mem, A.next + ops.toList.length⟩ hs k).A.mem.get) w
  size : act.tmps.size = a.n
  defers : act.defers = []
  slot : ∀ t x, slotL ops.toList a recs L t = some x → R ρ ω x (act.tmps.getD t undef)
  incL : ∀ q, (stageOf ⟨A.mem, A.next + ops.toList.length⟩ hs k).inc.testBit q = true → L q = true

theorem Canon.apartStage (hc : Canon P call ops a A recs hs) {k : Nat} (hk : k ≤ hs.length) {q : Nat} {v : AV} {B : Blk} (hq : recs[q]? = some (.made v B))
    (hi : (stageOf ⟨A.mem, A.next + ops.toList.length⟩ hs k).inc.testBit q = false) : (stageOf ⟨A.mem, A.next + ops.toList.length⟩ hs k).A.mem.get (A.next + q) = none := by
  cases k with
  | zero => have := apartAt_spec recs 0 hc.apart0 q v B hq (by simp); simpa [stageOf] using this
  | succ k =>
    obtain ⟨st, hst⟩ : ∃ st, hs[k]? = some st := ⟨_, List.getElem?_eq_getElem (by omega)⟩
    have e : stageOf (⟨A.mem, A.next + ops.toList.length⟩ : St) hs (k + 1) = st := by simp [stageOf, hst]
    rw [e] at hi ⊢
    have := apartAt_spec recs 0 (apart_spec hs hc.apart k st hst) q v B hq (by simpa using hi)
    simpa using this

/-- what is laid in is there without what is not -/
theorem RInv.weak (hc : Canon P call ops a A recs hs) {ρ₀ ρ : Nat → Option Spot} {w₀ w : World} {L : Nat → Bool} {k : Nat} {act : Act} (h : RInv ω ops a A recs hs ρ₀ w₀ L k act w ρ) :
    Rel ρ ω (stageOf ⟨A.mem, A.next + ops.toList.length⟩ hs k).A.mem.get w := by
  refine h.rel.weaken fun b B hb => ?_
  unfold ov
  cases hf : Fl recs A.next L (stageOf ⟨A.mem, A.next + ops.toList.length⟩ hs k).inc b with
  | none => exact hb
  | some C =>
    obtain ⟨q, v, rfl, hr, _, hi⟩ := Fl_some hf
    rw [hc.apartStage h.kle hr hi] at hb; cases hb

theorem RInv.slotEnv {ρ₀ ρ : Nat → Option Spot} {w₀ w : World} {L : Nat → Bool} {k : Nat} {act : Act} (h : RInv ω ops a A recs hs ρ₀ w₀ L k act w ρ) {i : Nat} {o : Oper} (ho : ops.toList[i]? = some o) (hL : L i = false)
    (hed : ∀ e ∈ o.after.toList, Region.binds .any e = true → L e.on = true) {t : Nat} {x : AV} (hx : slotAt ops.toList (befsF ops.toList []) a (recs.take i) i t = some x) : R ρ ω x (act.tmps.getD t undef) := by
  refine h.slot t x ?_
  unfold slotAt at hx
  unfold slotL
  cases hw : writerF t ops.toList 0 with
  | none => rw [hw] at hx; exact hx
  | some j =>
    rw [hw] at hx
    simp only at hx ⊢
    cases hb : bit (befsF ops.toList []) i j with
    | true =>
      rw [hb] at hx
      simp only [cond_true] at hx
      have hj := bef_closed h.closed i o ho hed j hb
      rw [hj, cond_true]
      rw [List.getElem?_take] at hx
      split at hx
      · exact hx
      · simp at hx
    | false =>
      rw [hb] at hx
      simp only [cond_false] at hx
      cases hor : (Nat.beq j i || bit (befsF ops.toList []) j i) with
      | false => rw [hor] at hx; cases hx
      | true =>
        rw [hor] at hx
        simp only [cond_true] at hx
        have hLj : L j = false := by
          cases hLj : L j with
          | false => rfl
          | true =>
            simp only [Bool.or_eq_true, Nat.beq_eq] at hor
            rcases hor with rfl | hor
            · rw [hL] at hLj; cases hLj
            · obtain ⟨oj, hoj, _, _⟩ := writerF_spec t ops.toList 0 j hw
              have := bef_closed h.closed j oj (by simpa using hoj) (h.closed j oj (by simpa using hoj) hLj) i hor
              rw [hL] at this; cases this
        rw [hLj, cond_false]; exact hx

theorem RInv.env {ρ₀ ρ : Nat → Option Spot} {w₀ w : World} {L : Nat → Bool} {k : Nat} {act : Act} (h : RInv ω ops a A recs hs ρ₀ w₀ L k act w ρ) {i : Nat} {o : Oper} (ho : ops.toList[i]? = some o) (hL : L i = false)
    (hed : ∀ e ∈ o.after.toList, Region.binds .any e = true → L e.on = true) : Evs ρ ω (envAt ops.toList (befsF ops.toList []) a (recs.take i) i) act.eval := by
  intro x v hx
  cases x with
  | tmp t => exact h.slotEnv ho hL hed hx
  | const u => simp [envAt] at hx; subst hx; exact .lit u
  | global g => simp [envAt] at hx
  | func f => simp [envAt] at hx; subst hx; exact .fn rfl (fun i x v h => by simp at h) rfl (fun i x v h => by simp at h)

theorem RInv.wanted {ρ₀ ρ : Nat → Option Spot} {w₀ w : World} {L : Nat → Bool} {k : Nat} {act : Act} (h : RInv ω ops a A recs hs ρ₀ w₀ L k act w ρ) {i : Nat} {o : Oper} (ho : ops.toList[i]? = some o) (hL : L i = false)
    (hed : ∀ e ∈ o.after.toList, Region.binds .any e = true → L e.on = true) {b : Bool} (hw : wantsAt ops.toList (befsF ops.toList []) a (recs.take i) i o = some b) : Region.wanted o (yielded ops act.tmps) = b := by
  unfold wantsAt at hw
  unfold Region.wanted
  split at hw
  · rename_i hg; rw [hg]; cases hw; rfl
  · rename_i j want hg
    rw [hg]
    simp only [Option.bind_eq_some_iff] at hw
    obtain ⟨p, hp, d, hd, v, hv, hw⟩ := hw
    exact wanted_of (by simpa using hp) hd (h.slotEnv ho hL hed hv) hw

/-- L and one more -/
def plus (L : Nat → Bool) (i : Nat) (j : Nat) : Bool := L j || Nat.beq j i
theorem plus_iff {L : Nat → Bool} {i j : Nat} : plus L i j = true ↔ L j = true ∨ j = i := by simp [plus]

theorem slot_put (hu : uniqD ops.toList a.n ops.toList 0 = true) {ρ ρ' : Nat → Option Spot} {L : Nat → Bool} {act : Act} (hl : Le ρ ρ') (hs : ∀ t x, slotL ops.toList a recs L t = some x → R ρ ω x (act.tmps.getD t undef)) (hsz : act.tmps.size = a.n)
    {i : Nat} {o : Oper} (ho : ops.toList[i]? = some o) {r : Rec} (hr : recs[i]? = some r) {v : Value} (hv : R ρ' ω r.val v) :
    ∀ t x, slotL ops.toList a recs (plus L i) t = some x → R ρ' ω x ((act.put o.dst v).tmps.getD t undef) := by
  intro t x hx
  have hcase : ∀ d, o.dst = some d → t = d → R ρ' ω x ((act.put o.dst v).tmps.getD t undef) := by
    intro d hd e
    subst e
    obtain ⟨hdn, hw⟩ := uniqD_spec ops.toList 0 hu i o t ho hd
    simp only [Nat.zero_add] at hw
    unfold slotL at hx
    rw [hw] at hx
    simp only at hx
    have : plus L i i = true := plus_iff.2 (.inr rfl)
    rw [this] at hx
    simp only [cond_true, hr, Option.map_some] at hx
    cases hx
    rw [hd]
    simp only [Act.put]
    rw [getD_set _ _ _ _ (by omega), if_pos rfl]
    exact hv
  have hother : (∀ d, o.dst = some d → t ≠ d) → R ρ' ω x ((act.put o.dst v).tmps.getD t undef) := by
    intro hne
    have h1 : slotL ops.toList a recs L t = some x := by
      unfold slotL at hx ⊢
      cases hw : writerF t ops.toList 0 with
      | none => rw [hw] at hx; exact hx
      | some j =>
        rw [hw] at hx
        obtain ⟨oj, hoj, hdj, _⟩ := writerF_spec t ops.toList 0 j hw
        have hji : j ≠ i := by
          intro e; subst e
          have : oj = o := by have := (by simpa using hoj : ops.toList[j]? = some oj).symm.trans ho; simpa using this
          subst this
          exact hne t hdj rfl
        have : plus L i j = L j := by simp [plus, hji]
        simp only at hx
        rw [this] at hx; exact hx
    have h2 := (hs t x h1).mono hl
    cases hd : o.dst with
    | none => exact h2
    | some d =>
      simp only [Act.put]
      by_cases hdn : d < act.tmps.size
      · rw [getD_set _ _ _ _ hdn, if_neg (hne d hd)]; exact h2
      · rw [Array.setIfInBounds_eq_of_size_le (Nat.le_of_not_lt hdn)]; exact h2
  by_cases h : ∃ d, o.dst = some d ∧ t = d
  · obtain ⟨d, hd, e⟩ := h; exact hcase d hd e
  · exact hother fun d hd e => h ⟨d, hd, e⟩

theorem closed_plus {L : Nat → Bool} (hcl : ∀ i o, ops.toList[i]? = some o → L i = true → ∀ e ∈ o.after.toList, Region.binds .any e = true → L e.on = true) {i : Nat} {o : Oper} (ho : ops.toList[i]? = some o)
    (hed : ∀ e ∈ o.after.toList, Region.binds .any e = true → L e.on = true) : ∀ j p, ops.toList[j]? = some p → plus L i j = true → ∀ e ∈ p.after.toList, Region.binds .any e = true → plus L i e.on = true := by
  intro j p hp hj e he hb
  rcases plus_iff.1 hj with hj | rfl
  · exact plus_iff.2 (.inl (hcl j p hp hj e he hb))
  · have : p = o := by have := hp.symm.trans ho; simpa using this
    subst this
    exact plus_iff.2 (.inl (hed e he hb))

/-- one more that turns no memory -/
theorem RInv.more (hc : Canon P call ops a A recs hs) {ρ₀ ρ : Nat → Option Spot} {w₀ w : World} {L : Nat → Bool} {k : Nat} {act : Act} (h : RInv ω ops a A recs hs ρ₀ w₀ L k act w ρ) {i : Nat} {o : Oper} (ho : ops.toList[i]? = some o) (hL : L i = false)
    (hed : ∀ e ∈ o.after.toList, Region.binds .any e = true → L e.on = true) {r : Rec} (hr : recs[i]? = some r) (hnh : ∀ v, r ≠ .heavy v) (hnm : ∀ v B, r ≠ .made v B) {v : Value} (hv : R ρ ω r.val v) :
    RInv ω ops a A recs hs ρ₀ w₀ (plus L i) k (act.put o.dst v) w ρ := by
  have hF : Fl recs A.next (plus L i) (stageOf ⟨A.mem, A.next + ops.toList.length⟩ hs k).inc = Fl recs A.next L (stageOf ⟨A.mem, A.next + ops.toList.length⟩ hs k).inc := by
    funext b
    unfold Fl
    split
    · rename_i u B hrb
      have : b - A.next ≠ i := by intro e; rw [e, hr] at hrb; cases hrb; exact hnm _ _ rfl
      have e : plus L i (b - A.next) = L (b - A.next) := by simp [plus, this]
      rw [e]
    · rfl
  refine ⟨closed_plus h.closed ho hed, h.kle, fun j st hst => ?_, by rw [hF]; exact h.rel, h.nn, h.big, fun q hq hLq => h.unl q hq ?_, by rw [hF]; exact h.ev, ?_, ?_, slot_put hc.uniq (.refl _) h.slot h.size ho hr hv, fun q hq => plus_iff.2 (.inl (h.incL q hq))⟩
  · rw [plus_iff, ← h.pref j st hst]
    constructor
    · rintro (h1 | h1)
      · exact h1
      · obtain ⟨u, hu⟩ := hc.heavy j st hst
        rw [h1, hr] at hu; cases hu; exact absurd rfl (hnh _)
    · exact .inl
  · cases hLq' : L q with
    | false => rfl
    | true => rw [plus_iff.2 (.inl hLq')] at hLq; cases hLq
  · cases o.dst <;> simp [Act.put, h.size]
  · cases o.dst <;> exact h.defers

/-- one more that makes a block -/
theorem RInv.made (hc : Canon P call ops a A recs hs) {ρ₀ ρ : Nat → Option Spot} {w₀ w : World} {L : Nat → Bool} {k : Nat} {act : Act} (h : RInv ω ops a A recs hs ρ₀ w₀ L k act w ρ) {i : Nat} {o : Oper} (ho : ops.toList[i]? = some o) (hL : L i = false)
    (hed : ∀ e ∈ o.after.toList, Region.binds .any e = true → L e.on = true) {x : AV} {B : Blk} (hr : recs[i]? = some (.made x B)) {v : Value} {o' : Obj} {sp : Spot} (hsp : sp.block = w.heap.size) (hB : BR ρ ω sp B o')
    (hx : ∀ ρ', Le ρ ρ' → ρ' (A.next + i) = some sp → R ρ' ω x v) :
    ∃ ρ', RInv ω ops a A recs hs ρ₀ w₀ (plus L i) k (act.put o.dst v) { w with heap := w.heap.push o' } ρ' := by
  have hilen : i < ops.toList.length := (List.getElem?_eq_some_iff.1 ho).1
  have hinc : (stageOf ⟨A.mem, A.next + ops.toList.length⟩ hs k).inc.testBit i = false := by
    cases hb : (stageOf ⟨A.mem, A.next + ops.toList.length⟩ hs k).inc.testBit i with
    | false => rfl
    | true => rw [h.incL i hb] at hL; cases hL
  obtain ⟨h1, h2⟩ := h.rel.fresh (A.next + i) (h.unl i hilen hL) B o' sp hsp hB
  have hF : (fun b => if b = A.next + i then some B else ov (Fl recs A.next L (stageOf ⟨A.mem, A.next + ops.toList.length⟩ hs k).inc) (stageOf ⟨A.mem, A.next + ops.toList.length⟩ hs k).A.mem.get b) =
      ov (Fl recs A.next (plus L i) (stageOf ⟨A.mem, A.next + ops.toList.length⟩ hs k).inc) (stageOf ⟨A.mem, A.next + ops.toList.length⟩ hs k).A.mem.get := by
    funext b
    by_cases hb : b = A.next + i
    · subst hb
      rw [if_pos rfl]
      unfold ov
      rw [Fl_mk hr (plus_iff.2 (.inr rfl)) hinc]
    · rw [if_neg hb]
      have : Fl recs A.next (plus L i) (stageOf ⟨A.mem, A.next + ops.toList.length⟩ hs k).inc b = Fl recs A.next L (stageOf ⟨A.mem, A.next + ops.toList.length⟩ hs k).inc b := by
        unfold Fl
        split
        · rename_i u C hrb
          by_cases hle : A.next ≤ b
          · have hne : b - A.next ≠ i := by omega
            have e : plus L i (b - A.next) = L (b - A.next) := by simp [plus, hne]
            rw [e]
          · simp [hle]
        · rfl
      unfold ov; rw [this]
  rw [hF] at h1 h2
  refine ⟨_, closed_plus h.closed ho hed, h.kle, fun j st hst => ?_, h1, ⟨h.nn.le, fun b hb => ?_, fun b t hb => ?_⟩, h.big, fun q hq hLq => ?_, h.ev.trans h2, ?_, ?_, slot_put hc.uniq h2.le h.slot h.size ho hr (hx _ h2.le (by simp)), fun q hq => plus_iff.2 (.inl (h.incL q hq))⟩
  · rw [plus_iff, ← h.pref j st hst]
    constructor
    · rintro (h1 | h1)
      · exact h1
      · obtain ⟨u, hu⟩ := hc.heavy j st hst
        rw [h1, hr] at hu; cases hu
    · exact .inl
  · have : b ≠ A.next + i := by omega
    simp [this]; exact h.nn.same b hb
  · by_cases e : b = A.next + i
    · subst e; have := h.big; omega
    · simp [e] at hb; exact h.nn.nm b t hb
  · have hqi : q ≠ i := by intro e; subst e; rw [plus_iff.2 (.inr rfl)] at hLq; cases hLq
    have : A.next + q ≠ A.next + i := by omega
    simp only [this, if_false]
    refine h.unl q hq ?_
    cases hLq' : L q with
    | false => rfl
    | true => rw [plus_iff.2 (.inl hLq')] at hLq; cases hLq
  · cases o.dst <;> simp [Act.put, h.size]
  · cases o.dst <;> exact h.defers

end
end Go.Proofs.YtagmkceblklgaaaGreat.Ex
