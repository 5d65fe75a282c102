/-
  A REGION THAT DRAWS ITS ORDER (last part); then code and calls: what the runner says of a call, the model's call comes to.
  Conditions: the values that are not known are of one cell; the summaries are sound; no function bears the runtime's name.
-/
import Derived.Test.YtagmkceblklgaaaGreatEx14
namespace Go.Proofs.YtagmkceblklgaaaGreat.Ex
section
variable {P : Program} {ω : Env} {call : CallF} {ops : Array Oper} {a : AA} {A : St} {recs : List Rec} {hs : List Stage}

theorem RInv.bef {ρ₀ ρ : Nat → Option Spot} {w₀ w : World} {L : Nat → Bool} {k : Nat} {act : Act} (h : RInv ω ops a A recs hs ρ₀ w₀ L k act w ρ) {i : Nat} {o : Oper} (ho : ops.toList[i]? = some o)
    (hed : ∀ e ∈ o.after.toList, Region.binds .any e = true → L e.on = true) {j : Nat} (hb : bit (befsF ops.toList []) i j = true) : L j = true :=
  bef_closed h.closed i o ho hed j hb

theorem RInv.turn_le (hc : Canon P call ops a A recs hs) {ρ₀ ρ : Nat → Option Spot} {w₀ w : World} {L : Nat → Bool} {k : Nat} {act : Act} (h : RInv ω ops a A recs hs ρ₀ w₀ L k act w ρ) {i : Nat} {o : Oper} (ho : ops.toList[i]? = some o)
    (hed : ∀ e ∈ o.after.toList, Region.binds .any e = true → L e.on = true) {j : Nat} {st : Stage} (hj : hs[j]? = some st) (hi : st.i = i) : j ≤ k := by
  cases j with
  | zero => exact Nat.zero_le _
  | succ j =>
    have hlt := (List.getElem?_eq_some_iff.1 hj).1
    have hj0 : hs[j]? = some hs[j] := List.getElem?_eq_getElem (by omega)
    have hb := chained_spec hs hc.chain j _ st hj0 hj
    rw [hi] at hb
    have := (h.pref j _ hj0).1 (h.bef ho hed hb)
    omega

/-- one more that turns memory -/
theorem RInv.turn (hω : ∀ n, oneV (ω.val n) = true) (hcall : Sound P ω call) (hc : Canon P call ops a A recs hs) {ρ₀ ρ : Nat → Option Spot} {w₀ w : World} {L : Nat → Bool} {k : Nat} {act : Act} (h : RInv ω ops a A recs hs ρ₀ w₀ L k act w ρ) {i : Nat} {o : Oper}
    (ho : ops.toList[i]? = some o) (hL : L i = false) (hed : ∀ e ∈ o.after.toList, Region.binds .any e = true → L e.on = true) {x : AV} (hr : recs[i]? = some (.heavy x))
    (hspec : ∃ k st, hs[k]? = some st ∧ st.i = i ∧ st.inc = (layIn (befsF ops.toList []) i A.next (stageOf ⟨A.mem, A.next + ops.toList.length⟩ hs k).inc (recs.take i) 0 (stageOf ⟨A.mem, A.next + ops.toList.length⟩ hs k).A).1 ∧
      stepHeavy P call (envAt ops.toList (befsF ops.toList []) a (recs.take i) i) (layIn (befsF ops.toList []) i A.next (stageOf ⟨A.mem, A.next + ops.toList.length⟩ hs k).inc (recs.take i) 0 (stageOf ⟨A.mem, A.next + ops.toList.length⟩ hs k).A).2 o = some (x, st.A))
    {K : Act → World → Prop} {Q : Exit → Act → World → Prop} (hK : ∀ act' w' ρ', RInv ω ops a A recs hs ρ₀ w₀ (plus L i) (k + 1) act' w' ρ' → K act' w') : o.wp P act w K Q := by
  obtain ⟨k', st, hst, hsti, hinc, hstep⟩ := hspec
  have hk : k' = k := by
    have h1 := h.turn_le hc ho hed hst hsti
    have h2 : ¬ k' < k := by
      intro hlt
      have := (h.pref k' st hst).2 hlt
      rw [hsti, hL] at this; cases this
    omega
  subst hk
  have hklt : k' < hs.length := (List.getElem?_eq_some_iff.1 hst).1
  obtain ⟨hnx, hget, hincs⟩ := layIn_spec (bm := befsF ops.toList []) (base := A.next) i (stageOf ⟨A.mem, A.next + ops.toList.length⟩ hs k').inc (recs.take i) 0 (stageOf ⟨A.mem, A.next + ops.toList.length⟩ hs k').A
  have hnext : stageOf (⟨A.mem, A.next + ops.toList.length⟩ : St) hs (k' + 1) = st := by simp [stageOf, hst]
  generalize hS : stageOf (⟨A.mem, A.next + ops.toList.length⟩ : St) hs k' = S at *
  generalize hlay : layIn (befsF ops.toList []) i A.next S.inc (recs.take i) 0 S.A = lay at *
  have htk : ∀ {q : Nat} {r : Rec}, (recs.take i)[q]? = some r → recs[q]? = some r := by
    intro q r hq
    rw [List.getElem?_take] at hq
    split at hq
    · exact hq
    · cases hq
  have hap : ∀ {q : Nat} {v : AV} {B : Blk}, recs[q]? = some (.made v B) → S.inc.testBit q = false → S.A.mem.get (A.next + q) = none := by
    intro q v B hq hi
    have := hc.apartStage (k := k') h.kle hq (by rw [hS]; exact hi)
    rw [hS] at this; exact this
  have hrel := h.rel
  have hbig := h.big
  have hnn := h.nn
  have hevv := h.ev
  have hincL := h.incL
  rw [hS] at hrel hbig hnn hevv hincL
  have hsub : ∀ b C, lay.2.mem.get b = some C → ov (Fl recs A.next L S.inc) S.A.mem.get b = some C := by
    intro b C hb
    rcases hget b C hb with ⟨q, v, hq, rfl, hbit, hi⟩ | ⟨hA, _⟩
    · simp only [Nat.zero_add] at hbit hi ⊢
      unfold ov
      rw [Fl_mk (htk hq) (h.bef ho hed hbit) hi]
    · unfold ov
      cases hF : Fl recs A.next L S.inc b with
      | none => exact hA
      | some D =>
        obtain ⟨q, v, rfl, hq, _, hi⟩ := Fl_some hF
        rw [hap hq hi] at hA; cases hA
  refine stepHeavy_wp hω hcall (hrel.weaken hsub) (by rw [hnx]; exact hnn.nm) (h.env ho hL hed) hstep fun v w' hout => ?_
  obtain ⟨ρ', hv, hrel', hnn', hev'⟩ := hout
  refine hK _ w' ρ' ?_
  rw [hnx] at hnn'
  -- a block that is still to be laid in was there before, and is none of those that were looked at
  have hF' : ∀ b B, Fl recs A.next (plus L i) st.inc b = some B → Fl recs A.next L S.inc b = some B ∧ lay.2.mem.get b = none := by
    intro b B hb
    obtain ⟨q, u, rfl, hq, hLq, hi⟩ := Fl_some hb
    have hqi : q ≠ i := by intro e; subst e; rw [hr] at hq; cases hq
    have hLq' : L q = true := (plus_iff.1 hLq).resolve_right hqi
    have hSi : S.inc.testBit q = false := by
      cases hs' : S.inc.testBit q with
      | false => rfl
      | true => rw [hinc, (hincs q).2 (.inl hs')] at hi; cases hi
    refine ⟨Fl_mk hq hLq' hSi, ?_⟩
    cases hl : lay.2.mem.get (A.next + q) with
    | none => rfl
    | some C =>
      rcases hget _ C hl with ⟨q', u', hq', he, hbit, _⟩ | ⟨hA, _⟩
      · have : q' = q := by omega
        subst this
        simp only [Nat.zero_add] at hbit
        rw [hinc, (hincs q').2 (.inr ⟨q', u', C, hq', by omega, hbit⟩)] at hi; cases hi
      · rw [hap hq hSi] at hA; cases hA
  have hov : ∀ b B, Fl recs A.next L S.inc b = some B → ov (Fl recs A.next L S.inc) S.A.mem.get b = some B := fun b B hb => by unfold ov; rw [hb]
  have hno : ∀ b B s, Fl recs A.next (plus L i) st.inc b = some B → ρ b = some s → ∀ b₁ B₁ s₁, lay.2.mem.get b₁ = some B₁ → ρ b₁ = some s₁ → s₁.block ≠ s.block := by
    intro b B s hb hs₀ b₁ B₁ s₁ hb₁ hs₁ e
    obtain ⟨h1, h2⟩ := hF' b B hb
    have := hrel.inj b₁ b B₁ B s₁ s (hsub _ _ hb₁) (hov _ _ h1) hs₁ hs₀ e
    subst this
    rw [h2] at hb₁; cases hb₁
  have hblk : ∀ b B, Fl recs A.next (plus L i) st.inc b = some B → ∃ s o, ρ b = some s ∧ s.block < w.heap.size ∧ w'.heap[s.block]? = some o ∧ BR ρ ω s B o := by
    intro b B hb
    obtain ⟨h1, h2⟩ := hF' b B hb
    obtain ⟨s, o', q1, q2, q3⟩ := hrel.blk b B (hov _ _ h1)
    have hlt := lt_of_heap q2
    exact ⟨s, o', q1, hlt, by rw [hev'.keep _ hlt (fun b₁ B₁ s₁ hb₁ hs₁ => hno b B s hb q1 b₁ B₁ s₁ hb₁ hs₁)]; exact q2, q3⟩
  have hrelN : Rel ρ' ω (ov (Fl recs A.next (plus L i) st.inc) st.A.mem.get) w' := by
    refine ⟨fun b B hb => ?_, fun b b' B B' s s' hb hb' hs₀ hs₁ e => ?_, hrel'.size, hrel'.old, fun b B s hb hs₀ => ?_⟩
    · unfold ov at hb
      split at hb
      · rename_i C hC; cases hb
        obtain ⟨s, o', q1, _, q2, q3⟩ := hblk b B hC
        exact ⟨s, o', hev'.le _ _ q1, q2, q3.mono hev'.le⟩
      · exact hrel'.blk b B hb
    · have key : ∀ b b' B B' s s', Fl recs A.next (plus L i) st.inc b = some B → Fl recs A.next (plus L i) st.inc b' = none → st.A.mem.get b' = some B' → ρ' b = some s → ρ' b' = some s' → s.block = s'.block → False := by
        intro b b' B B' s s' hb _ hb' hs₀ hs₁ e
        obtain ⟨t, o', q1, q0, _, _⟩ := hblk b B hb
        have : t = s := by have := hev'.le _ _ q1; rw [hs₀] at this; cases this; rfl
        subst this
        obtain ⟨b₀, B₀, s₀, p1, p2, p3⟩ := hev'.old b' B' s' hb' hs₁ (by rw [← e]; exact q0)
        exact hno b B t hb q1 b₀ B₀ s₀ p1 p2 (by rw [p3, e])
      unfold ov at hb hb'
      split at hb
      · rename_i C hC; cases hb
        split at hb'
        · rename_i C' hC'; cases hb'
          obtain ⟨t, _, q1, _⟩ := hblk b B hC
          obtain ⟨t', _, q1', _⟩ := hblk b' B' hC'
          have e1 : t = s := by have := hev'.le _ _ q1; rw [hs₀] at this; cases this; rfl
          have e2 : t' = s' := by have := hev'.le _ _ q1'; rw [hs₁] at this; cases this; rfl
          subst e1; subst e2
          exact hrel.inj b b' B B' t t' (hov _ _ (hF' b B hC).1) (hov _ _ (hF' b' B' hC').1) q1 q1' e
        · rename_i hC'
          exact (key b b' B B' s s' hC hC' hb' hs₀ hs₁ e).elim
      · rename_i hC
        split at hb'
        · rename_i C' hC'; cases hb'
          exact (key b' b B' B s' s hC' hC hb hs₁ hs₀ e.symm).elim
        · exact hrel'.inj b b' B B' s s' hb hb' hs₀ hs₁ e
    · unfold ov at hb
      split at hb
      · rename_i C hC; cases hb
        obtain ⟨t, _, q1, _⟩ := hblk b B hC
        have e1 : t = s := by have := hev'.le _ _ q1; rw [hs₀] at this; cases this; rfl
        subst e1
        exact hrel.new b B t (hov _ _ (hF' b B hC).1) q1
      · exact hrel'.new b B s hb hs₀
  have hevN : Ev ρ (ov (Fl recs A.next L S.inc) S.A.mem.get) w ρ' (ov (Fl recs A.next (plus L i) st.inc) st.A.mem.get) w' := by
    refine ⟨hev'.le, hev'.size, fun j hj hno' => hev'.keep j hj fun b B s hb hs₀ => hno' b B s (hsub _ _ hb) hs₀, fun b B s hb hs₀ hlt => ?_, hev'.os, hev'.tape, hev'.output⟩
    unfold ov at hb
    split at hb
    · rename_i C hC; cases hb
      obtain ⟨t, _, q1, _⟩ := hblk b B hC
      have e1 : t = s := by have := hev'.le _ _ q1; rw [hs₀] at this; cases this; rfl
      subst e1
      exact ⟨b, B, t, hov _ _ (hF' b B hC).1, q1, rfl⟩
    · obtain ⟨b₀, B₀, s₀, p1, p2, p3⟩ := hev'.old b B s hb hs₀ hlt
      exact ⟨b₀, B₀, s₀, hsub _ _ p1, p2, p3⟩
  refine ⟨closed_plus h.closed ho hed, by omega, fun j st' hst' => ?_, by rw [hnext]; exact hrelN, by rw [hnext]; exact hnn.trans hnn', by rw [hnext]; exact Nat.le_trans hbig hnn'.le, fun q hq hLq => ?_, by rw [hnext]; exact hevv.trans hevN, ?_, ?_,
    slot_put hc.uniq hev'.le h.slot h.size ho hr hv, fun q hq => ?_⟩
  · rw [plus_iff, h.pref j st' hst']
    constructor
    · rintro (h1 | h1)
      · omega
      · have := h.turn_le hc ho hed hst' h1; omega
    · intro hj
      by_cases e : j < k'
      · exact .inl e
      · have : j = k' := by omega
        subst this
        rw [hst] at hst'; cases hst'
        exact .inr hsti
  · have hLq' : L q = false := by
      cases e : L q with
      | false => rfl
      | true => rw [plus_iff.2 (.inl e)] at hLq; cases hLq
    rw [hnn'.same _ (by omega)]
    exact h.unl q hq hLq'
  · cases o.dst <;> simp [Act.put, h.size]
  · cases o.dst <;> exact h.defers
  · rw [hnext, hinc] at hq
    rcases (hincs q).1 hq with h1 | ⟨p, u, C, hp, rfl, hbit⟩
    · exact plus_iff.2 (.inl (hincL q h1))
    · simp only [Nat.zero_add] at hbit
      exact plus_iff.2 (.inl (h.bef ho hed (by simpa using hbit)))

/-- how many are not listed -/
def unlisted (listed : Array Bool) : Nat := listed.toList.count false
theorem count_set : ∀ (l : List Bool) (i : Nat), l[i]? = some false → (l.set i true).count false + 1 = l.count false
  | [], i, h => by simp at h
  | b :: l, 0, h => by simp at h; subst h; simp
  | b :: l, i + 1, h => by
    have := count_set l i (by simpa using h)
    simp only [List.set_cons_succ, List.count_cons]
    omega

theorem region_any (hω : ∀ n, oneV (ω.val n) = true) (hcall : Sound P ω call) (hc : Canon P call ops a A recs hs) {ρ₀ : Nat → Option Spot} {w₀ : World} {Q : Exit → Act → World → Prop}
    (hQ : ∀ act w ρ, RInv ω ops a A recs hs ρ₀ w₀ (fun i => decide (i < ops.toList.length)) hs.length act w ρ → Q .normal act w) :
    ∀ (fuel : Nat) (listed : Array Bool) (L : Nat → Bool) (k : Nat) (act : Act) (w : World) (ρ : Nat → Option Spot), listed.size = ops.size → (∀ i, L i = listed.getD i false) → unlisted listed ≤ fuel →
      RInv ω ops a A recs hs ρ₀ w₀ L k act w ρ → wpAny P .any ops Q fuel listed act w := by
  have hfin : ∀ (listed : Array Bool) (L : Nat → Bool) (k : Nat) (act : Act) (w : World) (ρ : Nat → Option Spot), listed.size = ops.size → (∀ i, L i = listed.getD i false) → (∀ i, i < ops.size → L i = true) →
      RInv ω ops a A recs hs ρ₀ w₀ L k act w ρ → Q .normal act w := by
    intro listed L k act w ρ hsz hL hall h
    have hLe : L = fun i => decide (i < ops.toList.length) := by
      funext i
      by_cases hi : i < ops.size
      · rw [hall i hi]; simp [hi]
      · rw [hL i]; simp [Array.getD, hsz, hi]
    have hk : k = hs.length := by
      rcases Nat.lt_or_ge k hs.length with hlt | hge
      · have hst : hs[k]? = some hs[k] := List.getElem?_eq_getElem hlt
        obtain ⟨v, hv⟩ := hc.heavy k _ hst
        have hlt' : hs[k].i < ops.size := by have := (List.getElem?_eq_some_iff.1 hv).1; rw [hc.len] at this; simpa using this
        have := (h.pref k _ hst).1 (hall _ hlt')
        omega
      · have := h.kle; omega
    subst hLe; subst hk
    exact hQ act w ρ h
  have hprog : ∀ (listed : Array Bool) (L : Nat → Bool), listed.size = ops.size → (∀ i, L i = listed.getD i false) → Region.ready .any ops listed = [] → ∀ i, i < ops.size → L i = true := by
    intro listed L hsz hL hr i
    induction i using Nat.strongRecOn with
    | _ i ih =>
      intro hi
      cases hLi : L i with
      | true => rfl
      | false =>
        exfalso
        have hmem : i ∈ Region.ready .any ops listed := by
          rw [mem_ready]
          have hlt : i < listed.size := by omega
          refine ⟨?_, ops[i], by simp [hi], fun e he hb => ?_⟩
          · have := hL i; rw [hLi] at this; simp [Array.getD, hlt] at this ⊢; exact this
          · have hdn := edgesDown_spec ops.toList 0 hc.down i ops[i] (by simp [hi]) e (by simpa using he) hb
            rw [← hL]; exact ih e.on (by omega) (by omega)
        rw [hr] at hmem; cases hmem
  intro fuel
  induction fuel with
  | zero =>
    intro listed L k act w ρ hsz hL hu h
    have hall : ∀ i, i < ops.size → L i = true := by
      intro i hi
      have h0 : listed.toList.count false = 0 := by unfold unlisted at hu; omega
      rw [List.count_eq_zero] at h0
      rw [hL i]
      have hlt : i < listed.size := by omega
      cases hg : listed[i] with
      | true => simp [Array.getD, hlt, hg]
      | false => exact absurd (by rw [← hg]; simp [Array.getElem_mem]) h0
    refine ⟨?_, hfin listed L k act w ρ hsz hL hall h⟩
    cases hr : Region.ready .any ops listed with
    | nil => rfl
    | cons i l =>
      have hm : i ∈ Region.ready .any ops listed := by rw [hr]; simp
      rw [mem_ready] at hm
      obtain ⟨h1, o, h2, _⟩ := hm
      have hi : i < ops.size := (Array.getElem?_eq_some_iff.1 h2).1
      have hlt : i < listed.size := by omega
      have := hall i hi
      rw [hL i] at this
      simp [Array.getD, hlt] at h1 this
      rw [this] at h1; cases h1
  | succ fuel ih =>
    intro listed L k act w ρ hsz hL hu h
    refine ⟨fun hr => hfin listed L k act w ρ hsz hL (hprog listed L hsz hL hr) h, fun i hi => ?_⟩
    rw [mem_ready] at hi
    obtain ⟨hli, o, ho, hed⟩ := hi
    have hil : i < ops.size := (Array.getElem?_eq_some_iff.1 ho).1
    have hilt : i < listed.size := by omega
    have ho' : ops.toList[i]? = some o := by simpa using ho
    have hLi : L i = false := by rw [hL i]; simp [Array.getD, hilt] at hli ⊢; exact hli
    have hed' : ∀ e ∈ o.after.toList, Region.binds .any e = true → L e.on = true := fun e he hb => by rw [hL]; exact hed e (by simpa using he) hb
    have hnext : ∀ k' act' w' ρ', RInv ω ops a A recs hs ρ₀ w₀ (plus L i) k' act' w' ρ' → wpAny P .any ops Q fuel (listed.setIfInBounds i true) act' w' := by
      intro k' act' w' ρ' h'
      refine ih _ (plus L i) k' act' w' ρ' (by simp [hsz]) (fun j => ?_) ?_ h'
      · unfold plus
        rw [hL j]
        by_cases hj : j = i
        · subst hj; simp [Array.getD, hilt]
        · have : (listed.setIfInBounds i true).getD j false = listed.getD j false := getD_set_ne false (Ne.symm hj)
          rw [this]; simp [hj]
      · unfold unlisted at hu ⊢
        rw [Array.toList_setIfInBounds]
        have := count_set listed.toList i (by simp [hilt]; simp [Array.getD, hilt] at hli; exact hli)
        omega
    obtain ⟨r, hr, hspec⟩ := hc.rec_ i o ho'
    unfold wpOp
    simp only [ho]
    cases r with
    | skip =>
      have hw := h.wanted ho' hLi hed' hspec
      rw [hw]
      simp only [Bool.false_eq_true, if_false]
      exact hnext k _ w ρ (h.more hc ho' hLi hed' hr (fun v h => by cases h) (fun v B h => by cases h) (.lit _))
    | light x =>
      have hw := h.wanted ho' hLi hed' hspec
      rw [hw]
      simp only [if_true]
      refine .inl ?_
      have hal : allowed (befsF ops.toList []) i k hs 0 = true := by
        refine allowed_spec hs 0 fun j st hst => ⟨fun hb => ?_, fun hb => ?_⟩
        · have := (h.pref j st hst).1 (h.bef ho' hed' hb); omega
        · by_cases e : k ≤ j
          · omega
          · exfalso
            have hLs := (h.pref j st hst).2 (by omega)
            obtain ⟨v, hv⟩ := hc.heavy j st hst
            have hlt : st.i < ops.toList.length := by have := (List.getElem?_eq_some_iff.1 hv).1; rw [hc.len] at this; exact this
            have := h.bef (List.getElem?_eq_getElem hlt) (h.closed st.i _ (List.getElem?_eq_getElem hlt) hLs) hb
            rw [hLi] at this; cases this
      have hlight := steady_spec ops.toList 0 hc.steady i o x ho' (by simpa using hr) k h.kle (by simpa using hal)
      simp only [Nat.zero_add] at hlight
      exact light_wp hω (h.weak hc) (h.env ho' hLi hed') hlight fun v hv => hnext k _ w ρ (h.more hc ho' hLi hed' hr (fun v h => by cases h) (fun v B h => by cases h) hv)
    | made x B =>
      obtain ⟨hwt, hm⟩ := hspec
      have hw := h.wanted ho' hLi hed' hwt
      rw [hw]
      simp only [if_true]
      refine .inl ?_
      obtain ⟨v, o', sp, h1, h2, h3, h4⟩ := maker_ok hω (h.env ho' hLi hed') (w := w) hm
      obtain ⟨ρ', h'⟩ := h.made hc ho' hLi hed' hr h2 h3 h4
      unfold Oper.wp
      rw [h1]
      exact hnext k _ _ ρ' h'
    | heavy x =>
      obtain ⟨hwt, hsp⟩ := hspec
      have hw := h.wanted ho' hLi hed' hwt
      rw [hw]
      simp only [if_true]
      exact .inl (h.turn hω hcall hc ho' hLi hed' hr hsp fun act' w' ρ' h' => hnext (k + 1) act' w' ρ' h')

end
end Go.Proofs.YtagmkceblklgaaaGreat.Ex
