/-
  A STEP, AND OPERATIONS ONE BEHIND THE OTHER, ARE THE MODEL's.
  Conditions: the values that are not known are of one cell; the calls are sound.
-/
import Derived.Test.YtagmkceblklgaaaGreatEx11
namespace Go.Proofs.YtagmkceblklgaaaGreat.Ex
section
variable {P : Program} {ω : Env}

/-- a call comes to R -/
def Runs (P : Program) (f : FuncId) (args : Array Value) (w : World) (R : Value → World → Prop) : Prop :=
  match (callFunc f args).run P w with
  | .ok (.value v) w' => R v w'
  | .ok (.enter g as) w' => Calls P g as w' fun
    | .returned v, w'' => R v w''
    | _, _ => False
  | _ => False

abbrev CallF := FuncId → List AV → St → Option (AV × St)
def Sound (P : Program) (ω : Env) (call : CallF) : Prop :=
  ∀ f args A x A', call f args A = some (x, A') → ∀ ρ w cargs, Rel ρ ω A.mem.get w → Nm ρ A.next → RL ρ ω args cargs.toList → Runs P f cargs w (HOut ρ ω A w x A')

theorem upon_of_runs {f : FuncId} {args : Array Value} {w : World} {R : Value → World → Prop} (h : Runs P f args w R) {o : Oper} {a : Act} {K : Act → World → Prop} {Q : Exit → Act → World → Prop}
    (he : (execOp a.eval o).run P w = (callFunc f args).run P w) (hK : ∀ v w', R v w' → K (a.put o.dst v) w') : o.wp P a w K Q := by
  unfold Oper.wp
  rw [he]
  unfold Runs at h
  split at h
  · rename_i v w' hr; rw [hr]; exact hK v w' h
  · rename_i g as w' hr; rw [hr]
    rw [Oper.upon_enter]
    refine h.mono fun e w'' he => ?_
    cases e <;> first
      | exact hK _ _ he
      | exact he.elim
  · exact h.elim

theorem callee_ok {ρ : Nat → Option Spot} {ev : Operand → Option AV} {e : Operand → Value} (hev : Evs ρ ω ev e) {o : Oper} {f : FuncId} {args : List AV} (h : callee ev o = some (f, args)) (w : World) :
    ∃ cargs, (execOp e o).run P w = (callFunc f cargs).run P w ∧ RL ρ ω args cargs.toList := by
  unfold callee at h
  split at h
  · rename_i c ho
    split at h
    · rename_i fo hc
      simp only [Option.bind_eq_some_iff] at h
      obtain ⟨v, hv, h⟩ := h
      have hr := hev _ _ hv
      split at h
      · rename_i k l m
        simp only [Option.bind_eq_some_iff] at h
        obtain ⟨as, has, h⟩ := h
        cases h
        obtain ⟨l', m', hef, hl, hm⟩ := hr.of_fn
        have h1 := evs_ok hev has
        refine ⟨l' ++ c.args.map e ++ m', ?_, ?_⟩
        · simp [execOp, ho, resolve, hc, hef, Deferred.ofValue, invoke]
        · have := (hl.append h1).append hm
          simpa using this
      · rename_i k l m
        simp only [Option.bind_eq_some_iff] at h
        obtain ⟨as, has, h⟩ := h
        cases h
        have hef := hr.lit_inv
        have h1 := evs_ok hev has
        refine ⟨l ++ c.args.map e ++ m, ?_, ?_⟩
        · simp [execOp, ho, resolve, hc, hef, Deferred.ofValue, invoke]
        · have := ((RL.lits (ρ := ρ) (ω := ω) l.toList).append h1).append (RL.lits m.toList)
          simpa using this
      · cases h
    · cases h
  · cases h

/-- temporaries -/
structure RA (ρ : Nat → Option Spot) (ω : Env) (a : AA) (act : Act) : Prop where
  size : act.tmps.size = a.n
  defers : act.defers = []
  slot : ∀ t x, a.tmps.get t = some x → R ρ ω x (act.tmps.getD t undef)

theorem RA.mono {ρ ρ' : Nat → Option Spot} {a : AA} {act : Act} (hl : Le ρ ρ') (h : RA ρ ω a act) : RA ρ' ω a act := ⟨h.size, h.defers, fun t x e => (h.slot t x e).mono hl⟩
theorem RA.evs {ρ : Nat → Option Spot} {a : AA} {act : Act} (h : RA ρ ω a act) : Evs ρ ω a.ev act.eval := by
  intro x v hx
  cases x with
  | tmp t => exact h.slot t v hx
  | const u => simp [AA.ev] at hx; subst hx; exact .lit u
  | global g => simp [AA.ev] at hx
  | func f => simp [AA.ev] at hx; subst hx; exact .fn rfl (fun i x v h => by simp at h) rfl (fun i x v h => by simp at h)

theorem getD_set (ts : Array Value) (d t : Nat) (v : Value) (hd : d < ts.size) : (ts.setIfInBounds d v).getD t undef = if t = d then v else ts.getD t undef := by
  simp only [Array.getD_eq_getD_getElem?, Array.getElem?_setIfInBounds]
  by_cases h : d = t
  · subst h; simp [hd]
  · simp [h, Ne.symm h]

theorem RA.put {ρ : Nat → Option Spot} {a a' : AA} {act : Act} (h : RA ρ ω a act) {d : Option Tmp} {x : AV} {v : Value} (hp : a.put d x = some a') (hr : R ρ ω x v) : RA ρ ω a' (act.put d v) := by
  cases d with
  | none => simp [AA.put] at hp; subst hp; exact h
  | some t =>
    simp only [AA.put] at hp
    cases hb : Nat.ble (t + 1) a.n with
    | false => rw [hb] at hp; cases hp
    | true =>
      rw [hb] at hp; cases hp
      have hlt : t < act.tmps.size := by rw [h.size]; exact Nat.le_of_ble_eq_true hb
      refine ⟨by simp [Act.put, h.size], h.defers, fun u y hy => ?_⟩
      simp only [Tr.get_set] at hy
      simp only [Act.put]
      rw [getD_set _ _ _ _ hlt]
      by_cases hu : u = t
      · subst hu; rw [if_pos rfl] at hy ⊢; cases hy; exact hr
      · rw [if_neg hu] at hy ⊢; exact h.slot u y hy

theorem wanted_of {ρ : Nat → Option Spot} {ops : Array Oper} {act : Act} {j : Nat} {want b : Bool} {p : Oper} {d : Nat} {v : AV} (hp : ops[j]? = some p) (hd : p.dst = some d) (hr : R ρ ω v (act.tmps.getD d undef))
    (h : guardOf want v = some b) : (yielded ops act.tmps j == some want) = b := by
  unfold yielded
  simp only [hp, Option.bind_some, hd]
  cases v with
  | lit u =>
    have hu := hr.lit_inv
    rw [Array.getD_eq_getD_getElem?] at hu
    cases u with
    | bool c =>
      simp [guardOf] at h
      subst h
      cases hg : act.tmps[d]? with
      | none => rw [hg] at hu; simp [undef] at hu
      | some y => rw [hg] at hu; simp at hu; subst hu; simp
    | tuple c =>
      simp [guardOf] at h
      subst h
      cases hg : act.tmps[d]? with
      | none => simp
      | some y => rw [hg] at hu; simp at hu; subst hu; simp
    | _ => simp [guardOf] at h
  | _ => simp [guardOf] at h

theorem wants_ok {ρ : Nat → Option Spot} {ops : Array Oper} {a : AA} {act : Act} (ha : RA ρ ω a act) {o : Oper} {b : Bool} (h : wants ops a o = some b) : Region.wanted o (yielded ops act.tmps) = b := by
  unfold wants at h
  unfold Region.wanted
  split at h
  · rename_i hg; rw [hg]; cases h; rfl
  · rename_i j want hg
    rw [hg]
    simp only [Option.bind_eq_some_iff] at h
    obtain ⟨p, hp, d, hd, v, hv, h⟩ := h
    exact wanted_of hp hd (ha.slot d v hv) h

/-- a world on the way from another -/
def At (ω : Env) (ρ₀ : Nat → Option Spot) (A₀ : St) (w₀ : World) (a : AA) (A : St) (act : Act) (w : World) : Prop :=
  ∃ ρ, Rel ρ ω A.mem.get w ∧ Nn ρ₀ A₀.next ρ A.next ∧ Ev ρ₀ A₀.mem.get w₀ ρ A.mem.get w ∧ RA ρ ω a act

theorem light_wp (hω : ∀ n, oneV (ω.val n) = true) {ρ : Nat → Option Spot} {g : Nat → Option Blk} {w : World} (hg : Rel ρ ω g w) {ev : Operand → Option AV} {act : Act} (hev : Evs ρ ω ev act.eval) {o : Oper} {x : AV} (h : light P g ev o = some x)
    {K : Act → World → Prop} {Q : Exit → Act → World → Prop} (hK : ∀ v, R ρ ω x v → K (act.put o.dst v) w) : o.wp P act w K Q := by
  obtain ⟨v, hv, hr⟩ := light_ok hω hg hev h
  unfold Oper.wp
  rw [hv]
  exact hK v hr

theorem stepHeavy_wp (hω : ∀ n, oneV (ω.val n) = true) {call : CallF} (hcall : Sound P ω call) {ρ : Nat → Option Spot} {A : St} {w : World} (hg : Rel ρ ω A.mem.get w) (hn : Nm ρ A.next) {ev : Operand → Option AV} {act : Act} (hev : Evs ρ ω ev act.eval)
    {o : Oper} {x : AV} {A' : St} (h : stepHeavy P call ev A o = some (x, A')) {K : Act → World → Prop} {Q : Exit → Act → World → Prop} (hK : ∀ v w', HOut ρ ω A w x A' v w' → K (act.put o.dst v) w') : o.wp P act w K Q := by
  unfold stepHeavy at h
  split at h
  · rename_i f args hc
    obtain ⟨cargs, he, hrl⟩ := callee_ok (P := P) hev hc w
    exact upon_of_runs (hcall f args A x A' h ρ w cargs hg hn hrl) he hK
  · obtain ⟨n, v, w', hr, hn', ho⟩ := heavy_ok hω hg hn hev h
    unfold Oper.wp
    rw [hr]
    rcases hn' with rfl | ⟨rfl, rfl⟩
    · exact hK v w' ho
    · exact hK _ w' ho

theorem At.of_hout {ρ₀ ρ : Nat → Option Spot} {A₀ A A' : St} {w₀ w w' : World} {a : AA} {x : AV} {v : Value} (hnn : Nn ρ₀ A₀.next ρ A.next) (hev : Ev ρ₀ A₀.mem.get w₀ ρ A.mem.get w) (h : HOut ρ ω A w x A' v w')
    {a' : AA} {act : Act} (ha : RA ρ ω a act) {d : Option Tmp} (hp : a.put d x = some a') : At ω ρ₀ A₀ w₀ a' A' (act.put d v) w' := by
  obtain ⟨ρ', hr, hrel, hn', he⟩ := h
  exact ⟨ρ', hrel, hnn.trans hn', hev.trans he, (ha.mono he.le).put hp hr⟩

theorem opsSeq_ok (hω : ∀ n, oneV (ω.val n) = true) {call : CallF} (hcall : Sound P ω call) {ops : Array Oper} {ρ₀ : Nat → Option Spot} {A₀ : St} {w₀ : World} {Q : Exit → Act → World → Prop} :
    ∀ (l : List Oper) (a : AA) (A : St) (a' : AA) (A' : St), opsSeq P call ops l a A = some (a', A') → (∀ act w, At ω ρ₀ A₀ w₀ a' A' act w → Q .normal act w) → ∀ act w, At ω ρ₀ A₀ w₀ a A act w → wpList P ops Q l act w
  | [], a, A, a', A', h, hQ, act, w, hat => by
    simp only [opsSeq] at h
    cases h
    exact hQ act w hat
  | o :: rest, a, A, a', A', h, hQ, act, w, hat => by
    obtain ⟨ρ, hrel, hnn, hev, ha⟩ := hat
    simp only [opsSeq, Option.bind_eq_some_iff] at h
    obtain ⟨wt, hwt, h⟩ := h
    have hw := wants_ok ha hwt
    simp only [wpList, hw]
    cases wt with
    | false =>
      simp only [cond_false, Option.bind_eq_some_iff] at h
      obtain ⟨a₁, ha₁, h⟩ := h
      simp only [Bool.false_eq_true, if_false]
      exact opsSeq_ok hω hcall rest a₁ A a' A' h hQ _ w ⟨ρ, hrel, hnn, hev, ha.put ha₁ (.lit undef)⟩
    | true =>
      simp only [cond_true, Option.bind_eq_some_iff] at h
      obtain ⟨d, hd, h⟩ := h
      simp only [if_true]
      refine .inl ?_
      unfold stepOp at hd
      have hheavy : ∀ x A₁, stepHeavy P call a.ev A o = some (x, A₁) → ((a.put o.dst x).bind fun a' => opsSeq P call ops rest a' A₁) = some (a', A') → o.wp P act w (wpList P ops Q rest) Q := by
        intro x A₁ hs h
        simp only [Option.bind_eq_some_iff] at h
        obtain ⟨a₁, ha₁, h⟩ := h
        exact stepHeavy_wp hω hcall hrel hnn.nm ha.evs hs fun v w' ho => opsSeq_ok hω hcall rest a₁ A₁ a' A' h hQ _ w' (At.of_hout hnn hev ho ha ha₁)
      split at hd
      · rename_i f args hc
        simp only [Option.bind_eq_some_iff] at hd
        obtain ⟨r, hr, hd⟩ := hd
        cases hd
        exact hheavy r.1 r.2 (by unfold stepHeavy; rw [hc]; exact hr) h
      · rename_i hc
        split at hd
        · rename_i v hv
          cases hd
          simp only [Option.bind_eq_some_iff] at h
          obtain ⟨a₁, ha₁, h⟩ := h
          exact light_wp hω hrel ha.evs hv fun u hu => opsSeq_ok hω hcall rest a₁ A a' A' h hQ _ w ⟨ρ, hrel, hnn, hev, ha.put ha₁ hu⟩
        · simp only [Option.bind_eq_some_iff] at hd
          obtain ⟨r, hr, hd⟩ := hd
          cases hd
          exact hheavy r.1 r.2 (by unfold stepHeavy; rw [hc]; exact hr) h

theorem argsIn_get : ∀ (l : List AV) (i : Nat) (t : Tr AV) (j : Nat), (argsIn l i t).get j = if i ≤ j ∧ j < i + l.length then l[j - i]? else t.get j
  | [], i, t, j => by simp [argsIn]; intro h1 h2; omega
  | x :: l, i, t, j => by
    simp only [argsIn, argsIn_get l (i + 1), Tr.get_set, List.length_cons]
    by_cases h1 : j = i
    · subst h1; simp; intro h; omega
    · by_cases h2 : i + 1 ≤ j ∧ j < i + 1 + l.length
      · rw [if_pos h2, if_pos (by omega)]
        rw [show j - i = j - (i + 1) + 1 by omega]; simp
      · rw [if_neg h2, if_neg h1, if_neg (by omega)]

theorem enter_ok {ρ : Nat → Option Spot} {fn : Func} {args : List AV} {cargs : Array Value} (h : RL ρ ω args cargs.toList) :
    RA ρ ω (Ex.enter fn args) { tmps := cargs ++ Array.replicate (fn.ntmps - cargs.size) undef, defers := [] } := by
  have hl : args.length = cargs.size := by simpa using h.1
  refine ⟨?_, rfl, fun t x hx => ?_⟩
  · simp only [Array.size_append, Array.size_replicate, Ex.enter, hl]
    show _ = max _ _
    omega
  · simp only [Ex.enter, argsIn_get] at hx
    split at hx
    · rename_i ht
      obtain ⟨v, hv, hr⟩ := h.get hx
      simp at hv
      have hlt : t < cargs.size := by omega
      have : (cargs ++ Array.replicate (fn.ntmps - cargs.size) undef).getD t undef = v := by
        rw [Array.getD_eq_getD_getElem?, Array.getElem?_append_left hlt, hv]; rfl
      rw [this]; exact hr
    · simp [Tr.get] at hx

theorem result_ok {ρ : Nat → Option Spot} {a : AA} {A : St} {act : Act} {w : World} (hg : Rel ρ ω A.mem.get w) (ha : RA ρ ω a act) {r : ResultVar} {x : AV} (h : resultOf P a A r = some x) :
    ∃ v, ((match r with | .tmp t => pure (act.tmps.getD t undef) | .cell c t => do loadVar t (← asAddr (act.tmps.getD c undef)) : Sem Value)).run P w = .ok v w ∧ R ρ ω x v := by
  cases r with
  | tmp t => exact ⟨_, rfl, ha.slot t x h⟩
  | cell c t =>
    simp only [resultOf, Option.bind_eq_some_iff] at h
    obtain ⟨p, hp, ⟨b, off⟩, hb, B, hB, cs, hc, hx⟩ := h
    rw [AV.toPtr_eq hb] at hp
    obtain ⟨s, hs, he⟩ := (ha.slot _ _ hp).ptr_inv
    obtain ⟨v, hv, hr⟩ := loadVar_ok (P := P) hg hB hc hs hx
    exact ⟨v, by simp [he, asAddr, hv], hr⟩

theorem results_list {ρ : Nat → Option Spot} {a : AA} {A : St} {act : Act} {w : World} (hg : Rel ρ ω A.mem.get w) (ha : RA ρ ω a act) : ∀ (l : List ResultVar) (xs : List AV), resultsOf P a A l = some xs →
    ∃ vs, (l.mapM fun (r : ResultVar) => (match r with | .tmp t => pure (act.tmps.getD t undef) | .cell c t => do loadVar t (← asAddr (act.tmps.getD c undef)) : Sem Value)).run P w = .ok vs w ∧ RL ρ ω xs vs
  | [], xs, h => by simp [resultsOf] at h; subst h; exact ⟨[], by simp, .nil⟩
  | r :: l, xs, h => by
    simp only [resultsOf, Option.bind_eq_some_iff] at h
    obtain ⟨x, hx, ys, hys, h⟩ := h
    cases h
    obtain ⟨v, hv, hr⟩ := result_ok (P := P) hg ha hx
    obtain ⟨vs, hvs, hrs⟩ := results_list hg ha l ys hys
    refine ⟨v :: vs, ?_, RL.cons hr hrs⟩
    simp only [List.mapM_cons, Sem.run_bind, hv, Result.andThen, hvs, Sem.run_pure]

theorem results_ok {ρ : Nat → Option Spot} {a : AA} {A : St} {act : Act} {w : World} (hg : Rel ρ ω A.mem.get w) (ha : RA ρ ω a act) {fn : Func} {xs : List AV} (h : resultsOf P a A fn.results.toList = some xs) :
    ∃ v, (results fn act.tmps).run P w = .ok v w ∧ R ρ ω (tupOf xs) v := by
  obtain ⟨vs, hvs, hr⟩ := results_list (P := P) hg ha _ _ h
  have hrun : (results fn act.tmps).run P w = .ok (if h : vs.toArray.size = 1 then vs.toArray[0] else .tuple vs.toArray) w := by
    unfold results
    rw [Array.mapM_eq_mapM_toList]
    simp only [Sem.run_bind, Sem.run_map]
    erw [hvs]
    rfl
  refine ⟨_, hrun, ?_⟩
  match xs, vs, hr with
  | [], [], hr => exact R.tup' (by simpa using hr)
  | [x], [v], hr => exact hr.2 0 x v rfl rfl
  | x :: y :: l, v :: u :: m, hr => exact R.tup' (by simpa using hr)
  | [], _ :: _, hr => have := hr.1; simp at this
  | [_], [], hr => have := hr.1; simp at this
  | [_], _ :: _ :: _, hr => have := hr.1; simp at this
  | _ :: _ :: _, [], hr => have := hr.1; simp at this
  | _ :: _ :: _, [_], hr => have := hr.1; simp at this

end
end Go.Proofs.YtagmkceblklgaaaGreat.Ex
