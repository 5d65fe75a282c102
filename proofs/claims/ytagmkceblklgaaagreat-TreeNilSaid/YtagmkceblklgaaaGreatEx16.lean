/-
  CODE AND CALLS: what the runner says of a call, the model's call comes to.
  Conditions: the values that are not known are of one cell; the summaries are sound; no function bears the runtime's name; regions are taken in mixed orders.
-/
import Derived.Test.YtagmkceblklgaaaGreatEx15
import Derived.LoopN
namespace Go.Proofs.YtagmkceblklgaaaGreat.Ex
section
variable {P : Program} {ω : Env} {call : CallF} {ops : Array Oper} {a : AA} {A : St}

theorem Ev.weaken {ρ ρ' : Nat → Option Spot} {g g' g'' : Nat → Option Blk} {w w' : World} (h : Ev ρ g w ρ' g' w') (hg : ∀ b B, g'' b = some B → g' b = some B) : Ev ρ g w ρ' g'' w' :=
  ⟨h.le, h.size, h.keep, fun b B s hb => h.old b B s (hg b B hb), h.os, h.tape, h.output⟩

theorem puts_n : ∀ (l : List Oper) (recs : List Rec) (a : AA), (puts l recs a).n = a.n
  | [], _, a => by cases ‹List Rec› <;> rfl
  | o :: l, [], a => rfl
  | o :: l, r :: recs, a => by
    unfold puts
    split
    · rw [puts_n]
    · rw [puts_n]

theorem puts_get : ∀ (l : List Oper) (recs : List Rec) (a : AA) (t : Nat) (x : AV), recs.length = l.length → (puts l recs a).tmps.get t = some x →
    (∃ (j : Nat) (o : Oper) (r : Rec), l[j]? = some o ∧ o.dst = some t ∧ recs[j]? = some r ∧ x = r.val) ∨ ((∀ (j : Nat) (o : Oper), l[j]? = some o → o.dst ≠ some t) ∧ a.tmps.get t = some x)
  | [], recs, a, t, x, _, h => by
    have : puts [] recs a = a := by cases recs <;> rfl
    rw [this] at h
    exact .inr ⟨fun j o ho => by simp at ho, h⟩
  | o :: l, [], a, t, x, hl, h => by simp at hl
  | o :: l, r :: recs, a, t, x, hl, h => by
    unfold puts at h
    split at h
    · rename_i d hd
      rcases puts_get l recs _ t x (by simpa using hl) h with ⟨j, o', r', h1, h2, h3, h4⟩ | ⟨h1, h2⟩
      · exact .inl ⟨j + 1, o', r', by simpa using h1, h2, by simpa using h3, h4⟩
      · rw [Tr.get_set] at h2
        by_cases e : t = d
        · rw [if_pos e] at h2; cases h2
          exact .inl ⟨0, o, r, rfl, by rw [hd, e], rfl, rfl⟩
        · rw [if_neg e] at h2
          refine .inr ⟨fun j p hp => ?_, h2⟩
          cases j with
          | zero => simp at hp; subst hp; rw [hd]; intro e'; cases e'; exact e rfl
          | succ j => exact h1 j p (by simpa using hp)
    · rename_i hd
      rcases puts_get l recs _ t x (by simpa using hl) h with ⟨j, o', r', h1, h2, h3, h4⟩ | ⟨h1, h2⟩
      · exact .inl ⟨j + 1, o', r', by simpa using h1, h2, by simpa using h3, h4⟩
      · refine .inr ⟨fun j p hp => ?_, h2⟩
        cases j with
        | zero => simp at hp; subst hp; rw [hd]; intro e; cases e
        | succ j => exact h1 j p (by simpa using hp)

theorem opsAny_ok (hω : ∀ n, oneV (ω.val n) = true) (hm : P.follows .mixedOrders = true) (hcall : Sound P ω call) {ρ₀ : Nat → Option Spot} {A₀ : St} {w₀ : World} {Q : Exit → Act → World → Prop} {id : Nat} {a' : AA} {A' : St}
    (h : opsAny P call ops a A = some (a', A')) (hQ : ∀ act w, At ω ρ₀ A₀ w₀ a' A' act w → Q .normal act w) {act : Act} {w : World} (hat : At ω ρ₀ A₀ w₀ a A act w) : (Code.region id ops true).wp P Q act w := by
  obtain ⟨ρ, hrel, hnn, hev, ha⟩ := hat
  simp only [opsAny, Option.bind_eq_some_iff] at h
  obtain ⟨⟨recs, hs, inc, cur⟩, hcan, h⟩ := h
  cases hchk : (chained (befsF ops.toList []) hs && uniqD ops.toList a.n ops.toList 0 && edgesDown ops.toList 0 && Region.noSelect ops && steady P ops.toList (befsF ops.toList []) a ⟨A.mem, A.next + ops.toList.length⟩ recs hs ops.toList 0 && apartAt A.next 0 A.mem.get recs 0 && apart A.next recs hs) with
  | false => simp only [hchk] at h; cases h
  | true =>
    simp only [hchk, cond_true] at h
    cases h
    simp only [Bool.and_eq_true] at hchk
    obtain ⟨⟨⟨⟨⟨⟨c1, c2⟩, c3⟩, c4⟩, c5⟩, c6⟩, c7⟩ := hchk
    obtain ⟨rt, ht, h1, h2, h3, h4, h5, h6, h7⟩ := canon_spec (S₀ := ⟨A.mem, A.next + ops.toList.length⟩) ops.toList 0 [] [] 0 ⟨A.mem, A.next + ops.toList.length⟩ recs hs inc cur hcan rfl rfl rfl
    simp only [List.nil_append] at h1 h2
    subst h1; subst h2
    have hc : Canon P call ops a A recs hs := by
      refine ⟨h3, fun i o ho => ?_, fun k st hst => h7 st (List.mem_of_getElem? hst), c1, c2, c3, c4, c5, c6, c7⟩
      obtain ⟨r, hr, hsp⟩ := h6 i o ho
      simp only [Nat.zero_add] at hr hsp
      exact ⟨r, hr, hsp⟩
    refine wp_region_any hm ?_
    have hov : ov (Fl recs A.next (fun _ => false) 0) A.mem.get = A.mem.get := by
      funext b
      unfold ov
      cases hF : Fl recs A.next (fun _ => false) 0 b with
      | none => rfl
      | some C => obtain ⟨q, v, _, _, hL, _⟩ := Fl_some hF; cases hL
    have hinit : RInv ω ops a A recs hs ρ w (fun _ => false) 0 act { w with drawn := w.drawn + 1 } ρ := by
      refine ⟨(fun i o _ h => by cases h), Nat.zero_le _, (fun j st _ => ⟨(fun h => by cases h), (fun h => by omega)⟩), ?_, ⟨Nat.le_add_right _ _, fun _ _ => rfl, fun b s hb => ?_⟩, Nat.le_refl _, fun q hq _ => ?_, ?_, ha.size, ha.defers, fun t x hx => ?_, fun q hq => ?_⟩
      · show Rel ρ ω (ov (Fl recs A.next (fun _ => false) 0) A.mem.get) _
        rw [hov]; exact hrel.drew _
      · have := hnn.nm b s hb
        show b < A.next + ops.toList.length
        omega
      · exact hnn.nm.none (Nat.le_add_right _ _)
      · show Ev ρ A.mem.get w ρ (ov (Fl recs A.next (fun _ => false) 0) A.mem.get) _
        rw [hov]; exact Ev.drew _
      · refine ha.slot t x ?_
        unfold slotL at hx
        split at hx
        · exact hx
        · exact hx
      · have : (stageOf (⟨A.mem, A.next + ops.toList.length⟩ : St) hs 0).inc = 0 := rfl
        rw [this] at hq; simp at hq
    refine region_any hω hcall hc (fun act' w' ρ' hfin => ?_) ops.size (Array.replicate ops.size false) (fun _ => false) 0 act _ ρ (by simp) (fun i => by simp [Array.getD]) (by simp [unlisted]) hinit
    refine hQ act' w' ?_
    obtain ⟨hnx, hget, _⟩ := layIn_spec (bm := List.replicate (ops.toList.length + 1) (2 ^ ops.toList.length - 1)) (base := A.next) ops.toList.length inc recs 0 cur
    have hfrel := hfin.rel
    have hfnn := hfin.nn
    have hfev := hfin.ev
    rw [← h4, ← h5] at hfrel hfev
    rw [← h5] at hfnn
    have hsub : ∀ b C, (layIn (List.replicate (ops.toList.length + 1) (2 ^ ops.toList.length - 1)) ops.toList.length A.next inc recs 0 cur).2.mem.get b = some C →
        ov (Fl recs A.next (fun i => decide (i < ops.toList.length)) inc) cur.mem.get b = some C := by
      intro b C hb
      rcases hget b C hb with ⟨q, v, hq, rfl, _, hi⟩ | ⟨hA, _⟩
      · simp only [Nat.zero_add] at hi ⊢
        unfold ov
        have hlt : q < ops.toList.length := by rw [← hc.len]; exact (List.getElem?_eq_some_iff.1 hq).1
        rw [Fl_mk hq (by simp only [decide_eq_true_eq]; exact hlt) hi]
      · unfold ov
        cases hF : Fl recs A.next (fun i => decide (i < ops.toList.length)) inc b with
        | none => exact hA
        | some D =>
          obtain ⟨q, v, rfl, hq, _, hi⟩ := Fl_some hF
          have := hc.apartStage (k := hs.length) (Nat.le_refl _) hq (by rw [← h4]; exact hi)
          rw [← h5] at this
          rw [this] at hA; cases hA
    refine ⟨ρ', hfrel.weaken hsub, ?_, hev.trans (hfev.weaken hsub), ⟨by rw [hfin.size, puts_n], hfin.defers, fun t x hx => hfin.slot t x ?_⟩⟩
    · have := hnn.trans hfnn
      rw [hnx]; exact this
    · unfold slotL
      rcases puts_get ops.toList recs a t x hc.len hx with ⟨j, o, r, g1, g2, g3, g4⟩ | ⟨g1, g2⟩
      · obtain ⟨_, hw⟩ := uniqD_spec ops.toList 0 hc.uniq j o t g1 g2
        simp only [Nat.zero_add] at hw
        rw [hw]
        have hlt : j < ops.toList.length := (List.getElem?_eq_some_iff.1 g1).1
        simp only [decide_eq_true hlt, cond_true, g3, Option.map_some, g4]
      · cases hw : writerF t ops.toList 0 with
        | none => exact g2
        | some j =>
          obtain ⟨o, ho, hd, _⟩ := writerF_spec t ops.toList 0 j hw
          exact absurd hd (g1 j o (by simpa using ho))

def AExit.toExit : AExit → Exit
  | .normal => .normal
  | .exit id => .exit id
  | .ret => .ret

/-- what code comes to -/
def CPost (ω : Env) (ρ₀ : Nat → Option Spot) (A₀ : St) (w₀ : World) (ex : AExit) (a : AA) (A : St) : Exit → Act → World → Prop :=
  fun e act w => e = ex.toExit ∧ At ω ρ₀ A₀ w₀ a A act w

def SumsOK (P : Program) (ω : Env) (S : Sums) : Prop :=
  ∀ f s, S f = some s → ∀ args A x A', s args A = some (x, A') → ∀ ρ w cargs, Rel ρ ω A.mem.get w → Nm ρ A.next → RL ρ ω args cargs.toList → Runs P f cargs w (HOut ρ ω A w x A')
def Named (P : Program) : Prop := ∀ f fn, P.funcs[f]? = some fn → fn.body.isSome = true → ∀ args w, (callFunc f args).run P w = .ok (.enter f args) w

structure ExecOK (P : Program) (ω : Env) (S : Sums) (fuel : Nat) : Prop where
  code : ∀ c a A ex a' A', exec P S fuel c a A = some (ex, a', A') → ∀ ρ₀ A₀ w₀ act w, At ω ρ₀ A₀ w₀ a A act w → c.wp P (CPost ω ρ₀ A₀ w₀ ex a' A') act w
  loop : ∀ b a A ex a' A', exec P S fuel (.loop b) a A = some (ex, a', A') → ∀ ρ₀ A₀ w₀ act w, At ω ρ₀ A₀ w₀ a A act w → Code.rounds P b (CPost ω ρ₀ A₀ w₀ ex a' A') fuel act w

theorem callIn_ok {S : Sums} (hS : SumsOK P ω S) (hN : Named P) {fuel : Nat} (hex : ∀ c a A ex a' A', exec P S fuel c a A = some (ex, a', A') → ∀ ρ₀ A₀ w₀ act w, At ω ρ₀ A₀ w₀ a A act w → c.wp P (CPost ω ρ₀ A₀ w₀ ex a' A') act w) :
    Sound P ω (callIn P S fuel) := by
  intro f args A x A' h ρ w cargs hrel hnm hrl
  unfold callIn at h
  split at h
  · rename_i s hs
    exact hS f s hs args A x A' h ρ w cargs hrel hnm hrl
  · simp only [Option.bind_eq_some_iff] at h
    obtain ⟨fn, hf, b, hb, ⟨ex, a', A₁⟩, hr, h⟩ := h
    unfold Runs
    rw [hN f fn hf (by rw [hb]; rfl) cargs w]
    refine calls_of_wp hf hb ?_
    have hwp := hex b _ A ex a' A₁ hr ρ A w { tmps := cargs ++ Array.replicate (fn.ntmps - cargs.size) undef, defers := [] } w ⟨ρ, hrel, Nn.refl hnm, Ev.refl _ _ _, enter_ok hrl⟩
    refine Go.wp_mono hwp fun e act' w' hpost => ?_
    obtain ⟨he, ρ', hrel', hnn', hev', ha'⟩ := hpost
    subst he
    have hfin : ∀ xs, resultsOf P a' A₁ fn.results.toList = some xs → (tupOf xs, A₁) = (x, A') → act'.defers = [] ∧ ∃ v, (results fn act'.tmps).run P w' = .ok v w' ∧ HOut ρ ω A w x A' v w' := by
      intro xs hxs e
      cases e
      obtain ⟨v, hv, hrv⟩ := results_ok (P := P) hrel' ha' hxs
      exact ⟨ha'.defers, v, hv, ρ', hrv, hrel', hnn', hev'⟩
    unfold leave at h
    cases ex with
    | exit id => cases h
    | normal =>
      simp only [Option.bind_eq_some_iff] at h
      obtain ⟨xs, hxs, h⟩ := h
      exact hfin xs hxs (by simpa using h)
    | ret =>
      simp only [Option.bind_eq_some_iff] at h
      obtain ⟨xs, hxs, h⟩ := h
      exact hfin xs hxs (by simpa using h)

theorem exec_ok (hω : ∀ n, oneV (ω.val n) = true) (hm : P.follows .mixedOrders = true) {S : Sums} (hS : SumsOK P ω S) (hN : Named P) : ∀ fuel, ExecOK P ω S fuel := by
  intro fuel
  induction fuel with
  | zero => exact ⟨fun c a A ex a' A' h => by simp [exec] at h, fun b a A ex a' A' h => by simp [exec] at h⟩
  | succ fuel ih =>
    have hcall : Sound P ω (callIn P S fuel) := callIn_ok hS hN ih.code
    have hloop : ∀ b a A ex a' A', exec P S (fuel + 1) (.loop b) a A = some (ex, a', A') → ∀ ρ₀ A₀ w₀ act w, At ω ρ₀ A₀ w₀ a A act w → Code.rounds P b (CPost ω ρ₀ A₀ w₀ ex a' A') (fuel + 1) act w := by
      intro b a A ex a' A' h ρ₀ A₀ w₀ act w hat
      rw [rounds_succ]
      unfold exec at h
      simp only at h
      split at h
      · rename_i a₁ A₁ h₁
        refine Go.wp_mono (ih.code b a A _ a₁ A₁ h₁ ρ₀ A₀ w₀ act w hat) fun e act' w' hp => ?_
        obtain ⟨rfl, hat'⟩ := hp
        exact ih.loop b a₁ A₁ ex a' A' h ρ₀ A₀ w₀ act' w' hat'
      · rename_i r hne
        cases ex with
        | normal => exact (hne a' A' h).elim
        | exit id => exact Go.wp_mono (ih.code b a A _ a' A' h ρ₀ A₀ w₀ act w hat) fun e act' w' hp => by obtain ⟨rfl, hat'⟩ := hp; exact ⟨rfl, hat'⟩
        | ret => exact Go.wp_mono (ih.code b a A _ a' A' h ρ₀ A₀ w₀ act w hat) fun e act' w' hp => by obtain ⟨rfl, hat'⟩ := hp; exact ⟨rfl, hat'⟩
    refine ⟨fun c a A ex a' A' h ρ₀ A₀ w₀ act w hat => ?_, hloop⟩
    cases c with
    | loop b => exact wp_loop_rounds _ (hloop b a A ex a' A' h ρ₀ A₀ w₀ act w hat)
    | skip => simp only [exec] at h; cases h; exact wp_skip ⟨rfl, hat⟩
    | label l => simp only [exec] at h; cases h; exact wp_label ⟨rfl, hat⟩
    | exit id => simp only [exec] at h; cases h; exact wp_exit ⟨rfl, hat⟩
    | ret => simp only [exec] at h; cases h; exact wp_ret ⟨rfl, hat⟩
    | seq x y =>
      unfold exec at h
      simp only at h
      refine wp_seq ?_
      split at h
      · rename_i a₁ A₁ h₁
        refine Go.wp_mono (ih.code x a A _ a₁ A₁ h₁ ρ₀ A₀ w₀ act w hat) fun e act' w' hp => ?_
        obtain ⟨rfl, hat'⟩ := hp
        exact ih.code y a₁ A₁ ex a' A' h ρ₀ A₀ w₀ act' w' hat'
      · rename_i r hne
        cases ex with
        | normal => exact (hne a' A' h).elim
        | exit id => exact Go.wp_mono (ih.code x a A _ a' A' h ρ₀ A₀ w₀ act w hat) fun e act' w' hp => by obtain ⟨rfl, hat'⟩ := hp; exact ⟨rfl, hat'⟩
        | ret => exact Go.wp_mono (ih.code x a A _ a' A' h ρ₀ A₀ w₀ act w hat) fun e act' w' hp => by obtain ⟨rfl, hat'⟩ := hp; exact ⟨rfl, hat'⟩
    | cond cnd x y =>
      unfold exec at h
      simp only [Option.bind_eq_some_iff] at h
      obtain ⟨v, hv, t, ht, h⟩ := h
      obtain ⟨ρ, hrel, hnn, hev, ha⟩ := id hat
      rw [AV.toBool_eq ht] at hv
      have hc := (ha.evs _ _ hv).lit_inv
      refine wp_cond hc ?_
      cases t with
      | true => exact ih.code x a A ex a' A' h ρ₀ A₀ w₀ act w hat
      | false => exact ih.code y a A ex a' A' h ρ₀ A₀ w₀ act w hat
    | block id b =>
      unfold exec at h
      simp only at h
      refine wp_block ?_
      split at h
      · rename_i k a₁ A₁ h₁
        refine Go.wp_mono (ih.code b a A _ a₁ A₁ h₁ ρ₀ A₀ w₀ act w hat) fun e act' w' hp => ?_
        obtain ⟨rfl, hat'⟩ := hp
        show if k = id then _ else _
        cases hk : Nat.beq k id with
        | true =>
          rw [hk] at h; cases h
          rw [if_pos (by simpa using hk)]; exact ⟨rfl, hat'⟩
        | false =>
          rw [hk] at h; cases h
          rw [if_neg (by intro e; subst e; simp at hk)]; exact ⟨rfl, hat'⟩
      · rename_i r hne
        cases ex with
        | exit k => exact (hne k a' A' h).elim
        | normal => exact Go.wp_mono (ih.code b a A _ a' A' h ρ₀ A₀ w₀ act w hat) fun e act' w' hp => by obtain ⟨rfl, hat'⟩ := hp; exact ⟨rfl, hat'⟩
        | ret => exact Go.wp_mono (ih.code b a A _ a' A' h ρ₀ A₀ w₀ act w hat) fun e act' w' hp => by obtain ⟨rfl, hat'⟩ := hp; exact ⟨rfl, hat'⟩
    | region id ops draw =>
      unfold exec at h
      simp only [Option.bind_eq_some_iff] at h
      obtain ⟨⟨a₁, A₁⟩, hr, h⟩ := h
      cases h
      cases draw with
      | true => exact opsAny_ok (call := callIn P S fuel) hω hm hcall (id := id) hr (fun act' w' h' => ⟨rfl, h'⟩) hat
      | false => exact wp_region_list (opsSeq_ok (call := callIn P S fuel) hω hcall ops.toList a A a₁ A₁ hr (fun act' w' h' => ⟨rfl, h'⟩) act w hat)
    | rangeFunc f ps asg b => simp [exec] at h
    | scope b => simp [exec] at h
    | goto l => simp [exec] at h
    | refuse s => simp [exec] at h

/-- what the runner says of a call -/
theorem call_ok (hω : ∀ n, oneV (ω.val n) = true) (hm : P.follows .mixedOrders = true) {S : Sums} (hS : SumsOK P ω S) (hN : Named P) (fuel : Nat) : Sound P ω (callIn P S fuel) :=
  callIn_ok hS hN (exec_ok hω hm hS hN fuel).code

end
end Go.Proofs.YtagmkceblklgaaaGreat.Ex
