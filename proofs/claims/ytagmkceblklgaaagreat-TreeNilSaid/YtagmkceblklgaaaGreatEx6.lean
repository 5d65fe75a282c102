/-
  THE OPERATIONS THAT LEAVE MEMORY ALONE ARE THE MODEL's (their proofs, second part).
  Conditions: the values that are not known are of one cell.
-/
import Derived.Test.YtagmkceblklgaaaGreatEx5
namespace Go.Proofs.YtagmkceblklgaaaGreat.Ex
section
variable {P : Program} {ρ : Nat → Option Spot} {ω : Env} {g : Nat → Option Blk} {w : World} {ev : Operand → Option AV} {e : Operand → Value}

theorem find_ok {d : TypeDesc} {k : Value} : ∀ (es : List (Value × AV)) (es' : List MapEntry) (i : Nat) (r : Option (Nat × AV)), es.length = es'.length →
    (∀ (j : Nat) q x y, es[j]? = some (q, x) → es'[j]? = some y → y.key = q ∧ R ρ ω x y.val) → find? d k es i = some r →
    ∃ r', Instr.findNow d k es' i = some r' ∧ (match r, r' with
      | some p, some q => p.1 = q.1 ∧ R ρ ω p.2 q.2 ∧ i ≤ p.1 ∧ ∃ y, es'[p.1 - i]? = some y ∧ q.2 = y.val ∧ Instr.sameNow d k y.key = some true
      | none, none => True
      | _, _ => False)
  | [], [], i, r, _, _, h => by simp [find?] at h; subst h; exact ⟨none, rfl, trivial⟩
  | [], y :: es', _, _, hl, _, _ => by simp at hl
  | x :: es, [], _, _, hl, _, _ => by simp at hl
  | (q, x) :: es, y :: es', i, r, hl, hall, h => by
    obtain ⟨hk, hr⟩ := hall 0 _ _ _ rfl rfl
    simp only [find?] at h
    simp only [Instr.findNow, hk]
    cases hs : Instr.sameNow d k q with
    | none => rw [hs] at h; cases h
    | some b =>
      rw [hs] at h
      cases b with
      | true => cases h; exact ⟨_, rfl, rfl, hr, Nat.le_refl _, y, by simp, rfl, by rw [hk]; exact hs⟩
      | false =>
        obtain ⟨r', h1, h2⟩ := find_ok es es' (i + 1) r (by simpa using hl) (fun j q x y a b => hall (j + 1) q x y (by simpa using a) (by simpa using b)) h
        refine ⟨r', h1, ?_⟩
        cases r <;> cases r' <;> try exact h2
        obtain ⟨a, b, c, z, hz, e1, e2⟩ := h2
        rename_i p q'
        refine ⟨a, b, by omega, z, ?_, e1, e2⟩
        rw [show p.1 - i = p.1 - (i + 1) + 1 by omega]; simpa using hz

theorem checkKey_ok {kt : TypeId} {kd : TypeDesc} (hk : (underlying kt).run P w = .ok kd w) (hp : plainKey kd = true) (b : Bool) (n : Nat) (k : Value) : (Instr.checkKey b (n + 1) kt k).run P w = .ok () w := by
  cases kd <;> simp [plainKey] at hp <;> simp [Instr.checkKey, hk]

theorem lightLookup_ok (hg : Rel ρ ω g w) (hev : Evs ρ ω ev e) {t : TypeId} {x i : Operand} {ok : Bool} {y : AV} (h : lightLookup P g ev t x i ok = some y) :
    ∃ v, (Instr.lookup t (e x) (e i) ok).run P w = .ok v w ∧ R ρ ω y v := by
  simp only [lightLookup, Option.bind_eq_some_iff] at h
  obtain ⟨d, hd, ⟨kt, et⟩, hke, kd, hkd, h⟩ := h
  cases hp : plainKey kd with
  | false => rw [hp] at h; cases h
  | true =>
    simp only [hp, cond_true, Option.bind_eq_some_iff] at h
    obtain ⟨iv, hi, k, hk, v, hv, b, hb, B, hB, es, hes, r, hf, h⟩ := h
    rw [toMapT_eq hke] at hd
    have hrd := det_run hd w
    have hrk := det_run hkd w
    rw [AV.toLit_eq hk] at hi
    rw [AV.toMp_eq hb] at hv
    have hei := (hev _ _ hi).lit_inv
    obtain ⟨s, hs, hex⟩ := (hev _ _ hv).mp_inv
    obtain ⟨es', clock, hh, hlen, hall, _⟩ := hg.map hB hes hs
    have hck := fun b => checkKey_ok (P := P) (w := w) hrk hp b 9999 k
    obtain ⟨r', hr', hrel⟩ := find_ok (ρ := ρ) (ω := ω) es es'.toList 0 r (by simpa using hlen) (fun j q x y a b => hall j q x y a (by simpa using b)) hf
    have hgo := run_getObj_map (P := P) (w := w) s.block es' clock hh
    cases r with
    | some p =>
      cases r' with
      | none => exact hrel.elim
      | some q =>
        obtain ⟨_, hrv, _⟩ := hrel
        cases h
        refine ⟨if ok then .tuple #[q.2, .bool true] else q.2, ?_, ?_⟩
        · simp [Instr.lookup, hrd, hex, hei, hgo, hck, Instr.findKey, hrk, hr']
        · cases ok
          · exact hrv
          · exact R.tup' (RL.cons hrv (RL.cons (.lit _) .nil))
    | none =>
      cases r' with
      | some q => exact hrel.elim
      | none =>
        simp only [Option.bind_eq_some_iff] at h
        obtain ⟨z, hz, h⟩ := h
        cases h
        have hrz := det_run hz w
        refine ⟨if ok then .tuple #[z, .bool false] else z, ?_, ?_⟩
        · simp [Instr.lookup, hrd, hex, hei, hgo, hck, Instr.findKey, hrk, hr', hrz]
        · cases ok
          · exact .lit _
          · exact R.tup' (RL.cons (.lit _) (RL.cons (.lit _) .nil))

theorem lightLookup0_ok (hg : Rel ρ ω g w) (hev : Evs ρ ω ev e) {t : TypeId} {x i : Operand} {ok : Bool} {y : AV} (h : lightLookup0 P g ev t x i ok = some y) :
    ∃ v, (Instr.lookup t (e x) (e i) ok).run P w = .ok v w ∧ R ρ ω y v := by
  simp only [lightLookup0, Option.bind_eq_some_iff] at h
  obtain ⟨d, hd, ⟨kt, et⟩, hke, kd, hkd, h⟩ := h
  cases hp : plainKey kd with
  | false => rw [hp] at h; cases h
  | true =>
    simp only [hp, cond_true, Option.bind_eq_some_iff] at h
    obtain ⟨iv, hi, v, hv, b, hb, B, hB, es, hes, h⟩ := h
    cases es with
    | cons a l => cases h
    | nil =>
      rw [toMapT_eq hke] at hd
      have hrd := det_run hd w
      have hrk := det_run hkd w
      rw [AV.toMp_eq hb] at hv
      obtain ⟨s, hs, hex⟩ := (hev _ _ hv).mp_inv
      obtain ⟨es', clock, hh, hlen, hall, _⟩ := hg.map hB hes hs
      have he0 : es' = #[] := Array.eq_empty_of_size_eq_zero (by simpa using hlen.symm)
      subst he0
      have hck := fun b => checkKey_ok (P := P) (w := w) hrk hp b 9999 (e i)
      have hr' : Instr.findNow kd (e i) [] 0 = some none := rfl
      have hgo := run_getObj_map (P := P) (w := w) s.block #[] clock hh
      simp only [Option.bind_eq_some_iff] at h
      obtain ⟨z, hz, h⟩ := h
      cases h
      have hrz := det_run hz w
      refine ⟨if ok then .tuple #[z, .bool false] else z, ?_, ?_⟩
      · simp [Instr.lookup, hrd, hex, hgo, hck, Instr.findKey, hrk, hr', hrz]
      · cases ok
        · exact .lit _
        · exact R.tup' (RL.cons (.lit _) (RL.cons (.lit _) .nil))

theorem lightExtract_ok (hev : Evs ρ ω ev e) {x : Operand} {i : Nat} {y : AV} (h : lightExtract ev x i = some y) : ∃ v, (Instr.extract (e x) i).run P w = .ok v w ∧ R ρ ω y v := by
  simp only [lightExtract, Option.bind_eq_some_iff] at h
  obtain ⟨p, hp, l, hl, hy⟩ := h
  obtain ⟨cs, he, hrl⟩ := (hev _ _ hp).tup_inv hl
  obtain ⟨v, hv, hr⟩ := hrl.get hy
  have hv' : cs[i]? = some v := by simpa using hv
  exact ⟨v, by simp [Instr.extract, he, hv'], hr⟩

theorem lightIface_ok (hev : Evs ρ ω ev e) {t : TypeId} {x : Operand} {y : AV} (h : lightIface P ev t x = some y) : ∃ v, (Instr.makeInterface t (e x)).run P w = .ok v w ∧ R ρ ω y v := by
  simp only [lightIface, Option.bind_eq_some_iff] at h
  obtain ⟨d, hd, h⟩ := h
  cases hp : notIface d with
  | false => rw [hp] at h; cases h
  | true =>
    simp only [hp, cond_true, Option.bind_eq_some_iff] at h
    obtain ⟨v, hv, h⟩ := h
    cases h
    have hrd := det_run hd w
    refine ⟨.iface t (e x), ?_, .ifc (hev _ _ hv)⟩
    cases d <;> simp [notIface] at hp <;> simp [Instr.makeInterface, hrd]

theorem lightFunc_ok (hev : Evs ρ ω ev e) {fn : Fn} {first captured : Array Operand} {y : AV} (h : lightFunc ev fn first captured = some y) :
    ∃ v, (Instr.makeFunc fn (first.map e) (captured.map e)).run P w = .ok v w ∧ R ρ ω y v := by
  simp only [lightFunc, Option.bind_eq_some_iff] at h
  obtain ⟨l, hl, m, hm, h⟩ := h
  cases h
  have h1 := evs_ok hev hl
  have h2 := evs_ok hev hm
  refine ⟨_, rfl, .fn (by simpa using h1.1) (fun i x v a b => h1.2 i x v a ?_) (by simpa using h2.1) (fun i x v a b => h2.2 i x v a ?_)⟩ <;> simpa using b

theorem evp_ok (hev : Evs ρ ω ev e) : ∀ {l : List (Nat × Operand)} {r : List (Nat × AV)}, evp ev l = some r →
    r.length = l.length ∧ (∀ (i : Nat) p q, r[i]? = some p → (l.map fun x => (x.1, e x.2))[i]? = some q → p.1 = q.1 ∧ R ρ ω p.2 q.2)
  | [], r, h => by simp [evp] at h; subst h; exact ⟨rfl, fun i p q a => by simp at a⟩
  | x :: l, r, h => by
    simp only [evp, Option.bind_eq_some_iff] at h
    obtain ⟨a, ha, s, hs, h⟩ := h
    cases h
    obtain ⟨h1, h2⟩ := evp_ok hev hs
    refine ⟨by simp [h1], fun i p q hp hq => ?_⟩
    cases i with
    | zero => simp at hp hq; subst hp; subst hq; exact ⟨rfl, hev _ _ ha⟩
    | succ i => exact h2 i p q (by simpa using hp) (by simpa using hq)

theorem lightBuild_ok (hω : ∀ n, oneV (ω.val n) = true) (hev : Evs ρ ω ev e) {t : TypeId} {parts : Array (Nat × Operand)} {y : AV} (h : lightBuild P ev t parts = some y) :
    ∃ v, (Instr.build t (parts.map fun (i, x) => (i, e x))).run P w = .ok v w ∧ R ρ ω y v := by
  simp only [lightBuild, Option.bind_eq_some_iff] at h
  obtain ⟨ps, hps, l, hl, h⟩ := h
  cases h
  obtain ⟨hlen, hall⟩ := evp_ok hev hps
  have hm : (parts.map fun (i, x) => (i, e x)).toList = parts.toList.map fun x => (x.1, e x.2) := by simp
  simp only [buildCells, Option.bind_eq_some_iff] at hl
  obtain ⟨d, hd, z, hz, hl⟩ := hl
  have hrd := det_run hd w
  have hrz := det_run hz w
  cases d with
  | struct fs =>
    simp only [Option.bind_eq_some_iff] at hl
    obtain ⟨places, hpl, hl⟩ := hl
    have hrp := det_run hpl w
    obtain ⟨out, ho, hro⟩ := fill_ok hω _ ps (parts.toList.map fun x => (x.1, e x.2)) _ l z.cells (RL.lits _) (by simp [hlen]) hall hl
    refine ⟨.agg out, ?_, R.agg' hro⟩
    simp only [Instr.build, Sem.run_bind, hrz, Result.andThen, hrd]
    rw [hrp]
    simp only [hm]
    rw [ho]; rfl
  | array k el =>
    simp only [Option.bind_eq_some_iff] at hl
    obtain ⟨n, hn, hl⟩ := hl
    have hrn := det_run hn w
    obtain ⟨out, ho, hro⟩ := fill_ok hω _ ps (parts.toList.map fun x => (x.1, e x.2)) _ l z.cells (RL.lits _) (by simp [hlen]) hall hl
    refine ⟨.agg out, ?_, R.agg' hro⟩
    simp only [Instr.build, Sem.run_bind, hrz, Result.andThen, hrd, hrn, hm]
    rw [ho]; rfl
  | _ => simp at hl

theorem equal_ok {d : TypeDesc} {t : TypeId} (hd : (underlying t).run P w = .ok d w) {x y : AV} {b : Bool} {u v : Value} (h : eq? d x y = some b) (hx : R ρ ω x u) (hy : R ρ ω y v) :
    (Op.equal t u v).run P w = .ok b w := by
  show (Op.equalIn (9999 + 1) t u v).run P w = .ok b w
  rw [Op.equalIn]
  rw [Sem.run_bind, hd]
  unfold eq? at h
  split at h <;> first
    | (cases h; done)
    | (cases h
       cases hx
       cases hy
       rfl)

theorem eqShape_ok {d : TypeDesc} {x y : AV} {b : Bool} {u v : Value} (h : eq? d x y = some b) (hx : R ρ ω x u) (hy : R ρ ω y v) (op : BinOp) (t : TypeId) (xo yo : Operand)
    (hop : op = .eql ∨ op = .neq) :
    eqGuard op t xo yo u v = pure () ∧ binOp op t u v = (if op = .eql then do pure (.bool (← Op.equal t u v)) else do pure (.bool (!(← Op.equal t u v))) : Sem Value) := by
  unfold eq? at h
  split at h <;> first
    | (cases h; done)
    | (cases hx
       cases hy
       rcases hop with rfl | rfl <;> exact ⟨rfl, rfl⟩)

theorem eq_ok {d : TypeDesc} {t : TypeId} (hd : (underlying t).run P w = .ok d w) {x y : AV} {b : Bool} {u v : Value} (h : eq? d x y = some b) (hx : R ρ ω x u) (hy : R ρ ω y v) (xo yo : Operand) (op : BinOp)
    (hop : op = .eql ∨ op = .neq) :
    (do eqGuard op t xo yo u v; binOp op t u v : Sem Value).run P w = .ok (.bool (if op = .eql then b else !b)) w := by
  obtain ⟨h1, h2⟩ := eqShape_ok h hx hy op t xo yo hop
  have h3 := equal_ok hd h hx hy
  rw [h1, h2]
  rcases hop with rfl | rfl <;> simp [h3]

theorem bytes_eq {a b : ByteArray} (h : (a == b) = true) : a = b := by
  cases a with | mk x => cases b with | mk y =>
  have : (x == y) = true := h
  rw [beq_iff_eq] at this; rw [this]
theorem bytes_refl (a : ByteArray) : (a == a) = true := by
  cases a with | mk x =>
  show (x == x) = true
  simp

theorem vsame_eq {a b : Value} (h : vsame a b = true) : a = b := by
  unfold vsame at h
  split at h
  · have := eq_of_beq h; rw [this]
  · simp only [Bool.and_eq_true, decide_eq_true_eq] at h; rw [h.1, h.2]
  · rw [bytes_eq h]
  · rfl
  · simp only [Bool.and_eq_true, Nat.beq_eq] at h; rw [h.1, h.2]
  · rfl
  · rfl
  · rfl
  · cases h

theorem factOf_ok {op : BinOp} {v : Value} : ∀ {fs : Facts} {r : Bool}, factOf op v fs = some r → ∃ f ∈ fs, f.1 = op ∧ f.2.1 = v ∧ f.2.2 = r
  | [], r, h => by simp [factOf] at h
  | f :: fs, r, h => by
    unfold factOf at h
    cases hb : (decide (f.1 = op) && vsame f.2.1 v) with
    | true =>
      rw [hb] at h; cases h
      simp only [Bool.and_eq_true, decide_eq_true_eq] at hb
      exact ⟨f, by simp, hb.1, vsame_eq hb.2, rfl⟩
    | false =>
      rw [hb] at h
      obtain ⟨g, hg, h1⟩ := factOf_ok h
      exact ⟨g, by simp [hg], h1⟩

theorem lightFact_ok (hev : Evs ρ ω ev e) {op : BinOp} {t : TypeId} {x y : Operand} {z : AV} (h : lightFact ev op x y = some z) :
    ∃ v, (do eqGuard op t x y (e x) (e y); binOp op t (e x) (e y) : Sem Value).run P w = .ok v w ∧ R ρ ω z v := by
  simp only [lightFact, Option.bind_eq_some_iff] at h
  obtain ⟨a, ha, b, hb, h⟩ := h
  split at h
  · rename_i n fs v
    simp only [Option.bind_eq_some_iff] at h
    obtain ⟨r, hr, h⟩ := h
    cases h
    have hx := hev _ _ ha
    have hy := (hev _ _ hb).lit_inv
    obtain ⟨f, hf, e1, e2, e3⟩ := factOf_ok hr
    generalize hvx : e x = vx at hx
    cases hx with
    | opq _ hfs =>
      have := hfs f hf P w t x y
      rw [e1, e2, e3] at this
      exact ⟨_, by rw [hy]; exact this, .lit _⟩
  · cases h

theorem lightEq_ok (hev : Evs ρ ω ev e) {op : BinOp} {t : TypeId} {x y : Operand} {z : AV} (h : lightEq P ev op t x y = some z) :
    ∃ v, (do eqGuard op t x y (e x) (e y); binOp op t (e x) (e y) : Sem Value).run P w = .ok v w ∧ R ρ ω z v := by
  simp only [lightEq, Option.bind_eq_some_iff] at h
  obtain ⟨d, hd, a, ha, b, hb, r, hr, h⟩ := h
  have hrd := det_run hd w
  cases op <;> simp at h <;> subst h
  · exact ⟨_, eq_ok hrd hr (hev _ _ ha) (hev _ _ hb) x y .eql (.inl rfl), by simp; exact .lit _⟩
  · exact ⟨_, eq_ok hrd hr (hev _ _ ha) (hev _ _ hb) x y .neq (.inr rfl), by simp; exact .lit _⟩

end
end Go.Proofs.YtagmkceblklgaaaGreat.Ex
