/-
  THE OPERATIONS THAT TURN MEMORY ARE THE MODEL's (their proofs, second part: slices, maps, bytes).
  Conditions: the values that are not known are of one cell.
-/
import Derived.Test.YtagmkceblklgaaaGreatEx8
namespace Go.Proofs.YtagmkceblklgaaaGreat.Ex
section
variable {P : Program} {ρ : Nat → Option Spot} {ω : Env} {A : St} {w : World} {ev : Operand → Option AV} {e : Operand → Value}

theorem fill_len (place : Nat → Option (Nat × Nat)) : ∀ (ps : List (Nat × AV)) (l out : List AV), fill? place l ps = some out → out.length = l.length
  | [], l, out, h => by simp [fill?] at h; subst h; rfl
  | p :: ps, l, out, h => by
    obtain ⟨i, v⟩ := p
    simp only [fill?, Option.bind_eq_some_iff] at h
    obtain ⟨⟨off, size⟩, _, h⟩ := h
    cases hb : (Nat.beq v.cells.length size && Nat.ble (off + size) l.length) with
    | false => simp only [hb] at h; cases h
    | true =>
      simp only [hb, cond_true] at h
      simp only [Bool.and_eq_true, Nat.beq_eq, Nat.ble_eq] at hb
      rw [fill_len place ps _ out h]
      simp; omega

theorem zerosV_zero (z : List Value) : zerosV z 0 = [] := rfl

theorem mBuildSlice_ok (hω : ∀ n, oneV (ω.val n) = true) (hev : Evs ρ ω ev e) {t : TypeId} {len nm : Nat} {parts : Array (Nat × Operand)} {x : AV} {B : Blk}
    (h : mBuildSlice P ev nm t len parts = some (x, B)) : MOut P ρ ω w nm (Instr.buildSlice t len (parts.map fun (i, x) => (i, e x))) x B := by
  simp only [mBuildSlice, Option.bind_eq_some_iff] at h
  obtain ⟨d, hd, el, hel, n, hsn, z, hz, ps, hps, h⟩ := h
  cases hc : (Nat.beq z.cells.size n && Nat.ble 1 n && Nat.ble (len * n) 16777216) with
  | false => rw [hc] at h; cases h
  | true =>
    simp only [hc, cond_true, Option.bind_eq_some_iff] at h
    obtain ⟨l, hl, h⟩ := h
    cases h
    simp only [Bool.and_eq_true, Nat.beq_eq, Nat.ble_eq] at hc
    obtain ⟨⟨hzn, hn1⟩, hmax⟩ := hc
    rw [toSlice_eq hel] at hd
    have hrd := det_run hd w
    have hrn := det_run hsn w
    have hrz := det_run hz w
    obtain ⟨hlen, hall⟩ := evp_ok hev hps
    have hm : (parts.map fun (i, x) => (i, e x)).toList = parts.toList.map fun x => (x.1, e x.2) := by simp
    have hbase : ∀ zs : Array Value, (len * n = 0 → zs = #[]) → (len * n ≠ 0 → zs = z.cells) → RL ρ ω (zeros z.cells.toList len) ((Array.range (len * n)).map fun i => zs[i % zs.size]!).toList := by
      intro zs h0 h1
      rw [zeros_eq]
      by_cases hk : len * n = 0
      · have : len = 0 := by
          rcases Nat.mul_eq_zero.1 hk with h | h
          · exact h
          · omega
        subst this
        simp [zerosV]; exact .nil
      · rw [h1 hk, range_zeros z.cells len n hzn hn1]; exact RL.lits _
    have hout : ∀ zs : Array Value, (len * n = 0 → zs = #[]) → (len * n ≠ 0 → zs = z.cells) → ∃ out, Instr.fill (fun i => some (i * n, n)) ((Array.range (len * n)).map fun i => zs[i % zs.size]!) (parts.toList.map fun x => (x.1, e x.2)) = some out ∧ RL ρ ω l out.toList :=
      fun zs h0 h1 => fill_ok hω _ ps _ _ l _ (hbase zs h0 h1) (by simp [hlen]) hall hl
    have hll : l.length = len * n := by rw [fill_len _ _ _ _ hl, zeros_len]; simp [hzn]
    obtain ⟨zs, h0, h1⟩ : ∃ zs : Array Value, (len * n = 0 → zs = #[]) ∧ (len * n ≠ 0 → zs = z.cells) := by
      by_cases hk : len * n = 0
      · exact ⟨#[], fun _ => rfl, fun h => absurd hk h⟩
      · exact ⟨z.cells, fun h => absurd h hk, fun _ => rfl⟩
    obtain ⟨out, ho, hro⟩ := hout zs h0 h1
    have hsz : out.size = len * n := by have := hro.1; simp at this; omega
    refine ⟨.slice (some ⟨w.heap.size, 0, none⟩) len len, .cells out el, ⟨w.heap.size, 0, out.size⟩, ?_, rfl, BR.row out.toList [] hro (by simp) (.inl rfl), fun ρ' _ q1 => .sl (s := ⟨w.heap.size, 0, out.size⟩) q1 (Nat.le_refl _) (Nat.le_refl _) ⟨rfl, rfl⟩ (fun _ => ⟨rfl, by simp [hsz]⟩) (fun _ => rfl)⟩
    have hng : ¬ len * n > 2 ^ 24 := by omega
    unfold Instr.buildSlice
    simp only [Sem.run_bind, hrd, Result.andThen, hrn]
    rw [if_neg hng]
    by_cases hk : len * n = 0
    · rw [if_pos hk]
      have hz0 := h0 hk
      subst hz0
      simp only [Sem.run_bind, Sem.run_pure, Result.andThen, hm]
      rw [ho]
      simp only [Sem.run_bind, run_newRow', Result.andThen, Sem.run_pure]
    · rw [if_neg hk]
      have hz1 := h1 hk
      subst hz1
      simp only [Sem.run_bind, hrz, Sem.run_pure, Result.andThen, hm]
      rw [ho]
      simp only [Sem.run_bind, run_newRow', Result.andThen, Sem.run_pure]

theorem wrap_small {x : Int} (h0 : 0 ≤ x) (h1 : x ≤ 16777216) : IntKind.i64.wrap x = x := IntWalk.i64_in x (by omega)

theorem run_askRoom (n : Nat) : (askRoom n).run P w = .ok () w := by
  unfold askRoom; split <;> simp [mark, Sem.run]

theorem mMakeSlice_ok (hev : Evs ρ ω ev e) {t : TypeId} {ln cp : Operand} {nm : Nat} {x : AV} {B : Blk}
    (h : mMakeSlice P ev nm t ln cp = some (x, B)) : MOut P ρ ω w nm (Instr.makeSlice t (e ln) (e cp)) x B := by
  simp only [mMakeSlice, Option.bind_eq_some_iff] at h
  obtain ⟨d, hd, el, hel, n, hsn, z, hz, i, hi, lv, hlv, ⟨lk, l⟩, hl, cv, hcv, ⟨ck, c⟩, hcc, h⟩ := h
  cases hc : (Nat.beq z.cells.size n && Nat.ble 1 n && decide (0 ≤ l) && decide (l ≤ c) && Nat.ble c.toNat 16777216 && Nat.ble i.bytes 4096) with
  | false => simp only [hc] at h; cases h
  | true =>
    simp only [hc, cond_true] at h
    cases h
    simp only [Bool.and_eq_true, Nat.beq_eq, Nat.ble_eq, decide_eq_true_eq] at hc
    obtain ⟨⟨⟨⟨⟨hzn, hn1⟩, hl0⟩, hlc⟩, hmax⟩, hby⟩ := hc
    rw [toSlice_eq hel] at hd
    have hrd := det_run hd w
    have hrn := det_run hsn w
    have hrz := det_run hz w
    have hri := det_run hi w
    rw [AV.toInt_eq hl] at hlv
    rw [AV.toInt_eq hcc] at hcv
    have hel' := (hev _ _ hlv).lit_inv
    have hec := (hev _ _ hcv).lit_inv
    have hw1 : IntKind.i64.wrap l = l := wrap_small hl0 (by omega)
    have hw2 : IntKind.i64.wrap c = c := wrap_small (by omega) (by omega)
    have hbig : ¬ ((i.bytes : Int) * c > 2 ^ 48) := by
      have h1 : (i.bytes : Int) * c ≤ 4096 * 16777216 := Int.mul_le_mul (by omega) (by omega) (by omega) (by omega)
      omega
    obtain ⟨zs, h0, h1⟩ : ∃ zs : Array Value, (c.toNat * n = 0 → zs = #[]) ∧ (c.toNat * n ≠ 0 → zs = z.cells) := by
      by_cases hk : c.toNat * n = 0
      · exact ⟨#[], fun _ => rfl, fun h => absurd hk h⟩
      · exact ⟨z.cells, fun h => absurd h hk, fun _ => rfl⟩
    have hro : RL ρ ω (zeros z.cells.toList c.toNat) ((Array.range (c.toNat * n)).map fun i => zs[i % zs.size]!).toList := by
      rw [zeros_eq]
      by_cases hk : c.toNat * n = 0
      · have : c.toNat = 0 := by
          rcases Nat.mul_eq_zero.1 hk with h | h
          · exact h
          · omega
        rw [this]
        simp [zerosV]; exact .nil
      · rw [h1 hk, range_zeros z.cells c.toNat n hzn hn1]; exact RL.lits _
    generalize hcells : ((Array.range (c.toNat * n)).map fun i => zs[i % zs.size]!) = cells at *
    have hsz : cells.size = c.toNat * n := by rw [← hcells]; simp
    refine ⟨.slice (some ⟨w.heap.size, 0, none⟩) l.toNat c.toNat, .cells cells el, ⟨w.heap.size, 0, cells.size⟩, ?_, rfl, BR.row cells.toList [] hro (by simp) (.inl rfl), fun ρ' _ q1 => .sl (s := ⟨w.heap.size, 0, cells.size⟩) q1 (by omega) (Nat.le_refl _) ⟨rfl, rfl⟩ (fun _ => ⟨rfl, by simp [hsz]⟩) (fun _ => rfl)⟩
    have hif : ((decide (c < 0) || decide ((i.bytes : Int) * c > 2 ^ 48)) || decide (l < 0) || decide (l > c)) = false := by
      simp only [decide_eq_false hbig, Bool.or_false]
      simp; omega
    unfold Instr.makeSlice
    simp only [Sem.run_bind, hrd, Result.andThen, asInt, asIntOf, hel', hec, Sem.run_pure, hri, hw1, hw2]
    rw [if_neg (by rw [Bool.not_eq_true]; exact hif)]
    simp only [Sem.run_bind, run_askRoom, Result.andThen, hrn, Sem.run_pure]
    by_cases hk : c.toNat * n = 0
    · rw [if_pos hk]
      have hz0 := h0 hk
      subst hz0
      simp only [Sem.run_bind, Sem.run_pure, Result.andThen, hcells, run_newRow']
    · rw [if_neg hk]
      have hz1 := h1 hk
      subst hz1
      simp only [Sem.run_bind, hrz, Sem.run_pure, Result.andThen, hcells, run_newRow']

theorem run_newObj' (o : Obj) : (newObj o).run P w = .ok w.heap.size { w with heap := w.heap.push o } := rfl

theorem mMakeMap_ok (hev : Evs ρ ω ev e) {t : TypeId} {r : Option Operand} {nm : Nat} {x : AV} {B : Blk} (h : mMakeMap P ev nm t r = some (x, B)) : MOut P ρ ω w nm (Instr.makeMap t (r.map e)) x B := by
  have hB : BR ρ ω ⟨w.heap.size, 0, 0⟩ (.map []) (.map #[] 0) := BR.map (by simp) (fun i k x e h => by simp at h) (MapKept.stamped_empty 0)
  cases r with
  | none =>
    simp only [mMakeMap] at h
    cases h
    exact ⟨.map (some w.heap.size), _, ⟨w.heap.size, 0, 0⟩, by simp [Instr.makeMap, newObj, Sem.run], rfl, hB, fun ρ' _ q => .mp (s := ⟨w.heap.size, 0, 0⟩) q⟩
  | some y =>
    simp only [mMakeMap, Option.bind_eq_some_iff] at h
    obtain ⟨d, hd, ke, hke, v, hv, ⟨k, j⟩, hj, h⟩ := h
    cases h
    rw [toMapT_eq (n := ke.1) (e := ke.2) hke] at hd
    have hrd := det_run hd w
    rw [AV.toInt_eq hj] at hv
    have he := (hev _ _ hv).lit_inv
    exact ⟨.map (some w.heap.size), _, ⟨w.heap.size, 0, 0⟩, by simp [Instr.makeMap, newObj, Sem.run, hrd, asInt, asIntOf, he], rfl, hB, fun ρ' _ q => .mp (s := ⟨w.heap.size, 0, 0⟩) q⟩

theorem maker_ok (hω : ∀ n, oneV (ω.val n) = true) (hev : Evs ρ ω ev e) {o : Oper} {nm : Nat} {x : AV} {B : Blk} (h : maker P ev nm o = some (x, B)) :
    ∃ v o' sp, (execOp e o).run P w = .ok (.value v) { w with heap := w.heap.push o' } ∧ sp.block = w.heap.size ∧ BR ρ ω sp B o' ∧ ∀ ρ', Le ρ ρ' → ρ' nm = some sp → R ρ' ω x v := by
  have hv : ∀ {s : Sem Value}, MOut P ρ ω w nm s x B → execOp e o = (do pure (.value (← s)) : Sem Next) →
      ∃ v o' sp, (execOp e o).run P w = .ok (.value v) { w with heap := w.heap.push o' } ∧ sp.block = w.heap.size ∧ BR ρ ω sp B o' ∧ ∀ ρ', Le ρ ρ' → ρ' nm = some sp → R ρ' ω x v := by
    intro s ⟨v, o', sp, h1, h2⟩ he
    exact ⟨v, o', sp, by rw [he]; simp [h1], h2⟩
  cases ho : o.op <;> simp only [maker, ho] at h <;> try (cases h; done)
  case alloc t => exact hv (mAlloc_ok h) (by simp only [execOp, ho])
  case box t y => exact hv (mBox_ok hω hev t h) (by simp only [execOp, ho])
  case buildSlice t len parts => exact hv (mBuildSlice_ok hω hev h) (by simp only [execOp, ho])
  case makeMap t r => exact hv (mMakeMap_ok hev h) (by simp only [execOp, ho])
  case makeSlice t l c => exact hv (mMakeSlice_ok hev h) (by simp only [execOp, ho])

theorem same_key {d : TypeDesc} {k k' : Value} (h : Instr.sameNow d k k' = some true) : k = k' ∧ Instr.sameBits 10000 k' k = true := by
  unfold Instr.sameNow at h
  split at h
  · split at h
    · rename_i k a k' b hk
      subst hk
      have : a = b := by simpa using h
      subst this
      exact ⟨rfl, by simp [Instr.sameBits]⟩
    · cases h
  · rename_i a b
    have : a = b := bytes_eq (by simpa using h)
    subst this
    exact ⟨rfl, by simp [Instr.sameBits, bytes_refl]⟩
  · rename_i a b
    have : a = b := by simpa using h
    subst this
    exact ⟨rfl, by simp [Instr.sameBits]⟩
  · cases h

theorem not_same_key {d : TypeDesc} {k k' : Value} (h : Instr.sameNow d k k' = some false) : k ≠ k' := by
  rintro rfl
  unfold Instr.sameNow at h
  split at h
  · split at h
    · simp at h
    · cases h
  · simp [bytes_refl] at h
  · simp at h
  · cases h
theorem findNow_none {d : TypeDesc} {k : Value} : ∀ (es : List MapEntry) (i : Nat), Instr.findNow d k es i = some none → ∀ x ∈ es, x.key ≠ k
  | [], _, _, x, hx => by cases hx
  | y :: es, i, h, x, hx => by
    unfold Instr.findNow at h
    split at h
    · cases h
    · rename_i hs
      cases hx with
      | head => exact fun e => not_same_key hs e.symm
      | tail _ hx => exact findNow_none es (i + 1) h x hx
    · cases h

/-- where a key stands, on both sides -/
theorem findK_ok (hg : Rel ρ ω A.mem.get w) (hev : Evs ρ ω ev e) {t : TypeId} {m k : Operand} {f : Nat × Value × List (Value × AV) × Option (Nat × AV)} (h : findK P ev A t m k = some f) :
    ∃ kt et s es' clock r, (underlying t).run P w = .ok (.map kt et) w ∧ e k = f.2.1 ∧ e m = .map (some s.block) ∧ ρ f.1 = some s ∧ A.mem.get f.1 = some (.map f.2.2.1) ∧
      w.heap[s.block]? = some (.map es' clock) ∧ f.2.2.1.length = es'.size ∧ (∀ (i : Nat) q x y, f.2.2.1[i]? = some (q, x) → es'[i]? = some y → y.key = q ∧ R ρ ω x y.val) ∧
      (∀ b, (Instr.checkKey b 10000 kt (e k)).run P w = .ok () w) ∧ (Instr.findKey kt (e k) es'.toList).run P w = .ok r w ∧
      (match f.2.2.2, r with
        | some p, some q => p.1 = q.1 ∧ ∃ y, es'[q.1]? = some y ∧ y.key = f.2.1 ∧ Instr.sameBits 10000 y.key f.2.1 = true
        | none, none => ∀ x ∈ es'.toList, x.key ≠ f.2.1
        | _, _ => False) ∧ MapKept.Stamped es' clock := by
  simp only [findK, Option.bind_eq_some_iff] at h
  obtain ⟨d, hd, ⟨kt, et⟩, hke, kd, hkd, h⟩ := h
  cases hp : plainKey kd with
  | false => rw [hp] at h; cases h
  | true =>
    simp only [hp, cond_true, Option.bind_eq_some_iff] at h
    obtain ⟨iv, hi, kv, hk, v, hv, b, hb, B, hB, es, hes, r, hf, h⟩ := h
    cases h
    rw [toMapT_eq hke] at hd
    have hrd := det_run hd w
    have hrk := det_run hkd w
    rw [AV.toLit_eq hk] at hi
    rw [AV.toMp_eq hb] at hv
    have hei := (hev _ _ hi).lit_inv
    obtain ⟨s, hs, hex⟩ := (hev _ _ hv).mp_inv
    obtain ⟨es', clock, hh, hlen, hall, hst⟩ := hg.map hB hes hs
    obtain ⟨r', hr', hrel⟩ := find_ok (ρ := ρ) (ω := ω) es es'.toList 0 r (by simpa using hlen) (fun j q x y a b => hall j q x y a (by simpa using b)) hf
    rw [Blk.toMap_eq hes] at hB
    refine ⟨kt, et, s, es', clock, r', hrd, hei, hex, hs, hB, hh, hlen, hall, fun b => checkKey_ok hrk hp b 9999 _, by rw [hei]; simp [Instr.findKey, hrk, hr'], ?_, hst⟩
    cases r <;> cases r' <;> first
      | exact findNow_none _ _ hr'
      | exact hrel
      | (obtain ⟨a, _, _, y, hy, _, hsame⟩ := hrel
         obtain ⟨e1, e2⟩ := same_key hsame
         refine ⟨a, y, ?_, e1.symm, by rw [← e1] at e2 ⊢; exact e2⟩
         rw [← a]; simpa using hy)

theorem run_setObj_map' {r : Nat} {es : Array MapEntry} {clock : Nat} (o : Obj) (hb : w.heap[r]? = some (.map es clock)) : (setObj r o).run P w = .ok () { w with heap := w.heap.setIfInBounds r o } := by
  simp [setObj, Sem.run, hb]

theorem hMapUpdate_ok (hg : Rel ρ ω A.mem.get w) (hn : Nm ρ A.next) (hev : Evs ρ ω ev e) {t : TypeId} {m k y : Operand} {x : AV} {A' : St} (h : hMapUpdate P ev A t m k y = some (x, A')) :
    ∃ w', (Instr.mapUpdate t (e m) (e k) (e y)).run P w = .ok () w' ∧ HOut ρ ω A w x A' undef w' := by
  simp only [hMapUpdate, Option.bind_eq_some_iff] at h
  obtain ⟨f, hf, v, hv, h⟩ := h
  obtain ⟨kt, et, s, es', clock, r, hrd, hek, hem, hs, hB, hh, hlen, hall, hck, hfk, hrel, hst⟩ := findK_ok hg hev hf
  have hgo := run_getObj_map (P := P) (w := w) s.block es' clock hh
  obtain ⟨b, kv, es, ro⟩ := f
  simp only at *
  have hrv := hev _ _ hv
  cases ro with
  | some p =>
    cases r with
    | none => exact hrel.elim
    | some q =>
      simp only at h
      cases h
      obtain ⟨a, z, hz, hz1, hz2⟩ := hrel
      obtain ⟨j, pv⟩ := p
      obtain ⟨j', qv⟩ := q
      simp only at a; subst a
      have hBR : BR ρ ω s (.map (es.set j (kv, v))) (.map (es'.modify j fun x => { x with key := kv, val := e y }) clock) := by
        refine .map (by simp [hlen]) (fun i q x' y' h1 h2 => ?_) (MapKept.stamped_modify hst j _ (fun _ _ => rfl) (fun e _ he => by rw [hz] at he; cases he; exact hz1.symm))
        rw [List.getElem?_set] at h1
        rw [Array.getElem?_modify] at h2
        by_cases hij : j = i
        · subst hij
          obtain ⟨hlt, hz'⟩ := Array.getElem?_eq_some_iff.1 hz
          simp [hlen, hlt] at h1
          simp [hz] at h2
          obtain ⟨rfl, rfl⟩ := h1
          subst h2
          exact ⟨rfl, hrv⟩
        · simp [hij] at h1 h2
          exact hall i q x' y' h1 h2
      obtain ⟨q1, q2, q3⟩ := put_ok hg hn b _ _ _ s hB hs hBR
      refine ⟨_, ?_, ρ, .lit _, q1, q2, q3⟩
      have hkts : (Instr.keyThatStays z.key kv).run P w = .ok kv w := by simp [Instr.keyThatStays, hz2]
      rw [hek] at hfk hck
      simp only [Instr.mapUpdate, Sem.run_bind, hrd, Result.andThen, hem, hgo, hck, hek, hfk, hz, Option.map_some, Option.getD_some, hkts, run_setObj_map' _ hh]
  | none =>
    cases r with
    | some q => exact hrel.elim
    | none =>
      simp only at h
      cases h
      have hBR : BR ρ ω s (.map (es ++ [(kv, v)])) (.map (es'.push { key := kv, val := e y, born := clock }) (clock + 1)) := by
        refine .map (by simp [hlen]) (fun i q x' y' h1 h2 => ?_) (MapKept.stamped_push hst hrel)
        rw [List.getElem?_append] at h1
        rw [Array.getElem?_push] at h2
        by_cases hi : i < es.length
        · rw [if_pos hi] at h1; rw [if_neg (by omega)] at h2; exact hall i q x' y' h1 h2
        · rw [if_neg hi] at h1
          by_cases hi' : i = es.length
          · subst hi'
            simp at h1
            rw [if_pos hlen] at h2; simp at h2
            obtain ⟨rfl, rfl⟩ := h1
            subst h2
            exact ⟨rfl, hrv⟩
          · rw [List.getElem?_eq_none (by simp; omega)] at h1; cases h1
      obtain ⟨q1, q2, q3⟩ := put_ok hg hn b _ _ _ s hB hs hBR
      refine ⟨_, ?_, ρ, .lit _, q1, q2, q3⟩
      rw [hek] at hfk hck
      simp only [Instr.mapUpdate, Sem.run_bind, hrd, Result.andThen, hem, hgo, hck, hek, hfk, run_setObj_map' _ hh]

theorem hDelete_ok (hg : Rel ρ ω A.mem.get w) (hn : Nm ρ A.next) (hev : Evs ρ ω ev e) {t ty : TypeId} {m k : Operand} {x : AV} {A' : St} (h : hDelete P ev A t m k = some (x, A')) (ts : Array TypeId) (hts : ts[0]? = some t) :
    ∃ v w', (Builtin.delete_ ts ty #[e m, e k]).run P w = .ok v w' ∧ HOut ρ ω A w x A' v w' := by
  simp only [hDelete, Option.bind_eq_some_iff] at h
  obtain ⟨f, hf, h⟩ := h
  obtain ⟨kt, et, s, es', clock, r, hrd, hek, hem, hs, hB, hh, hlen, hall, hck, hfk, hrel, hst⟩ := findK_ok hg hev hf
  have hgo := run_getObj_map (P := P) (w := w) s.block es' clock hh
  obtain ⟨b, kv, es, ro⟩ := f
  simp only at *
  cases ro with
  | some p =>
    cases r with
    | none => exact hrel.elim
    | some q =>
      simp only at h
      cases h
      obtain ⟨a, z, hz, hz1, hz2⟩ := hrel
      obtain ⟨j, pv⟩ := p
      obtain ⟨j', qv⟩ := q
      simp only at a; subst a
      have hBR : BR ρ ω s (.map (es.eraseIdx j)) (.map (es'.eraseIdxIfInBounds j) clock) := by
        obtain ⟨hlt, hz'⟩ := Array.getElem?_eq_some_iff.1 hz
        have htl : (es'.eraseIdxIfInBounds j).toList = es'.toList.eraseIdx j := by simp
        refine .map (by rw [← Array.length_toList, htl, List.length_eraseIdx, List.length_eraseIdx]; simp [hlen]) (fun i q x' y' h1 h2 => ?_) (MapKept.stamped_erase hst j)
        rw [← Array.getElem?_toList, htl, List.getElem?_eraseIdx] at h2
        rw [List.getElem?_eraseIdx] at h1
        by_cases hij : i < j
        · rw [if_pos hij] at h1 h2; exact hall i q x' y' h1 (by simpa using h2)
        · rw [if_neg hij] at h1 h2; exact hall (i + 1) q x' y' h1 (by simpa using h2)
      obtain ⟨q1, q2, q3⟩ := put_ok hg hn b _ _ _ s hB hs hBR
      refine ⟨_, _, ?_, ρ, .lit _, q1, q2, q3⟩
      rw [hek] at hfk hck
      simp [Builtin.delete_, hts, hrd, hem, hgo, hck, hek, hfk, run_setObj_map' _ hh]
  | none =>
    cases r with
    | some q => exact hrel.elim
    | none =>
      simp only at h
      cases h
      refine ⟨_, w, ?_, ρ, .lit _, hg, Nn.refl hn, Ev.refl _ _ _⟩
      rw [hek] at hfk hck
      simp [Builtin.delete_, hts, hrd, hem, hgo, hck, hek, hfk, run_setObj_map' _ hh, set_self hh]

end
end Go.Proofs.YtagmkceblklgaaaGreat.Ex
