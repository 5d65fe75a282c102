/-
  THE OPERATIONS THAT LEAVE MEMORY ALONE ARE THE MODEL's (their proofs).
  Conditions: the values that are not known are of one cell.
-/
import Derived.Test.YtagmkceblklgaaaGreatEx4
namespace Go.Proofs.YtagmkceblklgaaaGreat.Ex
section
variable {P : Program} {ρ : Nat → Option Spot} {ω : Env} {g : Nat → Option Blk} {w : World} {ev : Operand → Option AV} {e : Operand → Value}

def Evs (ρ : Nat → Option Spot) (ω : Env) (ev : Operand → Option AV) (e : Operand → Value) : Prop := ∀ x v, ev x = some v → R ρ ω v (e x)

theorem evs_ok (hev : Evs ρ ω ev e) : ∀ {l : List Operand} {r : List AV}, evs ev l = some r → RL ρ ω r (l.map e)
  | [], r, h => by simp [evs] at h; subst h; exact .nil
  | x :: l, r, h => by
    simp only [evs, Option.bind_eq_some_iff] at h
    obtain ⟨a, ha, s, hs, h⟩ := h
    cases h
    exact RL.cons (hev x a ha) (evs_ok hev hs)

theorem litsOf_ok : ∀ {l : List AV} {r : List Value} {m : List Value}, litsOf l = some r → RL ρ ω l m → m = r
  | [], r, m, h, hm => by simp [litsOf] at h; subst h; have := hm.1; exact List.length_eq_zero_iff.1 (by simpa using this.symm)
  | .lit v :: l, r, m, h, hm => by
    simp only [litsOf, Option.bind_eq_some_iff] at h
    obtain ⟨s, hs, h⟩ := h
    cases h
    cases m with
    | nil => have := hm.1; simp at this
    | cons u m =>
      have h0 := (hm.2 0 _ _ rfl rfl).lit_inv
      have h1 : RL ρ ω l m := ⟨by have := hm.1; simpa using this, fun i x v a b => hm.2 (i + 1) x v (by simpa using a) (by simpa using b)⟩
      rw [h0, litsOf_ok hs h1]
  | .opq n _ :: l, r, m, h, hm => by simp [litsOf] at h
  | .any :: l, r, m, h, hm => by simp [litsOf] at h
  | .ptr _ _ :: l, r, m, h, hm => by simp [litsOf] at h
  | .sl .. :: l, r, m, h, hm => by simp [litsOf] at h
  | .mp _ :: l, r, m, h, hm => by simp [litsOf] at h
  | .fn .. :: l, r, m, h, hm => by simp [litsOf] at h
  | .ifc .. :: l, r, m, h, hm => by simp [litsOf] at h
  | .agg _ :: l, r, m, h, hm => by simp [litsOf] at h
  | .tup _ :: l, r, m, h, hm => by simp [litsOf] at h

theorem toVal_ok {x : AV} {u v : Value} (h : toVal x = some u) (hr : R ρ ω x v) : v = u := by
  cases x with
  | lit a => simp [toVal] at h; subst h; exact hr.lit_inv
  | agg l =>
    simp only [toVal, Option.bind_eq_some_iff] at h
    obtain ⟨vs, hvs, h⟩ := h
    cases h
    obtain ⟨cs, rfl, hl⟩ := hr.of_agg
    have := litsOf_ok hvs hl
    rw [← this]
  | _ => simp [toVal] at h

theorem allLit_ok (hev : Evs ρ ω ev e) : ∀ {l : List Operand}, allLit ev l = true → ∀ x ∈ l, litE ev x = e x
  | [], _, x, hx => by cases hx
  | y :: l, h, x, hx => by
    simp only [allLit, Bool.and_eq_true] at h
    cases hx with
    | head =>
      obtain ⟨u, hu⟩ := Option.isSome_iff_exists.1 h.1
      simp only [litE, hu, Option.getD_some]
      simp only [Option.bind_eq_some_iff] at hu
      obtain ⟨a, ha, hu⟩ := hu
      exact (toVal_ok hu (hev _ _ ha)).symm
    | tail _ hx => exact allLit_ok hev h.2 x hx

theorem adet_ok (hev : Evs ρ ω ev e) {o : Oper} {x : AV} (h : adet P ev o = some x) : ∃ v, (execOp e o).run P w = .ok (.value v) w ∧ R ρ ω x v := by
  unfold adet at h
  cases hc : (noSelect o.op && allLit ev o.op.operands.toList) with
  | false => rw [hc] at h; cases h
  | true =>
    rw [hc] at h
    simp only [cond_true, Option.bind_eq_some_iff] at h
    obtain ⟨n, hn, v, hv, h⟩ := h
    cases h
    simp only [Bool.and_eq_true] at hc
    have hs : ∀ cs b, o.op ≠ .select cs b := by
      intro cs b e; rw [e] at hc; simp [noSelect] at hc
    have he := execOp_congr (ρ := litE ev) (ρ' := e) o hs (fun x hx => allLit_ok hev hc.2 x (by simpa using hx))
    have hr := det_run hn w
    rw [he] at hr
    cases n <;> simp [Next.toValue] at hv
    subst hv
    exact ⟨_, hr, .lit _⟩

theorem lightLoad_ok (hω : ∀ n, oneV (ω.val n) = true) (hg : Rel ρ ω g w) (hev : Evs ρ ω ev e) {t : TypeId} {a : Operand} {x : AV} (h : lightLoad P g ev t a = some x) :
    ∃ v, (Instr.loadAt t (e a)).run P w = .ok v w ∧ R ρ ω x v := by
  simp only [lightLoad, Option.bind_eq_some_iff] at h
  obtain ⟨p, hp, ⟨b, off⟩, hb, B, hB, c, hc, hx⟩ := h
  rw [AV.toPtr_eq hb] at hp
  obtain ⟨s, hs, he⟩ := (hev _ _ hp).ptr_inv
  obtain ⟨v, hv, hr⟩ := loadVar_ok (P := P) hg hB hc hs hx
  exact ⟨v, by simp [Instr.loadAt, Instr.sureAddr, he, hv], hr⟩

theorem lightFieldAddr_ok (hev : Evs ρ ω ev e) {s : TypeId} {x : Operand} {f : Nat} {y : AV} (h : lightFieldAddr P ev s x f = some y) :
    ∃ v, (Instr.fieldAt s (e x) f).run P w = .ok v w ∧ R ρ ω y v := by
  simp only [lightFieldAddr, Option.bind_eq_some_iff] at h
  obtain ⟨d, hd, fs, hfs, fd, hfd, n, hn, h⟩ := h
  cases hz : Nat.beq n 0 with
  | true => rw [hz] at h; cases h
  | false =>
    rw [hz] at h
    simp only [cond_false, Option.bind_eq_some_iff] at h
    obtain ⟨p, hp, ⟨b, off⟩, hb, h⟩ := h
    cases h
    rw [AV.toPtr_eq hb] at hp
    obtain ⟨s', hs, he⟩ := (hev _ _ hp).ptr_inv
    rw [toStruct_eq hfs] at hd
    have hrd := det_run hd w
    have hrn := det_run hn w
    have hn0 : n ≠ 0 := fun e => by subst e; simp at hz
    refine ⟨.pointer (some ⟨s'.block, s'.base + (off + fd.offset), none⟩), ?_, .ptr hs⟩
    simp [Instr.fieldAt, hrd, hfd, Instr.sureAddr, he, fieldPlace, hrn, hn0, Addr.add_none, Nat.add_assoc]

theorem lightField_ok (hev : Evs ρ ω ev e) {t : TypeId} {x : Operand} {f : Nat} {y : AV} (h : lightField P ev t x f = some y) :
    ∃ v, (Instr.field t (e x) f).run P w = .ok v w ∧ R ρ ω y v := by
  simp only [lightField, Option.bind_eq_some_iff] at h
  obtain ⟨d, hd, fs, hfs, fd, hfd, p, hp, l, hl, hy⟩ := h
  rw [toStruct_eq hfs] at hd
  have hrd := det_run hd w
  obtain ⟨cs, he, hrl⟩ := (hev _ _ hp).agg_inv hl
  obtain ⟨v, hv, hr⟩ := part_ok (P := P) hrl hy w
  exact ⟨v, by simp [Instr.field, hrd, hfd, asAgg, he, hv], hr⟩

theorem lightIndexAddrS_ok (hev : Evs ρ ω ev e) {t : TypeId} {x i : Operand} {y : AV} (h : lightIndexAddrS P ev t x i = some y) :
    ∃ v, (Instr.indexAt t (e x) (e i)).run P w = .ok v w ∧ R ρ ω y v := by
  simp only [lightIndexAddrS, Option.bind_eq_some_iff] at h
  obtain ⟨d, hd, el, hel, n, hn, iv, hi, ⟨k, j⟩, hk, p, hp, s, hs, h⟩ := h
  cases hb : (decide (0 ≤ j) && decide (j < (s.len : Int))) with
  | false => simp only [hb] at h; cases h
  | true =>
    simp only [hb, cond_true] at h
    cases h
    simp only [Bool.and_eq_true, decide_eq_true_eq] at hb
    rw [toSlice_eq hel] at hd
    have hrd := det_run hd w
    have hrn := det_run hn w
    rw [AV.toSl_eq hs] at hp
    rw [AV.toInt_eq hk] at hi
    obtain ⟨s', a, cap, hs', he, hl, hlc, hsp, ha, _⟩ := (hev _ _ hp).sl_inv
    have hei := (hev _ _ hi).lit_inv
    obtain ⟨rfl, _⟩ := ha (by omega)
    refine ⟨.pointer (some ⟨s'.block, s'.base + (s.off + j.toNat * n), none⟩), ?_, .ptr hs'⟩
    simp [Instr.indexAt, asIntOf, hei, hrd, he, hrn, hb.1, hb.2, Addr.add_none, Nat.add_assoc]

theorem lightIndexAddrA_ok (hev : Evs ρ ω ev e) {t : TypeId} {x i : Operand} {y : AV} (h : lightIndexAddrA P ev t x i = some y) :
    ∃ v, (Instr.indexAt t (e x) (e i)).run P w = .ok v w ∧ R ρ ω y v := by
  simp only [lightIndexAddrA, Option.bind_eq_some_iff] at h
  obtain ⟨d, hd, ⟨len, el⟩, hel, n, hn, iv, hi, ⟨k, j⟩, hk, p, hp, ⟨b, off⟩, hs, h⟩ := h
  cases hb : (decide (0 ≤ j) && decide (j < (len : Int))) with
  | false => simp only [hb] at h; cases h
  | true =>
    simp only [hb, cond_true] at h
    cases h
    simp only [Bool.and_eq_true, decide_eq_true_eq] at hb
    rw [toArr_eq hel] at hd
    have hrd := det_run hd w
    have hrn := det_run hn w
    rw [AV.toPtr_eq hs] at hp
    rw [AV.toInt_eq hk] at hi
    obtain ⟨s', hs', he⟩ := (hev _ _ hp).ptr_inv
    have hei := (hev _ _ hi).lit_inv
    refine ⟨.pointer (some ⟨s'.block, s'.base + (off + j.toNat * n), none⟩), ?_, .ptr hs'⟩
    simp [Instr.indexAt, asIntOf, hei, hrd, Instr.sureAddr, he, hrn, hb.1, hb.2, Addr.add_none, Nat.add_assoc]

theorem lightIndex_ok (hev : Evs ρ ω ev e) {t : TypeId} {x i : Operand} {y : AV} (h : lightIndex P ev t x i = some y) :
    ∃ v, (Instr.index t (e x) (e i)).run P w = .ok v w ∧ R ρ ω y v := by
  simp only [lightIndex, Option.bind_eq_some_iff] at h
  obtain ⟨d, hd, ⟨len, el⟩, hel, n, hn, iv, hi, ⟨k, j⟩, hk, p, hp, l, hs, h⟩ := h
  cases hb : (decide (0 ≤ j) && decide (j < (len : Int))) with
  | false => simp only [hb] at h; cases h
  | true =>
    simp only [hb, cond_true] at h
    simp only [Bool.and_eq_true, decide_eq_true_eq] at hb
    rw [toArr_eq hel] at hd
    have hrd := det_run hd w
    have hrn := det_run hn w
    rw [AV.toInt_eq hk] at hi
    obtain ⟨cs, he, hrl⟩ := (hev _ _ hp).agg_inv hs
    have hei := (hev _ _ hi).lit_inv
    obtain ⟨v, hv, hr⟩ := part_ok (P := P) hrl h w
    exact ⟨v, by simp [Instr.index, asIntOf, hei, hrd, he, hrn, hb.1, hb.2, hv], hr⟩

theorem bound_ok (hev : Evs ρ ω ev e) {d : Nat} {x : Operand} {n : Nat} (h : bound ev d (some x) = some n) (y : Nat) (hy : n ≤ y) (code : BoundsCode) :
    (Instr.sliceBound (e x) y code).run P w = .ok n w := by
  simp only [bound, Option.bind_eq_some_iff] at h
  obtain ⟨v, hv, ⟨k, j⟩, hk, h⟩ := h
  cases hb : decide ((0 : Int) ≤ j) with
  | false => simp only [hb] at h; cases h
  | true =>
    simp only [hb, cond_true] at h
    cases h
    simp only [decide_eq_true_eq] at hb
    rw [AV.toInt_eq hk] at hv
    have hei := (hev _ _ hv).lit_inv
    rw [hei]
    simp [Instr.sliceBound, asIntOf, hb]
    omega

theorem bounds_ok (hev : Evs ρ ω ev e) {isSlice : Bool} {len cap : Nat} {lo hi : Option Operand} {l h : Nat} (hl : bound ev 0 lo = some l) (hh : bound ev len hi = some h) (h1 : l ≤ h) (h2 : h ≤ cap) :
    (Instr.sliceBounds isSlice len cap (lo.map e) (hi.map e) none).run P w = .ok (l, h, cap) w := by
  cases lo with
  | none =>
    simp [bound] at hl; subst hl
    cases hi with
    | none => simp [bound] at hh; subst hh; simp [Instr.sliceBounds]
    | some y => have := fun c => bound_ok (P := P) (w := w) hev hh cap h2 c; simp [Instr.sliceBounds, this]
  | some x =>
    have hx := fun c => bound_ok (P := P) (w := w) hev hl h h1 c
    cases hi with
    | none => simp [bound] at hh; subst hh; simp [Instr.sliceBounds, hx]
    | some y => have := fun c => bound_ok (P := P) (w := w) hev hh cap h2 c; simp [Instr.sliceBounds, this, hx]

theorem bounds3_ok (hev : Evs ρ ω ev e) {isSlice : Bool} {len cap : Nat} {lo : Option Operand} {hi mx : Operand} {l h m : Nat} (hl : bound ev 0 lo = some l) (hh : bound ev len (some hi) = some h) (hm : bound ev 0 (some mx) = some m)
    (h1 : l ≤ h) (h2 : h ≤ m) (h3 : m ≤ cap) :
    (Instr.sliceBounds isSlice len cap (lo.map e) (some (e hi)) (some (e mx))).run P w = .ok (l, h, m) w := by
  have hmx := fun c => bound_ok (P := P) (w := w) hev hm cap h3 c
  have hhx := fun c => bound_ok (P := P) (w := w) hev hh m h2 c
  cases lo with
  | none => simp [bound] at hl; subst hl; simp [Instr.sliceBounds, hmx, hhx]
  | some x =>
    have hx := fun c => bound_ok (P := P) (w := w) hev hl h h1 c
    simp [Instr.sliceBounds, hmx, hhx, hx]

theorem R.slice_of {s : Spot} {b off l h m n lo : Nat} {a : Addr} {ex : Bool} (hs : ρ b = some s) (ha : a.block = s.block ∧ a.spot = none) (hex : 0 < m → a = ⟨s.block, s.base + off, none⟩ ∧ off + m * n ≤ s.room)
    (h1 : l ≤ h) (h2 : h ≤ lo) (h3 : lo ≤ m) (he : ex = true → m = lo) :
    R ρ ω (.sl b (off + l * n) (h - l) n (lo - l) ex) (.slice (if m = l then some a else some (a.add (l * n))) (h - l) (m - l)) := by
  by_cases hml : m = l
  · rw [if_pos hml]
    exact .sl hs (by omega) (by omega) ha (by omega) (fun e => by have := he e; omega)
  · rw [if_neg hml]
    obtain ⟨rfl, hr⟩ := hex (by omega)
    refine .sl hs (by omega) (by omega) (by rw [Addr.add_none]; exact ⟨rfl, rfl⟩) (fun _ => ⟨by rw [Addr.add_none, Nat.add_assoc], ?_⟩) (fun e => by have := he e; omega)
    have : l * n + (m - l) * n = m * n := by rw [← Nat.add_mul]; congr 1; omega
    omega

theorem lightSlice_ok (hev : Evs ρ ω ev e) {t : TypeId} {x : Operand} {lo hi mx : Option Operand} {y : AV} (h : lightSlice P ev t x lo hi mx = some y) :
    ∃ v, (Instr.sliceAt t (e x) (lo.map e) (hi.map e) (mx.map e)).run P w = .ok v w ∧ R ρ ω y v := by
  simp only [lightSlice, Option.bind_eq_some_iff] at h
  obtain ⟨d, hd, el, hel, n, hn, p, hp, s, hs, l, hl, hh, hhi, h⟩ := h
  rw [toSlice_eq hel] at hd
  have hrd := det_run hd w
  have hrn := det_run hn w
  rw [AV.toSl_eq hs] at hp
  obtain ⟨s', a, cap, hs', he, hle, hlc, hsp, ha, hex⟩ := (hev _ _ hp).sl_inv
  cases mx with
  | none =>
    simp only at h
    cases hb : (Nat.ble l hh && Nat.ble hh s.lo && Nat.beq n s.size) with
    | false => rw [hb] at h; cases h
    | true =>
      rw [hb] at h; cases h
      simp only [Bool.and_eq_true, Nat.ble_eq, Nat.beq_eq] at hb
      obtain ⟨⟨h1, h2⟩, rfl⟩ := hb
      have hbd := fun i => bounds_ok (P := P) (w := w) (isSlice := i) (cap := cap) hev hl hhi h1 (by omega)
      refine ⟨_, ?_, R.slice_of (m := cap) hs' hsp ha h1 h2 hlc hex⟩
      simp [Instr.sliceAt, Instr.slice, hrd, he, hbd, hrn]
  | some z =>
    simp only [Option.bind_eq_some_iff] at h
    obtain ⟨m, hm, h⟩ := h
    cases hb : (hi.isSome && Nat.ble l hh && Nat.ble hh m && Nat.ble m s.lo && Nat.beq n s.size) with
    | false => rw [hb] at h; cases h
    | true =>
      rw [hb] at h; cases h
      simp only [Bool.and_eq_true, Nat.ble_eq, Nat.beq_eq] at hb
      obtain ⟨⟨⟨⟨h0, h1⟩, h2⟩, h3⟩, rfl⟩ := hb
      obtain ⟨y, rfl⟩ := Option.isSome_iff_exists.1 h0
      have hbd := fun i => bounds3_ok (P := P) (w := w) (isSlice := i) (cap := cap) hev hl hhi hm h1 h2 (by omega)
      refine ⟨_, ?_, R.slice_of (m := m) (lo := m) hs' hsp (fun hm0 => ?_) h1 h2 (Nat.le_refl _) (fun _ => rfl)⟩
      · simp [Instr.sliceAt, Instr.slice, hrd, he, hbd, hrn]
      · obtain ⟨q1, q2⟩ := ha (by omega)
        refine ⟨q1, Nat.le_trans ?_ q2⟩
        have : m * s.size ≤ cap * s.size := Nat.mul_le_mul_right _ (by omega)
        omega

theorem lightSliceA_ok (hg : Rel ρ ω g w) (hev : Evs ρ ω ev e) {t : TypeId} {x : Operand} {lo hi mx : Option Operand} {y : AV} (h : lightSliceA P g ev t x lo hi mx = some y) :
    ∃ v, (Instr.sliceAt t (e x) (lo.map e) (hi.map e) (mx.map e)).run P w = .ok v w ∧ R ρ ω y v := by
  simp only [lightSliceA, Option.bind_eq_some_iff] at h
  obtain ⟨d, hd, ⟨k, el⟩, hel, n, hn, p, hp, ⟨b, off⟩, hs, B, hB, c, hc, l, hl, hh, hhi, h⟩ := h
  rw [toArr_eq hel] at hd
  have hrd := det_run hd w
  have hrn := det_run hn w
  rw [AV.toPtr_eq hs] at hp
  obtain ⟨s', hs', he⟩ := (hev _ _ hp).ptr_inv
  cases hb : (mx.isNone && Nat.ble l hh && Nat.ble hh k && Nat.ble (off + k * n) c.length) with
  | false => simp only [hb] at h; cases h
  | true =>
    simp only [hb, cond_true] at h; cases h
    simp only [Bool.and_eq_true, Nat.ble_eq, Option.isNone_iff_eq_none] at hb
    obtain ⟨⟨⟨rfl, h1⟩, h2⟩, h3⟩ := hb
    obtain ⟨cs, t', fr, hh', hsz, hlen, _, _⟩ := hg.cells hB hc hs'
    have hbd := fun i => bounds_ok (P := P) (w := w) (isSlice := i) (cap := k) (len := k) hev hl hhi h1 h2
    refine ⟨_, ?_, R.slice_of (a := ⟨s'.block, s'.base + off, none⟩) (m := k) (lo := k) hs' ⟨rfl, rfl⟩ (fun _ => ⟨rfl, by omega⟩) h1 h2 (Nat.le_refl _) (fun _ => rfl)⟩
    simp [Instr.sliceAt, hrd, Instr.sureAddr, he, hbd, hrn]
    split <;> simp_all

end
end Go.Proofs.YtagmkceblklgaaaGreat.Ex
