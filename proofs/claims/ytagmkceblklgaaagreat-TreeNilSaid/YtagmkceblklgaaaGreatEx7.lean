/-
  THE OPERATIONS THAT LEAVE MEMORY ALONE ARE THE MODEL's (their proofs, third part: all of them).
  Conditions: the values that are not known are of one cell.
-/
import Derived.Test.YtagmkceblklgaaaGreatEx6
namespace Go.Proofs.YtagmkceblklgaaaGreat.Ex
section
variable {P : Program} {ρ : Nat → Option Spot} {ω : Env} {g : Nat → Option Blk} {w : World} {ev : Operand → Option AV} {e : Operand → Value}

theorem bytesOf_ok : ∀ {l : List AV} {r : List UInt8} {m : List Value}, bytesOf l = some r → RL ρ ω l m → ∃ ns : List Int, m = ns.map (fun n => .int .u8 n) ∧ r = ns.map fun n => UInt8.ofNat n.toNat
  | [], r, m, h, hm => by simp [bytesOf] at h; subst h; exact ⟨[], List.length_eq_zero_iff.1 (by simpa using hm.1.symm), rfl⟩
  | .lit (.int .u8 n) :: l, r, m, h, hm => by
    simp only [bytesOf, Option.bind_eq_some_iff] at h
    obtain ⟨s, hs, h⟩ := h
    cases h
    cases m with
    | nil => have := hm.1; simp at this
    | cons u m =>
      have h0 := (hm.2 0 _ _ rfl rfl).lit_inv
      have h1 : RL ρ ω l m := ⟨by have := hm.1; simpa using this, fun i x v a b => hm.2 (i + 1) x v (by simpa using a) (by simpa using b)⟩
      obtain ⟨ns, e1, e2⟩ := bytesOf_ok hs h1
      exact ⟨n :: ns, by rw [h0, e1]; rfl, by rw [e2]; rfl⟩
  | .lit (.int .i8 n) :: l, r, m, h, hm => by simp [bytesOf] at h
  | .lit (.int .i16 n) :: l, r, m, h, hm => by simp [bytesOf] at h
  | .lit (.int .i32 n) :: l, r, m, h, hm => by simp [bytesOf] at h
  | .lit (.int .i64 n) :: l, r, m, h, hm => by simp [bytesOf] at h
  | .lit (.int .u16 n) :: l, r, m, h, hm => by simp [bytesOf] at h
  | .lit (.int .u32 n) :: l, r, m, h, hm => by simp [bytesOf] at h
  | .lit (.int .u64 n) :: l, r, m, h, hm => by simp [bytesOf] at h
  | .lit (.bool _) :: l, r, m, h, hm => by simp [bytesOf] at h
  | .lit (.float ..) :: l, r, m, h, hm => by simp [bytesOf] at h
  | .lit (.complex ..) :: l, r, m, h, hm => by simp [bytesOf] at h
  | .lit (.string _) :: l, r, m, h, hm => by simp [bytesOf] at h
  | .lit (.pointer _) :: l, r, m, h, hm => by simp [bytesOf] at h
  | .lit (.slice ..) :: l, r, m, h, hm => by simp [bytesOf] at h
  | .lit (.map _) :: l, r, m, h, hm => by simp [bytesOf] at h
  | .lit (.chan _) :: l, r, m, h, hm => by simp [bytesOf] at h
  | .lit (.func ..) :: l, r, m, h, hm => by simp [bytesOf] at h
  | .lit .nilFunc :: l, r, m, h, hm => by simp [bytesOf] at h
  | .lit (.iface ..) :: l, r, m, h, hm => by simp [bytesOf] at h
  | .lit .nilIface :: l, r, m, h, hm => by simp [bytesOf] at h
  | .lit (.agg _) :: l, r, m, h, hm => by simp [bytesOf] at h
  | .lit (.tuple _) :: l, r, m, h, hm => by simp [bytesOf] at h
  | .opq n _ :: l, r, m, h, hm => by simp [bytesOf] at h
  | .any :: l, r, m, h, hm => by simp [bytesOf] at h
  | .ptr _ _ :: l, r, m, h, hm => by simp [bytesOf] at h
  | .sl .. :: l, r, m, h, hm => by simp [bytesOf] at h
  | .mp _ :: l, r, m, h, hm => by simp [bytesOf] at h
  | .fn .. :: l, r, m, h, hm => by simp [bytesOf] at h
  | .ifc .. :: l, r, m, h, hm => by simp [bytesOf] at h
  | .agg _ :: l, r, m, h, hm => by simp [bytesOf] at h
  | .tup _ :: l, r, m, h, hm => by simp [bytesOf] at h

theorem foldl_push : ∀ (ns : List Int) (r : ByteArray), ns.foldl (fun r n => r.push (UInt8.ofNat n.toNat)) r = ⟨r.data ++ (ns.map fun n => UInt8.ofNat n.toNat).toArray⟩
  | [], r => by simp
  | n :: ns, r => by rw [List.foldl_cons, foldl_push ns]; simp [ByteArray.push]

theorem isStr_eq {d : TypeDesc} (h : isStr d = true) : d = .string := by cases d <;> simp [isStr] at h; rfl
theorem isU8_eq {d : TypeDesc} (h : isU8 d = true) : d = .int .u8 := by
  cases d with
  | int k => cases k <;> simp [isU8] at h; rfl
  | _ => simp [isU8] at h

theorem lightStr_ok (hg : Rel ρ ω g w) (hev : Evs ρ ω ev e) {src dst : TypeId} {x : Operand} {y : AV} (h : lightStr P g ev src dst x = some y) :
    ∃ v, (convert src dst (e x)).run P w = .ok v w ∧ R ρ ω y v := by
  simp only [lightStr, Option.bind_eq_some_iff] at h
  obtain ⟨sd, hsd, el, hel, ed, hed, dd, hdd, h⟩ := h
  cases hb : (isU8 ed && isStr dd) with
  | false => simp only [hb] at h; cases h
  | true =>
    simp only [hb, cond_true, Option.bind_eq_some_iff] at h
    obtain ⟨p, hp, s, hs, B, hB, c, hc, h⟩ := h
    simp only [Bool.and_eq_true] at hb
    rw [toSlice_eq hel] at hsd
    rw [isU8_eq hb.1] at hed
    rw [isStr_eq hb.2] at hdd
    have hr1 := det_run hsd w
    have hr2 := det_run hed w
    have hr3 := det_run hdd w
    cases hle : (Nat.ble (s.off + s.len) c.length && Nat.ble 1 s.len) with
    | false => simp only [hle] at h; cases h
    | true =>
      simp only [hle, cond_true, Option.bind_eq_some_iff] at h
      obtain ⟨l, hl, h⟩ := h
      cases h
      simp only [Bool.and_eq_true, Nat.ble_eq] at hle
      rw [AV.toSl_eq hs] at hp
      obtain ⟨s', a, cap, hs', he, hll, hlc, hsp, ha, _⟩ := (hev _ _ hp).sl_inv
      obtain ⟨rfl, _⟩ := ha (by omega)
      obtain ⟨cs, t', fr, hh, hsz, hlen, _, hcell⟩ := hg.cells hB hc hs'
      have hrl := cells_range (ρ := ρ) (ω := ω) (c := c) (cs := cs) (o := s'.base) (off := s.off) (n := s.len) hcell hle.1
      obtain ⟨ns, e1, e2⟩ := bytesOf_ok hl hrl
      have hlc : (loadCells ⟨s'.block, s'.base + s.off, none⟩ s.len).run P w = .ok (ns.map fun n => Value.int .u8 n).toArray w := by
        rw [run_loadCells (P := P) w ⟨s'.block, s'.base + s.off, none⟩ s.len (fun j => cs.getD (s'.base + s.off + j) undef) (fun j hj => by
          rw [Addr.add_none, cell_of hh]
          obtain ⟨u, hu, _⟩ := hcell (s.off + j) _ (List.getElem?_eq_getElem (by omega))
          rw [show s'.base + (s.off + j) = s'.base + s.off + j by omega] at hu
          simp [hu]), e1]
      refine ⟨.string ⟨l.toArray⟩, ?_, .lit _⟩
      have hnl : ns.length = s.len := by have := congrArg List.length e1; simpa using this.symm
      have hbs := run_bytesToString (P := P) w ⟨s'.block, s'.base + s.off, none⟩ s.len cap ns (by simpa [hnl] using hlc)
      simp only [convert, Sem.run_bind, hr1, hr3, Result.andThen, he, hr2]
      rw [hbs]
      rw [foldl_push, e2]; congr 2; simp

theorem lightLen_ok (hg : Rel ρ ω g w) (hev : Evs ρ ω ev e) {t : TypeId} {x : Operand} {y : AV} (ty : TypeId) (h : lightLen P g ev t x = some y) :
    ∃ v, (Builtin.len_ #[t] ty #[e x]).run P w = .ok v w ∧ R ρ ω y v := by
  simp only [lightLen, Option.bind_eq_some_iff] at h
  obtain ⟨d, hd, v, hv, h⟩ := h
  have hrd := det_run hd w
  cases d with
  | slice el =>
    simp only [Option.bind_eq_some_iff] at h
    obtain ⟨s, hs, h⟩ := h
    cases h
    rw [AV.toSl_eq hs] at hv
    obtain ⟨s', a, cap, hs', he, _⟩ := (hev _ _ hv).sl_inv
    exact ⟨_, by simp [Builtin.len_, hrd, he, goInt], .lit _⟩
  | map k el =>
    simp only [Option.bind_eq_some_iff] at h
    obtain ⟨b, hb, B, hB, es, hes, h⟩ := h
    cases h
    rw [AV.toMp_eq hb] at hv
    obtain ⟨s, hs, hex⟩ := (hev _ _ hv).mp_inv
    obtain ⟨es', clock, hh, hlen, hall, _⟩ := hg.map hB hes hs
    have hgo := run_getObj_map (P := P) (w := w) s.block es' clock hh
    exact ⟨.int .i64 es'.size, by simp [Builtin.len_, hrd, hex, hgo, goInt], by rw [hlen]; exact .lit _⟩
  | _ => simp at h

theorem lightCap_ok (hev : Evs ρ ω ev e) {t : TypeId} {x : Operand} {y : AV} (ty : TypeId) (h : lightCap P ev t x = some y) :
    ∃ v, (Builtin.cap_ #[t] ty #[e x]).run P w = .ok v w ∧ R ρ ω y v := by
  simp only [lightCap, Option.bind_eq_some_iff] at h
  obtain ⟨d, hd, el, hel, v, hv, s, hs, h⟩ := h
  have hrd := det_run hd w
  rw [toSlice_eq hel] at hrd
  rw [AV.toSl_eq hs] at hv
  obtain ⟨s', a, cap, hs', he, _, _, _, _, hex⟩ := (hev _ _ hv).sl_inv
  cases hx : s.ex with
  | false => rw [hx] at h; cases h
  | true =>
    rw [hx] at h; cases h
    have := hex hx
    exact ⟨.int .i64 cap, by simp [Builtin.cap_, hrd, he, goInt], by rw [this]; exact .lit _⟩

theorem lightNil_ok (hev : Evs ρ ω ev e) {x : Operand} {y : AV} (h : lightNil ev x = some y) (o : Oper) (ho : o.op = .nilCheck x) :
    ∃ v, (execOp e o).run P w = .ok (.value v) w ∧ R ρ ω y v := by
  simp only [lightNil, Option.bind_eq_some_iff] at h
  obtain ⟨v, hv, h⟩ := h
  have hr := hev _ _ hv
  cases v with
  | ptr b off =>
    cases h
    obtain ⟨s, hs, he⟩ := hr.ptr_inv
    exact ⟨e x, by simp [execOp, ho, he], hr⟩
  | fn f l m =>
    cases f <;> simp at h
    subst h
    obtain ⟨l', m', he, _⟩ := hr.of_fn
    exact ⟨e x, by simp [execOp, ho, he], hr⟩
  | _ => simp at h

theorem ok_value {s : Sem Value} {y : AV} (h : ∃ v, s.run P w = .ok v w ∧ R ρ ω y v) : ∃ v, ((do pure (.value (← s)) : Sem Next)).run P w = .ok (.value v) w ∧ R ρ ω y v := by
  obtain ⟨v, hv, hr⟩ := h
  exact ⟨v, by simp [hv], hr⟩

theorem resolve_builtin (e : Operand → Value) {c : Call} {b : Builtin} (hc : c.callee = .builtin b) (ty : TypeId) :
    ∃ cs, resolve e c ty = (pure { target := .builtin b c.argTypes ty cs, args := c.args.map e } : Sem Deferred) := by
  unfold resolve; rw [hc]; exact ⟨_, rfl⟩

theorem lightCall_ok (hg : Rel ρ ω g w) (hev : Evs ρ ω ev e) {c : Call} {y : AV} (o : Oper) (ho : o.op = .call c) (h : lightCall P g ev c = some y) :
    ∃ v, (execOp e o).run P w = .ok (.value v) w ∧ R ρ ω y v := by
  unfold lightCall at h
  split at h
  · rename_i x t hcal hargs hts
    obtain ⟨v, hv, hr⟩ := lightLen_ok hg hev o.type h
    obtain ⟨cs, hres⟩ := resolve_builtin e hcal o.type
    have h1 : c.args.map e = #[e x] := by rw [← Array.toList_inj]; simp [hargs]
    have h2 : c.argTypes = #[t] := by rw [← Array.toList_inj]; simp [hts]
    exact ⟨v, by simp [execOp, ho, hres, h1, h2, invoke, builtin, hv], hr⟩
  · rename_i x t hcal hargs hts
    obtain ⟨v, hv, hr⟩ := lightCap_ok hev (w := w) o.type h
    obtain ⟨cs, hres⟩ := resolve_builtin e hcal o.type
    have h1 : c.args.map e = #[e x] := by rw [← Array.toList_inj]; simp [hargs]
    have h2 : c.argTypes = #[t] := by rw [← Array.toList_inj]; simp [hts]
    exact ⟨v, by simp [execOp, ho, hres, h1, h2, invoke, builtin, hv], hr⟩
  · cases h

theorem orElse_or {α : Type} {a b : Option α} {y : α} (h : (a.orElse fun _ => b) = some y) : a = some y ∨ b = some y := by
  cases a with
  | none => exact .inr h
  | some x => exact .inl h

theorem light_ok (hω : ∀ n, oneV (ω.val n) = true) (hg : Rel ρ ω g w) (hev : Evs ρ ω ev e) {o : Oper} {y : AV} (h : light P g ev o = some y) :
    ∃ v, (execOp e o).run P w = .ok (.value v) w ∧ R ρ ω y v := by
  let y' := y
  have hdet : ∀ v, adet P ev o = some v → some v = some y → ∃ v, (execOp e o).run P w = .ok (.value v) w ∧ R ρ ω y v := by
    intro v hv e; cases e; exact adet_ok hev hv
  cases ho : o.op
  case move x => simp only [light, ho] at h; exact ⟨e x, by simp [execOp, ho], hev _ _ h⟩
  case assign x => simp only [light, ho] at h; exact ⟨e x, by simp [execOp, ho], hev _ _ h⟩
  case pick c a b =>
    simp only [light, ho, Option.bind_eq_some_iff] at h
    obtain ⟨v, hv, t, ht, h⟩ := h
    rw [AV.toBool_eq ht] at hv
    have hc := (hev _ _ hv).lit_inv
    cases t with
    | true => exact ⟨e a, by simp [execOp, ho, asBool, hc], hev _ _ h⟩
    | false => exact ⟨e b, by simp [execOp, ho, asBool, hc], hev _ _ h⟩
  case load t a =>
    simp only [light, ho] at h
    have := ok_value (lightLoad_ok hω hg hev h)
    simpa [execOp, ho] using this
  case fieldAddr s x f =>
    simp only [light, ho] at h
    have := ok_value (w := w) (lightFieldAddr_ok hev h)
    simpa [execOp, ho] using this
  case nilCheck x => simp only [light, ho] at h; exact lightNil_ok hev h o ho
  case makeFunc fn first captured =>
    simp only [light, ho] at h
    have := ok_value (w := w) (lightFunc_ok (P := P) hev h)
    simpa [execOp, ho] using this
  all_goals
    simp only [light, ho] at h
    cases had : adet P ev o with
    | some v => rw [had] at h; exact hdet v had h
    | none => ?_
    rw [had] at h
    simp only at h
  case field t x f =>
    have := ok_value (w := w) (lightField_ok hev h)
    simpa [execOp, ho] using this
  case indexAddr t x i =>
    have : ∃ v, (Instr.indexAt t (e x) (e i)).run P w = .ok v w ∧ R ρ ω y v := by
      rcases orElse_or h with h | h
      · exact lightIndexAddrS_ok hev h
      · exact lightIndexAddrA_ok hev h
    have := ok_value this
    simpa [execOp, ho] using this
  case index t x i =>
    have := ok_value (w := w) (lightIndex_ok hev h)
    simpa [execOp, ho] using this
  case slice t x lo hi mx =>
    have : ∃ v, (Instr.sliceAt t (e x) (lo.map e) (hi.map e) (mx.map e)).run P w = .ok v w ∧ R ρ ω y v := by
      rcases orElse_or h with h | h
      · exact lightSlice_ok hev h
      · exact lightSliceA_ok hg hev h
    have := ok_value this
    simpa [execOp, ho] using this
  case lookup t x i ok =>
    have : ∃ v, (Instr.lookup t (e x) (e i) ok).run P w = .ok v w ∧ R ρ ω y v := by
      rcases orElse_or h with h | h
      · exact lightLookup_ok hg hev h
      · exact lightLookup0_ok hg hev h
    have := ok_value this
    simpa [execOp, ho] using this
  case extract x i =>
    have := ok_value (w := w) (lightExtract_ok (P := P) hev h)
    simpa [execOp, ho] using this
  case makeInterface t x =>
    have := ok_value (w := w) (lightIface_ok hev h)
    simpa [execOp, ho] using this
  case build t parts =>
    have := ok_value (w := w) (lightBuild_ok hω hev h)
    simpa [execOp, ho] using this
  case binOp op t x y yt =>
    have : ∃ v, (do eqGuard op t x y (e x) (e y); binOp op t (e x) (e y) : Sem Value).run P w = .ok v w ∧ R ρ ω y' v := by
      rcases orElse_or h with h | h
      · exact lightEq_ok hev h
      · exact lightFact_ok hev h
    have := ok_value this
    simpa [execOp, ho] using this
  case convert src dst x =>
    have := ok_value (w := w) (lightStr_ok hg hev h)
    simpa [execOp, ho] using this
  case call c => exact lightCall_ok hg hev o ho h
  all_goals cases h

end
end Go.Proofs.YtagmkceblklgaaaGreat.Ex
