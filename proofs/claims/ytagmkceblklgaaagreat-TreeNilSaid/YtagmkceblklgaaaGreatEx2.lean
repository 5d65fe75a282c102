/-
  THE OPERATIONS THAT LEAVE MEMORY ALONE, over values whose addresses are names: each answers what the model's operation answers in every world that has the memory.
  Conditions: what each function asks.
-/
import Derived.Test.YtagmkceblklgaaaGreatEx1
namespace Go.Proofs.YtagmkceblklgaaaGreat.Ex

/-- an action that looks at nothing but the program -/
def det {α : Type} (P : Program) : Sem α → Option α
  | .pure a => some a
  | .program k => det P (k P)
  | .mark _ k => det P k
  | _ => none

theorem det_run {α : Type} {P : Program} {s : Sem α} {a : α} (h : det P s = some a) (w : World) : s.run P w = .ok a w := by
  induction s with
  | pure b => simp [det] at h; subst h; rfl
  | program k ih => exact ih P (by simpa [det] using h)
  | mark m k ih => exact ih (by simpa [det] using h)
  | _ => simp [det] at h

def AV.toPtr : AV → Option (Nat × Nat)
  | .ptr b off => some (b, off)
  | _ => none
theorem AV.toPtr_eq {x : AV} {b off : Nat} (h : x.toPtr = some (b, off)) : x = .ptr b off := by cases x <;> simp [AV.toPtr] at h; obtain ⟨rfl, rfl⟩ := h; rfl
structure Sl where
  b : Nat
  off : Nat
  len : Nat
  size : Nat
  lo : Nat
  ex : Bool
def AV.toSl : AV → Option Sl
  | .sl b off len size lo ex => some ⟨b, off, len, size, lo, ex⟩
  | _ => none
theorem AV.toSl_eq {x : AV} {s : Sl} (h : x.toSl = some s) : x = .sl s.b s.off s.len s.size s.lo s.ex := by cases x <;> simp [AV.toSl] at h; subst h; rfl
def AV.toLit : AV → Option Value
  | .lit v => some v
  | _ => none
theorem AV.toLit_eq {x : AV} {v : Value} (h : x.toLit = some v) : x = .lit v := by cases x <;> simp [AV.toLit] at h; subst h; rfl
def AV.toInt : AV → Option (IntKind × Int)
  | .lit (.int k n) => some (k, n)
  | _ => none
theorem AV.toInt_eq {x : AV} {k : IntKind} {n : Int} (h : x.toInt = some (k, n)) : x = .lit (.int k n) := by
  cases x with
  | lit v => cases v <;> simp [AV.toInt] at h; obtain ⟨rfl, rfl⟩ := h; rfl
  | _ => simp [AV.toInt] at h
def AV.toBool : AV → Option Bool
  | .lit (.bool b) => some b
  | _ => none
theorem AV.toBool_eq {x : AV} {b : Bool} (h : x.toBool = some b) : x = .lit (.bool b) := by
  cases x with
  | lit v => cases v <;> simp [AV.toBool] at h; subst h; rfl
  | _ => simp [AV.toBool] at h
def AV.toMp : AV → Option Nat
  | .mp b => some b
  | _ => none
theorem AV.toMp_eq {x : AV} {b : Nat} (h : x.toMp = some b) : x = .mp b := by cases x <;> simp [AV.toMp] at h; subst h; rfl
def AV.toAgg : AV → Option (List AV)
  | .agg l => some l
  | .lit (.agg cs) => some (cs.toList.map .lit)
  | _ => none
def AV.toTup : AV → Option (List AV)
  | .tup l => some l
  | .lit (.tuple cs) => some (cs.toList.map .lit)
  | _ => none
def Blk.toCells : Blk → Option (List AV)
  | .cells c => some c
  | _ => none
theorem Blk.toCells_eq {x : Blk} {c : List AV} (h : x.toCells = some c) : x = .cells c := by cases x <;> simp [Blk.toCells] at h; subst h; rfl
def Blk.toMap : Blk → Option (List (Value × AV))
  | .map es => some es
  | _ => none
theorem Blk.toMap_eq {x : Blk} {c : List (Value × AV)} (h : x.toMap = some c) : x = .map c := by cases x <;> simp [Blk.toMap] at h; subst h; rfl
def toStruct : TypeDesc → Option (Array Field)
  | .struct fs => some fs
  | _ => none
theorem toStruct_eq {d : TypeDesc} {fs : Array Field} (h : toStruct d = some fs) : d = .struct fs := by cases d <;> simp [toStruct] at h; subst h; rfl
def toSlice : TypeDesc → Option TypeId
  | .slice e => some e
  | _ => none
theorem toSlice_eq {d : TypeDesc} {e : TypeId} (h : toSlice d = some e) : d = .slice e := by cases d <;> simp [toSlice] at h; subst h; rfl
def toArr : TypeDesc → Option (Nat × TypeId)
  | .array n e => some (n, e)
  | _ => none
theorem toArr_eq {d : TypeDesc} {n : Nat} {e : TypeId} (h : toArr d = some (n, e)) : d = .array n e := by cases d <;> simp [toArr] at h; obtain ⟨rfl, rfl⟩ := h; rfl
def toMapT : TypeDesc → Option (TypeId × TypeId)
  | .map k e => some (k, e)
  | _ => none
theorem toMapT_eq {d : TypeDesc} {n : TypeId} {e : TypeId} (h : toMapT d = some (n, e)) : d = .map n e := by cases d <;> simp [toMapT] at h; obtain ⟨rfl, rfl⟩ := h; rfl
def toPtrT : TypeDesc → Option TypeId
  | .pointer e => some e
  | _ => none
theorem toPtrT_eq {d : TypeDesc} {e : TypeId} (h : toPtrT d = some e) : d = .pointer e := by cases d <;> simp [toPtrT] at h; subst h; rfl

section
variable {P : Program} {ρ : Nat → Option Spot} {ω : Env} {g : Nat → Option Blk} {w : World}

theorem R.ptr_inv {b off : Nat} {v : Value} (h : R ρ ω (.ptr b off) v) : ∃ s, ρ b = some s ∧ v = .pointer (some ⟨s.block, s.base + off, none⟩) := by
  cases h with | ptr h => exact ⟨_, h, rfl⟩
theorem R.mp_inv {b : Nat} {v : Value} (h : R ρ ω (.mp b) v) : ∃ s, ρ b = some s ∧ v = .map (some s.block) := by
  cases h with | mp h => exact ⟨_, h, rfl⟩
theorem R.lit_inv {u v : Value} (h : R ρ ω (.lit u) v) : v = u := by cases h; rfl
theorem R.sl_inv {b off len size lo : Nat} {ex : Bool} {v : Value} (h : R ρ ω (.sl b off len size lo ex) v) :
    ∃ s a cap, ρ b = some s ∧ v = .slice (some a) len cap ∧ len ≤ lo ∧ lo ≤ cap ∧ (a.block = s.block ∧ a.spot = none) ∧ (0 < cap → a = ⟨s.block, s.base + off, none⟩ ∧ off + cap * size ≤ s.room) ∧ (ex = true → cap = lo) := by
  cases h with | sl a b c d e f => exact ⟨_, _, _, a, rfl, b, c, d, e, f⟩
theorem R.agg_inv {x : AV} {l : List AV} {v : Value} (hx : x.toAgg = some l) (h : R ρ ω x v) : ∃ cs, v = .agg cs ∧ RL ρ ω l cs.toList := by
  cases x with
  | agg m => simp [AV.toAgg] at hx; subst hx; exact h.of_agg
  | lit u => cases u <;> simp [AV.toAgg] at hx; subst hx; cases h; exact ⟨_, rfl, RL.lits _⟩
  | _ => simp [AV.toAgg] at hx
theorem R.tup_inv {x : AV} {l : List AV} {v : Value} (hx : x.toTup = some l) (h : R ρ ω x v) : ∃ cs, v = .tuple cs ∧ RL ρ ω l cs.toList := by
  cases x with
  | tup m => simp [AV.toTup] at hx; subst hx; exact h.of_tup
  | lit u => cases u <;> simp [AV.toTup] at hx; subst hx; cases h; exact ⟨_, rfl, RL.lits _⟩
  | _ => simp [AV.toTup] at hx

theorem Rel.cells (h : Rel ρ ω g w) {b : Nat} {B : Blk} {c : List AV} {s : Spot} (hb : g b = some B) (hc : B.toCells = some c) (hs : ρ b = some s) :
    ∃ cs t fr, w.heap[s.block]? = some (.cells cs t fr) ∧ cs.size = s.base + s.room ∧ c.length ≤ s.room ∧ (fr.1 = fr.2 ∨ cs.size ≤ fr.1) ∧
      (∀ (i : Nat) x, c[i]? = some x → ∃ v, cs[s.base + i]? = some v ∧ R ρ ω x v) := by
  rw [Blk.toCells_eq hc] at hb
  obtain ⟨s', o, hs', ho, hB⟩ := h.blk b _ hb
  rw [hs] at hs'; cases hs'
  cases hB with
  | cells a b c d => exact ⟨_, _, _, ho, a.1, b, c, d⟩
theorem Rel.base (h : Rel ρ ω g w) {b : Nat} {B : Blk} {c : List AV} {s : Spot} (hb : g b = some B) (hc : B.toCells = some c) (hs : ρ b = some s) : s.base = 0 := by
  rw [Blk.toCells_eq hc] at hb
  obtain ⟨s', o, hs', ho, hB⟩ := h.blk b _ hb
  rw [hs] at hs'; cases hs'
  cases hB with
  | cells a b c d => exact a.2
theorem Rel.map (h : Rel ρ ω g w) {b : Nat} {B : Blk} {es : List (Value × AV)} {s : Spot} (hb : g b = some B) (hc : B.toMap = some es) (hs : ρ b = some s) :
    ∃ es' clock, w.heap[s.block]? = some (.map es' clock) ∧ es.length = es'.size ∧
      (∀ (i : Nat) k x e, es[i]? = some (k, x) → es'[i]? = some e → e.key = k ∧ R ρ ω x e.val) ∧ MapKept.Stamped es' clock := by
  rw [Blk.toMap_eq hc] at hb
  obtain ⟨s', o, hs', ho, hB⟩ := h.blk b _ hb
  rw [hs] at hs'; cases hs'
  cases hB with
  | map a b c => exact ⟨_, _, ho, a, b, c⟩

theorem Addr.add_none (b o n : Nat) : (⟨b, o, none⟩ : Addr).add n = ⟨b, o + n, none⟩ := by
  unfold Addr.add; split
  · subst_vars; rfl
  · rfl
theorem cell_of {b o : Nat} {cs : Array Value} {t : TypeId} {fr : Nat × Nat} (h : w.heap[b]? = some (.cells cs t fr)) : w.cell? ⟨b, o, none⟩ = cs[o]? := by
  simp [World.cell?, h]

/-- a variable of some type out of a row of cells -/
def part? (P : Program) (t : TypeId) (c : List AV) (off : Nat) : Option AV :=
  (det P (isAgg t)).bind fun a => cond a ((det P (sizeOf t)).bind fun n => cond (Nat.ble (off + n) c.length) (some (.agg ((c.drop off).take n))) none) c[off]?

theorem cells_range {c : List AV} {cs : Array Value} {o off n : Nat} (h : ∀ (i : Nat) x, c[i]? = some x → ∃ v, cs[o + i]? = some v ∧ R ρ ω x v) (hn : off + n ≤ c.length) :
    RL ρ ω ((c.drop off).take n) ((List.range n).map fun j => cs.getD (o + off + j) undef) := by
  refine ⟨by simp; omega, fun i x v hx hv => ?_⟩
  rw [List.getElem?_take] at hx
  split at hx
  · rename_i hi
    rw [List.getElem?_drop] at hx
    obtain ⟨u, hu, hr⟩ := h _ _ hx
    simp [hi] at hv
    rw [show o + (off + i) = o + off + i by omega] at hu
    simp [hu] at hv
    subst hv; exact hr
  · cases hx

theorem loadVar_ok (h : Rel ρ ω g w) {b off : Nat} {B : Blk} {c : List AV} {s : Spot} (hb : g b = some B) (hc : B.toCells = some c) (hs : ρ b = some s) {t : TypeId} {x : AV}
    (hx : part? P t c off = some x) : ∃ v, (loadVar t ⟨s.block, s.base + off, none⟩).run P w = .ok v w ∧ R ρ ω x v := by
  obtain ⟨cs, t', fr, hh, hsz, hl, hfr, hcell⟩ := h.cells hb hc hs
  simp only [part?, Option.bind_eq_some_iff] at hx
  obtain ⟨a, ha, hx⟩ := hx
  have hra := det_run ha w
  cases a with
  | true =>
    simp only [cond_true, Option.bind_eq_some_iff] at hx
    obtain ⟨n, hn, hx⟩ := hx
    have hrn := det_run hn w
    cases hle : Nat.ble (off + n) c.length with
    | false => rw [hle] at hx; cases hx
    | true =>
      rw [hle] at hx; cases hx
      have hle' := Nat.le_of_ble_eq_true hle
      refine ⟨.agg ((List.range n).map fun j => cs.getD (s.base + off + j) undef).toArray, ?_, R.agg' (by simpa using cells_range hcell hle')⟩
      have hlc := run_loadCells (P := P) w ⟨s.block, s.base + off, none⟩ n (fun j => cs.getD (s.base + off + j) undef) (fun j hj => by
        rw [Addr.add_none, cell_of hh]
        obtain ⟨u, hu, _⟩ := hcell (off + j) _ (List.getElem?_eq_getElem (by omega))
        rw [show s.base + (off + j) = s.base + off + j by omega] at hu
        simp [hu])
      simp [loadVar, hra, hrn, hlc]
  | false =>
    simp only [cond_false] at hx
    obtain ⟨v, hv, hr⟩ := hcell _ _ hx
    refine ⟨v, ?_, hr⟩
    simp [loadVar, hra, cell_of hh, hv]

theorem part_ok {l : List AV} {cs : Array Value} (h : RL ρ ω l cs.toList) {t : TypeId} {off : Nat} {x : AV} (hx : part? P t l off = some x) (w : World) :
    ∃ v, (part t cs off).run P w = .ok v w ∧ R ρ ω x v := by
  simp only [part?, Option.bind_eq_some_iff] at hx
  obtain ⟨a, ha, hx⟩ := hx
  have hra := det_run ha w
  cases a with
  | true =>
    simp only [cond_true, Option.bind_eq_some_iff] at hx
    obtain ⟨n, hn, hx⟩ := hx
    have hrn := det_run hn w
    cases hle : Nat.ble (off + n) l.length with
    | false => rw [hle] at hx; cases hx
    | true =>
      rw [hle] at hx; cases hx
      refine ⟨.agg (cs.extract off (off + n)), by simp [part, hra, hrn], R.agg' ?_⟩
      have := (h.drop off).take n
      simpa [Array.toList_extract, List.extract_eq_take_drop] using this
  | false =>
    simp only [cond_false] at hx
    obtain ⟨v, hv, hr⟩ := h.get hx
    refine ⟨v, ?_, hr⟩
    have hv' : cs[off]? = some v := by simpa using hv
    simp [part, hra, hv']

/-- parts laid into a row of cells -/
def fill? (place : Nat → Option (Nat × Nat)) (cells : List AV) : List (Nat × AV) → Option (List AV)
  | [] => some cells
  | (i, v) :: rest => (place i).bind fun p =>
    cond (Nat.beq v.cells.length p.2 && Nat.ble (p.1 + p.2) cells.length) (fill? place (cells.take p.1 ++ v.cells ++ cells.drop (p.1 + p.2)) rest) none

theorem set_split {l : List Value} {n : Nat} (v : Value) (h : n < l.length) : l.set n v = l.take n ++ v :: l.drop (n + 1) := by
  rw [List.set_eq_take_append_cons_drop, if_pos h]

theorem foldl_set (off : Nat) : ∀ (vs : List Value) (j : Nat) (cs : Array Value), off + j + vs.length ≤ cs.size →
    ((vs.zipIdx j).foldl (fun cs (c, j) => cs.setIfInBounds (off + j) c) cs).toList = cs.toList.take (off + j) ++ vs ++ cs.toList.drop (off + j + vs.length)
  | [], j, cs, _ => by simp
  | v :: vs, j, cs, h => by
    simp only [List.zipIdx_cons, List.foldl_cons, List.length_cons] at *
    rw [foldl_set off vs (j + 1) _ (by simp; omega)]
    have hlt : off + j < cs.toList.length := by simp; omega
    rw [Array.toList_setIfInBounds, set_split v hlt]
    have hl : (cs.toList.take (off + j)).length = off + j := by rw [List.length_take]; omega
    generalize cs.toList = l at *
    apply List.ext_getElem?
    intro k
    simp only [List.getElem?_append, List.getElem?_take, List.getElem?_drop, List.length_append, List.length_take, List.getElem?_cons]
    simp only [show min (off + j) l.length = off + j by omega]
    grind

theorem fill_ok (hω : ∀ n, oneV (ω.val n) = true) (place : Nat → Option (Nat × Nat)) : ∀ (ps : List (Nat × AV)) (qs : List (Nat × Value)) (l out : List AV) (cs : Array Value),
    RL ρ ω l cs.toList → ps.length = qs.length → (∀ (i : Nat) p q, ps[i]? = some p → qs[i]? = some q → p.1 = q.1 ∧ R ρ ω p.2 q.2) → fill? place l ps = some out →
    ∃ out', Instr.fill place cs qs = some out' ∧ RL ρ ω out out'.toList
  | [], [], l, out, cs, hl, _, _, h => by simp [fill?] at h; subst h; exact ⟨cs, rfl, hl⟩
  | [], q :: qs, _, _, _, _, hlen, _, _ => by simp at hlen
  | p :: ps, [], _, _, _, _, hlen, _, _ => by simp at hlen
  | (i, x) :: ps, (j, v) :: qs, l, out, cs, hl, hlen, hall, h => by
    obtain ⟨rfl, hr⟩ := hall 0 _ _ rfl rfl
    simp only [fill?, Option.bind_eq_some_iff] at h
    obtain ⟨⟨off, size⟩, hp, h⟩ := h
    have hc := hr.cells hω
    cases hb : (Nat.beq x.cells.length size && Nat.ble (off + size) l.length) with
    | false => simp only [hb] at h; cases h
    | true =>
      simp only [hb, cond_true] at h
      simp only [Bool.and_eq_true, Nat.beq_eq, Nat.ble_eq] at hb
      have h1 : v.cells.size = size := by have := hc.1; simp at this; omega
      have h2 : off + v.cells.size ≤ cs.size := by have := hl.1; simp at this; omega
      have hf := foldl_set off v.cells.toList 0 cs (by simpa using h2)
      simp only [Nat.add_zero, Array.length_toList] at hf
      have hnew : RL ρ ω (l.take off ++ x.cells ++ l.drop (off + size)) ((v.cells.toList.zipIdx 0).foldl (fun cs (c, j) => cs.setIfInBounds (off + j) c) cs).toList := by
        rw [hf, h1]; exact ((hl.take off).append hc).append (hl.drop _)
      obtain ⟨out', ho, hro⟩ := fill_ok hω place ps qs _ out _ hnew (by simpa using hlen) (fun k p q a b => hall (k + 1) p q (by simpa using a) (by simpa using b)) h
      refine ⟨out', ?_, hro⟩
      rw [← ho]
      have hz : v.cells.zipIdx.foldl (fun cs (x : Value × Nat) => cs.setIfInBounds (off + x.2) x.1) cs = (v.cells.toList.zipIdx 0).foldl (fun cs (x : Value × Nat) => cs.setIfInBounds (off + x.2) x.1) cs := by
        rw [← Array.foldl_toList, Array.toList_zipIdx]
      have hcond : (v.cells.size != size || decide (off + v.cells.size > cs.size)) = false := by simp; omega
      simp only [Instr.fill, hp]
      rw [if_neg (by simp; omega), hz]

end
end Go.Proofs.YtagmkceblklgaaaGreat.Ex
