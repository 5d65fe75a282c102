/-
  THE OPERATIONS THAT TURN MEMORY ARE THE MODEL's (their proofs, last part: append, copy; all of them).
  Conditions: the values that are not known are of one cell.
-/
import Derived.Test.YtagmkceblklgaaaGreatEx10
namespace Go.Proofs.YtagmkceblklgaaaGreat.Ex
section
variable {P : Program} {ρ : Nat → Option Spot} {ω : Env} {A : St} {w : World} {ev : Operand → Option AV} {e : Operand → Value}

theorem take_all {k n : Nat} {xs : List AV} (h : xs.length = k * n) : xs.take (k * n) = xs := List.take_of_length_le (by omega)

/-- a new row that a grown slice lies in -/
theorem grown_ok (hg : Rel ρ ω A.mem.get w) (hn : Nm ρ A.next) {c : List AV} {os vs rest : Array Value} (hc : RL ρ ω c (os.toList ++ vs.toList)) (el : TypeId) {k n nc : Nat} (hl : os.size + vs.size = k * n) (hk : k ≤ nc) (hsz : (os ++ vs ++ rest).size = nc * n) :
    HOut ρ ω A w (.sl A.next 0 k n k false) (A.add (.cells c)) (.slice (some ⟨w.heap.size, 0, none⟩) k nc) (w.drew.alloc (.cells (os ++ vs ++ rest) el)) := by
  obtain ⟨ρ', q1, _, q2, q3, q4⟩ := add_ok (w := w.drew) (hg.drew _) hn (.cells c) (.cells (os ++ vs ++ rest) el) ⟨w.heap.size, 0, (os ++ vs ++ rest).size⟩ rfl (BR.row (os.toList ++ vs.toList) rest.toList hc (by simp) (.inl rfl))
  exact ⟨ρ', .sl (s := ⟨w.heap.size, 0, (os ++ vs ++ rest).size⟩) q1 (Nat.le_refl _) hk ⟨rfl, rfl⟩ (fun _ => ⟨rfl, by simp only [hsz]; omega⟩) (fun h => by cases h), q2, q3, ev_drew_add _ q4⟩

theorem hAppend_ok (hω : ∀ n, oneV (ω.val n) = true) (hg : Rel ρ ω A.mem.get w) (hn : Nm ρ A.next) (hev : Evs ρ ω ev e) {t u ty : TypeId} {so xo : Operand} {x : AV} {A' : St} (h : hAppend P ev A t u so xo = some (x, A')) :
    ∃ v w', (Builtin.append_ #[t, u] ty #[e so, e xo]).run P w = .ok v w' ∧ HOut ρ ω A w x A' v w' := by
  simp only [hAppend, Option.bind_eq_some_iff] at h
  obtain ⟨d, hd, el, hel, n, hsn, z, hz, i, hi, ud, hud, sv, hsv, xv, hxv, ⟨k, xs⟩, hxs, h⟩ := h
  cases hc : (Nat.beq z.cells.size n && Nat.ble 1 n && okSrc ud && Nat.ble i.bytes 4096 && Nat.ble k 16777216 && ones xs) with
  | false => simp only [hc] at h; cases h
  | true =>
    simp only [hc, cond_true] at h
    simp only [Bool.and_eq_true, Nat.beq_eq, Nat.ble_eq] at hc
    obtain ⟨⟨⟨⟨⟨hzn, hn1⟩, hok⟩, hby⟩, hk24⟩, hones⟩ := hc
    rw [toSlice_eq hel] at hd
    have hrd := det_run hd w
    have hru := det_run hud w
    have hrn := det_run hsn w
    have hrz := det_run hz w.drew
    have hri := det_run hi w
    have hri' := det_run hi w.drew
    obtain ⟨hxl, hlen, hfc⟩ := src_ok (P := P) hg (hev _ _ hxv) hxs
    have hzc : ∀ m, (Builtin.zeroCells z.cells m).size = m * n := fun m => by simp [Builtin.zeroCells, hzn]
    have hrs := hev _ _ hsv
    split at h
    · -- nil
      have hes := hrs.lit_inv
      cases hk0 : Nat.beq k 0 with
      | true =>
        rw [hk0] at h; cases h
        have : k = 0 := by simpa using hk0
        subst this
        obtain ⟨vs, hvs, hvr⟩ := hfc 0 (Nat.zero_le _)
        have hv0 : vs = #[] := by have := hvr.1; simp at this; exact Array.eq_empty_of_size_eq_zero this.symm
        subst hv0
        refine ⟨.slice none 0 0, w, ?_, ρ, .lit _, hg, Nn.refl hn, Ev.refl _ _ _⟩
        rw [hes]
        exact append_none hrd hru hok hrn (hlen w) (hvs w rfl) (Nat.le_refl _)
      | false =>
        have hkp : k ≠ 0 := by intro e; subst e; simp at hk0
        rw [hk0] at h; cases h
        obtain ⟨vs, hvs, hvr⟩ := hfc k (Nat.le_refl _)
        rw [take_all hxl] at hvr
        obtain ⟨nc, hnc, hap⟩ := append_out (ty := ty) (a := none) (len := 0) (cap := 0) (os := #[]) hrd hru hok hrn hrz hri hri' hby (hlen w) (by simp [Builtin.firstCells]) (hvs w.drew rfl) (by omega) (by omega)
        rw [hes]
        simp only [Nat.zero_add] at hap hnc
        have hvsz : vs.size = k * n := by have := hvr.1; simp at this; omega
        exact ⟨_, _, hap, grown_ok hg hn (by simpa using hvr) el (by simpa using hvsz) hnc (by simp [hzc, hvsz, ← Nat.add_mul]; congr 1; omega)⟩
    · -- a slice
      rename_i b off len size lo ex
      cases hsz : (Nat.beq size n && Nat.ble len 16777216) with
      | false => simp only [hsz] at h; cases h
      | true =>
        simp only [hsz, cond_true] at h
        simp only [Bool.and_eq_true, Nat.beq_eq, Nat.ble_eq] at hsz
        obtain ⟨rfl, hl24⟩ := hsz
        obtain ⟨s, a, cap, hs, hes, hll, hlc, hsp, ha, hex⟩ := hrs.sl_inv
        cases hk0 : Nat.beq k 0 with
        | true =>
          rw [hk0] at h; cases h
          have : k = 0 := by simpa using hk0
          subst this
          obtain ⟨vs, hvs, hvr⟩ := hfc 0 (Nat.zero_le _)
          have hv0 : vs = #[] := by have := hvr.1; simp at this; exact Array.eq_empty_of_size_eq_zero this.symm
          subst hv0
          refine ⟨.slice (some a) len cap, w, ?_, ρ, hes ▸ hrs, hg, Nn.refl hn, Ev.refl _ _ _⟩
          rw [hes]
          exact append_none hrd hru hok hrn (hlen w) (hvs w rfl) (by omega)
        | false =>
          have hkp : k ≠ 0 := by intro e; subst e; simp at hk0
          rw [hk0] at h
          simp only [cond_false, Option.bind_eq_some_iff] at h
          obtain ⟨B, hB, c, hcc, h⟩ := h
          cases hfit : Nat.ble (off + len * size) c.length with
          | false => rw [hfit] at h; cases h
          | true =>
            rw [hfit] at h
            simp only [cond_true] at h
            have hfit' := Nat.le_of_ble_eq_true hfit
            obtain ⟨cs, t', fr, hh, hcsz, hclen, hfr, hcell⟩ := hg.cells hB hcc hs
            rw [Blk.toCells_eq hcc] at hB
            obtain ⟨vs, hvs, hvr⟩ := hfc k (Nat.le_refl _)
            rw [take_all hxl] at hvr
            have hvsz : vs.size = k * size := by have := hvr.1; simp at this; omega
            have hones' := ones_ok hω hones hvr
            -- room
            have hin : len + k ≤ cap → (Builtin.append_ #[t, u] ty #[.slice (some a) len cap, e xo]).run P w = .ok (.slice (some a) (len + k) cap) { w with heap := w.heap.setIfInBounds s.block (.cells (splice cs (s.base + off + len * size) vs.toList) t' fr) } ∧ a = ⟨s.block, s.base + off, none⟩ ∧ off + (len + k) * size ≤ s.room := by
              intro hr
              obtain ⟨rfl, hroom⟩ := ha (by omega)
              have hmul : (len + k) * size ≤ cap * size := Nat.mul_le_mul_right _ hr
              refine ⟨append_in hrd hru hok hrn (hlen w) (hvs w rfl) hr ?_, rfl, by omega⟩
              rw [Addr.add_none]
              have hsplit : (len + k) * size = len * size + k * size := Nat.add_mul _ _ _
              exact run_storeCells' s.block _ t' fr vs.toList 0 cs w hh hfr (by simp; omega) hones'
            -- no room
            have hout : cap < len + k → ∃ nc os, len + k ≤ nc ∧ RL ρ ω ((c.drop off).take (len * size)) os.toList ∧ os.size = len * size ∧ (Builtin.append_ #[t, u] ty #[.slice (some a) len cap, e xo]).run P w =
                .ok (.slice (some ⟨w.heap.size, 0, none⟩) (len + k) nc) (w.drew.alloc (.cells (os ++ vs ++ Builtin.zeroCells z.cells (nc - (len + k))) el)) := by
              intro hr
              have hcomp : ∃ os, (Builtin.firstCells size len (.slice (some a) len cap)).run P w.drew = .ok os w.drew ∧ RL ρ ω ((c.drop off).take (len * size)) os.toList := by
                by_cases hl0 : len = 0
                · subst hl0; exact ⟨#[], by simp [Builtin.firstCells, loadCells, loadCellsFrom], by simp; exact .nil⟩
                · obtain ⟨rfl, _⟩ := ha (by omega)
                  have hhW : w.drew.heap[s.block]? = some (.cells cs t' fr) := hh
                  refine ⟨((List.range (len * size)).map fun j => cs.getD (s.base + off + j) undef).toArray, ?_, cells_range (ρ := ρ) (ω := ω) hcell hfit'⟩
                  simp only [Builtin.firstCells]
                  exact run_loadCells (P := P) w.drew ⟨s.block, s.base + off, none⟩ (len * size) (fun j => cs.getD (s.base + off + j) undef) (fun j hj => by
                      rw [Addr.add_none, cell_of hhW]
                      obtain ⟨u, hu, _⟩ := hcell (off + j) _ (List.getElem?_eq_getElem (by omega))
                      rw [show s.base + (off + j) = s.base + off + j by omega] at hu
                      simp [hu])
              obtain ⟨os, hos, hor⟩ := hcomp
              have hosz : os.size = len * size := by have := hor.1; simp at this; omega
              obtain ⟨nc, hnc, hap⟩ := append_out (ty := ty) hrd hru hok hrn hrz hri hri' hby (hlen w) hos (hvs w.drew rfl) hr (by omega)
              exact ⟨nc, os, hnc, hor, hosz, hap⟩
            have hsplit : (len + k) * size = len * size + k * size := Nat.add_mul _ _ _
            have hgrow : cap < len + k → ∃ v w', (Builtin.append_ #[t, u] ty #[.slice (some a) len cap, e xo]).run P w = .ok v w' ∧ HOut ρ ω A w (.sl A.next 0 (len + k) size (len + k) false) (A.add (.cells ((c.drop off).take (len * size) ++ xs))) v w' := by
              intro hr
              obtain ⟨nc, os, hnc, hor, hosz, hap⟩ := hout hr
              have hszn : (os ++ vs ++ Builtin.zeroCells z.cells (nc - (len + k))).size = nc * size := by
                have : nc * size = (len + k) * size + (nc - (len + k)) * size := by rw [← Nat.add_mul]; congr 1; omega
                simp [hzc, hosz, hvsz]; omega
              exact ⟨_, _, hap, grown_ok hg hn (hor.append hvr) el (by rw [hosz, hvsz, hsplit]) hnc hszn⟩
            rw [hes]
            cases hle : Nat.ble (len + k) lo with
            | true =>
              rw [hle] at h; cases h
              have hle' := Nat.le_of_ble_eq_true hle
              obtain ⟨hap, rfl, hroom⟩ := hin (by omega)
              have hBR := BR.spliced (ρ := ρ) (ω := ω) (t := t') (hg.base hB (by first | assumption | rfl) hs) hcsz hclen hfr hcell hvr (o := off + len * size) (by omega) (by omega)
              obtain ⟨q1, q2, q3⟩ := put_ok hg hn b _ _ _ s hB hs hBR
              have he1 : off + len * size + xs.length = off + (len + k) * size := by omega
              rw [he1] at q1 q2 q3
              rw [← Nat.add_assoc] at q1 q3
              exact ⟨_, _, hap, ρ, .sl hs hle' hlc ⟨rfl, rfl⟩ ha hex, q1, q2, q3⟩
            | false =>
              have hle' : lo < len + k := by
                rcases Nat.lt_or_ge lo (len + k) with h | h
                · exact h
                · rw [Nat.ble_eq_true_of_le h] at hle; cases hle
              rw [hle] at h
              cases hxx : ex with
              | true =>
                rw [hxx] at h; cases h
                exact hgrow (by have := hex hxx; omega)
              | false =>
                rw [hxx] at h
                cases h0f : Nat.beq off 0 with
                | false => rw [h0f] at h; cases h
                | true =>
                rw [h0f] at h; cases h
                have h0f := Nat.eq_of_beq_eq_true h0f
                by_cases hr : len + k ≤ cap
                · obtain ⟨hap, rfl, hroom⟩ := hin hr
                  have hBR : BR ρ ω ⟨s.block, s.base + off, s.room - off⟩ (.cells ((c.drop off).take (len * size) ++ xs)) (.cells (splice cs (s.base + off + len * size) vs.toList) t' fr) := by
                    have h0 : ∀ (i : Nat) x, ((c.drop off).take (len * size))[i]? = some x → ∃ v, cs[s.base + off + i]? = some v ∧ R ρ ω x v := by
                      intro i x hx
                      rw [List.getElem?_take] at hx
                      split at hx
                      · rw [List.getElem?_drop] at hx
                        obtain ⟨v, hv, hr⟩ := hcell _ _ hx
                        exact ⟨v, by rw [← hv]; congr 1; omega, hr⟩
                      · cases hx
                    have hl1 : ((c.drop off).take (len * size)).length = len * size := by simp; omega
                    have := BR.spliced (ρ := ρ) (ω := ω) (s := ⟨s.block, s.base + off, s.room - off⟩) (t := t') (c := (c.drop off).take (len * size)) (o := len * size) (by have := hg.base hB (c := c) rfl hs; simp; omega) (by simp; omega) (by simp; omega) hfr h0 hvr (by omega) (by simp; omega)
                    have e1 : ((c.drop off).take (len * size)).take (len * size) = (c.drop off).take (len * size) := List.take_of_length_le (by omega)
                    have e2 : ((c.drop off).take (len * size)).drop (len * size + xs.length) = [] := List.drop_eq_nil_of_le (by omega)
                    rw [e1, e2, List.append_nil] at this
                    exact this
                  obtain ⟨ρ', q1, hle1, q2, q3, q4⟩ := renamed_ok hg hn hB hs (by omega) hBR
                  exact ⟨_, _, hap, ρ', .sl q1 (Nat.le_refl _) hr ⟨rfl, rfl⟩ (fun _ => ⟨rfl, by have := (ha (by omega)).2; simp; omega⟩) (fun h => by cases h), q2, q3, q4⟩
                · obtain ⟨v, w', hap, ρ', r1, r2, r3, r4⟩ := hgrow (by omega)
                  have hsub : ∀ x B, ((A.put b none).add (.cells ((c.drop off).take (len * size) ++ xs))).mem.get x = some B → (A.add (.cells ((c.drop off).take (len * size) ++ xs))).mem.get x = some B := by
                    intro x B hx
                    rw [add_get] at hx ⊢
                    by_cases e1 : x = A.next
                    · simpa [e1, St.put_next] using hx
                    · have e2 : ¬ x = (A.put b none).next := by rw [St.put_next]; exact e1
                      simp only [e2, if_false] at hx
                      simp only [e1, if_false]
                      rw [put_get] at hx
                      by_cases e3 : x = b
                      · simp [e3] at hx
                      · simpa [e3] using hx
                  have r3' := r3
                  rw [St.add_next] at r3'
                  exact ⟨v, w', hap, ρ', r1, r2.weaken hsub, by rw [St.add_next, St.put_next]; exact r3', ⟨r4.le, r4.size, r4.keep, fun x B s hx => r4.old x B s (hsub x B hx), r4.os, r4.tape, r4.output⟩⟩
    · cases h

theorem hCopy_ok (hω : ∀ n, oneV (ω.val n) = true) (hg : Rel ρ ω A.mem.get w) (hn : Nm ρ A.next) (hev : Evs ρ ω ev e) {t ty : TypeId} {so xo : Operand} {x : AV} {A' : St} (h : hCopy P ev A t so xo = some (x, A')) (ts : Array TypeId) (hts : ts[0]? = some t) :
    ∃ v w', (Builtin.copy_ ts ty #[e so, e xo]).run P w = .ok v w' ∧ HOut ρ ω A w x A' v w' := by
  simp only [hCopy, Option.bind_eq_some_iff] at h
  obtain ⟨d, hd, el, hel, n, hsn, sv, hsv, sl, hsl, xv, hxv, ⟨k, xs⟩, hxs, h⟩ := h
  cases hc : (Nat.beq sl.size n && Nat.ble 1 n && ones xs && Nat.beq xs.length (k * n)) with
  | false => simp only [hc] at h; cases h
  | true =>
    simp only [hc, cond_true] at h
    simp only [Bool.and_eq_true, Nat.beq_eq, Nat.ble_eq] at hc
    obtain ⟨⟨⟨rfl, hn1⟩, hones⟩, _⟩ := hc
    rw [toSlice_eq hel] at hd
    have hrd := det_run hd w
    have hrn := det_run hsn w
    obtain ⟨hxl, hlen, hfc⟩ := src_ok (P := P) hg (hev _ _ hxv) hxs
    rw [AV.toSl_eq hsl] at hsv
    obtain ⟨s, a, cap, hs, hes, hll, hlc, hsp, ha, hex⟩ := (hev _ _ hsv).sl_inv
    obtain ⟨vs, hvs, hvr⟩ := hfc (Nat.min k sl.len) (Nat.min_le_left _ _)
    have hvsz : vs.size = Nat.min k sl.len * sl.size := by
      have h1 := hvr.1
      have : Nat.min k sl.len * sl.size ≤ k * sl.size := Nat.mul_le_mul_right _ (Nat.min_le_left _ _)
      simp at h1
      have h2 : min (min k sl.len * sl.size) xs.length = min k sl.len * sl.size := Nat.min_eq_left (by rw [hxl]; exact this)
      rw [h2] at h1
      exact h1.symm
    cases hk0 : Nat.beq (Nat.min k sl.len) 0 with
    | true =>
      rw [hk0] at h; cases h
      have hk : Nat.min k sl.len = 0 := by simpa using hk0
      have hv0 : vs = #[] := Array.eq_empty_of_size_eq_zero (by rw [hvsz, hk]; simp)
      subst hv0
      rw [hk] at hvs
      refine ⟨.int .i64 0, w, ?_, ρ, .lit _, hg, Nn.refl hn, Ev.refl _ _ _⟩
      have hl := hlen w
      have hf := hvs w rfl
      rw [hes]
      simp [Builtin.copy_, hts, hrd, hl, hrn, hk, hf, storeCells, goInt]
    | false =>
      have hkp : Nat.min k sl.len ≠ 0 := by intro e; rw [e] at hk0; simp at hk0
      rw [hk0] at h
      simp only [cond_false, Option.bind_eq_some_iff] at h
      obtain ⟨B, hB, c, hcc, h⟩ := h
      cases hfit : Nat.ble (sl.off + Nat.min k sl.len * sl.size) c.length with
      | false => rw [hfit] at h; cases h
      | true =>
        rw [hfit] at h; cases h
        have hfit' := Nat.le_of_ble_eq_true hfit
        have hmin : Nat.min k sl.len ≤ sl.len := Nat.min_le_right _ _
        obtain ⟨rfl, hroom⟩ := ha (by omega)
        obtain ⟨cs, t', fr, hh, hcsz, hclen, hfr, hcell⟩ := hg.cells hB hcc hs
        rw [Blk.toCells_eq hcc] at hB
        have hones' : ∀ v ∈ vs.toList, oneV v = true := by
          obtain ⟨vs2, hvs2, hvr2⟩ := hfc k (Nat.le_refl _)
          rw [take_all hxl] at hvr2
          intro v hv
          have h1 := ones_ok hω hones hvr2
          obtain ⟨i, hi⟩ := List.getElem?_of_mem hv
          have hvx : ∃ x, (xs.take (Nat.min k sl.len * sl.size))[i]? = some x := by
            have : i < (xs.take (Nat.min k sl.len * sl.size)).length := by rw [hvr.1]; exact (List.getElem?_eq_some_iff.1 hi).1
            exact ⟨_, List.getElem?_eq_getElem this⟩
          obtain ⟨x, hx⟩ := hvx
          have hR := hvr.2 i x v hx hi
          have hx' : xs[i]? = some x := by
            rw [List.getElem?_take] at hx
            split at hx
            · exact hx
            · cases hx
          have hone : x.one = true := by
            have : ∀ (l : List AV) (j : Nat) (y : AV), ones l = true → l[j]? = some y → y.one = true := by
              intro l
              induction l with
              | nil => intro j y _ h; simp at h
              | cons z l ih =>
                intro j y h hj
                simp only [ones, Bool.and_eq_true] at h
                cases j with
                | zero => simp at hj; subst hj; exact h.1
                | succ j => exact ih j y h.2 (by simpa using hj)
            exact this xs i x hones hx'
          exact hR.one hω hone
        have hst := run_storeCells' (P := P) s.block (s.base + sl.off) t' fr vs.toList 0 cs w hh hfr (by simp [hvsz]; omega) hones'
        have hxt : (xs.take (Nat.min k sl.len * sl.size)).length = Nat.min k sl.len * sl.size := by have := hvr.1; simp only [Array.length_toList, hvsz] at this; exact this
        have hBR := BR.spliced (ρ := ρ) (ω := ω) (t := t') (hg.base hB (by first | assumption | rfl) hs) hcsz hclen hfr hcell hvr (o := sl.off) (by omega) (by rw [hxt]; omega)
        rw [hxt] at hBR
        obtain ⟨q1, q2, q3⟩ := put_ok hg hn sl.b _ _ _ s hB hs hBR
        refine ⟨.int .i64 (Nat.min k sl.len), _, ?_, ρ, .lit _, q1, q2, q3⟩
        have hl := hlen w
        have hf := hvs w rfl
        rw [hes]
        simp only [Nat.add_zero] at hst
        simp [Builtin.copy_, hts, hrd, hl, hrn, hf, hst, goInt]

theorem hCall_ok (hω : ∀ n, oneV (ω.val n) = true) (hg : Rel ρ ω A.mem.get w) (hn : Nm ρ A.next) (hev : Evs ρ ω ev e) {c : Call} {x : AV} {A' : St} (o : Oper) (ho : o.op = .call c) (h : hCall P ev A c = some (x, A')) :
    ∃ v w', (execOp e o).run P w = .ok (.value v) w' ∧ HOut ρ ω A w x A' v w' := by
  unfold hCall at h
  split at h
  · rename_i s y t u hcal hargs hts
    obtain ⟨v, w', hv, hr⟩ := hAppend_ok hω hg hn hev (ty := o.type) h
    obtain ⟨cs, hres⟩ := resolve_builtin e hcal o.type
    have h1 : c.args.map e = #[e s, e y] := by rw [← Array.toList_inj]; simp [hargs]
    have h2 : c.argTypes = #[t, u] := by rw [← Array.toList_inj]; simp [hts]
    exact ⟨v, w', by simp [execOp, ho, hres, h1, h2, invoke, builtin, hv], hr⟩
  · rename_i s y t l hcal hargs hts
    have h2 : c.argTypes[0]? = some t := by rw [← Array.getElem?_toList, hts]; rfl
    obtain ⟨v, w', hv, hr⟩ := hCopy_ok hω hg hn hev (ty := o.type) h c.argTypes h2
    obtain ⟨cs, hres⟩ := resolve_builtin e hcal o.type
    have h1 : c.args.map e = #[e s, e y] := by rw [← Array.toList_inj]; simp [hargs]
    exact ⟨v, w', by simp [execOp, ho, hres, h1, invoke, builtin, hv], hr⟩
  · rename_i s y t l hcal hargs hts
    have h2 : c.argTypes[0]? = some t := by rw [← Array.getElem?_toList, hts]; rfl
    obtain ⟨v, w', hv, hr⟩ := hDelete_ok hg hn hev (ty := o.type) h c.argTypes h2
    obtain ⟨cs, hres⟩ := resolve_builtin e hcal o.type
    have h1 : c.args.map e = #[e s, e y] := by rw [← Array.toList_inj]; simp [hargs]
    exact ⟨v, w', by simp [execOp, ho, hres, h1, invoke, builtin, hv], hr⟩
  · cases h

/-- an operation that turns memory is the model's -/
theorem heavy_ok (hω : ∀ n, oneV (ω.val n) = true) (hg : Rel ρ ω A.mem.get w) (hn : Nm ρ A.next) (hev : Evs ρ ω ev e) {o : Oper} {x : AV} {A' : St} (h : heavy P ev A o = some (x, A')) :
    ∃ n v w', (execOp e o).run P w = .ok n w' ∧ (n = .value v ∨ n = .skip ∧ v = undef) ∧ HOut ρ ω A w x A' v w' := by
  have hv : ∀ {s : Sem Value}, (∃ v w', s.run P w = .ok v w' ∧ HOut ρ ω A w x A' v w') → execOp e o = (do pure (.value (← s)) : Sem Next) →
      ∃ n v w', (execOp e o).run P w = .ok n w' ∧ (n = .value v ∨ n = .skip ∧ v = undef) ∧ HOut ρ ω A w x A' v w' := by
    intro s ⟨v, w', h1, h2⟩ he
    exact ⟨.value v, v, w', by rw [he]; simp [h1], .inl rfl, h2⟩
  have hu : ∀ {s : Sem Unit}, (∃ w', s.run P w = .ok () w' ∧ HOut ρ ω A w x A' undef w') → execOp e o = (do s; pure .skip : Sem Next) →
      ∃ n v w', (execOp e o).run P w = .ok n w' ∧ (n = .value v ∨ n = .skip ∧ v = undef) ∧ HOut ρ ω A w x A' v w' := by
    intro s ⟨w', h1, h2⟩ he
    exact ⟨.skip, undef, w', by rw [he]; simp [h1], .inr ⟨rfl, rfl⟩, h2⟩
  unfold heavy at h
  split at h
  · rename_i m hm
    cases h
    obtain ⟨v, o', sp, h1, h2, h3, h4⟩ := maker_ok hω hev (w := w) hm
    obtain ⟨ρ', q1, q0, q2, q3, q4⟩ := add_ok hg hn m.2 o' sp h2 h3
    exact ⟨.value v, v, _, h1, .inl rfl, ρ', h4 ρ' q0 q1, q2, q3, q4⟩
  · cases ho : o.op <;> simp only [ho] at h <;> try (cases h; done)
    case insert t m k y => exact hu (hMapUpdate_ok hg hn hev h) (by simp only [execOp, ho])
    case store t a y => exact hu (hStore_ok hω hg hn hev h) (by simp only [execOp, ho])
    case convert src dst y =>
      rcases orElse_or h with h | h
      · exact hv (hBytes_ok hg hn hev h) (by simp only [execOp, ho])
      · exact hv (hSame_ok hg hn hev h) (by simp only [execOp, ho])
    case mapUpdate t m k y => exact hu (hMapUpdate_ok hg hn hev h) (by simp only [execOp, ho])
    case call c =>
      obtain ⟨v, w', h1, h2⟩ := hCall_ok hω hg hn hev o ho h
      exact ⟨.value v, v, w', h1, .inl rfl, h2⟩

end
end Go.Proofs.YtagmkceblklgaaaGreat.Ex
