/-
  THE STATEMENT TreeNilSaid: reevelaw09.TreeNil answers true whatever it is asked; what it was handed reads as it did.
  Conditions: those of the row.
-/
import Derived.Test.YtagmkceblklgaaaGreatRows
import Derived.Test.YtagmkceblklgaaaGreatNa
import Derived.WalkKit
import Derived.ProofKit
import Derived.OpenShut
import Derived.ShutString
import Derived.ChangeOld
import Derived.Below
import Derived.SizedLaws
import Derived.Deep.Slices
namespace Go.Proofs.YtagmkceblklgaaaGreat.TreeNil
open Go.ChangeShapes Go.WideShapes Go.ChangeAt Go.RowKit
open Go.Deep (open_slice)
open Ex (oneV)
open Go.ChangeMaps (open_string shut_string)
set_option linter.unusedVariables false

theorem own : ownKnob Tryz.prog.godebug = none := by kernel_rfl
theorem laidOut : laidOutB Tryz.prog = true := by kernel_rfl

theorem addr_add {w : World} {a : Addr} {n : Nat} {v : Value} (h : w.cell? (a.add n) = some v) : a.add n = ⟨a.block, a.off + n, none⟩ := by
  unfold Addr.add at h ⊢
  split
  · rename_i h0
    subst h0
    rw [if_pos rfl] at h
    cases a with
    | mk b o s =>
      cases s with
      | none => rfl
      | some q =>
        exfalso
        unfold World.cell? at h
        split at h <;> simp at h
  · rfl

-- a list of changes, as it was handed: it can be read
set_option maxRecDepth 100000 in
theorem open_chgs {H : Type} {enc : TypeId × Value → H} {w : World} {base : Nat} {spare : Nat → Bool} {held : Bool} {fuel : Nat} {v : Value} {x : DataW H × List MemPlace} (hlt : ∀ p ∈ x.2, p.block < w.heap.size)
    (h : DataW.trod enc Tryz.prog w base spare held fuel 22 [v] = some x) :
    ∃ xs : List Chg, ChgsV w.heap.size w v xs ∧ oneV v = true ∧ (xs = [] ∨ ∃ es sp, x.1 = .slice es sp ∧ es.length = xs.length) := by
  rcases open_slice Tryz.underlying22 h with ⟨hcs, _⟩ | ⟨a, len, cap, m, n, D, Pl, hcs, hb, hl, hm, hmm, hx, hi⟩
  · cases hcs
    exact ⟨[], .inl ⟨_, _, rfl, rfl⟩, rfl, .inl rfl⟩
  · cases hcs
    have hC : Tryz.prog.cellsOf 56 = 3 := by kernel_rfl
    have hC9 : Tryz.prog.cellsOf 9 = 1 := by kernel_rfl
    have hC38 : Tryz.prog.cellsOf 38 = 1 := by kernel_rfl
    have hC4 : Tryz.prog.cellsOf 4 = 1 := by kernel_rfl
    rw [hC] at hi
    have hlm : len ≤ m := by rw [hmm]; split <;> omega
    have hel : ∀ i, i < len → ∃ c : Chg, w.cell? (a.add (i * 3)) = some (.string c.k) ∧ w.cell? ((a.add (i * 3)).add 1) = some (.slice c.a c.l c.c) ∧ w.cell? ((a.add (i * 3)).add 2) = some (.bool c.g) := by
      intro i hil
      obtain ⟨cs', hc, ht⟩ := hi i (by omega)
      obtain ⟨_, hcl, hat⟩ := World.cells?_some hc
      obtain ⟨ys, n', _, _, _, hyl, hf⟩ := DataW.trod_struct Tryz.underlying56 ht
      match cs', hcl with
      | [u0, u1, u2], _ =>
        have g0 := hf 0 { name := "Key", type := 9, offset := 0, embedded := false, tag := "", pkgPath := "", byteOffset := 0 } rfl
        have g1 := hf 1 { name := "Value", type := 38, offset := 1, embedded := false, tag := "", pkgPath := "", byteOffset := 16 } rfl
        have g2 := hf 2 { name := "Gone", type := 4, offset := 2, embedded := false, tag := "", pkgPath := "", byteOffset := 40 } rfl
        dsimp only at g0 g1 g2
        rw [hC9] at g0; rw [hC38] at g1; rw [hC4] at g2
        replace g0 : DataW.trod enc Tryz.prog w base spare held n' 9 [u0] = ys[0]? := g0
        replace g1 : DataW.trod enc Tryz.prog w base spare held n' 38 [u1] = ys[1]? := g1
        replace g2 : DataW.trod enc Tryz.prog w base spare held n' 4 [u2] = ys[2]? := g2
        have e0 : ys[0]? = some (ys[0]'(by rw [hyl]; decide)) := List.getElem?_eq_getElem _
        have e1 : ys[1]? = some (ys[1]'(by rw [hyl]; decide)) := List.getElem?_eq_getElem _
        have e2 : ys[2]? = some (ys[2]'(by rw [hyl]; decide)) := List.getElem?_eq_getElem _
        rw [e0] at g0; rw [e1] at g1; rw [e2] at g2
        obtain ⟨s, h0, _⟩ := DataW.trod_string Tryz.underlying9 g0
        obtain ⟨t, h2, _⟩ := DataW.trod_bool Tryz.underlying4 g2
        obtain ⟨p, q, r, h1⟩ : ∃ p q r, [u1] = [Value.slice p q r] := by
          rcases DataW.trod_slice Tryz.underlying38 g1 with ⟨h, _⟩ | ⟨a', l', c', _, _, _, _, h, _⟩
          · exact ⟨_, _, _, h⟩
          · exact ⟨_, _, _, h⟩
        cases h0; cases h1; cases h2
        refine ⟨⟨s, p, q, r, t⟩, ?_, hat 1 (by omega), hat 2 (by omega)⟩
        have := hat 0 (by omega)
        simpa [Addr.add] using this
    by_cases h0 : len = 0
    · subst h0
      exact ⟨[], .inl ⟨_, _, rfl, rfl⟩, rfl, .inl rfl⟩
    obtain ⟨f, hf⟩ : ∃ f : Nat → Chg, ∀ i, i < len → w.cell? (a.add (i * 3)) = some (.string (f i).k) ∧ w.cell? ((a.add (i * 3)).add 1) = some (.slice (f i).a (f i).l (f i).c) ∧ w.cell? ((a.add (i * 3)).add 2) = some (.bool (f i).g) := by
      classical
      exact ⟨fun i => if h : i < len then Classical.choose (hel i h) else chgZ, fun i hil => by simp only [dif_pos hil]; exact Classical.choose_spec (hel i hil)⟩
    have hlen : (upto f len).length = len := upto_length f len
    have hat : ∀ j, j < len → chgAt (upto f len) j = f j := fun j hj => by simp [chgAt, upto, hj]
    have ha0 := addr_add (hf 0 (by omega)).1
    have hsp : a = ⟨a.block, a.off, none⟩ := by simpa [Addr.add] using ha0
    have hblk : a.block < w.heap.size := by
      have := World.block_lt_of_cell? w _ (hf 0 (by omega)).1
      rw [ha0] at this; exact this
    refine ⟨upto f len, .inr ⟨a.block, a.off, cap, by rw [hlen, ← hsp], hblk, fun j hj => ?_⟩, rfl, .inr ⟨_, _, by rw [hx], by simp [hlen]⟩⟩
    rw [hlen] at hj
    obtain ⟨h1, h2, h3⟩ := hf j hj
    rw [hat j hj]
    rw [addr_add h2] at h2
    rw [addr_add h3] at h3
    have e := addr_add h1
    rw [e] at h1 h2 h3
    exact ⟨h1, h2, h3⟩

set_option maxRecDepth 100000 in
theorem lifted (os : Os) (started : os.Started) (H : Type) (enc : TypeId × Value → H) :
    ReturnsInHanded {} Tryz.checked os 3 .any (Rows.treeNilSpec.pre6 enc Tryz.prog Tryz.f3 Rows.treeNilRow.domain false) (Rows.treeNilSpec.post enc Tryz.prog Tryz.f3 false true false false) := by
  refine returnsInHanded_of_change_sized (C := Tryz.checked) own started (by kernel_rfl) Tryz.func3
    (ChangeSpec.witness6 (enc := enc) (C := Tryz.checked) false ⟨#[], #[.int .i64 0, .string ByteArray.empty, .slice none 0 0], []⟩ 8 (by kernel_rfl) (by kernel_rfl) (by kernel_rfl) (by kernel_rfl)) ?_
  intro W base args ds gs before hval0 hW hcnd hsz0 _
  have hsz : (DataW.weightsEach Tryz.prog (Tryz.f3.params.toList ++ Rows.treeNilSpec.plain.varTypes Tryz.prog) (ds ++ gs)).all (· ≤ reachBytes) = true := hsz0
  have hval : ∀ (j : Nat) t v, Tryz.f3.params[j]? = some t → args[j]? = some v → Value.okWide Tryz.prog W .any base t v := hval0
  have hW' := hW
  obtain ⟨p, q, hA0, hV, rfl, hfz, hnd⟩ := hW
  have hA : DataW.TrodAll enc Tryz.prog W 0 (fun _ => true) true Tryz.f3.params.toList args.toList ds p := hA0
  rw [Tryz.params3] at hA hval hsz
  obtain ⟨v0, vs0, d0, ds0, p0, q0, hargs, rfl, rfl, h0, r0⟩ := trodAll_cons hA
  obtain ⟨v1, vs1, d1, ds1, p1, q1, rfl, rfl, rfl, h1, r1⟩ := trodAll_cons r0
  obtain ⟨v2, vs2, d2, ds2, p2, q2, rfl, rfl, rfl, h2, r2⟩ := trodAll_cons r1
  obtain ⟨rfl, rfl, rfl⟩ := trodAll_nil r2
  obtain rfl : args = #[v0, v1, v2] := by cases args; simp_all
  obtain ⟨rfl, rfl⟩ := trodVars_none hV
  obtain ⟨a0, rfl, rfl, rfl, w0⟩ := open_int Tryz.underlying3 (hval 0 3 v0 rfl rfl) h0
  obtain ⟨a1, rfl, rfl, rfl, y1⟩ := open_string Tryz.underlying9 (hval 1 9 v1 rfl rfl) h1
  obtain ⟨a2, len2, cap2, rfl⟩ := okWide_slice Tryz.underlying22 (hval 2 22 v2 rfl rfl)
  have k2 := h2
  have lt2 : ∀ x ∈ p2, x.block < W.heap.size := by obtain ⟨m, hm⟩ := k2; exact DataW.trod_lt m _ _ _ hm
  obtain ⟨xs, hxs, hone, hxl⟩ : ∃ xs : List Chg, ChgsV W.heap.size W (.slice a2 len2 cap2) xs ∧ oneV (.slice a2 len2 cap2) = true ∧ (xs = [] ∨ ∃ es sp, d2 = .slice es sp ∧ es.length = xs.length) := by
    obtain ⟨fuel, hf⟩ := h2
    exact open_chgs (x := (d2, p2)) lt2 hf
  have hlen : xs.length ≤ 100000000000000 := by
    rcases hxl with rfl | ⟨es, sp, rfl, hes⟩
    · simp
    · have z := sized_slice hsz (j := 2) (t := 22) rfl rfl Tryz.underlying22
      have hb : Tryz.prog.bytesOf 56 = 48 := by kernel_rfl
      rw [hb] at z
      have := reachBytes_lt
      omega
  clear hA0 hval0 hsz0 hsz
  refine (Ex.treeNil_any W a0 a1 (.slice a2 len2 cap2) xs hone hxs hlen).mono fun e W' ⟨he, bel⟩ => ?_
  subst he
  exact ⟨_, rfl, _, _, _, [], _, [], hW', trodAll_mk1 (shut_bool Tryz.underlying4 _), (trodAll_cons_mk (shut_int Tryz.underlying3 w0) (trodAll_cons_mk (shut_string Tryz.underlying9 y1) (trodAll_cons_mk (Below.trod laidOut (by kernel_rfl) (of_decide_eq_true (by kernel_rfl)) k2 bel lt2) trodAll_mk0))), rfl, bel.frame _, fun h => by cases h⟩

theorem over : Rows.treeNilRow.holds Tryz.pinned (OpenSpec.ofChange Rows.treeNilSpec) :=
  OpenClaim.holds_of_wide 3 Tryz.f3 rfl rfl rfl rfl rfl rfl rfl ⟨rfl, rfl, rfl, rfl, rfl⟩ rfl rfl rfl rfl rfl (by kernel_rfl) Tryz.func3 (by kernel_rfl)
    (of_decide_eq_true (by kernel_rfl)) (by unfold Func.isWrapper; first | (rw [if_pos (by decide +kernel)]; kernel_rfl) | (rw [if_neg (by decide +kernel)]; exact ⟨rfl, rfl⟩))
    (fun os started H enc _ => lifted os started H enc)
theorem proved : Rows.TreeNilSaid := over
#print axioms proved
end Go.Proofs.YtagmkceblklgaaaGreat.TreeNil
namespace Go.Proofs.YtagmkceblklgaaaGreat
/-- The row, under a short name, for the claim. -/
theorem treeNil_holds : Rows.TreeNilSaid := TreeNil.proved
end Go.Proofs.YtagmkceblklgaaaGreat
