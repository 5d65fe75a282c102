/-
  RUNNING: the operations that turn memory, a region, code, a call.
  Conditions: what each function asks.
-/
import Derived.Test.YtagmkceblklgaaaGreatEx3
namespace Go.Proofs.YtagmkceblklgaaaGreat.Ex

structure St where
  mem : Tr Blk
  next : Nat

/-- (a list is taken apart and put together again: so that it lies whole where it is kept) -/
def forceL {α β : Type} : List α → (List α → β) → β
  | [], k => k []
  | x :: l, k => forceL l fun r => k (x :: r)
theorem forceL_eq {α β : Type} : ∀ (l : List α) (k : List α → β), forceL l k = k l
  | [], _ => rfl
  | x :: l, k => by unfold forceL; rw [forceL_eq l]
def Blk.force {β : Type} (B : Blk) (k : Blk → β) : β :=
  match B with
  | .cells c => forceL c fun c => k (.cells c)
  | .map es => forceL es fun es => k (.map es)
theorem Blk.force_eq {β : Type} (B : Blk) (k : Blk → β) : B.force k = k B := by cases B <;> simp [Blk.force, forceL_eq]

def St.add (A : St) (B : Blk) : St := B.force fun B => ⟨A.mem.set A.next (some B), A.next + 1⟩
def St.put (A : St) (b : Nat) (B : Option Blk) : St :=
  match B with
  | none => ⟨A.mem.set b none, A.next⟩
  | some B => B.force fun B => ⟨A.mem.set b (some B), A.next⟩
theorem St.add_eq (A : St) (B : Blk) : A.add B = ⟨A.mem.set A.next (some B), A.next + 1⟩ := Blk.force_eq _ _
theorem St.put_eq (A : St) (b : Nat) (B : Option Blk) : A.put b B = ⟨A.mem.set b B, A.next⟩ := by cases B <;> simp [St.put, Blk.force_eq]
theorem St.add_next (A : St) (B : Blk) : (A.add B).next = A.next + 1 := by rw [St.add_eq]
theorem St.put_next (A : St) (b : Nat) (B : Option Blk) : (A.put b B).next = A.next := by rw [St.put_eq]

def zeros (z : List Value) : Nat → List AV
  | 0 => []
  | n + 1 => z.map .lit ++ zeros z n
def ones : List AV → Bool
  | [] => true
  | x :: l => x.one && ones l

def mAlloc (P : Program) (n : Nat) (t : TypeId) : Option (AV × Blk) :=
  (det P (zeroValue t)).bind fun z => some (.ptr n 0, .cells (z.cells.toList.map .lit))
def mBox (ev : Operand → Option AV) (n : Nat) (x : Operand) : Option (AV × Blk) :=
  (ev x).bind fun v => some (.ptr n 0, .cells v.cells)
def mBuildSlice (P : Program) (ev : Operand → Option AV) (nm : Nat) (t : TypeId) (len : Nat) (parts : Array (Nat × Operand)) : Option (AV × Blk) :=
  (det P (underlying t)).bind fun d => (toSlice d).bind fun e => (det P (sizeOf e)).bind fun n => (det P (zeroValue e)).bind fun z => (evp ev parts.toList).bind fun ps =>
    cond (Nat.beq z.cells.size n && Nat.ble 1 n && Nat.ble (len * n) 16777216)
      ((fill? (fun i => some (i * n, n)) (zeros z.cells.toList len) ps).bind fun l => some (.sl nm 0 len n len true, .cells l)) none
def mMakeSlice (P : Program) (ev : Operand → Option AV) (nm : Nat) (t : TypeId) (len cap : Operand) : Option (AV × Blk) :=
  (det P (underlying t)).bind fun d => (toSlice d).bind fun e => (det P (sizeOf e)).bind fun n => (det P (zeroValue e)).bind fun z => (det P (typeInfo e)).bind fun i =>
    (ev len).bind fun l => l.toInt.bind fun l => (ev cap).bind fun c => c.toInt.bind fun c =>
      cond (Nat.beq z.cells.size n && Nat.ble 1 n && decide (0 ≤ l.2) && decide (l.2 ≤ c.2) && Nat.ble c.2.toNat 16777216 && Nat.ble i.bytes 4096)
        (some (.sl nm 0 l.2.toNat n c.2.toNat true, .cells (zeros z.cells.toList c.2.toNat))) none
def mMakeMap (P : Program) (ev : Operand → Option AV) (n : Nat) (t : TypeId) (r : Option Operand) : Option (AV × Blk) :=
  match r with
  | none => some (.mp n, .map [])
  | some x => (det P (underlying t)).bind fun d => (toMapT d).bind fun _ => (ev x).bind fun v => v.toInt.bind fun _ => some (.mp n, .map [])
/-- an operation that makes a block, under a name -/
def maker (P : Program) (ev : Operand → Option AV) (n : Nat) (o : Oper) : Option (AV × Blk) :=
  match o.op with
  | .alloc t => mAlloc P n t
  | .box _ x => mBox ev n x
  | .buildSlice t len parts => mBuildSlice P ev n t len parts
  | .makeSlice t l c => mMakeSlice P ev n t l c
  | .makeMap t r => mMakeMap P ev n t r
  | _ => none

def hStore (P : Program) (ev : Operand → Option AV) (A : St) (t : TypeId) (a x : Operand) : Option (AV × St) :=
  (ev a).bind fun p => p.toPtr.bind fun p => (A.mem.get p.1).bind fun B => B.toCells.bind fun c => (ev x).bind fun v => (det P (sizeOf t)).bind fun n =>
    cond (Nat.beq v.cells.length n && Nat.ble (p.2 + n) c.length && ones v.cells)
      (some (.lit undef, A.put p.1 (some (.cells (c.take p.2 ++ v.cells ++ c.drop (p.2 + n)))))) none
def findK (P : Program) (ev : Operand → Option AV) (A : St) (t : TypeId) (m k : Operand) : Option (Nat × Value × List (Value × AV) × Option (Nat × AV)) :=
  (det P (underlying t)).bind fun d => (toMapT d).bind fun ke => (det P (underlying ke.1)).bind fun kd => cond (plainKey kd)
    ((ev k).bind fun iv => iv.toLit.bind fun k => (ev m).bind fun v => v.toMp.bind fun b => (A.mem.get b).bind fun B => B.toMap.bind fun es =>
      (find? kd k es 0).bind fun r => some (b, k, es, r)) none
def hMapUpdate (P : Program) (ev : Operand → Option AV) (A : St) (t : TypeId) (m k x : Operand) : Option (AV × St) :=
  (findK P ev A t m k).bind fun f => (ev x).bind fun v =>
    match f.2.2.2 with
    | some p => some (.lit undef, A.put f.1 (some (.map (f.2.2.1.set p.1 (f.2.1, v)))))
    | none => some (.lit undef, A.put f.1 (some (.map (f.2.2.1 ++ [(f.2.1, v)]))))
def hDelete (P : Program) (ev : Operand → Option AV) (A : St) (t : TypeId) (m k : Operand) : Option (AV × St) :=
  (findK P ev A t m k).bind fun f =>
    match f.2.2.2 with
    | some p => some (.lit (.tuple #[]), A.put f.1 (some (.map (f.2.2.1.eraseIdx p.1))))
    | none => some (.lit (.tuple #[]), A)
def hBytes (P : Program) (ev : Operand → Option AV) (A : St) (src dst : TypeId) (x : Operand) : Option (AV × St) :=
  (det P (underlying src)).bind fun sd => (det P (underlying dst)).bind fun dd => (toSlice dd).bind fun e => (det P (underlying e)).bind fun ed => cond (isStr sd && isU8 ed)
    ((ev x).bind fun v =>
      match v with
      | .lit (.string s) => some (.sl A.next 0 s.size 1 s.size false, A.add (.cells (s.data.toList.map fun b => .lit (.int .u8 b.toNat))))
      | _ => none) none

/-- a slice of bytes, converted to its own type -/
def hSame (P : Program) (ev : Operand → Option AV) (A : St) (src dst : TypeId) (x : Operand) : Option (AV × St) :=
  (det P (underlying src)).bind fun sd => (det P (underlying dst)).bind fun dd => (toSlice dd).bind fun e => (det P (underlying e)).bind fun ed => (ev x).bind fun v => v.toSl.bind fun s =>
    (A.mem.get s.b).bind fun B => B.toCells.bind fun _ => cond (Nat.beq src dst && isU8 ed && (toSlice sd).isSome) (some (v, A)) none

/-- what is appended, or copied: how many, and the cells -/
def srcCells (A : St) (n : Nat) (x : AV) : Option (Nat × List AV) :=
  match x with
  | .lit (.slice none 0 _) => some (0, [])
  | .lit (.string s) => cond (Nat.beq n 1) (some (s.size, s.data.toList.map fun b => .lit (.int .u8 b.toNat))) none
  | .sl b off len _ _ _ => cond (Nat.beq len 0) (some (0, []))
      ((A.mem.get b).bind fun B => B.toCells.bind fun c => cond (Nat.ble (off + len * n) c.length) (some (len, (c.drop off).take (len * n))) none)
  | _ => none
def okSrc : TypeDesc → Bool
  | .slice _ | .string => true
  | _ => false
def hAppend (P : Program) (ev : Operand → Option AV) (A : St) (t u : TypeId) (s x : Operand) : Option (AV × St) :=
  (det P (underlying t)).bind fun d => (toSlice d).bind fun e => (det P (sizeOf e)).bind fun n => (det P (zeroValue e)).bind fun z => (det P (typeInfo e)).bind fun i => (det P (underlying u)).bind fun ud =>
    (ev s).bind fun sv => (ev x).bind fun xv => (srcCells A n xv).bind fun xs =>
      cond (Nat.beq z.cells.size n && Nat.ble 1 n && okSrc ud && Nat.ble i.bytes 4096 && Nat.ble xs.1 16777216 && ones xs.2)
        (match sv with
        | .lit (.slice none 0 0) =>
          cond (Nat.beq xs.1 0) (some (sv, A)) (some (.sl A.next 0 xs.1 n xs.1 false, A.add (.cells xs.2)))
        | .sl b off len size lo ex =>
          cond (Nat.beq size n && Nat.ble len 16777216)
            (cond (Nat.beq xs.1 0) (some (sv, A))
              ((A.mem.get b).bind fun B => B.toCells.bind fun c => cond (Nat.ble (off + len * n) c.length)
                (cond (Nat.ble (len + xs.1) lo)
                  (some (.sl b off (len + xs.1) n lo ex, A.put b (some (.cells (c.take (off + len * n) ++ xs.2 ++ c.drop (off + (len + xs.1) * n))))))
                  (cond ex
                    (some (.sl A.next 0 (len + xs.1) n (len + xs.1) false, A.add (.cells ((c.drop off).take (len * n) ++ xs.2))))
                    (cond (Nat.beq off 0) (some (.sl A.next 0 (len + xs.1) n (len + xs.1) false, (A.put b none).add (.cells ((c.drop off).take (len * n) ++ xs.2)))) none)))
                none))
            none
        | _ => none) none
def hCopy (P : Program) (ev : Operand → Option AV) (A : St) (t : TypeId) (s x : Operand) : Option (AV × St) :=
  (det P (underlying t)).bind fun d => (toSlice d).bind fun e => (det P (sizeOf e)).bind fun n => (ev s).bind fun sv => sv.toSl.bind fun sl => (ev x).bind fun xv => (srcCells A n xv).bind fun xs =>
    let k := Nat.min xs.1 sl.len
    cond (Nat.beq sl.size n && Nat.ble 1 n && ones xs.2 && Nat.beq xs.2.length (xs.1 * n))
      (cond (Nat.beq k 0) (some (.lit (.int .i64 0), A))
        ((A.mem.get sl.b).bind fun B => B.toCells.bind fun c => cond (Nat.ble (sl.off + k * n) c.length)
          (some (.lit (.int .i64 k), A.put sl.b (some (.cells (c.take sl.off ++ xs.2.take (k * n) ++ c.drop (sl.off + k * n)))))) none)) none
def hCall (P : Program) (ev : Operand → Option AV) (A : St) (c : Call) : Option (AV × St) :=
  match c.callee, c.args.toList, c.argTypes.toList with
  | .builtin .append, [s, x], [t, u] => hAppend P ev A t u s x
  | .builtin .copy, [s, x], t :: _ => hCopy P ev A t s x
  | .builtin .delete, [m, k], t :: _ => hDelete P ev A t m k
  | _, _, _ => none

/-- an operation that turns memory, or makes a block -/
def heavy (P : Program) (ev : Operand → Option AV) (A : St) (o : Oper) : Option (AV × St) :=
  match maker P ev A.next o with
  | some m => some (m.1, A.add m.2)
  | none =>
    match o.op with
    | .store t a x => hStore P ev A t a x
    | .mapUpdate t m k x | .insert t m k x => hMapUpdate P ev A t m k x
    | .convert src dst x => (hBytes P ev A src dst x).orElse fun _ => hSame P ev A src dst x
    | .call c => hCall P ev A c
    | _ => none

/-- the function and the arguments of a call -/
def callee (ev : Operand → Option AV) (o : Oper) : Option (FuncId × List AV) :=
  match o.op with
  | .call c =>
    match c.callee with
    | .value f => (ev f).bind fun v =>
      match v with
      | .fn (.func k) l m => (evs ev c.args.toList).bind fun args => some (k, l ++ args ++ m)
      | .lit (.func (.func k) l m) => (evs ev c.args.toList).bind fun args => some (k, l.toList.map .lit ++ args ++ m.toList.map .lit)
      | _ => none
    | _ => none
  | _ => none

structure AA where
  tmps : Tr AV
  n : Nat

def AA.ev (a : AA) : Operand → Option AV
  | .tmp t => a.tmps.get t
  | .const v => some (.lit v)
  | .global _ => none
  | .func f => some (.fn (.func f) [] [])
def AA.put (a : AA) (d : Option Tmp) (v : AV) : Option AA :=
  match d with
  | none => some a
  | some t => cond (Nat.ble (t + 1) a.n) (some ⟨a.tmps.set t (some v), a.n⟩) none

def guardOf (want : Bool) : AV → Option Bool
  | .lit (.bool b) => some (b == want)
  | .lit (.tuple _) => some false
  | _ => none
/-- is an operation's guard met? -/
def wants (ops : Array Oper) (a : AA) (o : Oper) : Option Bool :=
  match o.guard with
  | none => some true
  | some (j, want) => (ops[j]?).bind fun p => p.dst.bind fun d => (a.tmps.get d).bind fun v => guardOf want v

inductive Did where
  | light (v : AV)
  | heavy (v : AV) (A : St)

/-- one operation, whose guard is met -/
def stepOp (P : Program) (call : FuncId → List AV → St → Option (AV × St)) (ev : Operand → Option AV) (A : St) (o : Oper) : Option Did :=
  match callee ev o with
  | some (f, args) => (call f args A).bind fun r => some (.heavy r.1 r.2)
  | none =>
    match light P A.mem.get ev o with
    | some v => some (.light v)
    | none => (heavy P ev A o).bind fun r => some (.heavy r.1 r.2)

def opsSeq (P : Program) (call : FuncId → List AV → St → Option (AV × St)) (ops : Array Oper) : List Oper → AA → St → Option (AA × St)
  | [], a, A => some (a, A)
  | o :: rest, a, A => (wants ops a o).bind fun w =>
    cond w
      ((stepOp P call a.ev A o).bind fun d =>
        match d with
        | .light v => (a.put o.dst v).bind fun a' => opsSeq P call ops rest a' A
        | .heavy v A' => (a.put o.dst v).bind fun a' => opsSeq P call ops rest a' A')
      ((a.put o.dst (.lit undef)).bind fun a' => opsSeq P call ops rest a' A)

/-! a region that draws its order: run once in the order of its text; what only looks must see the same at every place where it may come -/

inductive Rec where
  | skip
  | light (v : AV)
  | made (v : AV) (B : Blk)
  | heavy (v : AV)
def Rec.val : Rec → AV
  | .skip => .lit undef
  | .light v => v
  | .made v _ => v
  | .heavy v => v
/-- memory behind an operation that turns it: its place, which of the region's new blocks are in, memory -/
structure Stage where
  i : Nat
  inc : Nat
  A : St

/-- what comes ahead of an operation, as a number's bits -/
def befOf (o : Oper) (acc : List Nat) : Nat :=
  o.after.toList.foldl (fun s e => cond (Region.binds .any e) (s ||| 2 ^ e.on ||| (acc[e.on]?).getD 0) s) 0
def befsF : List Oper → List Nat → List Nat
  | [], acc => acc
  | o :: l, acc => befsF l (acc ++ [befOf o acc])
def bit (bm : List Nat) (i j : Nat) : Bool := ((bm[i]?).getD 0).testBit j

def writerF (t : Nat) : List Oper → Nat → Option Nat
  | [], _ => none
  | o :: l, i =>
    match o.dst with
    | some d => cond (Nat.beq d t) (some i) (writerF t l (i + 1))
    | none => writerF t l (i + 1)

def slotAt (ops : List Oper) (bm : List Nat) (a : AA) (recs : List Rec) (i t : Nat) : Option AV :=
  match writerF t ops 0 with
  | none => a.tmps.get t
  | some j => cond (bit bm i j) ((recs[j]?).map Rec.val) (cond (Nat.beq j i || bit bm j i) (a.tmps.get t) none)
def envAt (ops : List Oper) (bm : List Nat) (a : AA) (recs : List Rec) (i : Nat) : Operand → Option AV
  | .tmp t => slotAt ops bm a recs i t
  | .const v => some (.lit v)
  | .global _ => none
  | .func f => some (.fn (.func f) [] [])
def wantsAt (ops : List Oper) (bm : List Nat) (a : AA) (recs : List Rec) (i : Nat) (o : Oper) : Option Bool :=
  match o.guard with
  | none => some true
  | some (j, want) => (ops[j]?).bind fun p => p.dst.bind fun d => (slotAt ops bm a recs i d).bind fun v => guardOf want v

/-- the blocks made so far that come ahead of the i-th operation are laid in -/
def layIn (bm : List Nat) (i base inc : Nat) : List Rec → Nat → St → Nat × St
  | [], _, A => (inc, A)
  | .made _ B :: l, j, A => cond (bit bm i j && !inc.testBit j) (let r := layIn bm i base inc l (j + 1) (A.put (base + j) (some B)); (r.1 ||| 2 ^ j, r.2)) (layIn bm i base inc l (j + 1) A)
  | _ :: l, j, A => layIn bm i base inc l (j + 1) A
/-- one operation that turns memory -/
def stepHeavy (P : Program) (call : FuncId → List AV → St → Option (AV × St)) (ev : Operand → Option AV) (A : St) (o : Oper) : Option (AV × St) :=
  match callee ev o with
  | some (f, args) => call f args A
  | none => heavy P ev A o
def canon (P : Program) (call : FuncId → List AV → St → Option (AV × St)) (ops : List Oper) (bm : List Nat) (a : AA) (base : Nat) :
    Nat → List Oper → List Rec → List Stage → Nat → St → Option (List Rec × List Stage × Nat × St)
  | _, [], recs, hs, inc, cur => some (recs, hs, inc, cur)
  | i, o :: rest, recs, hs, inc, cur => (wantsAt ops bm a recs i o).bind fun w =>
    cond w
      (match maker P (envAt ops bm a recs i) (base + i) o with
      | some m => canon P call ops bm a base (i + 1) rest (recs ++ [.made m.1 m.2]) hs inc cur
      | none =>
        match light P cur.mem.get (envAt ops bm a recs i) o with
        | some v => canon P call ops bm a base (i + 1) rest (recs ++ [.light v]) hs inc cur
        | none =>
          let lay := layIn bm i base inc recs 0 cur
          (stepHeavy P call (envAt ops bm a recs i) lay.2 o).bind fun r =>
            canon P call ops bm a base (i + 1) rest (recs ++ [.heavy r.1]) (hs ++ [⟨i, lay.1, r.2⟩]) lay.1 r.2)
      (canon P call ops bm a base (i + 1) rest (recs ++ [.skip]) hs inc cur)

def AV.same : AV → AV → Bool
  | .lit a, .lit b => vsame a b
  | .ptr b o, .ptr b' o' => Nat.beq b b' && Nat.beq o o'
  | .sl b o l s c e, .sl b' o' l' s' c' e' => Nat.beq b b' && Nat.beq o o' && Nat.beq l l' && Nat.beq s s' && Nat.beq c c' && (e == e')
  | .mp b, .mp b' => Nat.beq b b'
  | .agg l, .agg m => go l m
  | .tup l, .tup m => go l m
  | .fn f l m, .fn f' l' m' => decide (f = f') && go l l' && go m m'
  | _, _ => false
where
  go : List AV → List AV → Bool
    | [], [] => true
    | .lit a :: l, .lit b :: m => vsame a b && go l m
    | .ptr b o :: l, .ptr b' o' :: m => Nat.beq b b' && Nat.beq o o' && go l m
    | .sl b o l s c e :: x, .sl b' o' l' s' c' e' :: y => Nat.beq b b' && Nat.beq o o' && Nat.beq l l' && Nat.beq s s' && Nat.beq c c' && (e == e') && go x y
    | .mp b :: l, .mp b' :: m => Nat.beq b b' && go l m
    | _, _ => false

/-- may k of the operations that turn memory have come when the i-th comes? -/
def allowed (bm : List Nat) (i k : Nat) : List Stage → Nat → Bool
  | [], _ => true
  | h :: hs, j => (!bit bm i h.i || Nat.ble (j + 1) k) && (!bit bm h.i i || Nat.ble k j) && allowed bm i k hs (j + 1)
def stageOf (A : St) (hs : List Stage) : Nat → Stage
  | 0 => ⟨0, 0, A⟩
  | k + 1 => (hs[k]?).getD ⟨0, 0, A⟩
/-- what only looks sees the same everywhere -/
def steadyAt (P : Program) (ops : List Oper) (bm : List Nat) (a : AA) (A : St) (recs : List Rec) (hs : List Stage) (i : Nat) (o : Oper) (v : AV) : Nat → Bool
  | 0 => true
  | k + 1 =>
    cond (allowed bm i k hs 0) (match light P (stageOf A hs k).A.mem.get (envAt ops bm a (recs.take i) i) o with
      | some u => AV.same u v
      | none => false) true && steadyAt P ops bm a A recs hs i o v k
def steady (P : Program) (ops : List Oper) (bm : List Nat) (a : AA) (A : St) (recs : List Rec) (hs : List Stage) : List Oper → Nat → Bool
  | [], _ => true
  | o :: rest, i =>
    (match recs[i]? with
      | some (.light v) => steadyAt P ops bm a A recs hs i o v (hs.length + 1)
      | _ => true) && steady P ops bm a A recs hs rest (i + 1)
def chained (bm : List Nat) : List Stage → Bool
  | h :: h' :: hs => bit bm h'.i h.i && chained bm (h' :: hs)
  | _ => true
/-- no block that is not in has a name in memory -/
def apartAt (base inc : Nat) (g : Nat → Option Blk) : List Rec → Nat → Bool
  | [], _ => true
  | .made _ _ :: l, j => (inc.testBit j || (g (base + j)).isNone) && apartAt base inc g l (j + 1)
  | _ :: l, j => apartAt base inc g l (j + 1)
def apart (base : Nat) (recs : List Rec) : List Stage → Bool
  | [] => true
  | h :: hs => apartAt base h.inc h.A.mem.get recs 0 && apart base recs hs
def uniqD (ops : List Oper) (n : Nat) : List Oper → Nat → Bool
  | [], _ => true
  | o :: rest, i =>
    (match o.dst with
      | none => true
      | some d => Nat.ble (d + 1) n && (match writerF d ops 0 with | some j => Nat.beq j i | none => false)) && uniqD ops n rest (i + 1)
def edgesDown : List Oper → Nat → Bool
  | [], _ => true
  | o :: rest, i => (o.after.toList.all fun e => !Region.binds .any e || Nat.ble (e.on + 1) i) && edgesDown rest (i + 1)
def puts : List Oper → List Rec → AA → AA
  | o :: ops, r :: recs, a =>
    match o.dst with
    | some d => puts ops recs ⟨a.tmps.set d (some r.val), a.n⟩
    | none => puts ops recs a
  | _, _, a => a

def opsAny (P : Program) (call : FuncId → List AV → St → Option (AV × St)) (ops : Array Oper) (a : AA) (A : St) : Option (AA × St) :=
  let l := ops.toList
  let bm := befsF l []
  (canon P call l bm a A.next 0 l [] [] 0 ⟨A.mem, A.next + l.length⟩).bind fun r =>
    cond (chained bm r.2.1 && uniqD l a.n l 0 && edgesDown l 0 && Region.noSelect ops && steady P l bm a ⟨A.mem, A.next + l.length⟩ r.1 r.2.1 l 0 && apartAt A.next 0 A.mem.get r.1 0 && apart A.next r.1 r.2.1)
      (some (puts l r.1 a, (layIn (List.replicate (l.length + 1) (2 ^ l.length - 1)) l.length A.next r.2.2.1 r.1 0 r.2.2.2).2)) none

inductive AExit where
  | normal
  | exit (id : Nat)
  | ret

def argsIn : List AV → Nat → Tr AV → Tr AV
  | [], _, t => t
  | x :: l, i, t => argsIn l (i + 1) (t.set i (some x))
def undefs : Nat → Nat → Tr AV → Tr AV
  | 0, _, t => t
  | n + 1, i, t => undefs n (i + 1) (t.set i (some (.lit undef)))
def enter (fn : Func) (args : List AV) : AA := ⟨argsIn args 0 .nil, Nat.max args.length fn.ntmps⟩
def resultOf (P : Program) (a : AA) (A : St) : ResultVar → Option AV
  | .tmp t => a.tmps.get t
  | .cell t ty => (a.tmps.get t).bind fun v => v.toPtr.bind fun p => (A.mem.get p.1).bind fun B => B.toCells.bind fun c => part? P ty c p.2
def resultsOf (P : Program) (a : AA) (A : St) : List ResultVar → Option (List AV)
  | [] => some []
  | r :: l => (resultOf P a A r).bind fun v => (resultsOf P a A l).bind fun vs => some (v :: vs)
def tupOf : List AV → AV
  | [v] => v
  | l => .tup l

def leave (P : Program) (fn : Func) (r : AExit × AA × St) : Option (AV × St) :=
  match r.1 with
  | .exit _ => none
  | _ => (resultsOf P r.2.1 r.2.2 fn.results.toList).bind fun vs => some (tupOf vs, r.2.2)

abbrev Sums := FuncId → Option (List AV → St → Option (AV × St))

def exec (P : Program) (S : Sums) : Nat → Code → AA → St → Option (AExit × AA × St)
  | 0, _, _, _ => none
  | fuel + 1, c, a, A =>
    match c with
    | .skip | .label _ => some (.normal, a, A)
    | .region _ ops draw =>
      (cond draw (opsAny P (fun f args A =>
        match S f with
        | some s => s args A
        | none => (P.funcs[f]?).bind fun fn => fn.body.bind fun b => (exec P S fuel b (enter fn args) A).bind fun r => leave P fn r) ops a A)
        (opsSeq P (fun f args A =>
        match S f with
        | some s => s args A
        | none => (P.funcs[f]?).bind fun fn => fn.body.bind fun b => (exec P S fuel b (enter fn args) A).bind fun r => leave P fn r) ops ops.toList a A)).bind fun r => some (.normal, r.1, r.2)
    | .seq x y =>
      match exec P S fuel x a A with
      | some (.normal, a', A') => exec P S fuel y a' A'
      | r => r
    | .cond c x y => (a.ev c).bind fun v => v.toBool.bind fun t => cond t (exec P S fuel x a A) (exec P S fuel y a A)
    | .block id b =>
      match exec P S fuel b a A with
      | some (.exit k, a', A') => cond (Nat.beq k id) (some (.normal, a', A')) (some (.exit k, a', A'))
      | r => r
    | .loop b =>
      match exec P S fuel b a A with
      | some (.normal, a', A') => exec P S fuel (.loop b) a' A'
      | r => r
    | .exit id => some (.exit id, a, A)
    | .ret => some (.ret, a, A)
    | _ => none

def callIn (P : Program) (S : Sums) (fuel : Nat) (f : FuncId) (args : List AV) (A : St) : Option (AV × St) :=
  match S f with
  | some s => s args A
  | none => (P.funcs[f]?).bind fun fn => fn.body.bind fun b => (exec P S fuel b (enter fn args) A).bind fun r => leave P fn r

end Go.Proofs.YtagmkceblklgaaaGreat.Ex
