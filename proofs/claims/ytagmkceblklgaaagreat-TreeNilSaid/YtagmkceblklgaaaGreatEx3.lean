/-
  THE OPERATIONS THAT LEAVE MEMORY ALONE (second part): each by its kind, then all of them.
  Conditions: what each function asks.
-/
import Derived.Test.YtagmkceblklgaaaGreatEx2
namespace Go.Proofs.YtagmkceblklgaaaGreat.Ex

def evs (ev : Operand → Option AV) : List Operand → Option (List AV)
  | [] => some []
  | x :: l => (ev x).bind fun a => (evs ev l).bind fun r => some (a :: r)

def litsOf : List AV → Option (List Value)
  | [] => some []
  | .lit v :: l => (litsOf l).bind fun r => some (v :: r)
  | _ => none
def toVal : AV → Option Value
  | .lit v => some v
  | .agg l => (litsOf l).bind fun vs => some (.agg vs.toArray)
  | _ => none
def litE (ev : Operand → Option AV) (x : Operand) : Value := ((ev x).bind toVal).getD undef
def allLit (ev : Operand → Option AV) : List Operand → Bool
  | [] => true
  | x :: l => ((ev x).bind toVal).isSome && allLit ev l
def Next.toValue : Next → Option Value
  | .value v => some v
  | _ => none
def noSelect : Op → Bool
  | .select .. => false
  | _ => true

/-- an operation on known values that looks at nothing but the program -/
def adet (P : Program) (ev : Operand → Option AV) (o : Oper) : Option AV :=
  cond (noSelect o.op && allLit ev o.op.operands.toList) ((det P (execOp (litE ev) o)).bind fun n => (Next.toValue n).bind fun v => some (.lit v)) none

def lightLoad (P : Program) (g : Nat → Option Blk) (ev : Operand → Option AV) (t : TypeId) (a : Operand) : Option AV :=
  (ev a).bind fun x => x.toPtr.bind fun p => (g p.1).bind fun B => B.toCells.bind fun c => part? P t c p.2
def lightFieldAddr (P : Program) (ev : Operand → Option AV) (s : TypeId) (x : Operand) (f : Nat) : Option AV :=
  (det P (underlying s)).bind fun d => (toStruct d).bind fun fs => fs[f]?.bind fun fd => (det P (sizeOf fd.type)).bind fun n =>
    cond (Nat.beq n 0) none ((ev x).bind fun v => v.toPtr.bind fun p => some (.ptr p.1 (p.2 + fd.offset)))
def lightField (P : Program) (ev : Operand → Option AV) (t : TypeId) (x : Operand) (f : Nat) : Option AV :=
  (det P (underlying t)).bind fun d => (toStruct d).bind fun fs => fs[f]?.bind fun fd => (ev x).bind fun v => v.toAgg.bind fun l => part? P fd.type l fd.offset
def lightIndexAddrS (P : Program) (ev : Operand → Option AV) (t : TypeId) (x i : Operand) : Option AV :=
  (det P (underlying t)).bind fun d => (toSlice d).bind fun e => (det P (sizeOf e)).bind fun n => (ev i).bind fun iv => iv.toInt.bind fun k => (ev x).bind fun v => v.toSl.bind fun s =>
    cond (decide (0 ≤ k.2) && decide (k.2 < s.len)) (some (.ptr s.b (s.off + k.2.toNat * n))) none
def lightIndexAddrA (P : Program) (ev : Operand → Option AV) (t : TypeId) (x i : Operand) : Option AV :=
  (det P (underlying t)).bind fun d => (toArr d).bind fun e => (det P (sizeOf e.2)).bind fun n => (ev i).bind fun iv => iv.toInt.bind fun k => (ev x).bind fun v => v.toPtr.bind fun s =>
    cond (decide (0 ≤ k.2) && decide (k.2 < e.1)) (some (.ptr s.1 (s.2 + k.2.toNat * n))) none
def lightIndex (P : Program) (ev : Operand → Option AV) (t : TypeId) (x i : Operand) : Option AV :=
  (det P (underlying t)).bind fun d => (toArr d).bind fun e => (det P (sizeOf e.2)).bind fun n => (ev i).bind fun iv => iv.toInt.bind fun k => (ev x).bind fun v => v.toAgg.bind fun l =>
    cond (decide (0 ≤ k.2) && decide (k.2 < e.1)) (part? P e.2 l (k.2.toNat * n)) none

/-- a bound of a slice expression: none, or known -/
def bound (ev : Operand → Option AV) (d : Nat) : Option Operand → Option Nat
  | none => some d
  | some x => (ev x).bind fun v => v.toInt.bind fun k => cond (decide (0 ≤ k.2)) (some k.2.toNat) none
def lightSlice (P : Program) (ev : Operand → Option AV) (t : TypeId) (x : Operand) (lo hi mx : Option Operand) : Option AV :=
  (det P (underlying t)).bind fun d => (toSlice d).bind fun e => (det P (sizeOf e)).bind fun n => (ev x).bind fun v => v.toSl.bind fun s =>
    (bound ev 0 lo).bind fun l => (bound ev s.len hi).bind fun h =>
      match mx with
      | none => cond (Nat.ble l h && Nat.ble h s.lo && Nat.beq n s.size) (some (.sl s.b (s.off + l * n) (h - l) n (s.lo - l) s.ex)) none
      | some y => (bound ev 0 (some y)).bind fun m =>
        cond (hi.isSome && Nat.ble l h && Nat.ble h m && Nat.ble m s.lo && Nat.beq n s.size) (some (.sl s.b (s.off + l * n) (h - l) n (m - l) true)) none
def lightSliceA (P : Program) (g : Nat → Option Blk) (ev : Operand → Option AV) (t : TypeId) (x : Operand) (lo hi mx : Option Operand) : Option AV :=
  (det P (underlying t)).bind fun d => (toArr d).bind fun e => (det P (sizeOf e.2)).bind fun n => (ev x).bind fun v => v.toPtr.bind fun p => (g p.1).bind fun B => B.toCells.bind fun c =>
    (bound ev 0 lo).bind fun l => (bound ev e.1 hi).bind fun h =>
      cond (mx.isNone && Nat.ble l h && Nat.ble h e.1 && Nat.ble (p.2 + e.1 * n) c.length) (some (.sl p.1 (p.2 + l * n) (h - l) n (e.1 - l) true)) none

/-- the place of a key among entries -/
def find? (d : TypeDesc) (k : Value) : List (Value × AV) → Nat → Option (Option (Nat × AV))
  | [], _ => some none
  | e :: es, i =>
    match Instr.sameNow d k e.1 with
    | some true => some (some (i, e.2))
    | some false => find? d k es (i + 1)
    | none => none
def plainKey : TypeDesc → Bool
  | .int _ | .string | .bool => true
  | _ => false
def lightLookup (P : Program) (g : Nat → Option Blk) (ev : Operand → Option AV) (t : TypeId) (x i : Operand) (ok : Bool) : Option AV :=
  (det P (underlying t)).bind fun d => (toMapT d).bind fun ke => (det P (underlying ke.1)).bind fun kd => cond (plainKey kd)
    ((ev i).bind fun iv => iv.toLit.bind fun k => (ev x).bind fun v => v.toMp.bind fun b => (g b).bind fun B => B.toMap.bind fun es =>
      (find? kd k es 0).bind fun r =>
        match r with
        | some p => some (cond ok (.tup [p.2, .lit (.bool true)]) p.2)
        | none => (det P (zeroValue ke.2)).bind fun z => some (cond ok (.tup [.lit z, .lit (.bool false)]) (.lit z))) none
/-- in an empty map nothing is found -/
def lightLookup0 (P : Program) (g : Nat → Option Blk) (ev : Operand → Option AV) (t : TypeId) (x i : Operand) (ok : Bool) : Option AV :=
  (det P (underlying t)).bind fun d => (toMapT d).bind fun ke => (det P (underlying ke.1)).bind fun kd => cond (plainKey kd)
    ((ev i).bind fun _ => (ev x).bind fun v => v.toMp.bind fun b => (g b).bind fun B => B.toMap.bind fun es =>
        match es with
        | [] => (det P (zeroValue ke.2)).bind fun z => some (cond ok (.tup [.lit z, .lit (.bool false)]) (.lit z))
        | _ :: _ => none) none
def lightExtract (ev : Operand → Option AV) (x : Operand) (i : Nat) : Option AV := (ev x).bind fun v => v.toTup.bind fun l => l[i]?
def notIface : TypeDesc → Bool
  | .interface _ => false
  | _ => true
def lightIface (P : Program) (ev : Operand → Option AV) (t : TypeId) (x : Operand) : Option AV :=
  (det P (underlying t)).bind fun d => cond (notIface d) ((ev x).bind fun v => some (.ifc t v)) none
def lightFunc (ev : Operand → Option AV) (fn : Fn) (first captured : Array Operand) : Option AV :=
  (evs ev first.toList).bind fun l => (evs ev captured.toList).bind fun m => some (.fn fn l m)
def fieldPlaces (P : Program) (fs : Array Field) : Option (Array (Nat × Nat)) :=
  det P (fs.mapM fun f => do pure (f.offset, ← sizeOf f.type))
def buildCells (P : Program) (t : TypeId) (parts : List (Nat × AV)) : Option (List AV) :=
  (det P (underlying t)).bind fun d => (det P (zeroValue t)).bind fun z =>
    match d with
    | .struct fs => (fieldPlaces P fs).bind fun places => fill? (places[·]?) (z.cells.toList.map .lit) parts
    | .array _ e => (det P (sizeOf e)).bind fun n => fill? (fun i => some (i * n, n)) (z.cells.toList.map .lit) parts
    | _ => none
def evp (ev : Operand → Option AV) : List (Nat × Operand) → Option (List (Nat × AV))
  | [] => some []
  | x :: l => (ev x.2).bind fun a => (evp ev l).bind fun r => some ((x.1, a) :: r)
def lightBuild (P : Program) (ev : Operand → Option AV) (t : TypeId) (parts : Array (Nat × Operand)) : Option AV :=
  (evp ev parts.toList).bind fun ps => (buildCells P t ps).bind fun l => some (.agg l)

def isNilLit : AV → Bool
  | .lit (.pointer none) | .lit (.slice none _ _) | .lit (.map none) | .lit .nilFunc | .lit .nilIface => true
  | _ => false
/-- is a value that is not known whole equal to another? (nil, or the same block) -/
def eq? (d : TypeDesc) (x y : AV) : Option Bool :=
  match d, x, y with
  | .pointer _, .ptr _ _, .lit (.pointer none) => some false
  | .pointer _, .lit (.pointer none), .ptr _ _ => some false
  | .slice _, .sl _ _ _ _ _ _, .lit (.slice none _ _) => some false
  | .slice _, .lit (.slice none _ _), .sl _ _ _ _ _ _ => some false
  | .map _ _, .mp _, .lit (.map none) => some false
  | .func _ _ _, .fn _ _ _, .lit .nilFunc => some false
  | .interface _, .ifc _ _, .lit .nilIface => some false
  | _, _, _ => none
def vsame : Value → Value → Bool
  | .bool a, .bool b => a == b
  | .int j a, .int k b => decide (j = k) && decide (a = b)
  | .string a, .string b => a == b
  | .pointer none, .pointer none => true
  | .slice none a b, .slice none c d => Nat.beq a c && Nat.beq b d
  | .map none, .map none => true
  | .nilFunc, .nilFunc => true
  | .nilIface, .nilIface => true
  | _, _ => false
/-- a test of a value that is not known -/
def factOf (op : BinOp) (v : Value) : Facts → Option Bool
  | [] => none
  | f :: fs => cond (decide (f.1 = op) && vsame f.2.1 v) (some f.2.2) (factOf op v fs)
def lightFact (ev : Operand → Option AV) (op : BinOp) (x y : Operand) : Option AV :=
  (ev x).bind fun a => (ev y).bind fun b =>
    match a, b with
    | .opq _ fs, .lit v => (factOf op v fs).bind fun r => some (.lit (.bool r))
    | _, _ => none
def lightEq (P : Program) (ev : Operand → Option AV) (op : BinOp) (t : TypeId) (x y : Operand) : Option AV :=
  (det P (underlying t)).bind fun d => (ev x).bind fun a => (ev y).bind fun b => (eq? d a b).bind fun r =>
    match op with
    | .eql => some (.lit (.bool r))
    | .neq => some (.lit (.bool (!r)))
    | _ => none
def bytesOf : List AV → Option (List UInt8)
  | [] => some []
  | .lit (.int .u8 n) :: l => (bytesOf l).bind fun r => some (UInt8.ofNat n.toNat :: r)
  | _ => none
def isStr : TypeDesc → Bool
  | .string => true
  | _ => false
def isU8 : TypeDesc → Bool
  | .int .u8 => true
  | _ => false
def lightStr (P : Program) (g : Nat → Option Blk) (ev : Operand → Option AV) (src dst : TypeId) (x : Operand) : Option AV :=
  (det P (underlying src)).bind fun sd => (toSlice sd).bind fun e => (det P (underlying e)).bind fun ed => (det P (underlying dst)).bind fun dd =>
    cond (isU8 ed && isStr dd) ((ev x).bind fun v => v.toSl.bind fun s => (g s.b).bind fun B => B.toCells.bind fun c =>
      cond (Nat.ble (s.off + s.len) c.length && Nat.ble 1 s.len) ((bytesOf ((c.drop s.off).take s.len)).bind fun l => some (.lit (.string ⟨l.toArray⟩))) none) none
def lightLen (P : Program) (g : Nat → Option Blk) (ev : Operand → Option AV) (t : TypeId) (x : Operand) : Option AV :=
  (det P (underlying t)).bind fun d => (ev x).bind fun v =>
    match d with
    | .slice _ => v.toSl.bind fun s => some (.lit (.int .i64 s.len))
    | .map _ _ => v.toMp.bind fun b => (g b).bind fun B => B.toMap.bind fun es => some (.lit (.int .i64 es.length))
    | _ => none
def lightCap (P : Program) (ev : Operand → Option AV) (t : TypeId) (x : Operand) : Option AV :=
  (det P (underlying t)).bind fun d => (toSlice d).bind fun _ => (ev x).bind fun v => v.toSl.bind fun s => cond s.ex (some (.lit (.int .i64 s.lo))) none
def lightNil (ev : Operand → Option AV) (x : Operand) : Option AV :=
  (ev x).bind fun v =>
    match v with
    | .ptr _ _ => some v
    | .fn (.func _) _ _ => some v
    | _ => none
def lightCall (P : Program) (g : Nat → Option Blk) (ev : Operand → Option AV) (c : Call) : Option AV :=
  match c.callee, c.args.toList, c.argTypes.toList with
  | .builtin .len, [x], [t] => lightLen P g ev t x
  | .builtin .cap, [x], [t] => lightCap P ev t x
  | _, _, _ => none

/-- an operation that leaves memory alone -/
def light (P : Program) (g : Nat → Option Blk) (ev : Operand → Option AV) (o : Oper) : Option AV :=
  match o.op with
  | .move x | .assign x => ev x
  | .pick c a b => (ev c).bind fun t => t.toBool.bind fun t => cond t (ev a) (ev b)
  | .load t a => lightLoad P g ev t a
  | .fieldAddr s x f => lightFieldAddr P ev s x f
  | .nilCheck x => lightNil ev x
  | .makeFunc fn first captured => lightFunc ev fn first captured
  | op =>
    match adet P ev o with
    | some v => some v
    | none =>
      match op with
      | .field t x f => lightField P ev t x f
      | .indexAddr t x i => (lightIndexAddrS P ev t x i).orElse fun _ => lightIndexAddrA P ev t x i
      | .index t x i => lightIndex P ev t x i
      | .slice t x lo hi mx => (lightSlice P ev t x lo hi mx).orElse fun _ => lightSliceA P g ev t x lo hi mx
      | .lookup t x i ok => (lightLookup P g ev t x i ok).orElse fun _ => lightLookup0 P g ev t x i ok
      | .extract x i => lightExtract ev x i
      | .makeInterface t x => lightIface P ev t x
      | .build t parts => lightBuild P ev t parts
      | .binOp op t x y _ => (lightEq P ev op t x y).orElse fun _ => lightFact ev op x y
      | .convert src dst x => lightStr P g ev src dst x
      | .call c => lightCall P g ev c
      | _ => none

end Go.Proofs.YtagmkceblklgaaaGreat.Ex
