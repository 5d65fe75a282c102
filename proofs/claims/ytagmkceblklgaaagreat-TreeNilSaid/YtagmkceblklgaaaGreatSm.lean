/-
  SUMMARIES for the runner: slices.Sorted over the keys of a map whose keys are strings; sync/atomic's AddUint64. (Only what they answer; that it is so is another text's.)
  Conditions: what each function asks.
-/
import Derived.Test.YtagmkceblklgaaaGreatEx16
namespace Go.Proofs.YtagmkceblklgaaaGreat.Ex

def bytesLt : List UInt8 → List UInt8 → Bool
  | [], [] => false
  | [], _ :: _ => true
  | _ :: _, [] => false
  | a :: l, b :: m => cond (Nat.ble (a.toNat + 1) b.toNat) true (cond (Nat.beq a.toNat b.toNat) (bytesLt l m) false)
def insK (k : List UInt8) : List (List UInt8) → List (List UInt8)
  | [] => [k]
  | x :: l => cond (bytesLt k x) (k :: x :: l) (x :: insK k l)
def sortK : List (List UInt8) → List (List UInt8)
  | [] => []
  | k :: l => insK k (sortK l)
def keysOf : List (Value × AV) → Option (List (List UInt8))
  | [] => some []
  | (.string s, _) :: l => (keysOf l).bind fun r => some (s.data.toList :: r)
  | _ => none
/-- slices.Sorted(maps.Keys(m)), m's keys strings: ks are the numbers of the functions that maps.Keys hands back -/
def sumSorted (ks : List Nat) (args : List AV) (A : St) : Option (AV × St) :=
  match args with
  | [.fn (.func k) [] [.ptr b o]] =>
    cond (ks.any fun j => Nat.beq j k)
      ((A.mem.get b).bind fun B => B.toCells.bind fun c => c[o]?.bind fun x => x.toMp.bind fun m => (A.mem.get m).bind fun M => M.toMap.bind fun es => (keysOf es).bind fun l =>
        match sortK l with
        | [] => some (.lit (.slice none 0 0), A)
        | s => some (.sl A.next 0 s.length 1 s.length false, A.add (.cells (s.map fun k => .lit (.string ⟨k.toArray⟩))))) none
  | _ => none
/-- sync/atomic.AddUint64 -/
def sumAdd (args : List AV) (A : St) : Option (AV × St) :=
  match args with
  | [.ptr b o, .lit (.int .u64 d)] => (A.mem.get b).bind fun B => B.toCells.bind fun c => c[o]?.bind fun x => x.toInt.bind fun k =>
    cond (decide (k.1 = .u64) && decide (0 ≤ k.2) && decide (0 ≤ d) && decide (k.2 + d < 18446744073709551616))
      (some (.lit (.int .u64 (k.2 + d)), A.put b (some (.cells (c.set o (.lit (.int .u64 (k.2 + d)))))))) none
  | _ => none
/-- sum.Sum -/
def fnvL : List AV → Nat → Option Nat
  | [], x => some x
  | .lit (.int .u8 (.ofNat n)) :: l, x => cond (Nat.ble n 255) (fnvL l (Nat.mod (Nat.mul (Nat.xor x n) 1099511628211) 18446744073709551616)) none
  | _, _ => none
def sumSum (args : List AV) (A : St) : Option (AV × St) :=
  match args with
  | [.sl b off len 1 _ _] => (A.mem.get b).bind fun B => B.toCells.bind fun c => cond (Nat.ble (off + len) c.length && Nat.ble 1 len && Nat.ble len 100000)
    ((fnvL ((c.drop off).take len) 14695981039346656037).bind fun x => some (.lit (.int .u64 (.ofNat x)), A)) none
  | _ => none

end Go.Proofs.YtagmkceblklgaaaGreat.Ex
