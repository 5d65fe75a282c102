/-
  SUMMARIES for the runner: slices.Sorted over the keys of a map whose keys are numbers, slices.Collect over slices.Values of changes, strings.Compare. (Only what they answer.)
  Conditions: what each function asks.
-/
import Derived.Test.YtagmkceblklgaaaGreatSm
import Derived.Lib.Bytealg
namespace Go.Proofs.YtagmkceblklgaaaGreat.Ex

def insN (k : Nat) : List Nat → List Nat
  | [] => [k]
  | x :: l => cond (Nat.ble k x) (k :: x :: l) (x :: insN k l)
def sortN : List Nat → List Nat
  | [] => []
  | k :: l => insN k (sortN l)
def natsOf : List (Value × AV) → Option (List Nat)
  | [] => some []
  | (.int .i64 (.ofNat n), _) :: l => cond (Nat.ble n 9000000000000000000) ((natsOf l).bind fun r => some (n :: r)) none
  | _ => none
def upN : List Nat → Bool
  | a :: b :: l => cond (Nat.blt a b) (upN (b :: l)) false
  | _ => true
/-- slices.Sorted(maps.Keys(m)), m's keys numbers: ks are the numbers of the functions that maps.Keys hands back -/
def sumSortedI (ks : List Nat) (args : List AV) (A : St) : Option (AV × St) :=
  match args with
  | [.fn (.func k) [] [.ptr b 0]] =>
    cond (ks.any fun j => Nat.beq j k)
      ((A.mem.get b).bind fun B => B.toCells.bind fun c => c[0]?.bind fun x => x.toMp.bind fun m => (A.mem.get m).bind fun M => M.toMap.bind fun es => cond (Nat.ble es.length 1000000) ((natsOf es).bind fun l =>
        match sortN l with
        | [] => some (.lit (.slice none 0 0), A)
        | s => cond (upN s) (some (.sl A.next 0 s.length 1 s.length false, A.add (.cells (s.map fun k => .lit (.int .i64 (.ofNat k)))))) none) none) none
  | _ => none
def isStrV : AV → Bool
  | .lit (.string _) => true
  | _ => false
def isSlV : AV → Bool
  | .lit (.slice _ _ _) | .sl _ _ _ _ _ _ => true
  | _ => false
def isBoolV : AV → Bool
  | .lit (.bool _) => true
  | _ => false
def okChg : List AV → Bool
  | [] => true
  | a :: b :: c :: l => isStrV a && isSlV b && isBoolV c && okChg l
  | _ => false
/-- slices.Collect(slices.Values(changes)) -/
def sumCollect (kv : Nat) (args : List AV) (A : St) : Option (AV × St) :=
  match args with
  | [.fn (.func k) [] [.ptr b 0]] =>
    cond (Nat.beq kv k)
      ((A.mem.get b).bind fun B => B.toCells.bind fun c => c[0]?.bind fun x =>
        match x with
        | .lit (.slice none 0 0) => some (.lit (.slice none 0 0), A)
        | .sl b' off len 3 _ _ => (A.mem.get b').bind fun B' => B'.toCells.bind fun c' => cond (Nat.ble (off + len * 3) c'.length && Nat.ble 1 len && Nat.ble len 1000000 && okChg ((c'.drop off).take (len * 3)))
          (some (.sl A.next 0 len 3 len false, A.add (.cells ((c'.drop off).take (len * 3))))) none
        | _ => none) none
  | _ => none
/-- strings.Compare -/
def sumCmp (args : List AV) (A : St) : Option (AV × St) :=
  match args with
  | [.lit (.string a), .lit (.string b)] => some (.lit (.int .i64 (Lib.compareBytes a.data.toList b.data.toList)), A)
  | _ => none

end Go.Proofs.YtagmkceblklgaaaGreat.Ex
