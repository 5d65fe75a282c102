/-
  rows of ints.
-/
import Derived.Test.YtagmkceblklgaaaGreatOwn
namespace Go.Proofs.YtagmkceblklgaaaGreat
open Go.RowKit

def i64s (l : List Nat) : List Value := l.map fun n : Nat => Value.int .i64 (n : Int)
theorem i64s_length (l : List Nat) : (i64s l).length = l.length := by simp [i64s]
theorem i64s_one (l : List Nat) : ∀ u ∈ i64s l, u.oneCell' = true := by
  intro u hu; obtain ⟨c, _, rfl⟩ := List.mem_map.1 hu; rfl
theorem i64s_append (l m : List Nat) : i64s (l ++ m) = i64s l ++ i64s m := by simp [i64s]

end Go.Proofs.YtagmkceblklgaaaGreat
