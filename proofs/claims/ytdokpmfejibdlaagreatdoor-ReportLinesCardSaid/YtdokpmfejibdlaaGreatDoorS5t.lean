
/- The first specimen with a number: the program's and the reference's Find; lists of numbers and of specimens compared. -/
import Derived.Test.YtdokpmfejibdlaaGreatDoorS5q
import Derived.Test.YtdokpmfejibdlaaGreatDoorS5n
set_option linter.unusedSimpArgs false
set_option linter.unusedVariables false
namespace Go.Proofs.YtdokpmfejibdlaaGreatDoor
open Go.RowKit

def findX (l : List Spm) (i : Int) : Spm := (findS l i).getD spZero
def findV (l : List Spm) (i : Int) : Value := .tuple #[.agg #[.int .i64 ((findX l i)).id, .int .i64 ((findX l i)).obv, .int .i64 ((findX l i)).rev, .int .i64 ((findX l i)).os, .int .i64 ((findX l i)).rs, .int .i64 ((findX l i)).ax, .int .i64 ((findX l i)).wt], .bool (findS l i).isSome]
theorem findV_some {l : List Spm} {i : Int} {x : Spm} (h : findS l i = some x) : findV l i = .tuple #[.agg #[.int .i64 x.id, .int .i64 x.obv, .int .i64 x.rev, .int .i64 x.os, .int .i64 x.rs, .int .i64 x.ax, .int .i64 x.wt], .bool true] := by unfold findV findX; rw [h]; rfl
theorem findV_none {l : List Spm} {i : Int} (h : findS l i = none) : findV l i = .tuple #[.agg #[.int .i64 0, .int .i64 0, .int .i64 0, .int .i64 0, .int .i64 0, .int .i64 0, .int .i64 0], .bool false] := by unfold findV findX; rw [h]; rfl
theorem find_hit {xs : List Spm} {k : Nat} {x : Spm} {i : Int} (hx : xs[k]? = some x) (hn : ∀ y ∈ xs.take k, y.id ≠ i) (he : x.id = i) : findS xs i = some x := by
  obtain ⟨h1, h2⟩ := List.getElem?_eq_some_iff.1 hx
  unfold findS
  have : xs = xs.take k ++ x :: xs.drop (k + 1) := by
    conv => lhs; rw [← List.take_append_drop k xs]
    rw [List.drop_eq_getElem_cons h1, h2]
  rw [this, List.find?_append]
  have h3 : (xs.take k).find? (fun y => y.id == i) = none := by
    rw [List.find?_eq_none]
    intro y hy; simpa using hn y hy
  rw [h3]
  simp [he]
end Go.Proofs.YtdokpmfejibdlaaGreatDoor
