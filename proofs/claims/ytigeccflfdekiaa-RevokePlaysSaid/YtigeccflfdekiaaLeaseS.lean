/-
  Lease: the document's Forget.
-/
import Derived.Test.YtigeccflfdekiaaLeaseR
namespace Go.Proofs.Ytigeccflfdekiaa
open Go.RowKit
set_option linter.unusedVariables false

theorem filter_snoc {L : List RN} {i : Nat} {x : RN} (p : RN → Bool) (hx : L[i]? = some x) : (L.take (i + 1)).filter p = (L.take i).filter p ++ (if p x = true then [x] else []) := by
  rw [List.take_add_one, hx, List.filter_append]
  congr 1
  by_cases h : p x = true <;> simp [h]
end Go.Proofs.Ytigeccflfdekiaa
