/-
  Lease: Forget, over what is let go; Forget.
-/
import Derived.Test.YtigeccflfdekiaaLeaseE
namespace Go.Proofs.Ytigeccflfdekiaa
open Go.RowKit Go.Maps Go.Shelf
set_option linter.unusedVariables false

/-- a bool that simp leaves whole -/
structure Bo where
  b : Bool
theorem But.of_alloc {S : Nat → Prop} (w : World) (o : Obj) : But S w (w.alloc o) := But.of_below ((Below.refl _ _).alloc (Nat.le_refl _) o)
end Go.Proofs.Ytigeccflfdekiaa
