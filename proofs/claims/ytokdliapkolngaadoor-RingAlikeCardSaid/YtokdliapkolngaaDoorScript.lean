/-
  A region that draws its order, walked by hand, operation by operation: where it begins; an operation taken first.
-/
import Derived.Test.YtokdliapkolngaaDoorLast
namespace Go.Proofs.YtokdliapkolngaaDoor
open Go
set_option linter.unusedVariables false

section
variable {P : Program} {Q : Exit → Act → World → Prop}
theorem start_held {id : Nat} {a : Act} {w : World} {l0 : List Oper} (n : Nat) (S : World → Prop) (hn : l0.length = n) (hm : P.follows .mixedOrders = true) (hS : S w.drew)
    (h : S w.drew → wpAnyH P .any l0.toArray Q S n (Array.replicate n false) a w.drew) : (Code.region id l0.toArray true).wp P Q a w := by
  subst hn
  exact wp_region_held hm (by simpa using h hS)
theorem take_held {l0 : List Oper} {S : World → Prop} {md : Region.Mode} (i : Nat) {oi : Oper} {v : Value} {fuel : Nat} {listed : Array Bool} {a : Act} {w : World} (hi : l0[i]? = some oi)
    (hs : Region.noSelect l0.toArray = true) (hf : Region.free md l0.toArray listed i = true) (hr : (Region.ready md l0.toArray listed).contains i = true)
    (hQ : ∀ c a w, Q (.panic c) (a.put oi.dst v) w → Q (.panic c) a w) (hy : YieldsIf P l0.toArray S oi v a) (hS : S w)
    (h : wpAnyH P md l0.toArray Q S fuel (listed.setIfInBounds i true) (a.put oi.dst v) w) : wpAnyH P md l0.toArray Q S (fuel + 1) listed a w :=
  wpAnyH_take (List.getElem?_toArray.trans hi) hs hf hr hQ hy hS h
end
end Go.Proofs.YtokdliapkolngaaDoor
