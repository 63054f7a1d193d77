/-
  The walks of layer 1's laws: Lengths, Back, Same, Joins.
-/
import Derived.Test.YtnjpgcfkplchkaaOctE
namespace Go.Proofs.Ytnjpgcfkplchkaa
open Go.RowKit

theorem SlB.on {w w1 : World} {n : Nat} {A : Option Addr} {bs : List UInt8} (h : SlB w w.heap.size A n bs) (b : Below w.heap.size w w1) : SlB w1 w1.heap.size A n bs := (h.below b (Nat.le_refl _)).more b.size

end Go.Proofs.Ytnjpgcfkplchkaa
