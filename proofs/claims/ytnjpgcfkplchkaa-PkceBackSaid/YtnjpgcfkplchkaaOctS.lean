/-
  The walk of signetref01.Unhex, and of OctetUnhexes.
-/
import Derived.Test.YtnjpgcfkplchkaaOctR
namespace Go.Proofs.Ytnjpgcfkplchkaa
open Go.RowKit

theorem strB_none_tail {ts : List UInt8} {i : Nat} {bs : List UInt8} (h : Oct.unhexL (ts.take (2 * i)) = some bs) (hl : ts.length = 2 * i) : Oct.unhexL ts = some bs := by
  rwa [List.take_of_length_le (by omega)] at h

/-- two readings of one text, held against one another -/
theorem sames {r : Option (List UInt8)} {w : World} {A : Option Addr} {m c : Nat} (h : Own w w.heap.size 5 A m c ((r.getD []).map bv)) : SlB w w.heap.size A m (r.getD []) := h.slb

end Go.Proofs.Ytnjpgcfkplchkaa
