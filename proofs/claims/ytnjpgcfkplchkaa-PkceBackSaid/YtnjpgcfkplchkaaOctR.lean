/-
  The walks of signetref01: digit, worth, sign, Hex.
-/
import Derived.Test.YtnjpgcfkplchkaaOctG
import Derived.Deep.RegionHeld3
import Derived.Deep.RegionWith
import Derived.BigRegion
import Derived.Deep.DrawnRows
import Derived.StillTailTactics
namespace Go.Proofs.Ytnjpgcfkplchkaa
open Go.RowKit

theorem ret_u8 {a b : Int} (h : a = b) : Ending.returned (.int .u8 a) = .returned (.int .u8 b) := by rw [h]
theorem digit_low : ∀ n, n < 10 → (Oct.hexS.getD n 0).toNat = 48 + n := by decide +kernel
theorem digit_high : ∀ n, n < 16 → ¬ n < 10 → (Oct.hexS.getD n 0).toNat = 87 + n := by decide +kernel
end Go.Proofs.Ytnjpgcfkplchkaa
