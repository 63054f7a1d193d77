/-
  The walks of the document's bounds, by halves (signetref09.Least, most, Most, Short), of its Turn, and of the chapter's example.
-/
import Derived.Test.YtigeccflfdekiaaDriftC
namespace Go.Proofs.Ytigeccflfdekiaa
open Go.RowKit

theorem int_eq {k : IntKind} {a b : Int} (h : a = b) : Value.int k a = Value.int k b := by rw [h]
theorem prod_bounds {m B : Int} (h0 : 0 ≤ m) (h1 : m ≤ 2199023255552) (hB0 : 0 ≤ B) (hB : B ≤ 1500) : 0 ≤ m * B ∧ m * B ≤ 3298534883328000 := by
  refine ⟨Int.mul_nonneg h0 hB0, ?_⟩
  have : m * B ≤ 2199023255552 * 1500 := Int.mul_le_mul h1 hB hB0 (by omega)
  omega


theorem least_unique {n d L : Int} (h1 : 0 ≤ n) (hd : 0 ≤ d) (hlo : L = 0 ∨ (L - 1) * (1000 + d) < 1000 * n) (hhi : 1000 * n ≤ L * (1000 + d)) : leastV n d = L := by
  have q1 := div_lo (a := n * 1000) (b := 1000 + d) (by omega)
  have q2 := div_hi (a := n * 1000) (b := 1000 + d) (by omega)
  have q3 : 0 ≤ n * 1000 / (1000 + d) := Int.ediv_nonneg (by omega) (by omega)
  unfold leastV
  generalize n * 1000 / (1000 + d) = q at q1 q2 q3
  split
  · rename_i hlt
    have e1 : q < L := lt_of_mul (b := 1000 + d) (by omega) (by omega)
    have e2 : L - 1 < q + 1 := by
      rcases hlo with h | h
      · omega
      · exact lt_of_mul (b := 1000 + d) (by omega) (by omega)
    omega
  · rename_i hge
    have e1 : L < q + 1 := by
      rcases hlo with h | h
      · omega
      · have : L - 1 < q := lt_of_mul (b := 1000 + d) (by omega) (by omega)
        omega
    have e2 : q < L + 1 := by
      have e3 : (L + 1) * (1000 + d) = L * (1000 + d) + (1000 + d) := by rw [Int.add_mul, Int.one_mul]
      exact lt_of_mul (b := 1000 + d) (by omega) (by omega)
    omega



end Go.Proofs.Ytigeccflfdekiaa
