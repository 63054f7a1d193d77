/-
  A harm by value, opened, with its bound at every size.
-/
import Derived.Test.YtnlfnjadadfhkaaOpenX
namespace Go.Proofs.Ytnlfnjadadfhkaa
open Go.RowKit Go.ChangeShapes Go.WideShapes Go.ChangeAt Go.Deep
set_option linter.unusedVariables false

section
variable {H : Type} {enc : TypeId × Value → H} {W : World}
/-- bytes, from their cell, with their datum's form -/
theorem open_bytes_form {fuel : Nat} {v : Value} {x : DataW H × List MemPlace} (hf : DataW.trod enc Try.prog W 0 (fun _ => true) true fuel 24 [v] = some x) :
    ∃ (a : Option Addr) (len cap : Nat) (bs : List UInt8), v = .slice a len cap ∧ SlB W W.heap.size a len bs ∧ len ≤ cap ∧ ((x.1 = .nil ∧ cap = 0) ∨ ∃ zs : List Int, x.1 = .slice (lits .u8 (zs.take len)) (lits .u8 (zs.drop len)) ∧ zs.length = cap) := by
  obtain ⟨a, len, cap, bs, h1, h2, h3, _⟩ := open_bytes_cell hf
  refine ⟨a, len, cap, bs, h1, h2, h3, ?_⟩
  subst h1
  rcases open_ints Try.underlying24 Try.underlying5 (by kernel_rfl) hf with ⟨hcs, hx⟩ | ⟨y, l, c, zs, hcs, _, hl, hm, hz, hx, hcell, hwz⟩
  · injection hcs with hcs; injection hcs with a1 a2 a3
    exact .inl ⟨by rw [hx], a3⟩
  · injection hcs with hcs; injection hcs with a1 a2 a3
    subst a2; subst a3
    exact .inr ⟨zs, by rw [hx], by simpa using hz⟩
theorem open_harm_r {base : Nat} {v : Value} {d : DataW H} {q : List MemPlace} (hv : Value.okWide Try.prog W .any base 34 v) (h : DataW.Trod enc Try.prog W 0 (fun _ => true) true 34 v d q) :
    ∃ (at_ by_ less : Int) (A : Option Addr) (n c : Nat) (bs : List UInt8), v = .agg #[.int .i64 at_, .int .u8 by_, .int .i64 less, .slice A n c] ∧ (-9223372036854775808 ≤ at_ ∧ at_ ≤ 9223372036854775807) ∧ (0 ≤ by_ ∧ by_ ≤ 255) ∧ (-9223372036854775808 ≤ less ∧ less ≤ 9223372036854775807) ∧ SlB W W.heap.size A n bs ∧ n ≤ c ∧
      (∀ (ts : List TypeId) (ds : List (DataW H)) (j : Nat), (DataW.weightsEach Try.prog ts ds).all (· ≤ reachBytes) = true → ts[j]? = some 34 → ds[j]? = some d → c ≤ 140737488351232) := by
  obtain ⟨v0, v1, v2, v3, y0, y1, y2, y3, n, rfl, rfl, _, g0, g1, g2, g3⟩ := Joins.open_agg4 Try.underlying34 (by kernel_rfl) (by kernel_rfl) hv h
  obtain ⟨z0, e0, _, w0⟩ := DataW.trod_int Try.underlying3 g0
  obtain ⟨z1, e1, _, w1⟩ := DataW.trod_int Try.underlying5 g1
  obtain ⟨z2, e2, _, w2⟩ := DataW.trod_int Try.underlying3 g2
  obtain ⟨A, m, c, bs, rfl, hsl, hc1, hc2⟩ := open_bytes_form g3
  injection e0 with e0; injection e1 with e1; injection e2 with e2
  subst e0; subst e1; subst e2
  refine ⟨z0, z1, z2, A, m, c, bs, rfl, i64_of_wf w0, by simpa [Lit.wf, IntKind.min, IntKind.max, IntKind.signed, IntKind.bits] using w1, i64_of_wf w2, hsl, hc1, ?_⟩
  intro ts ds j hall ht hd
  rcases hc2 with ⟨_, h0⟩ | ⟨zs, hz, hl⟩
  · omega
  · have hmem : c * 1 ∈ DataW.weights Try.prog 34 (.agg [y0.1, y1.1, y2.1, y3.1]) := by
      simp only [DataW.weights, Try.underlying34, List.map_cons, List.map_nil, DataW.weightsEach, hz, Try.underlying24, bytesOf_u8, List.mem_append, List.mem_cons]
      right; right; right; left; left
      simp only [lits, List.length_map, List.length_take, List.length_drop]
      omega
    have := List.all_eq_true.1 hall _ (DataW.weights_mem_each ht hd _ hmem)
    have h2 : c * 1 ≤ reachBytes := by simpa using this
    simp only [reachBytes] at h2
    omega
end
end Go.Proofs.Ytnlfnjadadfhkaa
