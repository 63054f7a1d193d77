/-
  Turns that come in, opened.
-/
import Derived.Test.YtjmgnojbegafiaaOpenL
import Derived.Test.YtjmgnojbegafiaaLeaseO
namespace Go.Proofs.Ytjmgnojbegafiaa
open Go.RowKit Go.ChangeShapes Go.WideShapes Go.ChangeAt Go.Deep
set_option linter.unusedVariables false

section
variable {H : Type} {enc : TypeId × Value → H} {W : World}
theorem open_turns {base : Nat} {v : Value} {d : DataW H} {p : List MemPlace} (hv : Value.okWide Try.prog W .any base 37 v) (h : DataW.Trod enc Try.prog W 0 (fun _ => true) true 37 v d p) :
    ∃ a len cap ts, v = .slice a len cap ∧ SlTrn W W.heap.size a len ts ∧ len ≤ cap ∧ cap ≤ maxLen ∧ (d = .nil ∧ cap = 0 ∨ ∃ es sp : List (DataW H), d = .slice es sp ∧ es.length + sp.length = cap) := by
  obtain ⟨a, len, cap, rfl⟩ := okWide_slice Try.underlying37 hv
  obtain ⟨fuel, hf⟩ := h
  rcases open_structs Try.underlying37 Try.underlying42 (by kernel_rfl) (by kernel_rfl) hf with ⟨hcs, hx⟩ | ⟨x, l, c, D, hcs, hl, hm, hx, hcell⟩
  · simp [Value.cells] at hcs
    obtain ⟨rfl, rfl, rfl⟩ := hcs
    exact ⟨_, _, _, [], rfl, ⟨rfl, fun h => absurd h (by omega)⟩, Nat.le_refl _, Nat.zero_le _, .inl ⟨hx, rfl⟩⟩
  · simp [Value.cells] at hcs
    obtain ⟨rfl, rfl, rfl⟩ := hcs
    have each : ∀ i, i < cap → ∃ t : Trn, W.cell? (x.add (i * 3 + 0)) = some (.int .i64 t.units) ∧ W.cell? (x.add (i * 3 + 1)) = some (.int .i64 t.one) ∧ W.cell? (x.add (i * 3 + 2)) = some (.int .i64 t.other) := by
      intro i hi
      obtain ⟨v0, y0, n0, c0, g0⟩ := hcell i hi 0 _ rfl
      obtain ⟨v1, y1, n1, c1, g1⟩ := hcell i hi 1 _ rfl
      obtain ⟨v2, y2, n2, c2, g2⟩ := hcell i hi 2 _ rfl
      obtain ⟨z0, e0, _, _⟩ := DataW.trod_int Try.underlying3 g0
      obtain ⟨z1, e1, _, _⟩ := DataW.trod_int Try.underlying3 g1
      obtain ⟨z2, e2, _, _⟩ := DataW.trod_int Try.underlying3 g2
      simp only [List.cons.injEq, and_true] at e0 e1 e2
      subst e0; subst e1; subst e2
      exact ⟨⟨z0, z1, z2⟩, c0, c1, c2⟩
    obtain ⟨ts, hlen, hts⟩ := list_of each
    refine ⟨_, _, _, ts.take len, rfl, ⟨by simp; omega, fun hn => ?_⟩, hl, hm, .inr ⟨_, _, hx, by simp; omega⟩⟩
    obtain ⟨b, off, spot⟩ := x
    obtain ⟨t0, c0, _⟩ := each 0 (by omega)
    have hspot : spot = none := by simpa [Addr.add] using World.cell?_spot c0
    subst hspot
    refine ⟨b, off, rfl, by have := World.block_lt_of_cell? W _ c0; simpa [Addr.add] using this, fun k t ht => ?_⟩
    have hk : k < len := by have := (List.getElem?_eq_some_iff.1 ht).1; simp at this; omega
    rw [List.getElem?_take, if_pos hk] at ht
    obtain ⟨c0, c1, c2⟩ := hts k t ht
    rw [add_place] at c0 c1 c2
    exact ⟨c0, c1, c2⟩
theorem turns_reach {ts : List TypeId} {ds : List (DataW H)} (h : (DataW.weightsEach Try.prog ts ds).all (· ≤ reachBytes) = true) {j cap : Nat} {d : DataW H} (ht : ts[j]? = some 37) (hd : ds[j]? = some d)
    (hs : (d = .nil ∧ cap = 0) ∨ ∃ es sp : List (DataW H), d = .slice es sp ∧ es.length + sp.length = cap) : cap ≤ 140737488351232 := by
  rcases hs with ⟨_, rfl⟩ | ⟨es, sp, rfl, hz⟩
  · omega
  · have := sized_slice h ht hd Try.underlying37
    rw [show Try.prog.bytesOf 42 = 24 by kernel_rfl, hz] at this
    simp only [reachBytes] at this
    omega
end
end Go.Proofs.Ytjmgnojbegafiaa
