/-
  Steps that come in, opened; slices of ints.
-/
import Derived.Test.YtigeccflfdekiaaOpenS
import Derived.Test.YtigeccflfdekiaaLeaseK
import Derived.Deep.Strs
namespace Go.Proofs.Ytigeccflfdekiaa
open Go.RowKit Go.ChangeShapes Go.WideShapes Go.ChangeAt Go.Deep
set_option linter.unusedVariables false

section
variable {H : Type} {enc : TypeId × Value → H} {W : World}
theorem i64_of_wf {z : Int} (h : (Lit.int .i64 z).wf = true) : -9223372036854775808 ≤ z ∧ z ≤ 9223372036854775807 := by
  simpa [Lit.wf, IntKind.min, IntKind.max, IntKind.signed, IntKind.bits] using h
/-- ints, from their cell -/
theorem open_ints_cell {fuel : Nat} {v : Value} {x : DataW H × List MemPlace} (hf : DataW.trod enc Try.prog W 0 (fun _ => true) true fuel 22 [v] = some x) :
    ∃ (a : Option Addr) (len cap : Nat) (ks : List Int), v = .slice a len cap ∧ Sl W W.heap.size a len (ks.map (Value.int .i64)) ∧ len ≤ cap ∧ cap ≤ maxLen ∧ (∀ z ∈ ks, -9223372036854775808 ≤ z ∧ z ≤ 9223372036854775807) := by
  rcases open_ints Try.underlying22 Try.underlying3 (by kernel_rfl) hf with ⟨hcs, hx⟩ | ⟨x, l, c, zs, hcs, _, hl, hm, hz, hx, hcell, hwz⟩
  · injection hcs with hcs; subst hcs
    exact ⟨none, 0, 0, [], rfl, Sl.nil_, Nat.le_refl _, Nat.zero_le _, by simp⟩
  · injection hcs with hcs; subst hcs
    have hzl : zs.length = c := by simpa using hz
    refine ⟨_, _, _, zs.take l, rfl, ⟨by simp; omega, fun hn => ?_⟩, hl, hm, fun z hz => ?_⟩
    · obtain ⟨b, off, spot⟩ := x
      have hc0 := hcell 0 (by omega)
      have hspot : spot = none := by simpa [Addr.add] using World.cell?_spot hc0
      subst hspot
      refine ⟨b, off, rfl, by have := World.block_lt_of_cell? W _ hc0; simpa [Addr.add] using this, fun k u hu => ?_⟩
      have hk : k < l := by have := (List.getElem?_eq_some_iff.1 hu).1; simp at this; omega
      have hc := hcell k (by omega)
      rw [add_place] at hc
      have hzk : zs[k]? = some zs[k] := List.getElem?_eq_getElem (by omega)
      have hg : zs.getD k 0 = zs[k] := by rw [List.getD_eq_getElem?_getD, hzk]; rfl
      rw [hc, hg, ← hu]
      simp [hk, hzk]
    · exact i64_of_wf (hwz z (List.mem_of_mem_take hz))
set_option maxRecDepth 100000 in
theorem open_introw {base : Nat} {v : Value} {d : DataW H} {p : List MemPlace} (hv : Value.okWide Try.prog W .any base 22 v) (h : DataW.Trod enc Try.prog W 0 (fun _ => true) true 22 v d p) :
    ∃ (a : Option Addr) (len cap : Nat) (ks : List Int), v = .slice a len cap ∧ Sl W W.heap.size a len (ks.map (Value.int .i64)) ∧ len ≤ cap ∧ cap ≤ maxLen ∧ (∀ z ∈ ks, -9223372036854775808 ≤ z ∧ z ≤ 9223372036854775807) := by
  obtain ⟨a, len, cap, rfl⟩ := okWide_slice Try.underlying22 hv
  obtain ⟨fuel, hf⟩ := h
  exact open_ints_cell hf
/-- the cells of a step -/
theorem step_of_cells {b o : Nat} {v0 v1 v2 v3 v4 : Value} {n0 n1 n2 n3 n4 : Nat} {y0 y1 y2 y3 y4 : DataW H × List MemPlace}
    (c0 : W.cell? ⟨b, o, none⟩ = some v0) (c1 : W.cell? ⟨b, o + 1, none⟩ = some v1) (c2 : W.cell? ⟨b, o + 2, none⟩ = some v2) (c3 : W.cell? ⟨b, o + 3, none⟩ = some v3) (c4 : W.cell? ⟨b, o + 4, none⟩ = some v4)
    (g0 : DataW.trod enc Try.prog W 0 (fun _ => true) true n0 3 [v0] = some y0) (g1 : DataW.trod enc Try.prog W 0 (fun _ => true) true n1 9 [v1] = some y1)
    (g2 : DataW.trod enc Try.prog W 0 (fun _ => true) true n2 3 [v2] = some y2) (g3 : DataW.trod enc Try.prog W 0 (fun _ => true) true n3 3 [v3] = some y3) (g4 : DataW.trod enc Try.prog W 0 (fun _ => true) true n4 22 [v4] = some y4) : ∃ p : Stp, StepAt W W.heap.size b o p := by
  obtain ⟨z0, e0, _, w0⟩ := DataW.trod_int Try.underlying3 g0
  obtain ⟨s, e1, _, w1⟩ := DataW.trod_string Try.underlying9 g1
  obtain ⟨z2, e2, _, w2⟩ := DataW.trod_int Try.underlying3 g2
  obtain ⟨z3, e3, _, w3⟩ := DataW.trod_int Try.underlying3 g3
  obtain ⟨A, n, c, l, rfl, hsl, hc1, hc2, hss⟩ := open_ints_cell g4
  obtain rfl : l.length = n := by simpa using hsl.1
  injection e0 with e0; injection e1 with e1; injection e2 with e2; injection e3 with e3
  subst e0; subst e1; subst e2; subst e3
  exact ⟨⟨z0, s, z2, z3, l⟩, ⟨i64_of_wf w0, w1, i64_of_wf w2, i64_of_wf w3, hss⟩, c0, c1, c2, c3, A, c, c4, hc1, hsl⟩
end
end Go.Proofs.Ytigeccflfdekiaa
