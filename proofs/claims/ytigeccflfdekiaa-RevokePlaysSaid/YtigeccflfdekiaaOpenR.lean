/-
  Revoke's steps and families that come in, opened.
-/
import Derived.Test.YtigeccflfdekiaaOpenL
import Derived.Test.YtigeccflfdekiaaRevK
namespace Go.Proofs.Ytigeccflfdekiaa
open Go.RowKit Go.ChangeShapes Go.WideShapes Go.ChangeAt Go.Deep
set_option linter.unusedVariables false

section
variable {H : Type} {enc : TypeId × Value → H} {W : World}
/-- a slice's shape -/
theorem slice_cell {t e : TypeId} {fuel : Nat} {v : Value} {x : DataW H × List MemPlace} (ht : Try.prog.underlying t = some (.slice e)) (hf : DataW.trod enc Try.prog W 0 (fun _ => true) true fuel t [v] = some x) : ∃ A n c, v = .slice A n c := by
  rcases open_slice ht hf with ⟨h1, _⟩ | ⟨a, len, cap, m, n, D, Pl, h1, _⟩
  · injection h1 with h1; exact ⟨_, _, _, h1⟩
  · injection h1 with h1; exact ⟨_, _, _, h1⟩
/-- the cells of a family -/
theorem fam_of_cells {b o : Nat} {v0 v1 v2 v3 v4 v5 v6 v7 v8 v9 v10 : Value} {n0 n1 n2 n3 n4 n5 n6 n7 n8 n9 n10 : Nat} {y0 y1 y2 y3 y4 y5 y6 y7 y8 y9 y10 : DataW H × List MemPlace}
    (c0 : W.cell? ⟨b, o, none⟩ = some v0) (c1 : W.cell? ⟨b, o + 1, none⟩ = some v1) (c2 : W.cell? ⟨b, o + 2, none⟩ = some v2) (c3 : W.cell? ⟨b, o + 3, none⟩ = some v3) (c4 : W.cell? ⟨b, o + 4, none⟩ = some v4) (c5 : W.cell? ⟨b, o + 5, none⟩ = some v5)
    (c6 : W.cell? ⟨b, o + 6, none⟩ = some v6) (c7 : W.cell? ⟨b, o + 7, none⟩ = some v7) (c8 : W.cell? ⟨b, o + 8, none⟩ = some v8) (c9 : W.cell? ⟨b, o + 9, none⟩ = some v9) (c10 : W.cell? ⟨b, o + 10, none⟩ = some v10)
    (g0 : DataW.trod enc Try.prog W 0 (fun _ => true) true n0 9 [v0] = some y0) (g1 : DataW.trod enc Try.prog W 0 (fun _ => true) true n1 9 [v1] = some y1) (g2 : DataW.trod enc Try.prog W 0 (fun _ => true) true n2 9 [v2] = some y2)
    (g3 : DataW.trod enc Try.prog W 0 (fun _ => true) true n3 31 [v3] = some y3) (g4 : DataW.trod enc Try.prog W 0 (fun _ => true) true n4 9 [v4] = some y4) (g5 : DataW.trod enc Try.prog W 0 (fun _ => true) true n5 9 [v5] = some y5) (g6 : DataW.trod enc Try.prog W 0 (fun _ => true) true n6 9 [v6] = some y6)
    (g7 : DataW.trod enc Try.prog W 0 (fun _ => true) true n7 3 [v7] = some y7) (g8 : DataW.trod enc Try.prog W 0 (fun _ => true) true n8 32 [v8] = some y8) (g9 : DataW.trod enc Try.prog W 0 (fun _ => true) true n9 4 [v9] = some y9) (g10 : DataW.trod enc Try.prog W 0 (fun _ => true) true n10 22 [v10] = some y10) :
    ∃ f : Fam, FamAt W (fun k => k < W.heap.size) b o f := by
  obtain ⟨s0, e0, _, w0⟩ := DataW.trod_string Try.underlying9 g0
  obtain ⟨s1, e1, _, w1⟩ := DataW.trod_string Try.underlying9 g1
  obtain ⟨s2, e2, _, w2⟩ := DataW.trod_string Try.underlying9 g2
  obtain ⟨A3, m3, k3, rfl⟩ := slice_cell Try.underlying31 g3
  obtain ⟨s4, e4, _, w4⟩ := DataW.trod_string Try.underlying9 g4
  obtain ⟨s5, e5, _, w5⟩ := DataW.trod_string Try.underlying9 g5
  obtain ⟨s6, e6, _, w6⟩ := DataW.trod_string Try.underlying9 g6
  obtain ⟨z7, e7, _, w7⟩ := DataW.trod_int Try.underlying3 g7
  obtain ⟨A8, m8, k8, rfl⟩ := slice_cell Try.underlying32 g8
  obtain ⟨b9, e9, _⟩ := DataW.trod_bool Try.underlying4 g9
  obtain ⟨A, n, c, l, rfl, hsl, hc1, hc2, hss⟩ := open_ints_cell g10
  obtain rfl : l.length = n := by simpa using hsl.1
  injection e0 with e0; injection e1 with e1; injection e2 with e2; injection e4 with e4; injection e5 with e5; injection e6 with e6; injection e7 with e7; injection e9 with e9
  subst e0; subst e1; subst e2; subst e4; subst e5; subst e6; subst e7; subst e9
  refine ⟨⟨s0, s1, s2, A3, m3, k3, s4, s5, s6, z7, A8, m8, k8, b9, l⟩, w0, hss, A, c, fun j v hv => ?_, hc1, hsl.p⟩
  match j, hv with
  | 0, hv => injection hv with hv; subst hv; exact c0
  | 1, hv => injection hv with hv; subst hv; exact c1
  | 2, hv => injection hv with hv; subst hv; exact c2
  | 3, hv => injection hv with hv; subst hv; exact c3
  | 4, hv => injection hv with hv; subst hv; exact c4
  | 5, hv => injection hv with hv; subst hv; exact c5
  | 6, hv => injection hv with hv; subst hv; exact c6
  | 7, hv => injection hv with hv; subst hv; exact c7
  | 8, hv => injection hv with hv; subst hv; exact c8
  | 9, hv => injection hv with hv; subst hv; exact c9
  | 10, hv => injection hv with hv; subst hv; exact c10
  | j + 11, hv => simp [Fam.cells] at hv
theorem open_fams_cell {fuel : Nat} {v : Value} {x : DataW H × List MemPlace} (hf : DataW.trod enc Try.prog W 0 (fun _ => true) true fuel 35 [v] = some x) :
    ∃ a len cap fs, v = .slice a len cap ∧ SlFam W (fun k => k < W.heap.size) a len fs ∧ len ≤ cap ∧ cap ≤ maxLen := by
  rcases open_structs Try.underlying35 Try.underlying34 (by kernel_rfl) (by kernel_rfl) hf with ⟨hcs, hx⟩ | ⟨x, l, c, D, hcs, hl, hm, hx, hcell⟩
  · injection hcs with hcs; subst hcs
    exact ⟨_, _, _, [], rfl, ⟨rfl, fun h => absurd h (by omega)⟩, Nat.le_refl _, Nat.zero_le _⟩
  · injection hcs with hcs; subst hcs
    by_cases h0 : 0 < c
    · obtain ⟨b, off, spot⟩ := x
      obtain ⟨v0, _, _, c0, _⟩ := hcell 0 h0 0 _ rfl
      have hspot : spot = none := by simpa [Addr.add] using World.cell?_spot c0
      subst hspot
      have hb : b < W.heap.size := by have := World.block_lt_of_cell? W _ c0; simpa [Addr.add] using this
      have each : ∀ i, i < c → ∃ q : Fam, FamAt W (fun k => k < W.heap.size) b (off + i * 11) q := by
        intro i hi
        obtain ⟨v0, y0, n0, c0, g0⟩ := hcell i hi 0 _ rfl
        obtain ⟨v1, y1, n1, c1, g1⟩ := hcell i hi 1 _ rfl
        obtain ⟨v2, y2, n2, c2, g2⟩ := hcell i hi 2 _ rfl
        obtain ⟨v3, y3, n3, c3, g3⟩ := hcell i hi 3 _ rfl
        obtain ⟨v4, y4, n4, c4, g4⟩ := hcell i hi 4 _ rfl
        obtain ⟨v5, y5, n5, c5, g5⟩ := hcell i hi 5 _ rfl
        obtain ⟨v6, y6, n6, c6, g6⟩ := hcell i hi 6 _ rfl
        obtain ⟨v7, y7, n7, c7, g7⟩ := hcell i hi 7 _ rfl
        obtain ⟨v8, y8, n8, c8, g8⟩ := hcell i hi 8 _ rfl
        obtain ⟨v9, y9, n9, c9, g9⟩ := hcell i hi 9 _ rfl
        obtain ⟨v10, y10, n10, c10, g10⟩ := hcell i hi 10 _ rfl
        rw [add_place] at c0 c1 c2 c3 c4 c5 c6 c7 c8 c9 c10
        exact fam_of_cells c0 c1 c2 c3 c4 c5 c6 c7 c8 c9 c10 g0 g1 g2 g3 g4 g5 g6 g7 g8 g9 g10
      obtain ⟨ps, hlen, hps⟩ := list_of each
      exact ⟨_, _, _, ps.take l, rfl, ⟨by simp; omega, fun hn => ⟨b, off, rfl, hb, fun k q hq => hps k q (by
        rw [List.getElem?_take] at hq
        split at hq
        · exact hq
        · cases hq)⟩⟩, hl, hm⟩
    · obtain rfl : l = 0 := by omega
      exact ⟨_, _, _, [], rfl, ⟨rfl, fun h => absurd h (by omega)⟩, hl, hm⟩
/-- the cells of a step -/
theorem rst_of_cells {b o : Nat} {v0 v1 v2 v3 v4 v5 : Value} {n0 n1 n2 n3 n4 n5 : Nat} {y0 y1 y2 y3 y4 y5 : DataW H × List MemPlace}
    (c0 : W.cell? ⟨b, o, none⟩ = some v0) (c1 : W.cell? ⟨b, o + 1, none⟩ = some v1) (c2 : W.cell? ⟨b, o + 2, none⟩ = some v2) (c3 : W.cell? ⟨b, o + 3, none⟩ = some v3) (c4 : W.cell? ⟨b, o + 4, none⟩ = some v4) (c5 : W.cell? ⟨b, o + 5, none⟩ = some v5)
    (g0 : DataW.trod enc Try.prog W 0 (fun _ => true) true n0 3 [v0] = some y0) (g1 : DataW.trod enc Try.prog W 0 (fun _ => true) true n1 9 [v1] = some y1) (g2 : DataW.trod enc Try.prog W 0 (fun _ => true) true n2 3 [v2] = some y2)
    (g3 : DataW.trod enc Try.prog W 0 (fun _ => true) true n3 3 [v3] = some y3) (g4 : DataW.trod enc Try.prog W 0 (fun _ => true) true n4 3 [v4] = some y4) (g5 : DataW.trod enc Try.prog W 0 (fun _ => true) true n5 35 [v5] = some y5) :
    ∃ p : Rst, RstAt W W.heap.size b o p := by
  obtain ⟨z0, e0, _, w0⟩ := DataW.trod_int Try.underlying3 g0
  obtain ⟨s, e1, _, w1⟩ := DataW.trod_string Try.underlying9 g1
  obtain ⟨z2, e2, _, w2⟩ := DataW.trod_int Try.underlying3 g2
  obtain ⟨z3, e3, _, w3⟩ := DataW.trod_int Try.underlying3 g3
  obtain ⟨z4, e4, _, w4⟩ := DataW.trod_int Try.underlying3 g4
  obtain ⟨A, n, c, l, rfl, hsl, hc1, hc2⟩ := open_fams_cell g5
  obtain rfl : l.length = n := hsl.1
  injection e0 with e0; injection e1 with e1; injection e2 with e2; injection e3 with e3; injection e4 with e4
  subst e0; subst e1; subst e2; subst e3; subst e4
  refine ⟨⟨z0, s, z2, z3, z4, l⟩, ⟨i64_of_wf w0, w1, i64_of_wf w2, i64_of_wf w3, i64_of_wf w4⟩, A, c, fun j v hv => ?_, hc1, hc2, hsl⟩
  match j, hv with
  | 0, hv => injection hv with hv; subst hv; exact c0
  | 1, hv => injection hv with hv; subst hv; exact c1
  | 2, hv => injection hv with hv; subst hv; exact c2
  | 3, hv => injection hv with hv; subst hv; exact c3
  | 4, hv => injection hv with hv; subst hv; exact c4
  | 5, hv => injection hv with hv; subst hv; exact c5
  | j + 6, hv => simp [Rst.cells] at hv
set_option maxRecDepth 100000 in
theorem open_rsts {base : Nat} {v : Value} {d : DataW H} {p : List MemPlace} (hv : Value.okWide Try.prog W .any base 43 v) (h : DataW.Trod enc Try.prog W 0 (fun _ => true) true 43 v d p) :
    ∃ a len cap ps, v = .slice a len cap ∧ SlRst W W.heap.size a len ps ∧ len ≤ cap ∧ cap ≤ maxLen := by
  obtain ⟨a, len, cap, rfl⟩ := okWide_slice Try.underlying43 hv
  obtain ⟨fuel, hf⟩ := h
  rcases open_structs Try.underlying43 Try.underlying46 (by kernel_rfl) (by kernel_rfl) hf with ⟨hcs, hx⟩ | ⟨x, l, c, D, hcs, hl, hm, hx, hcell⟩
  · simp [Value.cells] at hcs
    obtain ⟨rfl, rfl, rfl⟩ := hcs
    exact ⟨_, _, _, [], rfl, ⟨rfl, fun h => absurd h (by omega)⟩, Nat.le_refl _, Nat.zero_le _⟩
  · simp [Value.cells] at hcs
    obtain ⟨rfl, rfl, rfl⟩ := hcs
    by_cases h0 : 0 < cap
    · obtain ⟨b, off, spot⟩ := x
      obtain ⟨v0, _, _, c0, _⟩ := hcell 0 h0 0 _ rfl
      have hspot : spot = none := by simpa [Addr.add] using World.cell?_spot c0
      subst hspot
      have hb : b < W.heap.size := by have := World.block_lt_of_cell? W _ c0; simpa [Addr.add] using this
      have each : ∀ i, i < cap → ∃ q : Rst, RstAt W W.heap.size b (off + i * 6) q := by
        intro i hi
        obtain ⟨v0, y0, n0, c0, g0⟩ := hcell i hi 0 _ rfl
        obtain ⟨v1, y1, n1, c1, g1⟩ := hcell i hi 1 _ rfl
        obtain ⟨v2, y2, n2, c2, g2⟩ := hcell i hi 2 _ rfl
        obtain ⟨v3, y3, n3, c3, g3⟩ := hcell i hi 3 _ rfl
        obtain ⟨v4, y4, n4, c4, g4⟩ := hcell i hi 4 _ rfl
        obtain ⟨v5, y5, n5, c5, g5⟩ := hcell i hi 5 _ rfl
        rw [add_place] at c0 c1 c2 c3 c4 c5
        exact rst_of_cells c0 c1 c2 c3 c4 c5 g0 g1 g2 g3 g4 g5
      obtain ⟨ps, hlen, hps⟩ := list_of each
      exact ⟨_, _, _, ps.take len, rfl, ⟨by simp; omega, fun hn => ⟨b, off, rfl, hb, fun k q hq => hps k q (by
        rw [List.getElem?_take] at hq
        split at hq
        · exact hq
        · cases hq)⟩⟩, hl, hm⟩
    · obtain rfl : len = 0 := by omega
      exact ⟨_, _, _, [], rfl, ⟨rfl, fun h => absurd h (by omega)⟩, hl, hm⟩
end
end Go.Proofs.Ytigeccflfdekiaa
