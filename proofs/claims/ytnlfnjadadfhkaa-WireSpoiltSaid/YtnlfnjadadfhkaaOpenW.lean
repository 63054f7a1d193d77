/-
  Puts, texts that come in, opened.
-/
import Derived.Test.YtnlfnjadadfhkaaOpenS
import Derived.Test.YtnlfnjadadfhkaaWireF
import Derived.Deep.Strs
namespace Go.Proofs.Ytnlfnjadadfhkaa
open Go.RowKit Go.ChangeShapes Go.WideShapes Go.ChangeAt Go.Deep
set_option linter.unusedVariables false

section
variable {H : Type} {enc : TypeId × Value → H} {W : World}
/-- a slice of texts, from its cell -/
theorem open_texts {fuel : Nat} {v : Value} {x : DataW H × List MemPlace} (h : DataW.trod enc Try.prog W 0 (fun _ => true) true fuel 41 [v] = some x) :
    ∃ (A : Option Addr) (n c : Nat) (l : List ByteArray), v = .slice A n c ∧ l.length = n ∧ n ≤ c ∧ c ≤ maxLen ∧ Sl W W.heap.size A n (l.map Value.string) ∧ (∀ s ∈ l, ByteArray.size s ≤ maxLen) := by
  rcases open_strs Try.underlying41 Try.underlying9 (by kernel_rfl) h with ⟨hcs, _⟩ | ⟨a, len, cap, m, Sx, hcs, _, hl, hm, hmm, _, hc⟩
  · injection hcs with hcs; subst hcs
    exact ⟨none, 0, 0, [], rfl, rfl, Nat.le_refl _, Nat.zero_le _, Sl.nil_, by simp⟩
  · injection hcs with hcs; subst hcs
    obtain rfl : m = cap := by simpa using hmm
    refine ⟨some a, len, m, (List.range len).map Sx, rfl, by simp, hl, hm, ⟨by simp, fun hn => ?_⟩, fun s hs => ?_⟩
    · obtain ⟨b, off, spot⟩ := a
      have hc0 := (hc 0 (by omega)).1
      have hspot : spot = none := by simpa [Addr.add] using World.cell?_spot hc0
      subst hspot
      refine ⟨b, off, rfl, by have := World.block_lt_of_cell? W _ hc0; simpa [Addr.add] using this, fun k u hu => ?_⟩
      have hk : k < len := by have := (List.getElem?_eq_some_iff.1 hu).1; simpa using this
      have := (hc k (by omega)).1
      rw [add_place] at this
      rw [this, ← hu]
      simp [hk]
    · obtain ⟨j, hj, rfl⟩ := List.mem_map.1 hs
      exact (hc j (by have := List.mem_range.1 hj; omega)).2
/-- a slice of ints -/
theorem open_introw {base : Nat} {v : Value} {d : DataW H} {p : List MemPlace} (hv : Value.okWide Try.prog W .any base 51 v) (h : DataW.Trod enc Try.prog W 0 (fun _ => true) true 51 v d p) :
    ∃ (a : Option Addr) (len cap : Nat) (ks : List Int), v = .slice a len cap ∧ Sl W W.heap.size a len (ks.map (Value.int .i64)) ∧ len ≤ cap ∧ cap ≤ maxLen ∧ (∀ z ∈ ks, -9223372036854775808 ≤ z ∧ z ≤ 9223372036854775807) := by
  obtain ⟨a, len, cap, rfl⟩ := okWide_slice Try.underlying51 hv
  obtain ⟨fuel, hf⟩ := h
  rcases open_ints Try.underlying51 Try.underlying3 (by kernel_rfl) hf with ⟨hcs, hx⟩ | ⟨x, l, c, zs, hcs, _, hl, hm, hz, hx, hcell, hwz⟩
  · simp [Value.cells] at hcs
    obtain ⟨rfl, rfl, rfl⟩ := hcs
    exact ⟨_, _, _, [], rfl, Sl.nil_, Nat.le_refl _, Nat.zero_le _, by simp⟩
  · simp [Value.cells] at hcs
    obtain ⟨rfl, rfl, rfl⟩ := hcs
    have hzl : zs.length = cap := by simpa using hz
    refine ⟨_, _, _, zs.take len, rfl, ⟨by simp; omega, fun hn => ?_⟩, hl, hm, fun z hz => ?_⟩
    · obtain ⟨b, off, spot⟩ := x
      have hc0 := hcell 0 (by omega)
      have hspot : spot = none := by simpa [Addr.add] using World.cell?_spot hc0
      subst hspot
      refine ⟨b, off, rfl, by have := World.block_lt_of_cell? W _ hc0; simpa [Addr.add] using this, fun k u hu => ?_⟩
      have hk : k < len := by have := (List.getElem?_eq_some_iff.1 hu).1; simp at this; omega
      have hc := hcell k (by omega)
      rw [add_place] at hc
      have hzk : zs[k]? = some zs[k] := List.getElem?_eq_getElem (by omega)
      have hg : zs.getD k 0 = zs[k] := by rw [List.getD_eq_getElem?_getD, hzk]; rfl
      rw [hc, hg, ← hu]
      simp [hk, hzk]
    · have hw := hwz z (List.mem_of_mem_take hz)
      simpa [Lit.wf, IntKind.min, IntKind.max, IntKind.signed, IntKind.bits] using hw
theorem i64_of_wf {z : Int} (h : (Lit.int .i64 z).wf = true) : -9223372036854775808 ≤ z ∧ z ≤ 9223372036854775807 := by
  simpa [Lit.wf, IntKind.min, IntKind.max, IntKind.signed, IntKind.bits] using h
/-- the four cells of a put -/
theorem put_of_cells {b o : Nat} {v0 v1 v2 v3 : Value} {n0 n1 n2 n3 : Nat} {y0 y1 y2 y3 : DataW H × List MemPlace}
    (c0 : W.cell? ⟨b, o, none⟩ = some v0) (c1 : W.cell? ⟨b, o + 1, none⟩ = some v1) (c2 : W.cell? ⟨b, o + 2, none⟩ = some v2) (c3 : W.cell? ⟨b, o + 3, none⟩ = some v3)
    (g0 : DataW.trod enc Try.prog W 0 (fun _ => true) true n0 3 [v0] = some y0) (g1 : DataW.trod enc Try.prog W 0 (fun _ => true) true n1 3 [v1] = some y1)
    (g2 : DataW.trod enc Try.prog W 0 (fun _ => true) true n2 9 [v2] = some y2) (g3 : DataW.trod enc Try.prog W 0 (fun _ => true) true n3 41 [v3] = some y3) : ∃ p : Put, PutAt W W.heap.size b o p := by
  obtain ⟨z0, e0, _, w0⟩ := DataW.trod_int Try.underlying3 g0
  obtain ⟨z1, e1, _, w1⟩ := DataW.trod_int Try.underlying3 g1
  obtain ⟨s, e2, _, w2⟩ := DataW.trod_string Try.underlying9 g2
  obtain ⟨A, n, c, l, rfl, rfl, hc1, hc2, hsl, hss⟩ := open_texts g3
  injection e0 with e0; injection e1 with e1; injection e2 with e2
  subst e0; subst e1; subst e2
  unfold maxLen at w2 hc2 hss
  exact ⟨⟨z0, z1, s, l⟩, ⟨i64_of_wf w0, i64_of_wf w1, w2, hss, by show l.length ≤ _; omega⟩, c0, c1, c2, A, c, c3, hsl⟩
theorem open_puts {base : Nat} {v : Value} {d : DataW H} {p : List MemPlace} (hv : Value.okWide Try.prog W .any base 22 v) (h : DataW.Trod enc Try.prog W 0 (fun _ => true) true 22 v d p) :
    ∃ a len cap ps, v = .slice a len cap ∧ SlPut W W.heap.size a len ps ∧ len ≤ cap ∧ cap ≤ maxLen := by
  obtain ⟨a, len, cap, rfl⟩ := okWide_slice Try.underlying22 hv
  obtain ⟨fuel, hf⟩ := h
  rcases open_structs Try.underlying22 Try.underlying43 (by kernel_rfl) (by kernel_rfl) hf with ⟨hcs, hx⟩ | ⟨x, l, c, D, hcs, hl, hm, hx, hcell⟩
  · simp [Value.cells] at hcs
    obtain ⟨rfl, rfl, rfl⟩ := hcs
    exact ⟨_, _, _, [], rfl, ⟨rfl, fun h => absurd h (by omega)⟩, Nat.le_refl _, Nat.zero_le _⟩
  · simp [Value.cells] at hcs
    obtain ⟨rfl, rfl, rfl⟩ := hcs
    by_cases h0 : 0 < cap
    · obtain ⟨b, off, spot⟩ := x
      obtain ⟨v0, _, _, c0, _⟩ := hcell 0 h0 0 _ rfl
      have hspot : spot = none := by simpa [Addr.add] using World.cell?_spot c0
      subst hspot
      have hb : b < W.heap.size := by have := World.block_lt_of_cell? W _ c0; simpa [Addr.add] using this
      have each : ∀ i, i < cap → ∃ q : Put, PutAt W W.heap.size b (off + i * 4) q := by
        intro i hi
        obtain ⟨v0, y0, n0, c0, g0⟩ := hcell i hi 0 _ rfl
        obtain ⟨v1, y1, n1, c1, g1⟩ := hcell i hi 1 _ rfl
        obtain ⟨v2, y2, n2, c2, g2⟩ := hcell i hi 2 _ rfl
        obtain ⟨v3, y3, n3, c3, g3⟩ := hcell i hi 3 _ rfl
        rw [add_place] at c0 c1 c2 c3
        exact put_of_cells c0 c1 c2 c3 g0 g1 g2 g3
      obtain ⟨ps, hlen, hps⟩ := list_of each
      exact ⟨_, _, _, ps.take len, rfl, ⟨by simp; omega, fun hn => ⟨b, off, rfl, hb, fun k q hq => hps k q (by
        rw [List.getElem?_take] at hq
        split at hq
        · exact hq
        · cases hq)⟩⟩, hl, hm⟩
    · obtain rfl : len = 0 := by omega
      exact ⟨_, _, _, [], rfl, ⟨rfl, fun h => absurd h (by omega)⟩, hl, hm⟩
end
end Go.Proofs.Ytnlfnjadadfhkaa
