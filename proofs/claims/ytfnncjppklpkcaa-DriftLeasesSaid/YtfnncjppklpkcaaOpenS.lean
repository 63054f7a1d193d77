/-
  Slices of structs (fields of one cell each) that come in, opened field by field.
-/
import Derived.Test.YtfnncjppklpkcaaOpen
import Derived.Test.YtfnncjppklpkcaaDriftG
import Derived.Deep.Slices
import Derived.Deep.Fields
namespace Go.Proofs.Ytfnncjppklpkcaa
open Go.RowKit Go.ChangeShapes Go.WideShapes Go.ChangeAt Go.Deep

section
variable {H : Type} {enc : TypeId × Value → H} {P : Program} {W : World}
theorem open_structs {t e : TypeId} {fs : Array Field} {fuel : Nat} {cs : List Value} {x : DataW H × List MemPlace} (ht : P.underlying t = some (.slice e)) (he : P.underlying e = some (.struct fs))
    (hone : oneCellFields P fs = true) (hC : P.cellsOf e = fs.size) (h : DataW.trod enc P W 0 (fun _ => true) true fuel t cs = some x) :
    (cs = [.slice none 0 0] ∧ x.1 = .nil) ∨
    ∃ (a : Addr) (len cap : Nat) (D : Nat → DataW H), cs = [.slice (some a) len cap] ∧ len ≤ cap ∧ cap ≤ maxLen ∧
      x.1 = .slice ((List.range len).map D) ((List.range (cap - len)).map fun j => D (len + j)) ∧
      ∀ i, i < cap → ∀ (j : Nat) (f : Field), fs[j]? = some f → ∃ (v : Value) (y : DataW H × List MemPlace) (n : Nat), W.cell? (a.add (i * fs.size + j)) = some v ∧ DataW.trod enc P W 0 (fun _ => true) true n f.type [v] = some y := by
  rcases open_slice ht h with ⟨h1, h2⟩ | ⟨a, len, cap, m, n, D, Pl, hcs, _, hl, hm, hmm, hx, hi⟩
  · exact .inl ⟨h1, by rw [h2]⟩
  · obtain rfl : m = cap := by simpa using hmm
    refine .inr ⟨a, len, m, D, hcs, hl, hm, by rw [hx], fun i him j f hj => ?_⟩
    obtain ⟨cs', hc, ht'⟩ := hi i him
    rw [hC] at hc
    obtain ⟨ys, n', _, _, hlen, hyl, hf⟩ := DataW.trod_struct he ht'
    obtain ⟨_, hcl, hat⟩ := World.cells?_some hc
    obtain ⟨ho, hk⟩ := hone_of hone j f hj
    have hjl : j < fs.size := (Array.getElem?_eq_some_iff.1 hj).1
    have hcell := hat j hjl
    have hv : cs'[j]? = some (cs'[j]'(by omega)) := List.getElem?_eq_getElem (by omega)
    have h1 := hf j f hj
    rw [ho, hk] at h1
    have hone' : (cs'.drop j).take 1 = [cs'[j]'(by omega)] := by
      rw [List.drop_eq_getElem_cons (by omega)]
      rfl
    rw [hone'] at h1
    have hys : ys[j]? = some (ys[j]'(by omega)) := List.getElem?_eq_getElem (by omega)
    refine ⟨_, _, n', ?_, h1.trans hys⟩
    rw [← Go.Deep.add_add, hcell, hv]
end

/-- a list out of its members -/
theorem list_of {α : Type} {n : Nat} {q : Nat → α → Prop} (h : ∀ i, i < n → ∃ x, q i x) : ∃ l : List α, l.length = n ∧ ∀ i x, l[i]? = some x → q i x := by
  induction n with
  | zero => exact ⟨[], rfl, fun i x hx => by simp at hx⟩
  | succ n ih =>
    obtain ⟨l, hl, hq⟩ := ih fun i hi => h i (by omega)
    obtain ⟨x, hx⟩ := h n (by omega)
    refine ⟨l ++ [x], by simp [hl], fun i y hy => ?_⟩
    by_cases hi : i < n
    · rw [List.getElem?_append_left (by omega)] at hy
      exact hq i y hy
    · have : i = n := by have := (List.getElem?_eq_some_iff.1 hy).1; simp at this; omega
      subst this
      rw [List.getElem?_append_right (by omega), hl, Nat.sub_self] at hy
      simp at hy
      subst hy
      exact hx
theorem add_place {b off k : Nat} : (⟨b, off, none⟩ : Addr).add k = ⟨b, off + k, none⟩ := by unfold Addr.add; split <;> simp_all
section
variable {H : Type} {enc : TypeId × Value → H} {W : World}
theorem open_twos {base : Nat} {v : Value} {d : DataW H} {p : List MemPlace} (hv : Value.okWide Try.prog W .any base 35 v) (h : DataW.Trod enc Try.prog W 0 (fun _ => true) true 35 v d p) :
    ∃ a len cap ts, v = .slice a len cap ∧ SlTwo W W.heap.size a len ts ∧ len ≤ cap ∧ cap ≤ maxLen ∧ (d = .nil ∧ cap = 0 ∨ ∃ es sp : List (DataW H), d = .slice es sp ∧ es.length + sp.length = cap) := by
  obtain ⟨a, len, cap, rfl⟩ := okWide_slice Try.underlying35 hv
  obtain ⟨fuel, hf⟩ := h
  rcases open_structs Try.underlying35 Try.underlying39 (by kernel_rfl) (by kernel_rfl) hf with ⟨hcs, hx⟩ | ⟨x, l, c, D, hcs, hl, hm, hx, hcell⟩
  · simp [Value.cells] at hcs
    obtain ⟨rfl, rfl, rfl⟩ := hcs
    exact ⟨_, _, _, [], rfl, ⟨rfl, fun h => absurd h (by omega)⟩, Nat.le_refl _, Nat.zero_le _, .inl ⟨hx, rfl⟩⟩
  · simp [Value.cells] at hcs
    obtain ⟨rfl, rfl, rfl⟩ := hcs
    have each : ∀ i, i < cap → ∃ t : Two, W.cell? (x.add (i * 3 + 0)) = some (.int .i64 t.units) ∧ W.cell? (x.add (i * 3 + 1)) = some (.int .i64 t.one) ∧ W.cell? (x.add (i * 3 + 2)) = some (.int .i64 t.other) := by
      intro i hi
      obtain ⟨v0, y0, n0, c0, g0⟩ := hcell i hi 0 _ rfl
      obtain ⟨v1, y1, n1, c1, g1⟩ := hcell i hi 1 _ rfl
      obtain ⟨v2, y2, n2, c2, g2⟩ := hcell i hi 2 _ rfl
      obtain ⟨z0, e0, _, _⟩ := DataW.trod_int Try.underlying3 g0
      obtain ⟨z1, e1, _, _⟩ := DataW.trod_int Try.underlying3 g1
      obtain ⟨z2, e2, _, _⟩ := DataW.trod_int Try.underlying3 g2
      simp only [List.cons.injEq, and_true] at e0 e1 e2
      subst e0; subst e1; subst e2
      exact ⟨⟨z0, z1, z2⟩, c0, c1, c2⟩
    obtain ⟨ts, hlen, hts⟩ := list_of each
    refine ⟨_, _, _, ts.take len, rfl, ⟨by simp; omega, fun hn => ?_⟩, hl, hm, .inr ⟨_, _, hx, by simp; omega⟩⟩
    obtain ⟨b, off, spot⟩ := x
    obtain ⟨t0, c0, _⟩ := each 0 (by omega)
    have hspot : spot = none := by simpa [Addr.add] using World.cell?_spot c0
    subst hspot
    refine ⟨b, off, rfl, by have := World.block_lt_of_cell? W _ c0; simpa [Addr.add] using this, fun k t ht => ?_⟩
    have hk : k < len := by have := (List.getElem?_eq_some_iff.1 ht).1; simp at this; omega
    rw [List.getElem?_take, if_pos hk] at ht
    obtain ⟨c0, c1, c2⟩ := hts k t ht
    rw [add_place] at c0 c1 c2
    exact ⟨c0, c1, c2⟩
theorem twos_reach {ts : List TypeId} {ds : List (DataW H)} (h : (DataW.weightsEach Try.prog ts ds).all (· ≤ reachBytes) = true) {j cap : Nat} {d : DataW H} (ht : ts[j]? = some 35) (hd : ds[j]? = some d)
    (hs : (d = .nil ∧ cap = 0) ∨ ∃ es sp : List (DataW H), d = .slice es sp ∧ es.length + sp.length = cap) : cap ≤ 140737488351232 := by
  rcases hs with ⟨_, rfl⟩ | ⟨es, sp, rfl, hz⟩
  · omega
  · have := sized_slice h ht hd Try.underlying35
    rw [show Try.prog.bytesOf 39 = 24 by kernel_rfl, hz] at this
    simp only [reachBytes] at this
    omega
end
end Go.Proofs.Ytfnncjppklpkcaa
