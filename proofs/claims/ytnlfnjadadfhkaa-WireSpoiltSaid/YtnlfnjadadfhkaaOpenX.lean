/-
  A put, a harm by value, opened.
-/
import Derived.Test.YtnlfnjadadfhkaaOpenW
import Derived.Lib.SmallJoins
namespace Go.Proofs.Ytnlfnjadadfhkaa
open Go.RowKit Go.ChangeShapes Go.WideShapes Go.ChangeAt Go.Deep
set_option linter.unusedVariables false

section
variable {H : Type} {enc : TypeId × Value → H} {W : World}
theorem open_put {base : Nat} {v : Value} {d : DataW H} {q : List MemPlace} (hv : Value.okWide Try.prog W .any base 43 v) (h : DataW.Trod enc Try.prog W 0 (fun _ => true) true 43 v d q) :
    ∃ (p : Put) (A : Option Addr) (c : Nat), v = p.val A c ∧ p.Ok ∧ Sl W W.heap.size A p.l.length (p.l.map Value.string) := by
  obtain ⟨v0, v1, v2, v3, y0, y1, y2, y3, n, rfl, _, _, g0, g1, g2, g3⟩ := Joins.open_agg4 Try.underlying43 (by kernel_rfl) (by kernel_rfl) hv h
  obtain ⟨z0, e0, _, w0⟩ := DataW.trod_int Try.underlying3 g0
  obtain ⟨z1, e1, _, w1⟩ := DataW.trod_int Try.underlying3 g1
  obtain ⟨s, e2, _, w2⟩ := DataW.trod_string Try.underlying9 g2
  obtain ⟨A, m, c, l, rfl, rfl, hc1, hc2, hsl, hss⟩ := open_texts g3
  injection e0 with e0; injection e1 with e1; injection e2 with e2
  subst e0; subst e1; subst e2
  unfold maxLen at w2 hc2 hss
  exact ⟨⟨z0, z1, s, l⟩, A, c, rfl, ⟨i64_of_wf w0, i64_of_wf w1, w2, hss, by show l.length ≤ _; omega⟩, hsl⟩
/-- bytes, from their cell -/
theorem open_bytes_cell {fuel : Nat} {v : Value} {x : DataW H × List MemPlace} (hf : DataW.trod enc Try.prog W 0 (fun _ => true) true fuel 24 [v] = some x) :
    ∃ (a : Option Addr) (len cap : Nat) (bs : List UInt8), v = .slice a len cap ∧ SlB W W.heap.size a len bs ∧ len ≤ cap ∧ cap ≤ Rows.uptoBulk x.1 := by
  rcases open_ints Try.underlying24 Try.underlying5 (by kernel_rfl) hf with ⟨hcs, hx⟩ | ⟨y, l, c, zs, hcs, _, hl, hm, hz, hx, hcell, hwz⟩
  · injection hcs with hcs; subst hcs
    exact ⟨none, 0, 0, [], rfl, SlB.nil_, Nat.le_refl _, Nat.zero_le _⟩
  · injection hcs with hcs; subst hcs
    have hzl : zs.length = c := by simpa using hz
    refine ⟨_, _, _, (zs.take l).map (fun z => UInt8.ofNat z.toNat), rfl, ⟨by simp; omega, fun hn => ?_⟩, hl, ?_⟩
    · obtain ⟨b, off, spot⟩ := y
      have hc0 := hcell 0 (by omega)
      have hspot : spot = none := by simpa [Addr.add] using World.cell?_spot hc0
      subst hspot
      refine ⟨b, off, rfl, by have := World.block_lt_of_cell? W _ hc0; simpa [Addr.add] using this, fun k u hu => ?_⟩
      have hk : k < l := by have := (List.getElem?_eq_some_iff.1 hu).1; simp at this; omega
      have hc := hcell k (by omega)
      rw [add_place] at hc
      rw [hc]
      have hzk : zs[k]? = some zs[k] := List.getElem?_eq_getElem (by omega)
      have hg : zs.getD k 0 = zs[k] := by rw [List.getD_eq_getElem?_getD, hzk]; rfl
      rw [hg, byte_cell (hwz _ (List.getElem_mem _)), ← hu]
      simp [hk, hzk]
    · rw [hx]
      exact bytes_bulk (len := l) (.inr ⟨zs, rfl, hzl⟩)
theorem open_harm {base : Nat} {v : Value} {d : DataW H} {q : List MemPlace} (hv : Value.okWide Try.prog W .any base 34 v) (h : DataW.Trod enc Try.prog W 0 (fun _ => true) true 34 v d q) :
    ∃ (at_ by_ less : Int) (A : Option Addr) (n c : Nat) (bs : List UInt8), v = .agg #[.int .i64 at_, .int .u8 by_, .int .i64 less, .slice A n c] ∧ (-9223372036854775808 ≤ at_ ∧ at_ ≤ 9223372036854775807) ∧ (0 ≤ by_ ∧ by_ ≤ 255) ∧ (-9223372036854775808 ≤ less ∧ less ≤ 9223372036854775807) ∧ SlB W W.heap.size A n bs ∧ n ≤ c ∧ c ≤ Rows.uptoBulk d := by
  obtain ⟨v0, v1, v2, v3, y0, y1, y2, y3, n, rfl, rfl, _, g0, g1, g2, g3⟩ := Joins.open_agg4 Try.underlying34 (by kernel_rfl) (by kernel_rfl) hv h
  obtain ⟨z0, e0, _, w0⟩ := DataW.trod_int Try.underlying3 g0
  obtain ⟨z1, e1, _, w1⟩ := DataW.trod_int Try.underlying5 g1
  obtain ⟨z2, e2, _, w2⟩ := DataW.trod_int Try.underlying3 g2
  obtain ⟨A, m, c, bs, rfl, hsl, hc1, hc2⟩ := open_bytes_cell g3
  injection e0 with e0; injection e1 with e1; injection e2 with e2
  subst e0; subst e1; subst e2
  refine ⟨z0, z1, z2, A, m, c, bs, rfl, i64_of_wf w0, by simpa [Lit.wf, IntKind.min, IntKind.max, IntKind.signed, IntKind.bits] using w1, i64_of_wf w2, hsl, hc1, ?_⟩
  simp only [Rows.uptoBulk, Rows.uptoBulkAll]
  omega
end
end Go.Proofs.Ytnlfnjadadfhkaa
