/-
  What comes in, opened: rows of bytes ([][]byte); how many bytes there are at the most.
-/
import Derived.Test.YtgpldaphblphgaaOpen
import Derived.Test.YtgpldaphblphgaaShaI
import Derived.Deep.Matrix
namespace Go.Proofs.Ytgpldaphblphgaa
open Go.RowKit Go.ChangeShapes Go.WideShapes Go.ChangeAt Go.Deep

section
variable {H : Type} {enc : TypeId × Value → H} {W : World}

theorem rows_bulk (l : List Nat) (f : Nat → DataW H) (g : Nat → List UInt8) (h : ∀ r ∈ l, (g r).length ≤ Rows.uptoBulk (f r)) : (l.map g).flatten.length ≤ Rows.uptoBulkAll (l.map f) := by
  induction l with
  | nil => simp [Rows.uptoBulkAll]
  | cons x t ih =>
    have h1 := h x (by simp)
    have h2 := ih (fun r hr => h r (by simp [hr]))
    simp only [List.map_cons, List.flatten_cons, List.length_append, Rows.uptoBulkAll]
    omega
theorem row_bulk (A : Option Addr) (L : Nat) (zs : List Int) (hA : A = none → zs.length = 0) : zs.length ≤ Rows.uptoBulk (intRow (H := H) .u8 A L zs) := by
  cases A with
  | none => rw [hA rfl]; omega
  | some a =>
    have h1 := length_bulk (H := H) (lits .u8 (zs.take L))
    have h2 := length_bulk (H := H) (lits .u8 (zs.drop L))
    simp only [intRow, Rows.uptoBulk]
    simp only [lits, List.length_map, List.length_take, List.length_drop] at h1 h2
    simp only [lits]
    omega

theorem open_parts {base : Nat} {v : Value} {d : DataW H} {p : List MemPlace} (hv : Value.okWide Try.prog W .any base 36 v) (h : DataW.Trod enc Try.prog W 0 (fun _ => true) true 36 v d p) :
    ∃ a len cap parts, v = .slice a len cap ∧ PartsAt W W.heap.size a len parts ∧ len ≤ cap ∧ cap ≤ maxLen ∧ parts.flatten.length ≤ Rows.uptoBulk d := by
  obtain ⟨a, len, cap, rfl⟩ := okWide_slice Try.underlying36 hv
  obtain ⟨fuel, hf⟩ := h
  rcases open_int_rows Try.underlying36 Try.underlying22 Try.underlying5 (by kernel_rfl) (by kernel_rfl) hf with ⟨hcs, hx⟩ | ⟨x, l, c, A, L, C, Z, hcs, _, hl, hm, hx, hall⟩
  · simp [Value.cells] at hcs
    obtain ⟨rfl, rfl, rfl⟩ := hcs
    exact ⟨_, _, _, [], rfl, ⟨rfl, [], Sl.nil_, fun j bs h => by simp at h⟩, Nat.le_refl _, Nat.zero_le _, by simp⟩
  · simp [Value.cells] at hcs
    obtain ⟨rfl, rfl, rfl⟩ := hcs
    refine ⟨_, _, _, (List.range len).map (fun r => ((Z r).take (L r)).map (fun z => UInt8.ofNat z.toNat)), rfl, ⟨by simp, (List.range len).map (fun r => .slice (A r) (L r) (C r)), ⟨by simp, fun hn => ?_⟩, fun j bs hj => ?_⟩, hl, hm, ?_⟩
    · obtain ⟨b, off, spot⟩ := x
      have hc0 := (hall 0 (by omega)).1
      have hspot : spot = none := by simpa [Addr.add] using World.cell?_spot hc0
      subst hspot
      refine ⟨b, off, rfl, by have := World.block_lt_of_cell? W _ hc0; simpa [Addr.add] using this, fun k u hu => ?_⟩
      have hk : k < len := by have := (List.getElem?_eq_some_iff.1 hu).1; simpa using this
      have hc := (hall k (by omega)).1
      have hadd : (⟨b, off, none⟩ : Addr).add k = ⟨b, off + k, none⟩ := by unfold Addr.add; split <;> simp_all
      rw [hadd] at hc
      rw [hc, ← hu]
      simp [hk]
    · have hjl : j < len := by have := (List.getElem?_eq_some_iff.1 hj).1; simpa using this
      obtain ⟨_, h1, h2, h3, h4, h5, h6⟩ := hall j (by omega)
      refine ⟨A j, L j, C j, by simp [hjl], ?_, h1, by unfold maxLen at h2; omega⟩
      have hbs : bs = ((Z j).take (L j)).map (fun z => UInt8.ofNat z.toNat) := by simpa [hjl] using hj.symm
      subst hbs
      refine ⟨by simp; omega, fun hn => ?_⟩
      cases hA : A j with
      | none => have := h5 hA; omega
      | some y =>
        obtain ⟨_, hcell⟩ := h6 y hA
        obtain ⟨b, off, spot⟩ := y
        have hc0 := hcell 0 (by omega)
        have hspot : spot = none := by simpa [Addr.add] using World.cell?_spot hc0
        subst hspot
        refine ⟨b, off, rfl, by have := World.block_lt_of_cell? W _ hc0; simpa [Addr.add] using this, fun k u hu => ?_⟩
        have hk : k < L j := by have := (List.getElem?_eq_some_iff.1 hu).1; simp at this; omega
        have hc := hcell k (by omega)
        have hadd : (⟨b, off, none⟩ : Addr).add k = ⟨b, off + k, none⟩ := by unfold Addr.add; split <;> simp_all
        rw [hadd] at hc
        rw [hc]
        have hzk : (Z j)[k]? = some (Z j)[k] := List.getElem?_eq_getElem (by omega)
        have hg : (Z j).getD k 0 = (Z j)[k] := by rw [List.getD_eq_getElem?_getD, hzk]; rfl
        rw [hg, byte_cell (h4 _ (List.getElem_mem _)), ← hu]
        simp [hk, hzk]
    · have hd : d = .slice ((List.range len).map fun r => intRow .u8 (A r) (L r) (Z r)) ((List.range (cap - len)).map fun j => intRow .u8 (A (len + j)) (L (len + j)) (Z (len + j))) := congrArg Prod.fst hx
      have hb := rows_bulk (List.range len) (fun r => intRow (H := H) .u8 (A r) (L r) (Z r)) (fun r => ((Z r).take (L r)).map (fun z => UInt8.ofNat z.toNat)) (fun r hr => by
        obtain ⟨_, h1, h2, h3, h4, h5, h6⟩ := hall r (by have := List.mem_range.1 hr; omega)
        have := row_bulk (H := H) (A r) (L r) (Z r) (fun h => by rw [h3, h5 h])
        simp; omega)
      rw [hd]
      simp only [Rows.uptoBulk]
      omega
end
end Go.Proofs.Ytgpldaphblphgaa
