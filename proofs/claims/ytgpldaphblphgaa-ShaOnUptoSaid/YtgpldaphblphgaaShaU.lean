/-
  Words for whole rows that are loaded in drawn regions; two slices, laid as a literal.
-/
import Derived.Test.YtgpldaphblphgaaShaR
namespace Go.Proofs.Ytgpldaphblphgaa
open Go.RowKit Go.Great

theorem range_of_row {X : World} {g T : Nat} {D : List Value} (h : RowV X g T D) : X.rangeAt g 0 D := fun j v hv => by
  rw [cell_of_row _ _ _ _ _ _ h]; simpa using hv
theorem range_below {V X : World} {g : Nat} {D : List Value} (h : V.rangeAt g 0 D) (hb : Below V.heap.size V X) : X.rangeAt g 0 D := fun j v hv => by
  have hc := h j v hv
  exact (hb.cell (p := ⟨g, 0 + j, none⟩) (World.block_lt_of_cell? V _ hc)).trans hc
theorem parts2' {X : World} {g : Nat} {A B : Option Addr} {n m c d : Nat} {a b : List UInt8} (hg : X.heap[g]? = some (.cells #[.slice A n c, .slice B m d] 22 (0, 0))) (ha : SlB X X.heap.size A n a) (hb : SlB X X.heap.size B m b) (hn : n ≤ c) (hm : m ≤ d) (hc : c ≤ 9223372036854775807) (hd : d ≤ 9223372036854775807) :
    PartsAt X X.heap.size (some ⟨g, 0, none⟩) 2 [a, b] := by
  have hlt : g < X.heap.size := heap_lt' hg
  refine ⟨rfl, [.slice A n c, .slice B m d], ⟨rfl, fun _ => ⟨g, 0, rfl, hlt, fun k u hu => ?_⟩⟩, fun j x hj => ?_⟩
  · rw [cell_of_row _ _ _ _ _ _ hg]
    match k, hu with
    | 0, hu => exact hu
    | 1, hu => exact hu
    | k + 2, hu => simp at hu
  · match j, hj with
    | 0, hj => injection hj with hj; subst hj; exact ⟨A, n, c, rfl, ha, hn, hc⟩
    | 1, hj => injection hj with hj; subst hj; exact ⟨B, m, d, rfl, hb, hm, hd⟩
    | j + 2, hj => simp at hj
theorem held_below {Z W : World} {gx gy : Nat} {D E : List Value} (h : Below Z.heap.size Z W ∧ W.rangeAt gx 0 D ∧ W.rangeAt gy 0 E) : Below Z.heap.size Z W := h.1
theorem held_keep {Z W X : World} {gx gy n : Nat} {D E : List Value} (hb : Below n W X) (hn : n = W.heap.size) (h : Below Z.heap.size Z W ∧ W.rangeAt gx 0 D ∧ W.rangeAt gy 0 E) : Below Z.heap.size Z X ∧ X.rangeAt gx 0 D ∧ X.rangeAt gy 0 E := by
  subst hn
  exact ⟨h.1.trans (hb.mono h.1.size), range_below h.2.1 hb, range_below h.2.2 hb⟩
theorem held_alloc {Z W : World} {gx gy : Nat} {o : Obj} {D E : List Value} (h : Below Z.heap.size Z W ∧ W.rangeAt gx 0 D ∧ W.rangeAt gy 0 E) : Below Z.heap.size Z (W.alloc o) ∧ (W.alloc o).rangeAt gx 0 D ∧ (W.alloc o).rangeAt gy 0 E :=
  held_keep ((Below.refl _ _).alloc (Nat.le_refl _) _) rfl h
theorem range_alloc {V : World} {g : Nat} {D : List Value} {o : Obj} (h : V.rangeAt g 0 D) : (V.alloc o).rangeAt g 0 D := range_below h ((Below.refl _ _).alloc (Nat.le_refl _) _)

theorem info_dig : (Try.prog.info? 26).map (·.size) = some 32 := by kernel_rfl
end Go.Proofs.Ytgpldaphblphgaa
