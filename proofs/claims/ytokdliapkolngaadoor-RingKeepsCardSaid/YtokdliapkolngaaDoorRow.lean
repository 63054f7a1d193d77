/-
  Words for blocks that are known whole: rows of words, rows written over as a whole.
-/
import Derived.Test.YtokdliapkolngaaDoorMem
import Derived.Laws.CopyOwn
namespace Go.Proofs.YtokdliapkolngaaDoor
open Go.RowKit

theorem row_set {w : World} {g : Nat} {old cs : Array Value} {t : TypeId} {fr : Nat × Nat} (h : w.heap[g]? = some (.cells old t fr)) : (w.setRow g cs).heap[g]? = some (.cells cs t fr) := by
  simp [World.setRow, Array.getElem?_modify, h]
theorem row_set_other {w : World} {g k : Nat} {cs : Array Value} (h : k ≠ g) : (w.setRow g cs).heap[k]? = w.heap[k]? := by
  simp [World.setRow, Array.getElem?_modify, Ne.symm h]
theorem heap_lt' {w : World} {g : Nat} {o : Obj} (h : w.heap[g]? = some o) : g < w.heap.size := (Array.getElem?_eq_some_iff.1 h).1
/-- block g is the row xs -/
def RowV (w : World) (g t : Nat) (xs : List Value) : Prop := w.heap[g]? = some (.cells xs.toArray t (0, 0))
section
variable {w w' : World} {g t : Nat} {xs : List Value}
theorem RowV.lt (h : RowV w g t xs) : g < w.heap.size := heap_lt' h
theorem RowV.cell (h : RowV w g t xs) {k : Nat} {v : Value} (hk : xs[k]? = some v) : w.cell? ⟨g, k, none⟩ = some v := by
  rw [cell_of_row w g k _ _ _ h]; simpa using hk
theorem RowV.free (h : RowV w g t xs) (k : Nat) : w.frozen? ⟨g, k, none⟩ = false := frozen_of_row w g k _ _ h
theorem RowV.set (h : RowV w g t xs) (k : Nat) (v : Value) : RowV (w.setCell ⟨g, k, none⟩ v) g t (xs.set k v) := by
  unfold RowV; rw [heap_setCell_same _ _ _ _ _ _ h, List.setIfInBounds_toArray]
theorem RowV.set_other (h : RowV w g t xs) {b k : Nat} {v : Value} (hb : g ≠ b) : RowV (w.setCell ⟨b, k, none⟩ v) g t xs := by
  unfold RowV; rw [heap_setCell_other _ _ _ _ hb]; exact h
theorem RowV.drew (h : RowV w g t xs) : RowV w.drew g t xs := h
theorem RowV.drewN (h : RowV w g t xs) (n : Nat) : RowV (w.drewN n) g t xs := h
theorem RowV.alloc (h : RowV w g t xs) (o : Obj) : RowV (w.alloc o) g t xs := by
  unfold RowV; rw [heap_alloc_old w o h.lt]; exact h
theorem RowV.setRow (h : RowV w g t xs) {b : Nat} {cs : Array Value} (hb : g ≠ b) : RowV (w.setRow b cs) g t xs := by
  unfold RowV; rw [row_set_other hb]; exact h
theorem RowV.new (w : World) (t : Nat) (xs : List Value) : RowV (w.alloc (.cells xs.toArray t)) w.heap.size t xs := heap_alloc_new w _
theorem RowV.below {B : Nat} (h : RowV w g t xs) (hb : Below B w w') (hg : g < B) : RowV w' g t xs := (hb.block g hg).trans h
theorem RowV.below' (h : RowV w g t xs) (hb : Below w.heap.size w w') : RowV w' g t xs := (hb.block g h.lt).trans h
end
theorem Sl.block {w X : World} {B g o n : Nat} {xs : List Value} (h : Sl w B (some ⟨g, o, none⟩) n xs) (hx : X.heap[g]? = w.heap[g]?) : Sl X (g + 1) (some ⟨g, o, none⟩) n xs := by
  refine ⟨h.1, fun hn => ?_⟩
  obtain ⟨b, off, e, hb, hc⟩ := h.2 hn
  injection e with e; injection e with e1 e2 _
  subst e1 e2
  exact ⟨g, o, rfl, by omega, fun k u hu => (World.cell?_of_block (w := w) (w' := X) (a := ⟨g, o + k, none⟩) hx).trans (hc k u hu)⟩
/-- the world under a name of its own, with what is known of it -/
theorem wp_world {P : Program} {c : Code} {Q : Exit → Act → World → Prop} {a : Act} {w : World} (F : World → Prop) (hF : F w) (h : ∀ X, F X → Code.wp P c Q a X) : Code.wp P c Q a w := h w hF
theorem SlB.up {w w1 : World} {n : Nat} {A : Option Addr} {bs : List UInt8} (h : SlB w w.heap.size A n bs) (b : Below w.heap.size w w1) : SlB w1 w1.heap.size A n bs := (h.below b (Nat.le_refl _)).more b.size
theorem SlB.up' {w w1 : World} {B n : Nat} {A : Option Addr} {bs : List UInt8} (h : SlB w B A n bs) (b : Below B w w1) (hB : B ≤ w.heap.size) : SlB w1 w1.heap.size A n bs := (h.below b (Nat.le_refl _)).more (Nat.le_trans hB b.size)
end Go.Proofs.YtokdliapkolngaaDoor
