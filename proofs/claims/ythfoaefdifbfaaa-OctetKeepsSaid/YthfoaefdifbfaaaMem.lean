/-
  Words for memory that all walks of this seat share: a slice that reads as a list of cells, of bytes; blocks known whole.
-/
import Derived.WalkKit
import Derived.Handy
import Derived.Deep.Draws
namespace Go.Proofs.Ythfoaefdifbfaaa
open Go.RowKit

theorem hide {p : Prop} (h : p) : Hid p := h
/-- the slice value '.slice A n _' reads as the cells xs (one cell an element), in a block below B -/
def Sl (w : World) (B : Nat) (A : Option Addr) (n : Nat) (xs : List Value) : Prop :=
  xs.length = n ∧ (0 < n → ∃ b off, A = some ⟨b, off, none⟩ ∧ b < B ∧ ∀ k u, xs[k]? = some u → w.cell? ⟨b, off + k, none⟩ = some u)

/-- a byte as a cell -/
def bv (x : UInt8) : Value := .int .u8 (x.toNat : Int)
/-- .. reads as bytes -/
def SlB (w : World) (B : Nat) (A : Option Addr) (n : Nat) (bs : List UInt8) : Prop := Sl w B A n (bs.map bv)

section
variable {w w' : World} {B B' n : Nat} {A : Option Addr} {xs : List Value} {bs : List UInt8}
theorem Sl.nil_ : Sl w B A 0 [] := ⟨rfl, fun h => absurd h (by omega)⟩
theorem Sl.keep (h : Sl w B A n xs) (hk : ∀ b off, b < B → w'.cell? ⟨b, off, none⟩ = w.cell? ⟨b, off, none⟩) : Sl w' B A n xs :=
  ⟨h.1, fun hn => by
    obtain ⟨b, off, e, hb, hc⟩ := h.2 hn
    exact ⟨b, off, e, hb, fun k u hu => (hk _ _ hb).trans (hc k u hu)⟩⟩
theorem Sl.more (h : Sl w B A n xs) (hB : B ≤ B') : Sl w B' A n xs :=
  ⟨h.1, fun hn => by
    obtain ⟨b, off, e, hb, hc⟩ := h.2 hn
    exact ⟨b, off, e, by omega, hc⟩⟩
theorem Sl.below {C : Nat} (h : Sl w B A n xs) (hb : Below C w w') (hC : B ≤ C) : Sl w' B A n xs := h.keep fun b off hp => hb.cell (p := ⟨b, off, none⟩) (Nat.lt_of_lt_of_le hp hC)
theorem Sl.at_ (h : Sl w B A n xs) {k : Nat} (hk : k < n) : ∃ b off u, A = some ⟨b, off, none⟩ ∧ b < B ∧ xs[k]? = some u ∧ w.cell? ⟨b, off + k, none⟩ = some u := by
  obtain ⟨b, off, e, hb, hc⟩ := h.2 (by omega)
  have hl : k < xs.length := by have := h.1; omega
  exact ⟨b, off, xs[k], e, hb, List.getElem?_eq_getElem hl, hc k _ (List.getElem?_eq_getElem hl)⟩
theorem SlB.len (h : SlB w B A n bs) : bs.length = n := by have := h.1; simpa using this
theorem SlB.sl (h : SlB w B A n bs) : Sl w B A n (bs.map bv) := h
theorem SlB.nil_ : SlB w B A 0 [] := Sl.nil_
theorem SlB.keep (h : SlB w B A n bs) (hk : ∀ b off, b < B → w'.cell? ⟨b, off, none⟩ = w.cell? ⟨b, off, none⟩) : SlB w' B A n bs := Sl.keep h hk
theorem SlB.more (h : SlB w B A n bs) (hB : B ≤ B') : SlB w B' A n bs := Sl.more h hB
theorem SlB.below {C : Nat} (h : SlB w B A n bs) (hb : Below C w w') (hC : B ≤ C) : SlB w' B A n bs := Sl.below h hb hC
/-- where the bytes lie -/
theorem SlB.spot (h : SlB w B A n bs) (hn : 0 < n) : ∃ b off, A = some ⟨b, off, none⟩ ∧ b < B ∧ ∀ k (hk : k < bs.length), w.cell? ⟨b, off + k, none⟩ = some (.int .u8 (bs[k].toNat : Int)) := by
  obtain ⟨b, off, e, hb, hc⟩ := h.2 hn
  exact ⟨b, off, e, hb, fun k hk => hc k _ (by simp [bv, List.getElem?_eq_getElem hk])⟩
/-- byte number k -/
theorem SlB.byte (h : SlB w B A n bs) {k : Nat} (hk : k < n) : ∃ b off x, A = some ⟨b, off, none⟩ ∧ b < B ∧ w.cell? ⟨b, off + k, none⟩ = some (.int .u8 ((x : UInt8).toNat : Int)) ∧ Hid (bs[k]? = some x) := by
  obtain ⟨b, off, e, hb, hc⟩ := h.2 (by omega)
  have hl := h.len
  exact ⟨b, off, bs[k], e, hb, hc k _ (by simp [bv, List.getElem?_eq_getElem (show k < bs.length by omega)]), List.getElem?_eq_getElem _⟩
end
/-- a block that begins with these bytes reads as them -/
theorem SlB.of_block {w : World} {g n t : Nat} {fr : Nat × Nat} {B : Nat} {bs : List UInt8} {rest : List Value} (h : w.heap[g]? = some (.cells (bs.map bv ++ rest).toArray t fr)) (hB : g < B) (hn : bs.length = n) :
    SlB w B (some ⟨g, 0, none⟩) n bs := by
  refine ⟨by simpa using hn, fun _ => ⟨g, 0, rfl, hB, fun k u hu => ?_⟩⟩
  rw [cell_of_row w g (0 + k) _ _ _ h]
  have hk : k < (bs.map bv).length := (List.getElem?_eq_some_iff.1 hu).1
  simp only [Nat.zero_add, List.getElem?_toArray]
  rw [List.getElem?_append_left hk, hu]
/-- a literal that was just laid -/
theorem SlB.lit {w : World} {cs : Array Value} {t n : Nat} {fr : Nat × Nat} (bs : List UInt8) (h : cs = (bs.map bv).toArray) (hn : bs.length = n) : SlB (w.alloc (.cells cs t fr)) (w.alloc (.cells cs t fr)).heap.size (some ⟨w.heap.size, 0, none⟩) n bs := by
  subst h
  exact SlB.of_block (rest := []) (fr := fr) (t := t) (by rw [List.append_nil]; exact heap_alloc_new w _) (by simp) hn
theorem take_snoc {α : Type} {l : List α} {k : Nat} {x : α} (h : l[k]? = some x) : l.take (k + 1) = l.take k ++ [x] := by rw [List.take_add_one, h]; rfl
end Go.Proofs.Ythfoaefdifbfaaa
