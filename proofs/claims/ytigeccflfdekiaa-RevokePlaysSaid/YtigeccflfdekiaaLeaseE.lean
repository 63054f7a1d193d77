/-
  Lease: Forget.
-/
import Derived.Test.YtigeccflfdekiaaLeaseD
import Derived.Shelf.SlMaps.DeleteFunc
namespace Go.Proofs.Ytigeccflfdekiaa
open Go.RowKit Go.Maps Go.Shelf
set_option linter.unusedVariables false

/-- a key's parts -/
structure Pr where
  s : ByteArray
  e : Int
theorem text_eq (s f : ByteArray) : (s.toList == f.toList) = decide (s = f) := by
  by_cases h : s = f
  · subst h; simp
  · rw [decide_eq_false h, beq_eq_false_iff_ne, ByteArray.toList_eq, ByteArray.toList_eq]
    intro e
    exact h (by cases s; cases f; congr; exact Array.toList_inj.1 e)
open Classical in
/-- is this a key of the family? -/
noncomputable def famK (fam : ByteArray) (l : Lit) : Bool := decide (∃ e, KOk fam e ∧ l = plit fam e)
open Classical in
theorem famK_eq {fam s : ByteArray} {e : Int} (h : KOk s e) : famK fam (plit s e) = decide (s = fam) := by
  have h1 : famK fam (plit s e) = true ↔ s = fam := by
    unfold famK
    rw [decide_eq_true_iff]
    exact ⟨fun ⟨e', hk, he⟩ => (plit_inj h hk he).1, fun hs => ⟨e, hs ▸ h, by rw [hs]⟩⟩
  by_cases hs : s = fam
  · rw [h1.2 hs, decide_eq_true hs]
  · rw [decide_eq_false hs]
    cases hf : famK fam (plit s e)
    · rfl
    · exact absurd (h1.1 hf) hs
end Go.Proofs.Ytigeccflfdekiaa
