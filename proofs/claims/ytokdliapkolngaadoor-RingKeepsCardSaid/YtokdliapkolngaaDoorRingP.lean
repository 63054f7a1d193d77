/-
  Ring: a name struck out of a row; Without, walked.
-/
import Derived.Test.YtokdliapkolngaaDoorRingO
import Derived.Deep.Upon
namespace Go.Proofs.YtokdliapkolngaaDoor
open Go.RowKit Go.Sort Go.Shelf
set_option linter.unusedVariables false

theorem below_setCellsR {B b : Nat} {a : World} (hb : B ≤ b) : ∀ (vs : List Value) (o : Nat) (w : World), Below B a w → Below B a (w.setCells b o vs)
  | [], _, _, h => h
  | v :: r, o, w, h => below_setCellsR hb r (o + 1) _ (h.setCell (p := ⟨b, o, none⟩) hb v)
theorem deleteS_any (base : Nat) (A : Option Addr) (n c i : Nat) (l : List ByteArray) (w : World) (ho : Own w base 9 A n c (l.map Value.string)) (hi : i < n) (hn : n ≤ 1000000) :
    Calls Tryd.prog 31 #[.slice A n c, .int .i64 i, .int .i64 ((i + 1 : Nat) : Int)] w fun e w' => e = .returned (.slice A (n - 1) c) ∧ Sl w' w'.heap.size A (n - 1) ((l.eraseIdx i).map Value.string) ∧ Below base w w' := by
  have hl : l.length = n := by simpa using ho.len
  have hos := OwnS.of_own ho
  obtain ⟨g, rfl, hown, hc, hf⟩ := hos.spot (by omega)
  have hge := hos.row_ge g hown
  have hlt := hos.row_lt g hown
  have hcap : n ≤ c ∧ c ≤ 9223372036854775807 := by
    rcases ho.2 with ⟨h, _⟩ | ⟨g', cap, cur, h1, _, _, h4, h5, _, _⟩
    · cases h
    · injection h1 with _ _ h3; subst h3; exact ⟨h4, h5⟩
  have hcell : ∀ j, j < n → w.cell? ⟨g, 0 + j, none⟩ = some (.string (l.getD j ByteArray.empty)) := fun j hj => by
    rw [Nat.zero_add]
    exact hc j _ (by rw [List.getElem?_map, List.getElem?_eq_getElem (by omega), List.getD_eq_getElem?_getD, List.getElem?_eq_getElem (by omega)]; rfl)
  have hcon := AnyG.slices_Delete_string_cells Tryd.deleteS g 0 n c i (i + 1) (fun j => l.getD j ByteArray.empty) w hcap.1 hcap.2 (by omega) (by omega) hcell (fun j hj => by rw [Nat.zero_add]; exact hf j)
  change Calls Tryd.prog 31 _ _ _ at hcon
  refine hcon.mono ?_
  rintro e w' ⟨rfl, q, rfl⟩
  have hstr : Lib.strsOf (fun j => l.getD j ByteArray.empty) n = l.map (fun s => s.data.toList) := by
    unfold Lib.strsOf
    apply List.ext_getElem
    · simp [hl]
    · intro j h1 h2
      simp at h1 h2
      simp [List.getD_eq_getElem?_getD, List.getElem?_eq_getElem h2]
  have hvs : (((Lib.strsOf (fun j => l.getD j ByteArray.empty) n).take i ++ (Lib.strsOf (fun j => l.getD j ByteArray.empty) n).drop (i + 1) ++ List.replicate (i + 1 - i) []).map encStr) = (l.eraseIdx i).map Value.string ++ [Value.string ByteArray.empty] := by
    rw [hstr, List.eraseIdx_eq_take_drop_succ]
    have hf : (encStr ∘ fun s : ByteArray => s.data.toList) = Value.string := by funext s; simp [encStr]
    simp [hf, encStr]
    rfl
  rw [hvs]
  refine ⟨by rw [show i + 1 - i = 1 by omega], ?_, ?_⟩
  · have hel : (l.eraseIdx i).length = n - 1 := by rw [List.length_eraseIdx]; simp [hl, hi]
    refine ⟨by simp [hel], fun _ => ⟨g, 0, rfl, ?_, fun j u hu => ?_⟩⟩
    · exact Nat.lt_of_lt_of_le hlt (below_setCellsR hge ((l.eraseIdx i).map Value.string ++ [Value.string ByteArray.empty]) 0 _ (below_drewN (Below.refl base w) q)).size
    · have hj : j < (l.eraseIdx i).length := by
        have := (List.getElem?_eq_some_iff.1 hu).1; simpa using this
      have h2 := World.cell?_setCells_in g ((l.eraseIdx i).map Value.string ++ [Value.string ByteArray.empty]) 0 (w.drewN q) (fun j hj => by
        have : j < n := by simp [hel] at hj; omega
        have h3 := hcell j this
        show (w.cell? _).isSome = true
        rw [h3]; rfl) j (by simp; omega)
      rw [h2, ← hu, List.getElem_append_left (by simpa using hj), List.getElem?_eq_getElem (by simpa using hj)]
  · exact below_setCellsR hge _ _ _ (below_drewN (Below.refl _ _) _)
end Go.Proofs.YtokdliapkolngaaDoor
