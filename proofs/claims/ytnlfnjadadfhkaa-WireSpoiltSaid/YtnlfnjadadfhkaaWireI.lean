/-
  The plain law: what the program writes is what the document says.
-/
import Derived.Test.YtnlfnjadadfhkaaWireH
namespace Go.Proofs.Ytnlfnjadadfhkaa
set_option linter.unusedVariables false

def Wire.rout (ps : List Put) : List UInt8 × Int := if Wire.rbadOf ps = true then ([], 3) else if 65536 < (Wire.rbytesOf ps).length then ([], 2) else (Wire.frame (Wire.rbytesOf ps), 0)
/-- the same, or both too long -/
def Wire.Rel (pb rb : List UInt8) : Prop := (pb.length ≤ 65536 → rb = pb) ∧ (65536 < pb.length → 65536 < rb.length)
theorem Wire.text_of {s : List UInt8} (h : s.length ≤ 65536) : Wire.text s = Wire.rtext s := by
  unfold Wire.text Wire.rtext
  rw [List.take_of_length_le h, List.take_of_length_le (by omega)]
theorem Wire.text_le (s : List UInt8) : (Wire.text s).length ≤ (Wire.rtext s).length := by
  unfold Wire.text Wire.rtext; simp; omega
theorem Wire.text_short {s : List UInt8} (h : (Wire.text s).length ≤ 65536) : s.length ≤ 65536 := by
  unfold Wire.text at h
  simp only [List.length_append, List.length_take] at h
  have := Wire.numF_pos 9 s.length
  unfold Wire.num at h
  omega
theorem Wire.rtexts_ge (l : List ByteArray) (b : List UInt8) : b.length ≤ (Wire.rtexts l b).length := by
  induction l generalizing b with
  | nil => exact Nat.le_refl _
  | cons s t ih =>
    unfold Wire.rtexts
    split
    · have := ih (b ++ Wire.rtext s.data.toList); simp only [List.length_append] at this; omega
    · exact Nat.le_refl _
theorem Wire.texts_cons (s : ByteArray) (t : List ByteArray) : Wire.texts (s :: t) = Wire.text s.data.toList ++ Wire.texts t := by simp [Wire.texts]
theorem Wire.texts_rel (l : List ByteArray) (pb rb : List UInt8) (h : Wire.Rel pb rb) : Wire.Rel (pb ++ Wire.texts l) (Wire.rtexts l rb) := by
  induction l generalizing pb rb with
  | nil => simpa [Wire.texts, Wire.rtexts] using h
  | cons s t ih =>
    rw [Wire.texts_cons, ← List.append_assoc]
    unfold Wire.rtexts
    by_cases hl : pb.length ≤ 65536
    · obtain rfl := h.1 hl
      rw [if_pos hl]
      refine ih _ _ ⟨fun h1 => ?_, fun h1 => ?_⟩
      · simp only [List.length_append] at h1
        rw [Wire.text_of (Wire.text_short (s := s.data.toList) (by omega))]
      · have := Wire.text_le s.data.toList
        simp only [List.length_append] at h1 ⊢; omega
    · have h2 := h.2 (by omega)
      rw [if_neg (by omega)]
      exact ⟨fun h1 => by simp only [List.length_append] at h1; omega, fun _ => h2⟩
theorem Wire.cut_rel {pb rb : List UInt8} (h : Wire.Rel pb rb) : Wire.Rel pb (Wire.cut rb) := by
  unfold Wire.cut
  refine ⟨fun h1 => ?_, fun h1 => ?_⟩
  · have := h.1 h1; subst this; rw [if_neg (by omega)]
  · have h2 := h.2 h1
    rw [if_pos h2, List.length_take]; omega
theorem Wire.app_rel {pb rb : List UInt8} (h : Wire.Rel pb rb) (ys : List UInt8) : Wire.Rel (pb ++ ys) (rb ++ ys) := by
  refine ⟨fun h1 => ?_, fun h1 => ?_⟩
  · simp only [List.length_append] at h1; rw [h.1 (by omega)]
  · by_cases hl : pb.length ≤ 65536
    · rw [h.1 hl]; exact h1
    · have := h.2 (by omega); simp only [List.length_append]; omega
theorem Wire.step_rel {pb rb : List UInt8} (h : Wire.Rel pb rb) (p : Put) : Wire.Rel (pb ++ Wire.putB p) (Wire.rstep rb p) := by
  have hc := Wire.cut_rel h
  unfold Wire.putB Wire.rstep
  split
  · exact Wire.app_rel hc _
  split
  · refine ⟨fun h1 => ?_, fun h1 => ?_⟩
    · simp only [List.length_append] at h1
      rw [hc.1 (by omega), Wire.text_of (Wire.text_short (s := p.s.data.toList) (by omega))]
    · have ht := Wire.text_le p.s.data.toList
      by_cases hl : pb.length ≤ 65536
      · rw [hc.1 hl]; simp only [List.length_append] at h1 ⊢; omega
      · have := hc.2 (by omega); simp only [List.length_append]; omega
  split
  · exact Wire.app_rel hc _
  split
  · exact Wire.app_rel hc _
  split
  · split
    · rw [← List.append_assoc]; exact Wire.texts_rel _ _ _ (Wire.app_rel hc _)
    · rw [List.append_nil]; exact hc
  · rw [List.append_nil]; exact hc
theorem Wire.fold_rel (ps : List Put) (pb rb : List UInt8) (h : Wire.Rel pb rb) : Wire.Rel (pb ++ Wire.bytesOf ps) (ps.foldl Wire.rstep rb) := by
  induction ps generalizing pb rb with
  | nil => simpa [Wire.bytesOf] using h
  | cons p t ih =>
    have := ih (pb ++ Wire.putB p) (Wire.rstep rb p) (Wire.step_rel h p)
    rw [List.append_assoc] at this
    simpa [Wire.bytesOf] using this
def Wire.RelE (bad : Int) (s : Bool) : Prop := (bad = 0 ∧ s = false) ∨ (bad = 3 ∧ s = true)
theorem Wire.stepE {bad : Int} {s : Bool} (h : Wire.RelE bad s) (p : Put) : Wire.RelE (Wire.putBad p bad) (Wire.rbad s p) := by
  unfold Wire.putBad Wire.rbad Wire.cntBad Wire.first
  by_cases h3 : p.kind = 3
  · rw [if_pos h3]
    by_cases hn : p.n < 0 ∨ 4096 < p.n
    · rw [if_pos hn]
      rcases h with ⟨rfl, rfl⟩ | ⟨rfl, rfl⟩ <;> exact .inr ⟨by decide, by simp [h3, hn]⟩
    · rw [if_neg hn]
      rcases h with ⟨rfl, rfl⟩ | ⟨rfl, rfl⟩
      · exact .inl ⟨rfl, by rw [decide_eq_false (fun h => hn h.2), decide_eq_false (fun h => by omega)]; rfl⟩
      · exact .inr ⟨rfl, by simp⟩
  · rw [if_neg h3]
    by_cases h4 : p.kind = 4
    · rw [if_pos h4]
      by_cases hn : p.l.length ≤ 4096
      · rw [if_pos hn]
        rcases h with ⟨rfl, rfl⟩ | ⟨rfl, rfl⟩
        · exact .inl ⟨rfl, by rw [decide_eq_false (fun h => h3 h.1), decide_eq_false (fun h => by omega)]; rfl⟩
        · exact .inr ⟨rfl, by simp⟩
      · rw [if_neg hn]
        rcases h with ⟨rfl, rfl⟩ | ⟨rfl, rfl⟩ <;> exact .inr ⟨by decide, by simp [h4, Nat.lt_of_not_le hn]⟩
    · rw [if_neg h4]
      rcases h with ⟨rfl, rfl⟩ | ⟨rfl, rfl⟩
      · exact .inl ⟨rfl, by simp [h3, h4]⟩
      · exact .inr ⟨rfl, by simp⟩
theorem Wire.foldE (ps : List Put) (bad : Int) (s : Bool) (h : Wire.RelE bad s) : Wire.RelE (ps.foldl (fun b p => Wire.putBad p b) bad) (ps.foldl Wire.rbad s) := by
  induction ps generalizing bad s with
  | nil => exact h
  | cons p t ih => exact ih _ _ (Wire.stepE h p)
theorem Wire.out_eq (ps : List Put) : Wire.out ps = Wire.rout ps := by
  have h1 := Wire.fold_rel ps [] [] ⟨fun _ => rfl, fun h => by simp at h⟩
  have h2 := Wire.foldE ps 0 false (.inl ⟨rfl, rfl⟩)
  rw [List.nil_append] at h1
  unfold Wire.out Wire.rout Wire.said
  change Wire.Rel (Wire.bytesOf ps) (Wire.rbytesOf ps) at h1
  change Wire.RelE (Wire.badOf ps) (Wire.rbadOf ps) at h2
  rcases h2 with ⟨hb, hs⟩ | ⟨hb, hs⟩
  · rw [hb, hs, if_neg (show ¬ ((0 : Int) ≠ 0) by decide), if_neg (show ¬ (false = true) by decide)]
    by_cases hl : 65536 < (Wire.bytesOf ps).length
    · rw [if_pos hl, if_pos (h1.2 hl)]
    · rw [h1.1 (by omega)]
  · rw [hb, hs, if_pos (show (3 : Int) ≠ 0 by decide), if_pos rfl]
/-- a frame holds at most so many bytes -/
theorem Wire.out_length (ps : List Put) : (Wire.out ps).1.length ≤ 65544 := by
  unfold Wire.out Wire.said
  split
  · simp
  split
  · simp
  · rw [frame_length]; omega
end Go.Proofs.Ytnlfnjadadfhkaa
