/-
  The plain law of spoilt frames.
-/
import Derived.Test.YtnlfnjadadfhkaaWireV
namespace Go.Proofs.Ytnlfnjadadfhkaa
set_option linter.unusedVariables false

theorem Rd.open_zero {f : List UInt8} (h : Rd.open f = 0) : 8 ≤ f.length ∧ Rd.said f = f.length - 8 ∧ Crc.more 0 (f.drop 8) = Rd.said (f.drop 4) := by
  unfold Rd.open at h
  split at h
  · cases h
  split at h
  · cases h
  split at h
  · cases h
  split at h
  · cases h
  split at h
  · cases h
  · rename_i h1 h2 h3 h4 h5
    exact ⟨by omega, by omega, Decidable.not_not.1 h5⟩
theorem u8_xor_ne {x h : UInt8} (hh : h ≠ 0) : (x ^^^ h).toNat ≠ x.toNat := by
  intro e
  have e1 : x ^^^ h = x := UInt8.toNat_inj.1 e
  have e2 : x ^^^ (x ^^^ h) = h := by rw [← UInt8.xor_assoc, UInt8.xor_self, UInt8.zero_xor]
  rw [e1, UInt8.xor_self] at e2
  exact hh e2.symm
theorem frame_form (bb : List UInt8) (hl : bb.length ≤ 65536) : ∃ a0 a1 a2 a3 c0 c1 c2 c3 : UInt8, Wire.frame bb = a0 :: a1 :: a2 :: a3 :: c0 :: c1 :: c2 :: c3 :: bb ∧ a0.toNat * 16777216 + a1.toNat * 65536 + a2.toNat * 256 + a3.toNat = bb.length ∧ c0.toNat * 16777216 + c1.toNat * 65536 + c2.toNat * 256 + c3.toNat = Crc.more 0 bb := by
  obtain ⟨h1, h2, h3⟩ := Rd.open_zero (Rd.open_frame bb hl)
  refine ⟨_, _, _, _, _, _, _, _, rfl, ?_, ?_⟩
  · have := Rd.said_four bb.length [] (by omega); exact this
  · have := Rd.said_four (Crc.more 0 bb) [] (Crc.more_lt _ _); exact this
/-- one byte is changed -/
theorem spoilt_one (bb : List UInt8) (hl : bb.length ≤ 65536) (k : Nat) (x h : UInt8) (hx : (Wire.frame bb)[k]? = some x) (hh : h ≠ 0) : Rd.open ((Wire.frame bb).set k (x ^^^ h)) ≠ 0 := by
  intro ho
  obtain ⟨o1, o2, o3⟩ := Rd.open_zero ho
  obtain ⟨a0, a1, a2, a3, c0, c1, c2, c3, hf, hn, hc⟩ := frame_form bb hl
  rw [hf] at hx o1 o2 o3
  have hne := u8_xor_ne (x := x) hh
  match k, hx with
  | 0, hx =>
    injection hx with hx; subst hx
    have e : Rd.said ((a0 :: a1 :: a2 :: a3 :: c0 :: c1 :: c2 :: c3 :: bb).set 0 (a0 ^^^ h)) = (a0 ^^^ h).toNat * 16777216 + a1.toNat * 65536 + a2.toNat * 256 + a3.toNat := rfl
    rw [e] at o2
    simp only [List.length_set, List.length_cons] at o2
    omega
  | 1, hx =>
    injection hx with hx; subst hx
    have e : Rd.said ((a0 :: a1 :: a2 :: a3 :: c0 :: c1 :: c2 :: c3 :: bb).set 1 (a1 ^^^ h)) = a0.toNat * 16777216 + (a1 ^^^ h).toNat * 65536 + a2.toNat * 256 + a3.toNat := rfl
    rw [e] at o2
    simp only [List.length_set, List.length_cons] at o2
    omega
  | 2, hx =>
    injection hx with hx; subst hx
    have e : Rd.said ((a0 :: a1 :: a2 :: a3 :: c0 :: c1 :: c2 :: c3 :: bb).set 2 (a2 ^^^ h)) = a0.toNat * 16777216 + a1.toNat * 65536 + (a2 ^^^ h).toNat * 256 + a3.toNat := rfl
    rw [e] at o2
    simp only [List.length_set, List.length_cons] at o2
    omega
  | 3, hx =>
    injection hx with hx; subst hx
    have e : Rd.said ((a0 :: a1 :: a2 :: a3 :: c0 :: c1 :: c2 :: c3 :: bb).set 3 (a3 ^^^ h)) = a0.toNat * 16777216 + a1.toNat * 65536 + a2.toNat * 256 + (a3 ^^^ h).toNat := rfl
    rw [e] at o2
    simp only [List.length_set, List.length_cons] at o2
    omega
  | 4, hx =>
    injection hx with hx; subst hx
    have e : Rd.said (((a0 :: a1 :: a2 :: a3 :: c0 :: c1 :: c2 :: c3 :: bb).set 4 (c0 ^^^ h)).drop 4) = (c0 ^^^ h).toNat * 16777216 + c1.toNat * 65536 + c2.toNat * 256 + c3.toNat := rfl
    have e2 : ((a0 :: a1 :: a2 :: a3 :: c0 :: c1 :: c2 :: c3 :: bb).set 4 (c0 ^^^ h)).drop 8 = bb := rfl
    rw [e, e2] at o3
    omega
  | 5, hx =>
    injection hx with hx; subst hx
    have e : Rd.said (((a0 :: a1 :: a2 :: a3 :: c0 :: c1 :: c2 :: c3 :: bb).set 5 (c1 ^^^ h)).drop 4) = c0.toNat * 16777216 + (c1 ^^^ h).toNat * 65536 + c2.toNat * 256 + c3.toNat := rfl
    have e2 : ((a0 :: a1 :: a2 :: a3 :: c0 :: c1 :: c2 :: c3 :: bb).set 5 (c1 ^^^ h)).drop 8 = bb := rfl
    rw [e, e2] at o3
    omega
  | 6, hx =>
    injection hx with hx; subst hx
    have e : Rd.said (((a0 :: a1 :: a2 :: a3 :: c0 :: c1 :: c2 :: c3 :: bb).set 6 (c2 ^^^ h)).drop 4) = c0.toNat * 16777216 + c1.toNat * 65536 + (c2 ^^^ h).toNat * 256 + c3.toNat := rfl
    have e2 : ((a0 :: a1 :: a2 :: a3 :: c0 :: c1 :: c2 :: c3 :: bb).set 6 (c2 ^^^ h)).drop 8 = bb := rfl
    rw [e, e2] at o3
    omega
  | 7, hx =>
    injection hx with hx; subst hx
    have e : Rd.said (((a0 :: a1 :: a2 :: a3 :: c0 :: c1 :: c2 :: c3 :: bb).set 7 (c3 ^^^ h)).drop 4) = c0.toNat * 16777216 + c1.toNat * 65536 + c2.toNat * 256 + (c3 ^^^ h).toNat := rfl
    have e2 : ((a0 :: a1 :: a2 :: a3 :: c0 :: c1 :: c2 :: c3 :: bb).set 7 (c3 ^^^ h)).drop 8 = bb := rfl
    rw [e, e2] at o3
    omega
  | j + 8, hx =>
    have hx' : bb[j]? = some x := hx
    have e : Rd.said (((a0 :: a1 :: a2 :: a3 :: c0 :: c1 :: c2 :: c3 :: bb).set (j + 8) (x ^^^ h)).drop 4) = c0.toNat * 16777216 + c1.toNat * 65536 + c2.toNat * 256 + c3.toNat := rfl
    have e2 : ((a0 :: a1 :: a2 :: a3 :: c0 :: c1 :: c2 :: c3 :: bb).set (j + 8) (x ^^^ h)).drop 8 = bb.set j (x ^^^ h) := rfl
    rw [e, e2, hc] at o3
    have hj : j < bb.length := (List.getElem?_eq_some_iff.1 hx').1
    have hxe : bb[j] = x := by rw [List.getElem?_eq_getElem hj] at hx'; injection hx'
    have s1 : bb.set j (x ^^^ h) = bb.take j ++ [x].zipWith (· ^^^ ·) [h] ++ bb.drop (j + 1) := by
      rw [List.set_eq_take_append_cons_drop, if_pos hj]; simp
    have s2 : bb = bb.take j ++ [x] ++ bb.drop (j + 1) := by
      rw [← hxe]; simp
    have hb := Crc.bursts (bb.take j) [x] (bb.drop (j + 1)) [h] rfl (by simp)
    rw [← s1, ← s2] at hb
    have := hb.1 o3 h (by simp)
    exact hh this
/-- some are cut off -/
theorem spoilt_less (bb : List UInt8) (hl : bb.length ≤ 65536) (n : Nat) (hn : n < bb.length + 8) (h0 : n ≠ 0) : Rd.open ((Wire.frame bb).take (bb.length + 8 - n)) ≠ 0 := by
  intro ho
  obtain ⟨o1, o2, o3⟩ := Rd.open_zero ho
  obtain ⟨a0, a1, a2, a3, c0, c1, c2, c3, hf, hn', hc⟩ := frame_form bb hl
  rw [hf] at o1 o2
  rw [List.length_take] at o1 o2
  simp only [List.length_cons] at o1 o2
  obtain ⟨j, hj⟩ : ∃ j, bb.length + 8 - n = j + 4 := ⟨bb.length + 8 - n - 4, by omega⟩
  rw [hj] at o2
  have e : Rd.said ((a0 :: a1 :: a2 :: a3 :: c0 :: c1 :: c2 :: c3 :: bb).take (j + 4)) = a0.toNat * 16777216 + a1.toNat * 65536 + a2.toNat * 256 + a3.toNat := rfl
  rw [e] at o2
  omega
/-- some are put behind -/
theorem spoilt_more (bb : List UInt8) (hl : bb.length ≤ 65536) (ms : List UInt8) (h0 : ms ≠ []) : Rd.open (Wire.frame bb ++ ms) ≠ 0 := by
  intro ho
  obtain ⟨o1, o2, o3⟩ := Rd.open_zero ho
  obtain ⟨a0, a1, a2, a3, c0, c1, c2, c3, hf, hn', hc⟩ := frame_form bb hl
  rw [hf] at o2
  have e : Rd.said ((a0 :: a1 :: a2 :: a3 :: c0 :: c1 :: c2 :: c3 :: bb) ++ ms) = a0.toNat * 16777216 + a1.toNat * 65536 + a2.toNat * 256 + a3.toNat := rfl
  rw [e] at o2
  simp only [List.length_append, List.length_cons] at o2
  have : ms.length ≠ 0 := fun h => h0 (List.eq_nil_of_length_eq_zero h)
  omega
end Go.Proofs.Ytnlfnjadadfhkaa
