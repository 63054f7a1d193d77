/-
  The plain law: what is written is read.
-/
import Derived.Test.YtnlfnjadadfhkaaWireU
namespace Go.Proofs.Ytnlfnjadadfhkaa
set_option linter.unusedVariables false

theorem Rd.num_back (most t : Nat) : True := trivial
theorem Rd.numF_back (most : Nat) (f : Nat) : ∀ (k acc m : Nat) (t : List UInt8), k + f = 9 → (0 < k → 0 < m) → acc + 128 ^ k * m ≤ most → acc + 128 ^ k * m < 18446744073709551616 → Rd.numF most k acc (Wire.numF f m ++ t) = (acc + 128 ^ k * m, 0, t) := by
  induction f with
  | zero =>
    intro k acc m t hk hm hle hlt
    have hk9 : k = 9 := by omega
    subst hk9
    have hm0 := hm (by omega)
    have e : (128 : Nat) ^ 9 = 9223372036854775808 := by decide
    rw [e] at hlt hle ⊢
    have hm1 : m = 1 := by omega
    subst hm1
    show Rd.numF most 9 acc (UInt8.ofNat 1 :: t) = _
    rw [Rd.numF, if_neg (by decide), if_pos (by decide)]
    have e1 : (UInt8.ofNat 1).toNat = 1 := by decide
    rw [e1, e, if_pos hle]
  | succ f ih =>
    intro k acc m t hk hm hle hlt
    by_cases h : m < 128
    · rw [Wire.numF_low h]
      show Rd.numF most k acc (UInt8.ofNat m :: t) = _
      have e1 : (UInt8.ofNat m).toNat = m := by rw [UInt8.toNat_ofNat']; omega
      rw [Rd.numF, e1, if_neg (by omega), if_pos h, if_pos hle]
    · rw [Wire.numF_high (by omega)]
      show Rd.numF most k acc (UInt8.ofNat (m % 128 + 128) :: (Wire.numF f (m / 128) ++ t)) = _
      have e1 : (UInt8.ofNat (m % 128 + 128)).toNat = m % 128 + 128 := by rw [UInt8.toNat_ofNat']; omega
      have e2 : acc + 128 ^ k * (m % 128) + 128 ^ (k + 1) * (m / 128) = acc + 128 ^ k * m := by
        rw [Nat.pow_succ, Nat.mul_assoc, Nat.add_assoc, ← Nat.mul_add]
        congr 2
        omega
      rw [Rd.numF, e1, if_neg (by omega), if_neg (by omega), Nat.add_sub_cancel, ih (k + 1) (acc + 128 ^ k * (m % 128)) (m / 128) t (by omega) (fun _ => by omega) (by rw [e2]; exact hle) (by rw [e2]; exact hlt), e2]
theorem Rd.num_of (most n : Nat) (t : List UInt8) (h : n ≤ most) (h2 : n < 18446744073709551616) : Rd.numB 0 most (Wire.num n ++ t) = (n, 0, t) := by
  unfold Rd.numB
  rw [if_pos rfl]
  unfold Rd.num Wire.num
  rw [Rd.numF_back most 9 0 0 n t rfl (fun h => by omega) (by simpa using h) (by simpa using h2)]
  simp
theorem Rd.unzig_zig (n : Int) (hn : -9223372036854775808 ≤ n ∧ n ≤ 9223372036854775807) : Rd.unzig (Wire.zig n) = n := by
  unfold Rd.unzig Wire.zig
  by_cases h : n < 0
  · rw [if_pos h, if_pos (by omega)]; omega
  · rw [if_neg h, if_neg (by omega)]; omega
theorem Rd.word_of (s t : List UInt8) (h : s.length ≤ 65536) : Rd.wordB 0 (Wire.text s ++ t) = (s, 0, t) := by
  unfold Rd.wordB Wire.text
  rw [List.append_assoc, Rd.num_of 65536 s.length _ h (by omega)]
  simp only
  rw [if_neg (by decide), if_neg (by simp; omega), List.take_of_length_le h]
  simp
theorem Rd.words_of (l : List ByteArray) (t : List UInt8) (h : ∀ s ∈ l, s.data.toList.length ≤ 65536) : Rd.wordsB l.length (Wire.texts l ++ t) = (l, 0, t) := by
  induction l with
  | nil => simp [Rd.wordsB, Wire.texts]
  | cons s r ih =>
    rw [List.length_cons, Rd.wordsB, Wire.texts_cons, List.append_assoc, Rd.word_of _ _ (h s (by simp))]
    simp only
    rw [if_neg (by decide), ih (fun s hs => h s (by simp [hs]))]
    simp only
    rw [if_neg (by decide), strB_eq]
/-- what is read of what was written -/
def Put.back (p : Put) : Put := ⟨p.kind, if p.kind = 0 ∨ p.kind = 3 then p.n else if p.kind = 2 ∧ p.n = 1 then 1 else 0, if p.kind = 1 then p.s else ByteArray.empty, if p.kind = 4 then p.l else []⟩
/-- .. where nothing was too long, or wrong -/
def Put.Fits (p : Put) : Prop := (p.kind = 1 → p.s.data.toList.length ≤ 65536) ∧ (p.kind = 3 → 0 ≤ p.n ∧ p.n ≤ 4096) ∧ (p.kind = 4 → p.l.length ≤ 4096 ∧ ∀ s ∈ p.l, s.data.toList.length ≤ 65536)
theorem Rd.read_of (p : Put) (t : List UInt8) (hp : p.Ok) (hf : p.Fits) : Rd.read p.kind 0 (Wire.putB p ++ t) = (p.back, 0, t) := by
  obtain ⟨f1, f3, f4⟩ := hf
  obtain ⟨kind, n, s, l⟩ := p
  simp only at f1 f3 f4
  by_cases h0 : kind = 0
  · subst h0
    rw [Rd.read_0]
    have e : Wire.putB ⟨0, n, s, l⟩ = Wire.num (Wire.zig n) := rfl
    have hz := zig_lt n hp.2.1
    rw [e, Rd.num_of _ _ _ (by omega) hz]
    simp [Put.back, Rd.unzig_zig n hp.2.1]
  by_cases h1 : kind = 1
  · subst h1
    rw [Rd.read_1]
    have e : Wire.putB ⟨1, n, s, l⟩ = Wire.text s.data.toList := rfl
    rw [e, Rd.word_of _ _ (f1 rfl)]
    simp [Put.back, strB_eq]
  by_cases h2 : kind = 2
  · subst h2
    rw [Rd.read_2]
    by_cases hn : n = 1
    · have e : Wire.putB ⟨2, n, s, l⟩ = Wire.num 1 := by unfold Wire.putB; simp [hn]; rfl
      rw [e, Rd.num_of _ _ _ (by omega) (by omega)]
      simp [Put.back, hn]
    · have e : Wire.putB ⟨2, n, s, l⟩ = Wire.num 0 := by unfold Wire.putB; simp [hn]; rfl
      rw [e, Rd.num_of _ _ _ (by omega) (by omega)]
      simp [Put.back, hn]
  by_cases h3 : kind = 3
  · subst h3
    obtain ⟨n0, n1⟩ := f3 rfl
    rw [Rd.read_3]
    have e : Wire.putB ⟨3, n, s, l⟩ = Wire.num n.toNat := by unfold Wire.putB Wire.cnt; simp; omega
    rw [e, Rd.num_of _ _ _ (by omega) (by omega)]
    simp [Put.back]; omega
  by_cases h4 : kind = 4
  · subst h4
    obtain ⟨n0, n1⟩ := f4 rfl
    rw [Rd.read_4]
    have e : Wire.putB ⟨4, n, s, l⟩ = Wire.num l.length ++ Wire.texts l := by unfold Wire.putB; simp; omega
    unfold Rd.textsB
    rw [e, List.append_assoc, Rd.num_of _ _ _ n0 (by omega)]
    simp only
    rw [if_neg (by decide), Rd.words_of l t n1]
    simp [Put.back]
  · rw [Rd.read_5 kind 0 _ h0 h1 h2 h3 h4]
    have e : Wire.putB ⟨kind, n, s, l⟩ = [] := by unfold Wire.putB; simp [h0, h1, h2, h3, h4]
    rw [e]
    simp [Put.back, h0, h1, h2, h3, h4]
theorem Wire.putBad_zero {p : Put} {b : Int} (h : Wire.putBad p b = 0) : b = 0 ∧ (p.kind = 3 → 0 ≤ p.n ∧ p.n ≤ 4096) ∧ (p.kind = 4 → p.l.length ≤ 4096) := by
  unfold Wire.putBad Wire.cntBad Wire.first at h
  by_cases h3 : p.kind = 3
  · rw [if_pos h3] at h
    by_cases hn : p.n < 0 ∨ 4096 < p.n
    · rw [if_pos hn] at h
      by_cases hb : b = 0
      · rw [if_pos hb] at h; omega
      · rw [if_neg hb] at h; exact absurd h hb
    · rw [if_neg hn] at h
      exact ⟨h, fun _ => by omega, fun h4 => by omega⟩
  · rw [if_neg h3] at h
    by_cases h4 : p.kind = 4
    · rw [if_pos h4] at h
      by_cases hl : p.l.length ≤ 4096
      · rw [if_pos hl] at h
        exact ⟨h, fun h => absurd h h3, fun _ => hl⟩
      · rw [if_neg hl] at h
        by_cases hb : b = 0
        · rw [if_pos hb] at h; omega
        · rw [if_neg hb] at h; exact absurd h hb
    · rw [if_neg h4] at h
      exact ⟨h, fun h => absurd h h3, fun h => absurd h h4⟩
theorem Wire.fold_zero (ps : List Put) (b : Int) (h : ps.foldl (fun b p => Wire.putBad p b) b = 0) : b = 0 ∧ ∀ p ∈ ps, (p.kind = 3 → 0 ≤ p.n ∧ p.n ≤ 4096) ∧ (p.kind = 4 → p.l.length ≤ 4096) := by
  induction ps generalizing b with
  | nil => exact ⟨h, by simp⟩
  | cons p t ih =>
    obtain ⟨h1, h2⟩ := ih _ h
    obtain ⟨h3, h4⟩ := Wire.putBad_zero h1
    refine ⟨h3, fun q hq => ?_⟩
    rcases List.mem_cons.1 hq with rfl | hq
    · exact h4
    · exact h2 q hq
theorem Wire.texts_mem (l : List ByteArray) (s : ByteArray) (h : s ∈ l) : (Wire.text s.data.toList).length ≤ (Wire.texts l).length := by
  induction l with
  | nil => cases h
  | cons x t ih =>
    rw [Wire.texts_cons, List.length_append]
    rcases List.mem_cons.1 h with rfl | h
    · omega
    · have := ih h; omega
theorem Wire.bytesOf_mem (ps : List Put) (p : Put) (h : p ∈ ps) : (Wire.putB p).length ≤ (Wire.bytesOf ps).length := by
  induction ps with
  | nil => cases h
  | cons x t ih =>
    unfold Wire.bytesOf at ih ⊢
    simp only [List.map_cons, List.flatten_cons, List.length_append]
    rcases List.mem_cons.1 h with rfl | h
    · omega
    · have := ih h; omega
theorem Wire.out_fits {ps : List Put} (h : (Wire.out ps).2 = 0) : Wire.badOf ps = 0 ∧ (Wire.bytesOf ps).length ≤ 65536 ∧ (Wire.out ps).1 = Wire.frame (Wire.bytesOf ps) ∧ ∀ p ∈ ps, p.Fits := by
  unfold Wire.out Wire.said at h ⊢
  by_cases hb : Wire.badOf ps = 0
  · rw [if_neg (by simp [hb])] at h ⊢
    by_cases hl : 65536 < (Wire.bytesOf ps).length
    · rw [if_pos hl] at h; cases h
    · rw [if_neg hl]
      refine ⟨hb, by omega, rfl, fun p hp => ?_⟩
      obtain ⟨_, hz⟩ := Wire.fold_zero ps 0 hb
      have hm := Wire.bytesOf_mem ps p hp
      refine ⟨fun h1 => ?_, (hz p hp).1, fun h4 => ⟨(hz p hp).2 h4, fun s hs => ?_⟩⟩
      · have e : Wire.putB p = Wire.text p.s.data.toList := by unfold Wire.putB; simp [h1]
        rw [e] at hm
        exact Wire.text_short (by omega)
      · have hl4 := (hz p hp).2 h4
        have e : Wire.putB p = Wire.num p.l.length ++ Wire.texts p.l := by unfold Wire.putB; simp [h4]; omega
        rw [e, List.length_append] at hm
        have := Wire.texts_mem p.l s hs
        exact Wire.text_short (by omega)
  · rw [if_pos hb] at h
    exact absurd h hb
theorem Rd.said_four (n : Nat) (t : List UInt8) (h : n < 4294967296) : Rd.said (Wire.four n ++ t) = n := by
  unfold Wire.four
  show (UInt8.ofNat (n / 16777216 % 256)).toNat * 16777216 + (UInt8.ofNat (n / 65536 % 256)).toNat * 65536 + (UInt8.ofNat (n / 256 % 256)).toNat * 256 + (UInt8.ofNat (n % 256)).toNat = n
  rw [UInt8.toNat_ofNat', UInt8.toNat_ofNat', UInt8.toNat_ofNat', UInt8.toNat_ofNat']
  omega
theorem Wire.frame_drop (bs : List UInt8) : (Wire.frame bs).drop 8 = bs := by
  unfold Wire.frame Wire.four
  rfl
theorem Wire.frame_drop4 (bs : List UInt8) : (Wire.frame bs).drop 4 = Wire.four (Crc.more 0 bs) ++ bs := by
  unfold Wire.frame Wire.four
  rfl
theorem Rd.open_frame (bs : List UInt8) (h : bs.length ≤ 65536) : Rd.open (Wire.frame bs) = 0 := by
  unfold Rd.open
  have e1 : Rd.said (Wire.frame bs) = bs.length := by unfold Wire.frame; rw [List.append_assoc]; exact Rd.said_four _ _ (by omega)
  have e2 : Rd.said ((Wire.frame bs).drop 4) = Crc.more 0 bs := by rw [Wire.frame_drop4]; exact Rd.said_four _ _ (Crc.more_lt _ _)
  rw [e1, e2, Wire.frame_drop, frame_length, if_neg (by omega), if_neg (by omega), if_neg (by omega), if_neg (by omega), if_neg (by simp)]
end Go.Proofs.Ytnlfnjadadfhkaa
