/-
  Layer 1, the plain law, more: held bits by division, the last sign, hex, the basic way. No program in sight.
-/
import Derived.Test.YthfoaefdifbfaaaOctMath
namespace Go.Proofs.Ythfoaefdifbfaaa.Oct
set_option linter.unusedVariables false

theorem num_div {D : List Bool} {k : Nat} (h : k ≤ D.length) : num D / 2 ^ (D.length - k) = num (D.take k) ∧ num D % 2 ^ (D.length - k) = num (D.drop k) := by
  have e := num_append (D.take k) (D.drop k)
  rw [List.take_append_drop, List.length_drop] at e
  have hl := num_lt (D.drop k)
  rw [List.length_drop] at hl
  rw [e]
  refine ⟨?_, ?_⟩
  · rw [Nat.add_comm, Nat.add_mul_div_right _ _ (Nat.two_pow_pos _), Nat.div_eq_of_lt hl, Nat.zero_add]
  · rw [Nat.add_comm, Nat.add_mul_mod_self_right, Nat.mod_eq_of_lt hl]
theorem inner_lt {L : List Bool} {g nb h : Nat} (hl : L.length = 6 * g + nb) (hh : h = num (L.drop (6 * g))) : h < 2 ^ nb := by
  rw [hh]
  have := num_lt (L.drop (6 * g))
  rwa [List.length_drop, show L.length - 6 * g = nb by omega] at this
theorem inner_step {L : List Bool} {g k h : Nat} (hl : L.length = 6 * g + (k + 6)) (hh : h = num (L.drop (6 * g))) : h / 2 ^ k = grp 6 L g ∧ h % 2 ^ k = num (L.drop (6 * (g + 1))) ∧ grp 6 L g < 64 := by
  have := num_div (D := L.drop (6 * g)) (k := 6) (by rw [List.length_drop]; omega)
  rw [← hh, List.length_drop, show L.length - 6 * g - 6 = k by omega, List.drop_drop] at this
  exact ⟨this.1, this.2, grp_lt 6 L g⟩
theorem inner_lt8 {L : List Bool} {g nb h : Nat} (hl : L.length = 8 * g + nb) (hh : h = num (L.drop (8 * g))) : h < 2 ^ nb := by
  rw [hh]
  have := num_lt (L.drop (8 * g))
  rwa [List.length_drop, show L.length - 8 * g = nb by omega] at this
theorem inner_step8 {L : List Bool} {g k h : Nat} (hl : L.length = 8 * g + (k + 8)) (hh : h = num (L.drop (8 * g))) : h / 2 ^ k = grp 8 L g ∧ h % 2 ^ k = num (L.drop (8 * (g + 1))) ∧ grp 8 L g < 256 := by
  have := num_div (D := L.drop (8 * g)) (k := 8) (by rw [List.length_drop]; omega)
  rw [← hh, List.length_drop, show L.length - 8 * g - 8 = k by omega, List.drop_drop] at this
  exact ⟨this.1, this.2, grp_lt 8 L g⟩
theorem num_pad (D : List Bool) (k : Nat) : num (D ++ List.replicate k false) = num D * 2 ^ k := by rw [num_append, num_zeros, List.length_replicate, Nat.add_zero]
theorem num_more8 (D : List Bool) (x : UInt8) : num (D ++ bits8 x.toNat) = num D * 256 + x.toNat := by rw [num_append, num_bits8 _ x.toNat_lt, bits8_length]
theorem num_more6 (D : List Bool) {v : Nat} (h : v < 64) : num (D ++ bits6 v) = num D * 64 + v := by rw [num_append, num_bits6 _ h, bits6_length]
theorem grp_eq (k : Nat) (L : List Bool) (g : Nat) : grp k L g = num ((L.drop (k * g)).take k) := rfl
theorem six_fill_even (signs : List UInt8) {L : List Bool} (h : L.length % 6 = 0) : six signs (fill6 L) = (grps 6 L (L.length / 6)).map (signs.getD · 0) := by
  have e : fill6 L = L := by unfold fill6; rw [h]; simp
  rw [e]; rfl
theorem six_fill_odd (signs : List UInt8) {L : List Bool} (h : 0 < L.length % 6) : six signs (fill6 L) = (grps 6 L (L.length / 6)).map (signs.getD · 0) ++ [signs.getD (num (L.drop (6 * (L.length / 6))) * 2 ^ (6 - L.length % 6)) 0] := by
  have e : fill6 L = L ++ List.replicate (6 - L.length % 6) false := by
    unfold fill6
    congr 2
    omega
  unfold six
  rw [e, List.length_append, List.length_replicate, show (L.length + (6 - L.length % 6)) / 6 = L.length / 6 + 1 by omega, grps_succ, List.map_append, grps_append (by omega)]
  congr 1
  rw [List.map_singleton, grp_eq, List.drop_append_of_le_length (by omega), List.take_of_length_le (by simp; omega), num_pad]
theorem or_low {a k b : Nat} (h : b < 2 ^ k) : a * 2 ^ k ||| b = a * 2 ^ k + b := by
  rw [Nat.mul_comm, Nat.two_pow_add_eq_or_of_lt h]

theorem textBits_snoc (signs s : List UInt8) (c : UInt8) {v : Nat} (h : place signs c = some v) : textBits signs (s ++ [c]) = textBits signs s ++ bits6 v := by
  unfold textBits vals
  simp [h]
theorem unweb_none {signs s : List UInt8} {c : UInt8} {i : Nat} (h1 : s[i]? = some c) (h2 : place signs c = none) : unwebL signs s = none := by
  unfold unwebL
  rw [if_pos (.inr (.inl ⟨c, List.mem_of_getElem? h1, h2⟩))]
theorem unweb_short {signs s : List UInt8} (h : s.length % 4 = 1) : unwebL signs s = none := by
  unfold unwebL
  rw [if_pos (.inl h)]
theorem unweb_end {signs s : List UInt8} {g h : Nat} (h4 : s.length % 4 ≠ 1) (hv : ∀ (j : Nat) c, s[j]? = some c → place signs c ≠ none) (hg : (textBits signs s).length / 8 = g) (hh : h = num ((textBits signs s).drop (8 * g))) :
    unwebL signs s = if h = 0 then some ((grps 8 (textBits signs s) g).map UInt8.ofNat) else none := by
  unfold unwebL
  rw [hg, ← hh]
  by_cases h0 : h = 0
  · rw [if_pos h0, if_neg]
    · unfold bytesOf; rw [hg]
    · rintro (h | ⟨c, hc, h⟩ | h)
      · exact h4 h
      · obtain ⟨j, hj, he⟩ := List.mem_iff_getElem.1 hc
        exact hv j c (by rw [List.getElem?_eq_getElem hj, he]) h
      · exact h h0
  · rw [if_neg h0, if_pos (.inr (.inr h0))]
/-- by sixteen -/
def hexL (bs : List UInt8) : List UInt8 := bs.flatMap fun b => [hexS.getD (b.toNat / 16) 0, hexS.getD (b.toNat % 16) 0]
def unhexL : List UInt8 → Option (List UInt8)
  | [] => some []
  | [_] => none
  | a :: b :: r => match place hexS a, place hexS b, unhexL r with
    | some i, some j, some t => some (UInt8.ofNat (16 * i + j) :: t)
    | _, _, _ => none
theorem hexL_snoc (bs : List UInt8) (b : UInt8) : hexL (bs ++ [b]) = hexL bs ++ [hexS.getD (b.toNat / 16) 0, hexS.getD (b.toNat % 16) 0] := by simp [hexL]
theorem hexL_append (a b : List UInt8) : hexL (a ++ b) = hexL a ++ hexL b := by simp [hexL]
theorem hexL_length (bs : List UInt8) : (hexL bs).length = 2 * bs.length := by
  induction bs with
  | nil => rfl
  | cons b r ih => rw [hexL, List.flatMap_cons, List.length_append, ← hexL, ih]; simp; omega
theorem hex_place : ∀ i, i < 16 → place hexS (hexS.getD i 0) = some i := by decide +kernel
theorem hexS_len : hexS.length = 16 := rfl
theorem unhex_hex (bs : List UInt8) : unhexL (hexL bs) = some bs := by
  induction bs with
  | nil => rfl
  | cons b r ih =>
    have hb := b.toNat_lt
    rw [hexL, List.flatMap_cons, ← hexL]
    simp only [List.cons_append, List.nil_append]
    unfold unhexL
    rw [hex_place _ (by omega), hex_place _ (by omega), ih]
    simp only [Option.some.injEq, List.cons.injEq, and_true]
    apply UInt8.toNat_inj.1
    rw [UInt8.toNat_ofNat']
    omega
theorem hex_unhex : ∀ (s bs : List UInt8), unhexL s = some bs → hexL bs = s
  | [], bs, h => by simp [unhexL] at h; subst h; rfl
  | [_], bs, h => by simp [unhexL] at h
  | a :: b :: r, bs, h => by
    unfold unhexL at h
    split at h
    · rename_i i j t hi hj ht
      injection h with h
      subst h
      have h1 := place_some hi
      have h2 := place_some hj
      have l1 : i < 16 := h1.2
      have l2 : j < 16 := h2.2
      have e : (UInt8.ofNat (16 * i + j)).toNat = 16 * i + j := by rw [UInt8.toNat_ofNat']; omega
      rw [hexL, List.flatMap_cons, ← hexL, hex_unhex r t ht, e, show (16 * i + j) / 16 = i by omega, show (16 * i + j) % 16 = j by omega, getD_eq h1.1, getD_eq h2.1]
      rfl
    · cases h

/-- the basic way: filled up by '=' to a multiple of four -/
def basicL (bs : List UInt8) : List UInt8 := webL basicS bs ++ List.replicate ((4 - (webL basicS bs).length % 4) % 4) 61
theorem basicL_length (bs : List UInt8) : (basicL bs).length = (bs.length + 2) / 3 * 4 := by
  unfold basicL
  rw [List.length_append, List.length_replicate, webL_length]
  omega
/-- how many '=' are off -/
def eqs (s : List UInt8) : Nat := if s.getLast? = some 61 then (if s.dropLast.getLast? = some 61 then 2 else 1) else 0
def unbasicL (s : List UInt8) : Option (List UInt8) := if s.length % 4 ≠ 0 then none else unwebL basicS (s.take (s.length - eqs s))
theorem eqs_le (s : List UInt8) : eqs s ≤ 2 ∧ eqs s ≤ s.length := by
  unfold eqs
  rcases s.eq_nil_or_concat with rfl | ⟨r, c, rfl⟩
  · simp
  · simp only [List.concat_eq_append, List.getLast?_concat, List.dropLast_concat]
    rcases r.eq_nil_or_concat with rfl | ⟨t, d, rfl⟩
    · simp; split <;> omega
    · simp only [List.concat_eq_append, List.getLast?_concat]; split
      · split <;> simp
      · simp
theorem eqs_pad {t : List UInt8} (h : (61 : UInt8) ∉ t) {k : Nat} (hk : k ≤ 2) : eqs (t ++ List.replicate k 61) = k := by
  have hl : t.getLast? ≠ some 61 := fun e => h (List.mem_of_getLast? e)
  have h0 : k = 0 ∨ k = 1 ∨ k = 2 := by omega
  rcases h0 with rfl | rfl | rfl
  · simp [eqs, hl]
  · unfold eqs; simp [List.replicate, hl]
  · unfold eqs; rw [show List.replicate 2 (61 : UInt8) = [61] ++ [61] from rfl, ← List.append_assoc]; simp
theorem web_noEq {signs : List UInt8} (hS : Signs signs) (bs : List UInt8) : (61 : UInt8) ∉ webL signs bs := fun h => hS.noEq (six_valid hS _ h).2
theorem pad_le (bs : List UInt8) : (4 - (webL basicS bs).length % 4) % 4 ≤ 2 := by rw [webL_length]; omega
theorem unbasic_basic (bs : List UInt8) : unbasicL (basicL bs) = some bs := by
  unfold unbasicL
  rw [if_neg (by rw [basicL_length]; omega)]
  have hk := eqs_pad (web_noEq basicS_ok bs) (pad_le bs)
  rw [← basicL] at hk
  rw [hk]
  unfold basicL
  rw [List.length_append, List.length_replicate, Nat.add_sub_cancel, List.take_left]
  exact unweb_web basicS_ok bs
theorem eqs_drop {s : List UInt8} : s = s.take (s.length - eqs s) ++ List.replicate (eqs s) 61 := by
  unfold eqs
  rcases s.eq_nil_or_concat with rfl | ⟨r, c, rfl⟩
  · simp
  · simp only [List.concat_eq_append, List.getLast?_concat, List.dropLast_concat]
    rcases r.eq_nil_or_concat with rfl | ⟨t, d, rfl⟩
    · by_cases h : c = 61
      · subst h; simp
      · simp [h]
    · simp only [List.concat_eq_append, List.getLast?_concat]
      by_cases h : c = 61
      · by_cases h2 : d = 61
        · subst h h2; simp
        · subst h; simp [h2, List.take_append, show t.length + 1 - t.length = 1 by omega, List.take_of_length_le (show t.length ≤ t.length + 1 by omega)]
      · simp [h, List.take_of_length_le]
theorem basic_unbasic {s bs : List UInt8} (h : unbasicL s = some bs) : basicL bs = s := by
  unfold unbasicL at h
  split at h
  · cases h
  · rename_i h4
    have hw := web_unweb basicS_ok h
    have he := eqs_le s
    unfold basicL
    rw [hw, List.length_take]
    conv => rhs; rw [eqs_drop (s := s)]
    congr 2
    omega
/-- the document's way, off k signs -/
theorem unbasic_at {s bs : List UInt8} {k : Nat} (hk : k ≤ 2) (hl : k ≤ s.length) (h : basicL (bytesOf (textBits basicS (s.take (s.length - k)))) = s) : unbasicL s = some (bytesOf (textBits basicS (s.take (s.length - k)))) := by
  have := unbasic_basic (bytesOf (textBits basicS (s.take (s.length - k))))
  rwa [h] at this
theorem unbasic_of {s bs : List UInt8} (h : unbasicL s = some bs) : bytesOf (textBits basicS (s.take (s.length - eqs s))) = bs ∧ basicL bs = s := by
  refine ⟨?_, basic_unbasic h⟩
  unfold unbasicL at h
  split at h
  · cases h
  · unfold unwebL at h
    split at h
    · cases h
    · injection h
theorem eqs_is {s : List UInt8} {q : Nat} (h1 : q ≤ s.length) (h2 : s.length ≤ q + 2) (hall : ∀ (j : Nat), q ≤ j → j < s.length → s[j]? = some 61) (hend : q = 0 ∨ s.length = q + 2 ∨ s[q - 1]? ≠ some 61) : s.length - eqs s = q := by
  have e1 : s.getLast? = s[s.length - 1]? := List.getLast?_eq_getElem?
  have e2 : 2 ≤ s.length → s.dropLast.getLast? = s[s.length - 2]? := by
    intro h
    rw [List.getLast?_eq_getElem?, List.length_dropLast, List.dropLast_eq_take, List.getElem?_take, if_pos (by omega)]
    congr 1
  have hk : q = s.length ∨ q + 1 = s.length ∨ q + 2 = s.length := by omega
  rcases hk with hk | hk | hk
  · have h0 : s.getLast? ≠ some 61 := by
      rw [e1]
      rcases hend with h | h | h
      · intro hh
        rw [List.getElem?_eq_none (by omega)] at hh; cases hh
      · omega
      · rwa [← hk]
    unfold eqs
    rw [if_neg h0]; omega
  · have h0 : s.getLast? = some 61 := by rw [e1]; exact hall _ (by omega) (by omega)
    have h3 : s.dropLast.getLast? ≠ some 61 := by
      rcases Nat.lt_or_ge s.length 2 with hs | hs
      · have : s.dropLast = [] := List.eq_nil_of_length_eq_zero (by rw [List.length_dropLast]; omega)
        rw [this]; simp
      · rw [e2 hs]
        rcases hend with h | h | h
        · omega
        · omega
        · rwa [show s.length - 2 = q - 1 by omega]
    unfold eqs
    rw [if_pos h0, if_neg h3]; omega
  · have h0 : s.getLast? = some 61 := by rw [e1]; exact hall _ (by omega) (by omega)
    have h3 : s.dropLast.getLast? = some 61 := by rw [e2 (by omega)]; exact hall _ (by omega) (by omega)
    unfold eqs
    rw [if_pos h0, if_pos h3]; omega
theorem unbasic_short {s : List UInt8} (h : s.length % 4 ≠ 0) : unbasicL s = none := by unfold unbasicL; rw [if_pos h]
theorem unbasic_on {s : List UInt8} (h : ¬ s.length % 4 ≠ 0) : unbasicL s = unwebL basicS (s.take (s.length - eqs s)) := by unfold unbasicL; rw [if_neg h]
end Go.Proofs.Ythfoaefdifbfaaa.Oct
