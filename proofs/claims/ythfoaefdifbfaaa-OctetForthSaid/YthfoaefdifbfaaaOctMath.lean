/-
  The plain law of layer 1: bytes as bits, bits by sixes as signs, and back. No program in sight.
-/
namespace Go.Proofs.Ythfoaefdifbfaaa.Oct

/-- a number of bits, the greatest first -/
def num (l : List Bool) : Nat := l.foldl (fun n b => 2 * n + b.toNat) 0
def bits8 (n : Nat) : List Bool := [n / 128 % 2 == 1, n / 64 % 2 == 1, n / 32 % 2 == 1, n / 16 % 2 == 1, n / 8 % 2 == 1, n / 4 % 2 == 1, n / 2 % 2 == 1, n / 1 % 2 == 1]
def bits6 (n : Nat) : List Bool := [n / 32 % 2 == 1, n / 16 % 2 == 1, n / 8 % 2 == 1, n / 4 % 2 == 1, n / 2 % 2 == 1, n / 1 % 2 == 1]
theorem num_from (l : List Bool) (a : Nat) : l.foldl (fun n b => 2 * n + b.toNat) a = a * 2 ^ l.length + num l := by
  induction l generalizing a with
  | nil => simp [num]
  | cons b r ih =>
    unfold num
    rw [List.foldl_cons, List.foldl_cons, ih, ih (2 * 0 + b.toNat), List.length_cons, Nat.pow_succ, Nat.add_mul]
    simp only [Nat.mul_zero, Nat.zero_add]
    rw [Nat.add_assoc, Nat.mul_comm 2 a, Nat.mul_assoc, Nat.mul_comm 2 (2 ^ r.length)]
theorem num_append (l m : List Bool) : num (l ++ m) = num l * 2 ^ m.length + num m := by
  conv => lhs; unfold num
  rw [List.foldl_append]
  exact num_from m _
theorem num_nil : num [] = 0 := rfl
theorem num_snoc (l : List Bool) (b : Bool) : num (l ++ [b]) = 2 * num l + b.toNat := by
  rw [num_append]; simp [num]; omega
theorem num_lt (l : List Bool) : num l < 2 ^ l.length := by
  have h : ∀ (n : Nat) (l : List Bool), l.length = n → num l < 2 ^ n := by
    intro n
    induction n with
    | zero => intro l h; rw [List.eq_nil_of_length_eq_zero h]; simp [num]
    | succ n ih =>
      intro l h
      have hne : l ≠ [] := by intro e; rw [e] at h; simp at h
      rw [← List.dropLast_concat_getLast hne, num_snoc]
      have := ih l.dropLast (by rw [List.length_dropLast]; omega)
      rw [Nat.pow_succ]
      have hb : (l.getLast hne).toNat ≤ 1 := by cases l.getLast hne <;> decide
      omega
  exact h _ l rfl
theorem num_zeros (k : Nat) : num (List.replicate k false) = 0 := by
  induction k with
  | zero => rfl
  | succ k ih => rw [List.replicate_succ', num_snoc, ih]; rfl
theorem num_eq_zero {l : List Bool} (h : num l = 0) : l = List.replicate l.length false := by
  have : ∀ (n : Nat) (l : List Bool), l.length = n → num l = 0 → l = List.replicate n false := by
    intro n
    induction n with
    | zero => intro l hl _; rw [List.eq_nil_of_length_eq_zero hl]; rfl
    | succ n ih =>
      intro l hl hz
      have hne : l ≠ [] := by intro e; rw [e] at hl; simp at hl
      have e := List.dropLast_concat_getLast hne
      rw [← e, num_snoc] at hz
      have h1 := ih l.dropLast (by rw [List.length_dropLast]; omega) (by omega)
      have h2 : l.getLast hne = false := by
        cases hb : l.getLast hne
        · rfl
        · rw [hb] at hz; simp at hz
      rw [← e, h2, h1, List.replicate_succ']
  exact this _ l rfl h
theorem num_bits8 : ∀ n, n < 256 → num (bits8 n) = n := by decide +kernel
theorem num_bits6 : ∀ n, n < 64 → num (bits6 n) = n := by decide +kernel
theorem bits6_num {l : List Bool} (h : l.length = 6) : bits6 (num l) = l := by
  have key : ∀ a b c d e f : Bool, bits6 (num [a, b, c, d, e, f]) = [a, b, c, d, e, f] := by decide
  match l, h with
  | [a, b, c, d, e, f], _ => exact key a b c d e f
theorem bits8_num {l : List Bool} (h : l.length = 8) : bits8 (num l) = l := by
  have key : ∀ a b c d e f g i : Bool, bits8 (num [a, b, c, d, e, f, g, i]) = [a, b, c, d, e, f, g, i] := by decide
  match l, h with
  | [a, b, c, d, e, f, g, i], _ => exact key a b c d e f g i
theorem bits8_length (n : Nat) : (bits8 n).length = 8 := rfl
theorem bits6_length (n : Nat) : (bits6 n).length = 6 := rfl

/-- group number i of k bits -/
def grp (k : Nat) (l : List Bool) (i : Nat) : Nat := num ((l.drop (k * i)).take k)
/-- the first m groups -/
def grps (k : Nat) (l : List Bool) (m : Nat) : List Nat := (List.range m).map (grp k l)
theorem grps_succ (k : Nat) (l : List Bool) (m : Nat) : grps k l (m + 1) = grps k l m ++ [grp k l m] := by simp [grps, List.range_succ]
theorem grps_length (k : Nat) (l : List Bool) (m : Nat) : (grps k l m).length = m := by simp [grps]
theorem grp_append {k : Nat} {l m : List Bool} {i : Nat} (h : k * i + k ≤ l.length) : grp k (l ++ m) i = grp k l i := by
  unfold grp
  rw [List.drop_append_of_le_length (by omega), List.take_append_of_le_length (by simp; omega)]
theorem grps_append {k : Nat} {l m : List Bool} {n : Nat} (h : k * n ≤ l.length) : grps k (l ++ m) n = grps k l n := by
  unfold grps
  apply List.map_congr_left
  intro i hi
  rw [List.mem_range] at hi
  have h1 : k * (i + 1) ≤ k * n := Nat.mul_le_mul_left k hi
  rw [Nat.mul_succ] at h1
  exact grp_append (by omega)
theorem grp_lt (k : Nat) (l : List Bool) (i : Nat) : grp k l i < 2 ^ k := by
  unfold grp
  exact Nat.lt_of_lt_of_le (num_lt _) (Nat.pow_le_pow_right (by omega) (by simp; omega))
theorem ungrp6 (l : List Bool) : ∀ m, 6 * m ≤ l.length → (grps 6 l m).flatMap bits6 = l.take (6 * m) := by
  intro m
  induction m with
  | zero => intro _; simp [grps]
  | succ m ih =>
    intro h
    rw [grps_succ, List.flatMap_append, ih (by omega), List.flatMap_singleton]
    unfold grp
    rw [bits6_num (by simp; omega), Nat.mul_succ, List.take_add]
theorem ungrp8 (l : List Bool) : ∀ m, 8 * m ≤ l.length → (grps 8 l m).flatMap bits8 = l.take (8 * m) := by
  intro m
  induction m with
  | zero => intro _; simp [grps]
  | succ m ih =>
    intro h
    rw [grps_succ, List.flatMap_append, ih (by omega), List.flatMap_singleton]
    unfold grp
    rw [bits8_num (by simp; omega), Nat.mul_succ, List.take_add]
theorem flat_length {f : Nat → List Bool} {k : Nat} (hf : ∀ n, (f n).length = k) (vs : List Nat) : (vs.flatMap f).length = k * vs.length := by
  induction vs with
  | nil => simp
  | cons v r ih => rw [List.flatMap_cons, List.length_append, ih, hf, List.length_cons, Nat.mul_succ]; omega
theorem grps_flat {f : Nat → List Bool} {k : Nat} (hf : ∀ n, (f n).length = k) (vs : List Nat) (hn : ∀ v ∈ vs, num (f v) = v) (tail : List Bool) : grps k (vs.flatMap f ++ tail) vs.length = vs := by
  have hi : ∀ i v, vs[i]? = some v → grp k (vs.flatMap f ++ tail) i = v := by
    intro i
    induction vs generalizing i with
    | nil => intro v h; simp at h
    | cons a r ih =>
      intro v h
      cases i with
      | zero =>
        simp at h; subst h
        unfold grp
        rw [Nat.mul_zero, List.drop_zero, List.flatMap_cons, List.append_assoc, ← hf a, List.take_left]
        exact hn a (by simp)
      | succ i =>
        have := ih (fun v hv => hn v (by simp [hv])) i v (by simpa using h)
        unfold grp at this ⊢
        rw [List.flatMap_cons, List.append_assoc, Nat.mul_succ, Nat.add_comm, ← List.drop_drop, ← hf a, List.drop_left, hf a]
        exact this
  apply List.ext_getElem?
  intro i
  unfold grps
  rw [List.getElem?_map]
  by_cases h : i < vs.length
  · rw [List.getElem?_range h, List.getElem?_eq_getElem h]
    simp [hi i _ (List.getElem?_eq_getElem h)]
  · rw [List.getElem?_eq_none (by simp; omega), List.getElem?_eq_none (by omega)]; rfl

/-- the bits of bytes -/
def bitsL (bs : List UInt8) : List Bool := (bs.map UInt8.toNat).flatMap bits8
theorem bitsL_length (bs : List UInt8) : (bitsL bs).length = 8 * bs.length := by unfold bitsL; rw [flat_length bits8_length]; simp
theorem bitsL_append (a b : List UInt8) : bitsL (a ++ b) = bitsL a ++ bitsL b := by simp [bitsL]
theorem bitsL_snoc (a : List UInt8) (x : UInt8) : bitsL (a ++ [x]) = bitsL a ++ bits8 x.toNat := by simp [bitsL]
/-- bytes out of bits: the whole ones -/
def bytesOf (l : List Bool) : List UInt8 := (grps 8 l (l.length / 8)).map UInt8.ofNat
theorem bytesOf_bits (bs : List UInt8) (tail : List Bool) (ht : tail.length < 8) : bytesOf (bitsL bs ++ tail) = bs := by
  unfold bytesOf
  rw [List.length_append, bitsL_length, show (8 * bs.length + tail.length) / 8 = (bs.map UInt8.toNat).length by simp; omega]
  unfold bitsL
  rw [grps_flat bits8_length _ (fun v hv => by
    obtain ⟨x, _, rfl⟩ := List.mem_map.1 hv
    exact num_bits8 _ x.toNat_lt) tail]
  rw [List.map_map]
  conv => rhs; rw [← List.map_id bs]
  apply List.map_congr_left
  intro x _
  simp
theorem bits_bytesOf (l : List Bool) : bitsL (bytesOf l) = l.take (8 * (l.length / 8)) := by
  rw [← ungrp8 l _ (by omega)]
  unfold bitsL bytesOf
  rw [List.map_map]
  congr 1
  conv => rhs; rw [← List.map_id (grps 8 l (l.length / 8))]
  apply List.map_congr_left
  intro v hv
  obtain ⟨i, _, rfl⟩ := List.mem_map.1 hv
  have := grp_lt 8 l i
  simp only [Function.comp, id, UInt8.toNat_ofNat']
  omega

/-- sixty-four signs -/
structure Signs (signs : List UInt8) : Prop where
  len : signs.length = 64
  nodup : signs.Nodup
  noEq : (61 : UInt8) ∉ signs
def webS : List UInt8 := [65, 66, 67, 68, 69, 70, 71, 72, 73, 74, 75, 76, 77, 78, 79, 80, 81, 82, 83, 84, 85, 86, 87, 88, 89, 90, 97, 98, 99, 100, 101, 102, 103, 104, 105, 106, 107, 108, 109, 110, 111, 112, 113, 114, 115, 116, 117, 118, 119, 120, 121, 122, 48, 49, 50, 51, 52, 53, 54, 55, 56, 57, 45, 95]
def basicS : List UInt8 := [65, 66, 67, 68, 69, 70, 71, 72, 73, 74, 75, 76, 77, 78, 79, 80, 81, 82, 83, 84, 85, 86, 87, 88, 89, 90, 97, 98, 99, 100, 101, 102, 103, 104, 105, 106, 107, 108, 109, 110, 111, 112, 113, 114, 115, 116, 117, 118, 119, 120, 121, 122, 48, 49, 50, 51, 52, 53, 54, 55, 56, 57, 43, 47]
def hexS : List UInt8 := [48, 49, 50, 51, 52, 53, 54, 55, 56, 57, 97, 98, 99, 100, 101, 102]
theorem webS_ok : Signs webS := ⟨rfl, by decide +kernel, by decide +kernel⟩
theorem basicS_ok : Signs basicS := ⟨rfl, by decide +kernel, by decide +kernel⟩

/-- a sign's place -/
def place (signs : List UInt8) (c : UInt8) : Option Nat := signs.idxOf? c
theorem place_some {signs : List UInt8} {c : UInt8} {i : Nat} (h : place signs c = some i) : signs[i]? = some c ∧ i < signs.length := by
  unfold place at h
  rw [List.idxOf?_eq_some_iff] at h
  obtain ⟨hl, he, _⟩ := h
  exact ⟨by rw [List.getElem?_eq_getElem hl, he], hl⟩
theorem place_of {signs : List UInt8} (hn : signs.Nodup) {c : UInt8} {i : Nat} (h : signs[i]? = some c) : place signs c = some i := by
  unfold place
  rw [List.idxOf?_eq_some_iff]
  obtain ⟨hl, he⟩ := List.getElem?_eq_some_iff.1 h
  refine ⟨hl, he, fun j hj hje => ?_⟩
  have := (List.pairwise_iff_getElem.1 hn) j i (by omega) hl hj
  apply this
  rw [hje, he]
theorem place_none {signs : List UInt8} {c : UInt8} : place signs c = none ↔ c ∉ signs := by
  unfold place; exact List.idxOf?_eq_none_iff

/-- bits, filled up by noughts to a multiple of six -/
def fill6 (l : List Bool) : List Bool := l ++ List.replicate ((6 - l.length % 6) % 6) false
theorem fill6_length (l : List Bool) : (fill6 l).length % 6 = 0 := by unfold fill6; rw [List.length_append, List.length_replicate]; omega
/-- bytes by sixty-four signs -/
def six (signs : List UInt8) (l : List Bool) : List UInt8 := (grps 6 l (l.length / 6)).map (signs.getD · 0)
def webL (signs : List UInt8) (bs : List UInt8) : List UInt8 := six signs (fill6 (bitsL bs))
/-- a text's bits (a sign that is none counts as nought) -/
def vals (signs : List UInt8) (s : List UInt8) : List Nat := s.map fun c => (place signs c).getD 0
def textBits (signs : List UInt8) (s : List UInt8) : List Bool := (vals signs s).flatMap bits6
theorem textBits_length (signs s : List UInt8) : (textBits signs s).length = 6 * s.length := by unfold textBits vals; rw [flat_length bits6_length]; simp
/-- bytes of a text, or nothing -/
def unwebL (signs : List UInt8) (s : List UInt8) : Option (List UInt8) :=
  if s.length % 4 = 1 ∨ (∃ c ∈ s, place signs c = none) ∨ num ((textBits signs s).drop (8 * ((textBits signs s).length / 8))) ≠ 0 then none else some (bytesOf (textBits signs s))

theorem getD_eq {signs : List UInt8} {i : Nat} {c : UInt8} (h : signs[i]? = some c) : signs.getD i 0 = c := by rw [List.getD_eq_getElem?_getD, h]; rfl
theorem six_text {signs : List UInt8} (hS : Signs signs) {s : List UInt8} (hv : ∀ c ∈ s, place signs c ≠ none) : six signs (textBits signs s) = s := by
  unfold six
  rw [textBits_length, show 6 * s.length / 6 = (vals signs s).length by unfold vals; simp]
  have := grps_flat bits6_length (vals signs s) (fun v hv' => by
    unfold vals at hv'
    obtain ⟨c, _, rfl⟩ := List.mem_map.1 hv'
    apply num_bits6
    cases hp : place signs c with
    | none => simp
    | some i => have := (place_some hp).2; rw [hS.len] at this; simpa using this) []
  rw [List.append_nil] at this
  unfold textBits
  rw [this]
  unfold vals
  rw [List.map_map]
  conv => rhs; rw [← List.map_id s]
  apply List.map_congr_left
  intro c hc
  cases hp : place signs c with
  | none => exact absurd hp (hv c hc)
  | some i => simp only [Function.comp, hp, Option.getD_some, id]; exact getD_eq (place_some hp).1
theorem six_valid {signs : List UInt8} (hS : Signs signs) {l : List Bool} : ∀ c ∈ six signs l, place signs c ≠ none ∧ c ∈ signs := by
  intro c hc
  unfold six at hc
  obtain ⟨v, hv, rfl⟩ := List.mem_map.1 hc
  obtain ⟨i, _, rfl⟩ := List.mem_map.1 hv
  have hl := grp_lt 6 l i
  have hlt : grp 6 l i < signs.length := by rw [hS.len]; exact hl
  have hm : signs.getD (grp 6 l i) 0 ∈ signs := by
    rw [List.getD_eq_getElem?_getD, List.getElem?_eq_getElem hlt]
    exact List.getElem_mem _
  exact ⟨fun h => place_none.1 h hm, hm⟩
theorem text_six {signs : List UInt8} (hS : Signs signs) {l : List Bool} (h6 : l.length % 6 = 0) : textBits signs (six signs l) = l := by
  have hu := ungrp6 l (l.length / 6) (by omega)
  rw [show 6 * (l.length / 6) = l.length by omega, List.take_length] at hu
  conv => rhs; rw [← hu]
  unfold textBits vals six
  rw [List.map_map]
  congr 1
  conv => rhs; rw [← List.map_id (grps 6 l (l.length / 6))]
  apply List.map_congr_left
  intro v hv
  obtain ⟨i, _, rfl⟩ := List.mem_map.1 hv
  have hlt : grp 6 l i < signs.length := by rw [hS.len]; exact grp_lt 6 l i
  simp only [Function.comp, id]
  rw [place_of hS.nodup (i := grp 6 l i) (by rw [List.getD_eq_getElem?_getD, List.getElem?_eq_getElem hlt]; rfl)]
  rfl
theorem six_length (signs : List UInt8) (l : List Bool) : (six signs l).length = l.length / 6 := by unfold six; rw [List.length_map, grps_length]
theorem webL_length (signs bs : List UInt8) : (webL signs bs).length = (4 * bs.length + 2) / 3 := by
  unfold webL
  rw [six_length]
  unfold fill6
  rw [List.length_append, List.length_replicate, bitsL_length]
  omega

/-- WHAT IS WRITTEN IS READ -/
theorem unweb_web {signs : List UInt8} (hS : Signs signs) (bs : List UInt8) : unwebL signs (webL signs bs) = some bs := by
  have ht : textBits signs (webL signs bs) = bitsL bs ++ List.replicate ((6 - (bitsL bs).length % 6) % 6) false := text_six hS (fill6_length _)
  have hk : (6 - (bitsL bs).length % 6) % 6 < 6 := Nat.mod_lt _ (by omega)
  have hl := webL_length signs bs
  unfold unwebL
  rw [if_neg, ht, bytesOf_bits _ _ (by simp; omega)]
  rintro (h | ⟨c, hc, h⟩ | h)
  · rw [hl] at h; omega
  · exact (six_valid hS c hc).1 h
  · apply h
    rw [ht, List.length_append, List.length_replicate, bitsL_length, show 8 * ((8 * bs.length + (6 - 8 * bs.length % 6) % 6) / 8) = (bitsL bs).length by rw [bitsL_length]; omega, List.drop_left, num_zeros]
/-- WHAT IS READ IS WRITTEN -/
theorem web_unweb {signs : List UInt8} (hS : Signs signs) {s bs : List UInt8} (h : unwebL signs s = some bs) : webL signs bs = s := by
  unfold unwebL at h
  split at h
  · cases h
  · rename_i hc
    injection h with h
    have h1 : s.length % 4 ≠ 1 := fun e => hc (.inl e)
    have h2 : ∀ c ∈ s, place signs c ≠ none := fun c hcs e => hc (.inr (.inl ⟨c, hcs, e⟩))
    have h3 : num ((textBits signs s).drop (8 * ((textBits signs s).length / 8))) = 0 := Classical.byContradiction fun e => hc (.inr (.inr e))
    have hz := num_eq_zero h3
    have hb := bits_bytesOf (textBits signs s)
    have hl := textBits_length signs s
    have hfull : fill6 (bitsL bs) = textBits signs s := by
      unfold fill6
      rw [← h, hb, List.length_take]
      have e := List.take_append_drop (8 * ((textBits signs s).length / 8)) (textBits signs s)
      conv => rhs; rw [← e, hz]
      have hcount : (6 - min (8 * ((textBits signs s).length / 8)) (textBits signs s).length % 6) % 6 = ((textBits signs s).drop (8 * ((textBits signs s).length / 8))).length := by
        rw [List.length_drop, hl]
        obtain ⟨k, hk⟩ : ∃ k, s.length = 4 * k ∨ s.length = 4 * k + 2 ∨ s.length = 4 * k + 3 := ⟨s.length / 4, by omega⟩
        rcases hk with hk | hk | hk <;> rw [hk]
        · rw [show 8 * (6 * (4 * k) / 8) = 24 * k by omega]; omega
        · rw [show 8 * (6 * (4 * k + 2) / 8) = 24 * k + 8 by omega]; omega
        · rw [show 8 * (6 * (4 * k + 3) / 8) = 24 * k + 16 by omega]; omega
      rw [hcount]
    unfold webL
    rw [hfull]
    exact six_text hS h2
theorem web_inj {signs : List UInt8} (hS : Signs signs) {a b : List UInt8} (h : webL signs a = webL signs b) : a = b := by
  have h1 := unweb_web hS a
  rw [h, unweb_web hS b] at h1
  injection h1 with h1
  exact h1.symm
/-- the document's way: the whole bytes of a text, if they are written so -/
theorem unweb_ref {signs : List UInt8} (hS : Signs signs) (s : List UInt8) :
    (if webL signs (bytesOf (textBits signs s)) = s then some (bytesOf (textBits signs s)) else none) = unwebL signs s := by
  split
  · rename_i h
    conv => rhs; rw [← h]
    exact (unweb_web hS _).symm
  · rename_i h
    cases hu : unwebL signs s with
    | none => rfl
    | some bs =>
      exfalso
      apply h
      have hw := web_unweb hS hu
      unfold unwebL at hu
      split at hu
      · cases hu
      · injection hu with hu
        rw [hu]; exact hw
end Go.Proofs.Ythfoaefdifbfaaa.Oct
