/-
  Ring: the library's stable sort in plain words: exchanges of ranges, rotations, the merge's cut.
-/
import Derived.Sort.LotA
namespace Go.Proofs.YtokdliapkolngaaDoor
open Go.Sort
set_option linter.unusedVariables false
variable {α : Type} [Inhabited α]

theorem swp_at (d : Array α) {i j : Nat} (hi : i < d.size) (hj : j < d.size) (k : Nat) : (swp d i j)[k]! = if k = j then d[i]! else if k = i then d[j]! else d[k]! := by
  by_cases h1 : k = j
  · subst h1; rw [if_pos rfl]; exact swp_right d i k hj
  · rw [if_neg h1]
    by_cases h2 : k = i
    · subst h2; rw [if_pos rfl]; exact swp_left d k j hi h1
    · rw [if_neg h2]; exact swp_other d i j k h2 h1
/-- two ranges exchanged -/
def swapR (a b : Nat) : Nat → Array α → Array α
  | 0, d => d
  | n + 1, d => swp (swapR a b n d) (a + n) (b + n)
theorem swapR_size (a b n : Nat) (d : Array α) : (swapR a b n d).size = d.size := by
  induction n with
  | zero => rfl
  | succ n ih => rw [swapR, size_swp, ih]
theorem swapR_at {a b n : Nat} {d : Array α} (hab : a + n ≤ b) (hb : b + n ≤ d.size) : ∀ k, (swapR a b n d)[k]! = if a ≤ k ∧ k < a + n then d[b + (k - a)]! else if b ≤ k ∧ k < b + n then d[a + (k - b)]! else d[k]! := by
  induction n with
  | zero => intro k; rw [swapR, if_neg (by omega), if_neg (by omega)]
  | succ m ihm =>
    intro k
    have ihm := ihm (by omega) (by omega)
    rw [swapR, swp_at _ (by rw [swapR_size]; omega) (by rw [swapR_size]; omega), ihm, ihm, ihm]
    by_cases h1 : k = b + m
    · subst h1
      rw [if_pos rfl, if_neg (by omega), if_neg (by omega), if_neg (by omega), if_pos (by omega)]
      congr 1; omega
    · rw [if_neg h1]
      by_cases h2 : k = a + m
      · subst h2
        rw [if_pos rfl, if_neg (by omega), if_neg (by omega), if_pos (by omega)]
        congr 1; omega
      · rw [if_neg h2]
        by_cases h3 : a ≤ k ∧ k < a + m
        · rw [if_pos h3, if_pos (by omega)]
        · rw [if_neg h3]
          by_cases h4 : b ≤ k ∧ k < b + m
          · rw [if_pos h4, if_neg (by omega), if_pos (by omega)]
          · rw [if_neg h4, if_neg (by omega), if_neg (by omega)]
theorem swapR_perm {lo hi a b n : Nat} {d : Array α} (ha : lo ≤ a) (hab : a + n ≤ b) (hb : b + n ≤ hi) (hh : hi ≤ d.size) : PermIn lo hi d (swapR a b n d) := by
  induction n with
  | zero => exact permIn_refl d lo hi
  | succ n ih => exact permIn_trans _ _ _ lo hi (ih (by omega) (by omega)) (swp_permIn _ lo hi (a + n) (b + n) (by omega) (by omega) (by omega) (by omega) (by rw [swapR_size]; exact hh))
/-- [a, m) and [m, b) have changed places -/
def Rot (a m b : Nat) (d d' : Array α) : Prop := PermIn a b d d' ∧ (∀ k, k < b - m → d'[a + k]! = d[m + k]!) ∧ ∀ k, k < m - a → d'[a + (b - m) + k]! = d[a + k]!
theorem Rot.same {a m b : Nat} (d : Array α) (h : a = m ∨ m = b) : Rot a m b d d := ⟨permIn_refl d a b, fun k hk => by rcases h with h | h; subst h; rfl; omega, fun k hk => by rcases h with h | h; omega; subst h; simp⟩
theorem Rot.eq {m i : Nat} {d : Array α} (hi : i ≤ m) (hs : m + i ≤ d.size) : Rot (m - i) m (m + i) d (swapR (m - i) m i d) := by
  refine ⟨swapR_perm (Nat.le_refl _) (by omega) (Nat.le_refl _) hs, fun k hk => ?_, fun k hk => ?_⟩
  · rw [swapR_at (by omega) hs, if_pos (by omega)]; congr 1; omega
  · rw [swapR_at (by omega) hs, if_neg (by omega), if_pos (by omega)]; congr 1; omega
theorem Rot.more {m i j : Nat} {d d' : Array α} (hi : i ≤ m) (hij : j < i) (hs : m + j ≤ d.size) (h : Rot (m - (i - j)) m (m + j) (swapR (m - i) m j d) d') : Rot (m - i) m (m + j) d d' := by
  obtain ⟨h1, h2, h3⟩ := h
  refine ⟨permIn_trans _ _ _ _ _ (swapR_perm (Nat.le_refl _) (by omega) (Nat.le_refl _) hs) (permIn_mono _ _ (m - (i - j)) (m + j) (m - i) (m + j) (by omega) (Nat.le_refl _) (by rw [swapR_size]; exact hs) h1), fun k hk => ?_, fun k hk => ?_⟩
  · rw [h1.2.1 _ (.inl (by omega)), swapR_at (by omega) hs, if_pos (by omega)]; congr 1; omega
  · by_cases hk2 : k < j
    · have := h2 k (by omega)
      rw [show m - i + (m + j - m) + k = m - (i - j) + k by omega, this, swapR_at (by omega) hs, if_neg (by omega), if_pos (by omega)]; congr 1; omega
    · have := h3 (k - j) (by omega)
      rw [show m - i + (m + j - m) + k = m - (i - j) + (m + j - m) + (k - j) by omega, this, swapR_at (by omega) hs, if_neg (by omega), if_neg (by omega)]; congr 1; omega
theorem Rot.less {m i j : Nat} {d d' : Array α} (hi : i ≤ m) (hij : i < j) (hs : m + j ≤ d.size) (h : Rot (m - i) m (m + (j - i)) (swapR (m - i) (m + j - i) i d) d') : Rot (m - i) m (m + j) d d' := by
  obtain ⟨h1, h2, h3⟩ := h
  refine ⟨permIn_trans _ _ _ _ _ (swapR_perm (Nat.le_refl _) (by omega) (by omega) hs) (permIn_mono _ _ (m - i) (m + (j - i)) (m - i) (m + j) (Nat.le_refl _) (by omega) (by rw [swapR_size]; exact hs) h1), fun k hk => ?_, fun k hk => ?_⟩
  · by_cases hk2 : k < j - i
    · rw [h2 k (by omega), swapR_at (by omega) (by omega), if_neg (by omega), if_neg (by omega)]
    · have := h3 (k - (j - i)) (by omega)
      rw [show m - i + k = m - i + (m + (j - i) - m) + (k - (j - i)) by omega, this, swapR_at (by omega) (by omega), if_pos (by omega)]; congr 1; omega
  · rw [h1.2.1 _ (.inr (by omega)), swapR_at (by omega) (by omega), if_neg (by omega), if_pos (by omega)]; congr 1; omega
theorem Rot.size {a m b : Nat} {d d' : Array α} (h : Rot a m b d d') : d'.size = d.size := h.1.1
section
variable {lt : α → α → Bool}
theorem SortedIn.part {a b a' b' : Nat} {d : Array α} (h : SortedIn lt a b d) (ha : a ≤ a') (hb : b' ≤ b) : SortedIn lt a' b' d := fun i j h1 h2 h3 => h i j (by omega) h2 (by omega)
/-- two sorted halves -/
theorem sorted_halves {a m b : Nat} {d : Array α} (h1 : SortedIn lt a m d) (h2 : SortedIn lt m b d) (hx : ∀ i j, a ≤ i → i < m → m ≤ j → j < b → lt d[j]! d[i]! = false) : SortedIn lt a b d := fun i j hi hij hj => by
  by_cases h : j < m
  · exact h1 i j hi hij h
  · by_cases h' : i < m
    · exact hx i j hi h' (by omega) hj
    · exact h2 i j (by omega) hij hj
theorem cross_perm {a m b : Nat} {d d2 d3 : Array α} (hb : b ≤ d.size) (hm : a ≤ m ∧ m ≤ b) (h12 : PermIn a m d d2) (h23 : PermIn m b d2 d3) (hx : ∀ i j, a ≤ i → i < m → m ≤ j → j < b → lt d[j]! d[i]! = false) : ∀ i j, a ≤ i → i < m → m ≤ j → j < b → lt d3[j]! d3[i]! = false := by
  have s1 : ∀ j, m ≤ j → j < b → ∀ i, a ≤ i → i < m → lt d[j]! d2[i]! = false := fun j hj1 hj2 => permIn_all d d2 a m (fun x => lt d[j]! x = false) (by omega) h12 (fun i h1 h2 => hx i j h1 h2 hj1 hj2)
  have s2 : ∀ i, a ≤ i → i < m → ∀ j, m ≤ j → j < b → lt d2[j]! d2[i]! = false := fun i h1 h2 j h3 h4 => by
    rw [h12.2.1 j (.inr h3)]; exact s1 j h3 h4 i h1 h2
  intro i j h1 h2 h3 h4
  have e : d3[i]! = d2[i]! := h23.2.1 i (.inl h2)
  rw [e]
  exact permIn_all d2 d3 m b (fun y => lt y d2[i]! = false) (by rw [h12.1]; exact hb) h23 (fun j h3 h4 => s2 i h1 h2 j h3 h4) j h3 h4
/-- where the merge cuts: at s, by halves (a, mid, b), with the test's truth -/
structure CutAt (lt : α → α → Bool) (d : Array α) (a m b mid s : Nat) : Prop where
  lo : a ≤ s
  ub : s ≤ m
  um : s ≤ mid
  hi : mid + m - s ≤ b
  lows : a < s → mid + m - s < b → lt d[mid + m - s]! d[s - 1]! = false
  highs : s < m → m < mid + m - s → lt d[mid + m - s - 1]! d[s]! = true
/-- .. and what follows when both halves have been put in order -/
theorem CutAt.done {d d1 d2 d3 : Array α} {a m b mid s : Nat} (hS : SWO lt) (hc : CutAt lt d a m b mid s) (hmm : a ≤ mid ∧ mid ≤ b) (ham : a < m) (hmb : m < b) (hb : b ≤ d.size) (h1 : SortedIn lt a m d) (h2 : SortedIn lt m b d)
    (hR : Rot s m (mid + m - s) d d1) (p2 : PermIn a mid d1 d2) (s2 : SortedIn lt a mid d2) (p3 : PermIn mid b d2 d3) (s3 : SortedIn lt mid b d3) : PermIn a b d d3 ∧ SortedIn lt a b d3 := by
  have e1 := hc.lo; have e2 := hc.ub; have e3 := hc.um; have e4 := hc.hi
  have z1 := hR.size
  refine ⟨permIn_trans _ _ _ a b (permIn_mono _ _ _ _ a b e1 e4 hb hR.1) (permIn_trans _ _ _ a b (permIn_mono _ _ _ _ a b (Nat.le_refl _) hmm.2 (by rw [z1]; exact hb) p2) (permIn_mono _ _ _ _ a b hmm.1 (Nat.le_refl _) (by rw [p2.1, z1]; exact hb) p3)), ?_⟩
  have sorted2 : SortedIn lt a mid d3 := fun i j h3 h4 h5 => by rw [p3.2.1 i (.inl (by omega)), p3.2.1 j (.inl h5)]; exact s2 i j h3 h4 h5
  refine sorted_halves sorted2 s3 (cross_perm (by rw [z1]; exact hb) hmm p2 p3 ?_)
  -- what lies where behind the rotation
  have lowv : ∀ i, a ≤ i → i < mid → (i < s ∧ d1[i]! = d[i]!) ∨ (∃ k, m ≤ k ∧ k < mid + m - s ∧ d1[i]! = d[k]!) := fun i h3 h4 => by
    by_cases h : i < s
    · exact .inl ⟨h, hR.1.2.1 i (.inl h)⟩
    · refine .inr ⟨m + (i - s), by omega, by omega, ?_⟩
      rw [← hR.2.1 (i - s) (by omega)]; congr 1; omega
  have highv : ∀ j, mid ≤ j → j < b → (mid + m - s ≤ j ∧ d1[j]! = d[j]!) ∨ (∃ k, s ≤ k ∧ k < m ∧ d1[j]! = d[k]!) := fun j h3 h4 => by
    by_cases h : mid + m - s ≤ j
    · exact .inl ⟨h, hR.1.2.1 j (.inr h)⟩
    · refine .inr ⟨s + (j - mid), by omega, by omega, ?_⟩
      rw [← hR.2.2 (j - mid) (by omega)]; congr 1; omega
  have le : ∀ i j, (a ≤ i ∧ j < m ∨ m ≤ i ∧ j < b) → i ≤ j → lt d[j]! d[i]! = false := fun i j h hij => by
    by_cases h' : i = j
    · subst h'; exact hS.irrefl _
    · rcases h with h | h
      · exact h1 i j h.1 (by omega) h.2
      · exact h2 i j h.1 (by omega) h.2
  intro i j hi1 hi2 hj1 hj2
  rcases lowv i hi1 hi2 with ⟨hi, ei⟩ | ⟨k, hk1, hk2, ei⟩ <;> rcases highv j hj1 hj2 with ⟨hj, ej⟩ | ⟨l, hl1, hl2, ej⟩ <;> rw [ei, ej]
  · refine hS.ntrans _ _ _ (le (mid + m - s) j (by omega) hj) (hS.ntrans _ _ _ (hc.lows (by omega) (by omega)) (le i (s - 1) (by omega) (by omega)))
  · exact le i l (by omega) (by omega)
  · exact le k j (by omega) (by omega)
  · refine hS.ntrans _ _ _ (le s l (by omega) hl1) (hS.ntrans _ d[mid + m - s - 1]! _ ?_ (le k (mid + m - s - 1) (by omega) (by omega)))
    exact hS.asymmA (hc.highs (by omega) (by omega))
/-- the test is false up to the cut, and true behind it -/
theorem cut_mono (hS : SWO lt) {d : Array α} {a m b c c' : Nat} (h1 : SortedIn lt a m d) (h2 : SortedIn lt m b d) {p : Nat} (hc : a ≤ c ∧ c ≤ c' ∧ c' < m) (hp : m ≤ p - c' ∧ p - c < b ∧ c' ≤ p) (ht : lt d[p - c]! d[c]! = true) : lt d[p - c']! d[c']! = true := by
  cases h : lt d[p - c']! d[c']! with
  | true => rfl
  | false =>
    have e1 : lt d[c']! d[c]! = false := by
      by_cases hh : c = c'
      · subst hh; exact hS.irrefl _
      · exact h1 c c' hc.1 (by omega) hc.2.2
    have e2 : lt d[p - c]! d[p - c']! = false := by
      by_cases hh : c = c'
      · subst hh; exact hS.irrefl _
      · exact h2 (p - c') (p - c) hp.1 (by omega) hp.2.1
    have := hS.ntrans _ _ _ e2 (hS.ntrans _ _ _ h e1)
    rw [ht] at this; cases this
/-- one element goes up to its place -/
def upTo (a : Nat) : Nat → Array α → Array α
  | 0, d => d
  | n + 1, d => swp (upTo a n d) (a + n) (a + n + 1)
theorem upTo_size (a n : Nat) (d : Array α) : (upTo a n d).size = d.size := by
  induction n with
  | zero => rfl
  | succ n ih => rw [upTo, size_swp, ih]
theorem upTo_at {a n : Nat} {d : Array α} (h : a + n < d.size) : ∀ k, (upTo a n d)[k]! = if a ≤ k ∧ k < a + n then d[k + 1]! else if k = a + n then d[a]! else d[k]! := by
  induction n with
  | zero => intro k; rw [upTo, if_neg (by omega)]; by_cases hk : k = a + 0; rw [if_pos hk, hk]; rfl; rw [if_neg hk]
  | succ n ih =>
    intro k
    have ih := ih (by omega)
    rw [upTo, swp_at _ (by rw [upTo_size]; omega) (by rw [upTo_size]; omega), ih, ih, ih]
    by_cases h1 : k = a + n + 1
    · subst h1
      rw [if_pos rfl, if_neg (by omega), if_pos rfl, if_neg (by omega), if_pos (by omega)]
    · rw [if_neg h1]
      by_cases h2 : k = a + n
      · subst h2
        rw [if_pos rfl, if_neg (by omega), if_neg (by omega), if_pos (by omega)]
      · rw [if_neg h2]
        by_cases h3 : a ≤ k ∧ k < a + n
        · rw [if_pos h3, if_pos (by omega)]
        · rw [if_neg h3, if_neg h2, if_neg (by omega), if_neg (by omega)]
theorem upTo_perm {lo hi a n : Nat} {d : Array α} (ha : lo ≤ a) (hb : a + n < hi) (hh : hi ≤ d.size) : PermIn lo hi d (upTo a n d) := by
  induction n with
  | zero => exact permIn_refl d lo hi
  | succ n ih => exact permIn_trans _ _ _ lo hi (ih (by omega)) (swp_permIn _ lo hi (a + n) (a + n + 1) (by omega) (by omega) (by omega) (by omega) (by rw [upTo_size]; exact hh))
/-- one alone ahead of a row: put where it belongs -/
theorem up_done (hS : SWO lt) {a b i : Nat} {d : Array α} (hb : b ≤ d.size) (hi : a + 1 ≤ i ∧ i ≤ b) (h2 : SortedIn lt (a + 1) b d) (hlo : ∀ h, a + 1 ≤ h → h < i → lt d[h]! d[a]! = true) (hhi : ∀ h, i ≤ h → h < b → lt d[h]! d[a]! = false) : PermIn a b d (upTo a (i - 1 - a) d) ∧ SortedIn lt a b (upTo a (i - 1 - a) d) := by
  refine ⟨upTo_perm (Nat.le_refl _) (by omega) hb, fun x y hx hxy hy => ?_⟩
  have at_ := upTo_at (a := a) (n := i - 1 - a) (d := d) (by omega)
  rw [at_, at_]
  by_cases hy1 : y < i - 1
  · rw [if_pos (by omega), if_pos (by omega)]
    exact h2 (x + 1) (y + 1) (by omega) (by omega) (by omega)
  · by_cases hy2 : y = i - 1
    · rw [if_neg (by omega), if_pos (by omega), if_pos (by omega)]
      exact hS.asymmA (hlo (x + 1) (by omega) (by omega))
    · rw [if_neg (by omega), if_neg (by omega)]
      by_cases hx1 : x < i - 1
      · rw [if_pos (by omega)]; exact h2 (x + 1) y (by omega) (by omega) hy
      · by_cases hx2 : x = i - 1
        · rw [if_neg (by omega), if_pos (by omega)]; exact hhi y (by omega) hy
        · rw [if_neg (by omega), if_neg (by omega)]; exact h2 x y (by omega) hxy hy
/-- one element goes down to its place -/
def downTo (m : Nat) : Nat → Array α → Array α
  | 0, d => d
  | n + 1, d => swp (downTo m n d) (m - n) (m - n - 1)
theorem downTo_size (m n : Nat) (d : Array α) : (downTo m n d).size = d.size := by
  induction n with
  | zero => rfl
  | succ n ih => rw [downTo, size_swp, ih]
theorem downTo_at {m n : Nat} {d : Array α} (hn : n ≤ m) (h : m < d.size) : ∀ k, (downTo m n d)[k]! = if m - n < k ∧ k ≤ m then d[k - 1]! else if k = m - n then d[m]! else d[k]! := by
  induction n with
  | zero => intro k; rw [downTo, if_neg (by omega)]; by_cases hk : k = m - 0; rw [if_pos hk, hk]; rfl; rw [if_neg hk]
  | succ n ih =>
    intro k
    have ih := ih (by omega)
    rw [downTo, swp_at _ (by rw [downTo_size]; omega) (by rw [downTo_size]; omega), ih, ih, ih]
    by_cases h1 : k = m - n - 1
    · subst h1
      rw [if_pos rfl, if_neg (by omega), if_pos rfl, if_neg (by omega), if_pos (by omega)]
    · rw [if_neg h1]
      by_cases h2 : k = m - n
      · subst h2
        rw [if_pos rfl, if_neg (by omega), if_neg (by omega), if_pos (by omega)]
      · rw [if_neg h2]
        by_cases h3 : m - n < k ∧ k ≤ m
        · rw [if_pos h3, if_pos (by omega)]
        · rw [if_neg h3, if_neg h2, if_neg (by omega), if_neg (by omega)]
theorem downTo_perm {lo hi m n : Nat} {d : Array α} (ha : lo + n ≤ m) (hb : m < hi) (hh : hi ≤ d.size) : PermIn lo hi d (downTo m n d) := by
  induction n with
  | zero => exact permIn_refl d lo hi
  | succ n ih => exact permIn_trans _ _ _ lo hi (ih (by omega)) (swp_permIn _ lo hi (m - n) (m - n - 1) (by omega) (by omega) (by omega) (by omega) (by rw [downTo_size]; exact hh))
/-- one alone behind a row: put where it belongs -/
theorem down_done (hS : SWO lt) {a m i : Nat} {d : Array α} (hb : m < d.size) (hi : a ≤ i ∧ i ≤ m) (h1 : SortedIn lt a m d) (hlo : ∀ h, a ≤ h → h < i → lt d[m]! d[h]! = false) (hhi : ∀ h, i ≤ h → h < m → lt d[m]! d[h]! = true) : PermIn a (m + 1) d (downTo m (m - i) d) ∧ SortedIn lt a (m + 1) (downTo m (m - i) d) := by
  refine ⟨downTo_perm (by omega) (by omega) (by omega), fun x y hx hxy hy => ?_⟩
  have at_ := downTo_at (m := m) (n := m - i) (d := d) (by omega) hb
  rw [at_, at_]
  by_cases hx1 : i < x
  · rw [if_pos (by omega), if_pos (by omega)]
    exact h1 (x - 1) (y - 1) (by omega) (by omega) (by omega)
  · by_cases hx2 : x = i
    · rw [if_pos (by omega), if_neg (by omega), if_pos (by omega)]
      exact hS.asymmA (hhi (y - 1) (by omega) (by omega))
    · by_cases hy1 : i < y
      · rw [if_pos (by omega), if_neg (by omega), if_neg (by omega)]; exact h1 x (y - 1) (by omega) (by omega) (by omega)
      · by_cases hy2 : y = i
        · rw [if_neg (by omega), if_pos (by omega), if_neg (by omega), if_neg (by omega)]; exact hlo x hx (by omega)
        · rw [if_neg (by omega), if_neg (by omega), if_neg (by omega), if_neg (by omega)]; exact h1 x y hx hxy (by omega)
end
end Go.Proofs.YtokdliapkolngaaDoor
