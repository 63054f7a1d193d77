/-
  Ring: the plain law over (place, name) pairs, no program in sight.
-/
namespace Go.Proofs.YtokdliapkolngaaDoor
set_option linter.unusedVariables false

theorem bytes_tri : ∀ a b : List UInt8, a < b ∨ a = b ∨ b < a
  | [], [] => .inr (.inl rfl)
  | [], b :: bs => .inl (by simp)
  | a :: l, [] => .inr (.inr (by simp))
  | a :: l, b :: bs => by
    rw [List.cons_lt_cons_iff, List.cons_lt_cons_iff]
    by_cases h1 : a < b
    · exact .inl (.inl h1)
    · by_cases h2 : b < a
      · exact .inr (.inr (.inl h2))
      · have he : a = b := UInt8.toNat_inj.1 (by
          have h3 : ¬ a.toNat < b.toNat := fun h => h1 (UInt8.lt_iff_toNat_lt.2 h)
          have h4 : ¬ b.toNat < a.toNat := fun h => h2 (UInt8.lt_iff_toNat_lt.2 h)
          omega)
        subst he
        rcases bytes_tri l bs with h | h | h
        · exact .inl (.inr ⟨rfl, h⟩)
        · exact .inr (.inl (by rw [h]))
        · exact .inr (.inr (.inr ⟨rfl, h⟩))
/-- the order of (place, name) -/
def ltB (x y : Int × ByteArray) : Prop := x.1 < y.1 ∨ (x.1 = y.1 ∧ x.2.data.toList < y.2.data.toList)
theorem ltB_anti (x y : Int × ByteArray) (h1 : ¬ ltB y x) (h2 : ¬ ltB x y) : x = y := by
  unfold ltB at h1 h2
  have e1 : x.1 = y.1 := by
    have a1 : ¬ y.1 < x.1 := fun h => h1 (.inl h)
    have a2 : ¬ x.1 < y.1 := fun h => h2 (.inl h)
    omega
  have e2 : x.2 = y.2 := by
    rcases bytes_tri x.2.data.toList y.2.data.toList with h | h | h
    · exact absurd (.inr ⟨e1, h⟩) h2
    · have h' : x.2.data = y.2.data := Array.toList_inj.1 h
      cases hx : x.2; cases hy : y.2
      rw [hx, hy] at h'
      simp at h'; rw [h']
    · exact absurd (.inr ⟨e1.symm, h⟩) h1
  exact Prod.ext e1 e2
theorem sorted_unique {l m : List (Int × ByteArray)} (h1 : l.Pairwise fun x y => ¬ ltB y x) (h2 : m.Pairwise fun x y => ¬ ltB y x) (hp : l.Perm m) : l = m :=
  List.Perm.eq_of_pairwise (fun a b _ _ h h' => ltB_anti a b h h') h1 h2 hp
/-- each thing once, as it first comes -/
def add1 {α : Type} [DecidableEq α] (out : List α) (x : α) : List α := if x ∈ out then out else out ++ [x]
def once {α : Type} [DecidableEq α] (l : List α) : List α := l.foldl add1 []
section
variable {α β : Type} [DecidableEq α] [DecidableEq β]
theorem add1_cons (x y : α) (out : List α) : add1 (x :: out) y = if y = x then x :: out else x :: add1 out y := by
  unfold add1
  by_cases h : y = x
  · simp [h]
  · by_cases h2 : y ∈ out
    · simp [h, h2]
    · simp [h, h2]
theorem fold_cons (x : α) (l : List α) : ∀ out : List α, l.foldl add1 (x :: out) = x :: (l.filter (fun y => decide (y ≠ x))).foldl add1 out := by
  induction l with
  | nil => intro out; rfl
  | cons y l ih =>
    intro out
    rw [List.foldl_cons, add1_cons]
    by_cases h : y = x
    · rw [if_pos h, ih]; simp [h]
    · rw [if_neg h, ih]; simp [h]
theorem once_nil : once ([] : List α) = [] := rfl
theorem once_cons (x : α) (l : List α) : once (x :: l) = x :: once (l.filter (fun y => decide (y ≠ x))) := by
  unfold once
  rw [List.foldl_cons]
  have : add1 ([] : List α) x = [x] := by unfold add1; simp
  rw [this, fold_cons]
theorem mem_fold (l : List α) : ∀ (out : List α) (z : α), z ∈ l.foldl add1 out ↔ z ∈ out ∨ z ∈ l := by
  induction l with
  | nil => intro out z; simp
  | cons y l ih =>
    intro out z
    rw [List.foldl_cons, ih]
    unfold add1
    by_cases h : y ∈ out
    · rw [if_pos h, List.mem_cons]
      constructor
      · rintro (h1 | h1); exact .inl h1; exact .inr (.inr h1)
      · rintro (h1 | h1 | h1); exact .inl h1; exact .inl (h1 ▸ h); exact .inr h1
    · rw [if_neg h, List.mem_append, List.mem_singleton, List.mem_cons, or_assoc]
theorem mem_once (l : List α) (z : α) : z ∈ once l ↔ z ∈ l := by unfold once; rw [mem_fold]; simp
theorem nodup_fold (l : List α) : ∀ out : List α, out.Nodup → (l.foldl add1 out).Nodup := by
  induction l with
  | nil => intro out h; exact h
  | cons y l ih =>
    intro out h
    rw [List.foldl_cons]
    apply ih
    unfold add1
    by_cases hy : y ∈ out
    · rwa [if_pos hy]
    · rw [if_neg hy]
      exact List.nodup_append.2 ⟨h, by simp, fun a ha b hb => by simp at hb; subst hb; exact fun e => hy (e ▸ ha)⟩
theorem nodup_once (l : List α) : (once l).Nodup := nodup_fold l [] List.nodup_nil
theorem head_once (l : List α) : (once l).head? = l.head? := by
  cases l with
  | nil => rfl
  | cons x l => rw [once_cons]; rfl
/-- what comes second is the first that is another thing -/
theorem once_second (x : α) (l : List α) : (once (x :: l))[1]? = (l.filter (fun y => decide (y ≠ x))).head? := by
  rw [once_cons, List.getElem?_cons_succ, ← head_once]
  cases once (l.filter (fun y => decide (y ≠ x))) <;> rfl
theorem fold_map (f : α → β) (l : List α) : ∀ out : List α, (∀ x ∈ l, ∀ y ∈ out, f x = f y → x = y) → (∀ x ∈ l, ∀ y ∈ l, f x = f y → x = y) → (l.map f).foldl add1 (out.map f) = (l.foldl add1 out).map f := by
  induction l with
  | nil => intro out _ _; rfl
  | cons y l ih =>
    intro out h1 h2
    rw [List.map_cons, List.foldl_cons, List.foldl_cons]
    have e : add1 (out.map f) (f y) = (add1 out y).map f := by
      unfold add1
      by_cases h : y ∈ out
      · rw [if_pos h, if_pos (List.mem_map.2 ⟨y, h, rfl⟩)]
      · rw [if_neg h, if_neg (fun hc => by
          obtain ⟨z, hz, he⟩ := List.mem_map.1 hc
          exact h (by rw [h1 y (by simp) z hz he.symm]; exact hz))]
        simp
    rw [e]
    apply ih
    · intro x hx z hz he
      unfold add1 at hz
      split at hz
      · exact h1 x (by simp [hx]) z hz he
      · rcases List.mem_append.1 hz with h | h
        · exact h1 x (by simp [hx]) z h he
        · simp at h; subst h; exact h2 x (by simp [hx]) z (by simp) he
    · exact fun x hx z hz he => h2 x (by simp [hx]) z (by simp [hz]) he
theorem once_map (f : α → β) (l : List α) (h : ∀ x ∈ l, ∀ y ∈ l, f x = f y → x = y) : once (l.map f) = (once l).map f := by
  have := fold_map f l [] (fun _ _ _ h => by simp at h) h
  simpa [once] using this
end
/-- the ring, from a place on -/
def rotB {α : Type} (pl : α → Int) (l : List α) (a : Int) : List α := l.filter (fun x => decide (a ≤ pl x)) ++ l.filter (fun x => !decide (a ≤ pl x))
theorem rotB_filter {α : Type} (pl : α → Int) (l : List α) (a : Int) (q : α → Bool) : rotB pl (l.filter q) a = (rotB pl l a).filter q := by
  unfold rotB
  rw [List.filter_append, List.filter_filter, List.filter_filter, List.filter_filter, List.filter_filter]
  congr 1 <;> (congr 1; funext x; exact Bool.and_comm _ _)
theorem rotB_map {α β : Type} (pl : α → Int) (pl' : β → Int) (f : α → β) (h : ∀ x, pl' (f x) = pl x) (l : List α) (a : Int) : rotB pl' (l.map f) a = (rotB pl l a).map f := by
  unfold rotB
  rw [List.map_append, List.filter_map, List.filter_map]
  simp [Function.comp_def, h]
theorem rotB_mem {α : Type} (pl : α → Int) (l : List α) (a : Int) (x : α) : x ∈ rotB pl l a ↔ x ∈ l := by
  unfold rotB
  rw [List.mem_append, List.mem_filter, List.mem_filter]
  by_cases h : a ≤ pl x <;> simp [h]
/-- of a row in order, those from a place on are its end -/
theorem sorted_split {α : Type} (pl : α → Int) (a : Int) : ∀ l : List α, l.Pairwise (fun x y => pl x ≤ pl y) →
    l.filter (fun x => decide (a ≤ pl x)) = l.drop (l.countP fun x => !decide (a ≤ pl x)) ∧ l.filter (fun x => !decide (a ≤ pl x)) = l.take (l.countP fun x => !decide (a ≤ pl x)) := by
  intro l
  induction l with
  | nil => intro _; simp
  | cons x l ih =>
    intro h
    rw [List.pairwise_cons] at h
    have ih := ih h.2
    by_cases hx : a ≤ pl x
    · have h0 : ∀ y ∈ l, a ≤ pl y := fun y hy => Int.le_trans hx (h.1 y hy)
      have hc : l.countP (fun x => !decide (a ≤ pl x)) = 0 := List.countP_eq_zero.2 fun y hy => by simp [h0 y hy]
      have e1 : l.filter (fun x => decide (a ≤ pl x)) = l := List.filter_eq_self.2 fun y hy => by simp [h0 y hy]
      have e2 : l.filter (fun x => !decide (a ≤ pl x)) = [] := List.filter_eq_nil_iff.2 fun y hy => by simp [h0 y hy]
      rw [List.countP_cons_of_neg (by simp [hx]), hc, List.filter_cons_of_pos (by simp [hx]), List.filter_cons_of_neg (by simp [hx]), e1, e2]
      simp
    · rw [List.countP_cons_of_pos (by simp [hx]), List.filter_cons_of_neg (by simp [hx]), List.filter_cons_of_pos (by simp [hx]), ih.1, ih.2]
      simp
theorem sorted_rot {α : Type} (pl : α → Int) (a : Int) (l : List α) (h : l.Pairwise (fun x y => pl x ≤ pl y)) (hl : 0 < l.length) :
    l.drop ((l.countP fun x => !decide (a ≤ pl x)) % l.length) ++ l.take ((l.countP fun x => !decide (a ≤ pl x)) % l.length) = rotB pl l a := by
  have hs := sorted_split pl a l h
  have hle : (l.countP fun x => !decide (a ≤ pl x)) ≤ l.length := List.countP_le_length
  unfold rotB
  rw [hs.1, hs.2]
  rcases Nat.lt_or_eq_of_le hle with hlt | heq
  · rw [Nat.mod_eq_of_lt hlt]
  · rw [heq, Nat.mod_self]; simp
/-- the names, as they come behind a place -/
def ordB (l : List (Int × ByteArray)) (a : Int) : List ByteArray := once ((rotB Prod.fst l a).map Prod.snd)
/-- a name goes: its keys are the next name's, no others move -/
theorem ord_gone (l : List (Int × ByteArray)) (a : Int) (s : ByteArray) (x : ByteArray) (hx : (ordB l a)[0]? = some x) :
    (ordB (l.filter fun y => decide (y.2 ≠ s)) a)[0]? = if x = s then (ordB l a)[1]? else some x := by
  unfold ordB at *
  have e : (rotB Prod.fst (l.filter fun y => decide (y.2 ≠ s)) a).map Prod.snd = ((rotB Prod.fst l a).map Prod.snd).filter (fun y => decide (y ≠ s)) := by
    rw [rotB_filter, List.filter_map]; rfl
  rw [e]
  generalize (rotB Prod.fst l a).map Prod.snd = m at *
  rw [← List.head?_eq_getElem?, head_once] at hx ⊢
  cases m with
  | nil => cases hx
  | cons y m =>
    have hy : y = x := by simpa using hx
    subst hy
    by_cases h : y = s
    · subst h
      rw [if_pos rfl, once_second, List.filter_cons_of_neg (by simp)]
    · rw [if_neg h, List.filter_cons_of_pos (by simp [h])]; rfl
end Go.Proofs.YtokdliapkolngaaDoor
