/-
  Revoke: what RevokeAnswers counts, in plain words; the crew under way.
-/
import Derived.Test.YtigeccflfdekiaaRevL
import Derived.Test.YtigeccflfdekiaaRevK
namespace Go.Proofs.Ytigeccflfdekiaa
open Go.RowKit Go.Maps
set_option linter.unusedVariables false

def wx (p : Rst) : Int × Int := (p.edge, p.seq)
theorem wx_ok {p : Rst} (h : p.Ok) : WOk (wx p) := ⟨h.edge, h.seq⟩
open Classical in
/-- who waits, once these have been noted -/
noncomputable def QL (l : List Rst) : ByteArray → Int × Int → Bool := fun s x => decide (∃ p ∈ l, p.fam = s ∧ wx p = x)
theorem QL_iff (l : List Rst) (s : ByteArray) (x : Int × Int) : QL l s x = true ↔ ∃ p ∈ l, p.fam = s ∧ wx p = x := by unfold QL; rw [decide_eq_true_iff]
theorem QL_nil : QL [] = fun _ _ => false := by
  funext s x
  cases h : QL [] s x with
  | false => rfl
  | true => obtain ⟨p, hp, _⟩ := (QL_iff _ _ _).1 h; cases hp
theorem QL_snoc (l : List Rst) (p : Rst) : setQ (QL l) p.fam (fun y => y == wx p || QL l p.fam y) = QL (l ++ [p]) := by
  funext s x
  rw [Bool.eq_iff_iff, QL_iff]
  by_cases h : s = p.fam
  · subst h
    rw [setQ_same, Bool.or_eq_true, QL_iff, beq_iff_eq]
    constructor
    · rintro (h | ⟨q, hq, h1, h2⟩)
      · exact ⟨p, by simp, rfl, h.symm⟩
      · exact ⟨q, by simp [hq], h1, h2⟩
    · rintro ⟨q, hq, h1, h2⟩
      rw [List.mem_append, List.mem_singleton] at hq
      rcases hq with hq | rfl
      · exact .inr ⟨q, hq, h1, h2⟩
      · exact .inl h2.symm
  · rw [setQ_other _ _ h, QL_iff]
    constructor
    · rintro ⟨q, hq, h1, h2⟩; exact ⟨q, by simp [hq], h1, h2⟩
    · rintro ⟨q, hq, h1, h2⟩
      rw [List.mem_append, List.mem_singleton] at hq
      rcases hq with hq | rfl
      · exact ⟨q, hq, h1, h2⟩
      · exact absurd h1.symm h
/-- those who wait for f, each once -/
def freshI (f : ByteArray) (l : List Rst) : List (Int × Int) := l.foldl (fun acc p => if p.fam = f ∧ wx p ∉ acc then acc ++ [wx p] else acc) []
theorem freshI_snoc (f : ByteArray) (l : List Rst) (p : Rst) : freshI f (l ++ [p]) = if p.fam = f ∧ wx p ∉ freshI f l then freshI f l ++ [wx p] else freshI f l := by
  unfold freshI; rw [List.foldl_append]; rfl
theorem snoc_ind {α : Type} {P : List α → Prop} (h0 : P []) (h1 : ∀ l x, P l → P (l ++ [x])) (l : List α) : P l := by
  suffices h : ∀ m : List α, P m.reverse by rw [← List.reverse_reverse l]; exact h _
  intro m
  induction m with
  | nil => exact h0
  | cons x m ih => rw [List.reverse_cons]; exact h1 _ _ ih
theorem freshI_spec (f : ByteArray) (l : List Rst) : (freshI f l).Nodup ∧ ∀ x, x ∈ freshI f l ↔ ∃ p ∈ l, p.fam = f ∧ wx p = x := by
  refine snoc_ind (P := fun l => (freshI f l).Nodup ∧ ∀ x, x ∈ freshI f l ↔ ∃ p ∈ l, p.fam = f ∧ wx p = x) ⟨List.nodup_nil, fun x => by simp [freshI]⟩ (fun l p ih => ?_) l
  · obtain ⟨h1, h2⟩ := ih
    rw [freshI_snoc]
    split
    · rename_i h
      refine ⟨List.nodup_append.2 ⟨h1, by simp, fun a ha b hb => by simp at hb; subst hb; exact fun e => h.2 (e ▸ ha)⟩, fun x => ?_⟩
      rw [List.mem_append, List.mem_singleton, h2]
      constructor
      · rintro (⟨q, hq, h3, h4⟩ | rfl)
        · exact ⟨q, by simp [hq], h3, h4⟩
        · exact ⟨p, by simp, h.1, rfl⟩
      · rintro ⟨q, hq, h3, h4⟩
        rw [List.mem_append, List.mem_singleton] at hq
        rcases hq with hq | rfl
        · exact .inl ⟨q, hq, h3, h4⟩
        · exact .inr h4.symm
    · rename_i h
      refine ⟨h1, fun x => ?_⟩
      rw [h2]
      constructor
      · rintro ⟨q, hq, h3, h4⟩; exact ⟨q, by simp [hq], h3, h4⟩
      · rintro ⟨q, hq, h3, h4⟩
        rw [List.mem_append, List.mem_singleton] at hq
        rcases hq with hq | rfl
        · exact ⟨q, hq, h3, h4⟩
        · by_cases hm : wx q ∈ freshI f l
          · obtain ⟨q', a, b, c⟩ := (h2 _).1 hm
            exact ⟨q', a, b, c.trans h4⟩
          · exact absurd ⟨h3, hm⟩ h
theorem just_len {f : ByteArray} {l : List Rst} {ls : List (Int × Int)} (h : Just (QL l f) ls) (hok : ∀ p ∈ l, p.Ok) : ls.length = (freshI f l).length := by
  obtain ⟨h1, h2⟩ := freshI_spec f l
  have nd : ls.Nodup := h.1.imp fun {a b} hab e => by subst e; unfold wLt at hab; omega
  refine ((List.perm_ext_iff_of_nodup nd h1).2 fun x => ?_).length_eq
  rw [h.2, h2, QL_iff]
  constructor
  · exact fun hx => hx.2
  · rintro ⟨p, hp, h3, h4⟩
    exact ⟨h4 ▸ wx_ok (hok p hp), p, hp, h3, h4⟩
theorem just_nil {ls : List (Int × Int)} (h : Just (fun _ => false) ls) : ls = [] := by
  cases ls with
  | nil => rfl
  | cons x l => have := (h.2 x).1 (by simp); cases this.2
open Classical in
/-- .. when f and the first i have gone -/
noncomputable def QG (f : ByteArray) (l g : List Rst) : ByteArray → Int × Int → Bool := fun s x => if s = f ∨ ∃ p ∈ g, p.fam = s then false else QL l s x
theorem setQ_idem (Q : ByteArray → Int × Int → Bool) (s : ByteArray) (g : Int × Int → Bool) : setQ (setQ Q s g) s g = setQ Q s g := by
  funext s' x
  by_cases h : s' = s
  · subst h; rw [setQ_same, setQ_same]
  · rw [setQ_other _ _ h]
theorem QG_nil (f : ByteArray) (l : List Rst) : setQ (QL l) f (fun _ => false) = QG f l [] := by
  funext s x
  unfold QG
  by_cases h : s = f
  · subst h; rw [setQ_same, if_pos (.inl rfl)]
  · rw [setQ_other _ _ h, if_neg]; rintro (h' | ⟨p, hp, _⟩)
    · exact h h'
    · cases hp
theorem QG_snoc (f : ByteArray) (l g : List Rst) (p : Rst) : setQ (QG f l g) p.fam (fun _ => false) = QG f l (g ++ [p]) := by
  funext s x
  by_cases h : s = p.fam
  · subst h; rw [setQ_same]; unfold QG; rw [if_pos (.inr ⟨p, by simp, rfl⟩)]
  · rw [setQ_other _ _ h]; unfold QG
    congr 1
    simp only [List.mem_append, List.mem_singleton, eq_iff_iff]
    constructor
    · rintro (h1 | ⟨q, hq, h2⟩)
      · exact .inl h1
      · exact .inr ⟨q, .inl hq, h2⟩
    · rintro (h1 | ⟨q, hq | rfl, h2⟩)
      · exact .inl h1
      · exact .inr ⟨q, hq, h2⟩
      · exact absurd h2.symm h
theorem QG_same (f : ByteArray) (l g : List Rst) (p : Rst) (hp : p.fam = f) : QG f l (g ++ [p]) = QG f l g := by
  funext s x
  unfold QG
  congr 1
  simp only [List.mem_append, List.mem_singleton, eq_iff_iff]
  constructor
  · rintro (h1 | ⟨q, hq | rfl, h2⟩)
    · exact .inl h1
    · exact .inr ⟨q, hq, h2⟩
    · exact .inl (h2.symm.trans hp)
  · rintro (h1 | ⟨q, hq, h2⟩)
    · exact .inl h1
    · exact .inr ⟨q, .inl hq, h2⟩
/-- a crew and who waits, in blocks of its own -/
structure AnsSt (w0 w : World) (cg bt bw n : Nat) (pace : Int) (Q : ByteArray → Int × Int → Bool) : Prop where
  row : RowV w cg 69 [.int .i64 pace, .map (some bt), .map (some bw)]
  ex : ∃ B, WaitSt w bw n B Q ∧ ∀ s b, B s = some b → w0.heap.size ≤ b ∧ b ≠ cg ∧ b ≠ bt
  ne : cg ≠ bw
  ge : w0.heap.size ≤ cg ∧ w0.heap.size ≤ bw
  b : Below w0.heap.size w0 w
section
variable {w0 w w' : World} {cg bt bw n : Nat} {pace : Int} {Q : ByteArray → Int × Int → Bool}
theorem AnsSt.below (h : AnsSt w0 w cg bt bw n pace Q) (hb : Below w.heap.size w w') : AnsSt w0 w' cg bt bw n pace Q := by
  obtain ⟨B, h1, h2⟩ := h.ex
  exact ⟨h.row.below' hb, ⟨B, h1.below hb, h2⟩, h.ne, h.ge, h.b.trans (hb.mono h.b.size)⟩
theorem AnsSt.mono {n' : Nat} (h : AnsSt w0 w cg bt bw n pace Q) (hn : n ≤ n') : AnsSt w0 w cg bt bw n' pace Q := by
  obtain ⟨B, h1, h2⟩ := h.ex
  exact ⟨h.row, ⟨B, h1.mono hn, h2⟩, h.ne, h.ge, h.b⟩
theorem AnsSt.wait (h : AnsSt w0 w cg bt bw n pace Q) {s : ByteArray} {x : Int × Int} (hbt : bt ≠ bw ∧ bt < w.heap.size) (hk : s.size ≤ maxLen) (hx : WOk x) (hn : n ≤ 1000000) :
    Calls Try.prog 11 #[.pointer (some ⟨cg, 0, none⟩), .string s, .int .i64 x.1, .int .i64 x.2] w fun en w' => en = .returned (.tuple #[]) ∧ Hid (AnsSt w0 w' cg bt bw (n + 2) pace (setQ Q s (fun y => y == x || Q s y))) ∧ Hid (But (fun k => w0.heap.size ≤ k ∧ k ≠ cg ∧ k ≠ bt) w w') := by
  obtain ⟨B, h1, h2⟩ := h.ex
  refine (wait_any cg bt bw n pace B Q s x w h.row h1 h.ne hk hx hn).mono ?_
  rintro en w' ⟨rfl, B', h3, h4, h5⟩
  have hne := h.ne; have hge := h.ge; have hsz := h.b.size; have hlt := h.row.lt
  have hs : ∀ k, (k = bw ∨ ∃ s', B s' = some k) → w0.heap.size ≤ k ∧ k ≠ cg ∧ k ≠ bt := fun k hk => by
    rcases hk with rfl | ⟨s', hs'⟩
    · exact ⟨hge.2, fun e => hne e.symm, fun e => hbt.1 e.symm⟩
    · exact h2 s' k hs'
  refine ⟨rfl, hide ⟨h5.out.row h.row (fun hh => (hs _ hh).2.1 rfl), ⟨B', h3.out, fun s' b hs' => ?_⟩, hne, hge, h.b.trans (h5.out.below (fun k hk => (hs k hk).1) hsz)⟩, hide (h5.out.mono hs)⟩
  rcases h4.out s' b hs' with h6 | h6
  · exact h2 s' b h6
  · exact ⟨by omega, by omega, by omega⟩
theorem AnsSt.gone (h : AnsSt w0 w cg bt bw n pace Q) {s : ByteArray} (hbt : bt ≠ bw) (hk : s.size ≤ maxLen) (hn : n ≤ 1000000) :
    Calls Try.prog 12 #[.pointer (some ⟨cg, 0, none⟩), .string s] w fun en w' => ∃ A c ls, en = .returned (.slice A ls.length c) ∧ Hid (Just (Q s) ls ∧ ls.length ≤ 1000000) ∧ Hid (OwnS 2 w' w.heap.size 50 A ls.length c (ls.flatMap waitC)) ∧ Hid (AnsSt w0 w' cg bt bw n pace (setQ Q s (fun _ => false))) ∧ Hid (But (fun k => k = bw) w w') := by
  obtain ⟨B, h1, h2⟩ := h.ex
  refine (gone_any cg bt bw n pace B Q s w h.row h1 h.ne hk hn).mono ?_
  rintro en w' ⟨A, c, ls, rfl, h3, h4, h5, h6⟩
  have hne := h.ne; have hge := h.ge
  refine ⟨A, c, ls, rfl, h3, h4, hide ⟨h6.out.row h.row hne, ⟨_, h5.out, fun s' b hs' => ?_⟩, hne, hge, h.b.trans (h6.out.below (fun k hk => by have hk : k = bw := hk; omega) h.b.size)⟩, h6⟩
  by_cases hc : s' = s
  · subst hc; rw [setB_same] at hs'; cases hs'
  · rw [setB_other _ _ hc] at hs'; exact h2 s' b hs'
end
end Go.Proofs.Ytigeccflfdekiaa
