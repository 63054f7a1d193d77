/-
  Slices that a call owns, of elements of several cells each: appends of one element, cells, stores.
-/
import Derived.Test.YtokdliapkolngaaDoorOwn
import Derived.Test.YtokdliapkolngaaDoorBut
namespace Go.Proofs.YtokdliapkolngaaDoor
open Go.RowKit
set_option linter.unusedVariables false

/-- the slice value '.slice A n c' owns n elements of sz cells each -/
def OwnS (sz : Nat) (w : World) (base e : Nat) (A : Option Addr) (n c : Nat) (xs : List Value) : Prop := w.ownsRow base e sz (.slice A n c) n xs
section
variable {P : Program} {w w' : World} {sz base e n c : Nat} {A : Option Addr} {xs : List Value}
theorem OwnS.nil_ : OwnS sz w base e none 0 0 [] := World.ownsRow_nil w base e sz
theorem OwnS.of_own (h : Own w base e A n c xs) : OwnS 1 w base e A n c xs := h
theorem OwnS.kept {row : Option Nat} (h : OwnS sz w base e A n c xs) (hg : w.grownBy w' row) (hne : (Value.slice A n c).ownBlock = none ∨ (Value.slice A n c).ownBlock ≠ row) : OwnS sz w' base e A n c xs := World.ownsRow.kept h hg hne
theorem OwnS.below (h : OwnS sz w base e A n c xs) (hb : Below w.heap.size w w') : OwnS sz w' base e A n c xs := h.kept (grownBy_of_below hb) (by cases (Value.slice A n c).ownBlock <;> simp)
theorem OwnS.alloc (h : OwnS sz w base e A n c xs) (o : Obj) : OwnS sz (w.alloc o) base e A n c xs := World.ownsRow.alloc h o
theorem OwnS.drew (h : OwnS sz w base e A n c xs) : OwnS sz w.drew base e A n c xs := h
theorem OwnS.row_ge (h : OwnS sz w base e A n c xs) : ∀ k, (Value.slice A n c).ownBlock = some k → base ≤ k := fun k hk => (World.ownsRow.lt h k hk).1
theorem OwnS.row_lt (h : OwnS sz w base e A n c xs) : ∀ k, (Value.slice A n c).ownBlock = some k → k < w.heap.size := fun k hk => (World.ownsRow.lt h k hk).2
theorem OwnS.base_ {base' : Nat} (h : OwnS sz w base e A n c xs) (hb : base' ≤ base) : OwnS sz w base' e A n c xs := by
  rcases h.2 with ⟨h1, h2⟩ | ⟨g, cap, cur, h1, h2, h3⟩
  · exact ⟨h.1, .inl ⟨h1, h2⟩⟩
  · exact ⟨h.1, .inr ⟨g, cap, cur, h1, Nat.le_trans hb h2, h3⟩⟩
theorem OwnS.cap_ge (h : OwnS sz w base e A n c xs) : n ≤ c := by
  rcases h.2 with ⟨h1, h2⟩ | ⟨g, cap, cur, h1, h2, h3, h4, h5, h6, h7⟩
  · omega
  · injection h1 with a1 a2 a3; omega
theorem OwnS.but_row {S : Nat → Prop} (h : OwnS sz w base e A n c xs) (hb : But S w w') (hs : ∀ k, (Value.slice A n c).ownBlock = some k → ¬ S k) : OwnS sz w' base e A n c xs := by
  rcases h.2 with ⟨h1, h2⟩ | ⟨g, cap, cur, h1, h2, h3, h4⟩
  · exact ⟨h.1, .inl ⟨h1, h2⟩⟩
  · exact ⟨h.1, .inr ⟨g, cap, cur, h1, h2, (hb.block g (Array.getElem?_eq_some_iff.1 h3).1 (hs g (by rw [h1]; rfl))).trans h3, h4⟩⟩
/-- where the cells are; they can be written -/
theorem OwnS.spot (h : OwnS sz w base e A n c xs) (hn : 0 < n) : ∃ g, A = some ⟨g, 0, none⟩ ∧ (Value.slice A n c).ownBlock = some g ∧ (∀ j u, xs[j]? = some u → w.cell? ⟨g, j, none⟩ = some u) ∧ (∀ j, w.frozen? ⟨g, j, none⟩ = false) := by
  rcases h.2 with ⟨h1, h2⟩ | ⟨g, cap, cur, h1, h2, h3, h4, h5, h6, h7⟩
  · omega
  · have hA : A = some ⟨g, 0, none⟩ := by injection h1
    subst hA
    refine ⟨g, rfl, rfl, fun j u hu => ?_, fun j => frozen_of_row w g j _ _ h3⟩
    rw [cell_of_row w g j _ _ _ h3]
    rw [← h7, List.getElem?_take] at hu
    split at hu
    · simpa using hu
    · cases hu
/-- a cell is written -/
theorem OwnS.set {g j : Nat} (h : OwnS sz w base e (some ⟨g, 0, none⟩) n c xs) (v : Value) : OwnS sz (w.setCell ⟨g, j, none⟩ v) base e (some ⟨g, 0, none⟩) n c (xs.set j v) := by
  rcases h.2 with ⟨h1, h2⟩ | ⟨g', cap, cur, h1, h2, h3, h4, h5, h6, h7⟩
  · cases h1
  · injection h1 with a1 a2 a3
    injection a1 with a1; injection a1 with a1 _ _
    subst a1
    refine ⟨by rw [List.length_set]; exact h.1, .inr ⟨g, cap, cur.setIfInBounds j v, by rw [a3], h2, heap_setCell_same _ _ _ _ _ _ h3, h4, h5, by simpa using h6, ?_⟩⟩
    rw [← h7, Array.toList_setIfInBounds, List.take_set]
theorem run_appS (t ty : TypeId) (z : Value) (bytes : Nat) (ht : P.underlying t = some (.slice e)) (hi : (P.info? e).map (fun i => (i.zero, i.size, i.bytes)) = some (some z, sz, bytes)) (hz1 : z.cells.size = sz) (hsz : 0 < sz)
    (hown : OwnS sz w base e A n c xs) {a : Addr} {m c' : Nat} {news : List Value} (hl : news.length = m * sz) (hnews : ∀ j u, news[j]? = some u → w.cell? (a.add j) = some u) (h1 : ∀ u ∈ news, u.oneCell' = true)
    (h63 : n + m ≤ maxLen) (hbytes : (n + m) * bytes ≤ 140737488355328) (hbase : base ≤ w.heap.size) :
    ∃ A2 c2 w', (Builtin.append_ #[t, t] ty #[.slice A n c, .slice (some a) m c']).run P w = .ok (.slice A2 (n + m) c2) w' ∧ OwnS sz w' base e A2 (n + m) c2 (xs ++ news) ∧ w.grownBy w' (Value.slice A n c).ownBlock ∧
      ((Value.slice A2 (n + m) c2).ownBlock = (Value.slice A n c).ownBlock ∨ (Value.slice A2 (n + m) c2).ownBlock = some w.heap.size) := by
  obtain ⟨i, hi0, hz, hs, hb⟩ := info_parts hi
  obtain ⟨v', w1, hrun, h2, h3, _, h5⟩ := run_append_own_at (P := P) w base t ty e i z sz bytes ht hi0 hz hs hb hz1 hsz (.slice A n c) n xs hown a m c' news hl hnews h1 h63 hbytes hbase
  have shape : ∃ A2 c2, v' = .slice A2 (n + m) c2 := by
    rcases h2.2 with ⟨h, h0⟩ | ⟨g, cap, cur, h, _⟩
    · exact ⟨none, 0, by rw [h, h0]⟩
    · exact ⟨_, _, h⟩
  obtain ⟨A2, c2, rfl⟩ := shape
  exact ⟨A2, c2, w1, hrun, h2, h3, h5⟩
theorem wp_appS {o : Oper} {a : Act} {K : Act → World → Prop} {Q : Exit → Act → World → Prop} (s x : Operand) (t : TypeId)
    (ho : o.op = .call { callee := .builtin .append, args := #[s, x], argTypes := #[t, t] })
    (z : Value) (bytes : Nat) (ht : P.underlying t = some (.slice e)) (hi : (P.info? e).map (fun i => (i.zero, i.size, i.bytes)) = some (some z, sz, bytes)) (hz1 : z.cells.size = sz) (hsz : 0 < sz)
    (hs : a.eval s = .slice A n c) (hown : OwnS sz w base e A n c xs) {ad : Addr} {m c' : Nat} {news : List Value} (hx : a.eval x = .slice (some ad) m c') (hl : news.length = m * sz) (hnews : ∀ j u, news[j]? = some u → w.cell? (ad.add j) = some u) (h1 : ∀ u ∈ news, u.oneCell' = true)
    (h63 : n + m ≤ maxLen) (hbytes : (n + m) * bytes ≤ 140737488355328) (hbase : base ≤ w.heap.size)
    (h : ∀ A2 c2 w', OwnS sz w' base e A2 (n + m) c2 (xs ++ news) → w.grownBy w' (Value.slice A n c).ownBlock →
      ((Value.slice A2 (n + m) c2).ownBlock = (Value.slice A n c).ownBlock ∨ (Value.slice A2 (n + m) c2).ownBlock = some w.heap.size) → K (a.put o.dst (.slice A2 (n + m) c2)) w') : o.wp P a w K Q := by
  obtain ⟨A2, c2, w', hrun, h2, h3, h4⟩ := run_appS (P := P) t o.type z bytes ht hi hz1 hsz hown (c' := c') hl hnews h1 h63 hbytes hbase
  unfold Oper.wp execOp
  simp only [ho, resolve, invoke, builtin, Sem.run_bind, Sem.run_pure, Result.andThen_ok, List.map_toArray, List.map_cons, List.map_nil, hs, hx, hrun]
  exact h A2 c2 w' h2 h3 h4
/-- at a list of operations: one element of several cells, just laid -/
theorem wpList_appS1 {ops : Array Oper} {rest : List Oper} {o : Oper} {a : Act} {Q : Exit → Act → World → Prop} (hgd : o.guard = none) (s x : Operand) (t : TypeId)
    (ho : o.op = .call { callee := .builtin .append, args := #[s, x], argTypes := #[t, t] })
    (z : Value) (bytes : Nat) (ht : P.underlying t = some (.slice e)) (hi : (P.info? e).map (fun i => (i.zero, i.size, i.bytes)) = some (some z, sz, bytes)) (hz1 : z.cells.size = sz) (hsz : 0 < sz)
    (news : List Value) (e' : Nat) (hs : a.eval s = .slice A n c) (hown : OwnS sz w base e A n c xs) {c' : Nat} (hx : a.eval x = .slice (some ⟨w.heap.size, 0, none⟩) 1 c') (hl : news.length = sz) (h1 : ∀ u ∈ news, u.oneCell' = true)
    (h63 : n + 1 ≤ maxLen) (hbytes : (n + 1) * bytes ≤ 140737488355328) (hbase : base ≤ w.heap.size)
    (h : ∀ A2 c2 w', OwnS sz w' base e A2 (n + 1) c2 (xs ++ news) → (w.alloc (.cells news.toArray e')).grownBy w' (Value.slice A n c).ownBlock →
      ((Value.slice A2 (n + 1) c2).ownBlock = (Value.slice A n c).ownBlock ∨ (Value.slice A2 (n + 1) c2).ownBlock = some (w.heap.size + 1)) → wpList P ops Q rest (a.put o.dst (.slice A2 (n + 1) c2)) w') :
    wpList P ops Q (o :: rest) a (w.alloc (.cells news.toArray e')) := by
  refine wpList_plain hgd fun _ hK => ?_
  refine wp_appS (P := P) s x t ho z bytes ht hi hz1 hsz hs (hown.alloc _) hx (by rw [Nat.one_mul]; exact hl) (fun j u hu => ?_) h1 h63 hbytes (by rw [World.size_alloc]; omega) fun A2 c2 w' h2 h3 h4 => hK _ _ (h A2 c2 w' h2 h3 (by rw [World.size_alloc] at h4; exact h4))
  have := cell_of_row (w.alloc (.cells news.toArray e')) w.heap.size j _ _ _ (heap_alloc_new w _)
  have h2 : (⟨w.heap.size, 0, none⟩ : Addr).add j = ⟨w.heap.size, j, none⟩ := by
    unfold Addr.add; split <;> simp_all
  rw [h2, this]
  simpa using hu
end
theorem But.setC {S : Nat → Prop} {w w' : World} {g k : Nat} {v : Value} (h : But S w w') (hg : S g) : But S w (w'.setCell ⟨g, k, none⟩ v) :=
  ⟨h.os, h.tape, h.output, by rw [World.size_setCell]; exact h.size, fun j hj hn => by
    have hne : j ≠ g := fun e => hn (e ▸ hg)
    rw [heap_setCell_other _ _ _ _ hne]; exact h.block j hj hn⟩
/-- elements in their cells, one behind the other -/
theorem flat_len {α : Type} {enc : α → List Value} {sz : Nat} (h : ∀ x, (enc x).length = sz) (l : List α) : (l.flatMap enc).length = l.length * sz := by
  induction l with
  | nil => simp
  | cons x l ih => rw [List.flatMap_cons, List.length_append, h, ih, List.length_cons, Nat.add_mul]; omega
theorem flat_get {α : Type} {enc : α → List Value} {sz : Nat} (h : ∀ x, (enc x).length = sz) {l : List α} {k j : Nat} {x : α} {v : Value} (hk : l[k]? = some x) (hj : (enc x)[j]? = some v) : (l.flatMap enc)[k * sz + j]? = some v := by
  induction l generalizing k with
  | nil => simp at hk
  | cons y l ih =>
    have hjl : j < sz := by rw [← h x]; exact (List.getElem?_eq_some_iff.1 hj).1
    cases k with
    | zero =>
      simp at hk; subst hk
      rw [List.flatMap_cons, List.getElem?_append_left (by rw [h]; omega), Nat.zero_mul, Nat.zero_add]; exact hj
    | succ k =>
      have he : (k + 1) * sz + j = sz + (k * sz + j) := by rw [Nat.add_mul]; omega
      rw [List.flatMap_cons, List.getElem?_append_right (by rw [h]; omega), h, he, Nat.add_sub_cancel_left]
      exact ih (by simpa using hk)
theorem flat_set {α : Type} {enc : α → List Value} {sz : Nat} (h : ∀ x, (enc x).length = sz) {l : List α} {k j : Nat} {x y : α} {v : Value} (hk : l[k]? = some x) (hj : j < sz) (hy : enc y = (enc x).set j v) : (l.flatMap enc).set (k * sz + j) v = (l.set k y).flatMap enc := by
  induction l generalizing k with
  | nil => simp at hk
  | cons a l ih =>
    cases k with
    | zero =>
      simp at hk; subst hk
      rw [List.flatMap_cons, List.set_append_left _ _ (by rw [h]; omega), List.set_cons_zero, List.flatMap_cons, hy, Nat.zero_mul, Nat.zero_add]
    | succ k =>
      have he : (k + 1) * sz + j - sz = k * sz + j := by rw [Nat.add_mul]; omega
      rw [List.flatMap_cons, List.set_append_right _ _ (by rw [h, Nat.add_mul]; omega), h, he, List.set_cons_succ, List.flatMap_cons, ih (by simpa using hk)]
end Go.Proofs.YtokdliapkolngaaDoor
