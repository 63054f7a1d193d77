/-
  Slices that a call owns: appends onto them, one law for every source (nil, empty, or not).
-/
import Derived.Test.YthfoaefdifbfaaaMem
import Derived.Maps.AppendAt
import Derived.Deep.AppendLies
namespace Go.Proofs.Ythfoaefdifbfaaa
open Go.RowKit

/-- the slice value '.slice A n c' owns the cells xs (one cell an element), in blocks from base on -/
def Own (w : World) (base e : Nat) (A : Option Addr) (n c : Nat) (xs : List Value) : Prop := w.ownsRow base e 1 (.slice A n c) n xs

section
variable {P : Program} {w w' : World} {base e n c : Nat} {A : Option Addr} {xs : List Value}
theorem Own.nil_ : Own w base e none 0 0 [] := World.ownsRow_nil w base e 1
theorem Own.len (h : Own w base e A n c xs) : xs.length = n := by simpa using h.1
theorem Own.of_block {g : Nat} {fr : List Value} (h : w.heap[g]? = some (.cells fr.toArray e (0, 0))) (hb : base ≤ g) (hl : fr.length = n) (hm : n ≤ maxLen) : Own w base e (some ⟨g, 0, none⟩) n n fr :=
  ⟨by simpa using hl, .inr ⟨g, n, fr.toArray, rfl, hb, h, Nat.le_refl _, hm, by simpa using hl, by simp [← hl]⟩⟩
theorem Own.of_made {g k : Nat} {fr : List Value} (h : w.heap[g]? = some (.cells fr.toArray e (0, 0))) (hb : base ≤ g) (hl : fr.length = c) (hm : c ≤ maxLen) (hk : k ≤ c) : Own w base e (some ⟨g, 0, none⟩) k c (fr.take k) :=
  ⟨by simp; omega, .inr ⟨g, c, fr.toArray, rfl, hb, h, hk, hm, by simpa using hl, by simp⟩⟩
theorem Own.sl (h : Own w base e A n c xs) : Sl w w.heap.size A n xs := by
  refine ⟨h.len, fun hn => ?_⟩
  obtain ⟨g, cap, hv, _, hlt⟩ := World.ownsRow.form h hn
  have hA : A = some ⟨g, 0, none⟩ := by injection hv
  subst hA
  refine ⟨g, 0, rfl, hlt, fun k u hu => ?_⟩
  have := World.ownsRow.cells h (g := g) rfl k u hu
  unfold Addr.add at this
  split at this
  · rename_i hk; subst hk; exact this
  · exact this
/-- kept where its row isn't written -/
theorem Own.kept {row : Option Nat} (h : Own w base e A n c xs) (hg : w.grownBy w' row) (hne : (Value.slice A n c).ownBlock = none ∨ (Value.slice A n c).ownBlock ≠ row) : Own w' base e A n c xs := World.ownsRow.kept h hg hne
theorem grownBy_of_below (h : Below w.heap.size w w') : w.grownBy w' none := ⟨h.os, h.tape, h.output, h.size, fun k hk _ => h.block k hk⟩
theorem Own.below (h : Own w base e A n c xs) (hb : Below w.heap.size w w') : Own w' base e A n c xs := h.kept (grownBy_of_below hb) (by cases (Value.slice A n c).ownBlock <;> simp)
theorem Own.alloc (h : Own w base e A n c xs) (o : Obj) : Own (w.alloc o) base e A n c xs := World.ownsRow.alloc h o
theorem Own.drew (h : Own w base e A n c xs) : Own w.drew base e A n c xs := h
theorem Sl.drew {w : World} {B n : Nat} {A : Option Addr} {xs : List Value} (h : Sl w B A n xs) : Sl w.drew B A n xs := h
theorem Own.drewN (h : Own w base e A n c xs) (k : Nat) : Own (w.drewN k) base e A n c xs := h
theorem Own.row_ge (h : Own w base e A n c xs) : ∀ k, (Value.slice A n c).ownBlock = some k → base ≤ k := fun k hk => (World.ownsRow.lt h k hk).1
theorem Own.row_lt (h : Own w base e A n c xs) : ∀ k, (Value.slice A n c).ownBlock = some k → k < w.heap.size := fun k hk => (World.ownsRow.lt h k hk).2

theorem run_append_own_nil (t ty : TypeId) (i : TypeInfo) (ht : P.underlying t = some (.slice e)) (hi : P.info? e = some i)
    (hown : Own w base e A n c xs) (c' : Nat) : (Builtin.append_ #[t, t] ty #[.slice A n c, .slice none 0 c']).run P w = .ok (.slice A n c) w := by
  rcases hown.2 with ⟨h, _⟩ | ⟨g, cap, cur, h, _, _, hnc, _⟩
  · injection h with h1 h2 h3; subst h1 h2 h3
    simp [Builtin.append_, run_underlying ht, sizeOf, typeInfo, hi, Builtin.lenOf, Builtin.firstCells]
  · injection h with h1 h2 h3; subst h1 h3
    simp [Builtin.append_, run_underlying ht, sizeOf, typeInfo, hi, Builtin.lenOf, Builtin.firstCells, hnc, storeCells]

/-- APPEND, onto what the call owns, of whatever source -/
theorem run_app (t ty : TypeId) (z : Value) (bytes : Nat) (ht : P.underlying t = some (.slice e)) (hi : (P.info? e).map (fun i => (i.zero, i.size, i.bytes)) = some (some z, 1, bytes)) (hz1 : z.cells.size = 1)
    (hown : Own w base e A n c xs) {B : Nat} {A' : Option Addr} {m c' : Nat} {news : List Value} (hr : Sl w B A' m news) (h1 : ∀ u ∈ news, u.oneCell' = true)
    (h63 : n + m ≤ maxLen) (hbytes : (n + m) * bytes ≤ 140737488355328) (hbase : base ≤ w.heap.size) :
    ∃ A2 c2 w', (Builtin.append_ #[t, t] ty #[.slice A n c, .slice A' m c']).run P w = .ok (.slice A2 (n + m) c2) w' ∧ Own w' base e A2 (n + m) c2 (xs ++ news) ∧ w.grownBy w' (Value.slice A n c).ownBlock ∧
      ((Value.slice A2 (n + m) c2).ownBlock = (Value.slice A n c).ownBlock ∨ (Value.slice A2 (n + m) c2).ownBlock = some w.heap.size) := by
  obtain ⟨i, hi0, hz, hs, hb⟩ := info_parts hi
  have shape : ∀ (v' : Value) (w1 : World), w1.ownsRow base e 1 v' (n + m) (xs ++ news) → ∃ A2 c2, v' = .slice A2 (n + m) c2 := by
    intro v' w1 h
    rcases h.2 with ⟨h, h0⟩ | ⟨g, cap, cur, h, _⟩
    · exact ⟨none, 0, by rw [h, h0]⟩
    · exact ⟨_, _, h⟩
  rcases A' with _ | ad
  · have hm : m = 0 := by
      rcases Nat.eq_zero_or_pos m with h0 | h0
      · exact h0
      · obtain ⟨b, off, h, _⟩ := hr.2 h0; cases h
    subst hm
    obtain rfl : news = [] := List.eq_nil_of_length_eq_zero hr.1
    exact ⟨A, c, w, run_append_own_nil t ty i ht hi0 hown c', by simpa using hown, ⟨rfl, rfl, rfl, Nat.le_refl _, fun _ _ _ => rfl⟩, .inl rfl⟩
  · have hcells : ∀ j u, news[j]? = some u → w.cell? (ad.add j) = some u := by
      intro j u hu
      rcases Nat.eq_zero_or_pos m with h0 | h0
      · subst h0
        obtain rfl : news = [] := List.eq_nil_of_length_eq_zero hr.1
        simp at hu
      · obtain ⟨b, off, h, _, hc⟩ := hr.2 h0
        injection h with h; subst h
        have := hc j u hu
        unfold Addr.add
        split
        · rename_i hj; subst hj; exact this
        · exact this
    obtain ⟨v', w1, hrun, h2, h3, _, h5⟩ := run_append_own_at (P := P) w base t ty e i z 1 bytes ht hi0 hz hs hb hz1 (by omega) (.slice A n c) n xs hown ad m c' news (by simpa using hr.1) hcells h1 h63 hbytes hbase
    obtain ⟨A2, c2, rfl⟩ := shape v' w1 h2
    exact ⟨A2, c2, w1, hrun, h2, h3, h5⟩

theorem wp_app {o : Oper} {a : Act} {K : Act → World → Prop} {Q : Exit → Act → World → Prop} (s x : Operand) (t : TypeId)
    (ho : o.op = .call { callee := .builtin .append, args := #[s, x], argTypes := #[t, t] })
    (z : Value) (bytes : Nat) (ht : P.underlying t = some (.slice e)) (hi : (P.info? e).map (fun i => (i.zero, i.size, i.bytes)) = some (some z, 1, bytes)) (hz1 : z.cells.size = 1)
    (hs : a.eval s = .slice A n c) (hown : Own w base e A n c xs) {B : Nat} {A' : Option Addr} {m c' : Nat} {news : List Value} (hx : a.eval x = .slice A' m c') (hr : Sl w B A' m news) (h1 : ∀ u ∈ news, u.oneCell' = true)
    (h63 : n + m ≤ maxLen) (hbytes : (n + m) * bytes ≤ 140737488355328) (hbase : base ≤ w.heap.size)
    (h : ∀ A2 c2 w', Own w' base e A2 (n + m) c2 (xs ++ news) → w.grownBy w' (Value.slice A n c).ownBlock →
      ((Value.slice A2 (n + m) c2).ownBlock = (Value.slice A n c).ownBlock ∨ (Value.slice A2 (n + m) c2).ownBlock = some w.heap.size) → K (a.put o.dst (.slice A2 (n + m) c2)) w') : o.wp P a w K Q := by
  obtain ⟨A2, c2, w', hrun, h2, h3, h4⟩ := run_app (P := P) t o.type z bytes ht hi hz1 hown (c' := c') hr h1 h63 hbytes hbase
  unfold Oper.wp execOp
  simp only [ho, resolve, invoke, builtin, Sem.run_bind, Sem.run_pure, Result.andThen_ok, List.map_toArray, List.map_cons, List.map_nil, hs, hx, hrun]
  exact h A2 c2 w' h2 h3 h4
/-- at a list of operations -/
theorem wpList_app {ops : Array Oper} {rest : List Oper} {o : Oper} {a : Act} {Q : Exit → Act → World → Prop} (hgd : o.guard = none) (s x : Operand) (t : TypeId)
    (ho : o.op = .call { callee := .builtin .append, args := #[s, x], argTypes := #[t, t] })
    (z : Value) (bytes : Nat) (ht : P.underlying t = some (.slice e)) (hi : (P.info? e).map (fun i => (i.zero, i.size, i.bytes)) = some (some z, 1, bytes)) (hz1 : z.cells.size = 1)
    (hs : a.eval s = .slice A n c) (hown : Own w base e A n c xs) {B : Nat} {A' : Option Addr} {m c' : Nat} {news : List Value} (hx : a.eval x = .slice A' m c') (hr : Sl w B A' m news) (h1 : ∀ u ∈ news, u.oneCell' = true)
    (h63 : n + m ≤ maxLen) (hbytes : (n + m) * bytes ≤ 140737488355328) (hbase : base ≤ w.heap.size)
    (h : ∀ A2 c2 w', Own w' base e A2 (n + m) c2 (xs ++ news) → w.grownBy w' (Value.slice A n c).ownBlock →
      ((Value.slice A2 (n + m) c2).ownBlock = (Value.slice A n c).ownBlock ∨ (Value.slice A2 (n + m) c2).ownBlock = some w.heap.size) → wpList P ops Q rest (a.put o.dst (.slice A2 (n + m) c2)) w') :
    wpList P ops Q (o :: rest) a w :=
  wpList_plain hgd fun _ hK => wp_app s x t ho z bytes ht hi hz1 hs hown hx hr h1 h63 hbytes hbase fun A2 c2 w' h2 h3 h4 => hK _ _ (h A2 c2 w' h2 h3 h4)
/-- at a step of a region that draws its order -/
theorem step_app {ops : Array Oper} {o : Oper} {a : Act} {K : Act → World → Prop} {Q : Exit → Act → World → Prop} {E : Prop} (hgd : o.guard = none) (s x : Operand) (t : TypeId)
    (ho : o.op = .call { callee := .builtin .append, args := #[s, x], argTypes := #[t, t] })
    (z : Value) (bytes : Nat) (ht : P.underlying t = some (.slice e)) (hi : (P.info? e).map (fun i => (i.zero, i.size, i.bytes)) = some (some z, 1, bytes)) (hz1 : z.cells.size = 1)
    (hs : a.eval s = .slice A n c) (hown : Own w base e A n c xs) {B : Nat} {A' : Option Addr} {m c' : Nat} {news : List Value} (hx : a.eval x = .slice A' m c') (hr : Sl w B A' m news) (h1 : ∀ u ∈ news, u.oneCell' = true)
    (h63 : n + m ≤ maxLen) (hbytes : (n + m) * bytes ≤ 140737488355328) (hbase : base ≤ w.heap.size)
    (h : ∀ A2 c2 w', Own w' base e A2 (n + m) c2 (xs ++ news) → w.grownBy w' (Value.slice A n c).ownBlock →
      ((Value.slice A2 (n + m) c2).ownBlock = (Value.slice A n c).ownBlock ∨ (Value.slice A2 (n + m) c2).ownBlock = some w.heap.size) → K (a.put o.dst (.slice A2 (n + m) c2)) w') :
    if Region.wanted o (yielded ops a.tmps) = true then Oper.wp P o a w K Q else E := by
  rw [if_pos (by simp [Region.wanted, hgd])]
  exact wp_app s x t ho z bytes ht hi hz1 hs hown hx hr h1 h63 hbytes hbase h
/-- a cell below what the call owns is as it was -/
theorem Own.far {w0 : World} {b off : Nat} {v : Value} (h : Own w0 base e A n c xs) (hg : w.grownBy w' (Value.slice A n c).ownBlock) (hb : b < base) (hc : w.cell? ⟨b, off, none⟩ = some v) : w'.cell? ⟨b, off, none⟩ = some v :=
  hg.cell hc (fun he => by have := h.row_ge b he.symm; omega)
theorem below_of_grown {B : Nat} {a : World} {row : Option Nat} (hb : Below B a w) (hg : w.grownBy w' row) (hB : B ≤ w.heap.size) (hr : ∀ k, row = some k → B ≤ k) : Below B a w' := hb.grown hg hB hr
end
theorem cells_int (k : IntKind) (x : Int) : (Value.int k x).cells.size = 1 := rfl
theorem cell_more {w : World} {b o : Nat} {v : Value} (h : w.cell? ⟨b, o, none⟩ = some v) (x : Obj) : (w.alloc x).drew.cell? ⟨b, o, none⟩ = some v := (World.cell?_alloc_lt w x ⟨b, o, none⟩ (World.block_lt_of_cell? w _ h)).trans h
theorem one_int (k : IntKind) (x : Int) : ∀ u ∈ [Value.int k x], u.oneCell' = true := by intro u hu; simp at hu; subst hu; rfl
theorem cells_string (s : ByteArray) : (Value.string s).cells.size = 1 := rfl
/-- one new cell, just laid -/
theorem Sl.one {w : World} {v : Value} {t : TypeId} : Sl (w.alloc (.cells #[v] t)) (w.heap.size + 1) (some ⟨w.heap.size, 0, none⟩) 1 [v] := by
  refine ⟨rfl, fun _ => ⟨w.heap.size, 0, rfl, by omega, fun k u hu => ?_⟩⟩
  match k, hu with
  | 0, hu => rw [World.cell?_alloc_at _ _ _ _ rfl]; exact hu
  | k + 1, hu => simp at hu
end Go.Proofs.Ythfoaefdifbfaaa
