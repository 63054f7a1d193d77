/-
  Revoke: the document's crew: families begun, who waits; in plain words and in memory.
-/
import Derived.Test.YtigeccflfdekiaaRevO
import Derived.Test.YtigeccflfdekiaaRevC
import Derived.Test.YtigeccflfdekiaaLeaseT
namespace Go.Proofs.Ytigeccflfdekiaa
open Go.RowKit Go.Maps
set_option linter.unusedVariables false

theorem snoc_indP {α : Type} {P : List α → Prop} (h0 : P []) (h1 : ∀ l x, P l → P (l ++ [x])) (l : List α) : P l := by
  suffices h : ∀ m : List α, P m.reverse by rw [← List.reverse_reverse l]; exact h _
  intro m
  induction m with
  | nil => exact h0
  | cons x m ih => rw [List.reverse_cons]; exact h1 _ _ ih
/-- a family that is begun -/
structure Bg where
  f : ByteArray
  n : Int
def Bg.cells (x : Bg) : List Value := [.string x.f, .int .i64 x.n]
theorem Bg.cells_len (x : Bg) : x.cells.length = 2 := rfl
theorem Bg.cells_one (x : Bg) : ∀ u ∈ x.cells, u.oneCell' = true := by
  intro u hu
  simp [Bg.cells] at hu
  rcases hu with rfl | rfl <;> rfl
/-- who waits for a family -/
structure Rw where
  f : ByteArray
  e : Int
  q : Int
def Rw.cells (x : Rw) : List Value := [.string x.f, .int .i64 x.e, .int .i64 x.q]
def Rw.x (r : Rw) : Int × Int := (r.e, r.q)
theorem Rw.cells_len (x : Rw) : x.cells.length = 3 := rfl
theorem Rw.cells_one (x : Rw) : ∀ u ∈ x.cells, u.oneCell' = true := by
  intro u hu
  simp [Rw.cells] at hu
  rcases hu with rfl | rfl | rfl <;> rfl
theorem info_bg : (Try.prog.info? 93).map (fun i => (i.zero, i.size, i.bytes)) = some (some (.agg #[.string ByteArray.empty, .int .i64 0]), 2, 24) := by kernel_rfl
theorem info_rw : (Try.prog.info? 98).map (fun i => (i.zero, i.size, i.bytes)) = some (some (.agg #[.string ByteArray.empty, .int .i64 0, .int .i64 0]), 3, 32) := by kernel_rfl
theorem info_wt : (Try.prog.info? 50).map (fun i => (i.zero, i.size, i.bytes)) = some (some (.agg #[.int .i64 0, .int .i64 0]), 2, 16) := by kernel_rfl
/-- how many turns ago -/
def getT (L : List Bg) (s : ByteArray) : Int := L.foldl (fun n x => if x.f = s then x.n else n) 0
theorem getT_snoc (L : List Bg) (x : Bg) (s : ByteArray) : getT (L ++ [x]) s = if x.f = s then x.n else getT L s := by
  unfold getT; rw [List.foldl_append]; rfl
theorem getT_nil (s : ByteArray) : getT [] s = 0 := rfl
/-- which families have been met -/
theorem tellI_some {G : ByteArray → Int → Bool} {now term pace : Int} {T : ByteArray → Option Int} (N : ByteArray → Int → Option Int) (fs : List Fam) (s : ByteArray) : ((tellI G now term pace T N fs).T s).isSome = true ↔ ∃ f ∈ fs, f.id = s := by
  refine snoc_indP (P := fun fs => ((tellI G now term pace T N fs).T s).isSome = true ↔ ∃ f ∈ fs, f.id = s) (by simp [tellI]) (fun l f ih => ?_) fs
  rw [tellI_snoc]
  unfold turnStep
  split
  · rename_i h
    rw [ih]
    constructor
    · rintro ⟨g, hg, h1⟩; exact ⟨g, by simp [hg], h1⟩
    · rintro ⟨g, hg, h1⟩
      rw [List.mem_append, List.mem_singleton] at hg
      rcases hg with hg | rfl
      · exact ⟨g, hg, h1⟩
      · subst h1; exact ih.1 h
  · simp only [turnOf]
    split
    · rename_i h
      exact ⟨fun _ => ⟨f, by simp, h.symm⟩, fun _ => rfl⟩
    · rename_i h
      rw [ih]
      constructor
      · rintro ⟨g, hg, h1⟩; exact ⟨g, by simp [hg], h1⟩
      · rintro ⟨g, hg, h1⟩
        rw [List.mem_append, List.mem_singleton] at hg
        rcases hg with hg | rfl
        · exact ⟨g, hg, h1⟩
        · exact absurd h1.symm h
/-- the document's crew in memory -/
structure RCrew (w : World) (p : Nat) (A1 : Option Addr) (n1 c1 : Nat) (L : List Bg) (A2 : Option Addr) (n2 c2 : Nat) (W : List Rw) (pace : Int) : Prop where
  row : RowV w p 56 [.slice A1 n1 c1, .slice A2 n2 c2, .int .i64 pace]
  o1 : OwnS 2 w (p + 1) 93 A1 n1 c1 (L.flatMap Bg.cells)
  o2 : OwnS 3 w (p + 1) 98 A2 n2 c2 (W.flatMap Rw.cells)
  len1 : L.length = n1
  len2 : W.length = n2
  dis : ∀ k, (Value.slice A1 n1 c1).ownBlock = some k → (Value.slice A2 n2 c2).ownBlock ≠ some k
/-- its blocks -/
def RC (p : Nat) (A1 : Option Addr) (n1 c1 : Nat) (A2 : Option Addr) (n2 c2 : Nat) : Nat → Prop := fun k => k = p ∨ (Value.slice A1 n1 c1).ownBlock = some k ∨ (Value.slice A2 n2 c2).ownBlock = some k
section
variable {S : Nat → Prop} {w w' : World} {p n1 c1 n2 c2 : Nat} {A1 A2 : Option Addr} {L : List Bg} {W : List Rw} {pace : Int}
theorem RCrew.but (h : RCrew w p A1 n1 c1 L A2 n2 c2 W pace) (hb : But S w w') (hs : ∀ k, RC p A1 n1 c1 A2 n2 c2 k → ¬ S k) : RCrew w' p A1 n1 c1 L A2 n2 c2 W pace :=
  ⟨hb.row h.row (hs p (.inl rfl)), h.o1.but_row hb (fun k hk => hs k (.inr (.inl hk))), h.o2.but_row hb (fun k hk => hs k (.inr (.inr hk))), h.len1, h.len2, h.dis⟩
theorem RCrew.below (h : RCrew w p A1 n1 c1 L A2 n2 c2 W pace) (hb : Below w.heap.size w w') : RCrew w' p A1 n1 c1 L A2 n2 c2 W pace := h.but (But.of_below (S := fun _ => False) hb) (fun _ _ => id)
theorem RCrew.lt (h : RCrew w p A1 n1 c1 L A2 n2 c2 W pace) : ∀ k, RC p A1 n1 c1 A2 n2 c2 k → k < w.heap.size := fun k hk => by
  rcases hk with rfl | hk | hk
  · exact h.row.lt
  · exact h.o1.row_lt k hk
  · exact h.o2.row_lt k hk
theorem RCrew.ge (h : RCrew w p A1 n1 c1 L A2 n2 c2 W pace) : ∀ k, RC p A1 n1 c1 A2 n2 c2 k → p ≤ k := fun k hk => by
  rcases hk with rfl | hk | hk
  · exact Nat.le_refl _
  · exact Nat.le_of_succ_le (h.o1.row_ge k hk)
  · exact Nat.le_of_succ_le (h.o2.row_ge k hk)
theorem RCrew.made (w : World) (pace : Int) : RCrew (w.alloc (.cells #[.slice none 0 0, .slice none 0 0, .int .i64 pace] 56)) w.heap.size none 0 0 [] none 0 0 [] pace :=
  ⟨RowV.new w _ [.slice none 0 0, .slice none 0 0, .int .i64 pace], OwnS.nil_, OwnS.nil_, rfl, rfl, fun k hk => by cases hk⟩
/-- family number k that is begun -/
theorem RCrew.at1 (h : RCrew w p A1 n1 c1 L A2 n2 c2 W pace) {k : Nat} (hk : k < n1) : ∃ g o x, A1 = some ⟨g, o, none⟩ ∧ Hid (o = 0) ∧ Hid ((Value.slice A1 n1 c1).ownBlock = some g) ∧ L[k]? = some x ∧ w.cell? ⟨g, o + k * 2, none⟩ = some (.string x.f) ∧ w.cell? ⟨g, o + k * 2 + 1, none⟩ = some (.int .i64 x.n) := by
  obtain ⟨g, rfl, hg, hc, hf⟩ := h.o1.spot (by omega)
  have hl : k < L.length := by rw [h.len1]; exact hk
  have hL : L[k]? = some L[k] := List.getElem?_eq_getElem hl
  have get : ∀ j v, (Bg.cells L[k])[j]? = some v → w.cell? ⟨g, 0 + k * 2 + j, none⟩ = some v := fun j v hv => by
    rw [Nat.zero_add]
    exact hc _ _ (flat_get Bg.cells_len hL hv)
  exact ⟨g, 0, L[k], rfl, hide rfl, hide hg, hL, get 0 _ rfl, get 1 _ rfl⟩
/-- who waits, number k -/
theorem RCrew.at2 (h : RCrew w p A1 n1 c1 L A2 n2 c2 W pace) {k : Nat} (hk : k < n2) : ∃ g o x, A2 = some ⟨g, o, none⟩ ∧ Hid (o = 0) ∧ Hid ((Value.slice A2 n2 c2).ownBlock = some g) ∧ W[k]? = some x ∧ w.cell? ⟨g, o + k * 3, none⟩ = some (.string x.f) ∧ w.cell? ⟨g, o + k * 3 + 1, none⟩ = some (.int .i64 x.e) ∧ w.cell? ⟨g, o + k * 3 + 2, none⟩ = some (.int .i64 x.q) := by
  obtain ⟨g, rfl, hg, hc, hf⟩ := h.o2.spot (by omega)
  have hl : k < W.length := by rw [h.len2]; exact hk
  have hL : W[k]? = some W[k] := List.getElem?_eq_getElem hl
  have get : ∀ j v, (Rw.cells W[k])[j]? = some v → w.cell? ⟨g, 0 + k * 3 + j, none⟩ = some v := fun j v hv => by
    rw [Nat.zero_add]
    exact hc _ _ (flat_get Rw.cells_len hL hv)
  exact ⟨g, 0, W[k], rfl, hide rfl, hide hg, hL, get 0 _ rfl, get 1 _ rfl, get 2 _ rfl⟩
end
/-- an element of several cells is set down behind the others, at a step of a region that draws its order -/
theorem step_appM {P : Program} {w : World} {sz base e n c : Nat} {A : Option Addr} {xs : List Value} {ops : Array Oper} {o : Oper} {a : Act} {K : Act → World → Prop} {Q : Exit → Act → World → Prop} {E : Prop} (hgd : o.guard = none) (s x : Operand) (t : TypeId)
    (ho : o.op = .call { callee := .builtin .append, args := #[s, x], argTypes := #[t, t] })
    (z : Value) (bytes : Nat) (ht : P.underlying t = some (.slice e)) (hi : (P.info? e).map (fun i => (i.zero, i.size, i.bytes)) = some (some z, sz, bytes)) (hz1 : z.cells.size = sz) (hsz : 0 < sz)
    (news : List Value) (hs : a.eval s = .slice A n c) (hown : OwnS sz w base e A n c xs) {ad : Addr} {c' : Nat} (hx : a.eval x = .slice (some ad) 1 c') (hl : news.length = sz) (hnews : ∀ j u, news[j]? = some u → w.cell? (ad.add j) = some u) (h1 : ∀ u ∈ news, u.oneCell' = true)
    (h63 : n + 1 ≤ maxLen) (hbytes : (n + 1) * bytes ≤ 140737488355328) (hbase : base ≤ w.heap.size)
    (h : ∀ A2 c2 w', OwnS sz w' base e A2 (n + 1) c2 (xs ++ news) → w.grownBy w' (Value.slice A n c).ownBlock →
      ((Value.slice A2 (n + 1) c2).ownBlock = (Value.slice A n c).ownBlock ∨ (Value.slice A2 (n + 1) c2).ownBlock = some w.heap.size) → K (a.put o.dst (.slice A2 (n + 1) c2)) w') :
    if Region.wanted o (yielded ops a.tmps) = true then Oper.wp P o a w K Q else E := by
  rw [if_pos (by simp [Region.wanted, hgd])]
  exact wp_appS (P := P) s x t ho z bytes ht hi hz1 hsz hs hown hx (by rw [Nat.one_mul]; exact hl) hnews h1 h63 hbytes hbase h
theorem new_cells (w : World) (t : TypeId) (xs : List Value) : ∀ j u, xs[j]? = some u → ((w.alloc (.cells xs.toArray t)).drew).cell? ((⟨w.heap.size, 0, none⟩ : Addr).add j) = some u := fun j u hu => by
  have h2 : (⟨w.heap.size, 0, none⟩ : Addr).add j = ⟨w.heap.size, j, none⟩ := by
    unfold Addr.add; split <;> simp_all
  rw [h2]
  exact (RowV.new w t xs).cell hu
/-- the numbers are small -/
def FewL (K : Int) (L : List Bg) : Prop := ∀ x ∈ L, 0 ≤ x.n ∧ x.n ≤ K
theorem FewL.getT {K : Int} {L : List Bg} (h : FewL K L) (hK : 0 ≤ K) (s : ByteArray) : 0 ≤ getT L s ∧ getT L s ≤ K := by
  revert h
  refine snoc_indP (P := fun L => FewL K L → 0 ≤ Go.Proofs.Ytigeccflfdekiaa.getT L s ∧ Go.Proofs.Ytigeccflfdekiaa.getT L s ≤ K) (fun _ => ⟨Int.le_refl _, hK⟩) (fun l x ih h => ?_) L
  rw [getT_snoc]
  split
  · exact h x (by simp)
  · exact ih (fun y hy => h y (by simp [hy]))
end Go.Proofs.Ytigeccflfdekiaa
