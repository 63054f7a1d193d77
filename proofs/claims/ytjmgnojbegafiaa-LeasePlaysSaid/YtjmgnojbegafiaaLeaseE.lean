/-
  Lease: Forget.
-/
import Derived.Test.YtjmgnojbegafiaaLeaseD
import Derived.Shelf.SlMaps.DeleteFunc
namespace Go.Proofs.Ytjmgnojbegafiaa
open Go.RowKit Go.Maps Go.Shelf
set_option linter.unusedVariables false

/-- a key's parts -/
structure Pr where
  s : ByteArray
  e : Int
theorem pair_inv {v : Value} {l : Lit} (h : keyOf Try.prog 63 v = some l) : ∃ s e, v = pairV s e ∧ KOk s e := by
  have hc : Try.prog.cellsOf 63 = 2 := by kernel_rfl
  have h9 : Try.prog.cellsOf 9 = 1 := by kernel_rfl
  have h3 : Try.prog.cellsOf 3 = 1 := by kernel_rfl
  obtain ⟨m, hm⟩ : ∃ m, Try.prog.types.size = m + 1 := ⟨_, (by kernel_rfl : Try.prog.types.size = (Try.prog.types.size - 1) + 1)⟩
  unfold keyOf at h
  rw [Try.underlying63] at h
  simp only at h
  split at h
  · rename_i hf
    have hf2 : v.formed Try.prog 63 = true := by
      simp only [Bool.and_eq_true] at hf; exact hf.2
    unfold Value.formed at hf2
    rw [Try.underlying63] at hf2
    rw [hm] at h
    cases v with
    | agg cs =>
      have hsz : cs.size = 2 := by simpa [hc] using hf2
      obtain ⟨c0, c1, rfl⟩ : ∃ c0 c1, cs = #[c0, c1] := by
        obtain ⟨l⟩ := cs
        match l, hsz with
        | [a, b], _ => exact ⟨a, b, rfl⟩
      have hcs : (Value.agg #[c0, c1]).cells.toList = [c0, c1] := rfl
      rw [hcs] at h
      unfold Program.keyLits at h
      rw [Try.underlying63] at h
      simp only [hc, List.length_cons, List.length_nil, List.mapM_cons, List.mapM_nil, List.drop_zero, h9, h3, List.take_succ_cons, List.take_zero] at h
      rw [if_pos ⟨trivial, by kernel_rfl⟩, show List.take 1 (List.drop 1 [c0, c1]) = [c1] from rfl] at h
      cases k1 : Try.prog.keyLits (m + 1) 9 [c0] with
      | none => rw [k1] at h; cases h
      | some l1 =>
        cases k2 : Try.prog.keyLits (m + 1) 3 [c1] with
        | none => rw [k1, k2] at h; cases h
        | some l2 =>
          unfold Program.keyLits at k1 k2
          rw [Try.underlying9] at k1
          rw [Try.underlying3] at k2
          cases c0 <;> simp at k1
          cases c1 <;> simp at k2
          obtain ⟨⟨rfl, hw⟩, _⟩ := k2
          refine ⟨_, _, rfl, k1.1, ?_⟩
          simpa [Lit.wf, IntKind.min, IntKind.max, IntKind.signed, IntKind.bits] using hw
    | _ => simp at hf2
  · cases h
theorem text_eq (s f : ByteArray) : (s.toList == f.toList) = decide (s = f) := by
  by_cases h : s = f
  · subst h; simp
  · rw [decide_eq_false h, beq_eq_false_iff_ne, ByteArray.toList_eq, ByteArray.toList_eq]
    intro e
    exact h (by cases s; cases f; congr; exact Array.toList_inj.1 e)
theorem forget1_any (s : ByteArray) (e : Int) (a : Int) (f : ByteArray) (bx : Nat) (W : World) (hx : W.cell? ⟨bx, 0, none⟩ = some (.string f)) :
    Calls Try.prog 28 (#[.agg #[.string s, .int .i64 e], .agg #[.int .i64 a]] ++ #[.pointer (some ⟨bx, 0, none⟩)]) W fun en w' => en = .returned (.bool (decide (s = f))) ∧ W.grownBy w' none := by
  have h1 : ∀ o, (W.alloc o).cell? ⟨bx, 0, none⟩ = some (.string f) := fun o => (World.cell?_alloc_lt W o _ (World.block_lt_of_cell? W _ hx)).trans hx
  have h2 : ∀ o o', ((W.alloc o).alloc o').cell? ⟨bx, 0, none⟩ = some (.string f) := fun o o' => (World.cell?_alloc_lt (W.alloc o) o' _ (World.block_lt_of_cell? _ _ (h1 o))).trans (h1 o)
  go_enter Try.func28, Try.ntmps28
  go_wp2_with fail
  go_ret
  exact ⟨by rw [text_eq]; rfl, (World.grownBy_alloc _ _ none).trans (World.grownBy_alloc _ _ none)⟩
theorem forget2_any (s : ByteArray) (e : Int) (a : Bool) (f : ByteArray) (bx : Nat) (W : World) (hx : W.cell? ⟨bx, 0, none⟩ = some (.string f)) :
    Calls Try.prog 30 (#[.agg #[.string s, .int .i64 e], .bool a] ++ #[.pointer (some ⟨bx, 0, none⟩)]) W fun en w' => en = .returned (.bool (decide (s = f))) ∧ W.grownBy w' none := by
  have h1 : ∀ o, (W.alloc o).cell? ⟨bx, 0, none⟩ = some (.string f) := fun o => (World.cell?_alloc_lt W o _ (World.block_lt_of_cell? W _ hx)).trans hx
  go_enter Try.func30, Try.ntmps30
  go_wp2_with fail
  go_ret
  exact ⟨by rw [text_eq]; rfl, World.grownBy_alloc _ _ none⟩
open Classical in
/-- is this a key of the family? -/
noncomputable def famK (fam : ByteArray) (l : Lit) : Bool := decide (∃ e, KOk fam e ∧ l = plit fam e)
open Classical in
theorem famK_eq {fam s : ByteArray} {e : Int} (h : KOk s e) : famK fam (plit s e) = decide (s = fam) := by
  have h1 : famK fam (plit s e) = true ↔ s = fam := by
    unfold famK
    rw [decide_eq_true_iff]
    exact ⟨fun ⟨e', hk, he⟩ => (plit_inj h hk he).1, fun hs => ⟨e, hs ▸ h, by rw [hs]⟩⟩
  by_cases hs : s = fam
  · rw [h1.2 hs, decide_eq_true hs]
  · rw [decide_eq_false hs]
    cases hf : famK fam (plit s e)
    · rfl
    · exact absurd (h1.1 hf) hs
set_option maxHeartbeats 4000000 in
set_option maxRecDepth 100000 in
theorem delN_any (fam : ByteArray) (bx b n : Nat) (N : ByteArray → Int → Option Int) (w : World) (hN : NoteM w b n N) (hx : w.cell? ⟨bx, 0, none⟩ = some (.string fam)) (hbx : bx ≠ b) :
    Calls Try.prog 27 #[.map (some b), .func (.func 28) #[] #[.pointer (some ⟨bx, 0, none⟩)]] w fun en w' => en = .returned (.tuple #[]) ∧ NoteM w' b n (fun s e => if s = fam then none else N s e) ∧ w.grownBy w' (some b) := by
  obtain ⟨f, ⟨D, hown, h2⟩, h3⟩ := hN
  have HST := hide (PM.struck (famK fam) h2 hown.isMap)
  have eg : ∀ args w, (callFunc 28 args).run Try.prog w = .ok (.enter 28 args) w := enters_of Try.func28 (by kernel_rfl) rfl
  obtain ⟨es0, rfl, hap, hkeys⟩ := hown.entries pair_law
  have HX := hide hx; have H3 := hide h3
  clear h2 h3 hx
  go_enter Try.func27, Try.ntmps27
  go_wp2_with (first
    | (at_range; refine wpList_range_own _ rfl _ 58 rfl 63 65 pair_law Try.underlying58 (RV IsNote) b n _ rfl hown ?_; intro w0 hrg0 hg0 hs0)
    | go_in)
  try go_frame
  go_loopw [8] (fun _ wr => ∃ (left : Lit → Bool) (cnt : Nat), wr.ranges Try.prog 63 (RV IsNote) b w.heap.size n (Fk (fun l _ => famK fam l) es0 left) left cnt ∧ w.grownBy wr (some b))
    (fun _ wr => wr.rangeLeft b w.heap.size)
  case atStart => exact ⟨_, _, by rw [Fk_start hkeys]; exact hrg0, hg0.but _⟩
  case round =>
    obtain ⟨left, cnt, hrg, hgw⟩ := hrel
    go_wp2_with (first
      | (at_next; refine wpList_next_ranges _ rfl _ rfl 63 pair_law (RV IsNote) (fun x : Pr => .agg #[.string x.s, .int .i64 x.e]) (fun a : Int => .agg #[.int .i64 a]) (fun key kl h => by obtain ⟨s, e, h, _⟩ := pair_inv h; exact ⟨⟨s, e⟩, h⟩) (fun v y h => RV_is h) b w.heap.size n _ _ _ rfl hrg ?_ ?_)
      | go_in)
    · intro _ hl0
      go_wp2_with fail
      go_end0
      refine ⟨rfl, ⟨fun kl => if famK fam kl = true then none else f kl, ⟨_, hrg.owns, fun kl => ?_⟩, fun s e hk => ?_⟩, hgw⟩
      · rw [Fk_end hl0]; exact HST.out kl
      · simp only
        rw [famK_eq hk, H3.out s e hk]
        by_cases hs : s = fam <;> simp [hs]
    · intro x c kl yd yp w1 cnt1 hkey hlx hv hat hrg1 hlt hg1 hs1 hen
      obtain ⟨s, e⟩ := x
      simp only at hkey hen ⊢
      obtain ⟨s', e', hp, hk⟩ := pair_inv hkey
      have hp2 : s = s' ∧ e = e' := by
        unfold pairV at hp
        injection hp with hp
        have := congrArg Array.toList hp
        simpa using this
      obtain ⟨rfl, rfl⟩ := hp2
      have hkl : kl = plit s e := by
        have := pair_key hk
        unfold pairV at this
        rw [hkey] at this
        injection this
      subst hkl
      have hgw1 := hgw.andThen hg1 (fun j hj => by cases hj; exact Or.inl (Nat.le_refl _))
      have HC := hide (fun o1 o2 => forget1_any s e c fam bx ((w1.alloc o1).alloc o2) (by
        have h1 : w1.cell? ⟨bx, 0, none⟩ = some (.string fam) := hgw1.cell HX.out (fun e => hbx (Option.some.inj e))
        exact (World.cell?_alloc_lt (w1.alloc o1) o2 _ (World.block_lt_of_cell? _ _ ((World.cell?_alloc_lt w1 o1 _ (World.block_lt_of_cell? _ _ h1)).trans h1))).trans ((World.cell?_alloc_lt w1 o1 _ (World.block_lt_of_cell? _ _ h1)).trans h1)))
      clear hp
      go_wp2_with fail
      refine (HC.out _ _).mono ?_
      rintro en w2 ⟨rfl, hg2⟩
      have hk0 : w2.cell? ⟨wr.heap.size, 0, none⟩ = some (.string s) := hg2.cell ((RowV.new w1 63 [.string s, .int .i64 e]).alloc (.cells #[.int .i64 c] 65) |> fun h => by rw [hs1] at h; exact h.cell (k := 0) rfl) (by simp)
      have hk1 : w2.cell? ⟨wr.heap.size, 1, none⟩ = some (.int .i64 e) := hg2.cell ((RowV.new w1 63 [.string s, .int .i64 e]).alloc (.cells #[.int .i64 c] 65) |> fun h => by rw [hs1] at h; exact h.cell (k := 1) rfl) (by simp)
      have hgk : w1.grownBy w2 none := ((World.grownBy_alloc w1 _ none).trans (World.grownBy_alloc _ _ none)).trans hg2
      have hrg2 := hrg1.kept hgk (by simp) (by simp)
      have hfk := famK_eq (fam := fam) hk
      clear HC
      by_cases hs : s = fam
      · rw [decide_eq_true hs] at hfk ⊢
        clear hs
        go_wp2_with (first
          | (at_delete; refine wpList_delete_ranges _ rfl _ _ 58 63 rfl 65 pair_law Try.underlying58 (RV IsNote) b w.heap.size n _ _ _ rfl hrg2 _ _ rfl hkey ?_; intro w3 cnt3 hrg3 hle hturn; try go_frame)
          | go_in)
        rw [strike_twice] at hrg3
        go_roundw
        case rel => exact ⟨_, cnt3, by rw [← Fk_struck hap (pair_law.key hkey) hlx hfk hat]; exact hrg3, (hgw1.andThen hgk (fun j hj => by cases hj)).andThen hturn.grown (fun j hj => by cases hj; exact Or.inr rfl)⟩
        case measure => rw [hrg3.left_eq, hrg.left_eq]; omega
      · rw [decide_eq_false hs] at hfk ⊢
        clear hs
        go_wp2_with fail
        go_roundw
        case rel => exact ⟨_, cnt1, by rw [← Fk_stays hap (pair_law.key hkey) hlx hfk hat]; exact hrg2, hgw1.andThen hgk (fun j hj => by cases hj)⟩
        case measure => rw [hrg2.left_eq, hrg.left_eq]; exact hlt
end Go.Proofs.Ytjmgnojbegafiaa
