/-
  Lease: Forget, over what is let go; Forget.
-/
import Derived.Test.YtjmgnojbegafiaaLeaseE
namespace Go.Proofs.Ytjmgnojbegafiaa
open Go.RowKit Go.Maps Go.Shelf
set_option linter.unusedVariables false

/-- a bool that simp leaves whole -/
structure Bo where
  b : Bool
set_option maxHeartbeats 4000000 in
set_option maxRecDepth 100000 in
theorem delG_any (fam : ByteArray) (bx b n : Nat) (G : ByteArray → Int → Bool) (w : World) (hN : GoneM w b n G) (hx : w.cell? ⟨bx, 0, none⟩ = some (.string fam)) (hbx : bx ≠ b) :
    Calls Try.prog 29 #[.map (some b), .func (.func 30) #[] #[.pointer (some ⟨bx, 0, none⟩)]] w fun en w' => en = .returned (.tuple #[]) ∧ GoneM w' b n (fun s e => !decide (s = fam) && G s e) ∧ w.grownBy w' (some b) := by
  obtain ⟨f, ⟨D, hown, h2⟩, h3⟩ := hN
  have HST := hide (PM.struck (famK fam) h2 hown.isMap)
  have eg : ∀ args w, (callFunc 30 args).run Try.prog w = .ok (.enter 30 args) w := enters_of Try.func30 (by kernel_rfl) rfl
  obtain ⟨es0, rfl, hap, hkeys⟩ := hown.entries pair_law
  have HX := hide hx; have H3 := hide h3
  clear h2 h3 hx
  go_enter Try.func29, Try.ntmps29
  go_wp2_with (first
    | (at_range; refine wpList_range_own _ rfl _ 59 rfl 63 4 pair_law Try.underlying59 (RV IsBool) b n _ rfl hown ?_; intro w0 hrg0 hg0 hs0)
    | go_in)
  try go_frame
  go_loopw [8] (fun _ wr => ∃ (left : Lit → Bool) (cnt : Nat), wr.ranges Try.prog 63 (RV IsBool) b w.heap.size n (Fk (fun l _ => famK fam l) es0 left) left cnt ∧ w.grownBy wr (some b))
    (fun _ wr => wr.rangeLeft b w.heap.size)
  case atStart => exact ⟨_, _, by rw [Fk_start hkeys]; exact hrg0, hg0.but _⟩
  case round =>
    obtain ⟨left, cnt, hrg, hgw⟩ := hrel
    go_wp2_with (first
      | (at_next; refine wpList_next_ranges _ rfl _ rfl 63 pair_law (RV IsBool) (fun x : Pr => .agg #[.string x.s, .int .i64 x.e]) (fun a : Bo => .bool a.b) (fun key kl h => by obtain ⟨s, e, h, _⟩ := pair_inv h; exact ⟨⟨s, e⟩, h⟩) (fun v y h => by obtain ⟨x, h⟩ := RV_is h; exact ⟨⟨x⟩, h⟩) b w.heap.size n _ _ _ rfl hrg ?_ ?_)
      | go_in)
    · intro _ hl0
      go_wp2_with fail
      go_end0
      refine ⟨rfl, ⟨fun kl => if famK fam kl = true then none else f kl, ⟨_, hrg.owns, fun kl => ?_⟩, fun s e hk => ?_⟩, hgw⟩
      · rw [Fk_end hl0]; exact HST.out kl
      · simp only
        rw [famK_eq hk, H3.out s e hk]
        by_cases hs : s = fam <;> simp [hs]
    · intro x c kl yd yp w1 cnt1 hkey hlx hv hat hrg1 hlt hg1 hs1 hen
      obtain ⟨s, e⟩ := x
      obtain ⟨c⟩ := c
      simp only at hkey hen hv ⊢
      obtain ⟨s', e', hp, hk⟩ := pair_inv hkey
      have hp2 : s = s' ∧ e = e' := by
        unfold pairV at hp
        injection hp with hp
        have := congrArg Array.toList hp
        simpa using this
      obtain ⟨rfl, rfl⟩ := hp2
      have hkl : kl = plit s e := by
        have := pair_key hk
        unfold pairV at this
        rw [hkey] at this
        injection this
      subst hkl
      have hgw1 := hgw.andThen hg1 (fun j hj => by cases hj; exact Or.inl (Nat.le_refl _))
      have HC := hide (fun o1 => forget2_any s e c fam bx (w1.alloc o1) (by
        have h1 : w1.cell? ⟨bx, 0, none⟩ = some (.string fam) := hgw1.cell HX.out (fun e => hbx (Option.some.inj e))
        exact (World.cell?_alloc_lt w1 o1 _ (World.block_lt_of_cell? _ _ h1)).trans h1))
      clear hp
      go_wp2_with fail
      refine (HC.out _).mono ?_
      rintro en w2 ⟨rfl, hg2⟩
      have hk0 : w2.cell? ⟨wr.heap.size, 0, none⟩ = some (.string s) := hg2.cell ((RowV.new w1 63 [.string s, .int .i64 e]) |> fun h => by rw [hs1] at h; exact h.cell (k := 0) rfl) (by simp)
      have hk1 : w2.cell? ⟨wr.heap.size, 1, none⟩ = some (.int .i64 e) := hg2.cell ((RowV.new w1 63 [.string s, .int .i64 e]) |> fun h => by rw [hs1] at h; exact h.cell (k := 1) rfl) (by simp)
      have hgk : w1.grownBy w2 none := (World.grownBy_alloc w1 _ none).trans hg2
      have hrg2 := hrg1.kept hgk (by simp) (by simp)
      have hfk := famK_eq (fam := fam) hk
      clear HC
      by_cases hs : s = fam
      · rw [decide_eq_true hs] at hfk ⊢
        clear hs
        go_wp2_with (first
          | (at_delete; refine wpList_delete_ranges _ rfl _ _ 59 63 rfl 4 pair_law Try.underlying59 (RV IsBool) b w.heap.size n _ _ _ rfl hrg2 _ _ rfl hkey ?_; intro w3 cnt3 hrg3 hle hturn; try go_frame)
          | go_in)
        rw [strike_twice] at hrg3
        go_roundw
        case rel => exact ⟨_, cnt3, by rw [← Fk_struck hap (pair_law.key hkey) hlx hfk hat]; exact hrg3, (hgw1.andThen hgk (fun j hj => by cases hj)).andThen hturn.grown (fun j hj => by cases hj; exact Or.inr rfl)⟩
        case measure => rw [hrg3.left_eq, hrg.left_eq]; omega
      · rw [decide_eq_false hs] at hfk ⊢
        clear hs
        go_wp2_with fail
        go_roundw
        case rel => exact ⟨_, cnt1, by rw [← Fk_stays hap (pair_law.key hkey) hlx hfk hat]; exact hrg2, hgw1.andThen hgk (fun j hj => by cases hj)⟩
        case measure => rw [hrg2.left_eq, hrg.left_eq]; exact hlt
theorem But.of_alloc {S : Nat → Prop} (w : World) (o : Obj) : But S w (w.alloc o) := But.of_below ((Below.refl _ _).alloc (Nat.le_refl _) o)
set_option maxHeartbeats 2000000 in
theorem forget_any (g b1 b2 n : Nat) (N : ByteArray → Int → Option Int) (G : ByteArray → Int → Bool) (term short : Int) (fam : ByteArray) (w : World) (hd : DeskSt w g b1 b2 n N G term short) :
    Calls Try.prog 11 #[.pointer (some ⟨g, 0, none⟩), .string fam] w fun en w' => en = .returned (.tuple #[]) ∧ DeskSt w' g b1 b2 n (fun s e => if s = fam then none else N s e) (fun s e => !decide (s = fam) && G s e) term short ∧ But (DB b1 b2) w w' := by
  have HD := hide (hd.but (But.of_alloc (S := fun _ => False) w (.cells #[.string fam] 9)) id id id)
  have HB := hide (RowV.new w 9 [.string fam])
  have l1 := hd.notes.lt; have l2 := hd.gone.lt; have l3 := hd.row.lt
  have n1 : w.heap.size ≠ b1 := by omega
  have n2 : w.heap.size ≠ b2 := by omega
  clear hd
  go_enter Try.func11, Try.ntmps11
  have c0 := HD.out.row.cell (k := 0) rfl
  go_wp2_with fail
  refine (delN_any fam w.heap.size b1 n N _ HD.out.notes (HB.out.cell (k := 0) rfl) n1).mono ?_
  rintro en w2 ⟨rfl, hN, hg2⟩
  have B2 : Hid (But (fun k => k = b1) (w.alloc (.cells #[.string fam] 9)) w2) := hide (But.of_grown hg2 rfl)
  have HN2 := hide hN
  have HG2 := hide (HD.out.gone.but B2.out (fun h => HD.out.ne12 h.symm))
  have HR2 := hide (B2.out.row HD.out.row HD.out.ne1)
  have HX2 := hide (B2.out.row HB.out n1)
  have c1 := HR2.out.cell (k := 1) rfl
  clear hN hg2 c0
  go_wp2_with fail
  refine (delG_any fam w.heap.size b2 n G _ HG2.out (HX2.out.cell (k := 0) rfl) n2).mono ?_
  rintro en w3 ⟨rfl, hG, hg3⟩
  have B3 : Hid (But (fun k => k = b2) w2 w3) := hide (But.of_grown hg3 rfl)
  go_wp2_with fail
  go_end0
  refine ⟨rfl, ⟨B3.out.row HR2.out HD.out.ne2, HN2.out.but B3.out HD.out.ne12, hG, HD.out.ne12, HD.out.ne1, HD.out.ne2⟩, ?_⟩
  exact ((But.of_alloc w _).trans (B2.out.mono fun k hk => .inl hk)).trans (B3.out.mono fun k hk => .inr hk)
end Go.Proofs.Ytjmgnojbegafiaa
