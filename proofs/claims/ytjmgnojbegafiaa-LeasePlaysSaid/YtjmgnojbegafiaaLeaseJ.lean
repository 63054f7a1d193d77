/-
  Lease: known.
-/
import Derived.Test.YtjmgnojbegafiaaLeaseI
namespace Go.Proofs.Ytjmgnojbegafiaa
open Go.RowKit Go.Maps
set_option linter.unusedVariables false

/-- New, of a right term -/
theorem new_ok {term rho x : Int} (h : shortI term rho = (x, 0)) (w : World) : Calls Try.prog 7 #[.int .i64 term, .int .i64 rho] w fun e w' => ∃ g b1 b2, e = .returned (.tuple #[.pointer (some ⟨g, 0, none⟩), .int .i64 0]) ∧ Hid (Below w.heap.size w w') ∧ Hid (w.heap.size ≤ g ∧ w.heap.size ≤ b1 ∧ w.heap.size ≤ b2) ∧ Hid (DeskSt w' g b1 b2 0 (fun _ _ => none) (fun _ _ => false) term x) := by
  refine (new_any term rho w).mono ?_
  rintro e w' ⟨P, rfl, hb, hc⟩
  rw [h] at hc ⊢
  rcases hc with ⟨h0, _⟩ | ⟨_, g, b1, b2, rfl, h1, h2, h3, hd⟩
  · exact absurd rfl h0
  · exact ⟨g, b1, b2, rfl, hide hb, hide ⟨h1, h2, h3⟩, hide hd⟩
/-- a desk's own blocks are new -/
theorem below_desk {w w1 w2 : World} {b1 b2 : Nat} (h : Below w.heap.size w w1) (hb : But (DB b1 b2) w1 w2) (h1 : w.heap.size ≤ b1) (h2 : w.heap.size ≤ b2) : Below w.heap.size w w2 :=
  h.trans (hb.below (fun k hk => hk.elim (fun e => by omega) (fun e => by omega)) h.size)
theorem sl_ints (w : World) (t : Nat) (xs : List Int) (n : Nat) (h : xs.length = n) : Sl (w.alloc (.cells (xs.map (Value.int .i64)).toArray t)) (w.alloc (.cells (xs.map (Value.int .i64)).toArray t)).heap.size (some ⟨w.heap.size, 0, none⟩) n (xs.map (Value.int .i64)) := by
  have := Sl.litV w t (xs.map (Value.int .i64))
  rwa [List.length_map, h] at this
/-- Ints, of a literal that is the same -/
theorem ints_lit (xs : List Int) (m : Nat) (hm : xs.length = m) (hm2 : m ≤ 1000) {base e c : Nat} {A : Option Addr} {w : World} (h : Own w base e A xs.length c (xs.map (Value.int .i64))) :
    Calls Try.prog 23 #[.slice A m c, .slice (some ⟨w.heap.size, 0, none⟩) m m] (w.alloc (.cells (xs.map (Value.int .i64)).toArray 3)) fun en w' => en = .returned (.bool true) ∧ Hid (Below w.heap.size w w') := by
  have hb := (Below.refl w.heap.size w).alloc (Nat.le_refl _) (.cells (xs.map (Value.int .i64)).toArray 3)
  have := ints_any A (some ⟨w.heap.size, 0, none⟩) m m c m xs xs _ (((hm ▸ h.sl).below hb (Nat.le_refl _)).more hb.size) (sl_ints w 3 xs m hm) (by omega)
  refine this.mono ?_
  rintro e w' ⟨rfl, hb'⟩
  exact ⟨by rw [decide_eq_true rfl], hide (hb.trans (hb'.mono hb.size))⟩
/-- Holders, of a literal -/
theorem holders_lit (xs : List Int) (m : Nat) (hm : xs.length = m) (hm2 : m ≤ 1000) (hx : ∀ z ∈ xs, I64 z) (g b1 b2 n : Nat) (N : ByteArray → Int → Option Int) (G : ByteArray → Int → Bool) (term short : Int) (fam : ByteArray) (now : Int) (w : World) (hd : DeskSt w g b1 b2 n N G term short)
    (hn : n ≤ 900000) (hf : fam.size ≤ maxLen) (hnow : I64 now) (hterm : I64 term) (hN : ∀ s e a, N s e = some a → I64 a) :
    Calls Try.prog 12 #[.pointer (some ⟨g, 0, none⟩), .string fam, .slice (some ⟨w.heap.size, 0, none⟩) m m, .int .i64 now] (w.alloc (.cells (xs.map (Value.int .i64)).toArray 3)) fun en w' => ∃ A2 c2, en = .returned (.slice A2 (holdI G fam now term N xs).out.length c2) ∧ Hid (Own w' w.heap.size 3 A2 (holdI G fam now term N xs).out.length c2 ((holdI G fam now term N xs).out.map (Value.int .i64))) ∧ Hid (DeskSt w' g b1 b2 (n + m) (holdI G fam now term N xs).N G term short) ∧ Hid (But (DB b1 b2) w w') := by
  have B := But.of_alloc (S := fun _ => False) w (.cells (xs.map (Value.int .i64)).toArray 3)
  refine (holders_any g b1 b2 n N G term short fam _ m m xs now _ (hd.but B id id id) (sl_ints w _ xs m hm) hx (by omega) (by omega) hf hnow hterm hN).mono ?_
  rintro e w' ⟨A2, c2, he, ho, hd', hb⟩
  exact ⟨A2, c2, he, hide (ho.base B.size), hide hd', hide ((B.mono (fun _ h => h.elim)).trans hb)⟩
set_option maxHeartbeats 4000000 in
theorem known_any (w : World) : Calls Try.prog 8 #[] w fun e w' => e = .returned (.bool true) ∧ Below w.heap.size w w' := by
  have i0 : Hid (∀ s e a, (fun (_ : ByteArray) (_ : Int) => (none : Option Int)) s e = some a → I64 a) := hide (fun _ _ _ h => by cases h)
  have i1 : Hid (∀ s e a, kN0 s e = some a → I64 a) := hide (note_i64 i0.out (by unfold I64; omega))
  have i2 : Hid (∀ s e a, kH1.N s e = some a → I64 a) := hide (hold_i64 (by unfold I64; omega) i1.out)
  have i3 : Hid (∀ s e a, kH2.N s e = some a → I64 a) := hide (hold_i64 (by unfold I64; omega) i2.out)
  have i12 : Hid (∀ z ∈ ([1, 2] : List Int), I64 z) := hide (by intro z hz; simp at hz; unfold I64; omega)
  have hS : shortI 10 0 = (10, 0) := by decide +kernel
  have KN := hide (new_ok hS)
  clear hS
  go_enter Try.func8, Try.ntmps8
  go_wp2_with fail
  refine (KN.out _).mono ?_
  rintro e w1 ⟨g, b1, b2, rfl, B1, Z, D1⟩
  go_wp2_with fail
  refine (note_any g b1 b2 0 _ _ 10 10 fB 1 5 _ D1.out (KOk.small (by decide) (by omega)) (by decide)).mono ?_
  rintro e w2 ⟨rfl, hd, hb⟩
  have D2 : Hid (DeskSt w2 g b1 b2 1 kN0 kG0 10 10) := hide hd
  have B2 := hide (below_desk B1.out hb Z.out.2.1 Z.out.2.2)
  clear hd hb D1 B1
  go_wp2_with fail
  refine (holders_lit [1, 2] 2 rfl (by omega) i12.out g b1 b2 1 kN0 kG0 10 10 fB 15 w2 D2.out (by omega) (by decide) (by unfold I64; omega) (by unfold I64; omega) i1.out).mono ?_
  rintro e w3 ⟨A3, c3, rfl, O3, D3, hb⟩
  have e3 : (holdI kG0 fB 15 10 kN0 [1, 2]).out = [1, 2] := kH1_out
  rw [e3] at O3 ⊢
  have B3 := hide (below_desk B2.out hb.out Z.out.2.1 Z.out.2.2)
  have HZ23 : Hid (w2.heap.size ≤ w3.heap.size) := hide hb.out.size
  have ND : Hid (∀ k, w2.heap.size ≤ k → ¬ DB b1 b2 k) := hide (fun k hk h => by
    have h1 := D2.out.notes.lt; have h2 := D2.out.gone.lt
    rcases h with h | h <;> omega)
  clear hb e3 D2
  have D3' : Hid (DeskSt w3 g b1 b2 3 kH1.N kG0 10 10) := D3
  clear D3 B2
  go_wp2_with fail
  refine (holders_lit [1, 2] 2 rfl (by omega) i12.out g b1 b2 3 kH1.N kG0 10 10 fB 16 w3 D3'.out (by omega) (by decide) (by unfold I64; omega) (by unfold I64; omega) i2.out).mono ?_
  rintro e w4 ⟨A4, c4, rfl, O4, D4, hb⟩
  have e4 : (holdI kG0 fB 16 10 kH1.N [1, 2]).out = [2] := kH2_out
  rw [e4] at O4 ⊢
  have B4 := hide (below_desk B3.out hb.out Z.out.2.1 Z.out.2.2)
  have O34 := hide (O3.out.but hb.out ND.out)
  clear hb e4 D3' O3 B3
  have D4' : Hid (DeskSt w4 g b1 b2 5 kH2.N kG0 10 10) := D4
  clear D4
  go_wp2_with fail
  refine (ack_any g b1 b2 5 kH2.N kG0 10 10 fB 2 _ D4'.out (KOk.small (by decide) (by omega)) (by decide)).mono ?_
  rintro e w5 ⟨rfl, hd, hb⟩
  have D5 : Hid (DeskSt w5 g b1 b2 6 kH2.N kG3 10 10) := hide hd
  have B5 := hide (below_desk B4.out hb Z.out.2.1 Z.out.2.2)
  have O35 := hide (O34.out.but hb ND.out)
  have O45 := hide (O4.out.but hb (fun k hk => ND.out k (Nat.le_trans HZ23.out hk)))
  clear hd hb D4' B4 O34 O4
  go_wp2_with fail
  refine (ints_lit [1, 2] 2 rfl (by omega) O35.out).mono ?_
  rintro e w6 ⟨rfl, hb6⟩
  have D6 := hide (D5.out.below hb6.out)
  have B6 := hide (B5.out.trans (hb6.out.mono B5.out.size))
  have O46 := hide (O45.out.below hb6.out)
  clear hb6 D5 B5 O45 O35
  go_wp2_with fail
  refine (ints_lit [2] 1 rfl (by omega) O46.out).mono ?_
  rintro e w7 ⟨rfl, hb7⟩
  have D7 := hide (D6.out.below hb7.out)
  have B7 := hide (B6.out.trans (hb7.out.mono B6.out.size))
  clear hb7 D6 B6 O46
  go_wp2_with fail
  refine (holders_lit [1, 2] 2 rfl (by omega) i12.out g b1 b2 6 kH2.N kG3 10 10 fB 16 w7 D7.out (by omega) (by decide) (by unfold I64; omega) (by unfold I64; omega) i3.out).mono ?_
  rintro e w8 ⟨A8, c8, rfl, O8, D8, hb⟩
  have e8 : (holdI kG3 fB 16 10 kH2.N [1, 2]).out = [] := kH3_out
  rw [e8] at O8 ⊢
  have B8 := hide (below_desk B7.out hb.out Z.out.2.1 Z.out.2.2)
  clear hb e8 O8 D8
  go_wp2_with fail
  go_ret
  exact ⟨rfl, B8.out⟩
end Go.Proofs.Ytjmgnojbegafiaa
