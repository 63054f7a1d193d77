/-
  Lease: the law LeaseKeeps, walked.
-/
import Derived.Test.YtjmgnojbegafiaaLeaseM
namespace Go.Proofs.Ytjmgnojbegafiaa
open Go.RowKit Go.Maps
set_option linter.unusedVariables false

def noG : ByteArray → Int → Bool := fun _ _ => false
theorem ints_one (xs : List Int) : ∀ u ∈ xs.map (Value.int .i64), u.oneCell' = true := by
  intro u hu
  obtain ⟨x, _, rfl⟩ := List.mem_map.1 hu
  rfl
theorem holders_h (g b1 b2 n : Nat) (N : ByteArray → Int → Option Int) (G : ByteArray → Int → Bool) (term short : Int) (fam : ByteArray) (A : Option Addr) (m c B : Nat) (ls : List Int) (now : Int) (w : World)
    (hd : DeskSt w g b1 b2 n N G term short) (hsl : Sl w B A m (ls.map (Value.int .i64))) (hB : B ≤ w.heap.size) (hls : ∀ z ∈ ls, I64 z) (hmm : m ≤ 1000000) (hn : n ≤ 1000000) (hf : fam.size ≤ maxLen) (hnow : I64 now) (hterm : I64 term) (hN : ∀ s e a, N s e = some a → I64 a)
    (r : Hold) (hr : holdI G fam now term N ls = r) :
    Calls Try.prog 12 #[.pointer (some ⟨g, 0, none⟩), .string fam, .slice A m c, .int .i64 now] w fun en w' => ∃ A2 c2, en = .returned (.slice A2 r.out.length c2) ∧ Hid (Own w' w.heap.size 3 A2 r.out.length c2 (r.out.map (Value.int .i64))) ∧ Hid (DeskSt w' g b1 b2 (n + m) r.N G term short) ∧ Hid (But (DB b1 b2) w w') := by
  refine (holders_any g b1 b2 n N G term short fam A m c ls now w hd (hsl.more hB) hls hmm hn hf hnow hterm hN).mono ?_
  rintro e w' ⟨A2, c2, he, ho, hd', hb⟩
  rw [hr] at he ho hd'
  exact ⟨A2, c2, he, hide ho, hide hd', hide hb⟩
theorem Own.but_row {S : Nat → Prop} {w w' : World} {base e n c : Nat} {A : Option Addr} {xs : List Value} (h : Own w base e A n c xs) (hb : But S w w') (hs : ∀ k, (Value.slice A n c).ownBlock = some k → ¬ S k) : Own w' base e A n c xs := by
  rcases h.2 with ⟨h1, h2⟩ | ⟨g, cap, cur, h1, h2, h3, h4⟩
  · exact ⟨h.1, .inl ⟨h1, h2⟩⟩
  · exact ⟨h.1, .inr ⟨g, cap, cur, h1, h2, (hb.block g (Array.getElem?_eq_some_iff.1 h3).1 (hs g (by rw [h1]; rfl))).trans h3, h4⟩⟩
theorem Own.cap_ge {w : World} {base e n c : Nat} {A : Option Addr} {xs : List Value} (h : Own w base e A n c xs) : n ≤ c := by
  rcases h.2 with ⟨h1, h2⟩ | ⟨g, cap, cur, h1, h2, h3, h4, h5, h6, h7⟩
  · omega
  · injection h1 with a1 a2 a3; omega
theorem ints_same {A A' : Option Addr} {n m c c' : Nat} {xs ys : List Int} {w : World} (ha : Sl w w.heap.size A n (xs.map (Value.int .i64))) (hb : Sl w w.heap.size A' m (ys.map (Value.int .i64))) (hn : n ≤ 1000000) (he : xs = ys) :
    Calls Try.prog 23 #[.slice A n c, .slice A' m c'] w fun e w' => e = .returned (.bool true) ∧ Hid (Below w.heap.size w w') := by
  refine (ints_any A A' n m c c' xs ys w ha hb (by omega)).mono ?_
  rintro e w' ⟨rfl, hb⟩
  exact ⟨by rw [decide_eq_true he], hide hb⟩
set_option maxHeartbeats 8000000 in
set_option maxRecDepth 100000 in
theorem keeps_walk (A : Option Addr) (n c : Nat) (ks : List Int) (now : Int) (w : World) (hsl : Sl w w.heap.size A n (ks.map (Value.int .i64))) (hks : ∀ z ∈ ks, I64 z) (hnow : I64 now) (hn : n ≤ 9223372036854775807) (hc : n ≤ c) :
    Calls Try.prog 6 #[.slice A n c, .int .i64 now] w fun e w' => e = .returned (.bool true) ∧ Below w.heap.size w w' := by
  obtain ⟨m, hm⟩ : ∃ m, m = min n 100 := ⟨_, rfl⟩
  obtain ⟨ls, hls⟩ : ∃ ls, ls = ks.take m := ⟨_, rfl⟩
  have HSL : Hid (Sl w w.heap.size A m (ls.map (Value.int .i64))) := hide (by rw [hls, List.map_take]; exact hsl.take m (by omega))
  have HLS : Hid (∀ z ∈ ls, I64 z) := hide (fun z hz => hks z (List.mem_of_mem_take (hls ▸ hz)))
  have hm1 : m ≤ 100 := by omega
  have hmc : m ≤ c := by omega
  have HM := hide hm
  clear hm hls hsl hks
  have hS : shortI 5 0 = (5, 0) := by decide +kernel
  have KN := hide (new_ok hS)
  clear hS
  have i0 : Hid (∀ s e a, (fun (_ : ByteArray) (_ : Int) => (none : Option Int)) s e = some a → I64 a) := hide (fun _ _ _ h => by cases h)
  obtain ⟨r1, hr1⟩ : ∃ r, holdI noG fB now 5 (fun _ _ => none) ls = r := ⟨_, rfl⟩
  obtain ⟨r2, hr2⟩ : ∃ r, holdI noG fB now 5 r1.N ls = r := ⟨_, rfl⟩
  obtain ⟨r3, hr3⟩ : ∃ r, holdI noG fB now 5 r2.N ls = r := ⟨_, rfl⟩
  have n1 : NowN fB now r1.N := hr1 ▸ (hold_same (term := 5) (now := now) (fam := fB) (by omega) (N := fun _ _ => none) (N' := fun _ _ => none) (fun _ _ h => by cases h) (fun _ _ h => by cases h) ls).2
  have n2 : NowN fB now r2.N := hr2 ▸ (hold_same (term := 5) (by omega) n1 n1 ls).2
  have e2 : r2.out = r1.out := by rw [← hr2]; conv => rhs; rw [← hr1]
                                  exact (hold_same (term := 5) (by omega) (N' := fun _ _ => none) n1 (fun _ _ h => by cases h) ls).1
  have e3 : r3.out = r1.out := by rw [← hr3]; conv => rhs; rw [← hr1]
                                  exact (hold_same (term := 5) (by omega) (N' := fun _ _ => none) n2 (fun _ _ h => by cases h) ls).1
  have I1 : Hid (∀ s e a, r1.N s e = some a → I64 a) := hide (hr1 ▸ hold_i64 hnow i0.out)
  have I2 : Hid (∀ s e a, r2.N s e = some a → I64 a) := hide (hr2 ▸ hold_i64 hnow I1.out)
  have HLEN : Hid (r1.out.length ≤ 100) := hide (by
    have := holdI_len noG fB now 5 (fun _ _ => none) ls
    rw [hr1] at this
    have h2 : ls.length = m := by simpa using HSL.out.1
    omega)
  have R1 := hide hr1; have R2 := hide hr2; have R3 := hide hr3; have E2 := hide e2; have E3 := hide e3
  clear hr1 hr2 hr3 n1 n2 e2 e3
  go_enter Try.func6, Try.ntmps6
  go_upto_if 15 with (fail)
  go_cut [0] (fun v0 wx => v0 = .slice A m c ∧ w = wx)
  case first =>
    by_cases h : 100 < n
    · have hi : (100 : Int) < (n : Int) := by omega
      have hj : (100 : Int) ≤ (c : Int) := by omega
      have HM2 : Hid (m = 100) := hide (by have := HM.out; omega)
      clear h
      go_wp2_with fail
      go_meet
      rw [HM2.out]
      exact ⟨rfl, rfl⟩
    · have hi : ¬ ((100 : Int) < (n : Int)) := by omega
      have HM2 : Hid (m = n) := hide (by have := HM.out; omega)
      clear h
      go_wp2_with fail
      go_meet
      rw [HM2.out]
      exact ⟨rfl, rfl⟩
  case rest =>
    obtain ⟨rfl, rfl⟩ := hcut
    clear HM hn hc
    go_wp2_with fail
    refine (KN.out _).mono ?_
    rintro e w1 ⟨g, b1, b2, rfl, B1, Z, D1⟩
    clear KN
    go_wp2_with (at_builtin; go_must (with_reducible refine wpList_app rfl (.tmp 22) (.tmp 23) 29 rfl (.int .i64 0) 8 Try.underlying29 info_i64 (cells_int _ _) rfl (Own.of_block (base := w1.heap.size) (n := 0) (fr := []) (heap_alloc_new w1 _) (Nat.le_refl _) rfl (by decide)) rfl ((HSL.out.below B1.out (Nat.le_refl _)).below ((Below.refl w1.heap.size w1).alloc (Nat.le_refl _) _) B1.out.size) (ints_one ls) (by unfold maxLen; omega) (by omega) (by simp) ?_))
    intro A2 c2 w2 hown hgr hat
    have O2 := hide hown
    have D2 := hide (D1.out.but (But.of_row (S := fun k => k = w1.heap.size) ((World.grownBy_alloc w1 _ _).trans hgr) (fun k hk => by injection hk with hk; exact hk.symm)) (fun h => absurd D1.out.row.lt (by omega)) (fun h => absurd D1.out.notes.lt (by omega)) (fun h => absurd D1.out.gone.lt (by omega)))
    have B2 : Hid (Below w.heap.size w w2) := hide (below_of_grown (B1.out.alloc B1.out.size _) hgr (by have := B1.out.size; rw [World.size_alloc]; omega) (fun k hk => by have hk' : w1.heap.size = k := Option.some.inj hk; have := B1.out.size; omega))
    have S2 : Hid (w1.heap.size ≤ w2.heap.size) := hide (by have := hgr.size; rw [World.size_alloc] at this; omega)
    clear hown hgr hat
    go_wp2_with (at_builtin; go_must (with_reducible refine wpList_app rfl (.tmp 24) (.tmp 25) 29 rfl (.int .i64 0) 8 Try.underlying29 info_i64 (cells_int _ _) rfl (O2.out.alloc _) rfl Sl.one (one_int _ _) (by unfold maxLen; omega) (by omega) (by have := S2.out; rw [World.size_alloc]; omega) ?_))
    intro A3 c3 w3 hown hgr hat
    have O3 := hide hown
    have BT : Hid (But (fun k => w1.heap.size ≤ k) w2 w3) := hide ((But.of_alloc w2 _).trans (But.of_row hgr (fun k hk => O2.out.row_ge k hk)))
    have D3 := hide (D2.out.but BT.out (fun h => absurd D1.out.row.lt (by omega)) (fun h => absurd D1.out.notes.lt (by omega)) (fun h => absurd D1.out.gone.lt (by omega)))
    have B3 : Hid (Below w.heap.size w w3) := hide (B2.out.trans (BT.out.below (fun k hk => Nat.le_trans B1.out.size hk) B2.out.size))
    have hDB : Hid (b1 < w1.heap.size ∧ b2 < w1.heap.size ∧ w.heap.size ≤ w1.heap.size) := hide ⟨D1.out.notes.lt, D1.out.gone.lt, B1.out.size⟩
    have IN3 : Hid (Sl w3 w3.heap.size A3 (m + 1) ((ls ++ [77]).map (Value.int .i64))) := hide (by have := O3.out.sl; simpa using this)
    have IT3 : Hid (Sl w3 w3.heap.size A3 m (ls.map (Value.int .i64))) := hide (by
      have := IN3.out.take m (by omega)
      rwa [← List.map_take, List.take_append_of_le_length (by have := HSL.out.1; simp at this; omega), List.take_of_length_le (by have := HSL.out.1; simp at this; omega)] at this)
    have hcap : m + 1 ≤ c3 := O3.out.cap_ge
    have HIB : Hid (∀ k, (Value.slice A3 (m + 1) c3).ownBlock = some k → w1.heap.size ≤ k ∧ k < w3.heap.size) := hide (fun k hk => ⟨by have := O3.out.row_ge k hk; omega, O3.out.row_lt k hk⟩)
    have O3' : Hid (Own w3 w1.heap.size 3 A3 (m + 1) c3 ((ls ++ [77]).map (Value.int .i64))) := hide (by have := O3.out; simpa using this)
    have hS13 : Hid (w1.heap.size ≤ w3.heap.size) := hide (by have := BT.out.size; have := S2.out; omega)
    have hLL : Hid (ls.length = m) := hide (by simpa using HSL.out.1)
    have TK : Hid (∀ (W : World), Own W w1.heap.size 3 A3 (m + 1) c3 ((ls ++ [77]).map (Value.int .i64)) → Sl W W.heap.size A3 m (ls.map (Value.int .i64))) := hide (fun W h => by
      have := h.sl.take m (by omega)
      rwa [← List.map_take, List.take_append_of_le_length (by have := hLL.out; omega), List.take_of_length_le (by have := hLL.out; omega)] at this)
    have ND : Hid (∀ k, w1.heap.size ≤ k → ¬ DB b1 b2 k) := hide (fun k hk h => by have := hDB.out; rcases h with h | h <;> omega)
    have G3 : Hid (g < w1.heap.size) := hide D1.out.row.lt
    clear hown hgr hat O2 D2 B2 D1 B1 BT O3 IN3 IT3 S2
    go_wp2_with fail
    refine (holders_h g b1 b2 0 _ _ 5 5 fB A3 m c3 w3.heap.size ls now w3 D3.out (TK.out _ O3'.out) (Nat.le_refl _) HLS.out (by omega) (by omega) (by decide) hnow (by unfold I64; omega) i0.out r1 R1.out).mono ?_
    rintro e w4 ⟨A4, c4, rfl, O4, D4, hb⟩
    have B4 := hide (below_desk B3.out hb.out Z.out.2.1 Z.out.2.2)
    have O34 := hide (O3'.out.but hb.out ND.out)
    have S34 : Hid (w3.heap.size ≤ w4.heap.size) := hide hb.out.size
    have AN4 := hide (AnyR.of O4.out)
    clear hb O3' D3 B3
    go_wp2_with fail
    refine (holders_h g b1 b2 _ _ _ 5 5 fB A3 m c3 w4.heap.size ls now w4 D4.out (TK.out _ O34.out) (Nat.le_refl _) HLS.out (by omega) (by omega) (by decide) hnow (by unfold I64; omega) I1.out r2 R2.out).mono ?_
    rintro e w5 ⟨A5, c5, rfl, O5, D5, hb⟩
    have B5 := hide (below_desk B4.out hb.out Z.out.2.1 Z.out.2.2)
    have O35 := hide (O34.out.but hb.out ND.out)
    have O45 := hide (O4.out.but hb.out (fun k hk => ND.out k (Nat.le_trans hS13.out hk)))
    have AN5 := hide (AN4.out.but hb.out (fun k hk => ND.out k (Nat.le_trans hS13.out hk)))
    clear hb O34 O4 D4 B4 AN4
    go_wp2_with fail
    refine (ints_same O45.out.sl O5.out.sl (by have := HLEN.out; omega) E2.out.symm).mono ?_
    rintro e w6 ⟨rfl, hb⟩
    have B6 := hide (B5.out.trans (hb.out.mono B5.out.size))
    have O36 := hide (O35.out.below hb.out)
    have AN6 := hide (AN5.out.below hb.out)
    have O56 := hide (O5.out.below hb.out)
    have D6 := hide (D5.out.below hb.out)
    clear hb O35 O45 AN5 O5 D5 B5
    obtain ⟨na, hna⟩ : ∃ na, na = r1.out.length := ⟨_, rfl⟩
    have HLEN2 : Hid (na ≤ 100) := hide (hna ▸ HLEN.out)
    rw [← hna] at AN6 ⊢
    clear hna
    go_wp2_with fail
    go_loopw [11] (fun v11 wq => ∃ i : Nat, i ≤ na ∧ v11 = .int .i64 i ∧ Hid (AnyR wq w3.heap.size w4.heap.size A4 na) ∧ Hid (But (fun k => w3.heap.size ≤ k ∧ k < w4.heap.size) w6 wq)) (fun v _ => na - (intOf v).toNat)
    case atStart => exact ⟨0, by omega, rfl, AN6, hide (But.refl _ _)⟩
    case round =>
      clear AN6
      obtain ⟨i, hi, rfl, AN, BQ⟩ := hrel
      have hna := HLEN2.out
      by_cases hlt : i < na
      · obtain ⟨ga, rfl, hga1, hga2, hfr, va, hca⟩ := AN.out.at_ hlt
        have hi1 : (i : Int) < (na : Int) := by omega
        have hi0 : (0 : Int) ≤ (i : Int) := by omega
        have HGA := hide (And.intro hga1 hga2)
        clear hga1 hga2
        go_wp2_with fail
        go_roundw
        case rel => exact ⟨i + 1, by omega, by go_num, hide AN.out.set, hide (BQ.out.setCell HGA.out)⟩
        case measure => simp [intOf]; omega
      · have hge : ¬ ((i : Int) < (na : Int)) := by omega
        have B7 : Hid (Below w.heap.size w wr) := hide (B6.out.trans (BQ.out.below (fun k hk => by have := hDB.out; have := hS13.out; omega) B6.out.size))
        have O37 := hide (O36.out.but_row BQ.out (fun k hk h => by have := HIB.out k hk; omega))
        have O57 := hide (O56.out.but BQ.out (fun k hk h => by omega))
        have D7 := hide (D6.out.but BQ.out (fun h => by have := G3.out; have := hS13.out; omega) (fun h => by have := hDB.out; have := hS13.out; omega) (fun h => by have := hDB.out; have := hS13.out; omega))
        clear AN BQ O36 O56 D6 B6
        go_wp2_with fail
        refine (note_nil _ _ _ _).mono ?_
        rintro e w' ⟨rfl, rfl⟩
        go_wp2_with fail
        refine (ack_nil _ _ _).mono ?_
        rintro e w' ⟨rfl, rfl⟩
        go_wp2_with fail
        refine (forget_nil _ _).mono ?_
        rintro e w8 ⟨rfl, hb⟩
        have B8 := hide (B7.out.trans (hb.mono B7.out.size))
        have O38 := hide (O37.out.below hb)
        have O58 := hide (O57.out.below hb)
        have D8 := hide (D7.out.below hb)
        clear hb O37 O57 D7 B7
        go_wp2_with fail
        refine (known_any _).mono ?_
        rintro e w9 ⟨rfl, hb⟩
        have B9 := hide (B8.out.trans (hb.mono B8.out.size))
        have O39 := hide (O38.out.below hb)
        have O59 := hide (O58.out.below hb)
        have D9 := hide (D8.out.below hb)
        clear hb O38 O58 D8 B8
        go_wp2_with fail
        refine (ints_same (TK.out _ O39.out) ((HSL.out.below B9.out (Nat.le_refl _)).more B9.out.size) (by omega) rfl).mono ?_
        rintro e w10 ⟨rfl, hb⟩
        have B10 := hide (B9.out.trans (hb.out.mono B9.out.size))
        have O310 := hide (O39.out.below hb.out)
        have O510 := hide (O59.out.below hb.out)
        have D10 := hide (D9.out.below hb.out)
        clear hb O39 O59 D9 B9
        obtain ⟨bi, oi, ui, rfl, _, hui, c77⟩ := O310.out.sl.at_ (k := m) (by omega)
        have hui2 : ui = .int .i64 77 := by
          rw [List.map_append, List.getElem?_append_right (by have := hLL.out; simp; omega)] at hui
          have e0 : m - (ls.map (Value.int .i64)).length = 0 := by have := hLL.out; simp; omega
          rw [e0] at hui
          injection hui with hui; exact hui.symm
        subst hui2
        clear hui
        have hm0 : (0 : Int) ≤ (m : Int) := by omega
        have hm2 : (m : Int) < (m : Int) + 1 := by omega
        go_wp2_with fail
        refine (holders_h g b1 b2 _ _ _ 5 5 fB A m c w10.heap.size ls now w10 D10.out ((HSL.out.below B10.out (Nat.le_refl _)).more B10.out.size) (Nat.le_refl _) HLS.out (by omega) (by omega) (by decide) hnow (by unfold I64; omega) I2.out r3 R3.out).mono ?_
        rintro e w11 ⟨A11, c11, rfl, O11, D11, hb⟩
        have B11 := hide (below_desk B10.out hb.out Z.out.2.1 Z.out.2.2)
        have O511 := hide (O510.out.but hb.out (fun k hk => ND.out k (by have := hS13.out; have := S34.out; omega)))
        clear hb O510 D10 B10 O310 D11 c77
        go_wp2_with fail
        refine (ints_same O11.out.sl O511.out.sl (by rw [E3.out]; have := HLEN.out; omega) (by rw [E3.out, E2.out])).mono ?_
        rintro e w12 ⟨rfl, hb⟩
        have B12 := hide (B11.out.trans (hb.out.mono B11.out.size))
        clear hb O11 O511 B11
        go_wp2_with fail
        refine (holders_nil _ _ _ _ _ _).mono ?_
        rintro e w' ⟨rfl, rfl⟩
        go_wp2_with fail
        refine (term_nil _).mono ?_
        rintro e w' ⟨rfl, rfl⟩
        go_wp2_with fail
        refine (dshort_nil _).mono ?_
        rintro e w' ⟨rfl, rfl⟩
        go_wp2_with fail
        go_ret
        exact ⟨rfl, B12.out⟩
end Go.Proofs.Ytjmgnojbegafiaa
