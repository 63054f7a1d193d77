/-
  The walks of the document's bounds, by halves (signetref09.Least, most, Most, Short), of its Turn, and of the chapter's example.
-/
import Derived.Test.YtfnncjppklpkcaaDriftC
namespace Go.Proofs.Ytfnncjppklpkcaa
open Go.RowKit

theorem int_eq {k : IntKind} {a b : Int} (h : a = b) : Value.int k a = Value.int k b := by rw [h]
theorem prod_bounds {m B : Int} (h0 : 0 ≤ m) (h1 : m ≤ 2199023255552) (hB0 : 0 ≤ B) (hB : B ≤ 1500) : 0 ≤ m * B ∧ m * B ≤ 3298534883328000 := by
  refine ⟨Int.mul_nonneg h0 hB0, ?_⟩
  have : m * B ≤ 2199023255552 * 1500 := Int.mul_le_mul h1 hB hB0 (by omega)
  omega

theorem rmost_any (a b t : Int) (ha : 0 ≤ a) (ha' : a ≤ 1649267441664000) (hb : 500 ≤ b) (hb' : b ≤ 1500) (ht : 0 ≤ t) (ht' : t ≤ 2199023255552) (hat : a < (t + 1) * b) (w : World) :
    Calls Try.prog 32 #[.int .i64 a, .int .i64 b, .int .i64 t] w fun e w' => e = .returned (.int .i64 (a / b)) ∧ w = w' := by
  have HT := hide hat; clear hat
  go_enter Try.func32, Try.ntmps32
  go_wp2_with fail
  go_loop [7, 8] (fun v7 v8 => ∃ lo hi : Int, 0 ≤ lo ∧ lo ≤ hi ∧ hi ≤ t ∧ v7 = .int .i64 lo ∧ v8 = .int .i64 hi ∧ Hid (lo * b ≤ a ∧ a < (hi + 1) * b)) (fun x y => (intOf y - intOf x).toNat)
  case atStart => exact ⟨0, t, by omega, ht, by omega, rfl, rfl, hide ⟨by omega, HT.out⟩⟩
  case round =>
    obtain ⟨lo, hi, h0, h1, h2, rfl, rfl, H⟩ := hrel
    by_cases hlt : lo < hi
    · obtain ⟨m, hm⟩ : ∃ m, m = (lo + hi + 1) / 2 := ⟨_, rfl⟩
      have m1 : lo < m := by omega
      have m2 : m ≤ hi := by omega
      have hm' : (lo + hi + 1) / 2 = m := hm.symm
      obtain ⟨p1, p2⟩ := prod_bounds (m := m) (B := b) (by omega) (by omega) (by omega) (by omega)
      clear hm
      by_cases hc : m * b ≤ a
      · go_wp2_with fail
        go_round
        case rel => exact ⟨m, hi, by omega, m2, h2, int_eq (by omega), rfl, hide ⟨hc, H.out.2⟩⟩
        case measure => simp [intOf]; omega
      · go_wp2_with fail
        go_round
        case rel => exact ⟨lo, m - 1, h0, by omega, by omega, rfl, int_eq (by omega), hide ⟨H.out.1, by rw [Int.sub_add_cancel]; omega⟩⟩
        case measure => simp [intOf]; omega
    · have HE : Hid (hi = lo) := hide (by omega)
      go_wp2_with fail
      go_ret
      exact ⟨ret_int (div_eq (by omega) H.out.1 (by have := H.out.2; rwa [HE.out] at this)).symm, rfl⟩

theorem rmostI_any (n d : Int) (hd : I64 d) (w : World) : Calls Try.prog 24 #[.int .i64 n, .int .i64 d] w fun e w' => e = .returned (.tuple #[.int .i64 (mostI n d).1, .int .i64 (mostI n d).2]) ∧ w = w' := by
  have K := hide (right_any n d hd)
  cases h : rightB n d <;> rw [h] at K
  · have HR := hide (show mostI n d = (0, 1) by simp [mostI, h]); clear h
    go_enter Try.func24, Try.ntmps24
    go_wp2_with (refine (K.out _).mono ?_; rintro e w1 ⟨rfl, rfl⟩)
    go_ret2
    rw [HR.out]
    exact ⟨rfl, rfl⟩
  · obtain ⟨h1, h2, h3, h4⟩ := right_bounds h
    have hb : 1000 * n < (2 * n + 1) * (1000 - d) := by
      have : (2 * n + 1) * 500 ≤ (2 * n + 1) * (1000 - d) := Int.mul_le_mul_of_nonneg_left (by omega) (by omega)
      omega
    have HR := hide (show mostI n d = (1000 * n / (1000 - d), 0) by simp [mostI, h, Int.mul_comm])
    have K2 := hide (rmost_any (1000 * n) (1000 - d) (2 * n) (by omega) (by omega) (by omega) (by omega) (by omega) (by omega) hb); clear h hb
    go_enter Try.func24, Try.ntmps24
    go_wp2_with fail
    refine (K.out _).mono ?_
    rintro e w1 ⟨rfl, rfl⟩
    go_wp2_with fail
    refine (K2.out _).mono ?_
    rintro e w1 ⟨rfl, rfl⟩
    go_wp2_with fail
    go_ret2
    rw [HR.out]
    exact ⟨rfl, rfl⟩

theorem rshort_any (n d : Int) (hd : I64 d) (w : World) : Calls Try.prog 25 #[.int .i64 n, .int .i64 d] w fun e w' => e = .returned (.tuple #[.int .i64 (shortI n d).1, .int .i64 (shortI n d).2]) ∧ w = w' := by
  have K := hide (right_any n d hd)
  cases h : rightB n d <;> rw [h] at K
  · have HR := hide (show shortI n d = (0, 1) by simp [shortI, h]); clear h
    go_enter Try.func25, Try.ntmps25
    go_wp2_with (refine (K.out _).mono ?_; rintro e w1 ⟨rfl, rfl⟩)
    go_ret2
    rw [HR.out]
    exact ⟨rfl, rfl⟩
  · obtain ⟨h1, h2, h3, h4⟩ := right_bounds h
    obtain ⟨p1, p2⟩ := prod_bounds (m := n) (B := 1000 - d) (by omega) (by omega) (by omega) (by omega)
    have p3 : n * (1000 - d) ≤ 1099511627776 * 1000 := Int.mul_le_mul h2 (by omega) (by omega) (by omega)
    have hb : n * (1000 - d) < (n + 1) * (1000 + d) := by
      have e1 : n * (1000 - d) ≤ n * (1000 + d) := Int.mul_le_mul_of_nonneg_left (by omega) (by omega)
      have e2 : (n + 1) * (1000 + d) = n * (1000 + d) + (1000 + d) := by rw [Int.add_mul, Int.one_mul]
      omega
    have HR := hide (show shortI n d = (n * (1000 - d) / (1000 + d), 0) by simp [shortI, h])
    have K2 := hide (rmost_any (n * (1000 - d)) (1000 + d) n (by omega) (by omega) (by omega) (by omega) (by omega) (by omega) hb); clear h hb
    go_enter Try.func25, Try.ntmps25
    go_wp2_with fail
    refine (K.out _).mono ?_
    rintro e w1 ⟨rfl, rfl⟩
    go_wp2_with fail
    refine (K2.out _).mono ?_
    rintro e w1 ⟨rfl, rfl⟩
    go_wp2_with fail
    go_ret2
    rw [HR.out]
    exact ⟨rfl, rfl⟩

theorem least_unique {n d L : Int} (h1 : 0 ≤ n) (hd : 0 ≤ d) (hlo : L = 0 ∨ (L - 1) * (1000 + d) < 1000 * n) (hhi : 1000 * n ≤ L * (1000 + d)) : leastV n d = L := by
  have q1 := div_lo (a := n * 1000) (b := 1000 + d) (by omega)
  have q2 := div_hi (a := n * 1000) (b := 1000 + d) (by omega)
  have q3 : 0 ≤ n * 1000 / (1000 + d) := Int.ediv_nonneg (by omega) (by omega)
  unfold leastV
  generalize n * 1000 / (1000 + d) = q at q1 q2 q3
  split
  · rename_i hlt
    have e1 : q < L := lt_of_mul (b := 1000 + d) (by omega) (by omega)
    have e2 : L - 1 < q + 1 := by
      rcases hlo with h | h
      · omega
      · exact lt_of_mul (b := 1000 + d) (by omega) (by omega)
    omega
  · rename_i hge
    have e1 : L < q + 1 := by
      rcases hlo with h | h
      · omega
      · have : L - 1 < q := lt_of_mul (b := 1000 + d) (by omega) (by omega)
        omega
    have e2 : q < L + 1 := by
      have e3 : (L + 1) * (1000 + d) = L * (1000 + d) + (1000 + d) := by rw [Int.add_mul, Int.one_mul]
      exact lt_of_mul (b := 1000 + d) (by omega) (by omega)
    omega

theorem rleast_any (n d : Int) (hd : I64 d) (w : World) : Calls Try.prog 23 #[.int .i64 n, .int .i64 d] w fun e w' => e = .returned (.tuple #[.int .i64 (leastI n d).1, .int .i64 (leastI n d).2]) ∧ w = w' := by
  have K := hide (right_any n d hd)
  cases h : rightB n d <;> rw [h] at K
  · have HR := hide (show leastI n d = (0, 1) by simp [leastI, h]); clear h
    go_enter Try.func23, Try.ntmps23
    go_wp2_with (refine (K.out _).mono ?_; rintro e w1 ⟨rfl, rfl⟩)
    go_ret2
    rw [HR.out]
    exact ⟨rfl, rfl⟩
  · obtain ⟨h1, h2, h3, h4⟩ := right_bounds h
    have HR := hide (show leastI n d = (leastV n d, 0) by simp [leastI, h]); clear h
    have HN := hide (show 1000 * n ≤ n * (1000 + d) by
      have : n * 1000 ≤ n * (1000 + d) := Int.mul_le_mul_of_nonneg_left (by omega) (by omega)
      omega)
    go_enter Try.func23, Try.ntmps23
    go_wp2_with fail
    refine (K.out _).mono ?_
    rintro e w1 ⟨rfl, rfl⟩
    go_wp2_with fail
    go_loop [6, 7] (fun v6 v7 => ∃ lo hi : Int, 0 ≤ lo ∧ lo ≤ hi ∧ hi ≤ n ∧ v6 = .int .i64 lo ∧ v7 = .int .i64 hi ∧ Hid ((lo = 0 ∨ (lo - 1) * (1000 + d) < 1000 * n) ∧ 1000 * n ≤ hi * (1000 + d))) (fun x y => (intOf y - intOf x).toNat)
    case atStart => exact ⟨0, n, by omega, h1, by omega, rfl, rfl, hide ⟨.inl rfl, HN.out⟩⟩
    case round =>
      obtain ⟨lo, hi, g0, g1, g2, rfl, rfl, H⟩ := hrel
      by_cases hlt : lo < hi
      · obtain ⟨m, hm⟩ : ∃ m, m = (lo + hi) / 2 := ⟨_, rfl⟩
        have m1 : lo ≤ m := by omega
        have m2 : m < hi := by omega
        have hm' : (lo + hi) / 2 = m := hm.symm
        obtain ⟨p1, p2⟩ := prod_bounds (m := m) (B := 1000 + d) (by omega) (by omega) (by omega) (by omega)
        clear hm
        by_cases hc : 1000 * n ≤ m * (1000 + d)
        · go_wp2_with fail
          go_round
          case rel => exact ⟨lo, m, g0, m1, by omega, rfl, int_eq (by omega), hide ⟨H.out.1, hc⟩⟩
          case measure => simp [intOf]; omega
        · go_wp2_with fail
          go_round
          case rel => exact ⟨m + 1, hi, by omega, by omega, g2, int_eq (by omega), rfl, hide ⟨.inr (by rw [Int.add_sub_cancel]; omega), H.out.2⟩⟩
          case measure => simp [intOf]; omega
      · have HE : Hid (hi = lo) := hide (by omega)
        have HU := hide (least_unique (L := lo) h1 h3 H.out.1 (by have := H.out.2; rwa [HE.out] at this))
        go_wp2_with fail
        go_ret2
        rw [HR.out, HU.out]
        exact ⟨rfl, rfl⟩

theorem rturn_any (c u r : Int) (w : World) : Calls Try.prog 10 #[.int .i64 c, .int .i64 u, .int .i64 r] w fun e w' => e = .returned (.tuple #[.int .i64 (turnI c u r).1, .int .i64 (turnI c u r).2]) ∧ w = w' := by
  have K := hide (rwithin_any r 500 (by unfold I64; omega))
  by_cases h1 : 0 ≤ u
  · by_cases h2 : u ≤ 1099511627776
    · have hT : timeB u = true := by unfold timeB; simp; omega
      cases hW : withinB r 500 <;> rw [hW] at K
      · have HR := hide (show turnI c u r = (0, 1) by simp [turnI, hW]); clear hT hW
        go_enter Try.func10, Try.ntmps10
        go_wp2_with (refine (K.out _).mono ?_; rintro e w1 ⟨rfl, rfl⟩)
        go_ret2
        rw [HR.out]
        exact ⟨rfl, rfl⟩
      · obtain ⟨m1, m2, m3, m4, m5, m6⟩ := mul_bounds hT hW
        by_cases g1 : 0 ≤ c
        · by_cases g2 : c ≤ 1099511627776000
          · by_cases g3 : 1099511627776000 < c + u * (1000 + r)
            · have HR := hide (show turnI c u r = (0, 6) by simp [turnI, hT, hW, g1, g2, g3]); clear hT hW
              go_enter Try.func10, Try.ntmps10
              go_wp2_with (refine (K.out _).mono ?_; rintro e w1 ⟨rfl, rfl⟩)
              go_ret2
              rw [HR.out]
              exact ⟨rfl, rfl⟩
            · have HR := hide (show turnI c u r = (c + u * (1000 + r), 0) by simp [turnI, hT, hW, g1, g2, g3]); clear hT hW
              go_enter Try.func10, Try.ntmps10
              go_wp2_with (refine (K.out _).mono ?_; rintro e w1 ⟨rfl, rfl⟩)
              go_ret2
              rw [HR.out]
              exact ⟨rfl, rfl⟩
          · have HR := hide (show turnI c u r = (0, 1) by simp [turnI, g2]); clear hT hW
            go_enter Try.func10, Try.ntmps10
            go_wp2_with (refine (K.out _).mono ?_; rintro e w1 ⟨rfl, rfl⟩)
            go_ret2
            rw [HR.out]
            exact ⟨rfl, rfl⟩
        · have HR := hide (show turnI c u r = (0, 1) by simp [turnI, g1]); clear hT hW
          go_enter Try.func10, Try.ntmps10
          go_wp2_with (refine (K.out _).mono ?_; rintro e w1 ⟨rfl, rfl⟩)
          go_ret2
          rw [HR.out]
          exact ⟨rfl, rfl⟩
    · have HR := hide (show turnI c u r = (0, 1) by simp [turnI, timeB, h2])
      go_enter Try.func10, Try.ntmps10
      go_wp2_with fail
      go_ret2
      rw [HR.out]
      exact ⟨rfl, rfl⟩
  · have HR := hide (show turnI c u r = (0, 1) by simp [turnI, timeB, h1])
    go_enter Try.func10, Try.ntmps10
    go_wp2_with fail
    go_ret2
    rw [HR.out]
    exact ⟨rfl, rfl⟩

theorem known_any (w : World) : Calls Try.prog 11 #[] w fun e w' => e = .returned (.bool true) ∧ Below w.heap.size w w' := by
  have K1 := hide (short_any 1000 100); rw [show shortI 1000 100 = (818, 0) by decide +kernel] at K1
  have K2 := hide (turn_any 0 10 (-100)); rw [show turnI 0 10 (-100) = (9000, 0) by decide +kernel] at K2
  have K3 := hide (cread_any 9000 (by unfold I64; omega)); rw [show readI 9000 = 9 by decide +kernel] at K3
  have K4 := hide (over_any 5 16 10 (by unfold I64; omega) (by unfold I64; omega) (by unfold I64; omega)); rw [show overB 5 16 10 = true by decide +kernel] at K4
  have K5 := hide (live_any 5 5 1 (by unfold I64; omega) (by unfold I64; omega) (by unfold I64; omega)); rw [show liveB 5 5 1 = true by decide +kernel] at K5
  go_enter Try.func11, Try.ntmps11
  go_wp2_with fail
  refine (K1.out _).mono ?_
  rintro e w1 ⟨rfl, rfl⟩
  go_wp2_with fail
  refine (K2.out _).mono ?_
  rintro e w1 ⟨rfl, hb1⟩
  have B1 := hide hb1; clear hb1
  go_wp2_with fail
  refine (K3.out _).mono ?_
  rintro e w2 ⟨rfl, hb2⟩
  have B2 := hide hb2; clear hb2
  go_wp2_with (with_reducible first | (refine (K4.out _).mono ?_; rintro e w1 ⟨rfl, rfl⟩) | (refine (K5.out _).mono ?_; rintro e w1 ⟨rfl, rfl⟩))
  go_ret
  have hb2 := B2.out
  have hz := B1.out.size
  exact ⟨rfl, (B1.out.alloc hz _).trans (hb2.mono (by rw [World.size_alloc]; omega))⟩
end Go.Proofs.Ytfnncjppklpkcaa
