/-
  The walk of the law DriftRises.
-/
import Derived.Test.YtfnncjppklpkcaaDriftD
namespace Go.Proofs.Ytfnncjppklpkcaa
open Go.RowKit

theorem leastV_ge {n d : Int} (_hd : 0 ≤ d) : n * 1000 / (1000 + d) ≤ leastV n d := by
  unfold leastV; split <;> omega
theorem leastV_covers {n d : Int} (hd : 0 ≤ d) : n * 1000 ≤ leastV n d * (1000 + d) := by
  have q2 := div_hi (a := n * 1000) (b := 1000 + d) (by omega)
  unfold leastV; split
  · omega
  · omega
theorem leastV_le {n d : Int} (hn : 0 ≤ n) (hd : 0 ≤ d) : leastV n d ≤ n := by
  have h1 : n * 1000 ≤ n * (1000 + d) := Int.mul_le_mul_of_nonneg_left (by omega) hn
  have h2 : n * 1000 / (1000 + d) < n + 1 := by
    apply Int.ediv_lt_of_lt_mul (by omega)
    rw [Int.add_mul, Int.one_mul]; omega
  unfold leastV
  split
  · rename_i h
    have : n * 1000 / (1000 + d) < n := lt_of_mul (b := 1000 + d) (by omega) (by omega)
    omega
  · omega
theorem leastV_mono {n m d : Int} (hnm : n ≤ m) (hd : 0 ≤ d) : leastV n d ≤ leastV m d := by
  have c := leastV_covers (n := m) hd
  have q1 := div_lo (a := n * 1000) (b := 1000 + d) (by omega)
  have e1 : n * 1000 / (1000 + d) ≤ m * 1000 / (1000 + d) := Int.ediv_le_ediv (by omega) (by omega)
  have e2 := leastV_ge (n := m) hd
  conv => lhs; unfold leastV
  split
  · rename_i h
    have : n * 1000 / (1000 + d) < leastV m d := lt_of_mul (b := 1000 + d) (by omega) (by omega)
    omega
  · omega
theorem most_ge {n d : Int} (hn : 0 ≤ n) (hd : 0 ≤ d) (hd' : d ≤ 500) : n ≤ n * 1000 / (1000 - d) := by
  apply Int.le_ediv_of_mul_le (by omega)
  exact Int.mul_le_mul_of_nonneg_left (by omega) hn
theorem short_le {n d : Int} (hn : 0 ≤ n) (hd : 0 ≤ d) : n * (1000 - d) / (1000 + d) ≤ leastV n d := by
  have h1 : n * (1000 - d) ≤ n * 1000 := Int.mul_le_mul_of_nonneg_left (by omega) hn
  exact Int.le_trans (Int.ediv_le_ediv (by omega) h1) (leastV_ge hd)
theorem most_mono {n m d : Int} (hnm : n ≤ m) (hd' : d ≤ 500) : n * 1000 / (1000 - d) ≤ m * 1000 / (1000 - d) := Int.ediv_le_ediv (by omega) (by omega)
theorem short_mono {n m d : Int} (hnm : n ≤ m) (hd : 0 ≤ d) (hd' : d ≤ 500) : n * (1000 - d) / (1000 + d) ≤ m * (1000 - d) / (1000 + d) :=
  Int.ediv_le_ediv (by omega) (Int.mul_le_mul_of_nonneg_right hnm (by omega))
theorem zero_drift (n : Int) : leastV n 0 = n ∧ n * 1000 / (1000 - 0) = n ∧ n * (1000 - 0) / (1000 + 0) = n := by
  have h : n * 1000 / 1000 = n := by omega
  refine ⟨?_, by omega, by omega⟩
  unfold leastV
  simp only [Int.add_zero, h]
  rw [if_neg (by omega)]

set_option maxHeartbeats 800000 in
theorem rises_walk (n m d : Int) (w : World) : Calls Try.prog 8 #[.int .i64 n, .int .i64 m, .int .i64 d] w fun e w' => e = .returned (.bool true) ∧ Below w.heap.size w w' := by
  have key : ∃ lo hi : Int, lo ≤ hi ∧ ((lo = n ∧ hi = m) ∨ (m < n ∧ lo = m ∧ hi = n)) := by
    by_cases h : m < n
    · exact ⟨m, n, by omega, .inr ⟨h, rfl, rfl⟩⟩
    · exact ⟨n, m, by omega, .inl ⟨rfl, rfl⟩⟩
  obtain ⟨lo, hi, hlh, ⟨rfl, rfl⟩ | ⟨hlt, rfl, rfl⟩⟩ := key
  all_goals
    have K1 := hide (least_any lo d)
    have K2 := hide (most_any lo d)
    have K3 := hide (short_any lo d)
    have K4 := hide (least_any hi d)
    have K5 := hide (most_any hi d)
    have K6 := hide (short_any hi d)
    cases hl : rightB lo d
    · have e1 : leastI lo d = (0, 1) := by simp [leastI, hl]
      have e2 : mostI lo d = (0, 1) := by simp [mostI, hl]
      have e3 : shortI lo d = (0, 1) := by simp [shortI, hl]
      rw [e1] at K1; rw [e2] at K2; rw [e3] at K3
      obtain ⟨x, hx⟩ : ∃ x, x = leastI hi d := ⟨_, rfl⟩
      obtain ⟨y, hy⟩ : ∃ y, y = mostI hi d := ⟨_, rfl⟩
      obtain ⟨z, hz⟩ : ∃ z, z = shortI hi d := ⟨_, rfl⟩
      rw [← hx] at K4; rw [← hy] at K5; rw [← hz] at K6
      obtain ⟨x1, x2⟩ := x
      obtain ⟨y1, y2⟩ := y
      obtain ⟨z1, z2⟩ := z
      clear hl e1 e2 e3 hx hy hz
      go_enter Try.func8, Try.ntmps8
      go_wp2_with (with_reducible first | (refine (K1.out _).mono ?_; rintro e w2 ⟨rfl, rfl⟩) | (refine (K2.out _).mono ?_; rintro e w2 ⟨rfl, rfl⟩) | (refine (K3.out _).mono ?_; rintro e w2 ⟨rfl, rfl⟩) | (refine (K4.out _).mono ?_; rintro e w2 ⟨rfl, rfl⟩) | (refine (K5.out _).mono ?_; rintro e w2 ⟨rfl, rfl⟩) | (refine (K6.out _).mono ?_; rintro e w2 ⟨rfl, rfl⟩))
      refine (known_any _).mono ?_
      rintro e w1 ⟨rfl, hb1⟩
      have B1 := hide hb1; clear hb1
      go_wp2_with fail
      go_ret
      exact ⟨ret_bool (by simp), B1.out⟩
    · obtain ⟨r1, r2, r3, r4⟩ := right_bounds hl
      have e1 : leastI lo d = (leastV lo d, 0) := by simp [leastI, hl]
      have e2 : mostI lo d = (lo * 1000 / (1000 - d), 0) := by simp [mostI, hl]
      have e3 : shortI lo d = (lo * (1000 - d) / (1000 + d), 0) := by simp [shortI, hl]
      rw [e1] at K1; rw [e2] at K2; rw [e3] at K3
      cases hh : rightB hi d
      · have e6 : shortI hi d = (0, 1) := by simp [shortI, hh]
        rw [e6] at K6
        obtain ⟨x, hx⟩ : ∃ x, x = leastI hi d := ⟨_, rfl⟩
        obtain ⟨y, hy⟩ : ∃ y, y = mostI hi d := ⟨_, rfl⟩
        rw [← hx] at K4; rw [← hy] at K5
        obtain ⟨x1, x2⟩ := x
        obtain ⟨y1, y2⟩ := y
        clear hl hh e1 e2 e3 e6 hx hy
        go_enter Try.func8, Try.ntmps8
        go_wp2_with (with_reducible first | (refine (K1.out _).mono ?_; rintro e w2 ⟨rfl, rfl⟩) | (refine (K2.out _).mono ?_; rintro e w2 ⟨rfl, rfl⟩) | (refine (K3.out _).mono ?_; rintro e w2 ⟨rfl, rfl⟩) | (refine (K4.out _).mono ?_; rintro e w2 ⟨rfl, rfl⟩) | (refine (K5.out _).mono ?_; rintro e w2 ⟨rfl, rfl⟩) | (refine (K6.out _).mono ?_; rintro e w2 ⟨rfl, rfl⟩))
        refine (known_any _).mono ?_
        rintro e w1 ⟨rfl, hb1⟩
        have B1 := hide hb1; clear hb1
        go_wp2_with fail
        go_ret
        exact ⟨ret_bool (by simp), B1.out⟩
      · have e4 : leastI hi d = (leastV hi d, 0) := by simp [leastI, hh]
        have e5 : mostI hi d = (hi * 1000 / (1000 - d), 0) := by simp [mostI, hh]
        have e6 : shortI hi d = (hi * (1000 - d) / (1000 + d), 0) := by simp [shortI, hh]
        rw [e4] at K4; rw [e5] at K5; rw [e6] at K6
        have f1 := leastV_le (n := lo) r1 r3
        have f2 := most_ge (n := lo) r1 r3 r4
        have f3 := short_le (n := lo) r1 r3
        have f4 := leastV_mono hlh r3
        have f5 := most_mono hlh r4
        have f6 := short_mono hlh r3 r4
        by_cases hd : d = 0
        · subst hd
          obtain ⟨z1, z2, z3⟩ := zero_drift lo
          rw [z1] at K1 f1 f3 f4
          rw [z2] at K2 f2 f5
          rw [z3] at K3 f3 f6
          generalize leastV hi 0 = x at K4 f4
          generalize hi * 1000 / (1000 - 0) = y at K5 f5
          generalize hi * (1000 - 0) / (1000 + 0) = z at K6 f6
          clear hl hh e1 e2 e3 e4 e5 e6 z1 z2 z3
          go_enter Try.func8, Try.ntmps8
          go_wp2_with (with_reducible first | (refine (K1.out _).mono ?_; rintro e w2 ⟨rfl, rfl⟩) | (refine (K2.out _).mono ?_; rintro e w2 ⟨rfl, rfl⟩) | (refine (K3.out _).mono ?_; rintro e w2 ⟨rfl, rfl⟩) | (refine (K4.out _).mono ?_; rintro e w2 ⟨rfl, rfl⟩) | (refine (K5.out _).mono ?_; rintro e w2 ⟨rfl, rfl⟩) | (refine (K6.out _).mono ?_; rintro e w2 ⟨rfl, rfl⟩))
          refine (known_any _).mono ?_
          rintro e w1 ⟨rfl, hb1⟩
          have B1 := hide hb1; clear hb1
          go_wp2_with fail
          go_ret
          exact ⟨ret_bool (by simp), B1.out⟩
        · have hd' : (d != 0) = true := by rw [bne_iff_ne]; exact hd
          generalize leastV lo d = a at K1 f1 f3 f4
          generalize lo * 1000 / (1000 - d) = b at K2 f2 f5
          generalize lo * (1000 - d) / (1000 + d) = c at K3 f3 f6
          generalize leastV hi d = x at K4 f4
          generalize hi * 1000 / (1000 - d) = y at K5 f5
          generalize hi * (1000 - d) / (1000 + d) = z at K6 f6
          clear hl hh e1 e2 e3 e4 e5 e6 hd
          go_enter Try.func8, Try.ntmps8
          go_wp2_with (with_reducible first | (refine (K1.out _).mono ?_; rintro e w2 ⟨rfl, rfl⟩) | (refine (K2.out _).mono ?_; rintro e w2 ⟨rfl, rfl⟩) | (refine (K3.out _).mono ?_; rintro e w2 ⟨rfl, rfl⟩) | (refine (K4.out _).mono ?_; rintro e w2 ⟨rfl, rfl⟩) | (refine (K5.out _).mono ?_; rintro e w2 ⟨rfl, rfl⟩) | (refine (K6.out _).mono ?_; rintro e w2 ⟨rfl, rfl⟩))
          refine (known_any _).mono ?_
          rintro e w1 ⟨rfl, hb1⟩
          have B1 := hide hb1; clear hb1
          go_wp2_with fail
          go_ret
          exact ⟨ret_bool (by simp), B1.out⟩
end Go.Proofs.Ytfnncjppklpkcaa
