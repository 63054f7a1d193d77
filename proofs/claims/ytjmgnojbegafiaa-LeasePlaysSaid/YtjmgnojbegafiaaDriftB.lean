/-
  More walks of drift: clocks' turns, and the document's functions without loops.
-/
import Derived.Test.YtjmgnojbegafiaaDriftA
namespace Go.Proofs.Ytjmgnojbegafiaa
open Go.RowKit

theorem rwithin_any (r d : Int) (hd : I64 d) (w : World) : Calls Try.prog 39 #[.int .i64 r, .int .i64 d] w fun e w' => e = .returned (.bool (withinB r d)) ∧ w = w' := by
  unfold I64 at hd
  by_cases h1 : 0 ≤ d <;> by_cases h2 : d ≤ 500 <;> by_cases h3 : 0 - d ≤ r <;> by_cases h4 : r ≤ d
  all_goals try (exfalso; omega)
  all_goals
    go_enter Try.func39, Try.ntmps39
    go_wp2
    go_ret
    exact ⟨ret_bool (by simp [withinB]; try omega), rfl⟩

def readI (c : Int) : Int := if c < 0 then 0 else c / 1000
theorem cread_any (c : Int) (hc : I64 c) (w : World) : Calls Try.prog 14 #[.agg #[.int .i64 c]] w fun e w' => e = .returned (.int .i64 (readI c)) ∧ Below w.heap.size w w' := by
  unfold I64 at hc
  by_cases h : c < 0
  all_goals
    first | (have h' : 0 ≤ c := by omega) | skip
    go_enter Try.func14, Try.ntmps14
    go_wp2
    go_ret
    exact ⟨ret_int (by unfold readI; first | rw [if_pos (by omega)] | rw [if_neg (by omega)]), (Below.refl _ _).alloc (Nat.le_refl _) _⟩

/-- how far apart two ints are -/
def apartI (a b : Int) : Int := if b ≤ a then a - b else b - a
theorem apart_any (a b : Int) (ha : I64 a) (hb : I64 b) (w : World) : Calls Try.prog 40 #[.int .i64 a, .int .i64 b] w fun e w' => e = .returned (.int .u64 (apartI a b)) ∧ w = w' := by
  by_cases h : b ≤ a
  · have e1 := diff_up hb ha h
    go_enter Try.func40, Try.ntmps40
    go_wp2
    go_ret
    exact ⟨ret_int (by unfold apartI; first | rw [if_pos (by omega)] | rw [if_neg (by omega)]), rfl⟩
  · have e1 := diff_up ha hb (by omega)
    go_enter Try.func40, Try.ntmps40
    go_wp2
    go_ret
    exact ⟨ret_int (by unfold apartI; first | rw [if_pos (by omega)] | rw [if_neg (by omega)]), rfl⟩
theorem apart_up {a b : Int} (h : b ≤ a) : apartI a b = a - b := by simp [apartI, h]
theorem apart_down {a b : Int} (h : a < b) : apartI a b = b - a := by unfold apartI; rw [if_neg (by omega)]


theorem rover_any (s n k : Int) (hs : I64 s) (hn : I64 n) (hk : I64 k) (w : World) : Calls Try.prog 37 #[.int .i64 s, .int .i64 n, .int .i64 k] w fun e w' => e = .returned (.bool (overB s n k)) ∧ w = w' := by
  by_cases h1 : s ≤ n
  · by_cases h2 : k < 0
    · go_enter Try.func37, Try.ntmps37
      go_wp2_with fail
      go_ret
      exact ⟨ret_bool (by simp [overB]; try omega), rfl⟩
    · have e2 := u64_of_nonneg hk (by omega)
      have K := hide (apart_any n s hn hs); rw [apart_up h1] at K
      by_cases h3 : k < n - s
      all_goals
        go_enter Try.func37, Try.ntmps37
        go_wp2_with fail
        refine (K.out _).mono ?_
        rintro e w1 ⟨rfl, rfl⟩
        go_wp2_with fail
        go_ret
        exact ⟨ret_bool (by simp [overB]; try omega), rfl⟩
  · by_cases h2 : k < 0
    · have K := hide (apart_any n s hn hs); rw [apart_down (by omega)] at K
      have K2 := hide (apart_any 0 k (by unfold I64; omega) hk); rw [apart_up (by omega)] at K2
      by_cases h3 : s - n < 0 - k
      all_goals
        go_enter Try.func37, Try.ntmps37
        go_wp2_with fail
        refine (K.out _).mono ?_
        rintro e w1 ⟨rfl, rfl⟩
        go_wp2_with fail
        refine (K2.out _).mono ?_
        rintro e w1 ⟨rfl, rfl⟩
        go_wp2_with fail
        go_ret
        exact ⟨ret_bool (by simp [overB]; try omega), rfl⟩
    · go_enter Try.func37, Try.ntmps37
      go_wp2_with fail
      go_ret
      exact ⟨ret_bool (by simp [overB]; try omega), rfl⟩

def rightB (n d : Int) : Bool := timeB n && withinB 0 d
theorem right_any (n d : Int) (hd : I64 d) (w : World) : Calls Try.prog 34 #[.int .i64 n, .int .i64 d] w fun e w' => e = .returned (.bool (rightB n d)) ∧ w = w' := by
  have K := hide (rwithin_any 0 d hd)
  by_cases h1 : 0 ≤ n <;> by_cases h2 : n ≤ 1099511627776
  all_goals
    have HT := hide (show timeB n = (decide (0 ≤ n) && decide (n ≤ 1099511627776)) by unfold timeB; rw [Bool.decide_and])
    go_enter Try.func34, Try.ntmps34
    go_wp2_with (refine (K.out _).mono ?_; rintro e w1 ⟨rfl, rfl⟩)
    go_ret
    exact ⟨ret_bool (by unfold rightB; rw [HT.out]; simp; try (intros; omega)), rfl⟩

/-- a clock's turn, and the error -/
def turnI (c u r : Int) : Int × Int :=
  if timeB u && withinB r 500 && decide (0 ≤ c) && decide (c ≤ 1099511627776000) then
    if 1099511627776000 < c + u * (1000 + r) then (0, 6) else (c + u * (1000 + r), 0)
  else (0, 1)
theorem mul_bounds {u r : Int} (hu : timeB u = true) (hr : withinB r 500 = true) : 0 ≤ u * (1000 + r) ∧ u * (1000 + r) ≤ 1649267441664000 ∧ 500 ≤ 1000 + r ∧ 1000 + r ≤ 1500 ∧ 0 ≤ u ∧ u ≤ 1099511627776 := by
  unfold timeB at hu; unfold withinB at hr
  have h1 := of_decide_eq_true hu
  have h2 := of_decide_eq_true hr
  refine ⟨Int.mul_nonneg h1.1 (by omega), ?_, by omega, by omega, h1.1, h1.2⟩
  have : u * (1000 + r) ≤ 1099511627776 * 1500 := Int.mul_le_mul h1.2 (by omega) (by omega) (by omega)
  omega

set_option maxHeartbeats 400000 in
theorem turn_any (c u r : Int) (w : World) : Calls Try.prog 15 #[.agg #[.int .i64 c], .int .i64 u, .int .i64 r] w fun e w' => e = .returned (.tuple #[.agg #[.int .i64 (turnI c u r).1], .int .i64 (turnI c u r).2]) ∧ Below w.heap.size w w' := by
  cases hT : timeB u
  · have K := hide (time_any u); rw [hT] at K
    have HR := hide (show turnI c u r = (0, 1) by simp [turnI, hT]); clear hT
    go_enter Try.func15, Try.ntmps15
    go_wp2_with (refine (K.out _).mono ?_; rintro e w1 ⟨rfl, rfl⟩)
    go_returns
    rw [HR.out]
    exact ⟨rfl, ((Below.refl _ _).alloc (Nat.le_refl _) _).alloc (by simp) _⟩
  cases hW : withinB r 500
  · have K := hide (time_any u); rw [hT] at K
    have K2 := hide (within_any r 500); rw [hW] at K2
    have HR := hide (show turnI c u r = (0, 1) by simp [turnI, hW]); clear hT hW
    go_enter Try.func15, Try.ntmps15
    go_wp2_with (with_reducible first | (refine (K.out _).mono ?_; rintro e w1 ⟨rfl, rfl⟩) | (refine (K2.out _).mono ?_; rintro e w1 ⟨rfl, rfl⟩))
    go_returns
    rw [HR.out]
    exact ⟨rfl, ((Below.refl _ _).alloc (Nat.le_refl _) _).alloc (by simp) _⟩
  have K := hide (time_any u); rw [hT] at K
  have K2 := hide (within_any r 500); rw [hW] at K2
  obtain ⟨m1, m2, m3, m4, m5, m6⟩ := mul_bounds hT hW
  by_cases h1 : 0 ≤ c
  · by_cases h2 : c ≤ 1099511627776000
    · by_cases h3 : 1099511627776000 < c + u * (1000 + r)
      · have HR := hide (show turnI c u r = (0, 6) by simp [turnI, hT, hW, h1, h2, h3]); clear hT hW
        go_enter Try.func15, Try.ntmps15
        go_wp2_with (with_reducible first | (refine (K.out _).mono ?_; rintro e w1 ⟨rfl, rfl⟩) | (refine (K2.out _).mono ?_; rintro e w1 ⟨rfl, rfl⟩))
        go_returns
        rw [HR.out]
        exact ⟨rfl, by go_grown⟩
      · have HR := hide (show turnI c u r = (c + u * (1000 + r), 0) by simp [turnI, hT, hW, h1, h2, h3]); clear hT hW
        go_enter Try.func15, Try.ntmps15
        go_wp2_with (with_reducible first | (refine (K.out _).mono ?_; rintro e w1 ⟨rfl, rfl⟩) | (refine (K2.out _).mono ?_; rintro e w1 ⟨rfl, rfl⟩))
        go_returns
        rw [HR.out]
        exact ⟨rfl, by go_grown⟩
    · have HR := hide (show turnI c u r = (0, 1) by simp [turnI, h2]); clear hT hW
      go_enter Try.func15, Try.ntmps15
      go_wp2_with (with_reducible first | (refine (K.out _).mono ?_; rintro e w1 ⟨rfl, rfl⟩) | (refine (K2.out _).mono ?_; rintro e w1 ⟨rfl, rfl⟩))
      go_returns
      rw [HR.out]
      exact ⟨rfl, by go_grown⟩
  · have HR := hide (show turnI c u r = (0, 1) by simp [turnI, h1]); clear hT hW
    go_enter Try.func15, Try.ntmps15
    go_wp2_with (with_reducible first | (refine (K.out _).mono ?_; rintro e w1 ⟨rfl, rfl⟩) | (refine (K2.out _).mono ?_; rintro e w1 ⟨rfl, rfl⟩))
    go_returns
    rw [HR.out]
    exact ⟨rfl, by go_grown⟩
end Go.Proofs.Ytjmgnojbegafiaa
