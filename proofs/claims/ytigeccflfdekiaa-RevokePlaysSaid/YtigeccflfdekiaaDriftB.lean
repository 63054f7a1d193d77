/-
  More walks of drift: clocks' turns, and the document's functions without loops.
-/
import Derived.Test.YtigeccflfdekiaaDriftA
namespace Go.Proofs.Ytigeccflfdekiaa
open Go.RowKit

def readI (c : Int) : Int := if c < 0 then 0 else c / 1000

/-- how far apart two ints are -/
def apartI (a b : Int) : Int := if b ≤ a then a - b else b - a
theorem apart_any (a b : Int) (ha : I64 a) (hb : I64 b) (w : World) : Calls Try.prog 45 #[.int .i64 a, .int .i64 b] w fun e w' => e = .returned (.int .u64 (apartI a b)) ∧ w = w' := by
  by_cases h : b ≤ a
  · have e1 := diff_up hb ha h
    go_enter Try.func45, Try.ntmps45
    go_wp2
    go_ret
    exact ⟨ret_int (by unfold apartI; first | rw [if_pos (by omega)] | rw [if_neg (by omega)]), rfl⟩
  · have e1 := diff_up ha hb (by omega)
    go_enter Try.func45, Try.ntmps45
    go_wp2
    go_ret
    exact ⟨ret_int (by unfold apartI; first | rw [if_pos (by omega)] | rw [if_neg (by omega)]), rfl⟩
theorem apart_up {a b : Int} (h : b ≤ a) : apartI a b = a - b := by simp [apartI, h]
theorem apart_down {a b : Int} (h : a < b) : apartI a b = b - a := by unfold apartI; rw [if_neg (by omega)]


theorem rover_any (s n k : Int) (hs : I64 s) (hn : I64 n) (hk : I64 k) (w : World) : Calls Try.prog 40 #[.int .i64 s, .int .i64 n, .int .i64 k] w fun e w' => e = .returned (.bool (overB s n k)) ∧ w = w' := by
  by_cases h1 : s ≤ n
  · by_cases h2 : k < 0
    · go_enter Try.func40, Try.ntmps40
      go_wp2_with fail
      go_ret
      exact ⟨ret_bool (by simp [overB]; try omega), rfl⟩
    · have e2 := u64_of_nonneg hk (by omega)
      have K := hide (apart_any n s hn hs); rw [apart_up h1] at K
      by_cases h3 : k < n - s
      all_goals
        go_enter Try.func40, Try.ntmps40
        go_wp2_with fail
        refine (K.out _).mono ?_
        rintro e w1 ⟨rfl, rfl⟩
        go_wp2_with fail
        go_ret
        exact ⟨ret_bool (by simp [overB]; try omega), rfl⟩
  · by_cases h2 : k < 0
    · have K := hide (apart_any n s hn hs); rw [apart_down (by omega)] at K
      have K2 := hide (apart_any 0 k (by unfold I64; omega) hk); rw [apart_up (by omega)] at K2
      by_cases h3 : s - n < 0 - k
      all_goals
        go_enter Try.func40, Try.ntmps40
        go_wp2_with fail
        refine (K.out _).mono ?_
        rintro e w1 ⟨rfl, rfl⟩
        go_wp2_with fail
        refine (K2.out _).mono ?_
        rintro e w1 ⟨rfl, rfl⟩
        go_wp2_with fail
        go_ret
        exact ⟨ret_bool (by simp [overB]; try omega), rfl⟩
    · go_enter Try.func40, Try.ntmps40
      go_wp2_with fail
      go_ret
      exact ⟨ret_bool (by simp [overB]; try omega), rfl⟩

def rightB (n d : Int) : Bool := timeB n && withinB 0 d
/-- a clock's turn, and the error -/
def turnI (c u r : Int) : Int × Int :=
  if timeB u && withinB r 500 && decide (0 ≤ c) && decide (c ≤ 1099511627776000) then
    if 1099511627776000 < c + u * (1000 + r) then (0, 6) else (c + u * (1000 + r), 0)
  else (0, 1)
theorem mul_bounds {u r : Int} (hu : timeB u = true) (hr : withinB r 500 = true) : 0 ≤ u * (1000 + r) ∧ u * (1000 + r) ≤ 1649267441664000 ∧ 500 ≤ 1000 + r ∧ 1000 + r ≤ 1500 ∧ 0 ≤ u ∧ u ≤ 1099511627776 := by
  unfold timeB at hu; unfold withinB at hr
  have h1 := of_decide_eq_true hu
  have h2 := of_decide_eq_true hr
  refine ⟨Int.mul_nonneg h1.1 (by omega), ?_, by omega, by omega, h1.1, h1.2⟩
  have : u * (1000 + r) ≤ 1099511627776 * 1500 := Int.mul_le_mul h1.2 (by omega) (by omega) (by omega)
  omega

end Go.Proofs.Ytigeccflfdekiaa
