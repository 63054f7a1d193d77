/-
  The walks of drift's bounds (parts, Least, Most, Short) and of the document's, by halves.
-/
import Derived.Test.YtigeccflfdekiaaDriftB
namespace Go.Proofs.Ytigeccflfdekiaa
open Go.RowKit

theorem div_eq {a b q : Int} (hb : 0 < b) (h1 : q * b ≤ a) (h2 : a < (q + 1) * b) : a / b = q :=
  Int.le_antisymm (Int.lt_add_one_iff.1 (Int.ediv_lt_of_lt_mul hb h2)) (Int.le_ediv_of_mul_le hb h1)
theorem div_lo {a b : Int} (hb : 0 < b) : a / b * b ≤ a := Int.ediv_mul_le a (by omega)
theorem div_hi {a b : Int} (hb : 0 < b) : a < (a / b + 1) * b := by
  have := Int.lt_ediv_add_one_mul_self a hb
  exact this
theorem lt_of_mul {x y b : Int} (hb : 0 < b) (h : x * b < y * b) : x < y := Int.lt_of_mul_lt_mul_right h (by omega)

theorem right_bounds {n d : Int} (h : rightB n d = true) : 0 ≤ n ∧ n ≤ 1099511627776 ∧ 0 ≤ d ∧ d ≤ 500 := by
  unfold rightB at h
  rw [Bool.and_eq_true] at h
  have h1 := of_decide_eq_true h.1
  have h2 := of_decide_eq_true h.2
  omega
theorem right_false {n d : Int} (h : rightB n d = false) : timeB n = false ∨ withinB 0 d = false := by
  unfold rightB at h
  exact Bool.and_eq_false_iff.1 h

/-- n times a by b, where it isn't right -/
theorem parts_no (n d a b : Int) (h : rightB n d = false) (w : World) : Calls Try.prog 33 #[.int .i64 n, .int .i64 d, .int .i64 a, .int .i64 b] w fun e w' => e = .returned (.tuple #[.int .i64 0, .int .i64 1]) ∧ w = w' := by
  cases hT : timeB n
  · have K := hide (time_any n); rw [hT] at K
    clear h hT
    go_enter Try.func33, Try.ntmps33
    go_wp2_with (refine (K.out _).mono ?_; rintro e w1 ⟨rfl, rfl⟩)
    go_ret2
    exact ⟨rfl, rfl⟩
  · have hW : withinB 0 d = false := by
      rcases right_false h with h | h
      · rw [hT] at h; cases h
      · exact h
    have K := hide (time_any n); rw [hT] at K
    have K2 := hide (within_any 0 d); rw [hW] at K2
    clear h hT hW
    go_enter Try.func33, Try.ntmps33
    go_wp2_with (with_reducible first | (refine (K.out _).mono ?_; rintro e w1 ⟨rfl, rfl⟩) | (refine (K2.out _).mono ?_; rintro e w1 ⟨rfl, rfl⟩))
    go_ret2
    exact ⟨rfl, rfl⟩
theorem parts_yes (n d a b q : Int) (h : rightB n d = true) (ha : 0 ≤ a) (ha' : a ≤ 1000) (hb : 500 ≤ b) (hb' : b ≤ 1500) (hq : n * a / b = q) (w : World) :
    Calls Try.prog 33 #[.int .i64 n, .int .i64 d, .int .i64 a, .int .i64 b] w fun e w' => e = .returned (.tuple #[.int .i64 q, .int .i64 0]) ∧ w = w' := by
  obtain ⟨h1, h2, h3, h4⟩ := right_bounds h
  have hT : timeB n = true := by unfold timeB; simp; omega
  have hW : withinB 0 d = true := by unfold withinB; simp; omega
  have m1 : 0 ≤ n * a := Int.mul_nonneg h1 ha
  have m2 : n * a ≤ 1099511627776000 := by
    have : n * a ≤ 1099511627776 * 1000 := Int.mul_le_mul h2 ha' ha (by omega)
    omega
  have m3 : 0 ≤ n * a / b := Int.ediv_nonneg m1 (by omega)
  have m4 : n * a / b ≤ n * a := Int.ediv_le_self _ m1
  have K := hide (time_any n); rw [hT] at K
  have K2 := hide (within_any 0 d); rw [hW] at K2
  have HQ := hide hq
  clear h hT hW hq
  go_enter Try.func33, Try.ntmps33
  go_wp2_with (with_reducible first | (refine (K.out _).mono ?_; rintro e w1 ⟨rfl, rfl⟩) | (refine (K2.out _).mono ?_; rintro e w1 ⟨rfl, rfl⟩))
  go_ret2
  exact ⟨by rw [← HQ.out]; rfl, rfl⟩

/-- the three, and their errors -/
def leastV (n d : Int) : Int := if n * 1000 / (1000 + d) * (1000 + d) < n * 1000 then n * 1000 / (1000 + d) + 1 else n * 1000 / (1000 + d)
def leastI (n d : Int) : Int × Int := if rightB n d then (leastV n d, 0) else (0, 1)
def mostI (n d : Int) : Int × Int := if rightB n d then (n * 1000 / (1000 - d), 0) else (0, 1)
def shortI (n d : Int) : Int × Int := if rightB n d then (n * (1000 - d) / (1000 + d), 0) else (0, 1)



theorem short_any (n d : Int) (w : World) : Calls Try.prog 23 #[.int .i64 n, .int .i64 d] w fun e w' => e = .returned (.tuple #[.int .i64 (shortI n d).1, .int .i64 (shortI n d).2]) ∧ w = w' := by
  cases hW : withinB 0 d
  · have HR := hide (show shortI n d = (0, 1) by simp [shortI, rightB, hW])
    have K := hide (within_any 0 d); rw [hW] at K; clear hW
    go_enter Try.func23, Try.ntmps23
    go_wp2_with (refine (K.out _).mono ?_; rintro e w1 ⟨rfl, rfl⟩)
    go_ret2
    rw [HR.out]
    exact ⟨rfl, rfl⟩
  · have K := hide (within_any 0 d); rw [hW] at K; clear hW
    cases h : rightB n d
    · have HR := hide (show shortI n d = (0, 1) by simp [shortI, h])
      have K2 := hide (fun a b => parts_no n d a b h)
      clear h
      go_enter Try.func23, Try.ntmps23
      go_wp2_with fail
      refine (K.out _).mono ?_
      rintro e w1 ⟨rfl, rfl⟩
      go_wp2_with fail
      refine (K2.out _ _ _).mono ?_
      rintro e w1 ⟨rfl, rfl⟩
      go_wp2_with fail
      go_ret2
      rw [HR.out]
      exact ⟨rfl, rfl⟩
    · obtain ⟨h1, h2, h3, h4⟩ := right_bounds h
      have HR := hide (show shortI n d = (n * (1000 - d) / (1000 + d), 0) by simp [shortI, h])
      have K2 := hide (parts_yes n d (1000 - d) (1000 + d) _ h (by omega) (by omega) (by omega) (by omega) rfl)
      clear h
      go_enter Try.func23, Try.ntmps23
      go_wp2_with fail
      refine (K.out _).mono ?_
      rintro e w1 ⟨rfl, rfl⟩
      go_wp2_with fail
      refine (K2.out _).mono ?_
      rintro e w1 ⟨rfl, rfl⟩
      go_wp2_with fail
      go_ret2
      rw [HR.out]
      exact ⟨rfl, rfl⟩
end Go.Proofs.Ytigeccflfdekiaa
