/-
  The walks of the document's bounds, by halves (signetref09.Least, most, Most, Short), of its Turn, and of the chapter's example.
-/
import Derived.Test.YtjmgnojbegafiaaDriftC
namespace Go.Proofs.Ytjmgnojbegafiaa
open Go.RowKit

theorem int_eq {k : IntKind} {a b : Int} (h : a = b) : Value.int k a = Value.int k b := by rw [h]
theorem prod_bounds {m B : Int} (h0 : 0 ≤ m) (h1 : m ≤ 2199023255552) (hB0 : 0 ≤ B) (hB : B ≤ 1500) : 0 ≤ m * B ∧ m * B ≤ 3298534883328000 := by
  refine ⟨Int.mul_nonneg h0 hB0, ?_⟩
  have : m * B ≤ 2199023255552 * 1500 := Int.mul_le_mul h1 hB hB0 (by omega)
  omega

theorem rmost_any (a b t : Int) (ha : 0 ≤ a) (ha' : a ≤ 1649267441664000) (hb : 500 ≤ b) (hb' : b ≤ 1500) (ht : 0 ≤ t) (ht' : t ≤ 2199023255552) (hat : a < (t + 1) * b) (w : World) :
    Calls Try.prog 35 #[.int .i64 a, .int .i64 b, .int .i64 t] w fun e w' => e = .returned (.int .i64 (a / b)) ∧ w = w' := by
  have HT := hide hat; clear hat
  go_enter Try.func35, Try.ntmps35
  go_wp2_with fail
  go_loop [7, 8] (fun v7 v8 => ∃ lo hi : Int, 0 ≤ lo ∧ lo ≤ hi ∧ hi ≤ t ∧ v7 = .int .i64 lo ∧ v8 = .int .i64 hi ∧ Hid (lo * b ≤ a ∧ a < (hi + 1) * b)) (fun x y => (intOf y - intOf x).toNat)
  case atStart => exact ⟨0, t, by omega, ht, by omega, rfl, rfl, hide ⟨by omega, HT.out⟩⟩
  case round =>
    obtain ⟨lo, hi, h0, h1, h2, rfl, rfl, H⟩ := hrel
    by_cases hlt : lo < hi
    · obtain ⟨m, hm⟩ : ∃ m, m = (lo + hi + 1) / 2 := ⟨_, rfl⟩
      have m1 : lo < m := by omega
      have m2 : m ≤ hi := by omega
      have hm' : (lo + hi + 1) / 2 = m := hm.symm
      obtain ⟨p1, p2⟩ := prod_bounds (m := m) (B := b) (by omega) (by omega) (by omega) (by omega)
      clear hm
      by_cases hc : m * b ≤ a
      · go_wp2_with fail
        go_round
        case rel => exact ⟨m, hi, by omega, m2, h2, int_eq (by omega), rfl, hide ⟨hc, H.out.2⟩⟩
        case measure => simp [intOf]; omega
      · go_wp2_with fail
        go_round
        case rel => exact ⟨lo, m - 1, h0, by omega, by omega, rfl, int_eq (by omega), hide ⟨H.out.1, by rw [Int.sub_add_cancel]; omega⟩⟩
        case measure => simp [intOf]; omega
    · have HE : Hid (hi = lo) := hide (by omega)
      go_wp2_with fail
      go_ret
      exact ⟨ret_int (div_eq (by omega) H.out.1 (by have := H.out.2; rwa [HE.out] at this)).symm, rfl⟩


theorem rshort_any (n d : Int) (hd : I64 d) (w : World) : Calls Try.prog 19 #[.int .i64 n, .int .i64 d] w fun e w' => e = .returned (.tuple #[.int .i64 (shortI n d).1, .int .i64 (shortI n d).2]) ∧ w = w' := by
  have K := hide (right_any n d hd)
  cases h : rightB n d <;> rw [h] at K
  · have HR := hide (show shortI n d = (0, 1) by simp [shortI, h]); clear h
    go_enter Try.func19, Try.ntmps19
    go_wp2_with (refine (K.out _).mono ?_; rintro e w1 ⟨rfl, rfl⟩)
    go_ret2
    rw [HR.out]
    exact ⟨rfl, rfl⟩
  · obtain ⟨h1, h2, h3, h4⟩ := right_bounds h
    obtain ⟨p1, p2⟩ := prod_bounds (m := n) (B := 1000 - d) (by omega) (by omega) (by omega) (by omega)
    have p3 : n * (1000 - d) ≤ 1099511627776 * 1000 := Int.mul_le_mul h2 (by omega) (by omega) (by omega)
    have hb : n * (1000 - d) < (n + 1) * (1000 + d) := by
      have e1 : n * (1000 - d) ≤ n * (1000 + d) := Int.mul_le_mul_of_nonneg_left (by omega) (by omega)
      have e2 : (n + 1) * (1000 + d) = n * (1000 + d) + (1000 + d) := by rw [Int.add_mul, Int.one_mul]
      omega
    have HR := hide (show shortI n d = (n * (1000 - d) / (1000 + d), 0) by simp [shortI, h])
    have K2 := hide (rmost_any (n * (1000 - d)) (1000 + d) n (by omega) (by omega) (by omega) (by omega) (by omega) (by omega) hb); clear h hb
    go_enter Try.func19, Try.ntmps19
    go_wp2_with fail
    refine (K.out _).mono ?_
    rintro e w1 ⟨rfl, rfl⟩
    go_wp2_with fail
    refine (K2.out _).mono ?_
    rintro e w1 ⟨rfl, rfl⟩
    go_wp2_with fail
    go_ret2
    rw [HR.out]
    exact ⟨rfl, rfl⟩

theorem least_unique {n d L : Int} (h1 : 0 ≤ n) (hd : 0 ≤ d) (hlo : L = 0 ∨ (L - 1) * (1000 + d) < 1000 * n) (hhi : 1000 * n ≤ L * (1000 + d)) : leastV n d = L := by
  have q1 := div_lo (a := n * 1000) (b := 1000 + d) (by omega)
  have q2 := div_hi (a := n * 1000) (b := 1000 + d) (by omega)
  have q3 : 0 ≤ n * 1000 / (1000 + d) := Int.ediv_nonneg (by omega) (by omega)
  unfold leastV
  generalize n * 1000 / (1000 + d) = q at q1 q2 q3
  split
  · rename_i hlt
    have e1 : q < L := lt_of_mul (b := 1000 + d) (by omega) (by omega)
    have e2 : L - 1 < q + 1 := by
      rcases hlo with h | h
      · omega
      · exact lt_of_mul (b := 1000 + d) (by omega) (by omega)
    omega
  · rename_i hge
    have e1 : L < q + 1 := by
      rcases hlo with h | h
      · omega
      · have : L - 1 < q := lt_of_mul (b := 1000 + d) (by omega) (by omega)
        omega
    have e2 : q < L + 1 := by
      have e3 : (L + 1) * (1000 + d) = L * (1000 + d) + (1000 + d) := by rw [Int.add_mul, Int.one_mul]
      exact lt_of_mul (b := 1000 + d) (by omega) (by omega)
    omega



end Go.Proofs.Ytjmgnojbegafiaa
