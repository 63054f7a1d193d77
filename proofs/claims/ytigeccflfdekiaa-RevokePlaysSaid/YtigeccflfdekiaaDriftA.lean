/-
  The walks of drift's small functions, and of the document's.
-/
import Derived.Test.YtigeccflfdekiaaProg
import Derived.Test.YtigeccflfdekiaaMem
namespace Go.Proofs.Ytigeccflfdekiaa
open Go.RowKit

theorem ret_bool {a b : Bool} (h : a = b) : Ending.returned (.bool a) = .returned (.bool b) := by rw [h]
theorem ret_int {k : IntKind} {a b : Int} (h : a = b) : Ending.returned (.int k a) = .returned (.int k b) := by rw [h]

def withinB (r d : Int) : Bool := decide (0 ≤ d ∧ d ≤ 500 ∧ -d ≤ r ∧ r ≤ d)
def timeB (n : Int) : Bool := decide (0 ≤ n ∧ n ≤ 1099511627776)

theorem time_any (n : Int) (w : World) : Calls Try.prog 41 #[.int .i64 n] w fun e w' => e = .returned (.bool (timeB n)) ∧ w = w' := by
  by_cases h1 : 0 ≤ n <;> by_cases h2 : n ≤ 1099511627776
  all_goals
    go_enter Try.func41, Try.ntmps41
    go_wp2
    go_ret
    exact ⟨ret_bool (by simp [timeB]; try omega), rfl⟩

theorem within_any (r d : Int) (w : World) : Calls Try.prog 32 #[.int .i64 r, .int .i64 d] w fun e w' => e = .returned (.bool (withinB r d)) ∧ w = w' := by
  by_cases h1 : 0 ≤ d <;> by_cases h2 : d ≤ 500 <;> by_cases h3 : -d ≤ r <;> by_cases h4 : r ≤ d
  all_goals
    go_enter Try.func32, Try.ntmps32
    go_wp2
    go_ret
    exact ⟨ret_bool (by simp [withinB]; try omega), rfl⟩

/-- an int of 64 bits -/
def I64 (n : Int) : Prop := -9223372036854775808 ≤ n ∧ n ≤ 9223372036854775807
theorem u64_wrap (n : Int) : IntKind.u64.wrap n = n % 18446744073709551616 := IntKind.wrap_u64 n
theorem diff_up {s n : Int} (hs : I64 s) (hn : I64 n) (h : s ≤ n) : IntKind.u64.wrap (IntKind.u64.wrap n - IntKind.u64.wrap s) = n - s := by
  unfold I64 at hs hn; simp only [u64_wrap]; omega
theorem u64_of_nonneg {k : Int} (hk : I64 k) (h : 0 ≤ k) : IntKind.u64.wrap k = k := by
  unfold I64 at hk; simp only [u64_wrap]; omega
theorem neg_up {k : Int} (hk : I64 k) (h : k < 0) : IntKind.u64.wrap (-IntKind.u64.wrap k) = -k := by
  unfold I64 at hk; simp only [u64_wrap]; omega

def behindB (s n k : Int) : Bool := decide (k ≤ n - s)
def exactlyB (s n k : Int) : Bool := decide (n - s = k)
def liveB (s n k : Int) : Bool := decide (s ≤ n ∧ n - s < k)
def overB (s n k : Int) : Bool := decide (k < n - s)

theorem behind_any (s n k : Int) (hs : I64 s) (hn : I64 n) (hk : I64 k) (w : World) : Calls Try.prog 34 #[.int .i64 s, .int .i64 n, .int .i64 k] w fun e w' => e = .returned (.bool (behindB s n k)) ∧ w = w' := by
  by_cases h1 : s ≤ n
  · have e1 := diff_up hs hn h1
    by_cases h2 : k ≤ 0
    · go_enter Try.func34, Try.ntmps34
      go_wp2
      go_ret
      exact ⟨ret_bool (by simp [behindB]; try omega), rfl⟩
    · have e2 := u64_of_nonneg hk (by omega)
      by_cases h3 : k ≤ n - s
      all_goals
        go_enter Try.func34, Try.ntmps34
        go_wp2
        go_ret
        exact ⟨ret_bool (by simp [behindB]; try omega), rfl⟩
  · have e1 := diff_up hn hs (by omega)
    by_cases h2 : k < 0
    · have e2 := neg_up hk h2
      by_cases h3 : s - n ≤ -k
      all_goals
        go_enter Try.func34, Try.ntmps34
        go_wp2
        go_ret
        exact ⟨ret_bool (by simp [behindB]; try omega), rfl⟩
    · go_enter Try.func34, Try.ntmps34
      go_wp2
      go_ret
      exact ⟨ret_bool (by simp [behindB]; try omega), rfl⟩

theorem exactly_any (s n k : Int) (hs : I64 s) (hn : I64 n) (hk : I64 k) (w : World) : Calls Try.prog 35 #[.int .i64 s, .int .i64 n, .int .i64 k] w fun e w' => e = .returned (.bool (exactlyB s n k)) ∧ w = w' := by
  by_cases h1 : s ≤ n
  · have e1 := diff_up hs hn h1
    by_cases h2 : 0 ≤ k
    · have e2 := u64_of_nonneg hk h2
      by_cases h3 : n - s = k
      · have h4 : ((n - s) == k) = true := by rw [beq_iff_eq]; exact h3
        have H3 := hide h3; clear h3
        go_enter Try.func35, Try.ntmps35
        go_wp2
        go_ret
        exact ⟨ret_bool (by simp [exactlyB, H3.out]), rfl⟩
      · have h4 : ((n - s) == k) = false := by rw [beq_eq_false_iff_ne]; exact h3
        go_enter Try.func35, Try.ntmps35
        go_wp2
        go_ret
        exact ⟨ret_bool (by simp [exactlyB]; try omega), rfl⟩
    · go_enter Try.func35, Try.ntmps35
      go_wp2
      go_ret
      exact ⟨ret_bool (by simp [exactlyB]; try omega), rfl⟩
  · have e1 := diff_up hn hs (by omega)
    by_cases h2 : k < 0
    · have e2 := neg_up hk h2
      by_cases h3 : s - n = -k
      · have h4 : ((s - n) == -k) = true := by rw [beq_iff_eq]; exact h3
        have H3 := hide h3; clear h3
        go_enter Try.func35, Try.ntmps35
        go_wp2
        go_ret
        exact ⟨ret_bool (by have := H3.out; simp [exactlyB]; omega), rfl⟩
      · have h4 : ((s - n) == -k) = false := by rw [beq_eq_false_iff_ne]; exact h3
        go_enter Try.func35, Try.ntmps35
        go_wp2
        go_ret
        exact ⟨ret_bool (by simp [exactlyB]; try omega), rfl⟩
    · go_enter Try.func35, Try.ntmps35
      go_wp2
      go_ret
      exact ⟨ret_bool (by simp [exactlyB]; try omega), rfl⟩

theorem over_any (s n k : Int) (hs : I64 s) (hn : I64 n) (hk : I64 k) (w : World) : Calls Try.prog 24 #[.int .i64 s, .int .i64 n, .int .i64 k] w fun e w' => e = .returned (.bool (overB s n k)) ∧ w = w' := by
  have HB : ∀ b c, behindB s n k = b → exactlyB s n k = c → overB s n k = (b && !c) := by intro b c hb hc; subst hb; subst hc; rw [Bool.eq_iff_iff]; simp [overB, behindB, exactlyB]; omega
  cases hb : behindB s n k <;> cases hc : exactlyB s n k
  all_goals
    have HL := hide (HB _ _ hb hc)
    have K := hide (behind_any s n k hs hn hk); rw [hb] at K
    have K2 := hide (exactly_any s n k hs hn hk); rw [hc] at K2
    clear HB hb hc
    go_enter Try.func24, Try.ntmps24
    go_wp2_with (with_reducible first | (refine (K.out _).mono ?_; rintro e w1 ⟨rfl, rfl⟩) | (refine (K2.out _).mono ?_; rintro e w1 ⟨rfl, rfl⟩))
    go_ret
    exact ⟨ret_bool (by rw [HL.out]; rfl), rfl⟩
end Go.Proofs.Ytigeccflfdekiaa
