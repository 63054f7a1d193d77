/-
  The walk of the law PkceBack. (Written by gen_pk_f.py.)
-/
import Derived.Test.YtnjpgcfkplchkaaPkE
namespace Go.Proofs.Ytnjpgcfkplchkaa
open Go.RowKit Go.Great

theorem Pk.chal_bad {v m l : List UInt8} {k : Nat} (h : Pk.chal v m = (l, k)) (hk : k ≠ 0) : l = [] := by
  unfold Pk.chal at h
  split at h
  · split at h
    · injection h with h1 h2; omega
    · injection h with h1 h2; exact h1.symm
  · split at h
    · split at h
      · injection h with h1 h2; omega
      · injection h with h1 h2; exact h1.symm
    · injection h with h1 h2; exact h1.symm
theorem Pk.chal_good {v m l : List UInt8} (h : Pk.chal v m = (l, 0)) : Pk.ver v = true ∧ ((m = Pk.plain ∧ l = v) ∨ (m ≠ Pk.plain ∧ m = Pk.s256 ∧ l = Oct.webL Oct.webS (Sha.sum v))) := by
  unfold Pk.chal at h
  split at h
  · rename_i hm
    split at h
    · rename_i hv; injection h with h1 h2; exact ⟨hv, .inl ⟨hm, h1.symm⟩⟩
    · injection h with h1 h2; omega
  · rename_i hm
    split at h
    · rename_i hm2
      split at h
      · rename_i hv; injection h with h1 h2; exact ⟨hv, .inr ⟨hm, hm2, h1.symm⟩⟩
      · injection h with h1 h2; omega
    · injection h with h1 h2; omega
theorem Pk.check_false {c m v l : List UInt8} (h : Pk.chal v m = (l, 0)) (hne : l ≠ c) : Pk.check c m v = false := by
  unfold Pk.check; rw [h]; simp [hne]
theorem Pk.check_true {c m v : List UInt8} (h : Pk.chal v m = (c, 0)) : Pk.check c m v = true := by
  unfold Pk.check; rw [h]; simp
theorem Pk.check_plain {v o : List UInt8} (hv : Pk.ver v = true) : Pk.check v Pk.plain o = decide (o = v) := by
  unfold Pk.check Pk.chal
  rw [if_pos rfl]
  by_cases h : o = v
  · subst h; simp [hv]
  · by_cases ho : Pk.ver o = true
    · simp [ho, h]
    · have : Pk.ver o = false := by simpa using ho
      simp [this, h]

set_option maxHeartbeats 4000000 in
theorem back_walk (v method other : ByteArray) (w : World) (hv : v.size ≤ 900000000000000000) (ho : other.size ≤ 900000000000000000) :
    Calls Try.prog 6 #[.string v, .string method, .string other] w fun e w' => e = .returned (.bool true) ∧ Below w.heap.size w w' := by
  obtain ⟨l, k, hr⟩ : ∃ l k, Pk.chal v.data.toList method.data.toList = (l, k) := ⟨_, _, rfl⟩
  have hlen := Pk.chal_length v.data.toList method.data.toList
  rw [hr] at hlen
  by_cases hk : k = 0
  · subst hk
    obtain ⟨hver, hcase⟩ := Pk.chal_good hr
    obtain ⟨c0, hc0⟩ : ∃ c0, c0 = strB l := ⟨_, rfl⟩
    have hcl : c0.data.toList = l := by rw [hc0, strB_data]
    have hsz : c0.size = l.length := by rw [hc0]; rfl
    have hvs : v.data.toList.length = v.size := rfl
    have hc9 : c0.size ≤ 900000000000000043 := by rw [hsz]; simp only at hlen; omega
    have hv128 : v.size ≤ 128 := by
      have := hver; unfold Pk.ver at this
      simp only [Bool.and_eq_true, decide_eq_true_eq] at this
      exact this.2
    have hc8 : c0.size ≤ 171 := by rw [hsz]; simp only at hlen; omega
    have K1 : Hid (∀ w : World, Calls Try.prog 12 #[.string v, .string method] w fun e w' => e = .returned (.tuple #[.string c0, .int .i64 0]) ∧ Below w.heap.size w w') := hide (fun w => by
      have h := pchal_any v method w hv
      rw [hr] at h; rw [hc0]; exact h)
    have K2 : Hid (∀ w : World, Calls Try.prog 8 #[.string v] w fun e w' => e = .returned (.bool true) ∧ w = w') := hide (fun w => by
      have h := isver_any v w (by omega)
      rw [hver] at h; exact h)
    have K4 : Hid (∀ w : World, Calls Try.prog 14 #[.string c0, .string method, .string v] w fun e w' => e = .returned (.bool true) ∧ Below w.heap.size w w') := hide (fun w => by
      have h := pcheck_any c0 method v w (by omega) hv
      rw [hcl, Pk.check_true hr] at h; exact h)
    have K5 : Hid (∀ w : World, Calls Try.prog 14 #[.string (c0 ++ ⟨#[65]⟩), .string method, .string v] w fun e w' => e = .returned (.bool false) ∧ Below w.heap.size w w') := hide (fun w => by
      have hd : (c0 ++ (⟨#[65]⟩ : ByteArray)).data.toList = l ++ [65] := by rw [← hcl]; simp
      have hs1 : (c0 ++ (⟨#[65]⟩ : ByteArray)).size = c0.size + 1 := by simp [ByteArray.size_append]; rfl
      have h := pcheck_any (c0 ++ ⟨#[65]⟩) method v w (by rw [hs1]; omega) hv
      rw [hd, Pk.check_false hr (fun e => by have := congrArg List.length e; simp at this)] at h; exact h)
    have had : (c0.size : Int) + ((⟨#[65]⟩ : ByteArray).size : Int) ≤ 9223372036854775807 := by
      have : (⟨#[65]⟩ : ByteArray).size = 1 := rfl
      omega
    obtain ⟨A1, hA1⟩ : ∃ A1 : ByteArray, A1 = ⟨#[65]⟩ := ⟨_, rfl⟩
    rcases hcase with ⟨m1, hl⟩ | ⟨m1, m2, hl⟩
    · have m2 : ¬ method.data.toList = Pk.s256 := by rw [m1]; decide
      have K3 : Hid (∀ w : World, Calls Try.prog 10 #[.string c0, .string method] w fun e w' => e = .returned (.bool true) ∧ Below w.heap.size w w') := hide (fun w => by
        have h := pmay_any c0 method w (by omega) (fun h => absurd m1 h)
        rw [show Pk.may c0.data.toList method.data.toList = true by unfold Pk.may; rw [if_pos m1, hcl, hl]; exact hver] at h; exact h)
      obtain ⟨b, hb⟩ : ∃ b, b = decide (other.data.toList = v.data.toList) := ⟨_, rfl⟩
      have K6 : Hid (∀ w : World, Calls Try.prog 14 #[.string c0, .string method, .string other] w fun e w' => e = .returned (.bool b) ∧ Below w.heap.size w w') := hide (fun w => by
        have h := pcheck_any c0 method other w (by omega) ho
        rw [hcl, hl, m1, Pk.check_plain hver, ← hb] at h; exact h)
      have hov : (other.toList == v.toList) = b := by
        rw [hb, ByteArray.toList_eq, ByteArray.toList_eq]
        by_cases h : other.data.toList = v.data.toList
        · rw [decide_eq_true h, h]; simp
        · rw [decide_eq_false h, beq_eq_false_iff_ne]; exact h
      have p1 : (method.toList == ([112, 108, 97, 105, 110] : List UInt8)) = true := by rw [ByteArray.toList_eq, m1]; rfl
      have p2 : (method.toList != ([112, 108, 97, 105, 110] : List UInt8)) = false := by rw [ByteArray.toList_eq, m1]; rfl
      have q1 : (method.toList == ([83, 50, 53, 54] : List UInt8)) = false := by rw [ByteArray.toList_eq, beq_eq_false_iff_ne]; exact m2
      have q2 : (method.toList != ([83, 50, 53, 54] : List UInt8)) = true := by rw [ByteArray.toList_eq, bne_iff_ne]; exact m2
      have hbb : (b == b) = true := by simp
      clear hr hlen hver hc0 hcl hsz hvs hl m1 m2 hb
      go_enter Try.func6, Try.ntmps6
      go_wp2_with (first
        | (go_at_call 12; with_reducible refine (K1.out _).mono ?_; rintro e w1 ⟨rfl, hb1⟩; have B1 := hide hb1; clear hb1)
        | (go_at_call 7; with_reducible refine (known_any _).mono ?_; rintro e w2 ⟨rfl, hb2⟩; have B2 := hide (B1.out.trans (hb2.mono B1.out.size)); clear hb2)
        | (go_at_call 8; with_reducible refine (K2.out _).mono ?_; rintro e w3 ⟨rfl, rfl⟩)
        | (go_at_call 10; with_reducible refine (K3.out _).mono ?_; rintro e w4 ⟨rfl, hb4⟩; have B4 := hide (B2.out.trans (hb4.mono B2.out.size)); clear hb4)
        | (go_at_call 14; with_reducible refine (K4.out _).mono ?_; rintro e w5 ⟨rfl, hb5⟩; have B5 := hide (B4.out.trans (hb5.mono B4.out.size)); clear hb5)
        | (go_at_call 14; with_reducible refine (K5.out _).mono ?_; rintro e w6 ⟨rfl, hb6⟩; have B6 := hide (B5.out.trans (hb6.mono B5.out.size)); clear hb6)
        | (go_at_call 14; with_reducible refine (K6.out _).mono ?_; rintro e w7 ⟨rfl, hb7⟩; have B7 := hide (B6.out.trans (hb7.mono B6.out.size)); clear hb7))
      go_ret
      exact ⟨ret_boolE (by simp), B7.out⟩
    · have K3 : Hid (∀ w : World, Calls Try.prog 10 #[.string c0, .string method] w fun e w' => e = .returned (.bool true) ∧ Below w.heap.size w w') := hide (fun w => by
        have h := pmay_any c0 method w (by omega) (fun _ _ => by omega)
        rw [show Pk.may c0.data.toList method.data.toList = true by
          unfold Pk.may; rw [if_neg m1, decide_eq_true m2, hcl, hl, Oct.unweb_web Oct.webS_ok]; simp [Sha.sum_length]] at h; exact h)
      have hsz43 : c0.size = 43 := by rw [hsz, hl, Oct.webL_length, Sha.sum_length]
      have hne43 : ((c0.size : Int) != 43) = false := by rw [hsz43]; rfl
      have p1 : (method.toList == ([112, 108, 97, 105, 110] : List UInt8)) = false := by rw [ByteArray.toList_eq, beq_eq_false_iff_ne]; exact m1
      have p2 : (method.toList != ([112, 108, 97, 105, 110] : List UInt8)) = true := by rw [ByteArray.toList_eq, bne_iff_ne]; exact m1
      have q1 : (method.toList == ([83, 50, 53, 54] : List UInt8)) = true := by rw [ByteArray.toList_eq, m2]; rfl
      have q2 : (method.toList != ([83, 50, 53, 54] : List UInt8)) = false := by rw [ByteArray.toList_eq, m2]; rfl
      clear hr hlen hver hc0 hcl hsz hvs hl m1 m2
      go_enter Try.func6, Try.ntmps6
      go_wp2_with (first
        | (go_at_call 12; with_reducible refine (K1.out _).mono ?_; rintro e w1 ⟨rfl, hb1⟩; have B1 := hide hb1; clear hb1)
        | (go_at_call 7; with_reducible refine (known_any _).mono ?_; rintro e w2 ⟨rfl, hb2⟩; have B2 := hide (B1.out.trans (hb2.mono B1.out.size)); clear hb2)
        | (go_at_call 8; with_reducible refine (K2.out _).mono ?_; rintro e w3 ⟨rfl, rfl⟩)
        | (go_at_call 10; with_reducible refine (K3.out _).mono ?_; rintro e w4 ⟨rfl, hb4⟩; have B4 := hide (B2.out.trans (hb4.mono B2.out.size)); clear hb4)
        | (go_at_call 14; with_reducible refine (K4.out _).mono ?_; rintro e w5 ⟨rfl, hb5⟩; have B5 := hide (B4.out.trans (hb5.mono B4.out.size)); clear hb5)
        | (go_at_call 14; with_reducible refine (K5.out _).mono ?_; rintro e w6 ⟨rfl, hb6⟩; have B6 := hide (B5.out.trans (hb6.mono B5.out.size)); clear hb6))
      go_ret
      exact ⟨ret_boolE (by simp), B6.out⟩
  · have hl := Pk.chal_bad hr hk
    subst hl
    have K1 : Hid (∀ w : World, Calls Try.prog 12 #[.string v, .string method] w fun e w' => e = .returned (.tuple #[.string ⟨#[]⟩, .int .i64 (k : Int)]) ∧ Below w.heap.size w w') := hide (fun w => by
      have h := pchal_any v method w hv
      rw [hr] at h; exact h)
    have K4 : Hid (∀ w : World, Calls Try.prog 14 #[.string v, .string method, .string v] w fun e w' => e = .returned (.bool false) ∧ Below w.heap.size w w') := hide (fun w => by
      have h := pcheck_any v method v w hv hv
      rw [show Pk.check v.data.toList method.data.toList v.data.toList = false by unfold Pk.check; rw [hr]; simp [hk]] at h; exact h)
    have hkn : ((k : Int) != 0) = true := by rw [bne_iff_ne]; omega
    clear hr hlen
    go_enter Try.func6, Try.ntmps6
    go_wp2_with fail
    with_reducible refine (K1.out _).mono ?_
    rintro e w1 ⟨rfl, hb1⟩
    have B1 := hide hb1; clear hb1
    go_wp2_with fail
    refine (known_any _).mono ?_
    rintro e w2 ⟨rfl, hb2⟩
    have B2 := hide (B1.out.trans (hb2.mono B1.out.size)); clear hb2
    go_wp2_with fail
    refine (known_any _).mono ?_
    rintro e w3 ⟨rfl, hb3⟩
    have B3 := hide (B2.out.trans (hb3.mono B2.out.size)); clear hb3
    go_wp2_with fail
    with_reducible refine (K4.out _).mono ?_
    rintro e w4 ⟨rfl, hb4⟩
    have B4 := hide (B3.out.trans (hb4.mono B3.out.size)); clear hb4
    go_wp2_with fail
    go_ret
    exact ⟨ret_boolE (by simp), B4.out⟩
end Go.Proofs.Ytnjpgcfkplchkaa
