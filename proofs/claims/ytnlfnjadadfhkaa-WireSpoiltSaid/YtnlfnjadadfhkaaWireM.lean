/-
  The walks of a reader's Int, Text, Bool, Count, End; nil ones.
-/
import Derived.Test.YtnlfnjadadfhkaaWireL
namespace Go.Proofs.Ytnlfnjadadfhkaa
open Go.RowKit
set_option linter.unusedVariables false

theorem Rd.numB_le (bad : Int) (most : Nat) (rest : List UInt8) : (Rd.numB bad most rest).1 ≤ most := by
  unfold Rd.numB; split
  · exact Rd.numF_le _ _ _ _
  · exact Nat.zero_le _
theorem Rd.numB_rest (bad : Int) (most : Nat) (rest : List UInt8) : (Rd.numB bad most rest).2.2.length ≤ rest.length := by
  unfold Rd.numB; split
  · exact Rd.numF_rest _ _ _ _
  · exact Nat.le_refl _
theorem Rd.numB_err (bad : Int) (most : Nat) (rest : List UInt8) (h : (Rd.numB bad most rest).2.1 ≠ 0) : (Rd.numB bad most rest).1 = 0 := by
  unfold Rd.numB at h ⊢; split
  · rename_i hb; rw [if_pos hb] at h; exact Rd.numF_err _ _ _ _ h
  · rfl
def Rd.wordB (bad : Int) (rest : List UInt8) : List UInt8 × Int × List UInt8 :=
  match Rd.numB bad 65536 rest with
  | (n, e, r) => if e ≠ 0 then ([], e, r) else if r.length < n then ([], 4, r) else (r.take n, 0, r.drop n)
theorem Rd.wordB_rest (bad : Int) (rest : List UInt8) : (Rd.wordB bad rest).2.2.length ≤ rest.length := by
  have := Rd.numB_rest bad 65536 rest
  unfold Rd.wordB
  split; rename_i n e r hq
  rw [hq] at this
  split
  · exact this
  split
  · exact this
  · simp only [List.length_drop] at this ⊢; omega
theorem Rd.wordB_size (bad : Int) (rest : List UInt8) : (Rd.wordB bad rest).1.length ≤ 65536 := by
  have := Rd.numB_le bad 65536 rest
  unfold Rd.wordB
  split; rename_i n e r hq
  rw [hq] at this
  split
  · simp
  split
  · simp
  · simp only [List.length_take] at this ⊢; omega
theorem and1 (n : Nat) (h : n < 18446744073709551616) : bits BinOp.and IntKind.u64 (n : Int) 1 = ((n % 2 : Nat) : Int) := by
  show IntKind.u64.wrap ((BitVec.ofInt 64 (n : Int) &&& BitVec.ofInt 64 1).toNat : Int) = _
  have e : BitVec.ofInt 64 1 = BitVec.ofNat 64 1 := by decide
  rw [e, BitVec.ofInt_natCast, BitVec.toNat_and, BitVec.toNat_ofNat, BitVec.toNat_ofNat, Nat.mod_eq_of_lt h, Nat.mod_eq_of_lt (by decide : 1 < 2 ^ 64), Nat.and_one_is_mod, u64_small _ (by omega)]
theorem xor64_0 (m : Nat) (h : m < 9223372036854775808) : bits BinOp.xor IntKind.i64 (m : Int) 0 = (m : Int) := by
  show IntKind.i64.wrap ((BitVec.ofInt 64 (m : Int) ^^^ BitVec.ofInt 64 0).toNat : Int) = _
  have e : BitVec.ofInt 64 0 = 0#64 := by decide
  rw [e, BitVec.xor_zero, BitVec.ofInt_natCast, BitVec.toNat_ofNat, Nat.mod_eq_of_lt (by omega), IntWalk.i64_left, IntWalk.wrap64_in _ (by omega)]
theorem xor64_1 (m : Nat) (h : m < 9223372036854775808) : bits BinOp.xor IntKind.i64 (m : Int) (-1) = -(m : Int) - 1 := by
  show IntKind.i64.wrap ((BitVec.ofInt 64 (m : Int) ^^^ BitVec.ofInt 64 (-1)).toNat : Int) = _
  have e : BitVec.ofInt 64 (-1) = BitVec.allOnes 64 := by decide
  rw [e, BitVec.xor_allOnes, BitVec.toNat_not, BitVec.ofInt_natCast, BitVec.toNat_ofNat, Nat.mod_eq_of_lt (by omega), IntWalk.i64_left]
  unfold wrap64; omega
theorem unzig_bits (n : Nat) (h : n ≤ 18446744073709551615) : bits BinOp.xor IntKind.i64 (wrap64 ((n : Int) / 2)) (wrap64 (-wrap64 (bits BinOp.and IntKind.u64 (n : Int) 1))) = Rd.unzig n := by
  rw [and1 n (by omega), IntWalk.wrap64_in ((n % 2 : Nat) : Int) (by omega), IntWalk.wrap64_in (-((n % 2 : Nat) : Int)) (by omega), show (n : Int) / 2 = ((n / 2 : Nat) : Int) by omega, IntWalk.wrap64_in ((n / 2 : Nat) : Int) (by omega)]
  unfold Rd.unzig
  by_cases h2 : n % 2 = 1
  · rw [if_pos h2, h2]; exact xor64_1 _ (by omega)
  · rw [if_neg h2, show n % 2 = 0 by omega]; exact xor64_0 _ (by omega)
set_option maxHeartbeats 1000000 in
theorem rint_any (G : Nat) (rest : List UInt8) (bad : Int) (w : World) (hS : RSt w G 71 rest bad) (hlen : rest.length ≤ 9223372036854775807) :
    Calls Try.prog 40 #[.pointer (some ⟨G, 0, none⟩)] w fun e w' => e = .returned (.int .i64 (Rd.unzig (Rd.numB bad 18446744073709551615 rest).1)) ∧ RSt w' G 71 (Rd.numB bad 18446744073709551615 rest).2.2 (Rd.numB bad 18446744073709551615 rest).2.1 ∧ w.grownBy w' (some G) := by
  have h := rnext_any G 18446744073709551615 rest bad w hS (by omega) hlen
  rw [show ((18446744073709551615 : Nat) : Int) = 18446744073709551615 from rfl] at h
  have hle := Rd.numB_le bad 18446744073709551615 rest
  obtain ⟨r, hr⟩ : ∃ r, r = Rd.numB bad 18446744073709551615 rest := ⟨_, rfl⟩
  rw [← hr] at h hle ⊢
  clear hr hS
  obtain ⟨n, e, rs⟩ := r
  have HC := hide h; clear h
  simp only at hle ⊢
  have HU := hide (unzig_bits n hle)
  clear hle
  go_enter Try.func40, Try.ntmps40
  go_wp2_with fail
  refine HC.out.mono ?_
  rintro e w2 ⟨rfl, hs, hg⟩
  have S2 := hide hs; have G2 := hide hg; clear hs hg HC
  go_wp2_with fail
  go_ret
  rw [← HU.out]
  exact ⟨rfl, S2.out, G2.out⟩
theorem rint_nil (w : World) : Calls Try.prog 40 #[.pointer none] w fun e w' => e = .returned (.int .i64 0) ∧ w = w' := by
  go_enter Try.func40, Try.ntmps40
  go_wp2_with fail
  go_ret
  exact ⟨rfl, rfl⟩
theorem rtextr_nil (w : World) : Calls Try.prog 41 #[.pointer none] w fun e w' => e = .returned (.string ByteArray.empty) ∧ w = w' := by
  go_enter Try.func41, Try.ntmps41
  go_wp2_with fail
  go_ret
  exact ⟨rfl, rfl⟩
theorem rbool_nil (w : World) : Calls Try.prog 42 #[.pointer none] w fun e w' => e = .returned (.bool false) ∧ w = w' := by
  go_enter Try.func42, Try.ntmps42
  go_wp2_with fail
  go_ret
  exact ⟨rfl, rfl⟩
theorem rcount_nil (w : World) : Calls Try.prog 43 #[.pointer none] w fun e w' => e = .returned (.int .i64 0) ∧ w = w' := by
  go_enter Try.func43, Try.ntmps43
  go_wp2_with fail
  go_ret
  exact ⟨rfl, rfl⟩
theorem rend_nil (w : World) : Calls Try.prog 22 #[.pointer none] w fun e w' => e = .returned (.int .i64 12) ∧ w = w' := by
  go_enter Try.func22, Try.ntmps22
  go_wp2_with fail
  go_ret
  exact ⟨rfl, rfl⟩
theorem rtextsr_nil (w : World) : Calls Try.prog 44 #[.pointer none] w fun e w' => e = .returned (.slice none 0 0) ∧ w = w' := by
  go_enter Try.func44, Try.ntmps44
  go_wp2_with fail
  refine (rcount_nil _).mono ?_
  rintro e w2 ⟨rfl, rfl⟩
  go_wp2_with fail
  refine wp_loop_rounds 1 ?_
  rw [rounds_succ]
  go_wp2_with fail
  go_ret
  exact ⟨rfl, rfl⟩
theorem rcount_any (G : Nat) (rest : List UInt8) (bad : Int) (w : World) (hS : RSt w G 71 rest bad) (hlen : rest.length ≤ 9223372036854775807) :
    Calls Try.prog 43 #[.pointer (some ⟨G, 0, none⟩)] w fun e w' => e = .returned (.int .i64 ((Rd.numB bad 4096 rest).1 : Int)) ∧ RSt w' G 71 (Rd.numB bad 4096 rest).2.2 (Rd.numB bad 4096 rest).2.1 ∧ w.grownBy w' (some G) := by
  have h := rnext_any G 4096 rest bad w hS (by omega) hlen
  have hle := Rd.numB_le bad 4096 rest
  obtain ⟨r, hr⟩ : ∃ r, r = Rd.numB bad 4096 rest := ⟨_, rfl⟩
  rw [← hr] at h hle ⊢
  clear hr hS
  obtain ⟨n, e, rs⟩ := r
  have HC := hide h; clear h
  simp only at hle ⊢
  have h1 : (n : Int) ≤ 4096 := by omega
  clear hle
  go_enter Try.func43, Try.ntmps43
  go_wp2_with fail
  refine HC.out.mono ?_
  rintro e w2 ⟨rfl, hs, hg⟩
  have S2 := hide hs; have G2 := hide hg; clear hs hg HC
  go_wp2_with fail
  go_ret
  exact ⟨rfl, S2.out, G2.out⟩
theorem rbool_any (G : Nat) (rest : List UInt8) (bad : Int) (w : World) (hS : RSt w G 71 rest bad) (hlen : rest.length ≤ 9223372036854775807) :
    Calls Try.prog 42 #[.pointer (some ⟨G, 0, none⟩)] w fun e w' => e = .returned (.bool (decide ((Rd.numB bad 1 rest).1 = 1))) ∧ RSt w' G 71 (Rd.numB bad 1 rest).2.2 (Rd.numB bad 1 rest).2.1 ∧ w.grownBy w' (some G) := by
  have h := rnext_any G 1 rest bad w hS (by omega) hlen
  obtain ⟨r, hr⟩ : ∃ r, r = Rd.numB bad 1 rest := ⟨_, rfl⟩
  rw [← hr] at h ⊢
  clear hr hS
  obtain ⟨n, e, rs⟩ := r
  have HC := hide h; clear h
  simp only
  go_enter Try.func42, Try.ntmps42
  go_wp2_with fail
  refine HC.out.mono ?_
  rintro e w2 ⟨rfl, hs, hg⟩
  have S2 := hide hs; have G2 := hide hg; clear hs hg HC
  have hn : ((n : Int) == 1) = decide (n = 1) := by rw [Bool.eq_iff_iff]; simp; omega
  go_wp2_with fail
  go_ret
  exact ⟨rfl, S2.out, G2.out⟩
def Rd.ends (bad : Int) (rest : List UInt8) : Int := if bad = 0 ∧ 0 < rest.length then 3 else bad
theorem rend_any (G : Nat) (rest : List UInt8) (bad : Int) (w : World) (hS : RSt w G 71 rest bad) :
    Calls Try.prog 22 #[.pointer (some ⟨G, 0, none⟩)] w fun e w' => e = .returned (.int .i64 (Rd.ends bad rest)) ∧ w = w' := by
  obtain ⟨A, c, hR, _, _, _⟩ := hS
  have c0 := hR.cell (k := 0) rfl
  have c1 := hR.cell (k := 1) rfl
  clear hR
  by_cases hb : bad = 0
  · subst hb
    by_cases hl : 0 < rest.length
    · have hli : (0 : Int) < (rest.length : Int) := by omega
      have HE : Hid (Rd.ends 0 rest = 3) := hide (by unfold Rd.ends; rw [if_pos ⟨rfl, hl⟩])
      clear hl
      go_enter Try.func22, Try.ntmps22
      go_wp2_with fail
      go_ret
      rw [HE.out]
      exact ⟨rfl, rfl⟩
    · have hli : ¬ ((0 : Int) < (rest.length : Int)) := by omega
      have HE : Hid (Rd.ends 0 rest = 0) := hide (by unfold Rd.ends; rw [if_neg (fun h => hl h.2)])
      clear hl
      go_enter Try.func22, Try.ntmps22
      go_wp2_with fail
      go_ret
      rw [HE.out]
      exact ⟨rfl, rfl⟩
  · have hbb : (bad == 0) = false := by simpa using hb
    have HE : Hid (Rd.ends bad rest = bad) := hide (by unfold Rd.ends; rw [if_neg (fun h => hb h.1)])
    clear hb
    go_enter Try.func22, Try.ntmps22
    go_wp2_with fail
    go_ret
    rw [HE.out]
    exact ⟨rfl, rfl⟩
end Go.Proofs.Ytnlfnjadadfhkaa
