/-
  The walks of a writer: fail, Int, Bool, Count, Text, Texts; nil ones.
-/
import Derived.Test.YtnlfnjadadfhkaaWireA
namespace Go.Proofs.Ytnlfnjadadfhkaa
open Go.RowKit

/-- an error, if there was none -/
def Wire.first (bad e : Int) : Int := if bad = 0 then e else bad
theorem fail_any (base G T : Nat) (bs : List UInt8) (bad e0 : Int) (w : World) (hS : WSt w base G T bs bad) (hG : base ≤ G) :
    Calls Try.prog 55 #[.pointer (some ⟨G, 0, none⟩), .int .i64 e0] w fun e w' => e = .returned (.tuple #[]) ∧ WSt w' base G T bs (Wire.first bad e0) ∧ Below base w w' := by
  have hGw : base ≤ w.heap.size := by have := hS.lt; omega
  obtain ⟨A, c, hR, hO, hne⟩ := hS
  have c1 := hR.cell (k := 1) rfl
  have f1 := hR.free 1
  have R2 := hide (hR.set 1 (.int .i64 e0))
  have O2 := hide (ownsRow_setCell_other hO (a := ⟨G, 1, none⟩) hne (.int .i64 e0))
  have HNE := hide hne
  have B2 := hide ((Below.refl base w).setCell (p := ⟨G, 1, none⟩) hG (.int .i64 e0))
  have HR := hide hR; have HO := hide hO
  clear hR hO hne
  by_cases hb : bad = 0
  · subst hb
    go_enter Try.func55, Try.ntmps55
    go_wp2_with fail
    go_end0
    exact ⟨rfl, ⟨A, c, R2.out, O2.out, HNE.out⟩, B2.out⟩
  · have hbb : (bad == 0) = false := by simpa using hb
    go_enter Try.func55, Try.ntmps55
    go_wp2_with fail
    go_end0
    exact ⟨rfl, by unfold Wire.first; rw [if_neg hb]; exact ⟨A, c, HR.out, HO.out, HNE.out⟩, Below.refl _ _⟩
theorem u64_small (z : Int) (h : 0 ≤ z ∧ z < 18446744073709551616) : IntKind.u64.wrap z = z := by
  show z % 18446744073709551616 = z
  omega
theorem xor_ones (x : Nat) (hx : x < 18446744073709551616) : bits BinOp.xor IntKind.u64 (x : Int) 18446744073709551615 = ((18446744073709551615 - x : Nat) : Int) := by
  show IntKind.u64.wrap ((BitVec.ofInt 64 (x : Int) ^^^ BitVec.ofInt 64 18446744073709551615).toNat : Int) = _
  have e : BitVec.ofInt 64 18446744073709551615 = BitVec.allOnes 64 := by decide
  rw [e, BitVec.xor_allOnes, BitVec.toNat_not, BitVec.ofInt_natCast, BitVec.toNat_ofNat, Nat.mod_eq_of_lt hx, u64_small _ (by omega)]
theorem xor_none (x : Nat) (hx : x < 18446744073709551616) : bits BinOp.xor IntKind.u64 (x : Int) 0 = (x : Int) := by
  show IntKind.u64.wrap ((BitVec.ofInt 64 (x : Int) ^^^ BitVec.ofInt 64 0).toNat : Int) = _
  have e : BitVec.ofInt 64 0 = 0#64 := by decide
  rw [e, BitVec.xor_zero, BitVec.ofInt_natCast, BitVec.toNat_ofNat, Nat.mod_eq_of_lt hx, u64_small _ (by omega)]
theorem zig_bits (n : Int) (hn : -9223372036854775808 ≤ n ∧ n ≤ 9223372036854775807) : bits BinOp.xor IntKind.u64 (IntKind.u64.wrap (IntKind.u64.wrap n * 2)) (IntKind.u64.wrap (n / 9223372036854775808)) = (Wire.zig n : Int) := by
  have hw : ∀ z : Int, IntKind.u64.wrap z = z % 18446744073709551616 := fun z => rfl
  unfold Wire.zig
  by_cases h : n < 0
  · rw [if_pos h]
    have e1 : IntKind.u64.wrap (n / 9223372036854775808) = 18446744073709551615 := by rw [hw]; omega
    have e2 : IntKind.u64.wrap (IntKind.u64.wrap n * 2) = (((n * 2 + 18446744073709551616).toNat : Nat) : Int) := by rw [hw, hw]; omega
    rw [e1, e2, xor_ones _ (by omega)]
    omega
  · rw [if_neg h]
    have e1 : IntKind.u64.wrap (n / 9223372036854775808) = 0 := by rw [hw]; omega
    have e2 : IntKind.u64.wrap (IntKind.u64.wrap n * 2) = (((n * 2).toNat : Nat) : Int) := by rw [hw, hw]; omega
    rw [e1, e2, xor_none _ (by omega)]
    omega
theorem zig_lt (n : Int) (hn : -9223372036854775808 ≤ n ∧ n ≤ 9223372036854775807) : Wire.zig n < 18446744073709551616 := by
  unfold Wire.zig; split <;> omega
set_option maxHeartbeats 1000000 in
theorem wint_any (base G : Nat) (n : Int) (bs : List UInt8) (bad : Int) (w : World) (hS : WSt w base G 76 bs bad) (hG : base ≤ G) (hn : -9223372036854775808 ≤ n ∧ n ≤ 9223372036854775807) (hlen : bs.length + 10 ≤ 140737488355328) :
    Calls Try.prog 34 #[.pointer (some ⟨G, 0, none⟩), .int .i64 n] w fun e w' => e = .returned (.tuple #[]) ∧ WSt w' base G 76 (bs ++ Wire.num (Wire.zig n)) bad ∧ Below base w w' := by
  have HS := hide hS; clear hS
  go_enter Try.func34, Try.ntmps34
  go_wp2_with fail
  rw [zig_bits n hn]
  refine (number_any base G _ (Wire.zig n) bs bad _ HS.out hG (zig_lt n hn) hlen).mono ?_
  rintro e w1 ⟨rfl, hs, hb⟩
  have S1 := hide hs; have B1 := hide hb; clear hs hb
  go_wp2_with fail
  go_end0
  exact ⟨rfl, S1.out, B1.out⟩
theorem wint_nil (v : Value) (w : World) : Calls Try.prog 34 #[.pointer none, v] w fun e w' => e = .returned (.tuple #[]) ∧ w = w' := by
  go_enter Try.func34, Try.ntmps34
  go_wp2_with fail
  go_end0
  exact ⟨rfl, rfl⟩
theorem wtext_nil (v : Value) (w : World) : Calls Try.prog 35 #[.pointer none, v] w fun e w' => e = .returned (.tuple #[]) ∧ w = w' := by
  go_enter Try.func35, Try.ntmps35
  go_wp2_with fail
  go_end0
  exact ⟨rfl, rfl⟩
theorem wbool_nil (v : Value) (w : World) : Calls Try.prog 36 #[.pointer none, v] w fun e w' => e = .returned (.tuple #[]) ∧ w = w' := by
  go_enter Try.func36, Try.ntmps36
  go_wp2_with fail
  exact bodyPost_ret (results_none rfl _ _ _) rfl ⟨rfl, rfl⟩
theorem wcount_nil (v : Value) (w : World) : Calls Try.prog 37 #[.pointer none, v] w fun e w' => e = .returned (.tuple #[]) ∧ w = w' := by
  go_enter Try.func37, Try.ntmps37
  go_wp2_with fail
  go_end0
  exact ⟨rfl, rfl⟩
theorem wbool_any (base G : Nat) (b : Bool) (bs : List UInt8) (bad : Int) (w : World) (hS : WSt w base G 76 bs bad) (hG : base ≤ G) (hlen : bs.length + 10 ≤ 140737488355328) :
    Calls Try.prog 36 #[.pointer (some ⟨G, 0, none⟩), .bool b] w fun e w' => e = .returned (.tuple #[]) ∧ WSt w' base G 76 (bs ++ [if b then 1 else 0]) bad ∧ Below base w w' := by
  have HS := hide hS; clear hS
  cases b
  · go_enter Try.func36, Try.ntmps36
    go_wp2_with fail
    refine (number_any base G _ 0 bs bad _ HS.out hG (by omega) hlen).mono ?_
    rintro e w1 ⟨rfl, hs, hb⟩
    have S1 := hide hs; have B1 := hide hb; clear hs hb
    go_wp2_with fail
    go_end0
    exact ⟨rfl, S1.out, B1.out⟩
  · go_enter Try.func36, Try.ntmps36
    go_wp2_with fail
    refine (number_any base G _ 1 bs bad _ HS.out hG (by omega) hlen).mono ?_
    rintro e w1 ⟨rfl, hs, hb⟩
    have S1 := hide hs; have B1 := hide hb; clear hs hb
    go_wp2_with fail
    go_end0
    exact ⟨rfl, S1.out, B1.out⟩
/-- a count's bytes, and the error behind it -/
def Wire.cnt (n : Int) : List UInt8 := if n < 0 ∨ 4096 < n then [] else Wire.num n.toNat
def Wire.cntBad (n bad : Int) : Int := if n < 0 ∨ 4096 < n then Wire.first bad 3 else bad
set_option maxHeartbeats 1000000 in
theorem wcount_any (base G : Nat) (n : Int) (bs : List UInt8) (bad : Int) (w : World) (hS : WSt w base G 76 bs bad) (hG : base ≤ G) (hn : -9223372036854775808 ≤ n ∧ n ≤ 9223372036854775807) (hlen : bs.length + 10 ≤ 140737488355328) :
    Calls Try.prog 37 #[.pointer (some ⟨G, 0, none⟩), .int .i64 n] w fun e w' => e = .returned (.tuple #[]) ∧ WSt w' base G 76 (bs ++ Wire.cnt n) (Wire.cntBad n bad) ∧ Below base w w' := by
  have HS := hide hS; clear hS
  by_cases h : n < 0 ∨ 4096 < n
  · have HE : Hid (Wire.cnt n = [] ∧ Wire.cntBad n bad = Wire.first bad 3) := hide (by unfold Wire.cnt Wire.cntBad; rw [if_pos h, if_pos h]; exact ⟨rfl, rfl⟩)
    rcases h with h | h
    all_goals
      go_enter Try.func37, Try.ntmps37
      go_wp2_with fail
      refine (fail_any base G _ bs bad 3 _ HS.out hG).mono ?_
      rintro e w1 ⟨rfl, hs, hb⟩
      have S1 := hide hs; have B1 := hide hb; clear hs hb
      go_wp2_with fail
      go_end0
      exact ⟨rfl, by rw [HE.out.1, HE.out.2, List.append_nil]; exact S1.out, B1.out⟩
  · have h1 : 0 ≤ n := by omega
    have h2 : n ≤ 4096 := by omega
    obtain ⟨m, rfl⟩ : ∃ m : Nat, n = (m : Int) := ⟨n.toNat, by omega⟩
    have HE : Hid (Wire.cnt (m : Int) = Wire.num m ∧ Wire.cntBad (m : Int) bad = bad) := hide (by unfold Wire.cnt Wire.cntBad; rw [if_neg h, if_neg h]; exact ⟨rfl, rfl⟩)
    clear h
    go_enter Try.func37, Try.ntmps37
    go_wp2_with fail
    refine (number_any base G _ m bs bad _ HS.out hG (by omega) hlen).mono ?_
    rintro e w1 ⟨rfl, hs, hb⟩
    have S1 := hide hs; have B1 := hide hb; clear hs hb
    go_wp2_with fail
    go_end0
    exact ⟨rfl, by rw [HE.out.1, HE.out.2]; exact S1.out, B1.out⟩
end Go.Proofs.Ytnlfnjadadfhkaa
