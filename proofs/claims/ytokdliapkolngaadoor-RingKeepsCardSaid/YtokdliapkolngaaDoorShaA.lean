/-
  The walks of the digest's small functions: turns, shifts, constants, the state at first. (Written by gen_sha_a.py.)
-/
import Derived.Test.YtokdliapkolngaaDoorProg
import Derived.Test.YtokdliapkolngaaDoorMem
import Derived.Test.YtokdliapkolngaaDoorShaMath
import Derived.Laws.BitsAllLaws
import Derived.Great.BuildSlice
import Derived.Great.Ranges
import Derived.Great.Walk
namespace Go.Proofs.YtokdliapkolngaaDoor
open Go.RowKit Go.Great

/-- a word as a value -/
def uv (x : UInt32) : Value := .int .u32 (x.toNat : Int)
theorem ret_w {a b : Int} (h : a = b) : Ending.returned (.int .u32 a) = .returned (.int .u32 b) := by rw [h]
theorem xor_w (x y : UInt32) : bits .xor .u32 (x.toNat : Int) (y.toNat : Int) = ((x ^^^ y).toNat : Int) := by
  rw [u32_xor_nat _ _ x.toNat_lt y.toNat_lt, UInt32.toNat_xor]
theorem and_w (x y : UInt32) : bits .and .u32 (x.toNat : Int) (y.toNat : Int) = ((x &&& y).toNat : Int) := by
  rw [u32_and_nat _ _ x.toNat_lt y.toNat_lt, UInt32.toNat_and]
theorem add_w (x y : UInt32) : ((x.toNat : Int) + (y.toNat : Int)) % 4294967296 = ((x + y).toNat : Int) := by
  rw [UInt32.toNat_add]; omega
theorem not_w (x : UInt32) : 4294967295 - x.toNat = (~~~x).toNat := by
  rw [UInt32.toNat_not]; have := x.toNat_lt; simp [UInt32.size]
theorem u8_lt_w (x : UInt8) : x.toNat < 4294967296 := by have := x.toNat_lt; omega
theorem or_part {a k b : Nat} (h : b < 2 ^ k) : a * 2 ^ k ||| b = a * 2 ^ k + b := by
  rw [Nat.mul_comm, Nat.two_pow_add_eq_or_of_lt h]
theorem rot_or (x : UInt32) (n : Nat) (hn : n ≤ 32) : (x.toNat * 2 ^ (32 - n) % 2 ^ 32) ||| (x.toNat / 2 ^ n) = (Sha.rotr x n).toNat := by
  rw [Sha.rotr_toNat x hn]
  have h1 : 2 ^ n * 2 ^ (32 - n) = 2 ^ 32 := by rw [← Nat.pow_add]; congr 1; omega
  have hx := x.toNat_lt
  have h2 : x.toNat / 2 ^ n < 2 ^ (32 - n) := by
    apply Nat.div_lt_of_lt_mul; rw [h1]; exact hx
  rw [← h1, Nat.mul_mod_mul_right, or_part h2]
  omega
theorem rot_w (x : UInt32) (n A B : Nat) (hn : n ≤ 32) (hA : A = 2 ^ (32 - n)) (hB : B = 2 ^ n) : bits .or .u32 ((x.toNat : Int) * (A : Int) % 4294967296) ((x.toNat : Int) / (B : Int)) = ((Sha.rotr x n).toNat : Int) := by
  subst hA hB
  have e : ((x.toNat : Int) * ((2 ^ (32 - n) : Nat) : Int) % 4294967296) = ((x.toNat * 2 ^ (32 - n) % 2 ^ 32 : Nat) : Int) := by
    rw [Int.natCast_emod, Int.natCast_mul]; rfl
  have e2 : ((x.toNat : Int) / ((2 ^ n : Nat) : Int)) = ((x.toNat / 2 ^ n : Nat) : Int) := by rw [Int.natCast_ediv]
  have hx := x.toNat_lt
  rw [e, e2, u32_or_nat _ _ (Nat.mod_lt _ (by decide)) (Nat.lt_of_le_of_lt (Nat.div_le_self _ _) hx), rot_or x n hn]
theorem and31 (n : Nat) (h : n ≤ 31) (h1 : 1 ≤ n) : bits BinOp.and IntKind.u64 (IntKind.u64.wrap (-(n : Int))) 31 = ((32 - n : Nat) : Int) := by
  have : ∀ m : Nat, m < 32 → 1 ≤ m → bits BinOp.and IntKind.u64 (IntKind.u64.wrap (-(m : Int))) 31 = ((32 - m : Nat) : Int) := by decide +kernel
  exact this n (by omega) h1

theorem rotl2 (x : UInt32) (w : World) : Calls Tryd.prog 72 #[.int .u32 (x.toNat : Int), .int .i64 (-2)] w fun e w' => e = .returned (.int .u32 ((Sha.rotr x 2).toNat : Int)) ∧ w = w' := by
  have hk : bits BinOp.and IntKind.u64 (IntKind.u64.wrap (-2)) 31 = 30 := and31 2 (by decide) (by decide)
  have hr := rot_w x 2 1073741824 4 (by decide) rfl rfl
  have HR := hide hr; clear hr
  go_enter Tryd.func72, Tryd.ntmps72
  go_wp2
  go_ret
  exact ⟨ret_w HR.out, rfl⟩
theorem rotl6 (x : UInt32) (w : World) : Calls Tryd.prog 72 #[.int .u32 (x.toNat : Int), .int .i64 (-6)] w fun e w' => e = .returned (.int .u32 ((Sha.rotr x 6).toNat : Int)) ∧ w = w' := by
  have hk : bits BinOp.and IntKind.u64 (IntKind.u64.wrap (-6)) 31 = 26 := and31 6 (by decide) (by decide)
  have hr := rot_w x 6 67108864 64 (by decide) rfl rfl
  have HR := hide hr; clear hr
  go_enter Tryd.func72, Tryd.ntmps72
  go_wp2
  go_ret
  exact ⟨ret_w HR.out, rfl⟩
theorem rotl7 (x : UInt32) (w : World) : Calls Tryd.prog 72 #[.int .u32 (x.toNat : Int), .int .i64 (-7)] w fun e w' => e = .returned (.int .u32 ((Sha.rotr x 7).toNat : Int)) ∧ w = w' := by
  have hk : bits BinOp.and IntKind.u64 (IntKind.u64.wrap (-7)) 31 = 25 := and31 7 (by decide) (by decide)
  have hr := rot_w x 7 33554432 128 (by decide) rfl rfl
  have HR := hide hr; clear hr
  go_enter Tryd.func72, Tryd.ntmps72
  go_wp2
  go_ret
  exact ⟨ret_w HR.out, rfl⟩
theorem rotl11 (x : UInt32) (w : World) : Calls Tryd.prog 72 #[.int .u32 (x.toNat : Int), .int .i64 (-11)] w fun e w' => e = .returned (.int .u32 ((Sha.rotr x 11).toNat : Int)) ∧ w = w' := by
  have hk : bits BinOp.and IntKind.u64 (IntKind.u64.wrap (-11)) 31 = 21 := and31 11 (by decide) (by decide)
  have hr := rot_w x 11 2097152 2048 (by decide) rfl rfl
  have HR := hide hr; clear hr
  go_enter Tryd.func72, Tryd.ntmps72
  go_wp2
  go_ret
  exact ⟨ret_w HR.out, rfl⟩
theorem rotl13 (x : UInt32) (w : World) : Calls Tryd.prog 72 #[.int .u32 (x.toNat : Int), .int .i64 (-13)] w fun e w' => e = .returned (.int .u32 ((Sha.rotr x 13).toNat : Int)) ∧ w = w' := by
  have hk : bits BinOp.and IntKind.u64 (IntKind.u64.wrap (-13)) 31 = 19 := and31 13 (by decide) (by decide)
  have hr := rot_w x 13 524288 8192 (by decide) rfl rfl
  have HR := hide hr; clear hr
  go_enter Tryd.func72, Tryd.ntmps72
  go_wp2
  go_ret
  exact ⟨ret_w HR.out, rfl⟩
theorem rotl17 (x : UInt32) (w : World) : Calls Tryd.prog 72 #[.int .u32 (x.toNat : Int), .int .i64 (-17)] w fun e w' => e = .returned (.int .u32 ((Sha.rotr x 17).toNat : Int)) ∧ w = w' := by
  have hk : bits BinOp.and IntKind.u64 (IntKind.u64.wrap (-17)) 31 = 15 := and31 17 (by decide) (by decide)
  have hr := rot_w x 17 32768 131072 (by decide) rfl rfl
  have HR := hide hr; clear hr
  go_enter Tryd.func72, Tryd.ntmps72
  go_wp2
  go_ret
  exact ⟨ret_w HR.out, rfl⟩
theorem rotl18 (x : UInt32) (w : World) : Calls Tryd.prog 72 #[.int .u32 (x.toNat : Int), .int .i64 (-18)] w fun e w' => e = .returned (.int .u32 ((Sha.rotr x 18).toNat : Int)) ∧ w = w' := by
  have hk : bits BinOp.and IntKind.u64 (IntKind.u64.wrap (-18)) 31 = 14 := and31 18 (by decide) (by decide)
  have hr := rot_w x 18 16384 262144 (by decide) rfl rfl
  have HR := hide hr; clear hr
  go_enter Tryd.func72, Tryd.ntmps72
  go_wp2
  go_ret
  exact ⟨ret_w HR.out, rfl⟩
theorem rotl19 (x : UInt32) (w : World) : Calls Tryd.prog 72 #[.int .u32 (x.toNat : Int), .int .i64 (-19)] w fun e w' => e = .returned (.int .u32 ((Sha.rotr x 19).toNat : Int)) ∧ w = w' := by
  have hk : bits BinOp.and IntKind.u64 (IntKind.u64.wrap (-19)) 31 = 13 := and31 19 (by decide) (by decide)
  have hr := rot_w x 19 8192 524288 (by decide) rfl rfl
  have HR := hide hr; clear hr
  go_enter Tryd.func72, Tryd.ntmps72
  go_wp2
  go_ret
  exact ⟨ret_w HR.out, rfl⟩
theorem rotl22 (x : UInt32) (w : World) : Calls Tryd.prog 72 #[.int .u32 (x.toNat : Int), .int .i64 (-22)] w fun e w' => e = .returned (.int .u32 ((Sha.rotr x 22).toNat : Int)) ∧ w = w' := by
  have hk : bits BinOp.and IntKind.u64 (IntKind.u64.wrap (-22)) 31 = 10 := and31 22 (by decide) (by decide)
  have hr := rot_w x 22 1024 4194304 (by decide) rfl rfl
  have HR := hide hr; clear hr
  go_enter Tryd.func72, Tryd.ntmps72
  go_wp2
  go_ret
  exact ⟨ret_w HR.out, rfl⟩
theorem rotl25 (x : UInt32) (w : World) : Calls Tryd.prog 72 #[.int .u32 (x.toNat : Int), .int .i64 (-25)] w fun e w' => e = .returned (.int .u32 ((Sha.rotr x 25).toNat : Int)) ∧ w = w' := by
  have hk : bits BinOp.and IntKind.u64 (IntKind.u64.wrap (-25)) 31 = 7 := and31 25 (by decide) (by decide)
  have hr := rot_w x 25 128 33554432 (by decide) rfl rfl
  have HR := hide hr; clear hr
  go_enter Tryd.func72, Tryd.ntmps72
  go_wp2
  go_ret
  exact ⟨ret_w HR.out, rfl⟩

/-- the call by its turn -/
theorem rotl_any (x : UInt32) (n : Nat) (hn : n ∈ [2, 6, 7, 11, 13, 17, 18, 19, 22, 25]) (w : World) : Calls Tryd.prog 72 #[.int .u32 (x.toNat : Int), .int .i64 (-(n : Int))] w fun e w' => e = .returned (.int .u32 ((Sha.rotr x n).toNat : Int)) ∧ w = w' := by
  simp only [List.mem_cons, List.not_mem_nil, or_false] at hn
  rcases hn with rfl | rfl | rfl | rfl | rfl | rfl | rfl | rfl | rfl | rfl
  · exact rotl2 x w
  · exact rotl6 x w
  · exact rotl7 x w
  · exact rotl11 x w
  · exact rotl13 x w
  · exact rotl17 x w
  · exact rotl18 x w
  · exact rotl19 x w
  · exact rotl22 x w
  · exact rotl25 x w

theorem down_any (x : UInt32) (n : Nat) (hn : n ≤ 31) (w : World) : Calls Tryd.prog 47 #[.int .u32 (x.toNat : Int), .int .i64 (n : Int)] w fun e w' => e = .returned (.int .u32 ((Sha.shr x n).toNat : Int)) ∧ w = w' := by
  go_enter Tryd.func47, Tryd.ntmps47
  go_wp2_with fail
  go_loop [0, 5] (fun v0 v5 => ∃ i : Nat, i ≤ n ∧ v5 = .int .i64 i ∧ v0 = .int .u32 ((Sha.shr x i).toNat : Int)) (fun _ i => n - (intOf i).toNat)
  case atStart => exact ⟨0, by omega, rfl, by rw [Sha.shr_zero]⟩
  case round =>
    obtain ⟨i, hi, rfl, rfl⟩ := hrel
    by_cases hlt : i < n
    · have hs := Sha.shr_succ x i
      have hb := (Sha.shr x i).toNat_lt
      have HS : Hid (((Sha.shr x (i + 1)).toNat : Int) = ((Sha.shr x i).toNat : Int) / 2) := hide (by omega)
      clear hs
      go_wp2_with fail
      go_round
      case rel => exact ⟨i + 1, by omega, by go_num, by rw [HS.out]⟩
      case measure => simp [intOf]; omega
    · obtain rfl : i = n := by omega
      go_wp2_with fail
      go_ret
      exact ⟨rfl, rfl⟩

theorem turn_any (x : UInt32) (n : Nat) (hn : n ≤ 31) (w : World) : Calls Tryd.prog 54 #[.int .u32 (x.toNat : Int), .int .i64 (n : Int)] w fun e w' => e = .returned (.int .u32 ((Sha.rotr x n).toNat : Int)) ∧ w = w' := by
  go_enter Tryd.func54, Tryd.ntmps54
  go_wp2_with fail
  go_loop [0, 5] (fun v0 v5 => ∃ i : Nat, i ≤ n ∧ v5 = .int .i64 i ∧ v0 = .int .u32 ((Sha.rotr x i).toNat : Int)) (fun _ i => n - (intOf i).toNat)
  case atStart => exact ⟨0, by omega, rfl, by rw [Sha.rotr_zero]⟩
  case round =>
    obtain ⟨i, hi, rfl, rfl⟩ := hrel
    by_cases hlt : i < n
    · have hs := Sha.rotr_succ x (n := i) (by omega)
      have hb := (Sha.rotr x i).toNat_lt
      rcases Nat.mod_two_eq_zero_or_one (Sha.rotr x i).toNat with hp | hp
      · have ht : ((((Sha.rotr x i).toNat : Int) % 2) == 1) = false := by rw [beq_eq_false_iff_ne]; omega
        have HS : Hid (((Sha.rotr x (i + 1)).toNat : Int) = ((Sha.rotr x i).toNat : Int) / 2) := hide (by omega)
        clear hs hp
        go_wp2_with fail
        go_round
        case rel => exact ⟨i + 1, by omega, by go_num, by rw [HS.out]⟩
        case measure => simp [intOf]; omega
      · have ht : ((((Sha.rotr x i).toNat : Int) % 2) == 1) = true := by rw [beq_iff_eq]; omega
        have HS : Hid (((Sha.rotr x (i + 1)).toNat : Int) = ((Sha.rotr x i).toNat : Int) / 2 + 2147483648) := hide (by omega)
        clear hs hp
        go_wp2_with fail
        go_round
        case rel => exact ⟨i + 1, by omega, by go_num, by rw [HS.out]⟩
        case measure => simp [intOf]; omega
    · obtain rfl : i = n := by omega
      go_wp2_with fail
      go_ret
      exact ⟨rfl, rfl⟩

def kCells : Array Value := (Sha.K.map uv).toArray
theorem constants_any (w : World) : Calls Tryd.prog 64 #[] w fun e w' => e = .returned (.pointer (some ⟨w.heap.size, 0, none⟩)) ∧ Below w.heap.size w w' ∧ w'.heap[w.heap.size]? = some (.cells kCells 84 (0, 0)) := by
  go_enter Tryd.func64, Tryd.ntmps64
  apply wp_seq_k; intro K0 hK0
  apply wp_region_lit
  refine wpList_readTo rfl (some 0) rfl (.pointer none) (by kernel_rfl) ?_
  apply wpList_nil
  refine hK0 _ _ ?_
  clear hK0 K0
  apply wp_seq_k; intro K0 hK0
  apply wp_region_lit
  refine wpList_buildTo rfl 84 _ rfl (some 1) rfl kCells (by kernel_rfl) ?_
  refine wpList_boxTo rfl 84 _ rfl (some 2) rfl w.heap.size rfl kCells (by kernel_rfl) ?_
  refine wpList_readTo rfl (some 0) rfl (.pointer (some ⟨w.heap.size, 0, none⟩)) (by kernel_rfl) ?_
  apply wpList_nil
  refine hK0 _ _ ?_
  clear hK0 K0
  go_wp2
  go_ret
  refine ⟨rfl, (Below.refl _ _).alloc (Nat.le_refl _) _, ?_⟩
  exact heap_alloc_new w _
end Go.Proofs.YtokdliapkolngaaDoor
