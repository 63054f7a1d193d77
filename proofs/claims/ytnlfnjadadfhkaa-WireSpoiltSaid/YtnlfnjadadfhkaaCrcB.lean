/-
  The walks of the document's sum (signetref02.More, Sum).
-/
import Derived.Test.YtnlfnjadadfhkaaCrcA
namespace Go.Proofs.Ytnlfnjadadfhkaa
open Go.RowKit

/-- so many shifts -/
def shTimes : Nat → Nat → Nat
  | 0, c => c
  | k + 1, c => Crc.sh (shTimes k c)
theorem shTimes_lt {c : Nat} (h : c < 4294967296) : ∀ k, shTimes k c < 4294967296
  | 0 => h
  | k + 1 => Crc.sh_lt (shTimes_lt h k)
theorem shTimes_8 (c : Nat) : shTimes 8 c = Crc.sh8 c := rfl

set_option maxHeartbeats 400000 in
theorem rmore_walk (s : Nat) (hs : s < 4294967296) (A : Option Addr) (n c : Nat) (bs : List UInt8) (w : World) (hb : SlB w w.heap.size A n bs) (hm : n ≤ 9223372036854775807) :
    Calls Try.prog 57 #[.int .u32 (s : Int), .slice A n c] w fun e w' => e = .returned (.int .u32 (Crc.more s bs : Int)) ∧ w = w' := by
  have HB := hide hb; clear hb
  go_enter Try.func57, Try.ntmps57
  go_wp2_with fail
  go_loop [5, 6] (fun v5 v6 => ∃ k d : Nat, k ≤ n ∧ d < 4294967296 ∧ v6 = .int .i64 k ∧ v5 = .int .u32 d ∧ d = Crc.runB (4294967295 - s) (bs.take k))
    (fun _ i => n - (intOf i).toNat)
  case atStart => exact ⟨0, 4294967295 - s, by omega, by omega, rfl, by go_num, by simp [Crc.runB]⟩
  case round =>
    obtain ⟨k, d, hk, hd, rfl, rfl, hdk⟩ := hrel
    have HD := hide hdk; clear hdk
    by_cases hlt : k < n
    · obtain ⟨b, off, rfl, hbb, hc⟩ := HB.out.spot (by omega)
      have hl := HB.out.len
      have hck := hc k (by omega)
      obtain ⟨x, hx⟩ : ∃ x, x = bs[k]'(by omega) := ⟨_, rfl⟩
      rw [← hx] at hck
      have hx256 := x.toNat_lt
      obtain ⟨d1, hd1, hd1l, e1⟩ : ∃ d1 : Nat, d1 = d ^^^ x.toNat ∧ d1 < 4294967296 ∧ bits .xor .u32 (d : Int) (x.toNat : Int) = (d1 : Int) :=
        ⟨_, rfl, Crc.xor_lt hd (by omega), u32_xor_nat _ _ hd (by omega)⟩
      have HR : Hid (shTimes 8 d1 = Crc.runB (4294967295 - s) (bs.take (k + 1))) := hide (by
        rw [shTimes_8, List.take_succ_eq_append_getElem (by omega), Crc.runB_snoc, ← HD.out, ← hx, hd1]; rfl)
      clear hl hx hd1 hc
      go_wp2_with fail
      go_loop [5, 7] (fun v5 v7 => ∃ j d2 : Nat, j ≤ 8 ∧ d2 < 4294967296 ∧ v7 = .int .i64 j ∧ v5 = .int .u32 d2 ∧ d2 = shTimes j d1)
        (fun _ i => 8 - (intOf i).toNat)
      case atStart => exact ⟨0, d1, by omega, hd1l, rfl, rfl, rfl⟩
      case round =>
        obtain ⟨j, d2, hj, hd2, rfl, rfl, hdj⟩ := hrel
        have HJ := hide hdj; clear hdj
        by_cases hj8 : j < 8
        · go_wp2_with fail
          refine (shift_any d2 hd2 _).mono ?_
          rintro e w1 ⟨rfl, rfl⟩
          go_wp2_with fail
          go_round
          case rel => exact ⟨j + 1, Crc.sh d2, by omega, Crc.sh_lt hd2, by go_num, rfl, by rw [HJ.out]; rfl⟩
          case measure => simp [intOf]; omega
        · have hj8' : j = 8 := by omega
          have HE := hide hj8'; clear hj8'
          go_wp2_with fail
          go_round
          case rel => exact ⟨k + 1, d2, by omega, hd2, by go_num, rfl, by rw [HJ.out, HE.out, HR.out]⟩
          case measure => simp [intOf]; omega
    · have HL := hide HB.out.len
      have HK : Hid (k = n) := hide (by omega)
      go_wp2_with fail
      go_ret
      refine ⟨ret_u32 ?_, rfl⟩
      unfold Crc.more
      rw [← List.take_of_length_le (l := bs) (i := k) (by have := HL.out; have := HK.out; omega), ← HD.out]
      omega

theorem rmore_any (s : Int) (h0 : 0 ≤ s) (hs : s < 4294967296) (A : Option Addr) (n c : Nat) (bs : List UInt8) (w : World) (hb : SlB w w.heap.size A n bs) (hm : n ≤ 9223372036854775807) :
    Calls Try.prog 57 #[.int .u32 s, .slice A n c] w fun e w' => e = .returned (.int .u32 (Crc.more s.toNat bs : Int)) ∧ w = w' := by
  obtain ⟨m, rfl⟩ := Int.eq_ofNat_of_zero_le h0
  rw [Int.toNat_natCast]
  exact rmore_walk m (by omega) A n c bs w hb hm

theorem rsum_any (A : Option Addr) (n c : Nat) (bs : List UInt8) (w : World) (hb : SlB w w.heap.size A n bs) (hm : n ≤ 9223372036854775807) :
    Calls Try.prog 46 #[.slice A n c] w fun e w' => e = .returned (.int .u32 (Crc.more 0 bs : Int)) ∧ w = w' := by
  have HB := hide hb; clear hb
  go_enter Try.func46, Try.ntmps46
  go_wp2_with fail
  refine (rmore_any 0 (by omega) (by omega) A n c bs _ HB.out hm).mono ?_
  rintro e w1 ⟨rfl, rfl⟩
  go_wp2_with fail
  go_ret
  exact ⟨rfl, rfl⟩
end Go.Proofs.Ytnlfnjadadfhkaa
