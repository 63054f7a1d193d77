/-
  The walks of signetref01: digit, worth, sign, Hex.
-/
import Derived.Test.YthfoaefdifbfaaaOctG
import Derived.Deep.RegionHeld3
import Derived.Deep.RegionWith
import Derived.BigRegion
import Derived.Deep.DrawnRows
import Derived.StillTailTactics
namespace Go.Proofs.Ythfoaefdifbfaaa
open Go.RowKit

theorem ret_u8 {a b : Int} (h : a = b) : Ending.returned (.int .u8 a) = .returned (.int .u8 b) := by rw [h]
theorem digit_low : ∀ n, n < 10 → (Oct.hexS.getD n 0).toNat = 48 + n := by decide +kernel
theorem digit_high : ∀ n, n < 16 → ¬ n < 10 → (Oct.hexS.getD n 0).toNat = 87 + n := by decide +kernel
theorem digit_any (n : Nat) (hn : n < 16) (w : World) :
    Calls Try.prog 34 #[.int .i64 (n : Int)] w fun e w' => e = .returned (.int .u8 ((Oct.hexS.getD n 0).toNat : Int)) ∧ w' = w := by
  by_cases h : n < 10
  · have e := digit_low n h
    have HE := hide e; clear e
    go_enter Try.func34, Try.ntmps34
    go_wp2_with fail
    go_ret
    exact ⟨ret_u8 (by rw [HE.out]; omega), rfl⟩
  · have e := digit_high n hn h
    have HE := hide e; clear e
    go_enter Try.func34, Try.ntmps34
    go_wp2_with fail
    go_ret
    exact ⟨ret_u8 (by rw [HE.out]; omega), rfl⟩

set_option maxHeartbeats 400000 in
theorem rworth_any (c : UInt8) (w : World) :
    Calls Try.prog 40 #[.int .u8 (c.toNat : Int)] w fun e w' => e = .returned (.int .i64 (worthI Oct.hexS c)) ∧ w' = w := by
  go_enter Try.func40, Try.ntmps40
  go_wp2_with fail
  go_loop [3] (fun v3 => ∃ i : Nat, i ≤ 16 ∧ v3 = .int .i64 i ∧ Hid (∀ j, j < i → Oct.hexS[j]? ≠ some c)) (fun y => 16 - (intOf y).toNat)
  case atStart => exact ⟨0, by omega, rfl, hide (fun j hj => absurd hj (by omega))⟩
  case round =>
    obtain ⟨i, hi, rfl, HN⟩ := hrel
    by_cases hlt : i < 16
    · obtain ⟨x, hx⟩ : ∃ x, x = Oct.hexS.getD i 0 := ⟨_, rfl⟩
      have HX : Hid (Oct.hexS[i]? = some x) := hide (by rw [hx, List.getD_eq_getElem?_getD, List.getElem?_eq_getElem (show i < Oct.hexS.length from hlt)]; rfl)
      have K := hide (digit_any i hlt)
      rw [← hx] at K
      clear hx
      by_cases he : x = c
      · have hb : (((x.toNat : Nat) : Int) == ((c.toNat : Nat) : Int)) = true := by rw [he]; simp
        have HE := hide he; clear he
        go_wp2_with (refine (K.out _).mono ?_; rintro e w1 ⟨rfl, rfl⟩)
        go_ret
        exact ⟨ret_int (worthI_hit (by rw [HX.out, HE.out]) HN.out).symm, rfl⟩
      · have hb : (((x.toNat : Nat) : Int) == ((c.toNat : Nat) : Int)) = false := by
          rw [beq_eq_false_iff_ne]; intro h; exact he (UInt8.toNat_inj.1 (by omega))
        have HE := hide he; clear he
        go_wp2_with (refine (K.out _).mono ?_; rintro e w1 ⟨rfl, rfl⟩)
        go_round
        case rel =>
          refine ⟨i + 1, by omega, by go_num, hide fun j hj => ?_⟩
          rcases Nat.lt_or_ge j i with h | h
          · exact HN.out j h
          · obtain rfl : j = i := by omega
            rw [HX.out]; intro e; injection e with e; exact HE.out e
        case measure => simp [intOf]; omega
    · go_wp2_with fail
      go_ret
      exact ⟨ret_int (worthI_miss (fun j hj => HN.out j (by have : Oct.hexS.length = 16 := rfl; omega))).symm, rfl⟩

set_option maxHeartbeats 1000000 in
theorem rhex_any (A : Option Addr) (n c : Nat) (bs : List UInt8) (w : World) (hb : SlB w w.heap.size A n bs) (hn : n ≤ 140737488351232) :
    Calls Try.prog 17 #[.slice A n c] w fun e w' => e = .returned (.string (strB (Oct.hexL bs))) ∧ Below w.heap.size w w' := by
  have HB := hide hb
  have hlen := hide hb.len
  clear hb
  go_enter Try.func17, Try.ntmps17
  go_wp2_with fail
  go_loopw [3, 4] (fun v3 v4 wr => ∃ (i : Nat) (s : ByteArray), i ≤ n ∧ v4 = .int .i64 i ∧ v3 = .string s ∧ (s.size : Int) ≤ 281474976710656 ∧ Hid (s.size = 2 * i) ∧ Hid (s = strB (Oct.hexL (bs.take i))) ∧ Hid (Below w.heap.size w wr)) (fun _ y _ => n - (intOf y).toNat)
  case atStart => exact ⟨0, _, by omega, rfl, rfl, by decide, hide rfl, hide rfl, hide (Below.refl _ _)⟩
  case round =>
    obtain ⟨i, s, hi, rfl, rfl, hs, HS0, HS, HR⟩ := hrel
    by_cases hlt : i < n
    · obtain ⟨b, off, x, rfl, hbb, e1, X1⟩ := (HB.out.below HR.out (Nat.le_refl _)).byte (show i < n by omega)
      have hx256 := x.toNat_lt
      obtain ⟨d, hd⟩ : ∃ d, d = x.toNat / 16 := ⟨_, rfl⟩
      obtain ⟨r, hr⟩ : ∃ r, r = x.toNat % 16 := ⟨_, rfl⟩
      have hd16 : d < 16 := by omega
      have hr16 : r < 16 := by omega
      have ed : (x.toNat : Int) / 16 = (d : Int) := by omega
      have er : (x.toNat : Int) % 16 = (r : Int) := by omega
      have ed' : (x.toNat : Int).tdiv 16 = (d : Int) := by rw [Int.tdiv_eq_ediv_of_nonneg (by omega)]; exact ed
      have er' : (x.toNat : Int).tmod 16 = (r : Int) := by rw [Int.tmod_eq_emod_of_nonneg (by omega)]; exact er
      obtain ⟨y, hy⟩ : ∃ y, y = Oct.hexS.getD d 0 := ⟨_, rfl⟩
      obtain ⟨z, hz⟩ : ∃ z, z = Oct.hexS.getD r 0 := ⟨_, rfl⟩
      have HQ : Hid (s ++ strB [y, z] = strB (Oct.hexL (bs.take (i + 1)))) := hide (by rw [HS.out, strB_append, take_snoc X1.out, Oct.hexL_snoc, hy, hz, hd, hr])
      have K1 := hide (digit_any d hd16)
      have K2 := hide (digit_any r hr16)
      rw [← hy] at K1
      rw [← hz] at K2
      clear hd hr hy hz
      have hk0 : (0 : Int) ≤ (i : Int) := by omega
      have hkn : (i : Int) < (n : Int) := by omega
      have wx : IntKind.i64.wrap (x.toNat : Int) = (x.toNat : Int) := IntWalk.i64_in _ (by omega)
      have wd : IntKind.i64.wrap (d : Int) = (d : Int) := IntWalk.i64_in _ (by omega)
      have wr' : IntKind.i64.wrap (r : Int) = (r : Int) := IntWalk.i64_in _ (by omega)
      have kc := conv_any (P := Try.prog) (w := (wr.alloc (.cells #[.int .u8 (y.toNat : Int), .int .u8 (z.toNat : Int)] 5)).drew) 22 9 5 Try.underlying22 Try.underlying5 Try.underlying9 (SlB.lit (w := wr) (fr := (0, 0)) (t := 5) (n := 2) [y, z] rfl rfl).drew 2
      obtain ⟨q, hq⟩ : ∃ q, q = strB [y, z] := ⟨_, rfl⟩
      have hqz : (s.size : Int) + (q.size : Int) ≤ 9223372036854775807 := by rw [hq, strB_size]; simp; omega
      have HQS : Hid (q.size = 2) := hide (by rw [hq]; rfl)
      rw [← hq] at kc HQ
      clear hq
      go_wp2_with fail
      go_region_with (with_reducible first | (refine (K1.out _).mono ?_; rintro e w' ⟨rfl, rfl⟩) | (refine (K2.out _).mono ?_; rintro e w' ⟨rfl, rfl⟩))
      all_goals
        have HR2 : Hid (Below w.heap.size w (wr.alloc (.cells #[.int .u8 (y.toNat : Int), .int .u8 (z.toNat : Int)] 5)).drew) := hide (HR.out.alloc HR.out.size _).drew
        have HZ2 : Hid ((s ++ q).size = 2 * (i + 1)) := hide (by rw [ByteArray.size_append, HS0.out, HQS.out]; omega)
        clear kc hqz wx wd wr' ed ed' er er'
        generalize (wr.alloc (.cells #[.int .u8 (y.toNat : Int), .int .u8 (z.toNat : Int)] 5)).drew = w2 at HR2 ⊢
        generalize s ++ q = s2 at HZ2 HQ ⊢
        go_wp2_with fail
        go_roundw
        case rel => exact ⟨i + 1, s2, by omega, by go_num, rfl, by have := HZ2.out; omega, HZ2, HQ, HR2⟩
        case measure => simp [intOf]; omega
    · have HE : Hid (bs.take i = bs) := hide (List.take_of_length_le (by have := hlen.out; omega))
      have HF : Hid (s = strB (Oct.hexL bs)) := hide (by rw [HS.out, HE.out])
      go_wp2_with fail
      go_ret
      exact ⟨by rw [← HF.out]; rfl, HR.out⟩

set_option maxHeartbeats 400000 in
theorem hexes_walk (A : Option Addr) (n c : Nat) (bs : List UInt8) (w : World) (hb : SlB w w.heap.size A n bs) (hn : n ≤ 140737488351232) :
    Calls Try.prog 3 #[.slice A n c] w fun e w' => e = .returned (.bool true) ∧ Below w.heap.size w w' := by
  have HX := hide hb; clear hb
  go_enter Try.func3, Try.ntmps3
  go_wp2_with fail
  refine (known_any _).mono ?_
  rintro e w1 ⟨rfl, hb⟩
  replace HX := hide (HX.out.on hb)
  have B1 := hide (hb)
  clear hb
  go_wp2_with fail
  refine (hex_any A n c bs _ HX.out (by omega)).mono ?_
  rintro e w2 ⟨rfl, hb⟩
  replace HX := hide (HX.out.on hb)
  have B2 := hide (B1.out.trans (hb.mono B1.out.size))
  clear hb
  go_wp2_with fail
  refine (rhex_any A n c bs _ HX.out (by omega)).mono ?_
  rintro e w3 ⟨rfl, hb⟩
  have B3 := hide (B2.out.trans (hb.mono B2.out.size))
  clear hb
  go_wp2_with fail
  go_ret
  exact ⟨ret_bool (by simp), B3.out⟩
end Go.Proofs.Ythfoaefdifbfaaa
