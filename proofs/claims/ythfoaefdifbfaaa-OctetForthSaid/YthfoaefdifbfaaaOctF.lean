/-
  The walks of layer 1's laws: Lengths, Back, Same, Joins.
-/
import Derived.Test.YthfoaefdifbfaaaOctE
namespace Go.Proofs.Ythfoaefdifbfaaa
open Go.RowKit

theorem SlB.on {w w1 : World} {n : Nat} {A : Option Addr} {bs : List UInt8} (h : SlB w w.heap.size A n bs) (b : Below w.heap.size w w1) : SlB w1 w1.heap.size A n bs := (h.below b (Nat.le_refl _)).more b.size

set_option maxHeartbeats 400000 in
theorem lengths_walk (A : Option Addr) (n c : Nat) (bs : List UInt8) (w : World) (hb : SlB w w.heap.size A n bs) (hn : n ≤ 140737488351232) :
    Calls Try.prog 7 #[.slice A n c] w fun e w' => e = .returned (.bool true) ∧ Below w.heap.size w w' := by
  have HB := hide hb
  have hl := hb.len
  have l1 := hide (show (strB (Oct.hexL bs)).size = 2 * n by rw [strB_size, Oct.hexL_length, hl])
  have l2 := hide (show (strB (Oct.webL Oct.webS bs)).size = (4 * n + 2) / 3 by rw [strB_size, Oct.webL_length, hl])
  have l3 := hide (show (strB (Oct.basicL bs)).size = (n + 2) / 3 * 4 by rw [strB_size, Oct.basicL_length, hl])
  clear hb hl
  go_enter Try.func7, Try.ntmps7
  go_wp2_with fail
  refine (known_any _).mono ?_
  rintro e w1 ⟨rfl, hb1⟩
  have B1 := hide hb1; clear hb1
  go_wp2_with fail
  refine (hex_any A n c bs _ (HB.out.on B1.out) (by omega)).mono ?_
  rintro e w2 ⟨rfl, hb2⟩
  have B2 := hide (B1.out.trans (hb2.mono B1.out.size)); clear hb2
  obtain ⟨s1, hs1⟩ : ∃ s, s = strB (Oct.hexL bs) := ⟨_, rfl⟩
  have z1 : s1.size = 2 * n := by rw [hs1]; exact l1.out
  rw [← hs1]; clear hs1 l1
  go_wp2_with fail
  refine (web_any A n c bs _ (HB.out.on B2.out) (by omega)).mono ?_
  rintro e w3 ⟨rfl, hb3⟩
  have B3 := hide (B2.out.trans (hb3.mono B2.out.size)); clear hb3
  obtain ⟨s2, hs2⟩ : ∃ s, s = strB (Oct.webL Oct.webS bs) := ⟨_, rfl⟩
  have z2 : s2.size = (4 * n + 2) / 3 := by rw [hs2]; exact l2.out
  rw [← hs2]; clear hs2 l2
  go_wp2_with fail
  refine (basic_any A n c bs _ (HB.out.on B3.out) (by omega)).mono ?_
  rintro e w4 ⟨rfl, hb4⟩
  have B4 := hide (B3.out.trans (hb4.mono B3.out.size)); clear hb4
  obtain ⟨s3, hs3⟩ : ∃ s, s = strB (Oct.basicL bs) := ⟨_, rfl⟩
  have z3 : s3.size = (n + 2) / 3 * 4 := by rw [hs3]; exact l3.out
  rw [← hs3]; clear hs3 l3
  go_wp2_with fail
  go_ret
  exact ⟨rfl, B4.out⟩

set_option maxHeartbeats 400000 in
theorem back_walk (A : Option Addr) (n c : Nat) (bs : List UInt8) (w : World) (hb : SlB w w.heap.size A n bs) (hn : n ≤ 140737488351232) :
    Calls Try.prog 12 #[.slice A n c] w fun e w' => e = .returned (.bool true) ∧ Below w.heap.size w w' := by
  have HB := hide hb
  have HL := hide hb.len
  clear hb
  go_enter Try.func12, Try.ntmps12
  go_wp2_with fail
  refine (hex_any A n c bs _ HB.out (by omega)).mono ?_
  rintro e w1 ⟨rfl, hb1⟩
  have B1 := hide hb1; clear hb1
  go_wp2_with fail
  refine (unhex_any _ _ (by rw [strB_size, Oct.hexL_length]; have := HL.out; omega) (by rw [strB_size, Oct.hexL_length]; have := HL.out; omega)).mono ?_
  rintro e w2 ⟨A1, m1, c1, rfl, ho1, hb2⟩
  rw [strB_data, Oct.unhex_hex] at ho1 ⊢
  have O1 : Hid (SlB w2 w2.heap.size A1 m1 bs) := hide ho1.slb
  have B2 := hide (B1.out.trans (hb2.mono B1.out.size)); clear hb2 ho1
  rw [errI_some]
  have M1 := hide O1.out.len
  go_wp2_with fail
  refine (web_any A n c bs _ (HB.out.on B2.out) (by omega)).mono ?_
  rintro e w3 ⟨rfl, hb3⟩
  have P3 := hide hb3
  have B3 := hide (B2.out.trans (hb3.mono B2.out.size)); clear hb3
  go_wp2_with fail
  refine (unweb_any _ _ (by rw [strB_size, Oct.webL_length]; have := HL.out; omega)).mono ?_
  rintro e w4 ⟨A2, m2, c2, rfl, ho2, hb4⟩
  rw [strB_data, Oct.unweb_web Oct.webS_ok] at ho2 ⊢
  have O2 : Hid (SlB w4 w4.heap.size A2 m2 bs) := hide ho2.slb
  have P4 : Hid (Below w2.heap.size w2 w4) := hide (P3.out.trans (hb4.mono P3.out.size))
  have B4 := hide (B3.out.trans (hb4.mono B3.out.size)); clear hb4 ho2
  rw [errI_some]
  have M2 := hide O2.out.len
  go_wp2_with fail
  refine (basic_any A n c bs _ (HB.out.on B4.out) (by omega)).mono ?_
  rintro e w5 ⟨rfl, hb5⟩
  have P5 := hide hb5
  have B5 := hide (B4.out.trans (hb5.mono B4.out.size)); clear hb5
  go_wp2_with fail
  refine (unbasic_any _ _ (by rw [strB_size, Oct.basicL_length]; have := HL.out; omega)).mono ?_
  rintro e w6 ⟨A3, m3, c3, rfl, ho3, hb6⟩
  rw [strB_data, Oct.unbasic_basic] at ho3 ⊢
  have O3 : Hid (SlB w6 w6.heap.size A3 m3 bs) := hide ho3.slb
  have P6 : Hid (Below w4.heap.size w4 w6) := hide (P5.out.trans (hb6.mono P5.out.size))
  have B6 := hide (B5.out.trans (hb6.mono B5.out.size)); clear hb6 ho3
  rw [errI_some]
  have M3 := hide O3.out.len
  have P26 : Hid (Below w2.heap.size w2 w6) := hide (P4.out.trans (P6.out.mono P4.out.size))
  go_wp2_with fail
  refine (known_any _).mono ?_
  rintro e w7 ⟨rfl, hb7⟩
  have B7 := hide (B6.out.trans (hb7.mono B6.out.size))
  have P27 : Hid (Below w2.heap.size w2 w7) := hide (P26.out.trans (hb7.mono P26.out.size))
  have P47 : Hid (Below w4.heap.size w4 w7) := hide (P6.out.trans (hb7.mono P6.out.size))
  have P67 := hide hb7
  clear hb7
  go_wp2_with fail
  refine (same_any A1 A m1 n c1 c bs bs _ (O1.out.on P27.out) (HB.out.on B7.out) (by have := M1.out; have := HL.out; omega) (by omega)).mono ?_
  rintro e w8 ⟨rfl, hb8⟩
  have B8 := hide (B7.out.trans (hb8.mono B7.out.size))
  have P48 : Hid (Below w4.heap.size w4 w8) := hide (P47.out.trans (hb8.mono P47.out.size))
  have P68 : Hid (Below w6.heap.size w6 w8) := hide (P67.out.trans (hb8.mono P67.out.size))
  clear hb8
  rw [decide_eq_true (rfl : bs = bs)]
  go_wp2_with fail
  refine (same_any A2 A m2 n c2 c bs bs _ (O2.out.on P48.out) (HB.out.on B8.out) (by have := M2.out; have := HL.out; omega) (by omega)).mono ?_
  rintro e w9 ⟨rfl, hb9⟩
  have B9 := hide (B8.out.trans (hb9.mono B8.out.size))
  have P69 : Hid (Below w6.heap.size w6 w9) := hide (P68.out.trans (hb9.mono P68.out.size))
  clear hb9
  rw [decide_eq_true (rfl : bs = bs)]
  go_wp2_with fail
  refine (same_any A3 A m3 n c3 c bs bs _ (O3.out.on P69.out) (HB.out.on B9.out) (by have := M3.out; have := HL.out; omega) (by omega)).mono ?_
  rintro e w10 ⟨rfl, hb10⟩
  have B10 := hide (B9.out.trans (hb10.mono B9.out.size))
  clear hb10
  rw [decide_eq_true (rfl : bs = bs)]
  go_wp2_with fail
  go_ret
  exact ⟨rfl, B10.out⟩
end Go.Proofs.Ythfoaefdifbfaaa
