/-
  The walks of layer 1's laws that ask no document's answer.
-/
import Derived.Test.YthfoaefdifbfaaaOctD
import Derived.Test.YthfoaefdifbfaaaRoom
import Derived.Lib.SlBytesConst
namespace Go.Proofs.Ythfoaefdifbfaaa
open Go.RowKit

set_option maxHeartbeats 400000 in
theorem known_any (w : World) : Calls Try.prog 15 #[] w fun e w' => e = .returned (.bool true) ∧ Below w.heap.size w w' := by
  have F1 : Hid (strB (Oct.hexL [0, 171]) = { data := #[48, 48, 97, 98] }) := hide (by unfold strB; rw [show Oct.hexL [0, 171] = [48, 48, 97, 98] by decide +kernel])
  have F2 : Hid (strB (Oct.webL Oct.webS [255]) = { data := #[95, 119] }) := hide (by unfold strB; rw [show Oct.webL Oct.webS [255] = [95, 119] by decide +kernel])
  have F3 : Hid (strB (Oct.basicL [255]) = { data := #[47, 119, 61, 61] }) := hide (by unfold strB; rw [show Oct.basicL [255] = [47, 119, 61, 61] by decide +kernel])
  have F4 : Hid (Oct.unbasicL [89, 87, 73, 61] = some [97, 98]) := hide (by decide +kernel)
  go_enter Try.func15, Try.ntmps15
  go_wp2_with fail
  refine (unbasic_any (strB [89, 87, 73, 61]) _ (by decide)).mono ?_
  rintro e w1 ⟨A, m, c, rfl, ho, hb⟩
  rw [strB_data, F4.out] at ho ⊢
  have hm : m = 2 := by have := ho.len; simpa using this.symm
  subst hm
  have HO := hide ho; have HB := hide hb; clear ho hb
  rw [errI_some]
  go_wp2_with fail
  refine (hex_any _ 2 2 [0, 171] _ ?hb1 (by omega)).mono ?_
  case hb1 => exact SlB.lit _ (by rfl) rfl
  rintro e w2 ⟨rfl, hb2⟩
  rw [F1.out]
  have B2 : Hid (Below w1.heap.size w1 w2) := hide (((Below.refl _ _).alloc (Nat.le_refl _) _).trans (hb2.mono (by simp)))
  clear hb2
  go_wp2_with fail
  refine (web_any _ 1 1 [255] _ ?hb3 (by omega)).mono ?_
  case hb3 => exact SlB.lit _ (by rfl) rfl
  rintro e w3 ⟨rfl, hb3⟩
  rw [F2.out]
  have B3 : Hid (Below w1.heap.size w1 w3) := hide ((B2.out.trans ((Below.refl _ _).alloc B2.out.size _)).trans (hb3.mono (by have := B2.out.size; simp; omega)))
  clear hb3
  go_wp2_with fail
  refine (basic_any _ 1 1 [255] _ ?hb4 (by omega)).mono ?_
  case hb4 => exact SlB.lit _ (by rfl) rfl
  rintro e w4 ⟨rfl, hb4⟩
  rw [F3.out]
  have B4 : Hid (Below w1.heap.size w1 w4) := hide ((B3.out.trans ((Below.refl _ _).alloc B3.out.size _)).trans (hb4.mono (by have := B3.out.size; simp; omega)))
  clear hb4
  have kd := conv_any (P := Try.prog) 22 9 5 Try.underlying22 Try.underlying5 Try.underlying9 (HO.out.below B4.out).slb c
  rw [show strB ((some [97, 98] : Option (List UInt8)).getD []) = { data := #[97, 98] } from rfl] at kd
  go_wp2_with fail
  refine (osame_any _ _ 1 1 1 1 [1] [1] _ ?ha ?hb (by omega) (by omega)).mono ?_
  case ha => exact ((SlB.lit (w := w4) (fr := (0, 0)) (t := 5) (n := 1) [1] rfl rfl).below ((Below.refl _ _).alloc (Nat.le_refl _) _) (Nat.le_refl _)).more (by simp)
  case hb =>
    have := SlB.lit (w := w4.alloc (.cells #[.int .u8 1] 5)) (fr := (0, 0)) (t := 5) (n := 1) [1] rfl rfl
    rw [World.size_alloc w4] at this
    exact this
  rintro e w5 ⟨rfl, hb5⟩
  have B5 : Hid (Below w.heap.size w w5) := hide ((HB.out.trans (B4.out.mono HB.out.size)).trans (((((Below.refl _ _).alloc (by have := HB.out.size; have := B4.out.size; omega) _).alloc (by have := HB.out.size; have := B4.out.size; simp; omega) _)).trans (hb5.mono (by have := HB.out.size; have := B4.out.size; simp; omega))))
  clear hb5
  go_wp2_with fail
  go_ret
  exact ⟨ret_bool (by simp), B5.out⟩
end Go.Proofs.Ythfoaefdifbfaaa
