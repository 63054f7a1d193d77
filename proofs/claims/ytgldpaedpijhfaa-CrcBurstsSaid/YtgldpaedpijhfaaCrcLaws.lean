/-
  The walks of the laws of layer 2, by the contracts of what they call.
-/
import Derived.Test.YtgldpaedpijhfaaCrcB
import Derived.Test.YtgldpaedpijhfaaRoom
import Derived.Lib.SlBytesConst
namespace Go.Proofs.Ytgldpaedpijhfaa
open Go.RowKit

theorem known_any (w : World) : Calls Try.prog 8 #[] w fun e w' => e = .returned (.bool true) ∧ Below w.heap.size w w' := by
  have h1 : Crc.more 0 [49, 50, 51, 52, 53, 54, 55, 56, 57] = 3808858755 := by decide +kernel
  have h2 : Crc.more 0 [0] = 1383945041 := by decide +kernel
  have kc := fun (w : World) (C : Array Value) (n c : Nat) => Lib.run_convert_bytes_const (P := Try.prog) w 23 5 C n c Try.underlying23 Try.underlying5
  have H1 := hide h1; have H2 := hide h2; clear h1 h2
  go_enter Try.func8, Try.ntmps8
  go_wp2_with fail
  refine (csum_any _ 9 9 [49, 50, 51, 52, 53, 54, 55, 56, 57] _ ?hb (by omega)).mono ?_
  case hb => exact SlB.lit _ (by rfl) rfl
  rintro e w1 ⟨rfl, hb1⟩
  rw [H1.out]
  go_wp2_with fail
  refine (csum_any _ 1 1 [0] _ ?hb2 (by omega)).mono ?_
  case hb2 => exact SlB.lit _ (by rfl) rfl
  rintro e w2 ⟨rfl, hb2⟩
  rw [H2.out]
  go_wp2_with fail
  go_ret
  have hz := hb1.size
  simp only [World.size_alloc] at hz hb1 hb2
  refine ⟨rfl, ?_⟩
  exact (((Below.refl _ _).alloc (Nat.le_refl _) _).trans (hb1.mono (by omega))).trans (((Below.refl _ _).alloc (by omega) _).trans (hb2.mono (by omega)))

theorem sums_walk (s : Int) (h0 : 0 ≤ s) (hs : s < 4294967296) (A : Option Addr) (n c : Nat) (bs : List UInt8) (w : World) (hb : SlB w w.heap.size A n bs) (hn : n ≤ 9223372036854775807) :
    Calls Try.prog 3 #[.int .u32 s, .slice A n c] w fun e w' => e = .returned (.bool true) ∧ Below w.heap.size w w' := by
  have HB := hide hb; clear hb
  go_enter Try.func3, Try.ntmps3
  go_wp2_with fail
  refine (known_any _).mono ?_
  rintro e w1 ⟨rfl, hb1⟩
  have B1 := hide hb1; clear hb1
  go_wp2_with fail
  refine (cmore_any s h0 hs A n c bs _ ((HB.out.below B1.out (Nat.le_refl _)).more B1.out.size) hn).mono ?_
  rintro e w2 ⟨rfl, hb2⟩
  have B2 := hide (B1.out.trans (hb2.mono B1.out.size)); clear hb2
  go_wp2_with fail
  refine (rmore_any s h0 hs A n c bs _ ((HB.out.below B2.out (Nat.le_refl _)).more B2.out.size) hn).mono ?_
  rintro e w3 ⟨rfl, rfl⟩
  go_wp2_with fail
  refine (csum_any A n c bs _ ((HB.out.below B2.out (Nat.le_refl _)).more B2.out.size) hn).mono ?_
  rintro e w4 ⟨rfl, hb4⟩
  have B4 := hide (B2.out.trans (hb4.mono B2.out.size)); clear hb4
  go_wp2_with fail
  refine (rsum_any A n c bs _ ((HB.out.below B4.out (Nat.le_refl _)).more B4.out.size) hn).mono ?_
  rintro e w5 ⟨rfl, rfl⟩
  go_wp2_with fail
  go_ret
  exact ⟨ret_bool (by simp), B4.out⟩
end Go.Proofs.Ytgldpaedpijhfaa
