/-
  The walks of CrcKeeps, CrcParts, CrcTogether, CrcBursts.
-/
import Derived.Test.YtgldpaedpijhfaaCrcLaws
import Derived.Test.YtgldpaedpijhfaaOwn
import Derived.Deep.DeepMust
namespace Go.Proofs.Ytgldpaedpijhfaa
open Go.RowKit

theorem keeps_walk (A : Option Addr) (n c : Nat) (bs : List UInt8) (w : World) (hb : SlB w w.heap.size A n bs) (hn : n ≤ 140737488355328) :
    Calls Try.prog 7 #[.slice A n c] w fun e w' => e = .returned (.bool true) ∧ Below w.heap.size w w' := by
  have HB := hide hb; clear hb
  go_enter Try.func7, Try.ntmps7
  go_wp2_with fail
  refine (room_any A n c bs _ HB.out hn).mono ?_
  rintro e w1 ⟨rfl, hb1, hg1⟩
  have B1 := hide hb1; have G1 := hide hg1; clear hb1 hg1
  go_wp2_with fail
  refine (known_any _).mono ?_
  rintro e w2 ⟨rfl, hb2⟩
  have hl1 : w.heap.size < w1.heap.size := (Array.getElem?_eq_some_iff.1 G1.out).1
  have B2 := hide (B1.out.trans (hb2.mono B1.out.size))
  have G2 := hide ((hb2.block _ hl1).trans G1.out)
  have hl2 : w.heap.size < w2.heap.size := Nat.lt_of_lt_of_le hl1 hb2.size
  clear hb2
  go_wp2_with fail
  refine (csum_any _ n (n + 3) bs _ (SlB.of_block G2.out hl2 HB.out.len) (by omega)).mono ?_
  rintro e w3 ⟨rfl, hb3⟩
  have B3 := hide (B2.out.trans (hb3.mono B2.out.size))
  have G3 := hide ((hb3.block _ hl2).trans G2.out)
  have hl3 : w.heap.size < w3.heap.size := Nat.lt_of_lt_of_le hl2 hb3.size
  clear hb3
  go_wp2_with fail
  refine (csum_any A n c bs _ ((HB.out.below B3.out (Nat.le_refl _)).more B3.out.size) (by omega)).mono ?_
  rintro e w4 ⟨rfl, hb4⟩
  have B4 := hide (B3.out.trans (hb4.mono B3.out.size))
  have G4 := hide ((hb4.block _ hl3).trans G3.out)
  clear hb4
  go_wp2_with fail
  refine (kept_any _ A n c bs _ G4.out ((HB.out.below B4.out (Nat.le_refl _)).more B4.out.size) hn).mono ?_
  rintro e w5 ⟨rfl, hb5⟩
  have B5 := hide (B4.out.trans (hb5.mono B4.out.size))
  clear hb5
  go_wp2_with fail
  go_ret
  exact ⟨ret_bool (by simp), B5.out⟩

set_option maxHeartbeats 400000 in
theorem parts_walk (s : Int) (h0 : 0 ≤ s) (hs : s < 4294967296) (A : Option Addr) (n c : Nat) (bs : List UInt8) (A' : Option Addr) (m c' : Nat) (es : List UInt8) (w : World) (hb : SlB w w.heap.size A n bs) (he : SlB w w.heap.size A' m es) (hn : n + m ≤ 140737488355328) :
    Calls Try.prog 4 #[.int .u32 s, .slice A n c, .slice A' m c'] w fun e w' => e = .returned (.bool true) ∧ Below w.heap.size w w' := by
  have HB := hide hb; have HE := hide he; clear hb he
  go_enter Try.func4, Try.ntmps4
  go_wp2_with fail
  refine (copy_any A n c bs _ HB.out (by omega)).mono ?_
  rintro e w1 ⟨rfl, hb1, hg1⟩
  have B1 := hide hb1
  have hl := HB.out.len
  have O1 := hide (Own.of_block (base := w.heap.size) (n := n) hg1 (Nat.le_refl _) (by simpa using hl) (by unfold maxLen; omega))
  have E1 := hide (HE.out.below hb1 (Nat.le_refl _))
  clear hb1 hg1 hl
  go_wp2_with (at_builtin; go_must (with_reducible refine wpList_app rfl (.tmp 9) (.tmp 10) 23 rfl (.int .u8 0) 1 Try.underlying23 info_u8 (cells_int _ _) rfl O1.out rfl E1.out.sl (bytes_oneCell es) (by unfold maxLen; omega) (by omega) B1.out.size ?_))
  intro A2 c2 w2 hown hgr hat
  have B2 := hide (below_of_grown B1.out hgr B1.out.size (O1.out.row_ge))
  have S2 : Hid (SlB w2 w2.heap.size A2 (n + m) (bs ++ es)) := hide (by have := hown.sl; unfold SlB; rwa [List.map_append])
  clear hown hgr hat
  go_wp2_with fail
  refine (known_any _).mono ?_
  rintro e w3 ⟨rfl, hb3⟩
  have S3 := hide ((S2.out.below hb3 (Nat.le_refl _)).more hb3.size)
  have B3 := hide (B2.out.trans (hb3.mono B2.out.size)); clear hb3
  go_wp2_with fail
  refine (cmore_any s h0 hs A n c bs _ ((HB.out.below B3.out (Nat.le_refl _)).more B3.out.size) (by omega)).mono ?_
  rintro e w4 ⟨rfl, hb4⟩
  have S4 := hide ((S3.out.below hb4 (Nat.le_refl _)).more hb4.size)
  have B4 := hide (B3.out.trans (hb4.mono B3.out.size)); clear hb4
  go_wp2_with fail
  have hml := Crc.more_lt s.toNat bs
  refine (cmore_any (Crc.more s.toNat bs : Int) (by omega) (by omega) A' m c' es _ ((HE.out.below B4.out (Nat.le_refl _)).more B4.out.size) (by omega)).mono ?_
  rintro e w5 ⟨rfl, hb5⟩
  have S5 := hide ((S4.out.below hb5 (Nat.le_refl _)).more hb5.size)
  have B5 := hide (B4.out.trans (hb5.mono B4.out.size)); clear hb5
  rw [Int.toNat_natCast, ← Crc.more_append (s := s.toNat) (by omega)]
  go_wp2_with fail
  refine (cmore_any s h0 hs A2 (n + m) c2 (bs ++ es) _ S5.out (by omega)).mono ?_
  rintro e w6 ⟨rfl, hb6⟩
  have B6 := hide (B5.out.trans (hb6.mono B5.out.size)); clear hb6
  go_wp2_with fail
  refine (csum_any A n c bs _ ((HB.out.below B6.out (Nat.le_refl _)).more B6.out.size) (by omega)).mono ?_
  rintro e w7 ⟨rfl, hb7⟩
  have B7 := hide (B6.out.trans (hb7.mono B6.out.size)); clear hb7
  go_wp2_with fail
  refine (cmore_any 0 (by omega) (by omega) A n c bs _ ((HB.out.below B7.out (Nat.le_refl _)).more B7.out.size) (by omega)).mono ?_
  rintro e w8 ⟨rfl, hb8⟩
  have B8 := hide (B7.out.trans (hb8.mono B7.out.size)); clear hb8
  rw [show (0 : Int).toNat = 0 from rfl]
  go_wp2_with fail
  go_ret
  exact ⟨ret_bool (by simp), B8.out⟩
end Go.Proofs.Ytgldpaedpijhfaa
