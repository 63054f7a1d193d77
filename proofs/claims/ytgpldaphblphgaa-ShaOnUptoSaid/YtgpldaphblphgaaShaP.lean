/-
  The walk of the law ShaMacs.
-/
import Derived.Test.YtgpldaphblphgaaShaO
namespace Go.Proofs.Ytgpldaphblphgaa
open Go.RowKit Go.Great

/-- one slice, laid as a literal -/
theorem parts1 {w : World} {A : Option Addr} {n c : Nat} {a : List UInt8} (ha : SlB w w.heap.size A n a) (hn : n ≤ c) (hc : c ≤ 9223372036854775807) :
    PartsAt (w.alloc (.cells #[.slice A n c] 22)) (w.alloc (.cells #[.slice A n c] 22)).heap.size (some ⟨w.heap.size, 0, none⟩) 1 [a] := by
  have hB := (Below.refl w.heap.size w).alloc (Nat.le_refl _) (.cells #[.slice A n c] 22)
  refine ⟨rfl, [.slice A n c], ⟨rfl, fun _ => ⟨w.heap.size, 0, rfl, by simp, fun k u hu => ?_⟩⟩, fun j x hj => ?_⟩
  · rw [cell_of_row _ _ _ _ _ _ (heap_alloc_new w _)]
    match k, hu with
    | 0, hu => exact hu
    | k + 1, hu => simp at hu
  · match j, hj with
    | 0, hj => injection hj with hj; subst hj; exact ⟨A, n, c, rfl, ha.up hB, hn, hc⟩
    | j + 1, hj => simp at hj
theorem mac_length (key bs : List UInt8) : (Sha.mac key bs).length = 32 := Sha.sum_length _
set_option maxHeartbeats 1000000 in
theorem macs_walk (A B : Option Addr) (n c m d : Nat) (key bs : List UInt8) (w : World) (ha : SlB w w.heap.size A n key) (hb : SlB w w.heap.size B m bs) (hnc : n ≤ c) (hc : c ≤ 140737488351232) (hmd : m ≤ d) (hd : d ≤ 140737488351232) :
    Calls Try.prog 5 #[.slice A n c, .slice B m d] w fun e w' => e = .returned (.bool true) ∧ Below w.heap.size w w' := by
  have HA := hide ha; have HB := hide hb; have LB := hide hb.len
  clear ha hb
  go_enter Try.func5, Try.ntmps5
  go_wp2_with fail
  refine (known_any _).mono ?_
  rintro e w1 ⟨rfl, hb⟩
  have B1 := hide hb; clear hb
  go_wp2_with fail
  have BA := hide (B1.out.alloc B1.out.size (.cells #[.slice B m d] 22))
  refine (pmac_any key A n c [bs] (some ⟨w1.heap.size, 0, none⟩) 1 1 _ (HA.out.up BA.out) (parts1 (HB.out.up B1.out) hmd (by omega)) hnc (by omega) (by omega) (by simp; have := LB.out; omega) (by omega)).mono ?_
  rintro e w2 ⟨rfl, hb⟩
  rw [show [bs].flatten = bs by simp]
  have B2 := hide (BA.out.trans (hb.mono BA.out.size)); clear hb
  go_wp2_with fail
  refine (rmac_any key bs A B n c m d _ (HA.out.up B2.out) (HB.out.up B2.out) (by omega) (by omega)).mono ?_
  rintro e w3 ⟨rfl, hb⟩
  have B3 := hide (B2.out.trans (hb.mono B2.out.size)); clear hb
  go_wp2_with fail
  refine (dsame_any (Sha.mac key bs) (Sha.mac key bs) (mac_length _ _) (mac_length _ _) _).mono ?_
  rintro e w4 ⟨rfl, hb⟩
  have B4 := hide (B3.out.trans (hb.mono B3.out.size)); clear hb
  rw [decide_eq_true (rfl : Sha.mac key bs = Sha.mac key bs)]
  go_wp2_with fail
  go_ret
  exact ⟨ret_bool (by simp), B4.out⟩
end Go.Proofs.Ytgpldaphblphgaa
