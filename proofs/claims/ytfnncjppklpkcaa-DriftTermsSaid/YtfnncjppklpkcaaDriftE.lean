/-
  The walks of the laws DriftTurns, DriftTerms, DriftBounds.
-/
import Derived.Test.YtfnncjppklpkcaaDriftD
namespace Go.Proofs.Ytfnncjppklpkcaa
open Go.RowKit

theorem turns_walk (c u r d : Int) (hc : I64 c) (hd : I64 d) (w : World) : Calls Try.prog 3 #[.int .i64 c, .int .i64 u, .int .i64 r, .int .i64 d] w fun e w' => e = .returned (.bool true) ∧ Below w.heap.size w w' := by
  have K1 := hide (turn_any c u r)
  have K2 := hide (rturn_any c u r)
  obtain ⟨t, ht⟩ : ∃ t, t = turnI c u r := ⟨_, rfl⟩
  rw [← ht] at K1 K2
  obtain ⟨t1, t2⟩ := t
  have K3 := hide (cread_any c hc)
  have K4 := hide (rread_any c hc)
  obtain ⟨x, hx⟩ : ∃ x, x = readI c := ⟨_, rfl⟩
  rw [← hx] at K3 K4
  have K5 := hide (within_any r d)
  have K6 := hide (rwithin_any r d hd)
  obtain ⟨y, hy⟩ : ∃ y, y = withinB r d := ⟨_, rfl⟩
  rw [← hy] at K5 K6
  clear ht hx hy hc hd
  go_enter Try.func3, Try.ntmps3
  go_wp2_with fail
  refine (K1.out _).mono ?_
  rintro e w1 ⟨rfl, hb1⟩
  have B1 := hide hb1; clear hb1
  go_wp2_with fail
  refine (K2.out _).mono ?_
  rintro e w2 ⟨rfl, rfl⟩
  go_wp2_with fail
  refine (known_any _).mono ?_
  rintro e w3 ⟨rfl, hb3⟩
  have B2 := hide (B1.out.alloc B1.out.size (.cells #[.int .i64 t1] 23))
  have hz2 := B2.out.size
  have B3 := hide (B2.out.trans (hb3.mono hz2))
  have c3 : w3.cell? ⟨w1.heap.size, 0, none⟩ = some (.int .i64 t1) := (hb3.cell (p := ⟨w1.heap.size, 0, none⟩) (by simp)).trans (World.cell?_alloc_at _ _ _ _ rfl)
  clear hb3
  go_wp2_with fail
  refine (K3.out _).mono ?_
  rintro e w4 ⟨rfl, hb4⟩
  have B4 := hide (B3.out.trans (hb4.mono B3.out.size)); clear hb4
  go_wp2_with fail
  refine (K4.out _).mono ?_
  rintro e w5 ⟨rfl, rfl⟩
  go_wp2_with fail
  refine (K5.out _).mono ?_
  rintro e w5 ⟨rfl, rfl⟩
  go_wp2_with fail
  refine (K6.out _).mono ?_
  rintro e w5 ⟨rfl, rfl⟩
  go_wp2_with fail
  go_ret
  exact ⟨ret_bool (by simp), B4.out⟩

theorem terms_walk (s n k : Int) (hs : I64 s) (hn : I64 n) (hk : I64 k) (w : World) : Calls Try.prog 4 #[.int .i64 s, .int .i64 n, .int .i64 k] w fun e w' => e = .returned (.bool true) ∧ Below w.heap.size w w' := by
  have K1 := hide (live_any s n k hs hn hk)
  have K2 := hide (rlive_any s n k hs hn hk)
  have K3 := hide (over_any s n k hs hn hk)
  have K4 := hide (rover_any s n k hs hn hk)
  obtain ⟨x, hx⟩ : ∃ x, x = liveB s n k := ⟨_, rfl⟩
  rw [← hx] at K1 K2
  obtain ⟨y, hy⟩ : ∃ y, y = overB s n k := ⟨_, rfl⟩
  rw [← hy] at K3 K4
  clear hx hy hs hn hk
  go_enter Try.func4, Try.ntmps4
  go_wp2_with fail
  refine (known_any _).mono ?_
  rintro e w1 ⟨rfl, hb1⟩
  have B1 := hide hb1; clear hb1
  go_wp2_with fail
  refine (K1.out _).mono ?_
  rintro e w2 ⟨rfl, rfl⟩
  go_wp2_with fail
  refine (K2.out _).mono ?_
  rintro e w2 ⟨rfl, rfl⟩
  go_wp2_with fail
  refine (K3.out _).mono ?_
  rintro e w2 ⟨rfl, rfl⟩
  go_wp2_with fail
  refine (K4.out _).mono ?_
  rintro e w2 ⟨rfl, rfl⟩
  go_wp2_with fail
  go_ret
  exact ⟨ret_bool (by simp), B1.out⟩

theorem bounds_walk (n d : Int) (hd : I64 d) (w : World) : Calls Try.prog 6 #[.int .i64 n, .int .i64 d] w fun e w' => e = .returned (.bool true) ∧ Below w.heap.size w w' := by
  have K1 := hide (least_any n d)
  have K2 := hide (most_any n d)
  have K3 := hide (short_any n d)
  have K4 := hide (rleast_any n d hd)
  have K5 := hide (rmostI_any n d hd)
  have K6 := hide (rshort_any n d hd)
  obtain ⟨x, hx⟩ : ∃ x, x = leastI n d := ⟨_, rfl⟩
  rw [← hx] at K1 K4
  obtain ⟨y, hy⟩ : ∃ y, y = mostI n d := ⟨_, rfl⟩
  rw [← hy] at K2 K5
  obtain ⟨z, hz⟩ : ∃ z, z = shortI n d := ⟨_, rfl⟩
  rw [← hz] at K3 K6
  obtain ⟨x1, x2⟩ := x
  obtain ⟨y1, y2⟩ := y
  obtain ⟨z1, z2⟩ := z
  clear hx hy hz hd
  go_enter Try.func6, Try.ntmps6
  go_wp2_with fail
  refine (K1.out _).mono ?_
  rintro e w2 ⟨rfl, rfl⟩
  go_wp2_with fail
  refine (K2.out _).mono ?_
  rintro e w2 ⟨rfl, rfl⟩
  go_wp2_with fail
  refine (K3.out _).mono ?_
  rintro e w2 ⟨rfl, rfl⟩
  go_wp2_with fail
  refine (K4.out _).mono ?_
  rintro e w2 ⟨rfl, rfl⟩
  go_wp2_with fail
  refine (K5.out _).mono ?_
  rintro e w2 ⟨rfl, rfl⟩
  go_wp2_with fail
  refine (K6.out _).mono ?_
  rintro e w2 ⟨rfl, rfl⟩
  go_wp2_with fail
  refine (known_any _).mono ?_
  rintro e w1 ⟨rfl, hb1⟩
  have B1 := hide hb1; clear hb1
  go_wp2_with fail
  go_ret
  exact ⟨ret_bool (by simp), B1.out⟩
end Go.Proofs.Ytfnncjppklpkcaa
