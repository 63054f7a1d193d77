/-
  The walks of the laws ShaApart, ShaOn. (Written by gen_sha_m.py.)
-/
import Derived.Test.YtgpldaphblphgaaShaL
namespace Go.Proofs.Ytgpldaphblphgaa
open Go.RowKit Go.Great

theorem SlB.off {w : World} {G n : Nat} {A : Option Addr} {bs : List UInt8} (h : SlB w w.heap.size A n bs) (hG : w.heap.size ≤ G) : 0 < n → ∀ b off, A = some ⟨b, off, none⟩ → b ≠ G := by
  intro h0 b off e
  obtain ⟨b', off', e', hlt, _⟩ := h.2 h0
  rw [e] at e'; injection e' with e'; injection e' with e1 _ _
  omega
theorem StOf.grown {w X : World} {G H T : Nat} {bs : List UInt8} (h : StOf w G T bs) (hg : w.grownBy X (some H)) (hne : G ≠ H) : StOf X G T bs := h.keep (hg.block G h.lt (by simpa using hne))
theorem Own.slB {w : World} {base n c : Nat} {A : Option Addr} {bs : List UInt8} (h : Own w base 5 A n c (bs.map bv)) : SlB w w.heap.size A n bs := h.sl
/-- two slices, laid as a literal -/
theorem parts2 {w X : World} {A B : Option Addr} {n m c d : Nat} {a b : List UInt8} (ha : SlB w w.heap.size A n a) (hb : SlB w w.heap.size B m b) (hX : X = w.alloc (.cells #[.slice A n c, .slice B m d] 22)) (hn : n ≤ c) (hm : m ≤ d) (hc : c ≤ 9223372036854775807) (hd : d ≤ 9223372036854775807) :
    PartsAt X X.heap.size (some ⟨w.heap.size, 0, none⟩) 2 [a, b] := by
  subst hX
  have hB := (Below.refl w.heap.size w).alloc (Nat.le_refl _) (.cells #[.slice A n c, .slice B m d] 22)
  refine ⟨rfl, [.slice A n c, .slice B m d], ⟨rfl, fun _ => ⟨w.heap.size, 0, rfl, by simp, fun k u hu => ?_⟩⟩, fun j x hj => ?_⟩
  · rw [cell_of_row _ _ _ _ _ _ (heap_alloc_new w _)]
    match k, hu with
    | 0, hu => exact hu
    | 1, hu => exact hu
    | k + 2, hu => simp at hu
  · match j, hj with
    | 0, hj => injection hj with hj; subst hj; exact ⟨A, n, c, rfl, ha.up hB, hn, hc⟩
    | 1, hj => injection hj with hj; subst hj; exact ⟨B, m, d, rfl, hb.up hB, hm, hd⟩
    | j + 2, hj => simp at hj

set_option maxHeartbeats 2000000 in
theorem apart_walk (A B C : Option Addr) (n m k ca cb cc : Nat) (as_ bs cs : List UInt8) (w : World) (ha : SlB w w.heap.size A n as_) (hb : SlB w w.heap.size B m bs) (hc : SlB w w.heap.size C k cs)
    (ha1 : n ≤ ca) (hb1 : m ≤ cb) (hc1 : k ≤ cc) (ha2 : ca ≤ 1048576) (hb2 : cb ≤ 1048576) (hc2 : cc ≤ 1048576) :
    Calls Try.prog 4 #[.slice A n ca, .slice B m cb, .slice C k cc] w fun e w' => e = .returned (.bool true) ∧ Below w.heap.size w w' := by
  have HA := hide ha; have HB := hide hb; have HC := hide hc
  have LA := hide ha.len; have LB := hide hb.len; have LC := hide hc.len
  clear ha hb hc
  obtain ⟨D1, hD1⟩ : ∃ D, D = ((Sha.sum (as_ ++ cs)).map bv).toArray := ⟨_, rfl⟩
  obtain ⟨D2, hD2⟩ : ∃ D, D = ((Sha.sum bs).map bv).toArray := ⟨_, rfl⟩
  have e1 : ∀ w : World, (binOp .eql 26 (.agg D1) (.agg D1)).run Try.prog w = .ok (.bool true) w := fun w => by rw [hD1]; exact dig_eql_same _ (Sha.sum_length _) w
  have e2 : ∀ w : World, (binOp .eql 26 (.agg D2) (.agg D2)).run Try.prog w = .ok (.bool true) w := fun w => by rw [hD2]; exact dig_eql_same _ (Sha.sum_length _) w
  have HD1 := hide hD1; have HD2 := hide hD2; clear hD1 hD2
  go_enter Try.func4, Try.ntmps4
  go_wp2_with fail
  refine (hnew_any _).mono ?_
  rintro e w1 ⟨G1, rfl, hg1, hs1, hb⟩
  have B1 := hide hb; have S1 := hide hs1; have Z1 := hide hg1; have L1 := hide hs1.lt; clear hb hs1 hg1
  go_wp2_with fail
  refine (hnew_any _).mono ?_
  rintro e w2 ⟨G2, rfl, hg2, hs2, hb⟩
  have B2 := hide (B1.out.trans (hb.mono B1.out.size)); have S2 := hide hs2
  have N12 : Hid (G1 ≠ G2) := hide (by have := L1.out; omega)
  have Z2 : Hid (w.heap.size ≤ G2) := hide (by have := B1.out.size; omega)
  replace S1 := hide (S1.out.below' hb)
  clear hb hs2 hg2
  go_wp2_with fail
  refine (hwrite_any G1 [] as_ A n ca _ S1.out (HA.out.up B2.out) ((HA.out).off Z1.out) ha1 (by simp; omega) (by omega)).mono ?_
  rintro e w3 ⟨rfl, hs, hg⟩
  have B3 := hide (below_of_grown' B2.out hg B2.out.size Z1.out)
  replace S1 := hide hs
  replace S2 := hide (S2.out.grown hg (Ne.symm N12.out))
  clear hs hg
  rw [List.nil_append] at S1
  go_wp2_with fail
  refine (hwrite_any G2 [] bs B m cb _ S2.out (HB.out.up B3.out) ((HB.out).off Z2.out) hb1 (by simp; omega) (by omega)).mono ?_
  rintro e w4 ⟨rfl, hs, hg⟩
  have B4 := hide (below_of_grown' B3.out hg B3.out.size Z2.out)
  replace S2 := hide hs
  replace S1 := hide (S1.out.grown hg N12.out)
  clear hs hg
  rw [List.nil_append] at S2
  go_wp2_with fail
  refine (hwrite_any G1 as_ cs C k cc _ S1.out (HC.out.up B4.out) ((HC.out).off Z1.out) hc1 (by have := LA.out; omega) (by omega)).mono ?_
  rintro e w5 ⟨rfl, hs, hg⟩
  have B5 := hide (below_of_grown' B4.out hg B4.out.size Z1.out)
  replace S1 := hide hs
  replace S2 := hide (S2.out.grown hg (Ne.symm N12.out))
  clear hs hg
  go_wp2_with fail
  refine (known_any _).mono ?_
  rintro e w6 ⟨rfl, hb⟩
  have B6 := hide (B5.out.trans (hb.mono B5.out.size))
  replace S1 := hide (S1.out.below' hb); replace S2 := hide (S2.out.below' hb)
  clear hb
  go_wp2_with fail
  refine (hsum_any G1 (as_ ++ cs) _ S1.out (by have := LA.out; have := LC.out; simp; omega)).mono ?_
  rintro e w7 ⟨rfl, hb⟩
  have B7 := hide (B6.out.trans (hb.mono B6.out.size))
  replace S2 := hide (S2.out.below' hb)
  clear hb
  rw [← HD1.out]
  go_wp2_with fail
  refine (rjoin_any [as_, cs] (some ⟨w7.heap.size, 0, none⟩) 2 2 _ (parts2 (HA.out.up B7.out) (HC.out.up B7.out) rfl ha1 hc1 (by omega) (by omega)) (by have := LA.out; have := LC.out; simp; omega) (by omega)).mono ?_
  rintro e w8 ⟨A8, c8, rfl, ho, hb⟩
  rw [show [as_, cs].flatten = as_ ++ cs by simp] at ho ⊢
  obtain ⟨q, hq⟩ : ∃ q, q = (as_ ++ cs).length := ⟨_, rfl⟩
  rw [← hq] at ho ⊢
  have L8 : Hid (q ≤ 2097152) := hide (by have := LA.out; have := LC.out; rw [hq]; simp; omega)
  clear hq
  have BA := hide (B7.out.alloc B7.out.size (.cells #[.slice A n ca, .slice C k cc] 22))
  have B8 := hide (BA.out.trans (hb.mono BA.out.size))
  replace S2 := hide ((S2.out.below' ((Below.refl _ _).alloc (Nat.le_refl _) (.cells #[.slice A n ca, .slice C k cc] 22))).below' hb)
  have O8 := hide ho.slB; have C8 := hide ho.le_cap
  clear hb ho
  go_wp2_with fail
  refine (psumf_any A8 q c8 (as_ ++ cs) _ O8.out C8.out.1 (by have := C8.out.2; unfold maxLen at this; exact this) (by have := L8.out; omega)).mono ?_
  rintro e w9 ⟨rfl, hb⟩
  have B9 := hide (B8.out.trans (hb.mono B8.out.size))
  replace S2 := hide (S2.out.below' hb)
  clear hb
  rw [← HD1.out]
  go_wp2_with fail
  refine (hsum_any G2 bs _ S2.out (by have := LB.out; omega)).mono ?_
  rintro e w10 ⟨rfl, hb⟩
  have B10 := hide (B9.out.trans (hb.mono B9.out.size)); clear hb
  rw [← HD2.out]
  go_wp2_with fail
  refine (psumf_any B m cb bs _ (HB.out.up B10.out) hb1 (by omega) (by omega)).mono ?_
  rintro e w11 ⟨rfl, hb⟩
  have B11 := hide (B10.out.trans (hb.mono B10.out.size)); clear hb
  rw [← HD2.out]
  go_wp2_with fail
  go_ret
  exact ⟨rfl, B11.out⟩

end Go.Proofs.Ytgpldaphblphgaa
