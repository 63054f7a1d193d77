/-
  The walks of layer 1's laws: Same, Joins, Forth. (Written by oct_g.py.)
-/
import Derived.Test.YthfoaefdifbfaaaOctF
namespace Go.Proofs.Ythfoaefdifbfaaa
open Go.RowKit

theorem one_bytes (es : List UInt8) : ∀ u ∈ es.map bv, u.oneCell' = true := by
  intro u hu
  obtain ⟨x, _, rfl⟩ := List.mem_map.1 hu
  rfl

set_option maxHeartbeats 800000 in
theorem osame_walk (A A' : Option Addr) (n c m c' : Nat) (xs ys : List UInt8) (w : World) (hx : SlB w w.heap.size A n xs) (hy : SlB w w.heap.size A' m ys) (hn : n ≤ 140737488351232) (hm : m ≤ 140737488351232) :
    Calls Try.prog 9 #[.slice A n c, .slice A' m c'] w fun e w' => e = .returned (.bool true) ∧ Below w.heap.size w w' := by
  have HX := hide hx; have HY := hide hy; clear hx hy
  by_cases hxy : xs = ys
  · subst hxy
    skip
    go_enter Try.func9, Try.ntmps9
    go_wp2_with fail
    refine (known_any _).mono ?_
    rintro e w1 ⟨rfl, hb⟩
    replace HX := hide (HX.out.on hb)
    replace HY := hide (HY.out.on hb)
    have B1 := hide (hb)
    clear hb
    go_wp2_with fail
    refine (osame_any A A' n m c c' xs xs _ HX.out HY.out (by omega) (by omega)).mono ?_
    rintro e w2 ⟨rfl, hb⟩
    replace HX := hide (HX.out.on hb)
    replace HY := hide (HY.out.on hb)
    have B2 := hide (B1.out.trans (hb.mono B1.out.size))
    clear hb
    rw [decide_eq_true (rfl : xs = xs)]
    go_wp2_with fail
    refine (same_any A A' n m c c' xs xs _ HX.out HY.out (by omega) (by omega)).mono ?_
    rintro e w3 ⟨rfl, hb⟩
    replace HX := hide (HX.out.on hb)
    replace HY := hide (HY.out.on hb)
    have B3 := hide (B2.out.trans (hb.mono B2.out.size))
    clear hb
    rw [decide_eq_true (rfl : xs = xs)]
    go_wp2_with fail
    refine (osame_any A A' n m c c' xs xs _ HX.out HY.out (by omega) (by omega)).mono ?_
    rintro e w4 ⟨rfl, hb⟩
    replace HX := hide (HX.out.on hb)
    replace HY := hide (HY.out.on hb)
    have B4 := hide (B3.out.trans (hb.mono B3.out.size))
    clear hb
    rw [decide_eq_true (rfl : xs = xs)]
    go_wp2_with fail
    refine (web_any A n c xs _ HX.out (by omega)).mono ?_
    rintro e w5 ⟨rfl, hb⟩
    replace HX := hide (HX.out.on hb)
    replace HY := hide (HY.out.on hb)
    have B5 := hide (B4.out.trans (hb.mono B4.out.size))
    clear hb
    go_wp2_with fail
    refine (web_any A' m c' xs _ HY.out (by omega)).mono ?_
    rintro e w6 ⟨rfl, hb⟩
    replace HX := hide (HX.out.on hb)
    replace HY := hide (HY.out.on hb)
    have B6 := hide (B5.out.trans (hb.mono B5.out.size))
    clear hb
    generalize strB (Oct.webL Oct.webS xs) = s1
    go_wp2_with fail
    refine (osame_any A A n n c c xs xs _ HX.out HX.out (by omega) (by omega)).mono ?_
    rintro e w7 ⟨rfl, hb⟩
    replace HX := hide (HX.out.on hb)
    replace HY := hide (HY.out.on hb)
    have B7 := hide (B6.out.trans (hb.mono B6.out.size))
    clear hb
    rw [decide_eq_true (rfl : xs = xs)]
    go_wp2_with fail
    go_ret
    exact ⟨rfl, B7.out⟩
  · have DD := hide (decide_eq_false hxy)
    have HNE : Hid (((strB (Oct.webL Oct.webS xs)).toList == (strB (Oct.webL Oct.webS ys)).toList) = false) := hide (by
      rw [beq_eq_false_iff_ne]; intro h; rw [ByteArray.toList_eq, ByteArray.toList_eq] at h; exact hxy (Oct.web_inj Oct.webS_ok h))
    clear hxy
    go_enter Try.func9, Try.ntmps9
    go_wp2_with fail
    refine (known_any _).mono ?_
    rintro e w1 ⟨rfl, hb⟩
    replace HX := hide (HX.out.on hb)
    replace HY := hide (HY.out.on hb)
    have B1 := hide (hb)
    clear hb
    go_wp2_with fail
    refine (osame_any A A' n m c c' xs ys _ HX.out HY.out (by omega) (by omega)).mono ?_
    rintro e w2 ⟨rfl, hb⟩
    replace HX := hide (HX.out.on hb)
    replace HY := hide (HY.out.on hb)
    have B2 := hide (B1.out.trans (hb.mono B1.out.size))
    clear hb
    rw [DD.out]
    go_wp2_with fail
    refine (same_any A A' n m c c' xs ys _ HX.out HY.out (by omega) (by omega)).mono ?_
    rintro e w3 ⟨rfl, hb⟩
    replace HX := hide (HX.out.on hb)
    replace HY := hide (HY.out.on hb)
    have B3 := hide (B2.out.trans (hb.mono B2.out.size))
    clear hb
    rw [DD.out]
    go_wp2_with fail
    refine (osame_any A A' n m c c' xs ys _ HX.out HY.out (by omega) (by omega)).mono ?_
    rintro e w4 ⟨rfl, hb⟩
    replace HX := hide (HX.out.on hb)
    replace HY := hide (HY.out.on hb)
    have B4 := hide (B3.out.trans (hb.mono B3.out.size))
    clear hb
    rw [DD.out]
    go_wp2_with fail
    refine (web_any A n c xs _ HX.out (by omega)).mono ?_
    rintro e w5 ⟨rfl, hb⟩
    replace HX := hide (HX.out.on hb)
    replace HY := hide (HY.out.on hb)
    have B5 := hide (B4.out.trans (hb.mono B4.out.size))
    clear hb
    go_wp2_with fail
    refine (web_any A' m c' ys _ HY.out (by omega)).mono ?_
    rintro e w6 ⟨rfl, hb⟩
    replace HX := hide (HX.out.on hb)
    replace HY := hide (HY.out.on hb)
    have B6 := hide (B5.out.trans (hb.mono B5.out.size))
    clear hb
    have hne := HNE.out
    generalize strB (Oct.webL Oct.webS xs) = s1 at hne ⊢
    generalize strB (Oct.webL Oct.webS ys) = s2 at hne ⊢
    go_wp2_with fail
    refine (osame_any A A n n c c xs xs _ HX.out HX.out (by omega) (by omega)).mono ?_
    rintro e w7 ⟨rfl, hb⟩
    replace HX := hide (HX.out.on hb)
    replace HY := hide (HY.out.on hb)
    have B7 := hide (B6.out.trans (hb.mono B6.out.size))
    clear hb
    rw [decide_eq_true (rfl : xs = xs)]
    go_wp2_with fail
    go_ret
    exact ⟨rfl, B7.out⟩

theorem _root_.Go.Proofs.Ythfoaefdifbfaaa.Oct.six_join (signs : List UInt8) (a b : List Bool) (h : a.length = 6 * (a.length / 6)) : Oct.six signs (a ++ b) = Oct.six signs a ++ Oct.six signs b := by
  unfold Oct.six
  rw [← List.map_append]
  congr 1
  obtain ⟨p, hp⟩ : ∃ p, p = a.length / 6 := ⟨_, rfl⟩
  rw [← hp] at h ⊢
  rw [List.length_append, show (a.length + b.length) / 6 = p + b.length / 6 by omega]
  unfold Oct.grps
  rw [List.range_add, List.map_append]
  congr 1
  · apply List.map_congr_left
    intro i hi
    rw [List.mem_range] at hi
    exact Oct.grp_append (by omega)
  · rw [List.map_map]
    apply List.map_congr_left
    intro i _
    simp only [Function.comp]
    unfold Oct.grp
    rw [Nat.mul_add, ← h, ← List.drop_drop, List.drop_left]
theorem bitsL_mod {bs : List UInt8} (h : bs.length % 3 = 0) : (Oct.bitsL bs).length % 6 = 0 := by rw [Oct.bitsL_length]; omega
theorem web_join (signs : List UInt8) {a : List UInt8} (b : List UInt8) (h : a.length % 3 = 0) : Oct.webL signs (a ++ b) = Oct.webL signs a ++ Oct.webL signs b := by
  have h24 : (Oct.bitsL a).length = 6 * ((Oct.bitsL a).length / 6) := by have := bitsL_mod h; omega
  have e1 : Oct.fill6 (Oct.bitsL (a ++ b)) = Oct.bitsL a ++ Oct.fill6 (Oct.bitsL b) := by
    unfold Oct.fill6
    rw [Oct.bitsL_append, List.length_append, List.append_assoc]
    congr 3
    have := bitsL_mod h; omega
  have e2 : Oct.fill6 (Oct.bitsL a) = Oct.bitsL a := by unfold Oct.fill6; rw [bitsL_mod h]; simp
  unfold Oct.webL
  rw [e1, e2]
  exact Oct.six_join signs _ _ h24
theorem basic_join {a : List UInt8} (b : List UInt8) (h : a.length % 3 = 0) : Oct.basicL (a ++ b) = Oct.basicL a ++ Oct.basicL b := by
  have e1 : Oct.basicL a = Oct.webL Oct.basicS a := by
    unfold Oct.basicL
    rw [Oct.webL_length, show (4 - (4 * a.length + 2) / 3 % 4) % 4 = 0 by omega]; simp
  rw [e1]
  unfold Oct.basicL
  rw [web_join _ b h, List.length_append, List.append_assoc]
  congr 3
  rw [Oct.webL_length Oct.basicS a]
  omega

set_option maxHeartbeats 800000 in
theorem joins_walk (A A' : Option Addr) (n c m c' : Nat) (xs ys : List UInt8) (w : World) (hx : SlB w w.heap.size A n xs) (hy : SlB w w.heap.size A' m ys) (hn : n ≤ 1048576) (hm : m ≤ 1048576) :
    Calls Try.prog 8 #[.slice A n c, .slice A' m c'] w fun e w' => e = .returned (.bool true) ∧ Below w.heap.size w w' := by
  have HX := hide hx; have HY := hide hy; have HL := hide hx.len
  have HM := hide hy.len
  obtain ⟨h1, H1⟩ : ∃ h, strB (Oct.hexL xs) = h := ⟨_, rfl⟩
  obtain ⟨h2, H2⟩ : ∃ h, strB (Oct.hexL ys) = h := ⟨_, rfl⟩
  have J1 : Hid (strB (Oct.hexL (xs ++ ys)) = h1 ++ h2) := hide (by rw [← H1, ← H2, strB_append, Oct.hexL_append])
  have Z1 : (h1.size : Int) + (h2.size : Int) ≤ 9223372036854775807 := by rw [← H1, ← H2, strB_size, strB_size, Oct.hexL_length, Oct.hexL_length]; have := HL.out; have := HM.out; omega
  replace H1 := hide H1; replace H2 := hide H2
  clear hx hy
  by_cases h3 : n % 3 = 0
  · have hz : (((n : Int) % 3) != 0) = false := by rw [bne_eq_false_iff_eq]; omega
    obtain ⟨v1, v1e⟩ : ∃ h, strB (Oct.webL Oct.webS xs) = h := ⟨_, rfl⟩
    obtain ⟨v2, v2e⟩ : ∃ h, strB (Oct.webL Oct.webS ys) = h := ⟨_, rfl⟩
    have J2 : Hid (strB (Oct.webL Oct.webS (xs ++ ys)) = v1 ++ v2) := hide (by rw [← v1e, ← v2e, strB_append, web_join _ _ (by have := HL.out; omega)])
    have ZJ2 : (v1.size : Int) + (v2.size : Int) ≤ 9223372036854775807 := by rw [← v1e, ← v2e, strB_size, strB_size, Oct.webL_length, Oct.webL_length]; have := HL.out; have := HM.out; omega
    replace v1e := hide v1e; replace v2e := hide v2e
    obtain ⟨q1, q1e⟩ : ∃ h, strB (Oct.basicL xs) = h := ⟨_, rfl⟩
    obtain ⟨q2, q2e⟩ : ∃ h, strB (Oct.basicL ys) = h := ⟨_, rfl⟩
    have J3 : Hid (strB (Oct.basicL (xs ++ ys)) = q1 ++ q2) := hide (by rw [← q1e, ← q2e, strB_append, basic_join _ (by have := HL.out; omega)])
    have ZJ3 : (q1.size : Int) + (q2.size : Int) ≤ 9223372036854775807 := by rw [← q1e, ← q2e, strB_size, strB_size, Oct.basicL_length, Oct.basicL_length]; have := HL.out; have := HM.out; omega
    replace q1e := hide q1e; replace q2e := hide q2e
    clear h3
    go_enter Try.func8, Try.ntmps8
    go_wp2_with fail
    refine (copy_any A n c xs _ HX.out (by omega)).mono ?_
    rintro e w1 ⟨rfl, hb1, hg1⟩
    have B1 := hide hb1
    have O1 := hide (Own.of_block (base := w.heap.size) (n := n) hg1 (Nat.le_refl _) (by have := HL.out; simpa using this) (by unfold maxLen; omega))
    have E1 := hide (HY.out.below hb1 (Nat.le_refl _))
    clear hb1 hg1
    go_wp2_with (at_builtin; go_must (with_reducible refine wpList_app rfl (.tmp 7) (.tmp 8) 22 rfl (.int .u8 0) 1 Try.underlying22 info_u8 (cells_int _ _) rfl O1.out rfl E1.out.sl (one_bytes ys) (by unfold maxLen; omega) (by omega) B1.out.size ?_))
    intro A2 c2 w2 hown hgr hat
    have B2 := hide (below_of_grown B1.out hgr B1.out.size (O1.out.row_ge))
    have S : Hid (SlB w2 w2.heap.size A2 (n + m) (xs ++ ys)) := hide (by have := hown.sl; unfold SlB; rwa [List.map_append])
    replace HX := hide (HX.out.on B2.out)
    replace HY := hide (HY.out.on B2.out)
    clear hown hgr hat O1 E1
    go_wp2_with fail
    refine (known_any _).mono ?_
    rintro e w3 ⟨rfl, hb⟩
    replace HX := hide (HX.out.on hb)
    replace HY := hide (HY.out.on hb)
    replace S := hide (S.out.on hb)
    have B3 := hide (B2.out.trans (hb.mono B2.out.size))
    clear hb
    go_wp2_with fail
    refine (hex_any A2 (n + m) c2 (xs ++ ys) _ S.out (by omega)).mono ?_
    rintro e w4 ⟨rfl, hb⟩
    replace HX := hide (HX.out.on hb)
    replace HY := hide (HY.out.on hb)
    replace S := hide (S.out.on hb)
    have B4 := hide (B3.out.trans (hb.mono B3.out.size))
    clear hb
    rw [J1.out]
    go_wp2_with fail
    refine (hex_any A n c xs _ HX.out (by omega)).mono ?_
    rintro e w5 ⟨rfl, hb⟩
    replace HX := hide (HX.out.on hb)
    replace HY := hide (HY.out.on hb)
    replace S := hide (S.out.on hb)
    have B5 := hide (B4.out.trans (hb.mono B4.out.size))
    clear hb
    rw [H1.out]
    go_wp2_with fail
    refine (hex_any A' m c' ys _ HY.out (by omega)).mono ?_
    rintro e w6 ⟨rfl, hb⟩
    replace HX := hide (HX.out.on hb)
    replace HY := hide (HY.out.on hb)
    replace S := hide (S.out.on hb)
    have B6 := hide (B5.out.trans (hb.mono B5.out.size))
    clear hb
    rw [H2.out]
    go_wp2_with fail
    refine (web_any A2 (n + m) c2 (xs ++ ys) _ S.out (by omega)).mono ?_
    rintro e w7 ⟨rfl, hb⟩
    replace HX := hide (HX.out.on hb)
    replace HY := hide (HY.out.on hb)
    replace S := hide (S.out.on hb)
    have B7 := hide (B6.out.trans (hb.mono B6.out.size))
    clear hb
    rw [J2.out]
    go_wp2_with fail
    refine (web_any A n c xs _ HX.out (by omega)).mono ?_
    rintro e w8 ⟨rfl, hb⟩
    replace HX := hide (HX.out.on hb)
    replace HY := hide (HY.out.on hb)
    replace S := hide (S.out.on hb)
    have B8 := hide (B7.out.trans (hb.mono B7.out.size))
    clear hb
    rw [v1e.out]
    go_wp2_with fail
    refine (web_any A' m c' ys _ HY.out (by omega)).mono ?_
    rintro e w9 ⟨rfl, hb⟩
    replace HX := hide (HX.out.on hb)
    replace HY := hide (HY.out.on hb)
    replace S := hide (S.out.on hb)
    have B9 := hide (B8.out.trans (hb.mono B8.out.size))
    clear hb
    rw [v2e.out]
    go_wp2_with fail
    refine (basic_any A2 (n + m) c2 (xs ++ ys) _ S.out (by omega)).mono ?_
    rintro e w10 ⟨rfl, hb⟩
    replace HX := hide (HX.out.on hb)
    replace HY := hide (HY.out.on hb)
    replace S := hide (S.out.on hb)
    have B10 := hide (B9.out.trans (hb.mono B9.out.size))
    clear hb
    rw [J3.out]
    go_wp2_with fail
    refine (basic_any A n c xs _ HX.out (by omega)).mono ?_
    rintro e w11 ⟨rfl, hb⟩
    replace HX := hide (HX.out.on hb)
    replace HY := hide (HY.out.on hb)
    replace S := hide (S.out.on hb)
    have B11 := hide (B10.out.trans (hb.mono B10.out.size))
    clear hb
    rw [q1e.out]
    go_wp2_with fail
    refine (basic_any A' m c' ys _ HY.out (by omega)).mono ?_
    rintro e w12 ⟨rfl, hb⟩
    replace HX := hide (HX.out.on hb)
    replace HY := hide (HY.out.on hb)
    replace S := hide (S.out.on hb)
    have B12 := hide (B11.out.trans (hb.mono B11.out.size))
    clear hb
    rw [q2e.out]
    go_wp2_with fail
    go_ret
    exact ⟨ret_bool (by simp), B12.out⟩
  · have hz : (((n : Int) % 3) != 0) = true := by rw [bne_iff_ne]; omega
    clear h3
    go_enter Try.func8, Try.ntmps8
    go_wp2_with fail
    refine (copy_any A n c xs _ HX.out (by omega)).mono ?_
    rintro e w1 ⟨rfl, hb1, hg1⟩
    have B1 := hide hb1
    have O1 := hide (Own.of_block (base := w.heap.size) (n := n) hg1 (Nat.le_refl _) (by have := HL.out; simpa using this) (by unfold maxLen; omega))
    have E1 := hide (HY.out.below hb1 (Nat.le_refl _))
    clear hb1 hg1
    go_wp2_with (at_builtin; go_must (with_reducible refine wpList_app rfl (.tmp 7) (.tmp 8) 22 rfl (.int .u8 0) 1 Try.underlying22 info_u8 (cells_int _ _) rfl O1.out rfl E1.out.sl (one_bytes ys) (by unfold maxLen; omega) (by omega) B1.out.size ?_))
    intro A2 c2 w2 hown hgr hat
    have B2 := hide (below_of_grown B1.out hgr B1.out.size (O1.out.row_ge))
    have S : Hid (SlB w2 w2.heap.size A2 (n + m) (xs ++ ys)) := hide (by have := hown.sl; unfold SlB; rwa [List.map_append])
    replace HX := hide (HX.out.on B2.out)
    replace HY := hide (HY.out.on B2.out)
    clear hown hgr hat O1 E1
    go_wp2_with fail
    refine (known_any _).mono ?_
    rintro e w3 ⟨rfl, hb⟩
    replace HX := hide (HX.out.on hb)
    replace HY := hide (HY.out.on hb)
    replace S := hide (S.out.on hb)
    have B3 := hide (B2.out.trans (hb.mono B2.out.size))
    clear hb
    go_wp2_with fail
    refine (hex_any A2 (n + m) c2 (xs ++ ys) _ S.out (by omega)).mono ?_
    rintro e w4 ⟨rfl, hb⟩
    replace HX := hide (HX.out.on hb)
    replace HY := hide (HY.out.on hb)
    replace S := hide (S.out.on hb)
    have B4 := hide (B3.out.trans (hb.mono B3.out.size))
    clear hb
    rw [J1.out]
    go_wp2_with fail
    refine (hex_any A n c xs _ HX.out (by omega)).mono ?_
    rintro e w5 ⟨rfl, hb⟩
    replace HX := hide (HX.out.on hb)
    replace HY := hide (HY.out.on hb)
    replace S := hide (S.out.on hb)
    have B5 := hide (B4.out.trans (hb.mono B4.out.size))
    clear hb
    rw [H1.out]
    go_wp2_with fail
    refine (hex_any A' m c' ys _ HY.out (by omega)).mono ?_
    rintro e w6 ⟨rfl, hb⟩
    replace HX := hide (HX.out.on hb)
    replace HY := hide (HY.out.on hb)
    replace S := hide (S.out.on hb)
    have B6 := hide (B5.out.trans (hb.mono B5.out.size))
    clear hb
    rw [H2.out]
    go_wp2_with fail
    go_ret
    exact ⟨ret_bool (by simp), B6.out⟩

theorem len_none {w : World} {A : Option Addr} {m : Nat} {B : Nat} (h : SlB w B A m ((none : Option (List UInt8)).getD [])) : m = 0 := by have := h.len; simpa using this.symm

set_option maxRecDepth 100000 in
set_option maxHeartbeats 1000000 in
theorem forth_walk (u : ByteArray) (w : World) (hn : u.size ≤ 140737488351232) :
    Calls Try.prog 13 #[.string u] w fun e w' => e = .returned (.bool true) ∧ Below w.heap.size w w' := by
  obtain ⟨r1, hr1⟩ : ∃ r, r = Oct.unhexL u.data.toList := ⟨_, rfl⟩
  obtain ⟨r2, hr2⟩ : ∃ r, r = Oct.unwebL Oct.webS u.data.toList := ⟨_, rfl⟩
  obtain ⟨r3, hr3⟩ : ∃ r, r = Oct.unbasicL u.data.toList := ⟨_, rfl⟩
  have N1 := hide (fun b (h : r1 = some b) => show strB (Oct.hexL b) = u by rw [Oct.hex_unhex _ _ (hr1.symm.trans h), strB_eq])
  have N2 := hide (fun b (h : r2 = some b) => show strB (Oct.webL Oct.webS b) = u by rw [Oct.web_unweb Oct.webS_ok (hr2.symm.trans h), strB_eq])
  have N3 := hide (fun b (h : r3 = some b) => show strB (Oct.basicL b) = u by rw [Oct.basic_unbasic (hr3.symm.trans h), strB_eq])
  have L1 := hide (fun b (h : r1 = some b) => show b.length ≤ 140737488351232 by have h1 := congrArg ByteArray.size (N1.out b h); rw [strB_size, Oct.hexL_length] at h1; omega)
  have L2 := hide (fun b (h : r2 = some b) => show b.length ≤ 140737488351232 by have h1 := congrArg ByteArray.size (N2.out b h); rw [strB_size, Oct.webL_length] at h1; omega)
  have L3 := hide (fun b (h : r3 = some b) => show b.length ≤ 140737488351232 by have h1 := congrArg ByteArray.size (N3.out b h); rw [strB_size, Oct.basicL_length] at h1; omega)
  have R1 := hide hr1.symm; have R2 := hide hr2.symm; have R3 := hide hr3.symm
  clear hr1 hr2 hr3
  rcases r1 with _ | b1 <;> rcases r2 with _ | b2 <;> rcases r3 with _ | b3
  · go_enter Try.func13, Try.ntmps13
    go_wp2_with fail
    refine (unhex_any u _ (by omega) (by omega)).mono ?_
    rintro e w1 ⟨A_S1, m_S1, c_S1, rfl, ho, hb⟩
    rw [R1.out] at ho ⊢
    rw [errI_none]
    have B1 := hide (hb)
    clear hb
    have S1 := hide ho.slb; clear ho
    obtain rfl := len_none S1.out
    go_wp2_with fail
    refine (unweb_any u _ (by omega)).mono ?_
    rintro e w2 ⟨A_S2, m_S2, c_S2, rfl, ho, hb⟩
    rw [R2.out] at ho ⊢
    rw [errI_none]
    replace S1 := hide (S1.out.on hb)
    have B2 := hide (B1.out.trans (hb.mono B1.out.size))
    clear hb
    have S2 := hide ho.slb; clear ho
    obtain rfl := len_none S2.out
    go_wp2_with fail
    refine (unbasic_any u _ (by omega)).mono ?_
    rintro e w3 ⟨A_S3, m_S3, c_S3, rfl, ho, hb⟩
    rw [R3.out] at ho ⊢
    rw [errI_none]
    replace S1 := hide (S1.out.on hb)
    replace S2 := hide (S2.out.on hb)
    have B3 := hide (B2.out.trans (hb.mono B2.out.size))
    clear hb
    have S3 := hide ho.slb; clear ho
    obtain rfl := len_none S3.out
    go_wp2_with fail
    refine (known_any _).mono ?_
    rintro e w4 ⟨rfl, hb⟩
    replace S1 := hide (S1.out.on hb)
    replace S2 := hide (S2.out.on hb)
    replace S3 := hide (S3.out.on hb)
    have B4 := hide (B3.out.trans (hb.mono B3.out.size))
    clear hb
    go_wp2_with fail
    go_ret
    exact ⟨ret_bool (by simp), B4.out⟩
  · go_enter Try.func13, Try.ntmps13
    go_wp2_with fail
    refine (unhex_any u _ (by omega) (by omega)).mono ?_
    rintro e w1 ⟨A_S1, m_S1, c_S1, rfl, ho, hb⟩
    rw [R1.out] at ho ⊢
    rw [errI_none]
    have B1 := hide (hb)
    clear hb
    have S1 := hide ho.slb; clear ho
    obtain rfl := len_none S1.out
    go_wp2_with fail
    refine (unweb_any u _ (by omega)).mono ?_
    rintro e w2 ⟨A_S2, m_S2, c_S2, rfl, ho, hb⟩
    rw [R2.out] at ho ⊢
    rw [errI_none]
    replace S1 := hide (S1.out.on hb)
    have B2 := hide (B1.out.trans (hb.mono B1.out.size))
    clear hb
    have S2 := hide ho.slb; clear ho
    obtain rfl := len_none S2.out
    go_wp2_with fail
    refine (unbasic_any u _ (by omega)).mono ?_
    rintro e w3 ⟨A_S3, m_S3, c_S3, rfl, ho, hb⟩
    rw [R3.out] at ho ⊢
    rw [errI_some]
    replace S1 := hide (S1.out.on hb)
    replace S2 := hide (S2.out.on hb)
    have B3 := hide (B2.out.trans (hb.mono B2.out.size))
    clear hb
    have S3 := hide ho.slb; clear ho
    have M3 : Hid (m_S3 ≤ 140737488351232) := hide (by have := S3.out.len; have := L3.out _ rfl; simp at *; omega)
    go_wp2_with fail
    refine (known_any _).mono ?_
    rintro e w4 ⟨rfl, hb⟩
    replace S1 := hide (S1.out.on hb)
    replace S2 := hide (S2.out.on hb)
    replace S3 := hide (S3.out.on hb)
    have B4 := hide (B3.out.trans (hb.mono B3.out.size))
    clear hb
    go_wp2_with fail
    refine (basic_any _ _ _ b3 _ S3.out (by have := M3.out; omega)).mono ?_
    rintro e w5 ⟨rfl, hb⟩
    replace S1 := hide (S1.out.on hb)
    replace S2 := hide (S2.out.on hb)
    replace S3 := hide (S3.out.on hb)
    have B5 := hide (B4.out.trans (hb.mono B4.out.size))
    clear hb
    rw [N3.out _ rfl]
    go_wp2_with fail
    go_ret
    exact ⟨ret_bool (by simp), B5.out⟩
  · go_enter Try.func13, Try.ntmps13
    go_wp2_with fail
    refine (unhex_any u _ (by omega) (by omega)).mono ?_
    rintro e w1 ⟨A_S1, m_S1, c_S1, rfl, ho, hb⟩
    rw [R1.out] at ho ⊢
    rw [errI_none]
    have B1 := hide (hb)
    clear hb
    have S1 := hide ho.slb; clear ho
    obtain rfl := len_none S1.out
    go_wp2_with fail
    refine (unweb_any u _ (by omega)).mono ?_
    rintro e w2 ⟨A_S2, m_S2, c_S2, rfl, ho, hb⟩
    rw [R2.out] at ho ⊢
    rw [errI_some]
    replace S1 := hide (S1.out.on hb)
    have B2 := hide (B1.out.trans (hb.mono B1.out.size))
    clear hb
    have S2 := hide ho.slb; clear ho
    have M2 : Hid (m_S2 ≤ 140737488351232) := hide (by have := S2.out.len; have := L2.out _ rfl; simp at *; omega)
    go_wp2_with fail
    refine (unbasic_any u _ (by omega)).mono ?_
    rintro e w3 ⟨A_S3, m_S3, c_S3, rfl, ho, hb⟩
    rw [R3.out] at ho ⊢
    rw [errI_none]
    replace S1 := hide (S1.out.on hb)
    replace S2 := hide (S2.out.on hb)
    have B3 := hide (B2.out.trans (hb.mono B2.out.size))
    clear hb
    have S3 := hide ho.slb; clear ho
    obtain rfl := len_none S3.out
    go_wp2_with fail
    refine (known_any _).mono ?_
    rintro e w4 ⟨rfl, hb⟩
    replace S1 := hide (S1.out.on hb)
    replace S2 := hide (S2.out.on hb)
    replace S3 := hide (S3.out.on hb)
    have B4 := hide (B3.out.trans (hb.mono B3.out.size))
    clear hb
    go_wp2_with fail
    refine (web_any _ _ _ b2 _ S2.out (by have := M2.out; omega)).mono ?_
    rintro e w5 ⟨rfl, hb⟩
    replace S1 := hide (S1.out.on hb)
    replace S2 := hide (S2.out.on hb)
    replace S3 := hide (S3.out.on hb)
    have B5 := hide (B4.out.trans (hb.mono B4.out.size))
    clear hb
    rw [N2.out _ rfl]
    go_wp2_with fail
    go_ret
    exact ⟨ret_bool (by simp), B5.out⟩
  · go_enter Try.func13, Try.ntmps13
    go_wp2_with fail
    refine (unhex_any u _ (by omega) (by omega)).mono ?_
    rintro e w1 ⟨A_S1, m_S1, c_S1, rfl, ho, hb⟩
    rw [R1.out] at ho ⊢
    rw [errI_none]
    have B1 := hide (hb)
    clear hb
    have S1 := hide ho.slb; clear ho
    obtain rfl := len_none S1.out
    go_wp2_with fail
    refine (unweb_any u _ (by omega)).mono ?_
    rintro e w2 ⟨A_S2, m_S2, c_S2, rfl, ho, hb⟩
    rw [R2.out] at ho ⊢
    rw [errI_some]
    replace S1 := hide (S1.out.on hb)
    have B2 := hide (B1.out.trans (hb.mono B1.out.size))
    clear hb
    have S2 := hide ho.slb; clear ho
    have M2 : Hid (m_S2 ≤ 140737488351232) := hide (by have := S2.out.len; have := L2.out _ rfl; simp at *; omega)
    go_wp2_with fail
    refine (unbasic_any u _ (by omega)).mono ?_
    rintro e w3 ⟨A_S3, m_S3, c_S3, rfl, ho, hb⟩
    rw [R3.out] at ho ⊢
    rw [errI_some]
    replace S1 := hide (S1.out.on hb)
    replace S2 := hide (S2.out.on hb)
    have B3 := hide (B2.out.trans (hb.mono B2.out.size))
    clear hb
    have S3 := hide ho.slb; clear ho
    have M3 : Hid (m_S3 ≤ 140737488351232) := hide (by have := S3.out.len; have := L3.out _ rfl; simp at *; omega)
    go_wp2_with fail
    refine (known_any _).mono ?_
    rintro e w4 ⟨rfl, hb⟩
    replace S1 := hide (S1.out.on hb)
    replace S2 := hide (S2.out.on hb)
    replace S3 := hide (S3.out.on hb)
    have B4 := hide (B3.out.trans (hb.mono B3.out.size))
    clear hb
    go_wp2_with fail
    refine (web_any _ _ _ b2 _ S2.out (by have := M2.out; omega)).mono ?_
    rintro e w5 ⟨rfl, hb⟩
    replace S1 := hide (S1.out.on hb)
    replace S2 := hide (S2.out.on hb)
    replace S3 := hide (S3.out.on hb)
    have B5 := hide (B4.out.trans (hb.mono B4.out.size))
    clear hb
    rw [N2.out _ rfl]
    go_wp2_with fail
    refine (basic_any _ _ _ b3 _ S3.out (by have := M3.out; omega)).mono ?_
    rintro e w6 ⟨rfl, hb⟩
    replace S1 := hide (S1.out.on hb)
    replace S2 := hide (S2.out.on hb)
    replace S3 := hide (S3.out.on hb)
    have B6 := hide (B5.out.trans (hb.mono B5.out.size))
    clear hb
    rw [N3.out _ rfl]
    go_wp2_with fail
    go_ret
    exact ⟨ret_bool (by simp), B6.out⟩
  · go_enter Try.func13, Try.ntmps13
    go_wp2_with fail
    refine (unhex_any u _ (by omega) (by omega)).mono ?_
    rintro e w1 ⟨A_S1, m_S1, c_S1, rfl, ho, hb⟩
    rw [R1.out] at ho ⊢
    rw [errI_some]
    have B1 := hide (hb)
    clear hb
    have S1 := hide ho.slb; clear ho
    have M1 : Hid (m_S1 ≤ 140737488351232) := hide (by have := S1.out.len; have := L1.out _ rfl; simp at *; omega)
    go_wp2_with fail
    refine (unweb_any u _ (by omega)).mono ?_
    rintro e w2 ⟨A_S2, m_S2, c_S2, rfl, ho, hb⟩
    rw [R2.out] at ho ⊢
    rw [errI_none]
    replace S1 := hide (S1.out.on hb)
    have B2 := hide (B1.out.trans (hb.mono B1.out.size))
    clear hb
    have S2 := hide ho.slb; clear ho
    obtain rfl := len_none S2.out
    go_wp2_with fail
    refine (unbasic_any u _ (by omega)).mono ?_
    rintro e w3 ⟨A_S3, m_S3, c_S3, rfl, ho, hb⟩
    rw [R3.out] at ho ⊢
    rw [errI_none]
    replace S1 := hide (S1.out.on hb)
    replace S2 := hide (S2.out.on hb)
    have B3 := hide (B2.out.trans (hb.mono B2.out.size))
    clear hb
    have S3 := hide ho.slb; clear ho
    obtain rfl := len_none S3.out
    go_wp2_with fail
    refine (known_any _).mono ?_
    rintro e w4 ⟨rfl, hb⟩
    replace S1 := hide (S1.out.on hb)
    replace S2 := hide (S2.out.on hb)
    replace S3 := hide (S3.out.on hb)
    have B4 := hide (B3.out.trans (hb.mono B3.out.size))
    clear hb
    go_wp2_with fail
    refine (hex_any _ _ _ b1 _ S1.out (by have := M1.out; omega)).mono ?_
    rintro e w5 ⟨rfl, hb⟩
    replace S1 := hide (S1.out.on hb)
    replace S2 := hide (S2.out.on hb)
    replace S3 := hide (S3.out.on hb)
    have B5 := hide (B4.out.trans (hb.mono B4.out.size))
    clear hb
    rw [N1.out _ rfl]
    go_wp2_with fail
    go_ret
    exact ⟨ret_bool (by simp), B5.out⟩
  · go_enter Try.func13, Try.ntmps13
    go_wp2_with fail
    refine (unhex_any u _ (by omega) (by omega)).mono ?_
    rintro e w1 ⟨A_S1, m_S1, c_S1, rfl, ho, hb⟩
    rw [R1.out] at ho ⊢
    rw [errI_some]
    have B1 := hide (hb)
    clear hb
    have S1 := hide ho.slb; clear ho
    have M1 : Hid (m_S1 ≤ 140737488351232) := hide (by have := S1.out.len; have := L1.out _ rfl; simp at *; omega)
    go_wp2_with fail
    refine (unweb_any u _ (by omega)).mono ?_
    rintro e w2 ⟨A_S2, m_S2, c_S2, rfl, ho, hb⟩
    rw [R2.out] at ho ⊢
    rw [errI_none]
    replace S1 := hide (S1.out.on hb)
    have B2 := hide (B1.out.trans (hb.mono B1.out.size))
    clear hb
    have S2 := hide ho.slb; clear ho
    obtain rfl := len_none S2.out
    go_wp2_with fail
    refine (unbasic_any u _ (by omega)).mono ?_
    rintro e w3 ⟨A_S3, m_S3, c_S3, rfl, ho, hb⟩
    rw [R3.out] at ho ⊢
    rw [errI_some]
    replace S1 := hide (S1.out.on hb)
    replace S2 := hide (S2.out.on hb)
    have B3 := hide (B2.out.trans (hb.mono B2.out.size))
    clear hb
    have S3 := hide ho.slb; clear ho
    have M3 : Hid (m_S3 ≤ 140737488351232) := hide (by have := S3.out.len; have := L3.out _ rfl; simp at *; omega)
    go_wp2_with fail
    refine (known_any _).mono ?_
    rintro e w4 ⟨rfl, hb⟩
    replace S1 := hide (S1.out.on hb)
    replace S2 := hide (S2.out.on hb)
    replace S3 := hide (S3.out.on hb)
    have B4 := hide (B3.out.trans (hb.mono B3.out.size))
    clear hb
    go_wp2_with fail
    refine (hex_any _ _ _ b1 _ S1.out (by have := M1.out; omega)).mono ?_
    rintro e w5 ⟨rfl, hb⟩
    replace S1 := hide (S1.out.on hb)
    replace S2 := hide (S2.out.on hb)
    replace S3 := hide (S3.out.on hb)
    have B5 := hide (B4.out.trans (hb.mono B4.out.size))
    clear hb
    rw [N1.out _ rfl]
    go_wp2_with fail
    refine (basic_any _ _ _ b3 _ S3.out (by have := M3.out; omega)).mono ?_
    rintro e w6 ⟨rfl, hb⟩
    replace S1 := hide (S1.out.on hb)
    replace S2 := hide (S2.out.on hb)
    replace S3 := hide (S3.out.on hb)
    have B6 := hide (B5.out.trans (hb.mono B5.out.size))
    clear hb
    rw [N3.out _ rfl]
    go_wp2_with fail
    go_ret
    exact ⟨ret_bool (by simp), B6.out⟩
  · go_enter Try.func13, Try.ntmps13
    go_wp2_with fail
    refine (unhex_any u _ (by omega) (by omega)).mono ?_
    rintro e w1 ⟨A_S1, m_S1, c_S1, rfl, ho, hb⟩
    rw [R1.out] at ho ⊢
    rw [errI_some]
    have B1 := hide (hb)
    clear hb
    have S1 := hide ho.slb; clear ho
    have M1 : Hid (m_S1 ≤ 140737488351232) := hide (by have := S1.out.len; have := L1.out _ rfl; simp at *; omega)
    go_wp2_with fail
    refine (unweb_any u _ (by omega)).mono ?_
    rintro e w2 ⟨A_S2, m_S2, c_S2, rfl, ho, hb⟩
    rw [R2.out] at ho ⊢
    rw [errI_some]
    replace S1 := hide (S1.out.on hb)
    have B2 := hide (B1.out.trans (hb.mono B1.out.size))
    clear hb
    have S2 := hide ho.slb; clear ho
    have M2 : Hid (m_S2 ≤ 140737488351232) := hide (by have := S2.out.len; have := L2.out _ rfl; simp at *; omega)
    go_wp2_with fail
    refine (unbasic_any u _ (by omega)).mono ?_
    rintro e w3 ⟨A_S3, m_S3, c_S3, rfl, ho, hb⟩
    rw [R3.out] at ho ⊢
    rw [errI_none]
    replace S1 := hide (S1.out.on hb)
    replace S2 := hide (S2.out.on hb)
    have B3 := hide (B2.out.trans (hb.mono B2.out.size))
    clear hb
    have S3 := hide ho.slb; clear ho
    obtain rfl := len_none S3.out
    go_wp2_with fail
    refine (known_any _).mono ?_
    rintro e w4 ⟨rfl, hb⟩
    replace S1 := hide (S1.out.on hb)
    replace S2 := hide (S2.out.on hb)
    replace S3 := hide (S3.out.on hb)
    have B4 := hide (B3.out.trans (hb.mono B3.out.size))
    clear hb
    go_wp2_with fail
    refine (hex_any _ _ _ b1 _ S1.out (by have := M1.out; omega)).mono ?_
    rintro e w5 ⟨rfl, hb⟩
    replace S1 := hide (S1.out.on hb)
    replace S2 := hide (S2.out.on hb)
    replace S3 := hide (S3.out.on hb)
    have B5 := hide (B4.out.trans (hb.mono B4.out.size))
    clear hb
    rw [N1.out _ rfl]
    go_wp2_with fail
    refine (web_any _ _ _ b2 _ S2.out (by have := M2.out; omega)).mono ?_
    rintro e w6 ⟨rfl, hb⟩
    replace S1 := hide (S1.out.on hb)
    replace S2 := hide (S2.out.on hb)
    replace S3 := hide (S3.out.on hb)
    have B6 := hide (B5.out.trans (hb.mono B5.out.size))
    clear hb
    rw [N2.out _ rfl]
    go_wp2_with fail
    go_ret
    exact ⟨ret_bool (by simp), B6.out⟩
  · go_enter Try.func13, Try.ntmps13
    go_wp2_with fail
    refine (unhex_any u _ (by omega) (by omega)).mono ?_
    rintro e w1 ⟨A_S1, m_S1, c_S1, rfl, ho, hb⟩
    rw [R1.out] at ho ⊢
    rw [errI_some]
    have B1 := hide (hb)
    clear hb
    have S1 := hide ho.slb; clear ho
    have M1 : Hid (m_S1 ≤ 140737488351232) := hide (by have := S1.out.len; have := L1.out _ rfl; simp at *; omega)
    go_wp2_with fail
    refine (unweb_any u _ (by omega)).mono ?_
    rintro e w2 ⟨A_S2, m_S2, c_S2, rfl, ho, hb⟩
    rw [R2.out] at ho ⊢
    rw [errI_some]
    replace S1 := hide (S1.out.on hb)
    have B2 := hide (B1.out.trans (hb.mono B1.out.size))
    clear hb
    have S2 := hide ho.slb; clear ho
    have M2 : Hid (m_S2 ≤ 140737488351232) := hide (by have := S2.out.len; have := L2.out _ rfl; simp at *; omega)
    go_wp2_with fail
    refine (unbasic_any u _ (by omega)).mono ?_
    rintro e w3 ⟨A_S3, m_S3, c_S3, rfl, ho, hb⟩
    rw [R3.out] at ho ⊢
    rw [errI_some]
    replace S1 := hide (S1.out.on hb)
    replace S2 := hide (S2.out.on hb)
    have B3 := hide (B2.out.trans (hb.mono B2.out.size))
    clear hb
    have S3 := hide ho.slb; clear ho
    have M3 : Hid (m_S3 ≤ 140737488351232) := hide (by have := S3.out.len; have := L3.out _ rfl; simp at *; omega)
    go_wp2_with fail
    refine (known_any _).mono ?_
    rintro e w4 ⟨rfl, hb⟩
    replace S1 := hide (S1.out.on hb)
    replace S2 := hide (S2.out.on hb)
    replace S3 := hide (S3.out.on hb)
    have B4 := hide (B3.out.trans (hb.mono B3.out.size))
    clear hb
    go_wp2_with fail
    refine (hex_any _ _ _ b1 _ S1.out (by have := M1.out; omega)).mono ?_
    rintro e w5 ⟨rfl, hb⟩
    replace S1 := hide (S1.out.on hb)
    replace S2 := hide (S2.out.on hb)
    replace S3 := hide (S3.out.on hb)
    have B5 := hide (B4.out.trans (hb.mono B4.out.size))
    clear hb
    rw [N1.out _ rfl]
    go_wp2_with fail
    refine (web_any _ _ _ b2 _ S2.out (by have := M2.out; omega)).mono ?_
    rintro e w6 ⟨rfl, hb⟩
    replace S1 := hide (S1.out.on hb)
    replace S2 := hide (S2.out.on hb)
    replace S3 := hide (S3.out.on hb)
    have B6 := hide (B5.out.trans (hb.mono B5.out.size))
    clear hb
    rw [N2.out _ rfl]
    go_wp2_with fail
    refine (basic_any _ _ _ b3 _ S3.out (by have := M3.out; omega)).mono ?_
    rintro e w7 ⟨rfl, hb⟩
    replace S1 := hide (S1.out.on hb)
    replace S2 := hide (S2.out.on hb)
    replace S3 := hide (S3.out.on hb)
    have B7 := hide (B6.out.trans (hb.mono B6.out.size))
    clear hb
    rw [N3.out _ rfl]
    go_wp2_with fail
    go_ret
    exact ⟨ret_bool (by simp), B7.out⟩
end Go.Proofs.Ythfoaefdifbfaaa
