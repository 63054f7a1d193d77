/-
  The walk of signetref01.Unhex, and of OctetUnhexes.
-/
import Derived.Test.YthfoaefdifbfaaaOctR
namespace Go.Proofs.Ythfoaefdifbfaaa
open Go.RowKit

theorem strB_none_tail {ts : List UInt8} {i : Nat} {bs : List UInt8} (h : Oct.unhexL (ts.take (2 * i)) = some bs) (hl : ts.length = 2 * i) : Oct.unhexL ts = some bs := by
  rwa [List.take_of_length_le (by omega)] at h

set_option maxHeartbeats 1000000 in
theorem runhex_any (u : ByteArray) (w : World) (hsz : u.size ≤ 140737488355328) :
    Calls Try.prog 30 #[.string u] w fun e w' => Gives (Oct.unhexL u.data.toList) w e w' := by
  obtain ⟨ts, hts⟩ : ∃ ts, ts = u.data.toList := ⟨_, rfl⟩
  have hl : ts.length = u.size := by rw [hts]; rfl
  rw [← hts]
  have HL := hide hl; have HT := hide hts
  clear hl hts
  go_enter Try.func30, Try.ntmps30
  go_wp2_with fail
  go_loopw [4, 5] (fun v4 v5 wr => ∃ (i j : Nat) (bs : List UInt8) (A2 : Option Addr) (c2 : Nat), j ≤ u.size ∧ v5 = .int .i64 (j : Int) ∧ v4 = .slice A2 i c2 ∧ Hid (j = 2 * i) ∧ Hid (Oct.unhexL (ts.take (2 * i)) = some bs) ∧ Hid (Own wr w.heap.size 5 A2 i c2 (bs.map bv)) ∧ Hid (Below w.heap.size w wr)) (fun _ y _ => u.size - (intOf y).toNat)
  case atStart => exact ⟨0, 0, [], none, 0, by omega, rfl, rfl, hide rfl, hide rfl, hide Own.nil_, hide (Below.refl _ _)⟩
  case round =>
    obtain ⟨i, j, bs, A2, c2, hi, rfl, rfl, HJ, HU, HO, HR⟩ := hrel
    by_cases hlt : j + 1 < u.size
    · have hlt1 : j < u.size := by omega
      have hi2 := hide (show 2 * i + 1 < u.size by have := HJ.out; omega)
      obtain ⟨x, hx⟩ : ∃ x, x = u[j] := ⟨_, rfl⟩
      obtain ⟨y, hy⟩ : ∃ y, y = u[j + 1] := ⟨_, rfl⟩
      have hxx : u[j] = x := hx.symm
      have hyx : u[j + 1] = y := hy.symm
      have HX : Hid (ts[2 * i]? = some x) := hide (by rw [HT.out, ← HJ.out, hx, List.getElem?_eq_getElem (by simpa using hlt1)]; rfl)
      have HY : Hid (ts[2 * i + 1]? = some y) := hide (by rw [HT.out, ← HJ.out, hy, List.getElem?_eq_getElem (by simpa using hlt)]; rfl)
      clear hx hy
      cases hpX : Oct.place Oct.hexS x with
      | none =>
        have K1 : Hid (∀ wx, Calls Try.prog 40 #[.int .u8 (x.toNat : Int)] wx fun e w' => e = .returned (.int .i64 (-1)) ∧ w' = wx) := hide (fun wx => by
          have := rworth_any x wx
          rwa [show worthI Oct.hexS x = -1 by unfold worthI; rw [hpX]] at this)
        have HN : Hid (Oct.unhexL ts = none) := hide (unhex_bad _ _ _ HX.out hpX)
        clear hpX
        go_wp2_with (refine (K1.out _).mono ?_; rintro e w1 ⟨rfl, hw⟩; obtain rfl := hw.symm)
        go_ret2
        exact Gives.no HN.out HR.out
      | some a =>
        have ha16 : a < 16 := (Oct.place_some hpX).2
        have K1 : Hid (∀ wx, Calls Try.prog 40 #[.int .u8 (x.toNat : Int)] wx fun e w' => e = .returned (.int .i64 (a : Int)) ∧ w' = wx) := hide (fun wx => by
          have := rworth_any x wx
          rwa [show worthI Oct.hexS x = (a : Int) by unfold worthI; rw [hpX]] at this)
        cases hpY : Oct.place Oct.hexS y with
        | none =>
          have K2 : Hid (∀ wx, Calls Try.prog 40 #[.int .u8 (y.toNat : Int)] wx fun e w' => e = .returned (.int .i64 (-1)) ∧ w' = wx) := hide (fun wx => by
            have := rworth_any y wx
            rwa [show worthI Oct.hexS y = -1 by unfold worthI; rw [hpY]] at this)
          have HN : Hid (Oct.unhexL ts = none) := hide (unhex_bad _ _ _ HY.out hpY)
          clear hpX hpY
          go_wp2_with (with_reducible first | (refine (K1.out _).mono ?_; rintro e w1 ⟨rfl, hw⟩; obtain rfl := hw.symm) | (refine (K2.out _).mono ?_; rintro e w1 ⟨rfl, hw⟩; obtain rfl := hw.symm))
          go_ret2
          exact Gives.no HN.out HR.out
        | some b =>
          have hb16 : b < 16 := (Oct.place_some hpY).2
          have K2 : Hid (∀ wx, Calls Try.prog 40 #[.int .u8 (y.toNat : Int)] wx fun e w' => e = .returned (.int .i64 (b : Int)) ∧ w' = wx) := hide (fun wx => by
            have := rworth_any y wx
            rwa [show worthI Oct.hexS y = (b : Int) by unfold worthI; rw [hpY]] at this)
          obtain ⟨z, hz2⟩ : ∃ z, z = 16 * a + b := ⟨_, rfl⟩
          have hzl : z < 256 := by omega
          have HU2 : Hid (Oct.unhexL (ts.take (2 * (i + 1))) = some (bs ++ [UInt8.ofNat z])) := hide (by
            rw [show 2 * (i + 1) = 2 * i + 1 + 1 by omega, take_snoc HY.out, take_snoc HX.out, List.append_assoc, unhex_snoc _ _ (by simp; have := HL.out; have := hi2.out; omega), HU.out]
            rw [show [x] ++ [y] = [x, y] from rfl, unhex_two hpX hpY, hz2])
          have ww1 : IntKind.i64.wrap ((j : Int) + 1) = ((j + 1 : Nat) : Int) := (IntWalk.i64_in _ (by omega)).trans (by omega)
          have ww2 : IntKind.i64.wrap (16 * (a : Int)) = 16 * (a : Int) := IntWalk.i64_in _ (by omega)
          have ww3 : IntKind.i64.wrap (16 * (a : Int) + (b : Int)) = (z : Int) := (IntWalk.i64_in _ (by omega)).trans (by omega)
          have ww4 : IntKind.u8.wrap (z : Int) = (z : Int) := by rw [IntKind.wrap_u8']; omega
          have hj0 : (0 : Int) ≤ (j : Int) := by omega
          have hju : (j : Int) < (u.size : Int) := by omega
          have hj1 : (0 : Int) ≤ ((j + 1 : Nat) : Int) := by omega
          have hju1 : ((j + 1 : Nat) : Int) < (u.size : Int) := by omega
          have hq1 : i + 1 ≤ maxLen := by have := hi2.out; unfold maxLen; omega
          have hq2 : (i + 1) * 1 ≤ 140737488355328 := by have := hi2.out; omega
          clear hpX hpY hz2
          go_wp2_with (with_reducible first | (refine (K1.out _).mono ?_; rintro e w1 ⟨rfl, hw⟩; obtain rfl := hw.symm) | (refine (K2.out _).mono ?_; rintro e w1 ⟨rfl, hw⟩; obtain rfl := hw.symm))
          have HqB : Hid (w.heap.size ≤ ((wr.alloc (.cells #[.int .u8 (z : Int)] 5)).drew).heap.size) := hide (by have := HR.out.size; rw [World.size_drew, World.size_alloc]; omega)
          have HOa := hide (HO.out.alloc (.cells #[.int .u8 (z : Int)] 5)).drew
          have HSa := hide (Sl.one (w := wr) (v := .int .u8 (z : Int)) (t := 5)).drew
          go_region_held3 (fun w' => True) (trivial)
            ((first
              | with_reducible (refine (K1.out _).mono ?_; rintro e w' ⟨rfl, rfl⟩)
              | with_reducible (refine (K2.out _).mono ?_; rintro e w' ⟨rfl, rfl⟩)
              | (refine step_app (c' := 1) ?_ (.tmp 26) (.tmp 39) 22 ?_ (.int .u8 0) 1 Try.underlying22 info_u8 (cells_int _ _) ?_ HOa.out ?_ HSa.out (one_int _ _) hq1 hq2 HqB.out ?_
                 · rfl
                 · rfl
                 · rfl
                 · rfl
                 intro A3 c3 w3 hown hgr hat)))
          all_goals
            have HR3 : Hid (Below w.heap.size w w3) := hide (below_of_grown (((HR.out.alloc HR.out.size _).drew)) hgr (by have := HR.out.size; rw [World.size_drew, World.size_alloc]; omega) HO.out.row_ge)
            have HO3 : Hid (Own w3 w.heap.size 5 A3 (i + 1) c3 ((bs ++ [UInt8.ofNat z]).map bv)) := hide (by
              rw [List.map_append]
              have e : bv (UInt8.ofNat z) = .int .u8 (z : Int) := by unfold bv; rw [UInt8.toNat_ofNat', show z % 2 ^ 8 = z by omega]
              rw [List.map_singleton, e]; exact hown)
            clear hown hgr hat ww1 ww2 ww3 ww4 HOa HSa HqB
            go_wp2_with fail
            go_roundw
            case rel => exact ⟨i + 1, j + 2, bs ++ [UInt8.ofNat z], A3, c3, by omega, by go_num, rfl, hide (by have := HJ.out; omega), HU2, HO3, HR3⟩
            case measure => simp [intOf]; omega
    · by_cases hodd : u.size % 2 = 1
      · have hz : (((u.size : Int) % 2) == 1) = true := by rw [beq_iff_eq]; omega
        have HN : Hid (Oct.unhexL ts = none) := hide (unhex_odd _ (by have := HL.out; omega))
        clear hodd
        go_wp2_with fail
        go_ret2
        exact Gives.no HN.out HR.out
      · have hz : (((u.size : Int) % 2) == 1) = false := by rw [beq_eq_false_iff_ne]; omega
        have HU2 : Hid (Oct.unhexL ts = some bs) := hide (strB_none_tail HU.out (by have := HL.out; have := HJ.out; omega))
        clear hodd
        go_wp2_with fail
        go_ret2
        exact Gives.yes HU2.out HO.out HR.out

/-- two readings of one text, held against one another -/
theorem sames {r : Option (List UInt8)} {w : World} {A : Option Addr} {m c : Nat} (h : Own w w.heap.size 5 A m c ((r.getD []).map bv)) : SlB w w.heap.size A m (r.getD []) := h.slb

set_option maxHeartbeats 400000 in
theorem unhexes_walk (u : ByteArray) (w : World) (hn : u.size ≤ 140737488351232) :
    Calls Try.prog 11 #[.string u] w fun e w' => e = .returned (.bool true) ∧ Below w.heap.size w w' := by
  obtain ⟨r, hr⟩ : ∃ r, r = Oct.unhexL u.data.toList := ⟨_, rfl⟩
  have HL : Hid ((r.getD []).length ≤ 140737488351232) := hide (by
    cases hq : r with
    | none => simp
    | some b =>
      have h1 := congrArg List.length (Oct.hex_unhex _ _ (hr.symm.trans hq))
      rw [Oct.hexL_length] at h1
      have : u.data.toList.length = u.size := rfl
      simp; omega)
  have R := hide hr.symm
  clear hr
  obtain ⟨ev, hev⟩ : ∃ ev, ev = errI r := ⟨_, rfl⟩
  have EV := hide hev.symm
  clear hev
  go_enter Try.func11, Try.ntmps11
  go_wp2_with fail
  refine (unhex_any u _ (by omega) (by omega)).mono ?_
  rintro e w1 ⟨A1, m1, c1, rfl, ho, hb⟩
  rw [R.out] at ho ⊢
  rw [EV.out]
  have S1 := hide ho.slb
  have B1 := hide hb
  clear ho hb
  go_wp2_with fail
  refine (runhex_any u _ (by omega)).mono ?_
  rintro e w2 ⟨A2, m2, c2, rfl, ho, hb⟩
  rw [R.out] at ho ⊢
  rw [EV.out]
  have S2 := hide ho.slb
  replace S1 := hide (S1.out.on hb)
  have B2 := hide (B1.out.trans (hb.mono B1.out.size))
  clear ho hb
  go_wp2_with fail
  refine (known_any _).mono ?_
  rintro e w3 ⟨rfl, hb⟩
  replace S1 := hide (S1.out.on hb)
  replace S2 := hide (S2.out.on hb)
  have B3 := hide (B2.out.trans (hb.mono B2.out.size))
  clear hb
  have M1 := hide S1.out.len
  have M2 := hide S2.out.len
  go_wp2_with fail
  refine (same_any A1 A2 m1 m2 c1 c2 _ _ _ S1.out S2.out (by have := M1.out; have := HL.out; omega) (by have := M2.out; have := HL.out; omega)).mono ?_
  rintro e w4 ⟨rfl, hb⟩
  have B4 := hide (B3.out.trans (hb.mono B3.out.size))
  clear hb
  rw [decide_eq_true rfl]
  go_wp2_with fail
  go_ret
  exact ⟨ret_bool (by simp), B4.out⟩
end Go.Proofs.Ythfoaefdifbfaaa
