/-
  The walk of signetref01.Unbasic, and of OctetUnbasics.
-/
import Derived.Test.YthfoaefdifbfaaaOctX
namespace Go.Proofs.Ythfoaefdifbfaaa
open Go.RowKit

/-- the whole bytes of a text without its last k signs -/
def offB (ts : List UInt8) (k : Nat) : List UInt8 := Oct.bytesOf (Oct.textBits Oct.basicS (ts.take (ts.length - k)))
theorem offB_yes {ts : List UInt8} {k : Nat} (hk : k < 3) (hl : k ≤ ts.length) (h : Oct.basicL (offB ts k) = ts) : Oct.unbasicL ts = some (offB ts k) := Oct.unbasic_at (bs := []) (by omega) hl h
theorem offB_none {ts : List UInt8} (h : ∀ k, k < 3 → k ≤ ts.length → Oct.basicL (offB ts k) ≠ ts) : Oct.unbasicL ts = none := by
  cases hu : Oct.unbasicL ts with
  | none => rfl
  | some bs =>
    have h1 := Oct.unbasic_of hu
    have h2 := Oct.eqs_le ts
    exact absurd (by unfold offB; rw [h1.1]; exact h1.2) (h (Oct.eqs ts) (by omega) h2.2)
theorem offB_length (ts : List UInt8) (k : Nat) : (offB ts k).length ≤ ts.length := by
  unfold offB Oct.bytesOf
  rw [List.length_map, Oct.grps_length, Oct.textBits_length, List.length_take]
  omega

set_option maxHeartbeats 1000000 in
theorem runbasic_any (u : ByteArray) (w : World) (hn : u.size ≤ 1048576) :
    Calls Try.prog 23 #[.string u] w fun e w' => Gives (Oct.unbasicL u.data.toList) w e w' := by
  obtain ⟨ts, hts⟩ : ∃ ts, ts = u.data.toList := ⟨_, rfl⟩
  have hl : ts.length = u.size := by rw [hts]; rfl
  rw [← hts]
  have HL := hide hl; have HT := hide hts
  clear hl hts
  go_enter Try.func23, Try.ntmps23
  go_wp2_with fail
  go_loopw [4] (fun v4 wr => ∃ k : Nat, v4 = .int .i64 k ∧ k ≤ 3 ∧ Hid (∀ j, j < k → j ≤ ts.length → Oct.basicL (offB ts j) ≠ ts) ∧ Hid (Below w.heap.size w wr)) (fun v _ => 3 - (intOf v).toNat)
  case atStart => exact ⟨0, rfl, by omega, hide (fun j h => absurd h (by omega)), hide (Below.refl _ _)⟩
  case round =>
    obtain ⟨k, rfl, hk, HN, HR⟩ := hrel
    by_cases h3 : k < 3
    · by_cases hle : k ≤ u.size
      · obtain ⟨q, hq⟩ : ∃ q, q + k = u.size := ⟨u.size - k, by omega⟩
        have hqi : (u.size : Int) - (k : Int) = (q : Int) := by omega
        have hqu : q ≤ u.size := by omega
        have HX : Hid ((u.extract 0 q).data.toList = ts.take (ts.length - k)) := hide (by rw [ext_take, HT.out]; congr 1; have := HL.out; rw [HT.out] at this; omega)
        have HXS : Hid ((u.extract 0 q).size ≤ 1073741824) := hide (by rw [ByteArray.size_extract]; omega)
        have HLEN : Hid ((offB ts k).length ≤ 1048576) := hide (by have := offB_length ts k; have := HL.out; omega)
        clear hq
        have hkle : (k : Int) ≤ (u.size : Int) := by omega
        by_cases heq : Oct.basicL (offB ts k) = ts
        · have HS : Hid (strB (Oct.basicL (offB ts k)) = u) := hide (by rw [heq, HT.out]; rfl)
          have HY := hide (offB_yes h3 (by have := HL.out; omega) heq)
          clear heq
          go_wp2_with fail
          refine (runsixes_any (u.extract 0 q) false _ HXS.out).mono ?_
          rintro e w1 ⟨A, m, c, rfl, ho, hb⟩
          rw [show signsOf false = Oct.basicS from rfl, HX.out, ← offB] at ho
          have HO := hide ho
          have HM := hide ho.slb.len
          have HB : Hid (Below w.heap.size w w1) := hide (HR.out.trans (hb.mono HR.out.size))
          have HZ := hide HR.out.size
          clear ho hb
          go_wp2_with fail
          refine (rbasic_any A m c _ _ HO.out.slb (by have := HM.out; have := HLEN.out; omega)).mono ?_
          rintro e w2 ⟨rfl, hb⟩
          rw [HS.out]
          have HO2 := hide ((HO.out.lower HZ.out).below hb)
          have HB2 := hide (HB.out.trans (hb.mono HB.out.size))
          clear hb
          go_wp2_with fail
          go_ret2
          exact Gives.yes HY.out HO2.out HB2.out
        · have HNE : Hid (((strB (Oct.basicL (offB ts k))).toList == u.toList) = false) := hide (by
            rw [beq_eq_false_iff_ne]; intro h; rw [ByteArray.toList_eq, ByteArray.toList_eq] at h; exact heq (h.trans HT.out.symm))
          have HN2 : Hid (∀ j, j < k + 1 → j ≤ ts.length → Oct.basicL (offB ts j) ≠ ts) := hide (fun j h1 h2 => by
            rcases Nat.lt_or_ge j k with h | h
            · exact HN.out j h h2
            · obtain rfl : j = k := by omega
              exact heq)
          clear heq
          go_wp2_with fail
          refine (runsixes_any (u.extract 0 q) false _ HXS.out).mono ?_
          rintro e w1 ⟨A, m, c, rfl, ho, hb⟩
          rw [show signsOf false = Oct.basicS from rfl, HX.out, ← offB] at ho
          have HO := hide ho
          have HM := hide ho.slb.len
          have HB : Hid (Below w.heap.size w w1) := hide (HR.out.trans (hb.mono HR.out.size))
          clear ho hb
          go_wp2_with fail
          refine (rbasic_any A m c _ _ HO.out.slb (by have := HM.out; have := HLEN.out; omega)).mono ?_
          rintro e w2 ⟨rfl, hb⟩
          have hne := HNE.out
          generalize strB (Oct.basicL (offB ts k)) = s1 at hne ⊢
          have HB2 := hide (HB.out.trans (hb.mono HB.out.size))
          clear hb
          go_wp2_with fail
          go_roundw
          case rel => exact ⟨k + 1, by go_num, by omega, HN2, HB2⟩
          case measure => simp [intOf]; omega
      · have HE := hide (offB_none (ts := ts) (fun j h1 h2 => HN.out j (by have := HL.out; omega) h2))
        have hd : decide ((k : Int) ≤ (u.size : Int)) = false := by rw [decide_eq_false_iff_not]; omega
        go_wp2_with fail
        go_ret2
        exact Gives.no HE.out HR.out
    · have HE := hide (offB_none (ts := ts) (fun j h1 h2 => HN.out j (by omega) h2))
      go_wp2_with fail
      go_ret2
      exact Gives.no HE.out HR.out

set_option maxHeartbeats 400000 in
theorem unbasics_walk (u : ByteArray) (w : World) (hn : u.size ≤ 1048576) :
    Calls Try.prog 6 #[.string u] w fun e w' => e = .returned (.bool true) ∧ Below w.heap.size w w' := by
  obtain ⟨r, hr⟩ : ∃ r, r = Oct.unbasicL u.data.toList := ⟨_, rfl⟩
  have HL : Hid ((r.getD []).length ≤ 140737488351232) := hide (by
    cases hq : r with
    | none => simp
    | some b =>
      have h1 := congrArg List.length (Oct.basic_unbasic (hr.symm.trans hq))
      rw [Oct.basicL_length] at h1
      have : u.data.toList.length = u.size := rfl
      simp; omega)
  have R := hide hr.symm
  clear hr
  obtain ⟨ev, hev⟩ : ∃ ev, ev = errI r := ⟨_, rfl⟩
  have EV := hide hev.symm
  clear hev
  go_enter Try.func6, Try.ntmps6
  go_wp2_with fail
  refine (unbasic_any u _ (by omega)).mono ?_
  rintro e w1 ⟨A1, m1, c1, rfl, ho, hb⟩
  rw [R.out] at ho ⊢
  rw [EV.out]
  have S1 := hide ho.slb
  have B1 := hide hb
  clear ho hb
  go_wp2_with fail
  refine (runbasic_any u _ hn).mono ?_
  rintro e w2 ⟨A2, m2, c2, rfl, ho, hb⟩
  rw [R.out] at ho ⊢
  rw [EV.out]
  have S2 := hide ho.slb
  replace S1 := hide (S1.out.on hb)
  have B2 := hide (B1.out.trans (hb.mono B1.out.size))
  clear ho hb
  go_wp2_with fail
  refine (known_any _).mono ?_
  rintro e w3 ⟨rfl, hb⟩
  replace S1 := hide (S1.out.on hb)
  replace S2 := hide (S2.out.on hb)
  have B3 := hide (B2.out.trans (hb.mono B2.out.size))
  clear hb
  have M1 := hide S1.out.len
  have M2 := hide S2.out.len
  go_wp2_with fail
  refine (same_any A1 A2 m1 m2 c1 c2 _ _ _ S1.out S2.out (by have := M1.out; have := HL.out; omega) (by have := M2.out; have := HL.out; omega)).mono ?_
  rintro e w4 ⟨rfl, hb⟩
  have B4 := hide (B3.out.trans (hb.mono B3.out.size))
  clear hb
  rw [decide_eq_true rfl]
  go_wp2_with fail
  go_ret
  exact ⟨ret_bool (by simp), B4.out⟩
end Go.Proofs.Ythfoaefdifbfaaa
