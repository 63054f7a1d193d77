/-
  The walk of signetref01.Unweb, and of OctetUnwebs.
-/
import Derived.Test.YthfoaefdifbfaaaOctW
import Derived.Test.YthfoaefdifbfaaaOctS
namespace Go.Proofs.Ythfoaefdifbfaaa
open Go.RowKit

set_option maxHeartbeats 400000 in
theorem runweb_any (u : ByteArray) (w : World) (hn : u.size ≤ 1048576) :
    Calls Try.prog 28 #[.string u] w fun e w' => Gives (Oct.unwebL Oct.webS u.data.toList) w e w' := by
  obtain ⟨bs, hbs⟩ : ∃ bs, bs = Oct.bytesOf (Oct.textBits Oct.webS u.data.toList) := ⟨_, rfl⟩
  have href := Oct.unweb_ref Oct.webS_ok u.data.toList
  rw [← hbs] at href
  have HLEN : Hid (bs.length ≤ 1048576) := hide (by
    rw [hbs]
    unfold Oct.bytesOf
    rw [List.length_map, Oct.grps_length, Oct.textBits_length]
    have : u.data.toList.length = u.size := rfl
    omega)
  have HBS := hide hbs.symm
  clear hbs
  by_cases heq : Oct.webL Oct.webS bs = u.data.toList
  · rw [if_pos heq] at href
    have HS : Hid (strB (Oct.webL Oct.webS bs) = u) := hide (by rw [heq]; rfl)
    have HR := hide href.symm
    clear heq href
    go_enter Try.func28, Try.ntmps28
    go_wp2_with fail
    refine (runsixes_any u true _ (by omega)).mono ?_
    rintro e w1 ⟨A, m, c, rfl, ho, hb⟩
    rw [show signsOf true = Oct.webS from rfl, HBS.out] at ho
    have HO := hide ho; have HB := hide hb; have HM := hide ho.slb.len
    clear ho hb
    go_wp2_with fail
    refine (rweb_any A m c bs _ HO.out.slb (by have := HM.out; have := HLEN.out; omega)).mono ?_
    rintro e w2 ⟨rfl, hb⟩
    rw [HS.out]
    have HO2 := hide (HO.out.below hb)
    have HB2 := hide (HB.out.trans (hb.mono HB.out.size))
    clear hb
    go_wp2_with fail
    go_ret2
    exact Gives.yes HR.out HO2.out HB2.out
  · rw [if_neg heq] at href
    have HNE : Hid (((strB (Oct.webL Oct.webS bs)).toList == u.toList) = false) := hide (by
      rw [beq_eq_false_iff_ne]; intro h; rw [ByteArray.toList_eq, ByteArray.toList_eq] at h; exact heq h)
    have HR := hide href.symm
    clear heq href
    go_enter Try.func28, Try.ntmps28
    go_wp2_with fail
    refine (runsixes_any u true _ (by omega)).mono ?_
    rintro e w1 ⟨A, m, c, rfl, ho, hb⟩
    rw [show signsOf true = Oct.webS from rfl, HBS.out] at ho
    have HO := hide ho; have HB := hide hb; have HM := hide ho.slb.len
    clear ho hb
    go_wp2_with fail
    refine (rweb_any A m c bs _ HO.out.slb (by have := HM.out; have := HLEN.out; omega)).mono ?_
    rintro e w2 ⟨rfl, hb⟩
    have hne := HNE.out
    generalize strB (Oct.webL Oct.webS bs) = s1 at hne ⊢
    have HB2 := hide (HB.out.trans (hb.mono HB.out.size))
    clear hb
    go_wp2_with fail
    go_ret2
    exact Gives.no HR.out HB2.out

set_option maxHeartbeats 400000 in
theorem unwebs_walk (u : ByteArray) (w : World) (hn : u.size ≤ 1048576) :
    Calls Try.prog 10 #[.string u] w fun e w' => e = .returned (.bool true) ∧ Below w.heap.size w w' := by
  obtain ⟨r, hr⟩ : ∃ r, r = Oct.unwebL Oct.webS u.data.toList := ⟨_, rfl⟩
  have HL : Hid ((r.getD []).length ≤ 140737488351232) := hide (by
    cases hq : r with
    | none => simp
    | some b =>
      have h1 := congrArg List.length (Oct.web_unweb Oct.webS_ok (hr.symm.trans hq))
      rw [Oct.webL_length] at h1
      have : u.data.toList.length = u.size := rfl
      simp; omega)
  have R := hide hr.symm
  clear hr
  obtain ⟨ev, hev⟩ : ∃ ev, ev = errI r := ⟨_, rfl⟩
  have EV := hide hev.symm
  clear hev
  go_enter Try.func10, Try.ntmps10
  go_wp2_with fail
  refine (unweb_any u _ (by omega)).mono ?_
  rintro e w1 ⟨A1, m1, c1, rfl, ho, hb⟩
  rw [R.out] at ho ⊢
  rw [EV.out]
  have S1 := hide ho.slb
  have B1 := hide hb
  clear ho hb
  go_wp2_with fail
  refine (runweb_any u _ hn).mono ?_
  rintro e w2 ⟨A2, m2, c2, rfl, ho, hb⟩
  rw [R.out] at ho ⊢
  rw [EV.out]
  have S2 := hide ho.slb
  replace S1 := hide (S1.out.on hb)
  have B2 := hide (B1.out.trans (hb.mono B1.out.size))
  clear ho hb
  go_wp2_with fail
  refine (known_any _).mono ?_
  rintro e w3 ⟨rfl, hb⟩
  replace S1 := hide (S1.out.on hb)
  replace S2 := hide (S2.out.on hb)
  have B3 := hide (B2.out.trans (hb.mono B2.out.size))
  clear hb
  have M1 := hide S1.out.len
  have M2 := hide S2.out.len
  go_wp2_with fail
  refine (same_any A1 A2 m1 m2 c1 c2 _ _ _ S1.out S2.out (by have := M1.out; have := HL.out; omega) (by have := M2.out; have := HL.out; omega)).mono ?_
  rintro e w4 ⟨rfl, hb⟩
  have B4 := hide (B3.out.trans (hb.mono B3.out.size))
  clear hb
  rw [decide_eq_true rfl]
  go_wp2_with fail
  go_ret
  exact ⟨ret_bool (by simp), B4.out⟩
end Go.Proofs.Ythfoaefdifbfaaa
