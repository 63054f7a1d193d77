/-
  The walk of signetref01.Unweb, and of OctetUnwebs.
-/
import Derived.Test.YtnjpgcfkplchkaaOctW
import Derived.Test.YtnjpgcfkplchkaaOctS
namespace Go.Proofs.Ytnjpgcfkplchkaa
open Go.RowKit

set_option maxHeartbeats 400000 in
theorem runweb_any (u : ByteArray) (w : World) (hn : u.size ≤ 1048576) :
    Calls Try.prog 18 #[.string u] w fun e w' => Gives (Oct.unwebL Oct.webS u.data.toList) w e w' := by
  obtain ⟨bs, hbs⟩ : ∃ bs, bs = Oct.bytesOf (Oct.textBits Oct.webS u.data.toList) := ⟨_, rfl⟩
  have href := Oct.unweb_ref Oct.webS_ok u.data.toList
  rw [← hbs] at href
  have HLEN : Hid (bs.length ≤ 1048576) := hide (by
    rw [hbs]
    unfold Oct.bytesOf
    rw [List.length_map, Oct.grps_length, Oct.textBits_length]
    have : u.data.toList.length = u.size := rfl
    omega)
  have HBS := hide hbs.symm
  clear hbs
  by_cases heq : Oct.webL Oct.webS bs = u.data.toList
  · rw [if_pos heq] at href
    have HS : Hid (strB (Oct.webL Oct.webS bs) = u) := hide (by rw [heq]; rfl)
    have HR := hide href.symm
    clear heq href
    go_enter Try.func18, Try.ntmps18
    go_wp2_with fail
    refine (runsixes_any u true _ (by omega)).mono ?_
    rintro e w1 ⟨A, m, c, rfl, ho, hb⟩
    rw [show signsOf true = Oct.webS from rfl, HBS.out] at ho
    have HO := hide ho; have HB := hide hb; have HM := hide ho.slb.len
    clear ho hb
    go_wp2_with fail
    refine (rweb_any A m c bs _ HO.out.slb (by have := HM.out; have := HLEN.out; omega)).mono ?_
    rintro e w2 ⟨rfl, hb⟩
    rw [HS.out]
    have HO2 := hide (HO.out.below hb)
    have HB2 := hide (HB.out.trans (hb.mono HB.out.size))
    clear hb
    go_wp2_with fail
    go_ret2
    exact Gives.yes HR.out HO2.out HB2.out
  · rw [if_neg heq] at href
    have HNE : Hid (((strB (Oct.webL Oct.webS bs)).toList == u.toList) = false) := hide (by
      rw [beq_eq_false_iff_ne]; intro h; rw [ByteArray.toList_eq, ByteArray.toList_eq] at h; exact heq h)
    have HR := hide href.symm
    clear heq href
    go_enter Try.func18, Try.ntmps18
    go_wp2_with fail
    refine (runsixes_any u true _ (by omega)).mono ?_
    rintro e w1 ⟨A, m, c, rfl, ho, hb⟩
    rw [show signsOf true = Oct.webS from rfl, HBS.out] at ho
    have HO := hide ho; have HB := hide hb; have HM := hide ho.slb.len
    clear ho hb
    go_wp2_with fail
    refine (rweb_any A m c bs _ HO.out.slb (by have := HM.out; have := HLEN.out; omega)).mono ?_
    rintro e w2 ⟨rfl, hb⟩
    have hne := HNE.out
    generalize strB (Oct.webL Oct.webS bs) = s1 at hne ⊢
    have HB2 := hide (HB.out.trans (hb.mono HB.out.size))
    clear hb
    go_wp2_with fail
    go_ret2
    exact Gives.no HR.out HB2.out

end Go.Proofs.Ytnjpgcfkplchkaa
