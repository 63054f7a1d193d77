/-
  The walk of the chapter's example; the walks of the laws. (Written by gen_pk_e.py.)
-/
import Derived.Test.YtnjpgcfkplchkaaPkD
namespace Go.Proofs.Ytnjpgcfkplchkaa
open Go.RowKit Go.Great

def Pk.exV : List UInt8 := [100, 66, 106, 102, 116, 74, 101, 90, 52, 67, 86, 80, 45, 109, 66, 57, 50, 75, 50, 55, 117, 104, 98, 85, 74, 85, 49, 112, 49, 114, 95, 119, 87, 49, 103, 70, 87, 70, 79, 69, 106, 88, 107]
def Pk.exC : List UInt8 := [69, 57, 77, 101, 108, 104, 111, 97, 50, 79, 119, 118, 70, 114, 69, 77, 84, 74, 103, 117, 67, 72, 97, 111, 101, 75, 49, 116, 56, 85, 82, 87, 98, 117, 71, 74, 83, 115, 116, 119, 45, 99, 77]
set_option maxRecDepth 100000 in
theorem Pk.ex_ver : Pk.ver Pk.exV = true := by decide +kernel
set_option maxRecDepth 100000 in
theorem Pk.ex_web : Oct.webL Oct.webS (Sha.sum Pk.exV) = Pk.exC := by decide +kernel
set_option maxRecDepth 100000 in
theorem Pk.ex_may : Pk.may Pk.exC Pk.s256 = true := by decide +kernel
theorem Pk.ex_chal : Pk.chal Pk.exV Pk.s256 = (Pk.exC, 0) := by
  unfold Pk.chal
  rw [if_neg (by decide), if_pos rfl, Pk.ex_ver, if_pos rfl, Pk.ex_web]
theorem Pk.ex_check : Pk.check Pk.exC Pk.s256 Pk.exV = true := by
  unfold Pk.check; rw [Pk.ex_chal]; simp

set_option maxHeartbeats 2000000 in
set_option maxRecDepth 100000 in
theorem known_any (w : World) : Calls Try.prog 7 #[] w fun e w' => e = .returned (.bool true) ∧ Below w.heap.size w w' := by
  obtain ⟨V, hV⟩ : ∃ V : ByteArray, V = ⟨#[100, 66, 106, 102, 116, 74, 101, 90, 52, 67, 86, 80, 45, 109, 66, 57, 50, 75, 50, 55, 117, 104, 98, 85, 74, 85, 49, 112, 49, 114, 95, 119, 87, 49, 103, 70, 87, 70, 79, 69, 106, 88, 107]⟩ := ⟨_, rfl⟩
  obtain ⟨S, hS⟩ : ∃ S : ByteArray, S = ⟨#[83, 50, 53, 54]⟩ := ⟨_, rfl⟩
  have K1 : Hid (∀ w : World, Calls Try.prog 12 #[.string ⟨#[100, 66, 106, 102, 116, 74, 101, 90, 52, 67, 86, 80, 45, 109, 66, 57, 50, 75, 50, 55, 117, 104, 98, 85, 74, 85, 49, 112, 49, 114, 95, 119, 87, 49, 103, 70, 87, 70, 79, 69, 106, 88, 107]⟩, .string ⟨#[83, 50, 53, 54]⟩] w fun e w' => e = .returned (.tuple #[.string (strB Pk.exC), .int .i64 0]) ∧ Below w.heap.size w w') := hide (fun w => by
    have h := pchal_any (strB Pk.exV) (strB Pk.s256) w (by decide)
    rw [strB_data, strB_data, Pk.ex_chal] at h
    exact h)
  have K2 : Hid (∀ w : World, Calls Try.prog 8 #[.string ⟨#[100, 66, 106, 102, 116, 74, 101, 90, 52, 67, 86, 80, 45, 109, 66, 57, 50, 75, 50, 55, 117, 104, 98, 85, 74, 85, 49, 112, 49, 114, 95, 119, 87, 49, 103, 70, 87, 70, 79, 69, 106, 88, 107]⟩] w fun e w' => e = .returned (.bool true) ∧ w = w') := hide (fun w => by
    have h := isver_any (strB Pk.exV) w (by decide)
    rw [strB_data, Pk.ex_ver] at h
    exact h)
  have K3 : Hid (∀ w : World, Calls Try.prog 10 #[.string (strB Pk.exC), .string ⟨#[83, 50, 53, 54]⟩] w fun e w' => e = .returned (.bool true) ∧ Below w.heap.size w w') := hide (fun w => by
    have h := pmay_any (strB Pk.exC) (strB Pk.s256) w (by decide) (fun _ _ => by decide)
    rw [strB_data, strB_data, Pk.ex_may] at h
    exact h)
  have K4 : Hid (∀ w : World, Calls Try.prog 14 #[.string (strB Pk.exC), .string ⟨#[83, 50, 53, 54]⟩, .string ⟨#[100, 66, 106, 102, 116, 74, 101, 90, 52, 67, 86, 80, 45, 109, 66, 57, 50, 75, 50, 55, 117, 104, 98, 85, 74, 85, 49, 112, 49, 114, 95, 119, 87, 49, 103, 70, 87, 70, 79, 69, 106, 88, 107]⟩] w fun e w' => e = .returned (.bool true) ∧ Below w.heap.size w w') := hide (fun w => by
    have h := pcheck_any (strB Pk.exC) (strB Pk.s256) (strB Pk.exV) w (by decide) (by decide)
    rw [strB_data, strB_data, strB_data, Pk.ex_check] at h
    exact h)
  obtain ⟨c0, hc0⟩ : ∃ c0, c0 = strB Pk.exC := ⟨_, rfl⟩
  rw [← hc0] at K1 K3 K4
  have hb : (c0.toList == ([69, 57, 77, 101, 108, 104, 111, 97, 50, 79, 119, 118, 70, 114, 69, 77, 84, 74, 103, 117, 67, 72, 97, 111, 101, 75, 49, 116, 56, 85, 82, 87, 98, 117, 71, 74, 83, 115, 116, 119, 45, 99, 77] : List UInt8)) = true := by rw [ByteArray.toList_eq, hc0, strB_data]; rfl
  clear hV hS hc0
  go_enter Try.func7, Try.ntmps7
  go_wp2_with fail
  with_reducible refine (K1.out _).mono ?_
  rintro e w1 ⟨rfl, hb1⟩
  have B1 := hide hb1; clear hb1
  go_wp2_with fail
  with_reducible refine (K2.out _).mono ?_
  rintro e w2 ⟨rfl, rfl⟩
  go_wp2_with fail
  with_reducible refine (K3.out _).mono ?_
  rintro e w3 ⟨rfl, hb3⟩
  have B3 := hide (B1.out.trans (hb3.mono B1.out.size)); clear hb3
  go_wp2_with fail
  with_reducible refine (K4.out _).mono ?_
  rintro e w4 ⟨rfl, hb4⟩
  have B4 := hide (B3.out.trans (hb4.mono B3.out.size)); clear hb4
  go_wp2_with fail
  go_ret
  exact ⟨rfl, B4.out⟩

theorem eq_two (a b : Bool) (h : a = b) : (a == b) = true := by rw [h]; simp
set_option maxHeartbeats 2000000 in
theorem verifiers_walk (s method : ByteArray) (w : World) (hs : s.size ≤ 1048576) :
    Calls Try.prog 3 #[.string s, .string method] w fun e w' => e = .returned (.bool true) ∧ Below w.heap.size w w' := by
  obtain ⟨b1, h1⟩ : ∃ b, b = Pk.ver s.data.toList := ⟨_, rfl⟩
  obtain ⟨b2, h2⟩ : ∃ b, b = Pk.may s.data.toList method.data.toList := ⟨_, rfl⟩
  obtain ⟨b3, h3⟩ : ∃ b, b = Pk.may s.data.toList (⟨#[83, 50, 53, 54]⟩ : ByteArray).data.toList := ⟨_, rfl⟩
  obtain ⟨b4, h4⟩ : ∃ b, b = Pk.may s.data.toList (⟨#[112, 108, 97, 105, 110]⟩ : ByteArray).data.toList := ⟨_, rfl⟩
  have h5 : b4 = b1 := by rw [h4, h1]; unfold Pk.may; rw [if_pos (by rfl)]
  have E1 := hide h1.symm; have E2 := hide h2.symm; have E3 := hide h3.symm; have E4 := hide h4.symm
  clear h1 h2 h3 h4
  subst h5
  go_enter Try.func3, Try.ntmps3
  go_wp2_with fail
  refine (known_any _).mono ?_
  rintro e w1 ⟨rfl, hb⟩
  have B1 := hide hb; clear hb
  go_wp2_with fail
  refine (isver_any s _ (by omega)).mono ?_
  rintro e w2 ⟨rfl, rfl⟩
  rw [E1.out]
  go_wp2_with fail
  refine (rver_any s _ (by omega)).mono ?_
  rintro e w2 ⟨rfl, rfl⟩
  rw [E1.out]
  go_wp2_with fail
  refine (pmay_any s method _ (by omega) (fun _ _ => by omega)).mono ?_
  rintro e w3 ⟨rfl, hb⟩
  rw [E2.out]
  have B3 := hide (B1.out.trans (hb.mono B1.out.size)); clear hb
  go_wp2_with fail
  refine (rmay_any s method _ hs).mono ?_
  rintro e w4 ⟨rfl, hb⟩
  rw [E2.out]
  have B4 := hide (B3.out.trans (hb.mono B3.out.size)); clear hb
  go_wp2_with fail
  refine (pmay_any s _ _ (by omega) (fun _ _ => by omega)).mono ?_
  rintro e w5 ⟨rfl, hb⟩
  rw [E3.out]
  have B5 := hide (B4.out.trans (hb.mono B4.out.size)); clear hb
  go_wp2_with fail
  refine (rmay_any s _ _ hs).mono ?_
  rintro e w6 ⟨rfl, hb⟩
  rw [E3.out]
  have B6 := hide (B5.out.trans (hb.mono B5.out.size)); clear hb
  go_wp2_with fail
  refine (pmay_any s _ _ (by omega) (fun _ _ => by omega)).mono ?_
  rintro e w7 ⟨rfl, hb⟩
  rw [E4.out]
  have B7 := hide (B6.out.trans (hb.mono B6.out.size)); clear hb
  go_wp2_with fail
  refine (rver_any s _ (by omega)).mono ?_
  rintro e w8 ⟨rfl, rfl⟩
  rw [E1.out]
  go_wp2_with fail
  go_ret
  exact ⟨ret_boolE (by simp), B7.out⟩

set_option maxHeartbeats 2000000 in
theorem challenges_walk (s method : ByteArray) (w : World) (hs : s.size ≤ 900000000000000000) :
    Calls Try.prog 4 #[.string s, .string method] w fun e w' => e = .returned (.bool true) ∧ Below w.heap.size w w' := by
  obtain ⟨l, k, hr⟩ : ∃ l k, Pk.chal s.data.toList method.data.toList = (l, k) := ⟨_, _, rfl⟩
  obtain ⟨c0, hc0⟩ : ∃ c0, c0 = strB l := ⟨_, rfl⟩
  have R : Hid (Pk.two (Pk.chal s.data.toList method.data.toList) = .tuple #[.string c0, .int .i64 (k : Int)]) := hide (by rw [hr, hc0]; rfl)
  clear hr hc0
  go_enter Try.func4, Try.ntmps4
  go_wp2_with fail
  refine (pchal_any s method _ hs).mono ?_
  rintro e w1 ⟨rfl, hb⟩
  rw [R.out]
  have B1 := hide hb; clear hb
  go_wp2_with fail
  refine (rchal_any s method _ hs).mono ?_
  rintro e w2 ⟨rfl, hb⟩
  rw [R.out]
  have B2 := hide (B1.out.trans (hb.mono B1.out.size)); clear hb
  go_wp2_with fail
  refine (known_any _).mono ?_
  rintro e w3 ⟨rfl, hb⟩
  have B3 := hide (B2.out.trans (hb.mono B2.out.size)); clear hb
  go_wp2_with fail
  go_ret
  exact ⟨ret_boolE (by simp), B3.out⟩

set_option maxHeartbeats 2000000 in
theorem checks_walk (c method v : ByteArray) (w : World) (hc : c.size ≤ 900000000000000000) (hv : v.size ≤ 900000000000000000) :
    Calls Try.prog 5 #[.string c, .string method, .string v] w fun e w' => e = .returned (.bool true) ∧ Below w.heap.size w w' := by
  obtain ⟨b1, h1⟩ : ∃ b, b = Pk.check c.data.toList method.data.toList v.data.toList := ⟨_, rfl⟩
  have E1 := hide h1.symm; clear h1
  go_enter Try.func5, Try.ntmps5
  go_wp2_with fail
  refine (known_any _).mono ?_
  rintro e w1 ⟨rfl, hb⟩
  have B1 := hide hb; clear hb
  go_wp2_with fail
  refine (pcheck_any c method v _ hc hv).mono ?_
  rintro e w2 ⟨rfl, hb⟩
  rw [E1.out]
  have B2 := hide (B1.out.trans (hb.mono B1.out.size)); clear hb
  go_wp2_with fail
  refine (rcheck_any c method v _ hv).mono ?_
  rintro e w3 ⟨rfl, hb⟩
  rw [E1.out]
  have B3 := hide (B2.out.trans (hb.mono B2.out.size)); clear hb
  go_wp2_with fail
  go_ret
  exact ⟨ret_boolE (by simp), B3.out⟩
end Go.Proofs.Ytnjpgcfkplchkaa
