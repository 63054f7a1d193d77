/-
  The walks of the laws ShaNil, ShaApart, ShaOn: hashes; Join.
-/
import Derived.Test.YtgpldaphblphgaaShaK
import Derived.Stop.BytesEq
namespace Go.Proofs.Ytgpldaphblphgaa
open Go.RowKit Go.Great

theorem size_u8run (w : World) : (sizeOf 5).run Try.prog w = .ok 1 w := by kernel_rfl
theorem dig_eql (a b : List UInt8) (ha : a.length = 32) (hb : b.length = 32) (w : World) : (binOp .eql 26 (.agg (a.map bv).toArray) (.agg (b.map bv).toArray)).run Try.prog w = .ok (.bool (a == b)) w :=
  run_eql_bytes w 26 5 32 Try.underlying26 Try.underlying5 size_u8run a b ha hb
theorem dig_eql_same (a : List UInt8) (ha : a.length = 32) (w : World) : (binOp .eql 26 (.agg (a.map bv).toArray) (.agg (a.map bv).toArray)).run Try.prog w = .ok (.bool true) w := by
  rw [dig_eql a a ha ha]; simp

set_option maxHeartbeats 1000000 in
theorem nil_walk (A : Option Addr) (n c : Nat) (w : World) :
    Calls Try.prog 7 #[.slice A n c] w fun e w' => e = .returned (.bool true) ∧ Below w.heap.size w w' := by
  obtain ⟨C, hC⟩ : ∃ C, C = ((Sha.sum []).map bv).toArray := ⟨_, rfl⟩
  have he : ∀ w : World, (binOp .eql 26 (.agg C) (.agg C)).run Try.prog w = .ok (.bool true) w := fun w => by rw [hC]; exact dig_eql_same _ (Sha.sum_length _) w
  have HC := hide hC; clear hC
  go_enter Try.func7, Try.ntmps7
  go_wp2_with fail
  refine (hwrite_nil _ _).mono ?_
  rintro e w1 ⟨rfl, rfl⟩
  go_wp2_with fail
  refine (known_any _).mono ?_
  rintro e w1 ⟨rfl, hb⟩
  have B1 := hide hb; clear hb
  go_wp2_with fail
  refine (hlen_nil _).mono ?_
  rintro e w2 ⟨rfl, rfl⟩
  go_wp2_with fail
  refine (hsum_nil _).mono ?_
  rintro e w2 ⟨rfl, hb⟩
  have B2 := hide (B1.out.trans (hb.mono B1.out.size)); clear hb
  rw [← HC.out]
  go_wp2_with fail
  refine (psumf_any none 0 0 [] _ SlB.nil_ (by omega) (by omega) (by omega)).mono ?_
  rintro e w3 ⟨rfl, hb⟩
  have B3 := hide (B2.out.trans (hb.mono B2.out.size)); clear hb
  rw [← HC.out]
  go_wp2_with fail
  refine (all_any [] none 0 0 _ (padN_parts_nil _) (by simp) (by omega)).mono ?_
  rintro e w4 ⟨rfl, hb⟩
  have B4 := hide (B3.out.trans (hb.mono B3.out.size)); clear hb
  rw [show ([] : List (List UInt8)).flatten = [] from rfl, ← HC.out]
  go_wp2_with fail
  refine (psumf_any none 0 0 [] _ SlB.nil_ (by omega) (by omega) (by omega)).mono ?_
  rintro e w5 ⟨rfl, hb⟩
  have B5 := hide (B4.out.trans (hb.mono B4.out.size)); clear hb
  rw [← HC.out]
  go_wp2_with fail
  go_ret
  exact ⟨rfl, B5.out⟩

set_option maxHeartbeats 1000000 in
theorem rjoin_any (parts : List (List UInt8)) (AP : Option Addr) (m cp : Nat) (w : World) (hp : PartsAt w w.heap.size AP m parts) (hN : parts.flatten.length ≤ 140737488355328) (hm : m ≤ 9223372036854775807) :
    Calls Try.prog 18 #[.slice AP m cp] w fun e w' => ∃ A2 c2, e = .returned (.slice A2 parts.flatten.length c2) ∧ Own w' w.heap.size 5 A2 parts.flatten.length c2 (parts.flatten.map bv) ∧ Below w.heap.size w w' := by
  have HP := hide hp
  have HL := hide hp.1
  clear hp
  go_enter Try.func18, Try.ntmps18
  go_wp2_with fail
  go_loopw [3, 4] (fun v3 v4 wq => ∃ (i k : Nat) (A3 : Option Addr) (c3 : Nat), i ≤ m ∧ v4 = .int .i64 i ∧ v3 = .slice A3 k c3 ∧ k ≤ 140737488355328 ∧ Hid (k = (parts.take i).flatten.length) ∧ Hid (Own wq w.heap.size 5 A3 k c3 ((parts.take i).flatten.map bv)) ∧ Hid (Below w.heap.size w wq)) (fun _ v _ => m - (intOf v).toNat)
  case atStart => exact ⟨0, 0, none, 0, by omega, rfl, rfl, by omega, hide (by simp), hide Own.nil_, hide (Below.refl _ _)⟩
  case round =>
    obtain ⟨i, k, A3, c3, hi, rfl, rfl, hk, HK, HO, HW⟩ := hrel
    by_cases hlt : i < m
    · obtain ⟨bs, hbs⟩ : ∃ bs, parts[i]? = some bs := ⟨parts[i]'(by rw [HL.out]; exact hlt), List.getElem?_eq_getElem _⟩
      obtain ⟨_, vals, hsl, hvals⟩ := HP.out.keep HW.out
      obtain ⟨A, n, c, hv, hb, hnc, hc⟩ := hvals i bs hbs
      obtain ⟨b, off, u, rfl, hbb, hu, cc⟩ := hsl.at_ hlt
      rw [hv] at hu; injection hu with hu; subst hu
      have hft := flatten_take parts i hbs
      have hfl := flatten_take_le parts (i + 1)
      obtain ⟨F, hF⟩ : ∃ F, F = (parts.take i).flatten := ⟨_, rfl⟩
      rw [← hF] at HO HK hft
      clear hF
      have hkn : k + n ≤ 140737488355328 := by
        have := hb.len; have := HK.out
        rw [hft, List.length_append] at hfl; omega
      have HB := hide hb; have HFT := hide hft
      have b1 : (0 : Int) ≤ (i : Int) := by omega
      have b2 : (i : Int) < (m : Int) := by omega
      clear hvals hsl hv hb hbs hft hfl
      go_wp2_with (at_builtin; go_must (with_reducible refine wpList_app rfl (.tmp 11) (.tmp 15) 22 rfl (.int .u8 0) 1 Try.underlying22 info_u8 (cells_int _ _) rfl HO.out rfl HB.out.sl (bytes_oneCell bs) (by unfold maxLen; omega) (by omega) HW.out.size ?_))
      intro A4 c4 w4 ho hgr _
      have B4 : Hid (Below w.heap.size w w4) := hide (below_of_grown HW.out hgr HW.out.size HO.out.row_ge)
      have O4 : Hid (Own w4 w.heap.size 5 A4 (k + n) c4 ((parts.take (i + 1)).flatten.map bv)) := hide (by
        rw [HFT.out, List.map_append]; exact ho)
      have K4 : Hid (k + n = (parts.take (i + 1)).flatten.length) := hide (by
        rw [HFT.out, List.length_append, ← HK.out, HB.out.len])
      clear ho hgr
      go_wp2
      go_roundw
      case rel => exact ⟨i + 1, k + n, A4, c4, by omega, by go_num, rfl, hkn, K4, O4, B4⟩
      case measure => simp [intOf]; omega
    · have HF : Hid ((parts.take i).flatten = parts.flatten) := hide (by rw [List.take_of_length_le (by rw [HL.out]; omega)])
      go_wp2_with fail
      go_ret
      have hke := HK.out
      have hoe := HO.out
      rw [HF.out] at hke hoe
      subst hke
      exact ⟨_, _, rfl, hoe, HW.out⟩
end Go.Proofs.Ytgpldaphblphgaa
