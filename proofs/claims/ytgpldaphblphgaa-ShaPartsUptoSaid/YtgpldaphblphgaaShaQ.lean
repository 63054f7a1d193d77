/-
  The walk of the law ShaParts. (Written by gen_sha_q.py.)
-/
import Derived.Test.YtgpldaphblphgaaShaP
namespace Go.Proofs.Ytgpldaphblphgaa
open Go.RowKit Go.Great

theorem PartsAt.take {w : World} {B m : Nat} {AP : Option Addr} {parts : List (List UInt8)} (h : PartsAt w B AP m parts) {k : Nat} (hk : k ≤ m) : PartsAt w B AP k (parts.take k) := by
  obtain ⟨h1, vals, h2, h3⟩ := h
  refine ⟨by simp; omega, vals.take k, ⟨by have := h2.1; simp; omega, fun hn => ?_⟩, fun j bs hj => ?_⟩
  · obtain ⟨b, off, e, hb, hc⟩ := h2.2 (by omega)
    refine ⟨b, off, e, hb, fun i u hu => hc i u ?_⟩
    have hi : i < k := by have := (List.getElem?_eq_some_iff.1 hu).1; simp at this; omega
    rw [List.getElem?_take_of_lt hi] at hu; exact hu
  · have hi : j < k := by have := (List.getElem?_eq_some_iff.1 hj).1; simp at this; omega
    rw [List.getElem?_take_of_lt hi] at hj
    obtain ⟨A, n, c, e1, e2, e3, e4⟩ := h3 j bs hj
    exact ⟨A, n, c, by rw [List.getElem?_take_of_lt hi]; exact e1, e2, e3, e4⟩

set_option maxHeartbeats 4000000 in
set_option maxRecDepth 100000 in
theorem parts_walk (AP K : Option Addr) (n cp m d : Nat) (parts : List (List UInt8)) (key : List UInt8) (w : World) (hp : PartsAt w w.heap.size AP n parts) (hk : SlB w w.heap.size K m key) (hncp : n ≤ cp) (hcp : cp ≤ 9223372036854775807) (hmd : m ≤ d) (hd : d ≤ 1048576) (hN : parts.flatten.length ≤ 1048576) :
    Calls Try.prog 10 #[.slice AP n cp, .slice K m d] w fun e w' => e = .returned (.bool true) ∧ Below w.heap.size w w' := by
  have HK := hide hk; have LK := hide hk.len
  clear hk
  by_cases h200 : 200 < n
  · obtain ⟨p, hpp⟩ : ∃ p, p = parts.take 200 := ⟨_, rfl⟩
    have HP : Hid (PartsAt w w.heap.size AP 200 p) := hide (by rw [hpp]; exact hp.take (by omega))
    have HN : Hid (p.flatten.length ≤ 1048576) := hide (by rw [hpp]; have := flatten_take_le parts 200; omega)
    obtain ⟨b0, off0, hA, _⟩ := HP.out.2.choose_spec.1.2 (by omega)
    subst hA
    clear hpp hp hN
    have i1 : (200 : Int) < (n : Int) := by omega
    have i2 : (200 : Int) ≤ (cp : Int) := by omega
    have HL : Hid (p.length = 200) := hide HP.out.1
    go_enter Try.func10, Try.ntmps10
    go_upto_region 3 with (fail)
    clear i1 i2 hncp h200
    obtain ⟨C, hC⟩ : ∃ D, D = ((Sha.sum p.flatten).map bv).toArray := ⟨_, rfl⟩
    obtain ⟨M, hM⟩ : ∃ D, D = ((Sha.mac key p.flatten).map bv).toArray := ⟨_, rfl⟩
    have e1 : ∀ w : World, (binOp .eql 26 (.agg C) (.agg C)).run Try.prog w = .ok (.bool true) w := fun w => by rw [hC]; exact dig_eql_same _ (Sha.sum_length _) w
    have e2 : ∀ w : World, (binOp .eql 26 (.agg M) (.agg M)).run Try.prog w = .ok (.bool true) w := fun w => by rw [hM]; exact dig_eql_same _ (mac_length _ _) w
    have HC := hide hC; have HM := hide hM; clear hC hM
    go_wp2_with fail
    refine (rjoin_any p (some ⟨b0, off0, none⟩) 200 cp _ HP.out (by have := HN.out; omega) (by omega)).mono ?_
    rintro e w1 ⟨A1, c1, rfl, ho, hb⟩
    obtain ⟨q, hq⟩ : ∃ q, q = p.flatten.length := ⟨_, rfl⟩
    rw [← hq] at ho ⊢
    have B1 := hide hb; have O1 := hide ho.slB; have C1 := hide ho.le_cap
    have LQ : Hid (q ≤ 1048576) := hide (by rw [hq]; exact HN.out)
    clear hb ho hq
    go_wp2_with fail
    refine (hnew_any _).mono ?_
    rintro e w2 ⟨G, rfl, hg1, hs1, hb⟩
    have B2 := hide hb; have S2 : Hid (StOf w2 G 54 (p.take 0).flatten) := hide (by simpa using hs1)
    have Z2 : Hid (w1.heap.size ≤ G) := hide hg1
    clear hb hs1 hg1
    go_wp2_with fail
    go_loopw [7, 8] (fun v5 v6 wq => ∃ (i k : Nat), i ≤ 200 ∧ v6 = .int .i64 i ∧ v5 = .int .i64 k ∧ k ≤ 1048576 ∧ Hid (k = (p.take i).flatten.length) ∧ Hid (StOf wq G 54 (p.take i).flatten) ∧ Hid (Below w1.heap.size w1 wq)) (fun _ v _ => 200 - (intOf v).toNat)
    case atStart => exact ⟨0, 0, by omega, rfl, rfl, by omega, hide (by simp), S2, B2⟩
    case round =>
      clear S2 B2
      obtain ⟨i, k, hi, rfl, rfl, hk, KK, S, B⟩ := hrel
      by_cases hlt : i < 200
      · obtain ⟨bs, hbs⟩ : ∃ bs, p[i]? = some bs := ⟨p[i]'(by rw [HL.out]; exact hlt), List.getElem?_eq_getElem _⟩
        have BW : Hid (Below w.heap.size w _) := hide (B1.out.trans (B.out.mono B1.out.size))
        obtain ⟨_, vals, hsl, hvals⟩ := HP.out
        obtain ⟨A, r, c, hv, hb, hnc, hc⟩ := hvals i bs hbs
        obtain ⟨b, off, u, hAP, hbb, hu, cc0⟩ := hsl.at_ hlt
        injection hAP with hAP; injection hAP with h1 h2 _; subst h1 h2
        rw [hv] at hu; injection hu with hu; subst hu
        have cc := (BW.out.cell (p := ⟨b0, off0 + i, none⟩) hbb).trans cc0
        have HCC := hide cc0; have HBB := hide hbb
        have hft := flatten_take p i hbs
        have hfl := flatten_take_le p (i + 1)
        have hb1 := (hb.up BW.out)
        have HB := hide hb1; have HFT := hide hft
        have hrk : k + r ≤ 1048576 := by
          have := hb.len; have := KK.out; have := HN.out
          rw [hft, List.length_append] at hfl; omega
        have HA : Hid (0 < r → ∀ b off, A = some ⟨b, off, none⟩ → b ≠ G) := hide (fun h0 b off e => by
          obtain ⟨b', off', e', hlt', _⟩ := hb.2 h0
          rw [e] at e'; injection e' with e'; injection e' with e1 _ _
          have := Z2.out; have := B1.out.size; omega)
        have HLB := hide hb.len
        have b1 : (0 : Int) ≤ (i : Int) := by omega
        have b2 : (i : Int) < (200 : Int) := by omega
        clear hvals hsl hv hb hb1 hbs hft hfl cc0
        go_wp2_with fail
        refine (hwrite_any G (p.take i).flatten bs A r c _ S.out HB.out HA.out hnc (by have := KK.out; omega) hc).mono ?_
        rintro e w3 ⟨rfl, hs, hgr⟩
        rw [← HFT.out] at hs
        have S3 := hide hs
        have B3 := hide (below_of_grown' B.out hgr B.out.size Z2.out)
        have cc3 := ((B1.out.trans (B3.out.mono B1.out.size)).cell (p := ⟨b0, off0 + i, none⟩) HBB.out).trans HCC.out
        have HKR : Hid (k + r = (p.take (i + 1)).flatten.length) := hide (by rw [HFT.out, List.length_append, ← KK.out, HLB.out])
        have HLN : Hid ((((p.take (i + 1)).flatten.length : Nat) : Int) = (k : Int) + (r : Int)) := hide (by have := HKR.out; omega)
        clear hs hgr S B cc BW
        go_wp2_with fail
        refine (hlen_any G _ _ S3.out).mono ?_
        rintro e w4 ⟨rfl, rfl⟩
        rw [HLN.out]
        go_wp2_with fail
        go_roundw
        case rel => exact ⟨i + 1, k + r, by omega, by go_num, by go_num, hrk, HKR, S3, B3⟩
        case measure => simp [intOf]; omega
      · have HF : Hid ((p.take i).flatten = p.flatten) := hide (by rw [List.take_of_length_le (by rw [HL.out]; omega)])
        have hge : ¬ ((i : Int) < (200 : Int)) := by omega
        rw [HF.out] at S
        go_wp2_with fail
        refine (known_any _).mono ?_
        rintro e w6 ⟨rfl, hb⟩
        have S6 := hide (S.out.below' hb)
        have B6 := hide (B.out.trans (hb.mono B.out.size))
        clear hb S B
        go_wp2_with fail
        refine (hsum_any G p.flatten _ S6.out (by have := HN.out; omega)).mono ?_
        rintro e w7 ⟨rfl, hb⟩
        have B7 := hide (B6.out.trans (hb.mono B6.out.size)); clear hb S6
        rw [← HC.out]
        go_wp2_with fail
        refine (psumf_any A1 q c1 p.flatten _ (O1.out.up B7.out) C1.out.1 (by have := C1.out.2; unfold maxLen at this; exact this) (by have := LQ.out; omega)).mono ?_
        rintro e w8 ⟨rfl, hb⟩
        have B8 := hide (B7.out.trans (hb.mono B7.out.size)); clear hb
        rw [← HC.out]
        go_wp2_with fail
        have P8 := hide (HP.out.keep (B1.out.trans (B8.out.mono B1.out.size)))
        refine (all_any p (some ⟨b0, off0, none⟩) 200 cp _ P8.out (by have := HN.out; omega) (by omega)).mono ?_
        rintro e w9 ⟨rfl, hb⟩
        have B9 := hide (B8.out.trans (hb.mono B8.out.size)); clear hb P8
        rw [← HC.out]
        go_wp2_with fail
        refine (psumf_any A1 q c1 p.flatten _ (O1.out.up B9.out) C1.out.1 (by have := C1.out.2; unfold maxLen at this; exact this) (by have := LQ.out; omega)).mono ?_
        rintro e w10 ⟨rfl, hb⟩
        have B10 := hide (B9.out.trans (hb.mono B9.out.size)); clear hb
        rw [← HC.out]
        go_wp2_with fail
        have T10 := hide (B1.out.trans (B10.out.mono B1.out.size))
        refine (pmac_any key K m d p (some ⟨b0, off0, none⟩) 200 cp _ (HK.out.up T10.out) (HP.out.keep T10.out) hmd (by omega) (by omega) (by have := HN.out; omega) (by omega)).mono ?_
        rintro e w11 ⟨rfl, hb⟩
        have B11 := hide (B10.out.trans (hb.mono B10.out.size)); clear hb T10
        rw [← HM.out]
        go_wp2_with fail
        have B12 := hide (B11.out.alloc B11.out.size (.cells #[.slice A1 q c1] 22))
        have T12 := hide (B1.out.trans (B12.out.mono B1.out.size))
        refine (pmac_any key K m d [p.flatten] (some ⟨w11.heap.size, 0, none⟩) 1 1 _ (HK.out.up T12.out) (parts1 (O1.out.up B11.out) C1.out.1 (by have := C1.out.2; unfold maxLen at this; exact this)) hmd (by omega) (by omega) (by have := HN.out; rw [show [p.flatten].flatten = p.flatten by simp]; omega) (by omega)).mono ?_
        rintro e w13 ⟨rfl, hb⟩
        rw [show [p.flatten].flatten = p.flatten by simp, ← HM.out]
        have B13 := hide (T12.out.trans (hb.mono T12.out.size)); clear hb
        go_wp2_with fail
        go_ret
        exact ⟨rfl, B13.out⟩
  · obtain ⟨p, hpp⟩ : ∃ p, p = parts := ⟨_, rfl⟩
    rw [← hpp] at hp hN
    have HP := hide hp; have HN := hide hN; have HL := hide hp.1
    clear hpp hp hN
    have i1 : ¬ ((200 : Int) < (n : Int)) := by omega
    go_enter Try.func10, Try.ntmps10
    go_upto_region 3 with (fail)
    clear i1
    obtain ⟨C, hC⟩ : ∃ D, D = ((Sha.sum p.flatten).map bv).toArray := ⟨_, rfl⟩
    obtain ⟨M, hM⟩ : ∃ D, D = ((Sha.mac key p.flatten).map bv).toArray := ⟨_, rfl⟩
    have e1 : ∀ w : World, (binOp .eql 26 (.agg C) (.agg C)).run Try.prog w = .ok (.bool true) w := fun w => by rw [hC]; exact dig_eql_same _ (Sha.sum_length _) w
    have e2 : ∀ w : World, (binOp .eql 26 (.agg M) (.agg M)).run Try.prog w = .ok (.bool true) w := fun w => by rw [hM]; exact dig_eql_same _ (mac_length _ _) w
    have HC := hide hC; have HM := hide hM; clear hC hM
    go_wp2_with fail
    refine (rjoin_any p AP n cp _ HP.out (by have := HN.out; omega) (by omega)).mono ?_
    rintro e w1 ⟨A1, c1, rfl, ho, hb⟩
    obtain ⟨q, hq⟩ : ∃ q, q = p.flatten.length := ⟨_, rfl⟩
    rw [← hq] at ho ⊢
    have B1 := hide hb; have O1 := hide ho.slB; have C1 := hide ho.le_cap
    have LQ : Hid (q ≤ 1048576) := hide (by rw [hq]; exact HN.out)
    clear hb ho hq
    go_wp2_with fail
    refine (hnew_any _).mono ?_
    rintro e w2 ⟨G, rfl, hg1, hs1, hb⟩
    have B2 := hide hb; have S2 : Hid (StOf w2 G 54 (p.take 0).flatten) := hide (by simpa using hs1)
    have Z2 : Hid (w1.heap.size ≤ G) := hide hg1
    clear hb hs1 hg1
    go_wp2_with fail
    go_loopw [7, 8] (fun v5 v6 wq => ∃ (i k : Nat), i ≤ n ∧ v6 = .int .i64 i ∧ v5 = .int .i64 k ∧ k ≤ 1048576 ∧ Hid (k = (p.take i).flatten.length) ∧ Hid (StOf wq G 54 (p.take i).flatten) ∧ Hid (Below w1.heap.size w1 wq)) (fun _ v _ => n - (intOf v).toNat)
    case atStart => exact ⟨0, 0, by omega, rfl, rfl, by omega, hide (by simp), S2, B2⟩
    case round =>
      clear S2 B2
      obtain ⟨i, k, hi, rfl, rfl, hk, KK, S, B⟩ := hrel
      by_cases hlt : i < n
      · obtain ⟨bs, hbs⟩ : ∃ bs, p[i]? = some bs := ⟨p[i]'(by rw [HL.out]; exact hlt), List.getElem?_eq_getElem _⟩
        have BW : Hid (Below w.heap.size w _) := hide (B1.out.trans (B.out.mono B1.out.size))
        obtain ⟨_, vals, hsl, hvals⟩ := HP.out
        obtain ⟨A, r, c, hv, hb, hnc, hc⟩ := hvals i bs hbs
        obtain ⟨b, off, u, hAP, hbb, hu, cc0⟩ := hsl.at_ hlt
        subst hAP
        rw [hv] at hu; injection hu with hu; subst hu
        have cc := (BW.out.cell (p := ⟨b, off + i, none⟩) hbb).trans cc0
        have HCC := hide cc0; have HBB := hide hbb
        have hft := flatten_take p i hbs
        have hfl := flatten_take_le p (i + 1)
        have hb1 := (hb.up BW.out)
        have HB := hide hb1; have HFT := hide hft
        have hrk : k + r ≤ 1048576 := by
          have := hb.len; have := KK.out; have := HN.out
          rw [hft, List.length_append] at hfl; omega
        have HA : Hid (0 < r → ∀ b off, A = some ⟨b, off, none⟩ → b ≠ G) := hide (fun h0 b off e => by
          obtain ⟨b', off', e', hlt', _⟩ := hb.2 h0
          rw [e] at e'; injection e' with e'; injection e' with e1 _ _
          have := Z2.out; have := B1.out.size; omega)
        have HLB := hide hb.len
        have b1 : (0 : Int) ≤ (i : Int) := by omega
        have b2 : (i : Int) < (n : Int) := by omega
        clear hvals hsl hv hb hb1 hbs hft hfl cc0
        go_wp2_with fail
        refine (hwrite_any G (p.take i).flatten bs A r c _ S.out HB.out HA.out hnc (by have := KK.out; omega) hc).mono ?_
        rintro e w3 ⟨rfl, hs, hgr⟩
        rw [← HFT.out] at hs
        have S3 := hide hs
        have B3 := hide (below_of_grown' B.out hgr B.out.size Z2.out)
        have cc3 := ((B1.out.trans (B3.out.mono B1.out.size)).cell (p := ⟨b, off + i, none⟩) HBB.out).trans HCC.out
        have HKR : Hid (k + r = (p.take (i + 1)).flatten.length) := hide (by rw [HFT.out, List.length_append, ← KK.out, HLB.out])
        have HLN : Hid ((((p.take (i + 1)).flatten.length : Nat) : Int) = (k : Int) + (r : Int)) := hide (by have := HKR.out; omega)
        clear hs hgr S B cc BW
        go_wp2_with fail
        refine (hlen_any G _ _ S3.out).mono ?_
        rintro e w4 ⟨rfl, rfl⟩
        rw [HLN.out]
        go_wp2_with fail
        go_roundw
        case rel => exact ⟨i + 1, k + r, by omega, by go_num, by go_num, hrk, HKR, S3, B3⟩
        case measure => simp [intOf]; omega
      · have HF : Hid ((p.take i).flatten = p.flatten) := hide (by rw [List.take_of_length_le (by rw [HL.out]; omega)])
        have hge : ¬ ((i : Int) < (n : Int)) := by omega
        rw [HF.out] at S
        go_wp2_with fail
        refine (known_any _).mono ?_
        rintro e w6 ⟨rfl, hb⟩
        have S6 := hide (S.out.below' hb)
        have B6 := hide (B.out.trans (hb.mono B.out.size))
        clear hb S B
        go_wp2_with fail
        refine (hsum_any G p.flatten _ S6.out (by have := HN.out; omega)).mono ?_
        rintro e w7 ⟨rfl, hb⟩
        have B7 := hide (B6.out.trans (hb.mono B6.out.size)); clear hb S6
        rw [← HC.out]
        go_wp2_with fail
        refine (psumf_any A1 q c1 p.flatten _ (O1.out.up B7.out) C1.out.1 (by have := C1.out.2; unfold maxLen at this; exact this) (by have := LQ.out; omega)).mono ?_
        rintro e w8 ⟨rfl, hb⟩
        have B8 := hide (B7.out.trans (hb.mono B7.out.size)); clear hb
        rw [← HC.out]
        go_wp2_with fail
        have P8 := hide (HP.out.keep (B1.out.trans (B8.out.mono B1.out.size)))
        refine (all_any p AP n cp _ P8.out (by have := HN.out; omega) (by omega)).mono ?_
        rintro e w9 ⟨rfl, hb⟩
        have B9 := hide (B8.out.trans (hb.mono B8.out.size)); clear hb P8
        rw [← HC.out]
        go_wp2_with fail
        refine (psumf_any A1 q c1 p.flatten _ (O1.out.up B9.out) C1.out.1 (by have := C1.out.2; unfold maxLen at this; exact this) (by have := LQ.out; omega)).mono ?_
        rintro e w10 ⟨rfl, hb⟩
        have B10 := hide (B9.out.trans (hb.mono B9.out.size)); clear hb
        rw [← HC.out]
        go_wp2_with fail
        have T10 := hide (B1.out.trans (B10.out.mono B1.out.size))
        refine (pmac_any key K m d p AP n cp _ (HK.out.up T10.out) (HP.out.keep T10.out) hmd (by omega) (by omega) (by have := HN.out; omega) (by omega)).mono ?_
        rintro e w11 ⟨rfl, hb⟩
        have B11 := hide (B10.out.trans (hb.mono B10.out.size)); clear hb T10
        rw [← HM.out]
        go_wp2_with fail
        have B12 := hide (B11.out.alloc B11.out.size (.cells #[.slice A1 q c1] 22))
        have T12 := hide (B1.out.trans (B12.out.mono B1.out.size))
        refine (pmac_any key K m d [p.flatten] (some ⟨w11.heap.size, 0, none⟩) 1 1 _ (HK.out.up T12.out) (parts1 (O1.out.up B11.out) C1.out.1 (by have := C1.out.2; unfold maxLen at this; exact this)) hmd (by omega) (by omega) (by have := HN.out; rw [show [p.flatten].flatten = p.flatten by simp]; omega) (by omega)).mono ?_
        rintro e w13 ⟨rfl, hb⟩
        rw [show [p.flatten].flatten = p.flatten by simp, ← HM.out]
        have B13 := hide (T12.out.trans (hb.mono T12.out.size)); clear hb
        go_wp2_with fail
        go_ret
        exact ⟨rfl, B13.out⟩
end Go.Proofs.Ytgpldaphblphgaa
