/-
  The walk of the law WireStays.
-/
import Derived.Test.YtnlfnjadadfhkaaWireY
namespace Go.Proofs.Ytnlfnjadadfhkaa
open Go.RowKit
set_option linter.unusedVariables false

theorem Rd.numB_off {b : Int} (h : b ≠ 0) (most : Nat) (rest : List UInt8) : Rd.numB b most rest = (0, b, rest) := by unfold Rd.numB; rw [if_neg h]
/-- behind an error nothing is read -/
theorem Rd.read_off {b : Int} (h : b ≠ 0) (kind : Int) (rest : List UInt8) : Rd.read kind b rest = (Rd.zero kind, b, rest) := by
  by_cases h0 : kind = 0
  · subst h0; rw [Rd.read_0, Rd.numB_off h]; simp [Rd.zero, Rd.unzig]
  by_cases h1 : kind = 1
  · subst h1; rw [Rd.read_1]; unfold Rd.wordB; rw [Rd.numB_off h]; simp only; rw [if_pos h]; rfl
  by_cases h2 : kind = 2
  · subst h2; rw [Rd.read_2, Rd.numB_off h]; rfl
  by_cases h3 : kind = 3
  · subst h3; rw [Rd.read_3, Rd.numB_off h]; rfl
  by_cases h4 : kind = 4
  · subst h4; rw [Rd.read_4]; unfold Rd.textsB; rw [Rd.numB_off h]; simp only; rw [if_pos h]; rfl
  · rw [Rd.read_5 kind b rest h0 h1 h2 h3 h4]; rfl
set_option maxHeartbeats 8000000 in
set_option maxRecDepth 100000 in
theorem stays_walk (A : Option Addr) (n c : Nat) (bs : List UInt8) (K : Option Addr) (mk cK : Nat) (ks : List Int) (D : Option Addr) (nd cD : Nat) (ps : List Put) (w : World)
    (hb : SlB w w.heap.size A n bs) (hk : Sl w w.heap.size K mk (ks.map (Value.int .i64))) (hp : SlPut w w.heap.size D nd ps) (hn : n ≤ 9223372036854775807) (hmk : mk ≤ 9223372036854775807) (hnd : nd ≤ 9223372036854775807) (hc : nd ≤ cD) :
    Calls Try.prog 9 #[.slice A n c, .slice K mk cK, .slice D nd cD] w fun e w' => e = .returned (.bool true) ∧ Below w.heap.size w w' := by
  have HP := hide (hp.take (min nd 400) (Nat.min_le_left _ _)); clear hp
  have HA := hide hb; have HK := hide hk; clear hb hk
  have hm : min nd 400 ≤ 400 := Nat.min_le_right _ _
  have HF := hide (few_any D nd cD w hnd hc)
  go_enter Try.func9, Try.ntmps9
  go_wp2_with fail
  refine HF.out.mono ?_
  rintro e w' ⟨rfl, rfl⟩
  obtain ⟨m, hmm⟩ : ∃ m, m = min nd 400 := ⟨_, rfl⟩
  obtain ⟨qs, hqs⟩ : ∃ qs, qs = ps.take (min nd 400) := ⟨_, rfl⟩
  rw [← hqs] at HP
  rw [← hmm] at HP hm ⊢
  clear hmm hqs HF
  have HQL := hide HP.out.1
  go_wp2_with fail
  refine (newwriter_any _).mono ?_
  rintro e w1 ⟨rfl, h1, hb⟩
  have S1 : Hid (WSt w1 w.heap.size w.heap.size 76 (Wire.bytesOf (qs.take 0)) (Wire.badOf (qs.take 0))) := hide h1
  have B1 := hide hb; clear h1 hb
  go_wp2_with fail
  go_loopw [8] (fun v8 wq => ∃ i : Nat, i ≤ m ∧ v8 = .int .i64 i ∧ Hid (WSt wq w.heap.size w.heap.size 76 (Wire.bytesOf (qs.take i)) (Wire.badOf (qs.take i))) ∧ Hid (Below w.heap.size w wq)) (fun v _ => m - (intOf v).toNat)
  case atStart => exact ⟨0, by omega, rfl, S1, B1⟩
  case round =>
    clear S1 B1
    obtain ⟨i, hi, rfl, S, B⟩ := hrel
    have HLEN : Hid ((Wire.bytesOf (qs.take i)).length + 10 + 65546 * 4096 + 65546 ≤ 140737488355000) := hide (by
      have h1 := Wire.bytesOf_length (qs.take i)
      have h2 : (qs.take i).length ≤ 400 := by rw [List.length_take]; omega
      have h3 := Nat.mul_le_mul_left 268476500 h2
      omega)
    by_cases hlt : i < m
    · obtain ⟨b, off, p, rfl, hbb, hpi, hok, e0, e1, e2, A2, d2, e3, hl2⟩ := HP.out.at_ hlt
      have HPI := hide hpi; have HOK := hide hok
      have b1 : (0 : Int) ≤ (i : Int) := by omega
      have b2 : (i : Int) < (m : Int) := by omega
      go_wp2_with fail
      refine (frame_any w.heap.size w.heap.size (Wire.bytesOf (qs.take i)) (Wire.badOf (qs.take i)) _ S.out (Nat.le_refl _) (by have := HLEN.out; omega)).mono ?_
      rintro e w2 ⟨A3, c3, rfl, ho, hb⟩
      have S2 := hide (S.out.below hb); have B2 := hide (B.out.trans (hb.mono B.out.size))
      have c0 := (B2.out.cell (p := ⟨b, _, none⟩) hbb).trans e0
      have c1 := (B2.out.cell (p := ⟨b, _, none⟩) hbb).trans e1
      have c2 := (B2.out.cell (p := ⟨b, _, none⟩) hbb).trans e2
      have c3 := (B2.out.cell (p := ⟨b, _, none⟩) hbb).trans e3
      have HL2 := hide (hl2.below B2.out (Nat.le_refl _))
      clear e0 e1 e2 e3 hpi hok hl2 ho hb S B
      go_wp2_with fail
      refine (put_any w.heap.size w.heap.size p A2 d2 _ _ _ HOK.out S2.out (Nat.le_refl _) HL2.out (by have := HLEN.out; omega)).mono ?_
      rintro e w4 ⟨rfl, h1, hb⟩
      rw [← Wire.bytesOf_step HPI.out, ← Wire.badOf_step HPI.out] at h1
      have S4 := hide h1; have B4 := hide (B2.out.trans hb); clear h1 hb S2 B2 c0 c1 c2 c3
      go_wp2_with fail
      go_roundw
      case rel => exact ⟨i + 1, by omega, by go_num, S4, B4⟩
      case measure => simp [intOf]; omega
    · have HFT : Hid (qs.take i = qs) := hide (List.take_of_length_le (by rw [HQL.out]; omega))
      have hge : ¬ ((i : Int) < (m : Int)) := by omega
      rw [HFT.out] at S HLEN
      clear HFT hlt
      go_wp2_with fail
      refine (frame_any w.heap.size w.heap.size (Wire.bytesOf qs) (Wire.badOf qs) _ S.out (Nat.le_refl _) (by have := HLEN.out; omega)).mono ?_
      rintro e w2 ⟨A3, c3, rfl, ho, hb⟩
      have O2 : Hid (Own w2 wr.heap.size 5 A3 (Wire.out qs).1.length c3 ((Wire.out qs).1.map bv)) := hide ho
      have B2 := hide (B.out.trans (hb.mono B.out.size))
      rw [show Wire.said (Wire.bytesOf qs) (Wire.badOf qs) = Wire.out qs from rfl]
      clear ho hb S B
      go_wp2_with fail
      refine (write_any D m cD qs _ ((HP.out.below B2.out (Nat.le_refl _)).more B2.out.size) hm).mono ?_
      rintro e w4 ⟨A4, c4, rfl, ho, hb⟩
      have O4 := hide ho; have P4 := hide (O2.out.below hb); have B4 := hide (B2.out.trans (hb.mono B2.out.size))
      have HOL := hide (Wire.out_length qs)
      clear ho hb O2 B2
      obtain ⟨r, hr⟩ : ∃ r, r = Wire.out qs := ⟨_, rfl⟩
      rw [← hr] at O4 P4 HOL ⊢
      clear hr
      obtain ⟨ys, x⟩ := r
      have hxx : ((x : Int) != x) = false := by simp
      simp only at O4 P4 HOL ⊢
      go_wp2_with fail
      refine (known_any _).mono ?_
      rintro e w5 ⟨rfl, hb⟩
      have O5 := hide (O4.out.below hb); have P5 := hide (P4.out.below hb); have B5 := hide (B4.out.trans (hb.mono B4.out.size)); clear hb O4 P4 B4
      go_wp2_with fail
      refine (same_refl A3 A4 _ _ c3 c4 ys _ P5.out.sl O5.out.sl (by have := HOL.out; omega)).mono ?_
      rintro e w6 ⟨rfl, hb⟩
      have B6 := hide (B5.out.trans (hb.mono B5.out.size)); clear hb O5 P5 B5
      by_cases hbl : 65536 < n
      · have g1 : (65536 : Int) < (n : Int) := by omega
        clear hbl
        go_wp2_with fail
        go_ret
        exact ⟨rfl, B6.out⟩
      · have g1 : ¬ ((65536 : Int) < (n : Int)) := by omega
        have HFR := hide (rframe_any A n c bs w6 ((HA.out.below B6.out (Nat.le_refl _)).more B6.out.size) (by omega))
        have HBL : Hid (bs.length ≤ 65536) := hide (by rw [HA.out.len]; omega)
        clear hbl
        go_wp2_with fail
        refine HFR.out.mono ?_
        rintro e w7 ⟨A7, c7, rfl, ho, hb7⟩
        have hc1 : (Wire.frame bs).length ≤ c7 ∧ c7 ≤ 9223372036854775807 := by
          rcases ho.2 with ⟨h1, h2⟩ | ⟨g, cap, cur, h1, h2, h3, h4, h5, h6, h7⟩
          · injection h1 with a1 a2 a3; omega
          · injection h1 with a1 a2 a3; unfold maxLen at h5; omega
        have HN := hide (newreader_any A7 _ c7 (Wire.frame bs) w7 ho.sl hc1.1 hc1.2)
        rw [Rd.open_frame bs HBL.out, Wire.frame_drop] at HN
        have B7 := hide (B6.out.trans (hb7.mono B6.out.size))
        clear ho hb7 HFR hc1 B6
        go_wp2_with fail
        refine HN.out.mono ?_
        rintro e w8 ⟨P, rfl, hb8, hcase⟩
        obtain ⟨G, rfl, hG, hS⟩ : ∃ G, P = some ⟨G, 0, none⟩ ∧ w7.heap.size ≤ G ∧ RSt w8 G 71 bs 0 := by
          rcases hcase with ⟨h, _⟩ | ⟨_, h⟩
          · exact absurd rfl h
          · exact h
        have S8 := hide hS; have B8 := hide (B7.out.trans (hb8.mono B7.out.size)); have HG : Hid (w.heap.size ≤ G) := hide (Nat.le_trans B7.out.size hG)
        clear hb8 hcase hS hG HN B7
        go_wp2_with fail
        go_loopw [15] (fun v15 wq => ∃ (j : Nat) (rs : List UInt8) (b : Int), j ≤ mk ∧ j ≤ 400 ∧ rs.length ≤ 65536 ∧ v15 = .int .i64 j ∧ Hid (RSt wq G 71 rs b) ∧ Hid (Below w.heap.size w wq)) (fun v _ => 400 - (intOf v).toNat)
        case atStart => exact ⟨0, bs, 0, by omega, by omega, HBL.out, rfl, S8, B8⟩
        case round =>
          clear S8 B8
          obtain ⟨j, rs, b, hj, hj4, hrs, rfl, S, B⟩ := hrel
          by_cases hgo : j < mk ∧ j < 400
          · obtain ⟨hi1, hi2⟩ := hgo
            have g1 : (j : Int) < (mk : Int) := by omega
            have g2 : (j : Int) < 400 := by omega
            have g0 : (0 : Int) ≤ (j : Int) := by omega
            obtain ⟨kb, ko, ku, rfl, hkb, hku, kc0⟩ := HK.out.at_ hi1
            obtain ⟨kk, hkk⟩ : ∃ kk, ks[j]? = some kk := by
              rw [List.getElem?_map] at hku
              cases h : ks[j]? with
              | none => rw [h] at hku; cases hku
              | some x => exact ⟨x, rfl⟩
            rw [List.getElem?_map, hkk] at hku
            injection hku with hku; subst hku
            have kc := (B.out.cell (p := ⟨kb, ko + j, none⟩) hkb).trans kc0
            have KC := hide kc0
            clear hkk kc0
            go_wp2_with fail
            refine (rend_any G rs b _ S.out).mono ?_
            rintro e w9 ⟨rfl, rfl⟩
            obtain ⟨was, hwas⟩ : ∃ was, was = Rd.ends b rs := ⟨_, rfl⟩
            rw [← hwas]
            have HWAS := hide hwas
            clear hwas
            have hlr := lread_any G kk rs b wr S.out (by omega)
            have hrl := Rd.read_l kk b rs
            have hrr := Rd.read_rest kk b rs
            have hoff := Rd.read_off (b := b) (kind := kk) (rest := rs)
            obtain ⟨res, hres⟩ : ∃ res, res = Rd.read kk b rs := ⟨_, rfl⟩
            rw [← hres] at hlr hrl hrr
            have HOFF : Hid (b ≠ 0 → res = (Rd.zero kk, b, rs)) := hide (fun h => by rw [hres]; exact hoff h)
            clear hres hoff
            obtain ⟨⟨pk, pn, ps', pl⟩, e, rs'⟩ := res
            simp only at hrl hrr
            have HLR := hide hlr
            clear hlr
            go_wp2_with fail
            refine HLR.out.mono ?_
            rintro e9 w9 ⟨cL, AL, rfl, ht, hs, hg9⟩
            have T9 := hide ht; have S9 := hide hs; have B9 := hide (below_of_grown B.out hg9 B.out.size (fun k hk => by injection hk with hk; subst hk; exact HG.out))
            clear ht hs hg9 HLR S B kc
            unfold Put.val
            simp only
            have RX : Hid (RowV (w9.alloc (.cells #[.int .i64 pk, .int .i64 pn, .string ps', .slice AL pl.length cL] 43)) w9.heap.size 43 [.int .i64 pk, .int .i64 pn, .string ps', .slice AL pl.length cL]) := hide (RowV.new w9 _ _)
            have SX := hide (S9.out.below ((Below.refl _ _).alloc (Nat.le_refl _) (.cells #[.int .i64 pk, .int .i64 pn, .string ps', .slice AL pl.length cL] 43)))
            have BX := hide (B9.out.alloc B9.out.size (.cells #[.int .i64 pk, .int .i64 pn, .string ps', .slice AL pl.length cL] 43))
            have TX := hide (T9.out.below ((Below.refl _ _).alloc (Nat.le_refl _) (.cells #[.int .i64 pk, .int .i64 pn, .string ps', .slice AL pl.length cL] 43)))
            go_wp2_with fail
            refine calls_world (fun X => Hid (RowV X w9.heap.size 43 [.int .i64 pk, .int .i64 pn, .string ps', .slice AL pl.length cL]) ∧ Hid (RSt X G 71 rs' e) ∧ Hid (Below w.heap.size w X) ∧ Hid (SlT X 9 AL pl.length (pl.map Value.string))) ⟨RX, SX, BX, TX⟩ ?_
            clear RX SX BX TX S9 B9 T9
            rintro X ⟨RX, SX, BX, TX⟩
            generalize w9.heap.size = gx at RX ⊢
            refine (rend_any G rs' e X SX.out).mono ?_
            rintro e9 w9 ⟨rfl, rfl⟩
            have hx0 : ∀ p : Ext X, (extW X p).cell? ⟨gx, 0, none⟩ = some (.int .i64 pk) := fun p => (RX.out.below' (extW_below X p)).cell (k := 0) rfl
            have hx1 : ∀ p : Ext X, (extW X p).cell? ⟨gx, 1, none⟩ = some (.int .i64 pn) := fun p => (RX.out.below' (extW_below X p)).cell (k := 1) rfl
            have hx2 : ∀ p : Ext X, (extW X p).cell? ⟨gx, 2, none⟩ = some (.string ps') := fun p => (RX.out.below' (extW_below X p)).cell (k := 2) rfl
            have hx3 : ∀ p : Ext X, (extW X p).cell? ⟨gx, 3, none⟩ = some (.slice AL pl.length cL) := fun p => (RX.out.below' (extW_below X p)).cell (k := 3) rfl
            have kc : ∀ p : Ext X, (extW X p).cell? ⟨kb, ko + j, none⟩ = some (.int .i64 kk) := fun p => ((BX.out.trans ((extW_below X p).mono BX.out.size)).cell (p := ⟨kb, ko + j, none⟩) hkb).trans KC.out
            have FIN : Hid (∀ p : Ext X, RSt (extW X p) G 71 rs' e ∧ Below w.heap.size w (extW X p)) := hide (fun p => ⟨SX.out.below (extW_below X p), BX.out.trans ((extW_below X p).mono BX.out.size)⟩)
            by_cases hw0 : was = 0
            · subst hw0
              clear HOFF
              go_wp2_with fail
              refine wp_region_ext (by kernel_rfl) (by kernel_rfl) ?_
              repeat (go_big_quiet_step (fail))
              refine wpQuiet_nil ?_
              intro _ hw'
              obtain ⟨p, hw''⟩ := hw'
              subst hw''
              obtain ⟨SF, BF⟩ := FIN.out p
              have SFF := hide SF; have BFF := hide BF
              clear SF BF FIN hx0 hx1 hx2 hx3 kc
              go_wp2_with fail
              go_roundw
              case rel => exact ⟨j + 1, rs', e, by omega, by omega, by omega, by go_num, SFF, BFF⟩
              case measure => simp [intOf]; omega
            have hwn : (was != 0) = true := by simpa using hw0
            by_cases hw3 : was = 3
            · subst hw3
              clear HOFF hw0 hwn
              go_wp2_with fail
              refine wp_region_ext (by kernel_rfl) (by kernel_rfl) ?_
              repeat (go_big_quiet_step (fail))
              refine wpQuiet_nil ?_
              intro _ hw'
              obtain ⟨p, hw''⟩ := hw'
              subst hw''
              obtain ⟨SF, BF⟩ := FIN.out p
              have SFF := hide SF; have BFF := hide BF
              clear SF BF FIN hx0 hx1 hx2 hx3 kc
              go_wp2_with fail
              go_roundw
              case rel => exact ⟨j + 1, rs', e, by omega, by omega, by omega, by go_num, SFF, BFF⟩
              case measure => simp [intOf]; omega
            · have hw3n : (was != 3) = true := by simpa using hw3
              have hb0 : b ≠ 0 := by
                intro h; subst h
                have := HWAS.out
                unfold Rd.ends at this
                by_cases hr : (0 : Int) = 0 ∧ 0 < rs.length
                · rw [if_pos hr] at this; exact hw3 this
                · rw [if_neg hr] at this; exact hw0 this
              have hz := HOFF.out hb0
              injection hz with hz1 hz2; injection hz2 with hz2 hz3
              unfold Rd.zero at hz1
              injection hz1 with a1 a2 a3 a4
              subst a1; subst a2; subst a3; subst a4; subst hz2; subst hz3
              have HNOW : Hid (Rd.ends e rs' = was) := hide HWAS.out.symm
              rw [HNOW.out]
              have hee : ((was : Int) != was) = false := by simp
              have KS : Hid (∀ p : Ext X, Calls Try.prog 20 #[.agg #[.int .i64 pk, .int .i64 0, .string ByteArray.empty, .slice AL 0 cL], .agg #[.int .i64 pk, .int .i64 0, .string ⟨#[]⟩, .slice none 0 0]] (extW X p) fun e w' => e = .returned (.bool true) ∧ Below (extW X p).heap.size (extW X p) w') := hide (fun p => psame_any (Rd.zero pk) AL none cL 0 (extW X p) ⟨rfl, fun h => absurd h (Nat.not_lt_zero _)⟩ Sl.nil_ (Nat.zero_le _))
              clear HOFF HWAS HNOW hw0 hw3 hb0 hrl hrr
              simp only [List.length_nil] at hx3
              go_wp2_with fail
              refine wp_region_ext (by kernel_rfl) (by kernel_rfl) ?_
              repeat (go_big_quiet_step (with_reducible first | exact ext_call _ (KS.out _)))
              refine wpQuiet_nil ?_
              intro _ hw'
              obtain ⟨p, hw''⟩ := hw'
              subst hw''
              obtain ⟨SF, BF⟩ := FIN.out p
              have SFF := hide SF; have BFF := hide BF
              clear SF BF FIN hx0 hx1 hx2 hx3 kc KS
              go_wp2_with fail
              go_roundw
              case rel => exact ⟨j + 1, rs', e, by omega, by omega, by omega, by go_num, SFF, BFF⟩
              case measure => simp [intOf]; omega
          · have hcase : ¬ ((j : Int) < (mk : Int)) ∨ ((j : Int) < (mk : Int) ∧ ¬ ((j : Int) < 400)) := by omega
            clear hgo
            rcases hcase with g1 | ⟨g1, g2⟩
            all_goals
              go_wp2_with fail
              go_ret
              exact ⟨rfl, B.out⟩
end Go.Proofs.Ytnlfnjadadfhkaa
