/-
  The walk of the law WireBack.
-/
import Derived.Test.YtnlfnjadadfhkaaWireV
import Derived.Deep.CutBlock
namespace Go.Proofs.Ytnlfnjadadfhkaa
open Go.RowKit
set_option linter.unusedVariables false

theorem Wire.bytesOf_drop {ps : List Put} {i : Nat} {p : Put} (h : ps[i]? = some p) : Wire.bytesOf (ps.drop i) = Wire.putB p ++ Wire.bytesOf (ps.drop (i + 1)) := by
  have hl : i < ps.length := (List.getElem?_eq_some_iff.1 h).1
  rw [List.drop_eq_getElem_cons hl]
  rw [List.getElem?_eq_getElem hl] at h
  injection h with h
  rw [h]
  simp [Wire.bytesOf]
set_option maxHeartbeats 8000000 in
set_option maxRecDepth 100000 in
theorem back_walk (A : Option Addr) (n c : Nat) (ps : List Put) (w : World) (hp : SlPut w w.heap.size A n ps) (hn : n ≤ 9223372036854775807) (hc : n ≤ c) :
    Calls Try.prog 8 #[.slice A n c] w fun e w' => e = .returned (.bool true) ∧ Below w.heap.size w w' := by
  have HP := hide (hp.take (min n 400) (Nat.min_le_left _ _)); clear hp
  have hm : min n 400 ≤ 400 := Nat.min_le_right _ _
  have HF := hide (few_any A n c w hn hc)
  go_enter Try.func8, Try.ntmps8
  go_wp2_with fail
  refine HF.out.mono ?_
  rintro e w' ⟨rfl, rfl⟩
  obtain ⟨m, hmm⟩ : ∃ m, m = min n 400 := ⟨_, rfl⟩
  obtain ⟨qs, hqs⟩ : ∃ qs, qs = ps.take (min n 400) := ⟨_, rfl⟩
  rw [← hqs] at HP
  rw [← hmm] at HP hm ⊢
  clear hmm hqs HF
  have HQL := hide HP.out.1
  go_wp2_with fail
  refine (write_any A m c qs _ HP.out hm).mono ?_
  rintro e w1 ⟨A1, c1, rfl, ho, hb⟩
  have O1 := hide ho; have B1 := hide hb; clear ho hb
  go_wp2_with fail
  refine (known_any _).mono ?_
  rintro e w2 ⟨rfl, hb⟩
  have O2 := hide (O1.out.below hb); have B2 := hide (B1.out.trans (hb.mono B1.out.size)); clear hb O1 B1
  by_cases hbad : (Wire.out qs).2 = 0
  · obtain ⟨hb0, hb1, hb2, hb3⟩ := Wire.out_fits hbad
    rw [hbad, hb2]
    rw [hb2] at O2
    have HFT := hide hb3
    have HBL := hide hb1
    have HFL : Hid ((Wire.frame (Wire.bytesOf qs)).length ≤ 65544) := hide (by rw [frame_length]; omega)
    obtain ⟨bb, hbbe⟩ : ∃ bb, bb = Wire.bytesOf qs := ⟨_, rfl⟩
    have HBB := hide hbbe
    rw [← hbbe] at HBL HFL O2 ⊢
    clear hbbe hb0 hb1 hb2 hb3 hbad
    have hc1 : (Wire.frame bb).length ≤ c1 ∧ c1 ≤ 9223372036854775807 := by
      rcases O2.out.2 with ⟨h1, h2⟩ | ⟨g, cap, cur, h1, h2, h3, h4, h5, h6, h7⟩
      · injection h1 with a1 a2 a3; omega
      · injection h1 with a1 a2 a3; unfold maxLen at h5; omega
    have HN := hide (newreader_any A1 _ c1 (Wire.frame bb) w2 O2.out.sl hc1.1 hc1.2)
    rw [Rd.open_frame bb HBL.out, Wire.frame_drop] at HN
    clear hc1
    go_wp2_with fail
    refine HN.out.mono ?_
    rintro e w3 ⟨P, rfl, hb3, hcase⟩
    obtain ⟨G, rfl, hG, hS⟩ : ∃ G, P = some ⟨G, 0, none⟩ ∧ w2.heap.size ≤ G ∧ RSt w3 G 71 bb 0 := by
      rcases hcase with ⟨h, _⟩ | ⟨_, h⟩
      · exact absurd rfl h
      · exact h
    have S3 : Hid (RSt w3 G 71 (Wire.bytesOf (qs.drop 0)) 0) := hide (by rw [List.drop_zero, ← HBB.out]; exact hS)
    have B3 := hide (B2.out.trans (hb3.mono B2.out.size))
    have HG : Hid (w.heap.size ≤ G) := hide (Nat.le_trans B2.out.size hG)
    clear hb3 hcase hS hG HN O2 B2
    go_wp2_with fail
    go_loopw [7] (fun v7 wq => ∃ i : Nat, i ≤ m ∧ v7 = .int .i64 i ∧ Hid (RSt wq G 71 (Wire.bytesOf (qs.drop i)) 0) ∧ Hid (Below w.heap.size w wq)) (fun v _ => m - (intOf v).toNat)
    case atStart => exact ⟨0, by omega, rfl, S3, B3⟩
    case round =>
      clear S3 B3
      obtain ⟨i, hi, rfl, S, B⟩ := hrel
      by_cases hlt : i < m
      · obtain ⟨b, off, p, rfl, hbb, hpi, hok, e0, e1, e2, A2, d2, e3, hl2⟩ := HP.out.at_ hlt
        have c0 := (B.out.cell (p := ⟨b, _, none⟩) hbb).trans e0
        have c1 := (B.out.cell (p := ⟨b, _, none⟩) hbb).trans e1
        have c2 := (B.out.cell (p := ⟨b, _, none⟩) hbb).trans e2
        have c3 := (B.out.cell (p := ⟨b, _, none⟩) hbb).trans e3
        have HL2 := hide hl2; have HOK := hide hok
        have HBD := hide (Wire.bytesOf_drop hpi)
        have HRD := hide (Rd.read_of p (Wire.bytesOf (qs.drop (i + 1))) hok (HFT.out p (List.mem_of_getElem? hpi)))
        have HPBL : Hid (p.back.l.length ≤ 9223372036854775807) := hide (by
          have h := HOK.out.2.2.2.2
          unfold Put.back
          simp only
          split
          · exact h
          · simp)
        have b1 : (0 : Int) ≤ (i : Int) := by omega
        have b2 : (i : Int) < (m : Int) := by omega
        clear e0 e1 e2 e3 hpi hl2 hok
        go_upto_block 2 with (fail)
        have BX : Hid (Below w.heap.size w ((wr.alloc (.cells #[.int .i64 p.kind, .int .i64 p.n, .string p.s, .slice A2 p.l.length d2] 43)).alloc (.cells #[.int .i64 p.kind, .int .i64 0, .string ByteArray.empty, .slice none 0 0] 43))) := hide ((B.out.alloc B.out.size _).alloc (by have := B.out.size; simp; omega) _)
        have SX := hide (S.out.below (((Below.refl _ _).alloc (Nat.le_refl _) (.cells #[.int .i64 p.kind, .int .i64 p.n, .string p.s, .slice A2 p.l.length d2] 43)).alloc (by simp) (.cells #[.int .i64 p.kind, .int .i64 0, .string ByteArray.empty, .slice none 0 0] 43)))
        refine wp_world (fun X => Hid (RowV X wr.heap.size 43 [.int .i64 p.kind, .int .i64 p.n, .string p.s, .slice A2 p.l.length d2]) ∧ Hid (RowV X (wr.heap.size + 1) 43 [.int .i64 p.kind, .int .i64 0, .string ByteArray.empty, .slice none 0 0]) ∧ Hid (RSt X G 71 (Wire.bytesOf (qs.drop i)) 0) ∧ Hid (Below w.heap.size w X)) ⟨hide ((RowV.new wr _ _).alloc _), hide (heap_alloc2_new wr _ _), SX, BX⟩ ?_
        rintro X ⟨P1, Y1, S1, B1⟩
        have HG8 : Hid (G < wr.heap.size) := hide S.out.lt
        have HW8 : Hid (w.heap.size ≤ wr.heap.size) := hide B.out.size
        clear SX BX S B c0 c1 c2 c3
        generalize wr.heap.size = g at P1 Y1 HG8 HW8 ⊢
        have x0 := P1.out.cell (k := 0) rfl
        have x1 := P1.out.cell (k := 1) rfl
        have x2 := P1.out.cell (k := 2) rfl
        have x3 := P1.out.cell (k := 3) rfl
        have y1 := Y1.out.cell (k := 1) rfl
        have y2 := Y1.out.cell (k := 2) rfl
        have y3 := Y1.out.cell (k := 3) rfl
        have f1 := Y1.out.free 1
        have f2 := Y1.out.free 2
        have f3 := Y1.out.free 3
        go_cut [] (fun wx => ∃ (AL : Option Addr) (cL : Nat), Hid (RowV wx g 43 [.int .i64 p.kind, .int .i64 p.n, .string p.s, .slice A2 p.l.length d2]) ∧ Hid (RowV wx (g + 1) 43 [.int .i64 p.back.kind, .int .i64 p.back.n, .string p.back.s, .slice AL p.back.l.length cL]) ∧ Hid (RSt wx G 71 (Wire.bytesOf (qs.drop i)) 0) ∧ Hid (Below w.heap.size w wx) ∧ Hid (Sl w w.heap.size AL p.back.l.length (p.back.l.map Value.string)))
        case first =>
          have HGne : G ≠ g + 1 := by have := HG8.out; omega
          have HST := hide (fun k v => S1.out.set_other Y1.out HGne (by decide) (k := k) (v := v))
          have HBT := hide (fun k v => B1.out.setCell (p := ⟨g + 1, k, none⟩) (by have := HW8.out; simp; omega) v)
          have HPT := hide (fun k v => P1.out.set_other (b := g + 1) (k := k) (v := v) (by omega))
          have HYT := hide (fun k v => Y1.out.set k v)
          clear HGne
          by_cases h0 : p.kind = 0
          · have HK : Hid (p.back = ⟨p.kind, p.n, ByteArray.empty, []⟩) := hide (by unfold Put.back; simp [h0])
            have b0 : (p.kind == 0) = true := by simp [h0]
            clear h0
            go_wp2_with fail
            go_meet
            case rel => exact ⟨none, 0, hide (HPT.out 1 _), hide (by rw [HK.out]; exact HYT.out 1 (.int .i64 p.n)), hide (HST.out 1 _), hide (HBT.out 1 _), hide (by rw [HK.out]; exact Sl.nil_)⟩
          have b0 : (p.kind == 0) = false := by simpa using h0
          by_cases h3 : p.kind = 3
          · have HK : Hid (p.back = ⟨p.kind, p.n, ByteArray.empty, []⟩) := hide (by unfold Put.back; simp [h3])
            have b3 : (p.kind == 3) = true := by simp [h3]
            clear h0 h3
            go_wp2_with fail
            go_meet
            case rel => exact ⟨none, 0, hide (HPT.out 1 _), hide (by rw [HK.out]; exact HYT.out 1 (.int .i64 p.n)), hide (HST.out 1 _), hide (HBT.out 1 _), hide (by rw [HK.out]; exact Sl.nil_)⟩
          have b3 : (p.kind == 3) = false := by simpa using h3
          by_cases h1 : p.kind = 1
          · have HK : Hid (p.back = ⟨p.kind, 0, p.s, []⟩) := hide (by unfold Put.back; simp [h1])
            have b1' : (p.kind == 1) = true := by simp [h1]
            clear h0 h3 h1
            go_wp2_with fail
            go_meet
            case rel => exact ⟨none, 0, hide (HPT.out 2 _), hide (by rw [HK.out]; exact HYT.out 2 (.string p.s)), hide (HST.out 2 _), hide (HBT.out 2 _), hide (by rw [HK.out]; exact Sl.nil_)⟩
          have b1' : (p.kind == 1) = false := by simpa using h1
          by_cases h2 : p.kind = 2
          · have b2' : (p.kind == 2) = true := by simp [h2]
            by_cases hn1 : p.n = 1
            · have HK : Hid (p.back = ⟨p.kind, 1, ByteArray.empty, []⟩) := hide (by unfold Put.back; simp [h2, hn1])
              have bn : (p.n == 1) = true := by simp [hn1]
              clear h0 h3 h1 h2 hn1
              go_wp2_with fail
              go_meet
              case rel => exact ⟨none, 0, hide (HPT.out 1 _), hide (by rw [HK.out]; exact HYT.out 1 (.int .i64 1)), hide (HST.out 1 _), hide (HBT.out 1 _), hide (by rw [HK.out]; exact Sl.nil_)⟩
            · have HK : Hid (p.back = ⟨p.kind, 0, ByteArray.empty, []⟩) := hide (by unfold Put.back; simp [h2, hn1])
              have bn : (p.n == 1) = false := by simpa using hn1
              clear h0 h3 h1 h2 hn1
              go_wp2_with fail
              go_meet
              case rel => exact ⟨none, 0, P1, hide (by rw [HK.out]; exact Y1.out), S1, B1, hide (by rw [HK.out]; exact Sl.nil_)⟩
          have b2' : (p.kind == 2) = false := by simpa using h2
          by_cases h4 : p.kind = 4
          · have HK : Hid (p.back = ⟨p.kind, 0, ByteArray.empty, p.l⟩) := hide (by unfold Put.back; simp [h4])
            have b4' : (p.kind == 4) = true := by simp [h4]
            clear h0 h3 h1 h2 h4
            go_wp2_with fail
            go_meet
            case rel => exact ⟨A2, d2, hide (HPT.out 3 _), hide (by rw [HK.out]; exact HYT.out 3 (.slice A2 p.l.length d2)), hide (HST.out 3 _), hide (HBT.out 3 _), hide (by rw [HK.out]; exact HL2.out)⟩
          · have HK : Hid (p.back = ⟨p.kind, 0, ByteArray.empty, []⟩) := hide (by unfold Put.back; simp [h0, h1, h2, h3, h4])
            have b4' : (p.kind == 4) = false := by simpa using h4
            clear h0 h3 h1 h2 h4
            go_wp2_with fail
            go_meet
            case rel => exact ⟨none, 0, P1, hide (by rw [HK.out]; exact Y1.out), S1, B1, hide (by rw [HK.out]; exact Sl.nil_)⟩
        case rest =>
          obtain ⟨AL, cL, P2, Y2, S2, B2, L2⟩ := hcut
          clear P1 Y1 S1 B1 x0 x1 x2 x3 y1 y2 y3 f1 f2 f3
          have x0 := P2.out.cell (k := 0) rfl
          have y0 := Y2.out.cell (k := 0) rfl
          have y1 := Y2.out.cell (k := 1) rfl
          have y2 := Y2.out.cell (k := 2) rfl
          have y3 := Y2.out.cell (k := 3) rfl
          have hlr := lread_any G p.kind (Wire.bytesOf (qs.drop i)) 0 wc.drew S2.out (by
            have h1 := Wire.bytesOf_length (qs.drop i)
            have h2 : (qs.drop i).length ≤ 400 := by rw [List.length_drop]; have := HQL.out; omega
            have h3 := Nat.mul_le_mul_left 268476500 h2
            omega)
          rw [HBD.out, HRD.out] at hlr
          have HLR := hide hlr
          have HGne : Hid (g ≠ G ∧ g + 1 ≠ G) := hide (by have := HG8.out; omega)
          have hPL := HPBL.out
          have HSM := hide (fun (AL' : Option Addr) (cL' : Nat) (X : World) (h1 : Sl X X.heap.size AL' p.back.l.length (p.back.l.map Value.string)) (h2 : Sl X X.heap.size AL p.back.l.length (p.back.l.map Value.string)) => psame_any p.back AL' AL cL' cL X h1 h2 HPBL.out)
          unfold Put.val at HSM
          clear hlr hPL S2
          have hS0 : wc.drew.cell? ⟨g, 0, none⟩ = some (.int .i64 p.kind) ∧ wc.drew.cell? ⟨g + 1, 0, none⟩ = some (.int .i64 p.back.kind) ∧ wc.drew.cell? ⟨g + 1, 1, none⟩ = some (.int .i64 p.back.n) ∧ wc.drew.cell? ⟨g + 1, 2, none⟩ = some (.string p.back.s) ∧ wc.drew.cell? ⟨g + 1, 3, none⟩ = some (.slice AL p.back.l.length cL) := ⟨x0, y0, y1, y2, y3⟩
          go_upto_region 24 with (fail)
          go_region_held3 (fun W => W.cell? ⟨g, 0, none⟩ = some (.int .i64 p.kind) ∧ W.cell? ⟨g + 1, 0, none⟩ = some (.int .i64 p.back.kind) ∧ W.cell? ⟨g + 1, 1, none⟩ = some (.int .i64 p.back.n) ∧ W.cell? ⟨g + 1, 2, none⟩ = some (.string p.back.s) ∧ W.cell? ⟨g + 1, 3, none⟩ = some (.slice AL p.back.l.length cL))
            (first | with_reducible assumption | exact KS.out)
            (first
              | (go_at_call 21; with_reducible refine HLR.out.mono ?_
                 rintro e5 w5 ⟨cL', AL', rfl, ht, hs, hg5⟩
                 have P5 := hide (P2.out.drew.only hg5 HGne.out.1); have Y5 := hide (Y2.out.drew.only hg5 HGne.out.2)
                 have KS : Hid (w5.cell? ⟨g, 0, none⟩ = some (.int .i64 p.kind) ∧ w5.cell? ⟨g + 1, 0, none⟩ = some (.int .i64 p.back.kind) ∧ w5.cell? ⟨g + 1, 1, none⟩ = some (.int .i64 p.back.n) ∧ w5.cell? ⟨g + 1, 2, none⟩ = some (.string p.back.s) ∧ w5.cell? ⟨g + 1, 3, none⟩ = some (.slice AL p.back.l.length cL)) := hide ⟨P5.out.cell (k := 0) rfl, Y5.out.cell (k := 0) rfl, Y5.out.cell (k := 1) rfl, Y5.out.cell (k := 2) rfl, Y5.out.cell (k := 3) rfl⟩
                 have T5 := hide ht; have S5 := hide hs
                 have B5 := hide (below_of_grown B2.out.drew hg5 B2.out.size (fun k hk => by injection hk with hk; subst hk; exact HG.out))
                 unfold Put.val)
              | (go_at_call 20; with_reducible refine (HSM.out _ _ _ T5.out.sl ((L2.out.below B5.out (Nat.le_refl _)).more B5.out.size)).mono ?_
                 rintro e6 w6 ⟨rfl, hb6⟩
                 have KS : Hid (w6.cell? ⟨g, 0, none⟩ = some (.int .i64 p.kind) ∧ w6.cell? ⟨g + 1, 0, none⟩ = some (.int .i64 p.back.kind) ∧ w6.cell? ⟨g + 1, 1, none⟩ = some (.int .i64 p.back.n) ∧ w6.cell? ⟨g + 1, 2, none⟩ = some (.string p.back.s) ∧ w6.cell? ⟨g + 1, 3, none⟩ = some (.slice AL p.back.l.length cL)) := hide (by
                   have p6 := P5.out.below' hb6; have y6 := Y5.out.below' hb6
                   exact ⟨p6.cell (k := 0) rfl, y6.cell (k := 0) rfl, y6.cell (k := 1) rfl, y6.cell (k := 2) rfl, y6.cell (k := 3) rfl⟩)
                 have S6 := hide (S5.out.below hb6); have B6 := hide (B5.out.trans (hb6.mono B5.out.size))))
          clear hS0 KS x0 y0 y1 y2 y3
          go_wp2_with fail
          go_roundw
          case rel => exact ⟨i + 1, by omega, by go_num, S6, B6⟩
          case measure => simp [intOf]; omega
      · have HE : Hid (Wire.bytesOf (qs.drop i) = []) := hide (by rw [List.drop_of_length_le (by rw [HQL.out]; omega)]; rfl)
        have hge : ¬ ((i : Int) < (m : Int)) := by omega
        rw [HE.out] at S
        go_wp2_with fail
        refine (rend_any G [] 0 _ S.out).mono ?_
        rintro e w4 ⟨rfl, rfl⟩
        have HZ : Hid (Rd.ends 0 [] = 0) := hide (by unfold Rd.ends; simp)
        rw [HZ.out]
        go_wp2_with fail
        go_ret
        exact ⟨rfl, B.out⟩
  · have hbn : ((Wire.out qs).2 != 0) = true := by simpa using hbad
    have HE : Hid ((Wire.out qs).1 = []) := hide (by
      unfold Wire.out Wire.said at hbad ⊢
      split
      · rfl
      · rename_i h
        rw [if_neg h] at hbad
        split
        · rfl
        · rename_i h2
          rw [if_neg h2] at hbad
          exact absurd rfl hbad)
    rw [HE.out] at O2 ⊢
    obtain ⟨x, hx⟩ : ∃ x, x = (Wire.out qs).2 := ⟨_, rfl⟩
    rw [← hx] at hbn ⊢
    clear hx hbad
    go_wp2_with fail
    refine (known_any _).mono ?_
    rintro e w3 ⟨rfl, hb⟩
    have B3 := hide (B2.out.trans (hb.mono B2.out.size)); clear hb B2
    go_wp2_with fail
    go_ret
    exact ⟨rfl, B3.out⟩
end Go.Proofs.Ytnlfnjadadfhkaa
