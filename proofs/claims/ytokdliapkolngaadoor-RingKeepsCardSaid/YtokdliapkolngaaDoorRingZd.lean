/-
  Ring: nothing is changed or kept; a nil ring: RingKeeps, walked.
-/
import Derived.Test.YtokdliapkolngaaDoorRingX
namespace Go.Proofs.YtokdliapkolngaaDoor
open Go.RowKit Go.Sort Go.Shelf Go.Great
set_option linter.unusedVariables false

theorem zeros65 : Array.replicate 65 (Value.int .u8 0) = ((List.replicate 65 (0 : UInt8)).map bv).toArray := by kernel_rfl
abbrev roomB : ByteArray := ⟨#[114, 111, 111, 109]⟩
theorem one_room (s : ByteArray) : ∀ u ∈ [Value.string s], u.oneCell' = true := by intro u hu; simp at hu; subst hu; rfl
theorem Sl.takeN {w : World} {B b o n k : Nat} {xs : List Value} (h : Sl w B (some ⟨b, o, none⟩) n xs) (hk : k ≤ n) : Sl w B (some ⟨b, o, none⟩) k (xs.take k) := by
  refine ⟨by rw [List.length_take, h.1]; omega, fun h0 => ?_⟩
  obtain ⟨b', o', e, hb, hc⟩ := h.2 (by omega)
  refine ⟨b', o', e, hb, fun j u hu => hc j u ?_⟩
  have hj : j < k := by have := (List.getElem?_eq_some_iff.1 hu).1; simp at this; omega
  rwa [List.getElem?_take_of_lt hj] at hu
set_option maxHeartbeats 16000000 in
set_option maxRecDepth 100000 in
theorem keeps_walk (points : Int) (A : Option Addr) (nn c : Nat) (names : List ByteArray) (key : ByteArray) (w : World) (h : Sl w w.heap.size A nn (names.map Value.string)) (hn : nn * 16 ≤ 140737488351232) (hks : key.size ≤ 140737488355000) :
    Calls Tryd.prog 4 #[.int .i64 points, .slice A nn c, .string key] w fun e w' => e = .returned (.bool true) ∧ Below w.heap.size w w' := by
  have HSL := hide h
  have hl : names.length = nn := by have := h.1; simpa using this
  have HLN := hide hl
  have HSL2 : Hid (Sl (w.alloc (.cells #[] 9)) (w.alloc (.cells #[] 9)).heap.size A nn (names.map Value.string)) := hide ((HSL.out.below ((Below.refl w.heap.size w).alloc (Nat.le_refl _) _) (Nat.le_refl _)).more (by rw [World.size_alloc]; omega))
  have HOW0 : Hid (Own (w.alloc (.cells #[] 9)) w.heap.size 9 (some ⟨w.heap.size, 0, none⟩) 0 0 []) := hide (Own.of_block (fr := []) (heap_alloc_new w _) (Nat.le_refl _) rfl (by unfold maxLen; omega))
  have HSZ : Hid (w.heap.size ≤ (w.alloc (.cells #[] 9)).heap.size) := hide (by rw [World.size_alloc]; omega)
  clear h hl
  by_cases hg : GoodR points names
  · obtain ⟨each, rfl⟩ : ∃ each : Nat, points = (each : Int) := ⟨points.toNat, by have := hg.1; omega⟩
    have HG := hide hg
    clear hg
    go_enter Tryd.func4, Tryd.ntmps4
    go_wp2_with (at_builtin; go_must (with_reducible refine wpList_app rfl (.tmp 24) (.tmp 25) 22 rfl (.string ByteArray.empty) 16 Tryd.underlying22 info_strR rfl rfl HOW0.out rfl HSL2.out (one_strs _) (by unfold maxLen; omega) (by omega) HSZ.out ?_))
    intro A1 c1 w1 hown hgr hat
    have HO1 : Hid (Own w1 w.heap.size 9 A1 nn c1 (names.map Value.string)) := hide (by simpa using hown)
    have HB1 : Hid (Below w.heap.size w w1) := hide (below_of_grown ((Below.refl w.heap.size w).alloc (Nat.le_refl _) _) hgr (by rw [World.size_alloc]; omega) HOW0.out.row_ge)
    have HZ1 : Hid (w.heap.size ≤ (w1.alloc (.cells #[.string roomB] 9)).heap.size) := hide (by rw [World.size_alloc]; have := HB1.out.size; omega)
    have HO1a : Hid (Own (w1.alloc (.cells #[.string roomB] 9)) w.heap.size 9 A1 nn c1 (names.map Value.string)) := hide (HO1.out.below ((Below.refl _ _).alloc (Nat.le_refl _) _))
    clear hown hgr hat HSL2 HOW0 HSZ
    go_wp2_with (at_builtin; go_must (with_reducible refine wpList_app rfl (.tmp 26) (.tmp 27) 22 rfl (.string ByteArray.empty) 16 Tryd.underlying22 info_strR rfl rfl HO1a.out rfl Sl.one (one_room _) (by unfold maxLen; omega) (by omega) HZ1.out ?_))
    intro A2 c2 w2 hown hgr hat
    have HB2 : Hid (Below w.heap.size w w2) := hide (below_of_grown (HB1.out.alloc HB1.out.size _) hgr HZ1.out HO1a.out.row_ge)
    obtain ⟨g, rfl, hob, hcc, _⟩ := (OwnS.of_own hown).spot (by omega)
    have HO2 := hide hown
    have HGG : Hid (w.heap.size ≤ g ∧ g < w2.heap.size) := hide ⟨hown.row_ge g hob, hown.row_lt g hob⟩
    have hcap := hown.le_cap
    have croom := hcc nn (.string roomB) (by rw [List.getElem?_append_right (by simp; have := HLN.out; omega)]; simp [HLN.out])
    have hc1 : (nn : Int) ≤ (c2 : Int) := by omega
    have hc2 : (c2 : Int) ≤ 9223372036854775807 := by unfold maxLen at hcap; omega
    have HC2 : Hid (c2 ≤ 9223372036854775807) := hide (by unfold maxLen at hcap; omega)
    have HSN : Hid (Sl w2 w2.heap.size (some ⟨g, 0, none⟩) nn (names.map Value.string)) := hide (by
      have := (HO2.out.sl).takeN (k := nn) (by omega)
      rw [List.take_left' (by simp; exact HLN.out)] at this
      exact this)
    have hn0 : (0 : Int) ≤ (nn : Int) := by omega
    have hn1 : (nn : Int) < (nn : Int) + 1 := by omega
    clear hown hgr hat hob hcc hcap HO1 HO1a HB1 HZ1
    go_wp2_with fail
    refine (new_good each (some ⟨g, 0, none⟩) nn c2 names w2 HSN.out (by omega) HG.out).mono ?_
    rintro e w3 ⟨⟨n, gr, pts, rfl, hr⟩, hb⟩
    have HR3 := hide hr; have HB3 := hide hb
    clear hr hb
    go_wp2_with fail
    refine (known_any w3).mono ?_
    rintro e w4 ⟨rfl, hb⟩
    have HR4 := hide (HR3.out.below hb); have HB24 : Hid (Below w2.heap.size w2 w4) := hide (HB3.out.trans (hb.mono HB3.out.size))
    clear hb HR3 HB3
    have croom4 := (HB24.out.cell (p := ⟨g, nn, none⟩) HGG.out.2).trans croom
    have KSM := hide (sameS_any (some ⟨g, 0, none⟩) A nn nn c2 c names names w4 ((HSN.out.below HB24.out (Nat.le_refl _)).more HB24.out.size) ((HSL.out.below (HB2.out.trans (HB24.out.mono HB2.out.size)) (Nat.le_refl _)).more (HB2.out.trans (HB24.out.mono HB2.out.size)).size) (by omega) (by omega))
    rw [show decide (names = names) = true from decide_eq_true rfl] at KSM
    clear croom
    go_wp2_with fail
    refine KSM.out.mono ?_
    rintro e w5 ⟨rfl, hb⟩
    have HR5 := hide (HR4.out.below hb); have HB25 : Hid (Below w2.heap.size w2 w5) := hide (HB24.out.trans (hb.mono HB24.out.size))
    clear hb HR4 HB24 KSM croom4 HSN
    go_wp2_with fail
    refine (with_nil _ w5).mono ?_
    rintro e w6 ⟨rfl, rfl⟩
    go_wp2_with fail
    refine (without_nil _ w6).mono ?_
    rintro e w7 ⟨rfl, rfl⟩
    go_wp2_with fail
    refine (owner_nil _ w7).mono ?_
    rintro e w8 ⟨rfl, rfl⟩
    go_wp2_with fail
    refine (order_nil _ w8).mono ?_
    rintro e w9 ⟨rfl, rfl⟩
    go_wp2_with fail
    refine (names_nil w9).mono ?_
    rintro e w10 ⟨rfl, rfl⟩
    go_wp2_with fail
    refine (points_nil w10).mono ?_
    rintro e w11 ⟨rfl, rfl⟩
    have hbw : w2.heap.size ≤ w11.heap.size := HB25.out.size
    have HBW := hide hbw
    clear hbw
    obtain ⟨a, ha⟩ : ∃ a : Int, a = (placeN key : Int) := ⟨_, rfl⟩
    have HAA := hide ha
    have KO1 := hide (order_ok key w11 HR5.out HBW.out hks)
    rw [← ha] at KO1
    clear ha
    go_wp2_with fail
    refine KO1.out.mono ?_
    rintro e w12 ⟨A12, c12, rfl, ho, hb⟩
    have HWAS := hide ho
    have HR12 := hide (HR5.out.below hb)
    have HB212 : Hid (Below w2.heap.size w2 w12) := hide (HB25.out.trans (hb.mono HB25.out.size))
    have HOw : Hid (Own w12 w.heap.size 9 (some ⟨g, 0, none⟩) (nn + 1) c2 (names.map Value.string ++ [Value.string roomB])) := hide (HO2.out.below HB212.out)
    clear ho hb KO1 HO2 HR5 HB25
    obtain ⟨lo, hlo⟩ : ∃ lo, lo = (ordR pts a).length := ⟨_, rfl⟩
    have hlo8 : lo ≤ 1000000 := by
      rw [hlo, ord_length HR12.out.sd HR12.out.hn HR12.out.nodup HR12.out.each_pos HR12.out.pts_pos]; have := HR12.out.names_le; omega
    have HLO := hide hlo
    rw [← hlo] at HWAS ⊢
    clear hlo
    go_wp2_with fail
    go_loopw [16] (fun v16 wr => ∃ (i : Nat) (xs : List Value), i ≤ nn ∧ v16 = .int .i64 i ∧ Hid (Own wr w.heap.size 9 (some ⟨g, 0, none⟩) (nn + 1) c2 xs) ∧ Hid (But (fun k => k = g) w12 wr)) (fun v _ => nn - (intOf v).toNat)
    case atStart => exact ⟨0, _, by omega, rfl, HOw, hide (But.refl _ _)⟩
    case round => as_aux_lemma =>
      clear HOw
      obtain ⟨i, xs, hi, rfl, HW, HBu⟩ := hrel
      have i0 : (0 : Int) ≤ (i : Int) := by omega
      by_cases hlt : i < nn
      · have i1 : (i : Int) < (nn : Int) := by omega
        have i2 : (i : Int) < (nn : Int) + 1 := by omega
        obtain ⟨g', hg', _, hcc, hff⟩ := (OwnS.of_own HW.out).spot (by omega)
        injection hg' with hg'; injection hg' with hg' _ _; subst hg'
        have hxl : xs.length = nn + 1 := HW.out.len
        obtain ⟨u0, hu0⟩ : ∃ u0, xs[i]? = some u0 := ⟨_, List.getElem?_eq_getElem (show i < xs.length by omega)⟩
        have c1 := hcc i u0 hu0
        have f1 := hff i
        have HWN : Hid (Own (wr.setCell ⟨g, i, none⟩ (.string ⟨#[111, 118, 101, 114]⟩)) w.heap.size 9 (some ⟨g, 0, none⟩) (nn + 1) c2 (xs.set i (.string ⟨#[111, 118, 101, 114]⟩))) := hide ((OwnS.of_own HW.out).set (j := i) _)
        have HBN : Hid (But (fun k => k = g) w12 (wr.setCell ⟨g, i, none⟩ (.string ⟨#[111, 118, 101, 114]⟩))) := hide (HBu.out.setC rfl)
        clear hcc hff hxl hu0
        go_wp2_with fail
        go_roundw
        case rel => exact ⟨i + 1, _, by omega, by go_num, HWN, HBN⟩
        case measure => simp [intOf]; omega
      · obtain rfl : nn = i := by omega
        have i1 : ¬ ((nn : Int) < (nn : Int)) := by omega
        have HV : Hid (RingOk wr w2.heap.size gr names each pts) := hide ⟨HR12.out.st.but HBu.out (fun k hk _ hh => by have hh : k = g := hh; have := HGG.out; omega), HR12.out.sd, HR12.out.hn, HR12.out.gd⟩
        have HWA : Hid (Own wr w11.heap.size 3 A12 lo c12 ((ordR pts a).map (Value.int .i64))) := hide (OwnS.but_row (OwnS.of_own HWAS.out) HBu.out (fun k hk hh => by have hh : k = g := hh; have := HWAS.out.row_ge k hk; have := HGG.out; have := HBW.out; omega))
        have HBv : Hid (Below w.heap.size w wr) := hide ((HB2.out.trans (HB212.out.mono HB2.out.size)).trans (HBu.out.below (fun k hk => by have hk : k = g := hk; have := HGG.out; omega) (by have := HB2.out.size; have := HB212.out.size; omega)))
        have HVs : Hid (w2.heap.size ≤ wr.heap.size) := hide (by have := HB212.out.size; have := HBu.out.size; omega)
        have KR1 : Hid (∀ X, Below wr.heap.size wr X → RingOk X w2.heap.size gr names each pts) := hide (fun X hb => HV.out.below hb)
        have KW1 : Hid (∀ X, Below wr.heap.size wr X → Own X w11.heap.size 3 A12 lo c12 ((ordR pts a).map (Value.int .i64))) := hide (fun X hb => HWA.out.below hb)
        have KB1 : Hid (∀ X, Below wr.heap.size wr X → Below w.heap.size w X) := hide (fun X hb => HBv.out.trans (hb.mono HBv.out.size))
        have KS1 : Hid (∀ X, Below wr.heap.size wr X → w2.heap.size ≤ X.heap.size) := hide (fun X hb => Nat.le_trans HVs.out hb.size)
        have KP := hide (points_ok wr HV.out HVs.out)
        have hpp := HV.out.pts_pos
        have hpe := HV.out.pts_le
        obtain ⟨L, hL⟩ : ∃ L, L = pts.length := ⟨_, rfl⟩
        have HL := hide hL
        rw [← hL] at KP hpp hpe
        clear hL HW HBu HV HWA HBv HVs HWAS HR12 HB212
        go_wp2_with fail
        refine KP.out.mono ?_
        rintro e w13 ⟨A13, c13, rfl, ho, hb⟩
        obtain ⟨gp, rfl, hgp, _, _⟩ := ho.spot hpp
        have HGP : Hid (wr.heap.size ≤ gp) := hide (ho.row_ge gp hgp)
        have HP0 := hide ho; have HB0 := hide hb
        clear ho hb hgp KP
        go_wp2_with fail
        go_loopw [17] (fun v17 wq => ∃ (i : Nat) (ps : List (PtN n)), i ≤ L ∧ v17 = .int .i64 i ∧ Hid (ps.length = L) ∧ Hid (OwnS 2 wq wr.heap.size 39 (some ⟨gp, 0, none⟩) L c13 (ps.flatMap encP)) ∧ Hid (Below wr.heap.size wr wq)) (fun v _ => L - (intOf v).toNat)
        case atStart => exact ⟨0, pts, by omega, rfl, hide HL.out.symm, HP0, HB0⟩
        case round => as_aux_lemma =>
          clear HP0 HB0
          obtain ⟨i, ps, hi, rfl, HPL, HPW, HPB⟩ := hrel
          have i0 : (0 : Int) ≤ (i : Int) := by omega
          by_cases hlt : i < L
          · have i1 : (i : Int) < (L : Int) := by omega
            obtain ⟨y, hy⟩ : ∃ y, ps[i]? = some y := ⟨_, List.getElem?_eq_getElem (by have := HPL.out; omega)⟩
            obtain ⟨g', hg', _, _, ⟨c1, c2'⟩, hff⟩ := HPW.out.pt HPL.out hy
            injection hg' with hg'; injection hg' with hg' _ _; subst hg'
            have f1 := hff (i * 2)
            have f2 := hff (i * 2 + 1)
            have HPN := hide (HPW.out.setP (j := i) (by have := HPL.out; omega) (⟨0, 0, by omega, by omega⟩ : PtN n))
            have HPL2 : Hid ((ps.set i (⟨0, 0, by omega, by omega⟩ : PtN n)).length = L) := hide (by rw [List.length_set]; exact HPL.out)
            have HPB2 : Hid (Below _ _ ((wr.setCell ⟨gp, i * 2, none⟩ (.int .u64 0)).setCell ⟨gp, i * 2 + 1, none⟩ (.int .i64 0))) := hide ((HPB.out.setCell HGP.out _).setCell HGP.out _)
            clear hff hy
            go_wp2_with fail
            go_roundw
            case rel => exact ⟨i + 1, _, by omega, by go_num, HPL2, HPN, HPB2⟩
            case measure => simp [intOf]; omega
          · obtain rfl : L = i := by omega
            have i1 : ¬ ((L : Int) < (L : Int)) := by omega
            have HV2 := hide (KR1.out _ HPB.out)
            have KR2 : Hid (∀ X, Below wr.heap.size wr X → RingOk X w2.heap.size gr names each pts) := hide (fun X hb => HV2.out.below hb)
            have KW2 : Hid (∀ X, Below wr.heap.size wr X → Own X w11.heap.size 3 A12 lo c12 ((ordR pts a).map (Value.int .i64))) := hide (fun X hb => (KW1.out _ HPB.out).below hb)
            have KB2 : Hid (∀ X, Below wr.heap.size wr X → Below w.heap.size w X) := hide (fun X hb => (KB1.out _ HPB.out).trans (hb.mono (KB1.out _ HPB.out).size))
            have KS2 : Hid (∀ X, Below wr.heap.size wr X → w2.heap.size ≤ X.heap.size) := hide (fun X hb => Nat.le_trans (KS1.out _ HPB.out) hb.size)
            have KNM := hide (names_ok wr HV2.out (KS1.out _ HPB.out))
            have hnp := HV2.out.names_pos
            obtain ⟨M, hM⟩ : ∃ M, M = names.length := ⟨_, rfl⟩
            have HM := hide hM
            have hM8 : M ≤ 8 := by rw [hM]; exact HV2.out.names_le
            rw [← hM] at KNM hnp
            clear hM HPW HPB KR1 KW1 KB1 KS1 HGP HPL HV2
            go_wp2_with fail
            refine KNM.out.mono ?_
            rintro e w14 ⟨A14, c14, rfl, ho, hb⟩
            obtain ⟨gn, rfl, hgn, _, _⟩ := (OwnS.of_own ho).spot hnp
            have HGN : Hid (wr.heap.size ≤ gn) := hide (ho.row_ge gn hgn)
            have HN0 := hide ho; have HB0 := hide hb
            clear ho hb hgn KNM
            go_wp2_with fail
            go_loopw [19] (fun v19 wq => ∃ (i : Nat) (xs : List Value), i ≤ M ∧ v19 = .int .i64 i ∧ Hid (Own wq wr.heap.size 9 (some ⟨gn, 0, none⟩) M c14 xs) ∧ Hid (Below wr.heap.size wr wq)) (fun v _ => M - (intOf v).toNat)
            case atStart => exact ⟨0, _, by omega, rfl, HN0, HB0⟩
            case round => as_aux_lemma =>
              clear HN0 HB0
              obtain ⟨i, xs, hi, rfl, HW, HPB⟩ := hrel
              have i0 : (0 : Int) ≤ (i : Int) := by omega
              by_cases hlt : i < M
              · have i1 : (i : Int) < (M : Int) := by omega
                obtain ⟨g', hg', _, hcc, hff⟩ := (OwnS.of_own HW.out).spot hnp
                injection hg' with hg'; injection hg' with hg' _ _; subst hg'
                have hxl : xs.length = M := HW.out.len
                obtain ⟨u0, hu0⟩ : ∃ u0, xs[i]? = some u0 := ⟨_, List.getElem?_eq_getElem (show i < xs.length by omega)⟩
                have c1 := hcc i u0 hu0
                have f1 := hff i
                have HWN : Hid (Own (wr.setCell ⟨gn, i, none⟩ (.string ⟨#[111, 118, 101, 114]⟩)) _ 9 (some ⟨gn, 0, none⟩) M c14 (xs.set i (.string ⟨#[111, 118, 101, 114]⟩))) := hide ((OwnS.of_own HW.out).set (j := i) _)
                have HBN : Hid (Below _ _ (wr.setCell ⟨gn, i, none⟩ (.string ⟨#[111, 118, 101, 114]⟩))) := hide (HPB.out.setCell HGN.out _)
                clear hcc hff hxl hu0
                go_wp2_with fail
                go_roundw
                case rel => exact ⟨i + 1, _, by omega, by go_num, HWN, HBN⟩
                case measure => simp [intOf]; omega
              · obtain rfl : M = i := by omega
                have i1 : ¬ ((M : Int) < (M : Int)) := by omega
                have HV3 := hide (KR2.out _ HPB.out); have HW3 := hide (KW2.out _ HPB.out); have HB3 := hide (KB2.out _ HPB.out); have HS3 := hide (KS2.out _ HPB.out)
                have KO2 := hide (order_ok key wr HV3.out HS3.out hks)
                rw [← HAA.out, ← HLO.out] at KO2
                clear HW HPB KR2 KW2 KB2 KS2 HGN
                go_wp2_with fail
                refine KO2.out.mono ?_
                rintro e w15 ⟨A15, c15, rfl, ho, hb⟩
                have HNOW := hide ho
                have HV4 := hide (HV3.out.below hb); have HW4 := hide (HW3.out.below hb); have HB4 : Hid (Below w.heap.size w w15) := hide (HB3.out.trans (hb.mono HB3.out.size)); have HS4 : Hid (w2.heap.size ≤ w15.heap.size) := hide (Nat.le_trans HS3.out hb.size)
                clear ho hb KO2 HV3 HW3 HB3 HS3
                have kmk : (Instr.makeSlice 40 (.int .i64 65) (.int .i64 65)).run Tryd.prog w15 = .ok (.slice (some ⟨w15.heap.size, 0, none⟩) 65 65) (w15.alloc (.cells (Array.replicate 65 (Value.int .u8 0)) 5)) := make_bytes .i64 .i64 65 (by omega) w15
                obtain ⟨X, hX⟩ : ∃ X, X = w15.alloc (.cells (Array.replicate 65 (Value.int .u8 0)) 5) := ⟨_, rfl⟩
                have hbx : Below w15.heap.size w15 X := by rw [hX]; exact (Below.refl _ _).alloc (Nat.le_refl _) _
                obtain ⟨T, hT⟩ : ∃ T, T = strB (List.replicate 65 (0 : UInt8)) := ⟨_, rfl⟩
                have kcv : (convert 40 9 (.slice (some ⟨w15.heap.size, 0, none⟩) 65 65)).run Tryd.prog X = .ok (.string T) X := by
                  rw [hX, hT]
                  exact conv_any (P := Tryd.prog) 40 9 5 Tryd.underlying40 Tryd.underlying5 Tryd.underlying9 (SlB.lit (List.replicate 65 (0 : UInt8)) zeros65 (by simp)) 65
                rw [← hX] at kmk
                have HV5 := hide (HV4.out.below hbx); have HW5 := hide (HW4.out.below hbx); have HB5 : Hid (Below w.heap.size w X) := hide (HB4.out.trans (hbx.mono HB4.out.size)); have HS5 : Hid (w2.heap.size ≤ X.heap.size) := hide (Nat.le_trans HS4.out hbx.size)
                have HNOW5 := hide (HNOW.out.below hbx)
                have htn : T ∉ names := fun hm => by
                  have := (HV5.out.gd.2.2.2.2.1 T hm).2
                  rw [hT] at this
                  revert this; decide +kernel
                have KWN := hide (without_none w2.heap.size gr each names pts T X HV5.out.st HV5.out.names_pos (by have := HV5.out.names_le; omega) htn)
                clear hX hbx hT htn HV4 HW4 HB4 HS4 HNOW
                go_wp2_with fail
                refine KWN.out.mono ?_
                rintro e w16 ⟨rfl, rfl⟩
                have KI := ints_any A12 A15 lo lo c12 c15 (ordR pts a) (ordR pts a) w16 HW5.out.sl HNOW5.out.sl (by omega) (by omega)
                rw [show decide (ordR pts a = ordR pts a) = true from decide_eq_true rfl] at KI
                have HKI := hide KI
                clear KI kmk kcv KWN HW5 HNOW5
                go_wp2_with fail
                refine HKI.out.mono ?_
                rintro e w17 ⟨rfl, hb⟩
                have HV6 := hide (HV5.out.below hb); have HB6 : Hid (Below w.heap.size w w17) := hide (HB5.out.trans (hb.mono HB5.out.size)); have HS6 : Hid (w2.heap.size ≤ w17.heap.size) := hide (Nat.le_trans HS5.out hb.size)
                clear hb HV5 HB5 HS5 HKI
                go_wp2_with fail
                refine (names_ok w17 HV6.out HS6.out).mono ?_
                rintro e w18 ⟨A18, c18, rfl, ho, hb⟩
                have HB7 : Hid (Below w.heap.size w w18) := hide (HB6.out.trans (hb.mono HB6.out.size))
                have KSM2 := sameS_any A18 A names.length nn c18 c names names w18 ho.sl ((HSL.out.below HB7.out (Nat.le_refl _)).more HB7.out.size) (by have := HM.out; omega) (by omega)
                rw [show decide (names = names) = true from decide_eq_true rfl] at KSM2
                have HKS := hide KSM2
                clear ho hb KSM2 HV6 HB6 HS6
                go_wp2_with fail
                refine HKS.out.mono ?_
                rintro e w19 ⟨rfl, hb⟩
                have HB8 : Hid (Below w.heap.size w w19) := hide (HB7.out.trans (hb.mono HB7.out.size))
                clear hb HKS HB7
                go_wp2_with fail
                go_ret
                exact ⟨rfl, HB8.out⟩
  · have HG := hide hg
    clear hg
    go_enter Tryd.func4, Tryd.ntmps4
    go_wp2_with (at_builtin; go_must (with_reducible refine wpList_app rfl (.tmp 24) (.tmp 25) 22 rfl (.string ByteArray.empty) 16 Tryd.underlying22 info_strR rfl rfl HOW0.out rfl HSL2.out (one_strs _) (by unfold maxLen; omega) (by omega) HSZ.out ?_))
    intro A1 c1 w1 hown hgr hat
    have HO1 : Hid (Own w1 w.heap.size 9 A1 nn c1 (names.map Value.string)) := hide (by simpa using hown)
    have HB1 : Hid (Below w.heap.size w w1) := hide (below_of_grown ((Below.refl w.heap.size w).alloc (Nat.le_refl _) _) hgr (by rw [World.size_alloc]; omega) HOW0.out.row_ge)
    have HZ1 : Hid (w.heap.size ≤ (w1.alloc (.cells #[.string roomB] 9)).heap.size) := hide (by rw [World.size_alloc]; have := HB1.out.size; omega)
    have HO1a : Hid (Own (w1.alloc (.cells #[.string roomB] 9)) w.heap.size 9 A1 nn c1 (names.map Value.string)) := hide (HO1.out.below ((Below.refl _ _).alloc (Nat.le_refl _) _))
    clear hown hgr hat HSL2 HOW0 HSZ
    go_wp2_with (at_builtin; go_must (with_reducible refine wpList_app rfl (.tmp 26) (.tmp 27) 22 rfl (.string ByteArray.empty) 16 Tryd.underlying22 info_strR rfl rfl HO1a.out rfl Sl.one (one_room _) (by unfold maxLen; omega) (by omega) HZ1.out ?_))
    intro A2 c2 w2 hown hgr hat
    have HB2 : Hid (Below w.heap.size w w2) := hide (below_of_grown (HB1.out.alloc HB1.out.size _) hgr HZ1.out HO1a.out.row_ge)
    obtain ⟨g, rfl, hob, hcc, _⟩ := (OwnS.of_own hown).spot (by omega)
    have HO2 := hide hown
    have HGG : Hid (w.heap.size ≤ g ∧ g < w2.heap.size) := hide ⟨hown.row_ge g hob, hown.row_lt g hob⟩
    have hcap := hown.le_cap
    have croom := hcc nn (.string roomB) (by rw [List.getElem?_append_right (by simp; have := HLN.out; omega)]; simp [HLN.out])
    have hc1 : (nn : Int) ≤ (c2 : Int) := by omega
    have hc2 : (c2 : Int) ≤ 9223372036854775807 := by unfold maxLen at hcap; omega
    have HC2 : Hid (c2 ≤ 9223372036854775807) := hide (by unfold maxLen at hcap; omega)
    have HSN : Hid (Sl w2 w2.heap.size (some ⟨g, 0, none⟩) nn (names.map Value.string)) := hide (by
      have := (HO2.out.sl).takeN (k := nn) (by omega)
      rw [List.take_left' (by simp; exact HLN.out)] at this
      exact this)
    have hn0 : (0 : Int) ≤ (nn : Int) := by omega
    have hn1 : (nn : Int) < (nn : Int) + 1 := by omega
    clear hown hgr hat hob hcc hcap HO1 HO1a HB1 HZ1
    go_wp2_with fail
    refine (new_bad points (some ⟨g, 0, none⟩) nn c2 names w2 HSN.out (by omega) HG.out).mono ?_
    rintro e w3 ⟨rfl, hb⟩
    have HB3 := hide hb
    clear hb
    go_wp2_with fail
    refine (known_any w3).mono ?_
    rintro e w4 ⟨rfl, hb⟩
    have HB24 : Hid (Below w2.heap.size w2 w4) := hide (HB3.out.trans (hb.mono HB3.out.size))
    clear hb HB3
    have croom4 := (HB24.out.cell (p := ⟨g, nn, none⟩) HGG.out.2).trans croom
    have KSM := hide (sameS_any (some ⟨g, 0, none⟩) A nn nn c2 c names names w4 ((HSN.out.below HB24.out (Nat.le_refl _)).more HB24.out.size) ((HSL.out.below (HB2.out.trans (HB24.out.mono HB2.out.size)) (Nat.le_refl _)).more (HB2.out.trans (HB24.out.mono HB2.out.size)).size) (by omega) (by omega))
    rw [show decide (names = names) = true from decide_eq_true rfl] at KSM
    clear croom
    go_wp2_with fail
    refine KSM.out.mono ?_
    rintro e w5 ⟨rfl, hb⟩
    have HB25 : Hid (Below w2.heap.size w2 w5) := hide (HB24.out.trans (hb.mono HB24.out.size))
    clear hb HB24 KSM croom4 HSN
    go_wp2_with fail
    refine (with_nil _ w5).mono ?_
    rintro e w6 ⟨rfl, rfl⟩
    go_wp2_with fail
    refine (without_nil _ w6).mono ?_
    rintro e w7 ⟨rfl, rfl⟩
    go_wp2_with fail
    refine (owner_nil _ w7).mono ?_
    rintro e w8 ⟨rfl, rfl⟩
    go_wp2_with fail
    refine (order_nil _ w8).mono ?_
    rintro e w9 ⟨rfl, rfl⟩
    go_wp2_with fail
    refine (names_nil w9).mono ?_
    rintro e w10 ⟨rfl, rfl⟩
    go_wp2_with fail
    refine (points_nil w10).mono ?_
    rintro e w11 ⟨rfl, rfl⟩
    have HBE : Hid (Below w.heap.size w w11) := hide (HB2.out.trans (HB25.out.mono HB2.out.size))
    go_wp2_with fail
    go_ret
    exact ⟨rfl, HBE.out⟩
end Go.Proofs.YtokdliapkolngaaDoor
