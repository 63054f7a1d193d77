/-
  Ring: in whatever order the regions are handed in: RingAlike, walked.
-/
import Derived.Test.YtokdliapkolngaaDoorRingZb
import Derived.Deep.Cut
namespace Go.Proofs.YtokdliapkolngaaDoor
open Go.RowKit Go.Sort Go.Shelf Go.Great
set_option linter.unusedVariables false

theorem good_perm {each : Int} {a b : List ByteArray} (hp : a.Perm b) (h : GoodR each b) : GoodR each a :=
  ⟨h.1, h.2.1, by rw [hp.length_eq]; exact h.2.2.1, by rw [hp.length_eq]; exact h.2.2.2.1, fun s hs => h.2.2.2.2.1 s (hp.mem_iff.1 hs), hp.nodup_iff.2 h.2.2.2.2.2⟩
/-- what stands at one place of both orders -/
theorem alike_law {n n2 each k : Nat} {names L : List ByteArray} {pts : List (PtN n)} {pts2 : List (PtN n2)} (a : Int) (h : StandR names each pts) (h2 : StandR L each pts2) (hn : names.length = n + 1) (hn2 : L.length = n2 + 1) (hd : names.Nodup) (he : 0 < each) (hp : names.Perm L) (hk : k < names.length) :
    ∃ (ra rb : Nat) (t : ByteArray), (ordR pts a)[k]? = some (ra : Int) ∧ (ordR pts2 a)[k]? = some (rb : Int) ∧ names[ra]? = some t ∧ L[rb]? = some t := by
  have hl1 := ord_length h hn hd he (stand_pos h hn he) a
  have hl2 := ord_length h2 hn2 (hp.nodup_iff.1 hd) he (stand_pos h2 hn2 he) a
  have hpl := hp.length_eq
  have e := ring_alike h h2 hn hn2 hd he hp a
  have e1 : (ordR pts a)[k]? = some (ordR pts a)[k] := List.getElem?_eq_getElem (by omega)
  have e2 : (ordR pts2 a)[k]? = some (ordR pts2 a)[k] := List.getElem?_eq_getElem (by omega)
  have r1 := ord_range pts a _ (List.mem_of_getElem? e1)
  have r2 := ord_range pts2 a _ (List.mem_of_getElem? e2)
  have ek := congrArg (fun l => l[k]?) e
  simp only [List.getElem?_map, e1, e2] at ek
  generalize (ordR pts a)[k] = x at *
  generalize (ordR pts2 a)[k] = y at *
  have ek : nmI names x = nmI L y := by injection ek
  have a1 := nmI_some (names := names) (o := x.toNat) (by omega)
  have a2 := nmI_some (names := L) (o := y.toNat) (by omega)
  rw [show ((x.toNat : Nat) : Int) = x by omega] at a1
  rw [show ((y.toNat : Nat) : Int) = y by omega, ← ek] at a2
  exact ⟨x.toNat, y.toNat, _, by rw [show ((x.toNat : Nat) : Int) = x by omega]; exact e1, by rw [show ((y.toNat : Nat) : Int) = y by omega]; exact e2, a1, a2⟩
theorem swap_perm {α : Type} {l : List α} {i j : Nat} {x y : α} (hi : l[i]? = some x) (hj : l[j]? = some y) : ((l.set i y).set j x).Perm l := by
  obtain ⟨h1, rfl⟩ := List.getElem?_eq_some_iff.1 hi
  obtain ⟨h2, rfl⟩ := List.getElem?_eq_some_iff.1 hj
  exact List.set_set_perm h1 h2
set_option maxHeartbeats 8000000 in
set_option maxRecDepth 100000 in
theorem alike_walk (points : Int) (A O K : Option Addr) (nn c on oc kn kc : Nat) (names keys : List ByteArray) (ord : List Int) (w : World) (h : Sl w w.heap.size A nn (names.map Value.string)) (hn : nn ≤ 9223372036854775807)
    (ho : Sl w w.heap.size O on (ord.map (Value.int .i64))) (hon : on ≤ 9223372036854775807) (hk : Sl w w.heap.size K kn (keys.map Value.string)) (hkn : kn ≤ 9223372036854775807) (hks : ∀ s ∈ keys, s.size ≤ 140737488355000) :
    Calls Tryd.prog 5 #[.int .i64 points, .slice A nn c, .slice O on oc, .slice K kn kc] w fun e w' => e = .returned (.bool true) ∧ Below w.heap.size w w' := by
  have HSL := hide h; have HKS := hide hk; have HKZ := hide hks; have HOS := hide ho
  have hl : names.length = nn := by have := h.1; simpa using this
  have HLN := hide hl
  clear h hk hks hl ho
  by_cases hg : GoodR points names
  · obtain ⟨each, rfl⟩ : ∃ each : Nat, points = (each : Int) := ⟨points.toNat, by have := hg.1; omega⟩
    have HG := hide hg
    have KN := hide (new_good each A nn c names w HSL.out hn hg)
    have hn8 : nn ≤ 8 := by have := HLN.out; have := hg.2.2.2.1; omega
    have hn1 : 1 ≤ nn := by have := HLN.out; have := hg.2.2.1; omega
    have he64 : each ≤ 64 := by have := hg.2.1; omega
    clear hg
    go_enter Tryd.func5, Tryd.ntmps5
    go_wp2_with fail
    refine KN.out.mono ?_
    rintro e w1 ⟨⟨n, g, pts, rfl, hr⟩, hb⟩
    have HR1 := hide hr; have HB1 := hide hb
    clear hr hb KN
    go_wp2_with fail
    refine (known_any w1).mono ?_
    rintro e w2 ⟨rfl, hb⟩
    have HR2 := hide (HR1.out.below hb); have HB2 : Hid (Below w.heap.size w w2) := hide (HB1.out.trans (hb.mono HB1.out.size))
    clear hb HR1 HB1
    have HS2 : Hid (w.heap.size ≤ w2.heap.size) := hide HB2.out.size
    have HSL2 : Hid (Sl (w2.alloc (.cells #[] 9)) (w2.alloc (.cells #[] 9)).heap.size A nn (names.map Value.string)) := hide ((HSL.out.below (HB2.out.alloc HB2.out.size _) (Nat.le_refl _)).more (by rw [World.size_alloc]; have := HS2.out; omega))
    have HOW0 : Hid (Own (w2.alloc (.cells #[] 9)) w2.heap.size 9 (some ⟨w2.heap.size, 0, none⟩) 0 0 []) := hide (Own.of_block (fr := []) (heap_alloc_new w2 _) (Nat.le_refl _) rfl (by unfold maxLen; omega))
    have HSZ : Hid (w2.heap.size ≤ (w2.alloc (.cells #[] 9)).heap.size) := hide (by rw [World.size_alloc]; omega)
    go_wp2_with (at_builtin; go_must (with_reducible refine wpList_app rfl (.tmp 34) (.tmp 35) 22 rfl (.string ByteArray.empty) 16 Tryd.underlying22 info_strR rfl rfl HOW0.out rfl HSL2.out (one_strs _) (by unfold maxLen; omega) (by omega) HSZ.out ?_))
    intro A7 c7 w7 hown hgr hat
    have HO7 : Hid (Own w7 w2.heap.size 9 A7 nn c7 (names.map Value.string)) := hide (by simpa using hown)
    have HB7 : Hid (Below w2.heap.size w2 w7) := hide (below_of_grown ((Below.refl w2.heap.size w2).alloc (Nat.le_refl _) _) hgr (by rw [World.size_alloc]; omega) HOW0.out.row_ge)
    clear hown hgr hat HSL2 HOW0 HSZ
    go_wp2_with fail
    go_loopw [12, 13, 14] (fun v12 v13 v14 wr => ∃ (i : Nat) (L : List ByteArray), i ≤ nn ∧ v12 = .int .i64 i ∧ Hid (L.Perm names) ∧ Hid (Own wr w2.heap.size 9 A7 nn c7 (L.map Value.string)) ∧ Hid (Below w2.heap.size w2 wr)) (fun v _ _ _ => nn - (intOf v).toNat)
    case atStart => exact ⟨0, names, by omega, rfl, hide (List.Perm.refl _), HO7, HB7⟩
    case round => as_aux_lemma =>
      clear HO7 HB7
      obtain ⟨i, L, hi, rfl, HP, HW, HB⟩ := hrel
      have i0 : (0 : Int) ≤ (i : Int) := by omega
      have HBr : Hid (Below w.heap.size w wr) := hide (HB2.out.trans (HB.out.mono HS2.out))
      have hLl : L.length = nn := by have := HP.out.length_eq; have := HLN.out; omega
      have HLL := hide hLl
      by_cases hc : i < on ∧ i < nn
      · obtain ⟨hc1, hc2⟩ := hc
        have i1 : (i : Int) < (on : Int) := by omega
        have i2 : (i : Int) < (nn : Int) := by omega
        obtain ⟨ob, oo, oi, rfl, hob, q0, HOI⟩ := HOS.out.num hc1
        have q1 := (HBr.out.cell (p := ⟨ob, oo + i, none⟩) hob).trans q0
        obtain ⟨kk, hkk, ek⟩ := remU (IntKind.u64.wrap oi) nn (wrapU_pos oi) (by omega) (by omega)
        have j0 : (0 : Int) ≤ (kk : Int) := by omega
        have j1 : (kk : Int) < (nn : Int) := by omega
        obtain ⟨x, hx⟩ : ∃ x, L[i]? = some x := ⟨_, List.getElem?_eq_getElem (by omega)⟩
        obtain ⟨y, hy⟩ : ∃ y, L[kk]? = some y := ⟨_, List.getElem?_eq_getElem (by omega)⟩
        obtain ⟨gg, rfl, hown, hcc, hff⟩ := (OwnS.of_own HW.out).spot (by omega)
        have c1 := hcc i (.string x) (by rw [List.getElem?_map, hx]; rfl)
        have c2 := hcc kk (.string y) (by rw [List.getElem?_map, hy]; rfl)
        have f1 := hff i
        have f2 := hff kk
        have HGG : Hid (w2.heap.size ≤ gg) := hide (HW.out.row_ge gg hown)
        have HPN : Hid (((L.set i y).set kk x).Perm names) := hide ((swap_perm hx hy).trans HP.out)
        have HWN : Hid (Own ((wr.setCell ⟨gg, i, none⟩ (.string y)).setCell ⟨gg, kk, none⟩ (.string x)) w2.heap.size 9 (some ⟨gg, 0, none⟩) nn c7 (((L.set i y).set kk x).map Value.string)) := hide (by
          rw [List.map_set, List.map_set]
          exact ((OwnS.of_own HW.out).set (j := i) (.string y)).set (j := kk) (.string x))
        have HBN : Hid (Below w2.heap.size w2 ((wr.setCell ⟨gg, i, none⟩ (.string y)).setCell ⟨gg, kk, none⟩ (.string x))) := hide ((HB.out.setCell HGG.out _).setCell HGG.out _)
        obtain ⟨zv, c3⟩ : ∃ zv, (wr.setCell ⟨gg, i, none⟩ (.string y)).cell? ⟨gg, kk, none⟩ = some zv := by
          obtain ⟨g', hg', _, hc', _⟩ := ((OwnS.of_own HW.out).set (j := i) (.string y)).spot (by omega)
          injection hg' with hg'; injection hg' with hg' _ _; subst hg'
          have hlen : kk < ((L.map Value.string).set i (.string y)).length := by simp; omega
          exact ⟨_, hc' kk _ (List.getElem?_eq_getElem hlen)⟩
        clear q0 hcc hff hown hx hy hLl
        go_wp2_with fail
        go_roundw
        case rel => exact ⟨i + 1, (L.set i y).set kk x, by omega, by go_num, HPN, HWN, HBN⟩
        case measure => simp [intOf]; omega
      · go_upto_region 6 with (fail)
        go_cut [46] (fun v46 wx => v46 = .bool false ∧ wr = wx)
        case first => as_aux_lemma =>
          by_cases h1 : i < on
          · have z1 : (i : Int) < (on : Int) := by omega
            have z2 : ¬ ((i : Int) < (nn : Int)) := by omega
            go_wp2_with fail
            go_meet
            exact ⟨rfl, rfl⟩
          · have z1 : ¬ ((i : Int) < (on : Int)) := by omega
            go_wp2_with fail
            go_meet
            exact ⟨rfl, rfl⟩
        case rest => as_aux_lemma =>
          obtain ⟨rfl, rfl⟩ := hcut
          have KN2 := hide (new_good each A7 nn c7 L wr HW.out.sl (by omega) (good_perm HP.out HG.out))
          clear hc hLl
          go_wp2_with fail
          refine KN2.out.mono ?_
          rintro e w3 ⟨⟨n2, g2, pts2, rfl, hr⟩, hb⟩
          have HQ3 := hide hr
          have HR3 := hide (HR2.out.below (HB.out.trans (hb.mono HB.out.size)))
          have HO3 := hide (HW.out.below hb)
          have HB3 : Hid (Below w.heap.size w w3) := hide (HBr.out.trans (hb.mono HBr.out.size))
          have HS3 : Hid (wr.heap.size ≤ w3.heap.size ∧ w.heap.size ≤ w3.heap.size) := hide ⟨hb.size, HB3.out.size⟩
          clear hr hb KN2 HW HB HBr HR2 HB2 HS2
          obtain ⟨bq, hbq⟩ : ∃ bq, bq = wr.heap.size := ⟨_, rfl⟩
          rw [← hbq] at HQ3 HS3
          clear hbq
          go_wp2_with fail
          go_loopw [17, 18, 19, 20] (fun v17 v18 v19 v20 wr => ∃ j : Nat, j ≤ kn ∧ v17 = .int .i64 j ∧ Hid (Below w3.heap.size w3 wr)) (fun v _ _ _ _ => kn - (intOf v).toNat)
          case atStart => exact ⟨0, by omega, rfl, hide (Below.refl _ _)⟩
          case round => as_aux_lemma =>
            obtain ⟨j, hj, rfl, HB⟩ := hrel
            have y0 : (0 : Int) ≤ (j : Int) := by omega
            have HBr : Hid (Below w.heap.size w wr) := hide (HB3.out.trans (HB.out.mono HB3.out.size))
            by_cases hjk : j < kn
            · have y1 : (j : Int) < (kn : Int) := by omega
              by_cases hj20 : j < 20
              · have y3 : (j : Int) < 20 := by omega
                obtain ⟨kb, ko, s, rfl, hkb, k0, HS⟩ := HKS.out.text hjk
                have hsz := HKZ.out s (List.mem_of_getElem? HS.out)
                have HRr := hide (HR3.out.below HB.out); have HQr := hide (HQ3.out.below HB.out)
                have HSr : Hid (bq ≤ wr.heap.size ∧ w.heap.size ≤ wr.heap.size) := hide (by have := HS3.out; have := HB.out.size; omega)
                have HOr := hide (HO3.out.below HB.out)
                obtain ⟨a, ha⟩ : ∃ a : Int, a = (placeN s : Int) := ⟨_, rfl⟩
                have HLW : Hid (∀ k, k < nn → ∃ (ra rb : Nat) (t : ByteArray), (ordR pts a)[k]? = some (ra : Int) ∧ (ordR pts2 a)[k]? = some (rb : Int) ∧ names[ra]? = some t ∧ L[rb]? = some t) := hide (fun k hk => alike_law a HRr.out.sd HQr.out.sd HRr.out.hn HQr.out.hn HRr.out.nodup HRr.out.each_pos HP.out.symm (by have := HLN.out; omega))
                have HKC : Hid (∀ X, Below wr.heap.size wr X → X.cell? ⟨kb, ko + j, none⟩ = some (.string s)) := hide (fun X hb => ((HBr.out.trans (hb.mono HBr.out.size)).cell (p := ⟨kb, ko + j, none⟩) hkb).trans k0)
                have KOa : Hid (∀ X : World, Below wr.heap.size wr X → Calls Tryd.prog 11 #[.pointer (some ⟨g, 0, none⟩), .string s] X fun e w' => ∃ A c, e = .returned (.slice A nn c) ∧ Own w' X.heap.size 3 A nn c ((ordR pts a).map (Value.int .i64)) ∧ Below X.heap.size X w') := hide (fun X hb => by
                  have := order_ok s X (HRr.out.below hb) (by have := HSr.out; have := hb.size; omega) hsz
                  rw [← ha, show (ordR pts a).length = nn by rw [ord_length HRr.out.sd HRr.out.hn HRr.out.nodup HRr.out.each_pos HRr.out.pts_pos]; exact HLN.out] at this
                  exact this)
                have KOb : Hid (∀ X : World, Below wr.heap.size wr X → Calls Tryd.prog 11 #[.pointer (some ⟨g2, 0, none⟩), .string s] X fun e w' => ∃ A c, e = .returned (.slice A nn c) ∧ Own w' X.heap.size 3 A nn c ((ordR pts2 a).map (Value.int .i64)) ∧ Below X.heap.size X w') := hide (fun X hb => by
                  have := order_ok s X (HQr.out.below hb) (by have := HSr.out; have := hb.size; omega) hsz
                  rw [← ha, show (ordR pts2 a).length = nn by rw [ord_length HQr.out.sd HQr.out.hn HQr.out.nodup HQr.out.each_pos HQr.out.pts_pos]; exact HLL.out] at this
                  exact this)
                have hq1 : ((nn : Int) != (nn : Int)) = false := by simp
                have hS0 : wr.drew.cell? ⟨kb, ko + j, none⟩ = some (.string s) := HKC.out _ (Below.refl _ _).drew
                clear k0 ha HRr HQr HSr
                go_wp2_with fail
                go_upto_region 18 with (fail)
                go_region_held3 (fun W => W.cell? ⟨kb, ko + j, none⟩ = some (.string s))
                  (first | with_reducible assumption | exact HKC.out _ KA.out | exact HKC.out _ KB.out)
                  (first
                    | (go_at_call 11; with_reducible refine (KOa.out _ (Below.refl _ _).drew).mono ?_
                       rintro e5 w5 ⟨A5, c5, rfl, ho5, hb5⟩
                       have HO5 := hide ho5
                       have KA : Hid (Below wr.heap.size wr w5) := hide ((Below.refl wr.heap.size wr).drew.trans hb5)
                       clear ho5 hb5)
                    | (go_at_call 11; with_reducible refine (KOb.out _ KA.out).mono ?_
                       rintro e6 w6 ⟨A6, c6, rfl, ho6, hb6⟩
                       have HO6 := hide ho6
                       have HO56 := hide (HO5.out.below hb6)
                       have KB : Hid (Below wr.heap.size wr w6) := hide (KA.out.trans (hb6.mono KA.out.size))
                       clear ho6 hb6))
                have HN : Hid (Below w3.heap.size w3 w6) := hide (HB.out.trans (KB.out.mono HB.out.size))
                have HO76 := hide (HOr.out.below KB.out)
                have HNC : Hid (∀ (i : Nat) t, names[i]? = some t → ∃ nb no, A = some ⟨nb, no, none⟩ ∧ w6.cell? ⟨nb, no + i, none⟩ = some (.string t)) := hide (fun i t hi => by
                  obtain ⟨b', o', t', hA, hb', c', HT⟩ := HSL.out.text (k := i) (by have := (List.getElem?_eq_some_iff.1 hi).1; have := HLN.out; omega)
                  have := HT.out.symm.trans hi
                  injection this with this; subst this
                  exact ⟨b', o', hA, ((HBr.out.trans (KB.out.mono HBr.out.size)).cell (p := ⟨b', o' + i, none⟩) hb').trans c'⟩)
                clear hS0 HO5 HOr KOa KOb HKC
                go_wp2_with fail
                go_loopw [20] (fun v20 wr => ∃ k q : Nat, k ≤ nn ∧ v20 = .int .i64 k ∧ wr = w6.drewN q) (fun v _ => nn - (intOf v).toNat)
                case atStart => exact ⟨0, 0, by omega, rfl, rfl⟩
                case round => as_aux_lemma =>
                  obtain ⟨k, q, hk, rfl, rfl⟩ := hrel
                  have m0 : (0 : Int) ≤ (k : Int) := by omega
                  by_cases hkn2 : k < nn
                  · have m1 : (k : Int) < (nn : Int) := by omega
                    obtain ⟨ra, rb, t, e1, e2, e3, e4⟩ := HLW.out k hkn2
                    obtain ⟨b5, o5, x5, rfl, _, d5, HX5⟩ := HO56.out.sl.num hkn2
                    obtain rfl : x5 = (ra : Int) := by have := HX5.out.symm.trans e1; injection this
                    obtain ⟨b6, o6, x6, rfl, _, d6, HX6⟩ := HO6.out.sl.num hkn2
                    obtain rfl : x6 = (rb : Int) := by have := HX6.out.symm.trans e2; injection this
                    obtain ⟨nb, no, rfl, d7⟩ := HNC.out ra t e3
                    have hra : ra < nn := by have := (List.getElem?_eq_some_iff.1 e3).1; have := HLN.out; omega
                    have hrb : rb < nn := by have := (List.getElem?_eq_some_iff.1 e4).1; have := HLL.out; omega
                    obtain ⟨b7, o7, t7, rfl, _, d8, HX7⟩ := HO76.out.sl.text hrb
                    obtain rfl : t7 = t := by have := HX7.out.symm.trans e4; injection this
                    have r0 : (0 : Int) ≤ (ra : Int) := by omega
                    have r1 : (ra : Int) < (nn : Int) := by omega
                    have r2 : (0 : Int) ≤ (rb : Int) := by omega
                    have r3 : (rb : Int) < (nn : Int) := by omega
                    have heq : (t7.toList == t7.toList) = true := by simp
                    clear e1 e2 e3 e4 HX5 HX6 HX7
                    go_wp2_with fail
                    go_quiet (fail)
                    go_wp2_with fail
                    go_roundw
                    case rel => exact ⟨k + 1, _, by omega, by go_num, rfl⟩
                    case measure => simp [intOf]; omega
                  · obtain rfl : k = nn := by omega
                    have m1 : ¬ ((k : Int) < (k : Int)) := by omega
                    have HN2 : Hid (Below w3.heap.size w3 (w6.drewN q)) := hide (below_drewN HN.out q)
                    go_wp2_with fail
                    go_roundw
                    case rel => exact ⟨j + 1, by omega, by go_num, HN2⟩
                    case measure => simp [intOf]; omega
              · have y3 : ¬ ((j : Int) < 20) := by omega
                go_wp2_with fail
                go_ret
                exact ⟨rfl, HBr.out⟩
            · have y1 : ¬ ((j : Int) < (kn : Int)) := by omega
              go_wp2_with fail
              go_ret
              exact ⟨rfl, HBr.out⟩
  · have KN := hide (new_bad points A nn c names w HSL.out hn hg)
    clear hg
    go_enter Tryd.func5, Tryd.ntmps5
    go_wp2_with fail
    refine KN.out.mono ?_
    rintro e w1 ⟨rfl, hb⟩
    have HB1 := hide hb
    clear hb KN
    go_wp2_with fail
    refine (known_any w1).mono ?_
    rintro e w2 ⟨rfl, hb⟩
    have HB2 : Hid (Below w.heap.size w w2) := hide (HB1.out.trans (hb.mono HB1.out.size))
    clear hb HB1
    go_wp2_with fail
    refine (known_any w2).mono ?_
    rintro e w3 ⟨rfl, hb⟩
    have HB3 : Hid (Below w.heap.size w w3) := hide (HB2.out.trans (hb.mono HB2.out.size))
    clear hb HB2
    go_wp2_with fail
    go_ret
    exact ⟨rfl, HB3.out⟩
end Go.Proofs.YtokdliapkolngaaDoor
