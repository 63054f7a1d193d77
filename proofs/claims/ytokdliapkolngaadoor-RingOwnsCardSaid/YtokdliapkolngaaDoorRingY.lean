/-
  Ring: whose a key is: RingOwns, walked.
-/
import Derived.Test.YtokdliapkolngaaDoorRingX
namespace Go.Proofs.YtokdliapkolngaaDoor
open Go.RowKit Go.Sort Go.Shelf Go.Great
set_option linter.unusedVariables false

theorem turns_rot {n : Nat} (a : Int) (pts : List (PtN n)) : turnsL 2 a pts = (rotB PtN.pl pts a).map fun x => (x.rg : Int) := by
  have e0 : (fun x : PtN n => turnP 0 a x) = fun x => decide (a ≤ x.pl) := by funext x; unfold turnP; cases decide (a ≤ x.pl) <;> rfl
  have e1 : (fun x : PtN n => turnP 1 a x) = fun x => !decide (a ≤ x.pl) := by funext x; unfold turnP; cases decide (a ≤ x.pl) <;> rfl
  unfold turnsL turnL rotB
  rw [show (turnP 0 a : PtN n → Bool) = fun x => decide (a ≤ x.pl) from e0, show (turnP 1 a : PtN n → Bool) = fun x => !decide (a ≤ x.pl) from e1]
  simp
theorem rorder_ok {n base each : Nat} {names : List ByteArray} (Ap : Option Addr) (cp : Nat) (pts : List (PtN n)) (a : Int) (w : World) (h3 : OwnS 2 w base 39 Ap pts.length cp (pts.flatMap encP)) (hs : StandR names each pts) (h0 : 0 < pts.length) (h8 : pts.length ≤ 1000000) :
    Calls Tryd.prog 21 #[.slice Ap pts.length cp, .int .u64 a] w fun e w' => ∃ A c, e = .returned (.slice A (ordR pts a).length c) ∧
      Own w' w.heap.size 3 A (ordR pts a).length c ((ordR pts a).map (Value.int .i64)) ∧ Below w.heap.size w w' := by
  have h := rorder_any base Ap cp pts a w h3 h8
  rw [turns_rot, ← cyc_rot hs h0] at h
  exact h
theorem few_good {p : Int} {names : List ByteArray} (h : GoodR (fewZ p) names) : ∃ each : Nat, fewZ p = (each : Int) ∧ each ≤ 6 := by
  refine ⟨(fewZ p).toNat, by have := h.1; omega, ?_⟩
  have h1 := h.1; have h2 := h.2.1
  unfold fewZ at *
  split at h1 <;> (try split at h2) <;> (try split) <;> omega
set_option maxHeartbeats 8000000 in
set_option maxRecDepth 100000 in
theorem owns_walk (points : Int) (A K : Option Addr) (nn c kn kc : Nat) (names keys : List ByteArray) (w : World) (h : Sl w w.heap.size A nn (names.map Value.string)) (hn : nn ≤ 9223372036854775807)
    (hk : Sl w w.heap.size K kn (keys.map Value.string)) (hkn : kn ≤ 9223372036854775807) (hks : ∀ s ∈ keys, s.size ≤ 140737488355000) :
    Calls Tryd.prog 6 #[.int .i64 points, .slice A nn c, .slice K kn kc] w fun e w' => e = .returned (.bool true) ∧ Below w.heap.size w w' := by
  have HSL := hide h; have HKS := hide hk; have HKZ := hide hks
  have hl : names.length = nn := by have := h.1; simpa using this
  have HLN := hide hl
  obtain ⟨P, hP⟩ : ∃ P, P = fewZ points := ⟨_, rfl⟩
  have KF := hide (few_any points w)
  rw [← hP] at KF
  clear h hk hks hl
  by_cases hg : GoodR P names
  · obtain ⟨each, he, he6⟩ : ∃ each : Nat, P = (each : Int) ∧ each ≤ 6 := by rw [hP] at hg ⊢; exact few_good hg
    subst he
    have HG := hide hg
    have KN := hide (new_good each A nn c names w HSL.out hn hg)
    clear hP hg
    go_enter Tryd.func6, Tryd.ntmps6
    go_wp2_with fail
    refine KF.out.mono ?_
    rintro e w0 ⟨rfl, rfl⟩
    go_wp2_with fail
    refine KN.out.mono ?_
    rintro e w1 ⟨⟨n, g, pts, rfl, hr⟩, hb⟩
    have HR1 := hide hr; have HB1 := hide hb
    clear hr hb KN KF
    go_wp2_with fail
    refine (known_any w1).mono ?_
    rintro e w2 ⟨rfl, hb⟩
    have HR2 := hide (HR1.out.below hb); have HB2 : Hid (Below w0.heap.size w0 w2) := hide (HB1.out.trans (hb.mono HB1.out.size))
    clear hb HR1 HB1
    go_wp2_with fail
    refine (right_any (each : Int) A nn c names w2 ((HSL.out.below HB2.out (Nat.le_refl _)).more HB2.out.size) hn).mono ?_
    rintro e w3 ⟨⟨b, rfl, hb1⟩, hb⟩
    obtain rfl : b = true := hb1.2 HG.out
    have HR3 := hide (HR2.out.below hb); have HB3 : Hid (Below w0.heap.size w0 w3) := hide (HB2.out.trans (hb.mono HB2.out.size))
    clear hb hb1 HR2 HB2
    have HGE : Hid (w0.heap.size ≤ g ∧ g < w3.heap.size) := hide ⟨HR3.out.st.ge, HR3.out.g_lt⟩
    go_wp2_with fail
    refine (names_ok w3 HR3.out (by have := HGE.out; omega)).mono ?_
    rintro e w4 ⟨A4, c4, rfl, ho, hb⟩
    have HO4 := hide ho
    have HR4 := hide (HR3.out.below hb); have HB4 : Hid (Below w0.heap.size w0 w4) := hide (HB3.out.trans (hb.mono HB3.out.size))
    clear hb ho HR3 HB3
    have HNL : Hid (names.length ≤ 8) := hide HR4.out.names_le
    have KSM := hide (sameS_any A4 A names.length nn c4 c names names w4 HO4.out.sl ((HSL.out.below HB4.out (Nat.le_refl _)).more HB4.out.size) (by have := HNL.out; omega) hn)
    rw [show decide (names = names) = true from decide_eq_true rfl] at KSM
    go_wp2_with fail
    refine KSM.out.mono ?_
    rintro e w5 ⟨rfl, hb⟩
    have HR5 := hide (HR4.out.below hb); have HB5 : Hid (Below w0.heap.size w0 w5) := hide (HB4.out.trans (hb.mono HB4.out.size))
    clear hb HR4 HB4 HO4 KSM
    have KRP := hide (rpoints_any (n := n) each A nn c names w5 ((HSL.out.below HB5.out (Nat.le_refl _)).more HB5.out.size) HR5.out.hn he6 (by have := HNL.out; have := HLN.out; omega) (fun s hs => (HR5.out.gd.2.2.2.2.1 s hs).2))
    go_wp2_with fail
    refine KRP.out.mono ?_
    rintro e w6 ⟨⟨pts6, A6, c6, rfl, ho, hst⟩, hb⟩
    obtain rfl : pts6 = pts := stand_unique hst HR5.out.sd HR5.out.hn HR5.out.nodup
    have HO6 := hide ho
    have HR6 := hide (HR5.out.below hb); have HB6 : Hid (Below w0.heap.size w0 w6) := hide (HB5.out.trans (hb.mono HB5.out.size))
    have HGE6 : Hid (w0.heap.size ≤ w6.heap.size) := hide HB6.out.size
    clear hb ho hst HR5 HB5 KRP
    go_wp2_with fail
    refine (points_ok w6 HR6.out HGE6.out).mono ?_
    rintro e w7 ⟨A7, c7, rfl, ho, hb⟩
    have HO7 := hide ho; have HO67 := hide (HO6.out.below hb)
    have HR7 := hide (HR6.out.below hb); have HB7 : Hid (Below w0.heap.size w0 w7) := hide (HB6.out.trans (hb.mono HB6.out.size))
    clear hb ho HR6 HB6 HO6 HGE6
    obtain ⟨L, hL⟩ : ∃ L, L = pts6.length := ⟨_, rfl⟩
    have HL := hide hL
    have hL8 : L ≤ 512 := by rw [hL]; exact HR7.out.pts_le
    rw [← hL] at HO7 HO67 ⊢
    clear hL
    go_wp2_with fail
    go_loopw [11] (fun v11 wr => ∃ i q : Nat, i ≤ L ∧ v11 = .int .i64 i ∧ wr = w7.drewN q) (fun v _ => L - (intOf v).toNat)
    case atStart => exact ⟨0, 0, by omega, rfl, rfl⟩
    case round => as_aux_lemma =>
      obtain ⟨i, q, hi, rfl, rfl⟩ := hrel
      by_cases hlt : i < L
      · obtain ⟨x, hx⟩ : ∃ x, pts6[i]? = some x := ⟨_, List.getElem?_eq_getElem (by have := HL.out; omega)⟩
        obtain ⟨g6, rfl, _, _, ⟨p0, p1⟩, _⟩ := HO67.out.pt HL.out.symm hx
        obtain ⟨g7, rfl, _, _, ⟨q0, q1⟩, _⟩ := HO7.out.pt HL.out.symm hx
        have z0 : (0 : Int) ≤ (i : Int) := by omega
        have z1 : (i : Int) < (L : Int) := by omega
        clear hx
        go_wp2_with fail
        go_quiet (fail)
        go_wp2_with fail
        exact ⟨⟨i + 1, _, by omega, by go_num, rfl⟩, by simp [intOf]; omega⟩
      · obtain rfl : i = L := by omega
        have z1 : ¬ ((i : Int) < (i : Int)) := by omega
        have HBQ : Hid (Below w7.heap.size w7 (w7.drewN q)) := hide (below_drewN (Below.refl _ _) q)
        go_wp2_with fail
        go_loopw [12, 13] (fun v12 v13 wr => ∃ j : Nat, j ≤ kn ∧ v12 = .int .i64 j ∧ Hid (Below w7.heap.size w7 wr)) (fun v _ _ => kn - (intOf v).toNat)
        case atStart => exact ⟨0, by omega, rfl, HBQ⟩
        case round => as_aux_lemma =>
          clear HBQ
          obtain ⟨j, hj, rfl, HB⟩ := hrel
          have y0 : (0 : Int) ≤ (j : Int) := by omega
          by_cases hjk : j < kn
          · have y1 : (j : Int) < (kn : Int) := by omega
            by_cases hj20 : j < 20
            · have y2 : (j : Int) < 20 := by omega
              obtain ⟨kb, ko, s, rfl, hkb, k0, HS⟩ := HKS.out.text hjk
              have hsz := HKZ.out s (List.mem_of_getElem? HS.out)
              have HRr := hide (HR7.out.below HB.out)
              have HO67r := hide (HO67.out.below HB.out)
              have HBr : Hid (Below w0.heap.size w0 wr) := hide (HB7.out.trans (HB.out.mono HB7.out.size))
              have HKC : Hid (∀ X, Below wr.heap.size wr X → X.cell? ⟨kb, ko + j, none⟩ = some (.string s)) := hide (fun X hb => ((HBr.out.trans (hb.mono HBr.out.size)).cell (p := ⟨kb, ko + j, none⟩) hkb).trans k0)
              have k1 := HKC.out wr (Below.refl _ _)
              clear k0
              go_wp2_with fail
              refine (rplace_any s wr hsz).mono ?_
              rintro e w8 ⟨rfl, hb⟩
              have HB8 := hide hb
              obtain ⟨a, ha⟩ : ∃ a : Int, a = (placeN s : Int) := ⟨_, rfl⟩
              have HA := hide ha
              rw [← ha]
              have KO := rorder_ok A6 c6 pts6 a w8 (by rw [← HL.out]; exact HO67r.out.below hb) HRr.out.sd HRr.out.pts_pos (by have := HRr.out.pts_le; omega)
              rw [← HL.out] at KO
              have HKO := hide KO
              clear hb ha KO
              go_wp2_with fail
              refine HKO.out.mono ?_
              rintro e w9 ⟨A9, c9, rfl, ho, hb⟩
              have HB9 : Hid (Below wr.heap.size wr w9) := hide (HB8.out.trans (hb.mono HB8.out.size))
              have HO9 := hide ho
              have hhead := ord_head pts6 HRr.out.pts_pos a
              have hl0 : 0 < (ordR pts6 a).length := (List.getElem?_eq_some_iff.1 hhead).1
              obtain ⟨g9, rfl, hg9, hc9, _⟩ := (OwnS.of_own ho).spot hl0
              have w0c := hc9 0 (.int .i64 ((ownR pts6 s : Nat) : Int)) (by rw [List.getElem?_map, hhead, HA.out]; rfl)
              have HG9 : Hid (g9 < w9.heap.size) := hide (ho.row_lt g9 hg9)
              have HR9 := hide (HRr.out.below HB9.out)
              obtain ⟨o, ho'⟩ : ∃ o, o = ownR pts6 s := ⟨_, rfl⟩
              have HOO := hide ho'
              rw [← ho'] at w0c
              obtain ⟨l, hl⟩ : ∃ l, l = ordR pts6 a := ⟨_, rfl⟩
              have HLL := hide hl
              rw [← hl] at HO9 hl0 ⊢
              have hlw : l.length ≤ 1000000 := by
                have := ord_length HR9.out.sd HR9.out.hn HR9.out.nodup HR9.out.each_pos HR9.out.pts_pos a
                rw [← hl] at this
                have := HR9.out.names_le; omega
              have HKK : Hid (∀ X, Below w9.heap.size w9 X → X.cell? ⟨kb, ko + j, none⟩ = some (.string s) ∧ X.cell? ⟨g9, 0, none⟩ = some (.int .i64 (o : Int))) := hide (fun X hb => ⟨HKC.out X (HB9.out.trans (hb.mono HB9.out.size)), (hb.cell (p := ⟨g9, 0, none⟩) HG9.out).trans w0c⟩)
              have KORD : Hid _ := hide (order_ok s w9.drew (HR9.out.below (Below.refl _ _).drew) (by have := HGE.out; have := HB9.out.size; have := HB.out.size; have := HBr.out.size; show w0.heap.size ≤ w9.heap.size; omega) hsz)
              rw [← HA.out, ← hl] at KORD
              have KI : Hid (∀ (X : World) A10 c10, Below w9.heap.size w9 X → Sl X X.heap.size A10 l.length (l.map (Value.int .i64)) → Calls Tryd.prog 17 #[.slice A10 l.length c10, .slice (some ⟨g9, 0, none⟩) l.length c9] X fun e w' => e = .returned (.bool true) ∧ Below X.heap.size X w') := hide (fun X A10 c10 hb hs => by
                have := ints_any A10 (some ⟨g9, 0, none⟩) l.length l.length c10 c9 l l X hs (HO9.out.below hb).sl (by omega) (by omega)
                rwa [show decide (l = l) = true from decide_eq_true rfl] at this)
              have KOW : Hid (∀ X : World, Below w9.heap.size w9 X → Calls Tryd.prog 12 #[.pointer (some ⟨g, 0, none⟩), .string s] X fun e w' => e = .returned (.int .i64 (o : Int)) ∧ Below X.heap.size X w') := hide (fun X hb => by
                rw [ho']
                exact owner_ok s X (HR9.out.below hb) (by have := HB9.out.size; have := HB.out.size; have := HBr.out.size; have := hb.size; omega) hsz)
              have hoo : ((o : Int) != (o : Int)) = false := by simp
              have hl0' : (0 : Int) < (l.length : Int) := by omega
              have HB10 : Hid (Below w7.heap.size w7 w9) := hide (HB.out.trans (HB9.out.mono HB.out.size))
              have hS0 : w9.drew.cell? ⟨kb, ko + j, none⟩ = some (.string s) ∧ w9.drew.cell? ⟨g9, 0, none⟩ = some (.int .i64 (o : Int)) := HKK.out _ (Below.refl _ _).drew
              clear ho hb hhead hc9 hg9 w0c ho' hl HKO k1 HRr HO67r HB8 HO9
              go_upto_region 20 with (fail)
              go_region_held3 (fun W => W.cell? ⟨kb, ko + j, none⟩ = some (.string s) ∧ W.cell? ⟨g9, 0, none⟩ = some (.int .i64 (o : Int)))
                (first | with_reducible assumption | exact HKK.out _ KA.out | exact HKK.out _ KB.out | exact HKK.out _ KC.out)
                (first
                  | (go_at_call 11; with_reducible refine KORD.out.mono ?_
                     rintro e10 w10 ⟨A10, c10, rfl, ho10, hb10⟩
                     have HO10 := hide ho10
                     have KA : Hid (Below w9.heap.size w9 w10) := hide ((Below.refl w9.heap.size w9).drew.trans hb10)
                     clear ho10 hb10)
                  | (go_at_call 17; with_reducible refine (KI.out _ _ _ KA.out HO10.out.sl).mono ?_
                     rintro e11 w11 ⟨rfl, hb11⟩
                     have KB : Hid (Below w9.heap.size w9 w11) := hide (KA.out.trans (hb11.mono KA.out.size))
                     clear hb11)
                  | (go_at_call 12; with_reducible refine (KOW.out _ KB.out).mono ?_
                     rintro e12 w12 ⟨rfl, hb12⟩
                     have KC : Hid (Below w9.heap.size w9 w12) := hide (KB.out.trans (hb12.mono KB.out.size))
                     clear hb12))
              all_goals
                have HN : Hid (Below w7.heap.size w7 w12) := hide (HB10.out.trans (KC.out.mono HB10.out.size))
                go_wp2_with fail
                go_roundw
                case rel => exact ⟨j + 1, by omega, by go_num, HN⟩
                case measure => simp [intOf]; omega
            · have y2 : ¬ ((j : Int) < 20) := by omega
              have HBr : Hid (Below w0.heap.size w0 wr) := hide (HB7.out.trans (HB.out.mono HB7.out.size))
              go_wp2_with fail
              go_ret
              exact ⟨rfl, HBr.out⟩
          · have y1 : ¬ ((j : Int) < (kn : Int)) := by omega
            have HBr : Hid (Below w0.heap.size w0 wr) := hide (HB7.out.trans (HB.out.mono HB7.out.size))
            go_wp2_with fail
            go_ret
            exact ⟨rfl, HBr.out⟩
  · have HG := hide hg
    have KN := hide (new_bad P A nn c names w HSL.out hn hg)
    clear hP hg
    go_enter Tryd.func6, Tryd.ntmps6
    go_wp2_with fail
    refine KF.out.mono ?_
    rintro e w0 ⟨rfl, rfl⟩
    go_wp2_with fail
    refine KN.out.mono ?_
    rintro e w1 ⟨rfl, hb⟩
    have HB1 := hide hb
    clear hb KN KF
    go_wp2_with fail
    refine (known_any w1).mono ?_
    rintro e w2 ⟨rfl, hb⟩
    have HB2 : Hid (Below w0.heap.size w0 w2) := hide (HB1.out.trans (hb.mono HB1.out.size))
    clear hb HB1
    go_wp2_with fail
    refine (right_any P A nn c names w2 ((HSL.out.below HB2.out (Nat.le_refl _)).more HB2.out.size) hn).mono ?_
    rintro e w3 ⟨⟨b, rfl, hb1⟩, hb⟩
    obtain rfl : b = false := by
      cases b with
      | false => rfl
      | true => exact absurd (hb1.1 rfl) HG.out
    have HB3 : Hid (Below w0.heap.size w0 w3) := hide (HB2.out.trans (hb.mono HB2.out.size))
    clear hb hb1 HB2
    go_wp2_with fail
    refine (known_any w3).mono ?_
    rintro e w4 ⟨rfl, hb⟩
    have HB4 : Hid (Below w0.heap.size w0 w4) := hide (HB3.out.trans (hb.mono HB3.out.size))
    clear hb HB3
    go_wp2_with fail
    go_ret
    exact ⟨rfl, HB4.out⟩
end Go.Proofs.YtokdliapkolngaaDoor
