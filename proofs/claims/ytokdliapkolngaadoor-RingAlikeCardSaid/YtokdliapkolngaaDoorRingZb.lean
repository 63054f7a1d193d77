/-
  Ring: a region that goes: RingShrinks, walked.
-/
import Derived.Test.YtokdliapkolngaaDoorRingZa
namespace Go.Proofs.YtokdliapkolngaaDoor
open Go.RowKit Go.Sort Go.Shelf Go.Great
set_option linter.unusedVariables false

theorem good_erase {each : Int} {names : List ByteArray} {k : Nat} (h : GoodR each names) (h2 : 2 ≤ names.length) (hk : k < names.length) : GoodR each (names.eraseIdx k) := by
  refine ⟨h.1, h.2.1, ?_, ?_, fun s hs => h.2.2.2.2.1 s (List.mem_of_mem_eraseIdx hs), h.2.2.2.2.2.sublist (List.eraseIdx_sublist ..)⟩
  · rw [List.length_eraseIdx_of_lt hk]; omega
  · rw [List.length_eraseIdx_of_lt hk]; have := h.2.2.2.1; omega
theorem nmI_some {names : List ByteArray} {o : Nat} (h : o < names.length) : names[o]? = some (nmI names (o : Int)) := by
  unfold nmI
  rw [show ((o : Int).toNat) = o by omega, List.getElem?_eq_getElem h]; rfl
/-- when a region goes -/
theorem shrinks_law {n n2 each kk : Nat} {names : List ByteArray} {gone s : ByteArray} {pts : List (PtN n)} {pts2 : List (PtN n2)} (h : StandR names each pts) (h2 : StandR (names.eraseIdx kk) each pts2) (hn : names.length = n + 1) (hn2 : (names.eraseIdx kk).length = n2 + 1) (hd : names.Nodup) (he : 0 < each)
    (hk : names[kk]? = some gone) :
    (ownR pts s ≠ kk → ∃ t, names[ownR pts s]? = some t ∧ (names.eraseIdx kk)[ownR pts2 s]? = some t) ∧
    (ownR pts s = kk → ∃ (wn : Nat) (t : ByteArray), (ordR pts (placeN s : Int))[1]? = some ((wn : Nat) : Int) ∧ names[wn]? = some t ∧ (names.eraseIdx kk)[ownR pts2 s]? = some t) := by
  have hg := ring_gone gone h h2 hn hn2 hd he (erase_perm names kk gone hk) (placeN s : Int)
  have hl1 : ownR pts s < names.length := by have := rgAt_le pts (firstN pts (placeN s : Int)); unfold ownR; omega
  have hl2 : ownR pts2 s < (names.eraseIdx kk).length := by have := rgAt_le pts2 (firstN pts2 (placeN s : Int)); unfold ownR; omega
  have hkl := (List.getElem?_eq_some_iff.1 hk).1
  have a1 := nmI_some hl1
  have a2 := nmI_some hl2
  change (nmI names ((ownR pts s : Nat) : Int) ≠ gone → nmI (names.eraseIdx kk) ((ownR pts2 s : Nat) : Int) = nmI names ((ownR pts s : Nat) : Int)) ∧ (nmI names ((ownR pts s : Nat) : Int) = gone → (ordR pts (placeN s : Int))[1]?.map (nmI names) = some (nmI (names.eraseIdx kk) ((ownR pts2 s : Nat) : Int))) at hg
  refine ⟨fun hne => ?_, fun heq => ?_⟩
  · have hng : nmI names ((ownR pts s : Nat) : Int) ≠ gone := fun e => hne ((List.getElem?_inj hl1 hd).1 (a1.trans ((congrArg some e).trans hk.symm)))
    exact ⟨_, a1, by rw [a2, hg.1 hng]⟩
  · have hng : nmI names ((ownR pts s : Nat) : Int) = gone := by rw [heq] at a1 ⊢; rw [hk] at a1; injection a1 with a1; exact a1.symm
    have h1 := hg.2 hng
    cases hx : (ordR pts (placeN s : Int))[1]? with
    | none => rw [hx] at h1; cases h1
    | some x =>
      rw [hx] at h1
      injection h1 with h1
      have hr := ord_range pts (placeN s : Int) x (List.mem_of_getElem? hx)
      refine ⟨x.toNat, _, by rw [show ((x.toNat : Nat) : Int) = x by omega], nmI_some (by omega), ?_⟩
      rw [a2, ← h1, show ((x.toNat : Nat) : Int) = x by omega]
theorem wrapU_pos (z : Int) : 0 ≤ IntKind.u64.wrap z := by
  show 0 ≤ z % 18446744073709551616
  omega
theorem remU (z : Int) (L : Nat) (hz : 0 ≤ z) (h0 : 0 < L) (hL : L ≤ 65544) : ∃ k : Nat, k < L ∧ wrap64 (z.tmod (L : Int)) = (k : Int) := by
  have h1 := Int.tmod_nonneg (L : Int) hz
  have h2 := Int.tmod_lt_of_pos z (show (0 : Int) < (L : Int) by omega)
  exact ⟨(z.tmod (L : Int)).toNat, by omega, by rw [IntWalk.wrap64_in _ (by omega)]; omega⟩
set_option maxHeartbeats 8000000 in
set_option maxRecDepth 100000 in
theorem shrinks_walk (points gone : Int) (A K : Option Addr) (nn c kn kc : Nat) (names keys : List ByteArray) (w : World) (h : Sl w w.heap.size A nn (names.map Value.string)) (hn : nn ≤ 9223372036854775807)
    (hg0 : -9223372036854775808 ≤ gone ∧ gone ≤ 9223372036854775807) (hk : Sl w w.heap.size K kn (keys.map Value.string)) (hkn : kn ≤ 9223372036854775807) (hks : ∀ s ∈ keys, s.size ≤ 140737488355000) :
    Calls Tryd.prog 3 #[.int .i64 points, .slice A nn c, .int .i64 gone, .slice K kn kc] w fun e w' => e = .returned (.bool true) ∧ Below w.heap.size w w' := by
  have HSL := hide h; have HKS := hide hk; have HKZ := hide hks
  have hl : names.length = nn := by have := h.1; simpa using this
  have HLN := hide hl
  clear h hk hks hl
  by_cases hg : GoodR points names
  · obtain ⟨each, rfl⟩ : ∃ each : Nat, points = (each : Int) := ⟨points.toNat, by have := hg.1; omega⟩
    have HG := hide hg
    have KN := hide (new_good each A nn c names w HSL.out hn hg)
    have hn8 : nn ≤ 8 := by have := HLN.out; have := hg.2.2.2.1; omega
    have he64 : each ≤ 64 := by have := hg.2.1; omega
    clear hg
    by_cases hn2 : nn < 2
    · have y2 : (nn : Int) < 2 := by omega
      go_enter Tryd.func3, Tryd.ntmps3
      go_wp2_with fail
      refine KN.out.mono ?_
      rintro e w1 ⟨⟨n, g, pts, rfl, hr⟩, hb⟩
      have HB1 := hide hb
      clear hr hb KN
      go_wp2_with fail
      refine (known_any w1).mono ?_
      rintro e w2 ⟨rfl, hb⟩
      have HB2 : Hid (Below w.heap.size w w2) := hide (HB1.out.trans (hb.mono HB1.out.size))
      clear hb HB1
      go_wp2_with fail
      refine (known_any w2).mono ?_
      rintro e w3 ⟨rfl, hb⟩
      have HB3 : Hid (Below w.heap.size w w3) := hide (HB2.out.trans (hb.mono HB2.out.size))
      clear hb HB2
      go_wp2_with fail
      go_ret
      exact ⟨rfl, HB3.out⟩
    · have y2 : ¬ ((nn : Int) < 2) := by omega
      go_enter Tryd.func3, Tryd.ntmps3
      go_wp2_with fail
      refine KN.out.mono ?_
      rintro e w1 ⟨⟨n, g, pts, rfl, hr⟩, hb⟩
      have HR1 := hide hr; have HB1 := hide hb
      clear hr hb KN
      go_wp2_with fail
      refine (known_any w1).mono ?_
      rintro e w2 ⟨rfl, hb⟩
      have HR2 := hide (HR1.out.below hb); have HB2 : Hid (Below w.heap.size w w2) := hide (HB1.out.trans (hb.mono HB1.out.size))
      clear hb HR1 HB1
      have HS2 : Hid (w.heap.size ≤ w2.heap.size) := hide HB2.out.size
      obtain ⟨kk, hkk, ek⟩ := remU (IntKind.u64.wrap gone) nn (wrapU_pos gone) (by omega) (by omega)
      obtain ⟨nb, no, nk, rfl, hnb, n0, HNK⟩ := HSL.out.text hkk
      have n1 := (HB2.out.cell (p := ⟨nb, no + kk, none⟩) hnb).trans n0
      have j0 : (0 : Int) ≤ (kk : Int) := by omega
      have j1 : (kk : Int) < (nn : Int) := by omega
      have HGE : Hid (GoodR (each : Int) (names.eraseIdx kk)) := hide (good_erase HG.out (by have := HLN.out; omega) (by have := HLN.out; omega))
      clear n0
      go_wp2_with fail
      rw [ek]
      refine (without_ok nk w2 HR2.out HS2.out HNK.out).mono ?_
      rintro e w3 ⟨w3a, hb3, hgv⟩
      obtain ⟨⟨n2, g2, pts2, rfl, hr2⟩, hs3, hb⟩ := ok_of_gives hb3 hgv HGE.out
      have HQ3 := hide hr2
      have HR3 := hide (HR2.out.below hb); have HB3 : Hid (Below w.heap.size w w3) := hide (HB2.out.trans (hb.mono HB2.out.size))
      have HS3 : Hid (w3a.heap.size ≤ w3.heap.size ∧ w.heap.size ≤ w3.heap.size) := hide ⟨Nat.le_trans hr2.st.ge (Nat.le_of_lt hr2.g_lt), HB3.out.size⟩
      clear hb hr2 hs3 hb3 hgv HR2 HB2 HS2 n1 ek
      go_wp2_with fail
      go_loopw [14, 15, 16] (fun v14 v15 v16 wr => ∃ j : Nat, j ≤ kn ∧ v14 = .int .i64 j ∧ Hid (Below w3.heap.size w3 wr)) (fun v _ _ _ => kn - (intOf v).toNat)
      case atStart => exact ⟨0, by omega, rfl, hide (Below.refl _ _)⟩
      case round => as_aux_lemma =>
        obtain ⟨j, hj, rfl, HB⟩ := hrel
        have y0 : (0 : Int) ≤ (j : Int) := by omega
        have HBr : Hid (Below w.heap.size w wr) := hide (HB3.out.trans (HB.out.mono HB3.out.size))
        by_cases hjk : j < kn
        · have y1 : (j : Int) < (kn : Int) := by omega
          by_cases hj20 : j < 20
          · have y3 : (j : Int) < 20 := by omega
            obtain ⟨kb, ko, s, rfl, hkb, k0, HS⟩ := HKS.out.text hjk
            have hsz := HKZ.out s (List.mem_of_getElem? HS.out)
            have k1 := (HBr.out.cell (p := ⟨kb, ko + j, none⟩) hkb).trans k0
            have HRr := hide (HR3.out.below HB.out); have HQr := hide (HQ3.out.below HB.out)
            have HSr : Hid (w3a.heap.size ≤ wr.heap.size ∧ w.heap.size ≤ wr.heap.size) := hide (by have := HS3.out; have := HB.out.size; omega)
            have KO := order_ok s wr HRr.out HSr.out.2 hsz
            rw [show (ordR pts (placeN s : Int)).length = nn by rw [ord_length HRr.out.sd HRr.out.hn HRr.out.nodup HRr.out.each_pos HRr.out.pts_pos]; exact HLN.out] at KO
            have HKO := hide KO
            clear KO
            go_wp2_with fail
            refine HKO.out.mono ?_
            rintro e w4 ⟨A4, c4, rfl, ho, hb⟩
            have HB4 : Hid (Below wr.heap.size wr w4) := hide hb
            have HR4 := hide (HRr.out.below hb); have HQ4 := hide (HQr.out.below hb)
            have HS4 : Hid (w3a.heap.size ≤ w4.heap.size ∧ w.heap.size ≤ w4.heap.size) := hide (by have := HSr.out; have := hb.size; omega)
            have hhead := ord_head pts HR4.out.pts_pos (placeN s : Int)
            obtain ⟨g9, rfl, hg9, hc9, _⟩ := (OwnS.of_own ho).spot (by omega)
            obtain ⟨o1, ho1⟩ : ∃ o, o = ownR pts s := ⟨_, rfl⟩
            obtain ⟨o2, ho2⟩ : ∃ o, o = ownR pts2 s := ⟨_, rfl⟩
            have w0c := hc9 0 (.int .i64 (o1 : Int)) (by rw [List.getElem?_map, hhead, ho1]; rfl)
            have HG9 : Hid (g9 < w4.heap.size) := hide (ho.row_lt g9 hg9)
            have HC9 : Hid (∀ x : Nat, (ordR pts (placeN s : Int))[1]? = some (x : Int) → w4.cell? ⟨g9, 1, none⟩ = some (.int .i64 (x : Int))) := hide (fun x hx => hc9 1 _ (by rw [List.getElem?_map, hx]; rfl))
            have hl2 : o2 < (names.eraseIdx kk).length := by have := rgAt_le pts2 (firstN pts2 (placeN s : Int)); have := HQ4.out.hn; rw [ho2]; unfold ownR; omega
            have hlaw := shrinks_law (s := s) HR4.out.sd HQ4.out.sd HR4.out.hn HQ4.out.hn HR4.out.nodup HR4.out.each_pos HNK.out
            rw [← ho1, ← ho2] at hlaw
            have HLAW := hide hlaw
            have HKC : Hid (∀ X, Below w4.heap.size w4 X → X.cell? ⟨kb, ko + j, none⟩ = some (.string s)) := hide (fun X hb => ((HBr.out.trans ((HB4.out.trans (hb.mono HB4.out.size)).mono HBr.out.size)).cell (p := ⟨kb, ko + j, none⟩) hkb).trans k0)
            have HNC : Hid (∀ (i : Nat) t X, names[i]? = some t → Below w4.heap.size w4 X → X.cell? ⟨nb, no + i, none⟩ = some (.string t)) := hide (fun i t X hi hb => by
              obtain ⟨b', o', t', hA, hb', c', HT⟩ := HSL.out.text (k := i) (by have := (List.getElem?_eq_some_iff.1 hi).1; have := HLN.out; omega)
              injection hA with hA; injection hA with e1 e2 _
              subst e1; subst e2
              have := HT.out.symm.trans hi
              injection this with this; subst this
              exact ((HBr.out.trans ((HB4.out.trans (hb.mono HB4.out.size)).mono HBr.out.size)).cell (p := ⟨nb, no + i, none⟩) hb').trans c')
            have KO1 : Hid (∀ X : World, Below w4.heap.size w4 X → Calls Tryd.prog 12 #[.pointer (some ⟨g, 0, none⟩), .string s] X fun e w' => e = .returned (.int .i64 (o1 : Int)) ∧ Below X.heap.size X w') := hide (fun X hb => by
              rw [ho1]; exact owner_ok s X (HR4.out.below hb) (by have := HS4.out; have := hb.size; omega) hsz)
            have KO2 : Hid (∀ X : World, Below w4.heap.size w4 X → Calls Tryd.prog 12 #[.pointer (some ⟨g2, 0, none⟩), .string s] X fun e w' => e = .returned (.int .i64 (o2 : Int)) ∧ Below X.heap.size X w') := hide (fun X hb => by
              rw [ho2]; exact owner_ok s X (HQ4.out.below hb) (by have := HS4.out; have := hb.size; omega) hsz)
            have KNM : Hid (∀ X : World, Below w4.heap.size w4 X → Calls Tryd.prog 13 #[.pointer (some ⟨g2, 0, none⟩)] X fun e w' => ∃ A c, e = .returned (.slice A (names.eraseIdx kk).length c) ∧ Own w' X.heap.size 9 A (names.eraseIdx kk).length c ((names.eraseIdx kk).map Value.string) ∧ Below X.heap.size X w') := hide (fun X hb => names_ok X (HQ4.out.below hb) (by have := HS4.out; have := hb.size; omega))
            obtain ⟨LQ, hLQ⟩ : ∃ LQ, LQ = (names.eraseIdx kk).length := ⟨_, rfl⟩
            rw [← hLQ] at KNM hl2
            have i3 : (0 : Int) ≤ (o2 : Int) := by omega
            have i4 : (o2 : Int) < (LQ : Int) := by omega
            have hq1 : ((nn : Int) != (nn : Int)) = false := by simp
            have hq2 : ((o1 : Int) != (o1 : Int)) = false := by simp
            have hq3 : (0 : Int) < (nn : Int) := by omega
            have hq4 : (1 : Int) < (nn : Int) := by omega
            have hq5 : 0 < nn := by omega
            have hq6 : 1 < nn := by omega
            have HK0 : Hid (∀ X, Below w4.heap.size w4 X → X.cell? ⟨g9, 0, none⟩ = some (.int .i64 (o1 : Int)) ∧ X.cell? ⟨kb, ko + j, none⟩ = some (.string s)) := hide (fun X hb => ⟨(hb.cell (p := ⟨g9, 0, none⟩) HG9.out).trans w0c, HKC.out X hb⟩)
            have hS0 : w4.drew.cell? ⟨g9, 0, none⟩ = some (.int .i64 (o1 : Int)) ∧ w4.drew.cell? ⟨kb, ko + j, none⟩ = some (.string s) := HK0.out _ (Below.refl _ _).drew
            clear k0 k1 ho hb hhead hg9 hc9 ho1 ho2 w0c hlaw hLQ HRr HQr HSr HKO
            go_upto_region 12 with (fail)
            go_region_held3 (fun W => W.cell? ⟨g9, 0, none⟩ = some (.int .i64 (o1 : Int)) ∧ W.cell? ⟨kb, ko + j, none⟩ = some (.string s))
              (first | with_reducible assumption | exact HK0.out _ KA.out)
              (first
                | (go_at_call 12; with_reducible refine (KO1.out _ (Below.refl _ _).drew).mono ?_
                   rintro e5 w5 ⟨rfl, hb5⟩
                   have KA : Hid (Below w4.heap.size w4 w5) := hide ((Below.refl w4.heap.size w4).drew.trans hb5)
                   clear hb5))
            have p0 := (HK0.out _ KA.out).1
            by_cases hok : o1 = kk
            · obtain ⟨wn, t, hw1, hw2, hw3⟩ := HLAW.out.2 hok
              have heq : ((o1 : Int) == (kk : Int)) = true := by rw [hok]; simp
              have p1 := (KA.out.cell (p := ⟨g9, 1, none⟩) HG9.out).trans (HC9.out wn hw1)
              have wl : wn < nn := by have := (List.getElem?_eq_some_iff.1 hw2).1; have := HLN.out; omega
              have m0 : (0 : Int) ≤ (wn : Int) := by omega
              have m1 : (wn : Int) < (nn : Int) := by omega
              have HW2 := hide hw2; have HW3 := hide hw3
              clear hw1 hw2 hw3 hok
              go_upto_region 17 with (fail)
              have HKK : Hid (∀ X, Below w5.heap.size w5 X → X.cell? ⟨kb, ko + j, none⟩ = some (.string s) ∧ X.cell? ⟨nb, no + wn, none⟩ = some (.string t)) := hide (fun X hb => ⟨HKC.out X (KA.out.trans (hb.mono KA.out.size)), HNC.out wn t X HW2.out (KA.out.trans (hb.mono KA.out.size))⟩)
              have hS1 : w5.drew.cell? ⟨kb, ko + j, none⟩ = some (.string s) ∧ w5.drew.cell? ⟨nb, no + wn, none⟩ = some (.string t) := HKK.out _ (Below.refl _ _).drew
              have q1 : (t.toList == t.toList) = true := by simp
              have q2 : (t.toList != t.toList) = false := by simp
              clear hS0 p0
              refine start_held 15 (fun W => W.cell? ⟨kb, ko + j, none⟩ = some (.string s) ∧ W.cell? ⟨nb, no + wn, none⟩ = some (.string t)) rfl (by kernel_rfl) hS1 (fun hHeld => ?_)
              refine take_held 0 (v := ?_) rfl (by kernel_rfl) (by kernel_rfl) (by kernel_rfl) (fun _ _ _ h => h) (Or.inl ⟨by rfl, ?_⟩) (by assumption) ?_
              rotate_left
              · (intro w hSw; (try dsimp only at hSw); go_simp; (try with_reducible rfl))
              try simp only [Act.put, List.setIfInBounds_toArray, List.set_cons_zero, List.set_cons_succ]
              refine take_held 2 (v := ?_) rfl (by kernel_rfl) (by kernel_rfl) (by kernel_rfl) (fun _ _ _ h => h) (Or.inl ⟨by rfl, ?_⟩) (by assumption) ?_
              rotate_left
              · (intro w hSw; (try dsimp only at hSw); go_simp; (try with_reducible rfl))
              try simp only [Act.put, List.setIfInBounds_toArray, List.set_cons_zero, List.set_cons_succ]
              refine take_held 3 (v := ?_) rfl (by kernel_rfl) (by kernel_rfl) (by kernel_rfl) (fun _ _ _ h => h) (Or.inl ⟨by rfl, ?_⟩) (by assumption) ?_
              rotate_left
              · (intro w hSw; (try dsimp only at hSw); go_simp; (try with_reducible rfl))
              try simp only [Act.put, List.setIfInBounds_toArray, List.set_cons_zero, List.set_cons_succ]
              refine take_held 4 (v := ?_) rfl (by kernel_rfl) (by kernel_rfl) (by kernel_rfl) (fun _ _ _ h => h) (Or.inl ⟨by rfl, ?_⟩) (by assumption) ?_
              rotate_left
              · (intro w hSw; (try dsimp only at hSw); go_simp; (try with_reducible rfl))
              try simp only [Act.put, List.setIfInBounds_toArray, List.set_cons_zero, List.set_cons_succ]
              refine take_held 5 (v := ?_) rfl (by kernel_rfl) (by kernel_rfl) (by kernel_rfl) (fun _ _ _ h => h) (Or.inl ⟨by rfl, ?_⟩) (by assumption) ?_
              rotate_left
              · (intro w hSw; (try dsimp only at hSw); go_simp; (try with_reducible rfl))
              try simp only [Act.put, List.setIfInBounds_toArray, List.set_cons_zero, List.set_cons_succ]
              refine take_held 6 (v := ?_) rfl (by kernel_rfl) (by kernel_rfl) (by kernel_rfl) (fun _ _ _ h => h) (Or.inl ⟨by rfl, ?_⟩) (by assumption) ?_
              rotate_left
              · (intro w hSw; (try dsimp only at hSw); go_simp; (try with_reducible rfl))
              try simp only [Act.put, List.setIfInBounds_toArray, List.set_cons_zero, List.set_cons_succ]
              refine take_held 10 (v := ?_) rfl (by kernel_rfl) (by kernel_rfl) (by kernel_rfl) (fun _ _ _ h => h) (Or.inl ⟨by rfl, ?_⟩) (by assumption) ?_
              rotate_left
              · (intro w hSw; (try dsimp only at hSw); go_simp; (try with_reducible rfl))
              try simp only [Act.put, List.setIfInBounds_toArray, List.set_cons_zero, List.set_cons_succ]
              refine take_held 11 (v := ?_) rfl (by kernel_rfl) (by kernel_rfl) (by kernel_rfl) (fun _ _ _ h => h) (Or.inl ⟨by rfl, ?_⟩) (by assumption) ?_
              rotate_left
              · (intro w hSw; (try dsimp only at hSw); go_simp; (try with_reducible rfl))
              try simp only [Act.put, List.setIfInBounds_toArray, List.set_cons_zero, List.set_cons_succ]
              refine take_held 12 (v := ?_) rfl (by kernel_rfl) (by kernel_rfl) (by kernel_rfl) (fun _ _ _ h => h) (Or.inl ⟨by rfl, ?_⟩) (by assumption) ?_
              rotate_left
              · (intro w hSw; (try dsimp only at hSw); go_simp; (try with_reducible rfl))
              try simp only [Act.put, List.setIfInBounds_toArray, List.set_cons_zero, List.set_cons_succ]
              refine take_held 13 (v := ?_) rfl (by kernel_rfl) (by kernel_rfl) (by kernel_rfl) (fun _ _ _ h => h) (Or.inl ⟨by rfl, ?_⟩) (by assumption) ?_
              rotate_left
              · (intro w hSw; (try dsimp only at hSw); go_simp; (try with_reducible rfl))
              try simp only [Act.put, List.setIfInBounds_toArray, List.set_cons_zero, List.set_cons_succ]
              refine wpAnyH_ready (rs := [1]) (by kernel_rfl) (by simp) ?_
              refine cons_last rfl (fun K hK => ?_) AllReadyH.nil
              go_simp
              go_at_call 13
              with_reducible refine (KNM.out _ KA.out.drew).mono ?_
              rintro e11 w11 ⟨A11, c11, rfl, ho11, hb11⟩
              have HO11 := hide ho11
              have KB : Hid (Below w5.heap.size w5 w11) := hide ((Below.refl w5.heap.size w5).drew.trans hb11)
              clear ho11 hb11
              go_wp2_with fail
              refine hK.out _ _ ?_ (fun hHeld => ?_)
              · exact HKK.out _ KB.out
              clear hK K
              try simp only [Act.put, List.setIfInBounds_toArray, List.set_cons_zero, List.set_cons_succ]
              refine wpAnyH_ready (rs := [7]) (by kernel_rfl) (by simp) ?_
              refine cons_last rfl (fun K hK => ?_) AllReadyH.nil
              go_simp
              go_at_call 12
              with_reducible refine (KO2.out _ (KA.out.trans (KB.out.mono KA.out.size))).mono ?_
              rintro e12 w12 ⟨rfl, hb12⟩
              have HO12 := hide (HO11.out.below hb12)
              have KC : Hid (Below w5.heap.size w5 w12) := hide (KB.out.trans (hb12.mono KB.out.size))
              clear hb12
              go_wp2_with fail
              refine hK.out _ _ ?_ (fun hHeld => ?_)
              · exact HKK.out _ KC.out
              clear hK K
              try simp only [Act.put, List.setIfInBounds_toArray, List.set_cons_zero, List.set_cons_succ]
              obtain ⟨fb, fo, t', rfl, hfb, f0, HNW⟩ := HO12.out.sl.text hl2
              obtain rfl : t' = t := by have := HNW.out.symm.trans HW3.out; injection this
              refine take_held 8 (v := ?_) rfl (by kernel_rfl) (by kernel_rfl) (by kernel_rfl) (fun _ _ _ h => h) (Or.inl ⟨by rfl, ?_⟩) (by assumption) ?_
              rotate_left
              · (intro w hSw; (try dsimp only at hSw); go_simp; (try with_reducible rfl))
              try simp only [Act.put, List.setIfInBounds_toArray, List.set_cons_zero, List.set_cons_succ]
              refine wpAnyH_ready (rs := [9]) (by kernel_rfl) (by simp) ?_
              refine cons_last rfl (fun K hK => ?_) AllReadyH.nil
              go_simp
              refine hK.out _ _ ?_ (fun hHeld => ?_)
              · exact HKK.out _ KC.out
              clear hK K
              try simp only [Act.put, List.setIfInBounds_toArray, List.set_cons_zero, List.set_cons_succ]
              refine take_held 14 (v := ?_) rfl (by kernel_rfl) (by kernel_rfl) (by kernel_rfl) (fun _ _ _ h => h) (Or.inl ⟨by rfl, ?_⟩) (by assumption) ?_
              rotate_left
              · (intro w hSw; (try dsimp only at hSw); go_simp; (try with_reducible rfl))
              try simp only [Act.put, List.setIfInBounds_toArray, List.set_cons_zero, List.set_cons_succ]
              refine wpAnyH_done (by kernel_rfl) ?_ _
              have HN : Hid (Below w3.heap.size w3 w12) := hide (HB.out.trans ((HB4.out.trans ((KA.out.trans (KC.out.mono KA.out.size)).mono HB4.out.size)).mono HB.out.size))
              clear f0 hHeld hS1 HO11 HO12 KNM KO2
              go_wp2_with fail
              go_roundw
              case rel => exact ⟨j + 1, by omega, by go_num, HN⟩
              case measure => simp [intOf]; omega
            · obtain ⟨t, hw2, hw3⟩ := HLAW.out.1 hok
              have heq : ((o1 : Int) == (kk : Int)) = false := by rw [beq_eq_false_iff_ne]; omega
              obtain ⟨wn, hwn⟩ : ∃ wn, wn = o1 := ⟨_, rfl⟩
              rw [← hwn] at hw2
              have wl : wn < nn := by have := (List.getElem?_eq_some_iff.1 hw2).1; have := HLN.out; omega
              have m0 : (0 : Int) ≤ (wn : Int) := by omega
              have m1 : (wn : Int) < (nn : Int) := by omega
              have HW2 := hide hw2; have HW3 := hide hw3
              clear hw2 hw3 hok
              go_upto_region 17 with (fail)
              subst hwn
              have HKK : Hid (∀ X, Below w5.heap.size w5 X → X.cell? ⟨kb, ko + j, none⟩ = some (.string s) ∧ X.cell? ⟨nb, no + wn, none⟩ = some (.string t)) := hide (fun X hb => ⟨HKC.out X (KA.out.trans (hb.mono KA.out.size)), HNC.out wn t X HW2.out (KA.out.trans (hb.mono KA.out.size))⟩)
              have hS1 : w5.drew.cell? ⟨kb, ko + j, none⟩ = some (.string s) ∧ w5.drew.cell? ⟨nb, no + wn, none⟩ = some (.string t) := HKK.out _ (Below.refl _ _).drew
              have q1 : (t.toList == t.toList) = true := by simp
              have q2 : (t.toList != t.toList) = false := by simp
              clear hS0 p0
              refine start_held 15 (fun W => W.cell? ⟨kb, ko + j, none⟩ = some (.string s) ∧ W.cell? ⟨nb, no + wn, none⟩ = some (.string t)) rfl (by kernel_rfl) hS1 (fun hHeld => ?_)
              refine take_held 0 (v := ?_) rfl (by kernel_rfl) (by kernel_rfl) (by kernel_rfl) (fun _ _ _ h => h) (Or.inl ⟨by rfl, ?_⟩) (by assumption) ?_
              rotate_left
              · (intro w hSw; (try dsimp only at hSw); go_simp; (try with_reducible rfl))
              try simp only [Act.put, List.setIfInBounds_toArray, List.set_cons_zero, List.set_cons_succ]
              refine take_held 2 (v := ?_) rfl (by kernel_rfl) (by kernel_rfl) (by kernel_rfl) (fun _ _ _ h => h) (Or.inl ⟨by rfl, ?_⟩) (by assumption) ?_
              rotate_left
              · (intro w hSw; (try dsimp only at hSw); go_simp; (try with_reducible rfl))
              try simp only [Act.put, List.setIfInBounds_toArray, List.set_cons_zero, List.set_cons_succ]
              refine take_held 3 (v := ?_) rfl (by kernel_rfl) (by kernel_rfl) (by kernel_rfl) (fun _ _ _ h => h) (Or.inl ⟨by rfl, ?_⟩) (by assumption) ?_
              rotate_left
              · (intro w hSw; (try dsimp only at hSw); go_simp; (try with_reducible rfl))
              try simp only [Act.put, List.setIfInBounds_toArray, List.set_cons_zero, List.set_cons_succ]
              refine take_held 4 (v := ?_) rfl (by kernel_rfl) (by kernel_rfl) (by kernel_rfl) (fun _ _ _ h => h) (Or.inl ⟨by rfl, ?_⟩) (by assumption) ?_
              rotate_left
              · (intro w hSw; (try dsimp only at hSw); go_simp; (try with_reducible rfl))
              try simp only [Act.put, List.setIfInBounds_toArray, List.set_cons_zero, List.set_cons_succ]
              refine take_held 5 (v := ?_) rfl (by kernel_rfl) (by kernel_rfl) (by kernel_rfl) (fun _ _ _ h => h) (Or.inl ⟨by rfl, ?_⟩) (by assumption) ?_
              rotate_left
              · (intro w hSw; (try dsimp only at hSw); go_simp; (try with_reducible rfl))
              try simp only [Act.put, List.setIfInBounds_toArray, List.set_cons_zero, List.set_cons_succ]
              refine take_held 6 (v := ?_) rfl (by kernel_rfl) (by kernel_rfl) (by kernel_rfl) (fun _ _ _ h => h) (Or.inl ⟨by rfl, ?_⟩) (by assumption) ?_
              rotate_left
              · (intro w hSw; (try dsimp only at hSw); go_simp; (try with_reducible rfl))
              try simp only [Act.put, List.setIfInBounds_toArray, List.set_cons_zero, List.set_cons_succ]
              refine take_held 10 (v := ?_) rfl (by kernel_rfl) (by kernel_rfl) (by kernel_rfl) (fun _ _ _ h => h) (Or.inl ⟨by rfl, ?_⟩) (by assumption) ?_
              rotate_left
              · (intro w hSw; (try dsimp only at hSw); go_simp; (try with_reducible rfl))
              try simp only [Act.put, List.setIfInBounds_toArray, List.set_cons_zero, List.set_cons_succ]
              refine take_held 11 (v := ?_) rfl (by kernel_rfl) (by kernel_rfl) (by kernel_rfl) (fun _ _ _ h => h) (Or.inl ⟨by rfl, ?_⟩) (by assumption) ?_
              rotate_left
              · (intro w hSw; (try dsimp only at hSw); go_simp; (try with_reducible rfl))
              try simp only [Act.put, List.setIfInBounds_toArray, List.set_cons_zero, List.set_cons_succ]
              refine take_held 12 (v := ?_) rfl (by kernel_rfl) (by kernel_rfl) (by kernel_rfl) (fun _ _ _ h => h) (Or.inl ⟨by rfl, ?_⟩) (by assumption) ?_
              rotate_left
              · (intro w hSw; (try dsimp only at hSw); go_simp; (try with_reducible rfl))
              try simp only [Act.put, List.setIfInBounds_toArray, List.set_cons_zero, List.set_cons_succ]
              refine take_held 13 (v := ?_) rfl (by kernel_rfl) (by kernel_rfl) (by kernel_rfl) (fun _ _ _ h => h) (Or.inl ⟨by rfl, ?_⟩) (by assumption) ?_
              rotate_left
              · (intro w hSw; (try dsimp only at hSw); go_simp; (try with_reducible rfl))
              try simp only [Act.put, List.setIfInBounds_toArray, List.set_cons_zero, List.set_cons_succ]
              refine wpAnyH_ready (rs := [1]) (by kernel_rfl) (by simp) ?_
              refine cons_last rfl (fun K hK => ?_) AllReadyH.nil
              go_simp
              go_at_call 13
              with_reducible refine (KNM.out _ KA.out.drew).mono ?_
              rintro e11 w11 ⟨A11, c11, rfl, ho11, hb11⟩
              have HO11 := hide ho11
              have KB : Hid (Below w5.heap.size w5 w11) := hide ((Below.refl w5.heap.size w5).drew.trans hb11)
              clear ho11 hb11
              go_wp2_with fail
              refine hK.out _ _ ?_ (fun hHeld => ?_)
              · exact HKK.out _ KB.out
              clear hK K
              try simp only [Act.put, List.setIfInBounds_toArray, List.set_cons_zero, List.set_cons_succ]
              refine wpAnyH_ready (rs := [7]) (by kernel_rfl) (by simp) ?_
              refine cons_last rfl (fun K hK => ?_) AllReadyH.nil
              go_simp
              go_at_call 12
              with_reducible refine (KO2.out _ (KA.out.trans (KB.out.mono KA.out.size))).mono ?_
              rintro e12 w12 ⟨rfl, hb12⟩
              have HO12 := hide (HO11.out.below hb12)
              have KC : Hid (Below w5.heap.size w5 w12) := hide (KB.out.trans (hb12.mono KB.out.size))
              clear hb12
              go_wp2_with fail
              refine hK.out _ _ ?_ (fun hHeld => ?_)
              · exact HKK.out _ KC.out
              clear hK K
              try simp only [Act.put, List.setIfInBounds_toArray, List.set_cons_zero, List.set_cons_succ]
              obtain ⟨fb, fo, t', rfl, hfb, f0, HNW⟩ := HO12.out.sl.text hl2
              obtain rfl : t' = t := by have := HNW.out.symm.trans HW3.out; injection this
              refine take_held 8 (v := ?_) rfl (by kernel_rfl) (by kernel_rfl) (by kernel_rfl) (fun _ _ _ h => h) (Or.inl ⟨by rfl, ?_⟩) (by assumption) ?_
              rotate_left
              · (intro w hSw; (try dsimp only at hSw); go_simp; (try with_reducible rfl))
              try simp only [Act.put, List.setIfInBounds_toArray, List.set_cons_zero, List.set_cons_succ]
              refine wpAnyH_ready (rs := [9]) (by kernel_rfl) (by simp) ?_
              refine cons_last rfl (fun K hK => ?_) AllReadyH.nil
              go_simp
              refine hK.out _ _ ?_ (fun hHeld => ?_)
              · exact HKK.out _ KC.out
              clear hK K
              try simp only [Act.put, List.setIfInBounds_toArray, List.set_cons_zero, List.set_cons_succ]
              refine take_held 14 (v := ?_) rfl (by kernel_rfl) (by kernel_rfl) (by kernel_rfl) (fun _ _ _ h => h) (Or.inl ⟨by rfl, ?_⟩) (by assumption) ?_
              rotate_left
              · (intro w hSw; (try dsimp only at hSw); go_simp; (try with_reducible rfl))
              try simp only [Act.put, List.setIfInBounds_toArray, List.set_cons_zero, List.set_cons_succ]
              refine wpAnyH_done (by kernel_rfl) ?_ _
              have HN : Hid (Below w3.heap.size w3 w12) := hide (HB.out.trans ((HB4.out.trans ((KA.out.trans (KC.out.mono KA.out.size)).mono HB4.out.size)).mono HB.out.size))
              clear f0 hHeld hS1 HO11 HO12 KNM KO2
              go_wp2_with fail
              go_roundw
              case rel => exact ⟨j + 1, by omega, by go_num, HN⟩
              case measure => simp [intOf]; omega
          · have y3 : ¬ ((j : Int) < 20) := by omega
            go_wp2_with fail
            go_ret
            exact ⟨rfl, HBr.out⟩
        · have y1 : ¬ ((j : Int) < (kn : Int)) := by omega
          go_wp2_with fail
          go_ret
          exact ⟨rfl, HBr.out⟩
  · have KN := hide (new_bad points A nn c names w HSL.out hn hg)
    clear hg
    go_enter Tryd.func3, Tryd.ntmps3
    go_wp2_with fail
    refine KN.out.mono ?_
    rintro e w1 ⟨rfl, hb⟩
    have HB1 := hide hb
    clear hb KN
    go_wp2_with fail
    refine (known_any w1).mono ?_
    rintro e w2 ⟨rfl, hb⟩
    have HB2 : Hid (Below w.heap.size w w2) := hide (HB1.out.trans (hb.mono HB1.out.size))
    clear hb HB1
    go_wp2_with fail
    refine (known_any w2).mono ?_
    rintro e w3 ⟨rfl, hb⟩
    have HB3 : Hid (Below w.heap.size w w3) := hide (HB2.out.trans (hb.mono HB2.out.size))
    clear hb HB2
    go_wp2_with fail
    go_ret
    exact ⟨rfl, HB3.out⟩
end Go.Proofs.YtokdliapkolngaaDoor
