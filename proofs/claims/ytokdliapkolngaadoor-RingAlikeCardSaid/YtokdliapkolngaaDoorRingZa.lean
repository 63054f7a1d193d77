/-
  Ring: a region that comes: RingGrows, walked.
-/
import Derived.Test.YtokdliapkolngaaDoorRingX
import Derived.Test.YtokdliapkolngaaDoorScript
namespace Go.Proofs.YtokdliapkolngaaDoor
open Go.RowKit Go.Sort Go.Shelf Go.Great
set_option linter.unusedVariables false

theorem with_ok {n : Nat} {base g each : Nat} {names : List ByteArray} {pts : List (PtN n)} (s : ByteArray) (w : World) (h : RingOk w base g names each pts) (hbase : base ≤ w.heap.size) :
    Calls Tryd.prog 15 #[.pointer (some ⟨g, 0, none⟩), .string s] w fun e w' => ∃ w1, Below w.heap.size w w1 ∧ GivesN (each : Int) (names ++ [s]) w1 e w' :=
  with_any base g each names pts s w h.st hbase h.names_pos (by have := h.names_le; omega)
theorem without_ok {n : Nat} {base g each i : Nat} {names : List ByteArray} {pts : List (PtN n)} (s : ByteArray) (w : World) (h : RingOk w base g names each pts) (hbase : base ≤ w.heap.size) (hi : names[i]? = some s) :
    Calls Tryd.prog 10 #[.pointer (some ⟨g, 0, none⟩), .string s] w fun e w' => ∃ w1, Below w.heap.size w w1 ∧ GivesN (each : Int) (names.eraseIdx i) w1 e w' :=
  without_any base g each i names pts s w h.st hbase h.names_pos (by have := h.names_le; omega) hi (fun hm => by
    have hil := (List.getElem?_eq_some_iff.1 hi).1
    obtain ⟨j, hj, he⟩ := List.mem_iff_getElem?.1 hm |>.imp fun j hj => (⟨(List.getElem?_eq_some_iff.1 hj).1, hj⟩ : j < (names.take i).length ∧ _)
    rw [List.length_take] at hj
    rw [List.getElem?_take_of_lt (by omega)] at he
    have := (List.getElem?_inj (by omega) h.nodup).1 (he.trans hi.symm)
    omega)
/-- a ring that a callee gives, from its caller's world on -/
theorem ok_of_gives {each : Nat} {names : List ByteArray} {w w1 w' : World} {e : Ending} (hb : Below w.heap.size w w1) (h : GivesN (each : Int) names w1 e w') (hg : GoodR (each : Int) names) :
    (∃ (n g : Nat) (pts : List (PtN n)), e = .returned (.tuple #[.pointer (some ⟨g, 0, none⟩), .int .i64 0]) ∧ RingOk w' w1.heap.size g names each pts) ∧ w.heap.size ≤ w1.heap.size ∧ Below w.heap.size w w' := by
  have := gives_ok h hg
  exact ⟨this.1, hb.size, hb.trans (this.2.mono hb.size)⟩
theorem bad_of_gives {each : Nat} {names : List ByteArray} {w w1 w' : World} {e : Ending} (hb : Below w.heap.size w w1) (h : GivesN (each : Int) names w1 e w') (hg : ¬ GoodR (each : Int) names) :
    e = .returned (.tuple #[.pointer none, .int .i64 1]) ∧ Below w.heap.size w w' := by
  rcases h.1 with ⟨h1, _⟩ | ⟨_, h2⟩
  · exact absurd h1 hg
  · exact ⟨h2, hb.trans (h.2.mono hb.size)⟩
theorem nmI_at {names : List ByteArray} {o : Nat} {s : ByteArray} (h : names[o]? = some s) : nmI names (o : Int) = s := by
  unfold nmI
  rw [show ((o : Int).toNat) = o by omega, h]; rfl
/-- the names of a key's owner, ahead and behind -/
theorem grows_law {n n2 each : Nat} {names : List ByteArray} {name s was now : ByteArray} {pts : List (PtN n)} {pts2 : List (PtN n2)} (h : StandR names each pts) (h2 : StandR (names ++ [name]) each pts2) (hn : names.length = n + 1) (hn2 : (names ++ [name]).length = n2 + 1) (hd : (names ++ [name]).Nodup) (he : 0 < each)
    (h3 : names[ownR pts s]? = some was) (h4 : (names ++ [name])[ownR pts2 s]? = some now) : now = was ∨ now = name := by
  have hg := ring_gone name h2 h hn2 hn hd he (List.perm_append_singleton name names) (placeN s : Int)
  by_cases hh : now = name
  · exact .inr hh
  · left
    have e1 : nmI (names ++ [name]) ((ownR pts2 s : Nat) : Int) = now := nmI_at h4
    have e2 : nmI names ((ownR pts s : Nat) : Int) = was := nmI_at h3
    have := hg.1 (by show nmI (names ++ [name]) ((ownR pts2 s : Nat) : Int) ≠ name; rw [e1]; exact hh)
    change nmI names ((ownR pts s : Nat) : Int) = nmI (names ++ [name]) ((ownR pts2 s : Nat) : Int) at this
    rw [e1, e2] at this
    exact this.symm
set_option maxHeartbeats 8000000 in
set_option maxRecDepth 100000 in
theorem grows_walk (points : Int) (A K : Option Addr) (nn c kn kc : Nat) (names keys : List ByteArray) (name : ByteArray) (w : World) (h : Sl w w.heap.size A nn (names.map Value.string)) (hn : nn ≤ 9223372036854775807)
    (hk : Sl w w.heap.size K kn (keys.map Value.string)) (hkn : kn ≤ 9223372036854775807) (hks : ∀ s ∈ keys, s.size ≤ 140737488355000) :
    Calls Tryd.prog 7 #[.int .i64 points, .slice A nn c, .string name, .slice K kn kc] w fun e w' => e = .returned (.bool true) ∧ Below w.heap.size w w' := by
  have HSL := hide h; have HKS := hide hk; have HKZ := hide hks
  have hl : names.length = nn := by have := h.1; simpa using this
  have HLN := hide hl
  clear h hk hks hl
  by_cases hg : GoodR points names
  · obtain ⟨each, rfl⟩ : ∃ each : Nat, points = (each : Int) := ⟨points.toNat, by have := hg.1; omega⟩
    have HG := hide hg
    have KN := hide (new_good each A nn c names w HSL.out hn hg)
    have hn8 : nn ≤ 8 := by have := HLN.out; have := hg.2.2.2.1; omega
    have he64 : each ≤ 64 := by have := hg.2.1; omega
    clear hg
    go_enter Tryd.func7, Tryd.ntmps7
    go_wp2_with fail
    refine KN.out.mono ?_
    rintro e w1 ⟨⟨n, g, pts, rfl, hr⟩, hb⟩
    have HR1 := hide hr; have HB1 := hide hb
    clear hr hb KN
    go_wp2_with fail
    refine (known_any w1).mono ?_
    rintro e w2 ⟨rfl, hb⟩
    have HR2 := hide (HR1.out.below hb); have HB2 : Hid (Below w.heap.size w w2) := hide (HB1.out.trans (hb.mono HB1.out.size))
    clear hb HR1 HB1
    have HS2 : Hid (w.heap.size ≤ w2.heap.size) := hide HB2.out.size
    go_wp2_with fail
    refine (with_ok name w2 HR2.out HS2.out).mono ?_
    rintro e w3 ⟨w3a, hb3, hgv⟩
    by_cases hg2 : GoodR (each : Int) (names ++ [name])
    · obtain ⟨⟨n2, g2, pts2, rfl, hr2⟩, hs3, hb⟩ := ok_of_gives hb3 hgv hg2
      have HQ3 := hide hr2
      have HR3 := hide (HR2.out.below hb); have HB3 : Hid (Below w.heap.size w w3) := hide (HB2.out.trans (hb.mono HB2.out.size))
      have HQ3s : Hid (w3a.heap.size ≤ w3.heap.size) := hide (Nat.le_trans hr2.st.ge (Nat.le_of_lt hr2.g_lt))
      clear hb hr2 hs3 hb3 hgv HR2 HB2 HS2
      have hat : (names ++ [name])[names.length]? = some name := by simp
      have KW := without_ok name w3 HQ3.out HQ3s.out hat
      rw [show (names ++ [name]).eraseIdx names.length = names by rw [List.eraseIdx_append_of_length_le (Nat.le_refl _)]; simp] at KW
      have HKW := hide KW
      clear hat KW hg2
      go_wp2_with fail
      refine HKW.out.mono ?_
      rintro e w4 ⟨w4a, hb4, hgv⟩
      obtain ⟨⟨n4, g4, pts4, rfl, hr4⟩, hs4, hb⟩ := ok_of_gives hb4 hgv HG.out
      obtain rfl : n4 = n := by have := hr4.hn; have := HR3.out.hn; omega
      obtain rfl : pts4 = pts := stand_unique hr4.sd HR3.out.sd hr4.hn hr4.nodup
      have HK4 := hide hr4
      have HQ4 := hide (HQ3.out.below hb)
      have HR4 := hide (HR3.out.below hb); have HB4 : Hid (Below w.heap.size w w4) := hide (HB3.out.trans (hb.mono HB3.out.size))
      have HK4s : Hid (w4a.heap.size ≤ w4.heap.size ∧ w3a.heap.size ≤ w4.heap.size ∧ w.heap.size ≤ w4.heap.size) := hide ⟨Nat.le_trans hr4.st.ge (Nat.le_of_lt hr4.g_lt), Nat.le_trans HQ3s.out hb.size, HB4.out.size⟩
      clear hb hr4 hs4 hb4 hgv HR3 HB3 HQ3 HQ3s HKW
      go_wp2_with fail
      refine (names_ok w4 HK4.out HK4s.out.1).mono ?_
      rintro e w5 ⟨A5, c5, rfl, ho, hb⟩
      have HO5 := hide ho
      have HK5 := hide (HK4.out.below hb); have HQ5 := hide (HQ4.out.below hb)
      have HR5 := hide (HR4.out.below hb); have HB5 : Hid (Below w.heap.size w w5) := hide (HB4.out.trans (hb.mono HB4.out.size))
      have HS5 : Hid (w4a.heap.size ≤ w5.heap.size ∧ w3a.heap.size ≤ w5.heap.size ∧ w.heap.size ≤ w5.heap.size) := hide (by have := HK4s.out; have := hb.size; omega)
      clear hb ho HR4 HB4 HQ4 HK4 HK4s
      have KSM := hide (sameS_any A5 A names.length nn c5 c names names w5 HO5.out.sl ((HSL.out.below HB5.out (Nat.le_refl _)).more HB5.out.size) (by have := HLN.out; omega) hn)
      rw [show decide (names = names) = true from decide_eq_true rfl] at KSM
      go_wp2_with fail
      refine KSM.out.mono ?_
      rintro e w6 ⟨rfl, hb⟩
      have HK6 := hide (HK5.out.below hb); have HQ6 := hide (HQ5.out.below hb)
      have HR6 := hide (HR5.out.below hb); have HB6 : Hid (Below w.heap.size w w6) := hide (HB5.out.trans (hb.mono HB5.out.size))
      have HS6 : Hid (w4a.heap.size ≤ w6.heap.size ∧ w3a.heap.size ≤ w6.heap.size ∧ w.heap.size ≤ w6.heap.size) := hide (by have := HS5.out; have := hb.size; omega)
      clear hb HR5 HB5 HQ5 HK5 HS5 HO5 KSM
      go_wp2_with fail
      refine (points_ok w6 HQ6.out HS6.out.2.1).mono ?_
      rintro e w7 ⟨A7, c7, rfl, ho, hb⟩
      have HK7 := hide (HK6.out.below hb); have HQ7 := hide (HQ6.out.below hb)
      have HR7 := hide (HR6.out.below hb); have HB7 : Hid (Below w.heap.size w w7) := hide (HB6.out.trans (hb.mono HB6.out.size))
      have HS7 : Hid (w4a.heap.size ≤ w7.heap.size ∧ w3a.heap.size ≤ w7.heap.size ∧ w.heap.size ≤ w7.heap.size) := hide (by have := HS6.out; have := hb.size; omega)
      clear hb ho HR6 HB6 HQ6 HK6 HS6
      go_wp2_with fail
      refine (points_ok w7 HR7.out HS7.out.2.2).mono ?_
      rintro e w8 ⟨A8, c8, rfl, ho, hb⟩
      have HK8 := hide (HK7.out.below hb); have HQ8 := hide (HQ7.out.below hb)
      have HR8 := hide (HR7.out.below hb); have HB8 : Hid (Below w.heap.size w w8) := hide (HB7.out.trans (hb.mono HB7.out.size))
      have HS8 : Hid (w4a.heap.size ≤ w8.heap.size ∧ w3a.heap.size ≤ w8.heap.size ∧ w.heap.size ≤ w8.heap.size) := hide (by have := HS7.out; have := hb.size; omega)
      clear hb ho HR7 HB7 HQ7 HK7 HS7
      obtain ⟨L1, hL1⟩ : ∃ L1, L1 = pts4.length := ⟨_, rfl⟩
      rw [← hL1]
      have hne : ((pts2.length : Int) != (L1 : Int) + (each : Int)) = false := by
        have hsum : pts2.length = L1 + each := by
          rw [hL1, HR8.out.pts_len, HQ8.out.pts_len, List.length_append, List.length_singleton, Nat.add_mul, Nat.one_mul]
        rw [bne_eq_false_iff_eq]; omega
      have hl1 : L1 ≤ 512 := by rw [hL1]; exact HR8.out.pts_le
      have hs0 : (0 : Int) ≤ (L1 : Int) + (each : Int) := by omega
      have hs1 : (L1 : Int) + (each : Int) ≤ 1000 := by omega
      clear hL1
      go_wp2_with fail
      go_loopw [14, 15, 16] (fun v14 v15 v16 wr => ∃ j : Nat, j ≤ kn ∧ v14 = .int .i64 j ∧ Hid (Below w8.heap.size w8 wr)) (fun v _ _ _ => kn - (intOf v).toNat)
      case atStart => exact ⟨0, by omega, rfl, hide (Below.refl _ _)⟩
      case round => as_aux_lemma =>
        clear hne hs0 hs1 hl1
        obtain ⟨j, hj, rfl, HB⟩ := hrel
        have y0 : (0 : Int) ≤ (j : Int) := by omega
        have HBr : Hid (Below w.heap.size w wr) := hide (HB8.out.trans (HB.out.mono HB8.out.size))
        by_cases hjk : j < kn
        · have y1 : (j : Int) < (kn : Int) := by omega
          by_cases hj20 : j < 20
          · have y2 : (j : Int) < 20 := by omega
            obtain ⟨kb, ko, s, rfl, hkb, k0, HS⟩ := HKS.out.text hjk
            have hsz := HKZ.out s (List.mem_of_getElem? HS.out)
            have HRr := hide (HR8.out.below HB.out); have HQr := hide (HQ8.out.below HB.out); have HKr := hide (HK8.out.below HB.out)
            have HSr : Hid (w4a.heap.size ≤ wr.heap.size ∧ w3a.heap.size ≤ wr.heap.size ∧ w.heap.size ≤ wr.heap.size) := hide (by have := HS8.out; have := HB.out.size; omega)
            obtain ⟨o1, ho1⟩ : ∃ o, o = ownR pts4 s := ⟨_, rfl⟩
            obtain ⟨o2, ho2⟩ : ∃ o, o = ownR pts2 s := ⟨_, rfl⟩
            have hl1 : o1 < nn := by have := rgAt_le pts4 (firstN pts4 (placeN s : Int)); have := HRr.out.hn; have := HLN.out; rw [ho1]; unfold ownR; omega
            have hl2 : o2 < (names ++ [name]).length := by have := rgAt_le pts2 (firstN pts2 (placeN s : Int)); have := HQr.out.hn; rw [ho2]; unfold ownR; omega
            obtain ⟨nb, no, was, rfl, hnb, n0, HWAS⟩ := HSL.out.text hl1
            obtain ⟨now, hnow⟩ : ∃ now, (names ++ [name])[o2]? = some now := ⟨_, List.getElem?_eq_getElem hl2⟩
            have HLAW : Hid (now = was ∨ now = name) := hide (grows_law HRr.out.sd HQr.out.sd HRr.out.hn HQr.out.hn HQr.out.nodup HRr.out.each_pos (by rw [← ho1]; exact HWAS.out) (by rw [← ho2]; exact hnow))
            have HNOW := hide hnow
            have HKK : Hid (∀ X, Below wr.heap.size wr X → X.cell? ⟨kb, ko + j, none⟩ = some (.string s) ∧ X.cell? ⟨nb, no + o1, none⟩ = some (.string was)) := hide (fun X hb => ⟨((HBr.out.trans (hb.mono HBr.out.size)).cell (p := ⟨kb, ko + j, none⟩) hkb).trans k0, ((HBr.out.trans (hb.mono HBr.out.size)).cell (p := ⟨nb, no + o1, none⟩) hnb).trans n0⟩)
            have KO1 : Hid (∀ X : World, Below wr.heap.size wr X → Calls Tryd.prog 12 #[.pointer (some ⟨g, 0, none⟩), .string s] X fun e w' => e = .returned (.int .i64 (o1 : Int)) ∧ Below X.heap.size X w') := hide (fun X hb => by
              rw [ho1]; exact owner_ok s X (HRr.out.below hb) (by have := HSr.out; have := hb.size; omega) hsz)
            have KO2 : Hid (∀ X : World, Below wr.heap.size wr X → Calls Tryd.prog 12 #[.pointer (some ⟨g2, 0, none⟩), .string s] X fun e w' => e = .returned (.int .i64 (o2 : Int)) ∧ Below X.heap.size X w') := hide (fun X hb => by
              rw [ho2]; exact owner_ok s X (HQr.out.below hb) (by have := HSr.out; have := hb.size; omega) hsz)
            have KO4 : Hid (∀ X : World, Below wr.heap.size wr X → Calls Tryd.prog 12 #[.pointer (some ⟨g4, 0, none⟩), .string s] X fun e w' => e = .returned (.int .i64 (o1 : Int)) ∧ Below X.heap.size X w') := hide (fun X hb => by
              rw [ho1]; exact owner_ok s X (HKr.out.below hb) (by have := HSr.out; have := hb.size; omega) hsz)
            have KNM : Hid (∀ X : World, Below wr.heap.size wr X → Calls Tryd.prog 13 #[.pointer (some ⟨g2, 0, none⟩)] X fun e w' => ∃ A c, e = .returned (.slice A (names ++ [name]).length c) ∧ Own w' X.heap.size 9 A (names ++ [name]).length c ((names ++ [name]).map Value.string) ∧ Below X.heap.size X w') := hide (fun X hb => names_ok X (HQr.out.below hb) (by have := HSr.out; have := hb.size; omega))
            obtain ⟨LQ, hLQ⟩ : ∃ LQ, LQ = (names ++ [name]).length := ⟨_, rfl⟩
            rw [← hLQ] at KNM hl2
            have i1 : (0 : Int) ≤ (o1 : Int) := by omega
            have i2 : (o1 : Int) < (nn : Int) := by omega
            have i3 : (0 : Int) ≤ (o2 : Int) := by omega
            have i4 : (o2 : Int) < (LQ : Int) := by omega
            have hS0 : wr.drew.cell? ⟨kb, ko + j, none⟩ = some (.string s) ∧ wr.drew.cell? ⟨nb, no + o1, none⟩ = some (.string was) := HKK.out _ (Below.refl _ _).drew
            clear k0 n0 ho1 ho2 hnow hLQ HRr HQr HKr HSr
            go_wp2_with fail
            go_upto_region 13 with (fail)
            refine start_held 21 (fun W => W.cell? ⟨kb, ko + j, none⟩ = some (.string s) ∧ W.cell? ⟨nb, no + o1, none⟩ = some (.string was)) rfl (by kernel_rfl) hS0 (fun hHeld => ?_)
            refine take_held 0 (v := ?_) rfl (by kernel_rfl) (by kernel_rfl) (by kernel_rfl) (fun _ _ _ h => h) (Or.inl ⟨by rfl, ?_⟩) (by assumption) ?_
            rotate_left
            · (intro w hSw; (try dsimp only at hSw); go_simp; (try with_reducible rfl))
            try simp only [Act.put, List.setIfInBounds_toArray, List.set_cons_zero, List.set_cons_succ]
            refine take_held 1 (v := ?_) rfl (by kernel_rfl) (by kernel_rfl) (by kernel_rfl) (fun _ _ _ h => h) (Or.inl ⟨by rfl, ?_⟩) (by assumption) ?_
            rotate_left
            · (intro w hSw; (try dsimp only at hSw); go_simp; (try with_reducible rfl))
            try simp only [Act.put, List.setIfInBounds_toArray, List.set_cons_zero, List.set_cons_succ]
            refine take_held 2 (v := ?_) rfl (by kernel_rfl) (by kernel_rfl) (by kernel_rfl) (fun _ _ _ h => h) (Or.inl ⟨by rfl, ?_⟩) (by assumption) ?_
            rotate_left
            · (intro w hSw; (try dsimp only at hSw); go_simp; (try with_reducible rfl))
            try simp only [Act.put, List.setIfInBounds_toArray, List.set_cons_zero, List.set_cons_succ]
            refine take_held 3 (v := ?_) rfl (by kernel_rfl) (by kernel_rfl) (by kernel_rfl) (fun _ _ _ h => h) (Or.inl ⟨by rfl, ?_⟩) (by assumption) ?_
            rotate_left
            · (intro w hSw; (try dsimp only at hSw); go_simp; (try with_reducible rfl))
            try simp only [Act.put, List.setIfInBounds_toArray, List.set_cons_zero, List.set_cons_succ]
            refine take_held 4 (v := ?_) rfl (by kernel_rfl) (by kernel_rfl) (by kernel_rfl) (fun _ _ _ h => h) (Or.inl ⟨by rfl, ?_⟩) (by assumption) ?_
            rotate_left
            · (intro w hSw; (try dsimp only at hSw); go_simp; (try with_reducible rfl))
            try simp only [Act.put, List.setIfInBounds_toArray, List.set_cons_zero, List.set_cons_succ]
            refine take_held 5 (v := ?_) rfl (by kernel_rfl) (by kernel_rfl) (by kernel_rfl) (fun _ _ _ h => h) (Or.inl ⟨by rfl, ?_⟩) (by assumption) ?_
            rotate_left
            · (intro w hSw; (try dsimp only at hSw); go_simp; (try with_reducible rfl))
            try simp only [Act.put, List.setIfInBounds_toArray, List.set_cons_zero, List.set_cons_succ]
            refine take_held 9 (v := ?_) rfl (by kernel_rfl) (by kernel_rfl) (by kernel_rfl) (fun _ _ _ h => h) (Or.inl ⟨by rfl, ?_⟩) (by assumption) ?_
            rotate_left
            · (intro w hSw; (try dsimp only at hSw); go_simp; (try with_reducible rfl))
            try simp only [Act.put, List.setIfInBounds_toArray, List.set_cons_zero, List.set_cons_succ]
            refine take_held 11 (v := ?_) rfl (by kernel_rfl) (by kernel_rfl) (by kernel_rfl) (fun _ _ _ h => h) (Or.inl ⟨by rfl, ?_⟩) (by assumption) ?_
            rotate_left
            · (intro w hSw; (try dsimp only at hSw); go_simp; (try with_reducible rfl))
            try simp only [Act.put, List.setIfInBounds_toArray, List.set_cons_zero, List.set_cons_succ]
            refine take_held 12 (v := ?_) rfl (by kernel_rfl) (by kernel_rfl) (by kernel_rfl) (fun _ _ _ h => h) (Or.inl ⟨by rfl, ?_⟩) (by assumption) ?_
            rotate_left
            · (intro w hSw; (try dsimp only at hSw); go_simp; (try with_reducible rfl))
            try simp only [Act.put, List.setIfInBounds_toArray, List.set_cons_zero, List.set_cons_succ]
            refine take_held 13 (v := ?_) rfl (by kernel_rfl) (by kernel_rfl) (by kernel_rfl) (fun _ _ _ h => h) (Or.inl ⟨by rfl, ?_⟩) (by assumption) ?_
            rotate_left
            · (intro w hSw; (try dsimp only at hSw); go_simp; (try with_reducible rfl))
            try simp only [Act.put, List.setIfInBounds_toArray, List.set_cons_zero, List.set_cons_succ]
            refine take_held 14 (v := ?_) rfl (by kernel_rfl) (by kernel_rfl) (by kernel_rfl) (fun _ _ _ h => h) (Or.inl ⟨by rfl, ?_⟩) (by assumption) ?_
            rotate_left
            · (intro w hSw; (try dsimp only at hSw); go_simp; (try with_reducible rfl))
            try simp only [Act.put, List.setIfInBounds_toArray, List.set_cons_zero, List.set_cons_succ]
            refine take_held 15 (v := ?_) rfl (by kernel_rfl) (by kernel_rfl) (by kernel_rfl) (fun _ _ _ h => h) (Or.inl ⟨by rfl, ?_⟩) (by assumption) ?_
            rotate_left
            · (intro w hSw; (try dsimp only at hSw); go_simp; (try with_reducible rfl))
            try simp only [Act.put, List.setIfInBounds_toArray, List.set_cons_zero, List.set_cons_succ]
            refine wpAnyH_ready (rs := [6]) (by kernel_rfl) (by simp) ?_
            refine cons_last rfl (fun K hK => ?_) AllReadyH.nil
            go_simp
            go_at_call 12
            with_reducible refine (KO1.out _ (Below.refl _ _).drew).mono ?_
            rintro e10 w10 ⟨rfl, hb10⟩
            have KA : Hid (Below wr.heap.size wr w10) := hide ((Below.refl wr.heap.size wr).drew.trans hb10)
            clear hb10
            go_wp2_with fail
            refine hK.out _ _ ?_ (fun hHeld => ?_)
            · exact HKK.out _ KA.out
            clear hK K
            try simp only [Act.put, List.setIfInBounds_toArray, List.set_cons_zero, List.set_cons_succ]
            refine take_held 7 (v := ?_) rfl (by kernel_rfl) (by kernel_rfl) (by kernel_rfl) (fun _ _ _ h => h) (Or.inl ⟨by rfl, ?_⟩) (by assumption) ?_
            rotate_left
            · (intro w hSw; (try dsimp only at hSw); go_simp; (try with_reducible rfl))
            try simp only [Act.put, List.setIfInBounds_toArray, List.set_cons_zero, List.set_cons_succ]
            refine take_held 8 (v := ?_) rfl (by kernel_rfl) (by kernel_rfl) (by kernel_rfl) (fun _ _ _ h => h) (Or.inl ⟨by rfl, ?_⟩) (by assumption) ?_
            rotate_left
            · (intro w hSw; (try dsimp only at hSw); go_simp; (try with_reducible rfl))
            try simp only [Act.put, List.setIfInBounds_toArray, List.set_cons_zero, List.set_cons_succ]
            refine wpAnyH_ready (rs := [10]) (by kernel_rfl) (by simp) ?_
            refine cons_last rfl (fun K hK => ?_) AllReadyH.nil
            go_simp
            go_at_call 13
            with_reducible refine (KNM.out _ KA.out).mono ?_
            rintro e11 w11 ⟨A11, c11, rfl, ho11, hb11⟩
            have HO11 := hide ho11
            have KB : Hid (Below wr.heap.size wr w11) := hide (KA.out.trans (hb11.mono KA.out.size))
            clear ho11 hb11
            go_wp2_with fail
            refine hK.out _ _ ?_ (fun hHeld => ?_)
            · exact HKK.out _ KB.out
            clear hK K
            try simp only [Act.put, List.setIfInBounds_toArray, List.set_cons_zero, List.set_cons_succ]
            refine wpAnyH_ready (rs := [16]) (by kernel_rfl) (by simp) ?_
            refine cons_last rfl (fun K hK => ?_) AllReadyH.nil
            go_simp
            go_at_call 12
            with_reducible refine (KO2.out _ KB.out).mono ?_
            rintro e12 w12 ⟨rfl, hb12⟩
            have HO12 := hide (HO11.out.below hb12)
            have KC : Hid (Below wr.heap.size wr w12) := hide (KB.out.trans (hb12.mono KB.out.size))
            clear hb12
            go_wp2_with fail
            refine hK.out _ _ ?_ (fun hHeld => ?_)
            · exact HKK.out _ KC.out
            clear hK K
            try simp only [Act.put, List.setIfInBounds_toArray, List.set_cons_zero, List.set_cons_succ]
            obtain ⟨fb, fo, now', rfl, hfb, f0, HNW⟩ := HO12.out.sl.text hl2
            obtain rfl : now' = now := by have := HNW.out.symm.trans HNOW.out; injection this
            refine take_held 17 (v := ?_) rfl (by kernel_rfl) (by kernel_rfl) (by kernel_rfl) (fun _ _ _ h => h) (Or.inl ⟨by rfl, ?_⟩) (by assumption) ?_
            rotate_left
            · (intro w hSw; (try dsimp only at hSw); go_simp; (try with_reducible rfl))
            try simp only [Act.put, List.setIfInBounds_toArray, List.set_cons_zero, List.set_cons_succ]
            refine take_held 19 (v := ?_) rfl (by kernel_rfl) (by kernel_rfl) (by kernel_rfl) (fun _ _ _ h => h) (Or.inl ⟨by rfl, ?_⟩) (by assumption) ?_
            rotate_left
            · (intro w hSw; (try dsimp only at hSw); go_simp; (try with_reducible rfl))
            try simp only [Act.put, List.setIfInBounds_toArray, List.set_cons_zero, List.set_cons_succ]
            refine wpAnyH_ready (rs := [18]) (by kernel_rfl) (by simp) ?_
            refine cons_last rfl (fun K hK => ?_) AllReadyH.nil
            go_simp
            refine hK.out _ _ ?_ (fun hHeld => ?_)
            · exact HKK.out _ KC.out
            clear hK K
            try simp only [Act.put, List.setIfInBounds_toArray, List.set_cons_zero, List.set_cons_succ]
            refine take_held 20 (v := ?_) rfl (by kernel_rfl) (by kernel_rfl) (by kernel_rfl) (fun _ _ _ h => h) (Or.inl ⟨by rfl, ?_⟩) (by assumption) ?_
            rotate_left
            · (intro w hSw; (try dsimp only at hSw); go_simp; (try with_reducible rfl))
            try simp only [Act.put, List.setIfInBounds_toArray, List.set_cons_zero, List.set_cons_succ]
            refine wpAnyH_done (by kernel_rfl) ?_ _
            have HB12 : Hid (Below w8.heap.size w8 w12) := hide (HB.out.trans (KC.out.mono HB.out.size))
            have hS1 : w12.drew.cell? ⟨kb, ko + j, none⟩ = some (.string s) := (HKK.out _ KC.out.drew).1
            have hoo : ((o1 : Int) != (o1 : Int)) = false := by simp
            clear f0 hHeld hS0 HO11 HO12 KNM KO2
            have hlaw := HLAW.out
            by_cases hnw : now' = was
            · subst hnw
              have q1 : (now'.toList == now'.toList) = true := by simp
              have q1' : (now'.toList != now'.toList) = false := by simp
              clear hlaw
              go_wp2_with fail
              go_upto_region 14 with (fail)
              refine start_held 23 (fun W => W.cell? ⟨kb, ko + j, none⟩ = some (.string s)) rfl (by kernel_rfl) hS1 (fun hHeld => ?_)
              refine take_held 0 (v := ?_) rfl (by kernel_rfl) (by kernel_rfl) (by kernel_rfl) (fun _ _ _ h => h) (Or.inl ⟨by rfl, ?_⟩) (by assumption) ?_
              rotate_left
              · (intro w hSw; (try dsimp only at hSw); go_simp; (try with_reducible rfl))
              try simp only [Act.put, List.setIfInBounds_toArray, List.set_cons_zero, List.set_cons_succ]
              refine take_held 1 (v := ?_) rfl (by kernel_rfl) (by kernel_rfl) (by kernel_rfl) (fun _ _ _ h => h) (Or.inl ⟨by rfl, ?_⟩) (by assumption) ?_
              rotate_left
              · (intro w hSw; (try dsimp only at hSw); go_simp; (try with_reducible rfl))
              try simp only [Act.put, List.setIfInBounds_toArray, List.set_cons_zero, List.set_cons_succ]
              refine take_held 2 (v := ?_) rfl (by kernel_rfl) (by kernel_rfl) (by kernel_rfl) (fun _ _ _ h => h) (Or.inl ⟨by rfl, ?_⟩) (by assumption) ?_
              rotate_left
              · (intro w hSw; (try dsimp only at hSw); go_simp; (try with_reducible rfl))
              try simp only [Act.put, List.setIfInBounds_toArray, List.set_cons_zero, List.set_cons_succ]
              refine take_held 3 (v := ?_) rfl (by kernel_rfl) (by kernel_rfl) (by kernel_rfl) (fun _ _ _ h => h) (Or.inl ⟨by rfl, ?_⟩) (by assumption) ?_
              rotate_left
              · (intro w hSw; (try dsimp only at hSw); go_simp; (try with_reducible rfl))
              try simp only [Act.put, List.setIfInBounds_toArray, List.set_cons_zero, List.set_cons_succ]
              refine take_held 4 (v := undef) rfl (by kernel_rfl) (by kernel_rfl) (by kernel_rfl) (fun _ _ _ h => h) (Or.inr ⟨by rfl, rfl⟩) (by assumption) ?_
              try simp only [Act.put, List.setIfInBounds_toArray, List.set_cons_zero, List.set_cons_succ]
              refine take_held 5 (v := undef) rfl (by kernel_rfl) (by kernel_rfl) (by kernel_rfl) (fun _ _ _ h => h) (Or.inr ⟨by rfl, rfl⟩) (by assumption) ?_
              try simp only [Act.put, List.setIfInBounds_toArray, List.set_cons_zero, List.set_cons_succ]
              refine take_held 6 (v := undef) rfl (by kernel_rfl) (by kernel_rfl) (by kernel_rfl) (fun _ _ _ h => h) (Or.inr ⟨by rfl, rfl⟩) (by assumption) ?_
              try simp only [Act.put, List.setIfInBounds_toArray, List.set_cons_zero, List.set_cons_succ]
              refine take_held 7 (v := ?_) rfl (by kernel_rfl) (by kernel_rfl) (by kernel_rfl) (fun _ _ _ h => h) (Or.inl ⟨by rfl, ?_⟩) (by assumption) ?_
              rotate_left
              · (intro w hSw; (try dsimp only at hSw); go_simp; (try with_reducible rfl))
              try simp only [Act.put, List.setIfInBounds_toArray, List.set_cons_zero, List.set_cons_succ]
              refine take_held 8 (v := ?_) rfl (by kernel_rfl) (by kernel_rfl) (by kernel_rfl) (fun _ _ _ h => h) (Or.inl ⟨by rfl, ?_⟩) (by assumption) ?_
              rotate_left
              · (intro w hSw; (try dsimp only at hSw); go_simp; (try with_reducible rfl))
              try simp only [Act.put, List.setIfInBounds_toArray, List.set_cons_zero, List.set_cons_succ]
              refine take_held 9 (v := ?_) rfl (by kernel_rfl) (by kernel_rfl) (by kernel_rfl) (fun _ _ _ h => h) (Or.inl ⟨by rfl, ?_⟩) (by assumption) ?_
              rotate_left
              · (intro w hSw; (try dsimp only at hSw); go_simp; (try with_reducible rfl))
              try simp only [Act.put, List.setIfInBounds_toArray, List.set_cons_zero, List.set_cons_succ]
              refine take_held 10 (v := ?_) rfl (by kernel_rfl) (by kernel_rfl) (by kernel_rfl) (fun _ _ _ h => h) (Or.inl ⟨by rfl, ?_⟩) (by assumption) ?_
              rotate_left
              · (intro w hSw; (try dsimp only at hSw); go_simp; (try with_reducible rfl))
              try simp only [Act.put, List.setIfInBounds_toArray, List.set_cons_zero, List.set_cons_succ]
              refine take_held 11 (v := ?_) rfl (by kernel_rfl) (by kernel_rfl) (by kernel_rfl) (fun _ _ _ h => h) (Or.inl ⟨by rfl, ?_⟩) (by assumption) ?_
              rotate_left
              · (intro w hSw; (try dsimp only at hSw); go_simp; (try with_reducible rfl))
              try simp only [Act.put, List.setIfInBounds_toArray, List.set_cons_zero, List.set_cons_succ]
              refine take_held 12 (v := ?_) rfl (by kernel_rfl) (by kernel_rfl) (by kernel_rfl) (fun _ _ _ h => h) (Or.inl ⟨by rfl, ?_⟩) (by assumption) ?_
              rotate_left
              · (intro w hSw; (try dsimp only at hSw); go_simp; (try with_reducible rfl))
              try simp only [Act.put, List.setIfInBounds_toArray, List.set_cons_zero, List.set_cons_succ]
              refine take_held 13 (v := ?_) rfl (by kernel_rfl) (by kernel_rfl) (by kernel_rfl) (fun _ _ _ h => h) (Or.inl ⟨by rfl, ?_⟩) (by assumption) ?_
              rotate_left
              · (intro w hSw; (try dsimp only at hSw); go_simp; (try with_reducible rfl))
              try simp only [Act.put, List.setIfInBounds_toArray, List.set_cons_zero, List.set_cons_succ]
              refine take_held 15 (v := ?_) rfl (by kernel_rfl) (by kernel_rfl) (by kernel_rfl) (fun _ _ _ h => h) (Or.inl ⟨by rfl, ?_⟩) (by assumption) ?_
              rotate_left
              · (intro w hSw; (try dsimp only at hSw); go_simp; (try with_reducible rfl))
              try simp only [Act.put, List.setIfInBounds_toArray, List.set_cons_zero, List.set_cons_succ]
              refine take_held 16 (v := ?_) rfl (by kernel_rfl) (by kernel_rfl) (by kernel_rfl) (fun _ _ _ h => h) (Or.inl ⟨by rfl, ?_⟩) (by assumption) ?_
              rotate_left
              · (intro w hSw; (try dsimp only at hSw); go_simp; (try with_reducible rfl))
              try simp only [Act.put, List.setIfInBounds_toArray, List.set_cons_zero, List.set_cons_succ]
              refine take_held 17 (v := ?_) rfl (by kernel_rfl) (by kernel_rfl) (by kernel_rfl) (fun _ _ _ h => h) (Or.inl ⟨by rfl, ?_⟩) (by assumption) ?_
              rotate_left
              · (intro w hSw; (try dsimp only at hSw); go_simp; (try with_reducible rfl))
              try simp only [Act.put, List.setIfInBounds_toArray, List.set_cons_zero, List.set_cons_succ]
              refine take_held 18 (v := ?_) rfl (by kernel_rfl) (by kernel_rfl) (by kernel_rfl) (fun _ _ _ h => h) (Or.inl ⟨by rfl, ?_⟩) (by assumption) ?_
              rotate_left
              · (intro w hSw; (try dsimp only at hSw); go_simp; (try with_reducible rfl))
              try simp only [Act.put, List.setIfInBounds_toArray, List.set_cons_zero, List.set_cons_succ]
              refine take_held 19 (v := ?_) rfl (by kernel_rfl) (by kernel_rfl) (by kernel_rfl) (fun _ _ _ h => h) (Or.inl ⟨by rfl, ?_⟩) (by assumption) ?_
              rotate_left
              · (intro w hSw; (try dsimp only at hSw); go_simp; (try with_reducible rfl))
              try simp only [Act.put, List.setIfInBounds_toArray, List.set_cons_zero, List.set_cons_succ]
              refine wpAnyH_ready (rs := [14]) (by kernel_rfl) (by simp) ?_
              refine cons_last rfl (fun K hK => ?_) AllReadyH.nil
              go_simp
              go_at_call 12
              with_reducible refine (KO4.out _ KC.out.drew).mono ?_
              rintro e13 w13 ⟨rfl, hb13⟩
              have KD : Hid (Below wr.heap.size wr w13) := hide (KC.out.drew.trans (hb13.mono KC.out.size))
              clear hb13
              go_wp2_with fail
              refine hK.out _ _ ?_ (fun hHeld => ?_)
              · exact (HKK.out _ KD.out).1
              clear hK K
              try simp only [Act.put, List.setIfInBounds_toArray, List.set_cons_zero, List.set_cons_succ]
              refine wpAnyH_ready (rs := [20]) (by kernel_rfl) (by simp) ?_
              refine cons_last rfl (fun K hK => ?_) AllReadyH.nil
              go_simp
              go_at_call 12
              with_reducible refine (KO1.out _ KD.out).mono ?_
              rintro e14 w14 ⟨rfl, hb14⟩
              have KE : Hid (Below wr.heap.size wr w14) := hide (KD.out.trans (hb14.mono KD.out.size))
              clear hb14
              go_wp2_with fail
              refine hK.out _ _ ?_ (fun hHeld => ?_)
              · exact (HKK.out _ KE.out).1
              clear hK K
              try simp only [Act.put, List.setIfInBounds_toArray, List.set_cons_zero, List.set_cons_succ]
              refine take_held 21 (v := ?_) rfl (by kernel_rfl) (by kernel_rfl) (by kernel_rfl) (fun _ _ _ h => h) (Or.inl ⟨by rfl, ?_⟩) (by assumption) ?_
              rotate_left
              · (intro w hSw; (try dsimp only at hSw); go_simp; (try with_reducible rfl))
              try simp only [Act.put, List.setIfInBounds_toArray, List.set_cons_zero, List.set_cons_succ]
              refine take_held 22 (v := ?_) rfl (by kernel_rfl) (by kernel_rfl) (by kernel_rfl) (fun _ _ _ h => h) (Or.inl ⟨by rfl, ?_⟩) (by assumption) ?_
              rotate_left
              · (intro w hSw; (try dsimp only at hSw); go_simp; (try with_reducible rfl))
              try simp only [Act.put, List.setIfInBounds_toArray, List.set_cons_zero, List.set_cons_succ]
              refine wpAnyH_done (by kernel_rfl) ?_ _
              have HN : Hid (Below w8.heap.size w8 w14) := hide (HB.out.trans (KE.out.mono HB.out.size))
              go_wp2_with fail
              go_roundw
              case rel => exact ⟨j + 1, by omega, by go_num, HN⟩
              case measure => simp [intOf]; omega
            · obtain rfl : now' = name := by rcases hlaw with h | h; exact absurd h hnw; exact h
              have q1 : (now'.toList == was.toList) = false := by rw [text_eqR]; exact decide_eq_false hnw
              have q1' : (now'.toList != was.toList) = true := by rw [bne, q1]; rfl
              have q2 : (now'.toList == now'.toList) = true := by simp
              have q2' : (now'.toList != now'.toList) = false := by simp
              clear hlaw hnw
              go_wp2_with fail
              go_upto_region 14 with (fail)
              go_region_held3 (fun W => W.cell? ⟨kb, ko + j, none⟩ = some (.string s))
                (first | with_reducible assumption | exact (HKK.out _ KD.out).1 | exact (HKK.out _ KE.out).1)
                (first
                  | (go_at_call 12; with_reducible refine (KO4.out _ KC.out.drew).mono ?_
                     rintro e13 w13 ⟨rfl, hb13⟩
                     have KD : Hid (Below wr.heap.size wr w13) := hide (KC.out.drew.trans (hb13.mono KC.out.size))
                     clear hb13)
                  | (go_at_call 12; with_reducible refine (KO1.out _ KD.out).mono ?_
                     rintro e14 w14 ⟨rfl, hb14⟩
                     have KE : Hid (Below wr.heap.size wr w14) := hide (KD.out.trans (hb14.mono KD.out.size))
                     clear hb14))
              have HN : Hid (Below w8.heap.size w8 w14) := hide (HB.out.trans (KE.out.mono HB.out.size))
              go_wp2_with fail
              go_roundw
              case rel => exact ⟨j + 1, by omega, by go_num, HN⟩
              case measure => simp [intOf]; omega
          · have y2 : ¬ ((j : Int) < 20) := by omega
            go_wp2_with fail
            go_ret
            exact ⟨rfl, HBr.out⟩
        · have y1 : ¬ ((j : Int) < (kn : Int)) := by omega
          go_wp2_with fail
          go_ret
          exact ⟨rfl, HBr.out⟩
    · obtain ⟨rfl, hb⟩ := bad_of_gives hb3 hgv hg2
      have HB3 : Hid (Below w.heap.size w w3) := hide (HB2.out.trans (hb.mono HB2.out.size))
      clear hb hgv hg2 hb3
      go_wp2_with fail
      go_ret
      exact ⟨rfl, HB3.out⟩
  · have KN := hide (new_bad points A nn c names w HSL.out hn hg)
    clear hg
    go_enter Tryd.func7, Tryd.ntmps7
    go_wp2_with fail
    refine KN.out.mono ?_
    rintro e w1 ⟨rfl, hb⟩
    have HB1 := hide hb
    clear hb KN
    go_wp2_with fail
    refine (known_any w1).mono ?_
    rintro e w2 ⟨rfl, hb⟩
    have HB2 : Hid (Below w.heap.size w w2) := hide (HB1.out.trans (hb.mono HB1.out.size))
    clear hb HB1
    go_wp2_with fail
    refine (known_any w2).mono ?_
    rintro e w3 ⟨rfl, hb⟩
    have HB3 : Hid (Below w.heap.size w w3) := hide (HB2.out.trans (hb.mono HB2.out.size))
    clear hb HB2
    go_wp2_with fail
    go_ret
    exact ⟨rfl, HB3.out⟩
end Go.Proofs.YtokdliapkolngaaDoor
