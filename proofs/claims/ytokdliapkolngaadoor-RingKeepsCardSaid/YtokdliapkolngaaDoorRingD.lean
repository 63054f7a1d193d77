/-
  Ring: the library's merge in place, walked: the third case.
-/
import Derived.Test.YtokdliapkolngaaDoorRingC
namespace Go.Proofs.YtokdliapkolngaaDoor
open Go.RowKit Go.Sort Go.Shelf
set_option linter.unusedVariables false

set_option maxHeartbeats 16000000 in
set_option maxRecDepth 100000 in
theorem symC {n : Nat} (cf : PtN n → PtN n → Int) (hO : SWO (ltOf cf)) (g : Nat) (cv : Value) (eg : ∀ args w, (callFunc g args).run Tryd.prog w = .ok (.enter g args) w) (blk off cap : Nat) (d0 : Array (PtN n)) (w0 : World) (R : RowK encP 2 w0 blk off d0) (hC : CmpP g cv cf blk off d0.size w0) (hsz : d0.size ≤ 1000000)
    (N : Nat) (ih : ∀ (a m b : Nat) (d : Array (PtN n)) (w : World), b - a ≤ N → a < m → m < b → b ≤ d0.size → d.size = d0.size → SWP w0 blk off d w → SortedIn (ltOf cf) a m d → SortedIn (ltOf cf) m b d → MergesP cf g cv blk off cap d0 w0 a m b d w)
    (a m b : Nat) (d : Array (PtN n)) (w : World) (hN : b - a ≤ N + 1) (ham : a < m) (hmb : m < b) (hb : b ≤ d0.size) (hd : d.size = d0.size) (S : SWP w0 blk off d w) (h1 : SortedIn (ltOf cf) a m d) (h2 : SortedIn (ltOf cf) m b d) (hA : m ≠ a + 1) (hB : b ≠ m + 1) :
      MergesP cf g cv blk off cap d0 w0 a m b d w := by
  unfold MergesP
  have HR := hide R; have HC := hide hC; have HO := hide hO
  have mixed : Tryd.prog.follows .mixedOrders = true := by kernel_rfl
  have S0 := hide S; have H1 := hide h1; have H2 := hide h2
  clear R hC hO S h1 h2
  have IH := hide ih
  clear ih
  unfold MergesP at IH
  have hA1 : ((m : Int) - (a : Int) == 1) = false := by rw [beq_eq_false_iff_ne]; omega
  have HDS := hide hd
  have HNA : Hid (m ≠ a + 1) := hide hA
  clear hd hA
  have hB1 : ((b : Int) - (m : Int) == 1) = false := by rw [beq_eq_false_iff_ne]; omega
  obtain ⟨mid, hmid⟩ : ∃ mid, mid = (a + b) / 2 := ⟨_, rfl⟩
  have y1 : ((a : Int) + (b : Int)) / 2 = (mid : Int) := by omega
  have hm1 : a < mid ∧ mid < b := by omega
  obtain ⟨s0, hs0⟩ : ∃ s0, s0 = if mid < m then mid + m - b else a := ⟨_, rfl⟩
  obtain ⟨r0, hr0⟩ : ∃ r0, r0 = if mid < m then mid else m := ⟨_, rfl⟩
  have HSR : Hid ((mid < m ∧ s0 = mid + m - b ∧ r0 = mid) ∨ (m ≤ mid ∧ s0 = a ∧ r0 = m)) := hide (by
    by_cases h : mid < m
    · rw [if_pos h] at hs0 hr0; exact .inl ⟨h, hs0, hr0⟩
    · rw [if_neg h] at hs0 hr0; exact .inr ⟨by omega, hs0, hr0⟩)
  have HM : Hid (mid = (a + b) / 2) := hide hmid
  clear hmid hs0 hr0
  go_enter Tryd.func51, Tryd.ntmps51
  go_upto_if 140 with (fail)
  go_cut [20, 21] (fun v20 v21 wx => v20 = .int .i64 s0 ∧ v21 = .int .i64 r0 ∧ w = wx)
  case first => as_aux_lemma =>
    have hsr := HSR.out
    have hmm := HM.out
    rcases hsr with ⟨h, e1, e2⟩ | ⟨h, e1, e2⟩
    · have h' : (mid : Int) < (m : Int) := by omega
      have e1' : (mid : Int) + (m : Int) - (b : Int) = (s0 : Int) := by omega
      have e2' : Hid (r0 = mid) := hide e2
      clear h e1 e2 hmm
      go_wp2_with fail
      go_meet
      exact ⟨rfl, by rw [e2'.out], rfl⟩
    · have h' : ¬ ((mid : Int) < (m : Int)) := by omega
      have e1' : Hid (s0 = a ∧ r0 = m) := hide ⟨e1, e2⟩
      clear h e1 e2 hmm
      go_wp2_with fail
      go_meet
      exact ⟨by rw [e1'.out.1], by rw [e1'.out.2], rfl⟩
  case rest => as_aux_lemma =>
    obtain ⟨rfl, rfl, rfl⟩ := hcut
    obtain ⟨pp, hpp⟩ : ∃ pp, pp = mid + m - 1 := ⟨_, rfl⟩
    have y2 : (mid : Int) + (m : Int) - 1 = (pp : Int) := by omega
    have HPP := hide hpp
    clear hpp
    go_wp2_with fail
    go_loopw [20, 21] (fun v20 v21 wq => ∃ (s r : Nat), s0 ≤ s ∧ s ≤ r ∧ r ≤ r0 ∧ v20 = .int .i64 s ∧ v21 = .int .i64 r ∧ Hid (∀ c, s0 ≤ c → c < s → ltOf cf d[pp - c]! d[c]! = false) ∧ Hid (∀ c, r ≤ c → c < r0 → ltOf cf d[pp - c]! d[c]! = true) ∧ Hid (SWP w0 blk off d wq)) (fun v20 v21 _ => (intOf v21).toNat - (intOf v20).toNat)
    case atStart => exact ⟨s0, r0, by omega, by have := HSR.out; have := HM.out; omega, by omega, rfl, rfl, hide (fun h h1 h2 => by omega), hide (fun h h1 h2 => by omega), S0⟩
    case round => as_aux_lemma =>
      clear S0
      obtain ⟨s, r, hs1, hsr, hr1, rfl, rfl, HL, HH, S1⟩ := hrel
      by_cases hlt : s < r
      · obtain ⟨c, hcc⟩ : ∃ c, c = (s + r) / 2 := ⟨_, rfl⟩
        have hci : s ≤ c ∧ c < r := by omega
        have z1 : ((s : Int) + (r : Int)) / 2 = (c : Int) := by omega
        have HCI : Hid (a ≤ c ∧ c < m ∧ c ≤ pp ∧ m ≤ pp - c ∧ pp - c < b) := hide (by have := HSR.out; have := HM.out; have := HPP.out; omega)
        obtain ⟨pc, hpc⟩ : ∃ pc, pc = pp - c := ⟨_, rfl⟩
        have z6 : (pp : Int) - (c : Int) = (pc : Int) := by have := HCI.out; omega
        have z8 : IntKind.i64.wrap (pc : Int) = (pc : Int) := by have := HCI.out; rw [IntKind.wrap_i64]; omega
        have z7 : (pp : Int) ≤ 4000000 := by have := HPP.out; have := HM.out; omega
        obtain ⟨x, hx⟩ : ∃ x, x = d[pc]! := ⟨_, rfl⟩
        obtain ⟨y, hy⟩ : ∃ y, y = d[c]! := ⟨_, rfl⟩
        have hd := HDS.out; have hci2 := HCI.out
        have q1 := fun k os => (SWP.cells S1.out HR.out (by omega) (i := pc) (by omega) k os).1
        have q2 := fun k os => (SWP.cells S1.out HR.out (by omega) (i := pc) (by omega) k os).2
        have q3 := fun k os => (SWP.cells S1.out HR.out (by omega) (i := c) (by omega) k os).1
        have q4 := fun k os => (SWP.cells S1.out HR.out (by omega) (i := c) (by omega) k os).2
        have hcg := fun k os => HC.out.at_ S1.out hd x y k os
        rw [← hx] at q1 q2
        rw [← hy] at q3 q4
        have HX : Hid (x = d[pp - c]!) := hide (by rw [hx, hpc]); have HY := hide hy
        have hi1 : (s : Int) < (r : Int) := by omega
        have z2 : (0 : Int) ≤ (pc : Int) := by omega
        have z3 : (pc : Int) < (d0.size : Int) := by omega
        have z4 : (0 : Int) ≤ (c : Int) := by omega
        have z5 : (c : Int) < (d0.size : Int) := by omega
        clear hx hy hcc hd hci2 hpc
        have HSG : Hid (∀ k os, SWP w0 blk off d (grow (wr.drewN k) os)) := hide (fun k os => SWK.grown S1.out k os)
        by_cases hlv : cf x y < 0
        · have hlv2 : ¬ (0 ≤ cf x y) := by omega
          have hH2 : Hid (∀ c', c ≤ c' → c' < r0 → ltOf cf d[pp - c']! d[c']! = true) := hide (fun c' h3 h4 => by
            refine cut_mono HO.out H1.out H2.out (c := c) ?_ ?_ ?_
            · have := HSR.out; have := HCI.out; omega
            · have := HSR.out; have := HCI.out; have := HM.out; have := HPP.out; omega
            · rw [← HX.out, ← HY.out]; unfold ltOf; exact decide_eq_true hlv)
          go_wp2_with fail
          go_quiet_grown (first | (go_at_fn g; refine Calls.grown_of (hcg _ _)))
          clear q1 q2 q3 q4 hcg
          have S2 := hide (HSG.out nq osq)
          go_wp2_with fail
          first
            | exact ⟨⟨s, c, by omega, by omega, by omega, rfl, rfl, HL, hH2, S2⟩, by simp [intOf]; omega⟩
            | (go_roundw
               case rel => exact ⟨s, c, by omega, by omega, by omega, rfl, rfl, HL, hH2, S2⟩
               case measure => simp [intOf]; omega)
        · have hlv2 : 0 ≤ cf x y := by omega
          have hL2 : Hid (∀ c', s0 ≤ c' → c' < c + 1 → ltOf cf d[pp - c']! d[c']! = false) := hide (fun c' h3 h4 => by
            cases ht : ltOf cf d[pp - c']! d[c']! with
            | false => rfl
            | true =>
              have := cut_mono HO.out H1.out H2.out (c := c') (c' := c) (p := pp) (by have := HSR.out; have := HCI.out; have := HM.out; omega) (by have := HSR.out; have := HCI.out; have := HM.out; have := HPP.out; omega) ht
              rw [← HX.out, ← HY.out] at this
              unfold ltOf at this
              rw [decide_eq_false hlv] at this; cases this)
          go_wp2_with fail
          go_quiet_grown (first | (go_at_fn g; refine Calls.grown_of (hcg _ _)))
          clear q1 q2 q3 q4 hcg
          have S2 := hide (HSG.out nq osq)
          go_wp2_with fail
          all_goals try (exfalso; rename_i hbad; simp at hbad; omega)
          first
            | exact ⟨⟨c + 1, r, by omega, by omega, hr1, by go_num, rfl, hL2, HH, S2⟩, by simp [intOf]; omega⟩
            | (go_roundw
               case rel => exact ⟨c + 1, r, by omega, by omega, hr1, by go_num, rfl, hL2, HH, S2⟩
               case measure => simp [intOf]; omega)
      · obtain rfl : s = r := by omega
        have hge : ¬ ((s : Int) < (s : Int)) := by omega
        obtain ⟨E, hE⟩ : ∃ E, E = mid + m - s := ⟨_, rfl⟩
        have HCU : Hid (CutAt (ltOf cf) d a m b mid s) := hide (by
          have h1 := HSR.out; have h2 := HM.out; have h3 := HPP.out
          refine ⟨by omega, by omega, by omega, by omega, fun h4 h5 => ?_, fun h4 h5 => ?_⟩
          · have := HL.out (s - 1) (by omega) (by omega)
            rwa [show pp - (s - 1) = mid + m - s by omega] at this
          · have := HH.out s (by omega) (by omega)
            rwa [show pp - s = mid + m - s - 1 by omega] at this)
        have HEQ : Hid (E = mid + m - s ∧ mid ≤ E ∧ E ≤ b ∧ s ≤ m ∧ m ≤ E ∧ a ≤ s ∧ s ≤ mid) := hide (by have h1 := HSR.out; have h2 := HM.out; have := HCU.out.hi; have := HCU.out.lo; have := HCU.out.ub; have := HCU.out.um; omega)
        have y3 : (mid : Int) + (m : Int) - (s : Int) = (E : Int) := by have := HEQ.out; omega
        have y4 : IntKind.i64.wrap (E : Int) = (E : Int) := by have := HEQ.out; rw [IntKind.wrap_i64]; omega
        clear hE HL HH
        go_upto_region 39 with (fail)
        go_cut [185] (fun v185 wx => v185 = .bool (decide (s < m ∧ m < E)) ∧ wr = wx)
        case first => as_aux_lemma =>
          by_cases hsm : s < m
          · have c1 : (s : Int) < (m : Int) := by omega
            by_cases hme : m < E
            · have c2 : (m : Int) < (E : Int) := by omega
              have e3 : Hid (decide (s < m ∧ m < E) = true) := hide (decide_eq_true ⟨hsm, hme⟩)
              go_wp2_with fail
              go_meet
              exact ⟨by rw [e3.out], rfl⟩
            · have c2 : ¬ ((m : Int) < (E : Int)) := by omega
              have e3 : Hid (decide (s < m ∧ m < E) = false) := hide (decide_eq_false (fun h => hme h.2))
              go_wp2_with fail
              go_meet
              exact ⟨by rw [e3.out], rfl⟩
          · have c1 : ¬ ((s : Int) < (m : Int)) := by omega
            have e3 : Hid (decide (s < m ∧ m < E) = false) := hide (decide_eq_false (fun h => hsm h.1))
            go_wp2_with fail
            go_meet
            exact ⟨by rw [e3.out], rfl⟩
        case rest => as_aux_lemma =>
         obtain ⟨rfl, rfl⟩ := hcut
         obtain ⟨cb, hcb⟩ : ∃ cb, cb = decide (s < m ∧ m < E) := ⟨_, rfl⟩
         rw [← hcb]
         have HCB := hide hcb
         clear hcb
         go_upto_if 185 with (fail)
         go_cut [] (fun wx => ∃ d1 : Array (PtN n), Hid (Rot s m E d d1) ∧ Hid (SWP w0 blk off d1 wx))
         case first => as_aux_lemma =>
          cases cb with
          | true =>
            have hgo : s < m ∧ m < E := of_decide_eq_true HCB.out.symm
            have K0 := rotate_any (.func (.func g) #[] #[cv]) blk off cap s m E d0 d w0 wr HR.out (by have := HDS.out; omega) S1.out hgo.1 hgo.2 (by have := HDS.out; have := HEQ.out; omega) (by have := HDS.out; omega)
            rw [HDS.out] at K0
            have K := hide K0
            clear K0 hgo
            go_wp2_with fail
            refine K.out.mono ?_
            rintro e w1 ⟨rfl, d1, hr, hs⟩
            have HR1 := hide hr; have HS1 := hide hs
            clear hr hs K S1
            go_wp2_with fail
            go_meet
            exact ⟨d1, HR1, HS1⟩
          | false =>
            have HN := hide (of_decide_eq_false HCB.out.symm)
            go_wp2_with fail
            go_meet
            exact ⟨d, hide (Rot.same d (by have := HEQ.out; have := HN.out; omega)), S1⟩
         case rest => as_aux_lemma =>
          clear S1
          obtain ⟨d1, HRT, S1⟩ := hcut
          have HD1 : Hid (d1.size = d0.size) := hide (by rw [HRT.out.size]; exact HDS.out)
          -- what lies where behind the rotation, sorted by halves
          have HA1 : Hid (SortedIn (ltOf cf) a s d1 ∧ SortedIn (ltOf cf) s mid d1) := hide (by
            have h1 := HEQ.out
            refine ⟨fun i j hi hij hj => ?_, fun i j hi hij hj => ?_⟩
            · rw [HRT.out.1.2.1 i (.inl (by omega)), HRT.out.1.2.1 j (.inl hj)]; exact H1.out i j hi hij (by omega)
            · have e1 := HRT.out.2.1 (i - s) (by omega)
              have e2 := HRT.out.2.1 (j - s) (by omega)
              rw [show s + (i - s) = i by omega] at e1
              rw [show s + (j - s) = j by omega] at e2
              rw [e1, e2]; exact H2.out _ _ (by omega) (by omega) (by omega))
          have HA2 : Hid (SortedIn (ltOf cf) mid E d1 ∧ SortedIn (ltOf cf) E b d1) := hide (by
            have h1 := HEQ.out
            refine ⟨fun i j hi hij hj => ?_, fun i j hi hij hj => ?_⟩
            · have e1 := HRT.out.2.2 (i - mid) (by omega)
              have e2 := HRT.out.2.2 (j - mid) (by omega)
              rw [show s + (E - m) + (i - mid) = i by omega] at e1
              rw [show s + (E - m) + (j - mid) = j by omega] at e2
              rw [e1, e2]; exact H1.out _ _ (by omega) (by omega) (by omega)
            · rw [HRT.out.1.2.1 i (.inr (by omega)), HRT.out.1.2.1 j (.inr (by omega))]; exact H2.out i j (by omega) hij hj)
          go_upto_region 41 with (fail)
          go_cut [199] (fun v199 wx => v199 = .bool (decide (a < s ∧ s < mid)) ∧ wc = wx)
          case first => as_aux_lemma =>
            by_cases hsm : a < s
            · have c1 : (a : Int) < (s : Int) := by omega
              by_cases hme : s < mid
              · have c2 : (s : Int) < (mid : Int) := by omega
                have e3 : Hid (decide (a < s ∧ s < mid) = true) := hide (decide_eq_true ⟨hsm, hme⟩)
                go_wp2_with fail
                go_meet
                exact ⟨by rw [e3.out], rfl⟩
              · have c2 : ¬ ((s : Int) < (mid : Int)) := by omega
                have e3 : Hid (decide (a < s ∧ s < mid) = false) := hide (decide_eq_false (fun h => hme h.2))
                go_wp2_with fail
                go_meet
                exact ⟨by rw [e3.out], rfl⟩
            · have c1 : ¬ ((a : Int) < (s : Int)) := by omega
              have e3 : Hid (decide (a < s ∧ s < mid) = false) := hide (decide_eq_false (fun h => hsm h.1))
              go_wp2_with fail
              go_meet
              exact ⟨by rw [e3.out], rfl⟩
          case rest => as_aux_lemma =>
           obtain ⟨rfl, rfl⟩ := hcut
           obtain ⟨cb2, hcb⟩ : ∃ cb, cb = decide (a < s ∧ s < mid) := ⟨_, rfl⟩
           rw [← hcb]
           have HCB2 := hide hcb
           clear hcb
           go_upto_if 199 with (fail)
           go_cut [] (fun wx => ∃ d2 : Array (PtN n), Hid (PermIn a mid d1 d2 ∧ SortedIn (ltOf cf) a mid d2) ∧ Hid (SWP w0 blk off d2 wx))
           case first => as_aux_lemma =>
            cases cb2 with
            | true =>
              have hgo : a < s ∧ s < mid := of_decide_eq_true HCB2.out.symm
              have K := hide (IH.out a s mid d1 wc (by have := HM.out; omega) hgo.1 hgo.2 (by have := HEQ.out; omega) HD1.out S1.out HA1.out.1 HA1.out.2)
              clear hgo
              go_wp2_with fail
              refine K.out.mono ?_
              rintro e w1 ⟨rfl, d2, hp, hs, hw⟩
              have HP2 := hide (And.intro hp hs); have HS2 := hide hw
              clear hp hs hw K S1
              go_wp2_with fail
              go_meet
              exact ⟨d2, HP2, HS2⟩
            | false =>
              have HN := hide (of_decide_eq_false HCB2.out.symm)
              go_wp2_with fail
              go_meet
              refine ⟨d1, hide ⟨permIn_refl d1 a mid, ?_⟩, S1⟩
              have h3 := HEQ.out; have h4 := HN.out
              by_cases h5 : a < s
              · have h := HA1.out.1; rwa [show s = mid by omega] at h
              · have h := HA1.out.2; rwa [show s = a by omega] at h
           case rest => as_aux_lemma =>
            clear S1
            obtain ⟨d2, HP2, S1⟩ := hcut
            have HD2 : Hid (d2.size = d0.size) := hide (by rw [HP2.out.1.1]; exact HD1.out)
            have HA3 : Hid (SortedIn (ltOf cf) mid E d2 ∧ SortedIn (ltOf cf) E b d2) := hide (by
              have h1 := HEQ.out
              have e : ∀ i, mid ≤ i → d2[i]! = d1[i]! := fun i hi => HP2.out.1.2.1 i (.inr hi)
              refine ⟨fun i j hi hij hj => ?_, fun i j hi hij hj => ?_⟩
              · rw [e i hi, e j (by omega)]; exact HA2.out.1 i j hi hij hj
              · rw [e i (by omega), e j (by omega)]; exact HA2.out.2 i j hi hij hj)
            have HFIN : Hid (∀ d3, PermIn mid b d2 d3 → SortedIn (ltOf cf) mid b d3 → PermIn a b d d3 ∧ SortedIn (ltOf cf) a b d3) := hide (fun d3 hp hs => by
              have hRT := HRT.out
              rw [HEQ.out.1] at hRT
              exact HCU.out.done HO.out (by omega) ham hmb (by rw [HDS.out]; exact hb) H1.out H2.out hRT HP2.out.1 HP2.out.2 hp hs)
            clear HRT HA1 HA2
            by_cases hme : mid < E
            · have c1 : (mid : Int) < (E : Int) := by omega
              by_cases hEb : E < b
              · have c2 : (E : Int) < (b : Int) := by omega
                have K := hide (IH.out mid E b d2 wc (by have := HM.out; omega) hme hEb hb HD2.out S1.out HA3.out.1 HA3.out.2)
                go_wp2_with fail
                refine K.out.mono ?_
                rintro e w1 ⟨rfl, d3, hp, hs, hw⟩
                have HP3 := hide (HFIN.out d3 hp hs); have HS3 := hide hw
                clear hp hs hw K S1
                go_wp2_with fail
                go_end0
                exact ⟨rfl, d3, HP3.out.1, HP3.out.2, HS3.out⟩
              · have c2 : ¬ ((E : Int) < (b : Int)) := by omega
                have HP3 := hide (HFIN.out d2 (permIn_refl d2 mid b) (by have h := HA3.out.1; have := HEQ.out; rwa [show E = b by omega] at h))
                go_wp2_with fail
                go_end0
                exact ⟨rfl, d2, HP3.out.1, HP3.out.2, S1.out⟩
            · have c1 : ¬ ((mid : Int) < (E : Int)) := by omega
              have HP3 := hide (HFIN.out d2 (permIn_refl d2 mid b) (by have h := HA3.out.2; have := HEQ.out; rwa [show E = mid by omega] at h))
              go_wp2_with fail
              go_end0
              exact ⟨rfl, d2, HP3.out.1, HP3.out.2, S1.out⟩
theorem symMerge_any {n : Nat} (cf : PtN n → PtN n → Int) (hO : SWO (ltOf cf)) (g : Nat) (cv : Value) (eg : ∀ args w, (callFunc g args).run Tryd.prog w = .ok (.enter g args) w) (blk off cap : Nat) (d0 : Array (PtN n)) (w0 : World) (R : RowK encP 2 w0 blk off d0) (hC : CmpP g cv cf blk off d0.size w0) (hsz : d0.size ≤ 1000000) :
    ∀ (N a m b : Nat) (d : Array (PtN n)) (w : World), b - a ≤ N → a < m → m < b → b ≤ d0.size → d.size = d0.size → SWP w0 blk off d w → SortedIn (ltOf cf) a m d → SortedIn (ltOf cf) m b d → MergesP cf g cv blk off cap d0 w0 a m b d w := by
  intro N
  induction N with
  | zero => intro a m b d w h1 h2 h3; omega
  | succ N ih =>
    intro a m b d w hN ham hmb hb hd S h1 h2
    by_cases hA : m = a + 1
    · exact symA cf hO g cv eg blk off cap d0 w0 R hC hsz a m b d w ham hmb hb hd S h1 h2 hA
    · by_cases hB : b = m + 1
      · exact symB cf hO g cv eg blk off cap d0 w0 R hC hsz a m b d w ham hmb hb hd S h1 h2 hA hB
      · exact symC cf hO g cv eg blk off cap d0 w0 R hC hsz N ih a m b d w hN ham hmb hb hd S h1 h2 hA hB
end Go.Proofs.YtokdliapkolngaaDoor
