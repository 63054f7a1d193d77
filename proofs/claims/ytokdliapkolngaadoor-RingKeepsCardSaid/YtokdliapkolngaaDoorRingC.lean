/-
  Ring: the library's merge in place, walked.
-/
import Derived.Test.YtokdliapkolngaaDoorRingB
import Derived.Deep.DeepCutAuto
namespace Go.Proofs.YtokdliapkolngaaDoor
open Go.RowKit Go.Sort Go.Shelf
set_option linter.unusedVariables false

section
variable {n : Nat} {w0 W : World} {blk off : Nat} {d0 dk : Array (PtN n)}
/-- the comparison's contract, as the walk meets it -/
def CmpP (g : Nat) (cv : Value) (cf : PtN n → PtN n → Int) (blk off size : Nat) (w0 : World) : Prop := CmpLays Tryd.prog g #[cv] encP 2 cf blk off size w0
theorem CmpP.at_ {g : Nat} {cv : Value} {cf : PtN n → PtN n → Int} {size : Nat} (h : CmpP g cv cf blk off size w0) (S : SWP w0 blk off dk W) (hs : dk.size = size) (x y : PtN n) (m : Nat) (os : Array Obj) :
    Calls Tryd.prog g #[.agg #[.int .u64 x.pl, .int .i64 (x.rg : Int)], .agg #[.int .u64 y.pl, .int .i64 (y.rg : Int)], cv] (grow (W.drewN m) os) fun e w' => e = .returned (.int .i64 (cf x y)) ∧ ∃ q os', w' = grow ((grow (W.drewN m) os).drewN q) os' :=
  SWK.cmp S h hs x y m os
theorem SWP.cells (h : SWP w0 blk off dk W) (R : RowK encP 2 w0 blk off d0) (hs : dk.size = d0.size) {i : Nat} (hi : i < dk.size) (m : Nat) (os : Array Obj) :
    (grow (W.drewN m) os).cell? ⟨blk, off + i * 2, none⟩ = some (.int .u64 (dk[i]!).pl) ∧ (grow (W.drewN m) os).cell? ⟨blk, off + i * 2 + 1, none⟩ = some (.int .i64 ((dk[i]!).rg : Int)) := by
  have hs' : SWP w0 blk off dk (grow (W.drewN m) os) := SWK.grown h m os
  obtain ⟨⟨h1, _⟩, h2, _⟩ := SWP.spot hs' R hs hi
  exact ⟨h1, h2⟩
end
/-- a merge does what it should -/
def MergesP {n : Nat} (cf : PtN n → PtN n → Int) (g : Nat) (cv : Value) (blk off cap : Nat) (d0 : Array (PtN n)) (w0 : World) (a m b : Nat) (d : Array (PtN n)) (w : World) : Prop :=
  Calls Tryd.prog 51 #[.slice (some ⟨blk, off, none⟩) d0.size cap, .int .i64 a, .int .i64 m, .int .i64 b, .func (.func g) #[] #[cv]] w fun e w' => e = .returned (.tuple #[]) ∧ ∃ d', PermIn a b d d' ∧ SortedIn (ltOf cf) a b d' ∧ SWP w0 blk off d' w'
set_option maxHeartbeats 16000000 in
set_option maxRecDepth 100000 in
theorem symA {n : Nat} (cf : PtN n → PtN n → Int) (hO : SWO (ltOf cf)) (g : Nat) (cv : Value) (eg : ∀ args w, (callFunc g args).run Tryd.prog w = .ok (.enter g args) w) (blk off cap : Nat) (d0 : Array (PtN n)) (w0 : World) (R : RowK encP 2 w0 blk off d0) (hC : CmpP g cv cf blk off d0.size w0) (hsz : d0.size ≤ 1000000)
    (a m b : Nat) (d : Array (PtN n)) (w : World) (ham : a < m) (hmb : m < b) (hb : b ≤ d0.size) (hd : d.size = d0.size) (S : SWP w0 blk off d w) (h1 : SortedIn (ltOf cf) a m d) (h2 : SortedIn (ltOf cf) m b d) (hA : m = a + 1) :
      MergesP cf g cv blk off cap d0 w0 a m b d w := by
  unfold MergesP
  have HR := hide R; have HC := hide hC; have HO := hide hO
  have mixed : Tryd.prog.follows .mixedOrders = true := by kernel_rfl
  have S0 := hide S; have H1 := hide h1; have H2 := hide h2
  clear R hC hO S h1 h2
  have hA1 : ((m : Int) - (a : Int) == 1) = true := by rw [beq_iff_eq]; omega
  have HA := hide hA; have HDS := hide hd
  clear hA hd
  go_enter Tryd.func51, Tryd.ntmps51
  go_wp2_with fail
  go_loopw [10, 11] (fun v10 v11 wq => ∃ (i j : Nat), m ≤ i ∧ i ≤ j ∧ j ≤ b ∧ v10 = .int .i64 i ∧ v11 = .int .i64 j ∧ Hid (∀ h, m ≤ h → h < i → ltOf cf d[h]! d[a]! = true) ∧ Hid (∀ h, j ≤ h → h < b → ltOf cf d[h]! d[a]! = false) ∧ Hid (SWP w0 blk off d wq)) (fun v10 v11 _ => (intOf v11).toNat - (intOf v10).toNat)
  case atStart => exact ⟨m, b, by omega, by omega, by omega, rfl, rfl, hide (fun h h1 h2 => by omega), hide (fun h h1 h2 => by omega), S0⟩
  case round =>
    clear S0
    obtain ⟨i, j, hi, hij, hj, rfl, rfl, HL, HH, S1⟩ := hrel
    by_cases hlt : i < j
    · obtain ⟨h, hh⟩ : ∃ h, h = (i + j) / 2 := ⟨_, rfl⟩
      have hhi : i ≤ h ∧ h < j := by omega
      have z1 : ((i : Int) + (j : Int)) / 2 = (h : Int) := by omega
      obtain ⟨x, hx⟩ : ∃ x, x = d[h]! := ⟨_, rfl⟩
      obtain ⟨y, hy⟩ : ∃ y, y = d[a]! := ⟨_, rfl⟩
      have hd := HDS.out; have hA := HA.out
      have q1 := fun m os => (SWP.cells S1.out HR.out (by omega) (i := h) (by omega) m os).1
      have q2 := fun m os => (SWP.cells S1.out HR.out (by omega) (i := h) (by omega) m os).2
      have q3 := fun m os => (SWP.cells S1.out HR.out (by omega) (i := a) (by omega) m os).1
      have q4 := fun m os => (SWP.cells S1.out HR.out (by omega) (i := a) (by omega) m os).2
      have hcg := fun m os => HC.out.at_ S1.out hd x y m os
      rw [← hx] at q1 q2
      rw [← hy] at q3 q4
      have HX := hide hx; have HY := hide hy
      have hi1 : (i : Int) < (j : Int) := by omega
      have z2 : (0 : Int) ≤ (h : Int) := by omega
      have z3 : (h : Int) < (d0.size : Int) := by omega
      have z4 : (0 : Int) ≤ (a : Int) := by omega
      have z5 : (a : Int) < (d0.size : Int) := by omega
      clear hx hy hh hd hA
      have HSG : Hid (∀ m os, SWP w0 blk off d (grow (wr.drewN m) os)) := hide (fun m os => SWK.grown S1.out m os)
      by_cases hlv : cf x y < 0
      · have hL2 : Hid (∀ h', m ≤ h' → h' < h + 1 → ltOf cf d[h']! d[a]! = true) := hide (fun h' h3 h4 => by
          cases hc : ltOf cf d[h']! d[a]! with
          | true => rfl
          | false =>
            have e1 : ltOf cf d[h]! d[h']! = false := by
              by_cases e : h' = h
              · rw [e]; exact HO.out.irrefl _
              · exact H2.out h' h h3 (by have := HA.out; omega) (by omega)
            have := HO.out.ntrans _ _ _ e1 hc
            rw [← HX.out, ← HY.out] at this
            unfold ltOf at this
            rw [decide_eq_true hlv] at this; cases this)
        go_wp2_with fail
        go_quiet_grown (first | (go_at_fn g; refine Calls.grown_of (hcg _ _)))
        clear q1 q2 q3 q4 hcg
        have S2 := hide (HSG.out nq osq)
        go_wp2_with fail
        go_roundw
        case rel => exact ⟨h + 1, j, by omega, by omega, hj, by go_num, rfl, hL2, HH, S2⟩
        case measure => simp [intOf]; omega
      · have hH2 : Hid (∀ h', h ≤ h' → h' < b → ltOf cf d[h']! d[a]! = false) := hide (fun h' h3 h4 => by
          have e1 : ltOf cf d[h']! d[h]! = false := by
            by_cases e : h' = h
            · rw [e]; exact HO.out.irrefl _
            · exact H2.out h h' (by omega) (by omega) (by omega)
          have e2 : ltOf cf d[h]! d[a]! = false := by
            rw [← HX.out, ← HY.out]; unfold ltOf; exact decide_eq_false hlv
          exact HO.out.ntrans _ _ _ e1 e2)
        go_wp2_with fail
        go_quiet_grown (first | (go_at_fn g; refine Calls.grown_of (hcg _ _)))
        clear q1 q2 q3 q4 hcg
        have S2 := hide (HSG.out nq osq)
        go_wp2_with fail
        go_roundw
        case rel => exact ⟨i, h, by omega, by omega, by omega, rfl, rfl, HL, hH2, S2⟩
        case measure => simp [intOf]; omega
    · obtain rfl : i = j := by omega
      have hge : ¬ ((i : Int) < (i : Int)) := by omega
      go_wp2_with fail
      go_loopw [13] (fun v13 wq => ∃ t : Nat, t ≤ i - 1 - a ∧ v13 = .int .i64 ((a : Int) + (t : Int)) ∧ Hid (SWP w0 blk off (upTo a t d) wq)) (fun v _ => i - (intOf v).toNat)
      case atStart => exact ⟨0, by omega, by simp, S1⟩
      case round =>
        clear S1
        obtain ⟨t, ht, rfl, S1⟩ := hrel
        by_cases htl : t < i - 1 - a
        · have hsz2 : (upTo a t d).size = d.size := upTo_size a t d
          have hd := HDS.out; have hA := HA.out
          obtain ⟨⟨c1, f1⟩, c2, f2⟩ := SWP.spot S1.out HR.out (by omega) (i := a + t) (by omega)
          obtain ⟨⟨c3, f3⟩, c4, f4⟩ := SWP.spot S1.out HR.out (by omega) (i := a + t + 1) (by omega)
          have S2 := hide (SWP.swap2 S1.out HR.out (i := a + t) (j := a + t + 1) (by omega) (by omega))
          have hi1 : (a : Int) + (t : Int) < (i : Int) - 1 := by omega
          have z3 : (a : Int) + (t : Int) < (d0.size : Int) := by omega
          have z4 : (a : Int) + (t : Int) + 1 < (d0.size : Int) := by omega
          clear hsz2 S1 hd hA
          obtain ⟨x, hx⟩ : ∃ x, x = (upTo a t d)[a + t]! := ⟨_, rfl⟩
          obtain ⟨y, hy⟩ : ∃ y, y = (upTo a t d)[a + t + 1]! := ⟨_, rfl⟩
          rw [← hx] at c1 c2 S2
          rw [← hy] at c3 c4 S2
          clear hx hy
          have z1 : (0 : Int) ≤ (a : Int) + (t : Int) := by omega
          have z2 : (0 : Int) ≤ (a : Int) + (t : Int) + 1 := by omega
          have z5 : ((a : Int) + (t : Int)).toNat = a + t := by omega
          have z6 : ((a : Int) + (t : Int) + 1).toNat = a + t + 1 := by omega
          go_upto_region 11 with (fail)
          go_region
          clear c1 c2 c3 c4 f1 f2 f3 f4
          go_wp2_with fail
          go_roundw
          case rel => exact ⟨t + 1, by omega, by go_num, S2⟩
          case measure => simp [intOf]; omega
        · have hge : ¬ ((a : Int) + (t : Int) < (i : Int) - 1) := by have := HA.out; omega
          obtain rfl : t = i - 1 - a := by omega
          have HD := hide (up_done HO.out (by have := HDS.out; omega : b ≤ d.size) (i := i) (by have := HA.out; omega) (HA.out ▸ H2.out) (HA.out ▸ HL.out) HH.out)
          go_wp2_with fail
          refine bodyPost_ret (results_none rfl _ _ _) rfl ?_
          exact ⟨rfl, _, HD.out.1, HD.out.2, S1.out⟩
set_option maxHeartbeats 16000000 in
set_option maxRecDepth 100000 in
theorem symB {n : Nat} (cf : PtN n → PtN n → Int) (hO : SWO (ltOf cf)) (g : Nat) (cv : Value) (eg : ∀ args w, (callFunc g args).run Tryd.prog w = .ok (.enter g args) w) (blk off cap : Nat) (d0 : Array (PtN n)) (w0 : World) (R : RowK encP 2 w0 blk off d0) (hC : CmpP g cv cf blk off d0.size w0) (hsz : d0.size ≤ 1000000)
    (a m b : Nat) (d : Array (PtN n)) (w : World) (ham : a < m) (hmb : m < b) (hb : b ≤ d0.size) (hd : d.size = d0.size) (S : SWP w0 blk off d w) (h1 : SortedIn (ltOf cf) a m d) (h2 : SortedIn (ltOf cf) m b d) (hA : m ≠ a + 1) (hB : b = m + 1) :
      MergesP cf g cv blk off cap d0 w0 a m b d w := by
  unfold MergesP
  have HR := hide R; have HC := hide hC; have HO := hide hO
  have mixed : Tryd.prog.follows .mixedOrders = true := by kernel_rfl
  have S0 := hide S; have H1 := hide h1; have H2 := hide h2
  clear R hC hO S h1 h2
  have hA1 : ((m : Int) - (a : Int) == 1) = false := by rw [beq_eq_false_iff_ne]; omega
  have HDS := hide hd
  have HNA : Hid (m ≠ a + 1) := hide hA
  clear hd hA
  have hB1 : ((b : Int) - (m : Int) == 1) = true := by rw [beq_iff_eq]; omega
  have HB := hide hB
  clear hB
  go_enter Tryd.func51, Tryd.ntmps51
  go_wp2_with fail
  go_loopw [14, 15] (fun v14 v15 wq => ∃ (i j : Nat), a ≤ i ∧ i ≤ j ∧ j ≤ m ∧ v14 = .int .i64 i ∧ v15 = .int .i64 j ∧ Hid (∀ h, a ≤ h → h < i → ltOf cf d[m]! d[h]! = false) ∧ Hid (∀ h, j ≤ h → h < m → ltOf cf d[m]! d[h]! = true) ∧ Hid (SWP w0 blk off d wq)) (fun v14 v15 _ => (intOf v15).toNat - (intOf v14).toNat)
  case atStart => exact ⟨a, m, by omega, by omega, by omega, rfl, rfl, hide (fun h h1 h2 => by omega), hide (fun h h1 h2 => by omega), S0⟩
  case round =>
    clear S0
    obtain ⟨i, j, hi, hij, hj, rfl, rfl, HL, HH, S1⟩ := hrel
    by_cases hlt : i < j
    · obtain ⟨h, hh⟩ : ∃ h, h = (i + j) / 2 := ⟨_, rfl⟩
      have hhi : i ≤ h ∧ h < j := by omega
      have z1 : ((i : Int) + (j : Int)) / 2 = (h : Int) := by omega
      obtain ⟨x, hx⟩ : ∃ x, x = d[m]! := ⟨_, rfl⟩
      obtain ⟨y, hy⟩ : ∃ y, y = d[h]! := ⟨_, rfl⟩
      have hd := HDS.out
      have q1 := fun k os => (SWP.cells S1.out HR.out (by omega) (i := m) (by omega) k os).1
      have q2 := fun k os => (SWP.cells S1.out HR.out (by omega) (i := m) (by omega) k os).2
      have q3 := fun k os => (SWP.cells S1.out HR.out (by omega) (i := h) (by omega) k os).1
      have q4 := fun k os => (SWP.cells S1.out HR.out (by omega) (i := h) (by omega) k os).2
      have hcg := fun k os => HC.out.at_ S1.out hd x y k os
      rw [← hx] at q1 q2
      rw [← hy] at q3 q4
      have HX := hide hx; have HY := hide hy
      have hi1 : (i : Int) < (j : Int) := by omega
      have z2 : (0 : Int) ≤ (h : Int) := by omega
      have z3 : (h : Int) < (d0.size : Int) := by omega
      have z4 : (0 : Int) ≤ (m : Int) := by omega
      have z5 : (m : Int) < (d0.size : Int) := by omega
      clear hx hy hh hd
      have HSG : Hid (∀ k os, SWP w0 blk off d (grow (wr.drewN k) os)) := hide (fun k os => SWK.grown S1.out k os)
      by_cases hlv : cf x y < 0
      · have hlv2 : ¬ (0 ≤ cf x y) := by omega
        have hH2 : Hid (∀ h', h ≤ h' → h' < m → ltOf cf d[m]! d[h']! = true) := hide (fun h' h3 h4 => by
          cases hc : ltOf cf d[m]! d[h']! with
          | true => rfl
          | false =>
            have e1 : ltOf cf d[h']! d[h]! = false := by
              by_cases e : h' = h
              · rw [e]; exact HO.out.irrefl _
              · exact H1.out h h' (by omega) (by omega) h4
            have := HO.out.ntrans _ _ _ hc e1
            rw [← HX.out, ← HY.out] at this
            unfold ltOf at this
            rw [decide_eq_true hlv] at this; cases this)
        go_wp2_with fail
        go_quiet_grown (first | (go_at_fn g; refine Calls.grown_of (hcg _ _)))
        clear q1 q2 q3 q4 hcg
        have S2 := hide (HSG.out nq osq)
        go_wp2_with fail
        first
          | exact ⟨⟨i, h, by omega, by omega, by omega, rfl, rfl, HL, hH2, S2⟩, by simp [intOf]; omega⟩
          | (go_roundw
             case rel => exact ⟨i, h, by omega, by omega, by omega, rfl, rfl, HL, hH2, S2⟩
             case measure => simp [intOf]; omega)
      · have hlv2 : 0 ≤ cf x y := by omega
        have hL2 : Hid (∀ h', a ≤ h' → h' < h + 1 → ltOf cf d[m]! d[h']! = false) := hide (fun h' h3 h4 => by
          have e1 : ltOf cf d[h]! d[h']! = false := by
            by_cases e : h' = h
            · rw [e]; exact HO.out.irrefl _
            · exact H1.out h' h h3 (by omega) (by omega)
          have e2 : ltOf cf d[m]! d[h]! = false := by
            rw [← HX.out, ← HY.out]; unfold ltOf; exact decide_eq_false hlv
          exact HO.out.ntrans _ _ _ e2 e1)
        go_wp2_with fail
        go_quiet_grown (first | (go_at_fn g; refine Calls.grown_of (hcg _ _)))
        clear q1 q2 q3 q4 hcg
        have S2 := hide (HSG.out nq osq)
        go_wp2_with fail
        all_goals try (exfalso; rename_i hbad; simp at hbad; omega)
        go_roundw
        case rel => exact ⟨h + 1, j, by omega, by omega, hj, by go_num, rfl, hL2, HH, S2⟩
        case measure => simp [intOf]; omega
    · obtain rfl : i = j := by omega
      have hge : ¬ ((i : Int) < (i : Int)) := by omega
      go_wp2_with fail
      go_loopw [17] (fun v17 wq => ∃ t : Nat, t ≤ m - i ∧ v17 = .int .i64 ((m : Int) - (t : Int)) ∧ Hid (SWP w0 blk off (downTo m t d) wq)) (fun v _ => (intOf v).toNat)
      case atStart => exact ⟨0, by omega, by simp, S1⟩
      case round =>
        clear S1
        obtain ⟨t, ht, rfl, S1⟩ := hrel
        by_cases htl : t < m - i
        · have hsz2 : (downTo m t d).size = d.size := downTo_size m t d
          have hd := HDS.out; have hB := HB.out
          obtain ⟨⟨c1, f1⟩, c2, f2⟩ := SWP.spot S1.out HR.out (by omega) (i := m - t) (by omega)
          obtain ⟨⟨c3, f3⟩, c4, f4⟩ := SWP.spot S1.out HR.out (by omega) (i := m - t - 1) (by omega)
          have S2 := hide (SWP.swap2 S1.out HR.out (i := m - t) (j := m - t - 1) (by omega) (by omega))
          have hi1 : (i : Int) < (m : Int) - (t : Int) := by omega
          have z3 : (m : Int) - (t : Int) < (d0.size : Int) := by omega
          have z4 : (m : Int) - (t : Int) - 1 < (d0.size : Int) := by omega
          clear hsz2 S1 hd hB
          obtain ⟨x, hx⟩ : ∃ x, x = (downTo m t d)[m - t]! := ⟨_, rfl⟩
          obtain ⟨y, hy⟩ : ∃ y, y = (downTo m t d)[m - t - 1]! := ⟨_, rfl⟩
          rw [← hx] at c1 c2 S2
          rw [← hy] at c3 c4 S2
          clear hx hy
          obtain ⟨u, hu⟩ : ∃ u, u = m - t := ⟨_, rfl⟩
          obtain ⟨u1, hu1⟩ : ∃ u1, u1 = m - t - 1 := ⟨_, rfl⟩
          rw [← hu1] at c3 c4 f3 f4 S2
          rw [← hu] at c1 c2 f1 f2 S2
          have z1 : (0 : Int) ≤ (m : Int) - (t : Int) := by omega
          have z2 : (0 : Int) ≤ (m : Int) - (t : Int) - 1 := by omega
          have z5 : ((m : Int) - (t : Int)).toNat = u := by omega
          have z6 : ((m : Int) - (t : Int) - 1).toNat = u1 := by omega
          have HU : Hid (SWP w0 blk off (swp (downTo m t d) u u1) = SWP w0 blk off (downTo m (t + 1) d)) := hide (by rw [hu, hu1]; rfl)
          clear hu hu1
          go_upto_region 23 with (fail)
          go_region
          clear c1 c2 c3 c4 f1 f2 f3 f4
          go_wp2_with fail
          go_roundw
          case rel => exact ⟨t + 1, by omega, by go_num, hide (HU.out ▸ S2.out)⟩
          case measure => simp [intOf]; omega
        · have hge : ¬ ((i : Int) < (m : Int) - (t : Int)) := by omega
          obtain rfl : t = m - i := by omega
          have HD := hide (down_done HO.out (m := m) (by have := HDS.out; have := HB.out; omega) (i := i) (by omega) H1.out HL.out HH.out)
          go_wp2_with fail
          refine bodyPost_ret (results_none rfl _ _ _) rfl ?_
          exact ⟨rfl, _, by rw [HB.out]; exact HD.out.1, by rw [HB.out]; exact HD.out.2, S1.out⟩
end Go.Proofs.YtokdliapkolngaaDoor
