/-
  Lease: the law LeaseSafe, walked.
-/
import Derived.Test.YtjmgnojbegafiaaLeaseO
import Derived.RegionTactic
import Derived.BigRegion
namespace Go.Proofs.Ytjmgnojbegafiaa
open Go.RowKit Go.Maps
set_option linter.unusedVariables false

set_option maxHeartbeats 8000000 in
set_option maxRecDepth 100000 in
theorem safe_walk (term rho one other : Int) (A A' : Option Addr) (na nb c c' : Nat) (tb ta : List Trn) (w : World) (hterm : I64 term) (hrho : I64 rho) (hone : I64 one) (hother : I64 other)
    (htb : SlTrn w w.heap.size A nb tb) (hta : SlTrn w w.heap.size A' na ta) (hnb : nb ≤ 140737488351232) (hna : na ≤ 140737488351232) :
    Calls Try.prog 4 #[.int .i64 term, .int .i64 rho, .int .i64 one, .int .i64 other, .slice A nb c, .slice A' na c'] w fun e w' => e = .returned (.bool true) ∧ Below w.heap.size w w' := by
  have HTB := hide htb; have HTA := hide hta
  clear htb hta
  obtain ⟨x, y, hs⟩ : ∃ x y, shortI term rho = (x, y) := ⟨_, _, rfl⟩
  by_cases hy : y = 0
  · subst hy
    have hsv : x = term * (1000 - rho) / (1000 + rho) ∧ rightB term rho = true := by
      unfold shortI at hs
      split at hs
      · rename_i h; injection hs with hs _; exact ⟨hs.symm, h⟩
      · injection hs with _ h; cases h
    obtain ⟨t0, t1, d0, d1⟩ := right_bounds hsv.2
    have HIX : Hid (I64 x) := hide (by
      have e0 : 0 ≤ x := by rw [hsv.1]; exact Int.ediv_nonneg (Int.mul_nonneg t0 (by omega)) (by omega)
      have e1 : x ≤ term * (1000 - rho) := by rw [hsv.1]; exact Int.ediv_le_self _ (Int.mul_nonneg t0 (by omega))
      have e2 : term * (1000 - rho) ≤ 1099511627776 * 1000 := Int.mul_le_mul t1 (by omega) (by omega) (by omega)
      unfold I64; omega)
    have HSV := hide hsv.1
    have KN := hide (new_ok hs)
    have KE := hide (cread_any other hother)
    obtain ⟨start, hstart⟩ : ∃ s, s = readI other := ⟨_, rfl⟩
    have istart : I64 start := hstart ▸ readI_I64 hother
    rw [← hstart] at KE
    have HSTART := hide hstart
    clear hs hsv hstart
    go_enter Try.func4, Try.ntmps4
    go_wp2_with fail
    refine (KN.out _).mono ?_
    rintro e w1 ⟨g, b1, b2, rfl, B1, Z, D1⟩
    go_wp2_with fail
    refine (known_any _).mono ?_
    rintro e w2 ⟨rfl, hb⟩
    have D2 := hide (D1.out.below hb)
    have B2 := hide (B1.out.trans (hb.mono B1.out.size))
    clear hb D1 B1
    go_upto_region 5 with (fail)
    refine wp_world (fun X => Hid (DeskSt X g b1 b2 0 noN noG term x) ∧ Hid (RowV X w2.heap.size 39 [.int .i64 one]) ∧ Hid (RowV X (w2.heap.size + 1) 39 [.int .i64 other]) ∧ Hid (Below w.heap.size w X)) ⟨hide (D2.out.below (((Below.refl w2.heap.size w2).alloc (Nat.le_refl _) _).alloc (by simp) _)), hide ?_, hide ?_, hide ((B2.out.alloc B2.out.size _).alloc (by have := B2.out.size; rw [World.size_alloc]; omega) _)⟩ ?_
    · exact (RowV.new w2 _ [.int .i64 one]).alloc _
    · have := RowV.new (w2.alloc (.cells #[.int .i64 one] 39)) 39 [.int .i64 other]
      rwa [World.size_alloc] at this
    rintro X ⟨D3, M3, E3, B3⟩
    have HZ : Hid (w.heap.size ≤ w2.heap.size ∧ g < w2.heap.size ∧ b1 < w2.heap.size ∧ b2 < w2.heap.size) := hide ⟨B2.out.size, D2.out.row.lt, D2.out.notes.lt, D2.out.gone.lt⟩
    obtain ⟨P, hP⟩ : ∃ P, P = w2.heap.size := ⟨_, rfl⟩
    rw [← hP] at M3 E3 HZ ⊢
    clear D2 B2 hP
    have ce := E3.out.cell (k := 0) rfl
    go_wp2_with fail
    refine (KE.out _).mono ?_
    rintro e w4 ⟨rfl, hb⟩
    have D4 := hide (D3.out.below hb); have M4 := hide (M3.out.below' hb); have E4 := hide (E3.out.below' hb); have B4 := hide (B3.out.trans (hb.mono B3.out.size))
    clear hb D3 M3 E3 B3 ce KE
    have ST0 : Hid (SafeSt rho other nb 0 one other noN) := hide ⟨hone, hother, .inl ⟨by omega, rfl, .inl rfl⟩⟩
    go_wp2_with fail
    go_loopw [18] (fun v18 wq => ∃ (i k : Nat) (x1 x2 : Int) (N : ByteArray → Int → Option Int), i ≤ nb + na ∧ i ≤ 200 ∧ v18 = .int .i64 i ∧ k ≤ 2 * i ∧ Hid (DeskSt wq g b1 b2 k N noG term x) ∧ Hid (SafeSt rho other nb i x1 x2 N) ∧ Hid (RowV wq P 39 [.int .i64 x1]) ∧ Hid (RowV wq (P + 1) 39 [.int .i64 x2]) ∧ Hid (Below w.heap.size w wq)) (fun v _ => nb + na - (intOf v).toNat)
    case atStart => exact ⟨0, 0, one, other, noN, by omega, by omega, rfl, by omega, D4, ST0, M4, E4, B4⟩
    case round =>
      clear D4 M4 E4 B4 ST0
      obtain ⟨i, k, x1, x2, N, hi, hi2, rfl, hk, D, ST, M, E, B⟩ := hrel
      by_cases hlt : i < nb + na ∧ i < 200
      · obtain ⟨hlt, hlt2⟩ := hlt
        have hw : IntKind.i64.wrap ((nb : Int) + (na : Int)) = (nb : Int) + (na : Int) := IntWalk.i64_in _ (by omega)
        have g1 : (i : Int) < (nb : Int) + (na : Int) := by omega
        have g2 : (i : Int) < 200 := by omega
        go_upto_if 59 with (fail)
        go_cut [] (fun wx => ∃ (k' : Nat) (N' : ByteArray → Int → Option Int), k' ≤ 2 * i + 1 ∧ Hid (DeskSt wx g b1 b2 k' N' noG term x) ∧ Hid (MidSt rho other nb i x1 x2 N') ∧ Hid (RowV wx P 39 [.int .i64 x1]) ∧ Hid (RowV wx (P + 1) 39 [.int .i64 x2]) ∧ Hid (Below w.heap.size w wx))
        case first =>
          by_cases hin : i = nb
          · subst hin
            have cm := M.out.cell (k := 0) rfl
            have hbb : ((i : Int) == (i : Int)) = true := by simp
            go_wp2_with fail
            refine (cread_any x1 ST.out.i1 _).mono ?_
            rintro e w5 ⟨rfl, hb⟩
            have D5 := hide (D.out.below hb); have M5 := hide (M.out.below' hb); have E5 := hide (E.out.below' hb); have B5 := hide (B.out.trans (hb.mono B.out.size))
            clear hb D M E B cm
            go_wp2_with fail
            refine (note_any g b1 b2 k N noG term x fB 1 (readI x1) _ D5.out (KOk.small (by decide) (by omega)) (by unfold maxLen; omega)).mono ?_
            rintro e w6 ⟨rfl, hd, hb⟩
            have D6 := hide hd
            have M6 : Hid (RowV w6 P 39 [.int .i64 x1]) := hide (hb.row M5.out (fun h => by have := HZ.out; rcases h with h | h <;> omega))
            have E6 : Hid (RowV w6 (P + 1) 39 [.int .i64 x2]) := hide (hb.row E5.out (fun h => by have := HZ.out; rcases h with h | h <;> omega))
            have B6 := hide (below_desk B5.out hb Z.out.2.1 Z.out.2.2)
            clear hd hb D5 M5 E5 B5
            go_wp2_with fail
            go_meet
            exact ⟨k + 1, _, by omega, D6, hide ST.out.noted, M6, E6, B6⟩
          · have hbb : ((i : Int) == (nb : Int)) = false := by rw [beq_eq_false_iff_ne]; omega
            have MI := hide (ST.out.mid hin)
            clear hin
            go_wp2_with fail
            go_meet
            exact ⟨k, N, by omega, D, MI, M, E, B⟩
        case rest =>
          clear D ST M E B
          obtain ⟨k', N', hk', D, MI, M, E, B⟩ := hcut
          obtain ⟨V, rfl⟩ : ∃ V : World, V = wc := ⟨_, rfl⟩
          have HPT : Hid (P + 1 < V.heap.size) := hide E.out.lt
          go_upto_if 68 with (fail)
          go_cut [] (fun wx => ∃ t : Trn, Hid (RowV wx V.heap.size 42 [.int .i64 t.units, .int .i64 t.one, .int .i64 t.other]) ∧ Hid (DeskSt wx g b1 b2 k' N' noG term x) ∧ Hid (RowV wx P 39 [.int .i64 x1]) ∧ Hid (RowV wx (P + 1) 39 [.int .i64 x2]) ∧ Hid (Below w.heap.size w wx) ∧ Hid (V.heap.size < wx.heap.size))
          case first =>
            by_cases hin : i < nb
            · obtain ⟨pb, po, t, rfl, hpb, _, c0, c1, c2⟩ := HTB.out.at_ hin
              have k0 : ∀ o, (V.alloc o).cell? ⟨pb, po + i * 3, none⟩ = some (.int .i64 t.units) := fun o => ((B.out.alloc B.out.size o).cell (p := ⟨pb, po + i * 3, none⟩) hpb).trans c0
              have k1 : ∀ o, (V.alloc o).cell? ⟨pb, po + i * 3 + 1, none⟩ = some (.int .i64 t.one) := fun o => ((B.out.alloc B.out.size o).cell (p := ⟨pb, po + i * 3 + 1, none⟩) hpb).trans c1
              have k2 : ∀ o, (V.alloc o).cell? ⟨pb, po + i * 3 + 2, none⟩ = some (.int .i64 t.other) := fun o => ((B.out.alloc B.out.size o).cell (p := ⟨pb, po + i * 3 + 2, none⟩) hpb).trans c2
              clear c0 c1 c2
              obtain ⟨tu, to1, to2⟩ := t
              simp only at k0 k1 k2
              have hi0 : (0 : Int) ≤ (i : Int) := by omega
              have hi1 : (i : Int) < (nb : Int) := by omega
              go_wp2_with fail
              go_meet
              exact ⟨⟨tu, to1, to2⟩, hide (RowV.new V _ _), hide (D.out.below ((Below.refl _ _).alloc (Nat.le_refl _) _)), hide (M.out.alloc _), hide (E.out.alloc _), hide (B.out.alloc B.out.size _), hide (by rw [World.size_alloc]; omega)⟩
            · obtain ⟨j, hj⟩ : ∃ j, i = nb + j := ⟨i - nb, by omega⟩
              obtain ⟨pb, po, t, rfl, hpb, _, c0, c1, c2⟩ := HTA.out.at_ (k := j) (by omega)
              have k0 : ∀ o, (V.alloc o).cell? ⟨pb, po + j * 3, none⟩ = some (.int .i64 t.units) := fun o => ((B.out.alloc B.out.size o).cell (p := ⟨pb, po + j * 3, none⟩) hpb).trans c0
              have k1 : ∀ o, (V.alloc o).cell? ⟨pb, po + j * 3 + 1, none⟩ = some (.int .i64 t.one) := fun o => ((B.out.alloc B.out.size o).cell (p := ⟨pb, po + j * 3 + 1, none⟩) hpb).trans c1
              have k2 : ∀ o, (V.alloc o).cell? ⟨pb, po + j * 3 + 2, none⟩ = some (.int .i64 t.other) := fun o => ((B.out.alloc B.out.size o).cell (p := ⟨pb, po + j * 3 + 2, none⟩) hpb).trans c2
              clear c0 c1 c2
              obtain ⟨tu, to1, to2⟩ := t
              simp only at k0 k1 k2
              have hj0 : (0 : Int) ≤ (j : Int) := by omega
              have hj1 : (j : Int) < (na : Int) := by omega
              have hj2 : ¬ ((i : Int) < (nb : Int)) := by omega
              have hjs : (i : Int) - (nb : Int) = (j : Int) := by omega
              clear hj hin
              go_wp2_with fail
              go_meet
              exact ⟨⟨tu, to1, to2⟩, hide (RowV.new V _ _), hide (D.out.below ((Below.refl _ _).alloc (Nat.le_refl _) _)), hide (M.out.alloc _), hide (E.out.alloc _), hide (B.out.alloc B.out.size _), hide (by rw [World.size_alloc]; omega)⟩
          case rest =>
            clear D M E B
            obtain ⟨⟨u, r1, r2⟩, RT, D, M, E, B, HTZ⟩ := hcut
            simp only at RT
            obtain ⟨T, hT⟩ : ∃ T, T = V.heap.size := ⟨_, rfl⟩
            rw [← hT] at RT HTZ HPT ⊢
            clear hT
            have cm := M.out.cell (k := 0) rfl; have ce := E.out.cell (k := 0) rfl
            have t0' := RT.out.cell (k := 0) rfl; have t1' := RT.out.cell (k := 1) rfl; have t2' := RT.out.cell (k := 2) rfl
            have K1 := hide (turn_any x1 u r1)
            obtain ⟨q, hq⟩ : ∃ q, turnI x1 u r1 = q := ⟨_, rfl⟩
            rw [hq] at K1
            obtain ⟨y1, e1⟩ := q
            have HQ1 := hide hq; clear hq
            have K2 := hide (turn_any x2 u r2)
            obtain ⟨q, hq⟩ : ∃ q, turnI x2 u r2 = q := ⟨_, rfl⟩
            rw [hq] at K2
            obtain ⟨y2, e2⟩ := q
            have HQ2 := hide hq; clear hq
            have K3 := hide (within_any r1 rho); have K4 := hide (within_any r2 rho)
            obtain ⟨wi1, hwi1⟩ : ∃ b, withinB r1 rho = b := ⟨_, rfl⟩
            obtain ⟨wi2, hwi2⟩ : ∃ b, withinB r2 rho = b := ⟨_, rfl⟩
            rw [hwi1] at K3; rw [hwi2] at K4
            have HW1 := hide hwi1; have HW2 := hide hwi2
            clear hwi1 hwi2
            go_wp2_with fail
            refine (K1.out _).mono ?_
            rintro e w5 ⟨rfl, hb⟩
            go_upto_region 16 with (fail)
            have A5 : Below wc.heap.size wc (w5.alloc (.cells #[.int .i64 y1] 39)) := hb.alloc hb.size _
            refine wp_world (fun X => Hid (DeskSt X g b1 b2 k' N' noG term x) ∧ Hid (RowV X P 39 [.int .i64 x1]) ∧ Hid (RowV X (P + 1) 39 [.int .i64 x2]) ∧ Hid (RowV X T 42 [.int .i64 u, .int .i64 r1, .int .i64 r2]) ∧ Hid (RowV X w5.heap.size 39 [.int .i64 y1]) ∧ Hid (Below w.heap.size w X)) ⟨hide (D.out.below A5), hide (M.out.below' A5), hide (E.out.below' A5), hide (RT.out.below' A5), hide (RowV.new w5 _ _), hide (B.out.trans (A5.mono B.out.size))⟩ ?_
            have HT5 : Hid (T < w5.heap.size) := hide (by have := HTZ.out; have := hb.size; omega)
            clear hb A5 D M E RT B cm ce t0' t1' t2' K1
            obtain ⟨Q1, hQ1⟩ : ∃ Q1, Q1 = w5.heap.size := ⟨_, rfl⟩
            rw [← hQ1] at HT5 ⊢
            clear hQ1
            rintro Y ⟨D, M, E, RT, R1, B⟩
            have ce := E.out.cell (k := 0) rfl
            have t0' := RT.out.cell (k := 0) rfl; have t2' := RT.out.cell (k := 2) rfl
            go_wp2_with fail
            refine (K2.out _).mono ?_
            rintro e w6 ⟨rfl, hb⟩
            go_upto_region 17 with (fail)
            have A6 : Below Y.heap.size Y (w6.alloc (.cells #[.int .i64 y2] 39)) := hb.alloc hb.size _
            refine wp_world (fun X => Hid (DeskSt X g b1 b2 k' N' noG term x) ∧ Hid (RowV X P 39 [.int .i64 x1]) ∧ Hid (RowV X (P + 1) 39 [.int .i64 x2]) ∧ Hid (RowV X T 42 [.int .i64 u, .int .i64 r1, .int .i64 r2]) ∧ Hid (RowV X Q1 39 [.int .i64 y1]) ∧ Hid (RowV X w6.heap.size 39 [.int .i64 y2]) ∧ Hid (Below w.heap.size w X)) ⟨hide (D.out.below A6), hide (M.out.below' A6), hide (E.out.below' A6), hide (RT.out.below' A6), hide (R1.out.below' A6), hide (RowV.new w6 _ _), hide (B.out.trans (A6.mono B.out.size))⟩ ?_
            have HT6 : Hid (Q1 < w6.heap.size) := hide (by have := R1.out.lt; have := hb.size; omega)
            clear hb A6 D M E RT R1 B ce t0' t2' K2
            obtain ⟨Q2, hQ2⟩ : ∃ Q2, Q2 = w6.heap.size := ⟨_, rfl⟩
            rw [← hQ2] at HT6 ⊢
            clear hQ2
            rintro Z2 ⟨D, M, E, RT, R1, R2, B⟩
            have t1' := RT.out.cell (k := 1) rfl; have t2' := RT.out.cell (k := 2) rfl
            by_cases he1 : e1 = 0
            · subst he1
              by_cases he2 : e2 = 0
              · subst he2
                cases wi1
                · go_wp2_with (refine (K3.out _).mono ?_; rintro e w' ⟨rfl, rfl⟩)
                  go_ret
                  exact ⟨rfl, B.out⟩
                · cases wi2
                  · go_wp2_with (with_reducible first | (refine (K3.out _).mono ?_; rintro e w' ⟨rfl, rfl⟩) | (refine (K4.out _).mono ?_; rintro e w' ⟨rfl, rfl⟩))
                    go_ret
                    exact ⟨rfl, B.out⟩
                  · have ST2 := hide (MI.out.step HQ1.out HQ2.out HW1.out HW2.out)
                    have HY1 := hide (turn_up HQ1.out HW1.out); have HY2 := hide (turn_up HQ2.out HW2.out)
                    clear HQ1 HQ2 HW1 HW2 MI
                    go_upto_region 19 with (with_reducible first | (refine (K3.out _).mono ?_; rintro e w' ⟨rfl, rfl⟩) | (refine (K4.out _).mono ?_; rintro e w' ⟨rfl, rfl⟩))
                    clear K3 K4 t1' t2'
                    go_cut [] (fun wx => Hid (DeskSt wx g b1 b2 k' N' noG term x) ∧ Hid (RowV wx P 39 [.int .i64 y1]) ∧ Hid (RowV wx (P + 1) 39 [.int .i64 y2]) ∧ Hid (Below w.heap.size w wx))
                    case first =>
                      have q1c := R1.out.cell (k := 0) rfl; have q2c := R2.out.cell (k := 0) rfl
                      have m1c := M.out.cell (k := 0) rfl; have e1c := E.out.cell (k := 0) rfl
                      have mf := M.out.free 0; have ef := E.out.free 0
                      have hPB : Hid (w.heap.size ≤ P) := hide HZ.out.1
                      have hne1 : P ≠ Q1 := by have := HPT.out; have := HT5.out; omega
                      have hne2 : P ≠ Q2 := by have := HPT.out; have := HT5.out; have := HT6.out; omega
                      have hne3 : P + 1 ≠ Q1 := by have := HPT.out; have := HT5.out; omega
                      have hne4 : P + 1 ≠ Q2 := by have := HPT.out; have := HT5.out; have := HT6.out; omega
                      go_region
                      all_goals
                        go_wp2_with fail
                        go_meet
                        have hz := HZ.out
                        refine ⟨hide ?_, hide (((M.out.set 0 _).set_other (by omega)).drew), hide (((E.out.set_other (by omega)).set 0 _).drew), hide ?_⟩
                        · exact (D.out.but (S := fun k => k = P ∨ k = P + 1) (((But.refl _ Z2).setCell (.inl rfl)).setCell (.inr rfl)) (fun h => by omega) (fun h => by omega) (fun h => by omega)).drew
                        · exact ((B.out.setCell hPB.out _).setCell (by simp only; have := hPB.out; omega) _).drew
                    case rest =>
                      clear D M E B RT R1 R2
                      obtain ⟨D, M, E, B⟩ := hcut
                      obtain ⟨W0, rfl⟩ : ∃ W : World, W = wc := ⟨_, rfl⟩
                      by_cases hin : i < nb
                      · have hib : (i : Int) < (nb : Int) := by omega
                        clear hin
                        go_wp2_with fail
                        go_roundw
                        case rel => exact ⟨i + 1, k', y1, y2, N', by omega, by omega, by go_num, by omega, D, ST2, M, E, B⟩
                        case measure => simp [intOf]; omega
                      · have hib : (nb : Int) ≤ (i : Int) := by omega
                        obtain ⟨m0, im0, hN, hlaw⟩ := ST2.out.law (term := term) (by omega) d0 d1 (by have := HY1.out; omega) (by have := HY2.out; omega)
                        rw [← HSV.out, ← HSTART.out] at hlaw
                        have iy1 := readI_I64 ST2.out.i1; have iy2 := readI_I64 ST2.out.i2
                        have HN6 : Hid (∀ s e a, N' s e = some a → I64 a) := hide (ST2.out.i64N)
                        have K5 := hide (cread_any y1 ST2.out.i1); have K6 := hide (cread_any y2 ST2.out.i2)
                        obtain ⟨s1, hs1⟩ : ∃ s, s = readI y1 := ⟨_, rfl⟩
                        obtain ⟨s2, hs2⟩ : ∃ s, s = readI y2 := ⟨_, rfl⟩
                        rw [← hs1] at hlaw iy1 K5; rw [← hs2] at hlaw iy2 K6
                        obtain ⟨ov, hov⟩ : ∃ ov, overB (readI m0) s1 term = ov := ⟨_, rfl⟩
                        rw [hov] at hlaw
                        have HLAW := hide hlaw
                        have HH : Hid (holdI noG fB s1 term N' [1] = ⟨N', fun e' => decide (e' = 1) || false, if ov = true then [] else [1]⟩) := hide (by rw [← hov]; exact hold_noted hN)
                        clear hin hN hlaw hs1 hs2 hov
                        have cm := M.out.cell (k := 0) rfl
                        have cm' := fun o => (M.out.alloc o).cell (k := 0) rfl
                        go_wp2_with fail
                        refine (K5.out _).mono ?_
                        rintro e w7 ⟨rfl, hb⟩
                        have A0 : Below W0.heap.size W0 (W0.alloc (.cells #[.int .i64 1] 3)) := (Below.refl _ _).alloc (Nat.le_refl _) _
                        have A7 := A0.trans (hb.mono A0.size)
                        have D7 := hide (D.out.below A7); have M7 := hide (M.out.below' A7); have E7 := hide (E.out.below' A7); have B7 := hide (B.out.trans (A7.mono B.out.size))
                        have L7 : Hid (Sl w7 w7.heap.size (some ⟨W0.heap.size, 0, none⟩) 1 ([1].map (Value.int .i64))) := hide (((sl_ints W0 3 [1] 1 rfl).below hb (Nat.le_refl _)).more hb.size)
                        clear hb A0 A7 D M E B cm cm' K5
                        go_wp2_with fail
                        refine (holders_h g b1 b2 k' N' noG term x fB _ 1 1 w7.heap.size [1] s1 w7 D7.out L7.out (Nat.le_refl _) (fun z hz => by simp at hz; unfold I64; omega) (by omega) (by omega) (by decide) iy1 hterm HN6.out _ HH.out).mono ?_
                        rintro e w8 ⟨A8, c8, rfl, O8, D8, hb⟩
                        have M8 := hide (hb.out.row M7.out (fun h => by have := HZ.out; rcases h with h | h <;> omega)); have E8 := hide (hb.out.row E7.out (fun h => by have := HZ.out; rcases h with h | h <;> omega))
                        have B8 := hide (below_desk B7.out hb.out Z.out.2.1 Z.out.2.2)
                        clear hb D7 M7 E7 B7 O8 L7 HH
                        cases ov
                        · simp only [reduceIte, List.length_nil, List.length_cons, Bool.false_eq_true] at D8 ⊢
                          go_wp2_with fail
                          go_roundw
                          case rel => exact ⟨i + 1, k' + 1, y1, y2, N', by omega, by omega, by go_num, by omega, D8, ST2, M8, E8, B8⟩
                          case measure => simp [intOf]; omega
                        · simp only [reduceIte, List.length_nil] at D8 ⊢
                          have ce := E8.out.cell (k := 0) rfl
                          have hlv := HLAW.out rfl
                          go_wp2_with fail
                          refine (K6.out _).mono ?_
                          rintro e w9 ⟨rfl, hb⟩
                          have D9 := hide (D8.out.below hb); have M9 := hide (M8.out.below' hb); have E9 := hide (E8.out.below' hb); have B9 := hide (B8.out.trans (hb.mono B8.out.size))
                          have KL := hide (live_any start s2 x istart iy2 HIX.out)
                          rw [hlv] at KL
                          clear hb D8 M8 E8 B8 ce K6 hlv
                          go_wp2_with fail
                          refine (dshort_any g b1 b2 _ N' noG term x _ D9.out).mono ?_
                          rintro e w' ⟨rfl, rfl⟩
                          go_wp2_with fail
                          refine (KL.out _).mono ?_
                          rintro e w' ⟨rfl, rfl⟩
                          go_wp2_with fail
                          go_roundw
                          case rel => exact ⟨i + 1, k' + 1, y1, y2, N', by omega, by omega, by go_num, by omega, D9, ST2, M9, E9, B9⟩
                          case measure => simp [intOf]; omega
              · have he2b : (e2 != 0) = true := by simpa using he2
                clear he2
                go_wp2_with fail
                go_ret
                exact ⟨rfl, B.out⟩
            · have he1b : (e1 != 0) = true := by simpa using he1
              clear he1
              go_wp2_with fail
              go_ret
              exact ⟨rfl, B.out⟩
      · have hor : ¬ ((i : Int) < (nb : Int) + (na : Int)) ∨ ((i : Int) < (nb : Int) + (na : Int) ∧ ¬ ((i : Int) < 200)) := by omega
        have hw : IntKind.i64.wrap ((nb : Int) + (na : Int)) = (nb : Int) + (na : Int) := IntWalk.i64_in _ (by omega)
        clear hlt
        rcases hor with h | ⟨h, h2⟩
        all_goals
          go_wp2_with fail
          go_ret
          exact ⟨rfl, B.out⟩
  · have hyb : (y != 0) = true := by simpa using hy
    have KN := hide (fun w => new_bad hs hy w)
    clear hs hy HTB HTA
    go_enter Try.func4, Try.ntmps4
    go_wp2_with fail
    refine (KN.out _).mono ?_
    rintro e w1 ⟨rfl, B1⟩
    go_wp2_with fail
    refine (known_any _).mono ?_
    rintro e w2 ⟨rfl, hb⟩
    have B2 := hide (B1.out.trans (hb.mono B1.out.size))
    clear hb B1
    go_wp2_with fail
    refine (known_any _).mono ?_
    rintro e w3 ⟨rfl, hb⟩
    have B3 := hide (B2.out.trans (hb.mono B2.out.size))
    clear hb B2
    go_wp2_with fail
    go_ret
    exact ⟨rfl, B3.out⟩
end Go.Proofs.Ytjmgnojbegafiaa
