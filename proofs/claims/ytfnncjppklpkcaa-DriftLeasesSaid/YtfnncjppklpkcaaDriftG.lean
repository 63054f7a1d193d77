/-
  The walk of the law DriftPasses.
-/
import Derived.Test.YtfnncjppklpkcaaDriftF
namespace Go.Proofs.Ytfnncjppklpkcaa
open Go.RowKit

/-- a slice of turns: three ints each -/
structure Two where
  units : Int
  one : Int
  other : Int
def SlTwo (w : World) (B : Nat) (A : Option Addr) (n : Nat) (ts : List Two) : Prop :=
  ts.length = n ∧ (0 < n → ∃ b off, A = some ⟨b, off, none⟩ ∧ b < B ∧ ∀ k t, ts[k]? = some t →
    w.cell? ⟨b, off + k * 3, none⟩ = some (.int .i64 t.units) ∧ w.cell? ⟨b, off + k * 3 + 1, none⟩ = some (.int .i64 t.one) ∧ w.cell? ⟨b, off + k * 3 + 2, none⟩ = some (.int .i64 t.other))
theorem SlTwo.below {w w' : World} {B C n : Nat} {A : Option Addr} {ts : List Two} (h : SlTwo w B A n ts) (hb : Below C w w') (hC : B ≤ C) : SlTwo w' B A n ts :=
  ⟨h.1, fun hn => by
    obtain ⟨b, off, e, hlt, hc⟩ := h.2 hn
    refine ⟨b, off, e, hlt, fun k t ht => ?_⟩
    obtain ⟨c0, c1, c2⟩ := hc k t ht
    exact ⟨(hb.cell (p := ⟨b, _, none⟩) (Nat.lt_of_lt_of_le hlt hC)).trans c0, (hb.cell (p := ⟨b, _, none⟩) (Nat.lt_of_lt_of_le hlt hC)).trans c1, (hb.cell (p := ⟨b, _, none⟩) (Nat.lt_of_lt_of_le hlt hC)).trans c2⟩⟩

theorem turnI_ok {c u r t : Int} (h : turnI c u r = (t, 0)) : t = c + u * (1000 + r) ∧ 0 ≤ u ∧ u ≤ 1099511627776 ∧ t ≤ 1099511627776000 ∧ 0 ≤ c ∧ withinB r 500 = true := by
  unfold turnI at h
  split at h
  · rename_i hg
    simp only [Bool.and_eq_true, decide_eq_true_eq] at hg
    have ht := of_decide_eq_true hg.1.1.1
    split at h
    · simp at h
    · simp only [Prod.mk.injEq] at h
      exact ⟨h.1.symm, ht.1, ht.2, by omega, hg.1.2, hg.1.1.2⟩
  · simp at h
theorem within_bounds {r d : Int} (h : withinB r d = true) : 0 ≤ d ∧ d ≤ 500 ∧ -d ≤ r ∧ r ≤ d := of_decide_eq_true h
/-- what a clock shows of true time: from so little to so much -/
def Runs (d p cl : Int) : Prop := (p = 0 ∧ cl = 0) ∨ (0 ≤ d ∧ d ≤ 500 ∧ 0 ≤ p ∧ (1000 - d) * p ≤ cl ∧ cl ≤ (1000 + d) * p ∧ cl ≤ 1099511627776000)
theorem Runs.step {d p cl u r t : Int} (h : Runs d p cl) (ht : turnI cl u r = (t, 0)) (hr : withinB r d = true) : Runs d (p + u) t := by
  obtain ⟨e, u0, _, tm, _, _⟩ := turnI_ok ht
  obtain ⟨d0, d1, r0, r1⟩ := within_bounds hr
  have m1 : u * (1000 - d) ≤ u * (1000 + r) := Int.mul_le_mul_of_nonneg_left (by omega) u0
  have m2 : u * (1000 + r) ≤ u * (1000 + d) := Int.mul_le_mul_of_nonneg_left (by omega) u0
  have a1 : (1000 - d) * (p + u) = (1000 - d) * p + u * (1000 - d) := by rw [Int.mul_add, Int.mul_comm u]
  have a2 : (1000 + d) * (p + u) = (1000 + d) * p + u * (1000 + d) := by rw [Int.mul_add, Int.mul_comm u]
  right
  rcases h with ⟨hp, hc⟩ | ⟨_, _, p0, l, g, _⟩
  · subst hp; subst hc
    refine ⟨d0, d1, by omega, ?_, ?_, tm⟩
    · rw [a1, Int.mul_zero]; omega
    · rw [a2, Int.mul_zero]; omega
  · exact ⟨d0, d1, by omega, by omega, by omega, tm⟩
theorem Runs.bounds {d p cl : Int} (h : Runs d p cl) : 0 ≤ p ∧ p ≤ 2199023255552 ∧ 0 ≤ cl ∧ cl ≤ 1099511627776000 := by
  rcases h with ⟨hp, hc⟩ | ⟨d0, d1, p0, l, g, m⟩
  · subst hp; subst hc; omega
  · have e1 : 500 * p ≤ (1000 - d) * p := Int.mul_le_mul_of_nonneg_right (by omega) p0
    omega
theorem Runs.least {d p cl : Int} (h : Runs d p cl) (hd : 0 ≤ d) : leastV (cl / 1000) d ≤ p := by
  obtain ⟨p0, _, c0, _⟩ := h.bounds
  have hcl : cl ≤ (1000 + d) * p := by
    rcases h with ⟨hp, hc⟩ | ⟨_, _, _, _, g, _⟩
    · subst hp; subst hc; simp
    · exact g
  rw [Int.mul_comm] at hcl
  have q1 := div_lo (a := cl / 1000 * 1000) (b := 1000 + d) (by omega)
  unfold leastV
  split
  · have : cl / 1000 * 1000 / (1000 + d) < p := lt_of_mul (b := 1000 + d) (by omega) (by omega)
    omega
  · have h2 : cl / 1000 * 1000 / (1000 + d) < p + 1 := by
      apply Int.ediv_lt_of_lt_mul (by omega)
      rw [Int.add_mul, Int.one_mul]; omega
    omega
theorem Runs.most {d p cl : Int} (h : Runs d p cl) (hd : 0 ≤ d) (hd' : d ≤ 500) : p ≤ (cl / 1000 + 1) * 1000 / (1000 - d) := by
  obtain ⟨p0, _, c0, _⟩ := h.bounds
  have hcl : (1000 - d) * p ≤ cl := by
    rcases h with ⟨hp, hc⟩ | ⟨_, _, _, l, _, _⟩
    · subst hp; subst hc; simp
    · exact l
  apply Int.le_ediv_of_mul_le (by omega)
  rw [Int.mul_comm]
  omega

set_option maxRecDepth 100000 in
set_option maxHeartbeats 1000000 in
theorem passes_walk (d : Int) (A : Option Addr) (n c : Nat) (ts : List Two) (w : World) (ht : SlTwo w w.heap.size A n ts) (hn : n ≤ 140737488351232) :
    Calls Try.prog 7 #[.int .i64 d, .slice A n c] w fun e w' => e = .returned (.bool true) ∧ Below w.heap.size w w' := by
  have HT := hide ht; clear ht
  go_enter Try.func7, Try.ntmps7
  go_wp2_with fail
  go_loopw [6, 7] (fun v6 v7 wr => ∃ (i : Nat) (p cl : Int), i ≤ n ∧ i ≤ 200 ∧ v7 = .int .i64 i ∧ v6 = .int .i64 p ∧ Hid (Runs d p cl) ∧ Hid (wr.heap[w.heap.size]? = some (.cells #[.int .i64 cl] 23)) ∧ Hid (Below w.heap.size w wr)) (fun _ y _ => 200 - (intOf y).toNat)
  case atStart => exact ⟨0, 0, 0, by omega, by omega, rfl, rfl, hide (.inl ⟨rfl, rfl⟩), hide (heap_alloc_new _ _), hide ((Below.refl _ _).alloc (Nat.le_refl _) _)⟩
  case round =>
    obtain ⟨i, p, cl, hin, hi2, rfl, rfl, HR, HC, HW⟩ := hrel
    have hcl : wr.cell? ⟨w.heap.size, 0, none⟩ = some (.int .i64 cl) := by rw [cell_of_row wr _ _ _ _ _ HC.out]; rfl
    have hzz : w.heap.size < wr.heap.size := (Array.getElem?_eq_some_iff.1 HC.out).1
    obtain ⟨p0, p1, cl0, cl1⟩ := HR.out.bounds
    by_cases hgo : i < n ∧ i < 200
    · obtain ⟨g1, g2⟩ := hgo
      obtain ⟨b, off, rfl, hbb, hc⟩ := (HT.out.below HW.out (Nat.le_refl _)).2 (by omega)
      obtain ⟨t, htk⟩ : ∃ t, ts[i]? = some t := ⟨_, List.getElem?_eq_getElem (by have := HT.out.1; omega)⟩
      obtain ⟨c0, c1, c2⟩ := hc i t htk
      clear hc htk
      obtain ⟨u, r, o⟩ := t
      have K1 := hide (turn_any cl u r)
      obtain ⟨q, hq⟩ : ∃ q, turnI cl u r = q := ⟨_, rfl⟩
      rw [hq] at K1
      obtain ⟨t1, t2⟩ := q
      have HQ := hide hq; clear hq
      go_wp2_with fail
      refine (K1.out _).mono ?_
      rintro e w1 ⟨rfl, hb1⟩
      have d0 : w1.cell? ⟨w.heap.size, 0, none⟩ = some (.int .i64 cl) := (hb1.cell (p := ⟨w.heap.size, 0, none⟩) (by simp; omega)).trans ((World.cell?_alloc_lt wr _ ⟨w.heap.size, 0, none⟩ hzz).trans hcl)
      have d1 : w1.cell? ⟨wr.heap.size, 0, none⟩ = some (.int .i64 u) := (hb1.cell (p := ⟨wr.heap.size, 0, none⟩) (by simp)).trans (World.cell?_alloc_at _ _ _ _ rfl)
      have d2 : w1.cell? ⟨wr.heap.size, 1, none⟩ = some (.int .i64 r) := (hb1.cell (p := ⟨wr.heap.size, 1, none⟩) (by simp)).trans (World.cell?_alloc_at _ _ _ _ rfl)
      have G1 := hide ((hb1.block w.heap.size (by simp; omega)).trans ((Below.heap_alloc wr _ _ hzz).trans HC.out))
      have d3 : w1.frozen? ⟨w.heap.size, 0, none⟩ = false := frozen_of_row _ _ _ _ _ G1.out
      have hz1 : wr.heap.size < w1.heap.size := by have := hb1.size; simp at this; omega
      have hz0 : w.heap.size < w1.heap.size := by omega
      have B1 := hide ((HW.out.alloc HW.out.size (.cells #[.int .i64 u, .int .i64 r, .int .i64 o] 39)).trans (hb1.mono (by simp; omega)))
      clear hb1
      by_cases he : t2 = 0
      · subst he
        have K2 := hide (within_any r d)
        obtain ⟨y, hy⟩ : ∃ y, withinB r d = y := ⟨_, rfl⟩
        rw [hy] at K2
        have HY := hide hy; clear hy
        cases y
        · go_wp2_with fail
          refine (K2.out _).mono ?_
          rintro e w2 ⟨rfl, rfl⟩
          go_wp2_with fail
          refine (known_any _).mono ?_
          rintro e w3 ⟨rfl, hb3⟩
          go_wp2_with fail
          go_ret
          exact ⟨rfl, (B1.out.alloc B1.out.size _).trans (hb3.mono (by have := B1.out.size; simp; omega))⟩
        · obtain ⟨-, u0, u1, -, -, -⟩ := turnI_ok HQ.out
          go_wp2_with fail
          refine (K2.out _).mono ?_
          rintro e w2 ⟨rfl, rfl⟩
          go_wp2_with fail
          go_roundw
          case rel =>
            refine ⟨i + 1, p + u, t1, by omega, by omega, by go_num, rfl, hide (HR.out.step HQ.out HY.out), hide ?_, hide ?_⟩
            · rw [Below.heap_alloc _ _ _ (by simp; omega), heap_setCell_same _ _ _ _ _ _ G1.out]; rfl
            · exact (B1.out.setCell (by simp) _).alloc (by simp; omega) _
          case measure => simp [intOf]; omega
      · have he' : (t2 != 0) = true := by rw [bne_iff_ne]; exact he
        clear he
        go_wp2_with fail
        refine (known_any _).mono ?_
        rintro e w3 ⟨rfl, hb3⟩
        go_wp2_with fail
        go_ret
        exact ⟨rfl, (B1.out.alloc B1.out.size _).trans (hb3.mono (by have := B1.out.size; simp; omega))⟩
    · have hgo' : i = n ∨ (i < n ∧ i = 200) := by omega
      obtain ⟨R, hR⟩ : ∃ R, R = readI cl := ⟨_, rfl⟩
      have hR' : R = cl / 1000 := by rw [hR]; unfold readI; rw [if_neg (by omega)]
      have K1 := hide (cread_any cl (by unfold I64; omega)); rw [← hR] at K1
      have r0 : 0 ≤ R := by omega
      have r1 : R ≤ 1099511627776 := by omega
      have HRR := hide hR'
      clear hR hR'
      by_cases hd : 0 ≤ d ∧ d ≤ 500
      · obtain ⟨hd0, hd1⟩ := hd
        have hright : rightB R d = true := by unfold rightB timeB withinB; simp; omega
        have K2 := hide (least_any R d)
        rw [show leastI R d = (leastV R d, 0) by simp [leastI, hright]] at K2
        have f1 : leastV R d ≤ p := by rw [HRR.out]; exact HR.out.least hd0
        generalize leastV R d = lv at K2 f1
        clear hright
        by_cases hm : R = 1099511627776
        · have hright : rightB 1099511627776 d = true := by unfold rightB timeB withinB; simp; omega
          have K3 := hide (most_any 1099511627776 d)
          rw [show mostI 1099511627776 d = (1099511627776 * 1000 / (1000 - d), 0) by simp [mostI, hright]] at K3
          generalize (1099511627776 * 1000 / (1000 - d) : Int) = mv at K3
          have hmb : (R == 1099511627776) = true := by rw [beq_iff_eq]; exact hm
          have HM := hide hm
          have hm1 : 1099511627776 < R + 1 := by omega
          clear hright hm
          by_cases hpm : p ≤ mv <;> rcases hgo' with h9 | ⟨g1, h9⟩ <;> subst h9
          all_goals
            go_wp2_with fail
            refine (K1.out _).mono ?_
            rintro e w1 ⟨rfl, hb1⟩
            have d1 := (hb1.cell (p := ⟨w.heap.size, 0, none⟩) hzz).trans hcl
            have z1 := Nat.lt_of_lt_of_le hzz hb1.size
            have B1 := hide (HW.out.trans (hb1.mono HW.out.size)); clear hb1
            go_wp2_with fail
            refine (K2.out _).mono ?_
            rintro e w2 ⟨rfl, rfl⟩
            go_wp2_with fail
            refine (K1.out _).mono ?_
            rintro e w2 ⟨rfl, hb2⟩
            have d2 := (hb2.cell (p := ⟨w.heap.size, 0, none⟩) z1).trans d1
            have z2 := Nat.lt_of_lt_of_le z1 hb2.size
            have B2 := hide (B1.out.trans (hb2.mono B1.out.size)); clear hb2
            go_wp2_with fail
            refine (K3.out _).mono ?_
            rintro e w3 ⟨rfl, rfl⟩
            go_wp2_with fail
            refine (known_any _).mono ?_
            rintro e w3 ⟨rfl, hb3⟩
            have d3 := (hb3.cell (p := ⟨w.heap.size, 0, none⟩) z2).trans d2
            have B3 := hide (B2.out.trans (hb3.mono B2.out.size)); clear hb3
            go_wp2_with fail
            first
              | (go_ret
                 exact ⟨ret_bool (by simp), B3.out⟩)
              | (refine (K1.out _).mono ?_
                 rintro e w4 ⟨rfl, hb4⟩
                 have B4 := hide (B3.out.trans (hb4.mono B3.out.size)); clear hb4
                 go_wp2_with fail
                 go_ret
                 exact ⟨ret_bool (by simp), B4.out⟩)
        · have hright : rightB (R + 1) d = true := by unfold rightB timeB withinB; simp; omega
          have K3 := hide (most_any (R + 1) d)
          rw [show mostI (R + 1) d = ((R + 1) * 1000 / (1000 - d), 0) by simp [mostI, hright]] at K3
          have f2 : p ≤ (R + 1) * 1000 / (1000 - d) := by rw [HRR.out]; exact HR.out.most hd0 hd1
          generalize (R + 1) * 1000 / (1000 - d) = mv at K3 f2
          have hm1 : R + 1 ≤ 1099511627776 := by omega
          clear hright hm
          rcases hgo' with h9 | ⟨g1, h9⟩ <;> subst h9
          all_goals
            go_wp2_with fail
            refine (K1.out _).mono ?_
            rintro e w1 ⟨rfl, hb1⟩
            have d1 := (hb1.cell (p := ⟨w.heap.size, 0, none⟩) hzz).trans hcl
            have z1 := Nat.lt_of_lt_of_le hzz hb1.size
            have B1 := hide (HW.out.trans (hb1.mono HW.out.size)); clear hb1
            go_wp2_with fail
            refine (K2.out _).mono ?_
            rintro e w2 ⟨rfl, rfl⟩
            go_wp2_with fail
            refine (K1.out _).mono ?_
            rintro e w2 ⟨rfl, hb2⟩
            have d2 := (hb2.cell (p := ⟨w.heap.size, 0, none⟩) z1).trans d1
            have B2 := hide (B1.out.trans (hb2.mono B1.out.size)); clear hb2
            go_wp2_with fail
            refine (K3.out _).mono ?_
            rintro e w3 ⟨rfl, rfl⟩
            go_wp2_with fail
            refine (known_any _).mono ?_
            rintro e w3 ⟨rfl, hb3⟩
            have B3 := hide (B2.out.trans (hb3.mono B2.out.size)); clear hb3
            go_wp2_with fail
            go_ret
            exact ⟨ret_bool (by simp), B3.out⟩
      · have hno : ∀ m, rightB m d = false := by intro m; unfold rightB withinB; simp; intros; omega
        have K2 := hide (least_any R d)
        rw [show leastI R d = (0, 1) by simp [leastI, hno]] at K2
        have K3 := hide (fun m => most_any m d)
        have HNO := hide hno
        clear hno
        have hdd : d < 0 ∨ (0 ≤ d ∧ 500 < d) := by omega
        clear hd
        rcases hdd with h8 | ⟨h7, h8⟩ <;> rcases hgo' with h9 | ⟨g1, h9⟩ <;> subst h9
        all_goals
          go_wp2_with fail
          refine (K1.out _).mono ?_
          rintro e w1 ⟨rfl, hb1⟩
          have d1 := (hb1.cell (p := ⟨w.heap.size, 0, none⟩) hzz).trans hcl
          have z1 := Nat.lt_of_lt_of_le hzz hb1.size
          have B1 := hide (HW.out.trans (hb1.mono HW.out.size)); clear hb1
          go_wp2_with fail
          refine (K2.out _).mono ?_
          rintro e w2 ⟨rfl, rfl⟩
          go_wp2_with fail
          refine (K1.out _).mono ?_
          rintro e w2 ⟨rfl, hb2⟩
          have B2 := hide (B1.out.trans (hb2.mono B1.out.size)); clear hb2
          go_wp2_with fail
          all_goals
            refine (K3.out _ _).mono ?_
            rintro e w3 ⟨rfl, rfl⟩
            rw [show ∀ m, mostI m d = (0, 1) from fun m => by simp [mostI, HNO.out]]
            go_wp2_with fail
            refine (known_any _).mono ?_
            rintro e w3 ⟨rfl, hb3⟩
            have B3 := hide (B2.out.trans (hb3.mono B2.out.size)); clear hb3
            go_wp2_with fail
            go_ret
            exact ⟨ret_bool (by simp), B3.out⟩
end Go.Proofs.Ytfnncjppklpkcaa
