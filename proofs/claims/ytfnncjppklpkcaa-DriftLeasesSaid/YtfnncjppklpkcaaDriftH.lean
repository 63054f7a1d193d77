/-
  The walk of the law DriftLeases.
-/
import Derived.Test.YtfnncjppklpkcaaDriftG
import Derived.Test.YtfnncjppklpkcaaExt
import Derived.RegionTactic
import Derived.BigRegion
namespace Go.Proofs.Ytfnncjppklpkcaa
open Go.RowKit

/-- two clocks, so much true time behind their beginning -/
def Both (d c1 c2 p x1 x2 : Int) : Prop :=
  (p = 0 ∧ x1 = c1 ∧ x2 = c2) ∨ (0 ≤ c1 ∧ 0 ≤ c2 ∧ 0 ≤ p ∧ (1000 - d) * p ≤ x1 - c1 ∧ x1 - c1 ≤ (1000 + d) * p ∧ (1000 - d) * p ≤ x2 - c2 ∧ x2 - c2 ≤ (1000 + d) * p ∧ 0 ≤ x1 ∧ x1 ≤ 1099511627776000 ∧ 0 ≤ x2 ∧ x2 ≤ 1099511627776000)
theorem Both.step {d c1 c2 p x1 x2 u r o y1 y2 : Int} (h : Both d c1 c2 p x1 x2) (h1 : turnI x1 u r = (y1, 0)) (h2 : turnI x2 u o = (y2, 0)) (hr : withinB r d = true) (ho : withinB o d = true) :
    Both d c1 c2 (p + u) y1 y2 ∧ 0 ≤ c1 ∧ 0 ≤ c2 ∧ (1000 - d) * (p + u) ≤ y1 - c1 ∧ y1 - c1 ≤ (1000 + d) * (p + u) ∧ (1000 - d) * (p + u) ≤ y2 - c2 ∧ 0 ≤ y1 ∧ y1 ≤ 1099511627776000 ∧ 0 ≤ y2 ∧ y2 ≤ 1099511627776000 ∧ 0 ≤ p + u := by
  obtain ⟨e1, u0, _, t1, g1, _⟩ := turnI_ok h1
  obtain ⟨e2, _, _, t2, g2, _⟩ := turnI_ok h2
  obtain ⟨d0, d1, r0, r1⟩ := within_bounds hr
  obtain ⟨_, _, o0, o1⟩ := within_bounds ho
  have m1 : u * (1000 - d) ≤ u * (1000 + r) := Int.mul_le_mul_of_nonneg_left (by omega) u0
  have m2 : u * (1000 + r) ≤ u * (1000 + d) := Int.mul_le_mul_of_nonneg_left (by omega) u0
  have m3 : u * (1000 - d) ≤ u * (1000 + o) := Int.mul_le_mul_of_nonneg_left (by omega) u0
  have m4 : u * (1000 + o) ≤ u * (1000 + d) := Int.mul_le_mul_of_nonneg_left (by omega) u0
  have m5 : 0 ≤ u * (1000 - d) := Int.mul_nonneg u0 (by omega)
  have a1 : (1000 - d) * (p + u) = (1000 - d) * p + u * (1000 - d) := by rw [Int.mul_add, Int.mul_comm u]
  have a2 : (1000 + d) * (p + u) = (1000 + d) * p + u * (1000 + d) := by rw [Int.mul_add, Int.mul_comm u]
  rcases h with ⟨hp, hx1, hx2⟩ | ⟨s1, s2, p0, l1, k1, l2, k2, q1, q2, q3, q4⟩
  · subst hp; subst hx1; subst hx2
    rw [Int.mul_zero] at a1 a2
    have key : (1000 - d) * (0 + u) ≤ y1 - x1 ∧ y1 - x1 ≤ (1000 + d) * (0 + u) ∧ (1000 - d) * (0 + u) ≤ y2 - x2 ∧ y2 - x2 ≤ (1000 + d) * (0 + u) := by
      rw [a1, a2]; omega
    obtain ⟨k1, k2, k3, k4⟩ := key
    exact ⟨.inr ⟨g1, g2, by omega, k1, k2, k3, k4, by omega, t1, by omega, t2⟩, g1, g2, k1, k2, k3, by omega, t1, by omega, t2, by omega⟩
  · have key : (1000 - d) * (p + u) ≤ y1 - c1 ∧ y1 - c1 ≤ (1000 + d) * (p + u) ∧ (1000 - d) * (p + u) ≤ y2 - c2 ∧ y2 - c2 ≤ (1000 + d) * (p + u) := by
      rw [a1, a2]; omega
    obtain ⟨k1, k2, k3, k4⟩ := key
    exact ⟨.inr ⟨s1, s2, by omega, k1, k2, k3, k4, by omega, t1, by omega, t2⟩, s1, s2, k1, k2, k3, by omega, t1, by omega, t2, by omega⟩
/-- THE LEASE: once one clock is over by the term, the other one isn't live by the short term -/
theorem lease_law {d c1 c2 p y1 y2 term : Int} (hd : 0 ≤ d) (hd' : d ≤ 500) (h1 : 0 ≤ c1) (h2 : 0 ≤ c2) (hy1 : 0 ≤ y1) (hy2 : 0 ≤ y2)
    (k1 : y1 - c1 ≤ (1000 + d) * p) (k2 : (1000 - d) * p ≤ y2 - c2) (ho : overB (readI c1) (readI y1) term = true) :
    liveB (readI c2) (readI y2) (term * (1000 - d) / (1000 + d)) = false := by
  have rd : ∀ x, 0 ≤ x → readI x = x / 1000 := fun x hx => by unfold readI; rw [if_neg (by omega)]
  rw [rd _ h1, rd _ hy1] at ho
  rw [rd _ h2, rd _ hy2]
  have ho' : term < y1 / 1000 - c1 / 1000 := of_decide_eq_true ho
  have a1 : 1000 * term < (1000 + d) * p := by omega
  have q1 := div_lo (a := term * (1000 - d)) (b := 1000 + d) (by omega)
  generalize term * (1000 - d) / (1000 + d) = s at q1
  have b1 : 1000 * (s * (1000 + d)) ≤ 1000 * (term * (1000 - d)) := by omega
  have b2 : (1000 * term) * (1000 - d) < ((1000 + d) * p) * (1000 - d) := Int.mul_lt_mul_of_pos_right a1 (by omega)
  have b3 : ((1000 - d) * p) * (1000 + d) ≤ (y2 - c2) * (1000 + d) := Int.mul_le_mul_of_nonneg_right k2 (by omega)
  have e1 : (1000 * term) * (1000 - d) = 1000 * (term * (1000 - d)) := Int.mul_assoc _ _ _
  have e2 : ((1000 + d) * p) * (1000 - d) = ((1000 - d) * p) * (1000 + d) := by
    rw [Int.mul_comm (1000 + d) p, Int.mul_comm (1000 - d) p, Int.mul_assoc, Int.mul_assoc, Int.mul_comm (1000 + d)]
  have e3 : 1000 * (s * (1000 + d)) = (1000 * s) * (1000 + d) := (Int.mul_assoc _ _ _).symm
  have b4 : 1000 * s < y2 - c2 := lt_of_mul (b := 1000 + d) (by omega) (by omega)
  unfold liveB
  rw [decide_eq_false_iff_not]
  omega
theorem readI_I64 {c : Int} (h : I64 c) : I64 (readI c) := by unfold I64 at *; unfold readI; split <;> omega

set_option maxRecDepth 100000 in
set_option maxHeartbeats 2000000 in
theorem leases_walk (c1 c2 term d : Int) (A : Option Addr) (n c : Nat) (ts : List Two) (w : World) (h1 : I64 c1) (h2 : I64 c2) (ht : SlTwo w w.heap.size A n ts) (hn : n ≤ 140737488351232) :
    Calls Try.prog 5 #[.int .i64 c1, .int .i64 c2, .int .i64 term, .int .i64 d, .slice A n c] w fun e w' => e = .returned (.bool true) ∧ Below w.heap.size w w' := by
  have HT := hide ht; clear ht
  have K0 := hide (short_any term d)
  cases hrt : rightB term d
  · rw [show shortI term d = (0, 1) by simp [shortI, hrt]] at K0
    clear hrt
    go_enter Try.func5, Try.ntmps5
    go_wp2_with fail
    refine (K0.out _).mono ?_
    rintro e w1 ⟨rfl, rfl⟩
    go_wp2_with fail
    refine (known_any _).mono ?_
    rintro e w1 ⟨rfl, hb1⟩
    go_wp2_with fail
    refine (known_any _).mono ?_
    rintro e w2 ⟨rfl, hb2⟩
    go_wp2_with fail
    go_ret
    exact ⟨rfl, hb1.trans (hb2.mono hb1.size)⟩
  · obtain ⟨r1, r2, r3, r4⟩ := right_bounds hrt
    obtain ⟨sh, hsh⟩ : ∃ sh, sh = term * (1000 - d) / (1000 + d) := ⟨_, rfl⟩
    rw [show shortI term d = (sh, 0) by simp [shortI, hrt, hsh]] at K0
    have s0 : 0 ≤ sh := by rw [hsh]; exact Int.ediv_nonneg (Int.mul_nonneg r1 (by omega)) (by omega)
    have s1 : sh ≤ 1099511627776000 := by
      rw [hsh]
      have e1 : term * (1000 - d) / (1000 + d) ≤ term * (1000 - d) := Int.ediv_le_self _ (Int.mul_nonneg r1 (by omega))
      have e2 : term * (1000 - d) ≤ 1099511627776 * 1000 := Int.mul_le_mul r2 (by omega) (by omega) (by omega)
      omega
    have HSH := hide hsh
    clear hsh hrt
    have KA := hide (cread_any c1 h1)
    have KB := hide (cread_any c2 h2)
    obtain ⟨ra, hra⟩ : ∃ ra, ra = readI c1 := ⟨_, rfl⟩
    obtain ⟨rb, hrb⟩ : ∃ rb, rb = readI c2 := ⟨_, rfl⟩
    have ia : I64 ra := by rw [hra]; exact readI_I64 h1
    have ib : I64 rb := by rw [hrb]; exact readI_I64 h2
    rw [← hra] at KA; rw [← hrb] at KB
    have HRA := hide hra; have HRB := hide hrb
    clear hra hrb
    go_enter Try.func5, Try.ntmps5
    go_wp2_with fail
    refine (K0.out _).mono ?_
    rintro e w1 ⟨rfl, rfl⟩
    go_wp2_with fail
    refine (known_any _).mono ?_
    rintro e w1 ⟨rfl, hb1⟩
    have B1 := hide hb1; clear hb1
    go_wp2_with fail
    have hsz : (w1.alloc (.cells #[.int .i64 c1] 23)).heap.size = w1.heap.size + 1 := World.size_alloc _ _
    have GA0 := hide ((Below.heap_alloc (w1.alloc (.cells #[.int .i64 c1] 23)) (.cells #[.int .i64 c2] 23) w1.heap.size (by rw [hsz]; omega)).trans (heap_alloc_new w1 (.cells #[.int .i64 c1] 23)))
    have GB0 := hide (heap_alloc_new (w1.alloc (.cells #[.int .i64 c1] 23)) (.cells #[.int .i64 c2] 23))
    rw [hsz] at GB0
    have BX := hide ((B1.out.alloc B1.out.size (.cells #[.int .i64 c1] 23)).alloc (by rw [hsz]; have := B1.out.size; omega) (.cells #[.int .i64 c2] 23))
    have hxs : w1.heap.size + 1 < ((w1.alloc (.cells #[.int .i64 c1] 23)).alloc (.cells #[.int .i64 c2] 23)).heap.size := by rw [World.size_alloc, hsz]; omega
    clear hsz
    generalize (w1.alloc (.cells #[.int .i64 c1] 23)).alloc (.cells #[.int .i64 c2] 23) = X at GA0 GB0 BX hxs ⊢
    have xa : ∀ p : Ext X, (extW X p).cell? ⟨w1.heap.size, 0, none⟩ = some (.int .i64 c1) := fun p => by
      rw [(extW_below X p).cell (p := ⟨w1.heap.size, 0, none⟩) (by simp; omega), cell_of_row X _ _ _ _ _ GA0.out]; rfl
    have xb : ∀ p : Ext X, (extW X p).cell? ⟨w1.heap.size + 1, 0, none⟩ = some (.int .i64 c2) := fun p => by
      rw [(extW_below X p).cell (p := ⟨w1.heap.size + 1, 0, none⟩) (by simp; omega), cell_of_row X _ _ _ _ _ GB0.out]; rfl
    refine wp_region_ext (by kernel_rfl) (by kernel_rfl) ?_
    repeat (go_big_quiet_step (with_reducible first
      | exact ext_call _ (KA.out _)
      | exact ext_call _ (KB.out _)))
    refine wpQuiet_nil ?_
    intro _ hw'
    obtain ⟨p, hw''⟩ := hw'
    subst hw''
    have GA := hide (((extW_below X p).block w1.heap.size (by omega)).trans GA0.out)
    have GB := hide (((extW_below X p).block (w1.heap.size + 1) (by omega)).trans GB0.out)
    have BY := hide (BX.out.trans ((extW_below X p).mono BX.out.size))
    have hz1 := B1.out.size
    clear xa xb GA0 GB0 BX
    generalize extW X p = Y at GA GB BY ⊢
    clear hxs
    obtain ⟨G, hG⟩ : ∃ G, G = w1.heap.size := ⟨_, rfl⟩
    rw [← hG] at GA GB hz1 ⊢
    clear hG
    go_wp2_with fail
    go_loopw [17] (fun v17 wr => ∃ (i : Nat) (p x1 x2 : Int), i ≤ n ∧ i ≤ 200 ∧ v17 = .int .i64 i ∧ Hid (Both d c1 c2 p x1 x2) ∧ Hid (wr.heap[G]? = some (.cells #[.int .i64 x1] 23)) ∧ Hid (wr.heap[G + 1]? = some (.cells #[.int .i64 x2] 23)) ∧ Hid (Below w.heap.size w wr)) (fun y _ => 200 - (intOf y).toNat)
    case atStart => exact ⟨0, 0, c1, c2, by omega, by omega, rfl, hide (.inl ⟨rfl, rfl, rfl⟩), GA, GB, BY⟩
    case round =>
      clear GA GB BY
      obtain ⟨i, p, x1, x2, hin, hi2, rfl, HR, HA, HB, HW⟩ := hrel
      have ha := cell_of_row wr _ 0 _ _ _ HA.out
      have hb := cell_of_row wr _ 0 _ _ _ HB.out
      have hzA : G < wr.heap.size := (Array.getElem?_eq_some_iff.1 HA.out).1
      have hzB : G + 1 < wr.heap.size := (Array.getElem?_eq_some_iff.1 HB.out).1
      by_cases hgo : i < n ∧ i < 200
      · obtain ⟨g1, g2⟩ := hgo
        obtain ⟨b, off, rfl, hbb, hc⟩ := (HT.out.below HW.out (Nat.le_refl _)).2 (by omega)
        obtain ⟨t, htk⟩ : ∃ t, ts[i]? = some t := ⟨_, List.getElem?_eq_getElem (by have := HT.out.1; omega)⟩
        obtain ⟨e0, e1, e2⟩ := hc i t htk
        clear hc htk
        obtain ⟨u, r, o⟩ := t
        have KW1 := hide (within_any r d)
        have KW2 := hide (within_any o d)
        have BT := hide (HW.out.alloc HW.out.size (.cells #[.int .i64 u, .int .i64 r, .int .i64 o] 39))
        obtain ⟨s1, hs1⟩ : ∃ s1, withinB r d = s1 := ⟨_, rfl⟩
        obtain ⟨s2, hs2⟩ : ∃ s2, withinB o d = s2 := ⟨_, rfl⟩
        rw [hs1] at KW1; rw [hs2] at KW2
        have HS1 := hide hs1; have HS2 := hide hs2; clear hs1 hs2
        cases s1
        · go_wp2_with fail
          refine (KW1.out _).mono ?_
          rintro e v1 ⟨rfl, rfl⟩
          go_wp2_with fail
          go_ret
          exact ⟨rfl, BT.out⟩
        cases s2
        · go_wp2_with fail
          refine (KW1.out _).mono ?_
          rintro e v1 ⟨rfl, rfl⟩
          go_wp2_with fail
          refine (KW2.out _).mono ?_
          rintro e v1 ⟨rfl, rfl⟩
          go_wp2_with fail
          go_ret
          exact ⟨rfl, BT.out⟩
        have KT1 := hide (turn_any x1 u r)
        have KT2 := hide (turn_any x2 u o)
        obtain ⟨q1, hq1⟩ : ∃ q, turnI x1 u r = q := ⟨_, rfl⟩
        obtain ⟨q2, hq2⟩ : ∃ q, turnI x2 u o = q := ⟨_, rfl⟩
        rw [hq1] at KT1; rw [hq2] at KT2
        obtain ⟨y1, f1⟩ := q1
        obtain ⟨y2, f2⟩ := q2
        have HQ1 := hide hq1; have HQ2 := hide hq2; clear hq1 hq2
        go_wp2_with fail
        refine (KW1.out _).mono ?_
        rintro e v1 ⟨rfl, rfl⟩
        go_wp2_with fail
        refine (KW2.out _).mono ?_
        rintro e v1 ⟨rfl, rfl⟩
        go_wp2_with fail
        refine (KT1.out _).mono ?_
        rintro e v1 ⟨rfl, hb1⟩
        have A1 := hide ((hb1.block G (by simp; omega)).trans ((Below.heap_alloc wr _ _ hzA).trans HA.out))
        have Bb1 := hide ((hb1.block (G + 1) (by simp; omega)).trans ((Below.heap_alloc wr _ _ hzB).trans HB.out))
        have T1 := hide ((hb1.block wr.heap.size (by simp)).trans (heap_alloc_new wr _))
        have b1 := cell_of_row v1 _ 0 _ _ _ Bb1.out
        have t10 := cell_of_row v1 _ 0 _ _ _ T1.out
        have t12 := cell_of_row v1 _ 2 _ _ _ T1.out
        have z1 : wr.heap.size < v1.heap.size := by have := hb1.size; simp at this; omega
        have hzA1 : G < v1.heap.size := by omega
        have hzB1 : G + 1 < v1.heap.size := by omega
        have BV1 := hide (BT.out.trans (hb1.mono BT.out.size)); clear hb1
        go_wp2_with fail
        refine (KT2.out _).mono ?_
        rintro e v2 ⟨rfl, hb2⟩
        have A2 := hide ((hb2.block G (by simp; omega)).trans ((Below.heap_alloc v1 _ _ hzA1).trans A1.out))
        have Bb2 := hide ((hb2.block (G + 1) (by simp; omega)).trans ((Below.heap_alloc v1 _ _ hzB1).trans Bb1.out))
        have X2 := hide ((hb2.block v1.heap.size (by simp)).trans (heap_alloc_new v1 _))
        have a2 := cell_of_row v2 _ 0 _ _ _ A2.out
        have b2 := cell_of_row v2 _ 0 _ _ _ Bb2.out
        have x2' := cell_of_row v2 _ 0 _ _ _ X2.out
        have fa2 := frozen_of_row v2 _ 0 _ _ A2.out
        have fb2 := frozen_of_row v2 _ 0 _ _ Bb2.out
        have z2 : v1.heap.size < v2.heap.size := by have := hb2.size; simp at this; omega
        have hzA2 : G < v2.heap.size := by omega
        have hzB2 : G + 1 < v2.heap.size := by omega
        have BV2 := hide ((BV1.out.alloc BV1.out.size (.cells #[.int .i64 y1] 23)).trans (hb2.mono (by have := BV1.out.size; simp; omega))); clear hb2
        have BV3 := hide (BV2.out.alloc BV2.out.size (.cells #[.int .i64 y2] 23))
        by_cases hf1 : f1 = 0
        · by_cases hf2 : f2 = 0
          · subst hf1; subst hf2
            obtain ⟨hB', hc10, hc20, m1, m2, m3, hy10, hy11, hy20, hy21, hp0⟩ := HR.out.step HQ1.out HQ2.out HS1.out HS2.out
            have HB2 := hide hB'
            have HM := hide (⟨m1, m2, m3⟩ : _ ∧ _ ∧ _)
            have iy1 : I64 y1 := by unfold I64; omega
            have iy2 : I64 y2 := by unfold I64; omega
            have KR1 := hide (cread_any y1 iy1)
            have KR2 := hide (cread_any y2 iy2)
            obtain ⟨R1, hR1⟩ : ∃ R1, R1 = readI y1 := ⟨_, rfl⟩
            obtain ⟨R2, hR2⟩ : ∃ R2, R2 = readI y2 := ⟨_, rfl⟩
            have iR1 : I64 R1 := by rw [hR1]; exact readI_I64 iy1
            have iR2 : I64 R2 := by rw [hR2]; exact readI_I64 iy2
            rw [← hR1] at KR1; rw [← hR2] at KR2
            have HR1 := hide hR1; have HR2 := hide hR2
            have KO := hide (over_any ra R1 term ia iR1 (by unfold I64; omega))
            have KL := hide (live_any rb R2 sh ib iR2 (by unfold I64; omega))
            have AZ : Hid (((((v2.setCell ⟨G, 0, none⟩ (.int .i64 y1)).setCell ⟨G + 1, 0, none⟩ (.int .i64 y2)).alloc (.cells #[.int .i64 y2] 23)).drew).heap[G]? = some (.cells #[.int .i64 y1] 23)) := hide (by
              rw [heap_drew, Below.heap_alloc _ _ _ (by simp; omega), heap_setCell_other _ _ _ _ (by simp), heap_setCell_same _ _ _ _ _ _ A2.out]; rfl)
            have BZ : Hid (((((v2.setCell ⟨G, 0, none⟩ (.int .i64 y1)).setCell ⟨G + 1, 0, none⟩ (.int .i64 y2)).alloc (.cells #[.int .i64 y2] 23)).drew).heap[G + 1]? = some (.cells #[.int .i64 y2] 23)) := hide (by
              rw [heap_drew, Below.heap_alloc _ _ _ (by simp; omega), heap_setCell_same _ _ _ _ _ _ ((heap_setCell_other _ _ _ _ (by simp)).trans Bb2.out)]; rfl)
            have WZ : Hid (Below w.heap.size w ((((v2.setCell ⟨G, 0, none⟩ (.int .i64 y1)).setCell ⟨G + 1, 0, none⟩ (.int .i64 y2)).alloc (.cells #[.int .i64 y2] 23)).drew)) := hide
              (((BV2.out.setCell (p := ⟨G, 0, none⟩) hz1 _).setCell (p := ⟨G + 1, 0, none⟩) (by simp; omega) _).alloc (by have := BV2.out.size; simp; omega) _).drew
            clear hB' m1 m2 m3 hR1 hR2 iy1 iy2 iR1 iR2
            cases hov : overB ra R1 term
            · rw [hov] at KO; clear hov
              go_wp2_with fail
              go_region
              go_wp2_with fail
              generalize ((((v2.setCell ⟨G, 0, none⟩ (.int .i64 y1)).setCell ⟨G + 1, 0, none⟩ (.int .i64 y2)).alloc (.cells #[.int .i64 y2] 23)).drew) = Z at AZ BZ WZ ⊢
              refine (KR1.out _).mono ?_
              rintro e v3 ⟨rfl, hb3⟩
              have A3 := hide ((hb3.block G (Array.getElem?_eq_some_iff.1 AZ.out).1).trans AZ.out)
              have B3 := hide ((hb3.block (G + 1) (Array.getElem?_eq_some_iff.1 BZ.out).1).trans BZ.out)
              have W3 := hide (WZ.out.trans (hb3.mono WZ.out.size)); clear hb3
              go_wp2_with fail
              refine (KO.out _).mono ?_
              rintro e v4 ⟨rfl, rfl⟩
              go_wp2_with fail
              go_roundw
              case rel => exact ⟨i + 1, p + u, y1, y2, by omega, by omega, by go_num, HB2, A3, B3, W3⟩
              case measure => simp [intOf]; omega
            · have hlv : liveB rb R2 sh = false := by
                rw [HRB.out, HR2.out, HSH.out]
                exact lease_law r3 r4 hc10 hc20 hy10 hy20 HM.out.2.1 HM.out.2.2 (by rw [← HRA.out, ← HR1.out]; exact hov)
              rw [hov] at KO; rw [hlv] at KL; clear hov hlv
              go_wp2_with fail
              go_region
              go_wp2_with fail
              generalize ((((v2.setCell ⟨G, 0, none⟩ (.int .i64 y1)).setCell ⟨G + 1, 0, none⟩ (.int .i64 y2)).alloc (.cells #[.int .i64 y2] 23)).drew) = Z at AZ BZ WZ ⊢
              refine (KR1.out _).mono ?_
              rintro e v3 ⟨rfl, hb3⟩
              have A3 := hide ((hb3.block G (Array.getElem?_eq_some_iff.1 AZ.out).1).trans AZ.out)
              have B3 := hide ((hb3.block (G + 1) (Array.getElem?_eq_some_iff.1 BZ.out).1).trans BZ.out)
              have W3 := hide (WZ.out.trans (hb3.mono WZ.out.size)); clear hb3
              have b3 := cell_of_row v3 _ 0 _ _ _ B3.out
              go_wp2_with fail
              refine (KO.out _).mono ?_
              rintro e v4 ⟨rfl, rfl⟩
              go_wp2_with fail
              refine (KR2.out _).mono ?_
              rintro e v4 ⟨rfl, hb4⟩
              have A4 := hide ((hb4.block G (Array.getElem?_eq_some_iff.1 A3.out).1).trans A3.out)
              have B4 := hide ((hb4.block (G + 1) (Array.getElem?_eq_some_iff.1 B3.out).1).trans B3.out)
              have W4 := hide (W3.out.trans (hb4.mono W3.out.size)); clear hb4
              go_wp2_with fail
              refine (KL.out _).mono ?_
              rintro e v5 ⟨rfl, rfl⟩
              go_wp2_with fail
              go_roundw
              case rel => exact ⟨i + 1, p + u, y1, y2, by omega, by omega, by go_num, HB2, A4, B4, W4⟩
              case measure => simp [intOf]; omega
          · have hf2' : (f2 != 0) = true := by rw [bne_iff_ne]; exact hf2
            clear hf2
            subst hf1
            go_wp2_with fail
            go_ret
            exact ⟨rfl, BV3.out⟩
        · have hf1' : (f1 != 0) = true := by rw [bne_iff_ne]; exact hf1
          clear hf1
          go_wp2_with fail
          go_ret
          exact ⟨rfl, BV3.out⟩
      · have hgo' : i = n ∨ (i < n ∧ i = 200) := by omega
        rcases hgo' with h9 | ⟨g1, h9⟩ <;> subst h9
        all_goals
          go_wp2_with fail
          go_ret
          exact ⟨rfl, HW.out⟩
end Go.Proofs.Ytfnncjppklpkcaa
