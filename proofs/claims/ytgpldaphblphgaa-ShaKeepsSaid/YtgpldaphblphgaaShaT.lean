/-
  The walk of the law ShaKeeps.
-/
import Derived.Test.YtgpldaphblphgaaShaU
import Derived.Test.YtgpldaphblphgaaRoom
namespace Go.Proofs.Ytgpldaphblphgaa
open Go.RowKit Go.Great

/-- n cells of bytes, whichever -/
def AnyB (w : World) (g n : Nat) : Prop := ∃ cs : Array Value, w.heap[g]? = some (.cells cs 5 (0, 0)) ∧ ∀ k, k < n → ∃ x : UInt8, cs[k]? = some (.int .u8 (x.toNat : Int))
theorem AnyB.cell {w : World} {g n k : Nat} (h : AnyB w g n) (hk : k < n) : ∃ x : UInt8, w.cell? ⟨g, k, none⟩ = some (.int .u8 (x.toNat : Int)) := by
  obtain ⟨cs, h1, h2⟩ := h
  obtain ⟨x, hx⟩ := h2 k hk
  exact ⟨x, by rw [cell_of_row _ _ _ _ _ _ h1]; exact hx⟩
theorem AnyB.free {w : World} {g n : Nat} (h : AnyB w g n) (k : Nat) : w.frozen? ⟨g, k, none⟩ = false := by
  obtain ⟨cs, h1, _⟩ := h
  exact frozen_of_row w g k _ _ h1
theorem AnyB.set {w : World} {g n : Nat} (h : AnyB w g n) (k : Nat) (z : Int) (hz : 0 ≤ z ∧ z ≤ 255) : AnyB (w.setCell ⟨g, k, none⟩ (.int .u8 z)) g n := by
  obtain ⟨cs, h1, h2⟩ := h
  refine ⟨_, heap_setCell_same _ _ _ _ _ _ h1, fun j hj => ?_⟩
  obtain ⟨x, hx⟩ := h2 j hj
  by_cases e : k = j
  · subst e
    refine ⟨UInt8.ofNat z.toNat, ?_⟩
    have hl := (Array.getElem?_eq_some_iff.1 hx).1
    rw [Array.getElem?_setIfInBounds_self_of_lt hl, UInt8.toNat_ofNat']
    congr 2
    omega
  · exact ⟨x, by rw [Array.getElem?_setIfInBounds_ne e]; exact hx⟩

theorem held1_below {Z W : World} {gx : Nat} {D : List Value} (h : Below Z.heap.size Z W ∧ W.rangeAt gx 0 D) : Below Z.heap.size Z W := h.1
theorem held1_keep {Z W X : World} {gx n : Nat} {D : List Value} (hb : Below n W X) (hn : n = W.heap.size) (h : Below Z.heap.size Z W ∧ W.rangeAt gx 0 D) : Below Z.heap.size Z X ∧ X.rangeAt gx 0 D := by
  subst hn
  exact ⟨h.1.trans (hb.mono h.1.size), range_below h.2 hb⟩
theorem held1_alloc {Z W : World} {gx : Nat} {o : Obj} {D : List Value} (h : Below Z.heap.size Z W ∧ W.rangeAt gx 0 D) : Below Z.heap.size Z (W.alloc o) ∧ (W.alloc o).rangeAt gx 0 D :=
  held1_keep ((Below.refl _ _).alloc (Nat.le_refl _) _) rfl h

set_option maxHeartbeats 4000000 in
set_option maxRecDepth 100000 in
theorem keeps_walk (A B : Option Addr) (n c m d : Nat) (key bs : List UInt8) (w : World) (ha : SlB w w.heap.size A n key) (hb : SlB w w.heap.size B m bs) (hnc : n ≤ c) (hc : c ≤ 140737488351232) (hmd : m ≤ d) (hd : d ≤ 140737488351232) :
    Calls Try.prog 9 #[.slice A n c, .slice B m d] w fun e w' => e = .returned (.bool true) ∧ Below w.heap.size w w' := by
  have HA := hide ha; have HB := hide hb; have LB := hide hb.len; have LA := hide ha.len
  clear ha hb
  obtain ⟨D1, hD1⟩ : ∃ D, D = (Sha.mac key bs).map bv := ⟨_, rfl⟩
  obtain ⟨D2, hD2⟩ : ∃ D, D = ((Sha.sum bs).map bv).toArray := ⟨_, rfl⟩
  have e1 : ∀ w : World, (binOp .eql 26 (.agg D1.toArray) (.agg D1.toArray)).run Try.prog w = .ok (.bool true) w := fun w => by rw [hD1]; exact dig_eql_same _ (mac_length _ _) w
  have e2 : ∀ w : World, (binOp .eql 26 (.agg D2) (.agg D2)).run Try.prog w = .ok (.bool true) w := fun w => by rw [hD2]; exact dig_eql_same _ (Sha.sum_length _) w
  have h1 : D1.toArray.all (·.oneCell') = true := by rw [hD1]; exact bytes_one _
  have hs : D1.toArray.size = 32 := by rw [hD1]; simp [mac_length]
  have HD1 := hide hD1; have HD2 := hide hD2; have H1 := hide h1; have HSZ := hide hs
  clear hD1 hD2 h1 hs
  go_enter Try.func9, Try.ntmps9
  go_wp2_with fail
  refine (room_any A n c key _ HA.out (by omega)).mono ?_
  rintro e w1 ⟨rfl, hb, hr⟩
  obtain ⟨gk, hgk⟩ : ∃ gk, gk = w.heap.size := ⟨_, rfl⟩
  have RK : Hid (RowV w1 gk 5 (roomCells key)) := hide (by rw [hgk]; exact hr)
  have B1 := hide hb
  rw [← hgk]
  have hkw : w.heap.size ≤ gk := by omega
  clear hb hr hgk
  go_wp2_with fail
  refine (room_any B m d bs _ (HB.out.up B1.out) (by omega)).mono ?_
  rintro e w2 ⟨rfl, hb, hr⟩
  obtain ⟨gr, hgr⟩ : ∃ gr, gr = w1.heap.size := ⟨_, rfl⟩
  have RR : Hid (RowV w2 gr 5 (roomCells bs)) := hide (by rw [hgr]; exact hr)
  have hgkr : gk < gr := by have := RK.out.lt; omega
  have hrw : w.heap.size ≤ gr := by omega
  replace RK := hide (RK.out.below' hb)
  have B2 := hide (B1.out.trans (hb.mono B1.out.size))
  rw [← hgr]
  clear hb hr hgr B1
  go_wp2_with fail
  refine (hnew_any _).mono ?_
  rintro e w3 ⟨G, rfl, hg1, hs1, hb⟩
  have S3 := hide hs1
  have hGr : gr < G := by have := RR.out.lt; omega
  have B3 := hide (B2.out.trans (hb.mono B2.out.size))
  replace RK := hide (RK.out.below' hb); replace RR := hide (RR.out.below' hb)
  clear hb hs1 hg1 B2
  go_wp2_with fail
  refine (hwrite_any G [] bs (some ⟨gr, 0, none⟩) m (m + 3) _ S3.out (SlB.of_block RR.out RR.out.lt LB.out) (fun _ b off e => by injection e with e; injection e with e _ _; omega) (by omega) (by simp; omega) (by omega)).mono ?_
  rintro e w4 ⟨rfl, hs, hg⟩
  have B4 := hide (below_of_grown' B3.out hg B3.out.size (by omega))
  have S4 := hide hs
  replace RK := hide (row_grown RK.out hg (by omega)); replace RR := hide (row_grown RR.out hg (by omega))
  rw [List.nil_append] at S4
  clear hs hg S3 B3
  go_wp2_with fail
  have BA := hide (B4.out.alloc B4.out.size (.cells #[.slice (some ⟨gr, 0, none⟩) m (m + 3)] 22))
  refine (pmac_any key (some ⟨gk, 0, none⟩) n (n + 3) [bs] (some ⟨w4.heap.size, 0, none⟩) 1 1 _ (SlB.of_block (RK.out.alloc _) (RK.out.alloc _).lt LA.out) (parts1 (SlB.of_block RR.out RR.out.lt LB.out) (by omega) (by omega)) (by omega) (by omega) (by omega) (by have := LB.out; simp; omega) (by omega)).mono ?_
  rintro e w5 ⟨rfl, hb⟩
  rw [show [bs].flatten = bs by simp, ← HD1.out]
  have B5 := hide (BA.out.trans (hb.mono BA.out.size))
  replace RK := hide ((RK.out.alloc _).below' hb); replace RR := hide ((RR.out.alloc _).below' hb)
  have S5 := hide ((S4.out.below' ((Below.refl _ _).alloc (Nat.le_refl _) (.cells #[.slice (some ⟨gr, 0, none⟩) m (m + 3)] 22))).below' hb)
  clear hb S4 B4 BA
  go_upto_region 5 with ((with_reducible refine wpList_store_row rfl 26 (.tmp 8) (.tmp 21) rfl w5.heap.size D1.toArray rfl rfl 26 _ (heap_alloc_new w5 _) ?r1 ?r2 H1.out ?_))
  case r1 => rw [HSZ.out]; kernel_rfl
  case r2 => rw [HSZ.out]; rfl
  refine wp_world (fun X => RowV X w5.heap.size 26 D1 ∧ RowV X gk 5 (roomCells key) ∧ RowV X gr 5 (roomCells bs) ∧ StOf X G 54 bs ∧ Below w.heap.size w X ∧ X.heap.size = w5.heap.size + 1)
    ⟨row_set (heap_alloc_new w5 _), (RK.out.alloc _).setRow (by have := RK.out.lt; omega), (RR.out.alloc _).setRow (by have := RR.out.lt; omega), (S5.out.below' ((Below.refl _ _).alloc (Nat.le_refl _) _)).keep (row_set_other (by have := S5.out.lt; omega)), below_setRow (B5.out.alloc B5.out.size _) B5.out.size _, by simp⟩ ?_
  rintro X ⟨x1, x2, x3, x4, x5, x6⟩
  obtain ⟨gx, hgx⟩ : ∃ gx, gx = w5.heap.size := ⟨_, rfl⟩
  have S5l := S5.out.lt
  have hGx : G < gx := by omega
  rw [← hgx] at x1 ⊢
  clear hgx S5 B5 S5l RK RR x6
  have X1 := hide x1; have X2 := hide x2; have X3 := hide x3; have X4 := hide x4; have X5 := hide x5
  clear x1 x2 x3 x4 x5
  go_upto_region 5 with (fail)
  go_wp2_with fail
  refine (kept_any gk A n c key _ X2.out (HA.out.up X5.out) (by omega)).mono ?_
  rintro e w6 ⟨rfl, hb⟩
  have R6 := hide (X1.out.below' hb); have RR6 := hide (X3.out.below' hb); have S6 := hide (X4.out.below' hb); have B6 := hide (X5.out.trans (hb.mono X5.out.size))
  clear hb X1 X2 X3 X4 X5
  go_wp2_with fail
  refine (kept_any gr B m d bs _ RR6.out (HB.out.up B6.out) (by omega)).mono ?_
  rintro e w7 ⟨rfl, hb⟩
  have R7 := hide (R6.out.below' hb); have RR7 := hide (RR6.out.below' hb); have S7 := hide (S6.out.below' hb); have B7 := hide (B6.out.trans (hb.mono B6.out.size))
  clear hb R6 RR6 S6 B6
  have A7 : Hid (AnyB w7 gr m) := hide ⟨_, RR7.out, fun k hk => by
    have hkl : k < bs.length := by have := LB.out; omega
    refine ⟨bs[k], ?_⟩
    simp only [List.getElem?_toArray, roomCells]
    rw [List.getElem?_append_left (by simpa using hkl), List.getElem?_map, List.getElem?_eq_getElem hkl]
    rfl⟩
  clear RR7
  go_wp2_with fail
  go_loopw [9] (fun v9 wq => ∃ i : Nat, i ≤ m ∧ v9 = .int .i64 i ∧ Hid (AnyB wq gr m) ∧ Hid (RowV wq gx 26 D1) ∧ Hid (StOf wq G 54 bs) ∧ Hid (Below w.heap.size w wq)) (fun v _ => m - (intOf v).toNat)
  case atStart => exact ⟨0, by omega, rfl, A7, R7, S7, B7⟩
  case round =>
    clear A7 R7 S7 B7
    obtain ⟨i, hi, rfl, HN, R, S, BW⟩ := hrel
    by_cases hlt : i < m
    · obtain ⟨x, cx⟩ := HN.out.cell hlt
      have hf := HN.out.free i
      have hx := UInt8.toNat_lt x
      have b1 : (0 : Int) ≤ (i : Int) := by omega
      have b2 : (i : Int) < (m : Int) := by omega
      go_wp2_with fail
      go_roundw
      case rel =>
        refine ⟨i + 1, by omega, by go_num, hide (HN.out.set i _ ?hz), hide (R.out.set_other (by omega)), hide (S.out.keep (heap_setCell_other _ _ _ _ (show G ≠ gr by omega))), hide (BW.out.setCell (by omega) _)⟩
        case hz => omega
      case measure => simp [intOf]; omega
    · have hge : ¬ ((i : Int) < (m : Int)) := by omega
      clear HN
      go_upto_region 11 with (fail)
      refine wp_world (fun Y => RowV Y gx 26 D1 ∧ StOf Y G 54 bs ∧ Below w.heap.size w Y) ⟨R.out, S.out, BW.out⟩ ?_
      clear R S BW
      rintro Y ⟨R, S, BW⟩
      have hZ : Below Y.heap.size Y Y.drew := (Below.refl _ _).drew
      have hX : Y.drew.rangeAt gx 0 D1 := range_of_row R
      have hlen : D1.length = 32 := by have := HSZ.out; rwa [List.size_toArray] at this
      have hu : Try.prog.underlying 26 = some _ := Try.underlying26
      have hi2 : (Try.prog.info? 26).map (·.size) = some D1.length := by rw [hlen]; exact info_dig
      have HA5 := hide (HA.out.up BW); have HB5 := hide (HB.out.up BW)
      clear hlen R
      go_region_held3 (fun W => Below Y.heap.size Y W ∧ W.rangeAt gx 0 D1)
        (first | assumption | exact ⟨by assumption, by assumption⟩ | exact held1_keep (by assumption) (by rfl) (by assumption) | exact held1_alloc (by assumption)) (first
          | (go_at_call 11; with_reducible refine (known_any _).mono ?_; rintro e wk ⟨rfl, hbk⟩)
          | (go_at_call 13; with_reducible refine (psumf_any B m d bs _ ?h1 hmd (by omega) (by omega)).mono ?_
             case h1 => exact HB5.out.up (held1_below (by assumption))
             rintro e wl ⟨rfl, hbl⟩
             rw [← HD2.out])
          | (go_at_call 19; with_reducible refine (pmac_any key A n c [bs] _ 1 1 _ ?h2 ?h3 hnc (by omega) (by omega) (by have := LB.out; simp; omega) (by omega)).mono ?_
             case h2 => exact HA5.out.up (held1_below (by assumption))
             case h3 => exact parts1' (by first | exact heap_alloc_new _ _ | exact heap_alloc2_old _ _ _ | exact heap_alloc2_new _ _ _) (HB5.out.up (held1_below (by assumption))) hmd (by omega)
             rintro e wm ⟨rfl, hbm⟩
             rw [show [bs].flatten = bs by simp, ← HD1.out])
          | (go_at_call 17; with_reducible refine (hsum_any G bs _ ?h4 (by have := LB.out; omega)).mono ?_
             case h4 => exact S.below' (held1_below (by assumption))
             rintro e wn ⟨rfl, hbn⟩
             rw [← HD2.out]))
      all_goals (go_wp2_with fail)
      all_goals go_ret
      all_goals exact ⟨rfl, BW.trans (Below.mono (held1_below (by assumption)) BW.size)⟩
end Go.Proofs.Ytgpldaphblphgaa
