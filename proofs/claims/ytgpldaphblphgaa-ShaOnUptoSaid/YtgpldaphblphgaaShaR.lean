/-
  The walk of the law ShaLongKeys; words for drawn regions that are walked order by order.
-/
import Derived.Test.YtgpldaphblphgaaShaP
import Derived.Deep.RegionHeld3
import Derived.Deep.MidRow
namespace Go.Proofs.Ytgpldaphblphgaa
open Go.RowKit Go.Great

theorem below_trans_keep {w V X : World} {n : Nat} (hb : Below n V X) (hn : n = V.heap.size) (h : Below w.heap.size w V) : Below w.heap.size w X := h.trans (hb.mono (by rw [hn]; exact h.size))
theorem below_alloc_keep {w V : World} {o : Obj} (h : Below w.heap.size w V) : Below w.heap.size w (V.alloc o) := h.alloc h.size o
theorem parts1' {X : World} {g : Nat} {A : Option Addr} {n c : Nat} {a : List UInt8} (hg : X.heap[g]? = some (.cells #[.slice A n c] 22 (0, 0))) (ha : SlB X X.heap.size A n a) (hn : n ≤ c) (hc : c ≤ 9223372036854775807) :
    PartsAt X X.heap.size (some ⟨g, 0, none⟩) 1 [a] := by
  have hlt : g < X.heap.size := (Array.getElem?_eq_some_iff.1 hg).1
  refine ⟨rfl, [.slice A n c], ⟨rfl, fun _ => ⟨g, 0, rfl, hlt, fun k u hu => ?_⟩⟩, fun j x hj => ?_⟩
  · rw [cell_of_row _ _ _ _ _ _ hg]
    match k, hu with
    | 0, hu => exact hu
    | k + 1, hu => simp at hu
  · match j, hj with
    | 0, hj => injection hj with hj; subst hj; exact ⟨A, n, c, rfl, ha, hn, hc⟩
    | j + 1, hj => simp at hj

/-- a long key stands for its digest; a short one for itself with noughts behind -/
theorem Sha.mac_sum {key : List UInt8} (h : 64 < key.length) (bs : List UInt8) : Sha.mac (Sha.sum key) bs = Sha.mac key bs := by
  have e : Sha.short (Sha.sum key) = Sha.short key := by
    unfold Sha.short
    rw [if_neg (by rw [Sha.sum_length]; omega), if_pos h]
  unfold Sha.mac Sha.key64
  rw [e]
theorem Sha.mac_long {key : List UInt8} (h : key.length ≤ 64) (bs : List UInt8) : Sha.mac (key ++ List.replicate (64 - key.length) 0) bs = Sha.mac key bs := by
  have e : Sha.key64 (key ++ List.replicate (64 - key.length) 0) = Sha.key64 key := by
    unfold Sha.key64 Sha.short
    rw [if_neg (by simp; omega), if_neg (by omega)]
    have : 64 - (key ++ List.replicate (64 - key.length) (0 : UInt8)).length = 0 := by simp; omega
    rw [this, List.replicate_zero, List.append_nil]
  unfold Sha.mac
  rw [e]

set_option maxHeartbeats 4000000 in
set_option maxRecDepth 100000 in
theorem longkeys_walk (A B : Option Addr) (n c m d : Nat) (key bs : List UInt8) (w : World) (ha : SlB w w.heap.size A n key) (hb : SlB w w.heap.size B m bs) (hnc : n ≤ c) (hc : c ≤ 140737488351232) (hmd : m ≤ d) (hd : d ≤ 140737488351232) :
    Calls Try.prog 6 #[.slice A n c, .slice B m d] w fun e w' => e = .returned (.bool true) ∧ Below w.heap.size w w' := by
  have HA := hide ha; have HB := hide hb; have LB := hide hb.len; have LA := hide ha.len
  clear ha hb
  obtain ⟨M, hM⟩ : ∃ D, D = ((Sha.mac key bs).map bv).toArray := ⟨_, rfl⟩
  have e1 : ∀ w : World, (binOp .eql 26 (.agg M) (.agg M)).run Try.prog w = .ok (.bool true) w := fun w => by rw [hM]; exact dig_eql_same _ (mac_length _ _) w
  have HM := hide hM; clear hM
  go_enter Try.func6, Try.ntmps6
  go_wp2_with fail
  refine (psumf_any A n c key _ HA.out hnc (by omega) (by omega)).mono ?_
  rintro e w1 ⟨rfl, hb⟩
  have B1 := hide hb; clear hb
  obtain ⟨C, hC⟩ : ∃ C, C = ((Sha.sum key).map bv).toArray := ⟨_, rfl⟩
  have h1 : C.all (·.oneCell') = true := by rw [hC]; exact bytes_one _
  have hs : C.size = 32 := by rw [hC]; simp [Sha.sum_length]
  rw [← hC]
  have HC := hide hC; have HSC := hide hs; have H1 := hide h1
  clear hC hs h1
  go_upto_region 2 with ((with_reducible refine wpList_store_row rfl 26 (.tmp 5) (.tmp 8) rfl w1.heap.size C rfl rfl 26 _ (heap_alloc_new w1 _) ?r1 ?r2 H1.out ?_))
  case r1 => rw [HSC.out]; kernel_rfl
  case r2 => rw [HSC.out]; rfl
  refine wp_world (fun X => SlB X X.heap.size (some ⟨w1.heap.size, 0, none⟩) 32 (Sha.sum key) ∧ Below w.heap.size w X)
    ⟨SlB.of_block (rest := []) (by rw [List.append_nil, ← HC.out]; exact row_set (heap_alloc_new w1 _)) (by simp) (Sha.sum_length _), below_setRow (B1.out.alloc B1.out.size _) B1.out.size _⟩ ?_
  rintro X ⟨x1, x2⟩
  obtain ⟨Gd, hGd⟩ : ∃ Gd, Gd = w1.heap.size := ⟨_, rfl⟩
  rw [← hGd] at x1 ⊢
  clear hGd HC HSC H1
  have HD := hide x1; have B2 := hide x2
  have HA2 := hide (HA.out.up x2); have HB2 := hide (HB.out.up x2)
  clear x1 x2
  by_cases hlong : 64 < n
  · have hli : (64 : Int) < (n : Int) := by omega
    have HML : Hid (Sha.mac (Sha.sum key) bs = Sha.mac key bs) := hide (Sha.mac_sum (by have := LA.out; omega) bs)
    go_upto_region 3 with (fail)
    clear hli
    have hX : Below X.heap.size X X.drew := (Below.refl _ _).drew
    go_region_held3 (fun W => Below X.heap.size X W) (first | assumption | (apply below_alloc_keep; assumption) | (apply below_trans_keep; assumption; rfl; assumption)) (first
      | (go_at_call 11; with_reducible refine (known_any _).mono ?_; rintro e wk ⟨rfl, hbk⟩)
      | (go_at_call 19; with_reducible refine (pmac_any key A n c [bs] _ 1 1 _ ?h1 ?h2 hnc (by omega) (by omega) (by have := LB.out; simp; omega) (by omega)).mono ?_
         case h1 => exact HA2.out.up (by assumption)
         case h2 => exact parts1' (by first | exact heap_alloc_new _ _ | exact heap_alloc2_old _ _ _ | exact heap_alloc2_new _ _ _) (HB2.out.up (by assumption)) hmd (by omega)
         rintro e wm ⟨rfl, hbm⟩
         rw [show [bs].flatten = bs by simp, ← HM.out])
      | (go_at_call 19; with_reducible refine (pmac_any (Sha.sum key) (some ⟨Gd, 0, none⟩) 32 32 [bs] _ 1 1 _ ?h1 ?h2 (by omega) (by omega) (by omega) (by have := LB.out; simp; omega) (by omega)).mono ?_
         case h1 => exact HD.out.up (by assumption)
         case h2 => exact parts1' (by first | exact heap_alloc_new _ _ | exact heap_alloc2_old _ _ _ | exact heap_alloc2_new _ _ _ | exact (hbm.block _ (by simp only [World.size_alloc]; omega)).trans (heap_alloc_new _ _) | exact (hbm.block _ (by simp only [World.size_alloc]; omega)).trans (heap_alloc2_old _ _ _) | exact (hbm.block _ (by simp only [World.size_alloc]; omega)).trans (heap_alloc2_new _ _ _)) (HB2.out.up (by assumption)) hmd (by omega)
         rintro e wn ⟨rfl, hbn⟩
         rw [show [bs].flatten = bs by simp, HML.out, ← HM.out]))
    all_goals (go_wp2_with fail)
    all_goals go_ret
    all_goals exact ⟨rfl, B2.out.trans (Below.mono (by assumption) B2.out.size)⟩
  · have hli : ¬ ((64 : Int) < (n : Int)) := by omega
    have hkl : key.length ≤ 64 := by have := LA.out; omega
    have HML : Hid (Sha.mac (key ++ List.replicate (64 - key.length) 0) bs = Sha.mac key bs) := hide (Sha.mac_long hkl bs)
    have hmk := make_bytes .i64 .i64 64 (by omega)
    rw [show ((64 : Nat) : Int) = 64 from rfl] at hmk
    have hgm := hide (made_block X 64 5)
    have hbm := (Below.refl X.heap.size X).alloc (Nat.le_refl _) (.cells (Array.replicate 64 (Value.int .u8 0)) 5)
    have HKS := hide (copy_src' (HA2.out.up hbm))
    have HKN : Hid ((key.map bv).length = Nat.min n 64) := hide (by rw [List.length_map, LA.out]; simp only [Nat.min_def]; split <;> omega)
    have HKF : Hid (0 + (key.map bv).length ≤ (List.replicate 64 (Value.int .u8 0)).length) := hide (by simp; omega)
    have HBM := hide hbm; clear hbm
    go_upto_region 6 with ((with_reducible refine wpList_copy_grown rfl (.tmp 25) (.tmp 26) 22 22 rfl 5 Try.underlying22 size_u8 A 64 64 n c X.heap.size 0 rfl rfl (List.replicate 64 (Value.int .u8 0)) 5 hgm.out (key.map bv) HKN.out HKS.out HKF.out (bytes_oneCell _) ?_))
    intro v1 h1 h2
    have B3 : Hid (Below X.heap.size X v1) := hide (below_of_grown' HBM.out h2.out HBM.out.size (Nat.le_refl _))
    have HLG : Hid (SlB v1 v1.heap.size (some ⟨X.heap.size, 0, none⟩) 64 (key ++ List.replicate (64 - key.length) 0)) := hide (by
      have h1' : v1.heap[X.heap.size]? = some (.cells ((key ++ List.replicate (64 - key.length) 0).map bv).toArray 5 (0, 0)) := by rw [← splice_zero _ hkl]; exact h1.out
      refine SlB.of_block (rest := []) (by rw [List.append_nil]; exact h1') (heap_lt' h1') (by simp; omega))
    obtain ⟨Gm, hGm⟩ : ∃ Gm, Gm = X.heap.size := ⟨_, rfl⟩
    clear h1 h2 hmk hgm HKS HKN HKF HBM
    rw [← hGm] at HLG ⊢
    clear hGm
    go_wp2_with fail
    refine (known_any _).mono ?_
    rintro e w4 ⟨rfl, hb⟩
    have B4 := hide (B3.out.trans (hb.mono B3.out.size)); have L4 := hide (HLG.out.up hb); clear hb B3 HLG
    go_wp2_with fail
    have BA := hide (B4.out.alloc B4.out.size (.cells #[.slice B m d] 22))
    refine (pmac_any key A n c [bs] (some ⟨w4.heap.size, 0, none⟩) 1 1 _ (HA2.out.up BA.out) (parts1 (HB2.out.up B4.out) hmd (by omega)) hnc (by omega) (by omega) (by have := LB.out; simp; omega) (by omega)).mono ?_
    rintro e w5 ⟨rfl, hb⟩
    rw [show [bs].flatten = bs by simp, ← HM.out]
    have B5 := hide (BA.out.trans (hb.mono BA.out.size))
    have L5 := hide ((L4.out.up ((Below.refl _ _).alloc (Nat.le_refl _) (.cells #[.slice B m d] 22))).up hb)
    clear hb BA B4 L4
    go_wp2_with fail
    have BA := hide (B5.out.alloc B5.out.size (.cells #[.slice B m d] 22))
    refine (pmac_any (key ++ List.replicate (64 - key.length) 0) (some ⟨Gm, 0, none⟩) 64 64 [bs] (some ⟨w5.heap.size, 0, none⟩) 1 1 _ (L5.out.up ((Below.refl _ _).alloc (Nat.le_refl _) _)) (parts1 (HB2.out.up B5.out) hmd (by omega)) (by omega) (by omega) (by omega) (by have := LB.out; simp; omega) (by omega)).mono ?_
    rintro e w6 ⟨rfl, hb⟩
    rw [show [bs].flatten = bs by simp, HML.out, ← HM.out]
    have B6 := hide (BA.out.trans (hb.mono BA.out.size))
    go_wp2_with fail
    go_ret
    exact ⟨rfl, B2.out.trans (B6.out.mono B2.out.size)⟩
end Go.Proofs.Ytgpldaphblphgaa
