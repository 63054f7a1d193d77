/-
  The walk of the law ShaOn.
-/
import Derived.Test.YtgpldaphblphgaaShaU
import Derived.IntWalk
import Derived.Deep.RegionWith
namespace Go.Proofs.Ytgpldaphblphgaa
open Go.RowKit Go.Great

set_option maxHeartbeats 4000000 in
set_option maxRecDepth 100000 in
theorem on_walk (A B : Option Addr) (n c m d : Nat) (as_ bs : List UInt8) (w : World) (ha : SlB w w.heap.size A n as_) (hb : SlB w w.heap.size B m bs) (hnc : n ≤ c) (hc : c ≤ 1048576) (hmd : m ≤ d) (hd : d ≤ 1048576) :
    Calls Try.prog 8 #[.slice A n c, .slice B m d] w fun e w' => e = .returned (.bool true) ∧ Below w.heap.size w w' := by
  have HA := hide ha; have HB := hide hb; have LB := hide hb.len; have LA := hide ha.len
  clear ha hb
  obtain ⟨D1, hD1⟩ : ∃ D, D = (Sha.sum as_).map bv := ⟨_, rfl⟩
  obtain ⟨D2, hD2⟩ : ∃ D, D = ((Sha.sum (as_ ++ bs)).map bv).toArray := ⟨_, rfl⟩
  have e1 : ∀ w : World, (binOp .eql 26 (.agg D1.toArray) (.agg D1.toArray)).run Try.prog w = .ok (.bool true) w := fun w => by rw [hD1]; exact dig_eql_same _ (Sha.sum_length _) w
  have e2 : ∀ w : World, (binOp .eql 26 (.agg D2) (.agg D2)).run Try.prog w = .ok (.bool true) w := fun w => by rw [hD2]; exact dig_eql_same _ (Sha.sum_length _) w
  have h1 : D1.toArray.all (·.oneCell') = true := by rw [hD1]; exact bytes_one _
  have hs : D1.toArray.size = 32 := by rw [hD1]; simp [Sha.sum_length]
  have HD1 := hide hD1; have HD2 := hide hD2; have H1 := hide h1; have HSZ := hide hs
  clear hD1 hD2 h1 hs
  go_enter Try.func8, Try.ntmps8
  go_wp2_with fail
  refine (hnew_any _).mono ?_
  rintro e w1 ⟨G, rfl, hg1, hs1, hb⟩
  have B1 := hide hb; have S1 := hide hs1; have Z1 := hide hg1; have L1 := hide hs1.lt; clear hb hs1 hg1
  go_wp2_with fail
  refine (hwrite_any G [] as_ A n c _ S1.out (HA.out.up B1.out) ((HA.out).off Z1.out) hnc (by simp; omega) (by omega)).mono ?_
  rintro e w2 ⟨rfl, hs, hg⟩
  have B2 := hide (below_of_grown' B1.out hg B1.out.size Z1.out)
  have S2 := hide hs
  clear hs hg S1 L1 B1
  rw [List.nil_append] at S2
  go_wp2_with fail
  refine (hsum_any G as_ _ S2.out (by have := LA.out; omega)).mono ?_
  rintro e w3 ⟨rfl, hb⟩
  have B3 := hide (B2.out.trans (hb.mono B2.out.size)); have S3 := hide (S2.out.below' hb); clear hb S2 B2
  rw [← HD1.out]
  go_upto_region 4 with ((with_reducible refine wpList_store_row rfl 26 (.tmp 6) (.tmp 13) rfl w3.heap.size D1.toArray rfl rfl 26 _ (heap_alloc_new w3 _) ?r1 ?r2 H1.out ?_))
  case r1 => rw [HSZ.out]; kernel_rfl
  case r2 => rw [HSZ.out]; rfl
  refine wp_world (fun X => RowV X w3.heap.size 26 D1 ∧ StOf X G 54 as_ ∧ Below w.heap.size w X ∧ X.heap.size = w3.heap.size + 1)
    ⟨row_set (heap_alloc_new w3 _), (S3.out.below' ((Below.refl _ _).alloc (Nat.le_refl _) _)).keep (row_set_other (by have := S3.out.lt; omega)), below_setRow (B3.out.alloc B3.out.size _) B3.out.size _, by simp⟩ ?_
  rintro X ⟨x1, x2, x3, x4⟩
  obtain ⟨gx, hgx⟩ : ∃ gx, gx = w3.heap.size := ⟨_, rfl⟩
  have S3l := S3.out.lt
  have hGx : G ≠ gx := by omega
  have hwx : w.heap.size ≤ gx := by have := B3.out.size; omega
  have hxl : gx < X.heap.size := by omega
  rw [← hgx] at x1 ⊢
  clear hgx S3 B3 S3l x4
  have X1 := hide x1; have X2 := hide x2; have X3 := hide x3
  clear x1 x2 x3
  go_upto_region 4 with (fail)
  go_wp2_with fail
  refine (hsum_any G as_ _ X2.out (by have := LA.out; omega)).mono ?_
  rintro e w4 ⟨rfl, hb⟩
  have B4 := hide (X3.out.trans (hb.mono X3.out.size)); have S4 := hide (X2.out.below' hb); have R4 := hide (X1.out.below' hb)
  have hxl4 : gx < w4.heap.size := by have := hb.size; omega
  clear hb X1 X2 X3 hxl
  rw [← HD1.out]
  go_upto_region 5 with ((with_reducible refine wpList_store_row rfl 26 (.tmp 7) (.tmp 15) rfl w4.heap.size D1.toArray rfl rfl 26 _ (heap_alloc_new w4 _) ?r1 ?r2 H1.out ?_))
  case r1 => rw [HSZ.out]; kernel_rfl
  case r2 => rw [HSZ.out]; rfl
  refine wp_world (fun Y => RowV Y gx 26 D1 ∧ RowV Y w4.heap.size 26 D1 ∧ StOf Y G 54 as_ ∧ Below w.heap.size w Y ∧ Y.heap.size = w4.heap.size + 1)
    ⟨(R4.out.alloc _).setRow (by omega), row_set (heap_alloc_new w4 _), (S4.out.below' ((Below.refl _ _).alloc (Nat.le_refl _) _)).keep (row_set_other (by have := S4.out.lt; omega)), below_setRow (B4.out.alloc B4.out.size _) B4.out.size _, by simp⟩ ?_
  rintro Y ⟨y1, y2, y3, y4, y5⟩
  obtain ⟨gy, hgy⟩ : ∃ gy, gy = w4.heap.size := ⟨_, rfl⟩
  have S4l := S4.out.lt
  have hGy : G ≠ gy := by omega
  have hwy : w.heap.size ≤ gy := by have := B4.out.size; omega
  rw [← hgy] at y2 ⊢
  have hyl : gy < Y.heap.size := by omega
  have hxl : gx < Y.heap.size := by omega
  clear hgy S4 B4 S4l R4 y5 hxl4
  have Y1 := hide y1; have Y2 := hide y2; have Y3 := hide y3; have Y4 := hide y4
  clear y1 y2 y3 y4
  go_upto_region 5 with (fail)
  go_wp2_with fail
  refine (hwrite_any G as_ bs B m d _ Y3.out (HB.out.up Y4.out) ((HB.out).off Z1.out) hmd (by have := LA.out; omega) (by omega)).mono ?_
  rintro e Z ⟨rfl, hs, hg⟩
  have B5 := hide (below_of_grown' Y4.out hg Y4.out.size Z1.out)
  have S5 := hide hs
  have hX : Z.rangeAt gx 0 D1 := range_of_row (row_grown Y1.out hg (Ne.symm hGx))
  have hY : Z.rangeAt gy 0 D1 := range_of_row (row_grown Y2.out hg (Ne.symm hGy))
  clear hs hg Y1 Y2 Y3 Y4
  have HA5 := hide (HA.out.up B5.out); have HB5 := hide (HB.out.up B5.out)
  have hu : Try.prog.underlying 26 = some _ := Try.underlying26
  have hlen : D1.length = 32 := by have := HSZ.out; rwa [List.size_toArray] at this
  have hi : (Try.prog.info? 26).map (·.size) = some D1.length := by rw [hlen]; exact info_dig
  have HE : Hid (((as_ ++ bs).length : Int) = (n : Int) + (m : Int)) := hide (by have := LA.out; have := LB.out; simp; omega)
  go_upto_region 6 with (fail)
  have hZ : Below Z.heap.size Z Z.drew := (Below.refl _ _).drew
  have hXd : Z.drew.rangeAt gx 0 D1 := hX
  have hYd : Z.drew.rangeAt gy 0 D1 := hY
  clear hX hY hlen
  have hwr : IntKind.i64.wrap ((n : Int) + (m : Int)) = (n : Int) + (m : Int) := IntWalk.i64_in _ (by omega)
  have hbq : (((n : Int) + (m : Int)) == ((n : Int) + (m : Int))) = true := by simp
  refine wp_region_held_drew (S := (fun W => Below Z.heap.size Z W ∧ W.rangeAt gx 0 D1 ∧ W.rangeAt gy 0 D1)) (by kernel_rfl) ⟨hZ, hXd, hYd⟩ (fun hHeld => ?_)
  refine wpAnyH_ready (rs := [0]) (by kernel_rfl) (by simp) ?_
  refine AllReadyH.cons (o := _) rfl (fun K hK => ?_) ?_
  rotate_left
  · exact AllReadyH.nil
  rw [if_pos (by rfl)]
  go_simp
  refine (known_any _).mono ?_
  rintro e wk ⟨rfl, hbk⟩
  refine hK.out _ _ (held_keep hbk rfl hHeld) (fun hHeld => ?_)
  clear hK K
  try simp only [Act.put, List.getElem_toArray, List.getElem_cons_succ, List.getElem_cons_zero, List.setIfInBounds_toArray, List.set_cons_zero, List.set_cons_succ]
  refine wpAnyH_take (i := 1) (oi := _) (v := ?_) rfl (by kernel_rfl) (by kernel_rfl) (by kernel_rfl) (fun _ _ _ h => h) (Or.inl ⟨by rfl, ?_⟩) (by assumption) ?_
  rotate_left
  · intro w hSw
    go_simp
    try with_reducible rfl
  try simp only [Act.put, List.getElem_toArray, List.getElem_cons_succ, List.getElem_cons_zero, List.setIfInBounds_toArray, List.set_cons_zero, List.set_cons_succ]
  refine wpAnyH_take (i := 2) (oi := _) (v := .agg D1.toArray) rfl (by kernel_rfl) (by kernel_rfl) (by kernel_rfl) (fun _ _ _ h => h) (yieldsIf_load_mid (by rfl) 26 _ rfl gx 0 rfl D1 _ (fun W h => h.2.1) hu rfl hi) (by assumption) ?_
  try simp only [Act.put, List.getElem_toArray, List.getElem_cons_succ, List.getElem_cons_zero, List.setIfInBounds_toArray, List.set_cons_zero, List.set_cons_succ]
  refine wpAnyH_take (i := 3) (oi := _) (v := ?_) rfl (by kernel_rfl) (by kernel_rfl) (by kernel_rfl) (fun _ _ _ h => h) (Or.inl ⟨by rfl, ?_⟩) (by assumption) ?_
  rotate_left
  · intro w hSw
    go_simp
    try with_reducible rfl
  try simp only [Act.put, List.getElem_toArray, List.getElem_cons_succ, List.getElem_cons_zero, List.setIfInBounds_toArray, List.set_cons_zero, List.set_cons_succ]
  refine wpAnyH_ready (rs := [4]) (by kernel_rfl) (by simp) ?_
  refine AllReadyH.cons (o := _) rfl (fun K hK => ?_) ?_
  rotate_left
  · exact AllReadyH.nil
  rw [if_pos (by rfl)]
  go_simp
  refine (psumf_any A n c as_ _ (HA5.out.up (held_below hHeld)) hnc (by omega) (by omega)).mono ?_
  rintro e wl ⟨rfl, hbk⟩
  rw [← HD1.out]
  refine hK.out _ _ (held_keep hbk rfl hHeld) (fun hHeld => ?_)
  clear hK K
  try simp only [Act.put, List.getElem_toArray, List.getElem_cons_succ, List.getElem_cons_zero, List.setIfInBounds_toArray, List.set_cons_zero, List.set_cons_succ]
  refine wpAnyH_take (i := 5) (oi := _) (v := ?_) rfl (by kernel_rfl) (by kernel_rfl) (by kernel_rfl) (fun _ _ _ h => h) (Or.inl ⟨by rfl, ?_⟩) (by assumption) ?_
  rotate_left
  · intro w hSw
    go_simp
    try with_reducible rfl
  try simp only [Act.put, List.getElem_toArray, List.getElem_cons_succ, List.getElem_cons_zero, List.setIfInBounds_toArray, List.set_cons_zero, List.set_cons_succ]
  refine wpAnyH_take (i := 6) (oi := _) (v := ?_) rfl (by kernel_rfl) (by kernel_rfl) (by kernel_rfl) (fun _ _ _ h => h) (Or.inl ⟨by rfl, ?_⟩) (by assumption) ?_
  rotate_left
  · intro w hSw
    go_simp
    try with_reducible rfl
  try simp only [Act.put, List.getElem_toArray, List.getElem_cons_succ, List.getElem_cons_zero, List.setIfInBounds_toArray, List.set_cons_zero, List.set_cons_succ]
  refine wpAnyH_take (i := 7) (oi := _) (v := ?_) rfl (by kernel_rfl) (by kernel_rfl) (by kernel_rfl) (fun _ _ _ h => h) (Or.inl ⟨by rfl, ?_⟩) (by assumption) ?_
  rotate_left
  · intro w hSw
    go_simp
    try with_reducible rfl
  try simp only [Act.put, List.getElem_toArray, List.getElem_cons_succ, List.getElem_cons_zero, List.setIfInBounds_toArray, List.set_cons_zero, List.set_cons_succ]
  refine wpAnyH_take (i := 8) (oi := _) (v := .agg D1.toArray) rfl (by kernel_rfl) (by kernel_rfl) (by kernel_rfl) (fun _ _ _ h => h) (yieldsIf_load_mid (by rfl) 26 _ rfl gy 0 rfl D1 _ (fun W h => h.2.2) hu rfl hi) (by assumption) ?_
  try simp only [Act.put, List.getElem_toArray, List.getElem_cons_succ, List.getElem_cons_zero, List.setIfInBounds_toArray, List.set_cons_zero, List.set_cons_succ]
  refine wpAnyH_take (i := 9) (oi := _) (v := .agg D1.toArray) rfl (by kernel_rfl) (by kernel_rfl) (by kernel_rfl) (fun _ _ _ h => h) (yieldsIf_load_mid (by rfl) 26 _ rfl gx 0 rfl D1 _ (fun W h => h.2.1) hu rfl hi) (by assumption) ?_
  try simp only [Act.put, List.getElem_toArray, List.getElem_cons_succ, List.getElem_cons_zero, List.setIfInBounds_toArray, List.set_cons_zero, List.set_cons_succ]
  refine wpAnyH_take (i := 10) (oi := _) (v := ?_) rfl (by kernel_rfl) (by kernel_rfl) (by kernel_rfl) (fun _ _ _ h => h) (Or.inl ⟨by rfl, ?_⟩) (by assumption) ?_
  rotate_left
  · intro w hSw
    go_simp
    try with_reducible rfl
  try simp only [Act.put, List.getElem_toArray, List.getElem_cons_succ, List.getElem_cons_zero, List.setIfInBounds_toArray, List.set_cons_zero, List.set_cons_succ]
  refine wpAnyH_take (i := 11) (oi := _) (v := ?_) rfl (by kernel_rfl) (by kernel_rfl) (by kernel_rfl) (fun _ _ _ h => h) (Or.inl ⟨by rfl, ?_⟩) (by assumption) ?_
  rotate_left
  · intro w hSw
    go_simp
    try with_reducible rfl
  try simp only [Act.put, List.getElem_toArray, List.getElem_cons_succ, List.getElem_cons_zero, List.setIfInBounds_toArray, List.set_cons_zero, List.set_cons_succ]
  refine wpAnyH_take (i := 12) (oi := _) (v := ?_) rfl (by kernel_rfl) (by kernel_rfl) (by kernel_rfl) (fun _ _ _ h => h) (Or.inl ⟨by rfl, ?_⟩) (by assumption) ?_
  rotate_left
  · intro w hSw
    go_simp
    try with_reducible rfl
  try simp only [Act.put, List.getElem_toArray, List.getElem_cons_succ, List.getElem_cons_zero, List.setIfInBounds_toArray, List.set_cons_zero, List.set_cons_succ]
  refine wpAnyH_take (i := 13) (oi := _) (v := ?_) rfl (by kernel_rfl) (by kernel_rfl) (by kernel_rfl) (fun _ _ _ h => h) (Or.inl ⟨by rfl, ?_⟩) (by assumption) ?_
  rotate_left
  · intro w hSw
    go_simp
    try with_reducible rfl
  try simp only [Act.put, List.getElem_toArray, List.getElem_cons_succ, List.getElem_cons_zero, List.setIfInBounds_toArray, List.set_cons_zero, List.set_cons_succ]
  refine wpAnyH_take (i := 15) (oi := _) (v := ?_) rfl (by kernel_rfl) (by kernel_rfl) (by kernel_rfl) (fun _ _ _ h => h) (Or.inl ⟨by rfl, ?_⟩) (by assumption) ?_
  rotate_left
  · intro w hSw
    go_simp
    try with_reducible rfl
  try simp only [Act.put, List.getElem_toArray, List.getElem_cons_succ, List.getElem_cons_zero, List.setIfInBounds_toArray, List.set_cons_zero, List.set_cons_succ]
  refine wpAnyH_take (i := 16) (oi := _) (v := ?_) rfl (by kernel_rfl) (by kernel_rfl) (by kernel_rfl) (fun _ _ _ h => h) (Or.inl ⟨by rfl, ?_⟩) (by assumption) ?_
  rotate_left
  · intro w hSw
    go_simp
    try with_reducible rfl
  try simp only [Act.put, List.getElem_toArray, List.getElem_cons_succ, List.getElem_cons_zero, List.setIfInBounds_toArray, List.set_cons_zero, List.set_cons_succ]
  refine wpAnyH_ready (rs := [14, 17]) (by kernel_rfl) (by simp) ?_
  refine AllReadyH.cons (o := _) rfl (fun K hK => ?_) ?_
  · rw [if_pos (by rfl)]
    go_simp
    refine (hsum_any G (as_ ++ bs) _ (S5.out.below' (held_below hHeld)) (by have := LA.out; have := LB.out; simp; omega)).mono ?_
    rintro e wm ⟨rfl, hbm⟩
    rw [← HD2.out]
    refine hK.out _ _ (held_keep hbm rfl hHeld) (fun hHeld => ?_)
    clear hK K
    try simp only [Act.put, List.getElem_toArray, List.getElem_cons_succ, List.getElem_cons_zero, List.setIfInBounds_toArray, List.set_cons_zero, List.set_cons_succ]
    refine wpAnyH_ready (rs := [17]) (by kernel_rfl) (by simp) ?_
    refine AllReadyH.cons (o := _) rfl (fun K hK => ?_) ?_
    rotate_left
    · exact AllReadyH.nil
    rw [if_pos (by rfl)]
    go_simp
    refine hK.out _ _ (held_alloc hHeld) (fun hHeld => ?_)
    clear hK K
    try simp only [Act.put, List.getElem_toArray, List.getElem_cons_succ, List.getElem_cons_zero, List.setIfInBounds_toArray, List.set_cons_zero, List.set_cons_succ]
    refine wpAnyH_ready (rs := [18]) (by kernel_rfl) (by simp) ?_
    refine AllReadyH.cons (o := _) rfl (fun K hK => ?_) ?_
    rotate_left
    · exact AllReadyH.nil
    rw [if_pos (by rfl)]
    go_simp
    refine (rjoin_any [as_, bs] _ 2 2 _ (parts2' (heap_alloc_new _ _) (HA5.out.up (held_below hHeld)) (HB5.out.up (held_below hHeld)) hnc hmd (by omega) (by omega)) (by have := LA.out; have := LB.out; simp; omega) (by omega)).mono ?_
    rintro e wj ⟨A8, c8, rfl, ho, hbj⟩
    rw [show [as_, bs].flatten = as_ ++ bs by simp] at ho ⊢
    obtain ⟨q, hq⟩ : ∃ q, q = (as_ ++ bs).length := ⟨_, rfl⟩
    rw [← hq] at ho ⊢
    have LQ : Hid (q ≤ 2097152) := hide (by have := LA.out; have := LB.out; rw [hq]; simp; omega)
    have O8 := hide ho.slB; have C8 := hide ho.le_cap
    clear ho hq
    refine hK.out _ _ (held_keep hbj rfl hHeld) (fun hHeld => ?_)
    clear hK K
    try simp only [Act.put, List.getElem_toArray, List.getElem_cons_succ, List.getElem_cons_zero, List.setIfInBounds_toArray, List.set_cons_zero, List.set_cons_succ]
    refine wpAnyH_ready (rs := [19]) (by kernel_rfl) (by simp) ?_
    refine AllReadyH.cons (o := _) rfl (fun K hK => ?_) ?_
    rotate_left
    · exact AllReadyH.nil
    rw [if_pos (by rfl)]
    go_simp
    refine (psumf_any A8 q c8 (as_ ++ bs) _ O8.out C8.out.1 (by have := C8.out.2; unfold maxLen at this; exact this) (by have := LQ.out; omega)).mono ?_
    rintro e wk2 ⟨rfl, hbk2⟩
    rw [← HD2.out]
    refine hK.out _ _ (held_keep hbk2 rfl hHeld) (fun hHeld => ?_)
    clear hK K
    try simp only [Act.put, List.getElem_toArray, List.getElem_cons_succ, List.getElem_cons_zero, List.setIfInBounds_toArray, List.set_cons_zero, List.set_cons_succ]
    refine wpAnyH_take (i := 20) (oi := _) (v := ?_) rfl (by kernel_rfl) (by kernel_rfl) (by kernel_rfl) (fun _ _ _ h => h) (Or.inl ⟨by rfl, ?_⟩) (by assumption) ?_
    rotate_left
    · intro w hSw
      go_simp
      try with_reducible rfl
    try simp only [Act.put, List.getElem_toArray, List.getElem_cons_succ, List.getElem_cons_zero, List.setIfInBounds_toArray, List.set_cons_zero, List.set_cons_succ]
    refine wpAnyH_take (i := 21) (oi := _) (v := ?_) rfl (by kernel_rfl) (by kernel_rfl) (by kernel_rfl) (fun _ _ _ h => h) (Or.inl ⟨by rfl, ?_⟩) (by assumption) ?_
    rotate_left
    · intro w hSw
      go_simp
      try with_reducible rfl
    try simp only [Act.put, List.getElem_toArray, List.getElem_cons_succ, List.getElem_cons_zero, List.setIfInBounds_toArray, List.set_cons_zero, List.set_cons_succ]
    refine wpAnyH_take (i := 22) (oi := _) (v := ?_) rfl (by kernel_rfl) (by kernel_rfl) (by kernel_rfl) (fun _ _ _ h => h) (Or.inl ⟨by rfl, ?_⟩) (by assumption) ?_
    rotate_left
    · intro w hSw
      go_simp
      try with_reducible rfl
    try simp only [Act.put, List.getElem_toArray, List.getElem_cons_succ, List.getElem_cons_zero, List.setIfInBounds_toArray, List.set_cons_zero, List.set_cons_succ]
    refine wpAnyH_take (i := 23) (oi := _) (v := ?_) rfl (by kernel_rfl) (by kernel_rfl) (by kernel_rfl) (fun _ _ _ h => h) (Or.inl ⟨by rfl, ?_⟩) (by assumption) ?_
    rotate_left
    · intro w hSw
      go_simp
      try with_reducible rfl
    try simp only [Act.put, List.getElem_toArray, List.getElem_cons_succ, List.getElem_cons_zero, List.setIfInBounds_toArray, List.set_cons_zero, List.set_cons_succ]
    refine wpAnyH_take (i := 25) (oi := _) (v := ?_) rfl (by kernel_rfl) (by kernel_rfl) (by kernel_rfl) (fun _ _ _ h => h) (Or.inl ⟨by rfl, ?_⟩) (by assumption) ?_
    rotate_left
    · intro w hSw
      go_simp
      try with_reducible rfl
    try simp only [Act.put, List.getElem_toArray, List.getElem_cons_succ, List.getElem_cons_zero, List.setIfInBounds_toArray, List.set_cons_zero, List.set_cons_succ]
    refine wpAnyH_take (i := 26) (oi := _) (v := ?_) rfl (by kernel_rfl) (by kernel_rfl) (by kernel_rfl) (fun _ _ _ h => h) (Or.inl ⟨by rfl, ?_⟩) (by assumption) ?_
    rotate_left
    · intro w hSw
      go_simp
      try with_reducible rfl
    try simp only [Act.put, List.getElem_toArray, List.getElem_cons_succ, List.getElem_cons_zero, List.setIfInBounds_toArray, List.set_cons_zero, List.set_cons_succ]
    refine wpAnyH_take (i := 27) (oi := _) (v := ?_) rfl (by kernel_rfl) (by kernel_rfl) (by kernel_rfl) (fun _ _ _ h => h) (Or.inl ⟨by rfl, ?_⟩) (by assumption) ?_
    rotate_left
    · intro w hSw
      go_simp
      try with_reducible rfl
    try simp only [Act.put, List.getElem_toArray, List.getElem_cons_succ, List.getElem_cons_zero, List.setIfInBounds_toArray, List.set_cons_zero, List.set_cons_succ]
    refine wpAnyH_take (i := 28) (oi := _) (v := ?_) rfl (by kernel_rfl) (by kernel_rfl) (by kernel_rfl) (fun _ _ _ h => h) (Or.inl ⟨by rfl, ?_⟩) (by assumption) ?_
    rotate_left
    · intro w hSw
      go_simp
      try with_reducible rfl
    try simp only [Act.put, List.getElem_toArray, List.getElem_cons_succ, List.getElem_cons_zero, List.setIfInBounds_toArray, List.set_cons_zero, List.set_cons_succ]
    refine wpAnyH_take (i := 29) (oi := _) (v := ?_) rfl (by kernel_rfl) (by kernel_rfl) (by kernel_rfl) (fun _ _ _ h => h) (Or.inl ⟨by rfl, ?_⟩) (by assumption) ?_
    rotate_left
    · intro w hSw
      go_simp
      try with_reducible rfl
    try simp only [Act.put, List.getElem_toArray, List.getElem_cons_succ, List.getElem_cons_zero, List.setIfInBounds_toArray, List.set_cons_zero, List.set_cons_succ]
    refine wpAnyH_ready (rs := [24]) (by kernel_rfl) (by simp) ?_
    refine AllReadyH.cons (o := _) rfl (fun K hK => ?_) ?_
    rotate_left
    · exact AllReadyH.nil
    rw [if_pos (by rfl)]
    go_simp
    refine (hlen_any G (as_ ++ bs) _ (S5.out.below' (held_below hHeld))).mono ?_
    rintro e wn ⟨rfl, rfl⟩
    rw [HE.out]
    refine hK.out _ _ hHeld (fun hHeld => ?_)
    clear hK K
    try simp only [Act.put, List.getElem_toArray, List.getElem_cons_succ, List.getElem_cons_zero, List.setIfInBounds_toArray, List.set_cons_zero, List.set_cons_succ]
    refine wpAnyH_take (i := 30) (oi := _) (v := ?_) rfl (by kernel_rfl) (by kernel_rfl) (by kernel_rfl) (fun _ _ _ h => h) (Or.inl ⟨by rfl, ?_⟩) (by assumption) ?_
    rotate_left
    · intro w hSw
      go_simp
      try with_reducible rfl
    try simp only [Act.put, List.getElem_toArray, List.getElem_cons_succ, List.getElem_cons_zero, List.setIfInBounds_toArray, List.set_cons_zero, List.set_cons_succ]
    refine wpAnyH_take (i := 31) (oi := _) (v := ?_) rfl (by kernel_rfl) (by kernel_rfl) (by kernel_rfl) (fun _ _ _ h => h) (Or.inl ⟨by rfl, ?_⟩) (by assumption) ?_
    rotate_left
    · intro w hSw
      go_simp
      try with_reducible rfl
    try simp only [Act.put, List.getElem_toArray, List.getElem_cons_succ, List.getElem_cons_zero, List.setIfInBounds_toArray, List.set_cons_zero, List.set_cons_succ]
    refine wpAnyH_take (i := 32) (oi := _) (v := ?_) rfl (by kernel_rfl) (by kernel_rfl) (by kernel_rfl) (fun _ _ _ h => h) (Or.inl ⟨by rfl, ?_⟩) (by assumption) ?_
    rotate_left
    · intro w hSw
      go_simp
      try with_reducible rfl
    try simp only [Act.put, List.getElem_toArray, List.getElem_cons_succ, List.getElem_cons_zero, List.setIfInBounds_toArray, List.set_cons_zero, List.set_cons_succ]
    refine wpAnyH_done (by kernel_rfl) ?_ _
    go_wp2_with fail
    go_ret
    exact ⟨rfl, B5.out.trans ((held_below hHeld).mono B5.out.size)⟩
  refine AllReadyH.cons (o := _) rfl (fun K hK => ?_) ?_
  · rw [if_pos (by rfl)]
    go_simp
    refine hK.out _ _ (held_alloc hHeld) (fun hHeld => ?_)
    clear hK K
    try simp only [Act.put, List.getElem_toArray, List.getElem_cons_succ, List.getElem_cons_zero, List.setIfInBounds_toArray, List.set_cons_zero, List.set_cons_succ]
    refine wpAnyH_ready (rs := [14]) (by kernel_rfl) (by simp) ?_
    refine AllReadyH.cons (o := _) rfl (fun K hK => ?_) ?_
    rotate_left
    · exact AllReadyH.nil
    rw [if_pos (by rfl)]
    go_simp
    refine (hsum_any G (as_ ++ bs) _ (S5.out.below' (held_below hHeld)) (by have := LA.out; have := LB.out; simp; omega)).mono ?_
    rintro e wm ⟨rfl, hbm⟩
    rw [← HD2.out]
    refine hK.out _ _ (held_keep hbm rfl hHeld) (fun hHeld => ?_)
    clear hK K
    try simp only [Act.put, List.getElem_toArray, List.getElem_cons_succ, List.getElem_cons_zero, List.setIfInBounds_toArray, List.set_cons_zero, List.set_cons_succ]
    refine wpAnyH_ready (rs := [18]) (by kernel_rfl) (by simp) ?_
    refine AllReadyH.cons (o := _) rfl (fun K hK => ?_) ?_
    rotate_left
    · exact AllReadyH.nil
    rw [if_pos (by rfl)]
    go_simp
    refine (rjoin_any [as_, bs] _ 2 2 _ (parts2' ((hbm.block _ (by simp only [World.size_alloc]; omega)).trans (heap_alloc_new _ _)) (HA5.out.up (held_below hHeld)) (HB5.out.up (held_below hHeld)) hnc hmd (by omega) (by omega)) (by have := LA.out; have := LB.out; simp; omega) (by omega)).mono ?_
    rintro e wj ⟨A8, c8, rfl, ho, hbj⟩
    rw [show [as_, bs].flatten = as_ ++ bs by simp] at ho ⊢
    obtain ⟨q, hq⟩ : ∃ q, q = (as_ ++ bs).length := ⟨_, rfl⟩
    rw [← hq] at ho ⊢
    have LQ : Hid (q ≤ 2097152) := hide (by have := LA.out; have := LB.out; rw [hq]; simp; omega)
    have O8 := hide ho.slB; have C8 := hide ho.le_cap
    clear ho hq
    refine hK.out _ _ (held_keep hbj rfl hHeld) (fun hHeld => ?_)
    clear hK K
    try simp only [Act.put, List.getElem_toArray, List.getElem_cons_succ, List.getElem_cons_zero, List.setIfInBounds_toArray, List.set_cons_zero, List.set_cons_succ]
    refine wpAnyH_ready (rs := [19]) (by kernel_rfl) (by simp) ?_
    refine AllReadyH.cons (o := _) rfl (fun K hK => ?_) ?_
    rotate_left
    · exact AllReadyH.nil
    rw [if_pos (by rfl)]
    go_simp
    refine (psumf_any A8 q c8 (as_ ++ bs) _ O8.out C8.out.1 (by have := C8.out.2; unfold maxLen at this; exact this) (by have := LQ.out; omega)).mono ?_
    rintro e wk2 ⟨rfl, hbk2⟩
    rw [← HD2.out]
    refine hK.out _ _ (held_keep hbk2 rfl hHeld) (fun hHeld => ?_)
    clear hK K
    try simp only [Act.put, List.getElem_toArray, List.getElem_cons_succ, List.getElem_cons_zero, List.setIfInBounds_toArray, List.set_cons_zero, List.set_cons_succ]
    refine wpAnyH_take (i := 20) (oi := _) (v := ?_) rfl (by kernel_rfl) (by kernel_rfl) (by kernel_rfl) (fun _ _ _ h => h) (Or.inl ⟨by rfl, ?_⟩) (by assumption) ?_
    rotate_left
    · intro w hSw
      go_simp
      try with_reducible rfl
    try simp only [Act.put, List.getElem_toArray, List.getElem_cons_succ, List.getElem_cons_zero, List.setIfInBounds_toArray, List.set_cons_zero, List.set_cons_succ]
    refine wpAnyH_take (i := 21) (oi := _) (v := ?_) rfl (by kernel_rfl) (by kernel_rfl) (by kernel_rfl) (fun _ _ _ h => h) (Or.inl ⟨by rfl, ?_⟩) (by assumption) ?_
    rotate_left
    · intro w hSw
      go_simp
      try with_reducible rfl
    try simp only [Act.put, List.getElem_toArray, List.getElem_cons_succ, List.getElem_cons_zero, List.setIfInBounds_toArray, List.set_cons_zero, List.set_cons_succ]
    refine wpAnyH_take (i := 22) (oi := _) (v := ?_) rfl (by kernel_rfl) (by kernel_rfl) (by kernel_rfl) (fun _ _ _ h => h) (Or.inl ⟨by rfl, ?_⟩) (by assumption) ?_
    rotate_left
    · intro w hSw
      go_simp
      try with_reducible rfl
    try simp only [Act.put, List.getElem_toArray, List.getElem_cons_succ, List.getElem_cons_zero, List.setIfInBounds_toArray, List.set_cons_zero, List.set_cons_succ]
    refine wpAnyH_take (i := 23) (oi := _) (v := ?_) rfl (by kernel_rfl) (by kernel_rfl) (by kernel_rfl) (fun _ _ _ h => h) (Or.inl ⟨by rfl, ?_⟩) (by assumption) ?_
    rotate_left
    · intro w hSw
      go_simp
      try with_reducible rfl
    try simp only [Act.put, List.getElem_toArray, List.getElem_cons_succ, List.getElem_cons_zero, List.setIfInBounds_toArray, List.set_cons_zero, List.set_cons_succ]
    refine wpAnyH_take (i := 25) (oi := _) (v := ?_) rfl (by kernel_rfl) (by kernel_rfl) (by kernel_rfl) (fun _ _ _ h => h) (Or.inl ⟨by rfl, ?_⟩) (by assumption) ?_
    rotate_left
    · intro w hSw
      go_simp
      try with_reducible rfl
    try simp only [Act.put, List.getElem_toArray, List.getElem_cons_succ, List.getElem_cons_zero, List.setIfInBounds_toArray, List.set_cons_zero, List.set_cons_succ]
    refine wpAnyH_take (i := 26) (oi := _) (v := ?_) rfl (by kernel_rfl) (by kernel_rfl) (by kernel_rfl) (fun _ _ _ h => h) (Or.inl ⟨by rfl, ?_⟩) (by assumption) ?_
    rotate_left
    · intro w hSw
      go_simp
      try with_reducible rfl
    try simp only [Act.put, List.getElem_toArray, List.getElem_cons_succ, List.getElem_cons_zero, List.setIfInBounds_toArray, List.set_cons_zero, List.set_cons_succ]
    refine wpAnyH_take (i := 27) (oi := _) (v := ?_) rfl (by kernel_rfl) (by kernel_rfl) (by kernel_rfl) (fun _ _ _ h => h) (Or.inl ⟨by rfl, ?_⟩) (by assumption) ?_
    rotate_left
    · intro w hSw
      go_simp
      try with_reducible rfl
    try simp only [Act.put, List.getElem_toArray, List.getElem_cons_succ, List.getElem_cons_zero, List.setIfInBounds_toArray, List.set_cons_zero, List.set_cons_succ]
    refine wpAnyH_take (i := 28) (oi := _) (v := ?_) rfl (by kernel_rfl) (by kernel_rfl) (by kernel_rfl) (fun _ _ _ h => h) (Or.inl ⟨by rfl, ?_⟩) (by assumption) ?_
    rotate_left
    · intro w hSw
      go_simp
      try with_reducible rfl
    try simp only [Act.put, List.getElem_toArray, List.getElem_cons_succ, List.getElem_cons_zero, List.setIfInBounds_toArray, List.set_cons_zero, List.set_cons_succ]
    refine wpAnyH_take (i := 29) (oi := _) (v := ?_) rfl (by kernel_rfl) (by kernel_rfl) (by kernel_rfl) (fun _ _ _ h => h) (Or.inl ⟨by rfl, ?_⟩) (by assumption) ?_
    rotate_left
    · intro w hSw
      go_simp
      try with_reducible rfl
    try simp only [Act.put, List.getElem_toArray, List.getElem_cons_succ, List.getElem_cons_zero, List.setIfInBounds_toArray, List.set_cons_zero, List.set_cons_succ]
    refine wpAnyH_ready (rs := [24]) (by kernel_rfl) (by simp) ?_
    refine AllReadyH.cons (o := _) rfl (fun K hK => ?_) ?_
    rotate_left
    · exact AllReadyH.nil
    rw [if_pos (by rfl)]
    go_simp
    refine (hlen_any G (as_ ++ bs) _ (S5.out.below' (held_below hHeld))).mono ?_
    rintro e wn ⟨rfl, rfl⟩
    rw [HE.out]
    refine hK.out _ _ hHeld (fun hHeld => ?_)
    clear hK K
    try simp only [Act.put, List.getElem_toArray, List.getElem_cons_succ, List.getElem_cons_zero, List.setIfInBounds_toArray, List.set_cons_zero, List.set_cons_succ]
    refine wpAnyH_take (i := 30) (oi := _) (v := ?_) rfl (by kernel_rfl) (by kernel_rfl) (by kernel_rfl) (fun _ _ _ h => h) (Or.inl ⟨by rfl, ?_⟩) (by assumption) ?_
    rotate_left
    · intro w hSw
      go_simp
      try with_reducible rfl
    try simp only [Act.put, List.getElem_toArray, List.getElem_cons_succ, List.getElem_cons_zero, List.setIfInBounds_toArray, List.set_cons_zero, List.set_cons_succ]
    refine wpAnyH_take (i := 31) (oi := _) (v := ?_) rfl (by kernel_rfl) (by kernel_rfl) (by kernel_rfl) (fun _ _ _ h => h) (Or.inl ⟨by rfl, ?_⟩) (by assumption) ?_
    rotate_left
    · intro w hSw
      go_simp
      try with_reducible rfl
    try simp only [Act.put, List.getElem_toArray, List.getElem_cons_succ, List.getElem_cons_zero, List.setIfInBounds_toArray, List.set_cons_zero, List.set_cons_succ]
    refine wpAnyH_take (i := 32) (oi := _) (v := ?_) rfl (by kernel_rfl) (by kernel_rfl) (by kernel_rfl) (fun _ _ _ h => h) (Or.inl ⟨by rfl, ?_⟩) (by assumption) ?_
    rotate_left
    · intro w hSw
      go_simp
      try with_reducible rfl
    try simp only [Act.put, List.getElem_toArray, List.getElem_cons_succ, List.getElem_cons_zero, List.setIfInBounds_toArray, List.set_cons_zero, List.set_cons_succ]
    refine wpAnyH_done (by kernel_rfl) ?_ _
    go_wp2_with fail
    go_ret
    exact ⟨rfl, B5.out.trans ((held_below hHeld).mono B5.out.size)⟩
  exact AllReadyH.nil
end Go.Proofs.Ytgpldaphblphgaa
