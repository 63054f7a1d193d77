/-
  The walk of the document's Mac; the law ShaMacs.
-/
import Derived.Test.YtgpldaphblphgaaShaN
namespace Go.Proofs.Ytgpldaphblphgaa
open Go.RowKit Go.Great

theorem xor_snoc {l : List UInt8} {i : Nat} {x y : UInt8} (h : l[i]? = some y) : ((l.take (i + 1)).map (· ^^^ x)).map bv = List.take i (List.map (bv ∘ fun z => z ^^^ x) l) ++ [Value.int .u8 ((y ^^^ x).toNat : Int)] := by
  rw [List.take_add_one, h]; simp [List.map_take, bv]
theorem own_apart {w w' : World} {base e n m c d n' c' : Nat} {A A' B : Option Addr} {xs ys : List Value} (_hx : Own w base e A n c xs) (hy : Own w base e B m d ys)
    (hat : (Value.slice A' n' c').ownBlock = (Value.slice A n c).ownBlock ∨ (Value.slice A' n' c').ownBlock = some w'.heap.size) (hz : w.heap.size ≤ w'.heap.size)
    (h : ∀ g, (Value.slice A n c).ownBlock = some g → (Value.slice B m d).ownBlock ≠ some g) : ∀ g, (Value.slice A' n' c').ownBlock = some g → (Value.slice B m d).ownBlock ≠ some g := by
  intro g hg hb
  rcases hat with e | e
  · exact h g (e ▸ hg) hb
  · rw [e] at hg; injection hg with hg
    have := hy.row_lt g hb
    omega

set_option maxHeartbeats 2000000 in
set_option maxRecDepth 100000 in
theorem rmac_any (key bs : List UInt8) (A B : Option Addr) (n c m d : Nat) (w : World) (hb : SlB w w.heap.size A n key) (hb2 : SlB w w.heap.size B m bs)
    (hn : n ≤ 140737488351232) (hm : m ≤ 140737488351232) :
    Calls Try.prog 20 #[.slice A n c, .slice B m d] w fun e w' => e = .returned (.agg ((Sha.mac key bs).map bv).toArray) ∧ Below w.heap.size w w' := by
  have HA := hide hb; have HB := hide hb2; have HL := hide hb.len
  clear hb hb2
  go_enter Try.func20, Try.ntmps20
  go_upto_region 1 with (fail)
  refine wp_world (fun X => RowV X w.heap.size 28 (List.replicate 32 (.int .u8 0)) ∧ Below w.heap.size w X ∧ w.heap.size < X.heap.size)
    ⟨(heap_alloc_new w _).trans (by kernel_rfl), (Below.refl _ _).alloc (Nat.le_refl _) _, by simp⟩ ?_
  rintro X ⟨x1, x2, x3⟩
  have R := hide x1; have BX := hide x2; have ZX := hide x3
  clear x1 x2 x3
  have OE : Hid (Own (X.alloc (.cells #[] 5)) X.heap.size 5 (some ⟨X.heap.size, 0, none⟩) 0 0 []) := hide (Own.of_block (heap_alloc_new X _) (Nat.le_refl _) rfl (by decide))
  have SA := hide (HA.out.up (BX.out.alloc BX.out.size (.cells #[] 5)))
  go_wp2_with (at_builtin; go_must (with_reducible refine wpList_app rfl (.tmp 11) (.tmp 12) 22 rfl (.int .u8 0) 1 Try.underlying22 info_u8 (cells_int _ _) rfl OE.out rfl SA.out.sl (bytes_oneCell key) (by unfold maxLen; omega) (by omega) (by simp) ?_))
  intro A1 c1 w1 ho hgr _
  -- CUT
  have hb1 : Below X.heap.size X w1 := below_of_grown ((Below.refl _ _).alloc (Nat.le_refl _) _) hgr (by simp) OE.out.row_ge
  have LR0 := hide (R.out.below' hb1)
  have LB0 := hide (BX.out.trans (hb1.mono BX.out.size))
  have LO0 := hide ho
  have LZ0 : Hid (X.heap.size ≤ w1.heap.size) := hide hb1.size
  clear ho hgr hb1 OE SA R BX
  by_cases hlong : 64 < n
  · have HSH : Hid (Sha.short key = Sha.sum key) := hide (by unfold Sha.short; rw [if_pos (by have := HL.out; omega)])
    have hli : (64 : Int) < (n : Int) := by omega
    clear LO0
    go_wp2_with fail
    refine (rdig_any A n c key _ (HA.out.up LB0.out) (by omega)).mono ?_
    rintro e w3 ⟨rfl, hb⟩
    have LR1 := hide (LR0.out.below' hb)
    have LB1 := hide (LB0.out.trans (hb.mono LB0.out.size))
    have LZ1 : Hid (X.heap.size ≤ w3.heap.size) := hide (Nat.le_trans LZ0.out hb.size)
    obtain ⟨C, hC⟩ : ∃ C, C = ((Sha.sum key).map bv).toArray := ⟨_, rfl⟩
    have h1 : C.all (·.oneCell') = true := by rw [hC]; exact bytes_one _
    have hs : C.size = 32 := by rw [hC]; simp [Sha.sum_length]
    rw [← hC]
    have HC := hide hC; have HSC := hide hs; have H1 := hide h1
    clear hC hs h1 hb LR0 LB0 LZ0
    go_upto_region 4 with ((with_reducible refine wpList_store_row rfl 28 (.tmp 6) (.tmp 18) rfl w3.heap.size C rfl rfl 28 _ (heap_alloc_new w3 _) ?r1 ?r2 H1.out ?_))
    case r1 => rw [HSC.out]; kernel_rfl
    case r2 => rw [HSC.out]; rfl
    refine wp_world (fun Y => SlB Y Y.heap.size (some ⟨w3.heap.size, 0, none⟩) 32 (Sha.sum key) ∧ RowV Y w.heap.size 28 (List.replicate 32 (.int .u8 0)) ∧ Below w.heap.size w Y ∧ X.heap.size ≤ Y.heap.size)
      ⟨SlB.of_block (rest := []) (by rw [List.append_nil, ← HC.out]; exact row_set (heap_alloc_new w3 _)) (by simp) (Sha.sum_length _), (LR1.out.alloc _).setRow (by have := LR1.out.lt; omega), below_setRow (LB1.out.alloc LB1.out.size _) LB1.out.size _, by have := LZ1.out; simp; omega⟩ ?_
    rintro Y ⟨y1, y2, y3, y4⟩
    have hbY : Below Y.heap.size Y (Y.alloc (.cells #[] 5)) := (Below.refl _ _).alloc (Nat.le_refl _) _
    have SD := hide (y1.up hbY)
    have OE : Hid (Own (Y.alloc (.cells #[] 5)) Y.heap.size 5 (some ⟨Y.heap.size, 0, none⟩) 0 0 []) := hide (Own.of_block (heap_alloc_new Y _) (Nat.le_refl _) rfl (by decide))
    have OX : Hid (Own (Y.alloc (.cells #[] 5)) X.heap.size 5 (some ⟨Y.heap.size, 0, none⟩) 0 0 []) := hide (Own.of_block (heap_alloc_new Y _) y4 rfl (by decide))
    have Y2 := hide y2; have Y3 := hide y3; have Y4 := hide y4
    clear y1 y2 y3 y4 hbY HC HSC H1 LR1 LB1 LZ1
    go_wp2_with (at_builtin; go_must (with_reducible refine wpList_app rfl (.tmp 19) (.tmp 20) 22 rfl (.int .u8 0) 1 Try.underlying22 info_u8 (cells_int _ _) rfl OX.out rfl SD.out.sl (bytes_oneCell (Sha.sum key)) (by unfold maxLen; omega) (by omega) (by have := Y4.out; simp; omega) ?_))
    intro A2 c2 w2 ho hgr _
    have hb2 : Below Y.heap.size Y w2 := below_of_grown ((Below.refl _ _).alloc (Nat.le_refl _) _) hgr (by simp) OE.out.row_ge
    have LR := hide (Y2.out.below' hb2)
    have LB := hide (Y3.out.trans (hb2.mono Y3.out.size))
    have LZ : Hid (X.heap.size ≤ w2.heap.size) := hide (Nat.le_trans Y4.out hb2.size)
    have HSL : Hid (32 ≤ 64) := hide (by omega)
    have HKL : Hid ((Sha.sum key).length = 32) := hide (Sha.sum_length _)
    have LO : Hid (Own w2 X.heap.size 5 A2 32 c2 ((Sha.sum key).map bv)) := hide ho
    clear ho hgr hb2 OE OX SD Y2 Y3 Y4
    obtain ⟨LV, hLV⟩ : ∃ LV, LV = 32 := ⟨_, rfl⟩
    rw [← hLV] at HSL HKL LO
    have HLV := hide hLV
    rw [show (Value.slice A2 32 c2) = Value.slice A2 LV c2 by rw [hLV]]
    clear hLV
    go_wp2_with fail

    -- long: LV bytes of it, in LA, room LC; world LW; facts LO, LR, LB, LZ, HSH
    go_loopw [5] (fun v5 wq => ∃ (k : Nat) (A3 : Option Addr) (c3 : Nat), LV + k ≤ 64 ∧ v5 = .slice A3 (LV + k) c3 ∧ Hid (Own wq X.heap.size 5 A3 (LV + k) c3 (((Sha.sum key) ++ List.replicate k 0).map bv)) ∧ Hid (RowV wq w.heap.size 28 (List.replicate 32 (.int .u8 0))) ∧ Hid (Below w.heap.size w wq) ∧ Hid (X.heap.size ≤ wq.heap.size)) (fun v _ => (match v with | .slice _ q _ => 64 - q | _ => 0))
    case atStart => exact ⟨0, _, _, by have := HSL.out; omega, rfl, hide (by simpa using LO.out), LR, LB, LZ⟩
    case round =>
      clear LO LR LB LZ
      obtain ⟨k, A3, c3, hk, rfl, HO, R, BX, HZ⟩ := hrel
      by_cases hlt : LV + k < 64
      · go_wp2_with (at_builtin; go_must (with_reducible refine wpList_app rfl (.tmp 25) (.tmp 26) 22 rfl (.int .u8 0) 1 Try.underlying22 info_u8 (cells_int _ _) rfl (HO.out.alloc _) rfl Sl.one (one_int _ _) (by unfold maxLen; omega) (by omega) (by have := HZ.out; rw [World.size_alloc]; omega) ?_))
        intro A4 c4 w4 ho hgr _
        have hbX : w.heap.size ≤ X.heap.size := by have := ZX.out; omega
        have B4 := hide (below_of_grown (BX.out.alloc BX.out.size (.cells #[.int .u8 0] 5)) hgr (by have := BX.out.size; rw [World.size_alloc]; omega) (fun g hg => Nat.le_trans hbX (HO.out.row_ge g hg)))
        have R4 : Hid (RowV w4 w.heap.size 28 (List.replicate 32 (.int .u8 0))) := hide ((hgr.block w.heap.size (by have := R.out.lt; rw [World.size_alloc]; omega) (by
          intro e
          have := HO.out.row_ge w.heap.size e.symm
          have := ZX.out; omega)).trans (R.out.alloc (.cells #[.int .u8 0] 5)))
        have O4 : Hid (Own w4 X.heap.size 5 A4 (LV + (k + 1)) c4 (List.map bv ((Sha.sum key) ++ List.replicate (k + 1) 0))) := hide (by
          have e : List.map bv ((Sha.sum key) ++ List.replicate (k + 1) 0) = List.map bv (Sha.sum key) ++ (List.replicate k (bv 0) ++ [Value.int .u8 0]) := by simp [List.replicate_succ', bv]
          rw [e]; rw [show LV + (k + 1) = LV + k + 1 by omega]; simpa using ho)
        have Z4 : Hid (X.heap.size ≤ w4.heap.size) := hide (by have := hgr.size; have := HZ.out; rw [World.size_alloc] at *; omega)
        clear ho hgr
        go_wp2
        go_roundw
        case rel => exact ⟨k + 1, A4, c4, by omega, rfl, O4, R4, B4, Z4⟩
        case measure => simp; omega
      · have HK64 : Hid ((Sha.sum key) ++ List.replicate k 0 = Sha.key64 key) := hide (by unfold Sha.key64; rw [HSH.out, show k = 64 - ((Sha.sum key)).length by have := HKL.out; omega])
        obtain ⟨q, hq⟩ : ∃ q, q = LV + k := ⟨_, rfl⟩
        rw [← hq] at HO ⊢
        have hq64 : q = 64 := by omega
        rw [HK64.out] at HO
        have HQ := hide hq64; have hqi : ¬ ((q : Int) < 64) := by omega
        have HS0 : Hid (SlB wr wr.heap.size A3 q (Sha.key64 key)) := hide HO.out.slB
        obtain ⟨w2, hw2⟩ : ∃ w2, w2 = wr := ⟨_, rfl⟩
        rw [← hw2] at HO R BX HZ HS0 ⊢
        clear hq hq64 hlt hk hw2 HO HK64
        go_wp2_with fail
        go_loopw [7, 8, 9] (fun v7 v8 v9 wq => ∃ (i : Nat) (A7 A8 : Option Addr) (c7 c8 : Nat), i ≤ 64 ∧ v7 = .slice A7 i c7 ∧ v8 = .slice A8 i c8 ∧ v9 = .int .i64 i ∧ Hid (Own wq w2.heap.size 5 A7 i c7 ((((Sha.key64 key).take i).map (· ^^^ 54)).map bv)) ∧ Hid (Own wq w2.heap.size 5 A8 i c8 ((((Sha.key64 key).take i).map (· ^^^ 92)).map bv)) ∧ Hid (∀ g, (Value.slice A7 i c7).ownBlock = some g → (Value.slice A8 i c8).ownBlock ≠ some g) ∧ Hid (Below w2.heap.size w2 wq)) (fun _ _ v _ => 64 - (intOf v).toNat)
        case atStart => exact ⟨0, none, none, 0, 0, by omega, rfl, rfl, rfl, hide Own.nil_, hide Own.nil_, hide (fun g h => by cases h), hide (Below.refl _ _)⟩
        case round =>
          obtain ⟨i, A7, A8, c7, c8, hi, rfl, rfl, rfl, O7, O8, HD, HW⟩ := hrel
          by_cases hlt : i < 64
          · obtain ⟨b, off, y, rfl, hbb, cy0, HY⟩ := HS0.out.byte (k := i) (by have := HQ.out; omega)
            have cy := (HW.out.cell (p := ⟨b, off + i, none⟩) hbb).trans cy0
            have HCY := hide cy0; have HBB := hide hbb; clear cy0
            have b1 : (0 : Int) ≤ (i : Int) := by omega
            have b2 : (i : Int) < (q : Int) := by have := HQ.out; omega
            have hq1 : i + 1 ≤ maxLen := by unfold maxLen; omega
            have hq2 : (i + 1) * 1 ≤ 140737488355328 := by omega
            have hz9 : w2.heap.size ≤ wr.heap.size := HW.out.size
            go_wp2_with (at_builtin; go_must (with_reducible refine wpList_app rfl (.tmp 32) (.tmp 38) 22 rfl (.int .u8 0) 1 Try.underlying22 info_u8 (cells_int _ _) rfl (O7.out.alloc _) rfl Sl.one (one_int _ _) hq1 hq2 (by rw [World.size_alloc]; omega) ?_))
            intro A9 c9 w9 ho hgr hat
            have B9 := hide (below_of_grown (HW.out.alloc HW.out.size (.cells #[.int .u8 (bits .xor .u8 (y.toNat : Int) 54)] 5)) hgr (by rw [World.size_alloc]; omega) O7.out.row_ge)
            have y256 := y.toNat_lt
            have q1 := u8_xor_nat y.toNat 54 y256 (by omega)
            have q2 := u8_xor_nat y.toNat 92 y256 (by omega)
            have HQ1 : Hid (bits .xor .u8 (y.toNat : Int) 54 = ((y ^^^ 54).toNat : Int)) := hide (by rw [UInt8.toNat_xor]; exact q1)
            have HQ2 : Hid (bits .xor .u8 (y.toNat : Int) 92 = ((y ^^^ 92).toNat : Int)) := hide (by rw [UInt8.toNat_xor]; exact q2)
            have O79 : Hid (Own w9 w2.heap.size 5 A9 (i + 1) c9 ((((Sha.key64 key).take (i + 1)).map (· ^^^ 54)).map bv)) := hide (by
              rw [xor_snoc HY.out, ← HQ1.out]; exact ho)
            have O89 := hide ((O8.out.alloc (.cells #[.int .u8 (bits .xor .u8 (y.toNat : Int) 54)] 5)).kept hgr (by
              cases h : (Value.slice A8 i c8).ownBlock with
              | none => exact .inl rfl
              | some g => right; intro e; exact HD.out g e.symm h))
            have HD9 := hide (own_apart (w' := wr.alloc (.cells #[.int .u8 (bits .xor .u8 (y.toNat : Int) 54)] 5)) (n' := i + 1) O7.out O8.out (by rw [World.size_alloc]; exact hat) (by simp) HD.out)
            have cy9 := (B9.out.cell (p := ⟨b, off + i, none⟩) HBB.out).trans HCY.out
            have hz10 : w2.heap.size ≤ w9.heap.size := B9.out.size
            clear q1 q2 y256 ho hgr hat cy
            go_wp2_with (at_builtin; go_must (with_reducible refine wpList_app rfl (.tmp 40) (.tmp 46) 22 rfl (.int .u8 0) 1 Try.underlying22 info_u8 (cells_int _ _) rfl (O89.out.alloc _) rfl Sl.one (one_int _ _) hq1 hq2 (by rw [World.size_alloc]; omega) ?_))
            intro A10 c10 w10 ho hgr hat
            have B10 := hide (below_of_grown (B9.out.alloc B9.out.size (.cells #[.int .u8 (bits .xor .u8 (y.toNat : Int) 92)] 5)) hgr (by rw [World.size_alloc]; omega) O89.out.row_ge)
            have O810 : Hid (Own w10 w2.heap.size 5 A10 (i + 1) c10 ((((Sha.key64 key).take (i + 1)).map (· ^^^ 92)).map bv)) := hide (by
              rw [xor_snoc HY.out, ← HQ2.out]; exact ho)
            have HDs : ∀ g, (Value.slice A8 i c8).ownBlock = some g → (Value.slice A9 (i + 1) c9).ownBlock ≠ some g := fun g h1 h2 => HD9.out g h2 h1
            have O710 := hide ((O79.out.alloc (.cells #[.int .u8 (bits .xor .u8 (y.toNat : Int) 92)] 5)).kept hgr (by
              cases h : (Value.slice A9 (i + 1) c9).ownBlock with
              | none => exact .inl rfl
              | some g => right; intro e; exact HDs g e.symm h))
            have HD10 := hide (own_apart (w' := w9.alloc (.cells #[.int .u8 (bits .xor .u8 (y.toNat : Int) 92)] 5)) (n' := i + 1) O89.out O79.out (by rw [World.size_alloc]; exact hat) (by simp) HDs)
            have HD11 : Hid (∀ g, (Value.slice A9 (i + 1) c9).ownBlock = some g → (Value.slice A10 (i + 1) c10).ownBlock ≠ some g) := hide (fun g h1 h2 => HD10.out g h2 h1)
            clear ho hgr hat HDs cy9
            go_wp2
            go_roundw
            case rel => exact ⟨i + 1, A9, A10, c9, c10, by omega, rfl, rfl, by go_num, O710, O810, HD11, B10⟩
            case measure => simp [intOf]; omega
          · have hge : ¬ ((i : Int) < 64) := by omega
            obtain ⟨I6, hI6⟩ : ∃ I, I = (Sha.key64 key).map (· ^^^ 54) := ⟨_, rfl⟩
            obtain ⟨O6, hO6⟩ : ∃ O, O = (Sha.key64 key).map (· ^^^ 92) := ⟨_, rfl⟩
            have hk6 := Sha.key64_length key
            rw [List.take_of_length_le (by omega), ← hI6] at O7
            rw [List.take_of_length_le (by omega), ← hO6] at O8
            have HMAC : Hid (Sha.mac key bs = Sha.sum (O6 ++ Sha.sum (I6 ++ bs))) := hide (by unfold Sha.mac; rw [← hI6, ← hO6])
            have BW := hide (BX.out.trans (HW.out.mono BX.out.size))
            have SB := hide (HB.out.up BW.out)
            have RW := hide (R.out.below' HW.out)
            have hz9 : w2.heap.size ≤ wr.heap.size := HW.out.size
            have hbX : w.heap.size ≤ w2.heap.size := BX.out.size
            have HRL := hide R.out.lt
            clear hI6 hO6 hk6 R HS0 hlt
            go_wp2_with (at_builtin; go_must (with_reducible refine wpList_app rfl (.tmp 48) (.tmp 49) 22 rfl (.int .u8 0) 1 Try.underlying22 info_u8 (cells_int _ _) rfl O7.out rfl SB.out.sl (bytes_oneCell bs) (by unfold maxLen; omega) (by omega) hz9 ?_))
            intro A9 c9 w9 ho hgr hat
            have B9 := hide (below_of_grown HW.out hgr hz9 O7.out.row_ge)
            have BW9 := hide (BX.out.trans (B9.out.mono BX.out.size))
            have O89 := hide (O8.out.kept hgr (by
              cases h : (Value.slice A8 i c8).ownBlock with
              | none => exact .inl rfl
              | some g => right; intro e; exact HD.out g e.symm h))
            have R9 : Hid (RowV w9 w.heap.size 28 (List.replicate 32 (.int .u8 0))) := hide ((hgr.block w.heap.size RW.out.lt (by
              intro e
              have := O7.out.row_ge w.heap.size e.symm
              have := HRL.out; omega)).trans RW.out)
            have S9 : Hid (SlB w9 w9.heap.size A9 (i + m) (I6 ++ bs)) := hide (by
              have : Own w9 w2.heap.size 5 A9 (i + m) c9 ((I6 ++ bs).map bv) := by rw [List.map_append]; exact ho
              exact this.slB)
            clear ho hgr hat RW SB BW O7 O8 HD HW
            go_wp2_with fail
            refine (rdig_any A9 (i + m) c9 (I6 ++ bs) _ S9.out (by omega)).mono ?_
            rintro e w10 ⟨rfl, hb⟩
            have B10 := hide (BW9.out.trans (hb.mono BW9.out.size))
            replace O89 := hide (O89.out.below hb)
            replace R9 := hide (R9.out.below' hb)
            have hz10 : w2.heap.size ≤ w10.heap.size := Nat.le_trans B9.out.size hb.size
            obtain ⟨D, hD⟩ : ∃ D, D = Sha.sum (I6 ++ bs) := ⟨_, rfl⟩
            have hDl : D.length = 32 := by rw [hD]; exact Sha.sum_length _
            rw [← hD]; rw [← hD] at HMAC
            obtain ⟨C, hC⟩ : ∃ C, C = (D.map bv).toArray := ⟨_, rfl⟩
            have h1 : C.all (·.oneCell') = true := by rw [hC]; exact bytes_one _
            have hs : C.size = 32 := by rw [hC]; simp [hDl]
            rw [← hC]
            have HC := hide hC; have HSC := hide hs; have H1 := hide h1; have HDL := hide hDl
            clear hC hs h1 hb hD hDl S9 BW9
            go_upto_region 15 with ((with_reducible refine wpList_store_row rfl 28 (.tmp 10) (.tmp 51) rfl w10.heap.size C rfl rfl 28 _ (heap_alloc_new w10 _) ?q1 ?q2 H1.out ?_))
            case q1 => rw [HSC.out]; kernel_rfl
            case q2 => rw [HSC.out]; rfl
            refine wp_world (fun Z => RowV Z w10.heap.size 28 (D.map bv) ∧ Own Z w2.heap.size 5 A8 i c8 (O6.map bv) ∧ RowV Z w.heap.size 28 (List.replicate 32 (.int .u8 0)) ∧ Below w.heap.size w Z ∧ w10.heap.size < Z.heap.size)
              ⟨by unfold RowV; rw [← HC.out]; exact row_set (heap_alloc_new w10 _), (O89.out.alloc _).kept (grown_setRow (G := w10.heap.size) (grown_refl _ _) C) (by
                cases h : (Value.slice A8 i c8).ownBlock with
                | none => exact .inl rfl
                | some g => right; intro e; injection e with e; have := O89.out.row_lt g h; omega), (R9.out.alloc _).setRow (by have := HRL.out; omega), below_setRow (B10.out.alloc B10.out.size _) B10.out.size _, by simp⟩ ?_
            rintro Z ⟨z1, z2, z3, z4, z5⟩
            have SD : Hid (SlB Z Z.heap.size (some ⟨w10.heap.size, 0, none⟩) 32 D) := hide (SlB.of_block (rest := []) (by rw [List.append_nil]; exact z1) z5 HDL.out)
            have Z2 := hide z2; have Z3 := hide z3; have Z4 := hide z4
            have hzz : w2.heap.size ≤ Z.heap.size := by omega
            clear z1 z2 z3 z4 HC H1 HSC O89 R9 B10
            go_wp2_with (at_builtin; go_must (with_reducible refine wpList_app rfl (.tmp 52) (.tmp 53) 22 rfl (.int .u8 0) 1 Try.underlying22 info_u8 (cells_int _ _) rfl Z2.out rfl SD.out.sl (bytes_oneCell D) (by unfold maxLen; omega) (by omega) hzz ?_))
            intro A11 c11 w11 ho hgr hat
            have B11 := hide (below_of_grown Z4.out hgr Z4.out.size (fun g hg => Nat.le_trans hbX (Z2.out.row_ge g hg)))
            have R11 : Hid (RowV w11 w.heap.size 28 (List.replicate 32 (.int .u8 0))) := hide ((hgr.block w.heap.size Z3.out.lt (by
              intro e
              have := Z2.out.row_ge w.heap.size e.symm
              have := HRL.out; omega)).trans Z3.out)
            have S11 : Hid (SlB w11 w11.heap.size A11 (i + 32) (O6 ++ D)) := hide (by
              have : Own w11 w2.heap.size 5 A11 (i + 32) c11 ((O6 ++ D).map bv) := by rw [List.map_append]; exact ho
              exact this.slB)
            clear ho hgr hat
            go_wp2_with fail
            refine (rdig_any A11 (i + 32) c11 (O6 ++ D) _ S11.out (by omega)).mono ?_
            rintro e w12 ⟨rfl, hb⟩
            rw [← HMAC.out]
            have B12 := hide (B11.out.trans (hb.mono B11.out.size))
            have R12 : Hid (w12.heap[w.heap.size]? = some (.cells (List.replicate 32 (Value.int .u8 0)).toArray 28 (0, 0))) := hide (R11.out.below' hb)
            obtain ⟨E, hE⟩ : ∃ E, E = ((Sha.mac key bs).map bv).toArray := ⟨_, rfl⟩
            have h1 : E.all (·.oneCell') = true := by rw [hE]; exact bytes_one _
            have hs : E.size = 32 := by rw [hE]; simp [Sha.mac, Sha.sum_length]
            rw [← hE]
            have HE := hide hE; have HSE := hide hs; have H1E := hide h1
            clear hE hs h1 hb
            go_wp2_with (with_reducible refine wpList_store_row rfl 28 (.tmp 4) (.tmp 55) rfl w.heap.size E rfl rfl 28 _ R12.out ?q3 ?q4 H1E.out ?_)
            case q3 => rw [HSE.out]; kernel_rfl
            case q4 => rw [HSE.out]; rfl
            have HF := hide (row_set (cs := E) R12.out)
            have HG2 := hide (below_setRow (g := w.heap.size) B12.out (Nat.le_refl _) E)
            generalize w12.setRow w.heap.size E = V at HF HG2 ⊢
            exact bodyPost_ret (v := .agg E) (results_cell_row rfl _ _ w.heap.size 28 E (0, 0) _ rfl HF.out Try.underlying28 rfl (by rw [HSE.out]; kernel_rfl)) rfl ⟨by rw [HE.out], HG2.out⟩

  · have HSH : Hid (Sha.short key = key) := hide (by unfold Sha.short; rw [if_neg (by have := HL.out; omega)])
    have HSL : Hid (n ≤ 64) := hide (by omega)
    have hli : ¬ (64 : Int) < (n : Int) := by omega
    have HKL : Hid (key.length = n) := HL
    have LO := LO0; have LR := LR0; have LB := LB0; have LZ := LZ0
    clear LO0 LR0 LB0 LZ0
    go_wp2_with fail

    -- long: n bytes of it, in LA, room LC; world LW; facts LO, LR, LB, LZ, HSH
    go_loopw [5] (fun v5 wq => ∃ (k : Nat) (A3 : Option Addr) (c3 : Nat), n + k ≤ 64 ∧ v5 = .slice A3 (n + k) c3 ∧ Hid (Own wq X.heap.size 5 A3 (n + k) c3 ((key ++ List.replicate k 0).map bv)) ∧ Hid (RowV wq w.heap.size 28 (List.replicate 32 (.int .u8 0))) ∧ Hid (Below w.heap.size w wq) ∧ Hid (X.heap.size ≤ wq.heap.size)) (fun v _ => (match v with | .slice _ q _ => 64 - q | _ => 0))
    case atStart => exact ⟨0, _, _, by have := HSL.out; omega, rfl, hide (by simpa using LO.out), LR, LB, LZ⟩
    case round =>
      clear LO LR LB LZ
      obtain ⟨k, A3, c3, hk, rfl, HO, R, BX, HZ⟩ := hrel
      by_cases hlt : n + k < 64
      · go_wp2_with (at_builtin; go_must (with_reducible refine wpList_app rfl (.tmp 25) (.tmp 26) 22 rfl (.int .u8 0) 1 Try.underlying22 info_u8 (cells_int _ _) rfl (HO.out.alloc _) rfl Sl.one (one_int _ _) (by unfold maxLen; omega) (by omega) (by have := HZ.out; rw [World.size_alloc]; omega) ?_))
        intro A4 c4 w4 ho hgr _
        have hbX : w.heap.size ≤ X.heap.size := by have := ZX.out; omega
        have B4 := hide (below_of_grown (BX.out.alloc BX.out.size (.cells #[.int .u8 0] 5)) hgr (by have := BX.out.size; rw [World.size_alloc]; omega) (fun g hg => Nat.le_trans hbX (HO.out.row_ge g hg)))
        have R4 : Hid (RowV w4 w.heap.size 28 (List.replicate 32 (.int .u8 0))) := hide ((hgr.block w.heap.size (by have := R.out.lt; rw [World.size_alloc]; omega) (by
          intro e
          have := HO.out.row_ge w.heap.size e.symm
          have := ZX.out; omega)).trans (R.out.alloc (.cells #[.int .u8 0] 5)))
        have O4 : Hid (Own w4 X.heap.size 5 A4 (n + (k + 1)) c4 (List.map bv (key ++ List.replicate (k + 1) 0))) := hide (by
          have e : List.map bv (key ++ List.replicate (k + 1) 0) = List.map bv key ++ (List.replicate k (bv 0) ++ [Value.int .u8 0]) := by simp [List.replicate_succ', bv]
          rw [e]; rw [show n + (k + 1) = n + k + 1 by omega]; simpa using ho)
        have Z4 : Hid (X.heap.size ≤ w4.heap.size) := hide (by have := hgr.size; have := HZ.out; rw [World.size_alloc] at *; omega)
        clear ho hgr
        go_wp2
        go_roundw
        case rel => exact ⟨k + 1, A4, c4, by omega, rfl, O4, R4, B4, Z4⟩
        case measure => simp; omega
      · have HK64 : Hid (key ++ List.replicate k 0 = Sha.key64 key) := hide (by unfold Sha.key64; rw [HSH.out, show k = 64 - (key).length by have := HKL.out; omega])
        obtain ⟨q, hq⟩ : ∃ q, q = n + k := ⟨_, rfl⟩
        rw [← hq] at HO ⊢
        have hq64 : q = 64 := by omega
        rw [HK64.out] at HO
        have HQ := hide hq64; have hqi : ¬ ((q : Int) < 64) := by omega
        have HS0 : Hid (SlB wr wr.heap.size A3 q (Sha.key64 key)) := hide HO.out.slB
        obtain ⟨w2, hw2⟩ : ∃ w2, w2 = wr := ⟨_, rfl⟩
        rw [← hw2] at HO R BX HZ HS0 ⊢
        clear hq hq64 hlt hk hw2 HO HK64
        go_wp2_with fail
        go_loopw [7, 8, 9] (fun v7 v8 v9 wq => ∃ (i : Nat) (A7 A8 : Option Addr) (c7 c8 : Nat), i ≤ 64 ∧ v7 = .slice A7 i c7 ∧ v8 = .slice A8 i c8 ∧ v9 = .int .i64 i ∧ Hid (Own wq w2.heap.size 5 A7 i c7 ((((Sha.key64 key).take i).map (· ^^^ 54)).map bv)) ∧ Hid (Own wq w2.heap.size 5 A8 i c8 ((((Sha.key64 key).take i).map (· ^^^ 92)).map bv)) ∧ Hid (∀ g, (Value.slice A7 i c7).ownBlock = some g → (Value.slice A8 i c8).ownBlock ≠ some g) ∧ Hid (Below w2.heap.size w2 wq)) (fun _ _ v _ => 64 - (intOf v).toNat)
        case atStart => exact ⟨0, none, none, 0, 0, by omega, rfl, rfl, rfl, hide Own.nil_, hide Own.nil_, hide (fun g h => by cases h), hide (Below.refl _ _)⟩
        case round =>
          obtain ⟨i, A7, A8, c7, c8, hi, rfl, rfl, rfl, O7, O8, HD, HW⟩ := hrel
          by_cases hlt : i < 64
          · obtain ⟨b, off, y, rfl, hbb, cy0, HY⟩ := HS0.out.byte (k := i) (by have := HQ.out; omega)
            have cy := (HW.out.cell (p := ⟨b, off + i, none⟩) hbb).trans cy0
            have HCY := hide cy0; have HBB := hide hbb; clear cy0
            have b1 : (0 : Int) ≤ (i : Int) := by omega
            have b2 : (i : Int) < (q : Int) := by have := HQ.out; omega
            have hq1 : i + 1 ≤ maxLen := by unfold maxLen; omega
            have hq2 : (i + 1) * 1 ≤ 140737488355328 := by omega
            have hz9 : w2.heap.size ≤ wr.heap.size := HW.out.size
            go_wp2_with (at_builtin; go_must (with_reducible refine wpList_app rfl (.tmp 32) (.tmp 38) 22 rfl (.int .u8 0) 1 Try.underlying22 info_u8 (cells_int _ _) rfl (O7.out.alloc _) rfl Sl.one (one_int _ _) hq1 hq2 (by rw [World.size_alloc]; omega) ?_))
            intro A9 c9 w9 ho hgr hat
            have B9 := hide (below_of_grown (HW.out.alloc HW.out.size (.cells #[.int .u8 (bits .xor .u8 (y.toNat : Int) 54)] 5)) hgr (by rw [World.size_alloc]; omega) O7.out.row_ge)
            have y256 := y.toNat_lt
            have q1 := u8_xor_nat y.toNat 54 y256 (by omega)
            have q2 := u8_xor_nat y.toNat 92 y256 (by omega)
            have HQ1 : Hid (bits .xor .u8 (y.toNat : Int) 54 = ((y ^^^ 54).toNat : Int)) := hide (by rw [UInt8.toNat_xor]; exact q1)
            have HQ2 : Hid (bits .xor .u8 (y.toNat : Int) 92 = ((y ^^^ 92).toNat : Int)) := hide (by rw [UInt8.toNat_xor]; exact q2)
            have O79 : Hid (Own w9 w2.heap.size 5 A9 (i + 1) c9 ((((Sha.key64 key).take (i + 1)).map (· ^^^ 54)).map bv)) := hide (by
              rw [xor_snoc HY.out, ← HQ1.out]; exact ho)
            have O89 := hide ((O8.out.alloc (.cells #[.int .u8 (bits .xor .u8 (y.toNat : Int) 54)] 5)).kept hgr (by
              cases h : (Value.slice A8 i c8).ownBlock with
              | none => exact .inl rfl
              | some g => right; intro e; exact HD.out g e.symm h))
            have HD9 := hide (own_apart (w' := wr.alloc (.cells #[.int .u8 (bits .xor .u8 (y.toNat : Int) 54)] 5)) (n' := i + 1) O7.out O8.out (by rw [World.size_alloc]; exact hat) (by simp) HD.out)
            have cy9 := (B9.out.cell (p := ⟨b, off + i, none⟩) HBB.out).trans HCY.out
            have hz10 : w2.heap.size ≤ w9.heap.size := B9.out.size
            clear q1 q2 y256 ho hgr hat cy
            go_wp2_with (at_builtin; go_must (with_reducible refine wpList_app rfl (.tmp 40) (.tmp 46) 22 rfl (.int .u8 0) 1 Try.underlying22 info_u8 (cells_int _ _) rfl (O89.out.alloc _) rfl Sl.one (one_int _ _) hq1 hq2 (by rw [World.size_alloc]; omega) ?_))
            intro A10 c10 w10 ho hgr hat
            have B10 := hide (below_of_grown (B9.out.alloc B9.out.size (.cells #[.int .u8 (bits .xor .u8 (y.toNat : Int) 92)] 5)) hgr (by rw [World.size_alloc]; omega) O89.out.row_ge)
            have O810 : Hid (Own w10 w2.heap.size 5 A10 (i + 1) c10 ((((Sha.key64 key).take (i + 1)).map (· ^^^ 92)).map bv)) := hide (by
              rw [xor_snoc HY.out, ← HQ2.out]; exact ho)
            have HDs : ∀ g, (Value.slice A8 i c8).ownBlock = some g → (Value.slice A9 (i + 1) c9).ownBlock ≠ some g := fun g h1 h2 => HD9.out g h2 h1
            have O710 := hide ((O79.out.alloc (.cells #[.int .u8 (bits .xor .u8 (y.toNat : Int) 92)] 5)).kept hgr (by
              cases h : (Value.slice A9 (i + 1) c9).ownBlock with
              | none => exact .inl rfl
              | some g => right; intro e; exact HDs g e.symm h))
            have HD10 := hide (own_apart (w' := w9.alloc (.cells #[.int .u8 (bits .xor .u8 (y.toNat : Int) 92)] 5)) (n' := i + 1) O89.out O79.out (by rw [World.size_alloc]; exact hat) (by simp) HDs)
            have HD11 : Hid (∀ g, (Value.slice A9 (i + 1) c9).ownBlock = some g → (Value.slice A10 (i + 1) c10).ownBlock ≠ some g) := hide (fun g h1 h2 => HD10.out g h2 h1)
            clear ho hgr hat HDs cy9
            go_wp2
            go_roundw
            case rel => exact ⟨i + 1, A9, A10, c9, c10, by omega, rfl, rfl, by go_num, O710, O810, HD11, B10⟩
            case measure => simp [intOf]; omega
          · have hge : ¬ ((i : Int) < 64) := by omega
            obtain ⟨I6, hI6⟩ : ∃ I, I = (Sha.key64 key).map (· ^^^ 54) := ⟨_, rfl⟩
            obtain ⟨O6, hO6⟩ : ∃ O, O = (Sha.key64 key).map (· ^^^ 92) := ⟨_, rfl⟩
            have hk6 := Sha.key64_length key
            rw [List.take_of_length_le (by omega), ← hI6] at O7
            rw [List.take_of_length_le (by omega), ← hO6] at O8
            have HMAC : Hid (Sha.mac key bs = Sha.sum (O6 ++ Sha.sum (I6 ++ bs))) := hide (by unfold Sha.mac; rw [← hI6, ← hO6])
            have BW := hide (BX.out.trans (HW.out.mono BX.out.size))
            have SB := hide (HB.out.up BW.out)
            have RW := hide (R.out.below' HW.out)
            have hz9 : w2.heap.size ≤ wr.heap.size := HW.out.size
            have hbX : w.heap.size ≤ w2.heap.size := BX.out.size
            have HRL := hide R.out.lt
            clear hI6 hO6 hk6 R HS0 hlt
            go_wp2_with (at_builtin; go_must (with_reducible refine wpList_app rfl (.tmp 48) (.tmp 49) 22 rfl (.int .u8 0) 1 Try.underlying22 info_u8 (cells_int _ _) rfl O7.out rfl SB.out.sl (bytes_oneCell bs) (by unfold maxLen; omega) (by omega) hz9 ?_))
            intro A9 c9 w9 ho hgr hat
            have B9 := hide (below_of_grown HW.out hgr hz9 O7.out.row_ge)
            have BW9 := hide (BX.out.trans (B9.out.mono BX.out.size))
            have O89 := hide (O8.out.kept hgr (by
              cases h : (Value.slice A8 i c8).ownBlock with
              | none => exact .inl rfl
              | some g => right; intro e; exact HD.out g e.symm h))
            have R9 : Hid (RowV w9 w.heap.size 28 (List.replicate 32 (.int .u8 0))) := hide ((hgr.block w.heap.size RW.out.lt (by
              intro e
              have := O7.out.row_ge w.heap.size e.symm
              have := HRL.out; omega)).trans RW.out)
            have S9 : Hid (SlB w9 w9.heap.size A9 (i + m) (I6 ++ bs)) := hide (by
              have : Own w9 w2.heap.size 5 A9 (i + m) c9 ((I6 ++ bs).map bv) := by rw [List.map_append]; exact ho
              exact this.slB)
            clear ho hgr hat RW SB BW O7 O8 HD HW
            go_wp2_with fail
            refine (rdig_any A9 (i + m) c9 (I6 ++ bs) _ S9.out (by omega)).mono ?_
            rintro e w10 ⟨rfl, hb⟩
            have B10 := hide (BW9.out.trans (hb.mono BW9.out.size))
            replace O89 := hide (O89.out.below hb)
            replace R9 := hide (R9.out.below' hb)
            have hz10 : w2.heap.size ≤ w10.heap.size := Nat.le_trans B9.out.size hb.size
            obtain ⟨D, hD⟩ : ∃ D, D = Sha.sum (I6 ++ bs) := ⟨_, rfl⟩
            have hDl : D.length = 32 := by rw [hD]; exact Sha.sum_length _
            rw [← hD]; rw [← hD] at HMAC
            obtain ⟨C, hC⟩ : ∃ C, C = (D.map bv).toArray := ⟨_, rfl⟩
            have h1 : C.all (·.oneCell') = true := by rw [hC]; exact bytes_one _
            have hs : C.size = 32 := by rw [hC]; simp [hDl]
            rw [← hC]
            have HC := hide hC; have HSC := hide hs; have H1 := hide h1; have HDL := hide hDl
            clear hC hs h1 hb hD hDl S9 BW9
            go_upto_region 15 with ((with_reducible refine wpList_store_row rfl 28 (.tmp 10) (.tmp 51) rfl w10.heap.size C rfl rfl 28 _ (heap_alloc_new w10 _) ?q1 ?q2 H1.out ?_))
            case q1 => rw [HSC.out]; kernel_rfl
            case q2 => rw [HSC.out]; rfl
            refine wp_world (fun Z => RowV Z w10.heap.size 28 (D.map bv) ∧ Own Z w2.heap.size 5 A8 i c8 (O6.map bv) ∧ RowV Z w.heap.size 28 (List.replicate 32 (.int .u8 0)) ∧ Below w.heap.size w Z ∧ w10.heap.size < Z.heap.size)
              ⟨by unfold RowV; rw [← HC.out]; exact row_set (heap_alloc_new w10 _), (O89.out.alloc _).kept (grown_setRow (G := w10.heap.size) (grown_refl _ _) C) (by
                cases h : (Value.slice A8 i c8).ownBlock with
                | none => exact .inl rfl
                | some g => right; intro e; injection e with e; have := O89.out.row_lt g h; omega), (R9.out.alloc _).setRow (by have := HRL.out; omega), below_setRow (B10.out.alloc B10.out.size _) B10.out.size _, by simp⟩ ?_
            rintro Z ⟨z1, z2, z3, z4, z5⟩
            have SD : Hid (SlB Z Z.heap.size (some ⟨w10.heap.size, 0, none⟩) 32 D) := hide (SlB.of_block (rest := []) (by rw [List.append_nil]; exact z1) z5 HDL.out)
            have Z2 := hide z2; have Z3 := hide z3; have Z4 := hide z4
            have hzz : w2.heap.size ≤ Z.heap.size := by omega
            clear z1 z2 z3 z4 HC H1 HSC O89 R9 B10
            go_wp2_with (at_builtin; go_must (with_reducible refine wpList_app rfl (.tmp 52) (.tmp 53) 22 rfl (.int .u8 0) 1 Try.underlying22 info_u8 (cells_int _ _) rfl Z2.out rfl SD.out.sl (bytes_oneCell D) (by unfold maxLen; omega) (by omega) hzz ?_))
            intro A11 c11 w11 ho hgr hat
            have B11 := hide (below_of_grown Z4.out hgr Z4.out.size (fun g hg => Nat.le_trans hbX (Z2.out.row_ge g hg)))
            have R11 : Hid (RowV w11 w.heap.size 28 (List.replicate 32 (.int .u8 0))) := hide ((hgr.block w.heap.size Z3.out.lt (by
              intro e
              have := Z2.out.row_ge w.heap.size e.symm
              have := HRL.out; omega)).trans Z3.out)
            have S11 : Hid (SlB w11 w11.heap.size A11 (i + 32) (O6 ++ D)) := hide (by
              have : Own w11 w2.heap.size 5 A11 (i + 32) c11 ((O6 ++ D).map bv) := by rw [List.map_append]; exact ho
              exact this.slB)
            clear ho hgr hat
            go_wp2_with fail
            refine (rdig_any A11 (i + 32) c11 (O6 ++ D) _ S11.out (by omega)).mono ?_
            rintro e w12 ⟨rfl, hb⟩
            rw [← HMAC.out]
            have B12 := hide (B11.out.trans (hb.mono B11.out.size))
            have R12 : Hid (w12.heap[w.heap.size]? = some (.cells (List.replicate 32 (Value.int .u8 0)).toArray 28 (0, 0))) := hide (R11.out.below' hb)
            obtain ⟨E, hE⟩ : ∃ E, E = ((Sha.mac key bs).map bv).toArray := ⟨_, rfl⟩
            have h1 : E.all (·.oneCell') = true := by rw [hE]; exact bytes_one _
            have hs : E.size = 32 := by rw [hE]; simp [Sha.mac, Sha.sum_length]
            rw [← hE]
            have HE := hide hE; have HSE := hide hs; have H1E := hide h1
            clear hE hs h1 hb
            go_wp2_with (with_reducible refine wpList_store_row rfl 28 (.tmp 4) (.tmp 55) rfl w.heap.size E rfl rfl 28 _ R12.out ?q3 ?q4 H1E.out ?_)
            case q3 => rw [HSE.out]; kernel_rfl
            case q4 => rw [HSE.out]; rfl
            have HF := hide (row_set (cs := E) R12.out)
            have HG2 := hide (below_setRow (g := w.heap.size) B12.out (Nat.le_refl _) E)
            generalize w12.setRow w.heap.size E = V at HF HG2 ⊢
            exact bodyPost_ret (v := .agg E) (results_cell_row rfl _ _ w.heap.size 28 E (0, 0) _ rfl HF.out Try.underlying28 rfl (by rw [HSE.out]; kernel_rfl)) rfl ⟨by rw [HE.out], HG2.out⟩
end Go.Proofs.Ytgpldaphblphgaa
