/-
  The walk of the document's digest: Padded.
-/
import Derived.Test.YtokdliapkolngaaDoorShaC
import Derived.Test.YtokdliapkolngaaDoorSame
import Derived.Test.YtokdliapkolngaaDoorOwn
namespace Go.Proofs.YtokdliapkolngaaDoor
open Go.RowKit Go.Great

set_option maxRecDepth 100000 in
theorem sha_make_cap (kl kc : IntKind) (l n : Nat) (hl : l ≤ n) (hn : n ≤ 281474976710656) (W : World) :
    (Instr.makeSlice 40 (.int kl (l : Int)) (.int kc (n : Int))).run Tryd.prog W = .ok (.slice (some ⟨W.heap.size, 0, none⟩) l n) (W.alloc (.cells (Array.replicate n (Value.int .u8 0)) 5)) := by
  obtain ⟨i0, hi, hz0, hz1, hz2⟩ := info_parts info_u8
  have h := run_make (P := Tryd.prog) (w := W) 40 5 i0 (.int .u8 0) Tryd.underlying40 hi hz0 kl kc (l : Int) (n : Int) (by omega) (by omega) (by rw [hz2]; omega) (by omega)
  rw [h, hz1]
  simp only [Int.toNat_natCast, Nat.mul_one]
  congr 3
  apply Array.ext
  · simp [size_madeCells]
  · intro i h1 h2
    simp [madeCells, Value.cells, Nat.mod_one]

/-- the last k of the length's eight bytes -/
def row8 (N k : Nat) : List Value := (List.range 8).map fun j => if 8 ≤ j + k then .int .u8 ((N / 256 ^ (7 - j) % 256 : Nat) : Int) else .int .u8 0
theorem row8_set (N k : Nat) (hk : k < 8) : (row8 N k).set (7 - k) (.int .u8 ((N / 256 ^ k % 256 : Nat) : Int)) = row8 N (k + 1) := by
  match k, hk with
  | 0, _ | 1, _ | 2, _ | 3, _ | 4, _ | 5, _ | 6, _ | 7, _ => rfl
  | k + 8, h => exact absurd h (by omega)
set_option maxRecDepth 100000 in
theorem row8_end (N : Nat) : row8 N 8 = (Sha.be8 N).map bv := by
  unfold row8 Sha.be8
  rw [List.map_map]
  apply List.map_congr_left
  intro j hj
  rw [if_pos (by omega)]
  simp [bv, UInt8.toNat_ofNat']
theorem row8_length (N k : Nat) : (row8 N k).length = 8 := by simp [row8]
theorem row8_start (N : Nat) : row8 N 0 = List.replicate 8 (.int .u8 0) := by rfl
theorem pad_mid (n k : Nat) (h : (n + 1 + k) % 64 ≠ 56) (hk : k ≤ Sha.padN n) : k < Sha.padN n := by
  unfold Sha.padN at *; omega
theorem pad_end (n k : Nat) (h : (n + 1 + k) % 64 = 56) (hk : k ≤ Sha.padN n) : k = Sha.padN n := by
  unfold Sha.padN at *; omega
theorem padN_le (n : Nat) : Sha.padN n ≤ 63 := by unfold Sha.padN; omega

set_option maxHeartbeats 1000000 in
theorem padded_any (A : Option Addr) (n c : Nat) (bs : List UInt8) (w : World) (hb : SlB w w.heap.size A n bs) (hn : n ≤ 140737488355000) :
    Calls Tryd.prog 45 #[.slice A n c] w fun e w' => ∃ A2 m c2, e = .returned (.slice A2 m c2) ∧ Own w' w.heap.size 5 A2 m c2 ((Sha.padded bs).map bv) ∧ Below w.heap.size w w' := by
  have HL := hide hb.len
  have hmk := sha_make_cap .i64 .i64 0 (n + 80) (by omega) (by omega) w
  rw [show ((n + 80 : Nat) : Int) = (n : Int) + 80 by omega, show ((0 : Nat) : Int) = 0 from rfl] at hmk
  have hg := hide (made_block w (n + 80) 5)
  have BM := hide ((Below.refl w.heap.size w).alloc (Nat.le_refl _) (.cells (Array.replicate (n + 80) (Value.int .u8 0)) 5))
  have HB := hide (hb.up BM.out)
  have OM : Hid (Own (w.alloc (.cells (Array.replicate (n + 80) (Value.int .u8 0)) 5)) w.heap.size 5 (some ⟨w.heap.size, 0, none⟩) 0 (n + 80) []) := hide (Own.of_made (k := 0) hg.out (Nat.le_refl _) (by simp) (by unfold maxLen; omega) (by omega))
  clear hb
  go_enter Tryd.func45, Tryd.ntmps45
  go_wp2_with (at_builtin; go_must (with_reducible refine wpList_app rfl (.tmp 10) (.tmp 11) 40 rfl (.int .u8 0) 1 Tryd.underlying40 info_u8 (cells_int _ _) rfl OM.out rfl HB.out.sl (bytes_oneCell bs) (by unfold maxLen; omega) (by omega) BM.out.size ?_))
  intro A1 c1 w1 ho hgr _
  have B1 : Hid (Below w.heap.size w w1) := hide (below_of_grown BM.out hgr BM.out.size OM.out.row_ge)
  have O1 := hide ho
  clear ho hgr hmk OM HB BM hg
  go_wp2_with (at_builtin; go_must (with_reducible refine wpList_app rfl (.tmp 13) (.tmp 14) 40 rfl (.int .u8 0) 1 Tryd.underlying40 info_u8 (cells_int _ _) rfl (O1.out.alloc _) rfl Sl.one (one_int _ _) (by unfold maxLen; omega) (by omega) (by have := B1.out.size; rw [World.size_alloc]; omega) ?_))
  intro A2 c2 w2 ho hgr _
  have B2 : Hid (Below w.heap.size w w2) := hide (below_of_grown (B1.out.alloc B1.out.size _) hgr (by have := B1.out.size; rw [World.size_alloc]; omega) O1.out.row_ge)
  have O2 : Hid (Own w2 w.heap.size 5 A2 (n + 1) c2 ((bs ++ 128 :: List.replicate 0 0).map bv)) := hide (by
    rw [List.map_append]; exact ho)
  clear ho hgr O1 B1
  go_wp2_with fail
  go_loopw [3] (fun v3 wr => ∃ (k : Nat) (A3 : Option Addr) (c3 : Nat), k ≤ Sha.padN n ∧ v3 = .slice A3 (n + 1 + k) c3 ∧ Hid (Own wr w.heap.size 5 A3 (n + 1 + k) c3 ((bs ++ 128 :: List.replicate k 0).map bv)) ∧ Hid (Below w.heap.size w wr)) (fun v _ => Sha.padN n - (match v with | .slice _ m _ => m - (n + 1) | _ => 0))
  case atStart => exact ⟨0, A2, c2, Nat.zero_le _, rfl, O2, B2⟩
  case round =>
    clear O2 B2
    obtain ⟨k, A3, c3, hk, rfl, HO, HW⟩ := hrel
    have hk63 := padN_le n
    by_cases hm : (n + 1 + k) % 64 = 56
    · have hke := pad_end n k hm hk
      have ht : (((n : Int) + 1 + (k : Int)) % 64 != 56) = false := by
        rw [bne_eq_false_iff_eq]; omega
      have HK := hide hke; have HM := hide hm; clear hke hm
      go_wp2_with fail
      have RL : Hid (RowV (wr.alloc (.cells #[.int .u8 0, .int .u8 0, .int .u8 0, .int .u8 0, .int .u8 0, .int .u8 0, .int .u8 0, .int .u8 0] 83)) wr.heap.size 83 (row8 (8 * n) 0)) := hide (heap_alloc_new wr _)
      have BL := hide (HW.out.alloc HW.out.size (.cells #[.int .u8 0, .int .u8 0, .int .u8 0, .int .u8 0, .int .u8 0, .int .u8 0, .int .u8 0, .int .u8 0] 83))
      have OL := hide (HO.out.alloc (.cells #[.int .u8 0, .int .u8 0, .int .u8 0, .int .u8 0, .int .u8 0, .int .u8 0, .int .u8 0, .int .u8 0] 83))
      have hOG := hide HO.out.row_lt
      have hGW := hide HW.out.size
      obtain ⟨G, hG⟩ : ∃ G, G = wr.heap.size := ⟨_, rfl⟩
      rw [← hG] at RL hOG hGW ⊢
      clear hG HO HW
      go_loopw [4, 6] (fun v4 v6 wq => ∃ (j N : Nat), j ≤ 8 ∧ v6 = .int .i64 (7 - (j : Int)) ∧ v4 = .int .u64 (N : Int) ∧ N ≤ 1200000000000000 ∧ Hid (N = 8 * n / 256 ^ j) ∧ Hid (RowV wq G 83 (row8 (8 * n) j)) ∧ Hid (Own wq w.heap.size 5 A3 (n + 1 + k) c3 ((bs ++ 128 :: List.replicate k 0).map bv)) ∧ Hid (Below w.heap.size w wq)) (fun _ v _ => ((intOf v) + 1).toNat)
      case atStart => exact ⟨0, 8 * n, by omega, rfl, by rw [show ((8 * n : Nat) : Int) = 8 * (n : Int) by omega], by omega, hide (by simp), RL, OL, BL⟩
      case round =>
        clear RL OL BL
        obtain ⟨j, N, hj, rfl, rfl, hN, HNE, RL, OL, BL⟩ := hrel
        by_cases hlt : j < 8
        · have hf := RL.out.free (7 - j)
          have c0 : ∃ v, wr.cell? ⟨G, 7 - j, none⟩ = some v := ⟨_, RL.out.cell (List.getElem?_eq_getElem (by rw [row8_length]; omega))⟩
          obtain ⟨v0, c0⟩ := c0
          have R2 := hide (RL.out.set (7 - j) (.int .u8 ((8 * n / 256 ^ j % 256 : Nat) : Int)))
          rw [row8_set _ _ hlt, ← HNE.out] at R2
          have hne : (Value.slice A3 (n + 1 + k) c3).ownBlock ≠ some G := fun h => by have := hOG.out G h; omega
          have O2 : Hid (Own (wr.setCell ⟨G, 7 - j, none⟩ (.int .u8 ((N % 256 : Nat) : Int))) w.heap.size 5 A3 (n + 1 + k) c3 (List.map bv (bs ++ 128 :: List.replicate k 0))) := hide (ownsRow_setCell_other OL.out (a := ⟨G, 7 - j, none⟩) hne (.int .u8 ((N % 256 : Nat) : Int)))
          have B2 := hide (BL.out.setCell (p := ⟨G, 7 - j, none⟩) hGW.out (.int .u8 ((N % 256 : Nat) : Int)))
          have HNX : Hid (N / 256 = 8 * n / 256 ^ (j + 1)) := hide (by rw [HNE.out, Nat.pow_succ, Nat.div_div_eq_div_mul])
          have n7 : (7 - (j : Int)).toNat = 7 - j := by omega
          have b1 : (0 : Int) ≤ 7 - (j : Int) := by omega
          have b2 : 7 - (j : Int) < 8 := by omega
          have b3 : (j : Int) ≤ 7 := by omega
          have HV : Hid ((N : Int) % 256 = ((N % 256 : Nat) : Int)) := hide (by omega)
          clear hne
          go_wp2_with fail
          go_roundw
          case rel =>
            refine ⟨j + 1, N / 256, by omega, by go_num, by go_num, by omega, HNX, ?_⟩
            rw [HV.out]
            exact ⟨R2, O2, B2⟩
          case measure => simp [intOf]; omega
        · have SL : Hid (SlB wr wr.heap.size (some ⟨G, 0, none⟩) 8 (Sha.be8 (8 * n))) := hide (SlB.of_block (rest := []) (t := 83) (fr := (0, 0)) (by
            have := RL.out
            rw [show j = 8 by omega, row8_end] at this
            rw [List.append_nil]; exact this) RL.out.lt (Sha.be8_length _))
          have b3 : ¬ (j : Int) ≤ 7 := by omega
          have hq1 : n + 1 + k + 8 ≤ maxLen := by unfold maxLen; omega
          have hq2 : (n + 1 + k + 8) * 1 ≤ 140737488355328 := by omega
          clear RL
          go_wp2_with (at_builtin; go_must (with_reducible refine wpList_app rfl (.tmp 38) (.tmp 39) 40 rfl (.int .u8 0) 1 Tryd.underlying40 info_u8 (cells_int _ _) rfl OL.out rfl SL.out.sl (bytes_oneCell _) hq1 hq2 BL.out.size ?_))
          intro A9 c9 w9 ho hgr _
          have B9 : Hid (Below w.heap.size w w9) := hide (below_of_grown BL.out hgr BL.out.size OL.out.row_ge)
          have O9 : Hid (Own w9 w.heap.size 5 A9 (n + 1 + k + 8) c9 (List.map bv (Sha.padded bs))) := hide (by
            have e : List.map bv (Sha.padded bs) = List.map bv bs ++ bv 128 :: (List.replicate k (bv 0) ++ List.map bv (Sha.be8 (8 * n))) := by
              unfold Sha.padded
              rw [HL.out, ← HK.out]
              simp
            rw [e]
            simpa using ho)
          clear ho hgr
          go_wp2
          go_ret
          exact ⟨_, _, _, rfl, O9.out, B9.out⟩
    · have hlt := pad_mid n k hm hk
      have ht : (((n : Int) + 1 + (k : Int)) % 64 != 56) = true := by
        rw [bne_iff_ne]; omega
      have HM := hide hm; clear hm
      go_wp2_with (at_builtin; go_must (with_reducible refine wpList_app rfl (.tmp 20) (.tmp 21) 40 rfl (.int .u8 0) 1 Tryd.underlying40 info_u8 (cells_int _ _) rfl (HO.out.alloc _) rfl Sl.one (one_int _ _) (by unfold maxLen; omega) (by omega) (by have := HW.out.size; rw [World.size_alloc]; omega) ?_))
      intro A4 c4 w4 ho hgr _
      have B4 : Hid (Below w.heap.size w w4) := hide (below_of_grown (HW.out.alloc HW.out.size _) hgr (by have := HW.out.size; rw [World.size_alloc]; omega) HO.out.row_ge)
      have O4 : Hid (Own w4 w.heap.size 5 A4 (n + 1 + (k + 1)) c4 ((bs ++ 128 :: List.replicate (k + 1) 0).map bv)) := hide (by
        have e : List.map bv (bs ++ 128 :: List.replicate (k + 1) 0) = List.map bv bs ++ bv 128 :: (List.replicate k (bv 0) ++ [Value.int IntKind.u8 0]) := by simp [List.replicate_succ', bv]
        rw [e]; exact ho)
      clear ho hgr
      go_wp2
      go_roundw
      case rel => exact ⟨k + 1, A4, c4, by omega, rfl, O4, B4⟩
      case measure => simp; omega
end Go.Proofs.YtokdliapkolngaaDoor
