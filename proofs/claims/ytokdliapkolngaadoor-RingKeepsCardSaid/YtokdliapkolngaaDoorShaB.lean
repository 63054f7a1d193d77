/-
  The walks of the document's digest: k, words.
-/
import Derived.Test.YtokdliapkolngaaDoorShaA
import Derived.Test.YtokdliapkolngaaDoorRow
import Derived.RegionTactic
import Derived.BigRegion
import Derived.Deep.Cut
namespace Go.Proofs.YtokdliapkolngaaDoor
open Go.RowKit Go.Great

theorem kCells_size : kCells.size = 64 := rfl
theorem kCells_one : kCells.all (·.oneCell') = true := by decide +kernel
theorem kCells_eq : kCells = (Sha.K.map uv).toArray := rfl
theorem kCells_at (t : Nat) (ht : t < 64) : kCells[t]? = some (.int .u32 ((Sha.K.getD t 0).toNat : Int)) := by
  rw [kCells_eq]
  have hl : t < Sha.K.length := by rw [Sha.K_length]; exact ht
  rw [List.getElem?_toArray, List.getElem?_map, List.getD_eq_getElem?_getD, List.getElem?_eq_getElem hl]
  rfl
set_option maxHeartbeats 400000 in
theorem k_any (t : Nat) (ht : t < 64) (w : World) : Calls Tryd.prog 55 #[.int .i64 (t : Int)] w fun e w' => e = .returned (.int .u32 ((Sha.K.getD t 0).toNat : Int)) ∧ Below w.heap.size w w' := by
  have hc := kCells_at t ht
  go_enter Tryd.func55, Tryd.ntmps55
  apply wp_seq_k; intro K0 hK0
  apply wp_region_lit
  refine wpList_readTo rfl (some 2) rfl (.int .u32 0) (by kernel_rfl) ?_
  apply wpList_nil
  refine hK0 _ _ ?_
  clear hK0 K0
  apply wp_seq_k; intro K0 hK0
  apply wp_region_lit
  refine wpList_buildTo rfl 84 _ rfl (some 4) rfl kCells (by kernel_rfl) ?_
  refine wpList_allocTo rfl (some 3) rfl (.pointer (some ⟨w.heap.size, 0, none⟩)) (.cells (Array.replicate 64 (.int .u32 0)) 84) (by kernel_rfl) ?_
  refine wpList_store_row rfl 84 (.tmp 3) (.tmp 4) rfl w.heap.size kCells rfl rfl 84 (Array.replicate 64 (.int .u32 0)) (heap_alloc_new w _) (by kernel_rfl) rfl kCells_one ?_
  apply wpList_nil
  refine hK0 _ _ ?_
  clear hK0 K0
  have hr := row_set (cs := kCells) (heap_alloc_new w (.cells (Array.replicate 64 (.int .u32 0)) 84))
  have hb := below_setRow (g := w.heap.size) ((Below.refl w.heap.size w).alloc (Nat.le_refl _) (.cells (Array.replicate 64 (.int .u32 0)) 84)) (Nat.le_refl _) kCells
  have HB := hide hb; clear hb
  have cc := (cell_of_row _ w.heap.size t _ _ _ hr).trans hc
  clear hc hr
  generalize (w.alloc (.cells (Array.replicate 64 (.int .u32 0)) 84)).setRow w.heap.size kCells = X at HB cc ⊢
  generalize w.heap.size = G at HB cc ⊢
  go_wp2
  go_ret
  exact ⟨rfl, HB.out⟩

/-- the words of a block while they are read: t are done, i bytes of the next -/
def wrow (bs : List UInt8) (t i : Nat) : List Value := (Sha.words16 bs t).map uv ++ .int .u32 (Sha.partN bs t i : Int) :: List.replicate (63 - t) (.int .u32 0)
theorem wrow_at (bs : List UInt8) (t i : Nat) : (wrow bs t i)[t]? = some (.int .u32 (Sha.partN bs t i : Int)) := by
  unfold wrow
  rw [List.getElem?_append_right (by simp [Sha.words16_length])]
  simp [Sha.words16_length]
theorem wrow_set (bs : List UInt8) (t i : Nat) : (wrow bs t i).set t (.int .u32 (Sha.partN bs t (i + 1) : Int)) = wrow bs t (i + 1) := by
  unfold wrow
  rw [List.set_append_right _ _ (by simp [Sha.words16_length])]
  simp [Sha.words16_length]
theorem wrow_next (bs : List UInt8) (t : Nat) (ht : t < 63) : wrow bs t 4 = wrow bs (t + 1) 0 := by
  unfold wrow
  rw [Sha.words16_succ, Sha.partN_four, show 63 - t = (63 - (t + 1)) + 1 by omega, List.replicate_succ]
  simp [uv, Sha.partN]
/-- .. while they are made -/
def srow (l : List UInt32) (t : Nat) : List Value := l.map uv ++ List.replicate (64 - t) (.int .u32 0)
theorem srow_at {l : List UInt32} {t k : Nat} (hk : k < l.length) : (srow l t)[k]? = some (.int .u32 ((l.getD k 0).toNat : Int)) := by
  unfold srow
  rw [List.getElem?_append_left (by simpa using hk), List.getElem?_map, List.getD_eq_getElem?_getD, List.getElem?_eq_getElem hk]
  rfl
theorem srow_at_end {l : List UInt32} {t : Nat} (hl : l.length = t) (ht : t < 64) : (srow l t)[t]? = some (.int .u32 0) := by
  unfold srow
  rw [List.getElem?_append_right (by simp [hl]), show 64 - t = (64 - (t + 1)) + 1 by omega, List.replicate_succ]
  simp [hl]
theorem srow_set {l : List UInt32} {t : Nat} (hl : l.length = t) (ht : t < 64) (x : UInt32) : (srow l t).set t (.int .u32 (x.toNat : Int)) = srow (l ++ [x]) (t + 1) := by
  unfold srow
  rw [List.set_append_right _ _ (by simp [hl]), show 64 - t = (64 - (t + 1)) + 1 by omega, List.replicate_succ]
  simp [hl, uv]
theorem wrow_srow (bs : List UInt8) : wrow bs 16 0 = srow (Sha.words16 bs 16) 16 := by
  unfold wrow srow
  rfl
theorem next_ref (l : List UInt32) (x y b d : UInt32) (hx : x = l.getD (l.length - 2) 0) (hb : b = l.getD (l.length - 7) 0) (hy : y = l.getD (l.length - 15) 0) (hd : d = l.getD (l.length - 16) 0) :
    (bits .xor .u32 (bits .xor .u32 ((Sha.rotr x 17).toNat : Int) ((Sha.rotr x 19).toNat : Int)) ((Sha.shr x 10).toNat : Int) + (b.toNat : Int) + bits .xor .u32 (bits .xor .u32 ((Sha.rotr y 7).toNat : Int) ((Sha.rotr y 18).toNat : Int)) ((Sha.shr y 3).toNat : Int) + (d.toNat : Int)) % 4294967296 = ((Sha.next l).toNat : Int) := by
  rw [xor_w, xor_w, xor_w, xor_w]
  unfold Sha.next
  rw [← hx, ← hb, ← hy, ← hd, UInt32.toNat_add, UInt32.toNat_add, UInt32.toNat_add]
  unfold Sha.sg0 Sha.sg1
  omega
theorem turn_k (x : UInt32) (n : Nat) (k : Int) (hk : k = (n : Int)) (hn : n ≤ 31) (w : World) : Calls Tryd.prog 54 #[.int .u32 (x.toNat : Int), .int .i64 k] w fun e w' => e = .returned (.int .u32 ((Sha.rotr x n).toNat : Int)) ∧ w = w' := by
  subst hk; exact turn_any x n hn w
theorem down_k (x : UInt32) (n : Nat) (k : Int) (hk : k = (n : Int)) (hn : n ≤ 31) (w : World) : Calls Tryd.prog 47 #[.int .u32 (x.toNat : Int), .int .i64 k] w fun e w' => e = .returned (.int .u32 ((Sha.shr x n).toNat : Int)) ∧ w = w' := by
  subst hk; exact down_any x n hn w
theorem row_one (l : List UInt32) : (l.map uv).toArray.all (·.oneCell') = true := by simp [uv, Value.oneCell']
theorem zeros64 : Array.replicate 64 (Value.int .u32 0) = (wrow [] 0 0).toArray := by kernel_rfl
theorem wrow_start (bs : List UInt8) : wrow bs 0 0 = wrow [] 0 0 := rfl

set_option maxHeartbeats 1000000 in
set_option maxRecDepth 100000 in
theorem words_any (A : Option Addr) (n c : Nat) (bs : List UInt8) (w : World) (hb : SlB w w.heap.size A n bs) (hn : n = 64) :
    Calls Tryd.prog 53 #[.slice A n c] w fun e w' => e = .returned (.agg ((Sha.W bs).map uv).toArray) ∧ Below w.heap.size w w' := by
  have HB := hide hb
  have HN := hide hn
  clear hb hn
  go_enter Tryd.func53, Tryd.ntmps53
  go_wp2_with fail
  go_loopw [4] (fun v4 wr => ∃ t : Nat, t ≤ 16 ∧ v4 = .int .i64 t ∧ Hid (RowV wr (w.heap.size + 1) 84 (wrow bs t 0)) ∧ Hid (RowV wr w.heap.size 84 (wrow [] 0 0)) ∧ Hid (Below w.heap.size w wr)) (fun v _ => 16 - (intOf v).toNat)
  case atStart =>
    refine ⟨0, by omega, rfl, hide ?_, hide ?_, hide (((Below.refl _ _).alloc (Nat.le_refl _) _).alloc (by simp) _)⟩
    · exact (heap_alloc2_new w _ _).trans (by kernel_rfl)
    · exact (heap_alloc2_old w _ _).trans (by kernel_rfl)
  case round =>
    obtain ⟨t, ht, rfl, HR, HZ, HW⟩ := hrel
    by_cases hlt : t < 16
    · obtain ⟨w1, hw1⟩ : ∃ w1, w1 = wr := ⟨_, rfl⟩
      subst hw1
      go_wp2_with fail
      go_loopw [5] (fun v5 wq => ∃ i : Nat, i ≤ 4 ∧ v5 = .int .i64 i ∧ Hid (RowV wq (w.heap.size + 1) 84 (wrow bs t i)) ∧ Hid (RowV wq w.heap.size 84 (wrow [] 0 0)) ∧ Hid (Below w.heap.size w wq)) (fun v _ => 4 - (intOf v).toNat)
      case atStart => exact ⟨0, by omega, rfl, HR, HZ, HW⟩
      case round =>
        clear HR HZ HW
        obtain ⟨i, hi, rfl, HR, HZ, HW⟩ := hrel
        by_cases hlt2 : i < 4
        · have hN := HN.out
          obtain ⟨b, off, x, rfl, hbb, c1, HX⟩ := (HB.out.below HW.out (Nat.le_refl _)).byte (k := 4 * t + i) (by omega)
          have c2 := HR.out.cell (wrow_at bs t i)
          have hf := HR.out.free t
          have hlt3 := Sha.partN_lt bs t i
          have h4 : 256 ^ i ≤ 16777216 := by
            match i, hlt2 with
            | 0, _ | 1, _ | 2, _ | 3, _ => decide
          have hstep : Sha.partN bs t (i + 1) = 256 * Sha.partN bs t i + x.toNat := by
            have := HX.out
            show 256 * Sha.partN bs t i + (bs.getD (4 * t + i) 0).toNat = _
            rw [List.getD_eq_getElem?_getD, this]; rfl
          have HR2 := hide (HR.out.set t (.int .u32 (Sha.partN bs t (i + 1) : Int)))
          rw [wrow_set] at HR2
          have HZ2 := hide (HZ.out.set_other (b := w.heap.size + 1) (k := t) (v := .int .u32 (Sha.partN bs t (i + 1) : Int)) (by omega))
          have HW2 := hide (HW.out.setCell (p := ⟨w.heap.size + 1, t, none⟩) (by simp) (.int .u32 (Sha.partN bs t (i + 1) : Int)))
          have hx256 := x.toNat_lt
          have HV : Hid ((256 * (Sha.partN bs t i : Int) + (x.toNat : Int)) % 4294967296 = (Sha.partN bs t (i + 1) : Int)) := hide (by omega)
          have b1 : (0 : Int) ≤ 4 * (t : Int) + (i : Int) := by omega
          have b2 : 4 * (t : Int) + (i : Int) < (n : Int) := by omega
          have b3 : (0 : Int) ≤ (t : Int) := by omega
          have b4 : (t : Int) < 64 := by omega
          clear hstep hN h4 hlt3 hx256
          go_wp2_with fail
          go_region
          go_wp2_with fail
          go_roundw
          case rel =>
            refine ⟨i + 1, by omega, by go_num, ?_⟩
            rw [HV.out]
            exact ⟨HR2, HZ2, hide HW2.out.drew⟩
          case measure => simp [intOf]; omega
        · obtain rfl : i = 4 := by omega
          have HR2 := hide HR.out
          rw [wrow_next bs t (by omega)] at HR2
          go_wp2_with fail
          go_roundw
          case rel => exact ⟨t + 1, by omega, by go_num, HR2, HZ, HW⟩
          case measure => simp [intOf]; omega
    · have HR2 : Hid (RowV wr (w.heap.size + 1) 84 (srow (Sha.words16 bs 16) 16)) := hide (by
        have := HR.out
        rw [show t = 16 by omega, wrow_srow] at this
        exact this)
      obtain ⟨T, hT⟩ : ∃ T, T = t := ⟨_, rfl⟩
      subst hT
      obtain ⟨w1, hw1⟩ : ∃ w1, w1 = wr := ⟨_, rfl⟩
      subst hw1
      go_wp2_with fail
      go_loopw [6] (fun v6 wq => ∃ j : Nat, j ≤ 48 ∧ v6 = .int .i64 ((16 + j : Nat) : Int) ∧ Hid (RowV wq (w.heap.size + 1) 84 (srow (Sha.sched (Sha.words16 bs 16) j) (16 + j))) ∧ Hid (RowV wq w.heap.size 84 (wrow [] 0 0)) ∧ Hid (Below w.heap.size w wq)) (fun v _ => 64 - (intOf v).toNat)
      case atStart => exact ⟨0, by omega, rfl, HR2, HZ, HW⟩
      case round =>
        clear HR HZ HW HR2
        obtain ⟨j, hj, rfl, HR, HZ, HW⟩ := hrel
        obtain ⟨t, ht⟩ : ∃ t : Nat, t = 16 + j := ⟨_, rfl⟩
        rw [← ht] at HR ⊢
        by_cases hlt : j < 48
        · have hl : (Sha.sched (Sha.words16 bs 16) j).length = t := by rw [Sha.sched_length, Sha.words16_length]; omega
          have HL := hide hl
          obtain ⟨l, hll⟩ : ∃ l, l = Sha.sched (Sha.words16 bs 16) j := ⟨_, rfl⟩
          have HSC : Hid (Sha.sched (Sha.words16 bs 16) (j + 1) = l ++ [Sha.next l]) := hide (by rw [hll]; rfl)
          rw [← hll] at HR HL hl
          have i2 : t - 2 < l.length := by omega
          have i15 : t - 15 < l.length := by omega
          have i7 : t - 7 < l.length := by omega
          have i16 : t - 16 < l.length := by omega
          have c2 := HR.out.cell (srow_at (t := t) i2)
          have c15 := HR.out.cell (srow_at (t := t) i15)
          have c7 := HR.out.cell (srow_at (t := t) i7)
          have c16 := HR.out.cell (srow_at (t := t) i16)
          have ct := HR.out.cell (srow_at_end hl (by omega))
          have hf := HR.out.free t
          obtain ⟨x, hx⟩ : ∃ x, x = l.getD (t - 2) 0 := ⟨_, rfl⟩
          obtain ⟨y, hy⟩ : ∃ y, y = l.getD (t - 15) 0 := ⟨_, rfl⟩
          obtain ⟨b, hb⟩ : ∃ b, b = l.getD (t - 7) 0 := ⟨_, rfl⟩
          obtain ⟨d, hd⟩ : ∃ d, d = l.getD (t - 16) 0 := ⟨_, rfl⟩
          rw [← hx] at c2; rw [← hy] at c15; rw [← hb] at c7; rw [← hd] at c16
          have hnx := next_ref l x y b d (by rw [hl, ← hx]) (by rw [hl, ← hb]) (by rw [hl, ← hy]) (by rw [hl, ← hd])
          have HNX := hide hnx
          clear hnx
          have HR2 := hide (HR.out.set t (.int .u32 ((Sha.next l).toNat : Int)))
          rw [srow_set hl (by omega), ← HSC.out] at HR2
          have HZ2 := hide (HZ.out.set_other (b := w.heap.size + 1) (k := t) (v := .int .u32 ((Sha.next l).toNat : Int)) (by omega))
          have HW2 := hide (HW.out.setCell (p := ⟨w.heap.size + 1, t, none⟩) (by simp) (.int .u32 ((Sha.next l).toNat : Int)))
          have n2 : ((t : Int) - 2).toNat = t - 2 := by omega
          have n15 : ((t : Int) - 15).toNat = t - 15 := by omega
          have n7 : ((t : Int) - 7).toNat = t - 7 := by omega
          have n16 : ((t : Int) - 16).toNat = t - 16 := by omega
          have b1 : (16 : Int) ≤ (t : Int) := by omega
          have b2 : (t : Int) < 64 := by omega
          have b3 : (0 : Int) ≤ (t : Int) - 2 := by omega
          have b4 : (0 : Int) ≤ (t : Int) - 15 := by omega
          have b5 : (0 : Int) ≤ (t : Int) - 7 := by omega
          have b6 : (0 : Int) ≤ (t : Int) - 16 := by omega
          have HT := hide ht
          clear hx hy hb hd hl hll i2 i15 i7 i16 ht
          go_wp2_with fail
          refine (turn_k x 17 17 rfl (by omega) _).mono ?_
          rintro e w' ⟨rfl, rfl⟩
          go_wp2_with fail
          refine (turn_k x 19 19 rfl (by omega) _).mono ?_
          rintro e w' ⟨rfl, rfl⟩
          go_wp2_with fail
          refine (down_k x 10 10 rfl (by omega) _).mono ?_
          rintro e w' ⟨rfl, rfl⟩
          go_wp2_with fail
          refine (turn_k y 7 7 rfl (by omega) _).mono ?_
          rintro e w' ⟨rfl, rfl⟩
          go_wp2_with fail
          refine (turn_k y 18 18 rfl (by omega) _).mono ?_
          rintro e w' ⟨rfl, rfl⟩
          go_wp2_with fail
          refine (down_k y 3 3 rfl (by omega) _).mono ?_
          rintro e w' ⟨rfl, rfl⟩
          go_wp2_with fail
          go_region
          go_wp2_with fail
          go_roundw
          case rel =>
            refine ⟨j + 1, by omega, by have := HT.out; go_num, ?_⟩
            rw [HNX.out, show 16 + (j + 1) = t + 1 by have := HT.out; omega]
            exact ⟨HR2, HZ2, hide HW2.out.drew⟩
          case measure => have := HT.out; simp [intOf]; omega
        · have HR2 : Hid (wr.heap[w.heap.size + 1]? = some (.cells ((Sha.W bs).map uv).toArray 84 (0, 0))) := hide (by
            have := HR.out
            unfold srow RowV at this
            rw [show j = 48 by omega, show 64 - t = 0 by omega, List.replicate_zero, List.append_nil] at this
            exact this)
          clear HR
          go_upto_region 17 with (fail)
          apply wp_region_lit
          have hs : ((Sha.W bs).map uv).toArray.size = 64 := by simp [Sha.W, Sha.sched_length, Sha.words16_length]
          refine wpList_load_row rfl 84 (.tmp 3) rfl (w.heap.size + 1) rfl 84 _ (0, 0) _ HR2.out Tryd.underlying84 rfl (by rw [hs]; kernel_rfl) ?_
          refine wpList_store_row rfl 84 (.tmp 2) (.tmp 77) rfl w.heap.size _ rfl rfl 84 _ HZ.out (by rw [hs]; kernel_rfl) (by rw [hs]; rfl) (row_one _) ?_
          have HF := hide (row_set (cs := ((Sha.W bs).map uv).toArray) HZ.out)
          have HG := hide (below_setRow (g := w.heap.size) HW.out (Nat.le_refl _) ((Sha.W bs).map uv).toArray)
          generalize wr.setRow w.heap.size ((Sha.W bs).map uv).toArray = X at HF HG ⊢
          obtain ⟨C, hC⟩ : ∃ C, C = ((Sha.W bs).map uv).toArray := ⟨_, rfl⟩
          rw [← hC] at HF hs ⊢
          have HC := hide hC; clear hC
          go_wp2
          exact bodyPost_ret (v := .agg C) (results_cell_row rfl _ _ w.heap.size 84 C (0, 0) _ rfl HF.out Tryd.underlying84 rfl (by rw [hs]; kernel_rfl)) rfl ⟨by rw [HC.out], HG.out⟩
end Go.Proofs.YtokdliapkolngaaDoor
