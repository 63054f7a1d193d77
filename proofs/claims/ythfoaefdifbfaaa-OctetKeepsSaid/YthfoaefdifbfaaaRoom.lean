/-
  The walks of signetref01.Room and signetref01.Kept.
-/
import Derived.Test.YthfoaefdifbfaaaSame
namespace Go.Proofs.Ythfoaefdifbfaaa
open Go.RowKit

/-- bytes, then three of room -/
def roomCells (bs : List UInt8) : List Value := bs.map bv ++ [.int .u8 77, .int .u8 77, .int .u8 77]
/-- .. of which k are filled -/
def roomAt (bs : List UInt8) (k : Nat) : List Value := bs.map bv ++ List.replicate (k - bs.length) (.int .u8 77) ++ List.replicate (bs.length + 3 - k) (.int .u8 0)
theorem roomAt_step (bs : List UInt8) (k : Nat) (h1 : bs.length ≤ k) (h2 : k < bs.length + 3) : (roomAt bs k).toArray.setIfInBounds k (.int .u8 77) = (roomAt bs (k + 1)).toArray := by
  unfold roomAt
  rw [List.setIfInBounds_toArray]
  congr 1
  rw [List.set_append_right _ _ (by simp; omega)]
  rw [show bs.length + 3 - k = (bs.length + 3 - (k + 1)) + 1 by omega, List.replicate_succ, show k + 1 - bs.length = (k - bs.length) + 1 by omega, List.replicate_succ']
  simp only [List.length_append, List.length_map, List.length_replicate, List.append_assoc]
  rw [show k - (bs.length + (k - bs.length)) = 0 by omega]
  rfl
theorem roomAt_start (bs : List UInt8) : roomAt bs bs.length = bs.map bv ++ List.replicate 3 (.int .u8 0) := by simp [roomAt]
theorem roomAt_end (bs : List UInt8) : roomAt bs (bs.length + 3) = roomCells bs := by simp [roomAt, roomCells, List.replicate]
theorem roomAt_length (bs : List UInt8) (k : Nat) (h1 : bs.length ≤ k) (h2 : k ≤ bs.length + 3) : (roomAt bs k).length = bs.length + 3 := by simp [roomAt]; omega

set_option maxHeartbeats 400000 in
theorem room_any (A : Option Addr) (n c : Nat) (bs : List UInt8) (w : World) (hb : SlB w w.heap.size A n bs) (hn : n ≤ 140737488355328) :
    Calls Try.prog 31 #[.slice A n c] w fun e w' => e = .returned (.slice (some ⟨w.heap.size, 0, none⟩) n (n + 3)) ∧ Below w.heap.size w w' ∧ w'.heap[w.heap.size]? = some (.cells (roomCells bs).toArray 5 (0, 0)) := by
  have hl := hide hb.len
  have hmk := make_bytes .i64 .i64 (n + 3) (by omega)
  rw [show ((n + 3 : Nat) : Int) = (n : Int) + 3 by omega] at hmk
  have hpos := hide (copy_src (hb.keep (w' := w.alloc (.cells (Array.replicate (n + 3) (Value.int .u8 0)) 5)) fun b off hlt => World.cell?_alloc_lt w _ _ hlt) (some (⟨w.heap.size, 0, none⟩ : Addr)))
  have hg := hide (made_block w (n + 3) 5)
  have HB := hide hb; clear hb
  go_enter Try.func31, Try.ntmps31
  go_wp2_with (with_reducible refine wpList_copy_splice rfl (.tmp 9) (.tmp 10) 22 22 rfl 5 Try.underlying22 size_u8 (some ⟨w.heap.size, 0, none⟩) A (n + 3) (n + 3) n c rfl rfl w.heap.size 0 (List.replicate (n + 3) (Value.int .u8 0)) 5 hg.out (bs.map bv) (by have := hl.out; simp; omega) hpos.out (by have := hl.out; simp; omega) (bytes_oneCell bs) w.heap.size w ((Below.refl _ _).alloc (Nat.le_refl _) _) (Nat.le_refl _) ?_)
  intro w1 h1 h2
  have HS : Hid (w1.heap[w.heap.size]? = some (.cells (roomAt bs n).toArray 5 (0, 0))) := hide (by
    rw [h1.out, ← hl.out, roomAt_start]
    simp [splice])
  clear h1 hmk
  have HW := hide h2; clear h2
  go_wp2_with fail
  go_loopw [4] (fun v4 wr => ∃ k : Nat, n ≤ k ∧ k ≤ n + 3 ∧ v4 = .int .i64 k ∧ Hid (wr.heap[w.heap.size]? = some (.cells (roomAt bs k).toArray 5 (0, 0))) ∧ Hid (Below w.heap.size w wr)) (fun i _ => n + 3 - (intOf i).toNat)
  case atStart => exact ⟨n, by omega, by omega, rfl, HS, HW⟩
  case round =>
    obtain ⟨k, hk1, hk2, rfl, HC, HR⟩ := hrel
    by_cases hlt : k < n + 3
    · have hf : wr.frozen? ⟨w.heap.size, k, none⟩ = false := frozen_of_row wr _ k _ _ HC.out
      obtain ⟨v0, hv0⟩ : ∃ v0, wr.cell? ⟨w.heap.size, k, none⟩ = some v0 := by
        rw [cell_of_row wr _ k _ _ _ HC.out]
        have := roomAt_length bs k (by have := hl.out; omega) (by have := hl.out; omega)
        exact ⟨_, Array.getElem?_eq_getElem (by have := hl.out; simp; omega)⟩
      go_wp2_with fail
      go_roundw
      case rel =>
        refine ⟨k + 1, by omega, by omega, by go_num, hide ?_, hide (HR.out.setCell (by simp) _)⟩
        rw [heap_setCell_same _ _ _ _ _ _ HC.out, roomAt_step _ _ (by have := hl.out; omega) (by have := hl.out; omega)]
      case measure => simp [intOf]; omega
    · have HE : Hid (wr.heap[w.heap.size]? = some (.cells (roomCells bs).toArray 5 (0, 0))) := hide (by
        rw [HC.out, show k = bs.length + 3 by have := hl.out; omega, roomAt_end])
      go_wp2_with fail
      go_ret
      exact ⟨rfl, HR.out, HE.out⟩

theorem roomCells_at (bs : List UInt8) (n j : Nat) (hn : bs.length = n) (hj : j < 3) : (roomCells bs).toArray[n + j]? = some (.int .u8 77) := by
  simp only [List.getElem?_toArray, roomCells]
  rw [List.getElem?_append_right (by simp; omega)]
  simp only [List.length_map, hn, Nat.add_sub_cancel_left]
  match j, hj with
  | 0, _ | 1, _ | 2, _ => rfl
  | j + 3, h => exact absurd h (by omega)

set_option maxHeartbeats 400000 in
theorem kept_any (g : Nat) (A : Option Addr) (n c : Nat) (bs : List UInt8) (w : World) (hg : w.heap[g]? = some (.cells (roomCells bs).toArray 5 (0, 0))) (hb : SlB w w.heap.size A n bs) (hn : n ≤ 140737488355328) :
    Calls Try.prog 32 #[.slice (some ⟨g, 0, none⟩) n (n + 3), .slice A n c] w fun e w' => e = .returned (.bool true) ∧ Below w.heap.size w w' := by
  have hgl : g < w.heap.size := (Array.getElem?_eq_some_iff.1 hg).1
  have hl := hide hb.len
  have HA := hide (SlB.of_block (B := w.heap.size) (n := n) hg hgl hl.out)
  have HB := hide hb; clear hb
  have hz : ((n : Int) != (n : Int)) = false := by simp
  have HG := hide hg; clear hg
  go_enter Try.func32, Try.ntmps32
  go_wp2_with fail
  refine (same_any _ A n n (n + 3) c bs bs _ HA.out HB.out (by omega) (by omega)).mono ?_
  rintro e w1 ⟨rfl, hb1⟩
  have hG := (hb1.block g hgl).trans HG.out
  have c0 := (cell_of_row w1 g n _ _ _ hG).trans (roomCells_at bs n 0 hl.out (by omega))
  have c1 := (cell_of_row w1 g (n + 1) _ _ _ hG).trans (roomCells_at bs n 1 hl.out (by omega))
  have c2 := (cell_of_row w1 g (n + 2) _ _ _ hG).trans (roomCells_at bs n 2 hl.out (by omega))
  have HB1 := hide hb1; clear hG hb1
  go_wp2_with fail
  go_ret
  exact ⟨ret_bool (by simp), HB1.out⟩
end Go.Proofs.Ythfoaefdifbfaaa
