/-
  The walks of signetref01.Room and signetref01.Kept.
-/
import Derived.Test.YtnjpgcfkplchkaaSame
namespace Go.Proofs.Ytnjpgcfkplchkaa
open Go.RowKit

/-- bytes, then three of room -/
def roomCells (bs : List UInt8) : List Value := bs.map bv ++ [.int .u8 77, .int .u8 77, .int .u8 77]
/-- .. of which k are filled -/
def roomAt (bs : List UInt8) (k : Nat) : List Value := bs.map bv ++ List.replicate (k - bs.length) (.int .u8 77) ++ List.replicate (bs.length + 3 - k) (.int .u8 0)
theorem roomAt_step (bs : List UInt8) (k : Nat) (h1 : bs.length ≤ k) (h2 : k < bs.length + 3) : (roomAt bs k).toArray.setIfInBounds k (.int .u8 77) = (roomAt bs (k + 1)).toArray := by
  unfold roomAt
  rw [List.setIfInBounds_toArray]
  congr 1
  rw [List.set_append_right _ _ (by simp; omega)]
  rw [show bs.length + 3 - k = (bs.length + 3 - (k + 1)) + 1 by omega, List.replicate_succ, show k + 1 - bs.length = (k - bs.length) + 1 by omega, List.replicate_succ']
  simp only [List.length_append, List.length_map, List.length_replicate, List.append_assoc]
  rw [show k - (bs.length + (k - bs.length)) = 0 by omega]
  rfl
theorem roomAt_start (bs : List UInt8) : roomAt bs bs.length = bs.map bv ++ List.replicate 3 (.int .u8 0) := by simp [roomAt]
theorem roomAt_end (bs : List UInt8) : roomAt bs (bs.length + 3) = roomCells bs := by simp [roomAt, roomCells, List.replicate]
theorem roomAt_length (bs : List UInt8) (k : Nat) (h1 : bs.length ≤ k) (h2 : k ≤ bs.length + 3) : (roomAt bs k).length = bs.length + 3 := by simp [roomAt]; omega

theorem roomCells_at (bs : List UInt8) (n j : Nat) (hn : bs.length = n) (hj : j < 3) : (roomCells bs).toArray[n + j]? = some (.int .u8 77) := by
  simp only [List.getElem?_toArray, roomCells]
  rw [List.getElem?_append_right (by simp; omega)]
  simp only [List.length_map, hn, Nat.add_sub_cancel_left]
  match j, hj with
  | 0, _ | 1, _ | 2, _ => rfl
  | j + 3, h => exact absurd h (by omega)

end Go.Proofs.Ytnjpgcfkplchkaa
