/-
  The walks of the program's Sum, of what holds digests against one another, of the chapter's example; the law ShaSums.
-/
import Derived.Test.YtokdliapkolngaaDoorShaI
import Derived.Test.YtokdliapkolngaaDoorExt
import Derived.Lib.SlBytesConst
namespace Go.Proofs.YtokdliapkolngaaDoor
open Go.RowKit Go.Great

set_option maxHeartbeats 1000000 in
theorem psumf_any (A : Option Addr) (n c : Nat) (bs : List UInt8) (w : World) (hb : SlB w w.heap.size A n bs) (hnc : n ≤ c) (hc : c ≤ 9223372036854775807) (hn : n ≤ 900000000000000000) :
    Calls Tryd.prog 37 #[.slice A n c] w fun e w' => e = .returned (.agg ((Sha.sum bs).map bv).toArray) ∧ Below w.heap.size w w' := by
  have HB := hide hb; have HL := hide hb.len
  clear hb
  go_enter Tryd.func37, Tryd.ntmps37
  go_wp2_with fail
  refine (all_any [bs] (some ⟨w.heap.size + 1, 0, none⟩) 1 1 _ ?hp (by simp; have := HL.out; omega) (by omega)).mono ?_
  case hp =>
    refine ⟨rfl, [.slice A n c], ⟨rfl, fun _ => ⟨w.heap.size + 1, 0, rfl, by simp, fun k u hu => ?_⟩⟩, fun j b hj => ?_⟩
    · rw [cell_of_row _ _ _ _ _ _ (heap_alloc2_new w _ _)]
      match k, hu with
      | 0, hu => exact hu
      | k + 1, hu => simp at hu
    · match j, hj with
      | 0, hj =>
        injection hj with hj; subst hj
        exact ⟨A, n, c, rfl, HB.out.up (((Below.refl _ _).alloc (Nat.le_refl _) _).alloc (by simp) _), hnc, by omega⟩
      | j + 1, hj => simp at hj
  rintro e w2 ⟨rfl, hb⟩
  rw [show [bs].flatten = bs by simp]
  have R2 : Hid (w2.heap[w.heap.size]? = some (.cells (List.replicate 32 (Value.int .u8 0)).toArray 66 (0, 0))) := hide ((hb.block w.heap.size (by simp; omega)).trans ((heap_alloc2_old w _ _).trans (by kernel_rfl)))
  have B2 := hide ((((Below.refl w.heap.size w).alloc (Nat.le_refl _) _).alloc (by simp) _).trans (hb.mono (by simp; omega)))
  obtain ⟨C, hC⟩ : ∃ C, C = ((Sha.sum bs).map bv).toArray := ⟨_, rfl⟩
  have h1 : C.all (·.oneCell') = true := by rw [hC]; exact bytes_one _
  have hs : C.size = 32 := by rw [hC]; simp [Sha.sum_length]
  rw [← hC]
  have HC := hide hC; have HSC := hide hs; have H1 := hide h1
  clear hC hs h1 hb
  go_wp2_with (with_reducible refine wpList_store_row rfl 66 (.tmp 2) (.tmp 5) rfl w.heap.size C rfl rfl 66 _ R2.out ?q1 ?q2 H1.out ?_)
  case q1 => rw [HSC.out]; kernel_rfl
  case q2 => rw [HSC.out]; rfl
  have HF := hide (row_set (cs := C) R2.out)
  have HG2 := hide (below_setRow (g := w.heap.size) B2.out (Nat.le_refl _) C)
  generalize w2.setRow w.heap.size C = X at HF HG2 ⊢
  exact bodyPost_ret (v := .agg C) (results_cell_row rfl _ _ w.heap.size 66 C (0, 0) _ rfl HF.out Tryd.underlying66 rfl (by rw [HSC.out]; kernel_rfl)) rfl ⟨by rw [HC.out], HG2.out⟩

set_option maxRecDepth 100000 in
theorem abc_at : (Sha.sum [97, 98, 99])[0]? = some 186 ∧ (Sha.sum [97, 98, 99])[1]? = some 120 ∧ (Sha.sum [97, 98, 99])[31]? = some 173 := by
  have h := Sha.abc
  refine ⟨?_, ?_, h.2⟩
  · have := congrArg (·[0]?) h.1
    simpa [List.getElem?_take] using this
  · have := congrArg (·[1]?) h.1
    simpa [List.getElem?_take] using this
end Go.Proofs.YtokdliapkolngaaDoor
