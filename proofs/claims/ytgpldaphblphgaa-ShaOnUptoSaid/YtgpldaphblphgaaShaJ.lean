/-
  The walks of the program's Sum, of what holds digests against one another, of the chapter's example; the law ShaSums.
-/
import Derived.Test.YtgpldaphblphgaaShaI
import Derived.Test.YtgpldaphblphgaaExt
import Derived.Lib.SlBytesConst
namespace Go.Proofs.Ytgpldaphblphgaa
open Go.RowKit Go.Great

set_option maxHeartbeats 1000000 in
theorem psumf_any (A : Option Addr) (n c : Nat) (bs : List UInt8) (w : World) (hb : SlB w w.heap.size A n bs) (hnc : n ≤ c) (hc : c ≤ 9223372036854775807) (hn : n ≤ 900000000000000000) :
    Calls Try.prog 13 #[.slice A n c] w fun e w' => e = .returned (.agg ((Sha.sum bs).map bv).toArray) ∧ Below w.heap.size w w' := by
  have HB := hide hb; have HL := hide hb.len
  clear hb
  go_enter Try.func13, Try.ntmps13
  go_wp2_with fail
  refine (all_any [bs] (some ⟨w.heap.size + 1, 0, none⟩) 1 1 _ ?hp (by simp; have := HL.out; omega) (by omega)).mono ?_
  case hp =>
    refine ⟨rfl, [.slice A n c], ⟨rfl, fun _ => ⟨w.heap.size + 1, 0, rfl, by simp, fun k u hu => ?_⟩⟩, fun j b hj => ?_⟩
    · rw [cell_of_row _ _ _ _ _ _ (heap_alloc2_new w _ _)]
      match k, hu with
      | 0, hu => exact hu
      | k + 1, hu => simp at hu
    · match j, hj with
      | 0, hj =>
        injection hj with hj; subst hj
        exact ⟨A, n, c, rfl, HB.out.up (((Below.refl _ _).alloc (Nat.le_refl _) _).alloc (by simp) _), hnc, by omega⟩
      | j + 1, hj => simp at hj
  rintro e w2 ⟨rfl, hb⟩
  rw [show [bs].flatten = bs by simp]
  have R2 : Hid (w2.heap[w.heap.size]? = some (.cells (List.replicate 32 (Value.int .u8 0)).toArray 26 (0, 0))) := hide ((hb.block w.heap.size (by simp; omega)).trans ((heap_alloc2_old w _ _).trans (by kernel_rfl)))
  have B2 := hide ((((Below.refl w.heap.size w).alloc (Nat.le_refl _) _).alloc (by simp) _).trans (hb.mono (by simp; omega)))
  obtain ⟨C, hC⟩ : ∃ C, C = ((Sha.sum bs).map bv).toArray := ⟨_, rfl⟩
  have h1 : C.all (·.oneCell') = true := by rw [hC]; exact bytes_one _
  have hs : C.size = 32 := by rw [hC]; simp [Sha.sum_length]
  rw [← hC]
  have HC := hide hC; have HSC := hide hs; have H1 := hide h1
  clear hC hs h1 hb
  go_wp2_with (with_reducible refine wpList_store_row rfl 26 (.tmp 2) (.tmp 5) rfl w.heap.size C rfl rfl 26 _ R2.out ?q1 ?q2 H1.out ?_)
  case q1 => rw [HSC.out]; kernel_rfl
  case q2 => rw [HSC.out]; rfl
  have HF := hide (row_set (cs := C) R2.out)
  have HG2 := hide (below_setRow (g := w.heap.size) B2.out (Nat.le_refl _) C)
  generalize w2.setRow w.heap.size C = X at HF HG2 ⊢
  exact bodyPost_ret (v := .agg C) (results_cell_row rfl _ _ w.heap.size 26 C (0, 0) _ rfl HF.out Try.underlying26 rfl (by rw [HSC.out]; kernel_rfl)) rfl ⟨by rw [HC.out], HG2.out⟩

set_option maxHeartbeats 1000000 in
theorem dsame_any (a b : List UInt8) (ha : a.length = 32) (hb : b.length = 32) (w : World) :
    Calls Try.prog 12 #[.agg (a.map bv).toArray, .agg (b.map bv).toArray] w fun e w' => e = .returned (.bool (decide (a = b))) ∧ Below w.heap.size w w' := by
  obtain ⟨Ca, hCa⟩ : ∃ C, C = (a.map bv).toArray := ⟨_, rfl⟩
  obtain ⟨Cb, hCb⟩ : ∃ C, C = (b.map bv).toArray := ⟨_, rfl⟩
  rw [← hCa, ← hCb]
  have HA := hide hCa; have HB := hide hCb; have LA := hide ha; have LB := hide hb
  clear hCa hCb ha hb
  go_enter Try.func12, Try.ntmps12
  go_wp2_with fail
  refine wp_world (fun X => SlB X X.heap.size (some ⟨w.heap.size, 0, none⟩) 32 a ∧ SlB X X.heap.size (some ⟨w.heap.size + 1, 0, none⟩) 32 b ∧ Below w.heap.size w X)
    ⟨SlB.of_block (rest := []) (by rw [List.append_nil, ← HA.out]; exact heap_alloc2_old w _ _) (by simp; omega) LA.out, SlB.of_block (rest := []) (by rw [List.append_nil, ← HB.out]; exact heap_alloc2_new w _ _) (by simp) LB.out, ((Below.refl _ _).alloc (Nat.le_refl _) _).alloc (by simp) _⟩ ?_
  rintro X ⟨x1, x2, x3⟩
  have KS : Hid (∀ p : Ext X, Calls Try.prog 25 #[.slice (some ⟨w.heap.size, 0, none⟩) 32 32, .slice (some ⟨w.heap.size + 1, 0, none⟩) 32 32] (extW X p) fun e w' => e = .returned (.bool (decide (a = b))) ∧ Below (extW X p).heap.size (extW X p) w') := hide (fun p =>
    same_any _ _ 32 32 32 32 a b _ (x1.ext p) (x2.ext p) (by omega) (by omega))
  have BX := hide x3
  clear x1 x2 x3
  refine wp_region_ext (by kernel_rfl) (by kernel_rfl) ?_
  repeat (go_big_quiet_step (with_reducible exact ext_call _ (KS.out _)))
  refine wpQuiet_nil ?_
  intro _ hw'
  obtain ⟨p, hw''⟩ := hw'
  subst hw''
  have BY := hide (BX.out.trans ((extW_below X p).mono BX.out.size))
  generalize extW X p = Y at BY ⊢
  go_wp2_with fail
  go_ret
  exact ⟨rfl, BY.out⟩

theorem abc_at : (Sha.sum [97, 98, 99])[0]? = some 186 ∧ (Sha.sum [97, 98, 99])[1]? = some 120 ∧ (Sha.sum [97, 98, 99])[31]? = some 173 := by
  have h := Sha.abc
  refine ⟨?_, ?_, h.2⟩
  · have := congrArg (·[0]?) h.1
    simpa [List.getElem?_take] using this
  · have := congrArg (·[1]?) h.1
    simpa [List.getElem?_take] using this
set_option maxHeartbeats 1000000 in
theorem known_any (w : World) : Calls Try.prog 11 #[] w fun e w' => e = .returned (.bool true) ∧ Below w.heap.size w w' := by
  have kc := fun (w : World) (C : Array Value) (n c : Nat) => Lib.run_convert_bytes_const (P := Try.prog) w 22 5 C n c Try.underlying22 Try.underlying5
  go_enter Try.func11, Try.ntmps11
  go_wp2_with fail
  refine (psumf_any _ 3 3 [97, 98, 99] _ ?hb (by omega) (by omega) (by omega)).mono ?_
  case hb => exact SlB.lit _ (by rfl) rfl
  rintro e w1 ⟨rfl, hb⟩
  have B1 := hide (((Below.refl w.heap.size w).alloc (Nat.le_refl _) _).trans (hb.mono (by simp)))
  obtain ⟨C, hC⟩ : ∃ C, C = ((Sha.sum [97, 98, 99]).map bv).toArray := ⟨_, rfl⟩
  have h1 : C.all (·.oneCell') = true := by rw [hC]; exact bytes_one _
  have hs : C.size = 32 := by rw [hC]; simp [Sha.sum_length]
  have k0 : C[0]? = some (.int .u8 186) := by rw [hC, List.getElem?_toArray, List.getElem?_map, abc_at.1]; rfl
  have k1 : C[1]? = some (.int .u8 120) := by rw [hC, List.getElem?_toArray, List.getElem?_map, abc_at.2.1]; rfl
  have k31 : C[31]? = some (.int .u8 173) := by rw [hC, List.getElem?_toArray, List.getElem?_map, abc_at.2.2]; rfl
  rw [← hC]
  have HSC := hide hs; have H1 := hide h1; have K0 := hide k0; have K1 := hide k1; have K31 := hide k31
  clear hC hs h1 hb k0 k1 k31
  go_upto_region 2 with ((with_reducible refine wpList_store_row rfl 26 (.tmp 1) (.tmp 4) rfl w1.heap.size C rfl rfl 26 _ (heap_alloc_new w1 _) ?q1 ?q2 H1.out ?_))
  case q1 => rw [HSC.out]; kernel_rfl
  case q2 => rw [HSC.out]; rfl
  refine wp_world (fun X => X.heap[w1.heap.size]? = some (.cells C 26 (0, 0)) ∧ Below w.heap.size w X) ⟨row_set (heap_alloc_new w1 _), below_setRow (B1.out.alloc B1.out.size _) B1.out.size _⟩ ?_
  rintro X ⟨x1, x2⟩
  have d0 : X.cell? ⟨w1.heap.size, 0, none⟩ = some (.int .u8 186) := (cell_of_row _ _ _ _ _ _ x1).trans K0.out
  have d1 : X.cell? ⟨w1.heap.size, 1, none⟩ = some (.int .u8 120) := (cell_of_row _ _ _ _ _ _ x1).trans K1.out
  have d31 : X.cell? ⟨w1.heap.size, 31, none⟩ = some (.int .u8 173) := (cell_of_row _ _ _ _ _ _ x1).trans K31.out
  have B2 := hide x2
  clear x1 x2
  go_wp2_with fail
  go_ret
  exact ⟨rfl, B2.out⟩

set_option maxHeartbeats 1000000 in
theorem sums_walk (A : Option Addr) (n c : Nat) (bs : List UInt8) (w : World) (hb : SlB w w.heap.size A n bs) (hnc : n ≤ c) (hc : c ≤ 140737488355000) :
    Calls Try.prog 3 #[.slice A n c] w fun e w' => e = .returned (.bool true) ∧ Below w.heap.size w w' := by
  have HB := hide hb; clear hb
  go_enter Try.func3, Try.ntmps3
  go_wp2_with fail
  refine (known_any _).mono ?_
  rintro e w1 ⟨rfl, hb⟩
  have B1 := hide hb; clear hb
  go_wp2_with fail
  refine (psumf_any A n c bs _ (HB.out.up B1.out) hnc (by omega) (by omega)).mono ?_
  rintro e w2 ⟨rfl, hb⟩
  have B2 := hide (B1.out.trans (hb.mono B1.out.size)); clear hb
  go_wp2_with fail
  refine (rdig_any A n c bs _ (HB.out.up B2.out) (by omega)).mono ?_
  rintro e w3 ⟨rfl, hb⟩
  have B3 := hide (B2.out.trans (hb.mono B2.out.size)); clear hb
  go_wp2_with fail
  refine (dsame_any (Sha.sum bs) (Sha.sum bs) (Sha.sum_length bs) (Sha.sum_length bs) _).mono ?_
  rintro e w4 ⟨rfl, hb⟩
  have B4 := hide (B3.out.trans (hb.mono B3.out.size)); clear hb
  rw [decide_eq_true (rfl : Sha.sum bs = Sha.sum bs)]
  go_wp2_with fail
  go_ret
  exact ⟨ret_bool (by simp), B4.out⟩
end Go.Proofs.Ytgpldaphblphgaa
