/-
  The walks of a hash's methods: New, Write, Sum, Len; of a nil hash's.
-/
import Derived.Test.YtgpldaphblphgaaShaJ
namespace Go.Proofs.Ytgpldaphblphgaa
open Go.RowKit Go.Great

theorem hnew_any (w : World) : Calls Try.prog 15 #[] w fun e w' => ∃ G, e = .returned (.pointer (some ⟨G, 0, none⟩)) ∧ w.heap.size ≤ G ∧ StOf w' G 54 [] ∧ Below w.heap.size w w' := by
  go_enter Try.func15, Try.ntmps15
  go_wp2_with fail
  refine (begun_any _).mono ?_
  rintro e w1 ⟨rfl, hb⟩
  have B1 := hide hb; clear hb
  go_wp2_with (first | (with_reducible refine wpList_buildTo rfl 54 _ rfl (some 2) rfl begunCells (by kernel_rfl) ?_) | (with_reducible refine wpList_boxTo rfl 54 _ rfl (some 3) rfl w1.heap.size rfl begunCells rfl ?_))
  go_ret
  exact ⟨_, rfl, B1.out.size, begun_val.st (heap_alloc_new w1 _), B1.out.alloc B1.out.size _⟩

theorem hwrite_any (G : Nat) (bs cs : List UInt8) (A : Option Addr) (n c : Nat) (w : World) (hS : StOf w G 54 bs) (hb : SlB w w.heap.size A n cs) (hne : 0 < n → ∀ b off, A = some ⟨b, off, none⟩ → b ≠ G) (hnc : n ≤ c) (hN : bs.length + n ≤ 1000000000000000000) (hC : c ≤ 9223372036854775807) :
    Calls Try.prog 16 #[.pointer (some ⟨G, 0, none⟩), .slice A n c] w fun e w' => e = .returned (.tuple #[]) ∧ StOf w' G 54 (bs ++ cs) ∧ w.grownBy w' (some G) := by
  have HS := hide hS; have HB := hide hb; have HNE := hide hne
  clear hS hb hne
  go_enter Try.func16, Try.ntmps16
  go_wp2_with fail
  refine (pwrite_any G 54 bs cs A n c _ HS.out HB.out HNE.out hnc hN hC).mono ?_
  rintro e w1 ⟨rfl, hs, hg⟩
  have S1 := hide hs; have G1 := hide hg; clear hs hg
  go_wp2_with fail
  go_end0
  exact ⟨rfl, S1.out, G1.out⟩
theorem hwrite_nil (v : Value) (w : World) : Calls Try.prog 16 #[.pointer none, v] w fun e w' => e = .returned (.tuple #[]) ∧ w = w' := by
  go_enter Try.func16, Try.ntmps16
  go_wp2_with fail
  go_end0
  exact ⟨rfl, rfl⟩
theorem hlen_any (G : Nat) (bs : List UInt8) (w : World) (hS : StOf w G 54 bs) :
    Calls Try.prog 21 #[.pointer (some ⟨G, 0, none⟩)] w fun e w' => e = .returned (.int .i64 (bs.length : Int)) ∧ w = w' := by
  have cn := hS.n
  clear hS
  go_enter Try.func21, Try.ntmps21
  go_wp2_with fail
  go_ret
  exact ⟨rfl, rfl⟩
theorem hlen_nil (w : World) : Calls Try.prog 21 #[.pointer none] w fun e w' => e = .returned (.int .i64 0) ∧ w = w' := by
  go_enter Try.func21, Try.ntmps21
  go_wp2_with fail
  go_ret
  exact ⟨rfl, rfl⟩
set_option maxHeartbeats 1000000 in
theorem hsum_any (G : Nat) (bs : List UInt8) (w : World) (hS : StOf w G 54 bs) (hN : bs.length ≤ 900000000000000000) :
    Calls Try.prog 17 #[.pointer (some ⟨G, 0, none⟩)] w fun e w' => e = .returned (.agg ((Sha.sum bs).map bv).toArray) ∧ Below w.heap.size w w' := by
  obtain ⟨cs, hcs, hg⟩ := StVal.of hS
  have hGl := hS.lt
  have HCS := hide hcs; have HSZ := hide hcs.size; have HG := hide hg
  clear hcs hg hS
  go_enter Try.func17, Try.ntmps17
  go_upto_region 3 with (fail)
  refine wp_world (fun X => X.heap[G]? = some (.cells cs 54 (0, 0)) ∧ RowV X w.heap.size 26 (List.replicate 32 (.int .u8 0)) ∧ Below w.heap.size w X) ⟨(heap_alloc_old w _ hGl).trans HG.out, (heap_alloc_new w _).trans (by kernel_rfl), (Below.refl _ _).alloc (Nat.le_refl _) _⟩ ?_
  rintro X ⟨x1, x2, x3⟩
  have X1 := hide x1; have X2 := hide x2; have X3 := hide x3
  clear x1 x2 x3
  go_wp2_with (with_reducible refine wpList_load_row rfl 51 (.tmp 8) rfl G rfl 54 cs (0, 0) _ X1.out Try.underlying51 rfl ?l1 ?_)
  case l1 => rw [HSZ.out]; kernel_rfl
  refine (psum_any cs bs _ HCS.out hN).mono ?_
  rintro e w2 ⟨rfl, hb⟩
  have R2 : Hid (w2.heap[w.heap.size]? = some (.cells (List.replicate 32 (Value.int .u8 0)).toArray 26 (0, 0))) := hide (X2.out.below' hb)
  have B2 := hide (X3.out.trans (hb.mono X3.out.size))
  obtain ⟨C, hC⟩ : ∃ C, C = ((Sha.sum bs).map bv).toArray := ⟨_, rfl⟩
  have h1 : C.all (·.oneCell') = true := by rw [hC]; exact bytes_one _
  have hs : C.size = 32 := by rw [hC]; simp [Sha.sum_length]
  rw [← hC]
  have HC := hide hC; have HSC := hide hs; have H1 := hide h1
  clear hC hs h1 hb
  go_wp2_with (with_reducible refine wpList_store_row rfl 26 (.tmp 2) (.tmp 10) rfl w.heap.size C rfl rfl 26 _ R2.out ?q1 ?q2 H1.out ?_)
  case q1 => rw [HSC.out]; kernel_rfl
  case q2 => rw [HSC.out]; rfl
  have HF := hide (row_set (cs := C) R2.out)
  have HG2 := hide (below_setRow (g := w.heap.size) B2.out (Nat.le_refl _) C)
  generalize w2.setRow w.heap.size C = X at HF HG2 ⊢
  exact bodyPost_ret (v := .agg C) (results_cell_row rfl _ _ w.heap.size 26 C (0, 0) _ rfl HF.out Try.underlying26 rfl (by rw [HSC.out]; kernel_rfl)) rfl ⟨by rw [HC.out], HG2.out⟩
theorem padN_parts_nil (w : World) : PartsAt w w.heap.size none 0 [] := ⟨rfl, [], Sl.nil_, fun j bs h => by simp at h⟩
set_option maxHeartbeats 1000000 in
theorem hsum_nil (w : World) : Calls Try.prog 17 #[.pointer none] w fun e w' => e = .returned (.agg ((Sha.sum []).map bv).toArray) ∧ Below w.heap.size w w' := by
  go_enter Try.func17, Try.ntmps17
  go_wp2_with fail
  refine (all_any [] none 0 0 _ (padN_parts_nil _) (by simp) (by omega)).mono ?_
  rintro e w2 ⟨rfl, hb⟩
  rw [show ([] : List (List UInt8)).flatten = [] from rfl]
  have R2 : Hid (w2.heap[w.heap.size]? = some (.cells (List.replicate 32 (Value.int .u8 0)).toArray 26 (0, 0))) := hide ((hb.block w.heap.size (by simp)).trans ((heap_alloc_new w _).trans (by kernel_rfl)))
  have B2 := hide (((Below.refl w.heap.size w).alloc (Nat.le_refl _) _).trans (hb.mono (by simp)))
  obtain ⟨C, hC⟩ : ∃ C, C = ((Sha.sum []).map bv).toArray := ⟨_, rfl⟩
  have h1 : C.all (·.oneCell') = true := by rw [hC]; exact bytes_one _
  have hs : C.size = 32 := by rw [hC]; simp [Sha.sum_length]
  rw [← hC]
  have HC := hide hC; have HSC := hide hs; have H1 := hide h1
  clear hC hs h1 hb
  go_wp2_with (with_reducible refine wpList_store_row rfl 26 (.tmp 2) (.tmp 5) rfl w.heap.size C rfl rfl 26 _ R2.out ?q1 ?q2 H1.out ?_)
  case q1 => rw [HSC.out]; kernel_rfl
  case q2 => rw [HSC.out]; rfl
  have HF := hide (row_set (cs := C) R2.out)
  have HG2 := hide (below_setRow (g := w.heap.size) B2.out (Nat.le_refl _) C)
  generalize w2.setRow w.heap.size C = X at HF HG2 ⊢
  exact bodyPost_ret (v := .agg C) (results_cell_row rfl _ _ w.heap.size 26 C (0, 0) _ rfl HF.out Try.underlying26 rfl (by rw [HSC.out]; kernel_rfl)) rfl ⟨by rw [HC.out], HG2.out⟩
end Go.Proofs.Ytgpldaphblphgaa
