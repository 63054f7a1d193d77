/-
  The walks of the program's digest: begun, All, Sum.
-/
import Derived.Test.YtokdliapkolngaaDoorShaH
namespace Go.Proofs.YtokdliapkolngaaDoor
open Go.RowKit Go.Great

def stZero : List Value := List.replicate 8 (Value.int .u32 0) ++ (List.replicate 64 (Value.int .u8 0) ++ [Value.int .i64 0])
def begunCells : Array Value := (stRow Sha.H0 (List.replicate 64 0) 0).toArray
theorem begun_val : StVal begunCells [] := ⟨List.replicate 64 0, by simp, rfl, rfl⟩
theorem StVal.one {cs : Array Value} {bs : List UInt8} (h : StVal cs bs) : cs.all (·.oneCell') = true := by
  obtain ⟨rest, _, _, rfl⟩ := h
  rw [List.all_toArray, List.all_eq_true]
  intro x hx
  unfold stRow at hx
  rw [List.mem_append] at hx
  rcases hx with hx | hx
  · simp only [v8, List.mem_cons, List.not_mem_nil, or_false] at hx
    rcases hx with rfl | rfl | rfl | rfl | rfl | rfl | rfl | rfl <;> rfl
  · rw [List.mem_append] at hx
    rcases hx with hx | hx
    · obtain ⟨y, _, rfl⟩ := List.mem_map.1 hx; rfl
    · simp at hx; subst hx; rfl
theorem zero_state (w : World) : (zeroValue 90).run Tryd.prog w = .ok (.agg stZero.toArray) w := by kernel_rfl
set_option maxRecDepth 100000 in
theorem begun_any (w : World) : Calls Tryd.prog 56 #[] w fun e w' => e = .returned (.agg begunCells) ∧ Below w.heap.size w w' := by
  go_enter Tryd.func56, Tryd.ntmps56
  apply wp_seq_k; intro K0 hK0
  apply wp_region_lit
  refine wpList_allocTo rfl (some 0) rfl (.pointer (some ⟨w.heap.size, 0, none⟩)) (.cells stZero.toArray 90) (by kernel_rfl) ?_
  apply wpList_nil
  refine hK0 _ _ ?_
  clear hK0 K0
  apply wp_seq_k; intro K0 hK0
  apply wp_region_lit
  refine wpList_buildTo rfl 75 _ rfl (some 1) rfl (v8 Sha.H0).toArray (by kernel_rfl) ?_
  refine wpList_buildTo rfl 90 _ rfl (some 2) rfl begunCells (by kernel_rfl) ?_
  refine wpList_store_row rfl 90 (.tmp 0) (.tmp 2) rfl w.heap.size begunCells rfl rfl 90 _ (heap_alloc_new w _) (by kernel_rfl) (by kernel_rfl) begun_val.one ?_
  apply wpList_nil
  refine hK0 _ _ ?_
  clear hK0 K0
  have hr := hide (row_set (cs := begunCells) (heap_alloc_new w (.cells stZero.toArray 90)))
  have hb := hide (below_setRow (g := w.heap.size) ((Below.refl w.heap.size w).alloc (Nat.le_refl _) (.cells stZero.toArray 90)) (Nat.le_refl _) begunCells)
  generalize (w.alloc (.cells stZero.toArray 90)).setRow w.heap.size begunCells = X at hr hb ⊢
  apply wp_ret
  exact bodyPost_ret (v := .agg begunCells) (results_cell_row rfl _ _ w.heap.size 90 begunCells (0, 0) _ rfl hr.out Tryd.underlying90 rfl (by kernel_rfl)) rfl ⟨rfl, hb.out⟩

/-- the slice '.slice AP m _' holds these parts -/
def PartsAt (w : World) (B : Nat) (AP : Option Addr) (m : Nat) (parts : List (List UInt8)) : Prop :=
  parts.length = m ∧ ∃ vals : List Value, Sl w B AP m vals ∧ ∀ (j : Nat) (bs : List UInt8), parts[j]? = some bs → ∃ A n c, vals[j]? = some (.slice A n c) ∧ SlB w B A n bs ∧ n ≤ c ∧ c ≤ 9223372036854775807
theorem PartsAt.keep {w X : World} {AP : Option Addr} {m : Nat} {parts : List (List UInt8)} (h : PartsAt w w.heap.size AP m parts) (hb : Below w.heap.size w X) : PartsAt X X.heap.size AP m parts := by
  obtain ⟨h1, vals, h2, h3⟩ := h
  refine ⟨h1, vals, (h2.below hb (Nat.le_refl _)).more hb.size, fun j bs hj => ?_⟩
  obtain ⟨A, n, c, e1, e2, e3, e4⟩ := h3 j bs hj
  exact ⟨A, n, c, e1, e2.up hb, e3, e4⟩
theorem flatten_take (parts : List (List UInt8)) (i : Nat) {bs : List UInt8} (h : parts[i]? = some bs) : (parts.take (i + 1)).flatten = (parts.take i).flatten ++ bs := by
  rw [List.take_add_one, h]; simp
theorem flatten_take_le (parts : List (List UInt8)) (i : Nat) : (parts.take i).flatten.length ≤ parts.flatten.length := by
  have : parts.flatten = (parts.take i).flatten ++ (parts.drop i).flatten := by rw [← List.flatten_append, List.take_append_drop]
  rw [this, List.length_append]; omega

set_option maxHeartbeats 2000000 in
set_option maxRecDepth 100000 in
theorem all_any (parts : List (List UInt8)) (AP : Option Addr) (m cp : Nat) (w : World) (hp : PartsAt w w.heap.size AP m parts) (hN : parts.flatten.length ≤ 900000000000000000) (hm : m ≤ 9223372036854775807) :
    Calls Tryd.prog 48 #[.slice AP m cp] w fun e w' => e = .returned (.agg ((Sha.sum parts.flatten).map bv).toArray) ∧ Below w.heap.size w w' := by
  have hz51 : ∀ w : World, (zeroValue 90).run Tryd.prog w = .ok (.agg stZero.toArray) w := zero_state
  have HP := hide hp
  have HL := hide hp.1
  clear hp
  go_enter Tryd.func48, Tryd.ntmps48
  go_wp2_with fail
  refine (begun_any _).mono ?_
  rintro e w1 ⟨rfl, hb⟩
  have R0 : Hid (RowV w1 w.heap.size 66 (List.replicate 32 (.int .u8 0))) := hide ((hb.block w.heap.size (by simp)).trans ((heap_alloc_new w _).trans (by kernel_rfl)))
  have B1 := hide (((Below.refl w.heap.size w).alloc (Nat.le_refl _) _).trans (hb.mono (by simp)))
  have Z1 : Hid (w.heap.size + 1 ≤ w1.heap.size) := hide (by have := hb.size; rw [World.size_alloc] at this; exact this)
  clear hb
  obtain ⟨C, hC⟩ : ∃ C, C = begunCells := ⟨_, rfl⟩
  have hv : StVal C [] := by rw [hC]; exact begun_val
  rw [← hC]
  have HV := hide hv; have H1 := hide hv.one; have HSZ := hide hv.size
  clear hC hv
  go_upto_region 2 with ((with_reducible refine wpList_store_row rfl 90 (.tmp 3) (.tmp 6) rfl w1.heap.size C rfl rfl 90 _ (heap_alloc_new w1 _) ?g1 ?g2 H1.out ?_))
  case g1 => rw [HSZ.out]; kernel_rfl
  case g2 => rw [HSZ.out]; rfl
  refine wp_world (fun X => StOf X w1.heap.size 90 [] ∧ RowV X w.heap.size 66 (List.replicate 32 (.int .u8 0)) ∧ Below w.heap.size w X ∧ X.heap.size = w1.heap.size + 1)
    ⟨HV.out.st (row_set (heap_alloc_new w1 _)), (R0.out.alloc _).setRow (by have := Z1.out; omega), below_setRow (B1.out.alloc B1.out.size _) B1.out.size _, by simp⟩ ?_
  rintro X ⟨x1, x2, x3, x4⟩
  obtain ⟨G3, hG3⟩ : ∃ G3, G3 = w1.heap.size := ⟨_, rfl⟩
  rw [← hG3] at x1 x4 Z1 ⊢
  have S : Hid (StOf X G3 90 (parts.take 0).flatten) := hide x1
  have R := hide x2; have B := hide x3
  clear x1 x2 x3 x4 hG3 R0 B1 HV H1 HSZ
  go_wp2_with fail
  go_loopw [9] (fun v9 wq => ∃ i : Nat, i ≤ m ∧ v9 = .int .i64 i ∧ Hid (StOf wq G3 90 (parts.take i).flatten) ∧ Hid (RowV wq w.heap.size 66 (List.replicate 32 (.int .u8 0))) ∧ Hid (Below w.heap.size w wq)) (fun v _ => m - (intOf v).toNat)
  case atStart => exact ⟨0, by omega, rfl, S, R, B⟩
  case round =>
    clear S R B
    obtain ⟨i, hi, rfl, S, R, B⟩ := hrel
    by_cases hlt : i < m
    · obtain ⟨bs, hbs⟩ : ∃ bs, parts[i]? = some bs := ⟨parts[i]'(by rw [HL.out]; exact hlt), List.getElem?_eq_getElem _⟩
      obtain ⟨_, vals, hsl0, hvals⟩ := HP.out
      have hsl := (hsl0.below B.out (Nat.le_refl _)).more B.out.size
      obtain ⟨A, n, c, hv, hb0, hnc, hc⟩ := hvals i bs hbs
      have hb := hb0.up B.out
      obtain ⟨b, off, u, rfl, hbb, hu, cc⟩ := hsl.at_ hlt
      rw [hv] at hu; injection hu with hu; subst hu
      have hft := flatten_take parts i hbs
      have hfl := flatten_take_le parts (i + 1)
      have HB := hide hb; have HFT := hide hft
      have HA : Hid (0 < n → ∀ b off, A = some ⟨b, off, none⟩ → b ≠ G3) := hide (fun h0 b off e => by
        obtain ⟨b', off', e', hlt', _⟩ := hb0.2 h0
        rw [e] at e'; injection e' with e'; injection e' with e1 _ _
        have := Z1.out; omega)
      have b1 : (0 : Int) ≤ (i : Int) := by omega
      have b2 : (i : Int) < (m : Int) := by omega
      have HTL : Hid (((parts.take i).flatten).length + n ≤ 1000000000000000000) := hide (by
        have := hb.len
        rw [hft, List.length_append] at hfl
        omega)
      clear hvals hsl hsl0 hv hb hb0 hbs hft hfl
      go_wp2_with fail
      refine (pwrite_any G3 90 (parts.take i).flatten bs A n c _ S.out HB.out HA.out hnc HTL.out hc).mono ?_
      rintro e w2 ⟨rfl, hs, hgr⟩
      rw [← HFT.out] at hs
      have S2 := hide hs
      have R2 := hide (row_grown R.out hgr (by have := Z1.out; omega))
      have B2 := hide (below_of_grown' B.out hgr B.out.size (by have := Z1.out; omega))
      clear hs hgr S R B
      go_wp2_with fail
      go_roundw
      case rel => exact ⟨i + 1, by omega, by go_num, S2, R2, B2⟩
      case measure => simp [intOf]; omega
    · have HF : Hid ((parts.take i).flatten = parts.flatten) := hide (by rw [List.take_of_length_le (by rw [HL.out]; omega)])
      have hge : ¬ ((i : Int) < (m : Int)) := by omega
      rw [HF.out] at S
      obtain ⟨cs, hcs, hg⟩ := StVal.of S.out
      have HCS := hide hcs; have HG := hide hg; have HSZ := hide hcs.size
      clear hcs hg S HF
      go_upto_region 7 with (fail)
      apply wp_region_lit
      refine wpList_load_row rfl 90 (.tmp 3) rfl G3 rfl 90 _ (0, 0) _ HG.out Tryd.underlying90 rfl (by rw [HSZ.out]; kernel_rfl) ?_
      go_wp2_with fail
      refine (psum_any cs parts.flatten _ HCS.out hN).mono ?_
      rintro e w2 ⟨rfl, hb⟩
      have R2 : Hid (w2.heap[w.heap.size]? = some (.cells (List.replicate 32 (Value.int .u8 0)).toArray 66 (0, 0))) := hide (R.out.below' hb)
      have B2 := hide (B.out.trans (hb.mono B.out.size))
      obtain ⟨C, hC⟩ : ∃ C, C = ((Sha.sum parts.flatten).map bv).toArray := ⟨_, rfl⟩
      have h1 : C.all (·.oneCell') = true := by rw [hC]; exact bytes_one _
      have hs : C.size = 32 := by rw [hC]; simp [Sha.sum_length]
      rw [← hC]
      have HC := hide hC; have HSC := hide hs; have H1 := hide h1
      clear hC hs h1 hb
      go_wp2_with (with_reducible refine wpList_store_row rfl 66 (.tmp 2) (.tmp 17) rfl w.heap.size C rfl rfl 66 _ R2.out ?q1 ?q2 H1.out ?_)
      case q1 => rw [HSC.out]; kernel_rfl
      case q2 => rw [HSC.out]; rfl
      have HF := hide (row_set (cs := C) R2.out)
      have HG2 := hide (below_setRow (g := w.heap.size) B2.out (Nat.le_refl _) C)
      generalize w2.setRow w.heap.size C = X at HF HG2 ⊢
      exact bodyPost_ret (v := .agg C) (results_cell_row rfl _ _ w.heap.size 66 C (0, 0) _ rfl HF.out Tryd.underlying66 rfl (by rw [HSC.out]; kernel_rfl)) rfl ⟨by rw [HC.out], HG2.out⟩
end Go.Proofs.YtokdliapkolngaaDoor
