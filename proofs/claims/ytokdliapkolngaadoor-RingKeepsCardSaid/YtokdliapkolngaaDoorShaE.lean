/-
  The walk of the document's digest: Sum.
-/
import Derived.Test.YtokdliapkolngaaDoorShaD
import Derived.StillTailTactics
import Derived.IntWalk
namespace Go.Proofs.YtokdliapkolngaaDoor
open Go.RowKit Go.Great

theorem Own.le_cap {w : World} {base e n c : Nat} {A : Option Addr} {xs : List Value} (h : Own w base e A n c xs) : n ≤ c ∧ c ≤ maxLen := by
  rcases h.2 with ⟨hv, h0⟩ | ⟨g, cap, cur, hv, hbg, hg, hnc, hm, hcs, htk⟩
  · injection hv with h1 h2 h3; unfold maxLen; omega
  · injection hv with h1 h2 h3; omega
theorem Sl.window {w : World} {B b off n i k : Nat} {xs : List Value} (h : Sl w B (some ⟨b, off, none⟩) n xs) (hk : i + k ≤ n) : Sl w B (some ⟨b, off + i, none⟩) k ((xs.drop i).take k) := by
  have hl := h.1
  refine ⟨by simp; omega, fun h0 => ?_⟩
  obtain ⟨b', off', e, hb, hc⟩ := h.2 (by omega)
  injection e with e; injection e with e1 e2 _
  subst e1 e2
  refine ⟨b, off + i, rfl, hb, fun j u hj => ?_⟩
  have hjk : j < k := by
    have := (List.getElem?_eq_some_iff.1 hj).1
    simp at this; omega
  rw [List.getElem?_take_of_lt hjk, List.getElem?_drop] at hj
  rw [Nat.add_assoc]; exact hc _ _ hj
theorem SlB.window {w : World} {B b off n i k : Nat} {bs : List UInt8} (h : SlB w B (some ⟨b, off, none⟩) n bs) (hk : i + k ≤ n) : SlB w B (some ⟨b, off + i, none⟩) k ((bs.drop i).take k) := by
  have := Sl.window (i := i) (k := k) h.sl hk
  rw [← List.map_drop, ← List.map_take] at this
  exact this
/-- the digest's bytes, i of them -/
def drow (v : Sha.V8) (i : Nat) : List Value := ((v.words.flatMap Sha.be4).take i).map bv ++ List.replicate (32 - i) (.int .u8 0)
def dat (v : Sha.V8) (i : Nat) : Nat := (v.words.getD (i / 4) 0).toNat / 2 ^ (24 - 8 * (i % 4)) % 256
theorem drow_set (v : Sha.V8) (i : Nat) (hi : i < 32) : (drow v i).set i (.int .u8 (dat v i : Int)) = drow v (i + 1) := by
  have e : (v.words.flatMap Sha.be4)[i]? = some (UInt8.ofNat (dat v i)) := by
    have e2 : ∀ q : Nat, UInt8.ofNat (q % 256) = UInt8.ofNat q := fun q => by apply UInt8.toNat_inj.1; simp [UInt8.toNat_ofNat']
    unfold dat
    rw [e2]
    match i, hi with
    | 0, _ | 1, _ | 2, _ | 4, _ | 5, _ | 6, _ | 8, _ | 9, _ | 10, _ | 12, _ | 13, _ | 14, _
    | 16, _ | 17, _ | 18, _ | 20, _ | 21, _ | 22, _ | 24, _ | 25, _ | 26, _ | 28, _ | 29, _ | 30, _ => rfl
    | 3, _ | 7, _ | 11, _ | 15, _ | 19, _ | 23, _ | 27, _ | 31, _ => simp [Sha.V8.words, Sha.be4]
    | i + 32, h => exact absurd h (by omega)
  have hl : (v.words.flatMap Sha.be4).length = 32 := by simp [Sha.V8.words, Sha.be4]
  have hd : dat v i < 256 := Nat.mod_lt _ (by decide)
  unfold drow
  rw [List.set_append_right _ _ (by simp [hl]; omega), List.take_add_one, e, show 32 - i = (32 - (i + 1)) + 1 by omega, List.replicate_succ]
  have hm : min i 32 = i := by omega
  simp [hl, hm, bv, UInt8.toNat_ofNat', Nat.mod_eq_of_lt hd]
theorem drow_zero (v : Sha.V8) : drow v 0 = List.replicate 32 (.int .u8 0) := by simp [drow]
theorem drow_end (v : Sha.V8) : drow v 32 = (v.words.flatMap Sha.be4).map bv := by
  have hl : (v.words.flatMap Sha.be4).length = 32 := by simp [Sha.V8.words, Sha.be4]
  unfold drow
  rw [List.take_of_length_le (by omega)]; simp
theorem drow_length (v : Sha.V8) (i : Nat) (hi : i ≤ 32) : (drow v i).length = 32 := by
  have hl : (v.words.flatMap Sha.be4).length = 32 := by simp [Sha.V8.words, Sha.be4]
  simp [drow, hl]; omega
theorem bytes_one (l : List UInt8) : (l.map bv).toArray.all (·.oneCell') = true := by simp [bv, Value.oneCell']
theorem H0_v8 : v8 Sha.H0 = [.int .u32 1779033703, .int .u32 3144134277, .int .u32 1013904242, .int .u32 2773480762, .int .u32 1359893119, .int .u32 2600822924, .int .u32 528734635, .int .u32 1541459225] := rfl

theorem ret_val' {k : IntKind} {a b : Int} (h : a = b) : Value.int k a = .int k b := by rw [h]
set_option maxHeartbeats 2000000 in
set_option maxRecDepth 100000 in
theorem rdig_any (A : Option Addr) (n c : Nat) (bs : List UInt8) (w : World) (hb : SlB w w.heap.size A n bs) (hn : n ≤ 140737488355000) :
    Calls Tryd.prog 36 #[.slice A n c] w fun e w' => e = .returned (.agg ((Sha.sum bs).map bv).toArray) ∧ Below w.heap.size w w' := by
  have HB := hide hb
  have HL := hide hb.len
  clear hb
  go_enter Tryd.func36, Tryd.ntmps36
  go_wp2_with fail
  refine (padded_any A n c bs _ ?hsl hn).mono ?_
  case hsl => exact HB.out.up (((Below.refl _ _).alloc (Nat.le_refl _) _).alloc (by simp) _)
  rintro e w1 ⟨A4, m, c4, rfl, ho, hb⟩
  obtain ⟨P, hP⟩ : ∃ P, P = Sha.padded bs := ⟨_, rfl⟩
  rw [← hP] at ho
  have hm0 := ho.len
  rw [List.length_map] at hm0
  have hpl := Sha.padded_length bs
  rw [← hP, hm0] at hpl
  have hle := ho.le_cap
  have hsl := ho.sl
  have hz := hb.size
  rw [World.size_alloc, World.size_alloc] at hz
  obtain ⟨g, rfl, hgb, hgl⟩ : ∃ g, A4 = some ⟨g, 0, none⟩ ∧ w.heap.size + 2 ≤ g ∧ g < w1.heap.size := by
    rcases ho.2 with ⟨_, h0⟩ | ⟨g, cap, cur, hv, hbg, hg, _⟩
    · omega
    · injection hv with h1 h2 h3
      exact ⟨g, h1, by simpa using hbg, heap_lt' hg⟩
  have HP : Hid (∀ X : World, X.heap[g]? = w1.heap[g]? → SlB X (g + 1) (some ⟨g, 0, none⟩) m P) := hide (fun X hX => hsl.block hX)
  have R2 : Hid (RowV w1 w.heap.size 64 (List.replicate 32 (.int .u8 0))) := hide ((hb.block w.heap.size (by simp; omega)).trans ((heap_alloc2_old w _ _).trans (by kernel_rfl)))
  have R3 : Hid (RowV w1 (w.heap.size + 1) 75 (v8 (Sha.blocks P 0))) := hide ((hb.block (w.heap.size + 1) (by simp)).trans ((heap_alloc2_new w _ _).trans (by kernel_rfl)))
  have B1 : Hid (Below w.heap.size w w1) := hide ((((Below.refl _ _).alloc (Nat.le_refl _) _).alloc (by simp) _).trans (hb.mono (by simp; omega)))
  obtain ⟨q, hq⟩ : ∃ q, m = 64 * q := ⟨m / 64, by omega⟩
  have HPE := hide hP; have HM := hide hm0; have HQ := hide hq; have HG := hide hgb; have HGL := hide hgl
  have hq2 : 64 * q ≤ m ∧ m ≤ 64 * q := by omega
  have hcap : m ≤ c4 := hle.1
  have hbig : m ≤ 140737488355080 := by have := HL.out; omega
  clear ho hb hP hm0 hpl hle hsl hz hgb hgl hq
  go_wp2_with fail
  go_loopw [5] (fun v5 wr => ∃ j : Nat, j ≤ q ∧ v5 = .int .i64 ((64 * j : Nat) : Int) ∧ Hid (RowV wr (w.heap.size + 1) 75 (v8 (Sha.blocks P j))) ∧ Hid (RowV wr w.heap.size 64 (List.replicate 32 (.int .u8 0))) ∧ Hid (wr.heap[g]? = w1.heap[g]?) ∧ Hid (w1.heap.size ≤ wr.heap.size) ∧ Hid (Below w.heap.size w wr)) (fun v _ => m - (intOf v).toNat)
  case atStart => exact ⟨0, by omega, rfl, R3, R2, hide rfl, hide (Nat.le_refl _), B1⟩
  case round =>
    clear R2 R3 B1
    obtain ⟨j, hj, rfl, R3, R2, RG, RZ, HW⟩ := hrel
    by_cases hlt : j < q
    · obtain ⟨i, hi⟩ : ∃ i, i = 64 * j := ⟨_, rfl⟩
      have HSTEP : Hid (Sha.blocks P (j + 1) = Sha.block (Sha.blocks P j) ((P.drop i).take 64)) := hide (by rw [hi]; rfl)
      rw [← hi]
      have hi2 : i + 64 ≤ m := by omega
      have HWin : Hid (∀ X : World, X.heap[g]? = w1.heap[g]? → SlB X (g + 1) (some ⟨g, 0 + i, none⟩) 64 ((P.drop i).take 64)) := hide (fun X hX => (HP.out X hX).window hi2)
      generalize Sha.blocks P j = V at R3 HSTEP
      have e0 : wr.cell? ⟨w.heap.size + 1, 0, none⟩ = some (.int .u32 (V.a.toNat : Int)) := R3.out.cell (k := 0) rfl
      have e1 : wr.cell? ⟨w.heap.size + 1, 1, none⟩ = some (.int .u32 (V.b.toNat : Int)) := R3.out.cell (k := 1) rfl
      have e2 : wr.cell? ⟨w.heap.size + 1, 2, none⟩ = some (.int .u32 (V.c.toNat : Int)) := R3.out.cell (k := 2) rfl
      have e3 : wr.cell? ⟨w.heap.size + 1, 3, none⟩ = some (.int .u32 (V.d.toNat : Int)) := R3.out.cell (k := 3) rfl
      have e4 : wr.cell? ⟨w.heap.size + 1, 4, none⟩ = some (.int .u32 (V.e.toNat : Int)) := R3.out.cell (k := 4) rfl
      have e5 : wr.cell? ⟨w.heap.size + 1, 5, none⟩ = some (.int .u32 (V.f.toNat : Int)) := R3.out.cell (k := 5) rfl
      have e6 : wr.cell? ⟨w.heap.size + 1, 6, none⟩ = some (.int .u32 (V.g.toNat : Int)) := R3.out.cell (k := 6) rfl
      have e7 : wr.cell? ⟨w.heap.size + 1, 7, none⟩ = some (.int .u32 (V.h.toNat : Int)) := R3.out.cell (k := 7) rfl
      have b1 : (0 : Int) ≤ (i : Int) := by omega
      have b2 : (i : Int) < (m : Int) := by omega
      have b3 : (i : Int) + 64 ≤ (c4 : Int) := by omega
      have b4 : i < c4 := by omega
      have b5 : i + 64 ≤ c4 := by omega
      have hne : c4 ≠ i := by omega
      have s1 : IntKind.i64.wrap ((i : Int) + 64) = (i : Int) + 64 := IntWalk.i64_in _ (by omega)
      have s2 : ((i : Int) + 64).toNat = i + 64 := by omega
      have s3 : (0 : Int) ≤ (i : Int) + 64 := by omega
      have s4 : i ≤ i + 64 := by omega
      have s5 : i + 64 - i = 64 := by omega
      have HI := hide hi; clear hi
      go_wp2_with fail
      refine wp_region_still_tail 6 (by kernel_rfl) (by kernel_rfl) ?_
      change wpStill _ _ wr.drew _ _ _
      simp only [List.take_succ_cons, List.take_zero, List.drop_succ_cons, List.drop_zero]
      still_step
      still_step
      still_step
      still_step
      still_step
      still_step
      refine wpStill_nil ?_
      change wpList _ _ _ _ _ wr.drew
      clear s1 s2 s3 s4 s5 hne e0 e1 e2 e3 e4 e5 e6 e7
      have HSL : Hid (SlB wr.drew wr.drew.heap.size (some ⟨g, i, none⟩) 64 ((P.drop i).take 64)) := hide (by
        have := HWin.out wr.drew RG.out
        rw [Nat.zero_add] at this
        exact this.more (by have := HGL.out; have := RZ.out; show g + 1 ≤ wr.heap.size; omega))
      have R3d : Hid (RowV wr.drew (w.heap.size + 1) 75 (v8 V)) := hide R3.out
      have R2d : Hid (RowV wr.drew w.heap.size 64 (List.replicate 32 (.int .u8 0))) := hide R2.out
      have RGd : Hid (wr.drew.heap[g]? = w1.heap[g]?) := hide RG.out
      have RZd : Hid (w1.heap.size ≤ wr.drew.heap.size) := hide RZ.out
      have HWd : Hid (Below w.heap.size w wr.drew) := hide HW.out.drew
      generalize wr.drew = Y at HSL R3d R2d RGd RZd HWd ⊢
      clear R3 R2 RG RZ HW HWin
      go_wp2_with fail
      refine (rtake_any V (some ⟨g, i, none⟩) 64 (c4 - i) ((P.drop i).take 64) _ HSL.out rfl).mono ?_
      rintro e w2 ⟨rfl, hb⟩
      rw [← HSTEP.out]
      obtain ⟨S, hS⟩ : ∃ S, S = Sha.blocks P (j + 1) := ⟨_, rfl⟩
      rw [← hS]
      have HSS := hide hS; clear hS
      have R3e := hide (R3d.out.below' hb)
      have R2e := hide (R2d.out.below' hb)
      have RGe : Hid (w2.heap[g]? = w1.heap[g]?) := hide ((hb.block g (by have := HGL.out; have := RZd.out; omega)).trans RGd.out)
      have RZe : Hid (w1.heap.size ≤ w2.heap.size) := hide (Nat.le_trans RZd.out hb.size)
      have HWe := hide (HWd.out.trans (hb.mono HWd.out.size))
      clear hb R3d R2d RGd RZd HWd HSL
      have hgn : g ≠ w.heap.size + 1 := by have := HG.out; omega
      have HGN := hide hgn; clear hgn
      have RX : Hid (w2.heap[w.heap.size + 1]? = some (.cells (v8 V).toArray 75 (0, 0))) := hide R3e.out
      go_wp2_with (with_reducible refine wpList_store_row rfl 75 (.tmp 3) (.tmp 23) rfl (w.heap.size + 1) (v8 S).toArray rfl rfl 75 _ RX.out ?g1 ?g2 (v8_one S) ?_)
      case g1 => kernel_rfl
      case g2 => rfl
      go_roundw
      case rel =>
        refine ⟨j + 1, by omega, ret_val' (by have := HI.out; omega), hide ?_, hide (R2e.out.setRow (by omega)), hide ((row_set_other HGN.out).trans RGe.out), hide (by rw [size_setRow]; exact RZe.out), hide (below_setRow HWe.out (by omega) _)⟩
        rw [← HSS.out]
        exact row_set R3e.out
      case measure => have := HI.out; simp [intOf]; omega
    · have HST : Hid (Sha.sum bs = (Sha.blocks P j).words.flatMap Sha.be4) := hide (by
        unfold Sha.sum
        rw [← HPE.out, Sha.state_whole (n := j) (by have := HM.out; omega)])
      generalize Sha.blocks P j = V at R3 HST
      obtain ⟨I, hI⟩ : ∃ I, I = 64 * j := ⟨_, rfl⟩
      have hlj : ¬ ((I : Int) < (m : Int)) := by omega
      rw [← hI]
      clear hI
      go_wp2_with fail
      have R6 : Hid (RowV (wr.alloc (.cells (List.replicate 32 (.int .u8 0)).toArray 64)) wr.heap.size 64 (drow V 0)) := hide (by
        rw [drow_zero]; exact heap_alloc_new wr _)
      replace R3 := hide (R3.out.alloc (.cells (List.replicate 32 (.int .u8 0)).toArray 64))
      replace R2 := hide (R2.out.alloc (.cells (List.replicate 32 (.int .u8 0)).toArray 64))
      have HW6 := hide (HW.out.alloc HW.out.size (.cells (List.replicate 32 (.int .u8 0)).toArray 64))
      have hn6 : Hid (w.heap.size + 1 < wr.heap.size) := hide (by have := HG.out; have := HGL.out; have := RZ.out; omega)
      obtain ⟨G6, hG6⟩ : ∃ G6, G6 = wr.heap.size := ⟨_, rfl⟩
      rw [← hG6] at R6 hn6 ⊢
      clear hG6 RG RZ HW
      go_loopw [7] (fun v7 wq => ∃ i : Nat, i ≤ 32 ∧ v7 = .int .i64 i ∧ Hid (RowV wq (w.heap.size + 1) 75 (v8 V)) ∧ Hid (RowV wq w.heap.size 64 (List.replicate 32 (.int .u8 0))) ∧ Hid (RowV wq G6 64 (drow V i)) ∧ Hid (Below w.heap.size w wq)) (fun v _ => 32 - (intOf v).toNat)
      case atStart => exact ⟨0, by omega, rfl, R3, R2, R6, HW6⟩
      case round =>
        clear R3 R2 R6 HW6
        obtain ⟨i, hi, rfl, R3, R2, R6, HW⟩ := hrel
        by_cases hlt2 : i < 32
        · obtain ⟨x, hx⟩ : ∃ x, x = V.words.getD (i / 4) 0 := ⟨_, rfl⟩
          have c3 := R3.out.cell (v8_at V (i / 4) (by omega))
          rw [← hx] at c3
          have hf := R6.out.free i
          obtain ⟨v0, c6⟩ : ∃ v0, wr.cell? ⟨G6, i, none⟩ = some v0 := ⟨_, R6.out.cell (List.getElem?_eq_getElem (by rw [drow_length V i hi]; exact hlt2))⟩
          have hd : Hid (((Sha.shr x (24 - 8 * (i % 4))).toNat % 256 : Nat) = dat V i) := hide (by rw [Sha.shr_toNat, hx]; rfl)
          have R62 := hide (R6.out.set i (.int .u8 (dat V i : Int)))
          rw [drow_set V i hlt2] at R62
          have R32 := hide (R3.out.set_other (b := G6) (k := i) (v := .int .u8 (dat V i : Int)) (by have := hn6.out; omega))
          have R22 := hide (R2.out.set_other (b := G6) (k := i) (v := .int .u8 (dat V i : Int)) (by have := hn6.out; omega))
          have HW2 := hide (HW.out.setCell (p := ⟨G6, i, none⟩) (by have := hn6.out; show w.heap.size ≤ G6; omega) (.int .u8 (dat V i : Int)))
          have KD := hide (fun w => down_k x (24 - 8 * (i % 4)) (24 - 8 * ((i : Int) % 4)) (by omega) (by omega) w)
          have b1 : (0 : Int) ≤ (i : Int) := by omega
          have b2 : (i : Int) < 32 := by omega
          clear hx
          go_wp2_with (refine (KD.out _).mono ?_; rintro e w' ⟨rfl, rfl⟩)
          go_roundw
          case rel =>
            refine ⟨i + 1, by omega, by go_num, ?_⟩
            rw [show ((Sha.shr x (24 - 8 * (i % 4))).toNat : Int) % 256 = (dat V i : Int) by have := hd.out; omega]
            exact ⟨R32, R22, R62, HW2⟩
          case measure => simp [intOf]; omega
        · have HR : Hid (wr.heap[G6]? = some (.cells ((Sha.sum bs).map bv).toArray 64 (0, 0))) := hide (by
            have := R6.out
            rw [show i = 32 by omega, drow_end, ← HST.out] at this
            exact this)
          have R2x : Hid (wr.heap[w.heap.size]? = some (.cells (List.replicate 32 (Value.int .u8 0)).toArray 64 (0, 0))) := hide R2.out
          have hs : ((Sha.sum bs).map bv).toArray.size = 32 := by simp [Sha.sum_length]
          obtain ⟨C, hC⟩ : ∃ C, C = ((Sha.sum bs).map bv).toArray := ⟨_, rfl⟩
          have h1 : C.all (·.oneCell') = true := by rw [hC]; exact bytes_one _
          rw [← hC] at HR hs
          have HC := hide hC; have HSZ := hide hs; have H1 := hide h1; clear hC hs h1 R6 R2
          go_upto_region 12 with (fail)
          apply wp_region_lit
          refine wpList_load_row rfl 64 (.tmp 6) rfl G6 rfl 64 _ (0, 0) _ HR.out Tryd.underlying64 rfl (by rw [HSZ.out]; kernel_rfl) ?_
          refine wpList_store_row rfl 64 (.tmp 2) (.tmp 41) rfl w.heap.size _ rfl rfl 64 _ R2x.out (by rw [HSZ.out]; kernel_rfl) (by rw [HSZ.out]; rfl) H1.out ?_
          have HF := hide (row_set (cs := C) R2x.out)
          have HG2 := hide (below_setRow (g := w.heap.size) HW.out (Nat.le_refl _) C)
          generalize wr.setRow w.heap.size C = X at HF HG2 ⊢
          go_wp2
          exact bodyPost_ret (v := .agg C) (results_cell_row rfl _ _ w.heap.size 64 C (0, 0) _ rfl HF.out Tryd.underlying64 rfl (by rw [HSZ.out]; kernel_rfl)) rfl ⟨by rw [HC.out], HG2.out⟩
end Go.Proofs.YtokdliapkolngaaDoor
