/-
  The walk of the document's digest: take.
-/
import Derived.Test.YtokdliapkolngaaDoorShaB
import Derived.Test.YtokdliapkolngaaDoorExt
namespace Go.Proofs.YtokdliapkolngaaDoor
open Go.RowKit Go.Great

/-- eight words as cells -/
def v8 (v : Sha.V8) : List Value := [uv v.a, uv v.b, uv v.c, uv v.d, uv v.e, uv v.f, uv v.g, uv v.h]
theorem v8_one (v : Sha.V8) : (v8 v).toArray.all (·.oneCell') = true := by simp [v8, uv, Value.oneCell']
theorem v8_words (v : Sha.V8) : v.words.map uv = v8 v := rfl

/-- eight words, i of them from the first -/
def mix (s v : Sha.V8) (i : Nat) : List Value := (s.words.take i ++ v.words.drop i).map uv
theorem mix_at (s v : Sha.V8) (i : Nat) (hi : i < 8) : (mix s v i)[i]? = some (.int .u32 ((v.words.getD i 0).toNat : Int)) := by
  match i, hi with
  | 0, _ | 1, _ | 2, _ | 3, _ | 4, _ | 5, _ | 6, _ | 7, _ => rfl
  | i + 8, hi => exact absurd hi (by omega)
theorem mix_set (s v : Sha.V8) (i : Nat) (hi : i < 8) : (mix s v i).set i (.int .u32 ((s.words.getD i 0).toNat : Int)) = mix s v (i + 1) := by
  match i, hi with
  | 0, _ | 1, _ | 2, _ | 3, _ | 4, _ | 5, _ | 6, _ | 7, _ => rfl
  | i + 8, hi => exact absurd hi (by omega)
theorem v8_at (v : Sha.V8) (i : Nat) (hi : i < 8) : (v8 v)[i]? = some (.int .u32 ((v.words.getD i 0).toNat : Int)) := by
  match i, hi with
  | 0, _ | 1, _ | 2, _ | 3, _ | 4, _ | 5, _ | 6, _ | 7, _ => rfl
  | i + 8, hi => exact absurd hi (by omega)
theorem add_at (v r : Sha.V8) (i : Nat) (hi : i < 8) : (((v.words.getD i 0).toNat : Int) + ((r.words.getD i 0).toNat : Int)) % 4294967296 = (((v.add r).words.getD i 0).toNat : Int) := by
  rw [add_w]
  match i, hi with
  | 0, _ | 1, _ | 2, _ | 3, _ | 4, _ | 5, _ | 6, _ | 7, _ => rfl
  | i + 8, hi => exact absurd hi (by omega)
theorem one_walk (v : Sha.V8) (k x : UInt32) :
    (((v.h.toNat : Int) + bits .xor .u32 (bits .xor .u32 ((Sha.rotr v.e 6).toNat : Int) ((Sha.rotr v.e 11).toNat : Int)) ((Sha.rotr v.e 25).toNat : Int) + bits .xor .u32 (bits .and .u32 (v.e.toNat : Int) (v.f.toNat : Int)) (bits .and .u32 ((4294967295 - (v.e.toNat : Int)) % 4294967296) (v.g.toNat : Int)) + (k.toNat : Int)) % 4294967296 + (x.toNat : Int)) % 4294967296 = ((Sha.one v k x).toNat : Int) := by
  have e : (4294967295 - (v.e.toNat : Int)) % 4294967296 = ((~~~v.e).toNat : Int) := by
    rw [← not_w]; have := v.e.toNat_lt; omega
  rw [e, xor_w, xor_w, and_w, and_w, xor_w]
  unfold Sha.one
  rw [UInt32.toNat_add, UInt32.toNat_add, UInt32.toNat_add, UInt32.toNat_add]
  omega
theorem two_walk (v : Sha.V8) :
    (bits .xor .u32 (bits .xor .u32 ((Sha.rotr v.a 2).toNat : Int) ((Sha.rotr v.a 13).toNat : Int)) ((Sha.rotr v.a 22).toNat : Int) + bits .xor .u32 (bits .xor .u32 (bits .and .u32 (v.a.toNat : Int) (v.b.toNat : Int)) (bits .and .u32 (v.a.toNat : Int) (v.c.toNat : Int))) (bits .and .u32 (v.b.toNat : Int) (v.c.toNat : Int))) % 4294967296 = ((Sha.two v).toNat : Int) := by
  rw [xor_w, xor_w, and_w, and_w, and_w, xor_w, xor_w, add_w]
  rfl

set_option maxHeartbeats 2000000 in
set_option maxRecDepth 100000 in
theorem rtake_any (v : Sha.V8) (A : Option Addr) (n c : Nat) (bs : List UInt8) (w : World) (hb : SlB w w.heap.size A n bs) (hn : n = 64) :
    Calls Tryd.prog 46 #[.agg #[.int .u32 (v.a.toNat : Int), .int .u32 (v.b.toNat : Int), .int .u32 (v.c.toNat : Int), .int .u32 (v.d.toNat : Int), .int .u32 (v.e.toNat : Int), .int .u32 (v.f.toNat : Int), .int .u32 (v.g.toNat : Int), .int .u32 (v.h.toNat : Int)], .slice A n c] w fun e w' => e = .returned (.agg (v8 (Sha.block v bs)).toArray) ∧ Below w.heap.size w w' := by
  have HB := hide hb
  have HN := hide hn
  clear hb hn
  go_enter Tryd.func46, Tryd.ntmps46
  go_wp2_with fail
  have B0 : Hid (Below w.heap.size w ((w.alloc (.cells #[.int .u32 (v.a.toNat : Int), .int .u32 (v.b.toNat : Int), .int .u32 (v.c.toNat : Int), .int .u32 (v.d.toNat : Int), .int .u32 (v.e.toNat : Int), .int .u32 (v.f.toNat : Int), .int .u32 (v.g.toNat : Int), .int .u32 (v.h.toNat : Int)] 75)).alloc (.cells #[.int .u32 0, .int .u32 0, .int .u32 0, .int .u32 0, .int .u32 0, .int .u32 0, .int .u32 0, .int .u32 0] 75))) :=
    hide (((Below.refl _ _).alloc (Nat.le_refl _) _).alloc (by simp) _)
  refine (words_any A n c bs _ (HB.out.up B0.out) HN.out).mono ?_
  rintro e w1 ⟨rfl, hb⟩
  have R0 : Hid (RowV w1 w.heap.size 75 (v8 v)) := hide ((hb.block w.heap.size (by simp; omega)).trans (heap_alloc2_old w _ _))
  have R1 : Hid (RowV w1 (w.heap.size + 1) 75 (List.replicate 8 (.int .u32 0))) := hide ((hb.block (w.heap.size + 1) (by simp)).trans (heap_alloc2_new w _ _))
  have B1 := hide (B0.out.trans (hb.mono B0.out.size))
  have hz := hb.size
  rw [World.size_alloc, World.size_alloc] at hz
  clear hb B0
  obtain ⟨C, hC⟩ : ∃ C, C = ((Sha.W bs).map uv).toArray := ⟨_, rfl⟩
  have hs : C.size = 64 := by rw [hC]; simp [Sha.W, Sha.sched_length, Sha.words16_length]
  have h1 : C.all (·.oneCell') = true := by rw [hC]; exact row_one _
  rw [← hC]
  have HC := hide hC; have HS := hide hs; have H1 := hide h1; clear hC hs h1
  go_upto_region 2 with ((with_reducible refine wpList_store_row rfl 84 (.tmp 5) (.tmp 14) rfl w1.heap.size C rfl rfl 84 _ (heap_alloc_new w1 _) ?g1 ?g2 H1.out ?_))
  case g1 => rw [HS.out]; kernel_rfl
  case g2 => rw [HS.out]; rfl
  refine wp_world (fun X => RowV X w.heap.size 75 (v8 v) ∧ RowV X (w.heap.size + 1) 75 (List.replicate 8 (.int .u32 0)) ∧ X.heap[w1.heap.size]? = some (.cells C 84 (0, 0)) ∧ Below w.heap.size w X ∧ X.heap.size = w1.heap.size + 1)
    ⟨(R0.out.alloc _).setRow (by omega), (R1.out.alloc _).setRow (by omega), row_set (heap_alloc_new w1 _), below_setRow (B1.out.alloc B1.out.size _) B1.out.size _, by simp⟩ ?_
  rintro X ⟨x0, x1, x5, xb, xz⟩
  have X0 := hide x0; have X1 := hide x1; have X5 := hide x5; have XB := hide xb; have XZ := hide xz
  have e0 := x0.cell (k := 0) rfl; have e1 := x0.cell (k := 1) rfl; have e2 := x0.cell (k := 2) rfl; have e3 := x0.cell (k := 3) rfl
  have e4 := x0.cell (k := 4) rfl; have e5 := x0.cell (k := 5) rfl; have e6 := x0.cell (k := 6) rfl; have e7 := x0.cell (k := 7) rfl
  clear x0 x1 x5 xb xz R0 R1 B1
  unfold uv at e0 e1 e2 e3 e4 e5 e6 e7
  have hz5 : Hid (w.heap.size + 1 < w1.heap.size) := hide (by omega)
  obtain ⟨G5, hG5⟩ : ∃ G5, G5 = w1.heap.size := ⟨_, rfl⟩
  rw [← hG5] at X5 XZ hz5 ⊢
  clear hG5 hz
  go_wp2_with fail
  obtain ⟨G6, hG6⟩ : ∃ G6, G6 = X.heap.size := ⟨_, rfl⟩
  have hz6 : Hid (G6 = G5 + 1) := hide (by rw [hG6]; exact XZ.out)
  have Y6 : ∀ o, Hid ((X.alloc o).heap[G6]? = some o) := fun o => hide (by rw [hG6]; exact heap_alloc_new X o)
  have HY6 := hide Y6; clear Y6
  have HG6 := hide hG6
  rw [← hG6]; clear hG6
  go_loopw [7] (fun v7 wr => ∃ t : Nat, t ≤ 64 ∧ v7 = .int .i64 t ∧ Hid (RowV wr G6 75 (v8 (Sha.rounds v (Sha.W bs) t))) ∧ Hid (RowV wr w.heap.size 75 (v8 v)) ∧ Hid (RowV wr (w.heap.size + 1) 75 (List.replicate 8 (.int .u32 0))) ∧ Hid (wr.heap[G5]? = some (.cells C 84 (0, 0))) ∧ Hid (Below w.heap.size w wr)) (fun v _ => 64 - (intOf v).toNat)
  case atStart =>
    exact ⟨0, by omega, rfl, (HY6.out _), hide (X0.out.alloc _), hide (X1.out.alloc _), hide ((heap_alloc_old X _ (heap_lt' X5.out)).trans X5.out), hide (XB.out.alloc XB.out.size _)⟩
  case round =>
    clear X0 X1 X5 XB e0 e1 e2 e3 e4 e5 e6 e7 HY6
    obtain ⟨t, ht, rfl, R6, R0, R1, R5, HW⟩ := hrel
    by_cases hlt : t < 64
    · have HSTEP : Hid (Sha.rounds v (Sha.W bs) (t + 1) = Sha.step (Sha.rounds v (Sha.W bs) t) (Sha.K.getD t 0) ((Sha.W bs).getD t 0)) := hide rfl
      generalize Sha.rounds v (Sha.W bs) t = V at R6 HSTEP
      obtain ⟨va, vb, vc, vd, ve, vf, vg, vh⟩ := V
      obtain ⟨x, hx⟩ : ∃ x, x = (Sha.W bs).getD t 0 := ⟨_, rfl⟩
      obtain ⟨k, hk⟩ : ∃ k, k = Sha.K.getD t 0 := ⟨_, rfl⟩
      have c5 : C[t]? = some (.int .u32 (x.toNat : Int)) := by
        have hl : t < (Sha.W bs).length := by simp [Sha.W, Sha.sched_length, Sha.words16_length]; omega
        rw [HC.out, hx, List.getElem?_toArray, List.getElem?_map, List.getD_eq_getElem?_getD, List.getElem?_eq_getElem hl]; rfl
      have HK : Hid (∀ w, Calls Tryd.prog 55 #[.int .i64 (t : Int)] w fun e w' => e = .returned (.int .u32 (k.toNat : Int)) ∧ Below w.heap.size w w') := hide (fun w => by rw [hk]; exact k_any t hlt w)
      rw [← hk, ← hx] at HSTEP
      have T6 := hide (turn_k ve 6 6 rfl (by omega)); have T11 := hide (turn_k ve 11 11 rfl (by omega)); have T25 := hide (turn_k ve 25 25 rfl (by omega))
      have T2 := hide (turn_k va 2 2 rfl (by omega)); have T13 := hide (turn_k va 13 13 rfl (by omega)); have T22 := hide (turn_k va 22 22 rfl (by omega))
      have d0 : wr.cell? ⟨G6, 0, none⟩ = some (.int .u32 (va.toNat : Int)) := R6.out.cell (k := 0) rfl
      have d4 : wr.cell? ⟨G6, 4, none⟩ = some (.int .u32 (ve.toNat : Int)) := R6.out.cell (k := 4) rfl
      have q7 : ∀ p : Ext wr, (extW wr p).cell? ⟨G6, 7, none⟩ = some (.int .u32 (vh.toNat : Int)) := fun p => (R6.out.below' (extW_below wr p)).cell (k := 7) rfl
      have q5 : ∀ p : Ext wr, (extW wr p).cell? ⟨G6, 5, none⟩ = some (.int .u32 (vf.toNat : Int)) := fun p => (R6.out.below' (extW_below wr p)).cell (k := 5) rfl
      have q6 : ∀ p : Ext wr, (extW wr p).cell? ⟨G6, 6, none⟩ = some (.int .u32 (vg.toNat : Int)) := fun p => (R6.out.below' (extW_below wr p)).cell (k := 6) rfl
      have qt : ∀ p : Ext wr, (extW wr p).cell? ⟨G5, t, none⟩ = some (.int .u32 (x.toNat : Int)) := fun p => (cell_of_row _ G5 t _ _ _ (((extW_below wr p).block G5 (heap_lt' R5.out)).trans R5.out)).trans c5
      have b1 : (0 : Int) ≤ (t : Int) := by omega
      have b2 : (t : Int) < 64 := by omega
      clear hx hk c5
      go_wp2_with fail
      refine wp_region_ext (by kernel_rfl) (by kernel_rfl) ?_
      repeat (go_big_quiet_step (with_reducible first
        | exact ext_call_same _ (T6.out _)
        | exact ext_call_same _ (T11.out _)
        | exact ext_call_same _ (T25.out _)
        | exact ext_call _ (HK.out _)))
      refine wpQuiet_nil ?_
      intro _ hw'
      obtain ⟨p, hw''⟩ := hw'
      subst hw''
      replace R6 := hide (R6.out.below' (extW_below wr p))
      replace R0 := hide (R0.out.below' (extW_below wr p))
      replace R1 := hide (R1.out.below' (extW_below wr p))
      replace R5 := hide (((extW_below wr p).block G5 (heap_lt' R5.out)).trans R5.out)
      replace HW := hide (HW.out.trans ((extW_below wr p).mono HW.out.size))
      generalize extW wr p = Y at R6 R0 R1 R5 HW ⊢
      clear q7 q5 q6 qt d0 d4
      have ho := one_walk ⟨va, vb, vc, vd, ve, vf, vg, vh⟩ k x
      have ht := two_walk ⟨va, vb, vc, vd, ve, vf, vg, vh⟩
      have HO := hide ho; have HT := hide ht; clear ho ht
      rw [HO.out]
      unfold Sha.step at HSTEP
      obtain ⟨o1, ho1⟩ : ∃ o1, o1 = Sha.one ⟨va, vb, vc, vd, ve, vf, vg, vh⟩ k x := ⟨_, rfl⟩
      obtain ⟨o2, ho2⟩ : ∃ o2, o2 = Sha.two ⟨va, vb, vc, vd, ve, vf, vg, vh⟩ := ⟨_, rfl⟩
      rw [← ho1, ← ho2] at HSTEP
      rw [← ho1]
      rw [← ho2] at HT
      clear ho1 ho2 HO
      have q1 : ∀ p : Ext Y, (extW Y p).cell? ⟨G6, 1, none⟩ = some (.int .u32 (vb.toNat : Int)) := fun p => (R6.out.below' (extW_below Y p)).cell (k := 1) rfl
      have q2 : ∀ p : Ext Y, (extW Y p).cell? ⟨G6, 2, none⟩ = some (.int .u32 (vc.toNat : Int)) := fun p => (R6.out.below' (extW_below Y p)).cell (k := 2) rfl
      go_wp2_with fail
      refine wp_region_ext (by kernel_rfl) (by kernel_rfl) ?_
      repeat (go_big_quiet_step (with_reducible first
        | exact ext_call_same _ (T2.out _)
        | exact ext_call_same _ (T13.out _)
        | exact ext_call_same _ (T22.out _)))
      refine wpQuiet_nil ?_
      intro _ hw'
      obtain ⟨p2, hw''⟩ := hw'
      subst hw''
      rw [HT.out]
      replace R6 := hide (R6.out.below' (extW_below Y p2))
      replace R0 := hide (R0.out.below' (extW_below Y p2))
      replace R1 := hide (R1.out.below' (extW_below Y p2))
      replace R5 := hide (((extW_below Y p2).block G5 (heap_lt' R5.out)).trans R5.out)
      replace HW := hide (HW.out.trans ((extW_below Y p2).mono HW.out.size))
      generalize extW Y p2 = Z at R6 R0 R1 R5 HW ⊢
      clear q1 q2 HT
      have z0 := R6.out.cell (k := 0) rfl; have z1 := R6.out.cell (k := 1) rfl; have z2 := R6.out.cell (k := 2) rfl; have z3 := R6.out.cell (k := 3) rfl
      have z4 := R6.out.cell (k := 4) rfl; have z5 := R6.out.cell (k := 5) rfl; have z6 := R6.out.cell (k := 6) rfl; have z7 := R6.out.cell (k := 7) rfl
      have f0 := R6.out.free 0; have f1 := R6.out.free 1; have f2 := R6.out.free 2; have f3 := R6.out.free 3
      have f4 := R6.out.free 4; have f5 := R6.out.free 5; have f6 := R6.out.free 6; have f7 := R6.out.free 7
      unfold uv at z0 z1 z2 z3 z4 z5 z6 z7
      have HV4 := hide (add_w vd o1)
      have HV0 := hide (add_w o1 o2)
      go_wp2_with fail
      go_roundw
      case rel =>
        refine ⟨t + 1, by omega, by go_num, ?_⟩
        rw [HV4.out, HV0.out, HSTEP.out]
        have n0 : w.heap.size ≠ G6 := by have := hz5.out; have := hz6.out; omega
        have n1 : w.heap.size + 1 ≠ G6 := by have := hz5.out; have := hz6.out; omega
        have n5 : G5 ≠ G6 := by have := hz6.out; omega
        have nle : w.heap.size ≤ G6 := by have := hz5.out; have := hz6.out; omega
        refine ⟨hide ((((((((R6.out.set 7 _).set 6 _).set 5 _).set 4 _).set 3 _).set 2 _).set 1 _).set 0 _), hide ((((((((R0.out.set_other n0).set_other n0).set_other n0).set_other n0).set_other n0).set_other n0).set_other n0).set_other n0),
          hide ((((((((R1.out.set_other n1).set_other n1).set_other n1).set_other n1).set_other n1).set_other n1).set_other n1).set_other n1), hide ?_,
          hide ((((((((HW.out.setCell (p := ⟨G6, _, none⟩) nle _).setCell (p := ⟨G6, _, none⟩) nle _).setCell (p := ⟨G6, _, none⟩) nle _).setCell (p := ⟨G6, _, none⟩) nle _).setCell (p := ⟨G6, _, none⟩) nle _).setCell (p := ⟨G6, _, none⟩) nle _).setCell (p := ⟨G6, _, none⟩) nle _).setCell (p := ⟨G6, _, none⟩) nle _)⟩
        rw [heap_setCell_other _ ⟨G6, _, none⟩ G5 _ n5, heap_setCell_other _ ⟨G6, _, none⟩ G5 _ n5, heap_setCell_other _ ⟨G6, _, none⟩ G5 _ n5, heap_setCell_other _ ⟨G6, _, none⟩ G5 _ n5, heap_setCell_other _ ⟨G6, _, none⟩ G5 _ n5, heap_setCell_other _ ⟨G6, _, none⟩ G5 _ n5, heap_setCell_other _ ⟨G6, _, none⟩ G5 _ n5, heap_setCell_other _ ⟨G6, _, none⟩ G5 _ n5]
        exact R5.out
      case measure => simp [intOf]; omega
    · have HBL : Hid (Sha.block v bs = v.add (Sha.rounds v (Sha.W bs) t)) := hide (by rw [show t = 64 by omega]; rfl)
      generalize Sha.rounds v (Sha.W bs) t = r at R6 HBL
      have n06 : Hid (w.heap.size ≠ G6) := hide (by have := hz5.out; have := hz6.out; omega)
      have R0m : Hid (RowV wr w.heap.size 75 (mix (v.add r) v 0)) := hide R0.out
      obtain ⟨w2, hw2⟩ : ∃ w2, w2 = wr := ⟨_, rfl⟩
      subst hw2
      go_wp2_with fail
      go_loopw [12] (fun v12 wq => ∃ i : Nat, i ≤ 8 ∧ v12 = .int .i64 i ∧ Hid (RowV wq G6 75 (v8 r)) ∧ Hid (RowV wq w.heap.size 75 (mix (v.add r) v i)) ∧ Hid (RowV wq (w.heap.size + 1) 75 (List.replicate 8 (.int .u32 0))) ∧ Hid (Below w.heap.size w wq)) (fun v _ => 8 - (intOf v).toNat)
      case atStart => exact ⟨0, by omega, rfl, R6, R0m, R1, HW⟩
      case round =>
        clear R6 R0 R0m R1 R5 HW
        obtain ⟨i, hi, rfl, R6, R0, R1, HW⟩ := hrel
        by_cases hlt2 : i < 8
        · have c0 := R0.out.cell (mix_at (v.add r) v i hlt2)
          have c6 := R6.out.cell (v8_at r i hlt2)
          have hf := R0.out.free i
          have HV := hide (add_at v r i hlt2)
          have R02 := hide (R0.out.set i (.int .u32 (((v.add r).words.getD i 0).toNat : Int)))
          rw [mix_set _ _ _ hlt2] at R02
          have R62 := hide (R6.out.set_other (b := w.heap.size) (k := i) (v := .int .u32 (((v.add r).words.getD i 0).toNat : Int)) (Ne.symm n06.out))
          have R12 := hide (R1.out.set_other (b := w.heap.size) (k := i) (v := .int .u32 (((v.add r).words.getD i 0).toNat : Int)) (by omega))
          have HW2 := hide (HW.out.setCell (p := ⟨w.heap.size, i, none⟩) (Nat.le_refl _) (.int .u32 (((v.add r).words.getD i 0).toNat : Int)))
          generalize v.words.getD i 0 = y0 at c0 HV
          generalize r.words.getD i 0 = y1 at c6 HV
          have b1 : (0 : Int) ≤ (i : Int) := by omega
          have b2 : (i : Int) < 8 := by omega
          go_wp2_with fail
          go_region
          go_wp2_with fail
          go_roundw
          case rel =>
            refine ⟨i + 1, by omega, by go_num, ?_⟩
            rw [HV.out]
            exact ⟨R62, R02, R12, hide HW2.out.drew⟩
          case measure => simp [intOf]; omega
        · have HR : Hid (RowV wr w.heap.size 75 (v8 (Sha.block v bs))) := hide (by
            have := R0.out
            rw [show i = 8 by omega] at this
            rw [HBL.out]
            exact this)
          clear R0
          obtain ⟨S, hS⟩ : ∃ S, S = Sha.block v bs := ⟨_, rfl⟩
          rw [← hS] at HR
          have HSS := hide hS; clear hS
          go_upto_region 22 with (fail)
          apply wp_region_lit
          refine wpList_load_row rfl 75 (.tmp 2) rfl w.heap.size rfl 75 _ (0, 0) _ HR.out Tryd.underlying75 rfl (by kernel_rfl) ?_
          refine wpList_store_row rfl 75 (.tmp 4) (.tmp 117) rfl (w.heap.size + 1) _ rfl rfl 75 _ R1.out (by kernel_rfl) rfl (v8_one S) ?_
          have HF := hide (row_set (cs := (v8 S).toArray) R1.out)
          have HG := hide (below_setRow (g := w.heap.size + 1) HW.out (by omega) (v8 S).toArray)
          generalize wr.setRow (w.heap.size + 1) (v8 S).toArray = X at HF HG ⊢
          go_wp2
          exact bodyPost_ret (v := .agg (v8 S).toArray) (results_cell_row rfl _ _ (w.heap.size + 1) 75 _ (0, 0) _ rfl HF.out Tryd.underlying75 rfl (by kernel_rfl)) rfl ⟨by rw [HSS.out], HG.out⟩
end Go.Proofs.YtokdliapkolngaaDoor
