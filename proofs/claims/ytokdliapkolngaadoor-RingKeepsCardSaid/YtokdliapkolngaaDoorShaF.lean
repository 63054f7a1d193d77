/-
  The walk of the program's digest: take.
-/
import Derived.Test.YtokdliapkolngaaDoorShaC
import Derived.Test.YtokdliapkolngaaDoorOwn
import Derived.StillTailTactics
import Derived.IntWalk
import Derived.Deep.QuietTactic
import Derived.BigQuiet
namespace Go.Proofs.YtokdliapkolngaaDoor
open Go.RowKit Go.Great

theorem rotl_turned (x : UInt32) (k : Int) (n : Nat) {w : World} (h : Calls Tryd.prog 72 #[.int .u32 (x.toNat : Int), .int .i64 k] w fun e w' => e = .returned (.int .u32 ((Sha.rotr x n).toNat : Int)) ∧ w = w') :
    Calls Tryd.prog 72 #[.int .u32 (x.toNat : Int), .int .i64 k] w fun e w' => e = .returned (.int .u32 ((Sha.rotr x n).toNat : Int)) ∧ w' = w := h.mono fun _ _ ⟨a, b⟩ => ⟨a, b.symm⟩
theorem word_ref (a b c d : UInt8) :
    bits .or .u32 (bits .or .u32 (bits .or .u32 ((a.toNat : Int) * 16777216) ((b.toNat : Int) * 65536)) ((c.toNat : Int) * 256)) (d.toNat : Int) = ((Sha.word a b c d).toNat : Int) := by
  have ha := a.toNat_lt; have hb := b.toNat_lt; have hc := c.toNat_lt; have hd := d.toNat_lt
  have e1 : (a.toNat : Int) * 16777216 = ((a.toNat * 2 ^ 24 : Nat) : Int) := by omega
  have e2 : (b.toNat : Int) * 65536 = ((b.toNat * 65536 : Nat) : Int) := by omega
  have e3 : (c.toNat : Int) * 256 = ((c.toNat * 256 : Nat) : Int) := by omega
  have o1 : a.toNat * 2 ^ 24 ||| b.toNat * 65536 = a.toNat * 2 ^ 24 + b.toNat * 65536 := or_part (by omega)
  have o2 : (a.toNat * 2 ^ 24 + b.toNat * 65536) ||| c.toNat * 256 = a.toNat * 2 ^ 24 + b.toNat * 65536 + c.toNat * 256 := by
    have := or_part (a := a.toNat * 256 + b.toNat) (k := 16) (b := c.toNat * 256) (by omega)
    rw [show (a.toNat * 256 + b.toNat) * 2 ^ 16 = a.toNat * 2 ^ 24 + b.toNat * 65536 by omega] at this
    exact this
  have o3 : (a.toNat * 2 ^ 24 + b.toNat * 65536 + c.toNat * 256) ||| d.toNat = a.toNat * 2 ^ 24 + b.toNat * 65536 + c.toNat * 256 + d.toNat := by
    have := or_part (a := a.toNat * 65536 + b.toNat * 256 + c.toNat) (k := 8) (b := d.toNat) (by omega)
    rw [show (a.toNat * 65536 + b.toNat * 256 + c.toNat) * 2 ^ 8 = a.toNat * 2 ^ 24 + b.toNat * 65536 + c.toNat * 256 by omega] at this
    exact this
  rw [e1, e2, e3, u32_or_nat _ _ (by omega) (by omega), o1, u32_or_nat _ _ (by omega) (by omega), o2, u32_or_nat _ _ (by omega) (by omega), o3, Sha.word_toNat]
  omega

theorem max_xor (e : UInt32) : (4294967295 : UInt32) ^^^ e = ~~~e := UInt32.toBitVec_inj.1 (by rw [UInt32.toBitVec_xor, UInt32.toBitVec_not]; exact BitVec.allOnes_xor)
theorem pone_walk (v : Sha.V8) (k x : UInt32) :
    (((v.h.toNat : Int) + bits .xor .u32 (bits .xor .u32 ((Sha.rotr v.e 6).toNat : Int) ((Sha.rotr v.e 11).toNat : Int)) ((Sha.rotr v.e 25).toNat : Int) + bits .xor .u32 (bits .and .u32 (v.e.toNat : Int) (v.f.toNat : Int)) (bits .and .u32 (bits .xor .u32 4294967295 (v.e.toNat : Int)) (v.g.toNat : Int)) + (k.toNat : Int)) % 4294967296 + (x.toNat : Int)) % 4294967296 = ((Sha.one v k x).toNat : Int) := by
  rw [show (4294967295 : Int) = (((4294967295 : UInt32).toNat : Nat) : Int) from rfl, xor_w (4294967295 : UInt32), max_xor, xor_w, xor_w, and_w, and_w, xor_w]
  unfold Sha.one
  rw [UInt32.toNat_add, UInt32.toNat_add, UInt32.toNat_add, UInt32.toNat_add]
  omega
theorem mix_length (s v : Sha.V8) (i : Nat) (hi : i ≤ 8) : (mix s v i).length = 8 := by simp [mix, Sha.V8.words]; omega
theorem gmix_at (s v : Sha.V8) (rest : List Value) (i : Nat) (hi : i < 8) : (mix s v i ++ rest)[i]? = some (.int .u32 ((v.words.getD i 0).toNat : Int)) := by
  rw [List.getElem?_append_left (by rw [mix_length _ _ _ (by omega)]; exact hi)]; exact mix_at s v i hi
theorem gmix_set (s v : Sha.V8) (rest : List Value) (i : Nat) (hi : i < 8) : (mix s v i ++ rest).set i (.int .u32 ((s.words.getD i 0).toNat : Int)) = mix s v (i + 1) ++ rest := by
  rw [List.set_append_left _ _ (by rw [mix_length _ _ _ (by omega)]; exact hi), mix_set s v i hi]
theorem grown_set {w a : World} {G j : Nat} (h : w.grownBy a (some G)) (v : Value) : w.grownBy (a.setCell ⟨G, j, none⟩ v) (some G) :=
  ⟨h.os, h.tape, h.output, Nat.le_trans h.size (by simp), fun k hk hne => (heap_setCell_other a ⟨G, j, none⟩ k v (fun e => hne (by rw [e]))).trans (h.block k hk hne)⟩
theorem grown_drew {w a : World} {r : Option Nat} (h : w.grownBy a r) : w.grownBy a.drew r := ⟨h.os, h.tape, h.output, h.size, h.block⟩
theorem grown_of_below {w a : World} (h : Below w.heap.size w a) (r : Option Nat) : w.grownBy a r := ⟨h.os, h.tape, h.output, h.size, fun k hk _ => h.block k hk⟩
theorem word_walk (a b c d : UInt8) :
    bits .or .u32 (bits .or .u32 (bits .or .u32 (IntKind.u32.wrap (IntKind.u32.wrap (a.toNat : Int) * 16777216)) (IntKind.u32.wrap (IntKind.u32.wrap (b.toNat : Int) * 65536))) (IntKind.u32.wrap (IntKind.u32.wrap (c.toNat : Int) * 256))) (IntKind.u32.wrap (d.toNat : Int)) = ((Sha.word a b c d).toNat : Int) := by
  have ha := a.toNat_lt; have hb := b.toNat_lt; have hc := c.toNat_lt; have hd := d.toNat_lt
  rw [← word_ref]
  simp only [IntKind.wrap_u32]
  rw [Int.emod_eq_of_lt (a := (a.toNat : Int)) (by omega) (by omega), Int.emod_eq_of_lt (a := (b.toNat : Int)) (by omega) (by omega), Int.emod_eq_of_lt (a := (c.toNat : Int)) (by omega) (by omega), Int.emod_eq_of_lt (a := (d.toNat : Int)) (by omega) (by omega),
    Int.emod_eq_of_lt (a := (a.toNat : Int) * 16777216) (by omega) (by omega), Int.emod_eq_of_lt (a := (b.toNat : Int) * 65536) (by omega) (by omega), Int.emod_eq_of_lt (a := (c.toNat : Int) * 256) (by omega) (by omega)]
theorem next_walk (l : List UInt32) (x y b d : UInt32) (hx : x = l.getD (l.length - 2) 0) (hb : b = l.getD (l.length - 7) 0) (hy : y = l.getD (l.length - 15) 0) (hd : d = l.getD (l.length - 16) 0) :
    ((d.toNat : Int) + (b.toNat : Int) + bits .xor .u32 (bits .xor .u32 ((Sha.rotr y 7).toNat : Int) ((Sha.rotr y 18).toNat : Int)) ((y.toNat : Int) / 8) + bits .xor .u32 (bits .xor .u32 ((Sha.rotr x 17).toNat : Int) ((Sha.rotr x 19).toNat : Int)) ((x.toNat : Int) / 1024)) % 4294967296 = ((Sha.next l).toNat : Int) := by
  have e1 : (y.toNat : Int) / 8 = ((Sha.shr y 3).toNat : Int) := by rw [Sha.shr_toNat]; omega
  have e2 : (x.toNat : Int) / 1024 = ((Sha.shr x 10).toNat : Int) := by rw [Sha.shr_toNat]; omega
  rw [e1, e2, xor_w, xor_w, xor_w, xor_w]
  unfold Sha.next
  rw [← hx, ← hb, ← hy, ← hd, UInt32.toNat_add, UInt32.toNat_add, UInt32.toNat_add]
  unfold Sha.sg0 Sha.sg1
  omega

set_option maxHeartbeats 2000000 in
set_option maxRecDepth 100000 in
theorem ptake_any (G T gk : Nat) (V : Sha.V8) (rest : List Value) (A : Option Addr) (c : Nat) (bs : List UInt8) (w : World) (hS : RowV w G T (v8 V ++ rest)) (hb : SlB w w.heap.size A 64 bs) (hk : w.heap[gk]? = some (.cells kCells 84 (0, 0))) :
    Calls Tryd.prog 65 #[.pointer (some ⟨G, 0, none⟩), .slice A 64 c, .pointer (some ⟨gk, 0, none⟩)] w fun e w' => e = .returned (.tuple #[]) ∧ RowV w' G T (v8 (Sha.block V bs) ++ rest) ∧ w.grownBy w' (some G) := by
  have HB := hide hb; have HS := hide hS; have HK := hide hk
  clear hb hS hk
  go_enter Tryd.func65, Tryd.ntmps65
  go_wp2_with fail
  go_loopw [18] (fun v18 wr => ∃ t : Nat, t ≤ 16 ∧ v18 = .int .i64 t ∧ Hid (RowV wr w.heap.size 84 (srow (Sha.words16 bs t) t)) ∧ Hid (Below w.heap.size w wr)) (fun v _ => 16 - (intOf v).toNat)
  case atStart =>
    refine ⟨0, by omega, rfl, hide ?_, hide ((Below.refl _ _).alloc (Nat.le_refl _) _)⟩
    exact (heap_alloc_new w _).trans (by kernel_rfl)
  case round =>
    obtain ⟨t, ht, rfl, HR, HW⟩ := hrel
    by_cases hlt : t < 16
    · obtain ⟨b, off, x0, rfl, hbb, c0, HX0⟩ := (HB.out.below HW.out (Nat.le_refl _)).byte (k := 4 * t) (by omega)
      obtain ⟨b', off', x1, e1, _, c1, HX1⟩ := (HB.out.below HW.out (Nat.le_refl _)).byte (k := 4 * t + 1) (by omega)
      injection e1 with e1; injection e1 with e1 e2 _; subst e1 e2
      obtain ⟨b', off', x2, e1, _, c2, HX2⟩ := (HB.out.below HW.out (Nat.le_refl _)).byte (k := 4 * t + 2) (by omega)
      injection e1 with e1; injection e1 with e1 e2 _; subst e1 e2
      obtain ⟨b', off', x3, e1, _, c3, HX3⟩ := (HB.out.below HW.out (Nat.le_refl _)).byte (k := 4 * t + 3) (by omega)
      injection e1 with e1; injection e1 with e1 e2 _; subst e1 e2
      have HWD : Hid (Sha.word4 bs t = Sha.word x0 x1 x2 x3) := hide (by
        unfold Sha.word4
        rw [List.getD_eq_getElem?_getD, HX0.out, List.getD_eq_getElem?_getD, HX1.out, List.getD_eq_getElem?_getD, HX2.out, List.getD_eq_getElem?_getD, HX3.out]
        rfl)
      have hv := word_ref x0 x1 x2 x3
      rw [← HWD.out] at hv
      have HV := hide hv; clear hv
      have ct := HR.out.cell (srow_at_end (Sha.words16_length bs t) (by omega))
      have hf := HR.out.free t
      have HR2 := hide (HR.out.set t (.int .u32 ((Sha.word4 bs t).toNat : Int)))
      rw [srow_set (Sha.words16_length bs t) (by omega), ← Sha.words16_succ] at HR2
      have HW2 := hide (HW.out.setCell (p := ⟨w.heap.size, t, none⟩) (Nat.le_refl _) (.int .u32 ((Sha.word4 bs t).toNat : Int)))
      have l0 := x0.toNat_lt; have l1 := x1.toNat_lt; have l2 := x2.toNat_lt; have l3 := x3.toNat_lt
      have s0 : IntKind.i64.wrap (4 * (t : Int)) = 4 * (t : Int) := IntWalk.i64_in _ (by omega)
      have s1 : IntKind.i64.wrap (4 * (t : Int) + 1) = 4 * (t : Int) + 1 := IntWalk.i64_in _ (by omega)
      have s2 : IntKind.i64.wrap (4 * (t : Int) + 2) = 4 * (t : Int) + 2 := IntWalk.i64_in _ (by omega)
      have s3 : IntKind.i64.wrap (4 * (t : Int) + 3) = 4 * (t : Int) + 3 := IntWalk.i64_in _ (by omega)
      have i0 : (4 * (t : Int)).toNat = 4 * t := by omega
      have i1 : (4 * (t : Int) + 1).toNat = 4 * t + 1 := by omega
      have i2 : (4 * (t : Int) + 2).toNat = 4 * t + 2 := by omega
      have i3 : (4 * (t : Int) + 3).toNat = 4 * t + 3 := by omega
      have q0 : 0 ≤ 4 * (t : Int) ∧ 4 * (t : Int) < 64 := by omega
      have q1 : 0 ≤ 4 * (t : Int) + 1 ∧ 4 * (t : Int) + 1 < 64 := by omega
      have q2 : 0 ≤ 4 * (t : Int) + 2 ∧ 4 * (t : Int) + 2 < 64 := by omega
      have q3 : 0 ≤ 4 * (t : Int) + 3 ∧ 4 * (t : Int) + 3 < 64 := by omega
      have b1 : (0 : Int) ≤ (t : Int) := by omega
      have b2 : (t : Int) < 64 := by omega
      go_wp2_with fail
      refine wp_region_still_tail 35 (by kernel_rfl) (by kernel_rfl) ?_
      change wpStill _ _ wr.drew _ _ _
      simp only [List.take_succ_cons, List.take_zero, List.drop_succ_cons, List.drop_zero]
      repeat still_step
      refine wpStill_nil ?_
      change wpList _ _ _ _ _ wr.drew
      go_wp2_with fail
      go_roundw
      case rel =>
        refine ⟨t + 1, by omega, by go_num, ?_⟩
        rw [HV.out]
        exact ⟨HR2, hide HW2.out.drew⟩
      case measure => simp [intOf]; omega
    · have HR2 : Hid (RowV wr w.heap.size 84 (srow (Sha.words16 bs 16) 16)) := hide (by
        have := HR.out
        rw [show t = 16 by omega] at this
        exact this)
      obtain ⟨t0, ht0⟩ : ∃ t0, t0 = t := ⟨_, rfl⟩
      subst ht0
      clear HR
      go_wp2_with fail
      go_loopw [8] (fun v8 wq => ∃ j : Nat, j ≤ 48 ∧ v8 = .int .i64 ((16 + j : Nat) : Int) ∧ Hid (RowV wq w.heap.size 84 (srow (Sha.sched (Sha.words16 bs 16) j) (16 + j))) ∧ Hid (Below w.heap.size w wq)) (fun v _ => 64 - (intOf v).toNat)
      case atStart => exact ⟨0, by omega, rfl, HR2, HW⟩
      case round =>
        clear HR2 HW
        obtain ⟨j, hj, rfl, HR, HW⟩ := hrel
        obtain ⟨t, ht⟩ : ∃ t : Nat, t = 16 + j := ⟨_, rfl⟩
        rw [← ht] at HR ⊢
        by_cases hlt : j < 48
        · have hl : (Sha.sched (Sha.words16 bs 16) j).length = t := by rw [Sha.sched_length, Sha.words16_length]; omega
          obtain ⟨l, hll⟩ : ∃ l, l = Sha.sched (Sha.words16 bs 16) j := ⟨_, rfl⟩
          have HSC : Hid (Sha.sched (Sha.words16 bs 16) (j + 1) = l ++ [Sha.next l]) := hide (by rw [hll]; rfl)
          rw [← hll] at HR hl
          have i2 : t - 2 < l.length := by omega
          have i15 : t - 15 < l.length := by omega
          have i7 : t - 7 < l.length := by omega
          have i16 : t - 16 < l.length := by omega
          have c2 := HR.out.cell (srow_at (t := t) i2)
          have c15 := HR.out.cell (srow_at (t := t) i15)
          have c7 := HR.out.cell (srow_at (t := t) i7)
          have c16 := HR.out.cell (srow_at (t := t) i16)
          have ct := HR.out.cell (srow_at_end hl (by omega))
          have hf := HR.out.free t
          obtain ⟨x, hx⟩ : ∃ x, x = l.getD (t - 2) 0 := ⟨_, rfl⟩
          obtain ⟨y, hy⟩ : ∃ y, y = l.getD (t - 15) 0 := ⟨_, rfl⟩
          obtain ⟨b, hb⟩ : ∃ b, b = l.getD (t - 7) 0 := ⟨_, rfl⟩
          obtain ⟨d, hd⟩ : ∃ d, d = l.getD (t - 16) 0 := ⟨_, rfl⟩
          rw [← hx] at c2; rw [← hy] at c15; rw [← hb] at c7; rw [← hd] at c16
          have hnx := next_walk l x y b d (by rw [hl, ← hx]) (by rw [hl, ← hb]) (by rw [hl, ← hy]) (by rw [hl, ← hd])
          have HNX := hide hnx
          clear hnx
          have HR2 := hide (HR.out.set t (.int .u32 ((Sha.next l).toNat : Int)))
          rw [srow_set hl (by omega), ← HSC.out] at HR2
          have HW2 := hide (HW.out.setCell (p := ⟨w.heap.size, t, none⟩) (Nat.le_refl _) (.int .u32 ((Sha.next l).toNat : Int)))
          have n2 : ((t : Int) - 2).toNat = t - 2 := by omega
          have n15 : ((t : Int) - 15).toNat = t - 15 := by omega
          have n7 : ((t : Int) - 7).toNat = t - 7 := by omega
          have n16 : ((t : Int) - 16).toNat = t - 16 := by omega
          have b1 : (16 : Int) ≤ (t : Int) := by omega
          have b1' : (0 : Int) ≤ (t : Int) := by omega
          have b7 : (7 : Int) ≤ (t : Int) := by omega
          have b15 : (15 : Int) ≤ (t : Int) := by omega
          have b22 : (2 : Int) ≤ (t : Int) := by omega
          have b2 : (t : Int) < 64 := by omega
          have b3 : (0 : Int) ≤ (t : Int) - 2 ∧ (t : Int) - 2 < 64 := by omega
          have b4 : (0 : Int) ≤ (t : Int) - 15 ∧ (t : Int) - 15 < 64 := by omega
          have b5 : (0 : Int) ≤ (t : Int) - 7 ∧ (t : Int) - 7 < 64 := by omega
          have b6 : (0 : Int) ≤ (t : Int) - 16 ∧ (t : Int) - 16 < 64 := by omega
          have w2 : IntKind.i64.wrap ((t : Int) - 2) = (t : Int) - 2 := IntWalk.i64_in _ (by omega)
          have w15 : IntKind.i64.wrap ((t : Int) - 15) = (t : Int) - 15 := IntWalk.i64_in _ (by omega)
          have w7 : IntKind.i64.wrap ((t : Int) - 7) = (t : Int) - 7 := IntWalk.i64_in _ (by omega)
          have w16 : IntKind.i64.wrap ((t : Int) - 16) = (t : Int) - 16 := IntWalk.i64_in _ (by omega)
          have HT := hide ht
          have K7 := hide (fun w => rotl_turned y (-7) 7 (rotl7 y w)); have K18 := hide (fun w => rotl_turned y (-18) 18 (rotl18 y w))
          have K17 := hide (fun w => rotl_turned x (-17) 17 (rotl17 x w)); have K19 := hide (fun w => rotl_turned x (-19) 19 (rotl19 x w))
          clear hx hy hb hd hl hll i2 i15 i7 i16 ht
          go_wp2_with fail
          go_quiet (fail)
          have c7' : (wr.drewN nq).cell? ⟨w.heap.size, t - 7, none⟩ = some (.int .u32 (b.toNat : Int)) := c7
          have c16' : (wr.drewN nq).cell? ⟨w.heap.size, t - 16, none⟩ = some (.int .u32 (d.toNat : Int)) := c16
          have ct' : (wr.drewN nq).cell? ⟨w.heap.size, t, none⟩ = some (.int .u32 0) := ct
          have hf' : (wr.drewN nq).frozen? ⟨w.heap.size, t, none⟩ = false := hf
          have HR3 : Hid (RowV ((wr.drewN nq).setCell ⟨w.heap.size, t, none⟩ (.int .u32 ((Sha.next l).toNat : Int))) w.heap.size 84 (srow (Sha.sched (Sha.words16 bs 16) (j + 1)) (t + 1))) := hide HR2.out
          have HW3 : Hid (Below w.heap.size w ((wr.drewN nq).setCell ⟨w.heap.size, t, none⟩ (.int .u32 ((Sha.next l).toNat : Int)))) := hide (⟨HW2.out.os, HW2.out.tape, HW2.out.output, HW2.out.size, HW2.out.block⟩)
          generalize wr.drewN nq = Y at c7' c16' ct' hf' HR3 HW3 ⊢
          clear c7 c16 ct hf HR2 HW2 HR HW c2 c15
          go_wp2_with fail
          refine wp_region_still_tail 29 (by kernel_rfl) (by kernel_rfl) ?_
          change wpStill _ _ Y.drew _ _ _
          simp only [List.take_succ_cons, List.take_zero, List.drop_succ_cons, List.drop_zero]
          iterate 11 still_step
          still_call (K7.out _)
          still_step
          still_call (K18.out _)
          iterate 6 still_step
          still_call (K17.out _)
          still_step
          still_call (K19.out _)
          iterate 6 still_step
          refine wpStill_nil ?_
          change wpList _ _ _ _ _ Y.drew
          go_wp2_with fail
          go_roundw
          case rel =>
            refine ⟨j + 1, by omega, by have := HT.out; go_num, ?_⟩
            rw [HNX.out, show 16 + (j + 1) = t + 1 by have := HT.out; omega]
            exact ⟨HR3, hide HW3.out.drew⟩
          case measure => have := HT.out; simp [intOf]; omega
        · have R6 : Hid (RowV wr w.heap.size 84 ((Sha.W bs).map uv)) := hide (by
            have := HR.out
            unfold srow at this
            rw [show j = 48 by omega, show 64 - t = 0 by omega, List.replicate_zero, List.append_nil] at this
            exact this)
          have hGl := HS.out.lt
          have RG := hide (HS.out.below HW.out hGl)
          have d0 : wr.cell? ⟨G, 0, none⟩ = some (.int .u32 (V.a.toNat : Int)) := RG.out.cell (k := 0) rfl
          have d1 : wr.cell? ⟨G, 1, none⟩ = some (.int .u32 (V.b.toNat : Int)) := RG.out.cell (k := 1) rfl
          have d2 : wr.cell? ⟨G, 2, none⟩ = some (.int .u32 (V.c.toNat : Int)) := RG.out.cell (k := 2) rfl
          have d3 : wr.cell? ⟨G, 3, none⟩ = some (.int .u32 (V.d.toNat : Int)) := RG.out.cell (k := 3) rfl
          have d4 : wr.cell? ⟨G, 4, none⟩ = some (.int .u32 (V.e.toNat : Int)) := RG.out.cell (k := 4) rfl
          have d5 : wr.cell? ⟨G, 5, none⟩ = some (.int .u32 (V.f.toNat : Int)) := RG.out.cell (k := 5) rfl
          have d6 : wr.cell? ⟨G, 6, none⟩ = some (.int .u32 (V.g.toNat : Int)) := RG.out.cell (k := 6) rfl
          have d7 : wr.cell? ⟨G, 7, none⟩ = some (.int .u32 (V.h.toNat : Int)) := RG.out.cell (k := 7) rfl
          have hge : ¬ ((t : Int) < 64) := by omega
          clear HR ht hGl
          go_wp2_with fail
          have R11 : Hid (RowV (wr.alloc (.cells (v8 V).toArray 75)) wr.heap.size 75 (v8 (Sha.rounds V (Sha.W bs) 0))) := hide (heap_alloc_new wr _)
          have h6lt := R6.out.lt
          replace R6 := hide (R6.out.alloc (.cells (v8 V).toArray 75))
          have B3 := hide (HW.out.alloc HW.out.size (.cells (v8 V).toArray 75))
          have hn : Hid (w.heap.size < wr.heap.size) := hide h6lt
          obtain ⟨G11, hG11⟩ : ∃ G11, G11 = wr.heap.size := ⟨_, rfl⟩
          rw [← hG11] at R11 hn ⊢
          clear hG11 RG HW d0 d1 d2 d3 d4 d5 d6 d7
          go_loopw [102] (fun v102 wq => ∃ s : Nat, s ≤ 64 ∧ v102 = .int .i64 s ∧ Hid (RowV wq G11 75 (v8 (Sha.rounds V (Sha.W bs) s))) ∧ Hid (RowV wq w.heap.size 84 ((Sha.W bs).map uv)) ∧ Hid (Below w.heap.size w wq)) (fun v _ => 64 - (intOf v).toNat)
          case atStart => exact ⟨0, by omega, rfl, R11, R6, B3⟩
          case round =>
            clear R11 R6 B3
            obtain ⟨s, hs, rfl, R11, R6, HW⟩ := hrel
            by_cases hlt3 : s < 64
            · have HSTEP : Hid (Sha.rounds V (Sha.W bs) (s + 1) = Sha.step (Sha.rounds V (Sha.W bs) s) (Sha.K.getD s 0) ((Sha.W bs).getD s 0)) := hide rfl
              generalize Sha.rounds V (Sha.W bs) s = U at R11 HSTEP
              obtain ⟨va, vb, vc, vd, ve, vf, vg, vh⟩ := U
              obtain ⟨x, hx⟩ : ∃ x, x = (Sha.W bs).getD s 0 := ⟨_, rfl⟩
              obtain ⟨k, hk⟩ : ∃ k, k = Sha.K.getD s 0 := ⟨_, rfl⟩
              have c5 : ((Sha.W bs).map uv)[s]? = some (.int .u32 (x.toNat : Int)) := by
                have hl : s < (Sha.W bs).length := by simp [Sha.W, Sha.sched_length, Sha.words16_length]; omega
                rw [hx, List.getElem?_map, List.getD_eq_getElem?_getD, List.getElem?_eq_getElem hl]; rfl
              have ck := kCells_at s hlt3
              rw [← hk] at ck
              have RK := hide ((HW.out.block gk (heap_lt' HK.out)).trans HK.out)
              rw [← hk, ← hx] at HSTEP
              have T6 := hide (fun w => rotl6 ve w); have T11 := hide (fun w => rotl11 ve w); have T25 := hide (fun w => rotl25 ve w)
              have T2 := hide (fun w => rotl2 va w); have T13 := hide (fun w => rotl13 va w); have T22 := hide (fun w => rotl22 va w)
              have q0 : ∀ p : Ext wr, (extW wr p).cell? ⟨G11, 0, none⟩ = some (.int .u32 (va.toNat : Int)) := fun p => (R11.out.below' (extW_below wr p)).cell (k := 0) rfl
              have q4 : ∀ p : Ext wr, (extW wr p).cell? ⟨G11, 4, none⟩ = some (.int .u32 (ve.toNat : Int)) := fun p => (R11.out.below' (extW_below wr p)).cell (k := 4) rfl
              have b1 : (0 : Int) ≤ (s : Int) := by omega
              have b2 : (s : Int) < 64 := by omega
              clear hx hk
              go_wp2_with fail
              refine wp_region_ext (by kernel_rfl) (by kernel_rfl) ?_
              repeat (go_big_quiet_step (fail))
              refine wpQuiet_nil ?_
              intro _ hw'
              obtain ⟨p, hw''⟩ := hw'
              subst hw''
              replace R11 := hide (R11.out.below' (extW_below wr p))
              replace R6 := hide (R6.out.below' (extW_below wr p))
              replace RK := hide (((extW_below wr p).block gk (heap_lt' RK.out)).trans RK.out)
              replace HW := hide (HW.out.trans ((extW_below wr p).mono HW.out.size))
              generalize extW wr p = Y at R11 R6 RK HW ⊢
              clear q0 q4
              have q7 : ∀ p : Ext Y, (extW Y p).cell? ⟨G11, 7, none⟩ = some (.int .u32 (vh.toNat : Int)) := fun p => (R11.out.below' (extW_below Y p)).cell (k := 7) rfl
              have q5 : ∀ p : Ext Y, (extW Y p).cell? ⟨G11, 5, none⟩ = some (.int .u32 (vf.toNat : Int)) := fun p => (R11.out.below' (extW_below Y p)).cell (k := 5) rfl
              have q6 : ∀ p : Ext Y, (extW Y p).cell? ⟨G11, 6, none⟩ = some (.int .u32 (vg.toNat : Int)) := fun p => (R11.out.below' (extW_below Y p)).cell (k := 6) rfl
              have qt : ∀ p : Ext Y, (extW Y p).cell? ⟨w.heap.size, s, none⟩ = some (.int .u32 (x.toNat : Int)) := fun p => (R6.out.below' (extW_below Y p)).cell c5
              have qk : ∀ p : Ext Y, (extW Y p).cell? ⟨gk, s, none⟩ = some (.int .u32 (k.toNat : Int)) := fun p => (cell_of_row _ gk s _ _ _ (((extW_below Y p).block gk (heap_lt' RK.out)).trans RK.out)).trans ck
              have C5 := hide c5; have CK := hide ck; clear c5 ck
              go_wp2_with fail
              refine wp_region_ext (by kernel_rfl) (by kernel_rfl) ?_
              repeat (go_big_quiet_step (with_reducible first
                | exact ext_call_same _ (T6.out _)
                | exact ext_call_same _ (T11.out _)
                | exact ext_call_same _ (T25.out _)))
              refine wpQuiet_nil ?_
              intro _ hw'
              obtain ⟨p, hw''⟩ := hw'
              subst hw''
              replace R11 := hide (R11.out.below' (extW_below Y p))
              replace R6 := hide (R6.out.below' (extW_below Y p))
              replace HW := hide (HW.out.trans ((extW_below Y p).mono HW.out.size))
              generalize extW Y p = Z at R11 R6 HW ⊢
              clear q7 q5 q6 qt qk RK
              have ho := pone_walk ⟨va, vb, vc, vd, ve, vf, vg, vh⟩ k x
              have ht := two_walk ⟨va, vb, vc, vd, ve, vf, vg, vh⟩
              have HO := hide ho; have HT := hide ht; clear ho ht
              rw [show (if IntKind.u32.signed = true then (-1 : Int) else IntKind.u32.max) = 4294967295 from rfl]
              rw [HO.out]
              unfold Sha.step at HSTEP
              obtain ⟨o1, ho1⟩ : ∃ o1, o1 = Sha.one ⟨va, vb, vc, vd, ve, vf, vg, vh⟩ k x := ⟨_, rfl⟩
              obtain ⟨o2, ho2⟩ : ∃ o2, o2 = Sha.two ⟨va, vb, vc, vd, ve, vf, vg, vh⟩ := ⟨_, rfl⟩
              rw [← ho1, ← ho2] at HSTEP
              rw [← ho1]
              rw [← ho2] at HT
              clear ho1 ho2 HO
              have q1 : ∀ p : Ext Z, (extW Z p).cell? ⟨G11, 1, none⟩ = some (.int .u32 (vb.toNat : Int)) := fun p => (R11.out.below' (extW_below Z p)).cell (k := 1) rfl
              have q2 : ∀ p : Ext Z, (extW Z p).cell? ⟨G11, 2, none⟩ = some (.int .u32 (vc.toNat : Int)) := fun p => (R11.out.below' (extW_below Z p)).cell (k := 2) rfl
              go_wp2_with fail
              refine wp_region_ext (by kernel_rfl) (by kernel_rfl) ?_
              repeat (go_big_quiet_step (with_reducible first
                | exact ext_call_same _ (T2.out _)
                | exact ext_call_same _ (T13.out _)
                | exact ext_call_same _ (T22.out _)))
              refine wpQuiet_nil ?_
              intro _ hw'
              obtain ⟨p, hw''⟩ := hw'
              subst hw''
              rw [HT.out]
              replace R11 := hide (R11.out.below' (extW_below Z p))
              replace R6 := hide (R6.out.below' (extW_below Z p))
              replace HW := hide (HW.out.trans ((extW_below Z p).mono HW.out.size))
              generalize extW Z p = Q at R11 R6 HW ⊢
              clear q1 q2 HT
              have z0 := R11.out.cell (k := 0) rfl; have z1 := R11.out.cell (k := 1) rfl; have z2 := R11.out.cell (k := 2) rfl; have z3 := R11.out.cell (k := 3) rfl
              have z4 := R11.out.cell (k := 4) rfl; have z5 := R11.out.cell (k := 5) rfl; have z6 := R11.out.cell (k := 6) rfl; have z7 := R11.out.cell (k := 7) rfl
              unfold uv at z0 z1 z2 z3 z4 z5 z6 z7
              have HV4 := hide (add_w vd o1)
              have HV0 := hide (add_w o1 o2)
              have f0 := R11.out.free 0; have f1 := R11.out.free 1; have f2 := R11.out.free 2; have f3 := R11.out.free 3
              have f4 := R11.out.free 4; have f5 := R11.out.free 5; have f6 := R11.out.free 6; have f7 := R11.out.free 7
              go_wp2_with fail
              go_roundw
              case rel =>
                refine ⟨s + 1, by omega, by go_num, ?_⟩
                rw [HV4.out, HV0.out, HSTEP.out]
                have n6 : w.heap.size ≠ G11 := by have := hn.out; omega
                have nle : w.heap.size ≤ G11 := by have := hn.out; omega
                exact ⟨hide ((((((((R11.out.set 0 _).set 1 _).set 2 _).set 3 _).set 4 _).set 5 _).set 6 _).set 7 _), hide ((((((((R6.out.set_other n6).set_other n6).set_other n6).set_other n6).set_other n6).set_other n6).set_other n6).set_other n6),
                  hide ((((((((HW.out.setCell (p := ⟨G11, _, none⟩) nle _).setCell (p := ⟨G11, _, none⟩) nle _).setCell (p := ⟨G11, _, none⟩) nle _).setCell (p := ⟨G11, _, none⟩) nle _).setCell (p := ⟨G11, _, none⟩) nle _).setCell (p := ⟨G11, _, none⟩) nle _).setCell (p := ⟨G11, _, none⟩) nle _).setCell (p := ⟨G11, _, none⟩) nle _)⟩
              case measure => simp [intOf]; omega
            · have HBL : Hid (Sha.block V bs = V.add (Sha.rounds V (Sha.W bs) s)) := hide (by rw [show s = 64 by omega]; rfl)
              generalize Sha.rounds V (Sha.W bs) s = r at R11 HBL
              have hGl := HS.out.lt
              have nG : Hid (G11 ≠ G) := hide (by have := hn.out; omega)
              have RG : Hid (RowV wr G T (mix (V.add r) V 0 ++ rest)) := hide (HS.out.below HW.out hGl)
              have HGR := hide (grown_of_below HW.out (some G))
              have hge3 : ¬ ((s : Int) < 64) := by omega
              obtain ⟨w2, hw2⟩ : ∃ w2, w2 = wr := ⟨_, rfl⟩
              subst hw2
              clear R6 HW hGl
              go_wp2_with fail
              go_loopw [186] (fun v186 wq => ∃ i : Nat, i ≤ 8 ∧ v186 = .int .i64 i ∧ Hid (RowV wq G11 75 (v8 r)) ∧ Hid (RowV wq G T (mix (V.add r) V i ++ rest)) ∧ Hid (w.grownBy wq (some G))) (fun v _ => 8 - (intOf v).toNat)
              case atStart => exact ⟨0, by omega, rfl, R11, RG, HGR⟩
              case round =>
                clear R11 RG HGR
                obtain ⟨i, hi, rfl, R11, RG, HGR⟩ := hrel
                by_cases hlt2 : i < 8
                · have c0 := RG.out.cell (gmix_at (V.add r) V rest i hlt2)
                  have c6 := R11.out.cell (v8_at r i hlt2)
                  have hf := RG.out.free i
                  have HV := hide (add_at V r i hlt2)
                  have RG2 := hide (RG.out.set i (.int .u32 (((V.add r).words.getD i 0).toNat : Int)))
                  rw [gmix_set _ _ _ _ hlt2] at RG2
                  have R12 := hide (R11.out.set_other (b := G) (k := i) (v := .int .u32 (((V.add r).words.getD i 0).toNat : Int)) nG.out)
                  have HG2 := hide (grown_set (j := i) HGR.out (.int .u32 (((V.add r).words.getD i 0).toNat : Int)))
                  generalize V.words.getD i 0 = y0 at c0 HV
                  generalize r.words.getD i 0 = y1 at c6 HV
                  have b1 : (0 : Int) ≤ (i : Int) := by omega
                  have b2 : (i : Int) < 8 := by omega
                  go_wp2_with fail
                  refine wp_region_still_tail 13 (by kernel_rfl) (by kernel_rfl) ?_
                  change wpStill _ _ wr.drew _ _ _
                  simp only [List.take_succ_cons, List.take_zero, List.drop_succ_cons, List.drop_zero]
                  iterate 13 still_step
                  refine wpStill_nil ?_
                  change wpList _ _ _ _ _ wr.drew
                  go_wp2_with fail
                  go_roundw
                  case rel =>
                    refine ⟨i + 1, by omega, by go_num, ?_⟩
                    rw [HV.out]
                    exact ⟨R12, RG2, hide (grown_drew HG2.out)⟩
                  case measure => simp [intOf]; omega
                · have HR : Hid (RowV wr G T (v8 (Sha.block V bs) ++ rest)) := hide (by
                    have := RG.out
                    rw [show i = 8 by omega] at this
                    rw [HBL.out]
                    exact this)
                  clear RG
                  go_wp2_with fail
                  go_end0
                  exact ⟨rfl, HR.out, HGR.out⟩
end Go.Proofs.YtokdliapkolngaaDoor
