/-
  The walks of the document's number, word.
-/
import Derived.Test.YtnlfnjadadfhkaaWireO
namespace Go.Proofs.Ytnlfnjadadfhkaa
open Go.RowKit
set_option linter.unusedVariables false

/-- the document's reader -/
def RdVal (A : Option Addr) (n c a : Nat) (b : Int) : Value := .agg #[.slice A n c, .int .i64 (a : Int), .int .i64 b]
/-- a digit's worth, added -/
theorem mul_small (n k d W : Nat) (hd : d < 256) (hn : n < 128 ^ k) (hk : k ≤ 9) (h9 : k = 9 → d ≤ 1) (hW : W = 128 ^ k) : IntKind.u64.wrap ((n : Int) + IntKind.u64.wrap ((W : Int) * ((d : Int) % 128))) = ((n + 128 ^ k * (d % 128) : Nat) : Int) := by
  have hlt : 128 ^ k * (d % 128) ≤ 9223372036854775808 := by
    by_cases h : k = 9
    · subst h
      have := h9 rfl
      have e : (128 : Nat) ^ 9 = 9223372036854775808 := by decide
      rw [e]; omega
    · have hk8 : 128 ^ k ≤ 128 ^ 8 := Nat.pow_le_pow_right (by omega) (by omega)
      have e : (128 : Nat) ^ 8 = 72057594037927936 := by decide
      have : 128 ^ k * (d % 128) ≤ 72057594037927936 * 127 := Nat.mul_le_mul (by omega) (by omega)
      omega
  have hn9 : n < 9223372036854775808 := by
    have hk9 : 128 ^ k ≤ 128 ^ 9 := Nat.pow_le_pow_right (by omega) hk
    have e : (128 : Nat) ^ 9 = 9223372036854775808 := by decide
    omega
  have e1 : (W : Int) * ((d : Int) % 128) = ((128 ^ k * (d % 128) : Nat) : Int) := by rw [hW]; push_cast; rfl
  rw [e1, u64_small ((128 ^ k * (d % 128) : Nat) : Int) (by omega), u64_small _ (by omega)]
  push_cast; rfl
theorem mul_128 (k W : Nat) (hk : k ≤ 8) (hW : W = 128 ^ k) : IntKind.u64.wrap (128 * (W : Int)) = ((128 * W : Nat) : Int) := by
  have hk8 : 128 ^ k ≤ 128 ^ 8 := Nat.pow_le_pow_right (by omega) (by omega)
  have e : (128 : Nat) ^ 8 = 72057594037927936 := by decide
  rw [u64_small _ (by omega)]
  push_cast; rfl
theorem results_tmp_row {P : Program} {fn : Func} {p u : Tmp} {ty : TypeId} (h : fn.results = #[.tmp u, .cell p ty]) (tmps : Array Value) (w : World) (g : Nat) (t : TypeId) (cs : List Value) (fr : Nat × Nat) (d : TypeDesc)
    (hp : tmps.getD p undef = .pointer (some ⟨g, 0, none⟩)) (hg : w.heap[g]? = some (.cells cs.toArray t fr))
    (hu : P.underlying ty = some d) (hd : (match d with | .struct _ | .array _ _ => true | _ => false) = true) (hi : (P.info? ty).map (·.size) = some cs.length) (x : Value) (hx : tmps.getD u undef = x) :
    (results fn tmps).run P w = .ok (.tuple #[x, .agg cs.toArray]) w := by
  have hp' : tmps[p]?.getD undef = .pointer (some ⟨g, 0, none⟩) := by simpa using hp
  have hx' : tmps[u]?.getD undef = x := by simpa using hx
  simp [results, h, hp', hx', asAddr, run_loadVar_row w g t ty cs.toArray fr d hg hu hd (by simpa using hi), Result.andThen]
set_option maxHeartbeats 8000000 in
set_option maxRecDepth 100000 in
theorem dnum_any (A : Option Addr) (n c a : Nat) (b : Int) (most : Nat) (bs : List UInt8) (w : World) (hb : SlB w w.heap.size A n bs) (ha : a ≤ n) (hn : n ≤ 9223372036854775806) (hmost : most < 18446744073709551616) :
    Calls Try.prog 47 #[RdVal A n c a b, .int .u64 (most : Int)] w fun e w' => ∃ a', a' ≤ n ∧ bs.drop a' = (Rd.numB b most (bs.drop a)).2.2 ∧ e = .returned (.tuple #[.int .u64 ((Rd.numB b most (bs.drop a)).1 : Int), RdVal A n c a' (Rd.numB b most (bs.drop a)).2.1]) ∧ Below w.heap.size w w' := by
  have HB := hide hb; have HL := hide hb.len; clear hb
  obtain ⟨res, hres⟩ : ∃ res, res = Rd.numB b most (bs.drop a) := ⟨_, rfl⟩
  rw [← hres]
  have HI : Hid ((b = 0 ∧ Rd.numF most 0 0 (bs.drop a) = res) ∨ (b ≠ 0 ∧ res = (0, b, bs.drop a))) := hide (by
    unfold Rd.numB at hres
    by_cases h : b = 0
    · rw [if_pos h] at hres; exact .inl ⟨h, hres.symm⟩
    · rw [if_neg h] at hres; exact .inr ⟨h, hres⟩)
  clear hres
  unfold RdVal
  go_enter Try.func47, Try.ntmps47
  go_wp2_with fail
  go_loopw [6, 7, 8] (fun v6 v7 v8 wq => ∃ (k n1 a1 W : Nat) (b1 : Int), k ≤ 9 ∧ n1 < 128 ^ k ∧ a1 ≤ n ∧ v6 = .int .u64 (n1 : Int) ∧ v7 = .int .u64 (W : Int) ∧ v8 = .int .i64 (k : Int) ∧ Hid (W = 128 ^ k) ∧ Hid (RowV wq w.heap.size 53 [.slice A n c, .int .i64 (a1 : Int), .int .i64 b1]) ∧ Hid (RowV wq (w.heap.size + 1) 53 [.slice none 0 0, .int .i64 0, .int .i64 0]) ∧ Hid (Below w.heap.size w wq) ∧ Hid ((b1 = 0 ∧ Rd.numF most k n1 (bs.drop a1) = res) ∨ (b1 ≠ 0 ∧ res = (0, b1, bs.drop a1)))) (fun _ _ v _ => 20 - (intOf v).toNat)
  case atStart => exact ⟨0, 0, a, 1, b, by omega, by omega, ha, rfl, rfl, rfl, hide rfl, hide ((RowV.new w _ _).alloc _), hide (by have := RowV.new (w.alloc (.cells #[.slice A n c, .int .i64 (a : Int), .int .i64 b] 53)) 53 [.slice none 0 0, .int .i64 0, .int .i64 0]; rwa [World.size_alloc] at this), hide (((Below.refl _ _).alloc (Nat.le_refl _) _).alloc (by simp) _), HI⟩
  case round =>
    clear HI ha
    obtain ⟨k, n1, a1, W, b1, hk, hn1, ha1, rfl, rfl, rfl, HW, HR, HZ, HBL, HI⟩ := hrel
    have HN := hide hn1; clear hn1
    -- ROUND
    have c0 := HR.out.cell (k := 0) rfl
    have c1 := HR.out.cell (k := 1) rfl
    have c2 := HR.out.cell (k := 2) rfl
    have z0 := HZ.out.cell (k := 0) rfl
    have z1 := HZ.out.cell (k := 1) rfl
    have z2 := HZ.out.cell (k := 2) rfl
    have f0 := HZ.out.free 0
    have f1 := HZ.out.free 1
    have f2 := HZ.out.free 2
    have r1 := HR.out.free 1
    have r2 := HR.out.free 2
    rcases HI.out with ⟨h1, h3⟩ | ⟨h1, h2⟩
    · subst h1
      have HRES := hide h3
      clear h3 HI
      by_cases hlt : a1 < n
      · obtain ⟨bb, off, d, rfl, hbb, hd, HD⟩ := (HB.out.below HBL.out (Nat.le_refl _)).byte hlt
        have hdl := d.toNat_lt
        have i1 : ¬ ((n : Int) ≤ (a1 : Int)) := by omega
        have i2 : (a1 : Int) < (n : Int) := by omega
        have i3 : (0 : Int) ≤ (a1 : Int) := by omega
        have HDR : Hid (bs.drop a1 = d :: bs.drop (a1 + 1)) := hide (by
          rw [List.drop_eq_getElem_cons (by rw [HL.out]; exact hlt)]
          have h := HD.out
          rw [List.getElem?_eq_getElem (by rw [HL.out]; exact hlt)] at h
          injection h with h; rw [h])
        rw [HDR.out] at HRES
        clear HDR HD
        go_upto_region 11 with (fail)
        refine wp_world (fun Y => Hid (RowV Y w.heap.size 53 [.slice (some ⟨bb, off, none⟩) n c, .int .i64 ((a1 : Int) + 1), .int .i64 0]) ∧ Hid (RowV Y (w.heap.size + 1) 53 [.slice none 0 0, .int .i64 0, .int .i64 0]) ∧ Hid (Below w.heap.size w Y)) ⟨hide (HR.out.set 1 (.int .i64 ((a1 : Int) + 1))), hide (HZ.out.set_other (by omega)), hide (HBL.out.setCell (by simp) _)⟩ ?_
        clear HR HZ HBL c0 c1 c2 z0 z1 z2 f0 f1 f2 r1 r2
        rintro Y ⟨HR, HZ, HBL⟩
        have c0 := HR.out.cell (k := 0) rfl
        have c1 := HR.out.cell (k := 1) rfl
        have c2 := HR.out.cell (k := 2) rfl
        have z0 := HZ.out.cell (k := 0) rfl
        have z1 := HZ.out.cell (k := 1) rfl
        have z2 := HZ.out.cell (k := 2) rfl
        have f0 := HZ.out.free 0
        have f1 := HZ.out.free 1
        have f2 := HZ.out.free 2
        have r1 := HR.out.free 1
        have r2 := HR.out.free 2
        clear hd
        by_cases hbad : (k = 9 ∧ 1 < d.toNat) ∨ (0 < k ∧ d.toNat = 0)
        · have HE : Hid (res = (0, 3, bs.drop (a1 + 1))) := hide (by rw [← HRES.out, Rd.numF, if_pos hbad])
          go_cut [46] (fun v46 wx => v46 = .bool true ∧ wx = Y)
          case first =>
            rcases hbad with ⟨h, h0⟩ | ⟨h, h0⟩
            · have h1 : (1 : Int) < (d.toNat : Int) := by omega
              have k9 : ((k : Int) == 9) = true := by rw [beq_iff_eq]; omega
              clear h h0
              go_wp2_with fail
              go_meet
              case rel => exact ⟨rfl, rfl⟩
            · have d0 : ((d.toNat : Int) == 0) = true := by rw [beq_iff_eq]; omega
              by_cases hk9 : k = 9
              · have h1 : ¬ ((1 : Int) < (d.toNat : Int)) := by omega
                have k0 : (0 : Int) < (k : Int) := by omega
                have k9 : ((k : Int) == 9) = true := by rw [beq_iff_eq]; omega
                clear h h0 hk9
                go_wp2_with fail
                go_meet
                case rel => exact ⟨rfl, rfl⟩
              · have k9 : ((k : Int) == 9) = false := by rw [beq_eq_false_iff_ne]; omega
                have k0 : (0 : Int) < (k : Int) := by omega
                clear h h0 hk9
                go_wp2_with fail
                go_meet
                case rel => exact ⟨rfl, rfl⟩
          case rest =>
            obtain ⟨rfl, rfl⟩ := hcut
            clear hbad
            go_upto_region 13 with (fail)
            refine wp_world (fun Y => Hid (RowV Y w.heap.size 53 [.slice (some ⟨bb, off, none⟩) n c, .int .i64 ((a1 : Int) + 1), .int .i64 3]) ∧ Hid (RowV Y (w.heap.size + 1) 53 [.slice none 0 0, .int .i64 0, .int .i64 0]) ∧ Hid (Below w.heap.size w Y)) ⟨hide (HR.out.set 2 (.int .i64 3)), hide (HZ.out.set_other (by omega)), hide (HBL.out.setCell (by simp) _)⟩ ?_
            clear HR HZ HBL c0 c1 c2 z0 z1 z2 f0 f1 f2 r1 r2
            rintro Y ⟨HR, HZ, HBL⟩
            have c0 := HR.out.cell (k := 0) rfl
            have c1 := HR.out.cell (k := 1) rfl
            have c2 := HR.out.cell (k := 2) rfl
            have z0 := HZ.out.cell (k := 0) rfl
            have z1 := HZ.out.cell (k := 1) rfl
            have z2 := HZ.out.cell (k := 2) rfl
            have f0 := HZ.out.free 0
            have f1 := HZ.out.free 1
            have f2 := HZ.out.free 2
            have r1 := HR.out.free 1
            have r2 := HR.out.free 2
            go_region
            all_goals go_wp2_with fail
            all_goals
              have HF := hide (((HZ.out.set 0 (.slice (some ⟨bb, off, none⟩) n c)).set 1 (.int .i64 ((a1 : Int) + 1))).set 2 (.int .i64 3)).drew
              refine bodyPost_ret (results_tmp_row rfl _ _ (w.heap.size + 1) 53 _ (0, 0) _ rfl HF.out Try.underlying53 rfl (by kernel_rfl) _ rfl) rfl ?_
              refine ⟨a1 + 1, by omega, by rw [HE.out], by rw [HE.out]; rfl, ?_⟩
              exact (((HBL.out.setCell (by simp) _).setCell (by simp) _).setCell (by simp) _).drew
        · have HNX := hide (Rd.numF_next (most := most) (n := n1) (t := bs.drop (a1 + 1)) hbad)
          rw [HRES.out] at HNX
          have h9 : k = 9 → d.toNat ≤ 1 := by omega
          have HMUL := hide (mul_small n1 k d.toNat W hdl HN.out hk h9 HW.out)
          have HP := hide (pow_step (x := d.toNat % 128) HN.out (by omega))
          obtain ⟨n2, hn2⟩ : ∃ n2, n2 = n1 + 128 ^ k * (d.toNat % 128) := ⟨_, rfl⟩
          rw [← hn2] at HNX HMUL HP
          clear hn2 HRES
          go_cut [46] (fun v46 wx => v46 = .bool false ∧ wx = Y)
          case first =>
            by_cases hk0 : k = 0
            · have k0 : ¬ ((0 : Int) < (k : Int)) := by omega
              have k9 : ((k : Int) == 9) = false := by rw [beq_eq_false_iff_ne]; omega
              clear hk0
              go_wp2_with fail
              go_meet
              case rel => exact ⟨rfl, rfl⟩
            · have k0 : (0 : Int) < (k : Int) := by omega
              have hd0 : ((d.toNat : Int) == 0) = false := by rw [beq_eq_false_iff_ne]; omega
              by_cases hk9 : k = 9
              · have h1 : ¬ ((1 : Int) < (d.toNat : Int)) := by omega
                have k9 : ((k : Int) == 9) = true := by rw [beq_iff_eq]; omega
                clear hk9 hk0
                go_wp2_with fail
                go_meet
                case rel => exact ⟨rfl, rfl⟩
              · have k9 : ((k : Int) == 9) = false := by rw [beq_eq_false_iff_ne]; omega
                go_wp2_with fail
                go_meet
                case rel => exact ⟨rfl, rfl⟩
          case rest =>
            obtain ⟨rfl, rfl⟩ := hcut
            have h9x : k = 9 → d.toNat ≤ 1 := h9
            clear hbad h9
            go_upto_region 14 with (fail)
            go_cut [6] (fun v6 wx => v6 = .int .u64 (n2 : Int) ∧ wx = wc)
            case first =>
              go_wp2_with fail
              go_meet
              case rel => exact ⟨by rw [HMUL.out], rfl⟩
            case rest =>
              obtain ⟨rfl, rfl⟩ := hcut
              by_cases hd128 : d.toNat < 128
              · have d1 : (d.toNat : Int) < 128 := by omega
                by_cases hm : n2 ≤ most
                · have m1 : ¬ ((most : Int) < (n2 : Int)) := by omega
                  have HE : Hid (res = (n2, 0, bs.drop (a1 + 1))) := hide (by have := HNX.out; rw [if_pos hd128, if_pos hm] at this; exact this)
                  clear hm hd128
                  go_wp2_with fail
                  go_region
                  all_goals go_wp2_with fail
                  all_goals
                    have HF := hide (((HZ.out.set 0 (.slice (some ⟨bb, off, none⟩) n c)).set 1 (.int .i64 ((a1 : Int) + 1))).set 2 (.int .i64 0)).drew
                    refine bodyPost_ret (results_tmp_row rfl _ _ (w.heap.size + 1) 53 _ (0, 0) _ rfl HF.out Try.underlying53 rfl (by kernel_rfl) _ rfl) rfl ?_
                    refine ⟨a1 + 1, by omega, by rw [HE.out], by rw [HE.out]; rfl, ?_⟩
                    exact (((HBL.out.setCell (by simp) _).setCell (by simp) _).setCell (by simp) _).drew
                · have m1 : (most : Int) < (n2 : Int) := by omega
                  have HE : Hid (res = (0, 3, bs.drop (a1 + 1))) := hide (by have := HNX.out; rw [if_pos hd128, if_neg hm] at this; exact this)
                  clear hm hd128
                  go_upto_region 19 with (fail)
                  refine wp_world (fun Y => Hid (RowV Y w.heap.size 53 [.slice (some ⟨bb, off, none⟩) n c, .int .i64 ((a1 : Int) + 1), .int .i64 3]) ∧ Hid (RowV Y (w.heap.size + 1) 53 [.slice none 0 0, .int .i64 0, .int .i64 0]) ∧ Hid (Below w.heap.size w Y)) ⟨hide (HR.out.set 2 (.int .i64 3)), hide (HZ.out.set_other (by omega)), hide (HBL.out.setCell (by simp) _)⟩ ?_
                  clear HR HZ HBL c0 c1 c2 z0 z1 z2 f0 f1 f2 r1 r2
                  rintro Y ⟨HR, HZ, HBL⟩
                  have c0 := HR.out.cell (k := 0) rfl
                  have c1 := HR.out.cell (k := 1) rfl
                  have c2 := HR.out.cell (k := 2) rfl
                  have z0 := HZ.out.cell (k := 0) rfl
                  have z1 := HZ.out.cell (k := 1) rfl
                  have z2 := HZ.out.cell (k := 2) rfl
                  have f0 := HZ.out.free 0
                  have f1 := HZ.out.free 1
                  have f2 := HZ.out.free 2
                  have r1 := HR.out.free 1
                  have r2 := HR.out.free 2
                  go_region
                  all_goals go_wp2_with fail
                  all_goals
                    have HF := hide (((HZ.out.set 0 (.slice (some ⟨bb, off, none⟩) n c)).set 1 (.int .i64 ((a1 : Int) + 1))).set 2 (.int .i64 3)).drew
                    refine bodyPost_ret (results_tmp_row rfl _ _ (w.heap.size + 1) 53 _ (0, 0) _ rfl HF.out Try.underlying53 rfl (by kernel_rfl) _ rfl) rfl ?_
                    refine ⟨a1 + 1, by omega, by rw [HE.out], by rw [HE.out]; rfl, ?_⟩
                    exact (((HBL.out.setCell (by simp) _).setCell (by simp) _).setCell (by simp) _).drew
              · have d1 : ¬ ((d.toNat : Int) < 128) := by omega
                have HE : Hid (Rd.numF most (k + 1) n2 (bs.drop (a1 + 1)) = res) := hide (by have := HNX.out; rw [if_neg hd128] at this; exact this.symm)
                have hk8 : k ≤ 8 := by
                  have := h9x
                  omega
                have hw128 := mul_128 k W hk8 HW.out
                have HWP : Hid (128 * W = 128 ^ (k + 1)) := hide (by rw [HW.out, Nat.pow_succ, Nat.mul_comm])
                clear h9x
                go_wp2_with fail
                go_roundw
                case rel => exact ⟨k + 1, n2, a1 + 1, 128 * W, 0, by omega, HP.out, by omega, rfl, congrArg (Value.int .u64) (by push_cast; rfl), by go_num, HWP, HR, HZ, HBL, hide (.inl ⟨rfl, HE.out⟩)⟩
                case measure => simp [intOf]; omega
      · have i1 : (n : Int) ≤ (a1 : Int) := by omega
        have HE : Hid (res = (0, 4, bs.drop a1)) := hide (by rw [← HRES.out, List.drop_of_length_le (by rw [HL.out]; omega)]; rfl)
        go_upto_region 8 with (fail)
        refine wp_world (fun Y => Hid (RowV Y w.heap.size 53 [.slice A n c, .int .i64 (a1 : Int), .int .i64 4]) ∧ Hid (RowV Y (w.heap.size + 1) 53 [.slice none 0 0, .int .i64 0, .int .i64 0]) ∧ Hid (Below w.heap.size w Y)) ⟨hide (HR.out.set 2 (.int .i64 4)), hide (HZ.out.set_other (by omega)), hide (HBL.out.setCell (by simp) _)⟩ ?_
        clear HR HZ HBL c0 c1 c2 z0 z1 z2 f0 f1 f2 r1 r2
        rintro Y ⟨HR, HZ, HBL⟩
        have c0 := HR.out.cell (k := 0) rfl
        have c1 := HR.out.cell (k := 1) rfl
        have c2 := HR.out.cell (k := 2) rfl
        have z0 := HZ.out.cell (k := 0) rfl
        have z1 := HZ.out.cell (k := 1) rfl
        have z2 := HZ.out.cell (k := 2) rfl
        have f0 := HZ.out.free 0
        have f1 := HZ.out.free 1
        have f2 := HZ.out.free 2
        have r1 := HR.out.free 1
        have r2 := HR.out.free 2
        go_region
        all_goals go_wp2_with fail
        all_goals
          have HF := hide (((HZ.out.set 0 (.slice A n c)).set 1 (.int .i64 (a1 : Int))).set 2 (.int .i64 4)).drew
          refine bodyPost_ret (results_tmp_row rfl _ _ (w.heap.size + 1) 53 _ (0, 0) _ rfl HF.out Try.underlying53 rfl (by kernel_rfl) _ rfl) rfl ?_
          refine ⟨a1, by omega, by rw [HE.out], by rw [HE.out]; rfl, ?_⟩
          exact (((HBL.out.setCell (by simp) _).setCell (by simp) _).setCell (by simp) _).drew
    · have HE := hide h2
      have hbb : (b1 == 0) = false := by simpa using h1
      clear h1 h2 HI
      go_wp2_with fail
      go_region
      all_goals go_wp2_with fail
      all_goals
        have HF := hide (((HZ.out.set 0 (.slice A n c)).set 1 (.int .i64 (a1 : Int))).set 2 (.int .i64 b1)).drew
        refine bodyPost_ret (results_tmp_row rfl _ _ (w.heap.size + 1) 53 _ (0, 0) _ rfl HF.out Try.underlying53 rfl (by kernel_rfl) _ rfl) rfl ?_
        refine ⟨a1, by omega, by rw [HE.out], by rw [HE.out]; rfl, ?_⟩
        exact (((HBL.out.setCell (by simp) _).setCell (by simp) _).setCell (by simp) _).drew
    -- ROUNDEND
end Go.Proofs.Ytnlfnjadadfhkaa
