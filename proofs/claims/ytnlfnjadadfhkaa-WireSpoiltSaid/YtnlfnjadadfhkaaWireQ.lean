/-
  The walks of the document's word, End, said, Open.
-/
import Derived.Test.YtnlfnjadadfhkaaWireP
namespace Go.Proofs.Ytnlfnjadadfhkaa
open Go.RowKit
set_option linter.unusedVariables false

/-- at a call, the world under a name of its own, with what is known of it -/
theorem calls_world {P : Program} {f : FuncId} {args : Array Value} {w : World} {Q : Ending → World → Prop} (F : World → Prop) (hF : F w) (h : ∀ X, F X → Calls P f args X Q) : Calls P f args w Q := h w hF
/-- where a reader's bytes begin -/
def Spot (A : Option Addr) (n c : Nat) : Prop := (A = none ∧ n = 0 ∧ c = 0) ∨ ∃ b off, A = some ⟨b, off, none⟩
theorem SlB.take' {w : World} {B n : Nat} {A : Option Addr} {bs : List UInt8} (h : SlB w B A n bs) {k : Nat} (hk : k ≤ n) : SlB w B A k (bs.take k) := by
  refine ⟨by rw [List.length_map, List.length_take, h.len]; omega, fun hn => ?_⟩
  obtain ⟨b, off, e, hb, hc⟩ := h.2 (by omega)
  refine ⟨b, off, e, hb, fun j u hu => hc j u ?_⟩
  rw [List.map_take, List.getElem?_take] at hu
  split at hu
  · exact hu
  · cases hu
set_option maxHeartbeats 8000000 in
set_option maxRecDepth 100000 in
theorem dword_any (A : Option Addr) (n c a : Nat) (b : Int) (bs : List UInt8) (w : World) (hb : SlB w w.heap.size A n bs) (hA : Spot A n c) (hnc : n ≤ c) (ha : a ≤ n) (hn : n ≤ 9223372036854700000) (hcc : c ≤ 9223372036854775807) :
    Calls Try.prog 48 #[RdVal A n c a b] w fun e w' => ∃ a', a' ≤ n ∧ bs.drop a' = (Rd.wordB b (bs.drop a)).2.2 ∧ e = .returned (.tuple #[.string (strB (Rd.wordB b (bs.drop a)).1), RdVal A n c a' (Rd.wordB b (bs.drop a)).2.1]) ∧ Below w.heap.size w w' := by
  have HL := hide hb.len
  obtain ⟨res, hres⟩ : ∃ res, res = Rd.wordB b (bs.drop a) := ⟨_, rfl⟩
  rw [← hres]
  unfold Rd.wordB at hres
  have hle := Rd.numB_le b 65536 (bs.drop a)
  have HNUM := hide (fun (X : World) (h : SlB X X.heap.size A n bs) => dnum_any A n c a b 65536 bs X h ha (by omega) (by omega))
  obtain ⟨r, hr⟩ : ∃ r, r = Rd.numB b 65536 (bs.drop a) := ⟨_, rfl⟩
  rw [← hr] at hres hle HNUM
  obtain ⟨num, e, rs⟩ := r
  clear hr
  simp only at hres hle HNUM
  have HRES := hide hres
  have HB := hide hb
  clear hb hres
  unfold RdVal
  go_enter Try.func48, Try.ntmps48
  go_wp2_with fail
  refine calls_world (fun X => Hid (RowV X w.heap.size 53 [.slice A n c, .int .i64 (a : Int), .int .i64 b]) ∧ Hid (RowV X (w.heap.size + 1) 53 [.slice none 0 0, .int .i64 0, .int .i64 0]) ∧ Hid (Below w.heap.size w X)) ⟨hide ((RowV.new w _ _).alloc _), hide (by have := RowV.new (w.alloc (.cells #[.slice A n c, .int .i64 (a : Int), .int .i64 b] 53)) 53 [.slice none 0 0, .int .i64 0, .int .i64 0]; rwa [World.size_alloc] at this), hide (((Below.refl _ _).alloc (Nat.le_refl _) _).alloc (by simp) _)⟩ ?_
  rintro X ⟨RX, ZX, BX⟩
  refine (HNUM.out X (HB.out.up BX.out)).mono ?_
  rintro e' w1 ⟨a1, ha1, hd1, rfl, hb1⟩
  have R1 := hide (RX.out.below' hb1); have Z1 := hide (ZX.out.below' hb1); have B1 := hide (BX.out.trans (hb1.mono BX.out.size)); have HD := hide hd1
  clear RX ZX BX hb1 hd1 HNUM
  have c0 := R1.out.cell (k := 0) rfl
  have c1 := R1.out.cell (k := 1) rfl
  have c2 := R1.out.cell (k := 2) rfl
  have f0 := R1.out.free 0
  have f1 := R1.out.free 1
  have f2 := R1.out.free 2
  unfold RdVal
  have HW1 := hide (((R1.out.set 0 (.slice A n c)).set 1 (.int .i64 (a1 : Int))).set 2 (.int .i64 e))
  have HW2 : Hid (RowV (((w1.setCell ⟨w.heap.size, 0, none⟩ (.slice A n c)).setCell ⟨w.heap.size, 1, none⟩ (.int .i64 (a1 : Int))).setCell ⟨w.heap.size, 2, none⟩ (.int .i64 e)) (w.heap.size + 1) 53 [.slice none 0 0, .int .i64 0, .int .i64 0]) := hide (((Z1.out.set_other (by omega)).set_other (by omega)).set_other (by omega))
  have HW3 : Hid (Below w.heap.size w (((w1.setCell ⟨w.heap.size, 0, none⟩ (.slice A n c)).setCell ⟨w.heap.size, 1, none⟩ (.int .i64 (a1 : Int))).setCell ⟨w.heap.size, 2, none⟩ (.int .i64 e))) := hide (((B1.out.setCell (by simp) _).setCell (by simp) _).setCell (by simp) _)
  go_upto_region 2 with (fail)
  refine wp_world (fun Y => Hid (RowV Y w.heap.size 53 [.slice A n c, .int .i64 (a1 : Int), .int .i64 e]) ∧ Hid (RowV Y (w.heap.size + 1) 53 [.slice none 0 0, .int .i64 0, .int .i64 0]) ∧ Hid (Below w.heap.size w Y)) ⟨HW1, HW2, HW3⟩ ?_
  clear HW1 HW2 HW3 R1 Z1 B1 c0 c1 c2 f0 f1 f2
  rintro Y ⟨HR, HZ, HBL⟩
  -- WORD
  have c0 := HR.out.cell (k := 0) rfl
  have c1 := HR.out.cell (k := 1) rfl
  have c2 := HR.out.cell (k := 2) rfl
  have z0 := HZ.out.cell (k := 0) rfl
  have z1 := HZ.out.cell (k := 1) rfl
  have z2 := HZ.out.cell (k := 2) rfl
  have f0 := HZ.out.free 0
  have f1 := HZ.out.free 1
  have f2 := HZ.out.free 2
  have r1 := HR.out.free 1
  have r2 := HR.out.free 2
  have hrl : rs.length = n - a1 := by rw [← HD.out, List.length_drop, HL.out]
  by_cases he : e = 0
  · subst he
    by_cases hlt : rs.length < num
    · have HE : Hid (res = ([], 4, rs)) := hide (by rw [HRES.out, if_neg (by omega), if_pos hlt])
      have g1 : ((n : Int) - (a1 : Int)) < (num : Int) := by omega
      clear hrl HRES hlt
      go_upto_region 6 with (fail)
      refine wp_world (fun Y => Hid (RowV Y w.heap.size 53 [.slice A n c, .int .i64 (a1 : Int), .int .i64 4]) ∧ Hid (RowV Y (w.heap.size + 1) 53 [.slice none 0 0, .int .i64 0, .int .i64 0]) ∧ Hid (Below w.heap.size w Y)) ⟨hide (HR.out.set 2 (.int .i64 4)), hide (HZ.out.set_other (by omega)), hide (HBL.out.setCell (by simp) _)⟩ ?_
      clear HR HZ HBL c0 c1 c2 z0 z1 z2 f0 f1 f2 r1 r2
      rintro Y ⟨HR, HZ, HBL⟩
      have c0 := HR.out.cell (k := 0) rfl
      have c1 := HR.out.cell (k := 1) rfl
      have c2 := HR.out.cell (k := 2) rfl
      have z0 := HZ.out.cell (k := 0) rfl
      have z1 := HZ.out.cell (k := 1) rfl
      have z2 := HZ.out.cell (k := 2) rfl
      have f0 := HZ.out.free 0
      have f1 := HZ.out.free 1
      have f2 := HZ.out.free 2
      have r1 := HR.out.free 1
      have r2 := HR.out.free 2
      go_region
      all_goals go_wp2_with fail
      all_goals
        have HF := hide (((HZ.out.set 0 (.slice A n c)).set 1 (.int .i64 (a1 : Int))).set 2 (.int .i64 4)).drew
        refine bodyPost_ret (results_tmp_row rfl _ _ (w.heap.size + 1) 53 _ (0, 0) _ rfl HF.out Try.underlying53 rfl (by kernel_rfl) _ rfl) rfl ?_
        refine ⟨a1, by omega, by rw [HE.out, ← HD.out] <;> rfl, by rw [HE.out]; rfl, ?_⟩
        exact (((HBL.out.setCell (by simp) _).setCell (by simp) _).setCell (by simp) _).drew
    · have HE : Hid (res = (rs.take num, 0, rs.drop num)) := hide (by rw [HRES.out, if_neg (by omega), if_neg hlt])
      have g1 : ¬ (((n : Int) - (a1 : Int)) < (num : Int)) := by omega
      have g2 : (a1 : Int) + (num : Int) ≤ (c : Int) := by omega
      have hnum : a1 + num ≤ n := by omega
      clear HRES hlt
      rcases hA with ⟨rfl, rfl, rfl⟩ | ⟨bb, off, rfl⟩
      · have h1 : a1 = 0 := by omega
        have h2 : num = 0 := by omega
        subst h1; subst h2
        have hcv := conv_any (P := Try.prog) 24 9 5 Try.underlying24 Try.underlying5 Try.underlying9 (bs := rs.take 0) (w := Y) (B := 0) (n := 0) (A := none) SlB.nil_ 0
        clear hrl g1 g2 hnum
        go_upto_region 9 with (fail)
        refine wp_world (fun Y => Hid (RowV Y w.heap.size 53 [.slice none 0 0, .int .i64 0, .int .i64 0]) ∧ Hid (RowV Y (w.heap.size + 1) 53 [.slice none 0 0, .int .i64 0, .int .i64 0]) ∧ Hid (Below w.heap.size w Y)) ⟨hide (HR.out.set 1 (.int .i64 0)), hide (HZ.out.set_other (by omega)), hide (HBL.out.setCell (by simp) _)⟩ ?_
        clear HR HZ HBL c0 c1 c2 z0 z1 z2 f0 f1 f2 r1 r2
        rintro Y ⟨HR, HZ, HBL⟩
        have c0 := HR.out.cell (k := 0) rfl
        have c1 := HR.out.cell (k := 1) rfl
        have c2 := HR.out.cell (k := 2) rfl
        have z0 := HZ.out.cell (k := 0) rfl
        have z1 := HZ.out.cell (k := 1) rfl
        have z2 := HZ.out.cell (k := 2) rfl
        have f0 := HZ.out.free 0
        have f1 := HZ.out.free 1
        have f2 := HZ.out.free 2
        have r1 := HR.out.free 1
        have r2 := HR.out.free 2
        go_region
        all_goals go_wp2_with fail
        all_goals
          have HF := hide (((HZ.out.set 0 (.slice none 0 0)).set 1 (.int .i64 0)).set 2 (.int .i64 0)).drew
          refine bodyPost_ret (results_tmp_row rfl _ _ (w.heap.size + 1) 53 _ (0, 0) _ rfl HF.out Try.underlying53 rfl (by kernel_rfl) _ rfl) rfl ?_
          refine ⟨0, by omega, by rw [HE.out, ← HD.out] <;> rfl, by rw [HE.out]; rfl, ?_⟩
          exact (((HBL.out.setCell (by simp) _).setCell (by simp) _).setCell (by simp) _).drew
      · have SD := ((HB.out.up HBL.out).drop a1).take' (k := num) (by omega)
        rw [HD.out] at SD
        have hcv := conv_any (P := Try.prog) 24 9 5 Try.underlying24 Try.underlying5 Try.underlying9 SD (c - a1)
        clear SD
        by_cases hca : a1 = c
        · have h2 : num = 0 := by omega
          subst h2
          have hcv' := conv_any (P := Try.prog) 24 9 5 Try.underlying24 Try.underlying5 Try.underlying9 (bs := rs.take 0) (w := Y) (B := 0) (n := 0) (A := some ⟨bb, off, none⟩) ⟨rfl, fun h => absurd h (by omega)⟩ 0
          have hcc2 : c ≤ a1 := by omega
          clear hcv g1 g2 hrl
          subst hca
          go_upto_region 9 with (fail)
          refine wp_world (fun Y => Hid (RowV Y w.heap.size 53 [.slice (some ⟨bb, off, none⟩) n a1, .int .i64 (a1 : Int), .int .i64 0]) ∧ Hid (RowV Y (w.heap.size + 1) 53 [.slice none 0 0, .int .i64 0, .int .i64 0]) ∧ Hid (Below w.heap.size w Y)) ⟨hide (HR.out.set 1 (.int .i64 (a1 : Int))), hide (HZ.out.set_other (by omega)), hide (HBL.out.setCell (by simp) _)⟩ ?_
          clear HR HZ HBL c0 c1 c2 z0 z1 z2 f0 f1 f2 r1 r2
          rintro Y ⟨HR, HZ, HBL⟩
          have c0 := HR.out.cell (k := 0) rfl
          have c1 := HR.out.cell (k := 1) rfl
          have c2 := HR.out.cell (k := 2) rfl
          have z0 := HZ.out.cell (k := 0) rfl
          have z1 := HZ.out.cell (k := 1) rfl
          have z2 := HZ.out.cell (k := 2) rfl
          have f0 := HZ.out.free 0
          have f1 := HZ.out.free 1
          have f2 := HZ.out.free 2
          have r1 := HR.out.free 1
          have r2 := HR.out.free 2
          go_region
          all_goals go_wp2_with fail
          all_goals
            have HF := hide (((HZ.out.set 0 (.slice (some ⟨bb, off, none⟩) n a1)).set 1 (.int .i64 (a1 : Int))).set 2 (.int .i64 0)).drew
            refine bodyPost_ret (results_tmp_row rfl _ _ (w.heap.size + 1) 53 _ (0, 0) _ rfl HF.out Try.underlying53 rfl (by kernel_rfl) _ rfl) rfl ?_
            refine ⟨a1, by omega, by rw [HE.out, ← HD.out] <;> rfl, by rw [HE.out]; rfl, ?_⟩
            exact (((HBL.out.setCell (by simp) _).setCell (by simp) _).setCell (by simp) _).drew
        · have hca2 : ¬ (c = a1) := by omega
          have a0 : (0 : Int) ≤ (a1 : Int) := by omega
          have a2 : (a1 : Int) ≤ (a1 : Int) + (num : Int) := by omega
          have hw : IntKind.i64.wrap ((a1 : Int) + (num : Int)) = (a1 : Int) + (num : Int) := IntWalk.i64_in _ (by omega)
          clear hrl
          go_upto_region 9 with (fail)
          refine wp_world (fun Y => Hid (RowV Y w.heap.size 53 [.slice (some ⟨bb, off, none⟩) n c, .int .i64 ((a1 : Int) + (num : Int)), .int .i64 0]) ∧ Hid (RowV Y (w.heap.size + 1) 53 [.slice none 0 0, .int .i64 0, .int .i64 0]) ∧ Hid (Below w.heap.size w Y)) ⟨hide (HR.out.set 1 (.int .i64 ((a1 : Int) + (num : Int)))), hide (HZ.out.set_other (by omega)), hide (HBL.out.setCell (by simp) _)⟩ ?_
          clear HR HZ HBL c0 c1 c2 z0 z1 z2 f0 f1 f2 r1 r2
          rintro Y ⟨HR, HZ, HBL⟩
          have c0 := HR.out.cell (k := 0) rfl
          have c1 := HR.out.cell (k := 1) rfl
          have c2 := HR.out.cell (k := 2) rfl
          have z0 := HZ.out.cell (k := 0) rfl
          have z1 := HZ.out.cell (k := 1) rfl
          have z2 := HZ.out.cell (k := 2) rfl
          have f0 := HZ.out.free 0
          have f1 := HZ.out.free 1
          have f2 := HZ.out.free 2
          have r1 := HR.out.free 1
          have r2 := HR.out.free 2
          go_region
          all_goals go_wp2_with fail
          all_goals
            have HF := hide (((HZ.out.set 0 (.slice (some ⟨bb, off, none⟩) n c)).set 1 (.int .i64 ((a1 : Int) + (num : Int)))).set 2 (.int .i64 0)).drew
            refine bodyPost_ret (results_tmp_row rfl _ _ (w.heap.size + 1) 53 _ (0, 0) _ rfl HF.out Try.underlying53 rfl (by kernel_rfl) _ rfl) rfl ?_
            refine ⟨a1 + num, by omega, by rw [HE.out, ← HD.out, List.drop_drop] <;> rfl, by rw [HE.out]; rfl, ?_⟩
            exact (((HBL.out.setCell (by simp) _).setCell (by simp) _).setCell (by simp) _).drew
  · have HE : Hid (res = ([], e, rs)) := hide (by rw [HRES.out, if_pos he])
    have hee : (e != 0) = true := by simpa using he
    clear HRES he hrl
    go_wp2_with fail
    go_region
    all_goals go_wp2_with fail
    all_goals
      have HF := hide (((HZ.out.set 0 (.slice A n c)).set 1 (.int .i64 (a1 : Int))).set 2 (.int .i64 e)).drew
      refine bodyPost_ret (results_tmp_row rfl _ _ (w.heap.size + 1) 53 _ (0, 0) _ rfl HF.out Try.underlying53 rfl (by kernel_rfl) _ rfl) rfl ?_
      refine ⟨a1, by omega, by rw [HE.out, ← HD.out] <;> rfl, by rw [HE.out]; rfl, ?_⟩
      exact (((HBL.out.setCell (by simp) _).setCell (by simp) _).setCell (by simp) _).drew
  -- WORDEND
end Go.Proofs.Ytnlfnjadadfhkaa
