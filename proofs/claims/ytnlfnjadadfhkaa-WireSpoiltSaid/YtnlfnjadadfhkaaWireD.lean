/-
  The walks of four, Frame.
-/
import Derived.Test.YtnlfnjadadfhkaaWireC
import Derived.Test.YtnlfnjadadfhkaaCrcB
import Derived.Test.YtnlfnjadadfhkaaExt
import Derived.Deep.RegionHeld3
namespace Go.Proofs.Ytnlfnjadadfhkaa
open Go.RowKit

theorem four_cells (n : Nat) : (Wire.four n).map bv = [.int .u8 ((n / 16777216 % 256 : Nat) : Int), .int .u8 ((n / 65536 % 256 : Nat) : Int), .int .u8 ((n / 256 % 256 : Nat) : Int), .int .u8 ((n % 256 : Nat) : Int)] := by
  unfold Wire.four
  simp only [List.map_cons, List.map_nil]
  rw [u8_of _ (by omega), u8_of _ (by omega), u8_of _ (by omega), u8_of _ (by omega)]
theorem four_lit (v : Nat) (hv : v < 4294967296) : [Value.int .u8 ((v : Int) / 16777216), .int .u8 ((v : Int) / 65536 % 256), .int .u8 ((v : Int) / 256 % 256), .int .u8 ((v : Int) % 256)] = (Wire.four v).map bv := by
  rw [four_cells]
  congr 1
  · congr 1; omega
theorem Sl.lit {w : World} {cs : Array Value} {t n : Nat} {xs : List Value} (h : cs = xs.toArray) (hn : xs.length = n) : Sl (w.alloc (.cells cs t)) (w.heap.size + 1) (some ⟨w.heap.size, 0, none⟩) n xs := by
  subst h
  refine ⟨hn, fun _ => ⟨w.heap.size, 0, rfl, by omega, fun k u hu => ?_⟩⟩
  rw [cell_of_row _ _ _ _ _ _ (heap_alloc_new w _)]
  simpa using hu
set_option maxHeartbeats 1000000 in
theorem four_any (base : Nat) (A : Option Addr) (m c : Nat) (v : Nat) (bs : List UInt8) (w : World) (ho : Own w base 5 A m c (bs.map bv)) (hw : base ≤ w.heap.size) (hv : v < 4294967296) (hm : m ≤ 140737488355320) :
    Calls Try.prog 39 #[.slice A m c, .int .u32 (v : Int)] w fun e w' => ∃ A2 c2, e = .returned (.slice A2 (m + 4) c2) ∧ Own w' base 5 A2 (m + 4) c2 ((bs ++ Wire.four v).map bv) ∧ Below base w w' := by
  have HO := hide ho; clear ho
  go_enter Try.func39, Try.ntmps39
  have HFL := hide (four_lit v hv)
  have h1 : ∀ u ∈ [Value.int .u8 ((v : Int) / 16777216), .int .u8 ((v : Int) / 65536 % 256), .int .u8 ((v : Int) / 256 % 256), .int .u8 ((v : Int) % 256)], u.oneCell' = true := by
    intro u hu; simp at hu; rcases hu with rfl | rfl | rfl | rfl <;> rfl
  have H1 := hide h1; clear h1
  have HSL := hide (Sl.lit (w := w) (t := 5) (n := 4) (cs := #[Value.int .u8 ((v : Int) / 16777216), .int .u8 ((v : Int) / 65536 % 256), .int .u8 ((v : Int) / 256 % 256), .int .u8 ((v : Int) % 256)]) (xs := [Value.int .u8 ((v : Int) / 16777216), .int .u8 ((v : Int) / 65536 % 256), .int .u8 ((v : Int) / 256 % 256), .int .u8 ((v : Int) % 256)]) rfl rfl)
  go_wp2_with (at_builtin; go_must (with_reducible refine wpList_app rfl (.tmp 5) (.tmp 17) 24 rfl (.int .u8 0) 1 Try.underlying24 info_u8 (cells_int _ _) rfl (HO.out.alloc _) rfl HSL.out H1.out (by unfold maxLen; omega) (by omega) (by rw [World.size_alloc]; omega) ?_))
  intro A4 c4 w4 ho hgr _
  have B4 : Hid (Below base w w4) := hide (below_of_grown ((Below.refl _ _).alloc hw _) hgr (by rw [World.size_alloc]; omega) HO.out.row_ge)
  have O4 : Hid (Own w4 base 5 A4 (m + 4) c4 ((bs ++ Wire.four v).map bv)) := hide (by rw [List.map_append, ← HFL.out]; exact ho)
  clear ho hgr
  go_wp2_with fail
  go_ret
  exact ⟨_, _, rfl, O4.out, B4.out⟩
/-- the frame, or the error -/
def Wire.frame (bs : List UInt8) : List UInt8 := Wire.four bs.length ++ Wire.four (Crc.more 0 bs) ++ bs
def Wire.said (bs : List UInt8) (bad : Int) : List UInt8 × Int := if bad ≠ 0 then ([], bad) else if 65536 < bs.length then ([], 2) else (Wire.frame bs, 0)
theorem four_length (n : Nat) : (Wire.four n).length = 4 := rfl
theorem frame_length (bs : List UInt8) : (Wire.frame bs).length = bs.length + 8 := by unfold Wire.frame; simp [four_length]; omega
theorem frame_nil (w : World) : Calls Try.prog 19 #[.pointer none] w fun e w' => e = .returned (.tuple #[.slice none 0 0, .int .i64 12]) ∧ w = w' := by
  go_enter Try.func19, Try.ntmps19
  go_wp2_with fail
  go_ret2
  exact ⟨rfl, rfl⟩
theorem wire_make (n : Nat) (hn : n ≤ 281474976710656) (W : World) :
    (Instr.makeSlice 24 (.int .i64 0) (.int .i64 (n : Int))).run Try.prog W = .ok (.slice (some ⟨W.heap.size, 0, none⟩) 0 n) (W.alloc (.cells (Array.replicate n (Value.int .u8 0)) 5)) := by
  obtain ⟨i0, hi, hz0, hz1, hz2⟩ := info_parts info_u8
  have h := run_make (P := Try.prog) (w := W) 24 5 i0 (.int .u8 0) Try.underlying24 hi hz0 .i64 .i64 (0 : Int) (n : Int) (by omega) (by omega) (by rw [hz2]; omega) (by omega)
  rw [h, hz1]
  simp only [Int.toNat_natCast, Nat.mul_one]
  congr 3
  apply Array.ext
  · simp [size_madeCells]
  · intro i h1 h2
    simp [madeCells, Value.cells, Nat.mod_one]
theorem heldc_keep {w W X : World} {n G : Nat} {v : Value} (hb : Below n W X) (hn : n = w.heap.size) (hG : G < w.heap.size) (h : Below w.heap.size w W ∧ W.cell? ⟨G, 0, none⟩ = some v) : Below w.heap.size w X ∧ X.cell? ⟨G, 0, none⟩ = some v := by
  subst hn
  exact ⟨h.1.trans hb, (hb.cell (p := ⟨G, 0, none⟩) hG).trans h.2⟩
theorem heldc_alloc {w W : World} {G : Nat} {o : Obj} {v : Value} (hG : G < w.heap.size) (h : Below w.heap.size w W ∧ W.cell? ⟨G, 0, none⟩ = some v) : Below w.heap.size w (W.alloc o) ∧ (W.alloc o).cell? ⟨G, 0, none⟩ = some v :=
  heldc_keep ((Below.refl _ _).alloc (h.1.size) _) rfl hG h
theorem heldc_drew {w W : World} {G : Nat} {v : Value} (h : Below w.heap.size w W ∧ W.cell? ⟨G, 0, none⟩ = some v) : Below w.heap.size w W.drew ∧ W.drew.cell? ⟨G, 0, none⟩ = some v := ⟨h.1.drew, h.2⟩
set_option maxHeartbeats 2000000 in
set_option maxRecDepth 100000 in
theorem frame_any (base G : Nat) (bs : List UInt8) (bad : Int) (w : World) (hS : WSt w base G 76 bs bad) (hG : base ≤ G) (hlen : bs.length ≤ 140737488355000) :
    Calls Try.prog 19 #[.pointer (some ⟨G, 0, none⟩)] w fun e w' => ∃ A c, e = .returned (.tuple #[.slice A (Wire.said bs bad).1.length c, .int .i64 (Wire.said bs bad).2]) ∧ Own w' w.heap.size 5 A (Wire.said bs bad).1.length c ((Wire.said bs bad).1.map bv) ∧ Below w.heap.size w w' := by
  obtain ⟨A, c, hR, hO, hne⟩ := hS
  obtain ⟨q, hq⟩ : ∃ q, q = bs.length := ⟨_, rfl⟩
  rw [← hq] at hR hO hne hlen
  have c0 := hR.cell (k := 0) rfl
  have c1 := hR.cell (k := 1) rfl
  have hlt := hR.lt
  have HR := hide hR; have HO := hide hO; have HNE := hide hne; have HQ := hide hq
  clear hR hO hne hq
  by_cases hb : bad = 0
  · subst hb
    by_cases hl : 65536 < q
    · have hli : (65536 : Int) < (q : Int) := by omega
      have HE : Hid (Wire.said bs 0 = ([], 2)) := hide (by unfold Wire.said; rw [if_neg (by simp), if_pos (by rw [← HQ.out]; exact hl)])
      go_enter Try.func19, Try.ntmps19
      go_wp2_with fail
      go_ret2
      rw [HE.out]
      exact ⟨none, 0, rfl, Own.nil_, Below.refl _ _⟩
    · have hli : ¬ ((65536 : Int) < (q : Int)) := by omega
      have HE : Hid (Wire.said bs 0 = (Wire.frame bs, 0)) := hide (by unfold Wire.said; rw [if_neg (by simp), if_neg (by rw [← HQ.out]; exact hl)])
      have hmk := wire_make (q + 8) (by omega)
      rw [show (((q + 8 : Nat)) : Int) = (q : Int) + 8 by omega] at hmk
      have hw8 : IntKind.i64.wrap ((q : Int) + 8) = (q : Int) + 8 := IntWalk.i64_in _ (by omega)
      have hw32 : IntKind.u32.wrap (q : Int) = (q : Int) := by show (q : Int) % 4294967296 = _; omega
      go_enter Try.func19, Try.ntmps19
      go_upto_region 7 with (fail)
      have hS0 : Below w.heap.size w w.drew ∧ w.drew.cell? ⟨G, 0, none⟩ = some (.slice A q c) := ⟨(Below.refl _ _).drew, c0⟩
      have HMB := hide (made_block w (q + 8) 5)
      go_region_held3 (fun W => Below w.heap.size w W ∧ W.cell? ⟨G, 0, none⟩ = some (.slice A q c))
        (first | assumption | exact heldc_keep (by assumption) rfl hlt (by assumption) | exact heldc_alloc hlt (by assumption) | exact heldc_drew (heldc_alloc hlt (by assumption))) (first
        | (go_at_call 39; with_reducible refine (four_any w.heap.size _ 0 (q + 8) q [] _ ?h1 ?h2 (by omega) (by omega)).mono ?_
           case h1 => exact Own.of_made (k := 0) HMB.out (Nat.le_refl _) (by simp) (by unfold maxLen; omega) (by omega)
           case h2 => (simp; done)
           rintro e w2 ⟨A2, c2, rfl, ho, hb⟩
           rw [Nat.zero_add] at ho ⊢
           have O2 := hide ho; clear ho))
      have hH : Below w.heap.size w w2 ∧ w2.cell? ⟨G, 0, none⟩ = some (.slice A q c) := by assumption
      have B2 := hide hH.1
      have d2 := hH.2
      have SB : Hid (SlB w w.heap.size A q bs) := hide HO.out.sl
      rw [List.nil_append] at O2
      clear hH hS0 HMB hmk hb
      go_wp2_with fail
      refine (csum_any A q c bs _ (SB.out.up B2.out) (by omega)).mono ?_
      rintro e w3 ⟨rfl, hb⟩
      have O3 := hide (O2.out.below hb)
      have B3 := hide (B2.out.trans (hb.mono B2.out.size))
      clear hb O2
      go_wp2_with fail
      refine (four_any w.heap.size A2 4 c2 (Crc.more 0 bs) (Wire.four q) _ O3.out B3.out.size (Crc.more_lt _ _) (by omega)).mono ?_
      rintro e w4 ⟨A4, c4, rfl, ho, hb⟩
      have O4 := hide ho
      have B4 := hide (B3.out.trans hb)
      have d4 := (B4.out.cell (p := ⟨G, 0, none⟩) hlt).trans c0
      have S4 := hide (SB.out.up B4.out)
      clear ho hb O3 d2
      go_wp2_with (at_builtin; go_must (with_reducible refine wpList_app rfl (.tmp 52) (.tmp 57) 24 rfl (.int .u8 0) 1 Try.underlying24 info_u8 (cells_int _ _) rfl O4.out rfl S4.out.sl (bytes_oneCell bs) (by unfold maxLen; omega) (by omega) B4.out.size ?_))
      intro A5 c5 w5 ho hgr _
      have B5 : Hid (Below w.heap.size w w5) := hide (below_of_grown B4.out hgr B4.out.size O4.out.row_ge)
      have O5 := hide ho
      clear ho hgr
      go_wp2_with fail
      go_ret2
      rw [HE.out]
      have hfl : (Wire.frame bs).length = 8 + q := by rw [frame_length, HQ.out]; omega
      refine ⟨A5, c5, ?_, ?_, B5.out⟩
      · rw [hfl]; rfl
      · rw [hfl]; unfold Wire.frame; rw [List.map_append, List.map_append, ← HQ.out, List.append_assoc]; exact O5.out
  · have hbb : (bad == 0) = false := by simpa using hb
    have hbn : (bad != 0) = true := by simpa using hb
    have HE : Hid (Wire.said bs bad = ([], bad)) := hide (by unfold Wire.said; rw [if_pos hb])
    go_enter Try.func19, Try.ntmps19
    go_upto_region 4 with (fail)
    go_region
    all_goals go_wp2_with fail
    all_goals go_ret2
    all_goals rw [HE.out]
    all_goals exact ⟨none, 0, rfl, Own.nil_, (Below.refl _ _).drew⟩
end Go.Proofs.Ytnlfnjadadfhkaa
