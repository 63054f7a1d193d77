/-
  The walk of signetref01.bits. (Written by oct_u.py.)
-/
import Derived.Test.YtnjpgcfkplchkaaOctT
namespace Go.Proofs.Ytnjpgcfkplchkaa
open Go.RowKit

theorem info_bool : (Try.prog.info? 4).map (fun i => (i.zero, i.size, i.bytes)) = some (some (.bool false), 1, 1) := by kernel_rfl
theorem cells_bool (b : Bool) : (Value.bool b).cells.size = 1 := rfl
theorem one_bool (b : Bool) : ∀ u ∈ [Value.bool b], u.oneCell' = true := by intro u hu; simp at hu; subst hu; rfl
theorem slice_eq {A : Option Addr} {a b c : Nat} (h : a = b) : Value.slice A a c = .slice A b c := by rw [h]
theorem tv_bool (b : Bool) : tv b = .bool b := rfl
def wt (k : Nat) : Int := [128, 64, 32, 16, 8, 4, 2, 1].getD k 0

set_option maxHeartbeats 1000000 in
theorem bits_any (A : Option Addr) (n c : Nat) (bs : List UInt8) (w : World) (hb : SlB w w.heap.size A n bs) (hn : n ≤ 1073741824) :
    Calls Try.prog 43 #[.slice A n c] w fun e w' => ∃ A2 c2, e = .returned (.slice A2 (8 * n) c2) ∧ Own w' w.heap.size 4 A2 (8 * n) c2 ((Oct.bitsL bs).map tv) ∧ Below w.heap.size w w' := by
  have hlen := hide hb.len
  have HB := hide hb; clear hb
  go_enter Try.func43, Try.ntmps43
  go_wp2_with fail
  go_loopw [3, 4] (fun v3 v4 wr => ∃ (i g : Nat) (A2 : Option Addr) (c2 : Nat), i ≤ n ∧ v4 = .int .i64 i ∧ v3 = .slice A2 g c2 ∧ Hid (g = 8 * i) ∧ Hid (Own wr w.heap.size 4 A2 g c2 ((Oct.bitsL (bs.take i)).map tv)) ∧ Hid (Below w.heap.size w wr)) (fun _ y _ => n - (intOf y).toNat)
  case atStart => exact ⟨0, 0, none, 0, by omega, rfl, rfl, hide rfl, hide Own.nil_, hide (Below.refl _ _)⟩
  case round =>
    obtain ⟨i, g, A2, c2, hi, rfl, rfl, HG, HO, HR⟩ := hrel
    by_cases hlt : i < n
    · obtain ⟨x, X1⟩ : ∃ x, Hid (bs[i]? = some x) := ⟨bs[i]'(by have := hlen.out; omega), List.getElem?_eq_getElem _⟩
      have HS : Hid (Oct.bitsL (bs.take (i + 1)) = Oct.bitsL (bs.take i) ++ Oct.bits8 x.toNat) := hide (by rw [take_snoc X1.out, Oct.bitsL_snoc])
      obtain ⟨L, hL⟩ : ∃ L, L = Oct.bitsL (bs.take i) := ⟨_, rfl⟩
      rw [← hL] at HO HS
      clear hL
      have hx256 := x.toNat_lt
      have hi0 : (0 : Int) ≤ (i : Int) := by omega
      go_wp2_with fail
      go_loopw [3, 5] (fun v3 v5 wr => ∃ (k g2 : Nat) (z : Int) (A3 : Option Addr) (c3 : Nat), k ≤ 8 ∧ v5 = .int .i64 z ∧ v3 = .slice A3 g2 c3 ∧ Hid (z = wt k) ∧ Hid (g2 = 8 * i + k) ∧ Hid (Own wr w.heap.size 4 A3 g2 c3 ((L ++ (Oct.bits8 x.toNat).take k).map tv)) ∧ Hid (Below w.heap.size w wr)) (fun _ y _ => (intOf y).toNat)
      case atStart => exact ⟨0, g, 128, A2, c2, by omega, rfl, rfl, hide rfl, hide (by have := HG.out; omega), hide (by simpa using HO.out), HR⟩
      case round =>
        clear HO HR
        obtain ⟨k, g2, z, A3, c3, hk, rfl, rfl, HZ, HG2, HO, HR⟩ := hrel
        have h8 : k = 0 ∨ k = 1 ∨ k = 2 ∨ k = 3 ∨ k = 4 ∨ k = 5 ∨ k = 6 ∨ k = 7 ∨ k = 8 := by omega
        rcases h8 with rfl | rfl | rfl | rfl | rfl | rfl | rfl | rfl | rfl
        · obtain rfl : z = 128 := HZ.out
          obtain ⟨b', off, y, rfl, hbb, e1, X2⟩ := (HB.out.below HR.out (Nat.le_refl _)).byte (show i < n by omega)
          obtain rfl : y = x := by have := X1.out; rw [X2.out] at this; injection this
          obtain ⟨q, hq⟩ : ∃ q, q = (y.toNat / 128 % 2 == 1) := ⟨_, rfl⟩
          have hqi : (((y.toNat : Int) / 128 % 2) == 1) = q := by rw [hq, Bool.eq_iff_iff, beq_iff_eq, beq_iff_eq]; omega
          have HQ : Hid ((Oct.bits8 y.toNat).take (0 + 1) = (Oct.bits8 y.toNat).take 0 ++ [q]) := hide (by rw [hq]; rfl)
          clear hq
          have hq1 : g2 + 1 ≤ maxLen := by have := HG2.out; unfold maxLen; omega
          have hq2 : (g2 + 1) * 1 ≤ 140737488355328 := by have := HG2.out; omega
          have HSZ := hide HR.out.size
          go_wp2_with (at_builtin; go_must (with_reducible refine wpList_app rfl (.tmp 16) (.tmp 26) 60 rfl (.bool false) 1 Try.underlying60 info_bool (cells_bool _) rfl (HO.out.alloc _) rfl Sl.one (one_bool _) hq1 hq2 (by have := HSZ.out; rw [World.size_alloc]; omega) ?_))
          intro A4 c4 w4 hown hgr hat
          have HR4 : Hid (Below w.heap.size w w4) := hide (below_of_grown (HR.out.alloc HR.out.size _) hgr (by have := HSZ.out; rw [World.size_alloc]; omega) HO.out.row_ge)
          have HO4 : Hid (Own w4 w.heap.size 4 A4 (g2 + 1) c4 ((L ++ (Oct.bits8 y.toNat).take (0 + 1)).map tv)) := hide (by
            rw [HQ.out]; simpa [tv_bool, List.map_take] using hown)
          clear hown hgr hat
          go_wp2_with fail
          go_roundw
          case rel => exact ⟨1, g2 + 1, 64, A4, c4, by omega, rfl, rfl, hide rfl, hide (by have := HG2.out; omega), HO4, HR4⟩
          case measure => simp [intOf]
        · obtain rfl : z = 64 := HZ.out
          obtain ⟨b', off, y, rfl, hbb, e1, X2⟩ := (HB.out.below HR.out (Nat.le_refl _)).byte (show i < n by omega)
          obtain rfl : y = x := by have := X1.out; rw [X2.out] at this; injection this
          obtain ⟨q, hq⟩ : ∃ q, q = (y.toNat / 64 % 2 == 1) := ⟨_, rfl⟩
          have hqi : (((y.toNat : Int) / 64 % 2) == 1) = q := by rw [hq, Bool.eq_iff_iff, beq_iff_eq, beq_iff_eq]; omega
          have HQ : Hid ((Oct.bits8 y.toNat).take (1 + 1) = (Oct.bits8 y.toNat).take 1 ++ [q]) := hide (by rw [hq]; rfl)
          clear hq
          have hq1 : g2 + 1 ≤ maxLen := by have := HG2.out; unfold maxLen; omega
          have hq2 : (g2 + 1) * 1 ≤ 140737488355328 := by have := HG2.out; omega
          have HSZ := hide HR.out.size
          go_wp2_with (at_builtin; go_must (with_reducible refine wpList_app rfl (.tmp 16) (.tmp 26) 60 rfl (.bool false) 1 Try.underlying60 info_bool (cells_bool _) rfl (HO.out.alloc _) rfl Sl.one (one_bool _) hq1 hq2 (by have := HSZ.out; rw [World.size_alloc]; omega) ?_))
          intro A4 c4 w4 hown hgr hat
          have HR4 : Hid (Below w.heap.size w w4) := hide (below_of_grown (HR.out.alloc HR.out.size _) hgr (by have := HSZ.out; rw [World.size_alloc]; omega) HO.out.row_ge)
          have HO4 : Hid (Own w4 w.heap.size 4 A4 (g2 + 1) c4 ((L ++ (Oct.bits8 y.toNat).take (1 + 1)).map tv)) := hide (by
            rw [HQ.out]; simpa [tv_bool, List.map_take] using hown)
          clear hown hgr hat
          go_wp2_with fail
          go_roundw
          case rel => exact ⟨2, g2 + 1, 32, A4, c4, by omega, rfl, rfl, hide rfl, hide (by have := HG2.out; omega), HO4, HR4⟩
          case measure => simp [intOf]
        · obtain rfl : z = 32 := HZ.out
          obtain ⟨b', off, y, rfl, hbb, e1, X2⟩ := (HB.out.below HR.out (Nat.le_refl _)).byte (show i < n by omega)
          obtain rfl : y = x := by have := X1.out; rw [X2.out] at this; injection this
          obtain ⟨q, hq⟩ : ∃ q, q = (y.toNat / 32 % 2 == 1) := ⟨_, rfl⟩
          have hqi : (((y.toNat : Int) / 32 % 2) == 1) = q := by rw [hq, Bool.eq_iff_iff, beq_iff_eq, beq_iff_eq]; omega
          have HQ : Hid ((Oct.bits8 y.toNat).take (2 + 1) = (Oct.bits8 y.toNat).take 2 ++ [q]) := hide (by rw [hq]; rfl)
          clear hq
          have hq1 : g2 + 1 ≤ maxLen := by have := HG2.out; unfold maxLen; omega
          have hq2 : (g2 + 1) * 1 ≤ 140737488355328 := by have := HG2.out; omega
          have HSZ := hide HR.out.size
          go_wp2_with (at_builtin; go_must (with_reducible refine wpList_app rfl (.tmp 16) (.tmp 26) 60 rfl (.bool false) 1 Try.underlying60 info_bool (cells_bool _) rfl (HO.out.alloc _) rfl Sl.one (one_bool _) hq1 hq2 (by have := HSZ.out; rw [World.size_alloc]; omega) ?_))
          intro A4 c4 w4 hown hgr hat
          have HR4 : Hid (Below w.heap.size w w4) := hide (below_of_grown (HR.out.alloc HR.out.size _) hgr (by have := HSZ.out; rw [World.size_alloc]; omega) HO.out.row_ge)
          have HO4 : Hid (Own w4 w.heap.size 4 A4 (g2 + 1) c4 ((L ++ (Oct.bits8 y.toNat).take (2 + 1)).map tv)) := hide (by
            rw [HQ.out]; simpa [tv_bool, List.map_take] using hown)
          clear hown hgr hat
          go_wp2_with fail
          go_roundw
          case rel => exact ⟨3, g2 + 1, 16, A4, c4, by omega, rfl, rfl, hide rfl, hide (by have := HG2.out; omega), HO4, HR4⟩
          case measure => simp [intOf]
        · obtain rfl : z = 16 := HZ.out
          obtain ⟨b', off, y, rfl, hbb, e1, X2⟩ := (HB.out.below HR.out (Nat.le_refl _)).byte (show i < n by omega)
          obtain rfl : y = x := by have := X1.out; rw [X2.out] at this; injection this
          obtain ⟨q, hq⟩ : ∃ q, q = (y.toNat / 16 % 2 == 1) := ⟨_, rfl⟩
          have hqi : (((y.toNat : Int) / 16 % 2) == 1) = q := by rw [hq, Bool.eq_iff_iff, beq_iff_eq, beq_iff_eq]; omega
          have HQ : Hid ((Oct.bits8 y.toNat).take (3 + 1) = (Oct.bits8 y.toNat).take 3 ++ [q]) := hide (by rw [hq]; rfl)
          clear hq
          have hq1 : g2 + 1 ≤ maxLen := by have := HG2.out; unfold maxLen; omega
          have hq2 : (g2 + 1) * 1 ≤ 140737488355328 := by have := HG2.out; omega
          have HSZ := hide HR.out.size
          go_wp2_with (at_builtin; go_must (with_reducible refine wpList_app rfl (.tmp 16) (.tmp 26) 60 rfl (.bool false) 1 Try.underlying60 info_bool (cells_bool _) rfl (HO.out.alloc _) rfl Sl.one (one_bool _) hq1 hq2 (by have := HSZ.out; rw [World.size_alloc]; omega) ?_))
          intro A4 c4 w4 hown hgr hat
          have HR4 : Hid (Below w.heap.size w w4) := hide (below_of_grown (HR.out.alloc HR.out.size _) hgr (by have := HSZ.out; rw [World.size_alloc]; omega) HO.out.row_ge)
          have HO4 : Hid (Own w4 w.heap.size 4 A4 (g2 + 1) c4 ((L ++ (Oct.bits8 y.toNat).take (3 + 1)).map tv)) := hide (by
            rw [HQ.out]; simpa [tv_bool, List.map_take] using hown)
          clear hown hgr hat
          go_wp2_with fail
          go_roundw
          case rel => exact ⟨4, g2 + 1, 8, A4, c4, by omega, rfl, rfl, hide rfl, hide (by have := HG2.out; omega), HO4, HR4⟩
          case measure => simp [intOf]
        · obtain rfl : z = 8 := HZ.out
          obtain ⟨b', off, y, rfl, hbb, e1, X2⟩ := (HB.out.below HR.out (Nat.le_refl _)).byte (show i < n by omega)
          obtain rfl : y = x := by have := X1.out; rw [X2.out] at this; injection this
          obtain ⟨q, hq⟩ : ∃ q, q = (y.toNat / 8 % 2 == 1) := ⟨_, rfl⟩
          have hqi : (((y.toNat : Int) / 8 % 2) == 1) = q := by rw [hq, Bool.eq_iff_iff, beq_iff_eq, beq_iff_eq]; omega
          have HQ : Hid ((Oct.bits8 y.toNat).take (4 + 1) = (Oct.bits8 y.toNat).take 4 ++ [q]) := hide (by rw [hq]; rfl)
          clear hq
          have hq1 : g2 + 1 ≤ maxLen := by have := HG2.out; unfold maxLen; omega
          have hq2 : (g2 + 1) * 1 ≤ 140737488355328 := by have := HG2.out; omega
          have HSZ := hide HR.out.size
          go_wp2_with (at_builtin; go_must (with_reducible refine wpList_app rfl (.tmp 16) (.tmp 26) 60 rfl (.bool false) 1 Try.underlying60 info_bool (cells_bool _) rfl (HO.out.alloc _) rfl Sl.one (one_bool _) hq1 hq2 (by have := HSZ.out; rw [World.size_alloc]; omega) ?_))
          intro A4 c4 w4 hown hgr hat
          have HR4 : Hid (Below w.heap.size w w4) := hide (below_of_grown (HR.out.alloc HR.out.size _) hgr (by have := HSZ.out; rw [World.size_alloc]; omega) HO.out.row_ge)
          have HO4 : Hid (Own w4 w.heap.size 4 A4 (g2 + 1) c4 ((L ++ (Oct.bits8 y.toNat).take (4 + 1)).map tv)) := hide (by
            rw [HQ.out]; simpa [tv_bool, List.map_take] using hown)
          clear hown hgr hat
          go_wp2_with fail
          go_roundw
          case rel => exact ⟨5, g2 + 1, 4, A4, c4, by omega, rfl, rfl, hide rfl, hide (by have := HG2.out; omega), HO4, HR4⟩
          case measure => simp [intOf]
        · obtain rfl : z = 4 := HZ.out
          obtain ⟨b', off, y, rfl, hbb, e1, X2⟩ := (HB.out.below HR.out (Nat.le_refl _)).byte (show i < n by omega)
          obtain rfl : y = x := by have := X1.out; rw [X2.out] at this; injection this
          obtain ⟨q, hq⟩ : ∃ q, q = (y.toNat / 4 % 2 == 1) := ⟨_, rfl⟩
          have hqi : (((y.toNat : Int) / 4 % 2) == 1) = q := by rw [hq, Bool.eq_iff_iff, beq_iff_eq, beq_iff_eq]; omega
          have HQ : Hid ((Oct.bits8 y.toNat).take (5 + 1) = (Oct.bits8 y.toNat).take 5 ++ [q]) := hide (by rw [hq]; rfl)
          clear hq
          have hq1 : g2 + 1 ≤ maxLen := by have := HG2.out; unfold maxLen; omega
          have hq2 : (g2 + 1) * 1 ≤ 140737488355328 := by have := HG2.out; omega
          have HSZ := hide HR.out.size
          go_wp2_with (at_builtin; go_must (with_reducible refine wpList_app rfl (.tmp 16) (.tmp 26) 60 rfl (.bool false) 1 Try.underlying60 info_bool (cells_bool _) rfl (HO.out.alloc _) rfl Sl.one (one_bool _) hq1 hq2 (by have := HSZ.out; rw [World.size_alloc]; omega) ?_))
          intro A4 c4 w4 hown hgr hat
          have HR4 : Hid (Below w.heap.size w w4) := hide (below_of_grown (HR.out.alloc HR.out.size _) hgr (by have := HSZ.out; rw [World.size_alloc]; omega) HO.out.row_ge)
          have HO4 : Hid (Own w4 w.heap.size 4 A4 (g2 + 1) c4 ((L ++ (Oct.bits8 y.toNat).take (5 + 1)).map tv)) := hide (by
            rw [HQ.out]; simpa [tv_bool, List.map_take] using hown)
          clear hown hgr hat
          go_wp2_with fail
          go_roundw
          case rel => exact ⟨6, g2 + 1, 2, A4, c4, by omega, rfl, rfl, hide rfl, hide (by have := HG2.out; omega), HO4, HR4⟩
          case measure => simp [intOf]
        · obtain rfl : z = 2 := HZ.out
          obtain ⟨b', off, y, rfl, hbb, e1, X2⟩ := (HB.out.below HR.out (Nat.le_refl _)).byte (show i < n by omega)
          obtain rfl : y = x := by have := X1.out; rw [X2.out] at this; injection this
          obtain ⟨q, hq⟩ : ∃ q, q = (y.toNat / 2 % 2 == 1) := ⟨_, rfl⟩
          have hqi : (((y.toNat : Int) / 2 % 2) == 1) = q := by rw [hq, Bool.eq_iff_iff, beq_iff_eq, beq_iff_eq]; omega
          have HQ : Hid ((Oct.bits8 y.toNat).take (6 + 1) = (Oct.bits8 y.toNat).take 6 ++ [q]) := hide (by rw [hq]; rfl)
          clear hq
          have hq1 : g2 + 1 ≤ maxLen := by have := HG2.out; unfold maxLen; omega
          have hq2 : (g2 + 1) * 1 ≤ 140737488355328 := by have := HG2.out; omega
          have HSZ := hide HR.out.size
          go_wp2_with (at_builtin; go_must (with_reducible refine wpList_app rfl (.tmp 16) (.tmp 26) 60 rfl (.bool false) 1 Try.underlying60 info_bool (cells_bool _) rfl (HO.out.alloc _) rfl Sl.one (one_bool _) hq1 hq2 (by have := HSZ.out; rw [World.size_alloc]; omega) ?_))
          intro A4 c4 w4 hown hgr hat
          have HR4 : Hid (Below w.heap.size w w4) := hide (below_of_grown (HR.out.alloc HR.out.size _) hgr (by have := HSZ.out; rw [World.size_alloc]; omega) HO.out.row_ge)
          have HO4 : Hid (Own w4 w.heap.size 4 A4 (g2 + 1) c4 ((L ++ (Oct.bits8 y.toNat).take (6 + 1)).map tv)) := hide (by
            rw [HQ.out]; simpa [tv_bool, List.map_take] using hown)
          clear hown hgr hat
          go_wp2_with fail
          go_roundw
          case rel => exact ⟨7, g2 + 1, 1, A4, c4, by omega, rfl, rfl, hide rfl, hide (by have := HG2.out; omega), HO4, HR4⟩
          case measure => simp [intOf]
        · obtain rfl : z = 1 := HZ.out
          obtain ⟨b', off, y, rfl, hbb, e1, X2⟩ := (HB.out.below HR.out (Nat.le_refl _)).byte (show i < n by omega)
          obtain rfl : y = x := by have := X1.out; rw [X2.out] at this; injection this
          obtain ⟨q, hq⟩ : ∃ q, q = (y.toNat / 1 % 2 == 1) := ⟨_, rfl⟩
          have hqi : (((y.toNat : Int) % 2) == 1) = q := by rw [hq, Bool.eq_iff_iff, beq_iff_eq, beq_iff_eq]; omega
          have HQ : Hid ((Oct.bits8 y.toNat).take (7 + 1) = (Oct.bits8 y.toNat).take 7 ++ [q]) := hide (by rw [hq]; rfl)
          clear hq
          have hq1 : g2 + 1 ≤ maxLen := by have := HG2.out; unfold maxLen; omega
          have hq2 : (g2 + 1) * 1 ≤ 140737488355328 := by have := HG2.out; omega
          have HSZ := hide HR.out.size
          go_wp2_with (at_builtin; go_must (with_reducible refine wpList_app rfl (.tmp 16) (.tmp 26) 60 rfl (.bool false) 1 Try.underlying60 info_bool (cells_bool _) rfl (HO.out.alloc _) rfl Sl.one (one_bool _) hq1 hq2 (by have := HSZ.out; rw [World.size_alloc]; omega) ?_))
          intro A4 c4 w4 hown hgr hat
          have HR4 : Hid (Below w.heap.size w w4) := hide (below_of_grown (HR.out.alloc HR.out.size _) hgr (by have := HSZ.out; rw [World.size_alloc]; omega) HO.out.row_ge)
          have HO4 : Hid (Own w4 w.heap.size 4 A4 (g2 + 1) c4 ((L ++ (Oct.bits8 y.toNat).take (7 + 1)).map tv)) := hide (by
            rw [HQ.out]; simpa [tv_bool, List.map_take] using hown)
          clear hown hgr hat
          go_wp2_with fail
          go_roundw
          case rel => exact ⟨8, g2 + 1, 0, A4, c4, by omega, rfl, rfl, hide rfl, hide (by have := HG2.out; omega), HO4, HR4⟩
          case measure => simp [intOf]
        · obtain rfl : z = 0 := HZ.out
          have HO8 : Hid (Own wr w.heap.size 4 A3 g2 c3 ((Oct.bitsL (bs.take (i + 1))).map tv)) := hide (by rw [HS.out]; exact HO.out)
          go_wp2_with fail
          go_roundw
          case rel => exact ⟨i + 1, g2, A3, c3, by omega, by go_num, rfl, hide (by have := HG2.out; omega), HO8, HR⟩
          case measure => simp [intOf]; omega
    · have hin : i = n := by omega
      have hg : g = 8 * n := by have := HG.out; omega
      have HO2 : Hid (Own wr w.heap.size 4 A2 g c2 ((Oct.bitsL bs).map tv)) := hide (by
        have := HO.out
        rwa [List.take_of_length_le (by have := hlen.out; omega)] at this)
      have HGN := hide hg
      clear hin hg
      go_wp2_with fail
      go_ret
      have e := HGN.out
      subst e
      exact ⟨_, _, rfl, HO2.out, HR.out⟩
end Go.Proofs.Ytnjpgcfkplchkaa
