/-
  The walks of a writer: number, fail, Int, Bool, Count.
-/
import Derived.Test.YtnlfnjadadfhkaaProg
import Derived.Test.YtnlfnjadadfhkaaWireMath
import Derived.Test.YtnlfnjadadfhkaaOwn
import Derived.Test.YtnlfnjadadfhkaaRow
import Derived.Test.YtnlfnjadadfhkaaSame
import Derived.IntWalk
import Derived.Deep.DeepMust
namespace Go.Proofs.Ytnlfnjadadfhkaa
open Go.RowKit

/-- a writer that has these bytes, and this error -/
def WSt (w : World) (base G T : Nat) (bs : List UInt8) (bad : Int) : Prop := ∃ A c, RowV w G T [.slice A bs.length c, .int .i64 bad] ∧ Own w base 5 A bs.length c (bs.map bv) ∧ (Value.slice A bs.length c).ownBlock ≠ some G
theorem WSt.drew {w : World} {base G T : Nat} {bs : List UInt8} {bad : Int} (h : WSt w base G T bs bad) : WSt w.drew base G T bs bad := h
theorem WSt.below {w w' : World} {base G T : Nat} {bs : List UInt8} {bad : Int} (h : WSt w base G T bs bad) (hb : Below w.heap.size w w') : WSt w' base G T bs bad := by
  obtain ⟨A, c, h1, h2, h3⟩ := h
  exact ⟨A, c, h1.below' hb, h2.below hb, h3⟩
theorem WSt.lt {w : World} {base G T : Nat} {bs : List UInt8} {bad : Int} (h : WSt w base G T bs bad) : G < w.heap.size := by
  obtain ⟨A, c, h1, _⟩ := h; exact h1.lt

theorem or128 (m : Nat) : bits BinOp.or IntKind.u8 ((m : Int) % 256) 128 = ((m % 128 + 128 : Nat) : Int) := by
  have h : ∀ x : Fin 256, bits BinOp.or IntKind.u8 ((x.val : Nat) : Int) 128 = ((x.val % 128 + 128 : Nat) : Int) := by decide +kernel
  have h2 := h ⟨m % 256, Nat.mod_lt _ (by omega)⟩
  simp only at h2
  rw [show ((m : Int) % 256) = ((m % 256 : Nat) : Int) by omega, h2]
  congr 1; omega
theorem u8_of (x : Nat) (h : x < 256) : bv (UInt8.ofNat x) = .int .u8 (x : Int) := by
  unfold bv; rw [UInt8.toNat_ofNat']; congr 2; omega
/-- behind an append the writer's own cells are as they were, and its row is another block -/
theorem app_keeps {w w4 : World} {o : Obj} {A A4 : Option Addr} {q c n4 c4 G T : Nat} {xs : List Value} (hR : RowV w G T xs) (hne : (Value.slice A q c).ownBlock ≠ some G) (hgr : (w.alloc o).grownBy w4 (Value.slice A q c).ownBlock)
    (hor : (Value.slice A4 n4 c4).ownBlock = (Value.slice A q c).ownBlock ∨ (Value.slice A4 n4 c4).ownBlock = some (w.heap.size + 1)) : RowV w4 G T xs ∧ (Value.slice A4 n4 c4).ownBlock ≠ some G := by
  have hlt := hR.lt
  refine ⟨(hgr.block G (by simp; omega) (fun h => hne h.symm)).trans (hR.alloc o), ?_⟩
  rcases hor with h | h
  · rw [h]; exact hne
  · rw [h]; intro e; injection e with e; omega

set_option maxHeartbeats 1000000 in
theorem number_any (base G T : Nat) (n : Nat) (bs : List UInt8) (bad : Int) (w : World) (hS : WSt w base G T bs bad) (hG : base ≤ G) (hn : n < 18446744073709551616) (hlen : bs.length + 10 ≤ 140737488355328) :
    Calls Try.prog 54 #[.pointer (some ⟨G, 0, none⟩), .int .u64 (n : Int)] w fun e w' => e = .returned (.tuple #[]) ∧ WSt w' base G T (bs ++ Wire.num n) bad ∧ Below base w w' := by
  have HS := hide hS; clear hS
  have hGw : base ≤ w.heap.size := by have := HS.out.lt; omega
  go_enter Try.func54, Try.ntmps54
  go_wp2_with fail
  go_loopw [1] (fun v1 wq => ∃ (k m : Nat) (ds : List UInt8), k ≤ 9 ∧ v1 = .int .u64 (m : Int) ∧ m < 128 ^ (k + 1) ∧ m < 18446744073709551616 ∧ ds.length + k = 9 ∧ Hid (ds ++ Wire.numF k m = Wire.num n) ∧ Hid (WSt wq base G T (bs ++ ds) bad) ∧ Hid (Below base w wq)) (fun v _ => (intOf v).toNat)
  case atStart => exact ⟨9, n, [], by omega, rfl, by omega, hn, rfl, hide rfl, hide (by rw [List.append_nil]; exact HS.out), hide (Below.refl _ _)⟩
  case round =>
    clear HS
    obtain ⟨k, m, ds, hk, rfl, hm, hm64, hds, HE, HS, HB⟩ := hrel
    obtain ⟨A, c, hR, hO, hne⟩ := HS.out
    obtain ⟨q, hq⟩ : ∃ q, q = (bs ++ ds).length := ⟨_, rfl⟩
    rw [← hq] at hR hO hne
    have hql : q + 1 ≤ 140737488355328 := by rw [hq]; simp; omega
    have c0 := hR.cell (k := 0) rfl
    have f0 := hR.free 0
    have HR := hide hR; have HO := hide hO; have HNE := hide hne; have HQ := hide hq
    clear hR hO hne hq HS
    by_cases hlow : m < 128
    · have hcmp : ¬ ((128 : Int) ≤ (m : Int)) := by omega
      have hmm : ((m : Int) % 256) = (m : Int) := by omega
      go_wp2_with (at_builtin; go_must (with_reducible refine wpList_app rfl (.tmp 24) (.tmp 27) 24 rfl (.int .u8 0) 1 Try.underlying24 info_u8 (cells_int _ _) rfl (HO.out.alloc _) rfl Sl.one (one_int _ _) (by unfold maxLen; omega) (by omega) (by have := HB.out.size; rw [World.size_alloc]; omega) ?_))
      intro A4 c4 w4 ho hgr hor
      obtain ⟨R4, N4⟩ := app_keeps HR.out HNE.out hgr hor
      have B4 : Hid (Below base w w4) := hide (below_of_grown (HB.out.alloc (by have := HB.out.size; omega) _) hgr (by have := HB.out.size; rw [World.size_alloc]; omega) HO.out.row_ge)
      have d0 := R4.cell (k := 0) rfl
      have g0 := R4.free 0
      have R5 := hide (R4.set 0 (.slice A4 (q + 1) c4))
      have O5 := hide (ownsRow_setCell_other ho (a := ⟨G, 0, none⟩) N4 (.slice A4 (q + 1) c4))
      have B5 := hide (B4.out.setCell (p := ⟨G, 0, none⟩) hG (.slice A4 (q + 1) c4))
      have HN4 := hide N4
      clear R4 N4 B4 ho hgr hor HR HO HNE HB
      go_wp2_with fail
      go_end0
      have hE : bs ++ Wire.num n = (bs ++ ds) ++ [UInt8.ofNat m] := by rw [← HE.out, Wire.numF_low hlow, List.append_assoc]
      have hL : (bs ++ Wire.num n).length = q + 1 := by rw [hE, List.length_append, ← HQ.out]; rfl
      refine ⟨rfl, ⟨A4, c4, ?_, ?_, ?_⟩, B5.out⟩
      · rw [hL]; exact R5.out
      · rw [hL, hE, List.map_append, List.map_append, List.map_cons, List.map_nil, u8_of m (by omega), List.append_assoc]; exact O5.out
      · rw [hL]; exact HN4.out
    · have hcmp : (128 : Int) ≤ (m : Int) := by omega
      have hob := or128 m
      go_wp2_with (at_builtin; go_must (with_reducible refine wpList_app rfl (.tmp 10) (.tmp 14) 24 rfl (.int .u8 0) 1 Try.underlying24 info_u8 (cells_int _ _) rfl (HO.out.alloc _) rfl Sl.one (one_int _ _) (by unfold maxLen; omega) (by omega) (by have := HB.out.size; rw [World.size_alloc]; omega) ?_))
      intro A4 c4 w4 ho hgr hor
      obtain ⟨R4, N4⟩ := app_keeps HR.out HNE.out hgr hor
      have B4 : Hid (Below base w w4) := hide (below_of_grown (HB.out.alloc (by have := HB.out.size; omega) _) hgr (by have := HB.out.size; rw [World.size_alloc]; omega) HO.out.row_ge)
      have d0 := R4.cell (k := 0) rfl
      have g0 := R4.free 0
      have R5 := hide (R4.set 0 (.slice A4 (q + 1) c4))
      have O5 := hide (ownsRow_setCell_other ho (a := ⟨G, 0, none⟩) N4 (.slice A4 (q + 1) c4))
      have B5 := hide (B4.out.setCell (p := ⟨G, 0, none⟩) hG (.slice A4 (q + 1) c4))
      have HN4 := hide N4
      clear R4 N4 B4 ho hgr hor HR HO HNE HB
      obtain ⟨k', rfl⟩ : ∃ k', k = k' + 1 := ⟨k - 1, by
        rcases k with _ | k
        · simp at hm; omega
        · rfl⟩
      have hE2 : (ds ++ [UInt8.ofNat (m % 128 + 128)]) ++ Wire.numF k' (m / 128) = Wire.num n := by rw [← HE.out, Wire.numF_high (by omega), List.append_assoc]; rfl
      have hm2 : m / 128 < 128 ^ (k' + 1) := by
        rw [Nat.div_lt_iff_lt_mul (by omega)]
        rwa [Nat.pow_succ] at hm
      have hS2 : ∀ X : World, RowV X G T [.slice A4 (q + 1) c4, .int .i64 bad] → Own X base 5 A4 (q + 1) c4 (List.map bv bs ++ (List.map bv ds ++ [Value.int .u8 ((m : Int) % 128 + 128)])) → WSt X base G T (bs ++ (ds ++ [UInt8.ofNat (m % 128 + 128)])) bad := fun X h1 h2 => by
        have hL : (bs ++ (ds ++ [UInt8.ofNat (m % 128 + 128)])).length = q + 1 := by rw [HQ.out]; simp; omega
        refine ⟨A4, c4, ?_, ?_, ?_⟩
        · rw [hL]; exact h1
        · rw [hL, List.map_append, List.map_append, List.map_cons, List.map_nil, u8_of _ (by omega), show (((m % 128 + 128 : Nat) : Int)) = (m : Int) % 128 + 128 by omega]; exact h2
        · rw [hL]; exact HN4.out
      have HS2 := hide hS2; have HE2 := hide hE2; have HM2 := hide hm2
      clear hS2 hE2 hm2 hm HE
      go_wp2_with fail
      go_roundw
      case rel => exact ⟨k', m / 128, ds ++ [UInt8.ofNat (m % 128 + 128)], by omega, by go_num, HM2.out, by omega, by simp; omega, HE2, hide (HS2.out _ R5.out O5.out), B5⟩
      case measure => simp [intOf]; omega
end Go.Proofs.Ytnlfnjadadfhkaa
