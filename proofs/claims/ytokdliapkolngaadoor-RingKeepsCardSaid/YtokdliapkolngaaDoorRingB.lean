/-
  Ring: points as the sort sees them; exchanges of ranges, rotations, walked.
-/
import Derived.Test.YtokdliapkolngaaDoorRingA
import Derived.Test.YtokdliapkolngaaDoorMem
import Derived.Shelf.SlSortCmp.KitK
import Derived.Shelf.SlGeneric
import Derived.Ground.SlsfProg
import Derived.Deep.LoopGhost
import Derived.BigRegion
import Derived.RegionTactic
import Derived.Deep.Cut
import Derived.BigQuiet
import Derived.Test.YtokdliapkolngaaDoorChecked
namespace Go.Proofs.YtokdliapkolngaaDoor
open Go.RowKit Go.Sort Go.Shelf
set_option linter.unusedVariables false

/-- a point of a ring of n + 1 regions -/
structure PtN (n : Nat) where
  pl : Int
  rg : Nat
  hp : 0 ≤ pl ∧ pl ≤ 18446744073709551615
  hr : rg ≤ n
instance (n : Nat) : Inhabited (PtN n) := ⟨⟨0, 0, by omega, by omega⟩⟩
def encP {n : Nat} (x : PtN n) : List Value := [.int .u64 x.pl, .int .i64 (x.rg : Int)]
theorem encP_len {n : Nat} (x : PtN n) : (encP x).length = 2 := rfl
theorem encP_one {n : Nat} (x : PtN n) : ∀ v ∈ encP x, v.oneCell' = true := by
  intro v hv; simp [encP] at hv; rcases hv with rfl | rfl <;> rfl
section
variable {n : Nat} {w0 W : World} {blk off : Nat} {d0 dk : Array (PtN n)}
abbrev SWP (w0 : World) (blk off : Nat) (dk : Array (PtN n)) (W : World) : Prop := SWK encP 2 w0 blk off dk W
theorem SWP.spot (h : SWP w0 blk off dk W) (R : RowK encP 2 w0 blk off d0) (hs : dk.size = d0.size) {i : Nat} (hi : i < dk.size) :
    (W.cell? ⟨blk, off + i * 2, none⟩ = some (.int .u64 (dk[i]!).pl) ∧ W.frozen? ⟨blk, off + i * 2, none⟩ = false) ∧ (W.cell? ⟨blk, off + i * 2 + 1, none⟩ = some (.int .i64 ((dk[i]!).rg : Int)) ∧ W.frozen? ⟨blk, off + i * 2 + 1, none⟩ = false) := by
  have hH := SWK.holds h R.hblk R.hH hs
  exact ⟨hH.cell (c := 0) hi (by omega), hH.cell (c := 1) hi (by omega)⟩
/-- an exchange, cell by cell -/
theorem SWP.swap2 (h : SWP w0 blk off dk W) (R : RowK encP 2 w0 blk off d0) {i j : Nat} (hi : i < dk.size) (hj : j < dk.size) :
    SWP w0 blk off (swp dk i j) ((((W.drew.setCell ⟨blk, off + i * 2, none⟩ (.int .u64 (dk[j]!).pl)).setCell ⟨blk, off + i * 2 + 1, none⟩ (.int .i64 ((dk[j]!).rg : Int))).setCell ⟨blk, off + j * 2, none⟩ (.int .u64 (dk[i]!).pl)).setCell ⟨blk, off + j * 2 + 1, none⟩ (.int .i64 ((dk[i]!).rg : Int))) :=
  SWK.swapped h R i j hi hj
end
set_option maxHeartbeats 4000000 in
set_option maxRecDepth 100000 in
theorem swapRange_any {n : Nat} (fv : Value) (blk off cap a b m : Nat) (d0 d : Array (PtN n)) (w0 w : World) (R : RowK encP 2 w0 blk off d0) (hs : d0.size = d.size) (S : SWP w0 blk off d w) (hab : a + m ≤ b) (hb : b + m ≤ d.size) (hsz : d.size ≤ 1000000) :
    Calls Tryd.prog 71 #[.slice (some ⟨blk, off, none⟩) d.size cap, .int .i64 a, .int .i64 b, .int .i64 m, fv] w fun e w' => e = .returned (.tuple #[]) ∧ SWP w0 blk off (swapR a b m d) w' := by
  have S0 := hide S
  clear S
  have HR := hide R
  clear R
  go_enter Tryd.func71, Tryd.ntmps71
  go_wp2_with fail
  go_loopw [10] (fun v10 wq => ∃ i : Nat, i ≤ m ∧ v10 = .int .i64 i ∧ Hid (SWP w0 blk off (swapR a b i d) wq)) (fun v _ => m - (intOf v).toNat)
  case atStart => exact ⟨0, by omega, rfl, S0⟩
  case round =>
    clear S0
    obtain ⟨i, hi, rfl, S1⟩ := hrel
    have hds : (swapR a b i d).size = d.size := swapR_size a b i d
    by_cases hlt : i < m
    · have HDS := hide hds
      obtain ⟨⟨c1, f1⟩, c2, f2⟩ := SWP.spot S1.out HR.out (by omega) (i := a + i) (by omega)
      obtain ⟨⟨c3, f3⟩, c4, f4⟩ := SWP.spot S1.out HR.out (by omega) (i := b + i) (by omega)
      have S2 := hide (SWP.swap2 S1.out HR.out (i := a + i) (j := b + i) (by omega) (by omega))
      clear hds S1
      obtain ⟨x, hx⟩ : ∃ x, x = (swapR a b i d)[a + i]! := ⟨_, rfl⟩
      obtain ⟨y, hy⟩ : ∃ y, y = (swapR a b i d)[b + i]! := ⟨_, rfl⟩
      rw [← hx] at c1 c2 S2
      rw [← hy] at c3 c4 S2
      clear hx hy
      have hi1 : (i : Int) < (m : Int) := by omega
      have z1 : (0 : Int) ≤ (a : Int) + (i : Int) := by omega
      have z2 : (0 : Int) ≤ (b : Int) + (i : Int) := by omega
      have z3 : (a : Int) + (i : Int) < (d.size : Int) := by omega
      have z4 : (b : Int) + (i : Int) < (d.size : Int) := by omega
      have z5 : ((a : Int) + (i : Int)).toNat = a + i := by omega
      have z6 : ((b : Int) + (i : Int)).toNat = b + i := by omega
      go_upto_region 3 with (fail)
      go_region
      clear c1 c2 c3 c4 f1 f2 f3 f4
      go_wp2_with fail
      go_roundw
      case rel => exact ⟨i + 1, by omega, by go_num, S2⟩
      case measure => simp [intOf]; omega
    · obtain rfl : i = m := by omega
      have hge : ¬ ((i : Int) < (i : Int)) := by omega
      go_wp2_with fail
      go_end0
      exact ⟨rfl, S1.out⟩
set_option maxHeartbeats 4000000 in
set_option maxRecDepth 100000 in
theorem rotate_any {n : Nat} (fv : Value) (blk off cap a m b : Nat) (d0 d : Array (PtN n)) (w0 w : World) (R : RowK encP 2 w0 blk off d0) (hs : d0.size = d.size) (S : SWP w0 blk off d w) (ham : a < m) (hmb : m < b) (hb : b ≤ d.size) (hsz : d.size ≤ 1000000) :
    Calls Tryd.prog 63 #[.slice (some ⟨blk, off, none⟩) d.size cap, .int .i64 a, .int .i64 m, .int .i64 b, fv] w fun e w' => e = .returned (.tuple #[]) ∧ ∃ d', Rot a m b d d' ∧ SWP w0 blk off d' w' := by
  have S0 := hide S
  clear S
  have HR := hide R
  clear R
  go_enter Tryd.func63, Tryd.ntmps63
  go_wp2_with fail
  go_loopw [10, 11] (fun v10 v11 wq => ∃ (i j : Nat) (dk : Array (PtN n)), 0 < i ∧ i ≤ m ∧ 0 < j ∧ m + j ≤ d.size ∧ v10 = .int .i64 i ∧ v11 = .int .i64 j ∧ dk.size = d.size ∧ Hid (SWP w0 blk off dk wq) ∧ Hid (∀ d', Rot (m - i) m (m + j) dk d' → Rot a m b d d')) (fun v10 v11 _ => (intOf v10).toNat + (intOf v11).toNat)
  case atStart => exact ⟨m - a, b - m, d, by omega, by omega, by omega, by omega, by go_num, by go_num, rfl, S0, hide (fun d' h => by rwa [show m - (m - a) = a by omega, show m + (b - m) = b by omega] at h)⟩
  case round =>
    clear S0
    obtain ⟨i, j, dk, hi0, him, hj0, hjd, rfl, rfl, hdk, S1, HT⟩ := hrel
    have z1 : (0 : Int) ≤ (m : Int) - (i : Int) := by omega
    rcases Nat.lt_trichotomy i j with h | h | h
    · have hne : ((i : Int) != (j : Int)) = true := by simp; omega
      have hg : ¬ ((j : Int) < (i : Int)) := by omega
      have K0 := swapRange_any fv blk off cap (m - i) (m + j - i) i d0 dk w0 wr HR.out (by omega) S1.out (by omega) (by omega) (by omega)
      rw [hdk, show ((m - i : Nat) : Int) = (m : Int) - (i : Int) by omega, show ((m + j - i : Nat) : Int) = (m : Int) + (j : Int) - (i : Int) by omega] at K0
      have K := hide K0
      clear K0
      go_wp2_with fail
      refine K.out.mono ?_
      rintro e w1 ⟨rfl, hS1⟩
      have S2 := hide hS1
      clear hS1 S1 K
      go_wp2_with fail
      go_roundw
      case rel =>
        refine ⟨i, j - i, _, hi0, him, by omega, by omega, rfl, by go_num, by rw [swapR_size]; exact hdk, S2, hide (fun d' hR => HT.out d' (Rot.less (by omega) h (by omega) hR))⟩
      case measure => simp [intOf]; omega
    · subst h
      have hne : ((i : Int) != (i : Int)) = false := by simp
      have K0 := swapRange_any fv blk off cap (m - i) m i d0 dk w0 wr HR.out (by omega) S1.out (by omega) (by omega) (by omega)
      rw [hdk, show ((m - i : Nat) : Int) = (m : Int) - (i : Int) by omega] at K0
      have K := hide K0
      clear K0
      go_wp2_with fail
      refine K.out.mono ?_
      rintro e w1 ⟨rfl, hS1⟩
      have S2 := hide hS1
      clear hS1 S1 K
      go_wp2_with fail
      go_end0
      exact ⟨rfl, _, HT.out _ (Rot.eq (by omega) (by omega)), S2.out⟩
    · have hne : ((i : Int) != (j : Int)) = true := by simp; omega
      have hg : ((j : Int) < (i : Int)) := by omega
      have K0 := swapRange_any fv blk off cap (m - i) m j d0 dk w0 wr HR.out (by omega) S1.out (by omega) (by omega) (by omega)
      rw [hdk, show ((m - i : Nat) : Int) = (m : Int) - (i : Int) by omega] at K0
      have K := hide K0
      clear K0
      go_wp2_with fail
      refine K.out.mono ?_
      rintro e w1 ⟨rfl, hS1⟩
      have S2 := hide hS1
      clear hS1 S1 K
      go_wp2_with fail
      go_roundw
      case rel =>
        refine ⟨i - j, j, _, by omega, by omega, hj0, hjd, by go_num, rfl, by rw [swapR_size]; exact hdk, S2, hide (fun d' hR => HT.out d' (Rot.more (by omega) h (by omega) hR))⟩
      case measure => simp [intOf]; omega
end Go.Proofs.YtokdliapkolngaaDoor
