/-
  Revoke: the library's sort of who waits.
-/
import Derived.Test.YtigeccflfdekiaaRevH
import Derived.Shelf.SlSortCmp.NoneTotal
import Derived.Shelf.SlicesG.Cmp
import Derived.Shelf.SlGeneric
import Derived.Ground.SlsfProg
import Derived.Ground.SlgcProg
import Derived.StillTailTactics
namespace Go.Proofs.Ytigeccflfdekiaa
open Go.RowKit Go.Maps Go.Shelf Go.Lib Go.Sort
set_option linter.unusedVariables false

def Try.sortW_ren : Go.Shelf.Ren := ⟨fun | 6 => 37 | 15 => 44 | 14 => 43 | 28 => 54 | 29 => 55 | 20 => 46 | 21 => 47 | 22 => 48 | 23 => 49 | 24 => 50 | 25 => 51 | 26 => 52 | 27 => 53 | 46 => 56 | 47 => 57 | 48 => 58 | 49 => 59 | 50 => 60 | 57 => 61 | n => n, fun | 22 => 47 | 24 => 50 | 25 => 91 | 3 => 3 | 39 => 109 | 0 => 0 | 53 => 119 | 55 => 105 | 4 => 4 | 46 => 113 | 45 => 112 | 50 => 76 | 5 => 5 | 9 => 9 | 66 => 121 | 70 => 125 | 76 => 127 | 77 => 128 | n => n, fun | n => n⟩
theorem Try.sortW : Go.Proofs.SlLaysF0.n6 Try.prog Try.sortW_ren := {
  mixed := by kernel_rfl
  f6 := ⟨Try.f37.name, by decide, Try.func37.trans (congrArg some (by kernel_rfl))⟩
  f14 := ⟨Try.f43.name, by decide, Try.func43.trans (congrArg some (by kernel_rfl))⟩
  f15 := Try.func44.trans (congrArg some (by kernel_rfl))
  f20 := ⟨Try.f46.name, by decide, Try.func46.trans (congrArg some (by kernel_rfl))⟩
  f21 := ⟨Try.f47.name, by decide, Try.func47.trans (congrArg some (by kernel_rfl))⟩
  f22 := ⟨Try.f48.name, by decide, Try.func48.trans (congrArg some (by kernel_rfl))⟩
  f23 := ⟨Try.f49.name, by decide, Try.func49.trans (congrArg some (by kernel_rfl))⟩
  f24 := ⟨Try.f50.name, by decide, Try.func50.trans (congrArg some (by kernel_rfl))⟩
  f25 := ⟨Try.f51.name, by decide, Try.func51.trans (congrArg some (by kernel_rfl))⟩
  f26 := ⟨Try.f52.name, by decide, Try.func52.trans (congrArg some (by kernel_rfl))⟩
  f27 := ⟨Try.f53.name, by decide, Try.func53.trans (congrArg some (by kernel_rfl))⟩
  f28 := Try.func54.trans (congrArg some (by kernel_rfl))
  f29 := Try.func55.trans (congrArg some (by kernel_rfl))
  f46 := ⟨Try.f56.name, by decide, Try.func56.trans (congrArg some (by kernel_rfl))⟩
  f47 := Try.func57.trans (congrArg some (by kernel_rfl))
  f48 := Try.func58.trans (congrArg some (by kernel_rfl))
  f49 := ⟨Try.f59.name, by decide, Try.func59.trans (congrArg some (by kernel_rfl))⟩
  f50 := ⟨Try.f60.name, by decide, Try.func60.trans (congrArg some (by kernel_rfl))⟩
  f57 := ⟨Try.f61.name, by decide, Try.func61.trans (congrArg some (by kernel_rfl))⟩
  t0 := Try.underlying0
  a0 := Try.isAgg0
  z0 := Try.sizeOf0
  v0 := Try.zeroValue0
  t3 := Try.underlying3
  a3 := Try.isAgg3
  z3 := Try.sizeOf3
  v3 := Try.zeroValue3
  t4 := Try.underlying4
  a4 := Try.isAgg4
  z4 := Try.sizeOf4
  v4 := Try.zeroValue4
  t5 := Try.underlying5
  a5 := Try.isAgg5
  z5 := Try.sizeOf5
  v5 := Try.zeroValue5
  t9 := Try.underlying9
  a9 := Try.isAgg9
  z9 := Try.sizeOf9
  v9 := Try.zeroValue9
  t22 := Try.underlying47
  a22 := Try.isAgg47
  z22 := Try.sizeOf47
  v22 := Try.zeroValue47
  t25 := Try.underlying91
  a25 := Try.isAgg91
  z25 := Try.sizeOf91
  v25 := Try.zeroValue91
  t39 := Try.underlying109
  a39 := Try.isAgg109
  z39 := Try.sizeOf109
  v39 := Try.zeroValue109
  t45 := Try.underlying112
  a45 := Try.isAgg112
  z45 := Try.sizeOf112
  v45 := Try.zeroValue112
  t46 := Try.underlying113
  a46 := Try.isAgg113
  z46 := Try.sizeOf113
  v46 := Try.zeroValue113
  t50 := Try.underlying76
  a50 := Try.isAgg76
  z50 := Try.sizeOf76
  v50 := Try.zeroValue76
  t53 := Try.underlying119
  a53 := Try.isAgg119
  z53 := Try.sizeOf119
  v53 := Try.zeroValue119
  t55 := Try.underlying105
  a55 := Try.isAgg105
  z55 := Try.sizeOf105
  v55 := Try.zeroValue105
  t66 := Try.underlying121
  a66 := Try.isAgg121
  z66 := Try.sizeOf121
  v66 := Try.zeroValue121
  t70 := Try.underlying125
  a70 := Try.isAgg125
  z70 := Try.sizeOf125
  v70 := Try.zeroValue125
  t76 := Try.underlying127
  a76 := Try.isAgg127
  z76 := Try.sizeOf127
  v76 := Try.zeroValue127
  t77 := Try.underlying128
  a77 := Try.isAgg128
  z77 := Try.sizeOf128
  v77 := Try.zeroValue128 }
def Try.cmpInt_ren : Go.Shelf.Ren := ⟨fun | 5 => 29 | 7 => 39 | n => n, fun | 22 => 3 | 3 => 3 | 4 => 4 | n => n, fun | n => n⟩
theorem Try.cmpInt : Go.Proofs.SlLaysC2.n5 Try.prog Try.cmpInt_ren := {
  mixed := by kernel_rfl
  f5 := ⟨Try.f29.name, by decide, Try.func29.trans (congrArg some (by kernel_rfl))⟩
  f7 := ⟨Try.f39.name, by decide, Try.func39.trans (congrArg some (by kernel_rfl))⟩
  t3 := Try.underlying3
  a3 := Try.isAgg3
  z3 := Try.sizeOf3
  v3 := Try.zeroValue3
  t4 := Try.underlying4
  a4 := Try.isAgg4
  z4 := Try.sizeOf4
  v4 := Try.zeroValue4
  t22 := Try.underlying3
  a22 := Try.isAgg3
  z22 := Try.sizeOf3
  v22 := Try.zeroValue3 }

def OrAt (a b : Int) (i : Nat) : Prop := (0 < i → a = 0) ∧ (1 < i → b = 0)
/-- cmp.Or of two numbers -/
theorem or_any (a b r : Int) (hr : (if a = 0 then b else a) = r) (g : Nat) (w : World) (h0 : w.cell? ⟨g, 0, none⟩ = some (.int .i64 a)) (h1 : w.cell? ⟨g, 1, none⟩ = some (.int .i64 b)) :
    Calls Try.prog 28 #[.slice (some ⟨g, 0, none⟩) 2 2] w fun e w' => e = .returned (.int .i64 r) ∧ w' = w := by
  have HR := hide hr
  clear hr
  go_enter Try.func28, Try.ntmps28
  go_wp2_with fail
  go_loopw [8] (fun v8 wq => ∃ i : Nat, i ≤ 2 ∧ v8 = .int .i64 i ∧ OrAt a b i ∧ w = wq) (fun v _ => 2 - (intOf v).toNat)
  case atStart => exact ⟨0, by omega, rfl, ⟨by omega, by omega⟩, rfl⟩
  case round =>
    obtain ⟨i, hi, rfl, hab0, rfl⟩ := hrel
    have ha := hide hab0.1; have hb := hide hab0.2
    clear hab0
    have hc : i = 0 ∨ i = 1 ∨ i = 2 := by omega
    rcases hc with rfl | rfl | rfl
    · by_cases h : a = 0
      · have hab : (a != 0) = false := by rw [h]; rfl
        have HA := hide h
        clear ha hb h
        go_wp2_with fail
        go_roundw
        case rel => exact ⟨1, by omega, by go_num, ⟨fun _ => HA.out, by omega⟩, trivial⟩
        case measure => simp [intOf]
      · have hab : (a != 0) = true := by simp [bne, h]
        have HA : Hid (a = r) := hide (by rw [← HR.out, if_neg h])
        clear ha hb h
        go_wp2_with fail
        go_ret
        rw [← HA.out]
        exact ⟨rfl, rfl⟩
    · have HA := hide (ha.out (by omega))
      by_cases h : b = 0
      · have hab : (b != 0) = false := by rw [h]; rfl
        have HB := hide h
        clear ha hb h
        go_wp2_with fail
        go_roundw
        case rel => exact ⟨2, by omega, by go_num, ⟨fun _ => HA.out, fun _ => HB.out⟩, trivial⟩
        case measure => simp [intOf]
      · have hab : (b != 0) = true := by simp [bne, h]
        have HB : Hid (b = r) := hide (by rw [← HR.out, if_pos HA.out])
        clear ha hb h HA
        go_wp2_with fail
        go_ret
        rw [← HB.out]
        exact ⟨rfl, rfl⟩
    · have HB : Hid (0 = r) := hide (by rw [← HR.out, if_pos (ha.out (by omega)), hb.out (by omega)])
      clear ha hb
      go_wp2_with fail
      go_ret
      rw [← HB.out]
      exact ⟨rfl, rfl⟩
def cmpC (x y : Int × Int) : Int := if Lib.compareInt x.1 y.1 = 0 then Lib.compareInt x.2 y.2 else Lib.compareInt x.1 y.1
set_option maxHeartbeats 2000000 in
set_option maxRecDepth 100000 in
/-- the closure of Gone -/
theorem closureW (x y : Int × Int) (W : World) : Calls Try.prog 27 #[.agg #[.int .i64 x.1, .int .i64 x.2], .agg #[.int .i64 y.1, .int .i64 y.2]] W fun e w' => e = .returned (.int .i64 (cmpC x y)) ∧ ∃ q os', w' = grow (W.drewN q) os' := by
  have hcon := fun x y W' => AnyG.cmp_Compare_int Try.cmpInt x y W'
  change ∀ (x y : Int) W', Calls Try.prog 29 _ _ _ at hcon
  have K1 := hide (hcon x.1 y.1)
  have K2 := hide (hcon x.2 y.2)
  clear hcon
  unfold cmpC
  obtain ⟨c1, hc1⟩ : ∃ c, c = Lib.compareInt x.1 y.1 := ⟨_, rfl⟩
  obtain ⟨c2, hc2⟩ : ∃ c, c = Lib.compareInt x.2 y.2 := ⟨_, rfl⟩
  rw [← hc1] at K1 ⊢
  rw [← hc2] at K2 ⊢
  have KO := hide (fun (g : Nat) (w : World) => or_any c1 c2 _ rfl g w)
  obtain ⟨r, hr⟩ : ∃ r, r = (if c1 = 0 then c2 else c1) := ⟨_, rfl⟩
  rw [← hr] at KO ⊢
  clear hc1 hc2 hr
  go_enter Try.func27, Try.ntmps27
  go_wp2_with fail
  obtain ⟨V, hV⟩ : ∃ V, V = (W.alloc (.cells #[.int .i64 x.1, .int .i64 x.2] 50)).alloc (.cells #[.int .i64 y.1, .int .i64 y.2] 50) := ⟨_, rfl⟩
  have k0 : V.cell? ⟨W.heap.size, 0, none⟩ = some (.int .i64 x.1) := by rw [hV]; exact ((RowV.new W 50 [.int .i64 x.1, .int .i64 x.2]).alloc _).cell rfl
  have k1 : V.cell? ⟨W.heap.size, 1, none⟩ = some (.int .i64 x.2) := by rw [hV]; exact ((RowV.new W 50 [.int .i64 x.1, .int .i64 x.2]).alloc _).cell rfl
  have k2 : V.cell? ⟨W.heap.size + 1, 0, none⟩ = some (.int .i64 y.1) := by rw [hV]; have := (RowV.new (W.alloc (.cells #[.int .i64 x.1, .int .i64 x.2] 50)) 50 [.int .i64 y.1, .int .i64 y.2]).cell (k := 0) rfl; rwa [World.size_alloc] at this
  have k3 : V.cell? ⟨W.heap.size + 1, 1, none⟩ = some (.int .i64 y.2) := by rw [hV]; have := (RowV.new (W.alloc (.cells #[.int .i64 x.1, .int .i64 x.2] 50)) 50 [.int .i64 y.1, .int .i64 y.2]).cell (k := 1) rfl; rwa [World.size_alloc] at this
  have HV : Hid (V = grow W #[.cells #[.int .i64 x.1, .int .i64 x.2] 50, .cells #[.int .i64 y.1, .int .i64 y.2] 50]) := hide (by rw [hV, alloc_eq_grow, alloc_eq_grow, grow_grow]; rfl)
  rw [← hV]
  clear hV
  refine wp_region_still_tail 10 (by kernel_rfl) (by kernel_rfl) ?_
  change wpStill _ _ V.drew _ _ _
  simp only [List.take_succ_cons, List.take_zero, List.drop_succ_cons, List.drop_zero]
  iterate 4 still_step
  still_call (K1.out _)
  iterate 4 still_step
  still_call (K2.out _)
  refine wpStill_nil ?_
  change wpList _ _ _ _ _ V.drew
  clear k0 k1 k2 k3
  go_wp2_with fail
  refine (KO.out _ _ ?_ ?_).mono ?_
  · exact (RowV.new V 3 [.int .i64 c1, .int .i64 c2]).cell (k := 0) rfl
  · exact (RowV.new V 3 [.int .i64 c1, .int .i64 c2]).cell (k := 1) rfl
  · rintro e w' ⟨rfl, rfl⟩
    go_wp2_with fail
    go_ret
    refine ⟨rfl, 1, #[.cells #[.int .i64 x.1, .int .i64 x.2] 50, .cells #[.int .i64 y.1, .int .i64 y.2] 50] ++ #[.cells #[.int .i64 c1, .int .i64 c2] 3], ?_⟩
    rw [HV.out, alloc_eq_grow, grow_grow]
    rfl
end Go.Proofs.Ytigeccflfdekiaa
