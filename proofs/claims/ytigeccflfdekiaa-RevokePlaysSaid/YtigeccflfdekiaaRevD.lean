/-
  Revoke: the document's Same; known.
-/
import Derived.Test.YtigeccflfdekiaaRevC
namespace Go.Proofs.Ytigeccflfdekiaa
open Go.RowKit Go.Maps
set_option linter.unusedVariables false

theorem strs_snoc {xs ys : List ByteArray} {i : Nat} {x : ByteArray} (h : xs.take i = ys.take i) (hx : xs[i]? = some x) (hy : ys[i]? = some x) : xs.take (i + 1) = ys.take (i + 1) := by
  rw [List.take_add_one, List.take_add_one, h, hx, hy]
set_option maxHeartbeats 2000000 in
theorem rsame_any (A A' : Option Addr) (n m c c' : Nat) (xs ys : List ByteArray) (w : World) (ha : Sl w w.heap.size A n (xs.map (Value.string))) (hb : Sl w w.heap.size A' m (ys.map (Value.string))) (hn : n ≤ 9223372036854775807) :
    Calls Try.prog 16 #[.slice A n c, .slice A' m c'] w fun e w' => e = .returned (.bool (decide (xs = ys))) ∧ Below w.heap.size w w' := by
  have hxl : xs.length = n := by simpa using ha.1
  have hyl : ys.length = m := by simpa using hb.1
  by_cases hnm : n = m
  · subst hnm
    have HXL := hide hxl; have HYL := hide hyl; have HA := hide ha; have HB := hide hb
    clear hxl hyl ha hb
    go_enter Try.func16, Try.ntmps16
    go_wp2_with fail
    go_loopw [5] (fun v5 wq => ∃ i : Nat, i ≤ n ∧ v5 = .int .i64 i ∧ Hid (xs.take i = ys.take i) ∧ Hid (Below w.heap.size w wq)) (fun v _ => n - (intOf v).toNat)
    case atStart => exact ⟨0, by omega, rfl, hide rfl, hide (Below.refl _ _)⟩
    case round =>
      obtain ⟨i, hi, rfl, HE, HW⟩ := hrel
      by_cases hlt : i < n
      · obtain ⟨x, hx⟩ : ∃ x, xs[i]? = some x := ⟨_, List.getElem?_eq_getElem (by rw [HXL.out]; exact hlt)⟩
        obtain ⟨y, hy⟩ : ∃ y, ys[i]? = some y := ⟨_, List.getElem?_eq_getElem (by rw [HYL.out]; exact hlt)⟩
        obtain ⟨b1, o1, u1, rfl, hb1, hu1, k1⟩ := HA.out.at_ hlt
        obtain ⟨b2, o2, u2, rfl, hb2, hu2, k2⟩ := HB.out.at_ hlt
        rw [List.getElem?_map, hx] at hu1
        injection hu1 with hu1; subst hu1
        rw [List.getElem?_map, hy] at hu2
        injection hu2 with hu2; subst hu2
        have c1 : wr.cell? ⟨b1, o1 + i, none⟩ = some (.string x) := (HW.out.cell (p := ⟨b1, o1 + i, none⟩) hb1).trans k1
        have c2 : wr.cell? ⟨b2, o2 + i, none⟩ = some (.string y) := (HW.out.cell (p := ⟨b2, o2 + i, none⟩) hb2).trans k2
        have HX := hide hx; have HY := hide hy
        clear hx hy k1 k2
        have hi1 : (i : Int) < (n : Int) := by omega
        have hi0 : (0 : Int) ≤ (i : Int) := by omega
        have hte := text_eq x y
        by_cases hxy : x = y
        · rw [decide_eq_true hxy] at hte
          have hne : (x.toList != y.toList) = false := by unfold bne; rw [hte]; rfl
          have HXE : Hid (xs[i]? = some y) := hide (by rw [← hxy]; exact HX.out)
          clear hxy
          go_wp2_with fail
          go_quiet (fail)
          go_wp2_with fail
          go_roundw
          case rel => exact ⟨i + 1, by omega, by go_num, hide (strs_snoc HE.out HXE.out HY.out), hide (below_drewN HW.out _)⟩
          case measure => simp [intOf]; omega
        · rw [decide_eq_false hxy] at hte
          have hne : (x.toList != y.toList) = true := by unfold bne; rw [hte]; rfl
          have HNE : Hid (xs ≠ ys) := hide (fun h => hxy (by have := HX.out; rw [h, HY.out] at this; injection this with this; exact this.symm))
          clear hxy
          go_wp2_with fail
          go_quiet (fail)
          go_wp2_with fail
          go_ret
          exact ⟨by rw [decide_eq_false HNE.out]; rfl, below_drewN HW.out _⟩
      · have HALL : Hid (xs = ys) := hide (by
          have h := HE.out
          rwa [List.take_of_length_le (by rw [HXL.out]; omega), List.take_of_length_le (by rw [HYL.out]; omega)] at h)
        have hge : ¬ ((i : Int) < (n : Int)) := by omega
        go_wp2_with fail
        go_ret
        exact ⟨by rw [decide_eq_true HALL.out]; rfl, HW.out⟩
  · have hne : ((n : Int) != (m : Int)) = true := by simp; omega
    have HNE : Hid (xs ≠ ys) := hide (fun h => hnm (by rw [← hxl, ← hyl, h]))
    clear hnm hxl hyl ha hb
    go_enter Try.func16, Try.ntmps16
    go_wp2_with fail
    go_ret
    exact ⟨by rw [decide_eq_false HNE.out]; rfl, Below.refl _ _⟩
def kFam : Fam := ⟨fB, ByteArray.empty, ByteArray.empty, none, 0, 0, ByteArray.empty, ByteArray.empty, ByteArray.empty, 0, none, 0, 0, false, [1]⟩
def kNo : ByteArray → Int → Bool := fun _ _ => false
def kN : ByteArray → Int → Option Int := noteN (fun _ _ => none) fB 1 0
def kR1 : TS := tellI kNo 5 10 2 (fun _ => none) kN [kFam]
def kR2 : TS := tellI kNo 6 10 2 kR1.T kR1.N [kFam]
def kR3 : TS := tellI kNo 7 10 2 kR2.T kR2.N [kFam]
def kR4 : TS := tellI kNo 11 10 2 kR3.T kR3.N [kFam]
theorem kR1_tell : kR1.tell = [⟨fB, 1⟩] := by kernel_rfl
theorem kR2_tell : kR2.tell = [] := by kernel_rfl
theorem kR3_tell : kR3.tell = [⟨fB, 1⟩] := by kernel_rfl
theorem kR4_done : kR4.done = [fB] := by kernel_rfl
end Go.Proofs.Ytigeccflfdekiaa
