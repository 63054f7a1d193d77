/-
  Ring: Names, Points, walked.
-/
import Derived.Test.YtokdliapkolngaaDoorRingJ
namespace Go.Proofs.YtokdliapkolngaaDoor
open Go.RowKit Go.Sort Go.Shelf
set_option linter.unusedVariables false

set_option maxHeartbeats 4000000 in
set_option maxRecDepth 100000 in
theorem names_nil (w : World) : Calls Tryd.prog 13 #[.pointer none] w fun e w' => e = .returned (.slice none 0 0) ∧ w' = w := by
  go_enter Tryd.func13, Tryd.ntmps13
  go_wp2_with fail
  go_ret
  exact ⟨rfl, rfl⟩
set_option maxHeartbeats 4000000 in
set_option maxRecDepth 100000 in
theorem points_nil (w : World) : Calls Tryd.prog 16 #[.pointer none] w fun e w' => e = .returned (.slice none 0 0) ∧ w' = w := by
  go_enter Tryd.func16, Tryd.ntmps16
  go_wp2_with fail
  go_ret
  exact ⟨rfl, rfl⟩
set_option maxHeartbeats 4000000 in
set_option maxRecDepth 100000 in
theorem names_any {n : Nat} (base g each : Nat) (names : List ByteArray) (pts : List (PtN n)) (w : World) (h : RingSt w base g names each pts) (hbase : base ≤ w.heap.size) (h0 : 0 < names.length) (h8 : names.length ≤ 1000000) :
    Calls Tryd.prog 13 #[.pointer (some ⟨g, 0, none⟩)] w fun e w' => ∃ A c, e = .returned (.slice A names.length c) ∧ Own w' w.heap.size 9 A names.length c (names.map Value.string) ∧ Below w.heap.size w w' := by
  obtain ⟨An, cn, Ap, cp, h1, h2, h3⟩ := h.ex
  have K := hide (cloneS_any An names.length cn names w (h2.sl) h0 h8)
  have q0 := h1.cell (k := 0) rfl
  obtain ⟨L, hL⟩ : ∃ L, L = names.length := ⟨_, rfl⟩
  rw [← hL] at q0 K ⊢
  clear h h1 h2 h3 h0 h8 hL hbase
  go_enter Tryd.func13, Tryd.ntmps13
  go_wp2_with fail
  refine K.out.mono ?_
  rintro e w1 ⟨A', c', rfl, ho, hb⟩
  have HO := hide ho; have HB := hide hb
  clear ho hb K q0
  go_wp2_with fail
  go_ret
  exact ⟨A', c', rfl, HO.out, HB.out⟩
set_option maxHeartbeats 4000000 in
set_option maxRecDepth 100000 in
theorem points_any {n : Nat} (base g each : Nat) (names : List ByteArray) (pts : List (PtN n)) (w : World) (h : RingSt w base g names each pts) (hbase : base ≤ w.heap.size) (h0 : 0 < pts.length) (h8 : pts.length ≤ 1000000) :
    Calls Tryd.prog 16 #[.pointer (some ⟨g, 0, none⟩)] w fun e w' => ∃ A c, e = .returned (.slice A pts.length c) ∧ OwnS 2 w' w.heap.size 39 A pts.length c (pts.flatMap encP) ∧ Below w.heap.size w w' := by
  obtain ⟨An, cn, Ap, cp, h1, h2, h3⟩ := h.ex
  have K := hide (cloneP_any Ap pts.length cp base pts w h3 rfl h0 h8)
  have q0 := h1.cell (k := 2) rfl
  obtain ⟨L, hL⟩ : ∃ L, L = pts.length := ⟨_, rfl⟩
  rw [← hL] at q0 K ⊢
  clear h h1 h2 h3 h0 h8 hL hbase
  go_enter Tryd.func16, Tryd.ntmps16
  go_wp2_with fail
  refine K.out.mono ?_
  rintro e w1 ⟨A', c', rfl, ho, hb⟩
  have HO := hide ho; have HB := hide hb
  clear ho hb K q0
  go_wp2_with fail
  go_ret
  exact ⟨A', c', rfl, HO.out, HB.out⟩
end Go.Proofs.YtokdliapkolngaaDoor
