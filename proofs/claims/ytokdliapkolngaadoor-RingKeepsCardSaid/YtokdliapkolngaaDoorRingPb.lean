/-
  Ring: Without, walked.
-/
import Derived.Test.YtokdliapkolngaaDoorRingP
import Derived.IntWalk
namespace Go.Proofs.YtokdliapkolngaaDoor
open Go.RowKit Go.Sort Go.Shelf
set_option linter.unusedVariables false

theorem idx_none (x : ByteArray) (zs : List ByteArray) (h : x ∉ zs) : Lib.idxOfS zs x = -1 := Lib.idxFromS_miss x zs 0 fun j hj e => h (by
  rw [List.getD_eq_getElem?_getD, List.getElem?_eq_getElem hj] at e
  exact e ▸ List.getElem_mem hj)
set_option maxHeartbeats 4000000 in
set_option maxRecDepth 100000 in
theorem without_none {n : Nat} (base g each : Nat) (names : List ByteArray) (pts : List (PtN n)) (s : ByteArray) (w : World) (h : RingSt w base g names each pts) (h0 : 0 < names.length) (h8 : names.length ≤ 1000000) (hs : s ∉ names) :
    Calls Tryd.prog 10 #[.pointer (some ⟨g, 0, none⟩), .string s] w fun e w' => e = .returned (.tuple #[.pointer none, .int .i64 7]) ∧ w' = w := by
  obtain ⟨An, cn, Ap, cp, h1, h2, h3⟩ := h.ex
  have KI := indexS_any An names.length cn names s w w.heap.size h2.sl h0 h8
  rw [idx_none s names hs] at KI
  have HKI := hide KI
  have c0 := h1.cell (k := 0) rfl
  obtain ⟨L, hL⟩ : ∃ L, L = names.length := ⟨_, rfl⟩
  rw [← hL] at c0 HKI
  clear h h1 h2 h3 KI h0 h8 hL hs
  go_enter Tryd.func10, Tryd.ntmps10
  go_wp2_with fail
  refine HKI.out.mono ?_
  rintro e w2 ⟨rfl, rfl⟩
  clear HKI
  go_wp2_with fail
  go_ret2
  exact ⟨rfl, rfl⟩
set_option maxHeartbeats 8000000 in
set_option maxRecDepth 100000 in
theorem without_any {n : Nat} (base g each i : Nat) (names : List ByteArray) (pts : List (PtN n)) (s : ByteArray) (w : World) (h : RingSt w base g names each pts) (hbase : base ≤ w.heap.size) (h0 : 0 < names.length) (h8 : names.length ≤ 1000000) (hi : names[i]? = some s) (hf : s ∉ names.take i) :
    Calls Tryd.prog 10 #[.pointer (some ⟨g, 0, none⟩), .string s] w fun e w' => ∃ w1, Below w.heap.size w w1 ∧ GivesN (each : Int) (names.eraseIdx i) w1 e w' := by
  obtain ⟨An, cn, Ap, cp, h1, h2, h3⟩ := h.ex
  have hil : i < names.length := (List.getElem?_eq_some_iff.1 hi).1
  have KI := indexS_any An names.length cn names s w w.heap.size h2.sl h0 h8
  rw [show Lib.idxOfS names s = ((i : Nat) : Int) by have := (idx_first names i 0 hi).2 hf; rw [Nat.zero_add] at this; exact this] at KI
  obtain ⟨L, hL⟩ : ∃ L, L = names.length := ⟨_, rfl⟩
  have KC := hide (cloneS_any An names.length cn names w.drew ((h2.below (Below.refl _ _).drew).sl) h0 h8)
  have c0 := h1.cell (k := 0) rfl
  have c1 := h1.cell (k := 1) rfl
  rw [← hL] at c0 KC KI hil h0 h8
  have HKI := hide KI
  have HGL : Hid (g < w.heap.size) := hide h1.lt
  have HK : Hid (∀ w', Below w.heap.size w w' → w'.cell? ⟨g, 0, none⟩ = some (.slice An L cn) ∧ w'.cell? ⟨g, 1, none⟩ = some (.int .i64 each)) := hide (fun w' hb => ⟨(hb.cell (p := ⟨g, 0, none⟩) HGL.out).trans c0, (hb.cell (p := ⟨g, 1, none⟩) HGL.out).trans c1⟩)
  have hS0 : w.drew.cell? ⟨g, 0, none⟩ = some (.slice An L cn) ∧ w.drew.cell? ⟨g, 1, none⟩ = some (.int .i64 each) := ⟨c0, c1⟩
  have hS1 : w.cell? ⟨g, 0, none⟩ = some (.slice An L cn) := c0
  have KD : Hid (∀ (w5 : World) A5 c5, Own w5 w.heap.size 9 A5 L c5 (names.map Value.string) → Calls Tryd.prog 31 #[.slice A5 L c5, .int .i64 i, .int .i64 ((i : Int) + 1)] w5 fun e w' => e = .returned (.slice A5 (L - 1) c5) ∧ Sl w' w'.heap.size A5 (L - 1) ((names.eraseIdx i).map Value.string) ∧ Below w.heap.size w5 w') := hide (fun w5 A5 c5 ho => by
    have := deleteS_any w.heap.size A5 L c5 i names w5 ho hil h8
    rwa [show (((i + 1 : Nat)) : Int) = (i : Int) + 1 by omega] at this)
  have KN : Hid (∀ (w6 : World) A6 c6, Sl w6 w6.heap.size A6 (L - 1) ((names.eraseIdx i).map Value.string) → Calls Tryd.prog 8 #[.int .i64 each, .slice A6 ((L - 1 : Nat)) c6] w6 (GivesN (each : Int) (names.eraseIdx i) w6)) := hide (fun w6 A6 c6 hs => newr_any (each : Int) A6 (L - 1) c6 (names.eraseIdx i) w6 hs (by omega))
  have hwr : IntKind.i64.wrap ((i : Int) + 1) = (i : Int) + 1 := IntWalk.i64_in _ (by omega)
  have z0 : ¬ ((i : Int) < 0) := by omega
  clear h h1 h2 h3 KI hi hf hbase hL h0 h8 hil c1
  go_enter Tryd.func10, Tryd.ntmps10
  go_wp2_with fail
  refine HKI.out.mono ?_
  rintro e w2 ⟨rfl, rfl⟩
  clear HKI
  go_upto_region 6 with (fail)
  go_region_held3 (fun W => W.cell? ⟨g, 0, none⟩ = some (.slice An L cn) ∧ W.cell? ⟨g, 1, none⟩ = some (.int .i64 each))
    (first | with_reducible assumption | exact HK.out _ KS.out | exact HK.out _ KA.out | exact HK.out _ KT.out)
    (first
      | (go_at_call 23; with_reducible refine KC.out.mono ?_
         rintro e5 w5 ⟨A5, c5, rfl, ho5, hb5⟩
         have HO5 := hide ho5
         have KS : Hid (Below w2.heap.size w2 w5) := hide ((Below.refl w2.heap.size w2).drew.trans hb5)
         clear ho5 hb5)
      | (go_at_call 31; with_reducible refine (KD.out _ _ _ HO5.out).mono ?_
         rintro e6 w6 ⟨rfl, hs6, hb6⟩
         have HS6 := hide hs6
         have KA : Hid (Below w2.heap.size w2 w6) := hide (KS.out.trans hb6)
         clear hs6 hb6)
      | (go_at_call 8; with_reducible refine (KN.out _ _ _ HS6.out).mono ?_
         rintro e7 w7 hgv
         obtain ⟨p, cc, rfl⟩ := hgv.form
         have KT : Hid (Below w2.heap.size w2 w7) := hide (KA.out.trans (hgv.2.mono KA.out.size))
         have HGV := hide hgv
         clear hgv))
  all_goals go_wp2_with fail
  all_goals go_ret2
  all_goals exact ⟨w6, KA.out, HGV.out⟩
end Go.Proofs.YtokdliapkolngaaDoor
