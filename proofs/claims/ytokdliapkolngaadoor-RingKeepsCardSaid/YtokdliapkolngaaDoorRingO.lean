/-
  Ring: With, Without, walked.
-/
import Derived.Test.YtokdliapkolngaaDoorRingN
namespace Go.Proofs.YtokdliapkolngaaDoor
open Go.RowKit Go.Sort Go.Shelf
set_option linter.unusedVariables false

set_option maxHeartbeats 4000000 in
set_option maxRecDepth 100000 in
theorem with_nil (s : ByteArray) (w : World) : Calls Tryd.prog 15 #[.pointer none, .string s] w fun e w' => e = .returned (.tuple #[.pointer none, .int .i64 12]) ∧ w' = w := by
  go_enter Tryd.func15, Tryd.ntmps15
  go_wp2_with fail
  go_ret2
  exact ⟨rfl, rfl⟩
set_option maxHeartbeats 4000000 in
set_option maxRecDepth 100000 in
theorem without_nil (s : ByteArray) (w : World) : Calls Tryd.prog 10 #[.pointer none, .string s] w fun e w' => e = .returned (.tuple #[.pointer none, .int .i64 12]) ∧ w' = w := by
  go_enter Tryd.func10, Tryd.ntmps10
  go_wp2_with fail
  go_ret2
  exact ⟨rfl, rfl⟩
theorem GivesN.form {points : Int} {names : List ByteArray} {w w' : World} {e : Ending} (h : GivesN points names w e w') : ∃ p c, e = .returned (.tuple #[.pointer p, .int .i64 c]) := by
  rcases h.1 with ⟨_, n, g, pts, _, rfl, _⟩ | ⟨_, rfl⟩
  · exact ⟨_, _, rfl⟩
  · exact ⟨_, _, rfl⟩
set_option maxHeartbeats 8000000 in
set_option maxRecDepth 100000 in
theorem with_any {n : Nat} (base g each : Nat) (names : List ByteArray) (pts : List (PtN n)) (s : ByteArray) (w : World) (h : RingSt w base g names each pts) (hbase : base ≤ w.heap.size) (h0 : 0 < names.length) (h8 : names.length ≤ 1000000) :
    Calls Tryd.prog 15 #[.pointer (some ⟨g, 0, none⟩), .string s] w fun e w' => ∃ w1, Below w.heap.size w w1 ∧ GivesN (each : Int) (names ++ [s]) w1 e w' := by
  obtain ⟨An, cn, Ap, cp, h1, h2, h3⟩ := h.ex
  obtain ⟨L, hL⟩ : ∃ L, L = names.length := ⟨_, rfl⟩
  have KC := hide (fun (X : World) (hb : Below w.heap.size w X) => cloneS_any An names.length cn names X ((h2.below hb).sl) h0 h8)
  have c0 := h1.cell (k := 0) rfl
  have c1 := h1.cell (k := 1) rfl
  rw [← hL] at c0 KC
  have HGL : Hid (g < w.heap.size) := hide h1.lt
  have HL8 : L ≤ 1000000 := by omega
  have HLN : Hid ((names ++ [s]).length = L + 1) := hide (by simp; omega)
  have HK : Hid (∀ w', But (fun j => w.heap.size ≤ j) w w' → w'.cell? ⟨g, 0, none⟩ = some (.slice An L cn) ∧ w'.cell? ⟨g, 1, none⟩ = some (.int .i64 each)) := hide (fun w' hb => ⟨(hb.cell (p := ⟨g, 0, none⟩) HGL.out (fun h => by have h : w.heap.size ≤ g := h; have := HGL.out; omega)).trans c0, (hb.cell (p := ⟨g, 1, none⟩) HGL.out (fun h => by have h : w.heap.size ≤ g := h; have := HGL.out; omega)).trans c1⟩)
  have hS0 : w.drew.cell? ⟨g, 0, none⟩ = some (.slice An L cn) ∧ w.drew.cell? ⟨g, 1, none⟩ = some (.int .i64 each) := ⟨c0, c1⟩
  have HNa : Hid (∀ w6 : World, ∀ j u, [Value.string s][j]? = some u → (w6.alloc (.cells #[.string s] 9)).cell? ((⟨w6.heap.size, 0, none⟩ : Addr).add j) = some u) := hide (fun w6 => cells_nr w6 9 [.string s])
  have HONE : Hid (∀ u ∈ [Value.string s], u.oneCell' = true) := hide (by simp [Value.oneCell'])
  have hq1 : L + 1 ≤ maxLen := by unfold maxLen; omega
  have hq2 : (L + 1) * 16 ≤ 140737488355328 := by omega
  have KQ : Hid (∀ (w5 : World) A5 c5, ∀ X : World, Below w.heap.size w X → Own w5 X.heap.size 9 A5 L c5 (names.map Value.string) → Below X.heap.size X w5 → Hid (But (fun j => w.heap.size ≤ j) w w5) ∧ Hid (But (fun j => w.heap.size ≤ j) w (w5.alloc (.cells #[.string s] 9))) ∧ Hid (OwnS 1 (w5.alloc (.cells #[.string s] 9)) w.heap.size 9 A5 L c5 (names.map Value.string)) ∧ Hid (w.heap.size ≤ (w5.alloc (.cells #[.string s] 9)).heap.size) ∧ Hid (OwnS 1 w5 w.heap.size 9 A5 L c5 (names.map Value.string)) ∧ Hid (w.heap.size ≤ w5.heap.size)) := hide (fun w5 A5 c5 X hx ho hb1 => by
    have hb := hx.trans (hb1.mono hx.size)
    have hb2 : Below w.heap.size w (w5.alloc (.cells #[.string s] 9)) := hb.alloc hb.size _
    exact ⟨hide ⟨hb.os, hb.tape, hb.output, hb.size, fun k hk _ => hb.block k hk⟩, hide ⟨hb2.os, hb2.tape, hb2.output, hb2.size, fun k hk _ => hb2.block k hk⟩, hide (OwnS.below (OwnS.base_ (OwnS.of_own ho) hx.size) ((Below.refl _ _).alloc (Nat.le_refl _) _)), hide hb2.size, hide (OwnS.base_ (OwnS.of_own ho) hx.size), hide hb.size⟩)
  have HNb : Hid (∀ w5 : World, Below (w.alloc (.cells #[.string s] 9)).drew.heap.size (w.alloc (.cells #[.string s] 9)).drew w5 → ∀ j u, [Value.string s][j]? = some u → w5.cell? ((⟨w.heap.size, 0, none⟩ : Addr).add j) = some u) := hide (fun w5 hb j u hu => by
    have h1 := cells_nr w 9 [.string s] j u hu
    have h2 : (⟨w.heap.size, 0, none⟩ : Addr).add j = ⟨w.heap.size, j, none⟩ := by
      unfold Addr.add; split <;> simp_all
    have h3 : (⟨w.heap.size, 0, none⟩ : Addr).add j = ⟨w.heap.size, j, none⟩ := h2
    rw [h3] at h1
    rw [h2]
    exact (hb.cell (p := ⟨w.heap.size, j, none⟩) (by rw [World.size_drew, World.size_alloc]; exact Nat.lt_succ_self _)).trans h1)
  have HX1 : Hid (Below w.heap.size w w.drew) := hide (Below.refl _ _).drew
  have HX2 : Hid (Below w.heap.size w (w.alloc (.cells #[.string s] 9)).drew) := hide ((Below.refl w.heap.size w).alloc (Nat.le_refl _) _).drew
  have KB2 : Hid (But (fun j => w.heap.size ≤ j) w (w.alloc (.cells #[.string s] 9)).drew) := hide ⟨HX2.out.os, HX2.out.tape, HX2.out.output, HX2.out.size, fun k hk _ => HX2.out.block k hk⟩
  have KTL : Hid (∀ w9 w6 e, Hid (But (fun j => w.heap.size ≤ j) w w9) → GivesN (each : Int) (names ++ [s]) w9 e w6 → Hid (But (fun j => w.heap.size ≤ j) w w6)) := hide (fun w9 w6 e h1 h2 => hide (h1.out.trans (But.of_below h2.2)))
  have K9L : Hid (∀ w5 w9 A5 c5, Hid (But (fun j => w.heap.size ≤ j) w w5) → Hid (OwnS 1 w5 w.heap.size 9 A5 L c5 (names.map Value.string)) → w5.grownBy w9 (Value.slice A5 L c5).ownBlock → Hid (But (fun j => w.heap.size ≤ j) w w9)) := hide (fun w5 w9 A5 c5 h1 h2 h3 => hide (h1.out.trans (But.of_rowG h3 (fun k hk => h2.out.row_ge k hk))))
  have KN : Hid (∀ (w9 : World) A9 c9, OwnS 1 w9 w.heap.size 9 A9 (L + 1) c9 (names.map Value.string ++ [Value.string s]) → Calls Tryd.prog 8 #[.int .i64 each, .slice A9 (L + 1) c9] w9 (GivesN (each : Int) (names ++ [s]) w9)) := hide (fun w9 A9 c9 ho => newr_any (each : Int) A9 (L + 1) c9 (names ++ [s]) w9 (by
    have h : Own w9 w.heap.size 9 A9 (L + 1) c9 ((names ++ [s]).map Value.string) := by rw [List.map_append]; exact ho
    exact h.sl) (by omega))
  clear h h1 h2 h3 hbase h0 h8 hL c0 c1
  go_enter Tryd.func15, Tryd.ntmps15
  go_upto_region 3 with (fail)
  go_region_held3 (fun W => W.cell? ⟨g, 0, none⟩ = some (.slice An L cn) ∧ W.cell? ⟨g, 1, none⟩ = some (.int .i64 each))
    (first | with_reducible assumption | exact HK.out _ KS.out | exact HK.out _ KA.out | exact HK.out _ K9.out | exact HK.out _ KT.out | exact HK.out _ KB2.out)
    (first
      | (go_at_call 23; with_reducible refine (KC.out w.drew HX1.out).mono ?_
         rintro e5 w5 ⟨A5, c5, rfl, ho5, hb5⟩
         obtain ⟨KS, KA, HOa, HqB, HOb, HqC⟩ := KQ.out w5 A5 c5 w.drew HX1.out ho5 hb5
         clear ho5 hb5)
      | (go_at_call 23; with_reducible refine (KC.out _ HX2.out).mono ?_
         rintro e5 w5 ⟨A5, c5, rfl, ho5, hb5⟩
         have HNc := hide (HNb.out w5 hb5)
         obtain ⟨KS, KA, HOa, HqB, HOb, HqC⟩ := KQ.out w5 A5 c5 _ HX2.out ho5 hb5
         clear ho5 hb5)
      | (go_at_call 8; with_reducible refine (KN.out w9 A9 c9 HO9.out).mono ?_
         rintro e6 w6 hgv
         obtain ⟨p, cc, rfl⟩ := hgv.form
         have KT := KTL.out w9 w6 _ K9 hgv
         have HGV := hide hgv
         clear hgv)
      | (refine step_appR (c' := 1) ?_ (.tmp 16) (.tmp 18) 22 ?_ (.string ByteArray.empty) 16 Tryd.underlying22 info_strR ?_ (by omega) [.string s] ?_ HOa.out ?_ ?_ (HNa.out w5) HONE.out hq1 hq2 HqB.out ?_
         · rfl
         · rfl
         · rfl
         · rfl
         · rfl
         · rfl
         intro A9 c9 w9 ho hg hat
         have HO9 := hide ho
         have K9 := K9L.out _ w9 A5 c5 KA HOa hg
         clear ho hg hat)
      | (refine step_appR (c' := 1) ?_ (.tmp 16) (.tmp 18) 22 ?_ (.string ByteArray.empty) 16 Tryd.underlying22 info_strR ?_ (by omega) [.string s] ?_ HOb.out ?_ ?_ HNc.out HONE.out hq1 hq2 HqC.out ?_
         · rfl
         · rfl
         · rfl
         · rfl
         · rfl
         · rfl
         intro A9 c9 w9 ho hg hat
         have HO9 := hide ho
         have K9 := K9L.out _ w9 A5 c5 KS HOb hg
         clear ho hg hat))
  all_goals go_wp2_with fail
  all_goals go_ret2
  all_goals exact ⟨w9, K9.out.below (fun k hk => hk) (Nat.le_refl _), HGV.out⟩
end Go.Proofs.YtokdliapkolngaaDoor
