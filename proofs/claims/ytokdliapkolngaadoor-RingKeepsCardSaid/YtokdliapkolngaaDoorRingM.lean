/-
  Ring: Owner, walked.
-/
import Derived.Test.YtokdliapkolngaaDoorRingL
namespace Go.Proofs.YtokdliapkolngaaDoor
open Go.RowKit Go.Sort Go.Shelf
set_option linter.unusedVariables false

/-- the region of the point at k -/
def rgAt {n : Nat} (pts : List (PtN n)) (k : Nat) : Nat := (pts[k]?.map PtN.rg).getD 0
theorem firstN_lt {n : Nat} (pts : List (PtN n)) (a : Int) (h : 0 < pts.length) : firstN pts a < pts.length := Nat.mod_lt _ h
set_option maxHeartbeats 4000000 in
set_option maxRecDepth 100000 in
theorem owner_nil (s : ByteArray) (w : World) : Calls Tryd.prog 12 #[.pointer none, .string s] w fun e w' => e = .returned (.int .i64 (-1)) ∧ w' = w := by
  go_enter Tryd.func12, Tryd.ntmps12
  go_wp2_with fail
  go_ret
  exact ⟨rfl, rfl⟩
set_option maxHeartbeats 8000000 in
set_option maxRecDepth 100000 in
theorem owner_any {n : Nat} (base g each : Nat) (names : List ByteArray) (pts : List (PtN n)) (s : ByteArray) (w : World) (h : RingSt w base g names each pts) (hbase : base ≤ w.heap.size) (hst : StandR names each pts) (h0 : 0 < pts.length) (h8 : pts.length ≤ 1000000) (hs : s.size ≤ 140737488355000) :
    Calls Tryd.prog 12 #[.pointer (some ⟨g, 0, none⟩), .string s] w fun e w' => e = .returned (.int .i64 ((rgAt pts (firstN pts (placeN s : Int)) : Nat) : Int)) ∧ Below w.heap.size w w' := by
  have HF := hide (fun X (hb : Below w.heap.size w X) => first_any base g each names pts s X (h.below hb) (Nat.le_trans hbase hb.size) hst h0 h8 hs)
  obtain ⟨An, cn, Ap, cp, h1, h2, h3⟩ := h.ex
  obtain ⟨blk, rfl, hob, hc, _⟩ := h3.spot h0
  obtain ⟨L, hL⟩ : ∃ L, L = pts.length := ⟨_, rfl⟩
  have hfl := firstN_lt pts (placeN s : Int) h0
  obtain ⟨k, hk⟩ : ∃ k, k = firstN pts (placeN s : Int) := ⟨_, rfl⟩
  rw [← hk] at hfl HF ⊢
  have c2 : w.cell? ⟨blk, k * 2 + 1, none⟩ = some (.int .i64 ((rgAt pts k : Nat) : Int)) := by
    refine hc (k * 2 + 1) _ ?_
    have := flat_get (enc := encP) (sz := 2) (fun _ => rfl) (List.getElem?_eq_getElem hfl) (j := 1) (v := .int .i64 ((pts[k]).rg : Int)) rfl
    rw [this]
    unfold rgAt
    rw [List.getElem?_eq_getElem hfl]; rfl
  obtain ⟨v, hv⟩ : ∃ v, v = rgAt pts k := ⟨_, rfl⟩
  rw [← hv] at c2 ⊢
  have c1 := h1.cell (k := 2) rfl
  rw [← hL] at c1 hfl
  have HL2 : Hid (g < w.heap.size ∧ blk < w.heap.size) := hide ⟨h1.lt, h3.row_lt blk hob⟩
  have z1 : (k : Int) < (L : Int) := by omega
  have z0 : (0 : Int) ≤ (k : Int) := by omega
  obtain ⟨off, hoff⟩ : ∃ off, off = k * 2 + 1 := ⟨_, rfl⟩
  have KF := hide (HF.out w.drew (Below.refl _ _).drew)
  have HK : Hid (∀ w', Below w.drew.heap.size w.drew w' → w'.cell? ⟨g, 2, none⟩ = some (.slice (some ⟨blk, 0, none⟩) L cp) ∧ w'.cell? ⟨blk, k * 2 + 1, none⟩ = some (.int .i64 v)) := hide (fun w' hb => ⟨(hb.cell (p := ⟨g, 2, none⟩) HL2.out.1).trans c1, (hb.cell (p := ⟨blk, k * 2 + 1, none⟩) HL2.out.2).trans c2⟩)
  have hS0 : w.drew.cell? ⟨g, 2, none⟩ = some (.slice (some ⟨blk, 0, none⟩) L cp) ∧ w.drew.cell? ⟨blk, k * 2 + 1, none⟩ = some (.int .i64 v) := ⟨c1, c2⟩
  clear h h1 h2 h3 hst hbase hob hc hk hL hv hfl h0 h8 hs HF hoff
  go_enter Tryd.func12, Tryd.ntmps12
  go_upto_region 3 with (fail)
  go_region_held3 (fun W => W.cell? ⟨g, 2, none⟩ = some (.slice (some ⟨blk, 0, none⟩) L cp) ∧ W.cell? ⟨blk, k * 2 + 1, none⟩ = some (.int .i64 v))
    (first | with_reducible assumption | exact HK.out _ HB5.out)
    (first
      | (go_at_call 32; with_reducible refine KF.out.mono ?_
         rintro e5 w5 ⟨rfl, hb5⟩
         have HB5 := hide hb5))
  all_goals go_wp2_with fail
  all_goals go_ret
  all_goals exact ⟨rfl, (Below.refl w.heap.size w).drew.trans (HB5.out.mono (Nat.le_refl _))⟩
end Go.Proofs.YtokdliapkolngaaDoor
