/-
  Ring: setting a point down in its place: in words, in memory.
-/
import Derived.Test.YtokdliapkolngaaDoorRingIb
import Derived.Test.YtokdliapkolngaaDoorRingT
namespace Go.Proofs.YtokdliapkolngaaDoor
open Go.RowKit Go.Sort Go.Great
set_option linter.unusedVariables false
--BODY
def insRow {α : Type} (L : List α) (a : Nat) (y : α) : List α := L.take a ++ y :: L.drop a
section
variable {α : Type} {L : List α} {a : Nat} {y z : α}
theorem insRow_len (h : a ≤ L.length) : (insRow L a y).length = L.length + 1 := by unfold insRow; simp; omega
theorem insRow_at (h : a < L.length) (y : α) : (insRow L (a + 1) y)[a]? = L[a]? := by
  unfold insRow
  rw [List.getElem?_append_left (by simp; omega), List.getElem?_take_of_lt (by omega)]
theorem insRow_end (x : α) : L ++ [x] = insRow L L.length x := by unfold insRow; simp
theorem insRow_set (h : a ≤ L.length) (y z : α) : (insRow L a y).set a z = insRow L a z := by
  unfold insRow
  rw [List.set_append_right _ _ (by simp; omega)]
  simp [Nat.min_eq_left h]
theorem insRow_down (hz : L[a]? = some z) (y : α) : (insRow L (a + 1) y).set (a + 1) z = insRow L a z := by
  have h : a < L.length := (List.getElem?_eq_some_iff.1 hz).1
  rw [insRow_set (by omega)]
  unfold insRow
  rw [List.take_add_one, hz, Option.toList_some, List.append_assoc]
  congr 1
  have : L.drop a = z :: L.drop (a + 1) := by
    rw [List.drop_eq_getElem_cons h, (List.getElem?_eq_some_iff.1 hz).2]
  rw [this]; rfl
theorem insRow_perm (x : α) : (insRow L a x).Perm (x :: L) := by
  unfold insRow
  exact (List.perm_middle).trans (by rw [List.take_append_drop])
theorem insRow_sorted {lt : α → α → Bool} (hO : SWO lt) (x : α) (hs : L.Pairwise fun u v => lt v u = false) (h1 : ∀ v ∈ L.drop a, lt x v = true) (h2 : a = 0 ∨ ∃ b u, a = b + 1 ∧ L[b]? = some u ∧ lt x u = false) :
    (insRow L a x).Pairwise fun u v => lt v u = false := by
  unfold insRow
  have hs2 : (L.take a ++ L.drop a).Pairwise fun u v => lt v u = false := by rw [List.take_append_drop]; exact hs
  rw [List.pairwise_append] at hs2
  have hasym : ∀ u v, lt u v = true → lt v u = false := fun u v h => by
    cases hc : lt v u with
    | false => rfl
    | true => have := hO.trans _ _ _ h hc; rw [hO.irrefl] at this; cases this
  have hx : ∀ u ∈ L.take a, lt x u = false := fun u hu => by
    rcases h2 with rfl | ⟨b, p, rfl, hp, hlt⟩
    · simp at hu
    · rw [List.take_add_one, hp] at hu
      rcases List.mem_append.1 hu with hu | hu
      · have hs3 : (L.take (b + 1)).Pairwise fun u v => lt v u = false := hs2.1
        rw [List.take_add_one, hp, List.pairwise_append] at hs3
        exact hO.ntrans _ _ _ hlt (hs3.2.2 u hu p (by simp))
      · simp at hu; subst hu; exact hlt
  rw [List.pairwise_append, List.pairwise_cons]
  refine ⟨hs2.1, ⟨fun v hv => hasym _ _ (h1 v hv), hs2.2.1⟩, fun u hu v hv => ?_⟩
  rcases List.mem_cons.1 hv with rfl | hv
  · exact hx u hu
  · exact hs2.2.2 u hu v hv
end
theorem OwnS.setP {n : Nat} {w : World} {base e N c g j : Nat} {pts : List (PtN n)} (h : OwnS 2 w base e (some ⟨g, 0, none⟩) N c (pts.flatMap encP)) (hj : j < pts.length) (y : PtN n) :
    OwnS 2 ((w.setCell ⟨g, j * 2, none⟩ (.int .u64 y.pl)).setCell ⟨g, j * 2 + 1, none⟩ (.int .i64 (y.rg : Int))) base e (some ⟨g, 0, none⟩) N c ((pts.set j y).flatMap encP) := by
  have hx : pts[j]? = some pts[j] := List.getElem?_eq_getElem hj
  have h1 := (h.set (j := j * 2) (.int .u64 y.pl)).set (j := j * 2 + 1) (.int .i64 (y.rg : Int))
  have e1 := flat_set (enc := encP) (sz := 2) (fun _ => rfl) hx (j := 0) (y := (⟨y.pl, pts[j].rg, y.hp, pts[j].hr⟩ : PtN n)) (v := .int .u64 y.pl) (by omega) rfl
  rw [Nat.add_zero] at e1
  have e2 := flat_set (enc := encP) (sz := 2) (fun _ => rfl) (l := pts.set j ⟨y.pl, pts[j].rg, y.hp, pts[j].hr⟩) (k := j) (x := ⟨y.pl, pts[j].rg, y.hp, pts[j].hr⟩) (j := 1) (y := y) (v := .int .i64 (y.rg : Int)) (by simp [hj]) (by omega) rfl
  rw [e1, e2, List.set_set] at h1
  exact h1
theorem OwnS.pt {n : Nat} {w : World} {base e N c m : Nat} {A : Option Addr} {pts : List (PtN n)} {x : PtN n} (h : OwnS 2 w base e A N c (pts.flatMap encP)) (hN : pts.length = N) (hx : pts[m]? = some x) :
    ∃ g, A = some ⟨g, 0, none⟩ ∧ base ≤ g ∧ g < w.heap.size ∧ (w.cell? ⟨g, m * 2, none⟩ = some (.int .u64 x.pl) ∧ w.cell? ⟨g, m * 2 + 1, none⟩ = some (.int .i64 (x.rg : Int))) ∧ (∀ k, w.frozen? ⟨g, k, none⟩ = false) := by
  have hm := (List.getElem?_eq_some_iff.1 hx).1
  obtain ⟨g, rfl, hob, hc, hf⟩ := h.spot (by omega)
  refine ⟨g, rfl, h.row_ge g hob, h.row_lt g hob, ⟨hc (m * 2) _ ?_, hc (m * 2 + 1) _ ?_⟩, hf⟩
  · have := flat_get (enc := encP) (sz := 2) (fun _ => rfl) hx (j := 0) (v := .int .u64 x.pl) rfl
    rwa [Nat.add_zero] at this
  · exact flat_get (enc := encP) (sz := 2) (fun _ => rfl) hx (j := 1) (v := .int .i64 (x.rg : Int)) rfl
end Go.Proofs.YtokdliapkolngaaDoor
