/-
  Ring: what a sort leaves of the points, in memory and in words.
-/
import Derived.Test.YtokdliapkolngaaDoorRingI
namespace Go.Proofs.YtokdliapkolngaaDoor
open Go.RowKit Go.Sort Go.Shelf
set_option linter.unusedVariables false

theorem flatP_len {n : Nat} (ts : List (PtN n)) : (ts.flatMap encP).length = ts.length * 2 := by
  induction ts with
  | nil => rfl
  | cons x l ih => rw [List.flatMap_cons, List.length_append, ih]; simp [encP]; omega
theorem flatKP_eq {n : Nat} (ss : List (PtN n)) : flatK encP 2 ss.toArray = (ss.flatMap encP).toArray := by
  have hlen := flatP_len ss
  refine Array.ext (by simp [hlen]) fun t h1 h2 => ?_
  have ht : t < ss.length * 2 := by simpa using h1
  have hk : t / 2 < ss.length := by omega
  have hget : ss[t / 2]? = some ss[t / 2] := List.getElem?_eq_getElem hk
  have hm : t % 2 < (encP ss[t / 2]).length := by simp [encP]; omega
  have e2 := flat_get (enc := encP) (sz := 2) (fun _ => rfl) hget (List.getElem?_eq_getElem hm)
  rw [show t / 2 * 2 + t % 2 = t by omega] at e2
  have e1 := get_flatK encP 2 ss.toArray t (by simpa using ht)
  rw [getElem!_pos _ t h1] at e1
  rw [e1]
  have e3 : ss.toArray[t / 2]! = ss[t / 2] := by
    rw [getElem!_pos _ _ (by simpa using hk)]; simp
  rw [e3, getElem!_pos (encP ss[t / 2]) (t % 2) hm]
  have e4 := (List.getElem?_eq_some_iff.1 e2).2
  simp only [List.getElem_toArray]
  exact e4.symm
theorem take_putP (F cur : Array Value) (h : F.size ≤ cur.size) : (putCells id 0 F cur).toList.take F.size = F.toList := by
  apply List.ext_getElem?
  intro j
  by_cases hj : j < F.size
  · rw [List.getElem?_take_of_lt hj, Array.getElem?_toList, Array.getElem?_toList]
    simp [putCells, hj, show j < cur.size by omega]
  · rw [List.getElem?_take_eq_none (by omega), List.getElem?_eq_none (by simp; omega)]
theorem holdsP {n : Nat} {w : World} {base g c : Nat} {ss : List (PtN n)} (h : OwnS 2 w base 39 (some ⟨g, 0, none⟩) ss.length c (ss.flatMap encP)) (hn : 0 < ss.length) : HoldsK encP 2 w g 0 ss.toArray := by
  obtain ⟨g', hg, _, hc, hf⟩ := h.spot hn
  injection hg with hg; injection hg with hg; subst hg
  unfold HoldsK Holds
  rw [flatKP_eq]
  intro j hj
  rw [Nat.zero_add]
  have hj' : j < (ss.flatMap encP).length := by simpa using hj
  refine ⟨?_, hf j⟩
  rw [hc j _ (List.getElem?_eq_getElem hj')]
  rw [getElem!_pos _ j hj]
  simp
theorem sortedP {n : Nat} {w W : World} {base g c : Nat} {ss ts : List (PtN n)} (hl : ts.length = ss.length) (h : OwnS 2 w base 39 (some ⟨g, 0, none⟩) ss.length c (ss.flatMap encP)) (S : SWP w g 0 ts.toArray W) :
    OwnS 2 W base 39 (some ⟨g, 0, none⟩) ts.length c (ts.flatMap encP) ∧ But (fun k => k = g) w W := by
  obtain ⟨m, os, rfl⟩ := S
  rcases h.2 with ⟨h1, h2⟩ | ⟨g', cap, cur, h1, h2, h3, h4, h5, h6, h7⟩
  · cases h1
  · injection h1 with a1 a2 a3
    injection a1 with a1; injection a1 with a1 _ _
    subst a1; subst a3
    have hg : g < w.heap.size := (Array.getElem?_eq_some_iff.1 h3).1
    unfold sortWorldK putRowK
    rw [flatKP_eq]
    constructor
    · refine ⟨flatP_len ts, .inr ⟨g, c, putCells id 0 (ts.flatMap encP).toArray cur, rfl, h2, ?_, by omega, h5, by simp [putCells, h6], ?_⟩⟩
      · rw [heap_grow_old _ _ (by simpa [putRow, mapBlock, Sort.ahead] using hg)]
        simp [putRow, mapBlock, Sort.ahead, Array.getElem?_modify, h3, onCells]
      · have := take_putP (ts.flatMap encP).toArray cur (by simp only [List.size_toArray, flatP_len]; omega)
        rw [List.size_toArray, flatP_len] at this
        exact this
    · refine ⟨rfl, rfl, rfl, by simp [grow, putRow, mapBlock, Sort.ahead], fun k hk hne => ?_⟩
      rw [heap_grow_old _ _ (by simpa [putRow, mapBlock, Sort.ahead] using hk)]
      have : g ≠ k := fun e => hne e.symm
      simp [putRow, mapBlock, Sort.ahead, Array.getElem?_modify, this]
/-- the sort's own words turned into the ring's -/
theorem standP {n each : Nat} {names : List ByteArray} {ss : List (PtN n)} {d' : Array (PtN n)} (hs : ss = rawR n each names) (hp : PermIn 0 ss.toArray.size ss.toArray d') (hsort : SortedIn (ltOf (cmpN names)) 0 ss.toArray.size d') :
    d'.toList.length = ss.length ∧ StandR names each d'.toList := by
  obtain ⟨p1, p2, p3⟩ := hp
  have hl2 : d'.toList.length = ss.length := by simpa using p1
  refine ⟨hl2, ?_, ?_⟩
  · have e1 : d'.extract 0 ss.toArray.size = d' := by rw [← p1]; simp
    have e2 : ss.toArray.extract 0 ss.toArray.size = ss.toArray := by simp
    rw [e1, e2] at p3
    rw [← hs]
    simpa using p3
  · rw [List.pairwise_iff_getElem]
    intro i j hi hj hij
    have hj2 : j < ss.toArray.size := by rw [List.size_toArray, ← hl2]; exact hj
    have := hsort i j (Nat.zero_le _) hij hj2
    rw [getElem!_pos _ _ (by simpa using hj), getElem!_pos _ _ (by simpa using hi)] at this
    simpa using this
end Go.Proofs.YtokdliapkolngaaDoor
