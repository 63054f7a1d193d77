/-
  Ring: first, walked.
-/
import Derived.Test.YtokdliapkolngaaDoorRingK
import Derived.Shelf.SlSorted.Search
namespace Go.Proofs.YtokdliapkolngaaDoor
open Go.RowKit Go.Sort Go.Shelf
set_option linter.unusedVariables false

set_option maxHeartbeats 4000000 in
set_option maxRecDepth 100000 in
theorem closure_first (br bp g blk off cp N i : Nat) (at_ pl : Int) (W : World) (hi : i < N)
    (c1 : W.cell? ⟨br, 0, none⟩ = some (.pointer (some ⟨g, 0, none⟩))) (c2 : W.cell? ⟨g, 2, none⟩ = some (.slice (some ⟨blk, off, none⟩) N cp)) (c3 : W.cell? ⟨bp, 0, none⟩ = some (.int .u64 at_)) (c4 : W.cell? ⟨blk, off + i * 2, none⟩ = some (.int .u64 pl)) :
    Calls Tryd.prog 43 (#[.int .i64 i] ++ #[.pointer (some ⟨br, 0, none⟩), .pointer (some ⟨bp, 0, none⟩)]) W fun e w' => e = .returned (.bool (decide (at_ ≤ pl))) ∧ ∃ q, w' = W.drewN q := by
  have hiz : (i : Int) < (N : Int) := by omega
  have hi0 : (0 : Int) ≤ (i : Int) := by omega
  go_enter Tryd.func43, Tryd.ntmps43
  go_wp2
  go_region
  all_goals go_wp2
  all_goals go_ret
  all_goals exact ⟨by first | rfl | simp, 1, rfl⟩
/-- where a walk around the ring begins -/
def firstN {n : Nat} (pts : List (PtN n)) (at_ : Int) : Nat := pts.countP (fun x => !decide (at_ ≤ x.pl)) % pts.length
set_option maxHeartbeats 8000000 in
set_option maxRecDepth 100000 in
theorem first_any {n : Nat} (base g each : Nat) (names : List ByteArray) (pts : List (PtN n)) (s : ByteArray) (w : World) (h : RingSt w base g names each pts) (hbase : base ≤ w.heap.size) (hst : StandR names each pts) (h0 : 0 < pts.length) (h8 : pts.length ≤ 1000000) (hs : s.size ≤ 140737488355000) :
    Calls Tryd.prog 32 #[.pointer (some ⟨g, 0, none⟩), .string s] w fun e w' => e = .returned (.int .i64 ((firstN pts (placeN s : Int) : Nat) : Int)) ∧ Below w.heap.size w w' := by
  obtain ⟨An, cn, Ap, cp, h1, h2, h3⟩ := h.ex
  obtain ⟨blk, rfl, hob, hc, _⟩ := h3.spot h0
  have KP := hide (fun X : World => place_any s X (by omega))
  obtain ⟨L, hL⟩ : ∃ L, L = pts.length := ⟨_, rfl⟩
  obtain ⟨pv, hpv⟩ : ∃ pv : Nat, pv = placeN s := ⟨_, rfl⟩
  rw [← hpv] at KP
  have HBL : Hid (blk < w.heap.size) := hide (h3.row_lt blk hob)
  have HPC : Hid (∀ i, i < L → w.cell? ⟨blk, 0 + i * 2, none⟩ = some (.int .u64 (pts.toArray[i]!).pl)) := hide (fun i hi => by
    rw [Nat.zero_add]
    refine hc (i * 2) _ ?_
    have hi' : i < pts.length := by omega
    have := flat_get (enc := encP) (sz := 2) (fun _ => rfl) (List.getElem?_eq_getElem hi') (j := 0) (v := .int .u64 (pts[i]).pl) rfl
    rw [Nat.add_zero] at this
    rw [this, getElem!_pos _ _ (by simpa using hi')]
    simp)
  have HMO : Hid (∀ a b, a ≤ b → b < L → (pts.toArray[a]!).pl ≤ (pts.toArray[b]!).pl) := hide (fun a b hab hb => by
    rcases Nat.lt_or_eq_of_le hab with hlt | rfl
    · have := (List.pairwise_iff_getElem.1 hst.2) a b (by omega) (by omega) hlt
      rw [getElem!_pos _ _ (by simp; omega), getElem!_pos _ _ (by simp; omega)]
      simp only [List.getElem_toArray]
      refine Int.not_lt.1 (fun hcon => ?_)
      have h9 := (cmpN_lt names pts[b] pts[a]).2 (.inl hcon)
      rw [h9] at this
      cases this
    · exact Int.le_refl _)
  have HR := hide h1
  have e0 : firstN pts (placeN s : Int) = (List.range L).countP (fun i => !decide ((pv : Int) ≤ (pts.toArray[i]!).pl)) % L := by
    unfold firstN
    rw [hL, hpv]
    have := Lib.countP_range pts.toArray (fun y => !decide ((placeN s : Int) ≤ y.pl))
    simp only [List.size_toArray] at this
    rw [this]
  rw [e0]
  obtain ⟨d, hd⟩ : ∃ d, d = pts.toArray := ⟨_, rfl⟩
  rw [← hd] at HPC HMO ⊢
  have HGL : Hid (g < w.heap.size) := hide h1.lt
  have HL0 : 0 < L := by omega
  have HL8 : L ≤ 1000000 := by omega
  obtain ⟨names', hnn⟩ : ∃ m, m = names.length := ⟨_, rfl⟩
  rw [← hL, ← hnn] at HR
  clear h h1 h2 h3 hst hbase hc hob hd e0 hpv h0 h8 hL hnn
  obtain ⟨r, hr⟩ : ∃ r, r = (List.range L).countP (fun i => !decide ((pv : Int) ≤ (d[i]!).pl)) := ⟨_, rfl⟩
  have HRr := hide hr
  rw [← hr]
  clear hr
  have KS : Hid (∀ (Y : World) (br bp : Nat), RowV Y br 23 [.pointer (some ⟨g, 0, none⟩)] → RowV Y bp 28 [.int .u64 pv] → Below w.heap.size w Y → Calls Tryd.prog 42 #[.int .i64 L, .func (.func 43) #[] #[.pointer (some ⟨br, 0, none⟩), .pointer (some ⟨bp, 0, none⟩)]] Y fun e w' => e = .returned (.int .i64 (r : Nat)) ∧ ∃ q os, w' = grow (Y.drewN q) os) := hide (fun Y br bp k1 k2 hb => by
    have hsz := hb.size
    have k3 := HR.out.below' hb
    have hS := Any.sort_Search Tryd.search 43 #[.pointer (some ⟨br, 0, none⟩), .pointer (some ⟨bp, 0, none⟩)] L (fun i => decide ((pv : Int) ≤ (d[i]!).pl)) Y (fun _ _ => rfl) (by omega)
      (fun m os i hi => (closure_first br bp g blk 0 cp L i pv (d[i]!).pl _ hi (cell_grown k1.lt (k1.cell (k := 0) rfl) m os) (cell_grown k3.lt (k3.cell (k := 2) rfl) m os) (cell_grown k2.lt (k2.cell (k := 0) rfl) m os) (cell_grown (a := ⟨blk, 0 + i * 2, none⟩) (by have := HBL.out; exact Nat.lt_of_lt_of_le this hsz) ((hb.cell (p := ⟨blk, 0 + i * 2, none⟩) HBL.out).trans (HPC.out i hi)) m os)).mono
        fun _ _ ⟨he, q, hq⟩ => ⟨he, q, #[], by rw [hq, grow_empty]⟩) (fun a b hab hb h => by have := HMO.out a b hab hb; simp at h ⊢; omega)
    rw [← HRr.out] at hS
    change Calls Tryd.prog 42 _ _ _ at hS
    exact hS)
  have hw0 : (0 : Int) < (L : Int) := by omega
  obtain ⟨mm, hmm⟩ : ∃ mm, mm = r % L := ⟨_, rfl⟩
  have hmod : (r : Int).tmod (L : Int) = (mm : Int) := by rw [Int.tmod_eq_emod_of_nonneg (by omega), hmm]; rfl
  rw [← hmm]
  have hz0 : ¬ (L = 0) := by omega
  clear hmm
  go_enter Tryd.func32, Tryd.ntmps32
  go_upto_region 1 with (fail)
  obtain ⟨X, hX⟩ : ∃ X, X = w.alloc (.cells #[.pointer (some ⟨g, 0, none⟩)] 23) := ⟨_, rfl⟩
  have HBX : Hid (Below w.heap.size w X) := hide (by rw [hX]; exact (Below.refl _ _).alloc (Nat.le_refl _) _)
  have HRX : Hid (RowV X w.heap.size 23 [.pointer (some ⟨g, 0, none⟩)]) := hide (by rw [hX]; exact RowV.new w _ _)
  obtain ⟨br, hbr⟩ : ∃ br, br = w.heap.size := ⟨_, rfl⟩
  have HBR := hide hbr
  rw [← hX, ← hbr]
  rw [← hbr] at HRX
  clear hX hbr
  go_wp2_with fail
  refine (KP.out X).mono ?_
  rintro e w1 ⟨rfl, hb⟩
  have HB1 := hide hb
  clear hb KP
  go_upto_region 2 with (fail)
  refine wp_world (fun Y => Hid (RowV Y br 23 [.pointer (some ⟨g, 0, none⟩)] ∧ RowV Y w1.heap.size 28 [.int .u64 pv] ∧ Below w.heap.size w Y)) (hide ?_) ?_
  · have hs0 := HBX.out.size
    have hs1 := HB1.out.size
    exact ⟨(HRX.out.below' HB1.out).alloc _, RowV.new w1 28 [.int .u64 pv], (HBX.out.trans (HB1.out.mono hs0)).trans (((Below.refl w1.heap.size w1).alloc (Nat.le_refl _) _).mono (by omega))⟩
  rintro Y HY
  obtain ⟨bp, hbp⟩ : ∃ bp, bp = w1.heap.size := ⟨_, rfl⟩
  rw [← hbp] at HY ⊢
  clear HB1 HBX HRX hbp
  have k0 := HY.out.1.cell (k := 0) rfl
  have k1 := (HR.out.below' HY.out.2.2).cell (k := 2) rfl
  have HK := hide (KS.out Y.drew br bp HY.out.1.drew HY.out.2.1.drew HY.out.2.2.drew)
  have HK2 : Hid (∀ q os, (grow (Y.drewN q) os).cell? ⟨br, 0, none⟩ = some (.pointer (some ⟨g, 0, none⟩)) ∧ (grow (Y.drewN q) os).cell? ⟨g, 2, none⟩ = some (.slice (some ⟨blk, 0, none⟩) L cp)) := hide (fun q os => ⟨cell_grown HY.out.1.lt k0 q os, cell_grown (HR.out.below' HY.out.2.2).lt k1 q os⟩)
  have HK3 : Hid (∀ q os, Below w.heap.size w (grow (Y.drewN q) os)) := hide (fun q os => HY.out.2.2.trans (below_grown_sl w.heap.size Y q os HY.out.2.2.size))
  have hS0 : Y.drew.cell? ⟨br, 0, none⟩ = some (.pointer (some ⟨g, 0, none⟩)) ∧ Y.drew.cell? ⟨g, 2, none⟩ = some (.slice (some ⟨blk, 0, none⟩) L cp) := ⟨k0, k1⟩
  have hne : ((L : Int) == 0) = false := by simp; omega
  have hne2 : ¬ ((L : Int) = 0) := by omega
  clear KS HY
  go_region_held3 (fun W => W.cell? ⟨br, 0, none⟩ = some (.pointer (some ⟨g, 0, none⟩)) ∧ W.cell? ⟨g, 2, none⟩ = some (.slice (some ⟨blk, 0, none⟩) L cp))
    (first | with_reducible assumption | exact HK2.out _ _)
    (first
      | (go_at_call 42; with_reducible refine HK.out.mono ?_
         rintro e5 w5 ⟨rfl, q, os, rfl⟩))
  go_wp2_with fail
  go_ret
  exact ⟨rfl, HK3.out _ _⟩
end Go.Proofs.YtokdliapkolngaaDoor
