/-
  Ring: the plain law of a ring that stands: its points by name.
-/
import Derived.Test.YtokdliapkolngaaDoorRingN
import Derived.Test.YtokdliapkolngaaDoorRingQ
namespace Go.Proofs.YtokdliapkolngaaDoor
set_option linter.unusedVariables false
--BODY
/-- all points, by name -/
def rawB (each : Nat) (names : List ByteArray) : List (Int × ByteArray) := names.flatMap fun s => (List.range each).map fun k => ((placeN (ptName s k) : Int), s)
def byN {n : Nat} (names : List ByteArray) (pts : List (PtN n)) : List (Int × ByteArray) := pts.map fun x => (x.pl, nmB names x)
theorem flat_zip {α β : Type} (l : List α) (g : α × Nat → List β) (g' : α → List β) (h : ∀ p ∈ l.zipIdx, g p = g' p.1) : l.zipIdx.flatMap g = l.flatMap g' := by
  have gen : ∀ m : List (α × Nat), (∀ p ∈ m, g p = g' p.1) → m.flatMap g = (m.map Prod.fst).flatMap g' := by
    intro m
    induction m with
    | nil => intro _; rfl
    | cons x m ih =>
      intro hm
      rw [List.flatMap_cons, List.map_cons, List.flatMap_cons, hm x (by simp), ih (fun p hp => hm p (by simp [hp]))]
  rw [gen _ h, List.zipIdx_map_fst]
theorem byN_raw {n each : Nat} {names : List ByteArray} (hn : names.length = n + 1) : byN names (rawR n each names) = rawB each names := by
  unfold byN rawR rawB
  rw [List.map_flatMap]
  refine flat_zip names _ _ fun p hp => ?_
  have h1 := List.mem_zipIdx_iff_getElem?.1 hp
  have h2 : p.2 < names.length := (List.getElem?_eq_some_iff.1 h1).1
  rw [List.map_map]
  apply List.map_congr_left
  intro k _
  have e : min p.2 n = p.2 := Nat.min_eq_left (by omega)
  show (((placeN (ptName p.1 k) : Nat) : Int), (names[min p.2 n]?).getD ByteArray.empty) = _
  rw [e, h1]; rfl
theorem stand_byN {n each : Nat} {names : List ByteArray} {pts : List (PtN n)} (h : StandR names each pts) (hn : names.length = n + 1) :
    (byN names pts).Perm (rawB each names) ∧ (byN names pts).Pairwise (fun x y => ¬ ltB y x) := by
  refine ⟨by rw [← byN_raw hn]; exact h.1.map _, ?_⟩
  unfold byN
  rw [List.pairwise_map]
  refine h.2.imp fun {x y} hxy hlt => ?_
  have := (cmpN_lt names y x).2 hlt
  rw [this] at hxy; cases hxy
theorem byN_alike {n n' each : Nat} {names names' : List ByteArray} {pts : List (PtN n)} {pts' : List (PtN n')} (h : StandR names each pts) (h' : StandR names' each pts') (hn : names.length = n + 1) (hn' : names'.length = n' + 1) (hp : names.Perm names') : byN names pts = byN names' pts' := by
  have a := stand_byN h hn
  have b := stand_byN h' hn'
  refine sorted_unique a.2 b.2 (a.1.trans (.trans ?_ b.1.symm))
  exact hp.flatMap_right _
theorem rawB_not (each : Nat) (s : ByteArray) : ∀ names : List ByteArray, s ∉ names → (rawB each names).filter (fun y => decide (y.2 ≠ s)) = rawB each names := by
  intro names h
  rw [List.filter_eq_self]
  intro y hy
  unfold rawB at hy
  obtain ⟨t, ht, hk⟩ := List.mem_flatMap.1 hy
  obtain ⟨k, _, rfl⟩ := List.mem_map.1 hk
  exact decide_eq_true (fun e => h (e ▸ ht))
/-- a ring with a name less -/
theorem byN_gone {n n' each : Nat} {names names' : List ByteArray} {pts : List (PtN n)} {pts' : List (PtN n')} (s : ByteArray) (h : StandR names each pts) (h' : StandR names' each pts') (hn : names.length = n + 1) (hn' : names'.length = n' + 1) (hp : names.Perm (s :: names')) (hs : s ∉ names') :
    byN names' pts' = (byN names pts).filter fun y => decide (y.2 ≠ s) := by
  have a := stand_byN h hn
  have b := stand_byN h' hn'
  refine sorted_unique b.2 (a.2.filter _) (b.1.trans (.trans ?_ (a.1.filter _).symm))
  have e : (rawB each (s :: names')).filter (fun y => decide (y.2 ≠ s)) = rawB each names' := by
    have e1 : rawB each (s :: names') = ((List.range each).map fun k => ((placeN (ptName s k) : Int), s)) ++ rawB each names' := by unfold rawB; rw [List.flatMap_cons]
    rw [e1, List.filter_append, rawB_not each s names' hs, List.filter_eq_nil_iff.2, List.nil_append]
    intro y hy
    obtain ⟨k, _, rfl⟩ := List.mem_map.1 hy
    simp
  rw [← e]
  exact ((hp.flatMap_right _).filter _).symm
/-- a region's name -/
def nmI (names : List ByteArray) (r : Int) : ByteArray := names[r.toNat]?.getD ByteArray.empty
theorem nmI_inj {names : List ByteArray} (hd : names.Nodup) {i j : Nat} (hi : i < names.length) (hj : j < names.length) (h : nmI names i = nmI names j) : i = j := by
  unfold nmI at h
  rw [show ((i : Int).toNat) = i by omega, show ((j : Int).toNat) = j by omega, List.getElem?_eq_getElem hi, List.getElem?_eq_getElem hj] at h
  exact (List.getElem_inj hd).1 h
/-- the order of regions behind a place -/
def ordR {n : Nat} (pts : List (PtN n)) (a : Int) : List Int := (cycN pts (firstN pts a)).foldl addNew []
theorem ordR_once {n : Nat} (pts : List (PtN n)) (a : Int) : ordR pts a = once (cycN pts (firstN pts a)) := by
  unfold ordR once
  congr 1
theorem stand_sorted {n each : Nat} {names : List ByteArray} {pts : List (PtN n)} (h : StandR names each pts) : pts.Pairwise (fun x y => x.pl ≤ y.pl) := by
  refine h.2.imp fun {x y} hxy => ?_
  refine Int.not_lt.1 fun hlt => ?_
  have := (cmpN_lt names y x).2 (.inl hlt)
  rw [this] at hxy; cases hxy
theorem cyc_rot {n each : Nat} {names : List ByteArray} {pts : List (PtN n)} (h : StandR names each pts) (h0 : 0 < pts.length) (a : Int) : cycN pts (firstN pts a) = (rotB PtN.pl pts a).map fun x => (x.rg : Int) := by
  unfold cycN firstN
  rw [sorted_rot PtN.pl a pts (stand_sorted h) h0]
theorem ord_names {n each : Nat} {names : List ByteArray} {pts : List (PtN n)} (h : StandR names each pts) (hn : names.length = n + 1) (hd : names.Nodup) (h0 : 0 < pts.length) (a : Int) : (ordR pts a).map (nmI names) = ordB (byN names pts) a := by
  rw [ordR_once, cyc_rot h h0, ← once_map, List.map_map]
  · unfold ordB byN
    rw [rotB_map PtN.pl Prod.fst (fun x : PtN n => (x.pl, nmB names x)) (fun _ => rfl), List.map_map]
    rfl
  · intro x hx y hy he
    obtain ⟨p, _, rfl⟩ := List.mem_map.1 hx
    obtain ⟨q, _, rfl⟩ := List.mem_map.1 hy
    have := nmI_inj hd (by have := p.hr; omega) (by have := q.hr; omega) he
    omega
theorem ord_range {n : Nat} (pts : List (PtN n)) (a : Int) : ∀ r ∈ ordR pts a, 0 ≤ r ∧ r ≤ (n : Int) := by
  intro r hr
  rw [ordR_once, mem_once] at hr
  obtain ⟨p, _, rfl⟩ := List.mem_map.1 hr
  have := p.hr
  omega
theorem ord_head {n : Nat} (pts : List (PtN n)) (h0 : 0 < pts.length) (a : Int) : (ordR pts a)[0]? = some ((rgAt pts (firstN pts a) : Nat) : Int) := by
  have hl := firstN_lt pts a h0
  have := cyc_at pts (firstN pts a) 0 hl h0
  rw [Nat.add_zero, Nat.mod_eq_of_lt hl] at this
  rw [ordR_once, ← List.head?_eq_getElem?, head_once, List.head?_eq_getElem?]
  exact this
theorem mem_byN {n each : Nat} {names : List ByteArray} {pts : List (PtN n)} (h : StandR names each pts) (hn : names.length = n + 1) (he : 0 < each) (z : ByteArray) : z ∈ (byN names pts).map Prod.snd ↔ z ∈ names := by
  rw [((stand_byN h hn).1.map Prod.snd).mem_iff]
  unfold rawB
  constructor
  · intro hz
    obtain ⟨y, hy, rfl⟩ := List.mem_map.1 hz
    obtain ⟨t, ht, hk⟩ := List.mem_flatMap.1 hy
    obtain ⟨k, _, rfl⟩ := List.mem_map.1 hk
    exact ht
  · intro hz
    exact List.mem_map.2 ⟨((placeN (ptName z 0) : Int), z), List.mem_flatMap.2 ⟨z, hz, List.mem_map.2 ⟨0, by simpa using he, rfl⟩⟩, rfl⟩
theorem ord_length {n each : Nat} {names : List ByteArray} {pts : List (PtN n)} (h : StandR names each pts) (hn : names.length = n + 1) (hd : names.Nodup) (he : 0 < each) (h0 : 0 < pts.length) (a : Int) : (ordR pts a).length = names.length := by
  have e := ord_names h hn hd h0 a
  have hp : (ordB (byN names pts) a).Perm names := by
    refine (List.perm_ext_iff_of_nodup (show (ordB (byN names pts) a).Nodup from nodup_once _) hd).2 fun z => ?_
    unfold ordB
    rw [mem_once, ← mem_byN h hn he, List.mem_map, List.mem_map]
    constructor
    · rintro ⟨y, hy, rfl⟩; exact ⟨y, (rotB_mem _ _ _ _).1 hy, rfl⟩
    · rintro ⟨y, hy, rfl⟩; exact ⟨y, (rotB_mem _ _ _ _).2 hy, rfl⟩
  rw [← hp.length_eq, ← e, List.length_map]
theorem stand_pos {n each : Nat} {names : List ByteArray} {pts : List (PtN n)} (h : StandR names each pts) (hn : names.length = n + 1) (he : 0 < each) : 0 < pts.length := by
  rw [h.1.length_eq, rawR_len]
  exact Nat.mul_pos (by omega) he
theorem stand_len {n each : Nat} {names : List ByteArray} {pts : List (PtN n)} (h : StandR names each pts) : pts.length = names.length * each := by rw [h.1.length_eq, rawR_len]
/-- two that stand are the same -/
theorem stand_unique {n each : Nat} {names : List ByteArray} {pts pts' : List (PtN n)} (h : StandR names each pts) (h' : StandR names each pts') (hn : names.length = n + 1) (hd : names.Nodup) : pts = pts' := by
  have e := byN_alike h h' hn hn (List.Perm.refl _)
  unfold byN at e
  refine List.map_inj_right ?_ |>.1 e
  intro x y hxy
  have h1 : x.pl = y.pl := congrArg Prod.fst hxy
  have h2 : nmB names x = nmB names y := congrArg Prod.snd hxy
  have h3 : x.rg = y.rg := nmI_inj hd (by have := x.hr; omega) (by have := y.hr; omega) h2
  cases x; cases y
  simp at h1 h3
  subst h1; subst h3; rfl
/-- the owner's name -/
theorem own_name {n each : Nat} {names : List ByteArray} {pts : List (PtN n)} (h : StandR names each pts) (hn : names.length = n + 1) (hd : names.Nodup) (h0 : 0 < pts.length) (a : Int) : (ordB (byN names pts) a)[0]? = some (nmI names (rgAt pts (firstN pts a) : Nat)) := by
  rw [← ord_names h hn hd h0 a, List.getElem?_map, ord_head pts h0 a]; rfl
theorem rgAt_le {n : Nat} (pts : List (PtN n)) (k : Nat) : rgAt pts k ≤ n := by
  unfold rgAt
  cases h : pts[k]? with
  | none => simp
  | some x => exact x.hr
theorem nodup_cons {s : ByteArray} {names names' : List ByteArray} (hp : names.Perm (s :: names')) (hd : names.Nodup) : s ∉ names' ∧ names'.Nodup := List.nodup_cons.1 (hp.nodup_iff.1 hd)
/-- a region goes -/
theorem ring_gone {n n' each : Nat} {names names' : List ByteArray} {pts : List (PtN n)} {pts' : List (PtN n')} (s : ByteArray) (h : StandR names each pts) (h' : StandR names' each pts') (hn : names.length = n + 1) (hn' : names'.length = n' + 1) (hd : names.Nodup) (he : 0 < each) (hp : names.Perm (s :: names')) (a : Int) :
    (nmI names (rgAt pts (firstN pts a) : Nat) ≠ s → nmI names' (rgAt pts' (firstN pts' a) : Nat) = nmI names (rgAt pts (firstN pts a) : Nat)) ∧
    (nmI names (rgAt pts (firstN pts a) : Nat) = s → (ordR pts a)[1]?.map (nmI names) = some (nmI names' (rgAt pts' (firstN pts' a) : Nat))) := by
  obtain ⟨hs, hd'⟩ := nodup_cons hp hd
  have h0 := stand_pos h hn he
  have h0' := stand_pos h' hn' he
  have o1 := own_name h hn hd h0 a
  have o2 := own_name h' hn' hd' h0' a
  rw [byN_gone s h h' hn hn' hp hs, ord_gone _ _ s _ o1] at o2
  refine ⟨fun hne => ?_, fun heq => ?_⟩
  · rw [if_neg hne] at o2; injection o2 with o2; exact o2.symm
  · rw [if_pos heq, ← ord_names h hn hd h0 a, List.getElem?_map] at o2; exact o2
/-- in whatever order the names come -/
theorem ring_alike {n n' each : Nat} {names names' : List ByteArray} {pts : List (PtN n)} {pts' : List (PtN n')} (h : StandR names each pts) (h' : StandR names' each pts') (hn : names.length = n + 1) (hn' : names'.length = n' + 1) (hd : names.Nodup) (he : 0 < each) (hp : names.Perm names') (a : Int) :
    (ordR pts a).map (nmI names) = (ordR pts' a).map (nmI names') := by
  rw [ord_names h hn hd (stand_pos h hn he) a, ord_names h' hn' (hp.nodup_iff.1 hd) (stand_pos h' hn' he) a, byN_alike h h' hn hn' hp]
theorem erase_perm {α : Type} : ∀ (l : List α) (k : Nat) (x : α), l[k]? = some x → l.Perm (x :: l.eraseIdx k)
  | [], _, _, h => by simp at h
  | y :: l, 0, x, h => by
    have : y = x := by simpa using h
    subst this; simp
  | y :: l, k + 1, x, h => by
    have ih := erase_perm l k x (by simpa using h)
    rw [List.eraseIdx_cons_succ]
    exact (ih.cons y).trans (List.Perm.swap x y _)
end Go.Proofs.YtokdliapkolngaaDoor
