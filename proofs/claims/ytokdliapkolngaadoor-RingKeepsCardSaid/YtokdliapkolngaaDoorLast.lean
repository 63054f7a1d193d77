/-
  A region that draws its order and whose last operation waits for all the others: the condition on the world is asked ahead of that operation alone.
-/
import Derived.StillTail
import Derived.Deep.RegionHeld3
namespace Go.Proofs.YtokdliapkolngaaDoor
open Go
set_option linter.unusedVariables false

/-- nothing is guarded, everything waits for what stands ahead of it, and the last waits, by others or itself, for all -/
def lastB (md : Region.Mode) (ops : Array Oper) (n : Nat) : Bool :=
  decide (ops.size = n + 1) && Region.sinkB md ops n && Region.chainB md ops n && ((List.range ops.size).all fun i => match ops[i]? with
    | some o => o.guard.isNone && o.after.all (fun e => !Region.binds md e || decide (e.on < i))
    | none => true)
theorem lastB_at {md : Region.Mode} {ops : Array Oper} {n i : Nat} {o : Oper} (h : lastB md ops n = true) (ho : ops[i]? = some o) : o.guard = none ∧ ∀ e ∈ o.after, Region.binds md e = true → e.on < i := by
  simp only [lastB, Bool.and_eq_true] at h
  have hi : i < ops.size := (Array.getElem?_eq_some_iff.1 ho).1
  have h2 := List.all_eq_true.1 h.2 i (List.mem_range.2 hi)
  rw [ho] at h2
  simp only [Bool.and_eq_true] at h2
  refine ⟨by simpa using h2.1, fun e he hb => ?_⟩
  have h3 := Array.all_eq_true'.1 h2.2 e he
  rw [hb] at h3
  simpa using h3
/-- the post of what comes ahead of the last operation -/
def lastQ (P : Program) (ops : Array Oper) (Q : Exit → Act → World → Prop) (n : Nat) : Exit → Act → World → Prop
  | .normal, a, w => wpOp P ops Q n (fun a' w' => Q .normal a' w') a w
  | e, a, w => Q e a w
section
variable {P : Program} {ops : Array Oper} {Q : Exit → Act → World → Prop} {n : Nat}
theorem upon_lastQ (o : Oper) (a : Act) (K : Act → World → Prop) (r : Result Next) (h : o.upon P a K (lastQ P ops Q n) r) : o.upon P a K Q r := by
  cases r with
  | ok v w =>
    cases v with
    | enter f args => exact Calls.mono h fun e w' he => by cases e <;> exact he
    | _ => exact h
  | halt x w =>
    cases x <;> exact h
theorem wpOp_lastQ {init : Array Oper} {i : Nat} {o : Oper} {K K' : Act → World → Prop} {a : Act} {w : World} (h1 : init[i]? = some o) (h2 : ops[i]? = some o) (hg : o.guard = none) (hK : ∀ a w, K a w → K' a w) (h : wpOp P init (lastQ P ops Q n) i K a w) : wpOp P ops Q i K' a w := by
  unfold wpOp at h ⊢
  rw [h1] at h
  rw [h2]
  have e : ∀ y, Region.wanted o y = true := fun y => by simp [Region.wanted, hg]
  simp only [e, if_true] at h ⊢
  rcases h with h | h
  · exact .inl (Oper.wp_mono hK (upon_lastQ o a K _ h))
  · exact .inr h
theorem least {p : Nat → Bool} {n : Nat} (h : ∃ i, i < n ∧ p i = false) : ∃ i, i < n ∧ p i = false ∧ ∀ j, j < i → p j = true := by
  induction n with
  | zero => obtain ⟨i, hi, _⟩ := h; omega
  | succ n ih =>
    by_cases h2 : ∃ i, i < n ∧ p i = false
    · obtain ⟨i, h3, h4, h5⟩ := ih h2
      exact ⟨i, by omega, h4, h5⟩
    · obtain ⟨i, h3, h4⟩ := h
      have : i = n := by
        rcases Nat.lt_or_ge i n with h5 | h5
        · exact absurd ⟨i, h5, h4⟩ h2
        · omega
      subst this
      refine ⟨i, by omega, h4, fun j hj => ?_⟩
      cases hp : p j with
      | true => rfl
      | false => exact absurd ⟨j, hj, hp⟩ h2
theorem getD_push {l : Array Bool} {j : Nat} {d : Bool} (h : j < l.size) : (l.push false).getD j d = l.getD j d := by
  simp [Array.getD, h, show j < l.size + 1 by omega, Array.getElem_push]
theorem getD_push_f {l : Array Bool} {j : Nat} : (l.push false).getD j false = l.getD j false := by
  rcases Nat.lt_or_ge j l.size with h | h
  · exact getD_push h
  · rw [show l.getD j false = false by simp [Array.getD, Nat.not_lt.2 h]]
    unfold Array.getD
    split
    · rename_i h2
      have : j = l.size := by simp at h2; omega
      subst this
      simp
    · rfl
theorem getD_push_n {l : Array Bool} {n : Nat} (h : l.size = n) : (l.push false).getD n true = false := by
  subst h; simp [Array.getD]
theorem set_push {l : Array Bool} {i : Nat} (h : i < l.size) : (l.push false).setIfInBounds i true = (l.setIfInBounds i true).push false := by
  apply Array.toList_inj.1
  simp [List.set_append_left _ _ (show i < l.toList.length by simpa using h)]
theorem wpAny_of_last {md : Region.Mode} (hB : lastB md ops n = true) {init : Array Oper} (hi : ∀ j, j < n → init[j]? = ops[j]?) (hz : init.size = n) :
    ∀ (f : Nat) (listed : Array Bool) (a : Act) (w : World), listed.size = n → HeadInv md ops n (listed.push false) → wpAny P md init (lastQ P ops Q n) f listed a w → wpAny P md ops Q (f + 1) (listed.push false) a w := by
  have hB' := hB
  simp only [lastB, Bool.and_eq_true, decide_eq_true_eq] at hB'
  obtain ⟨⟨⟨hsz, hsink⟩, hchain⟩, _⟩ := hB'
  have hn : n < ops.size := by omega
  intro f
  induction f with
  | zero =>
    intro listed a w hl inv h
    by_cases hall : ∃ i, i < n ∧ listed.getD i true = false
    · obtain ⟨i, h1, h2, h3⟩ := least (p := fun i => listed.getD i true) hall
      have : i ∈ Region.ready md init listed := by
        refine mem_ready.2 ⟨h2, init[i], Array.getElem?_eq_getElem (by omega), fun e he hb => ?_⟩
        have h4 := (lastB_at hB (i := i) (by rw [← hi i h1]; exact Array.getElem?_eq_getElem (by omega))).2 e he hb
        have h5 := h3 e.on h4
        simp [Array.getD, hl, show e.on < n by omega] at h5 ⊢
        exact h5
      rw [h.1] at this; cases this
    · have hl1 : ∀ i, i < n → listed.getD i true = true := fun i hi => by
        cases hc : listed.getD i true with
        | true => rfl
        | false => exact absurd ⟨i, hi, hc⟩ hall
      obtain ⟨o, ho⟩ : ∃ o, ops[n]? = some o := ⟨_, Array.getElem?_eq_getElem hn⟩
      have hr : Region.ready md ops (listed.push false) = [n] → True := fun _ => trivial
      have hmem : ∀ i, i ∈ Region.ready md ops (listed.push false) ↔ i = n := fun i => by
        rw [mem_ready]
        constructor
        · rintro ⟨h1, o', h2, _⟩
          have hlt := (Array.getElem?_eq_some_iff.1 h2).1
          rcases Nat.lt_or_ge i n with h3 | h3
          · rw [getD_push (by omega), hl1 i h3] at h1; cases h1
          · omega
        · rintro rfl
          refine ⟨getD_push_n hl, o, ho, fun e he hb => ?_⟩
          have h4 := (lastB_at hB ho).2 e he hb
          rw [getD_push_f]
          have := hl1 e.on h4
          simp [Array.getD, hl, h4] at this ⊢
          exact this
      refine ⟨fun h0 => ?_, fun i hi0 => ?_⟩
      · have := (hmem n).2 rfl
        rw [h0] at this; cases this
      · have hin := (hmem i).1 hi0
        subst hin
        refine wpOp_mono (fun a' w' h' => ?_) h.2
        refine ⟨?_, h'⟩
        apply List.eq_nil_iff_forall_not_mem.2
        intro j hj
        obtain ⟨h1, o', h2, _⟩ := mem_ready.1 hj
        have hlt := (Array.getElem?_eq_some_iff.1 h2).1
        by_cases hji : j = i
        · subst hji
          rw [Array.getD_eq_getD_getElem?, Array.getElem?_setIfInBounds_self_of_lt (by simp; omega)] at h1; cases h1
        · rw [getD_set_ne true (Ne.symm hji), getD_push (by omega), hl1 j (by omega)] at h1; cases h1
  | succ f ih =>
    intro listed a w hl inv h
    by_cases hall : ∃ i, i < n ∧ listed.getD i true = false
    · obtain ⟨i0, h1, h2, h3⟩ := least (p := fun i => listed.getD i true) hall
      have hno : n ∉ Region.ready md ops (listed.push false) := tail_waits hsink hchain hn inv _ i0 rfl h1 (by rw [getD_push (by omega)]; exact h2) n (Nat.le_refl _)
      have hiff : ∀ i, i ∈ Region.ready md ops (listed.push false) → i < n ∧ i ∈ Region.ready md init listed := fun i hi0 => by
        obtain ⟨g1, o, g2, g3⟩ := mem_ready.1 hi0
        have hlt := (Array.getElem?_eq_some_iff.1 g2).1
        have hin : i < n := by
          rcases Nat.lt_or_ge i n with h | h
          · exact h
          · have : i = n := by omega
            subst this; exact absurd hi0 hno
        refine ⟨hin, mem_ready.2 ⟨by rw [getD_push (by omega)] at g1; exact g1, o, (hi i hin).trans g2, fun e he hb => ?_⟩⟩
        have := g3 e he hb
        rwa [getD_push_f] at this
      have hne : Region.ready md ops (listed.push false) ≠ [] := fun h0 => by
        have : i0 ∈ Region.ready md ops (listed.push false) := by
          obtain ⟨o, ho⟩ : ∃ o, ops[i0]? = some o := ⟨_, Array.getElem?_eq_getElem (by omega)⟩
          refine mem_ready.2 ⟨by rw [getD_push (by omega)]; exact h2, o, ho, fun e he hb => ?_⟩
          have h4 := (lastB_at hB ho).2 e he hb
          have h5 := h3 e.on h4
          rw [getD_push_f]
          simp [Array.getD, hl, show e.on < n by omega] at h5 ⊢
          exact h5
        rw [h0] at this; cases this
      refine ⟨fun h0 => absurd h0 hne, fun i hi0 => ?_⟩
      obtain ⟨hin, hri⟩ := hiff i hi0
      obtain ⟨_, o, g2, _⟩ := mem_ready.1 hi0
      refine wpOp_lastQ ((hi i hin).trans g2) g2 (lastB_at hB g2).1 (fun a' w' h' => ?_) (h.2 i hri)
      have e : (listed.push false).setIfInBounds i true = (listed.setIfInBounds i true).push false := set_push (by omega)
      have hinv := inv.set hi0 hin
      rw [e] at hinv ⊢
      exact ih _ a' w' (by simpa using hl) hinv h'
    · have hl1 : ∀ i, i < n → listed.getD i true = true := fun i hi => by
        cases hc : listed.getD i true with
        | true => rfl
        | false => exact absurd ⟨i, hi, hc⟩ hall
      have hr0 : Region.ready md init listed = [] := by
        apply List.eq_nil_iff_forall_not_mem.2
        intro j hj
        obtain ⟨h1, o', h2, _⟩ := mem_ready.1 hj
        have hlt := (Array.getElem?_eq_some_iff.1 h2).1
        rw [hl1 j (by omega)] at h1; cases h1
      have hz0 : wpAny P md init (lastQ P ops Q n) 0 listed a w := ⟨hr0, h.1 hr0⟩
      obtain ⟨o, ho⟩ : ∃ o, ops[n]? = some o := ⟨_, Array.getElem?_eq_getElem hn⟩
      have hmem : ∀ i, i ∈ Region.ready md ops (listed.push false) ↔ i = n := fun i => by
        rw [mem_ready]
        constructor
        · rintro ⟨h1, o', h2, _⟩
          have hlt := (Array.getElem?_eq_some_iff.1 h2).1
          rcases Nat.lt_or_ge i n with h3 | h3
          · rw [getD_push (by omega), hl1 i h3] at h1; cases h1
          · omega
        · rintro rfl
          refine ⟨getD_push_n hl, o, ho, fun e he hb => ?_⟩
          have h4 := (lastB_at hB ho).2 e he hb
          rw [getD_push_f]
          have := hl1 e.on h4
          simp [Array.getD, hl, h4] at this ⊢
          exact this
      refine ⟨fun h0 => ?_, fun i hi0 => ?_⟩
      · have := (hmem n).2 rfl
        rw [h0] at this; cases this
      · have hin := (hmem i).1 hi0
        subst hin
        refine wpOp_mono (fun a' w' h' => ?_) (h.1 hr0)
        have hr : Region.ready md ops ((listed.push false).setIfInBounds i true) = [] := by
          apply List.eq_nil_iff_forall_not_mem.2
          intro j hj
          obtain ⟨h1, o', h2, _⟩ := mem_ready.1 hj
          have hlt := (Array.getElem?_eq_some_iff.1 h2).1
          by_cases hji : j = i
          · subst hji
            rw [Array.getD_eq_getD_getElem?, Array.getElem?_setIfInBounds_self_of_lt (by simp; omega)] at h1; cases h1
          · rw [getD_set_ne true (Ne.symm hji), getD_push (by omega), hl1 j (by omega)] at h1; cases h1
        exact ⟨fun _ => h', by rw [hr]; intro k hk; cases hk⟩
/-- the law -/
theorem wp_region_last {id : Nat} {a : Act} {w : World} {l : List Oper} (n : Nat) (S : World → Prop) (hm : P.follows .mixedOrders = true) (hB : lastB .any l.toArray n = true)
    (h : wpAnyH P .any (l.take n).toArray (lastQ P l.toArray Q n) S n (Array.replicate n false) a w.drew) : (Code.region id l.toArray true).wp P Q a w := by
  have hsz : l.length = n + 1 := by
    simp only [lastB, Bool.and_eq_true, decide_eq_true_eq] at hB
    simpa using hB.1.1.1
  refine wp_region_any hm ?_
  have inv0 : HeadInv .any l.toArray n ((Array.replicate n false).push false) :=
    ⟨by simp [hsz], fun j oj _ hl => (by rw [← Array.replicate_succ, getD_replicate_false] at hl; cases hl), fun t h1 h2 => getD_in (by simp at h2 ⊢; omega) (by rw [← Array.replicate_succ]; exact getD_replicate_false _ _)⟩
  have := wpAny_of_last hB (init := (l.take n).toArray) (fun j hj => by simp [hj]) (by simp [hsz]) n (Array.replicate n false) a w.drew (by simp) inv0 (wpAny_of_held _ _ _ _ h)
  rw [← Array.replicate_succ] at this
  rw [List.size_toArray, hsz]
  exact this
/-- an operation ahead of the last is taken first -/
theorem take_last {l0 : List Oper} {S : World → Prop} {md : Region.Mode} (i : Nat) {oi : Oper} {v : Value} {fuel : Nat} {listed : Array Bool} {a : Act} {w : World} (hi : l0[i]? = some oi)
    (hs : Region.noSelect l0.toArray = true) (hf : Region.free md l0.toArray listed i = true) (hr : (Region.ready md l0.toArray listed).contains i = true)
    (hQ : ∀ c a w, Q (.panic c) (a.put oi.dst v) w → Q (.panic c) a w) (hy : YieldsIf P l0.toArray S oi v a) (hS : S w)
    (h : wpAnyH P md l0.toArray (lastQ P ops Q n) S fuel (listed.setIfInBounds i true) (a.put oi.dst v) w) : wpAnyH P md l0.toArray (lastQ P ops Q n) S (fuel + 1) listed a w :=
  wpAnyH_take (List.getElem?_toArray.trans hi) hs hf hr (fun c a w h => hQ c a w h) hy hS h
theorem cons_last {l0 : List Oper} {S : World → Prop} {md : Region.Mode} {Q : Exit → Act → World → Prop} {fuel : Nat} {listed : Array Bool} {a : Act} {w : World} {i : Nat} {o : Oper} {rs : List Nat} (ho : l0[i]? = some o)
    (h : ∀ K' : Act → World → Prop, Shut (∀ a w, S w → (S w → wpAnyH P md l0.toArray Q S fuel (listed.setIfInBounds i true) a w) → K' a w) → if Region.wanted o (yielded l0.toArray a.tmps) = true then Oper.wp P o a w K' Q else K' (a.put o.dst undef) w)
    (hs : AllReadyH P md l0.toArray Q S fuel listed a w rs) : AllReadyH P md l0.toArray Q S fuel listed a w (i :: rs) := AllReadyH.cons (List.getElem?_toArray.trans ho) h hs
theorem done_last {a : Act} {w : World} (h : wpOp P ops Q n (fun a' w' => Q .normal a' w') a w) : lastQ P ops Q n .normal a w := h
theorem step_last {l0 : List Oper} {i : Nat} {o : Oper} {K : Act → World → Prop} {a : Act} {w : World} (ho : l0[i]? = some o)
    (h : ∀ K' : Act → World → Prop, (∀ a w, K a w → K' a w) → if Region.wanted o (yielded l0.toArray a.tmps) = true then Oper.wp P o a w K' Q else K' (a.put o.dst undef) w) : wpOp P l0.toArray Q i K a w :=
  wpOp_step (List.getElem?_toArray.trans ho) h
end
end Go.Proofs.YtokdliapkolngaaDoor
