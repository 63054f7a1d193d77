/-
  Maps as functions of their keys as they read: whatever the elements' type.
-/
import Derived.Maps.OwnSet
import Derived.Lib.SlMapFilter
import Derived.Test.YtokdliapkolngaaDoorOwn
namespace Go.Proofs.YtokdliapkolngaaDoor
open Go.RowKit Go.Maps
set_option linter.unusedVariables false

open Classical in
/-- an element that p knows reads as itself -/
noncomputable def RV (p : Value → Prop) (v : Value) : Option (DataW Value × List MemPlace) := if p v then some (.held v, []) else none
theorem RV_mk {p : Value → Prop} {v : Value} (h : p v) : RV p v = some (.held v, []) := by unfold RV; rw [if_pos h]
/-- block b of w is a map of at most n entries that holds f -/
def PM (P : Program) (p : Value → Prop) (w : World) (k b n : Nat) (f : Lit → Option Value) : Prop :=
  ∃ D : DataW Value, w.ownsMap P k (RV p) b n D ∧ ∀ kl, Maps.has D kl = (f kl).isSome ∧ ∀ z, D.atKey kl (.held z) = .held ((f kl).getD z)
open Classical in
/-- f with one key set -/
noncomputable def upd (f : Lit → Option Value) (kl : Lit) (v : Value) : Lit → Option Value := fun x => if x = kl then some v else f x
theorem upd_same (f : Lit → Option Value) (kl : Lit) (v : Value) : upd f kl v kl = some v := by unfold upd; rw [if_pos rfl]
theorem upd_other (f : Lit → Option Value) {kl kl' : Lit} (v : Value) (h : kl' ≠ kl) : upd f kl v kl' = f kl' := by unfold upd; rw [if_neg h]

section
variable {P : Program} {p : Value → Prop} {w w' : World} {k b n : Nat} {f : Lit → Option Value}
theorem PM.made (w : World) (P : Program) (p : Value → Prop) (k : Nat) : PM P p (w.alloc (.map #[] 0)) k w.heap.size 0 (fun _ => none) :=
  ⟨_, World.ownsMap_made w P k (RV p), fun kl => ⟨rfl, fun z => rfl⟩⟩
theorem PM.lt (h : PM P p w k b n f) : b < w.heap.size := by obtain ⟨D, h, _⟩ := h; exact h.lt
theorem PM.kept {row : Option Nat} (h : PM P p w k b n f) (hg : w.grownBy w' row) (hne : some b ≠ row) : PM P p w' k b n f := by
  obtain ⟨D, h, h2⟩ := h; exact ⟨D, h.kept hg hne, h2⟩
theorem PM.alloc (h : PM P p w k b n f) (o : Obj) : PM P p (w.alloc o) k b n f := by obtain ⟨D, h, h2⟩ := h; exact ⟨D, h.alloc o, h2⟩
theorem PM.drew (h : PM P p w k b n f) : PM P p w.drew k b n f := h
theorem PM.below (h : PM P p w k b n f) (hb : Below w.heap.size w w') : PM P p w' k b n f := h.kept (grownBy_of_below hb) (by simp)
theorem PM.setCell (h : PM P p w k b n f) {a : Addr} (ha : b ≠ a.block) (u : Value) : PM P p (w.setCell a u) k b n f := by
  obtain ⟨D, h, h2⟩ := h; exact ⟨D, h.setCell ha u, h2⟩
theorem PM.mono (h : PM P p w k b n f) {n' : Nat} (hn : n ≤ n') : PM P p w k b n' f := by obtain ⟨D, h, h2⟩ := h; exact ⟨D, h.mono hn, h2⟩
theorem PM.congr {g : Lit → Option Value} (h : PM P p w k b n f) (hf : ∀ kl, f kl = g kl) : PM P p w k b n g := by
  obtain ⟨D, h, h2⟩ := h; exact ⟨D, h, fun kl => by rw [← hf kl]; exact h2 kl⟩
theorem RV_inv {v : Value} {d : DataW Value} {ps : List MemPlace} (h : RV p v = some (d, ps)) : d = .held v := by
  unfold RV at h
  split at h
  · injection h with h; injection h with h _; exact h.symm
  · cases h
theorem RV_is {v : Value} {y : DataW Value × List MemPlace} (h : RV p v = some y) : p v := by
  unfold RV at h
  split at h
  · assumption
  · cases h
/-- 'm[k]' -/
theorem PM.look {t e : TypeId} (h : PM P p w k b n f) (K : Keyed P k) (ht : P.underlying t = some (.map k e)) {z : Value} (hz : (zeroValue e).run P w = .ok z w) (hpz : p z) {key : Value} {kl : Lit} (hkey : keyOf P k key = some kl) :
    (Instr.lookup t (.map (some b)) key false).run P w = .ok ((f kl).getD z) w := by
  obtain ⟨D, h, h2⟩ := h
  obtain ⟨v, ps, hrun, hv⟩ := h.lookup K ht hz (zd := .held z) (zp := []) (RV_mk hpz) hkey
  have := RV_inv hv
  rw [(h2 kl).2 z] at this
  injection this with this
  rw [hrun, this]
/-- 'v, ok := m[k]' -/
theorem PM.look_ok {t e : TypeId} (h : PM P p w k b n f) (K : Keyed P k) (ht : P.underlying t = some (.map k e)) {z : Value} (hz : (zeroValue e).run P w = .ok z w) (hpz : p z) {key : Value} {kl : Lit} (hkey : keyOf P k key = some kl) :
    (Instr.lookup t (.map (some b)) key true).run P w = .ok (.tuple #[(f kl).getD z, .bool (f kl).isSome]) w := by
  obtain ⟨D, h, h2⟩ := h
  obtain ⟨v, ps, hrun, hv⟩ := h.look_ok K ht hz (zd := .held z) (zp := []) (RV_mk hpz) hkey
  have := RV_inv hv
  rw [(h2 kl).2 z] at this
  injection this with this
  rw [hrun, this, (h2 kl).1]
/-- 'm[k] = v' -/
theorem PM.store {t e : TypeId} (h : PM P p w k b n f) (K : Keyed P k) (ht : P.underlying t = some (.map k e)) (hn : n < maxLen) {key : Value} {val : Value} (hpv : p val) {kl : Lit} (hkey : keyOf P k key = some kl) :
    ∃ w', (Instr.mapUpdate t (.map (some b)) key val).run P w = .ok () w' ∧ PM P p w' k b (n + 1) (upd f kl val) ∧ w.grownBy w' (some b) := by
  obtain ⟨D, h, h2⟩ := h
  obtain ⟨w', hrun, hown, hg⟩ := h.update K ht hn (val := val) (d := .held val) (ps := []) hkey (RV_mk hpv)
  refine ⟨w', hrun, ⟨_, hown, fun x => ?_⟩, hg⟩
  by_cases hx : x = kl
  · subst hx
    rw [upd_same]
    exact ⟨Maps.has_put_same h.isMap (K.key hkey) _, fun z => Maps.atKey_put_same h.isMap (K.key hkey) _ _⟩
  · rw [upd_other f _ hx]
    exact ⟨(Maps.has_put_other hx _).trans (h2 x).1, fun z => (Maps.atKey_put_other hx _ _).trans ((h2 x).2 z)⟩
/-- the entries that pd names are struck -/
theorem PM.struck {D : DataW Value} (pd : Lit → Bool) (h2 : ∀ kl, Maps.has D kl = (f kl).isSome ∧ ∀ z, D.atKey kl (.held z) = .held ((f kl).getD z)) (hD : IsMap D) (kl : Lit) :
    Maps.has (Lib.deleteFuncD (fun l _ => pd l) D) kl = (if pd kl then none else f kl : Option Value).isSome ∧ ∀ z, (Lib.deleteFuncD (fun l _ => pd l) D).atKey kl (.held z) = .held ((if pd kl then none else f kl : Option Value).getD z) := by
  obtain ⟨es, rfl⟩ := hD
  obtain ⟨h3, h4⟩ := h2 kl
  by_cases hp : pd kl = true
  · rw [if_pos hp]
    have hno : ∀ p ∈ es.filter (fun p => !pd p.1), p.1.sameKey kl = false := by
      intro p hpm
      cases hs : p.1.sameKey kl
      · rfl
      · have := WideAt.sameKey_eq hs
        have h5 := (List.mem_filter.1 hpm).2
        rw [this, hp] at h5
        cases h5
    refine ⟨?_, fun z => ?_⟩
    · show (es.filter (fun p => !pd p.1)).any (fun p => p.1.sameKey kl) = false
      rw [List.any_eq_false]
      intro p hpm
      rw [hno p hpm]; simp
    · simp only [Lib.deleteFuncD, DataW.atKey]
      rw [List.find?_eq_none.2 (fun p hpm => by rw [hno p hpm]; simp)]
      rfl
  · rw [if_neg hp]
    have hkeep : ∀ p : Lit × DataW Value, p.1.sameKey kl = true → (!pd p.1) = true := fun p hs => by
      rw [WideAt.sameKey_eq hs]; simpa using hp
    refine ⟨?_, fun z => ?_⟩
    · rw [← h3]
      show (es.filter (fun p => !pd p.1)).any (fun p => p.1.sameKey kl) = es.any (fun p => p.1.sameKey kl)
      exact Maps.any_filter_keep hkeep es
    · rw [← h4 z]
      simp only [Lib.deleteFuncD, DataW.atKey]
      rw [Maps.find_filter_keep hkeep es]
end
end Go.Proofs.YtokdliapkolngaaDoor
