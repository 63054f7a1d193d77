/-
  A world that is as it was but for some blocks.
-/
import Derived.Test.YtokdliapkolngaaDoorPMap
import Derived.Test.YtokdliapkolngaaDoorRow
namespace Go.Proofs.YtokdliapkolngaaDoor
open Go.RowKit Go.Maps
set_option linter.unusedVariables false

/-- w' is w but for the blocks that S names, and for new ones -/
structure But (S : Nat → Prop) (w w' : World) : Prop where
  os : w'.os = w.os
  tape : w'.tape = w.tape
  output : w'.output = w.output
  size : w.heap.size ≤ w'.heap.size
  block : ∀ k, k < w.heap.size → ¬ S k → w'.heap[k]? = w.heap[k]?
section
variable {S S' : Nat → Prop} {w w' w'' : World} {B : Nat}
theorem But.refl (S : Nat → Prop) (w : World) : But S w w := ⟨rfl, rfl, rfl, Nat.le_refl _, fun _ _ _ => rfl⟩
theorem But.trans (h : But S w w') (h' : But S w' w'') : But S w w'' :=
  ⟨h'.os.trans h.os, h'.tape.trans h.tape, h'.output.trans h.output, Nat.le_trans h.size h'.size, fun k hk hS => (h'.block k (Nat.lt_of_lt_of_le hk h.size) hS).trans (h.block k hk hS)⟩
theorem But.mono (h : But S w w') (hs : ∀ k, S k → S' k) : But S' w w' := ⟨h.os, h.tape, h.output, h.size, fun k hk hn => h.block k hk (fun he => hn (hs k he))⟩
theorem But.of_grown {b : Nat} (h : w.grownBy w' (some b)) (hb : S b) : But S w w' := ⟨h.os, h.tape, h.output, h.size, fun k hk hn => h.block k hk (fun e => by injection e with e; subst e; exact hn hb)⟩
theorem But.of_grownN (h : w.grownBy w' none) : But S w w' := ⟨h.os, h.tape, h.output, h.size, fun k hk hn => h.block k hk (by simp)⟩
theorem But.of_below (h : Below w.heap.size w w') : But S w w' := ⟨h.os, h.tape, h.output, h.size, fun k hk _ => h.block k hk⟩
theorem But.below (h : But S w w') (hS : ∀ k, S k → B ≤ k) (hB : B ≤ w.heap.size) : Below B w w' := ⟨h.os, h.tape, h.output, h.size, fun k hk => h.block k (Nat.lt_of_lt_of_le hk hB) (fun hs => absurd (hS k hs) (by omega))⟩
theorem But.undrew (h : But S w.drew w') : But S w w' := ⟨h.os, h.tape, h.output, h.size, h.block⟩
theorem But.row {g t : Nat} {xs : List Value} (h : But S w w') (hr : RowV w g t xs) (hg : ¬ S g) : RowV w' g t xs := (h.block g hr.lt hg).trans hr
theorem But.pm {P : Program} {p : Value → Prop} {k b n : Nat} {f : Lit → Option Value} (h : But S w w') (hp : PM P p w k b n f) (hb : ¬ S b) : PM P p w' k b n f := by
  obtain ⟨D, ⟨es, clock, h1, h2⟩, h3⟩ := hp
  exact ⟨D, ⟨es, clock, (h.block b (Array.getElem?_eq_some_iff.1 h1).1 hb).trans h1, h2⟩, h3⟩
theorem But.cell {p : Addr} (h : But S w w') (hl : p.block < w.heap.size) (hp : ¬ S p.block) : w'.cell? p = w.cell? p := by
  unfold World.cell?
  rw [h.block _ hl hp]
end
end Go.Proofs.YtokdliapkolngaaDoor
