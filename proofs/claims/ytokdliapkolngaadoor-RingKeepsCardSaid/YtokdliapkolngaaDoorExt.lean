/-
  Regions that draw their order and whose calls make memory of their own, but hand back plain values: one walk in the text's order, over the class of worlds that have grown.
-/
import Derived.Test.YtokdliapkolngaaDoorMem
import Derived.Deep.QuietTactic
import Derived.BigQuiet
namespace Go.Proofs.YtokdliapkolngaaDoor
open Go.RowKit

/-- a world that has grown out of w: what was there is as it was -/
def Ext (w : World) : Type := { w' : World // Below w.heap.size w w' }
def extW (w : World) (p : Ext w) : World := p.1
instance (w : World) : Inhabited (Ext w) := ⟨⟨w, Below.refl _ _⟩⟩
theorem extW_below (w : World) (p : Ext w) : Below w.heap.size w (extW w p) := p.2
theorem extW_size (w : World) (p : Ext w) : w.heap.size ≤ (extW w p).heap.size := p.2.size
theorem extW_of {w w' : World} (h : Below w.heap.size w w') : ∃ p : Ext w, w' = extW w p := ⟨⟨w', h⟩, rfl⟩

theorem wp_region_ext {P : Program} {id : Nat} {Q : Exit → Act → World → Prop} {a : Act} {w : World} {l : List Oper} (hm : P.follows .mixedOrders = true) (hB : Region.lexB .any l.toArray = true)
    (h : wpQuiet P l.toArray (fun w' => ∃ p : Ext w, w' = extW w p) (fun a' => ∀ w', (∃ p : Ext w, w' = extW w p) → Q .normal a' w') l a) : (Code.region id l.toArray true).wp P Q a w :=
  wp_region_quiet (C := fun w' => ∃ p : Ext w, w' = extW w p) hm hB ⟨⟨_, (Below.refl _ _).drew⟩, rfl⟩ (by simpa using h)

/-- a contract, met in a grown world -/
theorem ext_call {P : Program} {f : FuncId} {args : Array Value} {w : World} {v : Value} (p : Ext w)
    (h : Calls P f args (extW w p) fun e w' => e = .returned v ∧ Below (extW w p).heap.size (extW w p) w') :
    Calls P f args (extW w p) fun e w'' => e = .returned v ∧ ∃ q : Ext w, w'' = extW w q :=
  h.mono fun _ _ ⟨he, hb⟩ => ⟨he, extW_of ((extW_below w p).trans (hb.mono (extW_size w p)))⟩
/-- .. of a callee that leaves the world alone -/
theorem ext_call_same {P : Program} {f : FuncId} {args : Array Value} {w : World} {v : Value} (p : Ext w)
    (h : Calls P f args (extW w p) fun e w' => e = .returned v ∧ extW w p = w') :
    Calls P f args (extW w p) fun e w'' => e = .returned v ∧ ∃ q : Ext w, w'' = extW w q :=
  h.mono fun _ _ ⟨he, hb⟩ => ⟨he, p, hb.symm⟩
theorem SlB.ext {w : World} {n : Nat} {A : Option Addr} {bs : List UInt8} (h : SlB w w.heap.size A n bs) (p : Ext w) : SlB (extW w p) (extW w p).heap.size A n bs :=
  (h.below (extW_below w p) (Nat.le_refl _)).more (extW_size w p)
end Go.Proofs.YtokdliapkolngaaDoor
