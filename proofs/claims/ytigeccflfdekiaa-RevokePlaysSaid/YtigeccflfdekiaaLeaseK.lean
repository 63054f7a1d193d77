/-
  Lease: the law's steps, as they come in.
-/
import Derived.Test.YtigeccflfdekiaaLeaseJ
namespace Go.Proofs.Ytigeccflfdekiaa
open Go.RowKit
set_option linter.unusedVariables false

/-- a call -/
structure Stp where
  kind : Int
  fam : ByteArray
  edge : Int
  now : Int
  ls : List Int
/-- its numbers and texts are Go's -/
structure Stp.Ok (p : Stp) : Prop where
  kind : I64 p.kind
  fam : p.fam.size ≤ maxLen
  edge : I64 p.edge
  now : I64 p.now
  ls : ∀ z ∈ p.ls, I64 z
theorem Stp.Ok.key {p : Stp} (h : p.Ok) : KOk p.fam p.edge := ⟨h.fam, h.edge⟩
def StepAt (w : World) (B b o : Nat) (p : Stp) : Prop :=
  p.Ok ∧ w.cell? ⟨b, o, none⟩ = some (.int .i64 p.kind) ∧ w.cell? ⟨b, o + 1, none⟩ = some (.string p.fam) ∧ w.cell? ⟨b, o + 2, none⟩ = some (.int .i64 p.edge) ∧ w.cell? ⟨b, o + 3, none⟩ = some (.int .i64 p.now) ∧
    ∃ A c, w.cell? ⟨b, o + 4, none⟩ = some (.slice A p.ls.length c) ∧ p.ls.length ≤ c ∧ Sl w B A p.ls.length (p.ls.map (Value.int .i64))
/-- a slice of steps -/
def SlStep (w : World) (B : Nat) (A : Option Addr) (n : Nat) (ps : List Stp) : Prop :=
  ps.length = n ∧ (0 < n → ∃ b off, A = some ⟨b, off, none⟩ ∧ b < B ∧ ∀ k p, ps[k]? = some p → StepAt w B b (off + k * 5) p)
theorem StepAt.below {w w' : World} {B C b o : Nat} {p : Stp} (h : StepAt w B b o p) (hb : Below C w w') (hC : B ≤ C) (hbB : b < B) : StepAt w' B b o p := by
  obtain ⟨h0, h1, h2, h3, h4, A, c, h5, h6, h7⟩ := h
  have hl : b < C := Nat.lt_of_lt_of_le hbB hC
  exact ⟨h0, (hb.cell (p := ⟨b, _, none⟩) hl).trans h1, (hb.cell (p := ⟨b, _, none⟩) hl).trans h2, (hb.cell (p := ⟨b, _, none⟩) hl).trans h3, (hb.cell (p := ⟨b, _, none⟩) hl).trans h4, A, c, (hb.cell (p := ⟨b, _, none⟩) hl).trans h5, h6, h7.below hb hC⟩
theorem SlStep.below {w w' : World} {B C n : Nat} {A : Option Addr} {ps : List Stp} (h : SlStep w B A n ps) (hb : Below C w w') (hC : B ≤ C) : SlStep w' B A n ps :=
  ⟨h.1, fun hn => by
    obtain ⟨b, off, e, hlt, hc⟩ := h.2 hn
    exact ⟨b, off, e, hlt, fun k p hp => (hc k p hp).below hb hC hlt⟩⟩
theorem SlStep.at_ {w : World} {B n : Nat} {A : Option Addr} {ps : List Stp} (h : SlStep w B A n ps) {k : Nat} (hk : k < n) : ∃ b off p, A = some ⟨b, off, none⟩ ∧ b < B ∧ ps[k]? = some p ∧ StepAt w B b (off + k * 5) p := by
  obtain ⟨b, off, e, hb, hc⟩ := h.2 (by omega)
  have hl : k < ps.length := by have := h.1; omega
  exact ⟨b, off, ps[k], e, hb, List.getElem?_eq_getElem hl, hc k _ (List.getElem?_eq_getElem hl)⟩
/-- the cells of a step -/
def Stp.cells (p : Stp) (A : Option Addr) (c : Nat) : List Value := [.int .i64 p.kind, .string p.fam, .int .i64 p.edge, .int .i64 p.now, .slice A p.ls.length c]
end Go.Proofs.Ytigeccflfdekiaa
