/-
  Revoke: the laws' steps, as they come in.
-/
import Derived.Test.YtigeccflfdekiaaRevB
namespace Go.Proofs.Ytigeccflfdekiaa
open Go.RowKit
set_option linter.unusedVariables false

/-- a call -/
structure Rst where
  kind : Int
  fam : ByteArray
  edge : Int
  seq : Int
  now : Int
  pend : List Fam
structure Rst.Ok (p : Rst) : Prop where
  kind : I64 p.kind
  fam : p.fam.size ≤ maxLen
  edge : I64 p.edge
  seq : I64 p.seq
  now : I64 p.now
def Rst.cells (p : Rst) (A : Option Addr) (c : Nat) : List Value := [.int .i64 p.kind, .string p.fam, .int .i64 p.edge, .int .i64 p.seq, .int .i64 p.now, .slice A p.pend.length c]
def RstAt (w : World) (B b o : Nat) (p : Rst) : Prop :=
  p.Ok ∧ ∃ A c, (∀ j v, (p.cells A c)[j]? = some v → w.cell? ⟨b, o + j, none⟩ = some v) ∧ p.pend.length ≤ c ∧ c ≤ maxLen ∧ SlFam w (· < B) A p.pend.length p.pend
/-- a slice of steps -/
def SlRst (w : World) (B : Nat) (A : Option Addr) (n : Nat) (ps : List Rst) : Prop :=
  ps.length = n ∧ (0 < n → ∃ b off, A = some ⟨b, off, none⟩ ∧ b < B ∧ ∀ k p, ps[k]? = some p → RstAt w B b (off + k * 6) p)
theorem RstAt.below {w w' : World} {B C b o : Nat} {p : Rst} (h : RstAt w B b o p) (hb : Below C w w') (hC : B ≤ C) (hBw : C ≤ w.heap.size) (hbB : b < B) : RstAt w' B b o p := by
  obtain ⟨h0, A, c, h1, h2, h3, h4⟩ := h
  have hl : b < C := Nat.lt_of_lt_of_le hbB hC
  refine ⟨h0, A, c, fun j v hv => (hb.cell (p := ⟨b, _, none⟩) hl).trans (h1 j v hv), h2, h3, h4.but (S := fun k => C ≤ k) ⟨hb.os, hb.tape, hb.output, hb.size, fun k hk hn => hb.block k (by omega)⟩ fun k hk => ⟨?_, ?_⟩⟩
  · have hk : k < B := hk
    omega
  · have hk : k < B := hk
    show ¬ C ≤ k
    omega
theorem SlRst.below {w w' : World} {B C n : Nat} {A : Option Addr} {ps : List Rst} (h : SlRst w B A n ps) (hb : Below C w w') (hC : B ≤ C) (hBw : C ≤ w.heap.size) : SlRst w' B A n ps :=
  ⟨h.1, fun hn => by
    obtain ⟨b, off, e, hlt, hc⟩ := h.2 hn
    exact ⟨b, off, e, hlt, fun k p hp => (hc k p hp).below hb hC hBw hlt⟩⟩
theorem SlRst.at_ {w : World} {B n : Nat} {A : Option Addr} {ps : List Rst} (h : SlRst w B A n ps) {k : Nat} (hk : k < n) : ∃ b off p, A = some ⟨b, off, none⟩ ∧ b < B ∧ ps[k]? = some p ∧ RstAt w B b (off + k * 6) p := by
  obtain ⟨b, off, e, hb, hc⟩ := h.2 (by omega)
  have hl : k < ps.length := by have := h.1; omega
  exact ⟨b, off, ps[k], e, hb, List.getElem?_eq_getElem hl, hc k _ (List.getElem?_eq_getElem hl)⟩
end Go.Proofs.Ytigeccflfdekiaa
