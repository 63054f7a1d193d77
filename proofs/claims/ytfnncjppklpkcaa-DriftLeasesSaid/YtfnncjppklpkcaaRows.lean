/-
  No cell of these rows narrows 'for every input' (looked for: loops, veiled, ifaces, maps, wideKeys, modest, calm, conditions, laid).
  DERIVED. THE GIVEN ROWS OF THIS SEAT. 6 by the template 'for every input the law returns true; each argument reads behind the call as it read before'; 0 by the template 'total and deterministic' (their statements: YtfnncjppklpkcaaTotals.lean).
  GIVEN WITH THE SEED: the statements are not yours to turn. If you find one false, say at which input.
  Laid BY PROGRAM, IN A SANDBOX (cutbox-rows.mjs): the forced cells as the released guide's own fill.sh prints them over the translation 1ea103eed752c7b3… (all of the seat's roots in one cut). By AI agents, Wed Nov 11 2026. No macro, syntax, notation, axiom, sorry.
-/
import Derived.Test.YtfnncjppklpkcaaChecked
import GoSem.Claim
import GoSem.ClaimJoined
import GoSem.ClaimMapViews
import Derived.JoinedTies
import Derived.KernelRfl
namespace Go.Proofs.Ytfnncjppklpkcaa
/- THE CELL 'sum', in the pinned program and in every row, IS THE sha256 OF THE DUMP (.gsa) THAT YtfnncjppklpkcaaProg.lean LOADS. Nothing in Lean hashes anything: it is a label: what it is worth is what the hold of that sum in a sandbox is worth. -/
noncomputable def Try.pinned : Pinned := { name := "ytfnncjppklpkcaa", sum := "1ea103eed752c7b3fbf72c88532bed25fbcec982e8c0305ce5f53f65a1ef56c5", checked := Try.checked }
namespace Rows
def none {H : Type} : Left H := { results := [], args := [] }

/-- 'signetlaw09.DriftTurns': WHATEVER THE INPUT: true; the input reads as it did. -/
def driftTurnsSpec : ChangeSpec := { name := "driftTurns", fn := fun _ => fun
  | [d1, d2, d3, d4] => { results := [.lit (.bool true)], args := [d1, d2, d3, d4] }
  | _ => none }
def driftTurnsRow : OpenClaim := { program := "ytfnncjppklpkcaa", sum := "1ea103eed752c7b3fbf72c88532bed25fbcec982e8c0305ce5f53f65a1ef56c5", func := "signet/signetlaw09.DriftTurns", spec := "driftTurns", apart := false }
def DriftTurnsSaid : Prop := driftTurnsRow.holds Try.pinned (OpenSpec.ofChange driftTurnsSpec)

/-- ITS FALSE NEIGHBOUR: 'it returns false'. Refute it at one input. -/
def driftTurnsWrong : ChangeSpec := { name := "driftTurns", fn := fun _ => fun
  | [d1, d2, d3, d4] => { results := [.lit (.bool false)], args := [d1, d2, d3, d4] }
  | _ => none }
def DriftTurnsWrongFalsely : Prop := driftTurnsRow.holds Try.pinned (OpenSpec.ofChange driftTurnsWrong)

/-- 'signetlaw09.DriftTerms': WHATEVER THE INPUT: true; the input reads as it did. -/
def driftTermsSpec : ChangeSpec := { name := "driftTerms", fn := fun _ => fun
  | [d1, d2, d3] => { results := [.lit (.bool true)], args := [d1, d2, d3] }
  | _ => none }
def driftTermsRow : OpenClaim := { program := "ytfnncjppklpkcaa", sum := "1ea103eed752c7b3fbf72c88532bed25fbcec982e8c0305ce5f53f65a1ef56c5", func := "signet/signetlaw09.DriftTerms", spec := "driftTerms", apart := false }
def DriftTermsSaid : Prop := driftTermsRow.holds Try.pinned (OpenSpec.ofChange driftTermsSpec)

/-- ITS FALSE NEIGHBOUR: 'it returns false'. Refute it at one input. -/
def driftTermsWrong : ChangeSpec := { name := "driftTerms", fn := fun _ => fun
  | [d1, d2, d3] => { results := [.lit (.bool false)], args := [d1, d2, d3] }
  | _ => none }
def DriftTermsWrongFalsely : Prop := driftTermsRow.holds Try.pinned (OpenSpec.ofChange driftTermsWrong)

/-- 'signetlaw09.DriftLeases': WHATEVER THE INPUT: true; the input reads as it did. -/
def driftLeasesSpec : ChangeSpec := { name := "driftLeases", fn := fun _ => fun
  | [d1, d2, d3, d4, d5] => { results := [.lit (.bool true)], args := [d1, d2, d3, d4, d5] }
  | _ => none }
def driftLeasesRow : OpenClaim := { program := "ytfnncjppklpkcaa", sum := "1ea103eed752c7b3fbf72c88532bed25fbcec982e8c0305ce5f53f65a1ef56c5", func := "signet/signetlaw09.DriftLeases", spec := "driftLeases", apart := false }
def DriftLeasesSaid : Prop := driftLeasesRow.holds Try.pinned (OpenSpec.ofChange driftLeasesSpec)

/-- ITS FALSE NEIGHBOUR: 'it returns false'. Refute it at one input. -/
def driftLeasesWrong : ChangeSpec := { name := "driftLeases", fn := fun _ => fun
  | [d1, d2, d3, d4, d5] => { results := [.lit (.bool false)], args := [d1, d2, d3, d4, d5] }
  | _ => none }
def DriftLeasesWrongFalsely : Prop := driftLeasesRow.holds Try.pinned (OpenSpec.ofChange driftLeasesWrong)

/-- 'signetlaw09.DriftBounds': WHATEVER THE INPUT: true; the input reads as it did. -/
def driftBoundsSpec : ChangeSpec := { name := "driftBounds", fn := fun _ => fun
  | [d1, d2] => { results := [.lit (.bool true)], args := [d1, d2] }
  | _ => none }
def driftBoundsRow : OpenClaim := { program := "ytfnncjppklpkcaa", sum := "1ea103eed752c7b3fbf72c88532bed25fbcec982e8c0305ce5f53f65a1ef56c5", func := "signet/signetlaw09.DriftBounds", spec := "driftBounds", apart := false }
def DriftBoundsSaid : Prop := driftBoundsRow.holds Try.pinned (OpenSpec.ofChange driftBoundsSpec)

/-- ITS FALSE NEIGHBOUR: 'it returns false'. Refute it at one input. -/
def driftBoundsWrong : ChangeSpec := { name := "driftBounds", fn := fun _ => fun
  | [d1, d2] => { results := [.lit (.bool false)], args := [d1, d2] }
  | _ => none }
def DriftBoundsWrongFalsely : Prop := driftBoundsRow.holds Try.pinned (OpenSpec.ofChange driftBoundsWrong)

/-- 'signetlaw09.DriftPasses': WHATEVER THE INPUT: true; the input reads as it did. -/
def driftPassesSpec : ChangeSpec := { name := "driftPasses", fn := fun _ => fun
  | [d1, d2] => { results := [.lit (.bool true)], args := [d1, d2] }
  | _ => none }
def driftPassesRow : OpenClaim := { program := "ytfnncjppklpkcaa", sum := "1ea103eed752c7b3fbf72c88532bed25fbcec982e8c0305ce5f53f65a1ef56c5", func := "signet/signetlaw09.DriftPasses", spec := "driftPasses", apart := false }
def DriftPassesSaid : Prop := driftPassesRow.holds Try.pinned (OpenSpec.ofChange driftPassesSpec)

/-- ITS FALSE NEIGHBOUR: 'it returns false'. Refute it at one input. -/
def driftPassesWrong : ChangeSpec := { name := "driftPasses", fn := fun _ => fun
  | [d1, d2] => { results := [.lit (.bool false)], args := [d1, d2] }
  | _ => none }
def DriftPassesWrongFalsely : Prop := driftPassesRow.holds Try.pinned (OpenSpec.ofChange driftPassesWrong)

/-- 'signetlaw09.DriftRises': WHATEVER THE INPUT: true; the input reads as it did. -/
def driftRisesSpec : ChangeSpec := { name := "driftRises", fn := fun _ => fun
  | [d1, d2, d3] => { results := [.lit (.bool true)], args := [d1, d2, d3] }
  | _ => none }
def driftRisesRow : OpenClaim := { program := "ytfnncjppklpkcaa", sum := "1ea103eed752c7b3fbf72c88532bed25fbcec982e8c0305ce5f53f65a1ef56c5", func := "signet/signetlaw09.DriftRises", spec := "driftRises", apart := false }
def DriftRisesSaid : Prop := driftRisesRow.holds Try.pinned (OpenSpec.ofChange driftRisesSpec)

/-- ITS FALSE NEIGHBOUR: 'it returns false'. Refute it at one input. -/
def driftRisesWrong : ChangeSpec := { name := "driftRises", fn := fun _ => fun
  | [d1, d2, d3] => { results := [.lit (.bool false)], args := [d1, d2, d3] }
  | _ => none }
def DriftRisesWrongFalsely : Prop := driftRisesRow.holds Try.pinned (OpenSpec.ofChange driftRisesWrong)

/- THE SECOND FORM. 'bulk': how many values and letters a reading holds, each counted each time it is reached (what is shared counts as often as it is met; a slice's spare places count too). A statement '..UptoSaid' is the law's where the arguments, and the package variables that the reading takes, are together of bulk at most 1048576: NARROWER than '..Said'. Prove '..Said' where nothing that the law and all that it calls make is longer than what came in: it says more and counts as full. Else prove '..UptoSaid'. A law counts once. -/
mutual
def uptoBulk {H : Type} : DataW H → Nat
  | .lit (.string bytes) => bytes.length + 1
  | .lit _ => 1
  | .nil => 1
  | .ptr d => uptoBulk d + 1
  | .slice elems spare => uptoBulkAll elems + uptoBulkAll spare + 1
  | .agg parts => uptoBulkAll parts + 1
  | .iface _ d => uptoBulk d + 1
  | .map entries => uptoBulkEntries entries + 1
  | .held _ => 1
def uptoBulkAll {H : Type} : List (DataW H) → Nat
  | [] => 0
  | d :: r => uptoBulk d + uptoBulkAll r
def uptoBulkEntries {H : Type} : List (Lit × DataW H) → Nat
  | [] => 0
  | x :: r => uptoBulkEntry x + uptoBulkEntries r
def uptoBulkEntry {H : Type} : Lit × DataW H → Nat
  | (.string bytes, d) => bytes.length + uptoBulk d + 1
  | (_, d) => uptoBulk d + 1
 end
def uptoSmall : (H : Type) → List (DataW H) → Bool := fun _ ds => decide (uptoBulkAll ds ≤ 1048576)
def OpenSpec.upto (s : _root_.Go.ChangeSpec) : _root_.Go.OpenSpec := { _root_.Go.OpenSpec.ofChange s with cond := some uptoSmall }

/-- 'signetlaw09.DriftTurns', WHERE WHAT IT READS IS OF BULK AT MOST 1048576: true; the input reads as it did. -/
def driftTurnsUptoRow : OpenClaim := { program := "ytfnncjppklpkcaa", sum := "1ea103eed752c7b3fbf72c88532bed25fbcec982e8c0305ce5f53f65a1ef56c5", func := "signet/signetlaw09.DriftTurns", spec := "driftTurns", apart := false, narrowed := true }
def DriftTurnsUptoSaid : Prop := driftTurnsUptoRow.holds Try.pinned (OpenSpec.upto driftTurnsSpec)

/-- 'signetlaw09.DriftTerms', WHERE WHAT IT READS IS OF BULK AT MOST 1048576: true; the input reads as it did. -/
def driftTermsUptoRow : OpenClaim := { program := "ytfnncjppklpkcaa", sum := "1ea103eed752c7b3fbf72c88532bed25fbcec982e8c0305ce5f53f65a1ef56c5", func := "signet/signetlaw09.DriftTerms", spec := "driftTerms", apart := false, narrowed := true }
def DriftTermsUptoSaid : Prop := driftTermsUptoRow.holds Try.pinned (OpenSpec.upto driftTermsSpec)

/-- 'signetlaw09.DriftLeases', WHERE WHAT IT READS IS OF BULK AT MOST 1048576: true; the input reads as it did. -/
def driftLeasesUptoRow : OpenClaim := { program := "ytfnncjppklpkcaa", sum := "1ea103eed752c7b3fbf72c88532bed25fbcec982e8c0305ce5f53f65a1ef56c5", func := "signet/signetlaw09.DriftLeases", spec := "driftLeases", apart := false, narrowed := true }
def DriftLeasesUptoSaid : Prop := driftLeasesUptoRow.holds Try.pinned (OpenSpec.upto driftLeasesSpec)

/-- 'signetlaw09.DriftBounds', WHERE WHAT IT READS IS OF BULK AT MOST 1048576: true; the input reads as it did. -/
def driftBoundsUptoRow : OpenClaim := { program := "ytfnncjppklpkcaa", sum := "1ea103eed752c7b3fbf72c88532bed25fbcec982e8c0305ce5f53f65a1ef56c5", func := "signet/signetlaw09.DriftBounds", spec := "driftBounds", apart := false, narrowed := true }
def DriftBoundsUptoSaid : Prop := driftBoundsUptoRow.holds Try.pinned (OpenSpec.upto driftBoundsSpec)

/-- 'signetlaw09.DriftPasses', WHERE WHAT IT READS IS OF BULK AT MOST 1048576: true; the input reads as it did. -/
def driftPassesUptoRow : OpenClaim := { program := "ytfnncjppklpkcaa", sum := "1ea103eed752c7b3fbf72c88532bed25fbcec982e8c0305ce5f53f65a1ef56c5", func := "signet/signetlaw09.DriftPasses", spec := "driftPasses", apart := false, narrowed := true }
def DriftPassesUptoSaid : Prop := driftPassesUptoRow.holds Try.pinned (OpenSpec.upto driftPassesSpec)

/-- 'signetlaw09.DriftRises', WHERE WHAT IT READS IS OF BULK AT MOST 1048576: true; the input reads as it did. -/
def driftRisesUptoRow : OpenClaim := { program := "ytfnncjppklpkcaa", sum := "1ea103eed752c7b3fbf72c88532bed25fbcec982e8c0305ce5f53f65a1ef56c5", func := "signet/signetlaw09.DriftRises", spec := "driftRises", apart := false, narrowed := true }
def DriftRisesUptoSaid : Prop := driftRisesUptoRow.holds Try.pinned (OpenSpec.upto driftRisesSpec)

end Rows
end Go.Proofs.Ytfnncjppklpkcaa
