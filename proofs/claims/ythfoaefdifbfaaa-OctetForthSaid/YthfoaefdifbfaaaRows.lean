/-
  No cell of these rows narrows 'for every input' (looked for: loops, veiled, ifaces, maps, wideKeys, modest, calm, conditions, laid).
  DERIVED. THE GIVEN ROWS OF THIS SEAT. 12 by the template 'for every input the law returns true; each argument reads behind the call as it read before'; 0 by the template 'total and deterministic' (their statements: YthfoaefdifbfaaaTotals.lean).
  GIVEN WITH THE SEED: the statements are not yours to turn. If you find one false, say at which input.
  Laid BY PROGRAM, IN A SANDBOX (cutbox-rows.mjs): the forced cells as the released guide's own fill.sh prints them over the translation a3289629c7bcb064… (all of the seat's roots in one cut). By AI agents, Wed Nov 11 2026. No macro, syntax, notation, axiom, sorry.
-/
import Derived.Test.YthfoaefdifbfaaaChecked
import GoSem.Claim
import GoSem.ClaimJoined
import GoSem.ClaimMapViews
import Derived.JoinedTies
import Derived.KernelRfl
namespace Go.Proofs.Ythfoaefdifbfaaa
/- THE CELL 'sum', in the pinned program and in every row, IS THE sha256 OF THE DUMP (.gsa) THAT YthfoaefdifbfaaaProg.lean LOADS. Nothing in Lean hashes anything: it is a label: what it is worth is what the hold of that sum in a sandbox is worth. -/
noncomputable def Try.pinned : Pinned := { name := "ythfoaefdifbfaaa", sum := "a3289629c7bcb0648ce6a63d44e3da7ce1b122e3602050ff17c297377421f9d8", checked := Try.checked }
namespace Rows
def none {H : Type} : Left H := { results := [], args := [] }

/-- 'signetlaw01.OctetHexes': WHATEVER THE INPUT: true; the input reads as it did. -/
def octetHexesSpec : ChangeSpec := { name := "octetHexes", fn := fun _ => fun
  | [d] => { results := [.lit (.bool true)], args := [d] }
  | _ => none }
def octetHexesRow : OpenClaim := { program := "ythfoaefdifbfaaa", sum := "a3289629c7bcb0648ce6a63d44e3da7ce1b122e3602050ff17c297377421f9d8", func := "signet/signetlaw01.OctetHexes", spec := "octetHexes", apart := false }
def OctetHexesSaid : Prop := octetHexesRow.holds Try.pinned (OpenSpec.ofChange octetHexesSpec)

/-- ITS FALSE NEIGHBOUR: 'it returns false'. Refute it at one input. -/
def octetHexesWrong : ChangeSpec := { name := "octetHexes", fn := fun _ => fun
  | [d] => { results := [.lit (.bool false)], args := [d] }
  | _ => none }
def OctetHexesWrongFalsely : Prop := octetHexesRow.holds Try.pinned (OpenSpec.ofChange octetHexesWrong)

/-- 'signetlaw01.OctetWebs': WHATEVER THE INPUT: true; the input reads as it did. -/
def octetWebsSpec : ChangeSpec := { name := "octetWebs", fn := fun _ => fun
  | [d] => { results := [.lit (.bool true)], args := [d] }
  | _ => none }
def octetWebsRow : OpenClaim := { program := "ythfoaefdifbfaaa", sum := "a3289629c7bcb0648ce6a63d44e3da7ce1b122e3602050ff17c297377421f9d8", func := "signet/signetlaw01.OctetWebs", spec := "octetWebs", apart := false }
def OctetWebsSaid : Prop := octetWebsRow.holds Try.pinned (OpenSpec.ofChange octetWebsSpec)

/-- ITS FALSE NEIGHBOUR: 'it returns false'. Refute it at one input. -/
def octetWebsWrong : ChangeSpec := { name := "octetWebs", fn := fun _ => fun
  | [d] => { results := [.lit (.bool false)], args := [d] }
  | _ => none }
def OctetWebsWrongFalsely : Prop := octetWebsRow.holds Try.pinned (OpenSpec.ofChange octetWebsWrong)

/-- 'signetlaw01.OctetBasics': WHATEVER THE INPUT: true; the input reads as it did. -/
def octetBasicsSpec : ChangeSpec := { name := "octetBasics", fn := fun _ => fun
  | [d] => { results := [.lit (.bool true)], args := [d] }
  | _ => none }
def octetBasicsRow : OpenClaim := { program := "ythfoaefdifbfaaa", sum := "a3289629c7bcb0648ce6a63d44e3da7ce1b122e3602050ff17c297377421f9d8", func := "signet/signetlaw01.OctetBasics", spec := "octetBasics", apart := false }
def OctetBasicsSaid : Prop := octetBasicsRow.holds Try.pinned (OpenSpec.ofChange octetBasicsSpec)

/-- ITS FALSE NEIGHBOUR: 'it returns false'. Refute it at one input. -/
def octetBasicsWrong : ChangeSpec := { name := "octetBasics", fn := fun _ => fun
  | [d] => { results := [.lit (.bool false)], args := [d] }
  | _ => none }
def OctetBasicsWrongFalsely : Prop := octetBasicsRow.holds Try.pinned (OpenSpec.ofChange octetBasicsWrong)

/-- 'signetlaw01.OctetUnbasics': WHATEVER THE INPUT: true; the input reads as it did. -/
def octetUnbasicsSpec : ChangeSpec := { name := "octetUnbasics", fn := fun _ => fun
  | [d] => { results := [.lit (.bool true)], args := [d] }
  | _ => none }
def octetUnbasicsRow : OpenClaim := { program := "ythfoaefdifbfaaa", sum := "a3289629c7bcb0648ce6a63d44e3da7ce1b122e3602050ff17c297377421f9d8", func := "signet/signetlaw01.OctetUnbasics", spec := "octetUnbasics", apart := false }
def OctetUnbasicsSaid : Prop := octetUnbasicsRow.holds Try.pinned (OpenSpec.ofChange octetUnbasicsSpec)

/-- ITS FALSE NEIGHBOUR: 'it returns false'. Refute it at one input. -/
def octetUnbasicsWrong : ChangeSpec := { name := "octetUnbasics", fn := fun _ => fun
  | [d] => { results := [.lit (.bool false)], args := [d] }
  | _ => none }
def OctetUnbasicsWrongFalsely : Prop := octetUnbasicsRow.holds Try.pinned (OpenSpec.ofChange octetUnbasicsWrong)

/-- 'signetlaw01.OctetLengths': WHATEVER THE INPUT: true; the input reads as it did. -/
def octetLengthsSpec : ChangeSpec := { name := "octetLengths", fn := fun _ => fun
  | [d] => { results := [.lit (.bool true)], args := [d] }
  | _ => none }
def octetLengthsRow : OpenClaim := { program := "ythfoaefdifbfaaa", sum := "a3289629c7bcb0648ce6a63d44e3da7ce1b122e3602050ff17c297377421f9d8", func := "signet/signetlaw01.OctetLengths", spec := "octetLengths", apart := false }
def OctetLengthsSaid : Prop := octetLengthsRow.holds Try.pinned (OpenSpec.ofChange octetLengthsSpec)

/-- ITS FALSE NEIGHBOUR: 'it returns false'. Refute it at one input. -/
def octetLengthsWrong : ChangeSpec := { name := "octetLengths", fn := fun _ => fun
  | [d] => { results := [.lit (.bool false)], args := [d] }
  | _ => none }
def OctetLengthsWrongFalsely : Prop := octetLengthsRow.holds Try.pinned (OpenSpec.ofChange octetLengthsWrong)

/-- 'signetlaw01.OctetJoins': WHATEVER THE INPUT: true; the input reads as it did. -/
def octetJoinsSpec : ChangeSpec := { name := "octetJoins", fn := fun _ => fun
  | [d1, d2] => { results := [.lit (.bool true)], args := [d1, d2] }
  | _ => none }
def octetJoinsRow : OpenClaim := { program := "ythfoaefdifbfaaa", sum := "a3289629c7bcb0648ce6a63d44e3da7ce1b122e3602050ff17c297377421f9d8", func := "signet/signetlaw01.OctetJoins", spec := "octetJoins", apart := false }
def OctetJoinsSaid : Prop := octetJoinsRow.holds Try.pinned (OpenSpec.ofChange octetJoinsSpec)

/-- ITS FALSE NEIGHBOUR: 'it returns false'. Refute it at one input. -/
def octetJoinsWrong : ChangeSpec := { name := "octetJoins", fn := fun _ => fun
  | [d1, d2] => { results := [.lit (.bool false)], args := [d1, d2] }
  | _ => none }
def OctetJoinsWrongFalsely : Prop := octetJoinsRow.holds Try.pinned (OpenSpec.ofChange octetJoinsWrong)

/-- 'signetlaw01.OctetSame': WHATEVER THE INPUT: true; the input reads as it did. -/
def octetSameSpec : ChangeSpec := { name := "octetSame", fn := fun _ => fun
  | [d1, d2] => { results := [.lit (.bool true)], args := [d1, d2] }
  | _ => none }
def octetSameRow : OpenClaim := { program := "ythfoaefdifbfaaa", sum := "a3289629c7bcb0648ce6a63d44e3da7ce1b122e3602050ff17c297377421f9d8", func := "signet/signetlaw01.OctetSame", spec := "octetSame", apart := false }
def OctetSameSaid : Prop := octetSameRow.holds Try.pinned (OpenSpec.ofChange octetSameSpec)

/-- ITS FALSE NEIGHBOUR: 'it returns false'. Refute it at one input. -/
def octetSameWrong : ChangeSpec := { name := "octetSame", fn := fun _ => fun
  | [d1, d2] => { results := [.lit (.bool false)], args := [d1, d2] }
  | _ => none }
def OctetSameWrongFalsely : Prop := octetSameRow.holds Try.pinned (OpenSpec.ofChange octetSameWrong)

/-- 'signetlaw01.OctetUnwebs': WHATEVER THE INPUT: true; the input reads as it did. -/
def octetUnwebsSpec : ChangeSpec := { name := "octetUnwebs", fn := fun _ => fun
  | [d] => { results := [.lit (.bool true)], args := [d] }
  | _ => none }
def octetUnwebsRow : OpenClaim := { program := "ythfoaefdifbfaaa", sum := "a3289629c7bcb0648ce6a63d44e3da7ce1b122e3602050ff17c297377421f9d8", func := "signet/signetlaw01.OctetUnwebs", spec := "octetUnwebs", apart := false }
def OctetUnwebsSaid : Prop := octetUnwebsRow.holds Try.pinned (OpenSpec.ofChange octetUnwebsSpec)

/-- ITS FALSE NEIGHBOUR: 'it returns false'. Refute it at one input. -/
def octetUnwebsWrong : ChangeSpec := { name := "octetUnwebs", fn := fun _ => fun
  | [d] => { results := [.lit (.bool false)], args := [d] }
  | _ => none }
def OctetUnwebsWrongFalsely : Prop := octetUnwebsRow.holds Try.pinned (OpenSpec.ofChange octetUnwebsWrong)

/-- 'signetlaw01.OctetUnhexes': WHATEVER THE INPUT: true; the input reads as it did. -/
def octetUnhexesSpec : ChangeSpec := { name := "octetUnhexes", fn := fun _ => fun
  | [d] => { results := [.lit (.bool true)], args := [d] }
  | _ => none }
def octetUnhexesRow : OpenClaim := { program := "ythfoaefdifbfaaa", sum := "a3289629c7bcb0648ce6a63d44e3da7ce1b122e3602050ff17c297377421f9d8", func := "signet/signetlaw01.OctetUnhexes", spec := "octetUnhexes", apart := false }
def OctetUnhexesSaid : Prop := octetUnhexesRow.holds Try.pinned (OpenSpec.ofChange octetUnhexesSpec)

/-- ITS FALSE NEIGHBOUR: 'it returns false'. Refute it at one input. -/
def octetUnhexesWrong : ChangeSpec := { name := "octetUnhexes", fn := fun _ => fun
  | [d] => { results := [.lit (.bool false)], args := [d] }
  | _ => none }
def OctetUnhexesWrongFalsely : Prop := octetUnhexesRow.holds Try.pinned (OpenSpec.ofChange octetUnhexesWrong)

/-- 'signetlaw01.OctetBack': WHATEVER THE INPUT: true; the input reads as it did. -/
def octetBackSpec : ChangeSpec := { name := "octetBack", fn := fun _ => fun
  | [d] => { results := [.lit (.bool true)], args := [d] }
  | _ => none }
def octetBackRow : OpenClaim := { program := "ythfoaefdifbfaaa", sum := "a3289629c7bcb0648ce6a63d44e3da7ce1b122e3602050ff17c297377421f9d8", func := "signet/signetlaw01.OctetBack", spec := "octetBack", apart := false }
def OctetBackSaid : Prop := octetBackRow.holds Try.pinned (OpenSpec.ofChange octetBackSpec)

/-- ITS FALSE NEIGHBOUR: 'it returns false'. Refute it at one input. -/
def octetBackWrong : ChangeSpec := { name := "octetBack", fn := fun _ => fun
  | [d] => { results := [.lit (.bool false)], args := [d] }
  | _ => none }
def OctetBackWrongFalsely : Prop := octetBackRow.holds Try.pinned (OpenSpec.ofChange octetBackWrong)

/-- 'signetlaw01.OctetForth': WHATEVER THE INPUT: true; the input reads as it did. -/
def octetForthSpec : ChangeSpec := { name := "octetForth", fn := fun _ => fun
  | [d] => { results := [.lit (.bool true)], args := [d] }
  | _ => none }
def octetForthRow : OpenClaim := { program := "ythfoaefdifbfaaa", sum := "a3289629c7bcb0648ce6a63d44e3da7ce1b122e3602050ff17c297377421f9d8", func := "signet/signetlaw01.OctetForth", spec := "octetForth", apart := false }
def OctetForthSaid : Prop := octetForthRow.holds Try.pinned (OpenSpec.ofChange octetForthSpec)

/-- ITS FALSE NEIGHBOUR: 'it returns false'. Refute it at one input. -/
def octetForthWrong : ChangeSpec := { name := "octetForth", fn := fun _ => fun
  | [d] => { results := [.lit (.bool false)], args := [d] }
  | _ => none }
def OctetForthWrongFalsely : Prop := octetForthRow.holds Try.pinned (OpenSpec.ofChange octetForthWrong)

/-- 'signetlaw01.OctetKeeps': WHATEVER THE INPUT: true; the input reads as it did. -/
def octetKeepsSpec : ChangeSpec := { name := "octetKeeps", fn := fun _ => fun
  | [d] => { results := [.lit (.bool true)], args := [d] }
  | _ => none }
def octetKeepsRow : OpenClaim := { program := "ythfoaefdifbfaaa", sum := "a3289629c7bcb0648ce6a63d44e3da7ce1b122e3602050ff17c297377421f9d8", func := "signet/signetlaw01.OctetKeeps", spec := "octetKeeps", apart := false }
def OctetKeepsSaid : Prop := octetKeepsRow.holds Try.pinned (OpenSpec.ofChange octetKeepsSpec)

/-- ITS FALSE NEIGHBOUR: 'it returns false'. Refute it at one input. -/
def octetKeepsWrong : ChangeSpec := { name := "octetKeeps", fn := fun _ => fun
  | [d] => { results := [.lit (.bool false)], args := [d] }
  | _ => none }
def OctetKeepsWrongFalsely : Prop := octetKeepsRow.holds Try.pinned (OpenSpec.ofChange octetKeepsWrong)

/- THE SECOND FORM. 'bulk': how many values and letters a reading holds, each counted each time it is reached (what is shared counts as often as it is met; a slice's spare places count too). A statement '..UptoSaid' is the law's where the arguments, and the package variables that the reading takes, are together of bulk at most 1048576: NARROWER than '..Said'. Prove '..Said' where nothing that the law and all that it calls make is longer than what came in: it says more and counts as full. Else prove '..UptoSaid'. A law counts once. -/
mutual
def uptoBulk {H : Type} : DataW H → Nat
  | .lit (.string bytes) => bytes.length + 1
  | .lit _ => 1
  | .nil => 1
  | .ptr d => uptoBulk d + 1
  | .slice elems spare => uptoBulkAll elems + uptoBulkAll spare + 1
  | .agg parts => uptoBulkAll parts + 1
  | .iface _ d => uptoBulk d + 1
  | .map entries => uptoBulkEntries entries + 1
  | .held _ => 1
def uptoBulkAll {H : Type} : List (DataW H) → Nat
  | [] => 0
  | d :: r => uptoBulk d + uptoBulkAll r
def uptoBulkEntries {H : Type} : List (Lit × DataW H) → Nat
  | [] => 0
  | x :: r => uptoBulkEntry x + uptoBulkEntries r
def uptoBulkEntry {H : Type} : Lit × DataW H → Nat
  | (.string bytes, d) => bytes.length + uptoBulk d + 1
  | (_, d) => uptoBulk d + 1
 end
def uptoSmall : (H : Type) → List (DataW H) → Bool := fun _ ds => decide (uptoBulkAll ds ≤ 1048576)
def OpenSpec.upto (s : _root_.Go.ChangeSpec) : _root_.Go.OpenSpec := { _root_.Go.OpenSpec.ofChange s with cond := some uptoSmall }

/-- 'signetlaw01.OctetHexes', WHERE WHAT IT READS IS OF BULK AT MOST 1048576: true; the input reads as it did. -/
def octetHexesUptoRow : OpenClaim := { program := "ythfoaefdifbfaaa", sum := "a3289629c7bcb0648ce6a63d44e3da7ce1b122e3602050ff17c297377421f9d8", func := "signet/signetlaw01.OctetHexes", spec := "octetHexes", apart := false, narrowed := true }
def OctetHexesUptoSaid : Prop := octetHexesUptoRow.holds Try.pinned (OpenSpec.upto octetHexesSpec)

/-- 'signetlaw01.OctetWebs', WHERE WHAT IT READS IS OF BULK AT MOST 1048576: true; the input reads as it did. -/
def octetWebsUptoRow : OpenClaim := { program := "ythfoaefdifbfaaa", sum := "a3289629c7bcb0648ce6a63d44e3da7ce1b122e3602050ff17c297377421f9d8", func := "signet/signetlaw01.OctetWebs", spec := "octetWebs", apart := false, narrowed := true }
def OctetWebsUptoSaid : Prop := octetWebsUptoRow.holds Try.pinned (OpenSpec.upto octetWebsSpec)

/-- 'signetlaw01.OctetBasics', WHERE WHAT IT READS IS OF BULK AT MOST 1048576: true; the input reads as it did. -/
def octetBasicsUptoRow : OpenClaim := { program := "ythfoaefdifbfaaa", sum := "a3289629c7bcb0648ce6a63d44e3da7ce1b122e3602050ff17c297377421f9d8", func := "signet/signetlaw01.OctetBasics", spec := "octetBasics", apart := false, narrowed := true }
def OctetBasicsUptoSaid : Prop := octetBasicsUptoRow.holds Try.pinned (OpenSpec.upto octetBasicsSpec)

/-- 'signetlaw01.OctetUnbasics', WHERE WHAT IT READS IS OF BULK AT MOST 1048576: true; the input reads as it did. -/
def octetUnbasicsUptoRow : OpenClaim := { program := "ythfoaefdifbfaaa", sum := "a3289629c7bcb0648ce6a63d44e3da7ce1b122e3602050ff17c297377421f9d8", func := "signet/signetlaw01.OctetUnbasics", spec := "octetUnbasics", apart := false, narrowed := true }
def OctetUnbasicsUptoSaid : Prop := octetUnbasicsUptoRow.holds Try.pinned (OpenSpec.upto octetUnbasicsSpec)

/-- 'signetlaw01.OctetLengths', WHERE WHAT IT READS IS OF BULK AT MOST 1048576: true; the input reads as it did. -/
def octetLengthsUptoRow : OpenClaim := { program := "ythfoaefdifbfaaa", sum := "a3289629c7bcb0648ce6a63d44e3da7ce1b122e3602050ff17c297377421f9d8", func := "signet/signetlaw01.OctetLengths", spec := "octetLengths", apart := false, narrowed := true }
def OctetLengthsUptoSaid : Prop := octetLengthsUptoRow.holds Try.pinned (OpenSpec.upto octetLengthsSpec)

/-- 'signetlaw01.OctetJoins', WHERE WHAT IT READS IS OF BULK AT MOST 1048576: true; the input reads as it did. -/
def octetJoinsUptoRow : OpenClaim := { program := "ythfoaefdifbfaaa", sum := "a3289629c7bcb0648ce6a63d44e3da7ce1b122e3602050ff17c297377421f9d8", func := "signet/signetlaw01.OctetJoins", spec := "octetJoins", apart := false, narrowed := true }
def OctetJoinsUptoSaid : Prop := octetJoinsUptoRow.holds Try.pinned (OpenSpec.upto octetJoinsSpec)

/-- 'signetlaw01.OctetSame', WHERE WHAT IT READS IS OF BULK AT MOST 1048576: true; the input reads as it did. -/
def octetSameUptoRow : OpenClaim := { program := "ythfoaefdifbfaaa", sum := "a3289629c7bcb0648ce6a63d44e3da7ce1b122e3602050ff17c297377421f9d8", func := "signet/signetlaw01.OctetSame", spec := "octetSame", apart := false, narrowed := true }
def OctetSameUptoSaid : Prop := octetSameUptoRow.holds Try.pinned (OpenSpec.upto octetSameSpec)

/-- 'signetlaw01.OctetUnwebs', WHERE WHAT IT READS IS OF BULK AT MOST 1048576: true; the input reads as it did. -/
def octetUnwebsUptoRow : OpenClaim := { program := "ythfoaefdifbfaaa", sum := "a3289629c7bcb0648ce6a63d44e3da7ce1b122e3602050ff17c297377421f9d8", func := "signet/signetlaw01.OctetUnwebs", spec := "octetUnwebs", apart := false, narrowed := true }
def OctetUnwebsUptoSaid : Prop := octetUnwebsUptoRow.holds Try.pinned (OpenSpec.upto octetUnwebsSpec)

/-- 'signetlaw01.OctetUnhexes', WHERE WHAT IT READS IS OF BULK AT MOST 1048576: true; the input reads as it did. -/
def octetUnhexesUptoRow : OpenClaim := { program := "ythfoaefdifbfaaa", sum := "a3289629c7bcb0648ce6a63d44e3da7ce1b122e3602050ff17c297377421f9d8", func := "signet/signetlaw01.OctetUnhexes", spec := "octetUnhexes", apart := false, narrowed := true }
def OctetUnhexesUptoSaid : Prop := octetUnhexesUptoRow.holds Try.pinned (OpenSpec.upto octetUnhexesSpec)

/-- 'signetlaw01.OctetBack', WHERE WHAT IT READS IS OF BULK AT MOST 1048576: true; the input reads as it did. -/
def octetBackUptoRow : OpenClaim := { program := "ythfoaefdifbfaaa", sum := "a3289629c7bcb0648ce6a63d44e3da7ce1b122e3602050ff17c297377421f9d8", func := "signet/signetlaw01.OctetBack", spec := "octetBack", apart := false, narrowed := true }
def OctetBackUptoSaid : Prop := octetBackUptoRow.holds Try.pinned (OpenSpec.upto octetBackSpec)

/-- 'signetlaw01.OctetForth', WHERE WHAT IT READS IS OF BULK AT MOST 1048576: true; the input reads as it did. -/
def octetForthUptoRow : OpenClaim := { program := "ythfoaefdifbfaaa", sum := "a3289629c7bcb0648ce6a63d44e3da7ce1b122e3602050ff17c297377421f9d8", func := "signet/signetlaw01.OctetForth", spec := "octetForth", apart := false, narrowed := true }
def OctetForthUptoSaid : Prop := octetForthUptoRow.holds Try.pinned (OpenSpec.upto octetForthSpec)

/-- 'signetlaw01.OctetKeeps', WHERE WHAT IT READS IS OF BULK AT MOST 1048576: true; the input reads as it did. -/
def octetKeepsUptoRow : OpenClaim := { program := "ythfoaefdifbfaaa", sum := "a3289629c7bcb0648ce6a63d44e3da7ce1b122e3602050ff17c297377421f9d8", func := "signet/signetlaw01.OctetKeeps", spec := "octetKeeps", apart := false, narrowed := true }
def OctetKeepsUptoSaid : Prop := octetKeepsUptoRow.holds Try.pinned (OpenSpec.upto octetKeepsSpec)

end Rows
end Go.Proofs.Ythfoaefdifbfaaa
