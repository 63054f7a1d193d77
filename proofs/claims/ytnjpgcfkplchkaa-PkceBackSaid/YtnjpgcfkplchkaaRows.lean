/-
  No cell of these rows narrows 'for every input' (looked for: loops, veiled, ifaces, maps, wideKeys, modest, calm, conditions, laid).
  DERIVED. THE GIVEN ROWS OF THIS SEAT. 4 by the template 'for every input the law returns true; each argument reads behind the call as it read before'; 0 by the template 'total and deterministic' (their statements: YtnjpgcfkplchkaaTotals.lean).
  GIVEN WITH THE SEED: the statements are not yours to turn. If you find one false, say at which input.
  Laid BY PROGRAM, IN A SANDBOX (cutbox-rows.mjs): the forced cells as the released guide's own fill.sh prints them over the translation a0ed437ef4ab53c2… (all of the seat's roots in one cut). By AI agents, Wed Nov 11 2026. No macro, syntax, notation, axiom, sorry.
-/
import Derived.Test.YtnjpgcfkplchkaaChecked
import GoSem.Claim
import GoSem.ClaimJoined
import GoSem.ClaimMapViews
import Derived.JoinedTies
import Derived.KernelRfl
namespace Go.Proofs.Ytnjpgcfkplchkaa
/- THE CELL 'sum', in the pinned program and in every row, IS THE sha256 OF THE DUMP (.gsa) THAT YtnjpgcfkplchkaaProg.lean LOADS. Nothing in Lean hashes anything: it is a label: what it is worth is what the hold of that sum in a sandbox is worth. -/
noncomputable def Try.pinned : Pinned := { name := "ytnjpgcfkplchkaa", sum := "a0ed437ef4ab53c29604890d060339913240e0ea4f28f1fbe87df22d58427557", checked := Try.checked }
namespace Rows
def none {H : Type} : Left H := { results := [], args := [] }

/-- 'signetlaw07.PkceVerifiers': WHATEVER THE INPUT: true; the input reads as it did. -/
def pkceVerifiersSpec : ChangeSpec := { name := "pkceVerifiers", fn := fun _ => fun
  | [d1, d2] => { results := [.lit (.bool true)], args := [d1, d2] }
  | _ => none }
def pkceVerifiersRow : OpenClaim := { program := "ytnjpgcfkplchkaa", sum := "a0ed437ef4ab53c29604890d060339913240e0ea4f28f1fbe87df22d58427557", func := "signet/signetlaw07.PkceVerifiers", spec := "pkceVerifiers", inPlace := ["internal/bytealg.IndexByteString"], unfollowed := true, recurses := true, apart := false }
def PkceVerifiersSaid : Prop := pkceVerifiersRow.holds Try.pinned (OpenSpec.ofChange pkceVerifiersSpec)

/-- ITS FALSE NEIGHBOUR: 'it returns false'. Refute it at one input. -/
def pkceVerifiersWrong : ChangeSpec := { name := "pkceVerifiers", fn := fun _ => fun
  | [d1, d2] => { results := [.lit (.bool false)], args := [d1, d2] }
  | _ => none }
def PkceVerifiersWrongFalsely : Prop := pkceVerifiersRow.holds Try.pinned (OpenSpec.ofChange pkceVerifiersWrong)

/-- 'signetlaw07.PkceChallenges': WHATEVER THE INPUT: true; the input reads as it did. -/
def pkceChallengesSpec : ChangeSpec := { name := "pkceChallenges", fn := fun _ => fun
  | [d1, d2] => { results := [.lit (.bool true)], args := [d1, d2] }
  | _ => none }
def pkceChallengesRow : OpenClaim := { program := "ytnjpgcfkplchkaa", sum := "a0ed437ef4ab53c29604890d060339913240e0ea4f28f1fbe87df22d58427557", func := "signet/signetlaw07.PkceChallenges", spec := "pkceChallenges", inPlace := ["internal/bytealg.IndexByteString"], unfollowed := true, recurses := true, apart := false }
def PkceChallengesSaid : Prop := pkceChallengesRow.holds Try.pinned (OpenSpec.ofChange pkceChallengesSpec)

/-- ITS FALSE NEIGHBOUR: 'it returns false'. Refute it at one input. -/
def pkceChallengesWrong : ChangeSpec := { name := "pkceChallenges", fn := fun _ => fun
  | [d1, d2] => { results := [.lit (.bool false)], args := [d1, d2] }
  | _ => none }
def PkceChallengesWrongFalsely : Prop := pkceChallengesRow.holds Try.pinned (OpenSpec.ofChange pkceChallengesWrong)

/-- 'signetlaw07.PkceChecks': WHATEVER THE INPUT: true; the input reads as it did. -/
def pkceChecksSpec : ChangeSpec := { name := "pkceChecks", fn := fun _ => fun
  | [d1, d2, d3] => { results := [.lit (.bool true)], args := [d1, d2, d3] }
  | _ => none }
def pkceChecksRow : OpenClaim := { program := "ytnjpgcfkplchkaa", sum := "a0ed437ef4ab53c29604890d060339913240e0ea4f28f1fbe87df22d58427557", func := "signet/signetlaw07.PkceChecks", spec := "pkceChecks", inPlace := ["internal/bytealg.IndexByteString"], unfollowed := true, recurses := true, apart := false }
def PkceChecksSaid : Prop := pkceChecksRow.holds Try.pinned (OpenSpec.ofChange pkceChecksSpec)

/-- ITS FALSE NEIGHBOUR: 'it returns false'. Refute it at one input. -/
def pkceChecksWrong : ChangeSpec := { name := "pkceChecks", fn := fun _ => fun
  | [d1, d2, d3] => { results := [.lit (.bool false)], args := [d1, d2, d3] }
  | _ => none }
def PkceChecksWrongFalsely : Prop := pkceChecksRow.holds Try.pinned (OpenSpec.ofChange pkceChecksWrong)

/-- 'signetlaw07.PkceBack': WHATEVER THE INPUT: true; the input reads as it did. -/
def pkceBackSpec : ChangeSpec := { name := "pkceBack", fn := fun _ => fun
  | [d1, d2, d3] => { results := [.lit (.bool true)], args := [d1, d2, d3] }
  | _ => none }
def pkceBackRow : OpenClaim := { program := "ytnjpgcfkplchkaa", sum := "a0ed437ef4ab53c29604890d060339913240e0ea4f28f1fbe87df22d58427557", func := "signet/signetlaw07.PkceBack", spec := "pkceBack", inPlace := ["internal/bytealg.IndexByteString"], unfollowed := true, recurses := true, apart := false }
def PkceBackSaid : Prop := pkceBackRow.holds Try.pinned (OpenSpec.ofChange pkceBackSpec)

/-- ITS FALSE NEIGHBOUR: 'it returns false'. Refute it at one input. -/
def pkceBackWrong : ChangeSpec := { name := "pkceBack", fn := fun _ => fun
  | [d1, d2, d3] => { results := [.lit (.bool false)], args := [d1, d2, d3] }
  | _ => none }
def PkceBackWrongFalsely : Prop := pkceBackRow.holds Try.pinned (OpenSpec.ofChange pkceBackWrong)

/- THE SECOND FORM. 'bulk': how many values and letters a reading holds, each counted each time it is reached (what is shared counts as often as it is met; a slice's spare places count too). A statement '..UptoSaid' is the law's where the arguments, and the package variables that the reading takes, are together of bulk at most 1048576: NARROWER than '..Said'. Prove '..Said' where nothing that the law and all that it calls make is longer than what came in: it says more and counts as full. Else prove '..UptoSaid'. A law counts once. -/
mutual
def uptoBulk {H : Type} : DataW H → Nat
  | .lit (.string bytes) => bytes.length + 1
  | .lit _ => 1
  | .nil => 1
  | .ptr d => uptoBulk d + 1
  | .slice elems spare => uptoBulkAll elems + uptoBulkAll spare + 1
  | .agg parts => uptoBulkAll parts + 1
  | .iface _ d => uptoBulk d + 1
  | .map entries => uptoBulkEntries entries + 1
  | .held _ => 1
def uptoBulkAll {H : Type} : List (DataW H) → Nat
  | [] => 0
  | d :: r => uptoBulk d + uptoBulkAll r
def uptoBulkEntries {H : Type} : List (Lit × DataW H) → Nat
  | [] => 0
  | x :: r => uptoBulkEntry x + uptoBulkEntries r
def uptoBulkEntry {H : Type} : Lit × DataW H → Nat
  | (.string bytes, d) => bytes.length + uptoBulk d + 1
  | (_, d) => uptoBulk d + 1
 end
def uptoSmall : (H : Type) → List (DataW H) → Bool := fun _ ds => decide (uptoBulkAll ds ≤ 1048576)
def OpenSpec.upto (s : _root_.Go.ChangeSpec) : _root_.Go.OpenSpec := { _root_.Go.OpenSpec.ofChange s with cond := some uptoSmall }

/-- 'signetlaw07.PkceVerifiers', WHERE WHAT IT READS IS OF BULK AT MOST 1048576: true; the input reads as it did. -/
def pkceVerifiersUptoRow : OpenClaim := { program := "ytnjpgcfkplchkaa", sum := "a0ed437ef4ab53c29604890d060339913240e0ea4f28f1fbe87df22d58427557", func := "signet/signetlaw07.PkceVerifiers", spec := "pkceVerifiers", inPlace := ["internal/bytealg.IndexByteString"], unfollowed := true, recurses := true, apart := false, narrowed := true }
def PkceVerifiersUptoSaid : Prop := pkceVerifiersUptoRow.holds Try.pinned (OpenSpec.upto pkceVerifiersSpec)

/-- 'signetlaw07.PkceChallenges', WHERE WHAT IT READS IS OF BULK AT MOST 1048576: true; the input reads as it did. -/
def pkceChallengesUptoRow : OpenClaim := { program := "ytnjpgcfkplchkaa", sum := "a0ed437ef4ab53c29604890d060339913240e0ea4f28f1fbe87df22d58427557", func := "signet/signetlaw07.PkceChallenges", spec := "pkceChallenges", inPlace := ["internal/bytealg.IndexByteString"], unfollowed := true, recurses := true, apart := false, narrowed := true }
def PkceChallengesUptoSaid : Prop := pkceChallengesUptoRow.holds Try.pinned (OpenSpec.upto pkceChallengesSpec)

/-- 'signetlaw07.PkceChecks', WHERE WHAT IT READS IS OF BULK AT MOST 1048576: true; the input reads as it did. -/
def pkceChecksUptoRow : OpenClaim := { program := "ytnjpgcfkplchkaa", sum := "a0ed437ef4ab53c29604890d060339913240e0ea4f28f1fbe87df22d58427557", func := "signet/signetlaw07.PkceChecks", spec := "pkceChecks", inPlace := ["internal/bytealg.IndexByteString"], unfollowed := true, recurses := true, apart := false, narrowed := true }
def PkceChecksUptoSaid : Prop := pkceChecksUptoRow.holds Try.pinned (OpenSpec.upto pkceChecksSpec)

/-- 'signetlaw07.PkceBack', WHERE WHAT IT READS IS OF BULK AT MOST 1048576: true; the input reads as it did. -/
def pkceBackUptoRow : OpenClaim := { program := "ytnjpgcfkplchkaa", sum := "a0ed437ef4ab53c29604890d060339913240e0ea4f28f1fbe87df22d58427557", func := "signet/signetlaw07.PkceBack", spec := "pkceBack", inPlace := ["internal/bytealg.IndexByteString"], unfollowed := true, recurses := true, apart := false, narrowed := true }
def PkceBackUptoSaid : Prop := pkceBackUptoRow.holds Try.pinned (OpenSpec.upto pkceBackSpec)

end Rows
end Go.Proofs.Ytnjpgcfkplchkaa
