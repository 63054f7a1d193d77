/-
  No cell of these rows narrows 'for every input' (looked for: loops, veiled, ifaces, maps, wideKeys, modest, calm, conditions, laid).
  DERIVED. THE GIVEN ROWS OF THIS SEAT. 4 by the template 'for every input the law returns true; each argument reads behind the call as it read before'; 0 by the template 'total and deterministic' (their statements: YtjmgnojbegafiaaTotals.lean).
  GIVEN WITH THE SEED: the statements are not yours to turn. If you find one false, say at which input.
  Laid BY PROGRAM, IN A SANDBOX (cutbox-rows.mjs): the forced cells as the released guide's own fill.sh prints them over the translation fe81507db29fc2fa… (all of the seat's roots in one cut). By AI agents, Wed Nov 11 2026. No macro, syntax, notation, axiom, sorry.
-/
import Derived.Test.YtjmgnojbegafiaaChecked
import GoSem.Claim
import GoSem.ClaimJoined
import GoSem.ClaimMapViews
import Derived.JoinedTies
import Derived.KernelRfl
namespace Go.Proofs.Ytjmgnojbegafiaa
/- THE CELL 'sum', in the pinned program and in every row, IS THE sha256 OF THE DUMP (.gsa) THAT YtjmgnojbegafiaaProg.lean LOADS. Nothing in Lean hashes anything: it is a label: what it is worth is what the hold of that sum in a sandbox is worth. -/
noncomputable def Try.pinned : Pinned := { name := "ytjmgnojbegafiaa", sum := "fe81507db29fc2fa801209c56f55163526ea7afe9bd34569c65896876a3a9444", checked := Try.checked }
namespace Rows
def none {H : Type} : Left H := { results := [], args := [] }

/-- 'signetlaw23.LeaseHolds': WHATEVER THE INPUT: true; the input reads as it did. -/
def leaseHoldsSpec : ChangeSpec := { name := "leaseHolds", fn := fun _ => fun
  | [d1, d2, d3, d4] => { results := [.lit (.bool true)], args := [d1, d2, d3, d4] }
  | _ => none }
def leaseHoldsRow : OpenClaim := { program := "ytjmgnojbegafiaa", sum := "fe81507db29fc2fa801209c56f55163526ea7afe9bd34569c65896876a3a9444", func := "signet/signetlaw23.LeaseHolds", spec := "leaseHolds", unfollowed := true, recurses := true, plainKeys := false, apart := false }
def LeaseHoldsSaid : Prop := leaseHoldsRow.holds Try.pinned (OpenSpec.ofChange leaseHoldsSpec)

/-- ITS FALSE NEIGHBOUR: 'it returns false'. Refute it at one input. -/
def leaseHoldsWrong : ChangeSpec := { name := "leaseHolds", fn := fun _ => fun
  | [d1, d2, d3, d4] => { results := [.lit (.bool false)], args := [d1, d2, d3, d4] }
  | _ => none }
def LeaseHoldsWrongFalsely : Prop := leaseHoldsRow.holds Try.pinned (OpenSpec.ofChange leaseHoldsWrong)

/-- 'signetlaw23.LeaseSafe': WHATEVER THE INPUT: true; the input reads as it did. -/
def leaseSafeSpec : ChangeSpec := { name := "leaseSafe", fn := fun _ => fun
  | [d1, d2, d3, d4, d5, d6] => { results := [.lit (.bool true)], args := [d1, d2, d3, d4, d5, d6] }
  | _ => none }
def leaseSafeRow : OpenClaim := { program := "ytjmgnojbegafiaa", sum := "fe81507db29fc2fa801209c56f55163526ea7afe9bd34569c65896876a3a9444", func := "signet/signetlaw23.LeaseSafe", spec := "leaseSafe", plainKeys := false, apart := false }
def LeaseSafeSaid : Prop := leaseSafeRow.holds Try.pinned (OpenSpec.ofChange leaseSafeSpec)

/-- ITS FALSE NEIGHBOUR: 'it returns false'. Refute it at one input. -/
def leaseSafeWrong : ChangeSpec := { name := "leaseSafe", fn := fun _ => fun
  | [d1, d2, d3, d4, d5, d6] => { results := [.lit (.bool false)], args := [d1, d2, d3, d4, d5, d6] }
  | _ => none }
def LeaseSafeWrongFalsely : Prop := leaseSafeRow.holds Try.pinned (OpenSpec.ofChange leaseSafeWrong)

/-- 'signetlaw23.LeasePlays': WHATEVER THE INPUT: true; the input reads as it did. -/
def leasePlaysSpec : ChangeSpec := { name := "leasePlays", fn := fun _ => fun
  | [d1, d2, d3] => { results := [.lit (.bool true)], args := [d1, d2, d3] }
  | _ => none }
def leasePlaysRow : OpenClaim := { program := "ytjmgnojbegafiaa", sum := "fe81507db29fc2fa801209c56f55163526ea7afe9bd34569c65896876a3a9444", func := "signet/signetlaw23.LeasePlays", spec := "leasePlays", unfollowed := true, recurses := true, plainKeys := false, apart := false }
def LeasePlaysSaid : Prop := leasePlaysRow.holds Try.pinned (OpenSpec.ofChange leasePlaysSpec)

/-- ITS FALSE NEIGHBOUR: 'it returns false'. Refute it at one input. -/
def leasePlaysWrong : ChangeSpec := { name := "leasePlays", fn := fun _ => fun
  | [d1, d2, d3] => { results := [.lit (.bool false)], args := [d1, d2, d3] }
  | _ => none }
def LeasePlaysWrongFalsely : Prop := leasePlaysRow.holds Try.pinned (OpenSpec.ofChange leasePlaysWrong)

/-- 'signetlaw23.LeaseKeeps': WHATEVER THE INPUT: true; the input reads as it did. -/
def leaseKeepsSpec : ChangeSpec := { name := "leaseKeeps", fn := fun _ => fun
  | [d1, d2] => { results := [.lit (.bool true)], args := [d1, d2] }
  | _ => none }
def leaseKeepsRow : OpenClaim := { program := "ytjmgnojbegafiaa", sum := "fe81507db29fc2fa801209c56f55163526ea7afe9bd34569c65896876a3a9444", func := "signet/signetlaw23.LeaseKeeps", spec := "leaseKeeps", unfollowed := true, recurses := true, plainKeys := false, apart := false }
def LeaseKeepsSaid : Prop := leaseKeepsRow.holds Try.pinned (OpenSpec.ofChange leaseKeepsSpec)

/-- ITS FALSE NEIGHBOUR: 'it returns false'. Refute it at one input. -/
def leaseKeepsWrong : ChangeSpec := { name := "leaseKeeps", fn := fun _ => fun
  | [d1, d2] => { results := [.lit (.bool false)], args := [d1, d2] }
  | _ => none }
def LeaseKeepsWrongFalsely : Prop := leaseKeepsRow.holds Try.pinned (OpenSpec.ofChange leaseKeepsWrong)

/- THE SECOND FORM. 'bulk': how many values and letters a reading holds, each counted each time it is reached (what is shared counts as often as it is met; a slice's spare places count too). A statement '..UptoSaid' is the law's where the arguments, and the package variables that the reading takes, are together of bulk at most 1048576: NARROWER than '..Said'. Prove '..Said' where nothing that the law and all that it calls make is longer than what came in: it says more and counts as full. Else prove '..UptoSaid'. A law counts once. -/
mutual
def uptoBulk {H : Type} : DataW H → Nat
  | .lit (.string bytes) => bytes.length + 1
  | .lit _ => 1
  | .nil => 1
  | .ptr d => uptoBulk d + 1
  | .slice elems spare => uptoBulkAll elems + uptoBulkAll spare + 1
  | .agg parts => uptoBulkAll parts + 1
  | .iface _ d => uptoBulk d + 1
  | .map entries => uptoBulkEntries entries + 1
  | .held _ => 1
def uptoBulkAll {H : Type} : List (DataW H) → Nat
  | [] => 0
  | d :: r => uptoBulk d + uptoBulkAll r
def uptoBulkEntries {H : Type} : List (Lit × DataW H) → Nat
  | [] => 0
  | x :: r => uptoBulkEntry x + uptoBulkEntries r
def uptoBulkEntry {H : Type} : Lit × DataW H → Nat
  | (.string bytes, d) => bytes.length + uptoBulk d + 1
  | (_, d) => uptoBulk d + 1
 end
def uptoSmall : (H : Type) → List (DataW H) → Bool := fun _ ds => decide (uptoBulkAll ds ≤ 1048576)
def OpenSpec.upto (s : _root_.Go.ChangeSpec) : _root_.Go.OpenSpec := { _root_.Go.OpenSpec.ofChange s with cond := some uptoSmall }

/-- 'signetlaw23.LeaseHolds', WHERE WHAT IT READS IS OF BULK AT MOST 1048576: true; the input reads as it did. -/
def leaseHoldsUptoRow : OpenClaim := { program := "ytjmgnojbegafiaa", sum := "fe81507db29fc2fa801209c56f55163526ea7afe9bd34569c65896876a3a9444", func := "signet/signetlaw23.LeaseHolds", spec := "leaseHolds", unfollowed := true, recurses := true, plainKeys := false, apart := false, narrowed := true }
def LeaseHoldsUptoSaid : Prop := leaseHoldsUptoRow.holds Try.pinned (OpenSpec.upto leaseHoldsSpec)

/-- 'signetlaw23.LeaseSafe', WHERE WHAT IT READS IS OF BULK AT MOST 1048576: true; the input reads as it did. -/
def leaseSafeUptoRow : OpenClaim := { program := "ytjmgnojbegafiaa", sum := "fe81507db29fc2fa801209c56f55163526ea7afe9bd34569c65896876a3a9444", func := "signet/signetlaw23.LeaseSafe", spec := "leaseSafe", plainKeys := false, apart := false, narrowed := true }
def LeaseSafeUptoSaid : Prop := leaseSafeUptoRow.holds Try.pinned (OpenSpec.upto leaseSafeSpec)

/-- 'signetlaw23.LeasePlays', WHERE WHAT IT READS IS OF BULK AT MOST 1048576: true; the input reads as it did. -/
def leasePlaysUptoRow : OpenClaim := { program := "ytjmgnojbegafiaa", sum := "fe81507db29fc2fa801209c56f55163526ea7afe9bd34569c65896876a3a9444", func := "signet/signetlaw23.LeasePlays", spec := "leasePlays", unfollowed := true, recurses := true, plainKeys := false, apart := false, narrowed := true }
def LeasePlaysUptoSaid : Prop := leasePlaysUptoRow.holds Try.pinned (OpenSpec.upto leasePlaysSpec)

/-- 'signetlaw23.LeaseKeeps', WHERE WHAT IT READS IS OF BULK AT MOST 1048576: true; the input reads as it did. -/
def leaseKeepsUptoRow : OpenClaim := { program := "ytjmgnojbegafiaa", sum := "fe81507db29fc2fa801209c56f55163526ea7afe9bd34569c65896876a3a9444", func := "signet/signetlaw23.LeaseKeeps", spec := "leaseKeeps", unfollowed := true, recurses := true, plainKeys := false, apart := false, narrowed := true }
def LeaseKeepsUptoSaid : Prop := leaseKeepsUptoRow.holds Try.pinned (OpenSpec.upto leaseKeepsSpec)

end Rows
end Go.Proofs.Ytjmgnojbegafiaa
