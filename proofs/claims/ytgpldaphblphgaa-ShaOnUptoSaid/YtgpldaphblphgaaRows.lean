/-
  No cell of these rows narrows 'for every input' (looked for: loops, veiled, ifaces, maps, wideKeys, modest, calm, conditions, laid).
  DERIVED. THE GIVEN ROWS OF THIS SEAT. 8 by the template 'for every input the law returns true; each argument reads behind the call as it read before'; 0 by the template 'total and deterministic' (their statements: YtgpldaphblphgaaTotals.lean).
  GIVEN WITH THE SEED: the statements are not yours to turn. If you find one false, say at which input.
  Laid BY PROGRAM, IN A SANDBOX (cutbox-rows.mjs): the forced cells as the released guide's own fill.sh prints them over the translation 5a02686d955edf66… (all of the seat's roots in one cut). By AI agents, Wed Nov 11 2026. No macro, syntax, notation, axiom, sorry.
-/
import Derived.Test.YtgpldaphblphgaaChecked
import GoSem.Claim
import GoSem.ClaimJoined
import GoSem.ClaimMapViews
import Derived.JoinedTies
import Derived.KernelRfl
namespace Go.Proofs.Ytgpldaphblphgaa
/- THE CELL 'sum', in the pinned program and in every row, IS THE sha256 OF THE DUMP (.gsa) THAT YtgpldaphblphgaaProg.lean LOADS. Nothing in Lean hashes anything: it is a label: what it is worth is what the hold of that sum in a sandbox is worth. -/
noncomputable def Try.pinned : Pinned := { name := "ytgpldaphblphgaa", sum := "5a02686d955edf6621cb959ef8ec1ce80991a0531cb677dd2269924892a9c7f9", checked := Try.checked }
namespace Rows
def none {H : Type} : Left H := { results := [], args := [] }

/-- 'signetlaw03.ShaSums': WHATEVER THE INPUT: true; the input reads as it did. -/
def shaSumsSpec : ChangeSpec := { name := "shaSums", fn := fun _ => fun
  | [d] => { results := [.lit (.bool true)], args := [d] }
  | _ => none }
def shaSumsRow : OpenClaim := { program := "ytgpldaphblphgaa", sum := "5a02686d955edf6621cb959ef8ec1ce80991a0531cb677dd2269924892a9c7f9", func := "signet/signetlaw03.ShaSums", spec := "shaSums", apart := false }
def ShaSumsSaid : Prop := shaSumsRow.holds Try.pinned (OpenSpec.ofChange shaSumsSpec)

/-- ITS FALSE NEIGHBOUR: 'it returns false'. Refute it at one input. -/
def shaSumsWrong : ChangeSpec := { name := "shaSums", fn := fun _ => fun
  | [d] => { results := [.lit (.bool false)], args := [d] }
  | _ => none }
def ShaSumsWrongFalsely : Prop := shaSumsRow.holds Try.pinned (OpenSpec.ofChange shaSumsWrong)

/-- 'signetlaw03.ShaApart': WHATEVER THE INPUT: true; the input reads as it did. -/
def shaApartSpec : ChangeSpec := { name := "shaApart", fn := fun _ => fun
  | [d1, d2, d3] => { results := [.lit (.bool true)], args := [d1, d2, d3] }
  | _ => none }
def shaApartRow : OpenClaim := { program := "ytgpldaphblphgaa", sum := "5a02686d955edf6621cb959ef8ec1ce80991a0531cb677dd2269924892a9c7f9", func := "signet/signetlaw03.ShaApart", spec := "shaApart", apart := false }
def ShaApartSaid : Prop := shaApartRow.holds Try.pinned (OpenSpec.ofChange shaApartSpec)

/-- ITS FALSE NEIGHBOUR: 'it returns false'. Refute it at one input. -/
def shaApartWrong : ChangeSpec := { name := "shaApart", fn := fun _ => fun
  | [d1, d2, d3] => { results := [.lit (.bool false)], args := [d1, d2, d3] }
  | _ => none }
def ShaApartWrongFalsely : Prop := shaApartRow.holds Try.pinned (OpenSpec.ofChange shaApartWrong)

/-- 'signetlaw03.ShaMacs': WHATEVER THE INPUT: true; the input reads as it did. -/
def shaMacsSpec : ChangeSpec := { name := "shaMacs", fn := fun _ => fun
  | [d1, d2] => { results := [.lit (.bool true)], args := [d1, d2] }
  | _ => none }
def shaMacsRow : OpenClaim := { program := "ytgpldaphblphgaa", sum := "5a02686d955edf6621cb959ef8ec1ce80991a0531cb677dd2269924892a9c7f9", func := "signet/signetlaw03.ShaMacs", spec := "shaMacs", apart := false }
def ShaMacsSaid : Prop := shaMacsRow.holds Try.pinned (OpenSpec.ofChange shaMacsSpec)

/-- ITS FALSE NEIGHBOUR: 'it returns false'. Refute it at one input. -/
def shaMacsWrong : ChangeSpec := { name := "shaMacs", fn := fun _ => fun
  | [d1, d2] => { results := [.lit (.bool false)], args := [d1, d2] }
  | _ => none }
def ShaMacsWrongFalsely : Prop := shaMacsRow.holds Try.pinned (OpenSpec.ofChange shaMacsWrong)

/-- 'signetlaw03.ShaLongKeys': WHATEVER THE INPUT: true; the input reads as it did. -/
def shaLongKeysSpec : ChangeSpec := { name := "shaLongKeys", fn := fun _ => fun
  | [d1, d2] => { results := [.lit (.bool true)], args := [d1, d2] }
  | _ => none }
def shaLongKeysRow : OpenClaim := { program := "ytgpldaphblphgaa", sum := "5a02686d955edf6621cb959ef8ec1ce80991a0531cb677dd2269924892a9c7f9", func := "signet/signetlaw03.ShaLongKeys", spec := "shaLongKeys", apart := false }
def ShaLongKeysSaid : Prop := shaLongKeysRow.holds Try.pinned (OpenSpec.ofChange shaLongKeysSpec)

/-- ITS FALSE NEIGHBOUR: 'it returns false'. Refute it at one input. -/
def shaLongKeysWrong : ChangeSpec := { name := "shaLongKeys", fn := fun _ => fun
  | [d1, d2] => { results := [.lit (.bool false)], args := [d1, d2] }
  | _ => none }
def ShaLongKeysWrongFalsely : Prop := shaLongKeysRow.holds Try.pinned (OpenSpec.ofChange shaLongKeysWrong)

/-- 'signetlaw03.ShaNil': WHATEVER THE INPUT: true; the input reads as it did. -/
def shaNilSpec : ChangeSpec := { name := "shaNil", fn := fun _ => fun
  | [d] => { results := [.lit (.bool true)], args := [d] }
  | _ => none }
def shaNilRow : OpenClaim := { program := "ytgpldaphblphgaa", sum := "5a02686d955edf6621cb959ef8ec1ce80991a0531cb677dd2269924892a9c7f9", func := "signet/signetlaw03.ShaNil", spec := "shaNil", apart := false }
def ShaNilSaid : Prop := shaNilRow.holds Try.pinned (OpenSpec.ofChange shaNilSpec)

/-- ITS FALSE NEIGHBOUR: 'it returns false'. Refute it at one input. -/
def shaNilWrong : ChangeSpec := { name := "shaNil", fn := fun _ => fun
  | [d] => { results := [.lit (.bool false)], args := [d] }
  | _ => none }
def ShaNilWrongFalsely : Prop := shaNilRow.holds Try.pinned (OpenSpec.ofChange shaNilWrong)

/-- 'signetlaw03.ShaOn': WHATEVER THE INPUT: true; the input reads as it did. -/
def shaOnSpec : ChangeSpec := { name := "shaOn", fn := fun _ => fun
  | [d1, d2] => { results := [.lit (.bool true)], args := [d1, d2] }
  | _ => none }
def shaOnRow : OpenClaim := { program := "ytgpldaphblphgaa", sum := "5a02686d955edf6621cb959ef8ec1ce80991a0531cb677dd2269924892a9c7f9", func := "signet/signetlaw03.ShaOn", spec := "shaOn", apart := false }
def ShaOnSaid : Prop := shaOnRow.holds Try.pinned (OpenSpec.ofChange shaOnSpec)

/-- ITS FALSE NEIGHBOUR: 'it returns false'. Refute it at one input. -/
def shaOnWrong : ChangeSpec := { name := "shaOn", fn := fun _ => fun
  | [d1, d2] => { results := [.lit (.bool false)], args := [d1, d2] }
  | _ => none }
def ShaOnWrongFalsely : Prop := shaOnRow.holds Try.pinned (OpenSpec.ofChange shaOnWrong)

/-- 'signetlaw03.ShaKeeps': WHATEVER THE INPUT: true; the input reads as it did. -/
def shaKeepsSpec : ChangeSpec := { name := "shaKeeps", fn := fun _ => fun
  | [d1, d2] => { results := [.lit (.bool true)], args := [d1, d2] }
  | _ => none }
def shaKeepsRow : OpenClaim := { program := "ytgpldaphblphgaa", sum := "5a02686d955edf6621cb959ef8ec1ce80991a0531cb677dd2269924892a9c7f9", func := "signet/signetlaw03.ShaKeeps", spec := "shaKeeps", apart := false }
def ShaKeepsSaid : Prop := shaKeepsRow.holds Try.pinned (OpenSpec.ofChange shaKeepsSpec)

/-- ITS FALSE NEIGHBOUR: 'it returns false'. Refute it at one input. -/
def shaKeepsWrong : ChangeSpec := { name := "shaKeeps", fn := fun _ => fun
  | [d1, d2] => { results := [.lit (.bool false)], args := [d1, d2] }
  | _ => none }
def ShaKeepsWrongFalsely : Prop := shaKeepsRow.holds Try.pinned (OpenSpec.ofChange shaKeepsWrong)

/-- 'signetlaw03.ShaParts': WHATEVER THE INPUT: true; the input reads as it did. -/
def shaPartsSpec : ChangeSpec := { name := "shaParts", fn := fun _ => fun
  | [d1, d2] => { results := [.lit (.bool true)], args := [d1, d2] }
  | _ => none }
def shaPartsRow : OpenClaim := { program := "ytgpldaphblphgaa", sum := "5a02686d955edf6621cb959ef8ec1ce80991a0531cb677dd2269924892a9c7f9", func := "signet/signetlaw03.ShaParts", spec := "shaParts", apart := false }
def ShaPartsSaid : Prop := shaPartsRow.holds Try.pinned (OpenSpec.ofChange shaPartsSpec)

/-- ITS FALSE NEIGHBOUR: 'it returns false'. Refute it at one input. -/
def shaPartsWrong : ChangeSpec := { name := "shaParts", fn := fun _ => fun
  | [d1, d2] => { results := [.lit (.bool false)], args := [d1, d2] }
  | _ => none }
def ShaPartsWrongFalsely : Prop := shaPartsRow.holds Try.pinned (OpenSpec.ofChange shaPartsWrong)

/- THE SECOND FORM. 'bulk': how many values and letters a reading holds, each counted each time it is reached (what is shared counts as often as it is met; a slice's spare places count too). A statement '..UptoSaid' is the law's where the arguments, and the package variables that the reading takes, are together of bulk at most 1048576: NARROWER than '..Said'. Prove '..Said' where nothing that the law and all that it calls make is longer than what came in: it says more and counts as full. Else prove '..UptoSaid'. A law counts once. -/
mutual
def uptoBulk {H : Type} : DataW H → Nat
  | .lit (.string bytes) => bytes.length + 1
  | .lit _ => 1
  | .nil => 1
  | .ptr d => uptoBulk d + 1
  | .slice elems spare => uptoBulkAll elems + uptoBulkAll spare + 1
  | .agg parts => uptoBulkAll parts + 1
  | .iface _ d => uptoBulk d + 1
  | .map entries => uptoBulkEntries entries + 1
  | .held _ => 1
def uptoBulkAll {H : Type} : List (DataW H) → Nat
  | [] => 0
  | d :: r => uptoBulk d + uptoBulkAll r
def uptoBulkEntries {H : Type} : List (Lit × DataW H) → Nat
  | [] => 0
  | x :: r => uptoBulkEntry x + uptoBulkEntries r
def uptoBulkEntry {H : Type} : Lit × DataW H → Nat
  | (.string bytes, d) => bytes.length + uptoBulk d + 1
  | (_, d) => uptoBulk d + 1
 end
def uptoSmall : (H : Type) → List (DataW H) → Bool := fun _ ds => decide (uptoBulkAll ds ≤ 1048576)
def OpenSpec.upto (s : _root_.Go.ChangeSpec) : _root_.Go.OpenSpec := { _root_.Go.OpenSpec.ofChange s with cond := some uptoSmall }

/-- 'signetlaw03.ShaSums', WHERE WHAT IT READS IS OF BULK AT MOST 1048576: true; the input reads as it did. -/
def shaSumsUptoRow : OpenClaim := { program := "ytgpldaphblphgaa", sum := "5a02686d955edf6621cb959ef8ec1ce80991a0531cb677dd2269924892a9c7f9", func := "signet/signetlaw03.ShaSums", spec := "shaSums", apart := false, narrowed := true }
def ShaSumsUptoSaid : Prop := shaSumsUptoRow.holds Try.pinned (OpenSpec.upto shaSumsSpec)

/-- 'signetlaw03.ShaApart', WHERE WHAT IT READS IS OF BULK AT MOST 1048576: true; the input reads as it did. -/
def shaApartUptoRow : OpenClaim := { program := "ytgpldaphblphgaa", sum := "5a02686d955edf6621cb959ef8ec1ce80991a0531cb677dd2269924892a9c7f9", func := "signet/signetlaw03.ShaApart", spec := "shaApart", apart := false, narrowed := true }
def ShaApartUptoSaid : Prop := shaApartUptoRow.holds Try.pinned (OpenSpec.upto shaApartSpec)

/-- 'signetlaw03.ShaMacs', WHERE WHAT IT READS IS OF BULK AT MOST 1048576: true; the input reads as it did. -/
def shaMacsUptoRow : OpenClaim := { program := "ytgpldaphblphgaa", sum := "5a02686d955edf6621cb959ef8ec1ce80991a0531cb677dd2269924892a9c7f9", func := "signet/signetlaw03.ShaMacs", spec := "shaMacs", apart := false, narrowed := true }
def ShaMacsUptoSaid : Prop := shaMacsUptoRow.holds Try.pinned (OpenSpec.upto shaMacsSpec)

/-- 'signetlaw03.ShaLongKeys', WHERE WHAT IT READS IS OF BULK AT MOST 1048576: true; the input reads as it did. -/
def shaLongKeysUptoRow : OpenClaim := { program := "ytgpldaphblphgaa", sum := "5a02686d955edf6621cb959ef8ec1ce80991a0531cb677dd2269924892a9c7f9", func := "signet/signetlaw03.ShaLongKeys", spec := "shaLongKeys", apart := false, narrowed := true }
def ShaLongKeysUptoSaid : Prop := shaLongKeysUptoRow.holds Try.pinned (OpenSpec.upto shaLongKeysSpec)

/-- 'signetlaw03.ShaNil', WHERE WHAT IT READS IS OF BULK AT MOST 1048576: true; the input reads as it did. -/
def shaNilUptoRow : OpenClaim := { program := "ytgpldaphblphgaa", sum := "5a02686d955edf6621cb959ef8ec1ce80991a0531cb677dd2269924892a9c7f9", func := "signet/signetlaw03.ShaNil", spec := "shaNil", apart := false, narrowed := true }
def ShaNilUptoSaid : Prop := shaNilUptoRow.holds Try.pinned (OpenSpec.upto shaNilSpec)

/-- 'signetlaw03.ShaOn', WHERE WHAT IT READS IS OF BULK AT MOST 1048576: true; the input reads as it did. -/
def shaOnUptoRow : OpenClaim := { program := "ytgpldaphblphgaa", sum := "5a02686d955edf6621cb959ef8ec1ce80991a0531cb677dd2269924892a9c7f9", func := "signet/signetlaw03.ShaOn", spec := "shaOn", apart := false, narrowed := true }
def ShaOnUptoSaid : Prop := shaOnUptoRow.holds Try.pinned (OpenSpec.upto shaOnSpec)

/-- 'signetlaw03.ShaKeeps', WHERE WHAT IT READS IS OF BULK AT MOST 1048576: true; the input reads as it did. -/
def shaKeepsUptoRow : OpenClaim := { program := "ytgpldaphblphgaa", sum := "5a02686d955edf6621cb959ef8ec1ce80991a0531cb677dd2269924892a9c7f9", func := "signet/signetlaw03.ShaKeeps", spec := "shaKeeps", apart := false, narrowed := true }
def ShaKeepsUptoSaid : Prop := shaKeepsUptoRow.holds Try.pinned (OpenSpec.upto shaKeepsSpec)

/-- 'signetlaw03.ShaParts', WHERE WHAT IT READS IS OF BULK AT MOST 1048576: true; the input reads as it did. -/
def shaPartsUptoRow : OpenClaim := { program := "ytgpldaphblphgaa", sum := "5a02686d955edf6621cb959ef8ec1ce80991a0531cb677dd2269924892a9c7f9", func := "signet/signetlaw03.ShaParts", spec := "shaParts", apart := false, narrowed := true }
def ShaPartsUptoSaid : Prop := shaPartsUptoRow.holds Try.pinned (OpenSpec.upto shaPartsSpec)

end Rows
end Go.Proofs.Ytgpldaphblphgaa
