/-
  DERIVED. GIVEN WITH THE SEED: THE CARDS: each row of YtokdliapkolngaaDoorRows.lean that lists a variable, with what it lists TIED to the program's text (the seventh form; the later family's looks); each row that meets fmt, with fmt's text TOLD by the authors' own Lean function (tested against real Go, not proved from fmt's source: count such statements apart). THE CARD IS WHAT COUNTS. Prove the row's statement (the work); the ties are given (YtokdliapkolngaaDoorTie.lean); close each card by the builder's one call (the guide's Derived/Test/ToyasCard.lean, 'card_holds'). Laid BY PROGRAM, IN A SANDBOX (cutbox-door.mjs). By AI agents, Wed Nov 11 2026. No macro, syntax, notation, axiom, sorry.
-/
import Derived.Test.YtokdliapkolngaaDoorRows
import GoSem.ClaimSeven
namespace Go.Proofs.YtokdliapkolngaaDoor
namespace Rows

/-- THE TIED CARD OF 'signetlaw14.RingShrinks'. -/
def ringShrinksCard : Claim7 := { stood := { row := ringShrinksRow, standIns := [], harness := (true, "c042f140c16658b802fbc524e3950037053c576bd432a97aeffb82919062b5f5"), looks := false }, kinds := [], alts := [], laidByText := true, laidKinds := [.data, .data, .data], laidTests := true, laidLooks := .later }
def RingShrinksCardSaid : Prop := Claim7.holds Tryd.pinned (.plain (OpenSpec.ofChange ringShrinksSpec)) ringShrinksCard

/-- THE TIED CARD OF 'signetlaw14.RingKeeps'. -/
def ringKeepsCard : Claim7 := { stood := { row := ringKeepsRow, standIns := [], harness := (true, "c042f140c16658b802fbc524e3950037053c576bd432a97aeffb82919062b5f5"), looks := false }, kinds := [], alts := [], laidByText := true, laidKinds := [.data, .data, .data], laidTests := true, laidLooks := .later }
def RingKeepsCardSaid : Prop := Claim7.holds Tryd.pinned (.plain (OpenSpec.ofChange ringKeepsSpec)) ringKeepsCard

/-- THE TIED CARD OF 'signetlaw14.RingAlike'. -/
def ringAlikeCard : Claim7 := { stood := { row := ringAlikeRow, standIns := [], harness := (true, "c042f140c16658b802fbc524e3950037053c576bd432a97aeffb82919062b5f5"), looks := false }, kinds := [], alts := [], laidByText := true, laidKinds := [.data, .data, .data], laidTests := true, laidLooks := .later }
def RingAlikeCardSaid : Prop := Claim7.holds Tryd.pinned (.plain (OpenSpec.ofChange ringAlikeSpec)) ringAlikeCard

/-- THE TIED CARD OF 'signetlaw14.RingOwns'. -/
def ringOwnsCard : Claim7 := { stood := { row := ringOwnsRow, standIns := [], harness := (true, "c042f140c16658b802fbc524e3950037053c576bd432a97aeffb82919062b5f5"), looks := false }, kinds := [], alts := [], laidByText := true, laidKinds := [.data, .data, .data], laidTests := true, laidLooks := .later }
def RingOwnsCardSaid : Prop := Claim7.holds Tryd.pinned (.plain (OpenSpec.ofChange ringOwnsSpec)) ringOwnsCard

/-- THE TIED CARD OF 'signetlaw14.RingGrows'. -/
def ringGrowsCard : Claim7 := { stood := { row := ringGrowsRow, standIns := [], harness := (true, "c042f140c16658b802fbc524e3950037053c576bd432a97aeffb82919062b5f5"), looks := false }, kinds := [], alts := [], laidByText := true, laidKinds := [.data, .data, .data], laidTests := true, laidLooks := .later }
def RingGrowsCardSaid : Prop := Claim7.holds Tryd.pinned (.plain (OpenSpec.ofChange ringGrowsSpec)) ringGrowsCard

/-- THE SECOND FORM's CARD OF 'signetlaw14.RingShrinks'. -/
def ringShrinksUptoCard : Claim7 := { stood := { row := ringShrinksUptoRow, standIns := [], harness := (true, "c042f140c16658b802fbc524e3950037053c576bd432a97aeffb82919062b5f5"), looks := false }, kinds := [], alts := [], laidByText := true, laidKinds := [.data, .data, .data], laidTests := true, laidLooks := .later }
def RingShrinksUptoCardSaid : Prop := Claim7.holds Tryd.pinned (.plain (OpenSpec.upto ringShrinksSpec)) ringShrinksUptoCard

/-- THE SECOND FORM's CARD OF 'signetlaw14.RingKeeps'. -/
def ringKeepsUptoCard : Claim7 := { stood := { row := ringKeepsUptoRow, standIns := [], harness := (true, "c042f140c16658b802fbc524e3950037053c576bd432a97aeffb82919062b5f5"), looks := false }, kinds := [], alts := [], laidByText := true, laidKinds := [.data, .data, .data], laidTests := true, laidLooks := .later }
def RingKeepsUptoCardSaid : Prop := Claim7.holds Tryd.pinned (.plain (OpenSpec.upto ringKeepsSpec)) ringKeepsUptoCard

/-- THE SECOND FORM's CARD OF 'signetlaw14.RingAlike'. -/
def ringAlikeUptoCard : Claim7 := { stood := { row := ringAlikeUptoRow, standIns := [], harness := (true, "c042f140c16658b802fbc524e3950037053c576bd432a97aeffb82919062b5f5"), looks := false }, kinds := [], alts := [], laidByText := true, laidKinds := [.data, .data, .data], laidTests := true, laidLooks := .later }
def RingAlikeUptoCardSaid : Prop := Claim7.holds Tryd.pinned (.plain (OpenSpec.upto ringAlikeSpec)) ringAlikeUptoCard

/-- THE SECOND FORM's CARD OF 'signetlaw14.RingOwns'. -/
def ringOwnsUptoCard : Claim7 := { stood := { row := ringOwnsUptoRow, standIns := [], harness := (true, "c042f140c16658b802fbc524e3950037053c576bd432a97aeffb82919062b5f5"), looks := false }, kinds := [], alts := [], laidByText := true, laidKinds := [.data, .data, .data], laidTests := true, laidLooks := .later }
def RingOwnsUptoCardSaid : Prop := Claim7.holds Tryd.pinned (.plain (OpenSpec.upto ringOwnsSpec)) ringOwnsUptoCard

/-- THE SECOND FORM's CARD OF 'signetlaw14.RingGrows'. -/
def ringGrowsUptoCard : Claim7 := { stood := { row := ringGrowsUptoRow, standIns := [], harness := (true, "c042f140c16658b802fbc524e3950037053c576bd432a97aeffb82919062b5f5"), looks := false }, kinds := [], alts := [], laidByText := true, laidKinds := [.data, .data, .data], laidTests := true, laidLooks := .later }
def RingGrowsUptoCardSaid : Prop := Claim7.holds Tryd.pinned (.plain (OpenSpec.upto ringGrowsSpec)) ringGrowsUptoCard
end Rows
end Go.Proofs.YtokdliapkolngaaDoor
