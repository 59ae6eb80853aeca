/-
  DERIVED. GIVEN WITH THE SEED: THE CARDS: each row of YtbdhicjebeoakaaDoorRows.lean that lists a variable, with what it lists TIED to the program's text (the seventh form; the later family's looks); each row that meets fmt, with fmt's text TOLD by the authors' own Lean function (tested against real Go, not proved from fmt's source: count such statements apart). THE CARD IS WHAT COUNTS. Prove the row's statement (the work); the ties are given (YtbdhicjebeoakaaDoorTie.lean); close each card by the builder's one call (the guide's Derived/Test/ToyasCard.lean, 'card_holds'). Laid BY PROGRAM, IN A SANDBOX (cutbox-door.mjs). By AI agents, Wed Nov 11 2026. No macro, syntax, notation, axiom, sorry.
-/
import Derived.Test.YtbdhicjebeoakaaDoorRows
import GoSem.ClaimSeven
namespace Go.Proofs.YtbdhicjebeoakaaDoor
namespace Rows

/-- THE TIED CARD OF 'lockagelaw04.SectorPieces'. -/
def sectorPiecesCard : Claim7 := { stood := { row := sectorPiecesRow, standIns := [], harness := (true, "29bb4595aa4ef72aad122fa082fcb6c2a33b559568532847aa6fc5c71a98bacb"), looks := false }, kinds := [], alts := [], laidByText := true, laidKinds := [.data, .pinned], laidTests := true, laidLooks := .later }
def SectorPiecesCardSaid : Prop := Claim7.holds Tryd.pinned (.plain (OpenSpec.ofChange sectorPiecesSpec)) sectorPiecesCard

/-- THE TIED CARD OF 'lockagelaw04.SectorTorn'. -/
def sectorTornCard : Claim7 := { stood := { row := sectorTornRow, standIns := [], harness := (true, "29bb4595aa4ef72aad122fa082fcb6c2a33b559568532847aa6fc5c71a98bacb"), looks := false }, kinds := [], alts := [], laidByText := true, laidKinds := [.data, .pinned], laidTests := true, laidLooks := .later }
def SectorTornCardSaid : Prop := Claim7.holds Tryd.pinned (.plain (OpenSpec.ofChange sectorTornSpec)) sectorTornCard

/-- THE TIED CARD OF 'lockagelaw04.SectorLays'. -/
def sectorLaysCard : Claim7 := { stood := { row := sectorLaysRow, standIns := [], harness := (true, "29bb4595aa4ef72aad122fa082fcb6c2a33b559568532847aa6fc5c71a98bacb"), looks := false }, kinds := [], alts := [], laidByText := true, laidKinds := [.data, .pinned], laidTests := true, laidLooks := .later }
def SectorLaysCardSaid : Prop := Claim7.holds Tryd.pinned (.plain (OpenSpec.ofChange sectorLaysSpec)) sectorLaysCard

/-- THE TIED CARD OF 'lockagelaw04.SectorOne'. -/
def sectorOneCard : Claim7 := { stood := { row := sectorOneRow, standIns := [], harness := (true, "29bb4595aa4ef72aad122fa082fcb6c2a33b559568532847aa6fc5c71a98bacb"), looks := false }, kinds := [], alts := [], laidByText := true, laidKinds := [.data, .pinned], laidTests := true, laidLooks := .later }
def SectorOneCardSaid : Prop := Claim7.holds Tryd.pinned (.plain (OpenSpec.ofChange sectorOneSpec)) sectorOneCard

/-- THE TIED CARD OF 'lockagelaw05.PlogNil'. -/
def plogNilCard : Claim7 := { stood := { row := plogNilRow, standIns := [], harness := (true, "29bb4595aa4ef72aad122fa082fcb6c2a33b559568532847aa6fc5c71a98bacb"), looks := false }, kinds := [], alts := [], laidByText := true, laidKinds := [.data, .pinned], laidTests := true, laidLooks := .later }
def PlogNilCardSaid : Prop := Claim7.holds Tryd.pinned (.plain (OpenSpec.ofChange plogNilSpec)) plogNilCard

/-- THE TIED CARD OF 'lockagelaw05.PlogGrows'. -/
def plogGrowsCard : Claim7 := { stood := { row := plogGrowsRow, standIns := [], harness := (true, "29bb4595aa4ef72aad122fa082fcb6c2a33b559568532847aa6fc5c71a98bacb"), looks := false }, kinds := [], alts := [], laidByText := true, laidKinds := [.data, .pinned], laidTests := true, laidLooks := .later }
def PlogGrowsCardSaid : Prop := Claim7.holds Tryd.pinned (.plain (OpenSpec.ofChange plogGrowsSpec)) plogGrowsCard

/-- THE TIED CARD OF 'lockagelaw05.PlogPlays'. -/
def plogPlaysCard : Claim7 := { stood := { row := plogPlaysRow, standIns := [], harness := (true, "29bb4595aa4ef72aad122fa082fcb6c2a33b559568532847aa6fc5c71a98bacb"), looks := false }, kinds := [], alts := [], laidByText := true, laidKinds := [.data, .pinned], laidTests := true, laidLooks := .later }
def PlogPlaysCardSaid : Prop := Claim7.holds Tryd.pinned (.plain (OpenSpec.ofChange plogPlaysSpec)) plogPlaysCard

/-- THE TIED CARD OF 'lockagelaw05.PlogCrashes'. -/
def plogCrashesCard : Claim7 := { stood := { row := plogCrashesRow, standIns := [], harness := (true, "29bb4595aa4ef72aad122fa082fcb6c2a33b559568532847aa6fc5c71a98bacb"), looks := false }, kinds := [], alts := [], laidByText := true, laidKinds := [.data, .pinned], laidTests := true, laidLooks := .later }
def PlogCrashesCardSaid : Prop := Claim7.holds Tryd.pinned (.plain (OpenSpec.ofChange plogCrashesSpec)) plogCrashesCard

/-- THE SECOND FORM's CARD OF 'lockagelaw04.SectorPieces'. -/
def sectorPiecesUptoCard : Claim7 := { stood := { row := sectorPiecesUptoRow, standIns := [], harness := (true, "29bb4595aa4ef72aad122fa082fcb6c2a33b559568532847aa6fc5c71a98bacb"), looks := false }, kinds := [], alts := [], laidByText := true, laidKinds := [.data, .pinned], laidTests := true, laidLooks := .later }
def SectorPiecesUptoCardSaid : Prop := Claim7.holds Tryd.pinned (.plain (OpenSpec.upto sectorPiecesSpec)) sectorPiecesUptoCard

/-- THE SECOND FORM's CARD OF 'lockagelaw04.SectorTorn'. -/
def sectorTornUptoCard : Claim7 := { stood := { row := sectorTornUptoRow, standIns := [], harness := (true, "29bb4595aa4ef72aad122fa082fcb6c2a33b559568532847aa6fc5c71a98bacb"), looks := false }, kinds := [], alts := [], laidByText := true, laidKinds := [.data, .pinned], laidTests := true, laidLooks := .later }
def SectorTornUptoCardSaid : Prop := Claim7.holds Tryd.pinned (.plain (OpenSpec.upto sectorTornSpec)) sectorTornUptoCard

/-- THE SECOND FORM's CARD OF 'lockagelaw04.SectorLays'. -/
def sectorLaysUptoCard : Claim7 := { stood := { row := sectorLaysUptoRow, standIns := [], harness := (true, "29bb4595aa4ef72aad122fa082fcb6c2a33b559568532847aa6fc5c71a98bacb"), looks := false }, kinds := [], alts := [], laidByText := true, laidKinds := [.data, .pinned], laidTests := true, laidLooks := .later }
def SectorLaysUptoCardSaid : Prop := Claim7.holds Tryd.pinned (.plain (OpenSpec.upto sectorLaysSpec)) sectorLaysUptoCard

/-- THE SECOND FORM's CARD OF 'lockagelaw04.SectorOne'. -/
def sectorOneUptoCard : Claim7 := { stood := { row := sectorOneUptoRow, standIns := [], harness := (true, "29bb4595aa4ef72aad122fa082fcb6c2a33b559568532847aa6fc5c71a98bacb"), looks := false }, kinds := [], alts := [], laidByText := true, laidKinds := [.data, .pinned], laidTests := true, laidLooks := .later }
def SectorOneUptoCardSaid : Prop := Claim7.holds Tryd.pinned (.plain (OpenSpec.upto sectorOneSpec)) sectorOneUptoCard

/-- THE SECOND FORM's CARD OF 'lockagelaw05.PlogNil'. -/
def plogNilUptoCard : Claim7 := { stood := { row := plogNilUptoRow, standIns := [], harness := (true, "29bb4595aa4ef72aad122fa082fcb6c2a33b559568532847aa6fc5c71a98bacb"), looks := false }, kinds := [], alts := [], laidByText := true, laidKinds := [.data, .pinned], laidTests := true, laidLooks := .later }
def PlogNilUptoCardSaid : Prop := Claim7.holds Tryd.pinned (.plain (OpenSpec.upto plogNilSpec)) plogNilUptoCard

/-- THE SECOND FORM's CARD OF 'lockagelaw05.PlogGrows'. -/
def plogGrowsUptoCard : Claim7 := { stood := { row := plogGrowsUptoRow, standIns := [], harness := (true, "29bb4595aa4ef72aad122fa082fcb6c2a33b559568532847aa6fc5c71a98bacb"), looks := false }, kinds := [], alts := [], laidByText := true, laidKinds := [.data, .pinned], laidTests := true, laidLooks := .later }
def PlogGrowsUptoCardSaid : Prop := Claim7.holds Tryd.pinned (.plain (OpenSpec.upto plogGrowsSpec)) plogGrowsUptoCard

/-- THE SECOND FORM's CARD OF 'lockagelaw05.PlogPlays'. -/
def plogPlaysUptoCard : Claim7 := { stood := { row := plogPlaysUptoRow, standIns := [], harness := (true, "29bb4595aa4ef72aad122fa082fcb6c2a33b559568532847aa6fc5c71a98bacb"), looks := false }, kinds := [], alts := [], laidByText := true, laidKinds := [.data, .pinned], laidTests := true, laidLooks := .later }
def PlogPlaysUptoCardSaid : Prop := Claim7.holds Tryd.pinned (.plain (OpenSpec.upto plogPlaysSpec)) plogPlaysUptoCard

/-- THE SECOND FORM's CARD OF 'lockagelaw05.PlogCrashes'. -/
def plogCrashesUptoCard : Claim7 := { stood := { row := plogCrashesUptoRow, standIns := [], harness := (true, "29bb4595aa4ef72aad122fa082fcb6c2a33b559568532847aa6fc5c71a98bacb"), looks := false }, kinds := [], alts := [], laidByText := true, laidKinds := [.data, .pinned], laidTests := true, laidLooks := .later }
def PlogCrashesUptoCardSaid : Prop := Claim7.holds Tryd.pinned (.plain (OpenSpec.upto plogCrashesSpec)) plogCrashesUptoCard
end Rows
end Go.Proofs.YtbdhicjebeoakaaDoor
