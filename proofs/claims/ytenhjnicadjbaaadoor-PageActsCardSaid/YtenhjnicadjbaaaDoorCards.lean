/-
  DERIVED. GIVEN WITH THE SEED: THE CARDS: each row of YtenhjnicadjbaaaDoorRows.lean that lists a variable, with what it lists TIED to the program's text (the seventh form; the later family's looks); each row that meets fmt, with fmt's text TOLD by the authors' own Lean function (tested against real Go, not proved from fmt's source: count such statements apart). THE CARD IS WHAT COUNTS. Prove the row's statement (the work); the ties are given (YtenhjnicadjbaaaDoorTie.lean); close each card by the builder's one call (the guide's Derived/Test/ToyasCard.lean, 'card_holds'). Laid BY PROGRAM, IN A SANDBOX (cutbox-door.mjs). By AI agents, Wed Nov 11 2026. No macro, syntax, notation, axiom, sorry.
-/
import Derived.Test.YtenhjnicadjbaaaDoorRows
import GoSem.ClaimSeven
namespace Go.Proofs.YtenhjnicadjbaaaDoor
namespace Rows

/-- THE TIED CARD OF 'icehouselaw12.CrcSums'. -/
def crcSumsCard : Claim7 := { stood := { row := crcSumsRow, standIns := [], harness := (true, "3e40f8dc2effc5cc3db0a32ec056b4d5cb14b2988d990a5918d78f66881aa580"), looks := false }, kinds := [], alts := [], laidByText := true, laidKinds := [.data], laidTests := true, laidLooks := .later }
def CrcSumsCardSaid : Prop := Claim7.holds Tryd.pinned (.plain (OpenSpec.ofChange crcSumsSpec)) crcSumsCard

/-- THE TIED CARD OF 'icehouselaw12.CrcAdds'. -/
def crcAddsCard : Claim7 := { stood := { row := crcAddsRow, standIns := [], harness := (true, "3e40f8dc2effc5cc3db0a32ec056b4d5cb14b2988d990a5918d78f66881aa580"), looks := false }, kinds := [], alts := [], laidByText := true, laidKinds := [.data], laidTests := true, laidLooks := .later }
def CrcAddsCardSaid : Prop := Claim7.holds Tryd.pinned (.plain (OpenSpec.ofChange crcAddsSpec)) crcAddsCard

/-- THE TIED CARD OF 'icehouselaw12.CrcGrows'. -/
def crcGrowsCard : Claim7 := { stood := { row := crcGrowsRow, standIns := [], harness := (true, "3e40f8dc2effc5cc3db0a32ec056b4d5cb14b2988d990a5918d78f66881aa580"), looks := false }, kinds := [], alts := [], laidByText := true, laidKinds := [.data], laidTests := true, laidLooks := .later }
def CrcGrowsCardSaid : Prop := Claim7.holds Tryd.pinned (.plain (OpenSpec.ofChange crcGrowsSpec)) crcGrowsCard

/-- THE TIED CARD OF 'icehouselaw12.CrcTurns'. -/
def crcTurnsCard : Claim7 := { stood := { row := crcTurnsRow, standIns := [], harness := (true, "3e40f8dc2effc5cc3db0a32ec056b4d5cb14b2988d990a5918d78f66881aa580"), looks := false }, kinds := [], alts := [], laidByText := true, laidKinds := [.data], laidTests := true, laidLooks := .later }
def CrcTurnsCardSaid : Prop := Claim7.holds Tryd.pinned (.plain (OpenSpec.ofChange crcTurnsSpec)) crcTurnsCard

/-- THE TIED CARD OF 'icehouselaw14.PageApart'. -/
def pageApartCard : Claim7 := { stood := { row := pageApartRow, standIns := [], harness := (true, "3e40f8dc2effc5cc3db0a32ec056b4d5cb14b2988d990a5918d78f66881aa580"), looks := false }, kinds := [], alts := [], laidByText := true, laidKinds := [.data], laidTests := true, laidLooks := .later }
def PageApartCardSaid : Prop := Claim7.holds Tryd.pinned (.plain (OpenSpec.ofChange pageApartSpec)) pageApartCard

/-- THE TIED CARD OF 'icehouselaw12.CrcFrames'. -/
def crcFramesCard : Claim7 := { stood := { row := crcFramesRow, standIns := [], harness := (true, "3e40f8dc2effc5cc3db0a32ec056b4d5cb14b2988d990a5918d78f66881aa580"), looks := false }, kinds := [], alts := [], laidByText := true, laidKinds := [.data], laidTests := true, laidLooks := .later }
def CrcFramesCardSaid : Prop := Claim7.holds Tryd.pinned (.plain (OpenSpec.ofChange crcFramesSpec)) crcFramesCard

/-- THE TIED CARD OF 'icehouselaw14.PageCuts'. -/
def pageCutsCard : Claim7 := { stood := { row := pageCutsRow, standIns := [], harness := (true, "3e40f8dc2effc5cc3db0a32ec056b4d5cb14b2988d990a5918d78f66881aa580"), looks := false }, kinds := [], alts := [], laidByText := true, laidKinds := [.data], laidTests := true, laidLooks := .later }
def PageCutsCardSaid : Prop := Claim7.holds Tryd.pinned (.plain (OpenSpec.ofChange pageCutsSpec)) pageCutsCard

/-- THE TIED CARD OF 'icehouselaw14.PagePacks'. -/
def pagePacksCard : Claim7 := { stood := { row := pagePacksRow, standIns := [], harness := (true, "3e40f8dc2effc5cc3db0a32ec056b4d5cb14b2988d990a5918d78f66881aa580"), looks := false }, kinds := [], alts := [], laidByText := true, laidKinds := [.data], laidTests := true, laidLooks := .later }
def PagePacksCardSaid : Prop := Claim7.holds Tryd.pinned (.plain (OpenSpec.ofChange pagePacksSpec)) pagePacksCard

/-- THE TIED CARD OF 'icehouselaw14.PageActs'. -/
def pageActsCard : Claim7 := { stood := { row := pageActsRow, standIns := [], harness := (true, "3e40f8dc2effc5cc3db0a32ec056b4d5cb14b2988d990a5918d78f66881aa580"), looks := false }, kinds := [], alts := [], laidByText := true, laidKinds := [.data], laidTests := true, laidLooks := .later }
def PageActsCardSaid : Prop := Claim7.holds Tryd.pinned (.plain (OpenSpec.ofChange pageActsSpec)) pageActsCard

/-- THE SECOND FORM's CARD OF 'icehouselaw12.CrcSums'. -/
def crcSumsUptoCard : Claim7 := { stood := { row := crcSumsUptoRow, standIns := [], harness := (true, "3e40f8dc2effc5cc3db0a32ec056b4d5cb14b2988d990a5918d78f66881aa580"), looks := false }, kinds := [], alts := [], laidByText := true, laidKinds := [.data], laidTests := true, laidLooks := .later }
def CrcSumsUptoCardSaid : Prop := Claim7.holds Tryd.pinned (.plain (OpenSpec.upto crcSumsSpec)) crcSumsUptoCard

/-- THE SECOND FORM's CARD OF 'icehouselaw12.CrcAdds'. -/
def crcAddsUptoCard : Claim7 := { stood := { row := crcAddsUptoRow, standIns := [], harness := (true, "3e40f8dc2effc5cc3db0a32ec056b4d5cb14b2988d990a5918d78f66881aa580"), looks := false }, kinds := [], alts := [], laidByText := true, laidKinds := [.data], laidTests := true, laidLooks := .later }
def CrcAddsUptoCardSaid : Prop := Claim7.holds Tryd.pinned (.plain (OpenSpec.upto crcAddsSpec)) crcAddsUptoCard

/-- THE SECOND FORM's CARD OF 'icehouselaw12.CrcGrows'. -/
def crcGrowsUptoCard : Claim7 := { stood := { row := crcGrowsUptoRow, standIns := [], harness := (true, "3e40f8dc2effc5cc3db0a32ec056b4d5cb14b2988d990a5918d78f66881aa580"), looks := false }, kinds := [], alts := [], laidByText := true, laidKinds := [.data], laidTests := true, laidLooks := .later }
def CrcGrowsUptoCardSaid : Prop := Claim7.holds Tryd.pinned (.plain (OpenSpec.upto crcGrowsSpec)) crcGrowsUptoCard

/-- THE SECOND FORM's CARD OF 'icehouselaw12.CrcTurns'. -/
def crcTurnsUptoCard : Claim7 := { stood := { row := crcTurnsUptoRow, standIns := [], harness := (true, "3e40f8dc2effc5cc3db0a32ec056b4d5cb14b2988d990a5918d78f66881aa580"), looks := false }, kinds := [], alts := [], laidByText := true, laidKinds := [.data], laidTests := true, laidLooks := .later }
def CrcTurnsUptoCardSaid : Prop := Claim7.holds Tryd.pinned (.plain (OpenSpec.upto crcTurnsSpec)) crcTurnsUptoCard

/-- THE SECOND FORM's CARD OF 'icehouselaw14.PageApart'. -/
def pageApartUptoCard : Claim7 := { stood := { row := pageApartUptoRow, standIns := [], harness := (true, "3e40f8dc2effc5cc3db0a32ec056b4d5cb14b2988d990a5918d78f66881aa580"), looks := false }, kinds := [], alts := [], laidByText := true, laidKinds := [.data], laidTests := true, laidLooks := .later }
def PageApartUptoCardSaid : Prop := Claim7.holds Tryd.pinned (.plain (OpenSpec.upto pageApartSpec)) pageApartUptoCard

/-- THE SECOND FORM's CARD OF 'icehouselaw12.CrcFrames'. -/
def crcFramesUptoCard : Claim7 := { stood := { row := crcFramesUptoRow, standIns := [], harness := (true, "3e40f8dc2effc5cc3db0a32ec056b4d5cb14b2988d990a5918d78f66881aa580"), looks := false }, kinds := [], alts := [], laidByText := true, laidKinds := [.data], laidTests := true, laidLooks := .later }
def CrcFramesUptoCardSaid : Prop := Claim7.holds Tryd.pinned (.plain (OpenSpec.upto crcFramesSpec)) crcFramesUptoCard

/-- THE SECOND FORM's CARD OF 'icehouselaw14.PageCuts'. -/
def pageCutsUptoCard : Claim7 := { stood := { row := pageCutsUptoRow, standIns := [], harness := (true, "3e40f8dc2effc5cc3db0a32ec056b4d5cb14b2988d990a5918d78f66881aa580"), looks := false }, kinds := [], alts := [], laidByText := true, laidKinds := [.data], laidTests := true, laidLooks := .later }
def PageCutsUptoCardSaid : Prop := Claim7.holds Tryd.pinned (.plain (OpenSpec.upto pageCutsSpec)) pageCutsUptoCard

/-- THE SECOND FORM's CARD OF 'icehouselaw14.PagePacks'. -/
def pagePacksUptoCard : Claim7 := { stood := { row := pagePacksUptoRow, standIns := [], harness := (true, "3e40f8dc2effc5cc3db0a32ec056b4d5cb14b2988d990a5918d78f66881aa580"), looks := false }, kinds := [], alts := [], laidByText := true, laidKinds := [.data], laidTests := true, laidLooks := .later }
def PagePacksUptoCardSaid : Prop := Claim7.holds Tryd.pinned (.plain (OpenSpec.upto pagePacksSpec)) pagePacksUptoCard

/-- THE SECOND FORM's CARD OF 'icehouselaw14.PageActs'. -/
def pageActsUptoCard : Claim7 := { stood := { row := pageActsUptoRow, standIns := [], harness := (true, "3e40f8dc2effc5cc3db0a32ec056b4d5cb14b2988d990a5918d78f66881aa580"), looks := false }, kinds := [], alts := [], laidByText := true, laidKinds := [.data], laidTests := true, laidLooks := .later }
def PageActsUptoCardSaid : Prop := Claim7.holds Tryd.pinned (.plain (OpenSpec.upto pageActsSpec)) pageActsUptoCard
end Rows
end Go.Proofs.YtenhjnicadjbaaaDoor
