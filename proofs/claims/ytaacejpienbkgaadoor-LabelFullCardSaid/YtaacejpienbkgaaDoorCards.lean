/-
  DERIVED. GIVEN WITH THE SEED: THE CARDS: each row of YtaacejpienbkgaaDoorRows.lean that lists a variable, with what it lists TIED to the program's text (the seventh form; the later family's looks); each row that meets fmt, with fmt's text TOLD by the authors' own Lean function (tested against real Go, not proved from fmt's source: count such statements apart). THE CARD IS WHAT COUNTS. Prove the row's statement (the work); the ties are given (YtaacejpienbkgaaDoorTie.lean); close each card by the builder's one call (the guide's Derived/Test/ToyasCard.lean, 'card_holds'). Laid BY PROGRAM, IN A SANDBOX (cutbox-door.mjs). By AI agents, Wed Nov 11 2026. No macro, syntax, notation, axiom, sorry.
-/
import Derived.Test.YtaacejpienbkgaaDoorRows
import GoSem.ClaimSeven
namespace Go.Proofs.YtaacejpienbkgaaDoor
namespace Rows

/-- THE TIED CARD OF 'interleaflaw07.ShelfBytes'. -/
def shelfBytesCard : Claim7 := { stood := { row := shelfBytesRow, standIns := [], harness := (true, "5751a54553f2db305a2a8ac38297c05fe0e102b0106105f10cb5c41ed5625ee0"), looks := false }, kinds := [], alts := [], laidByText := true, laidKinds := [.data, .data, .data], laidTests := true, laidLooks := .later }
def ShelfBytesCardSaid : Prop := Claim7.holds Tryd.pinned (.plain (OpenSpec.ofChange shelfBytesSpec)) shelfBytesCard

/-- THE TIED CARD OF 'interleaflaw07.ShelfFull'. -/
def shelfFullCard : Claim7 := { stood := { row := shelfFullRow, standIns := [], harness := (true, "5751a54553f2db305a2a8ac38297c05fe0e102b0106105f10cb5c41ed5625ee0"), looks := false }, kinds := [], alts := [], laidByText := true, laidKinds := [.data, .data, .data], laidTests := true, laidLooks := .later }
def ShelfFullCardSaid : Prop := Claim7.holds Tryd.pinned (.plain (OpenSpec.ofChange shelfFullSpec)) shelfFullCard

/-- THE TIED CARD OF 'interleaflaw08.LabelRights'. -/
def labelRightsCard : Claim7 := { stood := { row := labelRightsRow, standIns := [], harness := (true, "5751a54553f2db305a2a8ac38297c05fe0e102b0106105f10cb5c41ed5625ee0"), looks := false }, kinds := [], alts := [], laidByText := true, laidKinds := [.data], laidTests := true, laidLooks := .later }
def LabelRightsCardSaid : Prop := Claim7.holds Tryd.pinned (.plain (OpenSpec.ofChange labelRightsSpec)) labelRightsCard

/-- THE TIED CARD OF 'interleaflaw08.LabelForms'. -/
def labelFormsCard : Claim7 := { stood := { row := labelFormsRow, standIns := [], harness := (true, "5751a54553f2db305a2a8ac38297c05fe0e102b0106105f10cb5c41ed5625ee0"), looks := false }, kinds := [], alts := [], laidByText := true, laidKinds := [.data], laidTests := true, laidLooks := .later }
def LabelFormsCardSaid : Prop := Claim7.holds Tryd.pinned (.plain (OpenSpec.ofChange labelFormsSpec)) labelFormsCard

/-- THE TIED CARD OF 'interleaflaw08.LabelNil'. -/
def labelNilCard : Claim7 := { stood := { row := labelNilRow, standIns := [], harness := (true, "5751a54553f2db305a2a8ac38297c05fe0e102b0106105f10cb5c41ed5625ee0"), looks := false }, kinds := [], alts := [], laidByText := true, laidKinds := [.data], laidTests := true, laidLooks := .later }
def LabelNilCardSaid : Prop := Claim7.holds Tryd.pinned (.plain (OpenSpec.ofChange labelNilSpec)) labelNilCard

/-- THE TIED CARD OF 'interleaflaw08.LabelFull'. -/
def labelFullCard : Claim7 := { stood := { row := labelFullRow, standIns := [], harness := (true, "5751a54553f2db305a2a8ac38297c05fe0e102b0106105f10cb5c41ed5625ee0"), looks := false }, kinds := [], alts := [], laidByText := true, laidKinds := [.data], laidTests := true, laidLooks := .later }
def LabelFullCardSaid : Prop := Claim7.holds Tryd.pinned (.plain (OpenSpec.ofChange labelFullSpec)) labelFullCard

/-- THE TIED CARD OF 'interleaflaw08.LabelBytes'. -/
def labelBytesCard : Claim7 := { stood := { row := labelBytesRow, standIns := [], harness := (true, "5751a54553f2db305a2a8ac38297c05fe0e102b0106105f10cb5c41ed5625ee0"), looks := false }, kinds := [], alts := [], laidByText := true, laidKinds := [.data], laidTests := true, laidLooks := .later }
def LabelBytesCardSaid : Prop := Claim7.holds Tryd.pinned (.plain (OpenSpec.ofChange labelBytesSpec)) labelBytesCard

/-- THE TIED CARD OF 'interleaflaw08.LabelPlays'. -/
def labelPlaysCard : Claim7 := { stood := { row := labelPlaysRow, standIns := [], harness := (true, "5751a54553f2db305a2a8ac38297c05fe0e102b0106105f10cb5c41ed5625ee0"), looks := false }, kinds := [], alts := [], laidByText := true, laidKinds := [.data], laidTests := true, laidLooks := .later }
def LabelPlaysCardSaid : Prop := Claim7.holds Tryd.pinned (.plain (OpenSpec.ofChange labelPlaysSpec)) labelPlaysCard

/-- THE TIED CARD OF 'interleaflaw07.ShelfForms'. -/
def shelfFormsCard : Claim7 := { stood := { row := shelfFormsRow, standIns := [], harness := (true, "5751a54553f2db305a2a8ac38297c05fe0e102b0106105f10cb5c41ed5625ee0"), looks := false }, kinds := [], alts := [], laidByText := true, laidKinds := [.data, .data, .data], laidTests := true, laidLooks := .later }
def ShelfFormsCardSaid : Prop := Claim7.holds Tryd.pinned (.plain (OpenSpec.ofChange shelfFormsSpec)) shelfFormsCard

/-- THE TIED CARD OF 'interleaflaw07.ShelfOnce'. -/
def shelfOnceCard : Claim7 := { stood := { row := shelfOnceRow, standIns := [], harness := (true, "5751a54553f2db305a2a8ac38297c05fe0e102b0106105f10cb5c41ed5625ee0"), looks := false }, kinds := [], alts := [], laidByText := true, laidKinds := [.data, .data, .data], laidTests := true, laidLooks := .later }
def ShelfOnceCardSaid : Prop := Claim7.holds Tryd.pinned (.plain (OpenSpec.ofChange shelfOnceSpec)) shelfOnceCard

/-- THE TIED CARD OF 'interleaflaw07.ShelfKeys'. -/
def shelfKeysCard : Claim7 := { stood := { row := shelfKeysRow, standIns := [], harness := (true, "5751a54553f2db305a2a8ac38297c05fe0e102b0106105f10cb5c41ed5625ee0"), looks := false }, kinds := [], alts := [], laidByText := true, laidKinds := [.data, .data, .data], laidTests := true, laidLooks := .later }
def ShelfKeysCardSaid : Prop := Claim7.holds Tryd.pinned (.plain (OpenSpec.ofChange shelfKeysSpec)) shelfKeysCard

/-- THE TIED CARD OF 'interleaflaw07.ShelfSettles'. -/
def shelfSettlesCard : Claim7 := { stood := { row := shelfSettlesRow, standIns := [], harness := (true, "5751a54553f2db305a2a8ac38297c05fe0e102b0106105f10cb5c41ed5625ee0"), looks := false }, kinds := [], alts := [], laidByText := true, laidKinds := [.data, .data, .data], laidTests := true, laidLooks := .later }
def ShelfSettlesCardSaid : Prop := Claim7.holds Tryd.pinned (.plain (OpenSpec.ofChange shelfSettlesSpec)) shelfSettlesCard

/-- THE TIED CARD OF 'interleaflaw07.ShelfNil'. -/
def shelfNilCard : Claim7 := { stood := { row := shelfNilRow, standIns := [], harness := (true, "5751a54553f2db305a2a8ac38297c05fe0e102b0106105f10cb5c41ed5625ee0"), looks := false }, kinds := [], alts := [], laidByText := true, laidKinds := [.data, .data, .data], laidTests := true, laidLooks := .later }
def ShelfNilCardSaid : Prop := Claim7.holds Tryd.pinned (.plain (OpenSpec.ofChange shelfNilSpec)) shelfNilCard

/-- THE SECOND FORM's CARD OF 'interleaflaw07.ShelfBytes'. -/
def shelfBytesUptoCard : Claim7 := { stood := { row := shelfBytesUptoRow, standIns := [], harness := (true, "5751a54553f2db305a2a8ac38297c05fe0e102b0106105f10cb5c41ed5625ee0"), looks := false }, kinds := [], alts := [], laidByText := true, laidKinds := [.data, .data, .data], laidTests := true, laidLooks := .later }
def ShelfBytesUptoCardSaid : Prop := Claim7.holds Tryd.pinned (.plain (OpenSpec.upto shelfBytesSpec)) shelfBytesUptoCard

/-- THE SECOND FORM's CARD OF 'interleaflaw07.ShelfFull'. -/
def shelfFullUptoCard : Claim7 := { stood := { row := shelfFullUptoRow, standIns := [], harness := (true, "5751a54553f2db305a2a8ac38297c05fe0e102b0106105f10cb5c41ed5625ee0"), looks := false }, kinds := [], alts := [], laidByText := true, laidKinds := [.data, .data, .data], laidTests := true, laidLooks := .later }
def ShelfFullUptoCardSaid : Prop := Claim7.holds Tryd.pinned (.plain (OpenSpec.upto shelfFullSpec)) shelfFullUptoCard

/-- THE SECOND FORM's CARD OF 'interleaflaw08.LabelRights'. -/
def labelRightsUptoCard : Claim7 := { stood := { row := labelRightsUptoRow, standIns := [], harness := (true, "5751a54553f2db305a2a8ac38297c05fe0e102b0106105f10cb5c41ed5625ee0"), looks := false }, kinds := [], alts := [], laidByText := true, laidKinds := [.data], laidTests := true, laidLooks := .later }
def LabelRightsUptoCardSaid : Prop := Claim7.holds Tryd.pinned (.plain (OpenSpec.upto labelRightsSpec)) labelRightsUptoCard

/-- THE SECOND FORM's CARD OF 'interleaflaw08.LabelForms'. -/
def labelFormsUptoCard : Claim7 := { stood := { row := labelFormsUptoRow, standIns := [], harness := (true, "5751a54553f2db305a2a8ac38297c05fe0e102b0106105f10cb5c41ed5625ee0"), looks := false }, kinds := [], alts := [], laidByText := true, laidKinds := [.data], laidTests := true, laidLooks := .later }
def LabelFormsUptoCardSaid : Prop := Claim7.holds Tryd.pinned (.plain (OpenSpec.upto labelFormsSpec)) labelFormsUptoCard

/-- THE SECOND FORM's CARD OF 'interleaflaw08.LabelNil'. -/
def labelNilUptoCard : Claim7 := { stood := { row := labelNilUptoRow, standIns := [], harness := (true, "5751a54553f2db305a2a8ac38297c05fe0e102b0106105f10cb5c41ed5625ee0"), looks := false }, kinds := [], alts := [], laidByText := true, laidKinds := [.data], laidTests := true, laidLooks := .later }
def LabelNilUptoCardSaid : Prop := Claim7.holds Tryd.pinned (.plain (OpenSpec.upto labelNilSpec)) labelNilUptoCard

/-- THE SECOND FORM's CARD OF 'interleaflaw08.LabelFull'. -/
def labelFullUptoCard : Claim7 := { stood := { row := labelFullUptoRow, standIns := [], harness := (true, "5751a54553f2db305a2a8ac38297c05fe0e102b0106105f10cb5c41ed5625ee0"), looks := false }, kinds := [], alts := [], laidByText := true, laidKinds := [.data], laidTests := true, laidLooks := .later }
def LabelFullUptoCardSaid : Prop := Claim7.holds Tryd.pinned (.plain (OpenSpec.upto labelFullSpec)) labelFullUptoCard

/-- THE SECOND FORM's CARD OF 'interleaflaw08.LabelBytes'. -/
def labelBytesUptoCard : Claim7 := { stood := { row := labelBytesUptoRow, standIns := [], harness := (true, "5751a54553f2db305a2a8ac38297c05fe0e102b0106105f10cb5c41ed5625ee0"), looks := false }, kinds := [], alts := [], laidByText := true, laidKinds := [.data], laidTests := true, laidLooks := .later }
def LabelBytesUptoCardSaid : Prop := Claim7.holds Tryd.pinned (.plain (OpenSpec.upto labelBytesSpec)) labelBytesUptoCard

/-- THE SECOND FORM's CARD OF 'interleaflaw08.LabelPlays'. -/
def labelPlaysUptoCard : Claim7 := { stood := { row := labelPlaysUptoRow, standIns := [], harness := (true, "5751a54553f2db305a2a8ac38297c05fe0e102b0106105f10cb5c41ed5625ee0"), looks := false }, kinds := [], alts := [], laidByText := true, laidKinds := [.data], laidTests := true, laidLooks := .later }
def LabelPlaysUptoCardSaid : Prop := Claim7.holds Tryd.pinned (.plain (OpenSpec.upto labelPlaysSpec)) labelPlaysUptoCard

/-- THE SECOND FORM's CARD OF 'interleaflaw07.ShelfForms'. -/
def shelfFormsUptoCard : Claim7 := { stood := { row := shelfFormsUptoRow, standIns := [], harness := (true, "5751a54553f2db305a2a8ac38297c05fe0e102b0106105f10cb5c41ed5625ee0"), looks := false }, kinds := [], alts := [], laidByText := true, laidKinds := [.data, .data, .data], laidTests := true, laidLooks := .later }
def ShelfFormsUptoCardSaid : Prop := Claim7.holds Tryd.pinned (.plain (OpenSpec.upto shelfFormsSpec)) shelfFormsUptoCard

/-- THE SECOND FORM's CARD OF 'interleaflaw07.ShelfOnce'. -/
def shelfOnceUptoCard : Claim7 := { stood := { row := shelfOnceUptoRow, standIns := [], harness := (true, "5751a54553f2db305a2a8ac38297c05fe0e102b0106105f10cb5c41ed5625ee0"), looks := false }, kinds := [], alts := [], laidByText := true, laidKinds := [.data, .data, .data], laidTests := true, laidLooks := .later }
def ShelfOnceUptoCardSaid : Prop := Claim7.holds Tryd.pinned (.plain (OpenSpec.upto shelfOnceSpec)) shelfOnceUptoCard

/-- THE SECOND FORM's CARD OF 'interleaflaw07.ShelfKeys'. -/
def shelfKeysUptoCard : Claim7 := { stood := { row := shelfKeysUptoRow, standIns := [], harness := (true, "5751a54553f2db305a2a8ac38297c05fe0e102b0106105f10cb5c41ed5625ee0"), looks := false }, kinds := [], alts := [], laidByText := true, laidKinds := [.data, .data, .data], laidTests := true, laidLooks := .later }
def ShelfKeysUptoCardSaid : Prop := Claim7.holds Tryd.pinned (.plain (OpenSpec.upto shelfKeysSpec)) shelfKeysUptoCard

/-- THE SECOND FORM's CARD OF 'interleaflaw07.ShelfSettles'. -/
def shelfSettlesUptoCard : Claim7 := { stood := { row := shelfSettlesUptoRow, standIns := [], harness := (true, "5751a54553f2db305a2a8ac38297c05fe0e102b0106105f10cb5c41ed5625ee0"), looks := false }, kinds := [], alts := [], laidByText := true, laidKinds := [.data, .data, .data], laidTests := true, laidLooks := .later }
def ShelfSettlesUptoCardSaid : Prop := Claim7.holds Tryd.pinned (.plain (OpenSpec.upto shelfSettlesSpec)) shelfSettlesUptoCard

/-- THE SECOND FORM's CARD OF 'interleaflaw07.ShelfNil'. -/
def shelfNilUptoCard : Claim7 := { stood := { row := shelfNilUptoRow, standIns := [], harness := (true, "5751a54553f2db305a2a8ac38297c05fe0e102b0106105f10cb5c41ed5625ee0"), looks := false }, kinds := [], alts := [], laidByText := true, laidKinds := [.data, .data, .data], laidTests := true, laidLooks := .later }
def ShelfNilUptoCardSaid : Prop := Claim7.holds Tryd.pinned (.plain (OpenSpec.upto shelfNilSpec)) shelfNilUptoCard
end Rows
end Go.Proofs.YtaacejpienbkgaaDoor
