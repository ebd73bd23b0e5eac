/-
  DERIVED. GIVEN WITH THE SEED: THE CARDS: each row of YtejalhoaljlnhaaDoorRows.lean that lists a variable, with what it lists TIED to the program's text (the seventh form; the later family's looks); each row that meets fmt, with fmt's text TOLD by the authors' own Lean function (tested against real Go, not proved from fmt's source: count such statements apart). THE CARD IS WHAT COUNTS. Prove the row's statement (the work); the ties are given (YtejalhoaljlnhaaDoorTie.lean); close each card by the builder's one call (the guide's Derived/Test/ToyasCard.lean, 'card_holds'). Laid BY PROGRAM, IN A SANDBOX (cutbox-door.mjs). By AI agents, Wed Nov 11 2026. No macro, syntax, notation, axiom, sorry.
-/
import Derived.Test.YtejalhoaljlnhaaDoorRows
import GoSem.ClaimSeven
namespace Go.Proofs.YtejalhoaljlnhaaDoor
namespace Rows

/-- THE TIED CARD OF 'reelkeeperlaw14.LabelTells'. -/
def labelTellsCard : Claim7 := { stood := { row := labelTellsRow, standIns := [], harness := (true, "28fb402e71f2e3ebbd79a0269b74cf7f9e8bd54c574dff87d7cd6080db44c07d"), looks := false }, kinds := [], alts := [], laidByText := true, laidKinds := [.data, .data, .data], laidTests := true, laidLooks := .later }
def LabelTellsCardSaid : Prop := Claim7.holds Tryd.pinned (.plain (OpenSpec.ofChange labelTellsSpec)) labelTellsCard

/-- THE TIED CARD OF 'reelkeeperlaw14.LabelBack'. -/
def labelBackCard : Claim7 := { stood := { row := labelBackRow, standIns := [], harness := (true, "28fb402e71f2e3ebbd79a0269b74cf7f9e8bd54c574dff87d7cd6080db44c07d"), looks := false }, kinds := [], alts := [], laidByText := true, laidKinds := [.data, .data, .data], laidTests := true, laidLooks := .later }
def LabelBackCardSaid : Prop := Claim7.holds Tryd.pinned (.plain (OpenSpec.ofChange labelBackSpec)) labelBackCard

/-- THE TIED CARD OF 'reelkeeperlaw14.LabelApart'. -/
def labelApartCard : Claim7 := { stood := { row := labelApartRow, standIns := [], harness := (true, "28fb402e71f2e3ebbd79a0269b74cf7f9e8bd54c574dff87d7cd6080db44c07d"), looks := false }, kinds := [], alts := [], laidByText := true, laidKinds := [.data, .data, .data], laidTests := true, laidLooks := .later }
def LabelApartCardSaid : Prop := Claim7.holds Tryd.pinned (.plain (OpenSpec.ofChange labelApartSpec)) labelApartCard

/-- THE TIED CARD OF 'reelkeeperlaw14.LabelOther'. -/
def labelOtherCard : Claim7 := { stood := { row := labelOtherRow, standIns := [], harness := (true, "28fb402e71f2e3ebbd79a0269b74cf7f9e8bd54c574dff87d7cd6080db44c07d"), looks := false }, kinds := [], alts := [], laidByText := true, laidKinds := [.data, .data, .data], laidTests := true, laidLooks := .later }
def LabelOtherCardSaid : Prop := Claim7.holds Tryd.pinned (.plain (OpenSpec.ofChange labelOtherSpec)) labelOtherCard

/-- THE TIED CARD OF 'reelkeeperlaw14.LabelName'. -/
def labelNameCard : Claim7 := { stood := { row := labelNameRow, standIns := [], harness := (true, "28fb402e71f2e3ebbd79a0269b74cf7f9e8bd54c574dff87d7cd6080db44c07d"), looks := false }, kinds := [], alts := [], laidByText := true, laidKinds := [.data, .data, .data], laidTests := true, laidLooks := .later }
def LabelNameCardSaid : Prop := Claim7.holds Tryd.pinned (.plain (OpenSpec.ofChange labelNameSpec)) labelNameCard

/-- THE TIED CARD OF 'reelkeeperlaw14.LabelLong'. -/
def labelLongCard : Claim7 := { stood := { row := labelLongRow, standIns := [], harness := (true, "28fb402e71f2e3ebbd79a0269b74cf7f9e8bd54c574dff87d7cd6080db44c07d"), looks := false }, kinds := [], alts := [], laidByText := true, laidKinds := [.data, .data, .data], laidTests := true, laidLooks := .later }
def LabelLongCardSaid : Prop := Claim7.holds Tryd.pinned (.plain (OpenSpec.ofChange labelLongSpec)) labelLongCard

/-- THE SECOND FORM's CARD OF 'reelkeeperlaw14.LabelTells'. -/
def labelTellsUptoCard : Claim7 := { stood := { row := labelTellsUptoRow, standIns := [], harness := (true, "28fb402e71f2e3ebbd79a0269b74cf7f9e8bd54c574dff87d7cd6080db44c07d"), looks := false }, kinds := [], alts := [], laidByText := true, laidKinds := [.data, .data, .data], laidTests := true, laidLooks := .later }
def LabelTellsUptoCardSaid : Prop := Claim7.holds Tryd.pinned (.plain (OpenSpec.upto labelTellsSpec)) labelTellsUptoCard

/-- THE SECOND FORM's CARD OF 'reelkeeperlaw14.LabelBack'. -/
def labelBackUptoCard : Claim7 := { stood := { row := labelBackUptoRow, standIns := [], harness := (true, "28fb402e71f2e3ebbd79a0269b74cf7f9e8bd54c574dff87d7cd6080db44c07d"), looks := false }, kinds := [], alts := [], laidByText := true, laidKinds := [.data, .data, .data], laidTests := true, laidLooks := .later }
def LabelBackUptoCardSaid : Prop := Claim7.holds Tryd.pinned (.plain (OpenSpec.upto labelBackSpec)) labelBackUptoCard

/-- THE SECOND FORM's CARD OF 'reelkeeperlaw14.LabelApart'. -/
def labelApartUptoCard : Claim7 := { stood := { row := labelApartUptoRow, standIns := [], harness := (true, "28fb402e71f2e3ebbd79a0269b74cf7f9e8bd54c574dff87d7cd6080db44c07d"), looks := false }, kinds := [], alts := [], laidByText := true, laidKinds := [.data, .data, .data], laidTests := true, laidLooks := .later }
def LabelApartUptoCardSaid : Prop := Claim7.holds Tryd.pinned (.plain (OpenSpec.upto labelApartSpec)) labelApartUptoCard

/-- THE SECOND FORM's CARD OF 'reelkeeperlaw14.LabelOther'. -/
def labelOtherUptoCard : Claim7 := { stood := { row := labelOtherUptoRow, standIns := [], harness := (true, "28fb402e71f2e3ebbd79a0269b74cf7f9e8bd54c574dff87d7cd6080db44c07d"), looks := false }, kinds := [], alts := [], laidByText := true, laidKinds := [.data, .data, .data], laidTests := true, laidLooks := .later }
def LabelOtherUptoCardSaid : Prop := Claim7.holds Tryd.pinned (.plain (OpenSpec.upto labelOtherSpec)) labelOtherUptoCard

/-- THE SECOND FORM's CARD OF 'reelkeeperlaw14.LabelName'. -/
def labelNameUptoCard : Claim7 := { stood := { row := labelNameUptoRow, standIns := [], harness := (true, "28fb402e71f2e3ebbd79a0269b74cf7f9e8bd54c574dff87d7cd6080db44c07d"), looks := false }, kinds := [], alts := [], laidByText := true, laidKinds := [.data, .data, .data], laidTests := true, laidLooks := .later }
def LabelNameUptoCardSaid : Prop := Claim7.holds Tryd.pinned (.plain (OpenSpec.upto labelNameSpec)) labelNameUptoCard

/-- THE SECOND FORM's CARD OF 'reelkeeperlaw14.LabelLong'. -/
def labelLongUptoCard : Claim7 := { stood := { row := labelLongUptoRow, standIns := [], harness := (true, "28fb402e71f2e3ebbd79a0269b74cf7f9e8bd54c574dff87d7cd6080db44c07d"), looks := false }, kinds := [], alts := [], laidByText := true, laidKinds := [.data, .data, .data], laidTests := true, laidLooks := .later }
def LabelLongUptoCardSaid : Prop := Claim7.holds Tryd.pinned (.plain (OpenSpec.upto labelLongSpec)) labelLongUptoCard
end Rows
end Go.Proofs.YtejalhoaljlnhaaDoor
