/-
  DERIVED. GIVEN WITH THE SEED: THE CARDS: each row of YtldhcknjpmbgnaaGreatDoorRows.lean that lists a variable, with what it lists TIED to the program's text (the seventh form; the later family's looks); each row that meets fmt, with fmt's text TOLD by the authors' own Lean function (tested against real Go, not proved from fmt's source: count such statements apart). THE CARD IS WHAT COUNTS. Prove the row's statement (the work); the ties are given (YtldhcknjpmbgnaaGreatDoorTie.lean); close each card by the builder's one call (the guide's Derived/Test/ToyasCard.lean, 'card_holds'). Laid BY PROGRAM, IN A SANDBOX (cutbox-door.mjs). By AI agents, Wed Nov 11 2026. No macro, syntax, notation, axiom, sorry.
-/
import Derived.Test.YtldhcknjpmbgnaaGreatDoorRows
import GoSem.ClaimSeven
namespace Go.Proofs.YtldhcknjpmbgnaaGreatDoor
namespace Rows

/-- THE TIED CARD OF 'reelkeeperlaw18.CheckNext'. -/
def checkNextCard : Claim7 := { stood := { row := checkNextRow, standIns := [], harness := (true, "bd006ede95c609b8d0df1932ed58abdf87155a29a17bcee61b1d5fa77edae6dc"), looks := true }, kinds := [], alts := [], laidByText := true, laidKinds := [.data, .data, .data], laidTests := true, laidLooks := .later }
def CheckNextCardSaid : Prop := Claim7.holds Tryz.pinned (.plain (OpenSpec.ofChange checkNextSpec)) checkNextCard

/-- THE TIED CARD OF 'reelkeeperlaw18.CheckFinds'. -/
def checkFindsCard : Claim7 := { stood := { row := checkFindsRow, standIns := [], harness := (true, "bd006ede95c609b8d0df1932ed58abdf87155a29a17bcee61b1d5fa77edae6dc"), looks := true }, kinds := [], alts := [], laidByText := true, laidKinds := [.data, .data, .data], laidTests := true, laidLooks := .later }
def CheckFindsCardSaid : Prop := Claim7.holds Tryz.pinned (.plain (OpenSpec.ofChange checkFindsSpec)) checkFindsCard

/-- THE TIED CARD OF 'reelkeeperlaw18.CheckCut'. -/
def checkCutCard : Claim7 := { stood := { row := checkCutRow, standIns := [], harness := (true, "bd006ede95c609b8d0df1932ed58abdf87155a29a17bcee61b1d5fa77edae6dc"), looks := true }, kinds := [], alts := [], laidByText := true, laidKinds := [.data, .data, .data], laidTests := true, laidLooks := .later }
def CheckCutCardSaid : Prop := Claim7.holds Tryz.pinned (.plain (OpenSpec.ofChange checkCutSpec)) checkCutCard

/-- THE TIED CARD OF 'reelkeeperlaw17.StripFew'. -/
def stripFewCard : Claim7 := { stood := { row := stripFewRow, standIns := [], harness := (true, "bd006ede95c609b8d0df1932ed58abdf87155a29a17bcee61b1d5fa77edae6dc"), looks := true }, kinds := [], alts := [], laidByText := true, laidKinds := [.data, .data, .data], laidTests := true, laidLooks := .later }
def StripFewCardSaid : Prop := Claim7.holds Tryz.pinned (.plain (OpenSpec.ofChange stripFewSpec)) stripFewCard

/-- THE TIED CARD OF 'reelkeeperlaw17.StripOther'. -/
def stripOtherCard : Claim7 := { stood := { row := stripOtherRow, standIns := [], harness := (true, "bd006ede95c609b8d0df1932ed58abdf87155a29a17bcee61b1d5fa77edae6dc"), looks := true }, kinds := [], alts := [], laidByText := true, laidKinds := [.data, .data, .data], laidTests := true, laidLooks := .later }
def StripOtherCardSaid : Prop := Claim7.holds Tryz.pinned (.plain (OpenSpec.ofChange stripOtherSpec)) stripOtherCard

/-- THE TIED CARD OF 'reelkeeperlaw17.StripSpoilt'. -/
def stripSpoiltCard : Claim7 := { stood := { row := stripSpoiltRow, standIns := [], harness := (true, "bd006ede95c609b8d0df1932ed58abdf87155a29a17bcee61b1d5fa77edae6dc"), looks := true }, kinds := [], alts := [], laidByText := true, laidKinds := [.data, .data, .data], laidTests := true, laidLooks := .later }
def StripSpoiltCardSaid : Prop := Claim7.holds Tryz.pinned (.plain (OpenSpec.ofChange stripSpoiltSpec)) stripSpoiltCard

/-- THE TIED CARD OF 'reelkeeperlaw17.StripLeft'. -/
def stripLeftCard : Claim7 := { stood := { row := stripLeftRow, standIns := [], harness := (true, "bd006ede95c609b8d0df1932ed58abdf87155a29a17bcee61b1d5fa77edae6dc"), looks := true }, kinds := [], alts := [], laidByText := true, laidKinds := [.data, .data, .data], laidTests := true, laidLooks := .later }
def StripLeftCardSaid : Prop := Claim7.holds Tryz.pinned (.plain (OpenSpec.ofChange stripLeftSpec)) stripLeftCard

/-- THE TIED CARD OF 'reelkeeperlaw17.StripBack'. -/
def stripBackCard : Claim7 := { stood := { row := stripBackRow, standIns := [], harness := (true, "bd006ede95c609b8d0df1932ed58abdf87155a29a17bcee61b1d5fa77edae6dc"), looks := true }, kinds := [], alts := [], laidByText := true, laidKinds := [.data, .data, .data], laidTests := true, laidLooks := .later }
def StripBackCardSaid : Prop := Claim7.holds Tryz.pinned (.plain (OpenSpec.ofChange stripBackSpec)) stripBackCard

/-- THE SECOND FORM's CARD OF 'reelkeeperlaw18.CheckNext'. -/
def checkNextUptoCard : Claim7 := { stood := { row := checkNextUptoRow, standIns := [], harness := (true, "bd006ede95c609b8d0df1932ed58abdf87155a29a17bcee61b1d5fa77edae6dc"), looks := true }, kinds := [], alts := [], laidByText := true, laidKinds := [.data, .data, .data], laidTests := true, laidLooks := .later }
def CheckNextUptoCardSaid : Prop := Claim7.holds Tryz.pinned (.plain (OpenSpec.upto checkNextSpec)) checkNextUptoCard

/-- THE SECOND FORM's CARD OF 'reelkeeperlaw18.CheckFinds'. -/
def checkFindsUptoCard : Claim7 := { stood := { row := checkFindsUptoRow, standIns := [], harness := (true, "bd006ede95c609b8d0df1932ed58abdf87155a29a17bcee61b1d5fa77edae6dc"), looks := true }, kinds := [], alts := [], laidByText := true, laidKinds := [.data, .data, .data], laidTests := true, laidLooks := .later }
def CheckFindsUptoCardSaid : Prop := Claim7.holds Tryz.pinned (.plain (OpenSpec.upto checkFindsSpec)) checkFindsUptoCard

/-- THE SECOND FORM's CARD OF 'reelkeeperlaw18.CheckCut'. -/
def checkCutUptoCard : Claim7 := { stood := { row := checkCutUptoRow, standIns := [], harness := (true, "bd006ede95c609b8d0df1932ed58abdf87155a29a17bcee61b1d5fa77edae6dc"), looks := true }, kinds := [], alts := [], laidByText := true, laidKinds := [.data, .data, .data], laidTests := true, laidLooks := .later }
def CheckCutUptoCardSaid : Prop := Claim7.holds Tryz.pinned (.plain (OpenSpec.upto checkCutSpec)) checkCutUptoCard

/-- THE SECOND FORM's CARD OF 'reelkeeperlaw17.StripFew'. -/
def stripFewUptoCard : Claim7 := { stood := { row := stripFewUptoRow, standIns := [], harness := (true, "bd006ede95c609b8d0df1932ed58abdf87155a29a17bcee61b1d5fa77edae6dc"), looks := true }, kinds := [], alts := [], laidByText := true, laidKinds := [.data, .data, .data], laidTests := true, laidLooks := .later }
def StripFewUptoCardSaid : Prop := Claim7.holds Tryz.pinned (.plain (OpenSpec.upto stripFewSpec)) stripFewUptoCard

/-- THE SECOND FORM's CARD OF 'reelkeeperlaw17.StripOther'. -/
def stripOtherUptoCard : Claim7 := { stood := { row := stripOtherUptoRow, standIns := [], harness := (true, "bd006ede95c609b8d0df1932ed58abdf87155a29a17bcee61b1d5fa77edae6dc"), looks := true }, kinds := [], alts := [], laidByText := true, laidKinds := [.data, .data, .data], laidTests := true, laidLooks := .later }
def StripOtherUptoCardSaid : Prop := Claim7.holds Tryz.pinned (.plain (OpenSpec.upto stripOtherSpec)) stripOtherUptoCard

/-- THE SECOND FORM's CARD OF 'reelkeeperlaw17.StripSpoilt'. -/
def stripSpoiltUptoCard : Claim7 := { stood := { row := stripSpoiltUptoRow, standIns := [], harness := (true, "bd006ede95c609b8d0df1932ed58abdf87155a29a17bcee61b1d5fa77edae6dc"), looks := true }, kinds := [], alts := [], laidByText := true, laidKinds := [.data, .data, .data], laidTests := true, laidLooks := .later }
def StripSpoiltUptoCardSaid : Prop := Claim7.holds Tryz.pinned (.plain (OpenSpec.upto stripSpoiltSpec)) stripSpoiltUptoCard

/-- THE SECOND FORM's CARD OF 'reelkeeperlaw17.StripLeft'. -/
def stripLeftUptoCard : Claim7 := { stood := { row := stripLeftUptoRow, standIns := [], harness := (true, "bd006ede95c609b8d0df1932ed58abdf87155a29a17bcee61b1d5fa77edae6dc"), looks := true }, kinds := [], alts := [], laidByText := true, laidKinds := [.data, .data, .data], laidTests := true, laidLooks := .later }
def StripLeftUptoCardSaid : Prop := Claim7.holds Tryz.pinned (.plain (OpenSpec.upto stripLeftSpec)) stripLeftUptoCard

/-- THE SECOND FORM's CARD OF 'reelkeeperlaw17.StripBack'. -/
def stripBackUptoCard : Claim7 := { stood := { row := stripBackUptoRow, standIns := [], harness := (true, "bd006ede95c609b8d0df1932ed58abdf87155a29a17bcee61b1d5fa77edae6dc"), looks := true }, kinds := [], alts := [], laidByText := true, laidKinds := [.data, .data, .data], laidTests := true, laidLooks := .later }
def StripBackUptoCardSaid : Prop := Claim7.holds Tryz.pinned (.plain (OpenSpec.upto stripBackSpec)) stripBackUptoCard
end Rows
end Go.Proofs.YtldhcknjpmbgnaaGreatDoor
