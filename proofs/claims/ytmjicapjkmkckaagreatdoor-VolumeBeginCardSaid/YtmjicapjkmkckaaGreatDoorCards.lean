/-
  DERIVED. GIVEN WITH THE SEED: THE CARDS: each row of YtmjicapjkmkckaaGreatDoorRows.lean that lists a variable, with what it lists TIED to the program's text (the seventh form; the later family's looks); each row that meets fmt, with fmt's text TOLD by the authors' own Lean function (tested against real Go, not proved from fmt's source: count such statements apart). THE CARD IS WHAT COUNTS. Prove the row's statement (the work); the ties are given (YtmjicapjkmkckaaGreatDoorTie.lean); close each card by the builder's one call (the guide's Derived/Test/ToyasCard.lean, 'card_holds'). Laid BY PROGRAM, IN A SANDBOX (cutbox-door.mjs). By AI agents, Wed Nov 11 2026. No macro, syntax, notation, axiom, sorry.
-/
import Derived.Test.YtmjicapjkmkckaaGreatDoorRows
import GoSem.ClaimSeven
namespace Go.Proofs.YtmjicapjkmkckaaGreatDoor
namespace Rows

/-- THE TIED CARD OF 'reelkeeperlaw16.VolumeTells'. -/
def volumeTellsCard : Claim7 := { stood := { row := volumeTellsRow, standIns := [], harness := (true, "56a095355799831a11d7b7655e7421fd0843859b7684e1c233275ba470290df6"), looks := false }, kinds := [], alts := [], laidByText := true, laidKinds := [.data, .data, .data], laidTests := true, laidLooks := .later }
def VolumeTellsCardSaid : Prop := Claim7.holds Tryz.pinned (.plain (OpenSpec.ofChange volumeTellsSpec)) volumeTellsCard

/-- THE TIED CARD OF 'reelkeeperlaw16.VolumeMore'. -/
def volumeMoreCard : Claim7 := { stood := { row := volumeMoreRow, standIns := [], harness := (true, "56a095355799831a11d7b7655e7421fd0843859b7684e1c233275ba470290df6"), looks := false }, kinds := [], alts := [], laidByText := true, laidKinds := [.data, .data, .data], laidTests := true, laidLooks := .later }
def VolumeMoreCardSaid : Prop := Claim7.holds Tryz.pinned (.plain (OpenSpec.ofChange volumeMoreSpec)) volumeMoreCard

/-- THE TIED CARD OF 'reelkeeperlaw16.VolumeBound'. -/
def volumeBoundCard : Claim7 := { stood := { row := volumeBoundRow, standIns := [], harness := (true, "56a095355799831a11d7b7655e7421fd0843859b7684e1c233275ba470290df6"), looks := false }, kinds := [], alts := [], laidByText := true, laidKinds := [.data, .data, .data], laidTests := true, laidLooks := .later }
def VolumeBoundCardSaid : Prop := Claim7.holds Tryz.pinned (.plain (OpenSpec.ofChange volumeBoundSpec)) volumeBoundCard

/-- THE TIED CARD OF 'reelkeeperlaw16.VolumeSmall'. -/
def volumeSmallCard : Claim7 := { stood := { row := volumeSmallRow, standIns := [], harness := (true, "56a095355799831a11d7b7655e7421fd0843859b7684e1c233275ba470290df6"), looks := false }, kinds := [], alts := [], laidByText := true, laidKinds := [.data, .data, .data], laidTests := true, laidLooks := .later }
def VolumeSmallCardSaid : Prop := Claim7.holds Tryz.pinned (.plain (OpenSpec.ofChange volumeSmallSpec)) volumeSmallCard

/-- THE TIED CARD OF 'reelkeeperlaw16.VolumeLast'. -/
def volumeLastCard : Claim7 := { stood := { row := volumeLastRow, standIns := [], harness := (true, "56a095355799831a11d7b7655e7421fd0843859b7684e1c233275ba470290df6"), looks := false }, kinds := [], alts := [], laidByText := true, laidKinds := [.data, .data, .data], laidTests := true, laidLooks := .later }
def VolumeLastCardSaid : Prop := Claim7.holds Tryz.pinned (.plain (OpenSpec.ofChange volumeLastSpec)) volumeLastCard

/-- THE TIED CARD OF 'reelkeeperlaw16.VolumeRoom'. -/
def volumeRoomCard : Claim7 := { stood := { row := volumeRoomRow, standIns := [], harness := (true, "56a095355799831a11d7b7655e7421fd0843859b7684e1c233275ba470290df6"), looks := false }, kinds := [], alts := [], laidByText := true, laidKinds := [.data, .data, .data], laidTests := true, laidLooks := .later }
def VolumeRoomCardSaid : Prop := Claim7.holds Tryz.pinned (.plain (OpenSpec.ofChange volumeRoomSpec)) volumeRoomCard

/-- THE TIED CARD OF 'reelkeeperlaw16.VolumeStream'. -/
def volumeStreamCard : Claim7 := { stood := { row := volumeStreamRow, standIns := [], harness := (true, "56a095355799831a11d7b7655e7421fd0843859b7684e1c233275ba470290df6"), looks := false }, kinds := [], alts := [], laidByText := true, laidKinds := [.data, .data, .data], laidTests := true, laidLooks := .later }
def VolumeStreamCardSaid : Prop := Claim7.holds Tryz.pinned (.plain (OpenSpec.ofChange volumeStreamSpec)) volumeStreamCard

/-- THE TIED CARD OF 'reelkeeperlaw16.VolumeBegin'. -/
def volumeBeginCard : Claim7 := { stood := { row := volumeBeginRow, standIns := [], harness := (true, "56a095355799831a11d7b7655e7421fd0843859b7684e1c233275ba470290df6"), looks := false }, kinds := [], alts := [], laidByText := true, laidKinds := [.data, .data, .data], laidTests := true, laidLooks := .later }
def VolumeBeginCardSaid : Prop := Claim7.holds Tryz.pinned (.plain (OpenSpec.ofChange volumeBeginSpec)) volumeBeginCard

/-- THE SECOND FORM's CARD OF 'reelkeeperlaw16.VolumeTells'. -/
def volumeTellsUptoCard : Claim7 := { stood := { row := volumeTellsUptoRow, standIns := [], harness := (true, "56a095355799831a11d7b7655e7421fd0843859b7684e1c233275ba470290df6"), looks := false }, kinds := [], alts := [], laidByText := true, laidKinds := [.data, .data, .data], laidTests := true, laidLooks := .later }
def VolumeTellsUptoCardSaid : Prop := Claim7.holds Tryz.pinned (.plain (OpenSpec.upto volumeTellsSpec)) volumeTellsUptoCard

/-- THE SECOND FORM's CARD OF 'reelkeeperlaw16.VolumeMore'. -/
def volumeMoreUptoCard : Claim7 := { stood := { row := volumeMoreUptoRow, standIns := [], harness := (true, "56a095355799831a11d7b7655e7421fd0843859b7684e1c233275ba470290df6"), looks := false }, kinds := [], alts := [], laidByText := true, laidKinds := [.data, .data, .data], laidTests := true, laidLooks := .later }
def VolumeMoreUptoCardSaid : Prop := Claim7.holds Tryz.pinned (.plain (OpenSpec.upto volumeMoreSpec)) volumeMoreUptoCard

/-- THE SECOND FORM's CARD OF 'reelkeeperlaw16.VolumeBound'. -/
def volumeBoundUptoCard : Claim7 := { stood := { row := volumeBoundUptoRow, standIns := [], harness := (true, "56a095355799831a11d7b7655e7421fd0843859b7684e1c233275ba470290df6"), looks := false }, kinds := [], alts := [], laidByText := true, laidKinds := [.data, .data, .data], laidTests := true, laidLooks := .later }
def VolumeBoundUptoCardSaid : Prop := Claim7.holds Tryz.pinned (.plain (OpenSpec.upto volumeBoundSpec)) volumeBoundUptoCard

/-- THE SECOND FORM's CARD OF 'reelkeeperlaw16.VolumeSmall'. -/
def volumeSmallUptoCard : Claim7 := { stood := { row := volumeSmallUptoRow, standIns := [], harness := (true, "56a095355799831a11d7b7655e7421fd0843859b7684e1c233275ba470290df6"), looks := false }, kinds := [], alts := [], laidByText := true, laidKinds := [.data, .data, .data], laidTests := true, laidLooks := .later }
def VolumeSmallUptoCardSaid : Prop := Claim7.holds Tryz.pinned (.plain (OpenSpec.upto volumeSmallSpec)) volumeSmallUptoCard

/-- THE SECOND FORM's CARD OF 'reelkeeperlaw16.VolumeLast'. -/
def volumeLastUptoCard : Claim7 := { stood := { row := volumeLastUptoRow, standIns := [], harness := (true, "56a095355799831a11d7b7655e7421fd0843859b7684e1c233275ba470290df6"), looks := false }, kinds := [], alts := [], laidByText := true, laidKinds := [.data, .data, .data], laidTests := true, laidLooks := .later }
def VolumeLastUptoCardSaid : Prop := Claim7.holds Tryz.pinned (.plain (OpenSpec.upto volumeLastSpec)) volumeLastUptoCard

/-- THE SECOND FORM's CARD OF 'reelkeeperlaw16.VolumeRoom'. -/
def volumeRoomUptoCard : Claim7 := { stood := { row := volumeRoomUptoRow, standIns := [], harness := (true, "56a095355799831a11d7b7655e7421fd0843859b7684e1c233275ba470290df6"), looks := false }, kinds := [], alts := [], laidByText := true, laidKinds := [.data, .data, .data], laidTests := true, laidLooks := .later }
def VolumeRoomUptoCardSaid : Prop := Claim7.holds Tryz.pinned (.plain (OpenSpec.upto volumeRoomSpec)) volumeRoomUptoCard

/-- THE SECOND FORM's CARD OF 'reelkeeperlaw16.VolumeStream'. -/
def volumeStreamUptoCard : Claim7 := { stood := { row := volumeStreamUptoRow, standIns := [], harness := (true, "56a095355799831a11d7b7655e7421fd0843859b7684e1c233275ba470290df6"), looks := false }, kinds := [], alts := [], laidByText := true, laidKinds := [.data, .data, .data], laidTests := true, laidLooks := .later }
def VolumeStreamUptoCardSaid : Prop := Claim7.holds Tryz.pinned (.plain (OpenSpec.upto volumeStreamSpec)) volumeStreamUptoCard

/-- THE SECOND FORM's CARD OF 'reelkeeperlaw16.VolumeBegin'. -/
def volumeBeginUptoCard : Claim7 := { stood := { row := volumeBeginUptoRow, standIns := [], harness := (true, "56a095355799831a11d7b7655e7421fd0843859b7684e1c233275ba470290df6"), looks := false }, kinds := [], alts := [], laidByText := true, laidKinds := [.data, .data, .data], laidTests := true, laidLooks := .later }
def VolumeBeginUptoCardSaid : Prop := Claim7.holds Tryz.pinned (.plain (OpenSpec.upto volumeBeginSpec)) volumeBeginUptoCard
end Rows
end Go.Proofs.YtmjicapjkmkckaaGreatDoor
