/-
  No cell of these rows narrows 'for every input' (looked for: loops, veiled, ifaces, maps, wideKeys, modest, calm, conditions, laid).
  DERIVED. THE GIVEN ROWS OF THIS SEAT. 14 by the template 'for every input the law returns true; each argument reads behind the call as it read before'; 0 by the template 'total and deterministic' (their statements: YtejalhoaljlnhaaTotals.lean).
  GIVEN WITH THE SEED: the statements are not yours to turn. If you find one false, say at which input.
  Laid BY PROGRAM, IN A SANDBOX (cutbox-rows.mjs): the forced cells as the released guide's own fill.sh prints them over the translation 0c35c79e79a84cc8… (all of the seat's roots in one cut). By AI agents, Wed Nov 11 2026. No macro, syntax, notation, axiom, sorry.
-/
import Derived.Test.YtejalhoaljlnhaaChecked
import GoSem.Claim
import GoSem.ClaimJoined
import GoSem.ClaimMapViews
import Derived.JoinedTies
import Derived.KernelRfl
namespace Go.Proofs.Ytejalhoaljlnhaa
/- THE CELL 'sum', in the pinned program and in every row, IS THE sha256 OF THE DUMP (.gsa) THAT YtejalhoaljlnhaaProg.lean LOADS. Nothing in Lean hashes anything: it is a label: what it is worth is what the hold of that sum in a sandbox is worth. -/
noncomputable def Try.pinned : Pinned := { name := "ytejalhoaljlnhaa", sum := "0c35c79e79a84cc81cbf00655732aec4178d0aea162f733127117f4ddbf46b52", checked := Try.checked }
namespace Rows
def none {H : Type} : Left H := { results := [], args := [] }

/-- 'reelkeeperlaw01.NumTells': WHATEVER THE INPUT: true; the input reads as it did. -/
def numTellsSpec : ChangeSpec := { name := "numTells", fn := fun _ => fun
  | [d1, d2, d3] => { results := [.lit (.bool true)], args := [d1, d2, d3] }
  | _ => none }
def numTellsRow : OpenClaim := { program := "ytejalhoaljlnhaa", sum := "0c35c79e79a84cc81cbf00655732aec4178d0aea162f733127117f4ddbf46b52", func := "reelkeeper/reelkeeperlaw01.NumTells", spec := "numTells", unfollowed := true, recurses := true, apart := false }
def NumTellsSaid : Prop := numTellsRow.holds Try.pinned (OpenSpec.ofChange numTellsSpec)

/-- ITS FALSE NEIGHBOUR: 'it returns false'. Refute it at one input. -/
def numTellsWrong : ChangeSpec := { name := "numTells", fn := fun _ => fun
  | [d1, d2, d3] => { results := [.lit (.bool false)], args := [d1, d2, d3] }
  | _ => none }
def NumTellsWrongFalsely : Prop := numTellsRow.holds Try.pinned (OpenSpec.ofChange numTellsWrong)

/-- 'reelkeeperlaw01.NumBack': WHATEVER THE INPUT: true; the input reads as it did. -/
def numBackSpec : ChangeSpec := { name := "numBack", fn := fun _ => fun
  | [d1, d2, d3, d4] => { results := [.lit (.bool true)], args := [d1, d2, d3, d4] }
  | _ => none }
def numBackRow : OpenClaim := { program := "ytejalhoaljlnhaa", sum := "0c35c79e79a84cc81cbf00655732aec4178d0aea162f733127117f4ddbf46b52", func := "reelkeeper/reelkeeperlaw01.NumBack", spec := "numBack", unfollowed := true, recurses := true, apart := false }
def NumBackSaid : Prop := numBackRow.holds Try.pinned (OpenSpec.ofChange numBackSpec)

/-- ITS FALSE NEIGHBOUR: 'it returns false'. Refute it at one input. -/
def numBackWrong : ChangeSpec := { name := "numBack", fn := fun _ => fun
  | [d1, d2, d3, d4] => { results := [.lit (.bool false)], args := [d1, d2, d3, d4] }
  | _ => none }
def NumBackWrongFalsely : Prop := numBackRow.holds Try.pinned (OpenSpec.ofChange numBackWrong)

/-- 'reelkeeperlaw01.NumWide': WHATEVER THE INPUT: true; the input reads as it did. -/
def numWideSpec : ChangeSpec := { name := "numWide", fn := fun _ => fun
  | [d1, d2] => { results := [.lit (.bool true)], args := [d1, d2] }
  | _ => none }
def numWideRow : OpenClaim := { program := "ytejalhoaljlnhaa", sum := "0c35c79e79a84cc81cbf00655732aec4178d0aea162f733127117f4ddbf46b52", func := "reelkeeper/reelkeeperlaw01.NumWide", spec := "numWide", unfollowed := true, recurses := true, apart := false }
def NumWideSaid : Prop := numWideRow.holds Try.pinned (OpenSpec.ofChange numWideSpec)

/-- ITS FALSE NEIGHBOUR: 'it returns false'. Refute it at one input. -/
def numWideWrong : ChangeSpec := { name := "numWide", fn := fun _ => fun
  | [d1, d2] => { results := [.lit (.bool false)], args := [d1, d2] }
  | _ => none }
def NumWideWrongFalsely : Prop := numWideRow.holds Try.pinned (OpenSpec.ofChange numWideWrong)

/-- 'reelkeeperlaw01.NumDigits': WHATEVER THE INPUT: true; the input reads as it did. -/
def numDigitsSpec : ChangeSpec := { name := "numDigits", fn := fun _ => fun
  | [d1, d2] => { results := [.lit (.bool true)], args := [d1, d2] }
  | _ => none }
def numDigitsRow : OpenClaim := { program := "ytejalhoaljlnhaa", sum := "0c35c79e79a84cc81cbf00655732aec4178d0aea162f733127117f4ddbf46b52", func := "reelkeeper/reelkeeperlaw01.NumDigits", spec := "numDigits", unfollowed := true, recurses := true, apart := false }
def NumDigitsSaid : Prop := numDigitsRow.holds Try.pinned (OpenSpec.ofChange numDigitsSpec)

/-- ITS FALSE NEIGHBOUR: 'it returns false'. Refute it at one input. -/
def numDigitsWrong : ChangeSpec := { name := "numDigits", fn := fun _ => fun
  | [d1, d2] => { results := [.lit (.bool false)], args := [d1, d2] }
  | _ => none }
def NumDigitsWrongFalsely : Prop := numDigitsRow.holds Try.pinned (OpenSpec.ofChange numDigitsWrong)

/-- 'reelkeeperlaw01.NumShort': WHATEVER THE INPUT: true; the input reads as it did. -/
def numShortSpec : ChangeSpec := { name := "numShort", fn := fun _ => fun
  | [d1, d2, d3, d4] => { results := [.lit (.bool true)], args := [d1, d2, d3, d4] }
  | _ => none }
def numShortRow : OpenClaim := { program := "ytejalhoaljlnhaa", sum := "0c35c79e79a84cc81cbf00655732aec4178d0aea162f733127117f4ddbf46b52", func := "reelkeeper/reelkeeperlaw01.NumShort", spec := "numShort", unfollowed := true, recurses := true, apart := false }
def NumShortSaid : Prop := numShortRow.holds Try.pinned (OpenSpec.ofChange numShortSpec)

/-- ITS FALSE NEIGHBOUR: 'it returns false'. Refute it at one input. -/
def numShortWrong : ChangeSpec := { name := "numShort", fn := fun _ => fun
  | [d1, d2, d3, d4] => { results := [.lit (.bool false)], args := [d1, d2, d3, d4] }
  | _ => none }
def NumShortWrongFalsely : Prop := numShortRow.holds Try.pinned (OpenSpec.ofChange numShortWrong)

/-- 'reelkeeperlaw01.NumOrder': WHATEVER THE INPUT: true; the input reads as it did. -/
def numOrderSpec : ChangeSpec := { name := "numOrder", fn := fun _ => fun
  | [d1, d2, d3] => { results := [.lit (.bool true)], args := [d1, d2, d3] }
  | _ => none }
def numOrderRow : OpenClaim := { program := "ytejalhoaljlnhaa", sum := "0c35c79e79a84cc81cbf00655732aec4178d0aea162f733127117f4ddbf46b52", func := "reelkeeper/reelkeeperlaw01.NumOrder", spec := "numOrder", unfollowed := true, recurses := true, apart := false }
def NumOrderSaid : Prop := numOrderRow.holds Try.pinned (OpenSpec.ofChange numOrderSpec)

/-- ITS FALSE NEIGHBOUR: 'it returns false'. Refute it at one input. -/
def numOrderWrong : ChangeSpec := { name := "numOrder", fn := fun _ => fun
  | [d1, d2, d3] => { results := [.lit (.bool false)], args := [d1, d2, d3] }
  | _ => none }
def NumOrderWrongFalsely : Prop := numOrderRow.holds Try.pinned (OpenSpec.ofChange numOrderWrong)

/-- 'reelkeeperlaw01.NumMarks': WHATEVER THE INPUT: true; the input reads as it did. -/
def numMarksSpec : ChangeSpec := { name := "numMarks", fn := fun _ => fun
  | [d1, d2] => { results := [.lit (.bool true)], args := [d1, d2] }
  | _ => none }
def numMarksRow : OpenClaim := { program := "ytejalhoaljlnhaa", sum := "0c35c79e79a84cc81cbf00655732aec4178d0aea162f733127117f4ddbf46b52", func := "reelkeeper/reelkeeperlaw01.NumMarks", spec := "numMarks", unfollowed := true, recurses := true, apart := false }
def NumMarksSaid : Prop := numMarksRow.holds Try.pinned (OpenSpec.ofChange numMarksSpec)

/-- ITS FALSE NEIGHBOUR: 'it returns false'. Refute it at one input. -/
def numMarksWrong : ChangeSpec := { name := "numMarks", fn := fun _ => fun
  | [d1, d2] => { results := [.lit (.bool false)], args := [d1, d2] }
  | _ => none }
def NumMarksWrongFalsely : Prop := numMarksRow.holds Try.pinned (OpenSpec.ofChange numMarksWrong)

/-- 'reelkeeperlaw04.HeadTells': WHATEVER THE INPUT: true; the input reads as it did. -/
def headTellsSpec : ChangeSpec := { name := "headTells", fn := fun _ => fun
  | [d1, d2] => { results := [.lit (.bool true)], args := [d1, d2] }
  | _ => none }
def headTellsRow : OpenClaim := { program := "ytejalhoaljlnhaa", sum := "0c35c79e79a84cc81cbf00655732aec4178d0aea162f733127117f4ddbf46b52", func := "reelkeeper/reelkeeperlaw04.HeadTells", spec := "headTells", inPlace := ["internal/bytealg.IndexByteString", "internal/bytealg.IndexByte", "internal/bytealg.Index"], unfollowed := true, recurses := true, named := ["internal/bytealg.MaxLen"], apart := false }
def HeadTellsSaid : Prop := headTellsRow.holds Try.pinned (OpenSpec.ofChange headTellsSpec)

/-- ITS FALSE NEIGHBOUR: 'it returns false'. Refute it at one input. -/
def headTellsWrong : ChangeSpec := { name := "headTells", fn := fun _ => fun
  | [d1, d2] => { results := [.lit (.bool false)], args := [d1, d2] }
  | _ => none }
def HeadTellsWrongFalsely : Prop := headTellsRow.holds Try.pinned (OpenSpec.ofChange headTellsWrong)

/-- 'reelkeeperlaw04.HeadBack': WHATEVER THE INPUT: true; the input reads as it did. -/
def headBackSpec : ChangeSpec := { name := "headBack", fn := fun _ => fun
  | [d1, d2, d3] => { results := [.lit (.bool true)], args := [d1, d2, d3] }
  | _ => none }
def headBackRow : OpenClaim := { program := "ytejalhoaljlnhaa", sum := "0c35c79e79a84cc81cbf00655732aec4178d0aea162f733127117f4ddbf46b52", func := "reelkeeper/reelkeeperlaw04.HeadBack", spec := "headBack", inPlace := ["internal/bytealg.IndexByteString", "internal/bytealg.IndexByte", "internal/bytealg.Index"], unfollowed := true, recurses := true, named := ["internal/bytealg.MaxLen"], apart := false }
def HeadBackSaid : Prop := headBackRow.holds Try.pinned (OpenSpec.ofChange headBackSpec)

/-- ITS FALSE NEIGHBOUR: 'it returns false'. Refute it at one input. -/
def headBackWrong : ChangeSpec := { name := "headBack", fn := fun _ => fun
  | [d1, d2, d3] => { results := [.lit (.bool false)], args := [d1, d2, d3] }
  | _ => none }
def HeadBackWrongFalsely : Prop := headBackRow.holds Try.pinned (OpenSpec.ofChange headBackWrong)

/-- 'reelkeeperlaw04.HeadSpoilt': WHATEVER THE INPUT: true; the input reads as it did. -/
def headSpoiltSpec : ChangeSpec := { name := "headSpoilt", fn := fun _ => fun
  | [d1, d2, d3] => { results := [.lit (.bool true)], args := [d1, d2, d3] }
  | _ => none }
def headSpoiltRow : OpenClaim := { program := "ytejalhoaljlnhaa", sum := "0c35c79e79a84cc81cbf00655732aec4178d0aea162f733127117f4ddbf46b52", func := "reelkeeper/reelkeeperlaw04.HeadSpoilt", spec := "headSpoilt", inPlace := ["internal/bytealg.IndexByteString", "internal/bytealg.IndexByte", "internal/bytealg.Index"], unfollowed := true, recurses := true, named := ["internal/bytealg.MaxLen"], apart := false }
def HeadSpoiltSaid : Prop := headSpoiltRow.holds Try.pinned (OpenSpec.ofChange headSpoiltSpec)

/-- ITS FALSE NEIGHBOUR: 'it returns false'. Refute it at one input. -/
def headSpoiltWrong : ChangeSpec := { name := "headSpoilt", fn := fun _ => fun
  | [d1, d2, d3] => { results := [.lit (.bool false)], args := [d1, d2, d3] }
  | _ => none }
def HeadSpoiltWrongFalsely : Prop := headSpoiltRow.holds Try.pinned (OpenSpec.ofChange headSpoiltWrong)

/-- 'reelkeeperlaw04.HeadSum': WHATEVER THE INPUT: true; the input reads as it did. -/
def headSumSpec : ChangeSpec := { name := "headSum", fn := fun _ => fun
  | [d1, d2] => { results := [.lit (.bool true)], args := [d1, d2] }
  | _ => none }
def headSumRow : OpenClaim := { program := "ytejalhoaljlnhaa", sum := "0c35c79e79a84cc81cbf00655732aec4178d0aea162f733127117f4ddbf46b52", func := "reelkeeper/reelkeeperlaw04.HeadSum", spec := "headSum", inPlace := ["internal/bytealg.IndexByteString", "internal/bytealg.IndexByte", "internal/bytealg.Index"], unfollowed := true, recurses := true, named := ["internal/bytealg.MaxLen"], apart := false }
def HeadSumSaid : Prop := headSumRow.holds Try.pinned (OpenSpec.ofChange headSumSpec)

/-- ITS FALSE NEIGHBOUR: 'it returns false'. Refute it at one input. -/
def headSumWrong : ChangeSpec := { name := "headSum", fn := fun _ => fun
  | [d1, d2] => { results := [.lit (.bool false)], args := [d1, d2] }
  | _ => none }
def HeadSumWrongFalsely : Prop := headSumRow.holds Try.pinned (OpenSpec.ofChange headSumWrong)

/-- 'reelkeeperlaw04.HeadErrors': WHATEVER THE INPUT: true; the input reads as it did. -/
def headErrorsSpec : ChangeSpec := { name := "headErrors", fn := fun _ => fun
  | [d] => { results := [.lit (.bool true)], args := [d] }
  | _ => none }
def headErrorsRow : OpenClaim := { program := "ytejalhoaljlnhaa", sum := "0c35c79e79a84cc81cbf00655732aec4178d0aea162f733127117f4ddbf46b52", func := "reelkeeper/reelkeeperlaw04.HeadErrors", spec := "headErrors", inPlace := ["internal/bytealg.IndexByteString", "internal/bytealg.IndexByte", "internal/bytealg.Index"], unfollowed := true, recurses := true, named := ["internal/bytealg.MaxLen"], apart := false }
def HeadErrorsSaid : Prop := headErrorsRow.holds Try.pinned (OpenSpec.ofChange headErrorsSpec)

/-- ITS FALSE NEIGHBOUR: 'it returns false'. Refute it at one input. -/
def headErrorsWrong : ChangeSpec := { name := "headErrors", fn := fun _ => fun
  | [d] => { results := [.lit (.bool false)], args := [d] }
  | _ => none }
def HeadErrorsWrongFalsely : Prop := headErrorsRow.holds Try.pinned (OpenSpec.ofChange headErrorsWrong)

/-- 'reelkeeperlaw04.HeadPlaces': WHATEVER THE INPUT: true; the input reads as it did. -/
def headPlacesSpec : ChangeSpec := { name := "headPlaces", fn := fun _ => fun
  | [d] => { results := [.lit (.bool true)], args := [d] }
  | _ => none }
def headPlacesRow : OpenClaim := { program := "ytejalhoaljlnhaa", sum := "0c35c79e79a84cc81cbf00655732aec4178d0aea162f733127117f4ddbf46b52", func := "reelkeeper/reelkeeperlaw04.HeadPlaces", spec := "headPlaces", inPlace := ["internal/bytealg.IndexByteString", "internal/bytealg.IndexByte", "internal/bytealg.Index"], unfollowed := true, recurses := true, named := ["internal/bytealg.MaxLen"], apart := false }
def HeadPlacesSaid : Prop := headPlacesRow.holds Try.pinned (OpenSpec.ofChange headPlacesSpec)

/-- ITS FALSE NEIGHBOUR: 'it returns false'. Refute it at one input. -/
def headPlacesWrong : ChangeSpec := { name := "headPlaces", fn := fun _ => fun
  | [d] => { results := [.lit (.bool false)], args := [d] }
  | _ => none }
def HeadPlacesWrongFalsely : Prop := headPlacesRow.holds Try.pinned (OpenSpec.ofChange headPlacesWrong)

/-- 'reelkeeperlaw04.HeadMay': WHATEVER THE INPUT: true; the input reads as it did. -/
def headMaySpec : ChangeSpec := { name := "headMay", fn := fun _ => fun
  | [d1, d2, d3] => { results := [.lit (.bool true)], args := [d1, d2, d3] }
  | _ => none }
def headMayRow : OpenClaim := { program := "ytejalhoaljlnhaa", sum := "0c35c79e79a84cc81cbf00655732aec4178d0aea162f733127117f4ddbf46b52", func := "reelkeeper/reelkeeperlaw04.HeadMay", spec := "headMay", inPlace := ["internal/bytealg.IndexByteString", "internal/bytealg.IndexByte", "internal/bytealg.Index"], unfollowed := true, recurses := true, named := ["internal/bytealg.MaxLen"], apart := false }
def HeadMaySaid : Prop := headMayRow.holds Try.pinned (OpenSpec.ofChange headMaySpec)

/-- ITS FALSE NEIGHBOUR: 'it returns false'. Refute it at one input. -/
def headMayWrong : ChangeSpec := { name := "headMay", fn := fun _ => fun
  | [d1, d2, d3] => { results := [.lit (.bool false)], args := [d1, d2, d3] }
  | _ => none }
def HeadMayWrongFalsely : Prop := headMayRow.holds Try.pinned (OpenSpec.ofChange headMayWrong)

/- THE SECOND FORM. 'bulk': how many values and letters a reading holds, each counted each time it is reached (what is shared counts as often as it is met; a slice's spare places count too). A statement '..UptoSaid' is the law's where the arguments, and the package variables that the reading takes, are together of bulk at most 1048576: NARROWER than '..Said'. Prove '..Said' where nothing that the law and all that it calls make is longer than what came in: it says more and counts as full. Else prove '..UptoSaid'. A law counts once. -/
mutual
def uptoBulk {H : Type} : DataW H → Nat
  | .lit (.string bytes) => bytes.length + 1
  | .lit _ => 1
  | .nil => 1
  | .ptr d => uptoBulk d + 1
  | .slice elems spare => uptoBulkAll elems + uptoBulkAll spare + 1
  | .agg parts => uptoBulkAll parts + 1
  | .iface _ d => uptoBulk d + 1
  | .map entries => uptoBulkEntries entries + 1
  | .held _ => 1
def uptoBulkAll {H : Type} : List (DataW H) → Nat
  | [] => 0
  | d :: r => uptoBulk d + uptoBulkAll r
def uptoBulkEntries {H : Type} : List (Lit × DataW H) → Nat
  | [] => 0
  | x :: r => uptoBulkEntry x + uptoBulkEntries r
def uptoBulkEntry {H : Type} : Lit × DataW H → Nat
  | (.string bytes, d) => bytes.length + uptoBulk d + 1
  | (_, d) => uptoBulk d + 1
 end
def uptoSmall : (H : Type) → List (DataW H) → Bool := fun _ ds => decide (uptoBulkAll ds ≤ 1048576)
def OpenSpec.upto (s : _root_.Go.ChangeSpec) : _root_.Go.OpenSpec := { _root_.Go.OpenSpec.ofChange s with cond := some uptoSmall }

/-- 'reelkeeperlaw01.NumTells', WHERE WHAT IT READS IS OF BULK AT MOST 1048576: true; the input reads as it did. -/
def numTellsUptoRow : OpenClaim := { program := "ytejalhoaljlnhaa", sum := "0c35c79e79a84cc81cbf00655732aec4178d0aea162f733127117f4ddbf46b52", func := "reelkeeper/reelkeeperlaw01.NumTells", spec := "numTells", unfollowed := true, recurses := true, apart := false, narrowed := true }
def NumTellsUptoSaid : Prop := numTellsUptoRow.holds Try.pinned (OpenSpec.upto numTellsSpec)

/-- 'reelkeeperlaw01.NumBack', WHERE WHAT IT READS IS OF BULK AT MOST 1048576: true; the input reads as it did. -/
def numBackUptoRow : OpenClaim := { program := "ytejalhoaljlnhaa", sum := "0c35c79e79a84cc81cbf00655732aec4178d0aea162f733127117f4ddbf46b52", func := "reelkeeper/reelkeeperlaw01.NumBack", spec := "numBack", unfollowed := true, recurses := true, apart := false, narrowed := true }
def NumBackUptoSaid : Prop := numBackUptoRow.holds Try.pinned (OpenSpec.upto numBackSpec)

/-- 'reelkeeperlaw01.NumWide', WHERE WHAT IT READS IS OF BULK AT MOST 1048576: true; the input reads as it did. -/
def numWideUptoRow : OpenClaim := { program := "ytejalhoaljlnhaa", sum := "0c35c79e79a84cc81cbf00655732aec4178d0aea162f733127117f4ddbf46b52", func := "reelkeeper/reelkeeperlaw01.NumWide", spec := "numWide", unfollowed := true, recurses := true, apart := false, narrowed := true }
def NumWideUptoSaid : Prop := numWideUptoRow.holds Try.pinned (OpenSpec.upto numWideSpec)

/-- 'reelkeeperlaw01.NumDigits', WHERE WHAT IT READS IS OF BULK AT MOST 1048576: true; the input reads as it did. -/
def numDigitsUptoRow : OpenClaim := { program := "ytejalhoaljlnhaa", sum := "0c35c79e79a84cc81cbf00655732aec4178d0aea162f733127117f4ddbf46b52", func := "reelkeeper/reelkeeperlaw01.NumDigits", spec := "numDigits", unfollowed := true, recurses := true, apart := false, narrowed := true }
def NumDigitsUptoSaid : Prop := numDigitsUptoRow.holds Try.pinned (OpenSpec.upto numDigitsSpec)

/-- 'reelkeeperlaw01.NumShort', WHERE WHAT IT READS IS OF BULK AT MOST 1048576: true; the input reads as it did. -/
def numShortUptoRow : OpenClaim := { program := "ytejalhoaljlnhaa", sum := "0c35c79e79a84cc81cbf00655732aec4178d0aea162f733127117f4ddbf46b52", func := "reelkeeper/reelkeeperlaw01.NumShort", spec := "numShort", unfollowed := true, recurses := true, apart := false, narrowed := true }
def NumShortUptoSaid : Prop := numShortUptoRow.holds Try.pinned (OpenSpec.upto numShortSpec)

/-- 'reelkeeperlaw01.NumOrder', WHERE WHAT IT READS IS OF BULK AT MOST 1048576: true; the input reads as it did. -/
def numOrderUptoRow : OpenClaim := { program := "ytejalhoaljlnhaa", sum := "0c35c79e79a84cc81cbf00655732aec4178d0aea162f733127117f4ddbf46b52", func := "reelkeeper/reelkeeperlaw01.NumOrder", spec := "numOrder", unfollowed := true, recurses := true, apart := false, narrowed := true }
def NumOrderUptoSaid : Prop := numOrderUptoRow.holds Try.pinned (OpenSpec.upto numOrderSpec)

/-- 'reelkeeperlaw01.NumMarks', WHERE WHAT IT READS IS OF BULK AT MOST 1048576: true; the input reads as it did. -/
def numMarksUptoRow : OpenClaim := { program := "ytejalhoaljlnhaa", sum := "0c35c79e79a84cc81cbf00655732aec4178d0aea162f733127117f4ddbf46b52", func := "reelkeeper/reelkeeperlaw01.NumMarks", spec := "numMarks", unfollowed := true, recurses := true, apart := false, narrowed := true }
def NumMarksUptoSaid : Prop := numMarksUptoRow.holds Try.pinned (OpenSpec.upto numMarksSpec)

/-- 'reelkeeperlaw04.HeadTells', WHERE WHAT IT READS IS OF BULK AT MOST 1048576: true; the input reads as it did. -/
def headTellsUptoRow : OpenClaim := { program := "ytejalhoaljlnhaa", sum := "0c35c79e79a84cc81cbf00655732aec4178d0aea162f733127117f4ddbf46b52", func := "reelkeeper/reelkeeperlaw04.HeadTells", spec := "headTells", inPlace := ["internal/bytealg.IndexByteString", "internal/bytealg.IndexByte", "internal/bytealg.Index"], unfollowed := true, recurses := true, named := ["internal/bytealg.MaxLen"], apart := false, narrowed := true }
def HeadTellsUptoSaid : Prop := headTellsUptoRow.holds Try.pinned (OpenSpec.upto headTellsSpec)

/-- 'reelkeeperlaw04.HeadBack', WHERE WHAT IT READS IS OF BULK AT MOST 1048576: true; the input reads as it did. -/
def headBackUptoRow : OpenClaim := { program := "ytejalhoaljlnhaa", sum := "0c35c79e79a84cc81cbf00655732aec4178d0aea162f733127117f4ddbf46b52", func := "reelkeeper/reelkeeperlaw04.HeadBack", spec := "headBack", inPlace := ["internal/bytealg.IndexByteString", "internal/bytealg.IndexByte", "internal/bytealg.Index"], unfollowed := true, recurses := true, named := ["internal/bytealg.MaxLen"], apart := false, narrowed := true }
def HeadBackUptoSaid : Prop := headBackUptoRow.holds Try.pinned (OpenSpec.upto headBackSpec)

/-- 'reelkeeperlaw04.HeadSpoilt', WHERE WHAT IT READS IS OF BULK AT MOST 1048576: true; the input reads as it did. -/
def headSpoiltUptoRow : OpenClaim := { program := "ytejalhoaljlnhaa", sum := "0c35c79e79a84cc81cbf00655732aec4178d0aea162f733127117f4ddbf46b52", func := "reelkeeper/reelkeeperlaw04.HeadSpoilt", spec := "headSpoilt", inPlace := ["internal/bytealg.IndexByteString", "internal/bytealg.IndexByte", "internal/bytealg.Index"], unfollowed := true, recurses := true, named := ["internal/bytealg.MaxLen"], apart := false, narrowed := true }
def HeadSpoiltUptoSaid : Prop := headSpoiltUptoRow.holds Try.pinned (OpenSpec.upto headSpoiltSpec)

/-- 'reelkeeperlaw04.HeadSum', WHERE WHAT IT READS IS OF BULK AT MOST 1048576: true; the input reads as it did. -/
def headSumUptoRow : OpenClaim := { program := "ytejalhoaljlnhaa", sum := "0c35c79e79a84cc81cbf00655732aec4178d0aea162f733127117f4ddbf46b52", func := "reelkeeper/reelkeeperlaw04.HeadSum", spec := "headSum", inPlace := ["internal/bytealg.IndexByteString", "internal/bytealg.IndexByte", "internal/bytealg.Index"], unfollowed := true, recurses := true, named := ["internal/bytealg.MaxLen"], apart := false, narrowed := true }
def HeadSumUptoSaid : Prop := headSumUptoRow.holds Try.pinned (OpenSpec.upto headSumSpec)

/-- 'reelkeeperlaw04.HeadErrors', WHERE WHAT IT READS IS OF BULK AT MOST 1048576: true; the input reads as it did. -/
def headErrorsUptoRow : OpenClaim := { program := "ytejalhoaljlnhaa", sum := "0c35c79e79a84cc81cbf00655732aec4178d0aea162f733127117f4ddbf46b52", func := "reelkeeper/reelkeeperlaw04.HeadErrors", spec := "headErrors", inPlace := ["internal/bytealg.IndexByteString", "internal/bytealg.IndexByte", "internal/bytealg.Index"], unfollowed := true, recurses := true, named := ["internal/bytealg.MaxLen"], apart := false, narrowed := true }
def HeadErrorsUptoSaid : Prop := headErrorsUptoRow.holds Try.pinned (OpenSpec.upto headErrorsSpec)

/-- 'reelkeeperlaw04.HeadPlaces', WHERE WHAT IT READS IS OF BULK AT MOST 1048576: true; the input reads as it did. -/
def headPlacesUptoRow : OpenClaim := { program := "ytejalhoaljlnhaa", sum := "0c35c79e79a84cc81cbf00655732aec4178d0aea162f733127117f4ddbf46b52", func := "reelkeeper/reelkeeperlaw04.HeadPlaces", spec := "headPlaces", inPlace := ["internal/bytealg.IndexByteString", "internal/bytealg.IndexByte", "internal/bytealg.Index"], unfollowed := true, recurses := true, named := ["internal/bytealg.MaxLen"], apart := false, narrowed := true }
def HeadPlacesUptoSaid : Prop := headPlacesUptoRow.holds Try.pinned (OpenSpec.upto headPlacesSpec)

/-- 'reelkeeperlaw04.HeadMay', WHERE WHAT IT READS IS OF BULK AT MOST 1048576: true; the input reads as it did. -/
def headMayUptoRow : OpenClaim := { program := "ytejalhoaljlnhaa", sum := "0c35c79e79a84cc81cbf00655732aec4178d0aea162f733127117f4ddbf46b52", func := "reelkeeper/reelkeeperlaw04.HeadMay", spec := "headMay", inPlace := ["internal/bytealg.IndexByteString", "internal/bytealg.IndexByte", "internal/bytealg.Index"], unfollowed := true, recurses := true, named := ["internal/bytealg.MaxLen"], apart := false, narrowed := true }
def HeadMayUptoSaid : Prop := headMayUptoRow.holds Try.pinned (OpenSpec.upto headMaySpec)

end Rows
end Go.Proofs.Ytejalhoaljlnhaa
