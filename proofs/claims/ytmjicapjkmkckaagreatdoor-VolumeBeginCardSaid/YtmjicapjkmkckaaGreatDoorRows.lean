/-
  NARROWER THAN 'FOR EVERY INPUT', by the rows' own cells (each row's printed sentence says how): VolumeTells: laid · VolumeMore: laid · VolumeBound: laid · VolumeSmall: laid · VolumeLast: laid · VolumeRoom: laid · VolumeStream: laid · VolumeBegin: laid.
  DERIVED. THE GIVEN ROWS OF THIS SEAT. 8 by the template 'for every input the law returns true; each argument reads behind the call as it read before'; 0 by the template 'total and deterministic' (their statements: YtmjicapjkmkckaaGreatDoorTotals.lean).
  GIVEN WITH THE SEED: the statements are not yours to turn. If you find one false, say at which input.
  Laid BY PROGRAM, IN A SANDBOX (cutbox-rows.mjs): the forced cells as the released guide's own fill.sh prints them over the translation 9c225d8b7c2b8308… (all of the seat's roots in one cut). By AI agents, Wed Nov 11 2026. No macro, syntax, notation, axiom, sorry.
-/
import Derived.Test.YtmjicapjkmkckaaGreatDoorChecked
import GoSem.Claim
import GoSem.ClaimJoined
import GoSem.ClaimMapViews
import Derived.JoinedTies
import Derived.KernelRfl
namespace Go.Proofs.YtmjicapjkmkckaaGreatDoor
/- THE CELL 'sum', in the pinned program and in every row, IS THE sha256 OF THE DUMP (.gsa) THAT YtmjicapjkmkckaaGreatDoorProg.lean LOADS. Nothing in Lean hashes anything: it is a label: what it is worth is what the hold of that sum in a sandbox is worth. -/
noncomputable def Tryz.pinned : Pinned := { name := "ytmjicapjkmkckaagreatdoor", sum := "9c225d8b7c2b830832fe010d49ec95b583e70878e5621cd79fea89a45a62a131", checked := Tryz.checked }
namespace Rows
def none {H : Type} : Left H := { results := [], args := [] }

/- WHAT THE LISTED PACKAGE-LEVEL VARIABLES READ AS WHEN THE CALL BEGINS. Each datum BY PROGRAM (the guide's laid-datum.mjs) off the statement by which the dump's own 'gosem.cut.vars' lays the variable. In a bare row this is a premise. The card (YtmjicapjkmkckaaGreatDoorCards.lean) ties it to the program's text. -/
def laid_math_bits_deBruijn32tab {H : Type} : DataW H := .agg [.lit (.int .u8 0), .lit (.int .u8 1), .lit (.int .u8 28), .lit (.int .u8 2), .lit (.int .u8 29), .lit (.int .u8 14), .lit (.int .u8 24), .lit (.int .u8 3), .lit (.int .u8 30), .lit (.int .u8 22), .lit (.int .u8 20), .lit (.int .u8 15), .lit (.int .u8 25), .lit (.int .u8 17), .lit (.int .u8 4), .lit (.int .u8 8), .lit (.int .u8 31), .lit (.int .u8 27), .lit (.int .u8 13), .lit (.int .u8 23), .lit (.int .u8 21), .lit (.int .u8 19), .lit (.int .u8 16), .lit (.int .u8 7), .lit (.int .u8 26), .lit (.int .u8 12), .lit (.int .u8 18), .lit (.int .u8 6), .lit (.int .u8 11), .lit (.int .u8 5), .lit (.int .u8 10), .lit (.int .u8 9)]
def laid_math_bits_deBruijn64tab {H : Type} : DataW H := .agg [.lit (.int .u8 0), .lit (.int .u8 1), .lit (.int .u8 56), .lit (.int .u8 2), .lit (.int .u8 57), .lit (.int .u8 49), .lit (.int .u8 28), .lit (.int .u8 3), .lit (.int .u8 61), .lit (.int .u8 58), .lit (.int .u8 42), .lit (.int .u8 50), .lit (.int .u8 38), .lit (.int .u8 29), .lit (.int .u8 17), .lit (.int .u8 4), .lit (.int .u8 62), .lit (.int .u8 47), .lit (.int .u8 59), .lit (.int .u8 36), .lit (.int .u8 45), .lit (.int .u8 43), .lit (.int .u8 51), .lit (.int .u8 22), .lit (.int .u8 53), .lit (.int .u8 39), .lit (.int .u8 33), .lit (.int .u8 30), .lit (.int .u8 24), .lit (.int .u8 18), .lit (.int .u8 12), .lit (.int .u8 5), .lit (.int .u8 63), .lit (.int .u8 55), .lit (.int .u8 48), .lit (.int .u8 27), .lit (.int .u8 60), .lit (.int .u8 41), .lit (.int .u8 37), .lit (.int .u8 16), .lit (.int .u8 46), .lit (.int .u8 35), .lit (.int .u8 44), .lit (.int .u8 21), .lit (.int .u8 52), .lit (.int .u8 32), .lit (.int .u8 23), .lit (.int .u8 11), .lit (.int .u8 54), .lit (.int .u8 26), .lit (.int .u8 40), .lit (.int .u8 15), .lit (.int .u8 34), .lit (.int .u8 20), .lit (.int .u8 31), .lit (.int .u8 10), .lit (.int .u8 25), .lit (.int .u8 14), .lit (.int .u8 19), .lit (.int .u8 9), .lit (.int .u8 13), .lit (.int .u8 8), .lit (.int .u8 7), .lit (.int .u8 6)]
def laid_internal_strconv_uint64pow10 {H : Type} : DataW H := .agg [.lit (.int .u64 1), .lit (.int .u64 10), .lit (.int .u64 100), .lit (.int .u64 1000), .lit (.int .u64 10000), .lit (.int .u64 100000), .lit (.int .u64 1000000), .lit (.int .u64 10000000), .lit (.int .u64 100000000), .lit (.int .u64 1000000000), .lit (.int .u64 10000000000), .lit (.int .u64 100000000000), .lit (.int .u64 1000000000000), .lit (.int .u64 10000000000000), .lit (.int .u64 100000000000000), .lit (.int .u64 1000000000000000), .lit (.int .u64 10000000000000000), .lit (.int .u64 100000000000000000), .lit (.int .u64 1000000000000000000), .lit (.int .u64 10000000000000000000)]

/-- 'reelkeeperlaw16.VolumeTells': WHATEVER THE INPUT: true; the input reads as it did. -/
def volumeTellsSpec : ChangeSpec := { name := "volumeTells", fn := fun _ => fun
  | [d1, d2, d3, d4] => { results := [.lit (.bool true)], args := [d1, d2, d3, d4] }
  | _ => none }
def volumeTellsRow : OpenClaim := { program := "ytmjicapjkmkckaagreatdoor", sum := "9c225d8b7c2b830832fe010d49ec95b583e70878e5621cd79fea89a45a62a131", func := "reelkeeper/reelkeeperlaw16.VolumeTells", spec := "volumeTells", inPlace := ["internal/bytealg.IndexByteString", "internal/bytealg.IndexString"], unfollowed := true, recurses := true, named := ["internal/bytealg.MaxLen", "internal/strconv.uint64pow10", "math/bits.deBruijn32tab", "math/bits.deBruijn64tab"], apart := false, laid := [("math/bits.deBruijn32tab", laid_math_bits_deBruijn32tab), ("math/bits.deBruijn64tab", laid_math_bits_deBruijn64tab), ("internal/strconv.uint64pow10", laid_internal_strconv_uint64pow10)] }
def VolumeTellsSaid : Prop := volumeTellsRow.holds Tryz.pinned (OpenSpec.ofChange volumeTellsSpec)

/-- ITS FALSE NEIGHBOUR: 'it returns false'. Refute it at one input. -/
def volumeTellsWrong : ChangeSpec := { name := "volumeTells", fn := fun _ => fun
  | [d1, d2, d3, d4] => { results := [.lit (.bool false)], args := [d1, d2, d3, d4] }
  | _ => none }
def VolumeTellsWrongFalsely : Prop := volumeTellsRow.holds Tryz.pinned (OpenSpec.ofChange volumeTellsWrong)

/-- 'reelkeeperlaw16.VolumeMore': WHATEVER THE INPUT: true; the input reads as it did. -/
def volumeMoreSpec : ChangeSpec := { name := "volumeMore", fn := fun _ => fun
  | [d1, d2, d3] => { results := [.lit (.bool true)], args := [d1, d2, d3] }
  | _ => none }
def volumeMoreRow : OpenClaim := { program := "ytmjicapjkmkckaagreatdoor", sum := "9c225d8b7c2b830832fe010d49ec95b583e70878e5621cd79fea89a45a62a131", func := "reelkeeper/reelkeeperlaw16.VolumeMore", spec := "volumeMore", inPlace := ["internal/bytealg.IndexByteString", "internal/bytealg.IndexString"], unfollowed := true, recurses := true, named := ["internal/bytealg.MaxLen", "internal/strconv.uint64pow10", "math/bits.deBruijn32tab", "math/bits.deBruijn64tab"], apart := false, laid := [("math/bits.deBruijn32tab", laid_math_bits_deBruijn32tab), ("math/bits.deBruijn64tab", laid_math_bits_deBruijn64tab), ("internal/strconv.uint64pow10", laid_internal_strconv_uint64pow10)] }
def VolumeMoreSaid : Prop := volumeMoreRow.holds Tryz.pinned (OpenSpec.ofChange volumeMoreSpec)

/-- ITS FALSE NEIGHBOUR: 'it returns false'. Refute it at one input. -/
def volumeMoreWrong : ChangeSpec := { name := "volumeMore", fn := fun _ => fun
  | [d1, d2, d3] => { results := [.lit (.bool false)], args := [d1, d2, d3] }
  | _ => none }
def VolumeMoreWrongFalsely : Prop := volumeMoreRow.holds Tryz.pinned (OpenSpec.ofChange volumeMoreWrong)

/-- 'reelkeeperlaw16.VolumeBound': WHATEVER THE INPUT: true; the input reads as it did. -/
def volumeBoundSpec : ChangeSpec := { name := "volumeBound", fn := fun _ => fun
  | [d1, d2] => { results := [.lit (.bool true)], args := [d1, d2] }
  | _ => none }
def volumeBoundRow : OpenClaim := { program := "ytmjicapjkmkckaagreatdoor", sum := "9c225d8b7c2b830832fe010d49ec95b583e70878e5621cd79fea89a45a62a131", func := "reelkeeper/reelkeeperlaw16.VolumeBound", spec := "volumeBound", inPlace := ["internal/bytealg.IndexByteString", "internal/bytealg.IndexString"], unfollowed := true, recurses := true, named := ["internal/bytealg.MaxLen", "internal/strconv.uint64pow10", "math/bits.deBruijn32tab", "math/bits.deBruijn64tab"], apart := false, laid := [("math/bits.deBruijn32tab", laid_math_bits_deBruijn32tab), ("math/bits.deBruijn64tab", laid_math_bits_deBruijn64tab), ("internal/strconv.uint64pow10", laid_internal_strconv_uint64pow10)] }
def VolumeBoundSaid : Prop := volumeBoundRow.holds Tryz.pinned (OpenSpec.ofChange volumeBoundSpec)

/-- ITS FALSE NEIGHBOUR: 'it returns false'. Refute it at one input. -/
def volumeBoundWrong : ChangeSpec := { name := "volumeBound", fn := fun _ => fun
  | [d1, d2] => { results := [.lit (.bool false)], args := [d1, d2] }
  | _ => none }
def VolumeBoundWrongFalsely : Prop := volumeBoundRow.holds Tryz.pinned (OpenSpec.ofChange volumeBoundWrong)

/-- 'reelkeeperlaw16.VolumeSmall': WHATEVER THE INPUT: true; the input reads as it did. -/
def volumeSmallSpec : ChangeSpec := { name := "volumeSmall", fn := fun _ => fun
  | [d1, d2] => { results := [.lit (.bool true)], args := [d1, d2] }
  | _ => none }
def volumeSmallRow : OpenClaim := { program := "ytmjicapjkmkckaagreatdoor", sum := "9c225d8b7c2b830832fe010d49ec95b583e70878e5621cd79fea89a45a62a131", func := "reelkeeper/reelkeeperlaw16.VolumeSmall", spec := "volumeSmall", inPlace := ["internal/bytealg.IndexByteString", "internal/bytealg.IndexString"], unfollowed := true, recurses := true, named := ["internal/bytealg.MaxLen", "internal/strconv.uint64pow10", "math/bits.deBruijn32tab", "math/bits.deBruijn64tab"], apart := false, laid := [("math/bits.deBruijn32tab", laid_math_bits_deBruijn32tab), ("math/bits.deBruijn64tab", laid_math_bits_deBruijn64tab), ("internal/strconv.uint64pow10", laid_internal_strconv_uint64pow10)] }
def VolumeSmallSaid : Prop := volumeSmallRow.holds Tryz.pinned (OpenSpec.ofChange volumeSmallSpec)

/-- ITS FALSE NEIGHBOUR: 'it returns false'. Refute it at one input. -/
def volumeSmallWrong : ChangeSpec := { name := "volumeSmall", fn := fun _ => fun
  | [d1, d2] => { results := [.lit (.bool false)], args := [d1, d2] }
  | _ => none }
def VolumeSmallWrongFalsely : Prop := volumeSmallRow.holds Tryz.pinned (OpenSpec.ofChange volumeSmallWrong)

/-- 'reelkeeperlaw16.VolumeLast': WHATEVER THE INPUT: true; the input reads as it did. -/
def volumeLastSpec : ChangeSpec := { name := "volumeLast", fn := fun _ => fun
  | [d1, d2] => { results := [.lit (.bool true)], args := [d1, d2] }
  | _ => none }
def volumeLastRow : OpenClaim := { program := "ytmjicapjkmkckaagreatdoor", sum := "9c225d8b7c2b830832fe010d49ec95b583e70878e5621cd79fea89a45a62a131", func := "reelkeeper/reelkeeperlaw16.VolumeLast", spec := "volumeLast", inPlace := ["internal/bytealg.IndexByteString", "internal/bytealg.IndexString"], unfollowed := true, recurses := true, named := ["internal/bytealg.MaxLen", "internal/strconv.uint64pow10", "math/bits.deBruijn32tab", "math/bits.deBruijn64tab"], apart := false, laid := [("math/bits.deBruijn32tab", laid_math_bits_deBruijn32tab), ("math/bits.deBruijn64tab", laid_math_bits_deBruijn64tab), ("internal/strconv.uint64pow10", laid_internal_strconv_uint64pow10)] }
def VolumeLastSaid : Prop := volumeLastRow.holds Tryz.pinned (OpenSpec.ofChange volumeLastSpec)

/-- ITS FALSE NEIGHBOUR: 'it returns false'. Refute it at one input. -/
def volumeLastWrong : ChangeSpec := { name := "volumeLast", fn := fun _ => fun
  | [d1, d2] => { results := [.lit (.bool false)], args := [d1, d2] }
  | _ => none }
def VolumeLastWrongFalsely : Prop := volumeLastRow.holds Tryz.pinned (OpenSpec.ofChange volumeLastWrong)

/-- 'reelkeeperlaw16.VolumeRoom': WHATEVER THE INPUT: true; the input reads as it did. -/
def volumeRoomSpec : ChangeSpec := { name := "volumeRoom", fn := fun _ => fun
  | [d1, d2, d3] => { results := [.lit (.bool true)], args := [d1, d2, d3] }
  | _ => none }
def volumeRoomRow : OpenClaim := { program := "ytmjicapjkmkckaagreatdoor", sum := "9c225d8b7c2b830832fe010d49ec95b583e70878e5621cd79fea89a45a62a131", func := "reelkeeper/reelkeeperlaw16.VolumeRoom", spec := "volumeRoom", inPlace := ["internal/bytealg.IndexByteString", "internal/bytealg.IndexString"], unfollowed := true, recurses := true, named := ["internal/bytealg.MaxLen", "internal/strconv.uint64pow10", "math/bits.deBruijn32tab", "math/bits.deBruijn64tab"], apart := false, laid := [("math/bits.deBruijn32tab", laid_math_bits_deBruijn32tab), ("math/bits.deBruijn64tab", laid_math_bits_deBruijn64tab), ("internal/strconv.uint64pow10", laid_internal_strconv_uint64pow10)] }
def VolumeRoomSaid : Prop := volumeRoomRow.holds Tryz.pinned (OpenSpec.ofChange volumeRoomSpec)

/-- ITS FALSE NEIGHBOUR: 'it returns false'. Refute it at one input. -/
def volumeRoomWrong : ChangeSpec := { name := "volumeRoom", fn := fun _ => fun
  | [d1, d2, d3] => { results := [.lit (.bool false)], args := [d1, d2, d3] }
  | _ => none }
def VolumeRoomWrongFalsely : Prop := volumeRoomRow.holds Tryz.pinned (OpenSpec.ofChange volumeRoomWrong)

/-- 'reelkeeperlaw16.VolumeStream': WHATEVER THE INPUT: true; the input reads as it did. -/
def volumeStreamSpec : ChangeSpec := { name := "volumeStream", fn := fun _ => fun
  | [d1, d2] => { results := [.lit (.bool true)], args := [d1, d2] }
  | _ => none }
def volumeStreamRow : OpenClaim := { program := "ytmjicapjkmkckaagreatdoor", sum := "9c225d8b7c2b830832fe010d49ec95b583e70878e5621cd79fea89a45a62a131", func := "reelkeeper/reelkeeperlaw16.VolumeStream", spec := "volumeStream", inPlace := ["internal/bytealg.IndexByteString", "internal/bytealg.IndexString"], unfollowed := true, recurses := true, named := ["internal/bytealg.MaxLen", "internal/strconv.uint64pow10", "math/bits.deBruijn32tab", "math/bits.deBruijn64tab"], apart := false, laid := [("math/bits.deBruijn32tab", laid_math_bits_deBruijn32tab), ("math/bits.deBruijn64tab", laid_math_bits_deBruijn64tab), ("internal/strconv.uint64pow10", laid_internal_strconv_uint64pow10)] }
def VolumeStreamSaid : Prop := volumeStreamRow.holds Tryz.pinned (OpenSpec.ofChange volumeStreamSpec)

/-- ITS FALSE NEIGHBOUR: 'it returns false'. Refute it at one input. -/
def volumeStreamWrong : ChangeSpec := { name := "volumeStream", fn := fun _ => fun
  | [d1, d2] => { results := [.lit (.bool false)], args := [d1, d2] }
  | _ => none }
def VolumeStreamWrongFalsely : Prop := volumeStreamRow.holds Tryz.pinned (OpenSpec.ofChange volumeStreamWrong)

/-- 'reelkeeperlaw16.VolumeBegin': WHATEVER THE INPUT: true; the input reads as it did. -/
def volumeBeginSpec : ChangeSpec := { name := "volumeBegin", fn := fun _ => fun
  | [d1, d2, d3, d4] => { results := [.lit (.bool true)], args := [d1, d2, d3, d4] }
  | _ => none }
def volumeBeginRow : OpenClaim := { program := "ytmjicapjkmkckaagreatdoor", sum := "9c225d8b7c2b830832fe010d49ec95b583e70878e5621cd79fea89a45a62a131", func := "reelkeeper/reelkeeperlaw16.VolumeBegin", spec := "volumeBegin", inPlace := ["internal/bytealg.IndexByteString", "internal/bytealg.IndexString", "internal/bytealg.IndexByte", "internal/bytealg.Index"], unfollowed := true, recurses := true, named := ["internal/bytealg.MaxLen", "internal/strconv.uint64pow10", "math/bits.deBruijn32tab", "math/bits.deBruijn64tab"], apart := false, laid := [("math/bits.deBruijn32tab", laid_math_bits_deBruijn32tab), ("math/bits.deBruijn64tab", laid_math_bits_deBruijn64tab), ("internal/strconv.uint64pow10", laid_internal_strconv_uint64pow10)] }
def VolumeBeginSaid : Prop := volumeBeginRow.holds Tryz.pinned (OpenSpec.ofChange volumeBeginSpec)

/-- ITS FALSE NEIGHBOUR: 'it returns false'. Refute it at one input. -/
def volumeBeginWrong : ChangeSpec := { name := "volumeBegin", fn := fun _ => fun
  | [d1, d2, d3, d4] => { results := [.lit (.bool false)], args := [d1, d2, d3, d4] }
  | _ => none }
def VolumeBeginWrongFalsely : Prop := volumeBeginRow.holds Tryz.pinned (OpenSpec.ofChange volumeBeginWrong)

/- THE SECOND FORM. 'bulk': how many values and letters a reading holds, each counted each time it is reached (what is shared counts as often as it is met; a slice's spare places count too). A statement '..UptoSaid' is the law's where the arguments, and the package variables that the reading takes, are together of bulk at most 1048576: NARROWER than '..Said'. Prove '..Said' where nothing that the law and all that it calls make is longer than what came in: it says more and counts as full. Else prove '..UptoSaid'. A law counts once. -/
mutual
def uptoBulk {H : Type} : DataW H → Nat
  | .lit (.string bytes) => bytes.length + 1
  | .lit _ => 1
  | .nil => 1
  | .ptr d => uptoBulk d + 1
  | .slice elems spare => uptoBulkAll elems + uptoBulkAll spare + 1
  | .agg parts => uptoBulkAll parts + 1
  | .iface _ d => uptoBulk d + 1
  | .map entries => uptoBulkEntries entries + 1
  | .held _ => 1
def uptoBulkAll {H : Type} : List (DataW H) → Nat
  | [] => 0
  | d :: r => uptoBulk d + uptoBulkAll r
def uptoBulkEntries {H : Type} : List (Lit × DataW H) → Nat
  | [] => 0
  | x :: r => uptoBulkEntry x + uptoBulkEntries r
def uptoBulkEntry {H : Type} : Lit × DataW H → Nat
  | (.string bytes, d) => bytes.length + uptoBulk d + 1
  | (_, d) => uptoBulk d + 1
 end
def uptoSmall : (H : Type) → List (DataW H) → Bool := fun _ ds => decide (uptoBulkAll ds ≤ 1048576)
def OpenSpec.upto (s : _root_.Go.ChangeSpec) : _root_.Go.OpenSpec := { _root_.Go.OpenSpec.ofChange s with cond := some uptoSmall }

/-- 'reelkeeperlaw16.VolumeTells', WHERE WHAT IT READS IS OF BULK AT MOST 1048576: true; the input reads as it did. -/
def volumeTellsUptoRow : OpenClaim := { program := "ytmjicapjkmkckaagreatdoor", sum := "9c225d8b7c2b830832fe010d49ec95b583e70878e5621cd79fea89a45a62a131", func := "reelkeeper/reelkeeperlaw16.VolumeTells", spec := "volumeTells", inPlace := ["internal/bytealg.IndexByteString", "internal/bytealg.IndexString"], unfollowed := true, recurses := true, named := ["internal/bytealg.MaxLen", "internal/strconv.uint64pow10", "math/bits.deBruijn32tab", "math/bits.deBruijn64tab"], apart := false, laid := [("math/bits.deBruijn32tab", laid_math_bits_deBruijn32tab), ("math/bits.deBruijn64tab", laid_math_bits_deBruijn64tab), ("internal/strconv.uint64pow10", laid_internal_strconv_uint64pow10)], narrowed := true }
def VolumeTellsUptoSaid : Prop := volumeTellsUptoRow.holds Tryz.pinned (OpenSpec.upto volumeTellsSpec)

/-- 'reelkeeperlaw16.VolumeMore', WHERE WHAT IT READS IS OF BULK AT MOST 1048576: true; the input reads as it did. -/
def volumeMoreUptoRow : OpenClaim := { program := "ytmjicapjkmkckaagreatdoor", sum := "9c225d8b7c2b830832fe010d49ec95b583e70878e5621cd79fea89a45a62a131", func := "reelkeeper/reelkeeperlaw16.VolumeMore", spec := "volumeMore", inPlace := ["internal/bytealg.IndexByteString", "internal/bytealg.IndexString"], unfollowed := true, recurses := true, named := ["internal/bytealg.MaxLen", "internal/strconv.uint64pow10", "math/bits.deBruijn32tab", "math/bits.deBruijn64tab"], apart := false, laid := [("math/bits.deBruijn32tab", laid_math_bits_deBruijn32tab), ("math/bits.deBruijn64tab", laid_math_bits_deBruijn64tab), ("internal/strconv.uint64pow10", laid_internal_strconv_uint64pow10)], narrowed := true }
def VolumeMoreUptoSaid : Prop := volumeMoreUptoRow.holds Tryz.pinned (OpenSpec.upto volumeMoreSpec)

/-- 'reelkeeperlaw16.VolumeBound', WHERE WHAT IT READS IS OF BULK AT MOST 1048576: true; the input reads as it did. -/
def volumeBoundUptoRow : OpenClaim := { program := "ytmjicapjkmkckaagreatdoor", sum := "9c225d8b7c2b830832fe010d49ec95b583e70878e5621cd79fea89a45a62a131", func := "reelkeeper/reelkeeperlaw16.VolumeBound", spec := "volumeBound", inPlace := ["internal/bytealg.IndexByteString", "internal/bytealg.IndexString"], unfollowed := true, recurses := true, named := ["internal/bytealg.MaxLen", "internal/strconv.uint64pow10", "math/bits.deBruijn32tab", "math/bits.deBruijn64tab"], apart := false, laid := [("math/bits.deBruijn32tab", laid_math_bits_deBruijn32tab), ("math/bits.deBruijn64tab", laid_math_bits_deBruijn64tab), ("internal/strconv.uint64pow10", laid_internal_strconv_uint64pow10)], narrowed := true }
def VolumeBoundUptoSaid : Prop := volumeBoundUptoRow.holds Tryz.pinned (OpenSpec.upto volumeBoundSpec)

/-- 'reelkeeperlaw16.VolumeSmall', WHERE WHAT IT READS IS OF BULK AT MOST 1048576: true; the input reads as it did. -/
def volumeSmallUptoRow : OpenClaim := { program := "ytmjicapjkmkckaagreatdoor", sum := "9c225d8b7c2b830832fe010d49ec95b583e70878e5621cd79fea89a45a62a131", func := "reelkeeper/reelkeeperlaw16.VolumeSmall", spec := "volumeSmall", inPlace := ["internal/bytealg.IndexByteString", "internal/bytealg.IndexString"], unfollowed := true, recurses := true, named := ["internal/bytealg.MaxLen", "internal/strconv.uint64pow10", "math/bits.deBruijn32tab", "math/bits.deBruijn64tab"], apart := false, laid := [("math/bits.deBruijn32tab", laid_math_bits_deBruijn32tab), ("math/bits.deBruijn64tab", laid_math_bits_deBruijn64tab), ("internal/strconv.uint64pow10", laid_internal_strconv_uint64pow10)], narrowed := true }
def VolumeSmallUptoSaid : Prop := volumeSmallUptoRow.holds Tryz.pinned (OpenSpec.upto volumeSmallSpec)

/-- 'reelkeeperlaw16.VolumeLast', WHERE WHAT IT READS IS OF BULK AT MOST 1048576: true; the input reads as it did. -/
def volumeLastUptoRow : OpenClaim := { program := "ytmjicapjkmkckaagreatdoor", sum := "9c225d8b7c2b830832fe010d49ec95b583e70878e5621cd79fea89a45a62a131", func := "reelkeeper/reelkeeperlaw16.VolumeLast", spec := "volumeLast", inPlace := ["internal/bytealg.IndexByteString", "internal/bytealg.IndexString"], unfollowed := true, recurses := true, named := ["internal/bytealg.MaxLen", "internal/strconv.uint64pow10", "math/bits.deBruijn32tab", "math/bits.deBruijn64tab"], apart := false, laid := [("math/bits.deBruijn32tab", laid_math_bits_deBruijn32tab), ("math/bits.deBruijn64tab", laid_math_bits_deBruijn64tab), ("internal/strconv.uint64pow10", laid_internal_strconv_uint64pow10)], narrowed := true }
def VolumeLastUptoSaid : Prop := volumeLastUptoRow.holds Tryz.pinned (OpenSpec.upto volumeLastSpec)

/-- 'reelkeeperlaw16.VolumeRoom', WHERE WHAT IT READS IS OF BULK AT MOST 1048576: true; the input reads as it did. -/
def volumeRoomUptoRow : OpenClaim := { program := "ytmjicapjkmkckaagreatdoor", sum := "9c225d8b7c2b830832fe010d49ec95b583e70878e5621cd79fea89a45a62a131", func := "reelkeeper/reelkeeperlaw16.VolumeRoom", spec := "volumeRoom", inPlace := ["internal/bytealg.IndexByteString", "internal/bytealg.IndexString"], unfollowed := true, recurses := true, named := ["internal/bytealg.MaxLen", "internal/strconv.uint64pow10", "math/bits.deBruijn32tab", "math/bits.deBruijn64tab"], apart := false, laid := [("math/bits.deBruijn32tab", laid_math_bits_deBruijn32tab), ("math/bits.deBruijn64tab", laid_math_bits_deBruijn64tab), ("internal/strconv.uint64pow10", laid_internal_strconv_uint64pow10)], narrowed := true }
def VolumeRoomUptoSaid : Prop := volumeRoomUptoRow.holds Tryz.pinned (OpenSpec.upto volumeRoomSpec)

/-- 'reelkeeperlaw16.VolumeStream', WHERE WHAT IT READS IS OF BULK AT MOST 1048576: true; the input reads as it did. -/
def volumeStreamUptoRow : OpenClaim := { program := "ytmjicapjkmkckaagreatdoor", sum := "9c225d8b7c2b830832fe010d49ec95b583e70878e5621cd79fea89a45a62a131", func := "reelkeeper/reelkeeperlaw16.VolumeStream", spec := "volumeStream", inPlace := ["internal/bytealg.IndexByteString", "internal/bytealg.IndexString"], unfollowed := true, recurses := true, named := ["internal/bytealg.MaxLen", "internal/strconv.uint64pow10", "math/bits.deBruijn32tab", "math/bits.deBruijn64tab"], apart := false, laid := [("math/bits.deBruijn32tab", laid_math_bits_deBruijn32tab), ("math/bits.deBruijn64tab", laid_math_bits_deBruijn64tab), ("internal/strconv.uint64pow10", laid_internal_strconv_uint64pow10)], narrowed := true }
def VolumeStreamUptoSaid : Prop := volumeStreamUptoRow.holds Tryz.pinned (OpenSpec.upto volumeStreamSpec)

/-- 'reelkeeperlaw16.VolumeBegin', WHERE WHAT IT READS IS OF BULK AT MOST 1048576: true; the input reads as it did. -/
def volumeBeginUptoRow : OpenClaim := { program := "ytmjicapjkmkckaagreatdoor", sum := "9c225d8b7c2b830832fe010d49ec95b583e70878e5621cd79fea89a45a62a131", func := "reelkeeper/reelkeeperlaw16.VolumeBegin", spec := "volumeBegin", inPlace := ["internal/bytealg.IndexByteString", "internal/bytealg.IndexString", "internal/bytealg.IndexByte", "internal/bytealg.Index"], unfollowed := true, recurses := true, named := ["internal/bytealg.MaxLen", "internal/strconv.uint64pow10", "math/bits.deBruijn32tab", "math/bits.deBruijn64tab"], apart := false, laid := [("math/bits.deBruijn32tab", laid_math_bits_deBruijn32tab), ("math/bits.deBruijn64tab", laid_math_bits_deBruijn64tab), ("internal/strconv.uint64pow10", laid_internal_strconv_uint64pow10)], narrowed := true }
def VolumeBeginUptoSaid : Prop := volumeBeginUptoRow.holds Tryz.pinned (OpenSpec.upto volumeBeginSpec)

end Rows
end Go.Proofs.YtmjicapjkmkckaaGreatDoor
