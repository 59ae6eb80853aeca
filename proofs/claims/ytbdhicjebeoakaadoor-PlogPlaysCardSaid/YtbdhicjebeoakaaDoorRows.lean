/-
  NARROWER THAN 'FOR EVERY INPUT', by the rows' own cells (each row's printed sentence says how): SectorPieces: laid · SectorTorn: laid · SectorLays: laid · SectorOne: laid · PlogNil: laid · PlogGrows: laid · PlogPlays: laid · PlogCrashes: laid.
  DERIVED. THE GIVEN ROWS OF THIS SEAT. 8 by the template 'for every input the law returns true; each argument reads behind the call as it read before'; 0 by the template 'total and deterministic' (their statements: YtbdhicjebeoakaaDoorTotals.lean).
  GIVEN WITH THE SEED: the statements are not yours to turn. If you find one false, say at which input.
  Laid BY PROGRAM, IN A SANDBOX (cutbox-rows.mjs): the forced cells as the released guide's own fill.sh prints them over the translation f8f4d0360aae205d… (all of the seat's roots in one cut). By AI agents, Wed Nov 11 2026. No macro, syntax, notation, axiom, sorry.
-/
import Derived.Test.YtbdhicjebeoakaaDoorChecked
import GoSem.PinnedTables
import GoSem.Claim
import GoSem.ClaimJoined
import GoSem.ClaimMapViews
import Derived.JoinedTies
import Derived.KernelRfl
namespace Go.Proofs.YtbdhicjebeoakaaDoor
/- THE CELL 'sum', in the pinned program and in every row, IS THE sha256 OF THE DUMP (.gsa) THAT YtbdhicjebeoakaaDoorProg.lean LOADS. Nothing in Lean hashes anything: it is a label: what it is worth is what the hold of that sum in a sandbox is worth. -/
noncomputable def Tryd.pinned : Pinned := { name := "ytbdhicjebeoakaadoor", sum := "f8f4d0360aae205dfd54ecfd9932fa69423b357cc3437949f62e4544ed7e5f2f", checked := Tryd.checked }
namespace Rows
def none {H : Type} : Left H := { results := [], args := [] }

/- WHAT THE LISTED PACKAGE-LEVEL VARIABLES READ AS WHEN THE CALL BEGINS. Each datum BY PROGRAM (the guide's laid-datum.mjs) off the statement by which the dump's own 'gosem.cut.vars' lays the variable. In a bare row this is a premise. The card (YtbdhicjebeoakaaDoorCards.lean) ties it to the program's text. -/
def laid_unicode_utf8_acceptRanges {H : Type} : DataW H := .agg [.agg [.lit (.int .u8 128), .lit (.int .u8 191)], .agg [.lit (.int .u8 160), .lit (.int .u8 191)], .agg [.lit (.int .u8 128), .lit (.int .u8 159)], .agg [.lit (.int .u8 144), .lit (.int .u8 191)], .agg [.lit (.int .u8 128), .lit (.int .u8 143)], .agg [.lit (.int .u8 0), .lit (.int .u8 0)], .agg [.lit (.int .u8 0), .lit (.int .u8 0)], .agg [.lit (.int .u8 0), .lit (.int .u8 0)], .agg [.lit (.int .u8 0), .lit (.int .u8 0)], .agg [.lit (.int .u8 0), .lit (.int .u8 0)], .agg [.lit (.int .u8 0), .lit (.int .u8 0)], .agg [.lit (.int .u8 0), .lit (.int .u8 0)], .agg [.lit (.int .u8 0), .lit (.int .u8 0)], .agg [.lit (.int .u8 0), .lit (.int .u8 0)], .agg [.lit (.int .u8 0), .lit (.int .u8 0)], .agg [.lit (.int .u8 0), .lit (.int .u8 0)]]
/-- One of Go's own tables, pinned by name: the form's constant. -/
def laid_unicode_utf8_first : DataW Unit := Go.Pinned.utf8First

/-- 'lockagelaw04.SectorPieces': WHATEVER THE INPUT: true; the input reads as it did. -/
def sectorPiecesSpec : ChangeSpec := { name := "sectorPieces", fn := fun _ => fun
  | [d1, d2] => { results := [.lit (.bool true)], args := [d1, d2] }
  | _ => none }
def sectorPiecesRow : OpenClaim := { program := "ytbdhicjebeoakaadoor", sum := "f8f4d0360aae205dfd54ecfd9932fa69423b357cc3437949f62e4544ed7e5f2f", func := "lockage/lockagelaw04.SectorPieces", spec := "sectorPieces", inPlace := ["internal/bytealg.IndexByteString", "internal/bytealg.IndexString", "internal/abi.NoEscape"], unfollowed := true, recurses := true, named := ["unicode/utf8.first", "unicode/utf8.acceptRanges", "internal/bytealg.MaxLen"], apart := false, laid := [("unicode/utf8.acceptRanges", laid_unicode_utf8_acceptRanges), ("unicode/utf8.first", laid_unicode_utf8_first)] }
def SectorPiecesSaid : Prop := sectorPiecesRow.holds Tryd.pinned (OpenSpec.ofChange sectorPiecesSpec)

/-- ITS FALSE NEIGHBOUR: 'it returns false'. Refute it at one input. -/
def sectorPiecesWrong : ChangeSpec := { name := "sectorPieces", fn := fun _ => fun
  | [d1, d2] => { results := [.lit (.bool false)], args := [d1, d2] }
  | _ => none }
def SectorPiecesWrongFalsely : Prop := sectorPiecesRow.holds Tryd.pinned (OpenSpec.ofChange sectorPiecesWrong)

/-- 'lockagelaw04.SectorTorn': WHATEVER THE INPUT: true; the input reads as it did. -/
def sectorTornSpec : ChangeSpec := { name := "sectorTorn", fn := fun _ => fun
  | [d1, d2, d3] => { results := [.lit (.bool true)], args := [d1, d2, d3] }
  | _ => none }
def sectorTornRow : OpenClaim := { program := "ytbdhicjebeoakaadoor", sum := "f8f4d0360aae205dfd54ecfd9932fa69423b357cc3437949f62e4544ed7e5f2f", func := "lockage/lockagelaw04.SectorTorn", spec := "sectorTorn", inPlace := ["internal/bytealg.IndexByteString", "internal/bytealg.IndexString", "internal/abi.NoEscape"], unfollowed := true, recurses := true, named := ["unicode/utf8.first", "unicode/utf8.acceptRanges", "internal/bytealg.MaxLen"], apart := false, laid := [("unicode/utf8.acceptRanges", laid_unicode_utf8_acceptRanges), ("unicode/utf8.first", laid_unicode_utf8_first)] }
def SectorTornSaid : Prop := sectorTornRow.holds Tryd.pinned (OpenSpec.ofChange sectorTornSpec)

/-- ITS FALSE NEIGHBOUR: 'it returns false'. Refute it at one input. -/
def sectorTornWrong : ChangeSpec := { name := "sectorTorn", fn := fun _ => fun
  | [d1, d2, d3] => { results := [.lit (.bool false)], args := [d1, d2, d3] }
  | _ => none }
def SectorTornWrongFalsely : Prop := sectorTornRow.holds Tryd.pinned (OpenSpec.ofChange sectorTornWrong)

/-- 'lockagelaw04.SectorLays': WHATEVER THE INPUT: true; the input reads as it did. -/
def sectorLaysSpec : ChangeSpec := { name := "sectorLays", fn := fun _ => fun
  | [d1, d2, d3, d4, d5, d6] => { results := [.lit (.bool true)], args := [d1, d2, d3, d4, d5, d6] }
  | _ => none }
def sectorLaysRow : OpenClaim := { program := "ytbdhicjebeoakaadoor", sum := "f8f4d0360aae205dfd54ecfd9932fa69423b357cc3437949f62e4544ed7e5f2f", func := "lockage/lockagelaw04.SectorLays", spec := "sectorLays", inPlace := ["internal/bytealg.IndexByteString", "internal/bytealg.IndexString", "internal/abi.NoEscape"], unfollowed := true, recurses := true, named := ["unicode/utf8.first", "unicode/utf8.acceptRanges", "internal/bytealg.MaxLen"], apart := false, laid := [("unicode/utf8.acceptRanges", laid_unicode_utf8_acceptRanges), ("unicode/utf8.first", laid_unicode_utf8_first)] }
def SectorLaysSaid : Prop := sectorLaysRow.holds Tryd.pinned (OpenSpec.ofChange sectorLaysSpec)

/-- ITS FALSE NEIGHBOUR: 'it returns false'. Refute it at one input. -/
def sectorLaysWrong : ChangeSpec := { name := "sectorLays", fn := fun _ => fun
  | [d1, d2, d3, d4, d5, d6] => { results := [.lit (.bool false)], args := [d1, d2, d3, d4, d5, d6] }
  | _ => none }
def SectorLaysWrongFalsely : Prop := sectorLaysRow.holds Tryd.pinned (OpenSpec.ofChange sectorLaysWrong)

/-- 'lockagelaw04.SectorOne': WHATEVER THE INPUT: true; the input reads as it did. -/
def sectorOneSpec : ChangeSpec := { name := "sectorOne", fn := fun _ => fun
  | [d1, d2, d3] => { results := [.lit (.bool true)], args := [d1, d2, d3] }
  | _ => none }
def sectorOneRow : OpenClaim := { program := "ytbdhicjebeoakaadoor", sum := "f8f4d0360aae205dfd54ecfd9932fa69423b357cc3437949f62e4544ed7e5f2f", func := "lockage/lockagelaw04.SectorOne", spec := "sectorOne", inPlace := ["internal/bytealg.IndexByteString", "internal/bytealg.IndexString", "internal/abi.NoEscape"], unfollowed := true, recurses := true, named := ["unicode/utf8.first", "unicode/utf8.acceptRanges", "internal/bytealg.MaxLen"], apart := false, laid := [("unicode/utf8.acceptRanges", laid_unicode_utf8_acceptRanges), ("unicode/utf8.first", laid_unicode_utf8_first)] }
def SectorOneSaid : Prop := sectorOneRow.holds Tryd.pinned (OpenSpec.ofChange sectorOneSpec)

/-- ITS FALSE NEIGHBOUR: 'it returns false'. Refute it at one input. -/
def sectorOneWrong : ChangeSpec := { name := "sectorOne", fn := fun _ => fun
  | [d1, d2, d3] => { results := [.lit (.bool false)], args := [d1, d2, d3] }
  | _ => none }
def SectorOneWrongFalsely : Prop := sectorOneRow.holds Tryd.pinned (OpenSpec.ofChange sectorOneWrong)

/-- 'lockagelaw05.PlogNil': WHATEVER THE INPUT: true; the input reads as it did. -/
def plogNilSpec : ChangeSpec := { name := "plogNil", fn := fun _ => fun
  | [d1, d2, d3] => { results := [.lit (.bool true)], args := [d1, d2, d3] }
  | _ => none }
def plogNilRow : OpenClaim := { program := "ytbdhicjebeoakaadoor", sum := "f8f4d0360aae205dfd54ecfd9932fa69423b357cc3437949f62e4544ed7e5f2f", func := "lockage/lockagelaw05.PlogNil", spec := "plogNil", inPlace := ["internal/bytealg.IndexByteString", "internal/bytealg.IndexString", "internal/abi.NoEscape"], unfollowed := true, recurses := true, named := ["unicode/utf8.first", "unicode/utf8.acceptRanges", "internal/bytealg.MaxLen"], apart := false, laid := [("unicode/utf8.acceptRanges", laid_unicode_utf8_acceptRanges), ("unicode/utf8.first", laid_unicode_utf8_first)] }
def PlogNilSaid : Prop := plogNilRow.holds Tryd.pinned (OpenSpec.ofChange plogNilSpec)

/-- ITS FALSE NEIGHBOUR: 'it returns false'. Refute it at one input. -/
def plogNilWrong : ChangeSpec := { name := "plogNil", fn := fun _ => fun
  | [d1, d2, d3] => { results := [.lit (.bool false)], args := [d1, d2, d3] }
  | _ => none }
def PlogNilWrongFalsely : Prop := plogNilRow.holds Tryd.pinned (OpenSpec.ofChange plogNilWrong)

/-- 'lockagelaw05.PlogGrows': WHATEVER THE INPUT: true; the input reads as it did. -/
def plogGrowsSpec : ChangeSpec := { name := "plogGrows", fn := fun _ => fun
  | [d] => { results := [.lit (.bool true)], args := [d] }
  | _ => none }
def plogGrowsRow : OpenClaim := { program := "ytbdhicjebeoakaadoor", sum := "f8f4d0360aae205dfd54ecfd9932fa69423b357cc3437949f62e4544ed7e5f2f", func := "lockage/lockagelaw05.PlogGrows", spec := "plogGrows", inPlace := ["internal/bytealg.IndexByteString", "internal/bytealg.IndexString", "internal/abi.NoEscape"], unfollowed := true, recurses := true, named := ["unicode/utf8.first", "unicode/utf8.acceptRanges", "internal/bytealg.MaxLen"], apart := false, laid := [("unicode/utf8.acceptRanges", laid_unicode_utf8_acceptRanges), ("unicode/utf8.first", laid_unicode_utf8_first)] }
def PlogGrowsSaid : Prop := plogGrowsRow.holds Tryd.pinned (OpenSpec.ofChange plogGrowsSpec)

/-- ITS FALSE NEIGHBOUR: 'it returns false'. Refute it at one input. -/
def plogGrowsWrong : ChangeSpec := { name := "plogGrows", fn := fun _ => fun
  | [d] => { results := [.lit (.bool false)], args := [d] }
  | _ => none }
def PlogGrowsWrongFalsely : Prop := plogGrowsRow.holds Tryd.pinned (OpenSpec.ofChange plogGrowsWrong)

/-- 'lockagelaw05.PlogPlays': WHATEVER THE INPUT: true; the input reads as it did. -/
def plogPlaysSpec : ChangeSpec := { name := "plogPlays", fn := fun _ => fun
  | [d1, d2, d3] => { results := [.lit (.bool true)], args := [d1, d2, d3] }
  | _ => none }
def plogPlaysRow : OpenClaim := { program := "ytbdhicjebeoakaadoor", sum := "f8f4d0360aae205dfd54ecfd9932fa69423b357cc3437949f62e4544ed7e5f2f", func := "lockage/lockagelaw05.PlogPlays", spec := "plogPlays", inPlace := ["internal/bytealg.IndexByteString", "internal/bytealg.IndexString", "internal/abi.NoEscape"], unfollowed := true, recurses := true, named := ["unicode/utf8.first", "unicode/utf8.acceptRanges", "internal/bytealg.MaxLen"], apart := false, laid := [("unicode/utf8.acceptRanges", laid_unicode_utf8_acceptRanges), ("unicode/utf8.first", laid_unicode_utf8_first)] }
def PlogPlaysSaid : Prop := plogPlaysRow.holds Tryd.pinned (OpenSpec.ofChange plogPlaysSpec)

/-- ITS FALSE NEIGHBOUR: 'it returns false'. Refute it at one input. -/
def plogPlaysWrong : ChangeSpec := { name := "plogPlays", fn := fun _ => fun
  | [d1, d2, d3] => { results := [.lit (.bool false)], args := [d1, d2, d3] }
  | _ => none }
def PlogPlaysWrongFalsely : Prop := plogPlaysRow.holds Tryd.pinned (OpenSpec.ofChange plogPlaysWrong)

/-- 'lockagelaw05.PlogCrashes': WHATEVER THE INPUT: true; the input reads as it did. -/
def plogCrashesSpec : ChangeSpec := { name := "plogCrashes", fn := fun _ => fun
  | [d1, d2] => { results := [.lit (.bool true)], args := [d1, d2] }
  | _ => none }
def plogCrashesRow : OpenClaim := { program := "ytbdhicjebeoakaadoor", sum := "f8f4d0360aae205dfd54ecfd9932fa69423b357cc3437949f62e4544ed7e5f2f", func := "lockage/lockagelaw05.PlogCrashes", spec := "plogCrashes", inPlace := ["internal/bytealg.IndexByteString", "internal/bytealg.IndexString", "internal/abi.NoEscape"], unfollowed := true, recurses := true, named := ["unicode/utf8.first", "unicode/utf8.acceptRanges", "internal/bytealg.MaxLen"], apart := false, laid := [("unicode/utf8.acceptRanges", laid_unicode_utf8_acceptRanges), ("unicode/utf8.first", laid_unicode_utf8_first)] }
def PlogCrashesSaid : Prop := plogCrashesRow.holds Tryd.pinned (OpenSpec.ofChange plogCrashesSpec)

/-- ITS FALSE NEIGHBOUR: 'it returns false'. Refute it at one input. -/
def plogCrashesWrong : ChangeSpec := { name := "plogCrashes", fn := fun _ => fun
  | [d1, d2] => { results := [.lit (.bool false)], args := [d1, d2] }
  | _ => none }
def PlogCrashesWrongFalsely : Prop := plogCrashesRow.holds Tryd.pinned (OpenSpec.ofChange plogCrashesWrong)

/- THE SECOND FORM. 'bulk': how many values and letters a reading holds, each counted each time it is reached (what is shared counts as often as it is met; a slice's spare places count too). A statement '..UptoSaid' is the law's where the arguments, and the package variables that the reading takes, are together of bulk at most 1048576: NARROWER than '..Said'. Prove '..Said' where nothing that the law and all that it calls make is longer than what came in: it says more and counts as full. Else prove '..UptoSaid'. A law counts once. -/
mutual
def uptoBulk {H : Type} : DataW H → Nat
  | .lit (.string bytes) => bytes.length + 1
  | .lit _ => 1
  | .nil => 1
  | .ptr d => uptoBulk d + 1
  | .slice elems spare => uptoBulkAll elems + uptoBulkAll spare + 1
  | .agg parts => uptoBulkAll parts + 1
  | .iface _ d => uptoBulk d + 1
  | .map entries => uptoBulkEntries entries + 1
  | .held _ => 1
def uptoBulkAll {H : Type} : List (DataW H) → Nat
  | [] => 0
  | d :: r => uptoBulk d + uptoBulkAll r
def uptoBulkEntries {H : Type} : List (Lit × DataW H) → Nat
  | [] => 0
  | x :: r => uptoBulkEntry x + uptoBulkEntries r
def uptoBulkEntry {H : Type} : Lit × DataW H → Nat
  | (.string bytes, d) => bytes.length + uptoBulk d + 1
  | (_, d) => uptoBulk d + 1
 end
def uptoSmall : (H : Type) → List (DataW H) → Bool := fun _ ds => decide (uptoBulkAll ds ≤ 1048576)
def OpenSpec.upto (s : _root_.Go.ChangeSpec) : _root_.Go.OpenSpec := { _root_.Go.OpenSpec.ofChange s with cond := some uptoSmall }

/-- 'lockagelaw04.SectorPieces', WHERE WHAT IT READS IS OF BULK AT MOST 1048576: true; the input reads as it did. -/
def sectorPiecesUptoRow : OpenClaim := { program := "ytbdhicjebeoakaadoor", sum := "f8f4d0360aae205dfd54ecfd9932fa69423b357cc3437949f62e4544ed7e5f2f", func := "lockage/lockagelaw04.SectorPieces", spec := "sectorPieces", inPlace := ["internal/bytealg.IndexByteString", "internal/bytealg.IndexString", "internal/abi.NoEscape"], unfollowed := true, recurses := true, named := ["unicode/utf8.first", "unicode/utf8.acceptRanges", "internal/bytealg.MaxLen"], apart := false, laid := [("unicode/utf8.acceptRanges", laid_unicode_utf8_acceptRanges), ("unicode/utf8.first", laid_unicode_utf8_first)], narrowed := true }
def SectorPiecesUptoSaid : Prop := sectorPiecesUptoRow.holds Tryd.pinned (OpenSpec.upto sectorPiecesSpec)

/-- 'lockagelaw04.SectorTorn', WHERE WHAT IT READS IS OF BULK AT MOST 1048576: true; the input reads as it did. -/
def sectorTornUptoRow : OpenClaim := { program := "ytbdhicjebeoakaadoor", sum := "f8f4d0360aae205dfd54ecfd9932fa69423b357cc3437949f62e4544ed7e5f2f", func := "lockage/lockagelaw04.SectorTorn", spec := "sectorTorn", inPlace := ["internal/bytealg.IndexByteString", "internal/bytealg.IndexString", "internal/abi.NoEscape"], unfollowed := true, recurses := true, named := ["unicode/utf8.first", "unicode/utf8.acceptRanges", "internal/bytealg.MaxLen"], apart := false, laid := [("unicode/utf8.acceptRanges", laid_unicode_utf8_acceptRanges), ("unicode/utf8.first", laid_unicode_utf8_first)], narrowed := true }
def SectorTornUptoSaid : Prop := sectorTornUptoRow.holds Tryd.pinned (OpenSpec.upto sectorTornSpec)

/-- 'lockagelaw04.SectorLays', WHERE WHAT IT READS IS OF BULK AT MOST 1048576: true; the input reads as it did. -/
def sectorLaysUptoRow : OpenClaim := { program := "ytbdhicjebeoakaadoor", sum := "f8f4d0360aae205dfd54ecfd9932fa69423b357cc3437949f62e4544ed7e5f2f", func := "lockage/lockagelaw04.SectorLays", spec := "sectorLays", inPlace := ["internal/bytealg.IndexByteString", "internal/bytealg.IndexString", "internal/abi.NoEscape"], unfollowed := true, recurses := true, named := ["unicode/utf8.first", "unicode/utf8.acceptRanges", "internal/bytealg.MaxLen"], apart := false, laid := [("unicode/utf8.acceptRanges", laid_unicode_utf8_acceptRanges), ("unicode/utf8.first", laid_unicode_utf8_first)], narrowed := true }
def SectorLaysUptoSaid : Prop := sectorLaysUptoRow.holds Tryd.pinned (OpenSpec.upto sectorLaysSpec)

/-- 'lockagelaw04.SectorOne', WHERE WHAT IT READS IS OF BULK AT MOST 1048576: true; the input reads as it did. -/
def sectorOneUptoRow : OpenClaim := { program := "ytbdhicjebeoakaadoor", sum := "f8f4d0360aae205dfd54ecfd9932fa69423b357cc3437949f62e4544ed7e5f2f", func := "lockage/lockagelaw04.SectorOne", spec := "sectorOne", inPlace := ["internal/bytealg.IndexByteString", "internal/bytealg.IndexString", "internal/abi.NoEscape"], unfollowed := true, recurses := true, named := ["unicode/utf8.first", "unicode/utf8.acceptRanges", "internal/bytealg.MaxLen"], apart := false, laid := [("unicode/utf8.acceptRanges", laid_unicode_utf8_acceptRanges), ("unicode/utf8.first", laid_unicode_utf8_first)], narrowed := true }
def SectorOneUptoSaid : Prop := sectorOneUptoRow.holds Tryd.pinned (OpenSpec.upto sectorOneSpec)

/-- 'lockagelaw05.PlogNil', WHERE WHAT IT READS IS OF BULK AT MOST 1048576: true; the input reads as it did. -/
def plogNilUptoRow : OpenClaim := { program := "ytbdhicjebeoakaadoor", sum := "f8f4d0360aae205dfd54ecfd9932fa69423b357cc3437949f62e4544ed7e5f2f", func := "lockage/lockagelaw05.PlogNil", spec := "plogNil", inPlace := ["internal/bytealg.IndexByteString", "internal/bytealg.IndexString", "internal/abi.NoEscape"], unfollowed := true, recurses := true, named := ["unicode/utf8.first", "unicode/utf8.acceptRanges", "internal/bytealg.MaxLen"], apart := false, laid := [("unicode/utf8.acceptRanges", laid_unicode_utf8_acceptRanges), ("unicode/utf8.first", laid_unicode_utf8_first)], narrowed := true }
def PlogNilUptoSaid : Prop := plogNilUptoRow.holds Tryd.pinned (OpenSpec.upto plogNilSpec)

/-- 'lockagelaw05.PlogGrows', WHERE WHAT IT READS IS OF BULK AT MOST 1048576: true; the input reads as it did. -/
def plogGrowsUptoRow : OpenClaim := { program := "ytbdhicjebeoakaadoor", sum := "f8f4d0360aae205dfd54ecfd9932fa69423b357cc3437949f62e4544ed7e5f2f", func := "lockage/lockagelaw05.PlogGrows", spec := "plogGrows", inPlace := ["internal/bytealg.IndexByteString", "internal/bytealg.IndexString", "internal/abi.NoEscape"], unfollowed := true, recurses := true, named := ["unicode/utf8.first", "unicode/utf8.acceptRanges", "internal/bytealg.MaxLen"], apart := false, laid := [("unicode/utf8.acceptRanges", laid_unicode_utf8_acceptRanges), ("unicode/utf8.first", laid_unicode_utf8_first)], narrowed := true }
def PlogGrowsUptoSaid : Prop := plogGrowsUptoRow.holds Tryd.pinned (OpenSpec.upto plogGrowsSpec)

/-- 'lockagelaw05.PlogPlays', WHERE WHAT IT READS IS OF BULK AT MOST 1048576: true; the input reads as it did. -/
def plogPlaysUptoRow : OpenClaim := { program := "ytbdhicjebeoakaadoor", sum := "f8f4d0360aae205dfd54ecfd9932fa69423b357cc3437949f62e4544ed7e5f2f", func := "lockage/lockagelaw05.PlogPlays", spec := "plogPlays", inPlace := ["internal/bytealg.IndexByteString", "internal/bytealg.IndexString", "internal/abi.NoEscape"], unfollowed := true, recurses := true, named := ["unicode/utf8.first", "unicode/utf8.acceptRanges", "internal/bytealg.MaxLen"], apart := false, laid := [("unicode/utf8.acceptRanges", laid_unicode_utf8_acceptRanges), ("unicode/utf8.first", laid_unicode_utf8_first)], narrowed := true }
def PlogPlaysUptoSaid : Prop := plogPlaysUptoRow.holds Tryd.pinned (OpenSpec.upto plogPlaysSpec)

/-- 'lockagelaw05.PlogCrashes', WHERE WHAT IT READS IS OF BULK AT MOST 1048576: true; the input reads as it did. -/
def plogCrashesUptoRow : OpenClaim := { program := "ytbdhicjebeoakaadoor", sum := "f8f4d0360aae205dfd54ecfd9932fa69423b357cc3437949f62e4544ed7e5f2f", func := "lockage/lockagelaw05.PlogCrashes", spec := "plogCrashes", inPlace := ["internal/bytealg.IndexByteString", "internal/bytealg.IndexString", "internal/abi.NoEscape"], unfollowed := true, recurses := true, named := ["unicode/utf8.first", "unicode/utf8.acceptRanges", "internal/bytealg.MaxLen"], apart := false, laid := [("unicode/utf8.acceptRanges", laid_unicode_utf8_acceptRanges), ("unicode/utf8.first", laid_unicode_utf8_first)], narrowed := true }
def PlogCrashesUptoSaid : Prop := plogCrashesUptoRow.holds Tryd.pinned (OpenSpec.upto plogCrashesSpec)

end Rows
end Go.Proofs.YtbdhicjebeoakaaDoor
