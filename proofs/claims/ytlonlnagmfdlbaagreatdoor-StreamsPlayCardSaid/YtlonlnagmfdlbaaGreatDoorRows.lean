/-
  NARROWER THAN 'FOR EVERY INPUT', by the rows' own cells (each row's printed sentence says how): EditsAre: loops, laid · JoinsPairs: loops, laid · JoinsPaths: loops, laid · JoinsApart: loops, laid · StreamsUp: loops, laid · StreamsGone: loops, laid · StreamsValues: loops, laid · StreamsPlay: loops, laid.
  DERIVED. THE GIVEN ROWS OF THIS SEAT. 8 by the template 'for every input the law returns true; each argument reads behind the call as it read before'; 0 by the template 'total and deterministic' (their statements: YtlonlnagmfdlbaaGreatDoorTotals.lean).
  GIVEN WITH THE SEED: the statements are not yours to turn. If you find one false, say at which input.
  Laid BY PROGRAM, IN A SANDBOX (cutbox-rows.mjs): the forced cells as the released guide's own fill.sh prints them over the translation 213da6e22d4bf715… (all of the seat's roots in one cut). By AI agents, Wed Nov 11 2026. No macro, syntax, notation, axiom, sorry.
-/
import Derived.Test.YtlonlnagmfdlbaaGreatDoorChecked
import GoSem.PinnedTables
import GoSem.Claim
import GoSem.ClaimJoined
import GoSem.ClaimMapViews
import Derived.JoinedTies
import Derived.KernelRfl
namespace Go.Proofs.YtlonlnagmfdlbaaGreatDoor
/- THE CELL 'sum', in the pinned program and in every row, IS THE sha256 OF THE DUMP (.gsa) THAT YtlonlnagmfdlbaaGreatDoorProg.lean LOADS. Nothing in Lean hashes anything: it is a label: what it is worth is what the hold of that sum in a sandbox is worth. -/
noncomputable def Tryz.pinned : Pinned := { name := "ytlonlnagmfdlbaagreatdoor", sum := "213da6e22d4bf715f18536e023a4e07cfb5c0645cad5e5468201b3783c272941", checked := Tryz.checked }
namespace Rows
def none {H : Type} : Left H := { results := [], args := [] }

/- WHAT THE LISTED PACKAGE-LEVEL VARIABLES READ AS WHEN THE CALL BEGINS. Each datum BY PROGRAM (the guide's laid-datum.mjs) off the statement by which the dump's own 'gosem.cut.vars' lays the variable. In a bare row this is a premise. The card (YtlonlnagmfdlbaaGreatDoorCards.lean) ties it to the program's text. -/
def laid_unicode_utf8_acceptRanges {H : Type} : DataW H := .agg [.agg [.lit (.int .u8 128), .lit (.int .u8 191)], .agg [.lit (.int .u8 160), .lit (.int .u8 191)], .agg [.lit (.int .u8 128), .lit (.int .u8 159)], .agg [.lit (.int .u8 144), .lit (.int .u8 191)], .agg [.lit (.int .u8 128), .lit (.int .u8 143)], .agg [.lit (.int .u8 0), .lit (.int .u8 0)], .agg [.lit (.int .u8 0), .lit (.int .u8 0)], .agg [.lit (.int .u8 0), .lit (.int .u8 0)], .agg [.lit (.int .u8 0), .lit (.int .u8 0)], .agg [.lit (.int .u8 0), .lit (.int .u8 0)], .agg [.lit (.int .u8 0), .lit (.int .u8 0)], .agg [.lit (.int .u8 0), .lit (.int .u8 0)], .agg [.lit (.int .u8 0), .lit (.int .u8 0)], .agg [.lit (.int .u8 0), .lit (.int .u8 0)], .agg [.lit (.int .u8 0), .lit (.int .u8 0)], .agg [.lit (.int .u8 0), .lit (.int .u8 0)]]
/-- One of Go's own tables, pinned by name: the form's constant. -/
def laid_unicode_utf8_first : DataW Unit := Go.Pinned.utf8First

/-- 'orangerylaw12.EditsAre': WHATEVER THE INPUT: true; the input reads as it did. -/
def editsAreSpec : ChangeSpec := { name := "editsAre", fn := fun _ => fun
  | [d1, d2, d3, d4, d5] => { results := [.lit (.bool true)], args := [d1, d2, d3, d4, d5] }
  | _ => none }
def editsAreRow : OpenClaim := { program := "ytlonlnagmfdlbaagreatdoor", sum := "213da6e22d4bf715f18536e023a4e07cfb5c0645cad5e5468201b3783c272941", func := "orangery/orangerylaw12.EditsAre", spec := "editsAre", inPlace := ["internal/bytealg.IndexByteString", "internal/bytealg.IndexString"], unfollowed := true, recurses := true, named := ["unicode/utf8.first", "unicode/utf8.acceptRanges", "internal/bytealg.MaxLen"], loops := true, apart := false, laid := [("unicode/utf8.acceptRanges", laid_unicode_utf8_acceptRanges), ("unicode/utf8.first", laid_unicode_utf8_first)] }
def EditsAreSaid : Prop := editsAreRow.holds Tryz.pinned (OpenSpec.ofChange editsAreSpec)

/-- ITS FALSE NEIGHBOUR: 'it returns false'. Refute it at one input. -/
def editsAreWrong : ChangeSpec := { name := "editsAre", fn := fun _ => fun
  | [d1, d2, d3, d4, d5] => { results := [.lit (.bool false)], args := [d1, d2, d3, d4, d5] }
  | _ => none }
def EditsAreWrongFalsely : Prop := editsAreRow.holds Tryz.pinned (OpenSpec.ofChange editsAreWrong)

/-- 'orangerylaw20.JoinsPairs': WHATEVER THE INPUT: true; the input reads as it did. -/
def joinsPairsSpec : ChangeSpec := { name := "joinsPairs", fn := fun _ => fun
  | [d] => { results := [.lit (.bool true)], args := [d] }
  | _ => none }
def joinsPairsRow : OpenClaim := { program := "ytlonlnagmfdlbaagreatdoor", sum := "213da6e22d4bf715f18536e023a4e07cfb5c0645cad5e5468201b3783c272941", func := "orangery/orangerylaw20.JoinsPairs", spec := "joinsPairs", inPlace := ["internal/bytealg.IndexByteString", "internal/bytealg.IndexString", "slices.overlaps[orangery/streams.Doc]", "slices.overlaps[[]int]"], unfollowed := true, recurses := true, named := ["unicode/utf8.first", "unicode/utf8.acceptRanges", "internal/bytealg.MaxLen"], loops := true, apart := false, laid := [("unicode/utf8.acceptRanges", laid_unicode_utf8_acceptRanges), ("unicode/utf8.first", laid_unicode_utf8_first)] }
def JoinsPairsSaid : Prop := joinsPairsRow.holds Tryz.pinned (OpenSpec.ofChange joinsPairsSpec)

/-- ITS FALSE NEIGHBOUR: 'it returns false'. Refute it at one input. -/
def joinsPairsWrong : ChangeSpec := { name := "joinsPairs", fn := fun _ => fun
  | [d] => { results := [.lit (.bool false)], args := [d] }
  | _ => none }
def JoinsPairsWrongFalsely : Prop := joinsPairsRow.holds Tryz.pinned (OpenSpec.ofChange joinsPairsWrong)

/-- 'orangerylaw20.JoinsPaths': WHATEVER THE INPUT: true; the input reads as it did. -/
def joinsPathsSpec : ChangeSpec := { name := "joinsPaths", fn := fun _ => fun
  | [d1, d2, d3, d4] => { results := [.lit (.bool true)], args := [d1, d2, d3, d4] }
  | _ => none }
def joinsPathsRow : OpenClaim := { program := "ytlonlnagmfdlbaagreatdoor", sum := "213da6e22d4bf715f18536e023a4e07cfb5c0645cad5e5468201b3783c272941", func := "orangery/orangerylaw20.JoinsPaths", spec := "joinsPaths", inPlace := ["internal/bytealg.IndexByteString", "internal/bytealg.IndexString", "slices.overlaps[orangery/streams.Doc]", "slices.overlaps[[]int]"], unfollowed := true, recurses := true, named := ["unicode/utf8.first", "unicode/utf8.acceptRanges", "internal/bytealg.MaxLen"], loops := true, apart := false, laid := [("unicode/utf8.acceptRanges", laid_unicode_utf8_acceptRanges), ("unicode/utf8.first", laid_unicode_utf8_first)] }
def JoinsPathsSaid : Prop := joinsPathsRow.holds Tryz.pinned (OpenSpec.ofChange joinsPathsSpec)

/-- ITS FALSE NEIGHBOUR: 'it returns false'. Refute it at one input. -/
def joinsPathsWrong : ChangeSpec := { name := "joinsPaths", fn := fun _ => fun
  | [d1, d2, d3, d4] => { results := [.lit (.bool false)], args := [d1, d2, d3, d4] }
  | _ => none }
def JoinsPathsWrongFalsely : Prop := joinsPathsRow.holds Tryz.pinned (OpenSpec.ofChange joinsPathsWrong)

/-- 'orangerylaw20.JoinsApart': WHATEVER THE INPUT: true; the input reads as it did. -/
def joinsApartSpec : ChangeSpec := { name := "joinsApart", fn := fun _ => fun
  | [d1, d2] => { results := [.lit (.bool true)], args := [d1, d2] }
  | _ => none }
def joinsApartRow : OpenClaim := { program := "ytlonlnagmfdlbaagreatdoor", sum := "213da6e22d4bf715f18536e023a4e07cfb5c0645cad5e5468201b3783c272941", func := "orangery/orangerylaw20.JoinsApart", spec := "joinsApart", inPlace := ["internal/bytealg.IndexByteString", "internal/bytealg.IndexString", "slices.overlaps[orangery/streams.Doc]", "slices.overlaps[[]int]"], unfollowed := true, recurses := true, named := ["unicode/utf8.first", "unicode/utf8.acceptRanges", "internal/bytealg.MaxLen"], loops := true, apart := false, laid := [("unicode/utf8.acceptRanges", laid_unicode_utf8_acceptRanges), ("unicode/utf8.first", laid_unicode_utf8_first)] }
def JoinsApartSaid : Prop := joinsApartRow.holds Tryz.pinned (OpenSpec.ofChange joinsApartSpec)

/-- ITS FALSE NEIGHBOUR: 'it returns false'. Refute it at one input. -/
def joinsApartWrong : ChangeSpec := { name := "joinsApart", fn := fun _ => fun
  | [d1, d2] => { results := [.lit (.bool false)], args := [d1, d2] }
  | _ => none }
def JoinsApartWrongFalsely : Prop := joinsApartRow.holds Tryz.pinned (OpenSpec.ofChange joinsApartWrong)

/-- 'orangerylaw19.StreamsUp': WHATEVER THE INPUT: true; the input reads as it did. -/
def streamsUpSpec : ChangeSpec := { name := "streamsUp", fn := fun _ => fun
  | [d] => { results := [.lit (.bool true)], args := [d] }
  | _ => none }
def streamsUpRow : OpenClaim := { program := "ytlonlnagmfdlbaagreatdoor", sum := "213da6e22d4bf715f18536e023a4e07cfb5c0645cad5e5468201b3783c272941", func := "orangery/orangerylaw19.StreamsUp", spec := "streamsUp", inPlace := ["internal/bytealg.IndexByteString", "internal/bytealg.IndexString", "slices.overlaps[orangery/streams.Doc]", "slices.overlaps[[]int]", "internal/bytealg.CountString", "internal/abi.NoEscape", "internal/bytealg.MakeNoZero"], unfollowed := true, recurses := true, named := ["unicode/utf8.first", "unicode/utf8.acceptRanges", "internal/bytealg.MaxLen"], loops := true, apart := false, laid := [("unicode/utf8.acceptRanges", laid_unicode_utf8_acceptRanges), ("unicode/utf8.first", laid_unicode_utf8_first)] }
def StreamsUpSaid : Prop := streamsUpRow.holds Tryz.pinned (OpenSpec.ofChange streamsUpSpec)

/-- ITS FALSE NEIGHBOUR: 'it returns false'. Refute it at one input. -/
def streamsUpWrong : ChangeSpec := { name := "streamsUp", fn := fun _ => fun
  | [d] => { results := [.lit (.bool false)], args := [d] }
  | _ => none }
def StreamsUpWrongFalsely : Prop := streamsUpRow.holds Tryz.pinned (OpenSpec.ofChange streamsUpWrong)

/-- 'orangerylaw19.StreamsGone': WHATEVER THE INPUT: true; the input reads as it did. -/
def streamsGoneSpec : ChangeSpec := { name := "streamsGone", fn := fun _ => fun
  | [d1, d2, d3] => { results := [.lit (.bool true)], args := [d1, d2, d3] }
  | _ => none }
def streamsGoneRow : OpenClaim := { program := "ytlonlnagmfdlbaagreatdoor", sum := "213da6e22d4bf715f18536e023a4e07cfb5c0645cad5e5468201b3783c272941", func := "orangery/orangerylaw19.StreamsGone", spec := "streamsGone", inPlace := ["internal/bytealg.IndexByteString", "internal/bytealg.IndexString", "slices.overlaps[orangery/streams.Doc]", "slices.overlaps[[]int]", "internal/bytealg.CountString", "internal/abi.NoEscape", "internal/bytealg.MakeNoZero"], unfollowed := true, recurses := true, named := ["unicode/utf8.first", "unicode/utf8.acceptRanges", "internal/bytealg.MaxLen"], loops := true, apart := false, laid := [("unicode/utf8.acceptRanges", laid_unicode_utf8_acceptRanges), ("unicode/utf8.first", laid_unicode_utf8_first)] }
def StreamsGoneSaid : Prop := streamsGoneRow.holds Tryz.pinned (OpenSpec.ofChange streamsGoneSpec)

/-- ITS FALSE NEIGHBOUR: 'it returns false'. Refute it at one input. -/
def streamsGoneWrong : ChangeSpec := { name := "streamsGone", fn := fun _ => fun
  | [d1, d2, d3] => { results := [.lit (.bool false)], args := [d1, d2, d3] }
  | _ => none }
def StreamsGoneWrongFalsely : Prop := streamsGoneRow.holds Tryz.pinned (OpenSpec.ofChange streamsGoneWrong)

/-- 'orangerylaw19.StreamsValues': WHATEVER THE INPUT: true; the input reads as it did. -/
def streamsValuesSpec : ChangeSpec := { name := "streamsValues", fn := fun _ => fun
  | [d1, d2, d3, d4, d5] => { results := [.lit (.bool true)], args := [d1, d2, d3, d4, d5] }
  | _ => none }
def streamsValuesRow : OpenClaim := { program := "ytlonlnagmfdlbaagreatdoor", sum := "213da6e22d4bf715f18536e023a4e07cfb5c0645cad5e5468201b3783c272941", func := "orangery/orangerylaw19.StreamsValues", spec := "streamsValues", inPlace := ["internal/bytealg.IndexByteString", "internal/bytealg.IndexString", "slices.overlaps[orangery/streams.Doc]", "slices.overlaps[[]int]", "internal/bytealg.CountString", "internal/abi.NoEscape", "internal/bytealg.MakeNoZero", "internal/bytealg.Compare"], unfollowed := true, recurses := true, named := ["unicode/utf8.first", "unicode/utf8.acceptRanges", "internal/bytealg.MaxLen"], loops := true, apart := false, laid := [("unicode/utf8.acceptRanges", laid_unicode_utf8_acceptRanges), ("unicode/utf8.first", laid_unicode_utf8_first)] }
def StreamsValuesSaid : Prop := streamsValuesRow.holds Tryz.pinned (OpenSpec.ofChange streamsValuesSpec)

/-- ITS FALSE NEIGHBOUR: 'it returns false'. Refute it at one input. -/
def streamsValuesWrong : ChangeSpec := { name := "streamsValues", fn := fun _ => fun
  | [d1, d2, d3, d4, d5] => { results := [.lit (.bool false)], args := [d1, d2, d3, d4, d5] }
  | _ => none }
def StreamsValuesWrongFalsely : Prop := streamsValuesRow.holds Tryz.pinned (OpenSpec.ofChange streamsValuesWrong)

/-- 'orangerylaw19.StreamsPlay': WHATEVER THE INPUT: true; the input reads as it did. -/
def streamsPlaySpec : ChangeSpec := { name := "streamsPlay", fn := fun _ => fun
  | [d1, d2, d3, d4, d5, d6] => { results := [.lit (.bool true)], args := [d1, d2, d3, d4, d5, d6] }
  | _ => none }
def streamsPlayRow : OpenClaim := { program := "ytlonlnagmfdlbaagreatdoor", sum := "213da6e22d4bf715f18536e023a4e07cfb5c0645cad5e5468201b3783c272941", func := "orangery/orangerylaw19.StreamsPlay", spec := "streamsPlay", inPlace := ["internal/bytealg.IndexByteString", "internal/bytealg.IndexString", "slices.overlaps[orangery/streams.Doc]", "slices.overlaps[[]int]", "internal/bytealg.CountString", "internal/abi.NoEscape", "internal/bytealg.MakeNoZero", "internal/bytealg.Compare"], unfollowed := true, recurses := true, named := ["unicode/utf8.first", "unicode/utf8.acceptRanges", "internal/bytealg.MaxLen"], loops := true, apart := false, laid := [("unicode/utf8.acceptRanges", laid_unicode_utf8_acceptRanges), ("unicode/utf8.first", laid_unicode_utf8_first)] }
def StreamsPlaySaid : Prop := streamsPlayRow.holds Tryz.pinned (OpenSpec.ofChange streamsPlaySpec)

/-- ITS FALSE NEIGHBOUR: 'it returns false'. Refute it at one input. -/
def streamsPlayWrong : ChangeSpec := { name := "streamsPlay", fn := fun _ => fun
  | [d1, d2, d3, d4, d5, d6] => { results := [.lit (.bool false)], args := [d1, d2, d3, d4, d5, d6] }
  | _ => none }
def StreamsPlayWrongFalsely : Prop := streamsPlayRow.holds Tryz.pinned (OpenSpec.ofChange streamsPlayWrong)

/- THE SECOND FORM. 'bulk': how many values and letters a reading holds, each counted each time it is reached (what is shared counts as often as it is met; a slice's spare places count too). A statement '..UptoSaid' is the law's where the arguments, and the package variables that the reading takes, are together of bulk at most 1048576: NARROWER than '..Said'. Prove '..Said' where nothing that the law and all that it calls make is longer than what came in: it says more and counts as full. Else prove '..UptoSaid'. A law counts once. -/
mutual
def uptoBulk {H : Type} : DataW H → Nat
  | .lit (.string bytes) => bytes.length + 1
  | .lit _ => 1
  | .nil => 1
  | .ptr d => uptoBulk d + 1
  | .slice elems spare => uptoBulkAll elems + uptoBulkAll spare + 1
  | .agg parts => uptoBulkAll parts + 1
  | .iface _ d => uptoBulk d + 1
  | .map entries => uptoBulkEntries entries + 1
  | .held _ => 1
def uptoBulkAll {H : Type} : List (DataW H) → Nat
  | [] => 0
  | d :: r => uptoBulk d + uptoBulkAll r
def uptoBulkEntries {H : Type} : List (Lit × DataW H) → Nat
  | [] => 0
  | x :: r => uptoBulkEntry x + uptoBulkEntries r
def uptoBulkEntry {H : Type} : Lit × DataW H → Nat
  | (.string bytes, d) => bytes.length + uptoBulk d + 1
  | (_, d) => uptoBulk d + 1
 end
def uptoSmall : (H : Type) → List (DataW H) → Bool := fun _ ds => decide (uptoBulkAll ds ≤ 1048576)
def OpenSpec.upto (s : _root_.Go.ChangeSpec) : _root_.Go.OpenSpec := { _root_.Go.OpenSpec.ofChange s with cond := some uptoSmall }

/-- 'orangerylaw12.EditsAre', WHERE WHAT IT READS IS OF BULK AT MOST 1048576: true; the input reads as it did. -/
def editsAreUptoRow : OpenClaim := { program := "ytlonlnagmfdlbaagreatdoor", sum := "213da6e22d4bf715f18536e023a4e07cfb5c0645cad5e5468201b3783c272941", func := "orangery/orangerylaw12.EditsAre", spec := "editsAre", inPlace := ["internal/bytealg.IndexByteString", "internal/bytealg.IndexString"], unfollowed := true, recurses := true, named := ["unicode/utf8.first", "unicode/utf8.acceptRanges", "internal/bytealg.MaxLen"], loops := true, apart := false, laid := [("unicode/utf8.acceptRanges", laid_unicode_utf8_acceptRanges), ("unicode/utf8.first", laid_unicode_utf8_first)], narrowed := true }
def EditsAreUptoSaid : Prop := editsAreUptoRow.holds Tryz.pinned (OpenSpec.upto editsAreSpec)

/-- 'orangerylaw20.JoinsPairs', WHERE WHAT IT READS IS OF BULK AT MOST 1048576: true; the input reads as it did. -/
def joinsPairsUptoRow : OpenClaim := { program := "ytlonlnagmfdlbaagreatdoor", sum := "213da6e22d4bf715f18536e023a4e07cfb5c0645cad5e5468201b3783c272941", func := "orangery/orangerylaw20.JoinsPairs", spec := "joinsPairs", inPlace := ["internal/bytealg.IndexByteString", "internal/bytealg.IndexString", "slices.overlaps[orangery/streams.Doc]", "slices.overlaps[[]int]"], unfollowed := true, recurses := true, named := ["unicode/utf8.first", "unicode/utf8.acceptRanges", "internal/bytealg.MaxLen"], loops := true, apart := false, laid := [("unicode/utf8.acceptRanges", laid_unicode_utf8_acceptRanges), ("unicode/utf8.first", laid_unicode_utf8_first)], narrowed := true }
def JoinsPairsUptoSaid : Prop := joinsPairsUptoRow.holds Tryz.pinned (OpenSpec.upto joinsPairsSpec)

/-- 'orangerylaw20.JoinsPaths', WHERE WHAT IT READS IS OF BULK AT MOST 1048576: true; the input reads as it did. -/
def joinsPathsUptoRow : OpenClaim := { program := "ytlonlnagmfdlbaagreatdoor", sum := "213da6e22d4bf715f18536e023a4e07cfb5c0645cad5e5468201b3783c272941", func := "orangery/orangerylaw20.JoinsPaths", spec := "joinsPaths", inPlace := ["internal/bytealg.IndexByteString", "internal/bytealg.IndexString", "slices.overlaps[orangery/streams.Doc]", "slices.overlaps[[]int]"], unfollowed := true, recurses := true, named := ["unicode/utf8.first", "unicode/utf8.acceptRanges", "internal/bytealg.MaxLen"], loops := true, apart := false, laid := [("unicode/utf8.acceptRanges", laid_unicode_utf8_acceptRanges), ("unicode/utf8.first", laid_unicode_utf8_first)], narrowed := true }
def JoinsPathsUptoSaid : Prop := joinsPathsUptoRow.holds Tryz.pinned (OpenSpec.upto joinsPathsSpec)

/-- 'orangerylaw20.JoinsApart', WHERE WHAT IT READS IS OF BULK AT MOST 1048576: true; the input reads as it did. -/
def joinsApartUptoRow : OpenClaim := { program := "ytlonlnagmfdlbaagreatdoor", sum := "213da6e22d4bf715f18536e023a4e07cfb5c0645cad5e5468201b3783c272941", func := "orangery/orangerylaw20.JoinsApart", spec := "joinsApart", inPlace := ["internal/bytealg.IndexByteString", "internal/bytealg.IndexString", "slices.overlaps[orangery/streams.Doc]", "slices.overlaps[[]int]"], unfollowed := true, recurses := true, named := ["unicode/utf8.first", "unicode/utf8.acceptRanges", "internal/bytealg.MaxLen"], loops := true, apart := false, laid := [("unicode/utf8.acceptRanges", laid_unicode_utf8_acceptRanges), ("unicode/utf8.first", laid_unicode_utf8_first)], narrowed := true }
def JoinsApartUptoSaid : Prop := joinsApartUptoRow.holds Tryz.pinned (OpenSpec.upto joinsApartSpec)

/-- 'orangerylaw19.StreamsUp', WHERE WHAT IT READS IS OF BULK AT MOST 1048576: true; the input reads as it did. -/
def streamsUpUptoRow : OpenClaim := { program := "ytlonlnagmfdlbaagreatdoor", sum := "213da6e22d4bf715f18536e023a4e07cfb5c0645cad5e5468201b3783c272941", func := "orangery/orangerylaw19.StreamsUp", spec := "streamsUp", inPlace := ["internal/bytealg.IndexByteString", "internal/bytealg.IndexString", "slices.overlaps[orangery/streams.Doc]", "slices.overlaps[[]int]", "internal/bytealg.CountString", "internal/abi.NoEscape", "internal/bytealg.MakeNoZero"], unfollowed := true, recurses := true, named := ["unicode/utf8.first", "unicode/utf8.acceptRanges", "internal/bytealg.MaxLen"], loops := true, apart := false, laid := [("unicode/utf8.acceptRanges", laid_unicode_utf8_acceptRanges), ("unicode/utf8.first", laid_unicode_utf8_first)], narrowed := true }
def StreamsUpUptoSaid : Prop := streamsUpUptoRow.holds Tryz.pinned (OpenSpec.upto streamsUpSpec)

/-- 'orangerylaw19.StreamsGone', WHERE WHAT IT READS IS OF BULK AT MOST 1048576: true; the input reads as it did. -/
def streamsGoneUptoRow : OpenClaim := { program := "ytlonlnagmfdlbaagreatdoor", sum := "213da6e22d4bf715f18536e023a4e07cfb5c0645cad5e5468201b3783c272941", func := "orangery/orangerylaw19.StreamsGone", spec := "streamsGone", inPlace := ["internal/bytealg.IndexByteString", "internal/bytealg.IndexString", "slices.overlaps[orangery/streams.Doc]", "slices.overlaps[[]int]", "internal/bytealg.CountString", "internal/abi.NoEscape", "internal/bytealg.MakeNoZero"], unfollowed := true, recurses := true, named := ["unicode/utf8.first", "unicode/utf8.acceptRanges", "internal/bytealg.MaxLen"], loops := true, apart := false, laid := [("unicode/utf8.acceptRanges", laid_unicode_utf8_acceptRanges), ("unicode/utf8.first", laid_unicode_utf8_first)], narrowed := true }
def StreamsGoneUptoSaid : Prop := streamsGoneUptoRow.holds Tryz.pinned (OpenSpec.upto streamsGoneSpec)

/-- 'orangerylaw19.StreamsValues', WHERE WHAT IT READS IS OF BULK AT MOST 1048576: true; the input reads as it did. -/
def streamsValuesUptoRow : OpenClaim := { program := "ytlonlnagmfdlbaagreatdoor", sum := "213da6e22d4bf715f18536e023a4e07cfb5c0645cad5e5468201b3783c272941", func := "orangery/orangerylaw19.StreamsValues", spec := "streamsValues", inPlace := ["internal/bytealg.IndexByteString", "internal/bytealg.IndexString", "slices.overlaps[orangery/streams.Doc]", "slices.overlaps[[]int]", "internal/bytealg.CountString", "internal/abi.NoEscape", "internal/bytealg.MakeNoZero", "internal/bytealg.Compare"], unfollowed := true, recurses := true, named := ["unicode/utf8.first", "unicode/utf8.acceptRanges", "internal/bytealg.MaxLen"], loops := true, apart := false, laid := [("unicode/utf8.acceptRanges", laid_unicode_utf8_acceptRanges), ("unicode/utf8.first", laid_unicode_utf8_first)], narrowed := true }
def StreamsValuesUptoSaid : Prop := streamsValuesUptoRow.holds Tryz.pinned (OpenSpec.upto streamsValuesSpec)

/-- 'orangerylaw19.StreamsPlay', WHERE WHAT IT READS IS OF BULK AT MOST 1048576: true; the input reads as it did. -/
def streamsPlayUptoRow : OpenClaim := { program := "ytlonlnagmfdlbaagreatdoor", sum := "213da6e22d4bf715f18536e023a4e07cfb5c0645cad5e5468201b3783c272941", func := "orangery/orangerylaw19.StreamsPlay", spec := "streamsPlay", inPlace := ["internal/bytealg.IndexByteString", "internal/bytealg.IndexString", "slices.overlaps[orangery/streams.Doc]", "slices.overlaps[[]int]", "internal/bytealg.CountString", "internal/abi.NoEscape", "internal/bytealg.MakeNoZero", "internal/bytealg.Compare"], unfollowed := true, recurses := true, named := ["unicode/utf8.first", "unicode/utf8.acceptRanges", "internal/bytealg.MaxLen"], loops := true, apart := false, laid := [("unicode/utf8.acceptRanges", laid_unicode_utf8_acceptRanges), ("unicode/utf8.first", laid_unicode_utf8_first)], narrowed := true }
def StreamsPlayUptoSaid : Prop := streamsPlayUptoRow.holds Tryz.pinned (OpenSpec.upto streamsPlaySpec)

end Rows
end Go.Proofs.YtlonlnagmfdlbaaGreatDoor
