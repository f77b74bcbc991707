/-
  NARROWER THAN 'FOR EVERY INPUT', by the rows' own cells (each row's printed sentence says how): ShredMoves: loops, laid · ShredBack: loops, laid · ShredCounts: loops, laid · ShredLies: loops, laid · ShredIs: loops, laid · ShredPlaces: loops, laid · GuideAdds: laid · GuideCounts: loops, laid · GuideBelow: laid · EditsMany: laid · EditsSpread: loops, laid · EditsBack: loops, laid · EditsInsert: loops, laid · EditsDrop: loops, laid · EditsReplace: loops, laid.
  DERIVED. THE GIVEN ROWS OF THIS SEAT. 15 by the template 'for every input the law returns true; each argument reads behind the call as it read before'; 0 by the template 'total and deterministic' (their statements: YtadnijcgohflhaaDoorTotals.lean).
  GIVEN WITH THE SEED: the statements are not yours to turn. If you find one false, say at which input.
  Laid BY PROGRAM, IN A SANDBOX (cutbox-rows.mjs): the forced cells as the released guide's own fill.sh prints them over the translation d2066f4cd47fb115… (all of the seat's roots in one cut). By AI agents, Wed Nov 11 2026. No macro, syntax, notation, axiom, sorry.
-/
import Derived.Test.YtadnijcgohflhaaDoorChecked
import GoSem.PinnedTables
import GoSem.Claim
import GoSem.ClaimJoined
import GoSem.ClaimMapViews
import Derived.JoinedTies
import Derived.KernelRfl
namespace Go.Proofs.YtadnijcgohflhaaDoor
/- THE CELL 'sum', in the pinned program and in every row, IS THE sha256 OF THE DUMP (.gsa) THAT YtadnijcgohflhaaDoorProg.lean LOADS. Nothing in Lean hashes anything: it is a label: what it is worth is what the hold of that sum in a sandbox is worth. -/
noncomputable def Tryd.pinned : Pinned := { name := "ytadnijcgohflhaadoor", sum := "d2066f4cd47fb1154b86d21462df42ace5b8cb6484879f159f1519da613f037a", checked := Tryd.checked }
namespace Rows
def none {H : Type} : Left H := { results := [], args := [] }

/- WHAT THE LISTED PACKAGE-LEVEL VARIABLES READ AS WHEN THE CALL BEGINS. Each datum BY PROGRAM (the guide's laid-datum.mjs) off the statement by which the dump's own 'gosem.cut.vars' lays the variable. In a bare row this is a premise. The card (YtadnijcgohflhaaDoorCards.lean) ties it to the program's text. -/
def laid_unicode_utf8_acceptRanges {H : Type} : DataW H := .agg [.agg [.lit (.int .u8 128), .lit (.int .u8 191)], .agg [.lit (.int .u8 160), .lit (.int .u8 191)], .agg [.lit (.int .u8 128), .lit (.int .u8 159)], .agg [.lit (.int .u8 144), .lit (.int .u8 191)], .agg [.lit (.int .u8 128), .lit (.int .u8 143)], .agg [.lit (.int .u8 0), .lit (.int .u8 0)], .agg [.lit (.int .u8 0), .lit (.int .u8 0)], .agg [.lit (.int .u8 0), .lit (.int .u8 0)], .agg [.lit (.int .u8 0), .lit (.int .u8 0)], .agg [.lit (.int .u8 0), .lit (.int .u8 0)], .agg [.lit (.int .u8 0), .lit (.int .u8 0)], .agg [.lit (.int .u8 0), .lit (.int .u8 0)], .agg [.lit (.int .u8 0), .lit (.int .u8 0)], .agg [.lit (.int .u8 0), .lit (.int .u8 0)], .agg [.lit (.int .u8 0), .lit (.int .u8 0)], .agg [.lit (.int .u8 0), .lit (.int .u8 0)]]
/-- One of Go's own tables, pinned by name: the form's constant. -/
def laid_unicode_utf8_first : DataW Unit := Go.Pinned.utf8First

/-- 'orangerylaw11.ShredMoves': WHATEVER THE INPUT: true; the input reads as it did. -/
def shredMovesSpec : ChangeSpec := { name := "shredMoves", fn := fun _ => fun
  | [d1, d2, d3] => { results := [.lit (.bool true)], args := [d1, d2, d3] }
  | _ => none }
def shredMovesRow : OpenClaim := { program := "ytadnijcgohflhaadoor", sum := "d2066f4cd47fb1154b86d21462df42ace5b8cb6484879f159f1519da613f037a", func := "orangery/orangerylaw11.ShredMoves", spec := "shredMoves", inPlace := ["internal/bytealg.IndexByteString", "internal/bytealg.IndexString"], unfollowed := true, recurses := true, named := ["unicode/utf8.first", "unicode/utf8.acceptRanges", "internal/bytealg.MaxLen"], loops := true, apart := false, laid := [("unicode/utf8.acceptRanges", laid_unicode_utf8_acceptRanges), ("unicode/utf8.first", laid_unicode_utf8_first)] }
def ShredMovesSaid : Prop := shredMovesRow.holds Tryd.pinned (OpenSpec.ofChange shredMovesSpec)

/-- ITS FALSE NEIGHBOUR: 'it returns false'. Refute it at one input. -/
def shredMovesWrong : ChangeSpec := { name := "shredMoves", fn := fun _ => fun
  | [d1, d2, d3] => { results := [.lit (.bool false)], args := [d1, d2, d3] }
  | _ => none }
def ShredMovesWrongFalsely : Prop := shredMovesRow.holds Tryd.pinned (OpenSpec.ofChange shredMovesWrong)

/-- 'orangerylaw11.ShredBack': WHATEVER THE INPUT: true; the input reads as it did. -/
def shredBackSpec : ChangeSpec := { name := "shredBack", fn := fun _ => fun
  | [d1, d2] => { results := [.lit (.bool true)], args := [d1, d2] }
  | _ => none }
def shredBackRow : OpenClaim := { program := "ytadnijcgohflhaadoor", sum := "d2066f4cd47fb1154b86d21462df42ace5b8cb6484879f159f1519da613f037a", func := "orangery/orangerylaw11.ShredBack", spec := "shredBack", inPlace := ["internal/bytealg.IndexByteString", "internal/bytealg.IndexString"], unfollowed := true, recurses := true, named := ["unicode/utf8.first", "unicode/utf8.acceptRanges", "internal/bytealg.MaxLen"], loops := true, apart := false, laid := [("unicode/utf8.acceptRanges", laid_unicode_utf8_acceptRanges), ("unicode/utf8.first", laid_unicode_utf8_first)] }
def ShredBackSaid : Prop := shredBackRow.holds Tryd.pinned (OpenSpec.ofChange shredBackSpec)

/-- ITS FALSE NEIGHBOUR: 'it returns false'. Refute it at one input. -/
def shredBackWrong : ChangeSpec := { name := "shredBack", fn := fun _ => fun
  | [d1, d2] => { results := [.lit (.bool false)], args := [d1, d2] }
  | _ => none }
def ShredBackWrongFalsely : Prop := shredBackRow.holds Tryd.pinned (OpenSpec.ofChange shredBackWrong)

/-- 'orangerylaw11.ShredCounts': WHATEVER THE INPUT: true; the input reads as it did. -/
def shredCountsSpec : ChangeSpec := { name := "shredCounts", fn := fun _ => fun
  | [d1, d2] => { results := [.lit (.bool true)], args := [d1, d2] }
  | _ => none }
def shredCountsRow : OpenClaim := { program := "ytadnijcgohflhaadoor", sum := "d2066f4cd47fb1154b86d21462df42ace5b8cb6484879f159f1519da613f037a", func := "orangery/orangerylaw11.ShredCounts", spec := "shredCounts", inPlace := ["internal/bytealg.IndexByteString", "internal/bytealg.IndexString"], unfollowed := true, recurses := true, named := ["unicode/utf8.first", "unicode/utf8.acceptRanges", "internal/bytealg.MaxLen"], loops := true, apart := false, laid := [("unicode/utf8.acceptRanges", laid_unicode_utf8_acceptRanges), ("unicode/utf8.first", laid_unicode_utf8_first)] }
def ShredCountsSaid : Prop := shredCountsRow.holds Tryd.pinned (OpenSpec.ofChange shredCountsSpec)

/-- ITS FALSE NEIGHBOUR: 'it returns false'. Refute it at one input. -/
def shredCountsWrong : ChangeSpec := { name := "shredCounts", fn := fun _ => fun
  | [d1, d2] => { results := [.lit (.bool false)], args := [d1, d2] }
  | _ => none }
def ShredCountsWrongFalsely : Prop := shredCountsRow.holds Tryd.pinned (OpenSpec.ofChange shredCountsWrong)

/-- 'orangerylaw11.ShredLies': WHATEVER THE INPUT: true; the input reads as it did. -/
def shredLiesSpec : ChangeSpec := { name := "shredLies", fn := fun _ => fun
  | [d1, d2, d3] => { results := [.lit (.bool true)], args := [d1, d2, d3] }
  | _ => none }
def shredLiesRow : OpenClaim := { program := "ytadnijcgohflhaadoor", sum := "d2066f4cd47fb1154b86d21462df42ace5b8cb6484879f159f1519da613f037a", func := "orangery/orangerylaw11.ShredLies", spec := "shredLies", inPlace := ["internal/bytealg.IndexByteString", "internal/bytealg.IndexString"], unfollowed := true, recurses := true, named := ["unicode/utf8.first", "unicode/utf8.acceptRanges", "internal/bytealg.MaxLen"], loops := true, apart := false, laid := [("unicode/utf8.acceptRanges", laid_unicode_utf8_acceptRanges), ("unicode/utf8.first", laid_unicode_utf8_first)] }
def ShredLiesSaid : Prop := shredLiesRow.holds Tryd.pinned (OpenSpec.ofChange shredLiesSpec)

/-- ITS FALSE NEIGHBOUR: 'it returns false'. Refute it at one input. -/
def shredLiesWrong : ChangeSpec := { name := "shredLies", fn := fun _ => fun
  | [d1, d2, d3] => { results := [.lit (.bool false)], args := [d1, d2, d3] }
  | _ => none }
def ShredLiesWrongFalsely : Prop := shredLiesRow.holds Tryd.pinned (OpenSpec.ofChange shredLiesWrong)

/-- 'orangerylaw11.ShredIs': WHATEVER THE INPUT: true; the input reads as it did. -/
def shredIsSpec : ChangeSpec := { name := "shredIs", fn := fun _ => fun
  | [d1, d2, d3, d4, d5] => { results := [.lit (.bool true)], args := [d1, d2, d3, d4, d5] }
  | _ => none }
def shredIsRow : OpenClaim := { program := "ytadnijcgohflhaadoor", sum := "d2066f4cd47fb1154b86d21462df42ace5b8cb6484879f159f1519da613f037a", func := "orangery/orangerylaw11.ShredIs", spec := "shredIs", inPlace := ["internal/bytealg.IndexByteString", "internal/bytealg.IndexString"], unfollowed := true, recurses := true, named := ["unicode/utf8.first", "unicode/utf8.acceptRanges", "internal/bytealg.MaxLen"], loops := true, apart := false, laid := [("unicode/utf8.acceptRanges", laid_unicode_utf8_acceptRanges), ("unicode/utf8.first", laid_unicode_utf8_first)] }
def ShredIsSaid : Prop := shredIsRow.holds Tryd.pinned (OpenSpec.ofChange shredIsSpec)

/-- ITS FALSE NEIGHBOUR: 'it returns false'. Refute it at one input. -/
def shredIsWrong : ChangeSpec := { name := "shredIs", fn := fun _ => fun
  | [d1, d2, d3, d4, d5] => { results := [.lit (.bool false)], args := [d1, d2, d3, d4, d5] }
  | _ => none }
def ShredIsWrongFalsely : Prop := shredIsRow.holds Tryd.pinned (OpenSpec.ofChange shredIsWrong)

/-- 'orangerylaw11.ShredPlaces': WHATEVER THE INPUT: true; the input reads as it did. -/
def shredPlacesSpec : ChangeSpec := { name := "shredPlaces", fn := fun _ => fun
  | [d1, d2] => { results := [.lit (.bool true)], args := [d1, d2] }
  | _ => none }
def shredPlacesRow : OpenClaim := { program := "ytadnijcgohflhaadoor", sum := "d2066f4cd47fb1154b86d21462df42ace5b8cb6484879f159f1519da613f037a", func := "orangery/orangerylaw11.ShredPlaces", spec := "shredPlaces", inPlace := ["internal/bytealg.IndexByteString", "internal/bytealg.IndexString"], unfollowed := true, recurses := true, named := ["unicode/utf8.first", "unicode/utf8.acceptRanges", "internal/bytealg.MaxLen"], loops := true, apart := false, laid := [("unicode/utf8.acceptRanges", laid_unicode_utf8_acceptRanges), ("unicode/utf8.first", laid_unicode_utf8_first)] }
def ShredPlacesSaid : Prop := shredPlacesRow.holds Tryd.pinned (OpenSpec.ofChange shredPlacesSpec)

/-- ITS FALSE NEIGHBOUR: 'it returns false'. Refute it at one input. -/
def shredPlacesWrong : ChangeSpec := { name := "shredPlaces", fn := fun _ => fun
  | [d1, d2] => { results := [.lit (.bool false)], args := [d1, d2] }
  | _ => none }
def ShredPlacesWrongFalsely : Prop := shredPlacesRow.holds Tryd.pinned (OpenSpec.ofChange shredPlacesWrong)

/-- 'orangerylaw13.GuideAdds': WHATEVER THE INPUT: true; the input reads as it did. -/
def guideAddsSpec : ChangeSpec := { name := "guideAdds", fn := fun _ => fun
  | [d] => { results := [.lit (.bool true)], args := [d] }
  | _ => none }
def guideAddsRow : OpenClaim := { program := "ytadnijcgohflhaadoor", sum := "d2066f4cd47fb1154b86d21462df42ace5b8cb6484879f159f1519da613f037a", func := "orangery/orangerylaw13.GuideAdds", spec := "guideAdds", inPlace := ["internal/bytealg.IndexByteString", "internal/bytealg.IndexString"], unfollowed := true, recurses := true, named := ["unicode/utf8.first", "unicode/utf8.acceptRanges", "internal/bytealg.MaxLen"], apart := false, laid := [("unicode/utf8.acceptRanges", laid_unicode_utf8_acceptRanges), ("unicode/utf8.first", laid_unicode_utf8_first)] }
def GuideAddsSaid : Prop := guideAddsRow.holds Tryd.pinned (OpenSpec.ofChange guideAddsSpec)

/-- ITS FALSE NEIGHBOUR: 'it returns false'. Refute it at one input. -/
def guideAddsWrong : ChangeSpec := { name := "guideAdds", fn := fun _ => fun
  | [d] => { results := [.lit (.bool false)], args := [d] }
  | _ => none }
def GuideAddsWrongFalsely : Prop := guideAddsRow.holds Tryd.pinned (OpenSpec.ofChange guideAddsWrong)

/-- 'orangerylaw13.GuideCounts': WHATEVER THE INPUT: true; the input reads as it did. -/
def guideCountsSpec : ChangeSpec := { name := "guideCounts", fn := fun _ => fun
  | [d] => { results := [.lit (.bool true)], args := [d] }
  | _ => none }
def guideCountsRow : OpenClaim := { program := "ytadnijcgohflhaadoor", sum := "d2066f4cd47fb1154b86d21462df42ace5b8cb6484879f159f1519da613f037a", func := "orangery/orangerylaw13.GuideCounts", spec := "guideCounts", inPlace := ["internal/bytealg.IndexByteString", "internal/bytealg.IndexString"], unfollowed := true, recurses := true, named := ["unicode/utf8.first", "unicode/utf8.acceptRanges", "internal/bytealg.MaxLen"], loops := true, apart := false, laid := [("unicode/utf8.acceptRanges", laid_unicode_utf8_acceptRanges), ("unicode/utf8.first", laid_unicode_utf8_first)] }
def GuideCountsSaid : Prop := guideCountsRow.holds Tryd.pinned (OpenSpec.ofChange guideCountsSpec)

/-- ITS FALSE NEIGHBOUR: 'it returns false'. Refute it at one input. -/
def guideCountsWrong : ChangeSpec := { name := "guideCounts", fn := fun _ => fun
  | [d] => { results := [.lit (.bool false)], args := [d] }
  | _ => none }
def GuideCountsWrongFalsely : Prop := guideCountsRow.holds Tryd.pinned (OpenSpec.ofChange guideCountsWrong)

/-- 'orangerylaw13.GuideBelow': WHATEVER THE INPUT: true; the input reads as it did. -/
def guideBelowSpec : ChangeSpec := { name := "guideBelow", fn := fun _ => fun
  | [d1, d2] => { results := [.lit (.bool true)], args := [d1, d2] }
  | _ => none }
def guideBelowRow : OpenClaim := { program := "ytadnijcgohflhaadoor", sum := "d2066f4cd47fb1154b86d21462df42ace5b8cb6484879f159f1519da613f037a", func := "orangery/orangerylaw13.GuideBelow", spec := "guideBelow", inPlace := ["internal/bytealg.IndexByteString", "internal/bytealg.IndexString"], unfollowed := true, recurses := true, named := ["unicode/utf8.first", "unicode/utf8.acceptRanges", "internal/bytealg.MaxLen"], apart := false, laid := [("unicode/utf8.acceptRanges", laid_unicode_utf8_acceptRanges), ("unicode/utf8.first", laid_unicode_utf8_first)] }
def GuideBelowSaid : Prop := guideBelowRow.holds Tryd.pinned (OpenSpec.ofChange guideBelowSpec)

/-- ITS FALSE NEIGHBOUR: 'it returns false'. Refute it at one input. -/
def guideBelowWrong : ChangeSpec := { name := "guideBelow", fn := fun _ => fun
  | [d1, d2] => { results := [.lit (.bool false)], args := [d1, d2] }
  | _ => none }
def GuideBelowWrongFalsely : Prop := guideBelowRow.holds Tryd.pinned (OpenSpec.ofChange guideBelowWrong)

/-- 'orangerylaw12.EditsMany': WHATEVER THE INPUT: true; the input reads as it did. -/
def editsManySpec : ChangeSpec := { name := "editsMany", fn := fun _ => fun
  | [d1, d2] => { results := [.lit (.bool true)], args := [d1, d2] }
  | _ => none }
def editsManyRow : OpenClaim := { program := "ytadnijcgohflhaadoor", sum := "d2066f4cd47fb1154b86d21462df42ace5b8cb6484879f159f1519da613f037a", func := "orangery/orangerylaw12.EditsMany", spec := "editsMany", inPlace := ["internal/bytealg.IndexByteString", "internal/bytealg.IndexString"], unfollowed := true, recurses := true, named := ["unicode/utf8.first", "unicode/utf8.acceptRanges", "internal/bytealg.MaxLen"], apart := false, laid := [("unicode/utf8.acceptRanges", laid_unicode_utf8_acceptRanges), ("unicode/utf8.first", laid_unicode_utf8_first)] }
def EditsManySaid : Prop := editsManyRow.holds Tryd.pinned (OpenSpec.ofChange editsManySpec)

/-- ITS FALSE NEIGHBOUR: 'it returns false'. Refute it at one input. -/
def editsManyWrong : ChangeSpec := { name := "editsMany", fn := fun _ => fun
  | [d1, d2] => { results := [.lit (.bool false)], args := [d1, d2] }
  | _ => none }
def EditsManyWrongFalsely : Prop := editsManyRow.holds Tryd.pinned (OpenSpec.ofChange editsManyWrong)

/-- 'orangerylaw12.EditsSpread': WHATEVER THE INPUT: true; the input reads as it did. -/
def editsSpreadSpec : ChangeSpec := { name := "editsSpread", fn := fun _ => fun
  | [d1, d2, d3, d4] => { results := [.lit (.bool true)], args := [d1, d2, d3, d4] }
  | _ => none }
def editsSpreadRow : OpenClaim := { program := "ytadnijcgohflhaadoor", sum := "d2066f4cd47fb1154b86d21462df42ace5b8cb6484879f159f1519da613f037a", func := "orangery/orangerylaw12.EditsSpread", spec := "editsSpread", inPlace := ["internal/bytealg.IndexByteString", "internal/bytealg.IndexString"], unfollowed := true, recurses := true, named := ["unicode/utf8.first", "unicode/utf8.acceptRanges", "internal/bytealg.MaxLen"], loops := true, apart := false, laid := [("unicode/utf8.acceptRanges", laid_unicode_utf8_acceptRanges), ("unicode/utf8.first", laid_unicode_utf8_first)] }
def EditsSpreadSaid : Prop := editsSpreadRow.holds Tryd.pinned (OpenSpec.ofChange editsSpreadSpec)

/-- ITS FALSE NEIGHBOUR: 'it returns false'. Refute it at one input. -/
def editsSpreadWrong : ChangeSpec := { name := "editsSpread", fn := fun _ => fun
  | [d1, d2, d3, d4] => { results := [.lit (.bool false)], args := [d1, d2, d3, d4] }
  | _ => none }
def EditsSpreadWrongFalsely : Prop := editsSpreadRow.holds Tryd.pinned (OpenSpec.ofChange editsSpreadWrong)

/-- 'orangerylaw12.EditsBack': WHATEVER THE INPUT: true; the input reads as it did. -/
def editsBackSpec : ChangeSpec := { name := "editsBack", fn := fun _ => fun
  | [d1, d2, d3, d4] => { results := [.lit (.bool true)], args := [d1, d2, d3, d4] }
  | _ => none }
def editsBackRow : OpenClaim := { program := "ytadnijcgohflhaadoor", sum := "d2066f4cd47fb1154b86d21462df42ace5b8cb6484879f159f1519da613f037a", func := "orangery/orangerylaw12.EditsBack", spec := "editsBack", inPlace := ["internal/bytealg.IndexByteString", "internal/bytealg.IndexString"], unfollowed := true, recurses := true, named := ["unicode/utf8.first", "unicode/utf8.acceptRanges", "internal/bytealg.MaxLen"], loops := true, apart := false, laid := [("unicode/utf8.acceptRanges", laid_unicode_utf8_acceptRanges), ("unicode/utf8.first", laid_unicode_utf8_first)] }
def EditsBackSaid : Prop := editsBackRow.holds Tryd.pinned (OpenSpec.ofChange editsBackSpec)

/-- ITS FALSE NEIGHBOUR: 'it returns false'. Refute it at one input. -/
def editsBackWrong : ChangeSpec := { name := "editsBack", fn := fun _ => fun
  | [d1, d2, d3, d4] => { results := [.lit (.bool false)], args := [d1, d2, d3, d4] }
  | _ => none }
def EditsBackWrongFalsely : Prop := editsBackRow.holds Tryd.pinned (OpenSpec.ofChange editsBackWrong)

/-- 'orangerylaw12.EditsInsert': WHATEVER THE INPUT: true; the input reads as it did. -/
def editsInsertSpec : ChangeSpec := { name := "editsInsert", fn := fun _ => fun
  | [d1, d2, d3, d4, d5, d6] => { results := [.lit (.bool true)], args := [d1, d2, d3, d4, d5, d6] }
  | _ => none }
def editsInsertRow : OpenClaim := { program := "ytadnijcgohflhaadoor", sum := "d2066f4cd47fb1154b86d21462df42ace5b8cb6484879f159f1519da613f037a", func := "orangery/orangerylaw12.EditsInsert", spec := "editsInsert", inPlace := ["internal/bytealg.IndexByteString", "internal/bytealg.IndexString"], unfollowed := true, recurses := true, named := ["unicode/utf8.first", "unicode/utf8.acceptRanges", "internal/bytealg.MaxLen"], loops := true, apart := false, laid := [("unicode/utf8.acceptRanges", laid_unicode_utf8_acceptRanges), ("unicode/utf8.first", laid_unicode_utf8_first)] }
def EditsInsertSaid : Prop := editsInsertRow.holds Tryd.pinned (OpenSpec.ofChange editsInsertSpec)

/-- ITS FALSE NEIGHBOUR: 'it returns false'. Refute it at one input. -/
def editsInsertWrong : ChangeSpec := { name := "editsInsert", fn := fun _ => fun
  | [d1, d2, d3, d4, d5, d6] => { results := [.lit (.bool false)], args := [d1, d2, d3, d4, d5, d6] }
  | _ => none }
def EditsInsertWrongFalsely : Prop := editsInsertRow.holds Tryd.pinned (OpenSpec.ofChange editsInsertWrong)

/-- 'orangerylaw12.EditsDrop': WHATEVER THE INPUT: true; the input reads as it did. -/
def editsDropSpec : ChangeSpec := { name := "editsDrop", fn := fun _ => fun
  | [d1, d2, d3] => { results := [.lit (.bool true)], args := [d1, d2, d3] }
  | _ => none }
def editsDropRow : OpenClaim := { program := "ytadnijcgohflhaadoor", sum := "d2066f4cd47fb1154b86d21462df42ace5b8cb6484879f159f1519da613f037a", func := "orangery/orangerylaw12.EditsDrop", spec := "editsDrop", inPlace := ["internal/bytealg.IndexByteString", "internal/bytealg.IndexString"], unfollowed := true, recurses := true, named := ["unicode/utf8.first", "unicode/utf8.acceptRanges", "internal/bytealg.MaxLen"], loops := true, apart := false, laid := [("unicode/utf8.acceptRanges", laid_unicode_utf8_acceptRanges), ("unicode/utf8.first", laid_unicode_utf8_first)] }
def EditsDropSaid : Prop := editsDropRow.holds Tryd.pinned (OpenSpec.ofChange editsDropSpec)

/-- ITS FALSE NEIGHBOUR: 'it returns false'. Refute it at one input. -/
def editsDropWrong : ChangeSpec := { name := "editsDrop", fn := fun _ => fun
  | [d1, d2, d3] => { results := [.lit (.bool false)], args := [d1, d2, d3] }
  | _ => none }
def EditsDropWrongFalsely : Prop := editsDropRow.holds Tryd.pinned (OpenSpec.ofChange editsDropWrong)

/-- 'orangerylaw12.EditsReplace': WHATEVER THE INPUT: true; the input reads as it did. -/
def editsReplaceSpec : ChangeSpec := { name := "editsReplace", fn := fun _ => fun
  | [d1, d2, d3, d4] => { results := [.lit (.bool true)], args := [d1, d2, d3, d4] }
  | _ => none }
def editsReplaceRow : OpenClaim := { program := "ytadnijcgohflhaadoor", sum := "d2066f4cd47fb1154b86d21462df42ace5b8cb6484879f159f1519da613f037a", func := "orangery/orangerylaw12.EditsReplace", spec := "editsReplace", inPlace := ["internal/bytealg.IndexByteString", "internal/bytealg.IndexString"], unfollowed := true, recurses := true, named := ["unicode/utf8.first", "unicode/utf8.acceptRanges", "internal/bytealg.MaxLen"], loops := true, apart := false, laid := [("unicode/utf8.acceptRanges", laid_unicode_utf8_acceptRanges), ("unicode/utf8.first", laid_unicode_utf8_first)] }
def EditsReplaceSaid : Prop := editsReplaceRow.holds Tryd.pinned (OpenSpec.ofChange editsReplaceSpec)

/-- ITS FALSE NEIGHBOUR: 'it returns false'. Refute it at one input. -/
def editsReplaceWrong : ChangeSpec := { name := "editsReplace", fn := fun _ => fun
  | [d1, d2, d3, d4] => { results := [.lit (.bool false)], args := [d1, d2, d3, d4] }
  | _ => none }
def EditsReplaceWrongFalsely : Prop := editsReplaceRow.holds Tryd.pinned (OpenSpec.ofChange editsReplaceWrong)

/- THE SECOND FORM. 'bulk': how many values and letters a reading holds, each counted each time it is reached (what is shared counts as often as it is met; a slice's spare places count too). A statement '..UptoSaid' is the law's where the arguments, and the package variables that the reading takes, are together of bulk at most 1048576: NARROWER than '..Said'. Prove '..Said' where nothing that the law and all that it calls make is longer than what came in: it says more and counts as full. Else prove '..UptoSaid'. A law counts once. -/
mutual
def uptoBulk {H : Type} : DataW H → Nat
  | .lit (.string bytes) => bytes.length + 1
  | .lit _ => 1
  | .nil => 1
  | .ptr d => uptoBulk d + 1
  | .slice elems spare => uptoBulkAll elems + uptoBulkAll spare + 1
  | .agg parts => uptoBulkAll parts + 1
  | .iface _ d => uptoBulk d + 1
  | .map entries => uptoBulkEntries entries + 1
  | .held _ => 1
def uptoBulkAll {H : Type} : List (DataW H) → Nat
  | [] => 0
  | d :: r => uptoBulk d + uptoBulkAll r
def uptoBulkEntries {H : Type} : List (Lit × DataW H) → Nat
  | [] => 0
  | x :: r => uptoBulkEntry x + uptoBulkEntries r
def uptoBulkEntry {H : Type} : Lit × DataW H → Nat
  | (.string bytes, d) => bytes.length + uptoBulk d + 1
  | (_, d) => uptoBulk d + 1
 end
def uptoSmall : (H : Type) → List (DataW H) → Bool := fun _ ds => decide (uptoBulkAll ds ≤ 1048576)
def OpenSpec.upto (s : _root_.Go.ChangeSpec) : _root_.Go.OpenSpec := { _root_.Go.OpenSpec.ofChange s with cond := some uptoSmall }

/-- 'orangerylaw11.ShredMoves', WHERE WHAT IT READS IS OF BULK AT MOST 1048576: true; the input reads as it did. -/
def shredMovesUptoRow : OpenClaim := { program := "ytadnijcgohflhaadoor", sum := "d2066f4cd47fb1154b86d21462df42ace5b8cb6484879f159f1519da613f037a", func := "orangery/orangerylaw11.ShredMoves", spec := "shredMoves", inPlace := ["internal/bytealg.IndexByteString", "internal/bytealg.IndexString"], unfollowed := true, recurses := true, named := ["unicode/utf8.first", "unicode/utf8.acceptRanges", "internal/bytealg.MaxLen"], loops := true, apart := false, laid := [("unicode/utf8.acceptRanges", laid_unicode_utf8_acceptRanges), ("unicode/utf8.first", laid_unicode_utf8_first)], narrowed := true }
def ShredMovesUptoSaid : Prop := shredMovesUptoRow.holds Tryd.pinned (OpenSpec.upto shredMovesSpec)

/-- 'orangerylaw11.ShredBack', WHERE WHAT IT READS IS OF BULK AT MOST 1048576: true; the input reads as it did. -/
def shredBackUptoRow : OpenClaim := { program := "ytadnijcgohflhaadoor", sum := "d2066f4cd47fb1154b86d21462df42ace5b8cb6484879f159f1519da613f037a", func := "orangery/orangerylaw11.ShredBack", spec := "shredBack", inPlace := ["internal/bytealg.IndexByteString", "internal/bytealg.IndexString"], unfollowed := true, recurses := true, named := ["unicode/utf8.first", "unicode/utf8.acceptRanges", "internal/bytealg.MaxLen"], loops := true, apart := false, laid := [("unicode/utf8.acceptRanges", laid_unicode_utf8_acceptRanges), ("unicode/utf8.first", laid_unicode_utf8_first)], narrowed := true }
def ShredBackUptoSaid : Prop := shredBackUptoRow.holds Tryd.pinned (OpenSpec.upto shredBackSpec)

/-- 'orangerylaw11.ShredCounts', WHERE WHAT IT READS IS OF BULK AT MOST 1048576: true; the input reads as it did. -/
def shredCountsUptoRow : OpenClaim := { program := "ytadnijcgohflhaadoor", sum := "d2066f4cd47fb1154b86d21462df42ace5b8cb6484879f159f1519da613f037a", func := "orangery/orangerylaw11.ShredCounts", spec := "shredCounts", inPlace := ["internal/bytealg.IndexByteString", "internal/bytealg.IndexString"], unfollowed := true, recurses := true, named := ["unicode/utf8.first", "unicode/utf8.acceptRanges", "internal/bytealg.MaxLen"], loops := true, apart := false, laid := [("unicode/utf8.acceptRanges", laid_unicode_utf8_acceptRanges), ("unicode/utf8.first", laid_unicode_utf8_first)], narrowed := true }
def ShredCountsUptoSaid : Prop := shredCountsUptoRow.holds Tryd.pinned (OpenSpec.upto shredCountsSpec)

/-- 'orangerylaw11.ShredLies', WHERE WHAT IT READS IS OF BULK AT MOST 1048576: true; the input reads as it did. -/
def shredLiesUptoRow : OpenClaim := { program := "ytadnijcgohflhaadoor", sum := "d2066f4cd47fb1154b86d21462df42ace5b8cb6484879f159f1519da613f037a", func := "orangery/orangerylaw11.ShredLies", spec := "shredLies", inPlace := ["internal/bytealg.IndexByteString", "internal/bytealg.IndexString"], unfollowed := true, recurses := true, named := ["unicode/utf8.first", "unicode/utf8.acceptRanges", "internal/bytealg.MaxLen"], loops := true, apart := false, laid := [("unicode/utf8.acceptRanges", laid_unicode_utf8_acceptRanges), ("unicode/utf8.first", laid_unicode_utf8_first)], narrowed := true }
def ShredLiesUptoSaid : Prop := shredLiesUptoRow.holds Tryd.pinned (OpenSpec.upto shredLiesSpec)

/-- 'orangerylaw11.ShredIs', WHERE WHAT IT READS IS OF BULK AT MOST 1048576: true; the input reads as it did. -/
def shredIsUptoRow : OpenClaim := { program := "ytadnijcgohflhaadoor", sum := "d2066f4cd47fb1154b86d21462df42ace5b8cb6484879f159f1519da613f037a", func := "orangery/orangerylaw11.ShredIs", spec := "shredIs", inPlace := ["internal/bytealg.IndexByteString", "internal/bytealg.IndexString"], unfollowed := true, recurses := true, named := ["unicode/utf8.first", "unicode/utf8.acceptRanges", "internal/bytealg.MaxLen"], loops := true, apart := false, laid := [("unicode/utf8.acceptRanges", laid_unicode_utf8_acceptRanges), ("unicode/utf8.first", laid_unicode_utf8_first)], narrowed := true }
def ShredIsUptoSaid : Prop := shredIsUptoRow.holds Tryd.pinned (OpenSpec.upto shredIsSpec)

/-- 'orangerylaw11.ShredPlaces', WHERE WHAT IT READS IS OF BULK AT MOST 1048576: true; the input reads as it did. -/
def shredPlacesUptoRow : OpenClaim := { program := "ytadnijcgohflhaadoor", sum := "d2066f4cd47fb1154b86d21462df42ace5b8cb6484879f159f1519da613f037a", func := "orangery/orangerylaw11.ShredPlaces", spec := "shredPlaces", inPlace := ["internal/bytealg.IndexByteString", "internal/bytealg.IndexString"], unfollowed := true, recurses := true, named := ["unicode/utf8.first", "unicode/utf8.acceptRanges", "internal/bytealg.MaxLen"], loops := true, apart := false, laid := [("unicode/utf8.acceptRanges", laid_unicode_utf8_acceptRanges), ("unicode/utf8.first", laid_unicode_utf8_first)], narrowed := true }
def ShredPlacesUptoSaid : Prop := shredPlacesUptoRow.holds Tryd.pinned (OpenSpec.upto shredPlacesSpec)

/-- 'orangerylaw13.GuideAdds', WHERE WHAT IT READS IS OF BULK AT MOST 1048576: true; the input reads as it did. -/
def guideAddsUptoRow : OpenClaim := { program := "ytadnijcgohflhaadoor", sum := "d2066f4cd47fb1154b86d21462df42ace5b8cb6484879f159f1519da613f037a", func := "orangery/orangerylaw13.GuideAdds", spec := "guideAdds", inPlace := ["internal/bytealg.IndexByteString", "internal/bytealg.IndexString"], unfollowed := true, recurses := true, named := ["unicode/utf8.first", "unicode/utf8.acceptRanges", "internal/bytealg.MaxLen"], apart := false, laid := [("unicode/utf8.acceptRanges", laid_unicode_utf8_acceptRanges), ("unicode/utf8.first", laid_unicode_utf8_first)], narrowed := true }
def GuideAddsUptoSaid : Prop := guideAddsUptoRow.holds Tryd.pinned (OpenSpec.upto guideAddsSpec)

/-- 'orangerylaw13.GuideCounts', WHERE WHAT IT READS IS OF BULK AT MOST 1048576: true; the input reads as it did. -/
def guideCountsUptoRow : OpenClaim := { program := "ytadnijcgohflhaadoor", sum := "d2066f4cd47fb1154b86d21462df42ace5b8cb6484879f159f1519da613f037a", func := "orangery/orangerylaw13.GuideCounts", spec := "guideCounts", inPlace := ["internal/bytealg.IndexByteString", "internal/bytealg.IndexString"], unfollowed := true, recurses := true, named := ["unicode/utf8.first", "unicode/utf8.acceptRanges", "internal/bytealg.MaxLen"], loops := true, apart := false, laid := [("unicode/utf8.acceptRanges", laid_unicode_utf8_acceptRanges), ("unicode/utf8.first", laid_unicode_utf8_first)], narrowed := true }
def GuideCountsUptoSaid : Prop := guideCountsUptoRow.holds Tryd.pinned (OpenSpec.upto guideCountsSpec)

/-- 'orangerylaw13.GuideBelow', WHERE WHAT IT READS IS OF BULK AT MOST 1048576: true; the input reads as it did. -/
def guideBelowUptoRow : OpenClaim := { program := "ytadnijcgohflhaadoor", sum := "d2066f4cd47fb1154b86d21462df42ace5b8cb6484879f159f1519da613f037a", func := "orangery/orangerylaw13.GuideBelow", spec := "guideBelow", inPlace := ["internal/bytealg.IndexByteString", "internal/bytealg.IndexString"], unfollowed := true, recurses := true, named := ["unicode/utf8.first", "unicode/utf8.acceptRanges", "internal/bytealg.MaxLen"], apart := false, laid := [("unicode/utf8.acceptRanges", laid_unicode_utf8_acceptRanges), ("unicode/utf8.first", laid_unicode_utf8_first)], narrowed := true }
def GuideBelowUptoSaid : Prop := guideBelowUptoRow.holds Tryd.pinned (OpenSpec.upto guideBelowSpec)

/-- 'orangerylaw12.EditsMany', WHERE WHAT IT READS IS OF BULK AT MOST 1048576: true; the input reads as it did. -/
def editsManyUptoRow : OpenClaim := { program := "ytadnijcgohflhaadoor", sum := "d2066f4cd47fb1154b86d21462df42ace5b8cb6484879f159f1519da613f037a", func := "orangery/orangerylaw12.EditsMany", spec := "editsMany", inPlace := ["internal/bytealg.IndexByteString", "internal/bytealg.IndexString"], unfollowed := true, recurses := true, named := ["unicode/utf8.first", "unicode/utf8.acceptRanges", "internal/bytealg.MaxLen"], apart := false, laid := [("unicode/utf8.acceptRanges", laid_unicode_utf8_acceptRanges), ("unicode/utf8.first", laid_unicode_utf8_first)], narrowed := true }
def EditsManyUptoSaid : Prop := editsManyUptoRow.holds Tryd.pinned (OpenSpec.upto editsManySpec)

/-- 'orangerylaw12.EditsSpread', WHERE WHAT IT READS IS OF BULK AT MOST 1048576: true; the input reads as it did. -/
def editsSpreadUptoRow : OpenClaim := { program := "ytadnijcgohflhaadoor", sum := "d2066f4cd47fb1154b86d21462df42ace5b8cb6484879f159f1519da613f037a", func := "orangery/orangerylaw12.EditsSpread", spec := "editsSpread", inPlace := ["internal/bytealg.IndexByteString", "internal/bytealg.IndexString"], unfollowed := true, recurses := true, named := ["unicode/utf8.first", "unicode/utf8.acceptRanges", "internal/bytealg.MaxLen"], loops := true, apart := false, laid := [("unicode/utf8.acceptRanges", laid_unicode_utf8_acceptRanges), ("unicode/utf8.first", laid_unicode_utf8_first)], narrowed := true }
def EditsSpreadUptoSaid : Prop := editsSpreadUptoRow.holds Tryd.pinned (OpenSpec.upto editsSpreadSpec)

/-- 'orangerylaw12.EditsBack', WHERE WHAT IT READS IS OF BULK AT MOST 1048576: true; the input reads as it did. -/
def editsBackUptoRow : OpenClaim := { program := "ytadnijcgohflhaadoor", sum := "d2066f4cd47fb1154b86d21462df42ace5b8cb6484879f159f1519da613f037a", func := "orangery/orangerylaw12.EditsBack", spec := "editsBack", inPlace := ["internal/bytealg.IndexByteString", "internal/bytealg.IndexString"], unfollowed := true, recurses := true, named := ["unicode/utf8.first", "unicode/utf8.acceptRanges", "internal/bytealg.MaxLen"], loops := true, apart := false, laid := [("unicode/utf8.acceptRanges", laid_unicode_utf8_acceptRanges), ("unicode/utf8.first", laid_unicode_utf8_first)], narrowed := true }
def EditsBackUptoSaid : Prop := editsBackUptoRow.holds Tryd.pinned (OpenSpec.upto editsBackSpec)

/-- 'orangerylaw12.EditsInsert', WHERE WHAT IT READS IS OF BULK AT MOST 1048576: true; the input reads as it did. -/
def editsInsertUptoRow : OpenClaim := { program := "ytadnijcgohflhaadoor", sum := "d2066f4cd47fb1154b86d21462df42ace5b8cb6484879f159f1519da613f037a", func := "orangery/orangerylaw12.EditsInsert", spec := "editsInsert", inPlace := ["internal/bytealg.IndexByteString", "internal/bytealg.IndexString"], unfollowed := true, recurses := true, named := ["unicode/utf8.first", "unicode/utf8.acceptRanges", "internal/bytealg.MaxLen"], loops := true, apart := false, laid := [("unicode/utf8.acceptRanges", laid_unicode_utf8_acceptRanges), ("unicode/utf8.first", laid_unicode_utf8_first)], narrowed := true }
def EditsInsertUptoSaid : Prop := editsInsertUptoRow.holds Tryd.pinned (OpenSpec.upto editsInsertSpec)

/-- 'orangerylaw12.EditsDrop', WHERE WHAT IT READS IS OF BULK AT MOST 1048576: true; the input reads as it did. -/
def editsDropUptoRow : OpenClaim := { program := "ytadnijcgohflhaadoor", sum := "d2066f4cd47fb1154b86d21462df42ace5b8cb6484879f159f1519da613f037a", func := "orangery/orangerylaw12.EditsDrop", spec := "editsDrop", inPlace := ["internal/bytealg.IndexByteString", "internal/bytealg.IndexString"], unfollowed := true, recurses := true, named := ["unicode/utf8.first", "unicode/utf8.acceptRanges", "internal/bytealg.MaxLen"], loops := true, apart := false, laid := [("unicode/utf8.acceptRanges", laid_unicode_utf8_acceptRanges), ("unicode/utf8.first", laid_unicode_utf8_first)], narrowed := true }
def EditsDropUptoSaid : Prop := editsDropUptoRow.holds Tryd.pinned (OpenSpec.upto editsDropSpec)

/-- 'orangerylaw12.EditsReplace', WHERE WHAT IT READS IS OF BULK AT MOST 1048576: true; the input reads as it did. -/
def editsReplaceUptoRow : OpenClaim := { program := "ytadnijcgohflhaadoor", sum := "d2066f4cd47fb1154b86d21462df42ace5b8cb6484879f159f1519da613f037a", func := "orangery/orangerylaw12.EditsReplace", spec := "editsReplace", inPlace := ["internal/bytealg.IndexByteString", "internal/bytealg.IndexString"], unfollowed := true, recurses := true, named := ["unicode/utf8.first", "unicode/utf8.acceptRanges", "internal/bytealg.MaxLen"], loops := true, apart := false, laid := [("unicode/utf8.acceptRanges", laid_unicode_utf8_acceptRanges), ("unicode/utf8.first", laid_unicode_utf8_first)], narrowed := true }
def EditsReplaceUptoSaid : Prop := editsReplaceUptoRow.holds Tryd.pinned (OpenSpec.upto editsReplaceSpec)

end Rows
end Go.Proofs.YtadnijcgohflhaaDoor
