/-
  DERIVED. GIVEN WITH THE SEED: THE CARDS: each row of YtadnijcgohflhaaDoorRows.lean that lists a variable, with what it lists TIED to the program's text (the seventh form; the later family's looks); each row that meets fmt, with fmt's text TOLD by the authors' own Lean function (tested against real Go, not proved from fmt's source: count such statements apart). THE CARD IS WHAT COUNTS. Prove the row's statement (the work); the ties are given (YtadnijcgohflhaaDoorTie.lean); close each card by the builder's one call (the guide's Derived/Test/ToyasCard.lean, 'card_holds'). Laid BY PROGRAM, IN A SANDBOX (cutbox-door.mjs). By AI agents, Wed Nov 11 2026. No macro, syntax, notation, axiom, sorry.
-/
import Derived.Test.YtadnijcgohflhaaDoorRows
import GoSem.ClaimSeven
namespace Go.Proofs.YtadnijcgohflhaaDoor
namespace Rows

/-- THE TIED CARD OF 'orangerylaw11.ShredMoves'. -/
def shredMovesCard : Claim7 := { stood := { row := shredMovesRow, standIns := [], harness := (true, "65959df4788412340505286206ee644ed99fbe42deb96085b7af4f3d4398a7c7"), looks := false }, kinds := [], alts := [], laidByText := true, laidKinds := [.data, .pinned], laidTests := true, laidLooks := .later }
def ShredMovesCardSaid : Prop := Claim7.holds Tryd.pinned (.plain (OpenSpec.ofChange shredMovesSpec)) shredMovesCard

/-- THE TIED CARD OF 'orangerylaw11.ShredBack'. -/
def shredBackCard : Claim7 := { stood := { row := shredBackRow, standIns := [], harness := (true, "65959df4788412340505286206ee644ed99fbe42deb96085b7af4f3d4398a7c7"), looks := false }, kinds := [], alts := [], laidByText := true, laidKinds := [.data, .pinned], laidTests := true, laidLooks := .later }
def ShredBackCardSaid : Prop := Claim7.holds Tryd.pinned (.plain (OpenSpec.ofChange shredBackSpec)) shredBackCard

/-- THE TIED CARD OF 'orangerylaw11.ShredCounts'. -/
def shredCountsCard : Claim7 := { stood := { row := shredCountsRow, standIns := [], harness := (true, "65959df4788412340505286206ee644ed99fbe42deb96085b7af4f3d4398a7c7"), looks := false }, kinds := [], alts := [], laidByText := true, laidKinds := [.data, .pinned], laidTests := true, laidLooks := .later }
def ShredCountsCardSaid : Prop := Claim7.holds Tryd.pinned (.plain (OpenSpec.ofChange shredCountsSpec)) shredCountsCard

/-- THE TIED CARD OF 'orangerylaw11.ShredLies'. -/
def shredLiesCard : Claim7 := { stood := { row := shredLiesRow, standIns := [], harness := (true, "65959df4788412340505286206ee644ed99fbe42deb96085b7af4f3d4398a7c7"), looks := false }, kinds := [], alts := [], laidByText := true, laidKinds := [.data, .pinned], laidTests := true, laidLooks := .later }
def ShredLiesCardSaid : Prop := Claim7.holds Tryd.pinned (.plain (OpenSpec.ofChange shredLiesSpec)) shredLiesCard

/-- THE TIED CARD OF 'orangerylaw11.ShredIs'. -/
def shredIsCard : Claim7 := { stood := { row := shredIsRow, standIns := [], harness := (true, "65959df4788412340505286206ee644ed99fbe42deb96085b7af4f3d4398a7c7"), looks := false }, kinds := [], alts := [], laidByText := true, laidKinds := [.data, .pinned], laidTests := true, laidLooks := .later }
def ShredIsCardSaid : Prop := Claim7.holds Tryd.pinned (.plain (OpenSpec.ofChange shredIsSpec)) shredIsCard

/-- THE TIED CARD OF 'orangerylaw11.ShredPlaces'. -/
def shredPlacesCard : Claim7 := { stood := { row := shredPlacesRow, standIns := [], harness := (true, "65959df4788412340505286206ee644ed99fbe42deb96085b7af4f3d4398a7c7"), looks := false }, kinds := [], alts := [], laidByText := true, laidKinds := [.data, .pinned], laidTests := true, laidLooks := .later }
def ShredPlacesCardSaid : Prop := Claim7.holds Tryd.pinned (.plain (OpenSpec.ofChange shredPlacesSpec)) shredPlacesCard

/-- THE TIED CARD OF 'orangerylaw13.GuideAdds'. -/
def guideAddsCard : Claim7 := { stood := { row := guideAddsRow, standIns := [], harness := (true, "65959df4788412340505286206ee644ed99fbe42deb96085b7af4f3d4398a7c7"), looks := false }, kinds := [], alts := [], laidByText := true, laidKinds := [.data, .pinned], laidTests := true, laidLooks := .later }
def GuideAddsCardSaid : Prop := Claim7.holds Tryd.pinned (.plain (OpenSpec.ofChange guideAddsSpec)) guideAddsCard

/-- THE TIED CARD OF 'orangerylaw13.GuideCounts'. -/
def guideCountsCard : Claim7 := { stood := { row := guideCountsRow, standIns := [], harness := (true, "65959df4788412340505286206ee644ed99fbe42deb96085b7af4f3d4398a7c7"), looks := false }, kinds := [], alts := [], laidByText := true, laidKinds := [.data, .pinned], laidTests := true, laidLooks := .later }
def GuideCountsCardSaid : Prop := Claim7.holds Tryd.pinned (.plain (OpenSpec.ofChange guideCountsSpec)) guideCountsCard

/-- THE TIED CARD OF 'orangerylaw13.GuideBelow'. -/
def guideBelowCard : Claim7 := { stood := { row := guideBelowRow, standIns := [], harness := (true, "65959df4788412340505286206ee644ed99fbe42deb96085b7af4f3d4398a7c7"), looks := false }, kinds := [], alts := [], laidByText := true, laidKinds := [.data, .pinned], laidTests := true, laidLooks := .later }
def GuideBelowCardSaid : Prop := Claim7.holds Tryd.pinned (.plain (OpenSpec.ofChange guideBelowSpec)) guideBelowCard

/-- THE TIED CARD OF 'orangerylaw12.EditsMany'. -/
def editsManyCard : Claim7 := { stood := { row := editsManyRow, standIns := [], harness := (true, "65959df4788412340505286206ee644ed99fbe42deb96085b7af4f3d4398a7c7"), looks := false }, kinds := [], alts := [], laidByText := true, laidKinds := [.data, .pinned], laidTests := true, laidLooks := .later }
def EditsManyCardSaid : Prop := Claim7.holds Tryd.pinned (.plain (OpenSpec.ofChange editsManySpec)) editsManyCard

/-- THE TIED CARD OF 'orangerylaw12.EditsSpread'. -/
def editsSpreadCard : Claim7 := { stood := { row := editsSpreadRow, standIns := [], harness := (true, "65959df4788412340505286206ee644ed99fbe42deb96085b7af4f3d4398a7c7"), looks := false }, kinds := [], alts := [], laidByText := true, laidKinds := [.data, .pinned], laidTests := true, laidLooks := .later }
def EditsSpreadCardSaid : Prop := Claim7.holds Tryd.pinned (.plain (OpenSpec.ofChange editsSpreadSpec)) editsSpreadCard

/-- THE TIED CARD OF 'orangerylaw12.EditsBack'. -/
def editsBackCard : Claim7 := { stood := { row := editsBackRow, standIns := [], harness := (true, "65959df4788412340505286206ee644ed99fbe42deb96085b7af4f3d4398a7c7"), looks := false }, kinds := [], alts := [], laidByText := true, laidKinds := [.data, .pinned], laidTests := true, laidLooks := .later }
def EditsBackCardSaid : Prop := Claim7.holds Tryd.pinned (.plain (OpenSpec.ofChange editsBackSpec)) editsBackCard

/-- THE TIED CARD OF 'orangerylaw12.EditsInsert'. -/
def editsInsertCard : Claim7 := { stood := { row := editsInsertRow, standIns := [], harness := (true, "65959df4788412340505286206ee644ed99fbe42deb96085b7af4f3d4398a7c7"), looks := false }, kinds := [], alts := [], laidByText := true, laidKinds := [.data, .pinned], laidTests := true, laidLooks := .later }
def EditsInsertCardSaid : Prop := Claim7.holds Tryd.pinned (.plain (OpenSpec.ofChange editsInsertSpec)) editsInsertCard

/-- THE TIED CARD OF 'orangerylaw12.EditsDrop'. -/
def editsDropCard : Claim7 := { stood := { row := editsDropRow, standIns := [], harness := (true, "65959df4788412340505286206ee644ed99fbe42deb96085b7af4f3d4398a7c7"), looks := false }, kinds := [], alts := [], laidByText := true, laidKinds := [.data, .pinned], laidTests := true, laidLooks := .later }
def EditsDropCardSaid : Prop := Claim7.holds Tryd.pinned (.plain (OpenSpec.ofChange editsDropSpec)) editsDropCard

/-- THE TIED CARD OF 'orangerylaw12.EditsReplace'. -/
def editsReplaceCard : Claim7 := { stood := { row := editsReplaceRow, standIns := [], harness := (true, "65959df4788412340505286206ee644ed99fbe42deb96085b7af4f3d4398a7c7"), looks := false }, kinds := [], alts := [], laidByText := true, laidKinds := [.data, .pinned], laidTests := true, laidLooks := .later }
def EditsReplaceCardSaid : Prop := Claim7.holds Tryd.pinned (.plain (OpenSpec.ofChange editsReplaceSpec)) editsReplaceCard

/-- THE SECOND FORM's CARD OF 'orangerylaw11.ShredMoves'. -/
def shredMovesUptoCard : Claim7 := { stood := { row := shredMovesUptoRow, standIns := [], harness := (true, "65959df4788412340505286206ee644ed99fbe42deb96085b7af4f3d4398a7c7"), looks := false }, kinds := [], alts := [], laidByText := true, laidKinds := [.data, .pinned], laidTests := true, laidLooks := .later }
def ShredMovesUptoCardSaid : Prop := Claim7.holds Tryd.pinned (.plain (OpenSpec.upto shredMovesSpec)) shredMovesUptoCard

/-- THE SECOND FORM's CARD OF 'orangerylaw11.ShredBack'. -/
def shredBackUptoCard : Claim7 := { stood := { row := shredBackUptoRow, standIns := [], harness := (true, "65959df4788412340505286206ee644ed99fbe42deb96085b7af4f3d4398a7c7"), looks := false }, kinds := [], alts := [], laidByText := true, laidKinds := [.data, .pinned], laidTests := true, laidLooks := .later }
def ShredBackUptoCardSaid : Prop := Claim7.holds Tryd.pinned (.plain (OpenSpec.upto shredBackSpec)) shredBackUptoCard

/-- THE SECOND FORM's CARD OF 'orangerylaw11.ShredCounts'. -/
def shredCountsUptoCard : Claim7 := { stood := { row := shredCountsUptoRow, standIns := [], harness := (true, "65959df4788412340505286206ee644ed99fbe42deb96085b7af4f3d4398a7c7"), looks := false }, kinds := [], alts := [], laidByText := true, laidKinds := [.data, .pinned], laidTests := true, laidLooks := .later }
def ShredCountsUptoCardSaid : Prop := Claim7.holds Tryd.pinned (.plain (OpenSpec.upto shredCountsSpec)) shredCountsUptoCard

/-- THE SECOND FORM's CARD OF 'orangerylaw11.ShredLies'. -/
def shredLiesUptoCard : Claim7 := { stood := { row := shredLiesUptoRow, standIns := [], harness := (true, "65959df4788412340505286206ee644ed99fbe42deb96085b7af4f3d4398a7c7"), looks := false }, kinds := [], alts := [], laidByText := true, laidKinds := [.data, .pinned], laidTests := true, laidLooks := .later }
def ShredLiesUptoCardSaid : Prop := Claim7.holds Tryd.pinned (.plain (OpenSpec.upto shredLiesSpec)) shredLiesUptoCard

/-- THE SECOND FORM's CARD OF 'orangerylaw11.ShredIs'. -/
def shredIsUptoCard : Claim7 := { stood := { row := shredIsUptoRow, standIns := [], harness := (true, "65959df4788412340505286206ee644ed99fbe42deb96085b7af4f3d4398a7c7"), looks := false }, kinds := [], alts := [], laidByText := true, laidKinds := [.data, .pinned], laidTests := true, laidLooks := .later }
def ShredIsUptoCardSaid : Prop := Claim7.holds Tryd.pinned (.plain (OpenSpec.upto shredIsSpec)) shredIsUptoCard

/-- THE SECOND FORM's CARD OF 'orangerylaw11.ShredPlaces'. -/
def shredPlacesUptoCard : Claim7 := { stood := { row := shredPlacesUptoRow, standIns := [], harness := (true, "65959df4788412340505286206ee644ed99fbe42deb96085b7af4f3d4398a7c7"), looks := false }, kinds := [], alts := [], laidByText := true, laidKinds := [.data, .pinned], laidTests := true, laidLooks := .later }
def ShredPlacesUptoCardSaid : Prop := Claim7.holds Tryd.pinned (.plain (OpenSpec.upto shredPlacesSpec)) shredPlacesUptoCard

/-- THE SECOND FORM's CARD OF 'orangerylaw13.GuideAdds'. -/
def guideAddsUptoCard : Claim7 := { stood := { row := guideAddsUptoRow, standIns := [], harness := (true, "65959df4788412340505286206ee644ed99fbe42deb96085b7af4f3d4398a7c7"), looks := false }, kinds := [], alts := [], laidByText := true, laidKinds := [.data, .pinned], laidTests := true, laidLooks := .later }
def GuideAddsUptoCardSaid : Prop := Claim7.holds Tryd.pinned (.plain (OpenSpec.upto guideAddsSpec)) guideAddsUptoCard

/-- THE SECOND FORM's CARD OF 'orangerylaw13.GuideCounts'. -/
def guideCountsUptoCard : Claim7 := { stood := { row := guideCountsUptoRow, standIns := [], harness := (true, "65959df4788412340505286206ee644ed99fbe42deb96085b7af4f3d4398a7c7"), looks := false }, kinds := [], alts := [], laidByText := true, laidKinds := [.data, .pinned], laidTests := true, laidLooks := .later }
def GuideCountsUptoCardSaid : Prop := Claim7.holds Tryd.pinned (.plain (OpenSpec.upto guideCountsSpec)) guideCountsUptoCard

/-- THE SECOND FORM's CARD OF 'orangerylaw13.GuideBelow'. -/
def guideBelowUptoCard : Claim7 := { stood := { row := guideBelowUptoRow, standIns := [], harness := (true, "65959df4788412340505286206ee644ed99fbe42deb96085b7af4f3d4398a7c7"), looks := false }, kinds := [], alts := [], laidByText := true, laidKinds := [.data, .pinned], laidTests := true, laidLooks := .later }
def GuideBelowUptoCardSaid : Prop := Claim7.holds Tryd.pinned (.plain (OpenSpec.upto guideBelowSpec)) guideBelowUptoCard

/-- THE SECOND FORM's CARD OF 'orangerylaw12.EditsMany'. -/
def editsManyUptoCard : Claim7 := { stood := { row := editsManyUptoRow, standIns := [], harness := (true, "65959df4788412340505286206ee644ed99fbe42deb96085b7af4f3d4398a7c7"), looks := false }, kinds := [], alts := [], laidByText := true, laidKinds := [.data, .pinned], laidTests := true, laidLooks := .later }
def EditsManyUptoCardSaid : Prop := Claim7.holds Tryd.pinned (.plain (OpenSpec.upto editsManySpec)) editsManyUptoCard

/-- THE SECOND FORM's CARD OF 'orangerylaw12.EditsSpread'. -/
def editsSpreadUptoCard : Claim7 := { stood := { row := editsSpreadUptoRow, standIns := [], harness := (true, "65959df4788412340505286206ee644ed99fbe42deb96085b7af4f3d4398a7c7"), looks := false }, kinds := [], alts := [], laidByText := true, laidKinds := [.data, .pinned], laidTests := true, laidLooks := .later }
def EditsSpreadUptoCardSaid : Prop := Claim7.holds Tryd.pinned (.plain (OpenSpec.upto editsSpreadSpec)) editsSpreadUptoCard

/-- THE SECOND FORM's CARD OF 'orangerylaw12.EditsBack'. -/
def editsBackUptoCard : Claim7 := { stood := { row := editsBackUptoRow, standIns := [], harness := (true, "65959df4788412340505286206ee644ed99fbe42deb96085b7af4f3d4398a7c7"), looks := false }, kinds := [], alts := [], laidByText := true, laidKinds := [.data, .pinned], laidTests := true, laidLooks := .later }
def EditsBackUptoCardSaid : Prop := Claim7.holds Tryd.pinned (.plain (OpenSpec.upto editsBackSpec)) editsBackUptoCard

/-- THE SECOND FORM's CARD OF 'orangerylaw12.EditsInsert'. -/
def editsInsertUptoCard : Claim7 := { stood := { row := editsInsertUptoRow, standIns := [], harness := (true, "65959df4788412340505286206ee644ed99fbe42deb96085b7af4f3d4398a7c7"), looks := false }, kinds := [], alts := [], laidByText := true, laidKinds := [.data, .pinned], laidTests := true, laidLooks := .later }
def EditsInsertUptoCardSaid : Prop := Claim7.holds Tryd.pinned (.plain (OpenSpec.upto editsInsertSpec)) editsInsertUptoCard

/-- THE SECOND FORM's CARD OF 'orangerylaw12.EditsDrop'. -/
def editsDropUptoCard : Claim7 := { stood := { row := editsDropUptoRow, standIns := [], harness := (true, "65959df4788412340505286206ee644ed99fbe42deb96085b7af4f3d4398a7c7"), looks := false }, kinds := [], alts := [], laidByText := true, laidKinds := [.data, .pinned], laidTests := true, laidLooks := .later }
def EditsDropUptoCardSaid : Prop := Claim7.holds Tryd.pinned (.plain (OpenSpec.upto editsDropSpec)) editsDropUptoCard

/-- THE SECOND FORM's CARD OF 'orangerylaw12.EditsReplace'. -/
def editsReplaceUptoCard : Claim7 := { stood := { row := editsReplaceUptoRow, standIns := [], harness := (true, "65959df4788412340505286206ee644ed99fbe42deb96085b7af4f3d4398a7c7"), looks := false }, kinds := [], alts := [], laidByText := true, laidKinds := [.data, .pinned], laidTests := true, laidLooks := .later }
def EditsReplaceUptoCardSaid : Prop := Claim7.holds Tryd.pinned (.plain (OpenSpec.upto editsReplaceSpec)) editsReplaceUptoCard
end Rows
end Go.Proofs.YtadnijcgohflhaaDoor
