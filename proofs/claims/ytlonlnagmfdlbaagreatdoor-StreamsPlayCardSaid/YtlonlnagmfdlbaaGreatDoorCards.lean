/-
  DERIVED. GIVEN WITH THE SEED: THE CARDS: each row of YtlonlnagmfdlbaaGreatDoorRows.lean that lists a variable, with what it lists TIED to the program's text (the seventh form; the later family's looks); each row that meets fmt, with fmt's text TOLD by the authors' own Lean function (tested against real Go, not proved from fmt's source: count such statements apart). THE CARD IS WHAT COUNTS. Prove the row's statement (the work); the ties are given (YtlonlnagmfdlbaaGreatDoorTie.lean); close each card by the builder's one call (the guide's Derived/Test/ToyasCard.lean, 'card_holds'). Laid BY PROGRAM, IN A SANDBOX (cutbox-door.mjs). By AI agents, Wed Nov 11 2026. No macro, syntax, notation, axiom, sorry.
-/
import Derived.Test.YtlonlnagmfdlbaaGreatDoorRows
import GoSem.ClaimSeven
namespace Go.Proofs.YtlonlnagmfdlbaaGreatDoor
namespace Rows

/-- THE TIED CARD OF 'orangerylaw12.EditsAre'. -/
def editsAreCard : Claim7 := { stood := { row := editsAreRow, standIns := [], harness := (true, "41f317d7acf6f2844da077b0ac214eeda7534cfcdee2e84346ace9fb79d313f7"), looks := false }, kinds := [], alts := [], laidByText := true, laidKinds := [.data, .pinned], laidTests := true, laidLooks := .later }
def EditsAreCardSaid : Prop := Claim7.holds Tryz.pinned (.plain (OpenSpec.ofChange editsAreSpec)) editsAreCard

/-- THE TIED CARD OF 'orangerylaw20.JoinsPairs'. -/
def joinsPairsCard : Claim7 := { stood := { row := joinsPairsRow, standIns := [], harness := (true, "41f317d7acf6f2844da077b0ac214eeda7534cfcdee2e84346ace9fb79d313f7"), looks := false }, kinds := [], alts := [], laidByText := true, laidKinds := [.data, .pinned], laidTests := true, laidLooks := .later }
def JoinsPairsCardSaid : Prop := Claim7.holds Tryz.pinned (.plain (OpenSpec.ofChange joinsPairsSpec)) joinsPairsCard

/-- THE TIED CARD OF 'orangerylaw20.JoinsPaths'. -/
def joinsPathsCard : Claim7 := { stood := { row := joinsPathsRow, standIns := [], harness := (true, "41f317d7acf6f2844da077b0ac214eeda7534cfcdee2e84346ace9fb79d313f7"), looks := false }, kinds := [], alts := [], laidByText := true, laidKinds := [.data, .pinned], laidTests := true, laidLooks := .later }
def JoinsPathsCardSaid : Prop := Claim7.holds Tryz.pinned (.plain (OpenSpec.ofChange joinsPathsSpec)) joinsPathsCard

/-- THE TIED CARD OF 'orangerylaw20.JoinsApart'. -/
def joinsApartCard : Claim7 := { stood := { row := joinsApartRow, standIns := [], harness := (true, "41f317d7acf6f2844da077b0ac214eeda7534cfcdee2e84346ace9fb79d313f7"), looks := false }, kinds := [], alts := [], laidByText := true, laidKinds := [.data, .pinned], laidTests := true, laidLooks := .later }
def JoinsApartCardSaid : Prop := Claim7.holds Tryz.pinned (.plain (OpenSpec.ofChange joinsApartSpec)) joinsApartCard

/-- THE TIED CARD OF 'orangerylaw19.StreamsUp'. -/
def streamsUpCard : Claim7 := { stood := { row := streamsUpRow, standIns := [], harness := (true, "41f317d7acf6f2844da077b0ac214eeda7534cfcdee2e84346ace9fb79d313f7"), looks := false }, kinds := [], alts := [], laidByText := true, laidKinds := [.data, .pinned], laidTests := true, laidLooks := .later }
def StreamsUpCardSaid : Prop := Claim7.holds Tryz.pinned (.plain (OpenSpec.ofChange streamsUpSpec)) streamsUpCard

/-- THE TIED CARD OF 'orangerylaw19.StreamsGone'. -/
def streamsGoneCard : Claim7 := { stood := { row := streamsGoneRow, standIns := [], harness := (true, "41f317d7acf6f2844da077b0ac214eeda7534cfcdee2e84346ace9fb79d313f7"), looks := false }, kinds := [], alts := [], laidByText := true, laidKinds := [.data, .pinned], laidTests := true, laidLooks := .later }
def StreamsGoneCardSaid : Prop := Claim7.holds Tryz.pinned (.plain (OpenSpec.ofChange streamsGoneSpec)) streamsGoneCard

/-- THE TIED CARD OF 'orangerylaw19.StreamsValues'. -/
def streamsValuesCard : Claim7 := { stood := { row := streamsValuesRow, standIns := [], harness := (true, "41f317d7acf6f2844da077b0ac214eeda7534cfcdee2e84346ace9fb79d313f7"), looks := false }, kinds := [], alts := [], laidByText := true, laidKinds := [.data, .pinned], laidTests := true, laidLooks := .later }
def StreamsValuesCardSaid : Prop := Claim7.holds Tryz.pinned (.plain (OpenSpec.ofChange streamsValuesSpec)) streamsValuesCard

/-- THE TIED CARD OF 'orangerylaw19.StreamsPlay'. -/
def streamsPlayCard : Claim7 := { stood := { row := streamsPlayRow, standIns := [], harness := (true, "41f317d7acf6f2844da077b0ac214eeda7534cfcdee2e84346ace9fb79d313f7"), looks := false }, kinds := [], alts := [], laidByText := true, laidKinds := [.data, .pinned], laidTests := true, laidLooks := .later }
def StreamsPlayCardSaid : Prop := Claim7.holds Tryz.pinned (.plain (OpenSpec.ofChange streamsPlaySpec)) streamsPlayCard

/-- THE SECOND FORM's CARD OF 'orangerylaw12.EditsAre'. -/
def editsAreUptoCard : Claim7 := { stood := { row := editsAreUptoRow, standIns := [], harness := (true, "41f317d7acf6f2844da077b0ac214eeda7534cfcdee2e84346ace9fb79d313f7"), looks := false }, kinds := [], alts := [], laidByText := true, laidKinds := [.data, .pinned], laidTests := true, laidLooks := .later }
def EditsAreUptoCardSaid : Prop := Claim7.holds Tryz.pinned (.plain (OpenSpec.upto editsAreSpec)) editsAreUptoCard

/-- THE SECOND FORM's CARD OF 'orangerylaw20.JoinsPairs'. -/
def joinsPairsUptoCard : Claim7 := { stood := { row := joinsPairsUptoRow, standIns := [], harness := (true, "41f317d7acf6f2844da077b0ac214eeda7534cfcdee2e84346ace9fb79d313f7"), looks := false }, kinds := [], alts := [], laidByText := true, laidKinds := [.data, .pinned], laidTests := true, laidLooks := .later }
def JoinsPairsUptoCardSaid : Prop := Claim7.holds Tryz.pinned (.plain (OpenSpec.upto joinsPairsSpec)) joinsPairsUptoCard

/-- THE SECOND FORM's CARD OF 'orangerylaw20.JoinsPaths'. -/
def joinsPathsUptoCard : Claim7 := { stood := { row := joinsPathsUptoRow, standIns := [], harness := (true, "41f317d7acf6f2844da077b0ac214eeda7534cfcdee2e84346ace9fb79d313f7"), looks := false }, kinds := [], alts := [], laidByText := true, laidKinds := [.data, .pinned], laidTests := true, laidLooks := .later }
def JoinsPathsUptoCardSaid : Prop := Claim7.holds Tryz.pinned (.plain (OpenSpec.upto joinsPathsSpec)) joinsPathsUptoCard

/-- THE SECOND FORM's CARD OF 'orangerylaw20.JoinsApart'. -/
def joinsApartUptoCard : Claim7 := { stood := { row := joinsApartUptoRow, standIns := [], harness := (true, "41f317d7acf6f2844da077b0ac214eeda7534cfcdee2e84346ace9fb79d313f7"), looks := false }, kinds := [], alts := [], laidByText := true, laidKinds := [.data, .pinned], laidTests := true, laidLooks := .later }
def JoinsApartUptoCardSaid : Prop := Claim7.holds Tryz.pinned (.plain (OpenSpec.upto joinsApartSpec)) joinsApartUptoCard

/-- THE SECOND FORM's CARD OF 'orangerylaw19.StreamsUp'. -/
def streamsUpUptoCard : Claim7 := { stood := { row := streamsUpUptoRow, standIns := [], harness := (true, "41f317d7acf6f2844da077b0ac214eeda7534cfcdee2e84346ace9fb79d313f7"), looks := false }, kinds := [], alts := [], laidByText := true, laidKinds := [.data, .pinned], laidTests := true, laidLooks := .later }
def StreamsUpUptoCardSaid : Prop := Claim7.holds Tryz.pinned (.plain (OpenSpec.upto streamsUpSpec)) streamsUpUptoCard

/-- THE SECOND FORM's CARD OF 'orangerylaw19.StreamsGone'. -/
def streamsGoneUptoCard : Claim7 := { stood := { row := streamsGoneUptoRow, standIns := [], harness := (true, "41f317d7acf6f2844da077b0ac214eeda7534cfcdee2e84346ace9fb79d313f7"), looks := false }, kinds := [], alts := [], laidByText := true, laidKinds := [.data, .pinned], laidTests := true, laidLooks := .later }
def StreamsGoneUptoCardSaid : Prop := Claim7.holds Tryz.pinned (.plain (OpenSpec.upto streamsGoneSpec)) streamsGoneUptoCard

/-- THE SECOND FORM's CARD OF 'orangerylaw19.StreamsValues'. -/
def streamsValuesUptoCard : Claim7 := { stood := { row := streamsValuesUptoRow, standIns := [], harness := (true, "41f317d7acf6f2844da077b0ac214eeda7534cfcdee2e84346ace9fb79d313f7"), looks := false }, kinds := [], alts := [], laidByText := true, laidKinds := [.data, .pinned], laidTests := true, laidLooks := .later }
def StreamsValuesUptoCardSaid : Prop := Claim7.holds Tryz.pinned (.plain (OpenSpec.upto streamsValuesSpec)) streamsValuesUptoCard

/-- THE SECOND FORM's CARD OF 'orangerylaw19.StreamsPlay'. -/
def streamsPlayUptoCard : Claim7 := { stood := { row := streamsPlayUptoRow, standIns := [], harness := (true, "41f317d7acf6f2844da077b0ac214eeda7534cfcdee2e84346ace9fb79d313f7"), looks := false }, kinds := [], alts := [], laidByText := true, laidKinds := [.data, .pinned], laidTests := true, laidLooks := .later }
def StreamsPlayUptoCardSaid : Prop := Claim7.holds Tryz.pinned (.plain (OpenSpec.upto streamsPlaySpec)) streamsPlayUptoCard
end Rows
end Go.Proofs.YtlonlnagmfdlbaaGreatDoor
