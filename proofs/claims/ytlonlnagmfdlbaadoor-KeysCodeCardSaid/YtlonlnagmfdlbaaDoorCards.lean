/-
  DERIVED. GIVEN WITH THE SEED: THE CARDS: each row of YtlonlnagmfdlbaaDoorRows.lean that lists a variable, with what it lists TIED to the program's text (the seventh form; the later family's looks); each row that meets fmt, with fmt's text TOLD by the authors' own Lean function (tested against real Go, not proved from fmt's source: count such statements apart). THE CARD IS WHAT COUNTS. Prove the row's statement (the work); the ties are given (YtlonlnagmfdlbaaDoorTie.lean); close each card by the builder's one call (the guide's Derived/Test/ToyasCard.lean, 'card_holds'). Laid BY PROGRAM, IN A SANDBOX (cutbox-door.mjs). By AI agents, Wed Nov 11 2026. No macro, syntax, notation, axiom, sorry.
-/
import Derived.Test.YtlonlnagmfdlbaaDoorRows
import GoSem.ClaimSeven
namespace Go.Proofs.YtlonlnagmfdlbaaDoor
namespace Rows

/-- THE TIED CARD OF 'orangerylaw09.KeysAfter'. -/
def keysAfterCard : Claim7 := { stood := { row := keysAfterRow, standIns := [], harness := (true, "008de6c216b1d692242adfd674248038bd8fc3816ae4722d8e2b47cbb58e6188"), looks := false }, kinds := [], alts := [], laidByText := true, laidKinds := [.data, .pinned], laidTests := true, laidLooks := .later }
def KeysAfterCardSaid : Prop := Claim7.holds Tryd.pinned (.plain (OpenSpec.ofChange keysAfterSpec)) keysAfterCard

/-- THE TIED CARD OF 'orangerylaw09.KeysJoin'. -/
def keysJoinCard : Claim7 := { stood := { row := keysJoinRow, standIns := [], harness := (true, "008de6c216b1d692242adfd674248038bd8fc3816ae4722d8e2b47cbb58e6188"), looks := false }, kinds := [], alts := [], laidByText := true, laidKinds := [.data, .pinned], laidTests := true, laidLooks := .later }
def KeysJoinCardSaid : Prop := Claim7.holds Tryd.pinned (.plain (OpenSpec.ofChange keysJoinSpec)) keysJoinCard

/-- THE TIED CARD OF 'orangerylaw09.KeysPrefix'. -/
def keysPrefixCard : Claim7 := { stood := { row := keysPrefixRow, standIns := [], harness := (true, "008de6c216b1d692242adfd674248038bd8fc3816ae4722d8e2b47cbb58e6188"), looks := false }, kinds := [], alts := [], laidByText := true, laidKinds := [.data, .pinned], laidTests := true, laidLooks := .later }
def KeysPrefixCardSaid : Prop := Claim7.holds Tryd.pinned (.plain (OpenSpec.ofChange keysPrefixSpec)) keysPrefixCard

/-- THE TIED CARD OF 'orangerylaw09.KeysBack'. -/
def keysBackCard : Claim7 := { stood := { row := keysBackRow, standIns := [], harness := (true, "008de6c216b1d692242adfd674248038bd8fc3816ae4722d8e2b47cbb58e6188"), looks := false }, kinds := [], alts := [], laidByText := true, laidKinds := [.data, .pinned], laidTests := true, laidLooks := .later }
def KeysBackCardSaid : Prop := Claim7.holds Tryd.pinned (.plain (OpenSpec.ofChange keysBackSpec)) keysBackCard

/-- THE TIED CARD OF 'orangerylaw09.KeysCode'. -/
def keysCodeCard : Claim7 := { stood := { row := keysCodeRow, standIns := [], harness := (true, "008de6c216b1d692242adfd674248038bd8fc3816ae4722d8e2b47cbb58e6188"), looks := false }, kinds := [], alts := [], laidByText := true, laidKinds := [.data, .pinned], laidTests := true, laidLooks := .later }
def KeysCodeCardSaid : Prop := Claim7.holds Tryd.pinned (.plain (OpenSpec.ofChange keysCodeSpec)) keysCodeCard

/-- THE SECOND FORM's CARD OF 'orangerylaw09.KeysAfter'. -/
def keysAfterUptoCard : Claim7 := { stood := { row := keysAfterUptoRow, standIns := [], harness := (true, "008de6c216b1d692242adfd674248038bd8fc3816ae4722d8e2b47cbb58e6188"), looks := false }, kinds := [], alts := [], laidByText := true, laidKinds := [.data, .pinned], laidTests := true, laidLooks := .later }
def KeysAfterUptoCardSaid : Prop := Claim7.holds Tryd.pinned (.plain (OpenSpec.upto keysAfterSpec)) keysAfterUptoCard

/-- THE SECOND FORM's CARD OF 'orangerylaw09.KeysJoin'. -/
def keysJoinUptoCard : Claim7 := { stood := { row := keysJoinUptoRow, standIns := [], harness := (true, "008de6c216b1d692242adfd674248038bd8fc3816ae4722d8e2b47cbb58e6188"), looks := false }, kinds := [], alts := [], laidByText := true, laidKinds := [.data, .pinned], laidTests := true, laidLooks := .later }
def KeysJoinUptoCardSaid : Prop := Claim7.holds Tryd.pinned (.plain (OpenSpec.upto keysJoinSpec)) keysJoinUptoCard

/-- THE SECOND FORM's CARD OF 'orangerylaw09.KeysPrefix'. -/
def keysPrefixUptoCard : Claim7 := { stood := { row := keysPrefixUptoRow, standIns := [], harness := (true, "008de6c216b1d692242adfd674248038bd8fc3816ae4722d8e2b47cbb58e6188"), looks := false }, kinds := [], alts := [], laidByText := true, laidKinds := [.data, .pinned], laidTests := true, laidLooks := .later }
def KeysPrefixUptoCardSaid : Prop := Claim7.holds Tryd.pinned (.plain (OpenSpec.upto keysPrefixSpec)) keysPrefixUptoCard

/-- THE SECOND FORM's CARD OF 'orangerylaw09.KeysBack'. -/
def keysBackUptoCard : Claim7 := { stood := { row := keysBackUptoRow, standIns := [], harness := (true, "008de6c216b1d692242adfd674248038bd8fc3816ae4722d8e2b47cbb58e6188"), looks := false }, kinds := [], alts := [], laidByText := true, laidKinds := [.data, .pinned], laidTests := true, laidLooks := .later }
def KeysBackUptoCardSaid : Prop := Claim7.holds Tryd.pinned (.plain (OpenSpec.upto keysBackSpec)) keysBackUptoCard

/-- THE SECOND FORM's CARD OF 'orangerylaw09.KeysCode'. -/
def keysCodeUptoCard : Claim7 := { stood := { row := keysCodeUptoRow, standIns := [], harness := (true, "008de6c216b1d692242adfd674248038bd8fc3816ae4722d8e2b47cbb58e6188"), looks := false }, kinds := [], alts := [], laidByText := true, laidKinds := [.data, .pinned], laidTests := true, laidLooks := .later }
def KeysCodeUptoCardSaid : Prop := Claim7.holds Tryd.pinned (.plain (OpenSpec.upto keysCodeSpec)) keysCodeUptoCard
end Rows
end Go.Proofs.YtlonlnagmfdlbaaDoor
