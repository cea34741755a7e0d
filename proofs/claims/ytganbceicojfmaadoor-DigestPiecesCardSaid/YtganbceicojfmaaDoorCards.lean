/-
  DERIVED. GIVEN WITH THE SEED: THE CARDS: each row of YtganbceicojfmaaDoorRows.lean that lists a variable, with what it lists TIED to the program's text (the seventh form; the later family's looks); each row that meets fmt, with fmt's text TOLD by the authors' own Lean function (tested against real Go, not proved from fmt's source: count such statements apart). THE CARD IS WHAT COUNTS. Prove the row's statement (the work); the ties are given (YtganbceicojfmaaDoorTie.lean); close each card by the builder's one call (the guide's Derived/Test/ToyasCard.lean, 'card_holds'). Laid BY PROGRAM, IN A SANDBOX (cutbox-door.mjs). By AI agents, Wed Nov 11 2026. No macro, syntax, notation, axiom, sorry.
-/
import Derived.Test.YtganbceicojfmaaDoorRows
import GoSem.ClaimSeven
namespace Go.Proofs.YtganbceicojfmaaDoor
namespace Rows

/-- THE TIED CARD OF 'avouchlaw06.KeccakPermutes'. -/
def keccakPermutesCard : Claim7 := { stood := { row := keccakPermutesRow, standIns := [], harness := (true, "56a24867dac3dcf09a4c9baede4b95ace03450e223fd43d165c7ed1f9bc03d5d"), looks := false }, kinds := [], alts := [], laidByText := true, laidKinds := [.data], laidTests := true, laidLooks := .later }
def KeccakPermutesCardSaid : Prop := Claim7.holds Tryd.pinned (.plain (OpenSpec.ofChange keccakPermutesSpec)) keccakPermutesCard

/-- THE TIED CARD OF 'avouchlaw06.KeccakConstants'. -/
def keccakConstantsCard : Claim7 := { stood := { row := keccakConstantsRow, standIns := [], harness := (true, "56a24867dac3dcf09a4c9baede4b95ace03450e223fd43d165c7ed1f9bc03d5d"), looks := false }, kinds := [], alts := [], laidByText := true, laidKinds := [.data], laidTests := true, laidLooks := .later }
def KeccakConstantsCardSaid : Prop := Claim7.holds Tryd.pinned (.plain (OpenSpec.ofChange keccakConstantsSpec)) keccakConstantsCard

/-- THE TIED CARD OF 'avouchlaw06.KeccakUnlike'. -/
def keccakUnlikeCard : Claim7 := { stood := { row := keccakUnlikeRow, standIns := [], harness := (true, "56a24867dac3dcf09a4c9baede4b95ace03450e223fd43d165c7ed1f9bc03d5d"), looks := false }, kinds := [], alts := [], laidByText := true, laidKinds := [.data], laidTests := true, laidLooks := .later }
def KeccakUnlikeCardSaid : Prop := Claim7.holds Tryd.pinned (.plain (OpenSpec.ofChange keccakUnlikeSpec)) keccakUnlikeCard

/-- THE TIED CARD OF 'avouchlaw06.KeccakBytes'. -/
def keccakBytesCard : Claim7 := { stood := { row := keccakBytesRow, standIns := [], harness := (true, "56a24867dac3dcf09a4c9baede4b95ace03450e223fd43d165c7ed1f9bc03d5d"), looks := false }, kinds := [], alts := [], laidByText := true, laidKinds := [.data], laidTests := true, laidLooks := .later }
def KeccakBytesCardSaid : Prop := Claim7.holds Tryd.pinned (.plain (OpenSpec.ofChange keccakBytesSpec)) keccakBytesCard

/-- THE TIED CARD OF 'avouchlaw06.KeccakIota'. -/
def keccakIotaCard : Claim7 := { stood := { row := keccakIotaRow, standIns := [], harness := (true, "56a24867dac3dcf09a4c9baede4b95ace03450e223fd43d165c7ed1f9bc03d5d"), looks := false }, kinds := [], alts := [], laidByText := true, laidKinds := [.data], laidTests := true, laidLooks := .later }
def KeccakIotaCardSaid : Prop := Claim7.holds Tryd.pinned (.plain (OpenSpec.ofChange keccakIotaSpec)) keccakIotaCard

/-- THE TIED CARD OF 'avouchlaw07.DigestSums'. -/
def digestSumsCard : Claim7 := { stood := { row := digestSumsRow, standIns := [], harness := (true, "56a24867dac3dcf09a4c9baede4b95ace03450e223fd43d165c7ed1f9bc03d5d"), looks := false }, kinds := [], alts := [], laidByText := true, laidKinds := [.data], laidTests := true, laidLooks := .later }
def DigestSumsCardSaid : Prop := Claim7.holds Tryd.pinned (.plain (OpenSpec.ofChange digestSumsSpec)) digestSumsCard

/-- THE TIED CARD OF 'avouchlaw07.DigestPieces'. -/
def digestPiecesCard : Claim7 := { stood := { row := digestPiecesRow, standIns := [], harness := (true, "56a24867dac3dcf09a4c9baede4b95ace03450e223fd43d165c7ed1f9bc03d5d"), looks := false }, kinds := [], alts := [], laidByText := true, laidKinds := [.data], laidTests := true, laidLooks := .later }
def DigestPiecesCardSaid : Prop := Claim7.holds Tryd.pinned (.plain (OpenSpec.ofChange digestPiecesSpec)) digestPiecesCard

/-- THE TIED CARD OF 'avouchlaw07.DigestCopies'. -/
def digestCopiesCard : Claim7 := { stood := { row := digestCopiesRow, standIns := [], harness := (true, "56a24867dac3dcf09a4c9baede4b95ace03450e223fd43d165c7ed1f9bc03d5d"), looks := false }, kinds := [], alts := [], laidByText := true, laidKinds := [.data], laidTests := true, laidLooks := .later }
def DigestCopiesCardSaid : Prop := Claim7.holds Tryd.pinned (.plain (OpenSpec.ofChange digestCopiesSpec)) digestCopiesCard

/-- THE TIED CARD OF 'avouchlaw07.DigestBlocks'. -/
def digestBlocksCard : Claim7 := { stood := { row := digestBlocksRow, standIns := [], harness := (true, "56a24867dac3dcf09a4c9baede4b95ace03450e223fd43d165c7ed1f9bc03d5d"), looks := false }, kinds := [], alts := [], laidByText := true, laidKinds := [.data], laidTests := true, laidLooks := .later }
def DigestBlocksCardSaid : Prop := Claim7.holds Tryd.pinned (.plain (OpenSpec.ofChange digestBlocksSpec)) digestBlocksCard

/-- THE SECOND FORM's CARD OF 'avouchlaw06.KeccakPermutes'. -/
def keccakPermutesUptoCard : Claim7 := { stood := { row := keccakPermutesUptoRow, standIns := [], harness := (true, "56a24867dac3dcf09a4c9baede4b95ace03450e223fd43d165c7ed1f9bc03d5d"), looks := false }, kinds := [], alts := [], laidByText := true, laidKinds := [.data], laidTests := true, laidLooks := .later }
def KeccakPermutesUptoCardSaid : Prop := Claim7.holds Tryd.pinned (.plain (OpenSpec.upto keccakPermutesSpec)) keccakPermutesUptoCard

/-- THE SECOND FORM's CARD OF 'avouchlaw06.KeccakConstants'. -/
def keccakConstantsUptoCard : Claim7 := { stood := { row := keccakConstantsUptoRow, standIns := [], harness := (true, "56a24867dac3dcf09a4c9baede4b95ace03450e223fd43d165c7ed1f9bc03d5d"), looks := false }, kinds := [], alts := [], laidByText := true, laidKinds := [.data], laidTests := true, laidLooks := .later }
def KeccakConstantsUptoCardSaid : Prop := Claim7.holds Tryd.pinned (.plain (OpenSpec.upto keccakConstantsSpec)) keccakConstantsUptoCard

/-- THE SECOND FORM's CARD OF 'avouchlaw06.KeccakUnlike'. -/
def keccakUnlikeUptoCard : Claim7 := { stood := { row := keccakUnlikeUptoRow, standIns := [], harness := (true, "56a24867dac3dcf09a4c9baede4b95ace03450e223fd43d165c7ed1f9bc03d5d"), looks := false }, kinds := [], alts := [], laidByText := true, laidKinds := [.data], laidTests := true, laidLooks := .later }
def KeccakUnlikeUptoCardSaid : Prop := Claim7.holds Tryd.pinned (.plain (OpenSpec.upto keccakUnlikeSpec)) keccakUnlikeUptoCard

/-- THE SECOND FORM's CARD OF 'avouchlaw06.KeccakBytes'. -/
def keccakBytesUptoCard : Claim7 := { stood := { row := keccakBytesUptoRow, standIns := [], harness := (true, "56a24867dac3dcf09a4c9baede4b95ace03450e223fd43d165c7ed1f9bc03d5d"), looks := false }, kinds := [], alts := [], laidByText := true, laidKinds := [.data], laidTests := true, laidLooks := .later }
def KeccakBytesUptoCardSaid : Prop := Claim7.holds Tryd.pinned (.plain (OpenSpec.upto keccakBytesSpec)) keccakBytesUptoCard

/-- THE SECOND FORM's CARD OF 'avouchlaw06.KeccakIota'. -/
def keccakIotaUptoCard : Claim7 := { stood := { row := keccakIotaUptoRow, standIns := [], harness := (true, "56a24867dac3dcf09a4c9baede4b95ace03450e223fd43d165c7ed1f9bc03d5d"), looks := false }, kinds := [], alts := [], laidByText := true, laidKinds := [.data], laidTests := true, laidLooks := .later }
def KeccakIotaUptoCardSaid : Prop := Claim7.holds Tryd.pinned (.plain (OpenSpec.upto keccakIotaSpec)) keccakIotaUptoCard

/-- THE SECOND FORM's CARD OF 'avouchlaw07.DigestSums'. -/
def digestSumsUptoCard : Claim7 := { stood := { row := digestSumsUptoRow, standIns := [], harness := (true, "56a24867dac3dcf09a4c9baede4b95ace03450e223fd43d165c7ed1f9bc03d5d"), looks := false }, kinds := [], alts := [], laidByText := true, laidKinds := [.data], laidTests := true, laidLooks := .later }
def DigestSumsUptoCardSaid : Prop := Claim7.holds Tryd.pinned (.plain (OpenSpec.upto digestSumsSpec)) digestSumsUptoCard

/-- THE SECOND FORM's CARD OF 'avouchlaw07.DigestPieces'. -/
def digestPiecesUptoCard : Claim7 := { stood := { row := digestPiecesUptoRow, standIns := [], harness := (true, "56a24867dac3dcf09a4c9baede4b95ace03450e223fd43d165c7ed1f9bc03d5d"), looks := false }, kinds := [], alts := [], laidByText := true, laidKinds := [.data], laidTests := true, laidLooks := .later }
def DigestPiecesUptoCardSaid : Prop := Claim7.holds Tryd.pinned (.plain (OpenSpec.upto digestPiecesSpec)) digestPiecesUptoCard

/-- THE SECOND FORM's CARD OF 'avouchlaw07.DigestCopies'. -/
def digestCopiesUptoCard : Claim7 := { stood := { row := digestCopiesUptoRow, standIns := [], harness := (true, "56a24867dac3dcf09a4c9baede4b95ace03450e223fd43d165c7ed1f9bc03d5d"), looks := false }, kinds := [], alts := [], laidByText := true, laidKinds := [.data], laidTests := true, laidLooks := .later }
def DigestCopiesUptoCardSaid : Prop := Claim7.holds Tryd.pinned (.plain (OpenSpec.upto digestCopiesSpec)) digestCopiesUptoCard

/-- THE SECOND FORM's CARD OF 'avouchlaw07.DigestBlocks'. -/
def digestBlocksUptoCard : Claim7 := { stood := { row := digestBlocksUptoRow, standIns := [], harness := (true, "56a24867dac3dcf09a4c9baede4b95ace03450e223fd43d165c7ed1f9bc03d5d"), looks := false }, kinds := [], alts := [], laidByText := true, laidKinds := [.data], laidTests := true, laidLooks := .later }
def DigestBlocksUptoCardSaid : Prop := Claim7.holds Tryd.pinned (.plain (OpenSpec.upto digestBlocksSpec)) digestBlocksUptoCard
end Rows
end Go.Proofs.YtganbceicojfmaaDoor
