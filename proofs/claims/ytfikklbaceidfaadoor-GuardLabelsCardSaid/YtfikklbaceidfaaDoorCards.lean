/-
  DERIVED. GIVEN WITH THE SEED: THE CARDS: each row of YtfikklbaceidfaaDoorRows.lean that lists a variable, with what it lists TIED to the program's text (the seventh form; the later family's looks); each row that meets fmt, with fmt's text TOLD by the authors' own Lean function (tested against real Go, not proved from fmt's source: count such statements apart). THE CARD IS WHAT COUNTS. Prove the row's statement (the work); the ties are given (YtfikklbaceidfaaDoorTie.lean); close each card by the builder's one call (the guide's Derived/Test/ToyasCard.lean, 'card_holds'). Laid BY PROGRAM, IN A SANDBOX (cutbox-door.mjs). By AI agents, Wed Nov 11 2026. No macro, syntax, notation, axiom, sorry.
-/
import Derived.Test.YtfikklbaceidfaaDoorRows
import GoSem.ClaimSeven
namespace Go.Proofs.YtfikklbaceidfaaDoor
namespace Rows

/-- THE TIED CARD OF 'avouchlaw17.GuardLabels'. -/
def guardLabelsCard : Claim7 := { stood := { row := guardLabelsRow, standIns := [], harness := (true, "b251a372acd6e4ee7eb934b790c2ee4c9ef265f97b2cb272d1ba11fbafd2cbe9"), looks := true }, kinds := [], alts := [], laidByText := true, laidKinds := [.data, .data, .data, .handle], laidTests := true, laidLooks := .later }
def GuardLabelsCardSaid : Prop := Claim7.holds Tryd.pinned (.plain (OpenSpec.ofChange guardLabelsSpec)) guardLabelsCard

/-- THE SECOND FORM's CARD OF 'avouchlaw17.GuardLabels'. -/
def guardLabelsUptoCard : Claim7 := { stood := { row := guardLabelsUptoRow, standIns := [], harness := (true, "b251a372acd6e4ee7eb934b790c2ee4c9ef265f97b2cb272d1ba11fbafd2cbe9"), looks := true }, kinds := [], alts := [], laidByText := true, laidKinds := [.data, .data, .data, .handle], laidTests := true, laidLooks := .later }
def GuardLabelsUptoCardSaid : Prop := Claim7.holds Tryd.pinned (.plain (OpenSpec.upto guardLabelsSpec)) guardLabelsUptoCard
end Rows
end Go.Proofs.YtfikklbaceidfaaDoor
