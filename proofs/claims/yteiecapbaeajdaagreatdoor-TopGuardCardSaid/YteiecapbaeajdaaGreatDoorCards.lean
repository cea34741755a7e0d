/-
  DERIVED. GIVEN WITH THE SEED: THE CARDS: each row of YteiecapbaeajdaaGreatDoorRows.lean that lists a variable, with what it lists TIED to the program's text (the seventh form; the later family's looks); each row that meets fmt, with fmt's text TOLD by the authors' own Lean function (tested against real Go, not proved from fmt's source: count such statements apart). THE CARD IS WHAT COUNTS. Prove the row's statement (the work); the ties are given (YteiecapbaeajdaaGreatDoorTie.lean); close each card by the builder's one call (the guide's Derived/Test/ToyasCard.lean, 'card_holds'). Laid BY PROGRAM, IN A SANDBOX (cutbox-door.mjs). By AI agents, Wed Nov 11 2026. No macro, syntax, notation, axiom, sorry.
-/
import Derived.Test.YteiecapbaeajdaaGreatDoorRows
import GoSem.ClaimSeven
namespace Go.Proofs.YteiecapbaeajdaaGreatDoor
namespace Rows

/-- THE TIED CARD OF 'avouchtop.TopModel'. -/
def topModelCard : Claim7 := { stood := { row := topModelRow, standIns := [], harness := (true, "43bebd8c07eb14bea84e2aaf59fc0c6cc0b8f1411961dd1063eed75626a8f04a"), looks := true }, kinds := [], alts := [], laidByText := true, laidKinds := [.data], laidTests := true, laidLooks := .later }
def TopModelCardSaid : Prop := Claim7.holds Tryz.pinned (.plain (OpenSpec.ofChange topModelSpec)) topModelCard

/-- THE TIED CARD OF 'avouchtop.TopFields'. -/
def topFieldsCard : Claim7 := { stood := { row := topFieldsRow, standIns := [], harness := (true, "43bebd8c07eb14bea84e2aaf59fc0c6cc0b8f1411961dd1063eed75626a8f04a"), looks := true }, kinds := [], alts := [], laidByText := true, laidKinds := [.data], laidTests := true, laidLooks := .later }
def TopFieldsCardSaid : Prop := Claim7.holds Tryz.pinned (.plain (OpenSpec.ofChange topFieldsSpec)) topFieldsCard

/-- THE TIED CARD OF 'avouchtop.TopPatterns'. -/
def topPatternsCard : Claim7 := { stood := { row := topPatternsRow, standIns := [], harness := (true, "43bebd8c07eb14bea84e2aaf59fc0c6cc0b8f1411961dd1063eed75626a8f04a"), looks := true }, kinds := [], alts := [], laidByText := true, laidKinds := [.data], laidTests := true, laidLooks := .later }
def TopPatternsCardSaid : Prop := Claim7.holds Tryz.pinned (.plain (OpenSpec.ofChange topPatternsSpec)) topPatternsCard

/-- THE TIED CARD OF 'avouchtop.TopGuard'. -/
def topGuardCard : Claim7 := { stood := { row := topGuardRow, standIns := [], harness := (true, "43bebd8c07eb14bea84e2aaf59fc0c6cc0b8f1411961dd1063eed75626a8f04a"), looks := true }, kinds := [], alts := [], laidByText := true, laidKinds := [.data], laidTests := true, laidLooks := .later }
def TopGuardCardSaid : Prop := Claim7.holds Tryz.pinned (.plain (OpenSpec.ofChange topGuardSpec)) topGuardCard

/-- THE TIED CARD OF 'avouchtop.TopInjective'. -/
def topInjectiveCard : Claim7 := { stood := { row := topInjectiveRow, standIns := [], harness := (true, "43bebd8c07eb14bea84e2aaf59fc0c6cc0b8f1411961dd1063eed75626a8f04a"), looks := true }, kinds := [], alts := [], laidByText := true, laidKinds := [.data], laidTests := true, laidLooks := .later }
def TopInjectiveCardSaid : Prop := Claim7.holds Tryz.pinned (.plain (OpenSpec.ofChange topInjectiveSpec)) topInjectiveCard

/-- THE TIED CARD OF 'avouchtop.TopTags'. -/
def topTagsCard : Claim7 := { stood := { row := topTagsRow, standIns := [], harness := (true, "43bebd8c07eb14bea84e2aaf59fc0c6cc0b8f1411961dd1063eed75626a8f04a"), looks := true }, kinds := [], alts := [], laidByText := true, laidKinds := [.data], laidTests := true, laidLooks := .later }
def TopTagsCardSaid : Prop := Claim7.holds Tryz.pinned (.plain (OpenSpec.ofChange topTagsSpec)) topTagsCard

/-- THE SECOND FORM's CARD OF 'avouchtop.TopModel'. -/
def topModelUptoCard : Claim7 := { stood := { row := topModelUptoRow, standIns := [], harness := (true, "43bebd8c07eb14bea84e2aaf59fc0c6cc0b8f1411961dd1063eed75626a8f04a"), looks := true }, kinds := [], alts := [], laidByText := true, laidKinds := [.data], laidTests := true, laidLooks := .later }
def TopModelUptoCardSaid : Prop := Claim7.holds Tryz.pinned (.plain (OpenSpec.upto topModelSpec)) topModelUptoCard

/-- THE SECOND FORM's CARD OF 'avouchtop.TopFields'. -/
def topFieldsUptoCard : Claim7 := { stood := { row := topFieldsUptoRow, standIns := [], harness := (true, "43bebd8c07eb14bea84e2aaf59fc0c6cc0b8f1411961dd1063eed75626a8f04a"), looks := true }, kinds := [], alts := [], laidByText := true, laidKinds := [.data], laidTests := true, laidLooks := .later }
def TopFieldsUptoCardSaid : Prop := Claim7.holds Tryz.pinned (.plain (OpenSpec.upto topFieldsSpec)) topFieldsUptoCard

/-- THE SECOND FORM's CARD OF 'avouchtop.TopPatterns'. -/
def topPatternsUptoCard : Claim7 := { stood := { row := topPatternsUptoRow, standIns := [], harness := (true, "43bebd8c07eb14bea84e2aaf59fc0c6cc0b8f1411961dd1063eed75626a8f04a"), looks := true }, kinds := [], alts := [], laidByText := true, laidKinds := [.data], laidTests := true, laidLooks := .later }
def TopPatternsUptoCardSaid : Prop := Claim7.holds Tryz.pinned (.plain (OpenSpec.upto topPatternsSpec)) topPatternsUptoCard

/-- THE SECOND FORM's CARD OF 'avouchtop.TopGuard'. -/
def topGuardUptoCard : Claim7 := { stood := { row := topGuardUptoRow, standIns := [], harness := (true, "43bebd8c07eb14bea84e2aaf59fc0c6cc0b8f1411961dd1063eed75626a8f04a"), looks := true }, kinds := [], alts := [], laidByText := true, laidKinds := [.data], laidTests := true, laidLooks := .later }
def TopGuardUptoCardSaid : Prop := Claim7.holds Tryz.pinned (.plain (OpenSpec.upto topGuardSpec)) topGuardUptoCard

/-- THE SECOND FORM's CARD OF 'avouchtop.TopInjective'. -/
def topInjectiveUptoCard : Claim7 := { stood := { row := topInjectiveUptoRow, standIns := [], harness := (true, "43bebd8c07eb14bea84e2aaf59fc0c6cc0b8f1411961dd1063eed75626a8f04a"), looks := true }, kinds := [], alts := [], laidByText := true, laidKinds := [.data], laidTests := true, laidLooks := .later }
def TopInjectiveUptoCardSaid : Prop := Claim7.holds Tryz.pinned (.plain (OpenSpec.upto topInjectiveSpec)) topInjectiveUptoCard

/-- THE SECOND FORM's CARD OF 'avouchtop.TopTags'. -/
def topTagsUptoCard : Claim7 := { stood := { row := topTagsUptoRow, standIns := [], harness := (true, "43bebd8c07eb14bea84e2aaf59fc0c6cc0b8f1411961dd1063eed75626a8f04a"), looks := true }, kinds := [], alts := [], laidByText := true, laidKinds := [.data], laidTests := true, laidLooks := .later }
def TopTagsUptoCardSaid : Prop := Claim7.holds Tryz.pinned (.plain (OpenSpec.upto topTagsSpec)) topTagsUptoCard
end Rows
end Go.Proofs.YteiecapbaeajdaaGreatDoor
