/-
  NARROWER THAN 'FOR EVERY INPUT', by the rows' own cells (each row's printed sentence says how): TopModel: laid · TopFields: laid · TopPatterns: laid · TopGuard: laid · TopInjective: laid · TopTags: laid.
  DERIVED. THE GIVEN ROWS OF THIS SEAT. 6 by the template 'for every input the law returns true; each argument reads behind the call as it read before'; 0 by the template 'total and deterministic' (their statements: YteiecapbaeajdaaGreatDoorTotals.lean).
  GIVEN WITH THE SEED: the statements are not yours to turn. If you find one false, say at which input.
  Laid BY PROGRAM, IN A SANDBOX (cutbox-rows.mjs): the forced cells as the released guide's own fill.sh prints them over the translation fb0c61c0ea5e0a9e… (all of the seat's roots in one cut). By AI agents, Wed Nov 11 2026. No macro, syntax, notation, axiom, sorry.
-/
import Derived.Test.YteiecapbaeajdaaGreatDoorChecked
import GoSem.Claim
import GoSem.ClaimJoined
import GoSem.ClaimMapViews
import Derived.JoinedTies
import Derived.KernelRfl
namespace Go.Proofs.YteiecapbaeajdaaGreatDoor
/- THE CELL 'sum', in the pinned program and in every row, IS THE sha256 OF THE DUMP (.gsa) THAT YteiecapbaeajdaaGreatDoorProg.lean LOADS. Nothing in Lean hashes anything: it is a label: what it is worth is what the hold of that sum in a sandbox is worth. -/
noncomputable def Tryz.pinned : Pinned := { name := "yteiecapbaeajdaagreatdoor", sum := "fb0c61c0ea5e0a9ed2bdb9dd7d32055abeb3eaa8bcf579d75d3c5d37fcd06f33", checked := Tryz.checked }
namespace Rows
def none {H : Type} : Left H := { results := [], args := [] }

/- WHAT THE LISTED PACKAGE-LEVEL VARIABLES READ AS WHEN THE CALL BEGINS. Each datum BY PROGRAM (the guide's laid-datum.mjs) off the statement by which the dump's own 'gosem.cut.vars' lays the variable. In a bare row this is a premise. The card (YteiecapbaeajdaaGreatDoorCards.lean) ties it to the program's text. -/
def laid_avouch_keccak_constants {H : Type} : DataW H := .agg [.lit (.int .u64 1), .lit (.int .u64 32898), .lit (.int .u64 9223372036854808714), .lit (.int .u64 9223372039002292224), .lit (.int .u64 32907), .lit (.int .u64 2147483649), .lit (.int .u64 9223372039002292353), .lit (.int .u64 9223372036854808585), .lit (.int .u64 138), .lit (.int .u64 136), .lit (.int .u64 2147516425), .lit (.int .u64 2147483658), .lit (.int .u64 2147516555), .lit (.int .u64 9223372036854775947), .lit (.int .u64 9223372036854808713), .lit (.int .u64 9223372036854808579), .lit (.int .u64 9223372036854808578), .lit (.int .u64 9223372036854775936), .lit (.int .u64 32778), .lit (.int .u64 9223372039002259466), .lit (.int .u64 9223372039002292353), .lit (.int .u64 9223372036854808704), .lit (.int .u64 2147483649), .lit (.int .u64 9223372039002292232)]

/-- 'avouchtop.TopModel': WHATEVER THE INPUT: true; the input reads as it did. -/
def topModelSpec : ChangeSpec := { name := "topModel", fn := fun _ => fun
  | [d] => { results := [.lit (.bool true)], args := [d] }
  | _ => none }
def topModelRow : OpenClaim := { program := "yteiecapbaeajdaagreatdoor", sum := "fb0c61c0ea5e0a9ed2bdb9dd7d32055abeb3eaa8bcf579d75d3c5d37fcd06f33", func := "avouch/avouchtop.TopModel", spec := "topModel", inPlace := ["math/bits.Sub64", "math/bits.Add64"], unfollowed := true, recurses := true, named := ["avouch/keccak.constants"], apart := false, laid := [("avouch/keccak.constants", laid_avouch_keccak_constants)] }
def TopModelSaid : Prop := topModelRow.holds Tryz.pinned (OpenSpec.ofChange topModelSpec)

/-- ITS FALSE NEIGHBOUR: 'it returns false'. Refute it at one input. -/
def topModelWrong : ChangeSpec := { name := "topModel", fn := fun _ => fun
  | [d] => { results := [.lit (.bool false)], args := [d] }
  | _ => none }
def TopModelWrongFalsely : Prop := topModelRow.holds Tryz.pinned (OpenSpec.ofChange topModelWrong)

/-- 'avouchtop.TopFields': WHATEVER THE INPUT: true; the input reads as it did. -/
def topFieldsSpec : ChangeSpec := { name := "topFields", fn := fun _ => fun
  | [d] => { results := [.lit (.bool true)], args := [d] }
  | _ => none }
def topFieldsRow : OpenClaim := { program := "yteiecapbaeajdaagreatdoor", sum := "fb0c61c0ea5e0a9ed2bdb9dd7d32055abeb3eaa8bcf579d75d3c5d37fcd06f33", func := "avouch/avouchtop.TopFields", spec := "topFields", inPlace := ["math/bits.Sub64", "math/bits.Add64"], unfollowed := true, recurses := true, named := ["avouch/keccak.constants"], apart := false, laid := [("avouch/keccak.constants", laid_avouch_keccak_constants)] }
def TopFieldsSaid : Prop := topFieldsRow.holds Tryz.pinned (OpenSpec.ofChange topFieldsSpec)

/-- ITS FALSE NEIGHBOUR: 'it returns false'. Refute it at one input. -/
def topFieldsWrong : ChangeSpec := { name := "topFields", fn := fun _ => fun
  | [d] => { results := [.lit (.bool false)], args := [d] }
  | _ => none }
def TopFieldsWrongFalsely : Prop := topFieldsRow.holds Tryz.pinned (OpenSpec.ofChange topFieldsWrong)

/-- 'avouchtop.TopPatterns': WHATEVER THE INPUT: true; the input reads as it did. -/
def topPatternsSpec : ChangeSpec := { name := "topPatterns", fn := fun _ => fun
  | [d1, d2, d3] => { results := [.lit (.bool true)], args := [d1, d2, d3] }
  | _ => none }
def topPatternsRow : OpenClaim := { program := "yteiecapbaeajdaagreatdoor", sum := "fb0c61c0ea5e0a9ed2bdb9dd7d32055abeb3eaa8bcf579d75d3c5d37fcd06f33", func := "avouch/avouchtop.TopPatterns", spec := "topPatterns", inPlace := ["math/bits.Sub64", "math/bits.Add64"], unfollowed := true, recurses := true, named := ["avouch/keccak.constants"], apart := false, laid := [("avouch/keccak.constants", laid_avouch_keccak_constants)] }
def TopPatternsSaid : Prop := topPatternsRow.holds Tryz.pinned (OpenSpec.ofChange topPatternsSpec)

/-- ITS FALSE NEIGHBOUR: 'it returns false'. Refute it at one input. -/
def topPatternsWrong : ChangeSpec := { name := "topPatterns", fn := fun _ => fun
  | [d1, d2, d3] => { results := [.lit (.bool false)], args := [d1, d2, d3] }
  | _ => none }
def TopPatternsWrongFalsely : Prop := topPatternsRow.holds Tryz.pinned (OpenSpec.ofChange topPatternsWrong)

/-- 'avouchtop.TopGuard': WHATEVER THE INPUT: true; the input reads as it did. -/
def topGuardSpec : ChangeSpec := { name := "topGuard", fn := fun _ => fun
  | [d1, d2, d3] => { results := [.lit (.bool true)], args := [d1, d2, d3] }
  | _ => none }
def topGuardRow : OpenClaim := { program := "yteiecapbaeajdaagreatdoor", sum := "fb0c61c0ea5e0a9ed2bdb9dd7d32055abeb3eaa8bcf579d75d3c5d37fcd06f33", func := "avouch/avouchtop.TopGuard", spec := "topGuard", inPlace := ["math/bits.Sub64", "math/bits.Add64"], unfollowed := true, recurses := true, named := ["avouch/keccak.constants"], apart := false, laid := [("avouch/keccak.constants", laid_avouch_keccak_constants)] }
def TopGuardSaid : Prop := topGuardRow.holds Tryz.pinned (OpenSpec.ofChange topGuardSpec)

/-- ITS FALSE NEIGHBOUR: 'it returns false'. Refute it at one input. -/
def topGuardWrong : ChangeSpec := { name := "topGuard", fn := fun _ => fun
  | [d1, d2, d3] => { results := [.lit (.bool false)], args := [d1, d2, d3] }
  | _ => none }
def TopGuardWrongFalsely : Prop := topGuardRow.holds Tryz.pinned (OpenSpec.ofChange topGuardWrong)

/-- 'avouchtop.TopInjective': WHATEVER THE INPUT: true; the input reads as it did. -/
def topInjectiveSpec : ChangeSpec := { name := "topInjective", fn := fun _ => fun
  | [d1, d2] => { results := [.lit (.bool true)], args := [d1, d2] }
  | _ => none }
def topInjectiveRow : OpenClaim := { program := "yteiecapbaeajdaagreatdoor", sum := "fb0c61c0ea5e0a9ed2bdb9dd7d32055abeb3eaa8bcf579d75d3c5d37fcd06f33", func := "avouch/avouchtop.TopInjective", spec := "topInjective", inPlace := ["math/bits.Sub64", "math/bits.Add64"], unfollowed := true, recurses := true, named := ["avouch/keccak.constants"], apart := false, laid := [("avouch/keccak.constants", laid_avouch_keccak_constants)] }
def TopInjectiveSaid : Prop := topInjectiveRow.holds Tryz.pinned (OpenSpec.ofChange topInjectiveSpec)

/-- ITS FALSE NEIGHBOUR: 'it returns false'. Refute it at one input. -/
def topInjectiveWrong : ChangeSpec := { name := "topInjective", fn := fun _ => fun
  | [d1, d2] => { results := [.lit (.bool false)], args := [d1, d2] }
  | _ => none }
def TopInjectiveWrongFalsely : Prop := topInjectiveRow.holds Tryz.pinned (OpenSpec.ofChange topInjectiveWrong)

/-- 'avouchtop.TopTags': WHATEVER THE INPUT: true; the input reads as it did. -/
def topTagsSpec : ChangeSpec := { name := "topTags", fn := fun _ => fun
  | [d1, d2] => { results := [.lit (.bool true)], args := [d1, d2] }
  | _ => none }
def topTagsRow : OpenClaim := { program := "yteiecapbaeajdaagreatdoor", sum := "fb0c61c0ea5e0a9ed2bdb9dd7d32055abeb3eaa8bcf579d75d3c5d37fcd06f33", func := "avouch/avouchtop.TopTags", spec := "topTags", inPlace := ["math/bits.Sub64", "math/bits.Add64"], unfollowed := true, recurses := true, named := ["avouch/keccak.constants"], apart := false, laid := [("avouch/keccak.constants", laid_avouch_keccak_constants)] }
def TopTagsSaid : Prop := topTagsRow.holds Tryz.pinned (OpenSpec.ofChange topTagsSpec)

/-- ITS FALSE NEIGHBOUR: 'it returns false'. Refute it at one input. -/
def topTagsWrong : ChangeSpec := { name := "topTags", fn := fun _ => fun
  | [d1, d2] => { results := [.lit (.bool false)], args := [d1, d2] }
  | _ => none }
def TopTagsWrongFalsely : Prop := topTagsRow.holds Tryz.pinned (OpenSpec.ofChange topTagsWrong)

/- THE SECOND FORM. 'bulk': how many values and letters a reading holds, each counted each time it is reached (what is shared counts as often as it is met; a slice's spare places count too). A statement '..UptoSaid' is the law's where the arguments, and the package variables that the reading takes, are together of bulk at most 1048576: NARROWER than '..Said'. Prove '..Said' where nothing that the law and all that it calls make is longer than what came in: it says more and counts as full. Else prove '..UptoSaid'. A law counts once. -/
mutual
def uptoBulk {H : Type} : DataW H → Nat
  | .lit (.string bytes) => bytes.length + 1
  | .lit _ => 1
  | .nil => 1
  | .ptr d => uptoBulk d + 1
  | .slice elems spare => uptoBulkAll elems + uptoBulkAll spare + 1
  | .agg parts => uptoBulkAll parts + 1
  | .iface _ d => uptoBulk d + 1
  | .map entries => uptoBulkEntries entries + 1
  | .held _ => 1
def uptoBulkAll {H : Type} : List (DataW H) → Nat
  | [] => 0
  | d :: r => uptoBulk d + uptoBulkAll r
def uptoBulkEntries {H : Type} : List (Lit × DataW H) → Nat
  | [] => 0
  | x :: r => uptoBulkEntry x + uptoBulkEntries r
def uptoBulkEntry {H : Type} : Lit × DataW H → Nat
  | (.string bytes, d) => bytes.length + uptoBulk d + 1
  | (_, d) => uptoBulk d + 1
 end
def uptoSmall : (H : Type) → List (DataW H) → Bool := fun _ ds => decide (uptoBulkAll ds ≤ 1048576)
def OpenSpec.upto (s : _root_.Go.ChangeSpec) : _root_.Go.OpenSpec := { _root_.Go.OpenSpec.ofChange s with cond := some uptoSmall }

/-- 'avouchtop.TopModel', WHERE WHAT IT READS IS OF BULK AT MOST 1048576: true; the input reads as it did. -/
def topModelUptoRow : OpenClaim := { program := "yteiecapbaeajdaagreatdoor", sum := "fb0c61c0ea5e0a9ed2bdb9dd7d32055abeb3eaa8bcf579d75d3c5d37fcd06f33", func := "avouch/avouchtop.TopModel", spec := "topModel", inPlace := ["math/bits.Sub64", "math/bits.Add64"], unfollowed := true, recurses := true, named := ["avouch/keccak.constants"], apart := false, laid := [("avouch/keccak.constants", laid_avouch_keccak_constants)], narrowed := true }
def TopModelUptoSaid : Prop := topModelUptoRow.holds Tryz.pinned (OpenSpec.upto topModelSpec)

/-- 'avouchtop.TopFields', WHERE WHAT IT READS IS OF BULK AT MOST 1048576: true; the input reads as it did. -/
def topFieldsUptoRow : OpenClaim := { program := "yteiecapbaeajdaagreatdoor", sum := "fb0c61c0ea5e0a9ed2bdb9dd7d32055abeb3eaa8bcf579d75d3c5d37fcd06f33", func := "avouch/avouchtop.TopFields", spec := "topFields", inPlace := ["math/bits.Sub64", "math/bits.Add64"], unfollowed := true, recurses := true, named := ["avouch/keccak.constants"], apart := false, laid := [("avouch/keccak.constants", laid_avouch_keccak_constants)], narrowed := true }
def TopFieldsUptoSaid : Prop := topFieldsUptoRow.holds Tryz.pinned (OpenSpec.upto topFieldsSpec)

/-- 'avouchtop.TopPatterns', WHERE WHAT IT READS IS OF BULK AT MOST 1048576: true; the input reads as it did. -/
def topPatternsUptoRow : OpenClaim := { program := "yteiecapbaeajdaagreatdoor", sum := "fb0c61c0ea5e0a9ed2bdb9dd7d32055abeb3eaa8bcf579d75d3c5d37fcd06f33", func := "avouch/avouchtop.TopPatterns", spec := "topPatterns", inPlace := ["math/bits.Sub64", "math/bits.Add64"], unfollowed := true, recurses := true, named := ["avouch/keccak.constants"], apart := false, laid := [("avouch/keccak.constants", laid_avouch_keccak_constants)], narrowed := true }
def TopPatternsUptoSaid : Prop := topPatternsUptoRow.holds Tryz.pinned (OpenSpec.upto topPatternsSpec)

/-- 'avouchtop.TopGuard', WHERE WHAT IT READS IS OF BULK AT MOST 1048576: true; the input reads as it did. -/
def topGuardUptoRow : OpenClaim := { program := "yteiecapbaeajdaagreatdoor", sum := "fb0c61c0ea5e0a9ed2bdb9dd7d32055abeb3eaa8bcf579d75d3c5d37fcd06f33", func := "avouch/avouchtop.TopGuard", spec := "topGuard", inPlace := ["math/bits.Sub64", "math/bits.Add64"], unfollowed := true, recurses := true, named := ["avouch/keccak.constants"], apart := false, laid := [("avouch/keccak.constants", laid_avouch_keccak_constants)], narrowed := true }
def TopGuardUptoSaid : Prop := topGuardUptoRow.holds Tryz.pinned (OpenSpec.upto topGuardSpec)

/-- 'avouchtop.TopInjective', WHERE WHAT IT READS IS OF BULK AT MOST 1048576: true; the input reads as it did. -/
def topInjectiveUptoRow : OpenClaim := { program := "yteiecapbaeajdaagreatdoor", sum := "fb0c61c0ea5e0a9ed2bdb9dd7d32055abeb3eaa8bcf579d75d3c5d37fcd06f33", func := "avouch/avouchtop.TopInjective", spec := "topInjective", inPlace := ["math/bits.Sub64", "math/bits.Add64"], unfollowed := true, recurses := true, named := ["avouch/keccak.constants"], apart := false, laid := [("avouch/keccak.constants", laid_avouch_keccak_constants)], narrowed := true }
def TopInjectiveUptoSaid : Prop := topInjectiveUptoRow.holds Tryz.pinned (OpenSpec.upto topInjectiveSpec)

/-- 'avouchtop.TopTags', WHERE WHAT IT READS IS OF BULK AT MOST 1048576: true; the input reads as it did. -/
def topTagsUptoRow : OpenClaim := { program := "yteiecapbaeajdaagreatdoor", sum := "fb0c61c0ea5e0a9ed2bdb9dd7d32055abeb3eaa8bcf579d75d3c5d37fcd06f33", func := "avouch/avouchtop.TopTags", spec := "topTags", inPlace := ["math/bits.Sub64", "math/bits.Add64"], unfollowed := true, recurses := true, named := ["avouch/keccak.constants"], apart := false, laid := [("avouch/keccak.constants", laid_avouch_keccak_constants)], narrowed := true }
def TopTagsUptoSaid : Prop := topTagsUptoRow.holds Tryz.pinned (OpenSpec.upto topTagsSpec)

end Rows
end Go.Proofs.YteiecapbaeajdaaGreatDoor
