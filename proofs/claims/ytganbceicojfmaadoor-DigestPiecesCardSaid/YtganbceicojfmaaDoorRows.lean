/-
  NARROWER THAN 'FOR EVERY INPUT', by the rows' own cells (each row's printed sentence says how): KeccakPermutes: laid · KeccakConstants: laid · KeccakUnlike: laid · KeccakBytes: laid · KeccakIota: laid · DigestSums: laid · DigestPieces: laid · DigestCopies: laid · DigestBlocks: laid.
  DERIVED. THE GIVEN ROWS OF THIS SEAT. 9 by the template 'for every input the law returns true; each argument reads behind the call as it read before'; 0 by the template 'total and deterministic' (their statements: YtganbceicojfmaaDoorTotals.lean).
  GIVEN WITH THE SEED: the statements are not yours to turn. If you find one false, say at which input.
  Laid BY PROGRAM, IN A SANDBOX (cutbox-rows.mjs): the forced cells as the released guide's own fill.sh prints them over the translation e198dd3ac47c51dd… (all of the seat's roots in one cut). By AI agents, Wed Nov 11 2026. No macro, syntax, notation, axiom, sorry.
-/
import Derived.Test.YtganbceicojfmaaDoorChecked
import GoSem.Claim
import GoSem.ClaimJoined
import GoSem.ClaimMapViews
import Derived.JoinedTies
import Derived.KernelRfl
namespace Go.Proofs.YtganbceicojfmaaDoor
/- THE CELL 'sum', in the pinned program and in every row, IS THE sha256 OF THE DUMP (.gsa) THAT YtganbceicojfmaaDoorProg.lean LOADS. Nothing in Lean hashes anything: it is a label: what it is worth is what the hold of that sum in a sandbox is worth. -/
noncomputable def Tryd.pinned : Pinned := { name := "ytganbceicojfmaadoor", sum := "e198dd3ac47c51dd463c8018e84654d65504b51a68097d5f4f359fa9549d2f53", checked := Tryd.checked }
namespace Rows
def none {H : Type} : Left H := { results := [], args := [] }

/- WHAT THE LISTED PACKAGE-LEVEL VARIABLES READ AS WHEN THE CALL BEGINS. Each datum BY PROGRAM (the guide's laid-datum.mjs) off the statement by which the dump's own 'gosem.cut.vars' lays the variable. In a bare row this is a premise. The card (YtganbceicojfmaaDoorCards.lean) ties it to the program's text. -/
def laid_avouch_keccak_constants {H : Type} : DataW H := .agg [.lit (.int .u64 1), .lit (.int .u64 32898), .lit (.int .u64 9223372036854808714), .lit (.int .u64 9223372039002292224), .lit (.int .u64 32907), .lit (.int .u64 2147483649), .lit (.int .u64 9223372039002292353), .lit (.int .u64 9223372036854808585), .lit (.int .u64 138), .lit (.int .u64 136), .lit (.int .u64 2147516425), .lit (.int .u64 2147483658), .lit (.int .u64 2147516555), .lit (.int .u64 9223372036854775947), .lit (.int .u64 9223372036854808713), .lit (.int .u64 9223372036854808579), .lit (.int .u64 9223372036854808578), .lit (.int .u64 9223372036854775936), .lit (.int .u64 32778), .lit (.int .u64 9223372039002259466), .lit (.int .u64 9223372039002292353), .lit (.int .u64 9223372036854808704), .lit (.int .u64 2147483649), .lit (.int .u64 9223372039002292232)]

/-- 'avouchlaw06.KeccakPermutes': WHATEVER THE INPUT: true; the input reads as it did. -/
def keccakPermutesSpec : ChangeSpec := { name := "keccakPermutes", fn := fun _ => fun
  | [d1, d2] => { results := [.lit (.bool true)], args := [d1, d2] }
  | _ => none }
def keccakPermutesRow : OpenClaim := { program := "ytganbceicojfmaadoor", sum := "e198dd3ac47c51dd463c8018e84654d65504b51a68097d5f4f359fa9549d2f53", func := "avouch/avouchlaw06.KeccakPermutes", spec := "keccakPermutes", named := ["avouch/keccak.constants"], apart := false, laid := [("avouch/keccak.constants", laid_avouch_keccak_constants)] }
def KeccakPermutesSaid : Prop := keccakPermutesRow.holds Tryd.pinned (OpenSpec.ofChange keccakPermutesSpec)

/-- ITS FALSE NEIGHBOUR: 'it returns false'. Refute it at one input. -/
def keccakPermutesWrong : ChangeSpec := { name := "keccakPermutes", fn := fun _ => fun
  | [d1, d2] => { results := [.lit (.bool false)], args := [d1, d2] }
  | _ => none }
def KeccakPermutesWrongFalsely : Prop := keccakPermutesRow.holds Tryd.pinned (OpenSpec.ofChange keccakPermutesWrong)

/-- 'avouchlaw06.KeccakConstants': WHATEVER THE INPUT: true; the input reads as it did. -/
def keccakConstantsSpec : ChangeSpec := { name := "keccakConstants", fn := fun _ => fun
  | [d] => { results := [.lit (.bool true)], args := [d] }
  | _ => none }
def keccakConstantsRow : OpenClaim := { program := "ytganbceicojfmaadoor", sum := "e198dd3ac47c51dd463c8018e84654d65504b51a68097d5f4f359fa9549d2f53", func := "avouch/avouchlaw06.KeccakConstants", spec := "keccakConstants", named := ["avouch/keccak.constants"], apart := false, laid := [("avouch/keccak.constants", laid_avouch_keccak_constants)] }
def KeccakConstantsSaid : Prop := keccakConstantsRow.holds Tryd.pinned (OpenSpec.ofChange keccakConstantsSpec)

/-- ITS FALSE NEIGHBOUR: 'it returns false'. Refute it at one input. -/
def keccakConstantsWrong : ChangeSpec := { name := "keccakConstants", fn := fun _ => fun
  | [d] => { results := [.lit (.bool false)], args := [d] }
  | _ => none }
def KeccakConstantsWrongFalsely : Prop := keccakConstantsRow.holds Tryd.pinned (OpenSpec.ofChange keccakConstantsWrong)

/-- 'avouchlaw06.KeccakUnlike': WHATEVER THE INPUT: true; the input reads as it did. -/
def keccakUnlikeSpec : ChangeSpec := { name := "keccakUnlike", fn := fun _ => fun
  | [d1, d2] => { results := [.lit (.bool true)], args := [d1, d2] }
  | _ => none }
def keccakUnlikeRow : OpenClaim := { program := "ytganbceicojfmaadoor", sum := "e198dd3ac47c51dd463c8018e84654d65504b51a68097d5f4f359fa9549d2f53", func := "avouch/avouchlaw06.KeccakUnlike", spec := "keccakUnlike", named := ["avouch/keccak.constants"], apart := false, laid := [("avouch/keccak.constants", laid_avouch_keccak_constants)] }
def KeccakUnlikeSaid : Prop := keccakUnlikeRow.holds Tryd.pinned (OpenSpec.ofChange keccakUnlikeSpec)

/-- ITS FALSE NEIGHBOUR: 'it returns false'. Refute it at one input. -/
def keccakUnlikeWrong : ChangeSpec := { name := "keccakUnlike", fn := fun _ => fun
  | [d1, d2] => { results := [.lit (.bool false)], args := [d1, d2] }
  | _ => none }
def KeccakUnlikeWrongFalsely : Prop := keccakUnlikeRow.holds Tryd.pinned (OpenSpec.ofChange keccakUnlikeWrong)

/-- 'avouchlaw06.KeccakBytes': WHATEVER THE INPUT: true; the input reads as it did. -/
def keccakBytesSpec : ChangeSpec := { name := "keccakBytes", fn := fun _ => fun
  | [d] => { results := [.lit (.bool true)], args := [d] }
  | _ => none }
def keccakBytesRow : OpenClaim := { program := "ytganbceicojfmaadoor", sum := "e198dd3ac47c51dd463c8018e84654d65504b51a68097d5f4f359fa9549d2f53", func := "avouch/avouchlaw06.KeccakBytes", spec := "keccakBytes", named := ["avouch/keccak.constants"], apart := false, laid := [("avouch/keccak.constants", laid_avouch_keccak_constants)] }
def KeccakBytesSaid : Prop := keccakBytesRow.holds Tryd.pinned (OpenSpec.ofChange keccakBytesSpec)

/-- ITS FALSE NEIGHBOUR: 'it returns false'. Refute it at one input. -/
def keccakBytesWrong : ChangeSpec := { name := "keccakBytes", fn := fun _ => fun
  | [d] => { results := [.lit (.bool false)], args := [d] }
  | _ => none }
def KeccakBytesWrongFalsely : Prop := keccakBytesRow.holds Tryd.pinned (OpenSpec.ofChange keccakBytesWrong)

/-- 'avouchlaw06.KeccakIota': WHATEVER THE INPUT: true; the input reads as it did. -/
def keccakIotaSpec : ChangeSpec := { name := "keccakIota", fn := fun _ => fun
  | [d1, d2] => { results := [.lit (.bool true)], args := [d1, d2] }
  | _ => none }
def keccakIotaRow : OpenClaim := { program := "ytganbceicojfmaadoor", sum := "e198dd3ac47c51dd463c8018e84654d65504b51a68097d5f4f359fa9549d2f53", func := "avouch/avouchlaw06.KeccakIota", spec := "keccakIota", named := ["avouch/keccak.constants"], apart := false, laid := [("avouch/keccak.constants", laid_avouch_keccak_constants)] }
def KeccakIotaSaid : Prop := keccakIotaRow.holds Tryd.pinned (OpenSpec.ofChange keccakIotaSpec)

/-- ITS FALSE NEIGHBOUR: 'it returns false'. Refute it at one input. -/
def keccakIotaWrong : ChangeSpec := { name := "keccakIota", fn := fun _ => fun
  | [d1, d2] => { results := [.lit (.bool false)], args := [d1, d2] }
  | _ => none }
def KeccakIotaWrongFalsely : Prop := keccakIotaRow.holds Tryd.pinned (OpenSpec.ofChange keccakIotaWrong)

/-- 'avouchlaw07.DigestSums': WHATEVER THE INPUT: true; the input reads as it did. -/
def digestSumsSpec : ChangeSpec := { name := "digestSums", fn := fun _ => fun
  | [d] => { results := [.lit (.bool true)], args := [d] }
  | _ => none }
def digestSumsRow : OpenClaim := { program := "ytganbceicojfmaadoor", sum := "e198dd3ac47c51dd463c8018e84654d65504b51a68097d5f4f359fa9549d2f53", func := "avouch/avouchlaw07.DigestSums", spec := "digestSums", named := ["avouch/keccak.constants"], apart := false, laid := [("avouch/keccak.constants", laid_avouch_keccak_constants)] }
def DigestSumsSaid : Prop := digestSumsRow.holds Tryd.pinned (OpenSpec.ofChange digestSumsSpec)

/-- ITS FALSE NEIGHBOUR: 'it returns false'. Refute it at one input. -/
def digestSumsWrong : ChangeSpec := { name := "digestSums", fn := fun _ => fun
  | [d] => { results := [.lit (.bool false)], args := [d] }
  | _ => none }
def DigestSumsWrongFalsely : Prop := digestSumsRow.holds Tryd.pinned (OpenSpec.ofChange digestSumsWrong)

/-- 'avouchlaw07.DigestPieces': WHATEVER THE INPUT: true; the input reads as it did. -/
def digestPiecesSpec : ChangeSpec := { name := "digestPieces", fn := fun _ => fun
  | [d] => { results := [.lit (.bool true)], args := [d] }
  | _ => none }
def digestPiecesRow : OpenClaim := { program := "ytganbceicojfmaadoor", sum := "e198dd3ac47c51dd463c8018e84654d65504b51a68097d5f4f359fa9549d2f53", func := "avouch/avouchlaw07.DigestPieces", spec := "digestPieces", named := ["avouch/keccak.constants"], apart := false, laid := [("avouch/keccak.constants", laid_avouch_keccak_constants)] }
def DigestPiecesSaid : Prop := digestPiecesRow.holds Tryd.pinned (OpenSpec.ofChange digestPiecesSpec)

/-- ITS FALSE NEIGHBOUR: 'it returns false'. Refute it at one input. -/
def digestPiecesWrong : ChangeSpec := { name := "digestPieces", fn := fun _ => fun
  | [d] => { results := [.lit (.bool false)], args := [d] }
  | _ => none }
def DigestPiecesWrongFalsely : Prop := digestPiecesRow.holds Tryd.pinned (OpenSpec.ofChange digestPiecesWrong)

/-- 'avouchlaw07.DigestCopies': WHATEVER THE INPUT: true; the input reads as it did. -/
def digestCopiesSpec : ChangeSpec := { name := "digestCopies", fn := fun _ => fun
  | [d1, d2, d3] => { results := [.lit (.bool true)], args := [d1, d2, d3] }
  | _ => none }
def digestCopiesRow : OpenClaim := { program := "ytganbceicojfmaadoor", sum := "e198dd3ac47c51dd463c8018e84654d65504b51a68097d5f4f359fa9549d2f53", func := "avouch/avouchlaw07.DigestCopies", spec := "digestCopies", named := ["avouch/keccak.constants"], apart := false, laid := [("avouch/keccak.constants", laid_avouch_keccak_constants)] }
def DigestCopiesSaid : Prop := digestCopiesRow.holds Tryd.pinned (OpenSpec.ofChange digestCopiesSpec)

/-- ITS FALSE NEIGHBOUR: 'it returns false'. Refute it at one input. -/
def digestCopiesWrong : ChangeSpec := { name := "digestCopies", fn := fun _ => fun
  | [d1, d2, d3] => { results := [.lit (.bool false)], args := [d1, d2, d3] }
  | _ => none }
def DigestCopiesWrongFalsely : Prop := digestCopiesRow.holds Tryd.pinned (OpenSpec.ofChange digestCopiesWrong)

/-- 'avouchlaw07.DigestBlocks': WHATEVER THE INPUT: true; the input reads as it did. -/
def digestBlocksSpec : ChangeSpec := { name := "digestBlocks", fn := fun _ => fun
  | [d] => { results := [.lit (.bool true)], args := [d] }
  | _ => none }
def digestBlocksRow : OpenClaim := { program := "ytganbceicojfmaadoor", sum := "e198dd3ac47c51dd463c8018e84654d65504b51a68097d5f4f359fa9549d2f53", func := "avouch/avouchlaw07.DigestBlocks", spec := "digestBlocks", named := ["avouch/keccak.constants"], apart := false, laid := [("avouch/keccak.constants", laid_avouch_keccak_constants)] }
def DigestBlocksSaid : Prop := digestBlocksRow.holds Tryd.pinned (OpenSpec.ofChange digestBlocksSpec)

/-- ITS FALSE NEIGHBOUR: 'it returns false'. Refute it at one input. -/
def digestBlocksWrong : ChangeSpec := { name := "digestBlocks", fn := fun _ => fun
  | [d] => { results := [.lit (.bool false)], args := [d] }
  | _ => none }
def DigestBlocksWrongFalsely : Prop := digestBlocksRow.holds Tryd.pinned (OpenSpec.ofChange digestBlocksWrong)

/- THE SECOND FORM. 'bulk': how many values and letters a reading holds, each counted each time it is reached (what is shared counts as often as it is met; a slice's spare places count too). A statement '..UptoSaid' is the law's where the arguments, and the package variables that the reading takes, are together of bulk at most 1048576: NARROWER than '..Said'. Prove '..Said' where nothing that the law and all that it calls make is longer than what came in: it says more and counts as full. Else prove '..UptoSaid'. A law counts once. -/
mutual
def uptoBulk {H : Type} : DataW H → Nat
  | .lit (.string bytes) => bytes.length + 1
  | .lit _ => 1
  | .nil => 1
  | .ptr d => uptoBulk d + 1
  | .slice elems spare => uptoBulkAll elems + uptoBulkAll spare + 1
  | .agg parts => uptoBulkAll parts + 1
  | .iface _ d => uptoBulk d + 1
  | .map entries => uptoBulkEntries entries + 1
  | .held _ => 1
def uptoBulkAll {H : Type} : List (DataW H) → Nat
  | [] => 0
  | d :: r => uptoBulk d + uptoBulkAll r
def uptoBulkEntries {H : Type} : List (Lit × DataW H) → Nat
  | [] => 0
  | x :: r => uptoBulkEntry x + uptoBulkEntries r
def uptoBulkEntry {H : Type} : Lit × DataW H → Nat
  | (.string bytes, d) => bytes.length + uptoBulk d + 1
  | (_, d) => uptoBulk d + 1
 end
def uptoSmall : (H : Type) → List (DataW H) → Bool := fun _ ds => decide (uptoBulkAll ds ≤ 1048576)
def OpenSpec.upto (s : _root_.Go.ChangeSpec) : _root_.Go.OpenSpec := { _root_.Go.OpenSpec.ofChange s with cond := some uptoSmall }

/-- 'avouchlaw06.KeccakPermutes', WHERE WHAT IT READS IS OF BULK AT MOST 1048576: true; the input reads as it did. -/
def keccakPermutesUptoRow : OpenClaim := { program := "ytganbceicojfmaadoor", sum := "e198dd3ac47c51dd463c8018e84654d65504b51a68097d5f4f359fa9549d2f53", func := "avouch/avouchlaw06.KeccakPermutes", spec := "keccakPermutes", named := ["avouch/keccak.constants"], apart := false, laid := [("avouch/keccak.constants", laid_avouch_keccak_constants)], narrowed := true }
def KeccakPermutesUptoSaid : Prop := keccakPermutesUptoRow.holds Tryd.pinned (OpenSpec.upto keccakPermutesSpec)

/-- 'avouchlaw06.KeccakConstants', WHERE WHAT IT READS IS OF BULK AT MOST 1048576: true; the input reads as it did. -/
def keccakConstantsUptoRow : OpenClaim := { program := "ytganbceicojfmaadoor", sum := "e198dd3ac47c51dd463c8018e84654d65504b51a68097d5f4f359fa9549d2f53", func := "avouch/avouchlaw06.KeccakConstants", spec := "keccakConstants", named := ["avouch/keccak.constants"], apart := false, laid := [("avouch/keccak.constants", laid_avouch_keccak_constants)], narrowed := true }
def KeccakConstantsUptoSaid : Prop := keccakConstantsUptoRow.holds Tryd.pinned (OpenSpec.upto keccakConstantsSpec)

/-- 'avouchlaw06.KeccakUnlike', WHERE WHAT IT READS IS OF BULK AT MOST 1048576: true; the input reads as it did. -/
def keccakUnlikeUptoRow : OpenClaim := { program := "ytganbceicojfmaadoor", sum := "e198dd3ac47c51dd463c8018e84654d65504b51a68097d5f4f359fa9549d2f53", func := "avouch/avouchlaw06.KeccakUnlike", spec := "keccakUnlike", named := ["avouch/keccak.constants"], apart := false, laid := [("avouch/keccak.constants", laid_avouch_keccak_constants)], narrowed := true }
def KeccakUnlikeUptoSaid : Prop := keccakUnlikeUptoRow.holds Tryd.pinned (OpenSpec.upto keccakUnlikeSpec)

/-- 'avouchlaw06.KeccakBytes', WHERE WHAT IT READS IS OF BULK AT MOST 1048576: true; the input reads as it did. -/
def keccakBytesUptoRow : OpenClaim := { program := "ytganbceicojfmaadoor", sum := "e198dd3ac47c51dd463c8018e84654d65504b51a68097d5f4f359fa9549d2f53", func := "avouch/avouchlaw06.KeccakBytes", spec := "keccakBytes", named := ["avouch/keccak.constants"], apart := false, laid := [("avouch/keccak.constants", laid_avouch_keccak_constants)], narrowed := true }
def KeccakBytesUptoSaid : Prop := keccakBytesUptoRow.holds Tryd.pinned (OpenSpec.upto keccakBytesSpec)

/-- 'avouchlaw06.KeccakIota', WHERE WHAT IT READS IS OF BULK AT MOST 1048576: true; the input reads as it did. -/
def keccakIotaUptoRow : OpenClaim := { program := "ytganbceicojfmaadoor", sum := "e198dd3ac47c51dd463c8018e84654d65504b51a68097d5f4f359fa9549d2f53", func := "avouch/avouchlaw06.KeccakIota", spec := "keccakIota", named := ["avouch/keccak.constants"], apart := false, laid := [("avouch/keccak.constants", laid_avouch_keccak_constants)], narrowed := true }
def KeccakIotaUptoSaid : Prop := keccakIotaUptoRow.holds Tryd.pinned (OpenSpec.upto keccakIotaSpec)

/-- 'avouchlaw07.DigestSums', WHERE WHAT IT READS IS OF BULK AT MOST 1048576: true; the input reads as it did. -/
def digestSumsUptoRow : OpenClaim := { program := "ytganbceicojfmaadoor", sum := "e198dd3ac47c51dd463c8018e84654d65504b51a68097d5f4f359fa9549d2f53", func := "avouch/avouchlaw07.DigestSums", spec := "digestSums", named := ["avouch/keccak.constants"], apart := false, laid := [("avouch/keccak.constants", laid_avouch_keccak_constants)], narrowed := true }
def DigestSumsUptoSaid : Prop := digestSumsUptoRow.holds Tryd.pinned (OpenSpec.upto digestSumsSpec)

/-- 'avouchlaw07.DigestPieces', WHERE WHAT IT READS IS OF BULK AT MOST 1048576: true; the input reads as it did. -/
def digestPiecesUptoRow : OpenClaim := { program := "ytganbceicojfmaadoor", sum := "e198dd3ac47c51dd463c8018e84654d65504b51a68097d5f4f359fa9549d2f53", func := "avouch/avouchlaw07.DigestPieces", spec := "digestPieces", named := ["avouch/keccak.constants"], apart := false, laid := [("avouch/keccak.constants", laid_avouch_keccak_constants)], narrowed := true }
def DigestPiecesUptoSaid : Prop := digestPiecesUptoRow.holds Tryd.pinned (OpenSpec.upto digestPiecesSpec)

/-- 'avouchlaw07.DigestCopies', WHERE WHAT IT READS IS OF BULK AT MOST 1048576: true; the input reads as it did. -/
def digestCopiesUptoRow : OpenClaim := { program := "ytganbceicojfmaadoor", sum := "e198dd3ac47c51dd463c8018e84654d65504b51a68097d5f4f359fa9549d2f53", func := "avouch/avouchlaw07.DigestCopies", spec := "digestCopies", named := ["avouch/keccak.constants"], apart := false, laid := [("avouch/keccak.constants", laid_avouch_keccak_constants)], narrowed := true }
def DigestCopiesUptoSaid : Prop := digestCopiesUptoRow.holds Tryd.pinned (OpenSpec.upto digestCopiesSpec)

/-- 'avouchlaw07.DigestBlocks', WHERE WHAT IT READS IS OF BULK AT MOST 1048576: true; the input reads as it did. -/
def digestBlocksUptoRow : OpenClaim := { program := "ytganbceicojfmaadoor", sum := "e198dd3ac47c51dd463c8018e84654d65504b51a68097d5f4f359fa9549d2f53", func := "avouch/avouchlaw07.DigestBlocks", spec := "digestBlocks", named := ["avouch/keccak.constants"], apart := false, laid := [("avouch/keccak.constants", laid_avouch_keccak_constants)], narrowed := true }
def DigestBlocksUptoSaid : Prop := digestBlocksUptoRow.holds Tryd.pinned (OpenSpec.upto digestBlocksSpec)

end Rows
end Go.Proofs.YtganbceicojfmaaDoor
