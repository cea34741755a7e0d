/-
  No cell of these rows narrows 'for every input' (looked for: loops, veiled, ifaces, maps, wideKeys, modest, calm, conditions, laid).
  DERIVED. THE GIVEN ROWS OF THIS SEAT. 10 by the template 'for every input the law returns true; each argument reads behind the call as it read before'; 0 by the template 'total and deterministic' (their statements: YtfikklbaceidfaaTotals.lean).
  GIVEN WITH THE SEED: the statements are not yours to turn. If you find one false, say at which input.
  Laid BY PROGRAM, IN A SANDBOX (cutbox-rows.mjs): the forced cells as the released guide's own fill.sh prints them over the translation 1e35e97a79b7f206… (all of the seat's roots in one cut). By AI agents, Wed Nov 11 2026. No macro, syntax, notation, axiom, sorry.
-/
import Derived.Test.YtfikklbaceidfaaChecked
import GoSem.Claim
import GoSem.ClaimJoined
import GoSem.ClaimMapViews
import Derived.JoinedTies
import Derived.KernelRfl
namespace Go.Proofs.Ytfikklbaceidfaa
/- THE CELL 'sum', in the pinned program and in every row, IS THE sha256 OF THE DUMP (.gsa) THAT YtfikklbaceidfaaProg.lean LOADS. Nothing in Lean hashes anything: it is a label: what it is worth is what the hold of that sum in a sandbox is worth. -/
noncomputable def Try.pinned : Pinned := { name := "ytfikklbaceidfaa", sum := "1e35e97a79b7f20674ff4f5b4508ec20415a4037344701979fe22c2fb89c085e", checked := Try.checked }
namespace Rows
def none {H : Type} : Left H := { results := [], args := [] }

/-- 'avouchlaw12.ItemLimits': WHATEVER THE INPUT: true; the input reads as it did. -/
def itemLimitsSpec : ChangeSpec := { name := "itemLimits", fn := fun _ => fun
  | [d1, d2, d3] => { results := [.lit (.bool true)], args := [d1, d2, d3] }
  | _ => none }
def itemLimitsRow : OpenClaim := { program := "ytfikklbaceidfaa", sum := "1e35e97a79b7f20674ff4f5b4508ec20415a4037344701979fe22c2fb89c085e", func := "avouch/avouchlaw12.ItemLimits", spec := "itemLimits", apart := false }
def ItemLimitsSaid : Prop := itemLimitsRow.holds Try.pinned (OpenSpec.ofChange itemLimitsSpec)

/-- ITS FALSE NEIGHBOUR: 'it returns false'. Refute it at one input. -/
def itemLimitsWrong : ChangeSpec := { name := "itemLimits", fn := fun _ => fun
  | [d1, d2, d3] => { results := [.lit (.bool false)], args := [d1, d2, d3] }
  | _ => none }
def ItemLimitsWrongFalsely : Prop := itemLimitsRow.holds Try.pinned (OpenSpec.ofChange itemLimitsWrong)

/-- 'avouchlaw12.ItemUnlike': WHATEVER THE INPUT: true; the input reads as it did. -/
def itemUnlikeSpec : ChangeSpec := { name := "itemUnlike", fn := fun _ => fun
  | [d1, d2] => { results := [.lit (.bool true)], args := [d1, d2] }
  | _ => none }
def itemUnlikeRow : OpenClaim := { program := "ytfikklbaceidfaa", sum := "1e35e97a79b7f20674ff4f5b4508ec20415a4037344701979fe22c2fb89c085e", func := "avouch/avouchlaw12.ItemUnlike", spec := "itemUnlike", apart := false }
def ItemUnlikeSaid : Prop := itemUnlikeRow.holds Try.pinned (OpenSpec.ofChange itemUnlikeSpec)

/-- ITS FALSE NEIGHBOUR: 'it returns false'. Refute it at one input. -/
def itemUnlikeWrong : ChangeSpec := { name := "itemUnlike", fn := fun _ => fun
  | [d1, d2] => { results := [.lit (.bool false)], args := [d1, d2] }
  | _ => none }
def ItemUnlikeWrongFalsely : Prop := itemUnlikeRow.holds Try.pinned (OpenSpec.ofChange itemUnlikeWrong)

/-- 'avouchlaw12.ItemTells': WHATEVER THE INPUT: true; the input reads as it did. -/
def itemTellsSpec : ChangeSpec := { name := "itemTells", fn := fun _ => fun
  | [d1, d2] => { results := [.lit (.bool true)], args := [d1, d2] }
  | _ => none }
def itemTellsRow : OpenClaim := { program := "ytfikklbaceidfaa", sum := "1e35e97a79b7f20674ff4f5b4508ec20415a4037344701979fe22c2fb89c085e", func := "avouch/avouchlaw12.ItemTells", spec := "itemTells", apart := false }
def ItemTellsSaid : Prop := itemTellsRow.holds Try.pinned (OpenSpec.ofChange itemTellsSpec)

/-- ITS FALSE NEIGHBOUR: 'it returns false'. Refute it at one input. -/
def itemTellsWrong : ChangeSpec := { name := "itemTells", fn := fun _ => fun
  | [d1, d2] => { results := [.lit (.bool false)], args := [d1, d2] }
  | _ => none }
def ItemTellsWrongFalsely : Prop := itemTellsRow.holds Try.pinned (OpenSpec.ofChange itemTellsWrong)

/-- 'avouchlaw12.ItemReads': WHATEVER THE INPUT: true; the input reads as it did. -/
def itemReadsSpec : ChangeSpec := { name := "itemReads", fn := fun _ => fun
  | [d] => { results := [.lit (.bool true)], args := [d] }
  | _ => none }
def itemReadsRow : OpenClaim := { program := "ytfikklbaceidfaa", sum := "1e35e97a79b7f20674ff4f5b4508ec20415a4037344701979fe22c2fb89c085e", func := "avouch/avouchlaw12.ItemReads", spec := "itemReads", apart := false }
def ItemReadsSaid : Prop := itemReadsRow.holds Try.pinned (OpenSpec.ofChange itemReadsSpec)

/-- ITS FALSE NEIGHBOUR: 'it returns false'. Refute it at one input. -/
def itemReadsWrong : ChangeSpec := { name := "itemReads", fn := fun _ => fun
  | [d] => { results := [.lit (.bool false)], args := [d] }
  | _ => none }
def ItemReadsWrongFalsely : Prop := itemReadsRow.holds Try.pinned (OpenSpec.ofChange itemReadsWrong)

/-- 'avouchlaw13.PatternReads': WHATEVER THE INPUT: true; the input reads as it did. -/
def patternReadsSpec : ChangeSpec := { name := "patternReads", fn := fun _ => fun
  | [d] => { results := [.lit (.bool true)], args := [d] }
  | _ => none }
def patternReadsRow : OpenClaim := { program := "ytfikklbaceidfaa", sum := "1e35e97a79b7f20674ff4f5b4508ec20415a4037344701979fe22c2fb89c085e", func := "avouch/avouchlaw13.PatternReads", spec := "patternReads", apart := false }
def PatternReadsSaid : Prop := patternReadsRow.holds Try.pinned (OpenSpec.ofChange patternReadsSpec)

/-- ITS FALSE NEIGHBOUR: 'it returns false'. Refute it at one input. -/
def patternReadsWrong : ChangeSpec := { name := "patternReads", fn := fun _ => fun
  | [d] => { results := [.lit (.bool false)], args := [d] }
  | _ => none }
def PatternReadsWrongFalsely : Prop := patternReadsRow.holds Try.pinned (OpenSpec.ofChange patternReadsWrong)

/-- 'avouchlaw13.PatternLong': WHATEVER THE INPUT: true; the input reads as it did. -/
def patternLongSpec : ChangeSpec := { name := "patternLong", fn := fun _ => fun
  | [d1, d2] => { results := [.lit (.bool true)], args := [d1, d2] }
  | _ => none }
def patternLongRow : OpenClaim := { program := "ytfikklbaceidfaa", sum := "1e35e97a79b7f20674ff4f5b4508ec20415a4037344701979fe22c2fb89c085e", func := "avouch/avouchlaw13.PatternLong", spec := "patternLong", apart := false }
def PatternLongSaid : Prop := patternLongRow.holds Try.pinned (OpenSpec.ofChange patternLongSpec)

/-- ITS FALSE NEIGHBOUR: 'it returns false'. Refute it at one input. -/
def patternLongWrong : ChangeSpec := { name := "patternLong", fn := fun _ => fun
  | [d1, d2] => { results := [.lit (.bool false)], args := [d1, d2] }
  | _ => none }
def PatternLongWrongFalsely : Prop := patternLongRow.holds Try.pinned (OpenSpec.ofChange patternLongWrong)

/-- 'avouchlaw17.GuardPasses': WHATEVER THE INPUT: true; the input reads as it did. -/
def guardPassesSpec : ChangeSpec := { name := "guardPasses", fn := fun _ => fun
  | [d1, d2] => { results := [.lit (.bool true)], args := [d1, d2] }
  | _ => none }
def guardPassesRow : OpenClaim := { program := "ytfikklbaceidfaa", sum := "1e35e97a79b7f20674ff4f5b4508ec20415a4037344701979fe22c2fb89c085e", func := "avouch/avouchlaw17.GuardPasses", spec := "guardPasses", apart := false }
def GuardPassesSaid : Prop := guardPassesRow.holds Try.pinned (OpenSpec.ofChange guardPassesSpec)

/-- ITS FALSE NEIGHBOUR: 'it returns false'. Refute it at one input. -/
def guardPassesWrong : ChangeSpec := { name := "guardPasses", fn := fun _ => fun
  | [d1, d2] => { results := [.lit (.bool false)], args := [d1, d2] }
  | _ => none }
def GuardPassesWrongFalsely : Prop := guardPassesRow.holds Try.pinned (OpenSpec.ofChange guardPassesWrong)

/-- 'avouchlaw13.PatternUnlike': WHATEVER THE INPUT: true; the input reads as it did. -/
def patternUnlikeSpec : ChangeSpec := { name := "patternUnlike", fn := fun _ => fun
  | [d1, d2] => { results := [.lit (.bool true)], args := [d1, d2] }
  | _ => none }
def patternUnlikeRow : OpenClaim := { program := "ytfikklbaceidfaa", sum := "1e35e97a79b7f20674ff4f5b4508ec20415a4037344701979fe22c2fb89c085e", func := "avouch/avouchlaw13.PatternUnlike", spec := "patternUnlike", unfollowed := true, recurses := true, apart := false }
def PatternUnlikeSaid : Prop := patternUnlikeRow.holds Try.pinned (OpenSpec.ofChange patternUnlikeSpec)

/-- ITS FALSE NEIGHBOUR: 'it returns false'. Refute it at one input. -/
def patternUnlikeWrong : ChangeSpec := { name := "patternUnlike", fn := fun _ => fun
  | [d1, d2] => { results := [.lit (.bool false)], args := [d1, d2] }
  | _ => none }
def PatternUnlikeWrongFalsely : Prop := patternUnlikeRow.holds Try.pinned (OpenSpec.ofChange patternUnlikeWrong)

/-- 'avouchlaw13.PatternTells': WHATEVER THE INPUT: true; the input reads as it did. -/
def patternTellsSpec : ChangeSpec := { name := "patternTells", fn := fun _ => fun
  | [d1, d2] => { results := [.lit (.bool true)], args := [d1, d2] }
  | _ => none }
def patternTellsRow : OpenClaim := { program := "ytfikklbaceidfaa", sum := "1e35e97a79b7f20674ff4f5b4508ec20415a4037344701979fe22c2fb89c085e", func := "avouch/avouchlaw13.PatternTells", spec := "patternTells", unfollowed := true, recurses := true, apart := false }
def PatternTellsSaid : Prop := patternTellsRow.holds Try.pinned (OpenSpec.ofChange patternTellsSpec)

/-- ITS FALSE NEIGHBOUR: 'it returns false'. Refute it at one input. -/
def patternTellsWrong : ChangeSpec := { name := "patternTells", fn := fun _ => fun
  | [d1, d2] => { results := [.lit (.bool false)], args := [d1, d2] }
  | _ => none }
def PatternTellsWrongFalsely : Prop := patternTellsRow.holds Try.pinned (OpenSpec.ofChange patternTellsWrong)

/-- 'avouchlaw13.PatternJoins': WHATEVER THE INPUT: true; the input reads as it did. -/
def patternJoinsSpec : ChangeSpec := { name := "patternJoins", fn := fun _ => fun
  | [d1, d2, d3] => { results := [.lit (.bool true)], args := [d1, d2, d3] }
  | _ => none }
def patternJoinsRow : OpenClaim := { program := "ytfikklbaceidfaa", sum := "1e35e97a79b7f20674ff4f5b4508ec20415a4037344701979fe22c2fb89c085e", func := "avouch/avouchlaw13.PatternJoins", spec := "patternJoins", unfollowed := true, recurses := true, apart := false }
def PatternJoinsSaid : Prop := patternJoinsRow.holds Try.pinned (OpenSpec.ofChange patternJoinsSpec)

/-- ITS FALSE NEIGHBOUR: 'it returns false'. Refute it at one input. -/
def patternJoinsWrong : ChangeSpec := { name := "patternJoins", fn := fun _ => fun
  | [d1, d2, d3] => { results := [.lit (.bool false)], args := [d1, d2, d3] }
  | _ => none }
def PatternJoinsWrongFalsely : Prop := patternJoinsRow.holds Try.pinned (OpenSpec.ofChange patternJoinsWrong)

/- THE SECOND FORM. 'bulk': how many values and letters a reading holds, each counted each time it is reached (what is shared counts as often as it is met; a slice's spare places count too). A statement '..UptoSaid' is the law's where the arguments, and the package variables that the reading takes, are together of bulk at most 1048576: NARROWER than '..Said'. Prove '..Said' where nothing that the law and all that it calls make is longer than what came in: it says more and counts as full. Else prove '..UptoSaid'. A law counts once. -/
mutual
def uptoBulk {H : Type} : DataW H → Nat
  | .lit (.string bytes) => bytes.length + 1
  | .lit _ => 1
  | .nil => 1
  | .ptr d => uptoBulk d + 1
  | .slice elems spare => uptoBulkAll elems + uptoBulkAll spare + 1
  | .agg parts => uptoBulkAll parts + 1
  | .iface _ d => uptoBulk d + 1
  | .map entries => uptoBulkEntries entries + 1
  | .held _ => 1
def uptoBulkAll {H : Type} : List (DataW H) → Nat
  | [] => 0
  | d :: r => uptoBulk d + uptoBulkAll r
def uptoBulkEntries {H : Type} : List (Lit × DataW H) → Nat
  | [] => 0
  | x :: r => uptoBulkEntry x + uptoBulkEntries r
def uptoBulkEntry {H : Type} : Lit × DataW H → Nat
  | (.string bytes, d) => bytes.length + uptoBulk d + 1
  | (_, d) => uptoBulk d + 1
 end
def uptoSmall : (H : Type) → List (DataW H) → Bool := fun _ ds => decide (uptoBulkAll ds ≤ 1048576)
def OpenSpec.upto (s : _root_.Go.ChangeSpec) : _root_.Go.OpenSpec := { _root_.Go.OpenSpec.ofChange s with cond := some uptoSmall }

/-- 'avouchlaw12.ItemLimits', WHERE WHAT IT READS IS OF BULK AT MOST 1048576: true; the input reads as it did. -/
def itemLimitsUptoRow : OpenClaim := { program := "ytfikklbaceidfaa", sum := "1e35e97a79b7f20674ff4f5b4508ec20415a4037344701979fe22c2fb89c085e", func := "avouch/avouchlaw12.ItemLimits", spec := "itemLimits", apart := false, narrowed := true }
def ItemLimitsUptoSaid : Prop := itemLimitsUptoRow.holds Try.pinned (OpenSpec.upto itemLimitsSpec)

/-- 'avouchlaw12.ItemUnlike', WHERE WHAT IT READS IS OF BULK AT MOST 1048576: true; the input reads as it did. -/
def itemUnlikeUptoRow : OpenClaim := { program := "ytfikklbaceidfaa", sum := "1e35e97a79b7f20674ff4f5b4508ec20415a4037344701979fe22c2fb89c085e", func := "avouch/avouchlaw12.ItemUnlike", spec := "itemUnlike", apart := false, narrowed := true }
def ItemUnlikeUptoSaid : Prop := itemUnlikeUptoRow.holds Try.pinned (OpenSpec.upto itemUnlikeSpec)

/-- 'avouchlaw12.ItemTells', WHERE WHAT IT READS IS OF BULK AT MOST 1048576: true; the input reads as it did. -/
def itemTellsUptoRow : OpenClaim := { program := "ytfikklbaceidfaa", sum := "1e35e97a79b7f20674ff4f5b4508ec20415a4037344701979fe22c2fb89c085e", func := "avouch/avouchlaw12.ItemTells", spec := "itemTells", apart := false, narrowed := true }
def ItemTellsUptoSaid : Prop := itemTellsUptoRow.holds Try.pinned (OpenSpec.upto itemTellsSpec)

/-- 'avouchlaw12.ItemReads', WHERE WHAT IT READS IS OF BULK AT MOST 1048576: true; the input reads as it did. -/
def itemReadsUptoRow : OpenClaim := { program := "ytfikklbaceidfaa", sum := "1e35e97a79b7f20674ff4f5b4508ec20415a4037344701979fe22c2fb89c085e", func := "avouch/avouchlaw12.ItemReads", spec := "itemReads", apart := false, narrowed := true }
def ItemReadsUptoSaid : Prop := itemReadsUptoRow.holds Try.pinned (OpenSpec.upto itemReadsSpec)

/-- 'avouchlaw13.PatternReads', WHERE WHAT IT READS IS OF BULK AT MOST 1048576: true; the input reads as it did. -/
def patternReadsUptoRow : OpenClaim := { program := "ytfikklbaceidfaa", sum := "1e35e97a79b7f20674ff4f5b4508ec20415a4037344701979fe22c2fb89c085e", func := "avouch/avouchlaw13.PatternReads", spec := "patternReads", apart := false, narrowed := true }
def PatternReadsUptoSaid : Prop := patternReadsUptoRow.holds Try.pinned (OpenSpec.upto patternReadsSpec)

/-- 'avouchlaw13.PatternLong', WHERE WHAT IT READS IS OF BULK AT MOST 1048576: true; the input reads as it did. -/
def patternLongUptoRow : OpenClaim := { program := "ytfikklbaceidfaa", sum := "1e35e97a79b7f20674ff4f5b4508ec20415a4037344701979fe22c2fb89c085e", func := "avouch/avouchlaw13.PatternLong", spec := "patternLong", apart := false, narrowed := true }
def PatternLongUptoSaid : Prop := patternLongUptoRow.holds Try.pinned (OpenSpec.upto patternLongSpec)

/-- 'avouchlaw17.GuardPasses', WHERE WHAT IT READS IS OF BULK AT MOST 1048576: true; the input reads as it did. -/
def guardPassesUptoRow : OpenClaim := { program := "ytfikklbaceidfaa", sum := "1e35e97a79b7f20674ff4f5b4508ec20415a4037344701979fe22c2fb89c085e", func := "avouch/avouchlaw17.GuardPasses", spec := "guardPasses", apart := false, narrowed := true }
def GuardPassesUptoSaid : Prop := guardPassesUptoRow.holds Try.pinned (OpenSpec.upto guardPassesSpec)

/-- 'avouchlaw13.PatternUnlike', WHERE WHAT IT READS IS OF BULK AT MOST 1048576: true; the input reads as it did. -/
def patternUnlikeUptoRow : OpenClaim := { program := "ytfikklbaceidfaa", sum := "1e35e97a79b7f20674ff4f5b4508ec20415a4037344701979fe22c2fb89c085e", func := "avouch/avouchlaw13.PatternUnlike", spec := "patternUnlike", unfollowed := true, recurses := true, apart := false, narrowed := true }
def PatternUnlikeUptoSaid : Prop := patternUnlikeUptoRow.holds Try.pinned (OpenSpec.upto patternUnlikeSpec)

/-- 'avouchlaw13.PatternTells', WHERE WHAT IT READS IS OF BULK AT MOST 1048576: true; the input reads as it did. -/
def patternTellsUptoRow : OpenClaim := { program := "ytfikklbaceidfaa", sum := "1e35e97a79b7f20674ff4f5b4508ec20415a4037344701979fe22c2fb89c085e", func := "avouch/avouchlaw13.PatternTells", spec := "patternTells", unfollowed := true, recurses := true, apart := false, narrowed := true }
def PatternTellsUptoSaid : Prop := patternTellsUptoRow.holds Try.pinned (OpenSpec.upto patternTellsSpec)

/-- 'avouchlaw13.PatternJoins', WHERE WHAT IT READS IS OF BULK AT MOST 1048576: true; the input reads as it did. -/
def patternJoinsUptoRow : OpenClaim := { program := "ytfikklbaceidfaa", sum := "1e35e97a79b7f20674ff4f5b4508ec20415a4037344701979fe22c2fb89c085e", func := "avouch/avouchlaw13.PatternJoins", spec := "patternJoins", unfollowed := true, recurses := true, apart := false, narrowed := true }
def PatternJoinsUptoSaid : Prop := patternJoinsUptoRow.holds Try.pinned (OpenSpec.upto patternJoinsSpec)

end Rows
end Go.Proofs.Ytfikklbaceidfaa
