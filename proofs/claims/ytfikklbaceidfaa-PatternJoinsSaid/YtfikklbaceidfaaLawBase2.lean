/-
  Items that came in bear numbers within their range.
-/
import Derived.Test.YtfikklbaceidfaaS7
import Derived.Test.YtfikklbaceidfaaLawBase
namespace Go.Proofs.Ytfikklbaceidfaa
open Go.Avc
theorem wf_in {Im : Nat → Prop} {w : World} {l : List (List CD)} {v : Value} (h : CRel Im w (.sl itemE) (.sl l) v) (q : ∀ row ∈ l, wfRow itemE row) : wfIts l := by
  have k := crel_rows h
  intro x hx
  obtain ⟨r, hr, rfl⟩ := List.mem_map.1 hx
  obtain ⟨vs, hv⟩ := k r hr
  have hq := q r hr
  cases hv with
  | cons _ cd _ _ _ _ h1 h2 =>
    cases h1 with
    | int _ n =>
      have hn : IntKind.i64.min ≤ n ∧ n ≤ IntKind.i64.max := hq.1
      show (Lit.int .i64 n).wf = true
      unfold Lit.wf
      simpa using hn
end Go.Proofs.Ytfikklbaceidfaa
