/-
  What the laws' arguments give the contracts.
-/
import Derived.Test.YtganbceicojfmaaDoorLawBase
import Derived.Test.YtganbceicojfmaaDoorK5
namespace Go.Proofs.YtganbceicojfmaaDoor
open Go Go.Avc
theorem areW_in {l : List Int} (h : ∀ i ∈ l, (Lit.int .u64 i).wf = true) : areW l := fun j => by
  rcases Nat.lt_or_ge j l.length with hj | hj
  · rw [List.getD_eq_getElem?_getD, List.getElem?_eq_getElem hj]
    exact wf_w (h _ (List.getElem_mem hj))
  · rw [List.getD_eq_getElem?_getD, List.getElem?_eq_none hj]; exact isW0
theorem areB_in {l : List (List CD)} {Im : Nat → Prop} {W : World} {v : Value} (z : CRel Im W (.sl [.int .u8]) (.sl l) v) (q : ∀ row ∈ l, wfRow [.int .u8] row) : areB l := fun j => by
  rcases Nat.lt_or_ge j l.length with hj | hj
  · have hm := List.getElem_mem hj
    obtain ⟨vs, hr⟩ := crel_rows z _ hm
    have hw := q _ hm
    unfold rv
    rw [List.getD_eq_getElem?_getD (l := l), List.getElem?_eq_getElem hj]
    show 0 ≤ ((l[j]).getD 0 .d0).toInt ∧ ((l[j]).getD 0 .d0).toInt < 256
    generalize l[j] = row at *
    cases hr with
    | cons _ cd v _ row vs h1 h2 =>
      cases h1 with
      | int k n =>
        have := hw.1
        simp only [wfC, IntKind.min, IntKind.max, IntKind.signed, IntKind.bits] at this
        show 0 ≤ n ∧ n < 256
        simp at this
        omega
  · unfold rv
    rw [List.getD_eq_getElem?_getD (l := l), List.getElem?_eq_none hj]
    exact ⟨by decide, by decide⟩
theorem areP_in {l : List (List CD)} {Im : Nat → Prop} {W : World} {v : Value} (z : CRel Im W (.sl [.sl [.int .u8]]) (.sl l) v) (q : ∀ row ∈ l, wfRow [.sl [.int .u8]] row) : areP l := fun i => by
  have none : areB [] := fun j => by
    have e2 : rv [] j = 0 := rfl
    rw [e2]; exact ⟨by decide, by decide⟩
  rcases Nat.lt_or_ge i l.length with hj | hj
  · have hm := List.getElem_mem hj
    obtain ⟨vs, hr⟩ := crel_rows z _ hm
    have hw := q _ hm
    unfold pt
    rw [List.getD_eq_getElem?_getD (l := l), List.getElem?_eq_getElem hj]
    show areB ((l[i]).getD 0 .d0).toSl
    generalize l[i] = row at *
    cases hr with
    | cons _ cd v _ row vs h1 h2 =>
      cases h1 with
      | sl0 => exact none
      | sl e l' ad cap xs q1 q2 q3 q4 q5 => exact areB_in (.sl _ _ ad cap xs q1 q2 q3 q4 q5) hw.1
  · unfold pt
    rw [List.getD_eq_getElem?_getD (l := l), List.getElem?_eq_none hj]
    exact none
end Go.Proofs.YtganbceicojfmaaDoor
