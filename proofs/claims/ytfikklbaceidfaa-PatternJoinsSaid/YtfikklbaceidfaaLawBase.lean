/-
  Slices that came in: bytes, items.
-/
import Derived.Test.YtfikklbaceidfaaS3
import Derived.Test.YtfikklbaceidfaaAvcT1
namespace Go.Proofs.Ytfikklbaceidfaa
open Go.Avc
theorem isB_in {Im : Nat → Prop} {w : World} {l : List (List CD)} {v : Value} (h : CRel Im w (.sl u8E) (.sl l) v) (q : ∀ row ∈ l, wfRow u8E row) : isB l := by
  have k := crel_rows h
  clear h
  unfold isB
  induction l with
  | nil => rfl
  | cons r l ih =>
    obtain ⟨vs, hv⟩ := k r (List.mem_cons_self ..)
    have hq := q r (List.mem_cons_self ..)
    cases hv with
    | cons _ cd v _ row vs h1 h2 =>
      cases h2
      cases h1 with
      | int _ n =>
        have hn : (0 : Int) ≤ n ∧ n ≤ 255 := hq.1
        have e : (((UInt8.ofNat n.toNat).toNat : Nat) : Int) = n := by
          rw [UInt8.toNat_ofNat', Nat.mod_eq_of_lt (by omega)]; omega
        show [CD.int n] :: l = [CD.int (((UInt8.ofNat n.toNat).toNat : Nat) : Int)] :: rowsOfBytes (bytesOfRows l)
        rw [e, ← ih (fun r hr => q r (List.mem_cons_of_mem _ hr)) fun r hr => k r (List.mem_cons_of_mem _ hr)]
theorem items_in {Im : Nat → Prop} {w : World} {l : List (List CD)} {v : Value} (h : CRel Im w (.sl itemE) (.sl l) v) : l = rowsIt (itsOf l) := by
  have k := crel_rows h
  clear h
  induction l with
  | nil => rfl
  | cons r l ih =>
    obtain ⟨vs, hv⟩ := k r (List.mem_cons_self ..)
    have e : rowIt (itRow r) = r := by
      cases hv with
      | cons _ _ _ _ _ _ h1 h2 =>
        cases h2 with
        | cons _ _ _ _ _ _ h3 h4 =>
          cases h4 with
          | cons _ _ _ _ _ _ h5 h6 =>
            cases h6 with
            | cons _ _ _ _ _ _ h7 h8 =>
              cases h8; cases h1; cases h3; cases h5; cases h7; rfl
    show r :: l = rowIt (itRow r) :: rowsIt (itsOf l)
    rw [e, ← ih fun r hr => k r (List.mem_cons_of_mem _ hr)]
theorem u16_in {n : Int} (h : (Lit.int .u16 n).wf = true) : 0 ≤ n ∧ n ≤ 65535 := by
  revert h
  simp [Lit.wf, IntKind.min, IntKind.max, IntKind.signed, IntKind.bits]
theorem u8_in {n : Int} (h : (Lit.int .u8 n).wf = true) : 0 ≤ n ∧ n ≤ 255 := by
  revert h
  simp [Lit.wf, IntKind.min, IntKind.max, IntKind.signed, IntKind.bits]
end Go.Proofs.Ytfikklbaceidfaa
