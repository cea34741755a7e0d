/-
  The condition of the law ItemLimits is met.
-/
import Derived.Test.YtfikklbaceidfaaP2
namespace Go.Proofs.Ytfikklbaceidfaa
open Go Go.Avc Go.Proofs
set_option linter.unusedVariables false
set_option linter.unusedSimpArgs false
set_option maxRecDepth 100000
theorem chk_ok {a b c : Int} {l : List UInt8} : chk a b c l = 0 ↔ (1 ≤ a ∧ a ≤ 3 ∧ ¬ ((a = 1 ∧ (b < 1 ∨ 4 < b)) ∨ (a = 2 ∧ b ≠ 1 ∧ b ≠ 3) ∨ (a = 3 ∧ b ≠ 0)) ∧ 1 ≤ c ∧ c ≤ 1048576 ∧ ¬ (a = 3 ∧ c ≠ 1) ∧ (l.length : Int) ≤ 255) := by
  unfold chk
  repeat' split
  all_goals (first | (constructor <;> intro h <;> (first | omega | (exfalso; omega))) | skip)
theorem vc3 : P3 := by
  intro a b c l n m hl hm _
  refine ⟨trivial, fun _ => trivial, fun _ => condI (fun h => ⟨trivial, rfl⟩) fun h => ⟨trivial, trivial, fun _ => condI (fun h2 => ?_) fun h2 => ⟨trivial, condI (fun h3 => ⟨trivial, ?_⟩) fun h3 => ⟨trivial, ?_⟩⟩⟩⟩
  all_goals simp only [Bool.not_true, Bool.false_or, Bool.or_eq_false_iff, decide_eq_false_iff_not, ne_eq, Classical.not_not, decide_eq_true_eq, bne_iff_ne] at *
  · exfalso
    apply h2
    rw [decide_eq_decide, chk_ok]
    have := chk_ok.1 h.1
    omega
  · rw [beq_iff_eq, ← Bool.decide_and, decide_eq_decide, chk_ok]
    have := chk_ok.1 h.1
    omega
  · rw [beq_iff_eq, ← Bool.decide_and, decide_eq_decide, chk_ok]
    have := chk_ok.1 h.1
    omega
theorem ok3 : SpecOk (base.with sp13) 3 (mkF ct3) := spec_ct (fn := Try.f3) (c := bodyOf Try.f3) (k := Try.f3.ntmps - ct3.ps.length) (ct := ct3) c13 Try.func3 (by kernel_rfl) noAnn (by kernel_rfl) (fun vs w _ => Try.call3 vs w) (e3.mpr vc3)
end Go.Proofs.Ytfikklbaceidfaa
