/-
  AVC, part V: a caller's memory and a callee's: names of blocks.
-/
import Derived.Test.YtfikklbaceidfaaAvcU
namespace Go.Avc
set_option linter.unusedVariables false
set_option linter.unusedSimpArgs false

mutual
def SV.ren (ρ : Nat → Nat) : SV → SV
  | .agg cs => .agg (renL ρ cs)
  | .ptr b c => .ptr (ρ b) c
  | .aptr b c i => .aptr (ρ b) c i
  | .own b => .own (ρ b)
  | .win b c N lo n => .win (ρ b) c N lo n
  | .optr b sz i c => .optr (ρ b) sz i c
  | .fn f cs => .fn f (renL ρ cs)
  | .tup cs => .tup (renL ρ cs)
  | .iface t v => .iface t (v.ren ρ)
  | s => s
def renL (ρ : Nat → Nat) : List SV → List SV
  | [] => []
  | s :: cs => s.ren ρ :: renL ρ cs
end
def Blk.ren (ρ : Nat → Nat) : Blk → Blk
  | .cells T cs => .cells T (renL ρ cs)
  | b => b
theorem live_ren (ρ : Nat → Nat) (b : Blk) : live (b.ren ρ) = live b := by cases b <;> rfl

section
variable {Im : Nat → Prop} {ι ι' : Nat → Option Value} {w : World} {ρ : Nat → Nat}
mutual
theorem VRel.ren : ∀ (s : SV) (v : Value), (∀ b ∈ s.hs, ι' (ρ b) = ι b) → (VRel Im ι' w (s.ren ρ) v ↔ VRel Im ι w s v)
  | .dead, v, h => Iff.rfl
  | .int .., v, h => Iff.rfl
  | .bool _, v, h => Iff.rfl
  | .str _, v, h => Iff.rfl
  | .agg cs, v, h => by
    have ih := fun vs => CellsRel.ren cs vs h
    simp only [SV.ren, VRel, ih]
  | .arrI .., v, h => Iff.rfl
  | .arrB .., v, h => Iff.rfl
  | .nilp, v, h => Iff.rfl
  | .ptr b c, v, h => by
    have := h b (by simp [SV.hs, SV.h1])
    simp only [SV.ren, VRel, this]
  | .aptr b c i, v, h => by
    have := h b (by simp [SV.hs, SV.h1])
    simp only [SV.ren, VRel, this]
  | .rd e l, v, h => Iff.rfl
  | .e0, v, h => Iff.rfl
  | .nils, v, h => Iff.rfl
  | .own b, v, h => by
    have := h b (by simp [SV.hs, SV.h1])
    simp only [SV.ren, VRel, this]
  | .win b c N lo n, v, h => by
    have := h b (by simp [SV.hs, SV.h1])
    simp only [SV.ren, VRel, this]
  | .eptr .., v, h => Iff.rfl
  | .optr b sz i c, v, h => by
    have := h b (by simp [SV.hs, SV.h1])
    simp only [SV.ren, VRel, this]
  | .fn f cs, v, h => by
    have ih := fun vs => VRels.ren cs vs h
    simp only [SV.ren, VRel, ih]
  | .tup cs, v, h => by
    have ih := fun vs => VRels.ren cs vs h
    simp only [SV.ren, VRel, ih]
  | .nili, v, h => Iff.rfl
  | .iface t s, v, h => by
    have ih := fun v => VRel.ren s v h
    simp only [SV.ren, VRel, ih]
  | .val _, v, h => Iff.rfl
theorem CellsRel.ren : ∀ (cs : List SV) (vs : List Value), (∀ b ∈ hsL cs, ι' (ρ b) = ι b) → (CellsRel Im ι' w (renL ρ cs) vs ↔ CellsRel Im ι w cs vs)
  | [], vs, h => Iff.rfl
  | s :: cs, vs, h => by
    have ih1 := fun v => VRel.ren s v (fun b hb => h b (by simp [hsL, hb]))
    have ih2 := fun vs => CellsRel.ren cs vs (fun b hb => h b (by simp [hsL, hb]))
    cases s with
    | arrI n k l =>
      simp only [renL, SV.ren, CellsRel]
      simp only [ih2]
    | arrB n l =>
      simp only [renL, SV.ren, CellsRel]
      simp only [ih2]
    | _ =>
      simp only [SV.ren] at ih1
      simp only [renL, SV.ren, CellsRel]
      simp only [ih1, ih2]
theorem VRels.ren : ∀ (cs : List SV) (vs : List Value), (∀ b ∈ hsL cs, ι' (ρ b) = ι b) → (VRels Im ι' w (renL ρ cs) vs ↔ VRels Im ι w cs vs)
  | [], vs, h => Iff.rfl
  | s :: cs, vs, h => by
    have ih1 := fun v => VRel.ren s v (fun b hb => h b (by simp [hsL, hb]))
    have ih2 := fun vs => VRels.ren cs vs (fun b hb => h b (by simp [hsL, hb]))
    simp only [renL, VRels, ih1, ih2]
end
theorem BRel.ren {blk : Blk} {v : Value} (h : ∀ b ∈ blk.hs, ι' (ρ b) = ι b) : BRel Im ι' w (blk.ren ρ) v ↔ BRel Im ι w blk v := by
  cases blk with
  | cells T cs =>
    have ih := fun vs => CellsRel.ren (Im := Im) (w := w) cs vs h
    simp only [Blk.ren, BRel, ih]
  | _ => exact Iff.rfl
end
end Go.Avc
