/-
  AVC, part Q: regions whose order isn't given, in any order.
-/
import Derived.Test.YtfikklbaceidfaaAvcP
namespace Go.Avc
set_option linter.unusedVariables false
set_option linter.unusedSimpArgs false

/-! ### Writers in order -/
section
variable {V : Type}
def foldS (S : Nat → Bool) : List (Nat → Option V) → Nat → (Nat → V) → (Nat → V)
  | [], _, st => st
  | e :: es, i, st => foldS S es (i + 1) (if S i then fun l => (e l).getD (st l) else st)
theorem foldS_congr {S S' : Nat → Bool} {l : Nat} : ∀ (es : List (Nat → Option V)) (i : Nat) (st st' : Nat → V), (∀ j e, es[j]? = some e → e l ≠ none → S (i + j) = S' (i + j)) → st l = st' l → foldS S es i st l = foldS S' es i st' l
  | [], _, _, _, _, h => h
  | e :: es, i, st, st', h, hst => by
    refine foldS_congr es (i + 1) _ _ (fun j e' hj hl => by
      have := h (j + 1) e' (by simpa using hj) hl
      rwa [show i + (j + 1) = i + 1 + j from by omega] at this) ?_
    cases he : e l with
    | none =>
      have h1 : (if S i then fun l => (e l).getD (st l) else st) l = st l := by split <;> simp [he]
      have h2 : (if S' i then fun l => (e l).getD (st' l) else st') l = st' l := by split <;> simp [he]
      rw [h1, h2, hst]
    | some x =>
      have h0 := h 0 e rfl (by rw [he]; simp)
      rw [Nat.add_zero] at h0
      rw [h0]
      split
      · simp [he]
      · exact hst
theorem foldS_none {S : Nat → Bool} {l : Nat} (es : List (Nat → Option V)) (i : Nat) (st : Nat → V) (h : ∀ j e, es[j]? = some e → e l ≠ none → S (i + j) = false) : foldS S es i st l = st l := by
  have := foldS_congr (S := S) (S' := fun _ => false) es i st st h rfl
  rw [this]
  clear this h
  induction es generalizing i st with
  | nil => rfl
  | cons e es ih => exact ih (i + 1) st
theorem foldS_insert {S S' : Nat → Bool} {l k : Nat} (hSk : S k = false) (hS' : ∀ j, S' j = (decide (j = k) || S j)) : ∀ (es : List (Nat → Option V)) (i : Nat) (st : Nat → V) (e : Nat → Option V), i ≤ k → es[k - i]? = some e →
    (∀ j e', es[j]? = some e' → k < i + j → e' l ≠ none → e l ≠ none → S (i + j) = false) → foldS S' es i st l = (e l).getD (foldS S es i st l)
  | [], i, st, e, _, h, _ => by simp at h
  | e0 :: es, i, st, e, hi, h, hn => by
    by_cases hik : i = k
    · subst hik
      rw [Nat.sub_self] at h
      cases h
      have h1 : S' i = true := by rw [hS']; simp
      simp only [foldS, h1, hSk, if_true]
      simp only [Bool.false_eq_true, if_false]
      cases he : e0 l with
      | none =>
        rw [Option.getD_none]
        refine foldS_congr es (i + 1) _ _ (fun j e' hj hl => ?_) (by simp [he])
        rw [hS', decide_eq_false (by omega)]
        rfl
      | some x =>
        rw [Option.getD_some]
        rw [foldS_none es (i + 1) _ (fun j e' hj hl => ?_)]
        · simp [he]
        · rw [hS', decide_eq_false (by omega), Bool.false_or]
          have := hn (j + 1) e' (by simpa using hj) (by omega) hl (by rw [he]; simp)
          rwa [show i + (j + 1) = i + 1 + j from by omega] at this
    · have h1 : S' i = S i := by rw [hS', decide_eq_false hik]; rfl
      simp only [foldS, h1]
      have hkk : (e0 :: es)[k - i]? = es[k - (i + 1)]? := by
        rw [show k - i = (k - (i + 1)) + 1 from by omega]
        rfl
      rw [hkk] at h
      exact foldS_insert hSk hS' es (i + 1) _ e (by omega) h (fun j e' hj hlt h2 h3 => by
        have := hn (j + 1) e' (by simpa using hj) (by omega) h2 h3
        rwa [show i + (j + 1) = i + 1 + j from by omega] at this)
/-- The text's order. -/
theorem foldS_text (es : List (Nat → Option V)) (T : Nat → Nat → V) (hT : ∀ i e, es[i]? = some e → ∀ l, T (i + 1) l = (e l).getD (T i l)) (l : Nat) : ∀ k, k ≤ es.length → foldS (fun j => decide (j < k)) es 0 (T 0) l = T k l
  | 0, _ => foldS_none es 0 _ fun j e _ _ => by simp
  | k + 1, h => by
    have hk : es[k]? = some es[k] := List.getElem?_eq_getElem (by omega)
    rw [foldS_insert (S := fun j => decide (j < k)) (k := k) (by simp) (fun j => by
      by_cases h1 : j = k
      · simp [h1]
      · by_cases h2 : j < k
        · simp [h2]; omega
        · simp [h1, h2]; omega) es 0 (T 0) es[k] (by omega) (by simp) (fun j e' _ h1 _ _ => by simp; omega)]
    rw [foldS_text es T hT l k (by omega), hT k es[k] hk]
end

/-! ### Orders -/
def Closed (ops : Array Oper) (S : Nat → Bool) : Prop := ∀ j o, S j = true → ops[j]? = some o → ∀ e ∈ o.after, Region.binds .any e = true → S e.on = true
theorem ancs_ok {ops : Array Oper} {S : Nat → Bool} (hS : Closed ops S) : ∀ (l : List Oper) (m : List Nat), ops.toList.drop m.length = l → (∀ j i, (m.getD j 0).testBit i = true → S j = true → S i = true) →
    ∀ j i, ((ancs l m).getD j 0).testBit i = true → S j = true → S i = true
  | [], m, _, h => h
  | o :: rest, m, hl, h => by
    refine ancs_ok hS rest _ ?_ ?_
    · rw [List.length_append, List.length_singleton, ← List.drop_drop, hl]; rfl
    · intro j i hb hj
      rcases Nat.lt_trichotomy j m.length with hlt | heq | hgt
      · refine h j i ?_ hj
        rwa [List.getD_eq_getElem?_getD, List.getElem?_append_left hlt, ← List.getD_eq_getElem?_getD] at hb
      · subst heq
        rw [List.getD_eq_getElem?_getD, List.getElem?_append_right (Nat.le_refl _), Nat.sub_self] at hb
        simp only [List.getElem?_cons_zero, Option.getD_some] at hb
        have ho : ops[m.length]? = some o := by
          have : (ops.toList.drop m.length)[0]? = some o := by rw [hl]; rfl
          simpa using this
        have key : ∀ (es : List Edge) (acc : Nat), (∀ e ∈ es, e ∈ o.after) → (acc.testBit i = true → S i = true) → (es.foldl (fun acc e => if Region.binds .any e then acc ||| (1 <<< e.on) ||| m.getD e.on 0 else acc) acc).testBit i = true → S i = true := by
          intro es
          induction es with
          | nil => exact fun acc _ ha hb => ha hb
          | cons e es ih =>
            intro acc he ha hb
            refine ih _ (fun e' h' => he e' (by simp [h'])) ?_ hb
            intro hb'
            dsimp only at hb'
            by_cases hbind : Region.binds .any e = true
            · rw [if_pos hbind, Nat.testBit_or, Nat.testBit_or, Bool.or_eq_true, Bool.or_eq_true] at hb'
              have hon := hS _ o hj ho e (he e (by simp)) hbind
              rcases hb' with (h1 | h1) | h1
              · exact ha h1
              · rw [Nat.one_shiftLeft, Nat.testBit_two_pow] at h1
                have : e.on = i := by simpa using h1
                rwa [this] at hon
              · exact h _ _ h1 hon
            · rw [if_neg hbind] at hb'
              exact ha hb'
        exact key _ 0 (fun e he => by simpa using he) (fun h0 => by simp at h0) hb
      · rw [List.getD_eq_getElem?_getD, List.getElem?_eq_none (by simp; omega)] at hb
        simp at hb
end Go.Avc
