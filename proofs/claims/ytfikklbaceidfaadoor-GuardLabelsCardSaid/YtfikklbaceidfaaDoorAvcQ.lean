/-
  AVC, part Q: regions whose order isn't given, in any order.
-/
import Derived.Test.YtfikklbaceidfaaDoorAvcP
namespace Go.Avc
set_option linter.unusedVariables false
set_option linter.unusedSimpArgs false

/-! ### Writers in order -/
section
variable {V : Type}
def foldS (S : Nat → Bool) : List (Nat → Option V) → Nat → (Nat → V) → (Nat → V)
  | [], _, st => st
  | e :: es, i, st => foldS S es (i + 1) (if S i then fun l => (e l).getD (st l) else st)
theorem foldS_congr {S S' : Nat → Bool} {l : Nat} : ∀ (es : List (Nat → Option V)) (i : Nat) (st st' : Nat → V), (∀ j e, es[j]? = some e → e l ≠ none → S (i + j) = S' (i + j)) → st l = st' l → foldS S es i st l = foldS S' es i st' l
  | [], _, _, _, _, h => h
  | e :: es, i, st, st', h, hst => by
    refine foldS_congr es (i + 1) _ _ (fun j e' hj hl => by
      have := h (j + 1) e' (by simpa using hj) hl
      rwa [show i + (j + 1) = i + 1 + j from by omega] at this) ?_
    cases he : e l with
    | none =>
      have h1 : (if S i then fun l => (e l).getD (st l) else st) l = st l := by split <;> simp [he]
      have h2 : (if S' i then fun l => (e l).getD (st' l) else st') l = st' l := by split <;> simp [he]
      rw [h1, h2, hst]
    | some x =>
      have h0 := h 0 e rfl (by rw [he]; simp)
      rw [Nat.add_zero] at h0
      rw [h0]
      split
      · simp [he]
      · exact hst
theorem foldS_none {S : Nat → Bool} {l : Nat} (es : List (Nat → Option V)) (i : Nat) (st : Nat → V) (h : ∀ j e, es[j]? = some e → e l ≠ none → S (i + j) = false) : foldS S es i st l = st l := by
  have := foldS_congr (S := S) (S' := fun _ => false) es i st st h rfl
  rw [this]
  clear this h
  induction es generalizing i st with
  | nil => rfl
  | cons e es ih => exact ih (i + 1) st
theorem foldS_insert {S S' : Nat → Bool} {l k : Nat} (hSk : S k = false) (hS' : ∀ j, S' j = (decide (j = k) || S j)) : ∀ (es : List (Nat → Option V)) (i : Nat) (st : Nat → V) (e : Nat → Option V), i ≤ k → es[k - i]? = some e →
    (∀ j e', es[j]? = some e' → k < i + j → e' l ≠ none → e l ≠ none → S (i + j) = false) → foldS S' es i st l = (e l).getD (foldS S es i st l)
  | [], i, st, e, _, h, _ => by simp at h
  | e0 :: es, i, st, e, hi, h, hn => by
    by_cases hik : i = k
    · subst hik
      rw [Nat.sub_self] at h
      cases h
      have h1 : S' i = true := by rw [hS']; simp
      simp only [foldS, h1, hSk, if_true]
      simp only [Bool.false_eq_true, if_false]
      cases he : e0 l with
      | none =>
        rw [Option.getD_none]
        refine foldS_congr es (i + 1) _ _ (fun j e' hj hl => ?_) (by simp [he])
        rw [hS', decide_eq_false (by omega)]
        rfl
      | some x =>
        rw [Option.getD_some]
        rw [foldS_none es (i + 1) _ (fun j e' hj hl => ?_)]
        · simp [he]
        · rw [hS', decide_eq_false (by omega), Bool.false_or]
          have := hn (j + 1) e' (by simpa using hj) (by omega) hl (by rw [he]; simp)
          rwa [show i + (j + 1) = i + 1 + j from by omega] at this
    · have h1 : S' i = S i := by rw [hS', decide_eq_false hik]; rfl
      simp only [foldS, h1]
      have hkk : (e0 :: es)[k - i]? = es[k - (i + 1)]? := by
        rw [show k - i = (k - (i + 1)) + 1 from by omega]
        rfl
      rw [hkk] at h
      exact foldS_insert hSk hS' es (i + 1) _ e (by omega) h (fun j e' hj hlt h2 h3 => by
        have := hn (j + 1) e' (by simpa using hj) (by omega) h2 h3
        rwa [show i + (j + 1) = i + 1 + j from by omega] at this)
/-- The text's order. -/
theorem foldS_text (es : List (Nat → Option V)) (T : Nat → Nat → V) (hT : ∀ i e, es[i]? = some e → ∀ l, T (i + 1) l = (e l).getD (T i l)) (l : Nat) : ∀ k, k ≤ es.length → foldS (fun j => decide (j < k)) es 0 (T 0) l = T k l
  | 0, _ => foldS_none es 0 _ fun j e _ _ => by simp
  | k + 1, h => by
    have hk : es[k]? = some es[k] := List.getElem?_eq_getElem (by omega)
    rw [foldS_insert (S := fun j => decide (j < k)) (k := k) (by simp) (fun j => by
      by_cases h1 : j = k
      · simp [h1]
      · by_cases h2 : j < k
        · simp [h2]; omega
        · simp [h1, h2]; omega) es 0 (T 0) es[k] (by omega) (by simp) (fun j e' _ h1 _ _ => by simp; omega)]
    rw [foldS_text es T hT l k (by omega), hT k es[k] hk]
end

/-! ### Orders -/
def Closed (ops : Array Oper) (S : Nat → Bool) : Prop := ∀ j o, S j = true → ops[j]? = some o → ∀ e ∈ o.after, Region.binds .any e = true → S e.on = true
theorem ancs_ok {ops : Array Oper} {S : Nat → Bool} (hS : Closed ops S) : ∀ (l : List Oper) (m : List Nat), ops.toList.drop m.length = l → (∀ j i, (m.getD j 0).testBit i = true → S j = true → S i = true) →
    ∀ j i, ((ancs l m).getD j 0).testBit i = true → S j = true → S i = true
  | [], m, _, h => h
  | o :: rest, m, hl, h => by
    refine ancs_ok hS rest _ ?_ ?_
    · rw [List.length_append, List.length_singleton, ← List.drop_drop, hl]; rfl
    · intro j i hb hj
      rcases Nat.lt_trichotomy j m.length with hlt | heq | hgt
      · refine h j i ?_ hj
        rwa [List.getD_eq_getElem?_getD, List.getElem?_append_left hlt, ← List.getD_eq_getElem?_getD] at hb
      · subst heq
        rw [List.getD_eq_getElem?_getD, List.getElem?_append_right (Nat.le_refl _), Nat.sub_self] at hb
        simp only [List.getElem?_cons_zero, Option.getD_some] at hb
        have ho : ops[m.length]? = some o := by
          have : (ops.toList.drop m.length)[0]? = some o := by rw [hl]; rfl
          simpa using this
        have key : ∀ (es : List Edge) (acc : Nat), (∀ e ∈ es, e ∈ o.after) → (acc.testBit i = true → S i = true) → (es.foldl (fun acc e => if Region.binds .any e then acc ||| (1 <<< e.on) ||| m.getD e.on 0 else acc) acc).testBit i = true → S i = true := by
          intro es
          induction es with
          | nil => exact fun acc _ ha hb => ha hb
          | cons e es ih =>
            intro acc he ha hb
            refine ih _ (fun e' h' => he e' (by simp [h'])) ?_ hb
            intro hb'
            dsimp only at hb'
            by_cases hbind : Region.binds .any e = true
            · rw [if_pos hbind, Nat.testBit_or, Nat.testBit_or, Bool.or_eq_true, Bool.or_eq_true] at hb'
              have hon := hS _ o hj ho e (he e (by simp)) hbind
              rcases hb' with (h1 | h1) | h1
              · exact ha h1
              · rw [Nat.one_shiftLeft, Nat.testBit_two_pow] at h1
                have : e.on = i := by simpa using h1
                rwa [this] at hon
              · exact h _ _ h1 hon
            · rw [if_neg hbind] at hb'
              exact ha hb'
        exact key _ 0 (fun e he => by simpa using he) (fun h0 => by simp at h0) hb
      · rw [List.getD_eq_getElem?_getD, List.getElem?_eq_none (by simp; omega)] at hb
        simp at hb
end Go.Avc

/-
  AVC, part R: a region whose order isn't given: its rule.
-/
namespace Go.Avc
set_option linter.unusedVariables false
set_option linter.unusedSimpArgs false
section
variable {C : Ctx} {E B : Ent}

def st (s : AS) (es : List Eff) (i : Nat) : AS := (es.take i).foldl AS.app s
theorem st_zero (s : AS) (es : List Eff) : st s es 0 = s := rfl
theorem st_succ (s : AS) (es : List Eff) (i : Nat) (e : Eff) (h : es[i]? = some e) : st s es (i + 1) = (st s es i).app e := by
  unfold st
  rw [List.take_add_one, h]
  simp
theorem st_cons (s : AS) (e : Eff) (es : List Eff) (i : Nat) : st s (e :: es) (i + 1) = st (s.app e) es i := rfl

theorem drGo_trace (hC : C.Ok) {all : Array Oper} {K : AS → List (List Nat × List Nat) → Prop} : ∀ (l : List Oper) (s : AS) (ks : List (List Nat × List Nat)), drGo C all l s ks K →
    ∃ es : List Eff, es.length = l.length ∧ (∀ i o e, l[i]? = some o → es[i]? = some e → EffOk C all o (st s es i) e) ∧ K (st s es es.length) (ks ++ es.map Eff.key)
  | [], s, ks, h => ⟨[], rfl, fun i o e ho => by simp at ho, by
    have h' : K s ks := h
    simpa [st] using h'⟩
  | o :: l, s, ks, h => by
    have h' : guardVC all o s
        (drOR C o (accs C.glob s o.op) s (fun e => drGo C all l (s.app e) (ks ++ [e.key]) K) (evOp C.P C.zero (s.ev C.glob) (maskH (accs C.glob s o.op) 0 s.hp) o.op))
        ((fun e => drGo C all l (s.app e) (ks ++ [e.key]) K) ⟨o.dst, .undef, [], [], s.hp.length, []⟩) := by
      have e1 : drGo C all l (s.app ⟨o.dst, .undef, [], [], s.hp.length, []⟩) (ks ++ [Eff.key ⟨o.dst, .undef, [], [], s.hp.length, []⟩]) K = drGo C all l (s.put o.dst .undef) (ks ++ [([], [])]) K := by
        simp [AS.app, updAll, Eff.key, rangeFrom]
      show guardVC all o s _ (drGo C all l (s.app ⟨o.dst, .undef, [], [], s.hp.length, []⟩) (ks ++ [Eff.key ⟨o.dst, .undef, [], [], s.hp.length, []⟩]) K)
      rw [e1]
      exact guardS_imp h
    obtain ⟨e, he, hk⟩ := drStep hC h'
    obtain ⟨es, h1, h2, h3⟩ := drGo_trace hC l _ _ hk
    refine ⟨e :: es, by simp [h1], fun i o' e' ho he' => ?_, ?_⟩
    · cases i with
      | zero =>
        simp only [List.getElem?_cons_zero, Option.some.injEq] at ho he'
        subst ho he'
        exact he
      | succ i => exact h2 i o' e' (by simpa using ho) (by simpa using he')
    · have : ks ++ (e :: es).map Eff.key = ks ++ [e.key] ++ es.map Eff.key := by simp
      rw [this]
      exact h3

theorem Rel.congr {s s' : AS} {Im : Nat → Prop} {ι : Nat → Option Value} {a : Act} {w : World} (h : Rel C E s Im ι a w) (hl : s'.tm.length = s.tm.length) (ht : ∀ t, lget s'.tm t = lget s.tm t) (hh : ∀ b, s'.hp.getD b .none = s.hp.getD b .none) : Rel C E s' Im ι a w :=
  ⟨h.defers, h.size.trans hl.symm, fun t => by rw [ht]; exact h.tm t, h.mem.congr hh⟩
theorem lget_map_range {n : Nat} {f : Nat → SV} {t : Nat} : lget ((List.range n).map f) t = if t < n then f t else .dead := by
  have key : ∀ (l : List SV) (t : Nat), lget l t = l[t]?.getD .dead := by
    intro l
    induction l with
    | nil => intro t; rfl
    | cons x l ih => intro t; cases t with
      | zero => rfl
      | succ t => simpa [lget] using ih t
  rw [key, List.getElem?_map]
  by_cases h : t < n
  · rw [List.getElem?_range h, if_pos h]; rfl
  · rw [List.getElem?_eq_none (by simpa using h), if_neg h]; rfl
theorem getD_map_range {n : Nat} {f : Nat → Blk} {b : Nat} : ((List.range n).map f).getD b .none = if b < n then f b else .none := by
  rw [List.getD_eq_getElem?_getD, List.getElem?_map]
  by_cases h : b < n
  · rw [List.getElem?_range h, if_pos h]; rfl
  · rw [List.getElem?_eq_none (by simpa using h), if_neg h]; rfl
theorem rangeFrom_mem : ∀ (l : List Blk) (n b : Nat), n ≤ b → b < n + l.length → b ∈ rangeFrom n l
  | [], n, b, h1, h2 => by simp at h2; omega
  | x :: l, n, b, h1, h2 => by
    simp only [rangeFrom, List.mem_cons]
    by_cases h : b = n
    · exact .inl h
    · exact .inr (rangeFrom_mem l (n + 1) b (by omega) (by simp at h2; omega))
theorem updW_mem : ∀ (l : List (Nat × Blk)) (b : Nat), updW l b ≠ none → b ∈ l.map (·.1)
  | [], b, h => absurd rfl h
  | (c, x) :: l, b, h => by
    simp only [updW] at h
    cases hu : updW l b with
    | some y => exact List.mem_cons_of_mem _ (updW_mem l b (by rw [hu]; simp))
    | none =>
      rw [hu] at h
      by_cases hc : c = b
      · subst hc; simp
      · simp [hc] at h
theorem hpW_key {e : Eff} {b : Nat} (h : e.hpW b ≠ none) : b ∈ e.key.2 := by
  unfold Eff.hpW at h
  unfold Eff.key
  split at h
  · rename_i hb
    refine List.mem_append_right _ (rangeFrom_mem _ _ _ hb ?_)
    rcases Nat.lt_or_ge b (e.base + e.news.length) with h' | h'
    · exact h'
    · exact absurd (List.getElem?_eq_none (by omega)) h
  · exact List.mem_append_left _ (updW_mem _ _ h)
theorem tmW_dst {e : Eff} {n t : Nat} (h : e.tmW n t ≠ none) : e.dst = some t := by
  unfold Eff.tmW at h
  split at h
  · assumption
  · exact absurd rfl h

/-- What the trace gives, and the check. -/
structure Draw (C : Ctx) (ops : Array Oper) (s : AS) (es : List Eff) : Prop where
  len : es.length = ops.size
  ok : ∀ i o e, ops[i]? = some o → es[i]? = some e → EffOk C ops o (st s es i) e
  conf : confOk ops (es.map Eff.key) = true

section
variable {ops : Array Oper} {s : AS} {es : List Eff}
theorem Draw.ord (d : Draw C ops s es) {S : Nat → Bool} (hS : Closed ops S) {i j : Nat} {oi oj : Oper} {ei ej : Eff} (hij : i < j) (h1 : ops[i]? = some oi) (h2 : ops[j]? = some oj) (h3 : es[i]? = some ei) (h4 : es[j]? = some ej)
    (hc : clash ops oi oj ei.key ej.key = true) (hj : S j = true) : S i = true := by
  have hconf := d.conf
  unfold confOk pairsOk at hconf
  rw [Bool.and_eq_true, List.all_eq_true] at hconf
  have hjn : j < ops.size := (Array.getElem?_eq_some_iff.1 h2).1
  have h5 := hconf.2 j (List.mem_range.2 hjn)
  rw [List.all_eq_true] at h5
  have h6 := h5 i (List.mem_range.2 hij)
  simp only [h1, h2, List.getElem?_map, h3, h4, Option.map_some, hc, Bool.not_true, Bool.false_or] at h6
  exact ancs_ok hS ops.toList [] rfl (fun j i hb => by simp at hb) j i h6 hj
theorem Draw.down (d : Draw C ops s es) {j : Nat} {o : Oper} (h : ops[j]? = some o) {e : Edge} (he : e ∈ o.after) (hb : Region.binds .any e = true) : e.on < j := by
  have hconf := d.conf
  unfold confOk edgesDown at hconf
  rw [Bool.and_eq_true, List.all_eq_true] at hconf
  have h5 := hconf.1 j (List.mem_range.2 (Array.getElem?_eq_some_iff.1 h).1)
  simp only [h] at h5
  rw [List.all_eq_true] at h5
  have h6 := h5 e (by simpa using he)
  rw [hb] at h6
  simpa using h6
theorem Draw.eff (d : Draw C ops s es) {i : Nat} {o : Oper} (h : ops[i]? = some o) : ∃ e, es[i]? = some e ∧ EffOk C ops o (st s es i) e := by
  have hlt : i < es.length := by rw [d.len]; exact (Array.getElem?_eq_some_iff.1 h).1
  exact ⟨es[i], List.getElem?_eq_getElem hlt, d.ok i o _ h (List.getElem?_eq_getElem hlt)⟩
theorem Draw.op (d : Draw C ops s es) {i : Nat} {e : Eff} (h : es[i]? = some e) : ∃ o, ops[i]? = some o ∧ EffOk C ops o (st s es i) e := by
  have hlt : i < ops.size := by rw [← d.len]; exact (List.getElem?_eq_some_iff.1 h).1
  exact ⟨ops[i], Array.getElem?_eq_getElem hlt, d.ok i _ e (Array.getElem?_eq_getElem hlt) h⟩
theorem app_tm_length (s : AS) (e : Eff) : (s.app e).tm.length = s.tm.length := by
  unfold AS.app AS.put
  split <;> simp [length_lset]
theorem app_hp (s : AS) (e : Eff) : (s.app e).hp = updAll s.hp e.upd ++ e.news := by
  unfold AS.app AS.put
  split <;> rfl
theorem put_lget (tm : List SV) (hp : List Blk) (e : Eff) (t : Nat) : lget ((⟨tm, hp⟩ : AS).put e.dst e.sv).tm t = (e.tmW tm.length t).getD (lget tm t) := by
  unfold AS.put Eff.tmW
  cases hd : e.dst with
  | none => simp
  | some d =>
    simp only [Option.some.injEq]
    by_cases h : d = t
    · subst h
      rw [if_pos rfl]
      by_cases hl : d < tm.length
      · rw [if_pos hl, lget_lset_same _ _ _ hl]; rfl
      · rw [if_neg hl, lget_out (lset tm d e.sv) d (by rw [length_lset]; exact Nat.le_of_not_lt hl), lget_out tm d (Nat.le_of_not_lt hl)]; rfl
    · rw [if_neg h, lget_lset_other _ _ _ _ h]; rfl
theorem st_tm_length (s : AS) (es : List Eff) : ∀ i, (st s es i).tm.length = s.tm.length
  | 0 => rfl
  | i + 1 => by
    cases h : es[i]? with
    | none =>
      have : st s es (i + 1) = st s es i := by
        unfold st
        rw [List.take_add_one, h]; simp
      rw [this]; exact st_tm_length s es i
    | some e => rw [st_succ s es i e h, app_tm_length]; exact st_tm_length s es i
theorem Draw.tmT (d : Draw C ops s es) (i : Nat) (f : Nat → Option SV) (h : (es.map fun e => e.tmW s.tm.length)[i]? = some f) (t : Nat) : lget (st s es (i + 1)).tm t = (f t).getD (lget (st s es i).tm t) := by
  rw [List.getElem?_map] at h
  cases he : es[i]? with
  | none => rw [he] at h; cases h
  | some e =>
    rw [he] at h
    cases h
    rw [st_succ s es i e he]
    have := put_lget (st s es i).tm (updAll (st s es i).hp e.upd ++ e.news) e t
    rw [st_tm_length] at this
    exact this
theorem Draw.hpT (d : Draw C ops s es) (i : Nat) (f : Nat → Option Blk) (h : (es.map Eff.hpW)[i]? = some f) (b : Nat) : (st s es (i + 1)).hp.getD b .none = (f b).getD ((st s es i).hp.getD b .none) := by
  rw [List.getElem?_map] at h
  cases he : es[i]? with
  | none => rw [he] at h; cases h
  | some e =>
    rw [he] at h
    cases h
    obtain ⟨o, _, ho⟩ := d.op he
    rw [st_succ s es i e he, app_hp, app_getD]
    unfold Eff.hpW
    rw [ho.base]
theorem Draw.lenS (d : Draw C ops s es) {i : Nat} {e : Eff} (he : es[i]? = some e) : (st s es (i + 1)).hp.length = (st s es i).hp.length + e.news.length ∧ e.base = (st s es i).hp.length := by
  obtain ⟨o, _, ho⟩ := d.op he
  exact ⟨by rw [st_succ s es i e he, app_hp, List.length_append, length_updAll], ho.base⟩
theorem Draw.lenM (d : Draw C ops s es) : ∀ (j i : Nat), i ≤ j → j ≤ es.length → (st s es i).hp.length ≤ (st s es j).hp.length
  | 0, i, h, _ => by rw [Nat.le_zero.1 h]; exact Nat.le_refl _
  | j + 1, i, h, hj => by
    by_cases he : i = j + 1
    · rw [he]; exact Nat.le_refl _
    · have h1 := d.lenM j i (by omega) (by omega)
      have h2 := (d.lenS (List.getElem?_eq_getElem (show j < es.length from hj))).1
      omega
/-- The slots and the memory, as those of S are done. -/
def tmS (s : AS) (es : List Eff) (S : Nat → Bool) : List SV := (List.range s.tm.length).map (foldS S (es.map fun e => e.tmW s.tm.length) 0 (lget s.tm))
def hpS (s : AS) (es : List Eff) (S : Nat → Bool) : List Blk := (List.range (st s es es.length).hp.length).map (foldS S (es.map Eff.hpW) 0 (fun b => s.hp.getD b .none))
theorem tmS_get (S : Nat → Bool) (t : Nat) : lget (tmS s es S) t = foldS S (es.map fun e => e.tmW s.tm.length) 0 (lget s.tm) t := by
  unfold tmS
  rw [lget_map_range]
  split
  · rfl
  · rename_i h
    rw [foldS_none _ _ _ fun j e hj hl => ?_, lget_out _ _ (by omega)]
    rw [List.getElem?_map] at hj
    cases he : es[j]? with
    | none => rw [he] at hj; cases hj
    | some e' =>
      rw [he] at hj
      cases hj
      refine absurd ?_ hl
      show Eff.tmW e' _ t = none
      unfold Eff.tmW
      rw [if_neg h]
      split <;> rfl
theorem Draw.hpS_get (d : Draw C ops s es) (S : Nat → Bool) (b : Nat) : (hpS s es S).getD b .none = foldS S (es.map Eff.hpW) 0 (fun b => s.hp.getD b .none) b := by
  unfold hpS
  rw [getD_map_range]
  split
  · rfl
  · rename_i h
    have h0 : s.hp.length ≤ b := by
      have := d.lenM es.length 0 (Nat.zero_le _) (Nat.le_refl _)
      rw [st_zero] at this
      omega
    rw [foldS_none _ _ _ fun j e hj hl => ?_, List.getD_eq_getElem?_getD, List.getElem?_eq_none h0]; rfl
    rw [List.getElem?_map] at hj
    cases he : es[j]? with
    | none => rw [he] at hj; cases hj
    | some e' =>
      rw [he] at hj
      cases hj
      refine absurd ?_ hl
      obtain ⟨h1, h2⟩ := d.lenS he
      have h3 := d.lenM es.length (j + 1) (List.getElem?_eq_some_iff.1 he).1 (Nat.le_refl _)
      unfold Eff.hpW
      rw [if_pos (by omega)]
      exact List.getElem?_eq_none (by omega)
end
end
end Go.Avc

/-
  AVC, part S: a region whose order isn't given, whatever the order.
-/
namespace Go.Avc
set_option linter.unusedVariables false
set_option linter.unusedSimpArgs false
section
variable {C : Ctx} {E B : Ent} {ops : Array Oper} {s : AS} {es : List Eff}

/-- Those of S are done. -/
structure DInv (C : Ctx) (E B : Ent) (s : AS) (es : List Eff) (S : Nat → Bool) (a : Act) (w : World) (Im : Nat → Prop) (ι : Nat → Option Value) : Prop where
  rel : Rel C E ⟨tmS s es S, hpS s es S⟩ Im ι a w
  fresh : ∀ j e, es[j]? = some e → S j = false → ∀ b, e.base ≤ b → b < e.base + e.news.length → ι b = none
  past : ∀ b, (st s es es.length).hp.length ≤ b → ι b = none
  later : Aft B s.hp.length Im ι w

def lst (listed : Array Bool) (j : Nat) : Bool := listed.getD j false
theorem lst_set {listed : Array Bool} {i : Nat} (hi : i < listed.size) (j : Nat) : lst (listed.setIfInBounds i true) j = (decide (j = i) || lst listed j) := by
  unfold lst
  by_cases h : j = i
  · subst h
    simp [hi]
  · rw [getD_set_ne _ (Ne.symm h)]
    simp [h]
theorem getD_true_false {listed : Array Bool} {j : Nat} (h : j < listed.size) : listed.getD j true = listed.getD j false := by
  simp [h]

/-- The number of those that aren't done. -/
def undone (n : Nat) (S : Nat → Bool) : Nat := ((List.range n).filter fun j => !S j).length
theorem undone_insert {S S' : Nat → Bool} {i : Nat} (hS : ∀ j, S' j = (decide (j = i) || S j)) (h0 : S i = false) : ∀ n, i < n → undone n S' < undone n S
  | 0, h => by omega
  | n + 1, h => by
    have hsplit : ∀ (T : Nat → Bool) (n : Nat), undone (n + 1) T = undone n T + (if T n then 0 else 1) := fun T n => by
      unfold undone
      rw [List.range_succ, List.filter_append, List.length_append]
      cases hT : T n <;> simp [hT]
    have hsub : ∀ m, undone m S' ≤ undone m S := fun m => by
      induction m with
      | zero => exact Nat.le_refl _
      | succ m ih =>
        rw [hsplit, hsplit, hS]
        by_cases hm : m = i
        · subst hm; simp [h0]; omega
        · simp [hm]; omega
    rw [hsplit, hsplit]
    by_cases hin : i = n
    · subst hin
      have h1 : S' i = true := by rw [hS]; simp
      rw [h1, h0]
      have := hsub i
      simp; omega
    · have h1 : S' n = S n := by rw [hS, decide_eq_false (Ne.symm hin)]; rfl
      rw [h1]
      have := undone_insert hS h0 n (by omega)
      omega
theorem undone_zero {S : Nat → Bool} {n : Nat} (h : undone n S = 0) : ∀ j, j < n → S j = true := fun j hj => by
  unfold undone at h
  rw [List.length_eq_zero_iff, List.filter_eq_nil_iff] at h
  have := h j (List.mem_range.2 hj)
  simpa using this

/-- An operation that may be done now meets the trace's state where it looks. -/
theorem Draw.sched (d : Draw C ops s es) {S : Nat → Bool} {i : Nat} {o : Oper} {e : Eff} (ho : ops[i]? = some o) (he : es[i]? = some e) (hS : Closed ops S) (hi : S i = false) (hr : ∀ x ∈ o.after, Region.binds .any x = true → S x.on = true) {a : Act} {w : World} {Im : Nat → Prop} {ι : Nat → Option Value} (I : DInv C E B s es S a w Im ι) :
    Sched C ops o (st s es i) e.acc E (tmS s es S) (hpS s es S) Im ι a w := by
  have hS' : Closed ops (fun j => decide (j = i) || S j) := fun j o' hj ho' x hx hb => by
    simp only [Bool.or_eq_true, decide_eq_true_eq] at hj ⊢
    by_cases hji : j = i
    · subst hji
      rw [ho] at ho'
      cases ho'
      exact .inr (hr x hx hb)
    · exact .inr (hS j o' (hj.resolve_left hji) ho' x hx hb)
  -- a writer of what is looked at is done just if it stands before
  have hbef : ∀ j oj ej, ops[j]? = some oj → es[j]? = some ej → (j < i → clash ops oj o ej.key e.key = true) → (i < j → clash ops o oj e.key ej.key = true) → S j = decide (j < i) := fun j oj ej h1 h2 h3 h4 => by
    rcases Nat.lt_trichotomy j i with h | h | h
    · have := d.ord hS' h h1 ho h2 he (h3 h) (by simp)
      simp only [Bool.or_eq_true, decide_eq_true_eq] at this
      rw [this.resolve_left (by omega)]
      simp [h]
    · subst h
      rw [hi]; simp
    · rw [decide_eq_false (by omega)]
      cases hSj : S j with
      | false => rfl
      | true =>
        have := d.ord hS h ho h1 he h2 (h4 h) hSj
        rw [hi] at this; cases this
  have hil : i ≤ es.length := Nat.le_of_lt (List.getElem?_eq_some_iff.1 he).1
  refine ⟨I.rel, ?_, fun t ht => ?_, fun b hb => ?_⟩
  · rw [st_tm_length]; simp [tmS]
  · have e1 := foldS_text (es.map fun e => e.tmW s.tm.length) (fun i t => lget (st s es i).tm t) (fun i f h l => d.tmT i f h l) t i (by simpa using hil)
    rw [tmS_get]
    refine Eq.trans (foldS_congr _ _ _ _ (fun j f hj hl => ?_) rfl) e1
    rw [List.getElem?_map] at hj
    cases hej : es[j]? with
    | none => rw [hej] at hj; cases hj
    | some ej =>
      rw [hej] at hj
      cases hj
      obtain ⟨oj, hoj, hok⟩ := d.op hej
      have hd := tmW_dst hl
      rw [hok.dst] at hd
      rw [Nat.zero_add]
      refine hbef j oj ej hoj hej (fun _ => ?_) (fun _ => ?_)
      · unfold clash
        rw [hd]
        simp [ht]
      · unfold clash
        rw [hd]
        simp [ht]
  · have e1 := foldS_text (es.map Eff.hpW) (fun i b => (st s es i).hp.getD b .none) (fun i f h l => d.hpT i f h l) b i (by simpa using hil)
    rw [d.hpS_get]
    refine Eq.trans (foldS_congr _ _ _ _ (fun j f hj hl => ?_) rfl) e1
    rw [List.getElem?_map] at hj
    cases hej : es[j]? with
    | none => rw [hej] at hj; cases hj
    | some ej =>
      rw [hej] at hj
      cases hj
      obtain ⟨oj, hoj, hok⟩ := d.op hej
      have hk := hpW_key hl
      rw [Nat.zero_add]
      have hb' : b ∈ e.key.1 := by simpa [Eff.key] using hb
      refine hbef j oj ej hoj hej (fun _ => ?_) (fun _ => ?_)
      · unfold clash
        have : ej.key.2.any (fun b => e.key.1.contains b || e.key.2.contains b) = true := List.any_eq_true.2 ⟨b, hk, by simp [hb']⟩
        rw [this]; simp
      · unfold clash
        have : ej.key.2.any (fun b => e.key.1.contains b) = true := List.any_eq_true.2 ⟨b, hk, by simp [hb']⟩
        rw [this]; simp

/-- One more is done. -/
theorem Draw.step (hC : C.Ok) (d : Draw C ops s es) {S S' : Nat → Bool} {i : Nat} {o : Oper} (ho : ops[i]? = some o) (hS : Closed ops S) (hS'c : Closed ops S') (hi : S i = false) (hS' : ∀ j, S' j = (decide (j = i) || S j)) (hr : ∀ x ∈ o.after, Region.binds .any x = true → S x.on = true) {a : Act} {w : World} {Im : Nat → Prop} {ι : Nat → Option Value} (I : DInv C E B s es S a w Im ι)
    {next : Act → World → Prop} {Q : Exit → Act → World → Prop} (hK : ∀ a' w' Im' ι', DInv C E B s es S' a' w' Im' ι' → next a' w') : wpOp C.P ops Q i next a w := by
  obtain ⟨e, he, hok⟩ := d.eff ho
  have hsch := d.sched ho he hS hi hr I
  have hfresh : ∀ b, e.base ≤ b → b < e.base + e.news.length → ι b = none := I.fresh i e he hi
  -- later writers of the same aren't done
  have hww : ∀ j oj ej, ops[j]? = some oj → es[j]? = some ej → i < j → clash ops o oj e.key ej.key = true → S j = false := fun j oj ej h1 h2 h3 h4 => by
    cases hSj : S j with
    | false => rfl
    | true =>
      have := d.ord hS h3 ho h1 he h2 h4 hSj
      rw [hi] at this; cases this
  have htm : ∀ t, lget (tmS s es S') t = (e.tmW s.tm.length t).getD (lget (tmS s es S) t) := fun t => by
    rw [tmS_get, tmS_get]
    refine foldS_insert (k := i) hi hS' _ 0 _ (e.tmW s.tm.length) (Nat.zero_le _) (by rw [List.getElem?_map, Nat.sub_zero, he]; rfl) fun j f hj hlt h1 h2 => ?_
    rw [Nat.zero_add] at hlt ⊢
    rw [List.getElem?_map] at hj
    cases hej : es[j]? with
    | none => rw [hej] at hj; cases hj
    | some ej =>
      rw [hej] at hj
      cases hj
      obtain ⟨oj, hoj, hokj⟩ := d.op hej
      have hd := tmW_dst h1
      have hd' := tmW_dst h2
      rw [hokj.dst] at hd
      rw [hok.dst] at hd'
      refine hww j oj ej hoj hej hlt ?_
      unfold clash
      rw [hd, hd']
      simp
  have hhp : ∀ b, (hpS s es S').getD b .none = (e.hpW b).getD ((hpS s es S).getD b .none) := fun b => by
    rw [d.hpS_get, d.hpS_get]
    refine foldS_insert (k := i) hi hS' _ 0 _ e.hpW (Nat.zero_le _) (by rw [List.getElem?_map, Nat.sub_zero, he]; rfl) fun j f hj hlt h1 h2 => ?_
    rw [Nat.zero_add] at hlt ⊢
    rw [List.getElem?_map] at hj
    cases hej : es[j]? with
    | none => rw [hej] at hj; cases hj
    | some ej =>
      rw [hej] at hj
      cases hj
      obtain ⟨oj, hoj, hokj⟩ := d.op hej
      refine hww j oj ej hoj hej hlt ?_
      unfold clash
      have : e.key.2.any (fun b => ej.key.1.contains b || ej.key.2.contains b) = true := List.any_eq_true.2 ⟨b, hpW_key h2, by simp [hpW_key h1]⟩
      rw [this]; simp
  have hdoes := hok.does E Im ι w a _ _ hsch hfresh (hpS s es S') hhp next Q fun a' w' Im' ι' hrel hι hl => hK a' w' Im' ι' ⟨?_, ?_, ?_, I.later.step hl (Nat.le_refl _) fun b hb => hι b fun h => ?_⟩
  · unfold wpOp
    rw [ho]
    rcases hdoes with ⟨h1, h2⟩ | ⟨h1, h2⟩
    · simp only [h1, if_true]; exact .inl h2
    · simp only [h1, Bool.false_eq_true, if_false]; exact h2
  · refine hrel.congr ?_ (fun t => ?_) (fun b => ?_)
    · unfold AS.put
      split <;> simp [length_lset, tmS]
    · rw [put_lget, htm]
      simp [tmS]
    · unfold AS.put
      split <;> rfl
  · intro j ej hej hSj b h1 h2
    rw [hS', Bool.or_eq_false_iff, decide_eq_false_iff_not] at hSj
    have h3 := I.fresh j ej hej hSj.2 b h1 h2
    rw [hι b ?_]
    · exact h3
    · rintro ⟨h4, h5⟩
      obtain ⟨g1, g2⟩ := d.lenS he
      obtain ⟨g3, g4⟩ := d.lenS hej
      have k1 := (List.getElem?_eq_some_iff.1 he).1
      have k2 := (List.getElem?_eq_some_iff.1 hej).1
      rcases Nat.lt_or_gt_of_ne hSj.1 with h | h
      · have := d.lenM i (j + 1) h (by omega)
        omega
      · have := d.lenM j (i + 1) h (by omega)
        omega
  · intro b hb
    rw [hι b ?_]
    · exact I.past b hb
    · rintro ⟨h4, h5⟩
      obtain ⟨g1, g2⟩ := d.lenS he
      have := d.lenM es.length (i + 1) (List.getElem?_eq_some_iff.1 he).1 (Nat.le_refl _)
      omega

  · have g := d.lenM i 0 (Nat.zero_le _) (Nat.le_of_lt (List.getElem?_eq_some_iff.1 he).1)
    have g2 := (d.lenS he).2
    rw [st_zero] at g
    omega

theorem Draw.any (hC : C.Ok) (d : Draw C ops s es) {Q : Exit → Act → World → Prop} (hQ : ∀ a w, RelF C E B (st s es es.length) a w → Q .normal a w) : ∀ (fuel : Nat) (listed : Array Bool) (a : Act) (w : World) (Im : Nat → Prop) (ι : Nat → Option Value),
    listed.size = ops.size → Closed ops (lst listed) → undone ops.size (lst listed) ≤ fuel → DInv C E B s es (lst listed) a w Im ι → wpAny C.P .any ops Q fuel listed a w := by
  have hall : ∀ (S : Nat → Bool), (∀ j, j < ops.size → S j = true) → ∀ a w Im ι, DInv C E B s es S a w Im ι → Q .normal a w := fun S hS a w Im ι I => by
    refine hQ a w ⟨Im, ι, I.rel.congr ?_ (fun t => ?_) (fun b => ?_), I.past, I.later.len (by have := d.lenM es.length 0 (Nat.zero_le _) (Nat.le_refl _); rwa [st_zero] at this)⟩
    · rw [st_tm_length]; simp [tmS]
    · rw [tmS_get]
      have e1 := foldS_text (es.map fun e => e.tmW s.tm.length) (fun i t => lget (st s es i).tm t) (fun i f h l => d.tmT i f h l) t es.length (by simp)
      refine Eq.trans e1.symm (foldS_congr _ _ _ _ (fun j f hj hl => ?_) rfl)
      have hlt : j < es.length := by simpa using (List.getElem?_eq_some_iff.1 hj).1
      rw [Nat.zero_add, hS j (by rw [← d.len]; exact hlt)]
      simp [hlt]
    · rw [d.hpS_get]
      have e1 := foldS_text (es.map Eff.hpW) (fun i b => (st s es i).hp.getD b .none) (fun i f h l => d.hpT i f h l) b es.length (by simp)
      refine Eq.trans e1.symm (foldS_congr _ _ _ _ (fun j f hj hl => ?_) rfl)
      have hlt : j < es.length := by simpa using (List.getElem?_eq_some_iff.1 hj).1
      rw [Nat.zero_add, hS j (by rw [← d.len]; exact hlt)]
      simp [hlt]
  intro fuel
  induction fuel with
  | zero =>
    intro listed a w Im ι hsz hcl hun I
    have hS := undone_zero (Nat.le_zero.1 hun)
    refine ⟨?_, hall _ hS a w Im ι I⟩
    cases hr : Region.ready .any ops listed with
    | nil => rfl
    | cons i l =>
      have hi : i ∈ Region.ready .any ops listed := by rw [hr]; simp
      obtain ⟨h1, o, ho, _⟩ := mem_ready.1 hi
      have hlt := (Array.getElem?_eq_some_iff.1 ho).1
      rw [getD_true_false (by omega)] at h1
      have := hS i hlt
      unfold lst at this
      rw [h1] at this; cases this
  | succ fuel ih =>
    intro listed a w Im ι hsz hcl hun I
    refine ⟨fun hr => hall _ (fun j hj => ?_) a w Im ι I, fun i hi => ?_⟩
    · induction j using Nat.strongRecOn with
      | _ j ihj =>
        cases hSj : lst listed j with
        | true => rfl
        | false =>
          have ho : ops[j]? = some ops[j] := Array.getElem?_eq_getElem hj
          have : j ∈ Region.ready .any ops listed := mem_ready.2 ⟨by rw [getD_true_false (by omega)]; exact hSj, _, ho, fun e he hb => by
            have hlt := d.down ho he hb
            exact ihj e.on hlt (by omega)⟩
          rw [hr] at this
          cases this
    · obtain ⟨h1, o, ho, h2⟩ := mem_ready.1 hi
      have hlt := (Array.getElem?_eq_some_iff.1 ho).1
      rw [getD_true_false (by omega)] at h1
      have hS' := lst_set (listed := listed) (i := i) (by omega)
      have hcl' : Closed ops (lst (listed.setIfInBounds i true)) := fun j o' hj ho' x hx hb => by
        rw [hS'] at hj ⊢
        simp only [Bool.or_eq_true, decide_eq_true_eq] at hj ⊢
        by_cases hji : j = i
        · subst hji
          rw [ho] at ho'
          cases ho'
          exact .inr (h2 x hx hb)
        · exact .inr (hcl j o' (hj.resolve_left hji) ho' x hx hb)
      refine d.step hC ho hcl hcl' h1 hS' h2 I fun a' w' Im' ι' I' => ih _ a' w' Im' ι' (by simpa using hsz) hcl' ?_ I'
      have := undone_insert hS' h1 ops.size hlt
      omega

theorem draw_sound (hC : C.Ok) (hm : C.P.follows .mixedOrders = true) {id : Nat} {a : Act} {w : World} {K : AS → Prop} {Q : Exit → Act → World → Prop} (hQ : ∀ s a w, K s → RelF C E B s a w → Q .normal a w) (hR : RelF C E B s a w) (h : drawVC C ops s K) :
    (Code.region id ops true).wp C.P Q a w := by
  obtain ⟨es, h1, h2, h3, h4⟩ := drGo_trace hC ops.toList s [] h
  have d : Draw C ops s es := ⟨by simpa using h1, fun i o e ho he => h2 i o e (by simpa using ho) he, by simpa using h3⟩
  obtain ⟨Im, ι, hR, hF, hB⟩ := hR
  refine wp_region_any hm ?_
  have hl0 : ∀ j, lst (Array.replicate ops.size false) j = false := fun j => by
    unfold lst
    by_cases hj : j < ops.size
    · simp [hj]
    · simp [hj]
  have hg : w.grownBy { w with drawn := w.drawn + 1 } none := ⟨rfl, rfl, rfl, Nat.le_refl _, fun _ _ _ => rfl⟩
  have hl : Later Im ι w Im ι { w with drawn := w.drawn + 1 } := later_grown hg hR.mem.mr.imlt (fun k h => by cases h) (fun _ h => h) (fun _ _ h => h)
  have hlen0 := d.lenM es.length 0 (Nat.zero_le _) (Nat.le_refl _)
  rw [st_zero] at hlen0
  have hR' : Rel C E s Im ι a { w with drawn := w.drawn + 1 } := by
    refine ⟨hR.defers, hR.size, fun t => VRel.mono hl _ _ (hR.tm t), ?_⟩
    exact (Mem.step s.hp.length hR.mem hg (fun k h => by cases h) (fun _ h => h) (fun _ h => .inl h) (fun _ _ h => h) (fun b hb => ⟨rfl, .inl rfl⟩) fun v hv => by
      rw [hF _ (Nat.le_refl _)] at hv; cases hv).1
  refine d.any hC (fun a w r => hQ _ a w h4 r) ops.size _ a _ Im ι (by simp) (fun j o hj => by rw [hl0] at hj; cases hj) ?_ ⟨hR'.congr ?_ (fun t => ?_) (fun b => ?_), fun j e he _ b h5 h6 => hF b ?_, fun b hb => hF b (by omega), hB.step hl (Nat.le_refl _) fun _ _ => rfl⟩
  · unfold undone
    refine Nat.le_trans (List.length_filter_le _ _) ?_
    simp
  · simp [tmS]
  · rw [tmS_get, foldS_none _ _ _ fun j f _ _ => hl0 _]
  · rw [d.hpS_get, foldS_none _ _ _ fun j f _ _ => hl0 _]
  · obtain ⟨g1, g2⟩ := d.lenS he
    have := d.lenM j 0 (Nat.zero_le _) (Nat.le_of_lt (List.getElem?_eq_some_iff.1 he).1)
    rw [st_zero] at this
    omega
end
end Go.Avc

/-
  AVC, part T: code.
-/
namespace Go.Avc
set_option linter.unusedVariables false
set_option linter.unusedSimpArgs false

def thenQ (K : AS → Prop) (Q : Exit → AS → Prop) : Exit → AS → Prop
  | .normal, s => K s
  | e, s => Q e s
def inBlockQ (id : Nat) (Q : Exit → AS → Prop) : Exit → AS → Prop
  | .exit id', s => if id' = id then Q .normal s else Q (.exit id') s
  | e, s => Q e s
/-- Slots that nothing more is said of. -/
def killT : List Bool → List SV → List SV
  | true :: ks, _ :: l => .dead :: killT ks l
  | false :: ks, x :: l => x :: killT ks l
  | _, l => l
def AS.kill (s : AS) (ks : List Bool) : AS := ⟨killT ks s.tm, s.hp⟩

/-- A branch by the condition's value. -/
def onCond (v : SV) (x y : Prop) : Prop :=
  match v with
  | .bool b => (b = true → x) ∧ (b = false → y)
  | _ => False
section
variable (C : Ctx)
def evC : Code → AS → (Exit → AS → Prop) → Prop
  | .skip, s, Q => Q .normal s
  | .label _, s, Q => Q .normal s
  | .region _ ops draw, s, Q => (match draw with | true => drawVC C ops s (fun s' => Q .normal s') | false => opsVC C ops ops.toList s (fun s' => Q .normal s'))
  | .seq x y, s, Q => evC x s (thenQ (fun s' => evC y s' Q) Q)
  | .cond c x y, s, Q => onCond (s.ev C.glob c) (evC x s Q) (evC y s Q)
  | .block id c, s, Q => evC c s (inBlockQ id Q)
  | .loop c, s, Q => ∃ (ks : List Bool) (I : Nat → AS → Prop), (∃ n, I n (s.kill ks)) ∧ ∀ n s', I n s' → evC c s' (thenQ (fun s'' => ∃ m, m < n ∧ I m (s''.kill ks)) Q)
  | .exit id, s, Q => Q (.exit id) s
  | .goto l, s, Q => Q (.goto l) s
  | .ret, s, Q => Q .ret s
  | _, _, _ => False
end

section
variable {C : Ctx} {E B : Ent}
theorem lget_kill : ∀ (ks : List Bool) (l : List SV) (t : Nat), lget (killT ks l) t = lget l t ∨ lget (killT ks l) t = .dead
  | [], l, t => .inl rfl
  | true :: ks, [], t => .inl rfl
  | false :: ks, [], t => .inl rfl
  | true :: ks, x :: l, 0 => .inr rfl
  | false :: ks, x :: l, 0 => .inl rfl
  | true :: ks, x :: l, t + 1 => lget_kill ks l t
  | false :: ks, x :: l, t + 1 => lget_kill ks l t
theorem length_kill : ∀ (ks : List Bool) (l : List SV), (killT ks l).length = l.length
  | [], l => rfl
  | true :: ks, [] => rfl
  | false :: ks, [] => rfl
  | true :: ks, x :: l => by simp [killT, length_kill ks l]
  | false :: ks, x :: l => by simp [killT, length_kill ks l]
theorem RelF.kill {s : AS} {a : Act} {w : World} (h : RelF C E B s a w) (ks : List Bool) : RelF C E B (s.kill ks) a w := by
  obtain ⟨Im, ι, hR, hF, hB⟩ := h
  refine ⟨Im, ι, ⟨hR.defers, hR.size.trans (length_kill ks s.tm).symm, fun t => ?_, hR.mem⟩, hF, hB⟩
  show VRel Im ι w (lget (killT ks s.tm) t) _
  rcases lget_kill ks s.tm t with h | h
  · rw [h]; exact hR.tm t
  · rw [h]; trivial

theorem least {p : Nat → Prop} : ∀ n, p n → ∃ m, p m ∧ ∀ k, p k → m ≤ k := by
  intro n
  induction n using Nat.strongRecOn with
  | _ n ih =>
    intro h
    by_cases hx : ∃ k, k < n ∧ p k
    · obtain ⟨k, h1, h2⟩ := hx
      exact ih k h1 h2
    · exact ⟨n, h, fun k hk => Nat.le_of_not_lt fun h' => hx ⟨k, h', hk⟩⟩
open Classical in
noncomputable def leastOf (p : Nat → Prop) : Nat := if h : ∃ m, p m ∧ ∀ k, p k → m ≤ k then Classical.choose h else 0
theorem leastOf_spec {p : Nat → Prop} {n : Nat} (h : p n) : p (leastOf p) ∧ ∀ k, p k → leastOf p ≤ k := by
  have hx := least n h
  unfold leastOf
  rw [dif_pos hx]
  exact Classical.choose_spec hx

theorem ev_sound (hC : C.Ok) : ∀ (c : Code) (s : AS) (Q' : Exit → AS → Prop) (Q : Exit → Act → World → Prop) (a : Act) (w : World), RelF C E B s a w → evC C c s Q' → (∀ e s a w, Q' e s → RelF C E B s a w → Q e a w) → c.wp C.P Q a w
  | .skip, s, Q', Q, a, w, hR, h, hQ => wp_skip (hQ _ _ _ _ h hR)
  | .label _, s, Q', Q, a, w, hR, h, hQ => wp_label (hQ _ _ _ _ h hR)
  | .region id ops draw, s, Q', Q, a, w, hR, h, hQ => by
    cases draw with
    | true => exact draw_sound hC hC.mixed (K := fun s' => Q' .normal s') (fun s a w k r => hQ _ _ _ _ k r) hR h
    | false => exact region_sound hC (K := fun s' => Q' .normal s') (fun s a w k r => hQ _ _ _ _ k r) hR h
  | .seq x y, s, Q', Q, a, w, hR, h, hQ => by
    refine wp_seq (ev_sound hC x s _ _ a w hR h fun e s a w k r => ?_)
    cases e with
    | normal => exact ev_sound hC y s Q' Q a w r k hQ
    | exit id => exact hQ _ _ _ _ k r
    | goto l => exact hQ _ _ _ _ k r
    | ret => exact hQ _ _ _ _ k r
    | panic c => exact hQ _ _ _ _ k r
    | outgrown => exact hQ _ _ _ _ k r
  | .cond c x y, s, Q', Q, a, w, hR, h, hQ => by
    simp only [evC, onCond] at h
    split at h
    · rename_i b hb
      obtain ⟨Im, ι, hR', hF, hB⟩ := hR
      have hv := ev_rel (hp := s.hp) hR'.tm hR'.mem.glob c
      have e1 : AS.ev C.glob ⟨s.tm, s.hp⟩ c = s.ev C.glob c := rfl
      rw [e1, hb] at hv
      have hv' : a.eval c = .bool b := hv
      exact wp_cond_split hv' (fun ht => ev_sound hC x s Q' Q a w ⟨Im, ι, hR', hF, hB⟩ (h.1 ht) hQ) (fun hf => ev_sound hC y s Q' Q a w ⟨Im, ι, hR', hF, hB⟩ (h.2 hf) hQ)
    · exact h.elim
  | .block id c, s, Q', Q, a, w, hR, h, hQ => by
    refine wp_block (ev_sound hC c s _ _ a w hR h fun e s a w k r => ?_)
    cases e with
    | exit id' =>
      simp only [inBlockQ] at k
      simp only [Exit.inBlock]
      split at k
      · rename_i hid; rw [if_pos hid]; exact hQ _ _ _ _ k r
      · rename_i hid; rw [if_neg hid]; exact hQ _ _ _ _ k r
    | normal => exact hQ _ _ _ _ k r
    | goto l => exact hQ _ _ _ _ k r
    | ret => exact hQ _ _ _ _ k r
    | panic c => exact hQ _ _ _ _ k r
    | outgrown => exact hQ _ _ _ _ k r
  | .loop c, s, Q', Q, a, w, hR, h, hQ => by
    obtain ⟨ks, I, ⟨n, h0⟩, hround⟩ := h
    refine wp_loop (fun a w => ∃ n s, I n s ∧ RelF C E B s a w) (fun a w => leastOf fun n => ∃ s, I n s ∧ RelF C E B s a w) ⟨n, _, h0, hR.kill ks⟩ fun a w hI => ?_
    obtain ⟨n, hn⟩ := hI
    obtain ⟨⟨s', h1, h2⟩, hmin⟩ := leastOf_spec (p := fun n => ∃ s, I n s ∧ RelF C E B s a w) hn
    refine ev_sound hC c s' _ _ a w h2 (hround _ s' h1) fun e s a' w' k r => ?_
    cases e with
    | normal =>
      obtain ⟨m, hm, hI⟩ := k
      refine ⟨⟨m, _, hI, r.kill ks⟩, Nat.lt_of_le_of_lt ?_ hm⟩
      exact (leastOf_spec (p := fun n => ∃ s, I n s ∧ RelF C E B s a' w') ⟨_, hI, r.kill ks⟩).2 m ⟨_, hI, r.kill ks⟩
    | exit id => exact hQ _ _ _ _ k r
    | goto l => exact hQ _ _ _ _ k r
    | ret => exact hQ _ _ _ _ k r
    | panic c => exact hQ _ _ _ _ k r
    | outgrown => exact hQ _ _ _ _ k r
  | .exit id, s, Q', Q, a, w, hR, h, hQ => wp_exit (hQ _ _ _ _ h hR)
  | .goto l, s, Q', Q, a, w, hR, h, hQ => wp_goto (hQ _ _ _ _ h hR)
  | .ret, s, Q', Q, a, w, hR, h, hQ => wp_ret (hQ _ _ _ _ h hR)
  | .rangeFunc .., _, _, _, _, _, _, h, _ => h.elim
  | .scope _, _, _, _, _, _, _, h, _ => h.elim
end
end Go.Avc
