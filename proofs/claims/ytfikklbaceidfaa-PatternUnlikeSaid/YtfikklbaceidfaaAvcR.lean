/-
  AVC, part R: a region whose order isn't given: its rule.
-/
import Derived.Test.YtfikklbaceidfaaAvcQ
namespace Go.Avc
set_option linter.unusedVariables false
set_option linter.unusedSimpArgs false
section
variable {C : Ctx} {E B : Ent}

def st (s : AS) (es : List Eff) (i : Nat) : AS := (es.take i).foldl AS.app s
theorem st_zero (s : AS) (es : List Eff) : st s es 0 = s := rfl
theorem st_succ (s : AS) (es : List Eff) (i : Nat) (e : Eff) (h : es[i]? = some e) : st s es (i + 1) = (st s es i).app e := by
  unfold st
  rw [List.take_add_one, h]
  simp
theorem st_cons (s : AS) (e : Eff) (es : List Eff) (i : Nat) : st s (e :: es) (i + 1) = st (s.app e) es i := rfl

theorem drGo_trace (hC : C.Ok) {all : Array Oper} {K : AS → List (List Nat × List Nat) → Prop} : ∀ (l : List Oper) (s : AS) (ks : List (List Nat × List Nat)), drGo C all l s ks K →
    ∃ es : List Eff, es.length = l.length ∧ (∀ i o e, l[i]? = some o → es[i]? = some e → EffOk C all o (st s es i) e) ∧ K (st s es es.length) (ks ++ es.map Eff.key)
  | [], s, ks, h => ⟨[], rfl, fun i o e ho => by simp at ho, by
    have h' : K s ks := h
    simpa [st] using h'⟩
  | o :: l, s, ks, h => by
    have h' : guardVC all o s
        (drOR C o (accs C.glob s o.op) s (fun e => drGo C all l (s.app e) (ks ++ [e.key]) K) (evOp C.P C.zero (s.ev C.glob) (maskH (accs C.glob s o.op) 0 s.hp) o.op))
        ((fun e => drGo C all l (s.app e) (ks ++ [e.key]) K) ⟨o.dst, .undef, [], [], s.hp.length, []⟩) := by
      have e1 : drGo C all l (s.app ⟨o.dst, .undef, [], [], s.hp.length, []⟩) (ks ++ [Eff.key ⟨o.dst, .undef, [], [], s.hp.length, []⟩]) K = drGo C all l (s.put o.dst .undef) (ks ++ [([], [])]) K := by
        simp [AS.app, updAll, Eff.key, rangeFrom]
      show guardVC all o s _ (drGo C all l (s.app ⟨o.dst, .undef, [], [], s.hp.length, []⟩) (ks ++ [Eff.key ⟨o.dst, .undef, [], [], s.hp.length, []⟩]) K)
      rw [e1]
      exact guardS_imp h
    obtain ⟨e, he, hk⟩ := drStep hC h'
    obtain ⟨es, h1, h2, h3⟩ := drGo_trace hC l _ _ hk
    refine ⟨e :: es, by simp [h1], fun i o' e' ho he' => ?_, ?_⟩
    · cases i with
      | zero =>
        simp only [List.getElem?_cons_zero, Option.some.injEq] at ho he'
        subst ho he'
        exact he
      | succ i => exact h2 i o' e' (by simpa using ho) (by simpa using he')
    · have : ks ++ (e :: es).map Eff.key = ks ++ [e.key] ++ es.map Eff.key := by simp
      rw [this]
      exact h3

theorem Rel.congr {s s' : AS} {Im : Nat → Prop} {ι : Nat → Option Value} {a : Act} {w : World} (h : Rel C E s Im ι a w) (hl : s'.tm.length = s.tm.length) (ht : ∀ t, lget s'.tm t = lget s.tm t) (hh : ∀ b, s'.hp.getD b .none = s.hp.getD b .none) : Rel C E s' Im ι a w :=
  ⟨h.defers, h.size.trans hl.symm, fun t => by rw [ht]; exact h.tm t, h.mem.congr hh⟩
theorem lget_map_range {n : Nat} {f : Nat → SV} {t : Nat} : lget ((List.range n).map f) t = if t < n then f t else .dead := by
  have key : ∀ (l : List SV) (t : Nat), lget l t = l[t]?.getD .dead := by
    intro l
    induction l with
    | nil => intro t; rfl
    | cons x l ih => intro t; cases t with
      | zero => rfl
      | succ t => simpa [lget] using ih t
  rw [key, List.getElem?_map]
  by_cases h : t < n
  · rw [List.getElem?_range h, if_pos h]; rfl
  · rw [List.getElem?_eq_none (by simpa using h), if_neg h]; rfl
theorem getD_map_range {n : Nat} {f : Nat → Blk} {b : Nat} : ((List.range n).map f).getD b .none = if b < n then f b else .none := by
  rw [List.getD_eq_getElem?_getD, List.getElem?_map]
  by_cases h : b < n
  · rw [List.getElem?_range h, if_pos h]; rfl
  · rw [List.getElem?_eq_none (by simpa using h), if_neg h]; rfl
theorem rangeFrom_mem : ∀ (l : List Blk) (n b : Nat), n ≤ b → b < n + l.length → b ∈ rangeFrom n l
  | [], n, b, h1, h2 => by simp at h2; omega
  | x :: l, n, b, h1, h2 => by
    simp only [rangeFrom, List.mem_cons]
    by_cases h : b = n
    · exact .inl h
    · exact .inr (rangeFrom_mem l (n + 1) b (by omega) (by simp at h2; omega))
theorem updW_mem : ∀ (l : List (Nat × Blk)) (b : Nat), updW l b ≠ none → b ∈ l.map (·.1)
  | [], b, h => absurd rfl h
  | (c, x) :: l, b, h => by
    simp only [updW] at h
    cases hu : updW l b with
    | some y => exact List.mem_cons_of_mem _ (updW_mem l b (by rw [hu]; simp))
    | none =>
      rw [hu] at h
      by_cases hc : c = b
      · subst hc; simp
      · simp [hc] at h
theorem hpW_key {e : Eff} {b : Nat} (h : e.hpW b ≠ none) : b ∈ e.key.2 := by
  unfold Eff.hpW at h
  unfold Eff.key
  split at h
  · rename_i hb
    refine List.mem_append_right _ (rangeFrom_mem _ _ _ hb ?_)
    rcases Nat.lt_or_ge b (e.base + e.news.length) with h' | h'
    · exact h'
    · exact absurd (List.getElem?_eq_none (by omega)) h
  · exact List.mem_append_left _ (updW_mem _ _ h)
theorem tmW_dst {e : Eff} {n t : Nat} (h : e.tmW n t ≠ none) : e.dst = some t := by
  unfold Eff.tmW at h
  split at h
  · assumption
  · exact absurd rfl h

/-- What the trace gives, and the check. -/
structure Draw (C : Ctx) (ops : Array Oper) (s : AS) (es : List Eff) : Prop where
  len : es.length = ops.size
  ok : ∀ i o e, ops[i]? = some o → es[i]? = some e → EffOk C ops o (st s es i) e
  conf : confOk ops (es.map Eff.key) = true

section
variable {ops : Array Oper} {s : AS} {es : List Eff}
theorem Draw.ord (d : Draw C ops s es) {S : Nat → Bool} (hS : Closed ops S) {i j : Nat} {oi oj : Oper} {ei ej : Eff} (hij : i < j) (h1 : ops[i]? = some oi) (h2 : ops[j]? = some oj) (h3 : es[i]? = some ei) (h4 : es[j]? = some ej)
    (hc : clash ops oi oj ei.key ej.key = true) (hj : S j = true) : S i = true := by
  have hconf := d.conf
  unfold confOk pairsOk at hconf
  rw [Bool.and_eq_true, List.all_eq_true] at hconf
  have hjn : j < ops.size := (Array.getElem?_eq_some_iff.1 h2).1
  have h5 := hconf.2 j (List.mem_range.2 hjn)
  rw [List.all_eq_true] at h5
  have h6 := h5 i (List.mem_range.2 hij)
  simp only [h1, h2, List.getElem?_map, h3, h4, Option.map_some, hc, Bool.not_true, Bool.false_or] at h6
  exact ancs_ok hS ops.toList [] rfl (fun j i hb => by simp at hb) j i h6 hj
theorem Draw.down (d : Draw C ops s es) {j : Nat} {o : Oper} (h : ops[j]? = some o) {e : Edge} (he : e ∈ o.after) (hb : Region.binds .any e = true) : e.on < j := by
  have hconf := d.conf
  unfold confOk edgesDown at hconf
  rw [Bool.and_eq_true, List.all_eq_true] at hconf
  have h5 := hconf.1 j (List.mem_range.2 (Array.getElem?_eq_some_iff.1 h).1)
  simp only [h] at h5
  rw [List.all_eq_true] at h5
  have h6 := h5 e (by simpa using he)
  rw [hb] at h6
  simpa using h6
theorem Draw.eff (d : Draw C ops s es) {i : Nat} {o : Oper} (h : ops[i]? = some o) : ∃ e, es[i]? = some e ∧ EffOk C ops o (st s es i) e := by
  have hlt : i < es.length := by rw [d.len]; exact (Array.getElem?_eq_some_iff.1 h).1
  exact ⟨es[i], List.getElem?_eq_getElem hlt, d.ok i o _ h (List.getElem?_eq_getElem hlt)⟩
theorem Draw.op (d : Draw C ops s es) {i : Nat} {e : Eff} (h : es[i]? = some e) : ∃ o, ops[i]? = some o ∧ EffOk C ops o (st s es i) e := by
  have hlt : i < ops.size := by rw [← d.len]; exact (List.getElem?_eq_some_iff.1 h).1
  exact ⟨ops[i], Array.getElem?_eq_getElem hlt, d.ok i _ e (Array.getElem?_eq_getElem hlt) h⟩
theorem app_tm_length (s : AS) (e : Eff) : (s.app e).tm.length = s.tm.length := by
  unfold AS.app AS.put
  split <;> simp [length_lset]
theorem app_hp (s : AS) (e : Eff) : (s.app e).hp = updAll s.hp e.upd ++ e.news := by
  unfold AS.app AS.put
  split <;> rfl
theorem put_lget (tm : List SV) (hp : List Blk) (e : Eff) (t : Nat) : lget ((⟨tm, hp⟩ : AS).put e.dst e.sv).tm t = (e.tmW tm.length t).getD (lget tm t) := by
  unfold AS.put Eff.tmW
  cases hd : e.dst with
  | none => simp
  | some d =>
    simp only [Option.some.injEq]
    by_cases h : d = t
    · subst h
      rw [if_pos rfl]
      by_cases hl : d < tm.length
      · rw [if_pos hl, lget_lset_same _ _ _ hl]; rfl
      · rw [if_neg hl, lget_out (lset tm d e.sv) d (by rw [length_lset]; exact Nat.le_of_not_lt hl), lget_out tm d (Nat.le_of_not_lt hl)]; rfl
    · rw [if_neg h, lget_lset_other _ _ _ _ h]; rfl
theorem st_tm_length (s : AS) (es : List Eff) : ∀ i, (st s es i).tm.length = s.tm.length
  | 0 => rfl
  | i + 1 => by
    cases h : es[i]? with
    | none =>
      have : st s es (i + 1) = st s es i := by
        unfold st
        rw [List.take_add_one, h]; simp
      rw [this]; exact st_tm_length s es i
    | some e => rw [st_succ s es i e h, app_tm_length]; exact st_tm_length s es i
theorem Draw.tmT (d : Draw C ops s es) (i : Nat) (f : Nat → Option SV) (h : (es.map fun e => e.tmW s.tm.length)[i]? = some f) (t : Nat) : lget (st s es (i + 1)).tm t = (f t).getD (lget (st s es i).tm t) := by
  rw [List.getElem?_map] at h
  cases he : es[i]? with
  | none => rw [he] at h; cases h
  | some e =>
    rw [he] at h
    cases h
    rw [st_succ s es i e he]
    have := put_lget (st s es i).tm (updAll (st s es i).hp e.upd ++ e.news) e t
    rw [st_tm_length] at this
    exact this
theorem Draw.hpT (d : Draw C ops s es) (i : Nat) (f : Nat → Option Blk) (h : (es.map Eff.hpW)[i]? = some f) (b : Nat) : (st s es (i + 1)).hp.getD b .none = (f b).getD ((st s es i).hp.getD b .none) := by
  rw [List.getElem?_map] at h
  cases he : es[i]? with
  | none => rw [he] at h; cases h
  | some e =>
    rw [he] at h
    cases h
    obtain ⟨o, _, ho⟩ := d.op he
    rw [st_succ s es i e he, app_hp, app_getD]
    unfold Eff.hpW
    rw [ho.base]
theorem Draw.lenS (d : Draw C ops s es) {i : Nat} {e : Eff} (he : es[i]? = some e) : (st s es (i + 1)).hp.length = (st s es i).hp.length + e.news.length ∧ e.base = (st s es i).hp.length := by
  obtain ⟨o, _, ho⟩ := d.op he
  exact ⟨by rw [st_succ s es i e he, app_hp, List.length_append, length_updAll], ho.base⟩
theorem Draw.lenM (d : Draw C ops s es) : ∀ (j i : Nat), i ≤ j → j ≤ es.length → (st s es i).hp.length ≤ (st s es j).hp.length
  | 0, i, h, _ => by rw [Nat.le_zero.1 h]; exact Nat.le_refl _
  | j + 1, i, h, hj => by
    by_cases he : i = j + 1
    · rw [he]; exact Nat.le_refl _
    · have h1 := d.lenM j i (by omega) (by omega)
      have h2 := (d.lenS (List.getElem?_eq_getElem (show j < es.length from hj))).1
      omega
/-- The slots and the memory, as those of S are done. -/
def tmS (s : AS) (es : List Eff) (S : Nat → Bool) : List SV := (List.range s.tm.length).map (foldS S (es.map fun e => e.tmW s.tm.length) 0 (lget s.tm))
def hpS (s : AS) (es : List Eff) (S : Nat → Bool) : List Blk := (List.range (st s es es.length).hp.length).map (foldS S (es.map Eff.hpW) 0 (fun b => s.hp.getD b .none))
theorem tmS_get (S : Nat → Bool) (t : Nat) : lget (tmS s es S) t = foldS S (es.map fun e => e.tmW s.tm.length) 0 (lget s.tm) t := by
  unfold tmS
  rw [lget_map_range]
  split
  · rfl
  · rename_i h
    rw [foldS_none _ _ _ fun j e hj hl => ?_, lget_out _ _ (by omega)]
    rw [List.getElem?_map] at hj
    cases he : es[j]? with
    | none => rw [he] at hj; cases hj
    | some e' =>
      rw [he] at hj
      cases hj
      refine absurd ?_ hl
      show Eff.tmW e' _ t = none
      unfold Eff.tmW
      rw [if_neg h]
      split <;> rfl
theorem Draw.hpS_get (d : Draw C ops s es) (S : Nat → Bool) (b : Nat) : (hpS s es S).getD b .none = foldS S (es.map Eff.hpW) 0 (fun b => s.hp.getD b .none) b := by
  unfold hpS
  rw [getD_map_range]
  split
  · rfl
  · rename_i h
    have h0 : s.hp.length ≤ b := by
      have := d.lenM es.length 0 (Nat.zero_le _) (Nat.le_refl _)
      rw [st_zero] at this
      omega
    rw [foldS_none _ _ _ fun j e hj hl => ?_, List.getD_eq_getElem?_getD, List.getElem?_eq_none h0]; rfl
    rw [List.getElem?_map] at hj
    cases he : es[j]? with
    | none => rw [he] at hj; cases hj
    | some e' =>
      rw [he] at hj
      cases hj
      refine absurd ?_ hl
      obtain ⟨h1, h2⟩ := d.lenS he
      have h3 := d.lenM es.length (j + 1) (List.getElem?_eq_some_iff.1 he).1 (Nat.le_refl _)
      unfold Eff.hpW
      rw [if_pos (by omega)]
      exact List.getElem?_eq_none (by omega)
end
end
end Go.Avc
