/-
  AVC, part S: a region whose order isn't given, whatever the order.
-/
import Derived.Test.YtfikklbaceidfaaAvcR
namespace Go.Avc
set_option linter.unusedVariables false
set_option linter.unusedSimpArgs false
section
variable {C : Ctx} {E B : Ent} {ops : Array Oper} {s : AS} {es : List Eff}

/-- Those of S are done. -/
structure DInv (C : Ctx) (E B : Ent) (s : AS) (es : List Eff) (S : Nat → Bool) (a : Act) (w : World) (Im : Nat → Prop) (ι : Nat → Option Value) : Prop where
  rel : Rel C E ⟨tmS s es S, hpS s es S⟩ Im ι a w
  fresh : ∀ j e, es[j]? = some e → S j = false → ∀ b, e.base ≤ b → b < e.base + e.news.length → ι b = none
  past : ∀ b, (st s es es.length).hp.length ≤ b → ι b = none
  later : Aft B s.hp.length Im ι w

def lst (listed : Array Bool) (j : Nat) : Bool := listed.getD j false
theorem lst_set {listed : Array Bool} {i : Nat} (hi : i < listed.size) (j : Nat) : lst (listed.setIfInBounds i true) j = (decide (j = i) || lst listed j) := by
  unfold lst
  by_cases h : j = i
  · subst h
    simp [hi]
  · rw [getD_set_ne _ (Ne.symm h)]
    simp [h]
theorem getD_true_false {listed : Array Bool} {j : Nat} (h : j < listed.size) : listed.getD j true = listed.getD j false := by
  simp [h]

/-- The number of those that aren't done. -/
def undone (n : Nat) (S : Nat → Bool) : Nat := ((List.range n).filter fun j => !S j).length
theorem undone_insert {S S' : Nat → Bool} {i : Nat} (hS : ∀ j, S' j = (decide (j = i) || S j)) (h0 : S i = false) : ∀ n, i < n → undone n S' < undone n S
  | 0, h => by omega
  | n + 1, h => by
    have hsplit : ∀ (T : Nat → Bool) (n : Nat), undone (n + 1) T = undone n T + (if T n then 0 else 1) := fun T n => by
      unfold undone
      rw [List.range_succ, List.filter_append, List.length_append]
      cases hT : T n <;> simp [hT]
    have hsub : ∀ m, undone m S' ≤ undone m S := fun m => by
      induction m with
      | zero => exact Nat.le_refl _
      | succ m ih =>
        rw [hsplit, hsplit, hS]
        by_cases hm : m = i
        · subst hm; simp [h0]; omega
        · simp [hm]; omega
    rw [hsplit, hsplit]
    by_cases hin : i = n
    · subst hin
      have h1 : S' i = true := by rw [hS]; simp
      rw [h1, h0]
      have := hsub i
      simp; omega
    · have h1 : S' n = S n := by rw [hS, decide_eq_false (Ne.symm hin)]; rfl
      rw [h1]
      have := undone_insert hS h0 n (by omega)
      omega
theorem undone_zero {S : Nat → Bool} {n : Nat} (h : undone n S = 0) : ∀ j, j < n → S j = true := fun j hj => by
  unfold undone at h
  rw [List.length_eq_zero_iff, List.filter_eq_nil_iff] at h
  have := h j (List.mem_range.2 hj)
  simpa using this

/-- An operation that may be done now meets the trace's state where it looks. -/
theorem Draw.sched (d : Draw C ops s es) {S : Nat → Bool} {i : Nat} {o : Oper} {e : Eff} (ho : ops[i]? = some o) (he : es[i]? = some e) (hS : Closed ops S) (hi : S i = false) (hr : ∀ x ∈ o.after, Region.binds .any x = true → S x.on = true) {a : Act} {w : World} {Im : Nat → Prop} {ι : Nat → Option Value} (I : DInv C E B s es S a w Im ι) :
    Sched C ops o (st s es i) e.acc E (tmS s es S) (hpS s es S) Im ι a w := by
  have hS' : Closed ops (fun j => decide (j = i) || S j) := fun j o' hj ho' x hx hb => by
    simp only [Bool.or_eq_true, decide_eq_true_eq] at hj ⊢
    by_cases hji : j = i
    · subst hji
      rw [ho] at ho'
      cases ho'
      exact .inr (hr x hx hb)
    · exact .inr (hS j o' (hj.resolve_left hji) ho' x hx hb)
  -- a writer of what is looked at is done just if it stands before
  have hbef : ∀ j oj ej, ops[j]? = some oj → es[j]? = some ej → (j < i → clash ops oj o ej.key e.key = true) → (i < j → clash ops o oj e.key ej.key = true) → S j = decide (j < i) := fun j oj ej h1 h2 h3 h4 => by
    rcases Nat.lt_trichotomy j i with h | h | h
    · have := d.ord hS' h h1 ho h2 he (h3 h) (by simp)
      simp only [Bool.or_eq_true, decide_eq_true_eq] at this
      rw [this.resolve_left (by omega)]
      simp [h]
    · subst h
      rw [hi]; simp
    · rw [decide_eq_false (by omega)]
      cases hSj : S j with
      | false => rfl
      | true =>
        have := d.ord hS h ho h1 he h2 (h4 h) hSj
        rw [hi] at this; cases this
  have hil : i ≤ es.length := Nat.le_of_lt (List.getElem?_eq_some_iff.1 he).1
  refine ⟨I.rel, ?_, fun t ht => ?_, fun b hb => ?_⟩
  · rw [st_tm_length]; simp [tmS]
  · have e1 := foldS_text (es.map fun e => e.tmW s.tm.length) (fun i t => lget (st s es i).tm t) (fun i f h l => d.tmT i f h l) t i (by simpa using hil)
    rw [tmS_get]
    refine Eq.trans (foldS_congr _ _ _ _ (fun j f hj hl => ?_) rfl) e1
    rw [List.getElem?_map] at hj
    cases hej : es[j]? with
    | none => rw [hej] at hj; cases hj
    | some ej =>
      rw [hej] at hj
      cases hj
      obtain ⟨oj, hoj, hok⟩ := d.op hej
      have hd := tmW_dst hl
      rw [hok.dst] at hd
      rw [Nat.zero_add]
      refine hbef j oj ej hoj hej (fun _ => ?_) (fun _ => ?_)
      · unfold clash
        rw [hd]
        simp [ht]
      · unfold clash
        rw [hd]
        simp [ht]
  · have e1 := foldS_text (es.map Eff.hpW) (fun i b => (st s es i).hp.getD b .none) (fun i f h l => d.hpT i f h l) b i (by simpa using hil)
    rw [d.hpS_get]
    refine Eq.trans (foldS_congr _ _ _ _ (fun j f hj hl => ?_) rfl) e1
    rw [List.getElem?_map] at hj
    cases hej : es[j]? with
    | none => rw [hej] at hj; cases hj
    | some ej =>
      rw [hej] at hj
      cases hj
      obtain ⟨oj, hoj, hok⟩ := d.op hej
      have hk := hpW_key hl
      rw [Nat.zero_add]
      have hb' : b ∈ e.key.1 := by simpa [Eff.key] using hb
      refine hbef j oj ej hoj hej (fun _ => ?_) (fun _ => ?_)
      · unfold clash
        have : ej.key.2.any (fun b => e.key.1.contains b || e.key.2.contains b) = true := List.any_eq_true.2 ⟨b, hk, by simp [hb']⟩
        rw [this]; simp
      · unfold clash
        have : ej.key.2.any (fun b => e.key.1.contains b) = true := List.any_eq_true.2 ⟨b, hk, by simp [hb']⟩
        rw [this]; simp

/-- One more is done. -/
theorem Draw.step (hC : C.Ok) (d : Draw C ops s es) {S S' : Nat → Bool} {i : Nat} {o : Oper} (ho : ops[i]? = some o) (hS : Closed ops S) (hS'c : Closed ops S') (hi : S i = false) (hS' : ∀ j, S' j = (decide (j = i) || S j)) (hr : ∀ x ∈ o.after, Region.binds .any x = true → S x.on = true) {a : Act} {w : World} {Im : Nat → Prop} {ι : Nat → Option Value} (I : DInv C E B s es S a w Im ι)
    {next : Act → World → Prop} {Q : Exit → Act → World → Prop} (hK : ∀ a' w' Im' ι', DInv C E B s es S' a' w' Im' ι' → next a' w') : wpOp C.P ops Q i next a w := by
  obtain ⟨e, he, hok⟩ := d.eff ho
  have hsch := d.sched ho he hS hi hr I
  have hfresh : ∀ b, e.base ≤ b → b < e.base + e.news.length → ι b = none := I.fresh i e he hi
  -- later writers of the same aren't done
  have hww : ∀ j oj ej, ops[j]? = some oj → es[j]? = some ej → i < j → clash ops o oj e.key ej.key = true → S j = false := fun j oj ej h1 h2 h3 h4 => by
    cases hSj : S j with
    | false => rfl
    | true =>
      have := d.ord hS h3 ho h1 he h2 h4 hSj
      rw [hi] at this; cases this
  have htm : ∀ t, lget (tmS s es S') t = (e.tmW s.tm.length t).getD (lget (tmS s es S) t) := fun t => by
    rw [tmS_get, tmS_get]
    refine foldS_insert (k := i) hi hS' _ 0 _ (e.tmW s.tm.length) (Nat.zero_le _) (by rw [List.getElem?_map, Nat.sub_zero, he]; rfl) fun j f hj hlt h1 h2 => ?_
    rw [Nat.zero_add] at hlt ⊢
    rw [List.getElem?_map] at hj
    cases hej : es[j]? with
    | none => rw [hej] at hj; cases hj
    | some ej =>
      rw [hej] at hj
      cases hj
      obtain ⟨oj, hoj, hokj⟩ := d.op hej
      have hd := tmW_dst h1
      have hd' := tmW_dst h2
      rw [hokj.dst] at hd
      rw [hok.dst] at hd'
      refine hww j oj ej hoj hej hlt ?_
      unfold clash
      rw [hd, hd']
      simp
  have hhp : ∀ b, (hpS s es S').getD b .none = (e.hpW b).getD ((hpS s es S).getD b .none) := fun b => by
    rw [d.hpS_get, d.hpS_get]
    refine foldS_insert (k := i) hi hS' _ 0 _ e.hpW (Nat.zero_le _) (by rw [List.getElem?_map, Nat.sub_zero, he]; rfl) fun j f hj hlt h1 h2 => ?_
    rw [Nat.zero_add] at hlt ⊢
    rw [List.getElem?_map] at hj
    cases hej : es[j]? with
    | none => rw [hej] at hj; cases hj
    | some ej =>
      rw [hej] at hj
      cases hj
      obtain ⟨oj, hoj, hokj⟩ := d.op hej
      refine hww j oj ej hoj hej hlt ?_
      unfold clash
      have : e.key.2.any (fun b => ej.key.1.contains b || ej.key.2.contains b) = true := List.any_eq_true.2 ⟨b, hpW_key h2, by simp [hpW_key h1]⟩
      rw [this]; simp
  have hdoes := hok.does E Im ι w a _ _ hsch hfresh (hpS s es S') hhp next Q fun a' w' Im' ι' hrel hι hl => hK a' w' Im' ι' ⟨?_, ?_, ?_, I.later.step hl (Nat.le_refl _) fun b hb => hι b fun h => ?_⟩
  · unfold wpOp
    rw [ho]
    rcases hdoes with ⟨h1, h2⟩ | ⟨h1, h2⟩
    · simp only [h1, if_true]; exact .inl h2
    · simp only [h1, Bool.false_eq_true, if_false]; exact h2
  · refine hrel.congr ?_ (fun t => ?_) (fun b => ?_)
    · unfold AS.put
      split <;> simp [length_lset, tmS]
    · rw [put_lget, htm]
      simp [tmS]
    · unfold AS.put
      split <;> rfl
  · intro j ej hej hSj b h1 h2
    rw [hS', Bool.or_eq_false_iff, decide_eq_false_iff_not] at hSj
    have h3 := I.fresh j ej hej hSj.2 b h1 h2
    rw [hι b ?_]
    · exact h3
    · rintro ⟨h4, h5⟩
      obtain ⟨g1, g2⟩ := d.lenS he
      obtain ⟨g3, g4⟩ := d.lenS hej
      have k1 := (List.getElem?_eq_some_iff.1 he).1
      have k2 := (List.getElem?_eq_some_iff.1 hej).1
      rcases Nat.lt_or_gt_of_ne hSj.1 with h | h
      · have := d.lenM i (j + 1) h (by omega)
        omega
      · have := d.lenM j (i + 1) h (by omega)
        omega
  · intro b hb
    rw [hι b ?_]
    · exact I.past b hb
    · rintro ⟨h4, h5⟩
      obtain ⟨g1, g2⟩ := d.lenS he
      have := d.lenM es.length (i + 1) (List.getElem?_eq_some_iff.1 he).1 (Nat.le_refl _)
      omega

  · have g := d.lenM i 0 (Nat.zero_le _) (Nat.le_of_lt (List.getElem?_eq_some_iff.1 he).1)
    have g2 := (d.lenS he).2
    rw [st_zero] at g
    omega

theorem Draw.any (hC : C.Ok) (d : Draw C ops s es) {Q : Exit → Act → World → Prop} (hQ : ∀ a w, RelF C E B (st s es es.length) a w → Q .normal a w) : ∀ (fuel : Nat) (listed : Array Bool) (a : Act) (w : World) (Im : Nat → Prop) (ι : Nat → Option Value),
    listed.size = ops.size → Closed ops (lst listed) → undone ops.size (lst listed) ≤ fuel → DInv C E B s es (lst listed) a w Im ι → wpAny C.P .any ops Q fuel listed a w := by
  have hall : ∀ (S : Nat → Bool), (∀ j, j < ops.size → S j = true) → ∀ a w Im ι, DInv C E B s es S a w Im ι → Q .normal a w := fun S hS a w Im ι I => by
    refine hQ a w ⟨Im, ι, I.rel.congr ?_ (fun t => ?_) (fun b => ?_), I.past, I.later.len (by have := d.lenM es.length 0 (Nat.zero_le _) (Nat.le_refl _); rwa [st_zero] at this)⟩
    · rw [st_tm_length]; simp [tmS]
    · rw [tmS_get]
      have e1 := foldS_text (es.map fun e => e.tmW s.tm.length) (fun i t => lget (st s es i).tm t) (fun i f h l => d.tmT i f h l) t es.length (by simp)
      refine Eq.trans e1.symm (foldS_congr _ _ _ _ (fun j f hj hl => ?_) rfl)
      have hlt : j < es.length := by simpa using (List.getElem?_eq_some_iff.1 hj).1
      rw [Nat.zero_add, hS j (by rw [← d.len]; exact hlt)]
      simp [hlt]
    · rw [d.hpS_get]
      have e1 := foldS_text (es.map Eff.hpW) (fun i b => (st s es i).hp.getD b .none) (fun i f h l => d.hpT i f h l) b es.length (by simp)
      refine Eq.trans e1.symm (foldS_congr _ _ _ _ (fun j f hj hl => ?_) rfl)
      have hlt : j < es.length := by simpa using (List.getElem?_eq_some_iff.1 hj).1
      rw [Nat.zero_add, hS j (by rw [← d.len]; exact hlt)]
      simp [hlt]
  intro fuel
  induction fuel with
  | zero =>
    intro listed a w Im ι hsz hcl hun I
    have hS := undone_zero (Nat.le_zero.1 hun)
    refine ⟨?_, hall _ hS a w Im ι I⟩
    cases hr : Region.ready .any ops listed with
    | nil => rfl
    | cons i l =>
      have hi : i ∈ Region.ready .any ops listed := by rw [hr]; simp
      obtain ⟨h1, o, ho, _⟩ := mem_ready.1 hi
      have hlt := (Array.getElem?_eq_some_iff.1 ho).1
      rw [getD_true_false (by omega)] at h1
      have := hS i hlt
      unfold lst at this
      rw [h1] at this; cases this
  | succ fuel ih =>
    intro listed a w Im ι hsz hcl hun I
    refine ⟨fun hr => hall _ (fun j hj => ?_) a w Im ι I, fun i hi => ?_⟩
    · induction j using Nat.strongRecOn with
      | _ j ihj =>
        cases hSj : lst listed j with
        | true => rfl
        | false =>
          have ho : ops[j]? = some ops[j] := Array.getElem?_eq_getElem hj
          have : j ∈ Region.ready .any ops listed := mem_ready.2 ⟨by rw [getD_true_false (by omega)]; exact hSj, _, ho, fun e he hb => by
            have hlt := d.down ho he hb
            exact ihj e.on hlt (by omega)⟩
          rw [hr] at this
          cases this
    · obtain ⟨h1, o, ho, h2⟩ := mem_ready.1 hi
      have hlt := (Array.getElem?_eq_some_iff.1 ho).1
      rw [getD_true_false (by omega)] at h1
      have hS' := lst_set (listed := listed) (i := i) (by omega)
      have hcl' : Closed ops (lst (listed.setIfInBounds i true)) := fun j o' hj ho' x hx hb => by
        rw [hS'] at hj ⊢
        simp only [Bool.or_eq_true, decide_eq_true_eq] at hj ⊢
        by_cases hji : j = i
        · subst hji
          rw [ho] at ho'
          cases ho'
          exact .inr (h2 x hx hb)
        · exact .inr (hcl j o' (hj.resolve_left hji) ho' x hx hb)
      refine d.step hC ho hcl hcl' h1 hS' h2 I fun a' w' Im' ι' I' => ih _ a' w' Im' ι' (by simpa using hsz) hcl' ?_ I'
      have := undone_insert hS' h1 ops.size hlt
      omega

theorem draw_sound (hC : C.Ok) (hm : C.P.follows .mixedOrders = true) {id : Nat} {a : Act} {w : World} {K : AS → Prop} {Q : Exit → Act → World → Prop} (hQ : ∀ s a w, K s → RelF C E B s a w → Q .normal a w) (hR : RelF C E B s a w) (h : drawVC C ops s K) :
    (Code.region id ops true).wp C.P Q a w := by
  obtain ⟨es, h1, h2, h3, h4⟩ := drGo_trace hC ops.toList s [] h
  have d : Draw C ops s es := ⟨by simpa using h1, fun i o e ho he => h2 i o e (by simpa using ho) he, by simpa using h3⟩
  obtain ⟨Im, ι, hR, hF, hB⟩ := hR
  refine wp_region_any hm ?_
  have hl0 : ∀ j, lst (Array.replicate ops.size false) j = false := fun j => by
    unfold lst
    by_cases hj : j < ops.size
    · simp [hj]
    · simp [hj]
  have hg : w.grownBy { w with drawn := w.drawn + 1 } none := ⟨rfl, rfl, rfl, Nat.le_refl _, fun _ _ _ => rfl⟩
  have hl : Later Im ι w Im ι { w with drawn := w.drawn + 1 } := later_grown hg hR.mem.mr.imlt (fun k h => by cases h) (fun _ h => h) (fun _ _ h => h)
  have hlen0 := d.lenM es.length 0 (Nat.zero_le _) (Nat.le_refl _)
  rw [st_zero] at hlen0
  have hR' : Rel C E s Im ι a { w with drawn := w.drawn + 1 } := by
    refine ⟨hR.defers, hR.size, fun t => VRel.mono hl _ _ (hR.tm t), ?_⟩
    exact (Mem.step s.hp.length hR.mem hg (fun k h => by cases h) (fun _ h => h) (fun _ h => .inl h) (fun _ _ h => h) (fun b hb => ⟨rfl, .inl rfl⟩) fun v hv => by
      rw [hF _ (Nat.le_refl _)] at hv; cases hv).1
  refine d.any hC (fun a w r => hQ _ a w h4 r) ops.size _ a _ Im ι (by simp) (fun j o hj => by rw [hl0] at hj; cases hj) ?_ ⟨hR'.congr ?_ (fun t => ?_) (fun b => ?_), fun j e he _ b h5 h6 => hF b ?_, fun b hb => hF b (by omega), hB.step hl (Nat.le_refl _) fun _ _ => rfl⟩
  · unfold undone
    refine Nat.le_trans (List.length_filter_le _ _) ?_
    simp
  · simp [tmS]
  · rw [tmS_get, foldS_none _ _ _ fun j f _ _ => hl0 _]
  · rw [d.hpS_get, foldS_none _ _ _ fun j f _ _ => hl0 _]
  · obtain ⟨g1, g2⟩ := d.lenS he
    have := d.lenM j 0 (Nat.zero_le _) (Nat.le_of_lt (List.getElem?_eq_some_iff.1 he).1)
    rw [st_zero] at this
    omega
end
end Go.Avc
