/-
  AVC, part M: each outcome's step of memory; regions whose order is given.
-/
import Derived.Test.YtfikklbaceidfaaDoorAvcL
namespace Go.Avc
set_option linter.unusedVariables false
set_option linter.unusedSimpArgs false

def ιset (ι : Nat → Option Value) (c : Nat) (v : Value) : Nat → Option Value := fun b => if b = c then some v else ι b
theorem ιset_same (ι : Nat → Option Value) (c : Nat) (v : Value) : ιset ι c v c = some v := by simp [ιset]
theorem ιset_other (ι : Nat → Option Value) (c : Nat) (v : Value) {b : Nat} (h : b ≠ c) : ιset ι c v b = ι b := by simp [ιset, h]
theorem ιset_keeps {ι : Nat → Option Value} {c : Nat} (hc : ι c = none) (v : Value) : ∀ b u, ι b = some u → ιset ι c v b = some u := fun b u h => by
  by_cases hb : b = c
  · subst hb; rw [hc] at h; cases h
  · rw [ιset_other _ _ _ hb, h]
theorem getD_push (hp : List Blk) (x : Blk) {b : Nat} (h : b ≠ hp.length) : (hp ++ [x]).getD b .none = hp.getD b .none := by
  simp only [List.getD_eq_getElem?_getD]
  by_cases hb : b < hp.length
  · rw [List.getElem?_append_left hb]
  · have e1 : (hp ++ [x])[b]? = none := List.getElem?_eq_none (by simp; omega)
    have e2 : hp[b]? = none := List.getElem?_eq_none (by omega)
    rw [e1, e2]
theorem getD_push_same (hp : List Blk) (x : Blk) : (hp ++ [x]).getD hp.length .none = x := by simp [List.getD_eq_getElem?_getD]
theorem getD_set_ne' (hp : List Blk) (x : Blk) {b c : Nat} (h : b ≠ c) : (hp.set c x).getD b .none = hp.getD b .none := by
  simp only [List.getD_eq_getElem?_getD, List.getElem?_set_ne (Ne.symm h)]
theorem live_lt {hp : List Blk} {b : Nat} (h : live (hp.getD b .none) = true) : b < hp.length := by
  rcases Nat.lt_or_ge b hp.length with h' | h'
  · exact h'
  · rw [List.getD_eq_getElem?_getD, List.getElem?_eq_none h'] at h; cases h
theorem getD_set_same' (hp : List Blk) (x : Blk) {b : Nat} (h : b < hp.length) : (hp.set b x).getD b .none = x := by
  simp [List.getD_eq_getElem?_getD, h]

section
variable {C : Ctx} {E B : Ent} {Im : Nat → Prop} {ι : Nat → Option Value} {w : World} {hp hp' : List Blk}

theorem mem_new {c : Nat} {T : TypeId} {cs : List SV} {vs : List Value} (m : Mem C E hp Im ι w) (hc : ι c = none) (h1 : ∀ b, b ≠ c → hp'.getD b .none = hp.getD b .none) (h2 : hp'.getD c .none = .cells T cs) (hcs : CellsRel Im ι w cs vs) :
    Mem C E hp' Im (ιset ι c (.pointer (some ⟨w.heap.size, 0, none⟩))) (w.alloc (.cells vs.toArray T)) ∧ Later Im ι w Im (ιset ι c (.pointer (some ⟨w.heap.size, 0, none⟩))) (w.alloc (.cells vs.toArray T)) := by
  have hg := World.grownBy_alloc w (.cells vs.toArray T) none
  refine Mem.step c m hg (fun k h => by cases h) (fun _ h => h) (fun _ h => .inl h) (ιset_keeps hc _) (fun b hb => ⟨ιset_other _ _ _ hb, .inl (h1 b hb)⟩) fun v hv => ?_
  rw [ιset_same] at hv
  cases hv
  rw [h2]
  have hl := later_grown hg m.mr.imlt (fun k h => by cases h) (Im' := Im) (fun _ h => h) (ιset_keeps hc (.pointer (some ⟨w.heap.size, 0, none⟩)))
  refine ⟨⟨w.heap.size, vs, rfl, (by show (w.heap.push _)[w.heap.size]? = _; exact Array.getElem?_push_size), hcs.mono hl⟩, fun k _ hk => .inr ?_⟩
  cases hk
  exact ⟨Nat.le_refl _, fun h => Nat.lt_irrefl _ (m.mr.imlt _ h)⟩
theorem mem_own {c : Nat} {T : TypeId} {e : List CSh} {l : List (List CD)} {xs : List Value} {v : Value} {w' : World} (m : Mem C E hp Im ι w) (hc : ι c = none) (h1 : ∀ b, b ≠ c → hp'.getD b .none = hp.getD b .none) (h2 : hp'.getD c .none = .own T e l)
    (hg : w.grownBy w' none) (ho : OwnV w' T e.length v l.length xs) (hf : FlatRel Im w e l xs) (hk : ∀ k, foot v = some k → w.heap.size ≤ k) :
    Mem C E hp' Im (ιset ι c v) w' ∧ Later Im ι w Im (ιset ι c v) w' := by
  refine Mem.step c m hg (fun k h => by cases h) (fun _ h => h) (fun _ h => .inl h) (ιset_keeps hc _) (fun b hb => ⟨ιset_other _ _ _ hb, .inl (h1 b hb)⟩) fun v' hv => ?_
  rw [ιset_same] at hv
  cases hv
  rw [h2]
  have hl := later_grown hg m.mr.imlt (fun k h => by cases h) (Im' := Im) (fun _ h => h) (ιset_keeps hc v)
  exact ⟨⟨xs, ho, hf.mono hl.im hl.mem⟩, fun k _ h => .inr ⟨hk k h, fun h' => absurd (m.mr.imlt _ h') (by have := hk k h; omega)⟩⟩
theorem mem_ro {w' : World} (m : Mem C E hp Im ι w) (hg : w.grownBy w' none) (c : Nat) (hc : ι c = none) :
    Mem C E hp (fun i => Im i ∨ (w.heap.size ≤ i ∧ i < w'.heap.size)) ι w' ∧ Later Im ι w (fun i => Im i ∨ (w.heap.size ≤ i ∧ i < w'.heap.size)) ι w' :=
  Mem.step c m hg (fun k h => by cases h) (fun _ h => .inl h) (fun _ h => h) (fun _ _ h => h) (fun b hb => ⟨rfl, .inl rfl⟩) fun v hv => by rw [hc] at hv; cases hv
/-- The world grows past all blocks; what is new is read alone. -/
theorem Mem.same {w' : World} (m : Mem C E hp Im ι w) (hg : w.grownBy w' none) :
    Mem C E hp (fun i => Im i ∨ (w.heap.size ≤ i ∧ i < w'.heap.size)) ι w' ∧ Later Im ι w (fun i => Im i ∨ (w.heap.size ≤ i ∧ i < w'.heap.size)) ι w' := by
  have hl := later_grown hg m.mr.imlt (fun k h => by cases h) (Im' := fun i => Im i ∨ (w.heap.size ≤ i ∧ i < w'.heap.size)) (ι := ι) (ι' := ι) (fun _ h => .inl h) (fun _ _ h => h)
  refine ⟨?_, hl⟩
  have key := Mem.step (hp := hp) (hp' := hp) (ι := fun b => ι b) (ι' := fun b => ι b) (row := none) hp.length m hg (fun k h => by cases h) (fun _ h => .inl h) (fun _ h => h) (fun _ _ h => h) (fun b hb => ⟨rfl, .inl rfl⟩)
  refine (key fun v hv => ?_).1
  have e0 : hp.getD hp.length .none = .none := by rw [List.getD_eq_getElem?_getD, List.getElem?_eq_none (Nat.le_refl _)]; rfl
  rw [e0]
  exact ⟨trivial, fun k h => by cases h⟩
theorem mem_updCells {b r : Nat} {T : TypeId} {cs : List SV} {vs : List Value} {cur : Array Value} (m : Mem C E hp Im ι w) (hb : ι b = some (.pointer (some ⟨r, 0, none⟩))) (hlive : live (hp.getD b .none) = true)
    (hr : w.heap[r]? = some (.cells cur T (0, 0))) (h1 : ∀ b', b' ≠ b → hp'.getD b' .none = hp.getD b' .none) (h2 : hp'.getD b .none = .cells T cs) (hcs : CellsRel Im ι w cs vs) :
    Mem C E hp' Im ι (w.setRow r vs.toArray) ∧ Later Im ι w Im ι (w.setRow r vs.toArray) := by
  have hg : w.grownBy (w.setRow r vs.toArray) (some r) := ⟨rfl, rfl, rfl, by simp, fun k _ hk => setRow_other w r k _ (fun e => hk (by rw [e]))⟩
  have hl := later_grown hg m.mr.imlt (fun k h => by cases h; exact m.mr.imm b _ r hlive hb rfl) (Im' := Im) (ι := ι) (ι' := ι) (fun _ h => h) (fun _ _ h => h)
  refine Mem.step b m hg (fun k h => ⟨b, _, hb, hlive, by cases h; rfl, .inl rfl⟩) (fun _ h => h) (fun _ h => .inl h) (fun _ _ h => h) (fun b' hb' => ⟨rfl, .inl (h1 b' hb')⟩) fun v hv => ?_
  rw [hb] at hv
  cases hv
  rw [h2]
  exact ⟨⟨r, vs, rfl, setRow_heap w r cur _ T _ hr, hcs.mono hl⟩, fun k _ hk => .inl (by cases hk; rfl)⟩
theorem mem_updOwn {b : Nat} {T : TypeId} {e : List CSh} {l : List (List CD)} {xs : List Value} {v : Value} {w' : World} (m : Mem C E hp Im ι w) (hb : ι b = some v) (hlive : live (hp.getD b .none) = true)
    (hg : w.grownBy w' (foot v)) (h1 : ∀ b', b' ≠ b → hp'.getD b' .none = hp.getD b' .none) (h2 : hp'.getD b .none = .own T e l) (ho : OwnV w' T e.length v l.length xs) (hf : FlatRel Im w e l xs) :
    Mem C E hp' Im ι w' ∧ Later Im ι w Im ι w' := by
  have hl := later_grown hg m.mr.imlt (fun k h => m.mr.imm b _ k hlive hb h) (Im' := Im) (ι := ι) (ι' := ι) (fun _ h => h) (fun _ _ h => h)
  refine Mem.step b m hg (fun k h => ⟨b, _, hb, hlive, h, .inl rfl⟩) (fun _ h => h) (fun _ h => .inl h) (fun _ _ h => h) (fun b' hb' => ⟨rfl, .inl (h1 b' hb')⟩) fun v' hv => ?_
  rw [hb] at hv
  cases hv
  rw [h2]
  exact ⟨⟨xs, ho, hf.mono hl.im hl.mem⟩, fun k _ hk => .inl hk⟩
theorem mem_app {b c : Nat} {T : TypeId} {e : List CSh} {l : List (List CD)} {xs : List Value} {v v' : Value} {w' : World} (m : Mem C E hp Im ι w) (hb : ι b = some v) (hc : ι c = none) (hlive : live (hp.getD b .none) = true)
    (hg : w.grownBy w' (foot v)) (h1 : ∀ b', b' ≠ b → b' ≠ c → hp'.getD b' .none = hp.getD b' .none) (h2 : hp'.getD c .none = .own T e l) (h3 : hp'.getD b .none = .none) (ho : OwnV w' T e.length v' l.length xs) (hf : FlatRel Im w e l xs)
    (hk : ∀ k, foot v' = some k → foot v = some k ∨ w.heap.size ≤ k) :
    Mem C E hp' Im (ιset ι c v') w' ∧ Later Im ι w Im (ιset ι c v') w' := by
  have hl := later_grown hg m.mr.imlt (fun k h => m.mr.imm b _ k hlive hb h) (Im' := Im) (fun _ h => h) (ιset_keeps hc v')
  refine Mem.step c m hg (fun k h => ⟨b, _, hb, hlive, h, .inr h3⟩) (fun _ h => h) (fun _ h => .inl h) (ιset_keeps hc _) (fun b' hb' => ⟨ιset_other _ _ _ hb', ?_⟩) fun u hu => ?_
  · by_cases h : b' = b
    · subst h; exact .inr h3
    · exact .inl (h1 b' h hb')
  · rw [ιset_same] at hu
    cases hu
    rw [h2]
    exact ⟨⟨xs, ho, hf.mono hl.im hl.mem⟩, fun k _ h => (hk k h).imp id fun h' => ⟨h', fun h'' => absurd (m.mr.imlt _ h'') (by omega)⟩⟩

/-- Later than B, whose blocks F keep their values. -/
structure Aft (B : Ent) (n : Nat) (Im : Nat → Prop) (ι : Nat → Option Value) (w : World) : Prop where
  later : Later B.Im B.ι B.w Im ι w
  keep : ∀ b, B.F b → b < n ∧ ι b = B.ι b
theorem Aft.step {n n' : Nat} {Im' : Nat → Prop} {ι' : Nat → Option Value} {w' : World} (h : Aft B n Im ι w) (hl : Later Im ι w Im' ι' w') (hn : n ≤ n') (hι : ∀ b, b < n → ι' b = ι b) : Aft B n' Im' ι' w' :=
  ⟨h.later.trans hl, fun b hb => ⟨Nat.lt_of_lt_of_le (h.keep b hb).1 hn, (hι b (h.keep b hb).1).trans (h.keep b hb).2⟩⟩
theorem Aft.len {n n' : Nat} (h : Aft B n Im ι w) (hn : n ≤ n') : Aft B n' Im ι w := h.step (Later.refl _ _ _) hn fun _ _ => rfl
/-- The state, with what is fresh and what it is later than. -/
def RelF (C : Ctx) (E B : Ent) (s : AS) (a : Act) (w : World) : Prop := ∃ Im ι, Rel C E s Im ι a w ∧ Fresh s.hp.length ι ∧ Aft B s.hp.length Im ι w
theorem put_hp (s : AS) (d : Option Tmp) (sv : SV) : (s.put d sv).hp = s.hp := by cases d <;> rfl
theorem aft_put {s s' : AS} {d : Option Tmp} {sv : SV} {Im' : Nat → Prop} {ι' : Nat → Option Value} {w' : World} (h : Aft B s.hp.length Im ι w) (hl : Later Im ι w Im' ι' w') (hn : s.hp.length ≤ s'.hp.length) (hι : ∀ b, b < s.hp.length → ι' b = ι b) : Aft B (s'.put d sv).hp.length Im' ι' w' := by
  rw [put_hp]; exact h.step hl hn hι

theorem fresh_push {ι : Nat → Option Value} {c : Nat} {v : Value} {n : Nat} (h : Fresh c ι) (hn : c < n) : Fresh n (ιset ι c v) := fun b hb => by
  rw [ιset_other _ _ _ (by omega)]; exact h b (by omega)
theorem undef_rel : VRel Im ι w SV.undef undef := ⟨[], rfl, rfl⟩

theorem CR.wp_mono {hp : List Blk} {K K' : SV → List Blk → Prop} (h : ∀ sv hp, K sv hp → K' sv hp) : ∀ c : CR, c.wp hp K → c.wp hp K'
  | .bad, k => k
  | .need p c, k => ⟨k.1, CR.wp_mono h c k.2⟩
  | .know p c, k => fun hp' => CR.wp_mono h c (k hp')
  | .ret sv upd news, k => h _ _ k
  | .anyI f, k => fun n => CR.wp_mono h (f n) (k n)
  | .anyB f, k => fun n => CR.wp_mono h (f n) (k n)
  | .anyL f, k => fun n => CR.wp_mono h (f n) (k n)
  | .ite true c1 c2, k => CR.wp_mono h c1 k
  | .ite false c1 c2, k => CR.wp_mono h c2 k

theorem CallSem.mono {P : Program} {f : FuncId} {vs : Array Value} {w : World} {R R' : Ending → World → Prop} (h : CallSem P f vs w R) (hr : ∀ e w', R e w' → R' e w') : CallSem P f vs w R' := by
  rcases h with ⟨h1, h2⟩ | ⟨v, h1, h2⟩
  · exact .inl ⟨h1, Calls.mono h2 hr⟩
  · exact .inr ⟨v, h1, hr _ _ h2⟩

theorem orVC_sound (hC : C.Ok) {o : Oper} {s : AS} {a : Act} (hR : Rel C E s Im ι a w) (hF : Fresh s.hp.length ι) (hB : Aft B s.hp.length Im ι w) {K : AS → Prop} {Q : Exit → Act → World → Prop} {run : Result Next} :
    ∀ r, ORSem C.P Im ι w run r → orVC C o.dst s K r → o.upon C.P a (fun a' w' => ∃ s', K s' ∧ RelF C E B s' a' w') Q run
  | .bad, _, h => h.elim
  | .need p r, hs, h => orVC_sound hC hR hF hB r (hs h.1) h.2
  | .know p r, hs, h => orVC_sound hC hR hF hB r hs.2 (h hs.1)
  | .split b r1 r2, hs, h => by
    cases hb : b with
    | true => exact orVC_sound hC hR hF hB r1 (hs.1 hb) (h.1 hb)
    | false => exact orVC_sound hC hR hF hB r2 (hs.2 hb) (h.2 hb)
  | .val sv, hs, h => by
    obtain ⟨v, rfl, hv⟩ := hs
    exact ⟨_, h, Im, ι, hR.put (Later.refl _ _ _) hR.mem o.dst hv, by cases hd : o.dst <;> exact hF, aft_put hB (Later.refl _ _ _) (Nat.le_refl _) fun _ _ => rfl⟩
  | .new T cs, hs, h => by
    obtain ⟨vs, rfl, hv⟩ := hs
    obtain ⟨hm, hl⟩ := mem_new hR.mem (hF _ (Nat.le_refl _)) (fun b hb => getD_push _ _ hb) (getD_push_same s.hp (.cells T cs)) hv
    exact ⟨_, h, Im, _, hR.put hl hm o.dst ⟨_, ιset_same _ _ _, rfl⟩, by cases hd : o.dst <;> exact fresh_push hF (by simp [AS.put]), aft_put hB hl (by simp) fun b hb => ιset_other _ _ _ (Nat.ne_of_lt hb)⟩
  | .newRo sv, hs, h => by
    obtain ⟨v, w', rfl, hg, hv⟩ := hs
    obtain ⟨hm, hl⟩ := mem_ro hR.mem hg s.hp.length (hF _ (Nat.le_refl _))
    exact ⟨_, h, _, ι, hR.put hl hm o.dst hv, by cases hd : o.dst <;> exact hF, aft_put hB hl (Nat.le_refl _) fun _ _ => rfl⟩
  | .newOwn T e l, hs, h => by
    obtain ⟨v, w', xs, rfl, hg, hsl, ho, hf, hk⟩ := hs
    obtain ⟨hm, hl⟩ := mem_own hR.mem (hF _ (Nat.le_refl _)) (fun b hb => getD_push _ _ hb) (getD_push_same s.hp (.own T e l)) hg ho hf hk
    exact ⟨_, h, Im, _, hR.put hl hm o.dst ⟨ιset_same _ _ _, hsl⟩, by cases hd : o.dst <;> exact fresh_push hF (by simp [AS.put]), aft_put hB hl (by simp) fun b hb => ιset_other _ _ _ (Nat.ne_of_lt hb)⟩
  | .upd b (.cells T cs), hs, h => by
    obtain ⟨r, vs, cur, T', hb, hr, rfl, rfl, hv⟩ := hs
    obtain ⟨hm, hl⟩ := mem_updCells hR.mem hb h.1 hr (fun b' hb' => getD_set_ne' _ _ hb') (getD_set_same' s.hp _ (live_lt h.1)) hv
    exact ⟨_, h.2, Im, ι, hR.put hl hm o.dst undef_rel, by cases hd : o.dst <;> simpa [AS.put] using hF, aft_put hB hl (by simp) fun _ _ => rfl⟩
  | .upd b (.own T e l), hs, h => by
    obtain ⟨v, w', xs, hb, rfl, hg, _, ho, hf⟩ := hs
    obtain ⟨hm, hl⟩ := mem_updOwn hR.mem hb h.1 hg (fun b' hb' => getD_set_ne' _ _ hb') (getD_set_same' s.hp _ (live_lt h.1)) ho hf
    exact ⟨_, h.2, Im, ι, hR.put hl hm o.dst undef_rel, by cases hd : o.dst <;> simpa [AS.put] using hF, aft_put hB hl (by simp) fun _ _ => rfl⟩
  | .upd b .none, hs, _ => hs.elim
  | .upd b (.ro ..), hs, _ => hs.elim
  | .app b T e l, hs, h => by
    obtain ⟨v, v', w', xs, hb, rfl, hg, hsl, ho, hf, hk⟩ := hs
    have hlt := live_lt h.1
    obtain ⟨hm, hl⟩ := mem_app (hp' := s.hp.set b .none ++ [.own T e l]) (c := s.hp.length) hR.mem hb (hF _ (Nat.le_refl _)) h.1 hg
      (fun b' h1 h2 => by rw [getD_push _ _ (by simpa using h2), getD_set_ne' _ _ h1])
      (by simp)
      (by rw [getD_push _ _ (by simp; omega), getD_set_same' _ _ hlt]) ho hf hk
    exact ⟨_, h.2, Im, _, hR.put hl hm o.dst ⟨ιset_same _ _ _, hsl⟩, by cases hd : o.dst <;> exact fresh_push hF (by simp [AS.put]), aft_put hB hl (by simp) fun b hb => ιset_other _ _ _ (Nat.ne_of_lt hb)⟩
  | .anyB f, hs, h => by
    obtain ⟨β, rfl, hf⟩ := hs
    exact ⟨_, h β hf, Im, ι, hR.put (Later.refl _ _ _) hR.mem o.dst rfl, by cases hd : o.dst <;> exact hF, aft_put hB (Later.refl _ _ _) (Nat.le_refl _) fun _ _ => rfl⟩
  | .call f svs, hs, h => by
    obtain ⟨vs, hv, rfl⟩ := hs
    have hc := hC.spec f svs s.hp (fun sv hp' => K (({ s with hp := hp' } : AS).put o.dst sv)) (fun b => s.hp.length ≤ b) (CR.wp_mono (fun sv hp' k => ⟨k, fun b hb _ => hb⟩) _ h) E Im ι w vs hR.mem hF hv
    have hpost : ∀ v w', CallPost C E Im ι w s.hp.length (fun sv hp' => K (({ s with hp := hp' } : AS).put o.dst sv)) (.returned v) w' → ∃ s', K s' ∧ RelF C E B s' (a.put o.dst v) w' := fun v w' hp => by
      obtain ⟨v', sv, hp', Im', ι', h1, h2, h3, h4, hn, h5, h6⟩ := hp
      cases h1
      have hF' : Fresh hp'.length ι' := fun b hb => by
        rw [h5 b (by omega)]
        exact hF b (by omega)
      exact ⟨_, h2, Im', ι', hR.put h6 h4 o.dst h3, by cases hd : o.dst <;> exact hF', aft_put hB h6 hn fun b hb => h5 b (by omega)⟩
    rcases hc with ⟨h1, h2⟩ | ⟨v, h1, h2⟩
    · rw [h1]
      show Calls _ _ _ _ _
      refine Calls.mono h2 fun e w' he => ?_
      cases e with
      | returned v => exact hpost v w' he
      | panicked c => obtain ⟨v', sv, hp', Im', ι', h1, _⟩ := he; cases h1
      | outgrown => obtain ⟨v', sv, hp', Im', ι', h1, _⟩ := he; cases h1
    · rw [h1]
      exact hpost v w h2
end
end Go.Avc

/-
  AVC, part N: regions whose order is given.
-/
namespace Go.Avc
set_option linter.unusedVariables false
set_option linter.unusedSimpArgs false
section
variable {C : Ctx} {E B : Ent} {Im : Nat → Prop} {ι : Nat → Option Value} {w : World} {a : Act} {s : AS}

theorem ev_rel {tm : List SV} (htm : ∀ t, VRel Im ι w (lget tm t) (a.tmps.getD t undef)) (hg : Globs C Im ι w) {hp : List Blk} (x : Operand) : VRel Im ι w (AS.ev C.glob ⟨tm, hp⟩ x) (a.eval x) := by
  cases x with
  | tmp t => exact htm t
  | const v => exact constSV_rel v
  | global g =>
    show VRel Im ι w ((C.glob g).getD .dead) (.pointer (some ⟨g, 0, none⟩))
    cases h : C.glob g with
    | none => trivial
    | some sv => exact hg g sv h
  | func f => exact ⟨[], rfl, rfl⟩
theorem getD_some {xs : Array Value} {t : Nat} {v : Value} (h : xs.getD t undef = v) (hv : v ≠ undef) : xs[t]? = some v := by
  rw [Array.getD_eq_getD_getElem?] at h
  cases hx : xs[t]? with
  | none => rw [hx] at h; exact absurd h.symm hv
  | some u => rw [hx] at h; simpa using h
theorem guard_yields {all : Array Oper} {o : Oper} {yes no : Prop} (htm : ∀ t, VRel Im ι w (lget s.tm t) (a.tmps.getD t undef)) (h : guardVC all o s yes no) :
    (Region.wanted o (yielded all a.tmps) = true ∧ yes) ∨ (Region.wanted o (yielded all a.tmps) = false ∧ no) := by
  unfold guardVC at h
  unfold Region.wanted
  split at h
  · rename_i hg
    rw [hg]
    exact .inl ⟨rfl, h⟩
  · rename_i j want hg
    rw [hg]
    split at h
    · rename_i d hd
      have hy : yielded all a.tmps j = match a.tmps[d]? with | some (.bool b) => some b | _ => none := by
        unfold yielded
        rw [hd]
        rfl
      split at h
      · rename_i b hb
        have hv := htm d
        rw [hb] at hv
        have hv' : a.tmps[d]? = some (.bool b) := getD_some hv (by simp [undef])
        rw [hv'] at hy
        by_cases hbw : b = want
        · refine .inl ⟨?_, h.1 hbw⟩
          simp [hy, hbw]
        · refine .inr ⟨?_, h.2 hbw⟩
          simp [hy, hbw]
      · rename_i hb
        have hv := htm d
        rw [hb] at hv
        obtain ⟨vs, h1, h2⟩ := hv
        cases (show vs = [] from h2)
        refine .inr ⟨?_, h⟩
        have : yielded all a.tmps j = none := by
          rw [hy]
          rw [Array.getD_eq_getD_getElem?] at h1
          cases hx : a.tmps[d]? with
          | none => rfl
          | some u => rw [hx] at h1; cases (show u = _ from h1); rfl
        simp [this]
      · exact h.elim
    · rename_i hd
      refine .inr ⟨?_, h⟩
      have : yielded all a.tmps j = none := by
        unfold yielded
        rw [hd]
        rfl
      simp [this]
/-- One operation whose order is given. -/
theorem opVC_sound (hC : C.Ok) {all : Array Oper} {o : Oper} (hR : RelF C E B s a w) {K : AS → Prop} {Q : Exit → Act → World → Prop}
    (h : guardVC all o s (orVC C o.dst s K (evOp C.P C.zero (s.ev C.glob) s.hp o.op)) (K (s.put o.dst .undef))) :
    (Region.wanted o (yielded all a.tmps) = true ∧ o.wp C.P a w (fun a' w' => ∃ s', K s' ∧ RelF C E B s' a' w') Q) ∨
      (Region.wanted o (yielded all a.tmps) = false ∧ ∃ s', K s' ∧ RelF C E B s' (a.put o.dst undef) w) := by
  obtain ⟨Im, ι, hR, hF, hB⟩ := hR
  rcases guard_yields hR.tm h with ⟨h1, h2⟩ | ⟨h1, h2⟩
  · refine .inl ⟨h1, ?_⟩
    exact orVC_sound hC hR hF hB _ (evOp_sem hC.zero hR.mem.mr.imlt hR.mem.hv fun x _ => ev_rel hR.tm hR.mem.glob x) h2
  · exact .inr ⟨h1, _, h2, Im, ι, hR.put (Later.refl _ _ _) hR.mem o.dst undef_rel, by cases hd : o.dst <;> exact hF, aft_put hB (Later.refl _ _ _) (Nat.le_refl _) fun _ _ => rfl⟩
theorem opsVC_sound (hC : C.Ok) {ops : Array Oper} {K : AS → Prop} {Q : Exit → Act → World → Prop} (hQ : ∀ s a w, K s → RelF C E B s a w → Q .normal a w) :
    ∀ (l : List Oper) (i : Nat), l = ops.toList.drop i → ∀ s a w, RelF C E B s a w → opsVC C ops l s K → wpOps C.P ops Q (List.range' i l.length) a w
  | [], i, _, s, a, w, hR, h => hQ s a w h hR
  | o :: l, i, hl, s, a, w, hR, h => by
    have ho : ops[i]? = some o := by
      have : (ops.toList.drop i)[0]? = some o := by rw [← hl]; rfl
      simpa using this
    have hl' : l = ops.toList.drop (i + 1) := by
      have : (ops.toList.drop i).drop 1 = l := by rw [← hl]; rfl
      rw [← this, List.drop_drop]
    have ih := opsVC_sound hC hQ l (i + 1) hl'
    simp only [List.length_cons, List.range'_succ, wpOps, ho]
    rcases opVC_sound (Q := Q) hC hR (K := fun s' => opsVC C ops l s' K) (guardS_imp h) with ⟨h1, h2⟩ | ⟨h1, s', h2, h3⟩
    · rw [if_pos h1]
      exact .inl (Oper.wp_mono (fun a w ⟨s', k, r⟩ => ih s' a w r k) h2)
    · rw [if_neg (by simp [h1])]
      exact ih s' _ w h3 h2
theorem region_sound (hC : C.Ok) {id : Nat} {ops : Array Oper} {K : AS → Prop} {Q : Exit → Act → World → Prop} (hQ : ∀ s a w, K s → RelF C E B s a w → Q .normal a w) (hR : RelF C E B s a w) (h : opsVC C ops ops.toList s K) :
    (Code.region id ops false).wp C.P Q a w := by
  refine wp_region ?_
  have := opsVC_sound hC hQ ops.toList 0 (by simp) s a w hR h
  rwa [List.range_eq_range', ← Array.length_toList]
end
end Go.Avc
