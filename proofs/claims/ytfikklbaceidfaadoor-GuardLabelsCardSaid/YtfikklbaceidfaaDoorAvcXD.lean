/-
  AVC, part XD: regions whose order isn't given, by the evaluator of part X.
-/
import Derived.Test.YtfikklbaceidfaaDoorAvcX
import Derived.Test.YtfikklbaceidfaaDoorAvcQ
namespace Go.Avc
set_option linter.unusedVariables false
set_option linter.unusedSimpArgs false

abbrev Key := List Nat × List Nat
def accsE (ρ : Operand → SV) (hp : List Blk) : Op → List Nat
  | .load _ a => (ρ a).h1
  | .store _ a _ => (ρ a).h1
  | .indexAddr _ x _ => (ρ x).h1
  | .slice _ x _ _ _ => (ρ x).h1
  | .convert _ _ x => (ρ x).h1
  | .sliceToArrayPointer _ x => (ρ x).h1
  | .call c => (match c.callee with
    | .builtin _ => c.args.toList.flatMap fun x => (ρ x).h1
    | .value f => reachH hp 3 ((ρ f).hs ++ c.args.toList.flatMap fun x => (ρ x).hs)
    | .invoke r _ => reachH hp 3 ((ρ r).hs ++ c.args.toList.flatMap fun x => (ρ x).hs))
  | _ => []
theorem accsE_eq (glob : Nat → Option SV) (s : AS) (op : Op) : accsE (s.ev glob) s.hp op = accs glob s op := by cases op <;> rfl

/-- As CR.dr; what may be turned is reckoned. -/
def CR.dB (A : List Nat) (n : Nat) (K : SV → List (Nat × Blk) → List Blk → Prop) : CR → Prop
  | .need p c => p ∧ c.dB A n K
  | .know _ c => c.dB A n K
  | .ret sv upd news => bif keysIn A n upd then K sv upd news else False
  | .ite b c1 c2 => bif b then c1.dB A n K else c2.dB A n K
  | _ => False
theorem CR.dB_dr {A : List Nat} {n : Nat} {K K' : SV → List (Nat × Blk) → List Blk → Prop} (hk : ∀ sv u m, K sv u m → K' sv u m) : ∀ c : CR, c.dB A n K → c.dr A n K'
  | .bad, h => h
  | .need p c, h => ⟨h.1, dB_dr hk c h.2⟩
  | .know p c, h => dB_dr hk c h
  | .ret sv u m, h => by
    simp only [CR.dB] at h
    cases hb : keysIn A n u with
    | true => rw [hb] at h; exact ⟨hb, hk _ _ _ h⟩
    | false => rw [hb] at h; exact h.elim
  | .anyI f, h => h
  | .anyB f, h => h
  | .anyL f, h => h
  | .ite true c1 c2, h => dB_dr hk c1 h
  | .ite false c1 c2, h => dB_dr hk c2 h
section
variable (C : Ctx)
def drE (s : ES) (dst : Option Tmp) (A : List Nat) (K : ES → Key → Prop) : OR → Prop
  | .bad => False
  | .need p r => p ∧ drE s dst A K r
  | .know _ r => drE s dst A K r
  | .split b r1 r2 => bif b then drE s dst A K r1 else drE s dst A K r2
  | .val sv => forceSV sv fun sv => putE s dst sv fun s => K s (A, [])
  | .newRo sv => forceSV sv fun sv => putE s dst sv fun s => K s (A, [])
  | .new T cs => (match s with | ⟨n, ov, tm, hp, G⟩ => putE ⟨n, ov, tm, hp ++ [.cells T cs], G⟩ dst (.ptr hp.length 0) fun s => K s (A, [hp.length]))
  | .newOwn T e l => (match s with | ⟨n, ov, tm, hp, G⟩ => putE ⟨n, ov, tm, hp ++ [.own T e l], G⟩ dst (.own hp.length) fun s => K s (A, [hp.length]))
  | .upd b blk => bif live ((maskH A 0 s.hp).getD b .none) then (match s with | ⟨n, ov, tm, hp, G⟩ => putE ⟨n, ov, tm, hp.set b blk, G⟩ dst .undef fun s => K s (A, [b])) else False
  | .app b T e l => bif live ((maskH A 0 s.hp).getD b .none) then (match s with | ⟨n, ov, tm, hp, G⟩ => putE ⟨n, ov, tm, hp.set b .none ++ [.own T e l], G⟩ dst (.own hp.length) fun s => K s (A, [b, hp.length])) else False
  | .anyB _ => False
  | .call f svs => (C.spec f svs (maskH A 0 s.hp)).dB A s.hp.length fun sv upd news => forceSV sv fun sv => match s with | ⟨n, ov, tm, hp, G⟩ => putE ⟨n, ov, tm, updAll hp upd ++ news, G⟩ dst sv fun s => K s (A, upd.map (·.1) ++ rangeFrom hp.length news)
def crDG (s : ES) (dst : Option Tmp) (A : List Nat) (d : Nat) (want c : Bool) (K : ES → Key → Prop) : CR → Prop
  | .need p r => (c = true → p) ∧ crDG s dst A d want c K r
  | .know _ r => crDG s dst A d want c K r
  | .ret sv [] [] => forceSV sv fun sv => putG s dst d want c sv fun s => K s (A, [])
  | .ret sv upd news => (c = true → bif keysIn A s.hp.length upd then forceSV sv fun sv => match s.tellT d want with | ⟨n, ov, tm, hp, G⟩ => putE ⟨n, ov, tm, updAll hp upd ++ news, G⟩ dst sv fun s => K s (A, upd.map (·.1) ++ rangeFrom hp.length news) else False) ∧ (c = false → putE (s.tellF d want) dst .undef fun s => K s ([], []))
  | .ite b r1 r2 => bif b then crDG s dst A d want c K r1 else crDG s dst A d want c K r2
  | _ => (c = true → False) ∧ putE s dst .undef fun s => K s ([], [])
def drG (s : ES) (dst : Option Tmp) (A : List Nat) (d : Nat) (want c : Bool) (K : ES → Key → Prop) : OR → Prop
  | .bad => (c = true → False) ∧ putE s dst .undef fun s => K s ([], [])
  | .need p r => (c = true → p) ∧ drG s dst A d want c K r
  | .know _ r => drG s dst A d want c K r
  | .val sv => forceSV sv fun sv => putG s dst d want c sv fun s => K s (A, [])
  | .newRo sv => forceSV sv fun sv => putG s dst d want c sv fun s => K s (A, [])
  | .call f svs => crDG s dst A d want c K (C.spec f svs (maskH A 0 s.hp))
  | r => (c = true → drE C (s.tellT d want) dst A K r) ∧ (c = false → putE (s.tellF d want) dst .undef fun s => K s ([], []))
def drGoE (all : Array Oper) : List Oper → ES → List Key → (ES → List Key → Prop) → Prop
  | [], s, es, K => K s es
  | o :: rest, s, es, K =>
    match o.guard with
    | none => (match o.op with
      | .pick c x y => (match pickE s (s.ev C.glob) c x y with
        | some sv => forceSV sv fun sv => putE s o.dst sv fun s => drGoE all rest s (es ++ [([], [])]) K
        | none => False)
      | op => (fun A => drE C s o.dst A (fun s k => drGoE all rest s (es ++ [k]) K) (evOp C.P C.zero (s.ev C.glob) (maskH A 0 s.hp) op)) (accsE (s.ev C.glob) s.hp op))
    | some (j, want) => (match (all[j]?).bind (·.dst) with
      | some d => (match gcond s d want with
        | some c => (match o.op with
          | .pick c0 x y => (match pickE s (s.evG C.glob d want) c0 x y with
            | some sv => forceSV sv fun sv => putG s o.dst d want c sv fun s => drGoE all rest s (es ++ [([], [])]) K
            | none => False)
          | op => (fun A => drG C s o.dst A d want c (fun s k => drGoE all rest s (es ++ [k]) K) (evOp C.P C.zero (s.evG C.glob d want) (maskH A 0 s.hp) op)) (accsE (s.evG C.glob d want) s.hp op))
        | none => False)
      | none => False)
def drawE (all : Array Oper) (s : ES) (K : ES → Prop) : Prop := drGoE C all all.toList s [] fun s es => bif confOk all es then K s else False
end

/-! ### Fewer keys clash less -/
def keyLe (a b : Key) : Prop := a = b ∨ a = ([], [])
structure KeysLe (l m : List Key) : Prop where
  len : l.length = m.length
  le : ∀ (i : Nat) (a b : Key), l[i]? = some a → m[i]? = some b → keyLe a b
theorem KeysLe.nil : KeysLe [] [] := ⟨rfl, fun i a b h => by simp at h⟩
theorem KeysLe.snoc {l m : List Key} (h : KeysLe l m) {a b : Key} (hab : keyLe a b) : KeysLe (l ++ [a]) (m ++ [b]) := by
  refine ⟨by simp [h.len], fun i x y hx hy => ?_⟩
  rcases Nat.lt_or_ge i l.length with hi | hi
  · rw [List.getElem?_append_left hi] at hx
    rw [List.getElem?_append_left (by rw [← h.len]; exact hi)] at hy
    exact h.le i x y hx hy
  · rw [List.getElem?_append_right hi] at hx
    rw [List.getElem?_append_right (by rw [← h.len]; exact hi)] at hy
    rw [← h.len] at hy
    cases hj : i - l.length with
    | zero => rw [hj] at hx hy; simp at hx hy; subst hx; subst hy; exact hab
    | succ j => rw [hj] at hx; simp at hx
theorem clash_mono {all : Array Oper} {oi oj : Oper} {ki kj ki' kj' : Key} (hi : keyLe ki ki') (hj : keyLe kj kj') (h : clash all oi oj ki kj = true) : clash all oi oj ki' kj' = true := by
  unfold clash at h ⊢
  simp only [Bool.or_eq_true] at h ⊢
  rcases h with (h | h) | h
  · exact .inl (.inl h)
  · rcases hi with rfl | rfl
    · rcases hj with rfl | rfl
      · exact .inl (.inr h)
      · simp at h
    · simp at h
  · rcases hi with rfl | rfl
    · rcases hj with rfl | rfl
      · exact .inr h
      · simp at h
    · simp at h
theorem confOk_mono {all : Array Oper} {l m : List Key} (h : KeysLe l m) (hc : confOk all m = true) : confOk all l = true := by
  unfold confOk at hc ⊢
  simp only [Bool.and_eq_true] at hc ⊢
  refine ⟨hc.1, ?_⟩
  have h2 := hc.2
  unfold pairsOk at h2 ⊢
  rw [List.all_eq_true] at h2 ⊢
  intro j hj
  have h3 := h2 j hj
  rw [List.all_eq_true] at h3 ⊢
  intro i hi
  have h4 := h3 i hi
  split
  · rename_i oi oj ki kj e1 e2 e3 e4
    have l1 : i < m.length := by rw [← h.len]; exact (List.getElem?_eq_some_iff.1 e3).1
    have l2 : j < m.length := by rw [← h.len]; exact (List.getElem?_eq_some_iff.1 e4).1
    rw [e1, e2, List.getElem?_eq_getElem l1, List.getElem?_eq_getElem l2] at h4
    simp only [Bool.or_eq_true, Bool.not_eq_true'] at h4 ⊢
    rcases h4 with h4 | h4
    · left
      cases hk : clash all oi oj ki kj with
      | false => rfl
      | true =>
        have := clash_mono (h.le i _ _ e3 (List.getElem?_eq_getElem l1)) (h.le j _ _ e4 (List.getElem?_eq_getElem l2)) hk
        rw [h4] at this; cases this
    · exact .inr h4
  · rfl

section
variable {C : Ctx}
/-- What comes behind an operation, in part O's words. -/
def NextK (K : ES → Key → Prop) (s : AS) (k : Key) : Prop := ∃ (s' : ES) (k' : Key), s'.Ok ∧ s'.as = s ∧ keyLe k k' ∧ K s' k'
theorem putE_nextK {s : ES} (hs : s.Ok) {dst : Option Tmp} {sv : SV} {K : ES → Key → Prop} {k : Key} (h : putE s dst sv fun s => K s k) : NextK K (s.as.put dst sv) k := by
  obtain ⟨s', h1, h2, h3, _⟩ := putE_imp hs h
  exact ⟨s', k, h1, h2, .inl rfl, h3⟩
theorem putG_nextK {s : ES} (hs : s.Ok) {dst : Option Tmp} {d : Nat} {want c : Bool} (hc : c = guardOn s.as.tm d want) {sv : SV} {K : ES → Key → Prop} {k : Key} (h : putG s dst d want c sv fun s => K s k) : (c = true → NextK K (s.as.put dst sv) k) ∧ (c = false → NextK K (s.as.put dst .undef) ([], [])) := by
  obtain ⟨s', h1, h2, h3⟩ := putG_imp hs hc h
  exact ⟨fun e => by subst e; exact ⟨s', k, h1, h2, .inl rfl, h3⟩, fun e => by subst e; exact ⟨s', k, h1, h2, .inr rfl, h3⟩⟩
def effK (K : ES → Key → Prop) (s : AS) (e : Eff) : Prop := NextK K (s.app e) e.key
theorem app_nil (s : AS) (dst : Option Tmp) (sv : SV) (A : List Nat) (n : Nat) : s.app ⟨dst, sv, A, [], n, []⟩ = s.put dst sv := by
  show (⟨s.tm, updAll s.hp [] ++ []⟩ : AS).put dst sv = _
  rw [show updAll s.hp [] ++ [] = s.hp from List.append_nil _]
theorem drE_imp {o : Oper} {s : ES} (hs : s.Ok) {A : List Nat} {K : ES → Key → Prop} : ∀ r, drE C s o.dst A K r → drOR C o A s.as (effK K s.as) r
  | .bad, h => h
  | .need p r, h => ⟨h.1, drE_imp hs r h.2⟩
  | .know p r, h => drE_imp hs r h
  | .split b r1 r2, h => by
    cases b with
    | true => exact ⟨fun _ => drE_imp hs r1 h, fun e => by cases e⟩
    | false => exact ⟨(fun e => by cases e), fun _ => drE_imp hs r2 h⟩
  | .val sv, h => by
    simp only [drE, forceSV_eq] at h
    have := putE_nextK hs h
    show NextK K _ _
    rw [app_nil]; exact this
  | .newRo sv, h => by
    simp only [drE, forceSV_eq] at h
    have := putE_nextK hs h
    show NextK K _ _
    rw [app_nil]; exact this
  | .new T cs, h => by
    obtain ⟨n, ov, tm, hp, G⟩ := s
    exact putE_nextK (mem_hp hs) h
  | .newOwn T e l, h => by
    obtain ⟨n, ov, tm, hp, G⟩ := s
    exact putE_nextK (mem_hp hs) h
  | .upd b blk, h => by
    obtain ⟨n, ov, tm, hp, G⟩ := s
    obtain ⟨h1, h2⟩ := live_of h
    refine ⟨h1, ?_⟩
    have := putE_nextK (mem_hp hs) h2
    show NextK K ((⟨applyOv ov tm, updAll hp [(b, blk)] ++ []⟩ : AS).put o.dst .undef) _
    rw [List.append_nil]
    exact this
  | .app b T e l, h => by
    obtain ⟨n, ov, tm, hp, G⟩ := s
    obtain ⟨h1, h2⟩ := live_of h
    exact ⟨h1, putE_nextK (mem_hp hs) h2⟩
  | .anyB f, h => h
  | .call f svs, h => by
    obtain ⟨n, ov, tm, hp, G⟩ := s
    refine CR.dB_dr (fun sv u m k => ?_) _ h
    simp only [forceSV_eq] at k
    exact putE_nextK (mem_hp hs) k
theorem updF {s : ES} (hs : s.Ok) {d : Nat} {want c : Bool} (hc : c = guardOn s.as.tm d want) {dst : Option Tmp} {K : ES → Key → Prop} (h : c = false → putE (s.tellF d want) dst .undef fun s => K s ([], [])) : c = false → NextK K (s.as.put dst .undef) ([], []) := fun e => by
  obtain ⟨h1, h2⟩ := tellF_same hs (d := d) (want := want) (by rw [← hc, e])
  have := putE_nextK h1 (h e)
  rwa [h2] at this
theorem cond_and {b : Bool} {p : Prop} (h : bif b then p else False) : b = true ∧ p := by
  cases b with
  | true => exact ⟨rfl, h⟩
  | false => exact h.elim
theorem crDG_imp {o : Oper} {s : ES} (hs : s.Ok) {A : List Nat} {d : Nat} {want c : Bool} (hc : c = guardOn s.as.tm d want) {K : ES → Key → Prop} : ∀ r, crDG s o.dst A d want c K r →
    (c = true → r.dr A s.hp.length fun sv upd news => effK K s.as ⟨o.dst, sv, A, upd, s.hp.length, news⟩) ∧ (c = false → NextK K (s.as.put o.dst .undef) ([], []))
  | .bad, h => ⟨fun e => h.1 e, fun _ => putE_nextK hs h.2⟩
  | .need p r, h => ⟨fun e => ⟨h.1 e, (crDG_imp hs hc r h.2).1 e⟩, (crDG_imp hs hc r h.2).2⟩
  | .know p r, h => crDG_imp hs hc r h
  | .ret sv [] [], h => by
    simp only [crDG, forceSV_eq] at h
    have := putG_nextK hs hc h
    refine ⟨fun e => ⟨rfl, ?_⟩, this.2⟩
    show NextK K _ _
    rw [app_nil]; exact this.1 e
  | .ret sv (u :: us) news, h => by
    simp only [crDG, forceSV_eq] at h
    refine ⟨fun e => ?_, updF hs hc h.2⟩
    obtain ⟨h1, h2⟩ := tellT_same hs (d := d) (want := want) (by rw [← hc, e])
    have h34 := h.1 e
    have ⟨h3, h4⟩ := cond_and h34
    refine ⟨h3, ?_⟩
    generalize s.tellT d want = s' at h1 h2 h4
    obtain ⟨n, ov, tm, hp, G⟩ := s'
    have := putE_nextK (mem_hp h1) h4
    have e2 : hp = s.hp := congrArg AS.hp h2
    have e3 : applyOv ov tm = s.as.tm := congrArg AS.tm h2
    subst e2
    show NextK K _ _
    simpa [ES.as, e3, AS.app, Eff.key] using this
  | .ret sv [] (u :: news), h => by
    simp only [crDG, forceSV_eq] at h
    refine ⟨fun e => ?_, updF hs hc h.2⟩
    obtain ⟨h1, h2⟩ := tellT_same hs (d := d) (want := want) (by rw [← hc, e])
    have h34 := h.1 e
    have ⟨h3, h4⟩ := cond_and h34
    refine ⟨h3, ?_⟩
    generalize s.tellT d want = s' at h1 h2 h4
    obtain ⟨n, ov, tm, hp, G⟩ := s'
    have := putE_nextK (mem_hp h1) h4
    have e2 : hp = s.hp := congrArg AS.hp h2
    have e3 : applyOv ov tm = s.as.tm := congrArg AS.tm h2
    subst e2
    show NextK K _ _
    simpa [ES.as, e3, AS.app, Eff.key] using this
  | .anyI f, h => ⟨fun e => h.1 e, fun _ => putE_nextK hs h.2⟩
  | .anyB f, h => ⟨fun e => h.1 e, fun _ => putE_nextK hs h.2⟩
  | .anyL f, h => ⟨fun e => h.1 e, fun _ => putE_nextK hs h.2⟩
  | .ite true r1 r2, h => crDG_imp hs hc r1 h
  | .ite false r1 r2, h => crDG_imp hs hc r2 h
theorem drG_imp {o : Oper} {s : ES} (hs : s.Ok) {A : List Nat} {d : Nat} {want c : Bool} (hc : c = guardOn s.as.tm d want) {K : ES → Key → Prop} : ∀ r, drG C s o.dst A d want c K r →
    (c = true → drOR C o A s.as (effK K s.as) r) ∧ (c = false → NextK K (s.as.put o.dst .undef) ([], [])) := by
  have other : ∀ r, (c = true → drE C (s.tellT d want) o.dst A K r) ∧ (c = false → putE (s.tellF d want) o.dst .undef fun s => K s ([], [])) → (c = true → drOR C o A s.as (effK K s.as) r) ∧ (c = false → NextK K (s.as.put o.dst .undef) ([], [])) := fun r h => by
    refine ⟨fun e => ?_, updF hs hc h.2⟩
    obtain ⟨h1, h2⟩ := tellT_same hs (d := d) (want := want) (by rw [← hc, e])
    have := drE_imp h1 r (h.1 e)
    rwa [h2] at this
  intro r
  induction r with
  | bad => exact fun h => ⟨fun e => h.1 e, fun _ => putE_nextK hs h.2⟩
  | need p r ih => exact fun h => ⟨fun e => ⟨h.1 e, (ih h.2).1 e⟩, (ih h.2).2⟩
  | know p r ih => exact fun h => ih h
  | val sv =>
    intro h
    simp only [drG, forceSV_eq] at h
    have := putG_nextK hs hc h
    refine ⟨fun e => ?_, this.2⟩
    show NextK K _ _
    rw [app_nil]; exact this.1 e
  | newRo sv =>
    intro h
    simp only [drG, forceSV_eq] at h
    have := putG_nextK hs hc h
    refine ⟨fun e => ?_, this.2⟩
    show NextK K _ _
    rw [app_nil]; exact this.1 e
  | anyB f => exact fun h => other _ h
  | call f svs =>
    intro h
    exact crDG_imp hs hc _ h
  | split b r1 r2 => exact fun h => other _ h
  | new T cs => exact fun h => other _ h
  | newOwn T e l => exact fun h => other _ h
  | upd b blk => exact fun h => other _ h
  | app b T e l => exact fun h => other _ h

theorem dr_mono (A : List Nat) (n : Nat) {K1 K2 : SV → List (Nat × Blk) → List Blk → Prop} (hk : ∀ sv u m, K1 sv u m → K2 sv u m) : ∀ c : CR, c.dr A n K1 → c.dr A n K2
  | .bad, h => h
  | .need p c, h => ⟨h.1, dr_mono A n hk c h.2⟩
  | .know p c, h => dr_mono A n hk c h
  | .ret sv u m, h => ⟨h.1, hk _ _ _ h.2⟩
  | .anyI f, h => h
  | .anyB f, h => h
  | .anyL f, h => h
  | .ite true c1 c2, h => dr_mono A n hk c1 h
  | .ite false c1 c2, h => dr_mono A n hk c2 h
theorem drOR_mono {o : Oper} {A : List Nat} {s : AS} {K K' : Eff → Prop} (h : ∀ e, K e → K' e) : ∀ r, drOR C o A s K r → drOR C o A s K' r
  | .bad, k => k
  | .need p r, k => ⟨k.1, drOR_mono h r k.2⟩
  | .know p r, k => drOR_mono h r k
  | .split b r1 r2, k => ⟨fun e => drOR_mono h r1 (k.1 e), fun e => drOR_mono h r2 (k.2 e)⟩
  | .val sv, k => h _ k
  | .newRo sv, k => h _ k
  | .new T cs, k => h _ k
  | .newOwn T e l, k => h _ k
  | .upd b blk, k => ⟨k.1, h _ k.2⟩
  | .app b T e l, k => ⟨k.1, h _ k.2⟩
  | .anyB f, k => k
  | .call f svs, k => dr_mono _ _ (fun sv u m k => h _ k) _ k
theorem pick_dr {o : Oper} {s : AS} {K : Eff → Prop} {c x y : Operand} {b : Bool} {A : List Nat} (h1 : s.ev C.glob c = .bool b) (h : K ⟨o.dst, bif b then s.ev C.glob x else s.ev C.glob y, A, [], s.hp.length, []⟩) (hp : List Blk) : drOR C o A s K (evOp C.P C.zero (s.ev C.glob) hp (.pick c x y)) := by
  simp only [evOp, h1, drOR]
  exact ⟨fun e => by subst e; exact h, fun e => by subst e; exact h⟩
theorem drGoE_imp {all : Array Oper} {K : ES → Prop} : ∀ (l : List Oper) (s : ES) (es es' : List Key), s.Ok → KeysLe es es' → drGoE C all l s es' (fun s es => bif confOk all es then K s else False) →
    drGo C all l s.as es fun s es => confOk all es = true ∧ Next K s
  | [], s, es, es', hs, hle, h => by
    simp only [drGoE] at h
    cases hc : confOk all es' with
    | false => rw [hc] at h; exact h.elim
    | true => rw [hc] at h; exact ⟨confOk_mono hle hc, s, hs, rfl, h⟩
  | o :: rest, s, es, es', hs, hle, h => by
    have ih : ∀ (s' : AS) (k : Key), NextK (fun s k => drGoE C all rest s (es' ++ [k]) (fun s es => bif confOk all es then K s else False)) s' k → drGo C all rest s' (es ++ [k]) fun s es => confOk all es = true ∧ Next K s := fun s' k ⟨s'', k', h1, h2, h3, h4⟩ => by
      have := drGoE_imp rest s'' (es ++ [k]) (es' ++ [k']) h1 (hle.snoc h3) h4
      rwa [h2] at this
    unfold drGoE at h
    show guardS all o s.as _ _
    unfold guardS
    have hev := s.ev_eq hs C.glob
    split at h
    · rename_i hg
      rw [hg]
      show drOR C o (accs C.glob s.as o.op) s.as (fun e => drGo C all rest (s.as.app e) (es ++ [e.key]) _) (evOp C.P C.zero (s.as.ev C.glob) (maskH (accs C.glob s.as o.op) 0 s.as.hp) o.op)
      refine drOR_mono (fun e k => ih _ _ k) _ ?_
      split at h
      · rename_i c x y hop
        rw [hop]
        split at h
        · rename_i sv hp
          obtain ⟨b, h1, h2⟩ := pickE_eq (glob := C.glob) hs hev hp
          rw [hev] at h1 h2
          refine pick_dr h1 ?_ _
          rw [← h2, app_nil]
          rw [forceSV_eq] at h
          exact putE_nextK (K := fun s k => drGoE C all rest s (es' ++ [k]) _) hs h
        · exact h.elim
      · rename_i hop
        rw [hev, show s.hp = s.as.hp from rfl, accsE_eq] at h
        exact drE_imp hs _ h
    · rename_i j want hg
      rw [hg]
      simp only [onGuard]
      split at h
      · rename_i d hd
        rw [hd]
        split at h
        · rename_i c hc
          obtain ⟨hc1, hc2⟩ := gcond_eq hs hc
          have key : (c = true → drOR C o (accs C.glob s.as o.op) s.as (effK (fun s k => drGoE C all rest s (es' ++ [k]) (fun s es => bif confOk all es then K s else False)) s.as) (evOp C.P C.zero (s.as.ev C.glob) (maskH (accs C.glob s.as o.op) 0 s.as.hp) o.op)) ∧
              (c = false → NextK (fun s k => drGoE C all rest s (es' ++ [k]) (fun s es => bif confOk all es then K s else False)) (s.as.put o.dst .undef) ([], [])) := by
            have hevG : c = true → s.evG C.glob d want = s.as.ev C.glob := fun e => s.evG_eq hs C.glob (by rw [← hc1, e])
            split at h
            · rename_i c0 x y hop
              rw [hop]
              split at h
              · rename_i sv hp
                rw [forceSV_eq] at h
                have := putG_nextK (K := fun s k => drGoE C all rest s (es' ++ [k]) _) (k := ([], [])) hs hc1 h
                refine ⟨fun e => ?_, this.2⟩
                obtain ⟨b, h1, h2⟩ := pickE_eq (glob := C.glob) hs (hevG e) hp
                rw [hevG e] at h1 h2
                refine pick_dr h1 ?_ _
                show NextK _ _ _
                rw [← h2, app_nil]
                exact this.1 e
              · exact h.elim
            · rename_i hop
              have := drG_imp hs hc1 _ h
              refine ⟨fun e => ?_, this.2⟩
              have k := this.1 e
              rw [hevG e, show s.hp = s.as.hp from rfl, accsE_eq] at k
              exact k
          exact onSlot_of hc1 hc2 (fun e => drOR_mono (fun e k => ih _ _ k) _ (key.1 e)) (fun e => ih _ _ (key.2 e))
        · exact h.elim
      · exact h.elim
theorem drawE_imp {all : Array Oper} {s : ES} (hs : s.Ok) {K : ES → Prop} (h : drawE C all s K) : drawVC C all s.as (Next K) := drGoE_imp _ s [] [] hs .nil h
end
end Go.Avc
