/-
  pattern.Total: it counts in a map of its own: the walk, by the kit's tactics.
-/
import Derived.Test.YtfikklbaceidfaaV6
import Derived.WalkKit
import Derived.Maps.Own
import Derived.Maps.OwnOps
import Derived.Maps.Views
import Derived.RegionTactic
import Derived.ChangeAlike
namespace Go.Proofs.Ytfikklbaceidfaa
open Go.RowKit Go.Maps Go.Proofs
set_option linter.unusedVariables false

theorem law3 : Keyed Try.prog 3 := int_keyed Try.underlying3
theorem zero3 (w : World) : (zeroValue 3).run Try.prog w = .ok (.int .i64 0) w := by kernel_rfl
def wf64 (n : Int) : Prop := (Lit.int .i64 n).wf = true
/-- What a map of counts reads as. -/
def Cnts {H : Type} (D : DataW H) (f : Int → Int) : Prop := IsMap D ∧ ∀ q, wf64 q → D.atKey (.int .i64 q) (.lit (.int .i64 0)) = .lit (.int .i64 (f q))
def totN (its : Nat → It) : Nat → Int → Int
  | 0, _ => 0
  | n + 1, q => totN its n q + cnt q (its n)
theorem tot_in (its : Nat → It) (q : Int) : ∀ n, 0 ≤ totN its n q ∧ totN its n q ≤ 1048576 * n
  | 0 => ⟨Int.le_refl _, Int.le_refl _⟩
  | n + 1 => by
    have := tot_in its q n
    have h : 0 ≤ cnt q (its n) ∧ cnt q (its n) ≤ 1048576 := by unfold cnt; split <;> omega
    unfold totN
    omega
theorem cnts_put {H : Type} {D : DataW H} {its : Nat → It} {k : Nat} {c : Int} (h : Cnts D (totN its k)) (hk : k < 100000000) (hw : wf64 (its k).k) (h1 : ¬ (its k).c ≤ 0) (h2 : (its k).c ≤ 1048576)
    (hat : D.atKey (.int .i64 (its k).k) (.lit (.int .i64 0)) = .lit (.int .i64 c)) : Cnts (D.put (.int .i64 (its k).k) (.lit (.int .i64 (wrap64 (c + (its k).c))))) (totN its (k + 1)) := by
  refine ⟨h.1.put _ _, fun q hq => ?_⟩
  have hc := h.2 _ hw
  rw [hat] at hc
  simp only [DataW.lit.injEq, Lit.int.injEq, true_and] at hc
  have hb := tot_in its (its k).k k
  by_cases e : q = (its k).k
  · subst e
    rw [atKey_put_same h.1 (law3.key (keyOf_int_mk Try.underlying3 hw)), show wrap64 (c + (its k).c) = c + (its k).c from by unfold wrap64; omega]
    show _ = DataW.lit (.int .i64 (totN its k (its k).k + cnt (its k).k (its k)))
    rw [hc, cnt_pos ⟨rfl, by omega, h2⟩]
  · rw [atKey_put_other (by simpa using e), h.2 q hq]
    show _ = DataW.lit (.int .i64 (totN its k q + cnt q (its k)))
    rw [show cnt q (its k) = 0 from if_neg fun h => e h.1.symm, Int.add_zero]
theorem cnts_same {H : Type} {D : DataW H} {its : Nat → It} {k : Nat} (h : Cnts D (totN its k)) (h1 : (its k).c ≤ 0 ∨ ¬ (its k).c ≤ 1048576) : Cnts D (totN its (k + 1)) := by
  refine ⟨h.1, fun q hq => ?_⟩
  rw [h.2 q hq]
  show _ = DataW.lit (.int .i64 (totN its k q + cnt q (its k)))
  rw [show cnt q (its k) = 0 from if_neg fun h => by omega, Int.add_zero]
set_option maxRecDepth 100000 in
theorem walk37 {H : Type} (b off len cap : Nat) (its : Nat → It) (w : World) (hreach : len ≤ 100000000) (hb : b < w.heap.size)
    (hc : ∀ j, j < len → w.cell? ⟨b, off + j * 4, none⟩ = some (.int .i64 (its j).k) ∧ w.cell? ⟨b, off + j * 4 + 1, none⟩ = some (.int .i64 (its j).t) ∧ w.cell? ⟨b, off + j * 4 + 2, none⟩ = some (.int .i64 (its j).c) ∧ w.cell? ⟨b, off + j * 4 + 3, none⟩ = some (.string ⟨(its j).l.toArray⟩))
    (hwz : ∀ j, j < len → wf64 (its j).k) :
    Calls Try.prog 37 #[.slice (some ⟨b, off, none⟩) len cap] w fun e w' => e = .returned (.tuple #[.int .i64 (totN its len 1), .int .i64 (totN its len 2)]) ∧ Below w.heap.size w w' := by
  have hmm := @run_makeMap Try.prog
  go_enter Try.func37, Try.ntmps37
  go_wp2
  go_loopw [10] (fun i wr => ∃ (k : Nat) (D : DataW H), k ≤ len ∧ i = .int .i64 k ∧ wr.ownsMap Try.prog 3 (plainElem Try.prog 3) w.heap.size k D ∧ Below w.heap.size w wr ∧ Cnts D (totN its k))
    (fun i _ => len - (intOf i).toNat)
  case atStart => exact ⟨0, _, Nat.zero_le _, rfl, World.ownsMap_made _ _ _ _, (Below.refl _ _).alloc (Nat.le_refl _) _, isMap_empty, fun q _ => rfl⟩
  case round =>
    obtain ⟨k, D, hk, rfl, hown, hnx, hcn⟩ := hrel
    by_cases hlt : k < len
    · obtain ⟨c0, c1, c2, c3⟩ := hc k hlt
      have d0 : wr.cell? ⟨b, off + k * 4, none⟩ = some (.int .i64 (its k).k) := (hnx.cell (by exact hb)).trans c0
      have d1 : wr.cell? ⟨b, off + k * 4 + 1, none⟩ = some (.int .i64 (its k).t) := (hnx.cell (by exact hb)).trans c1
      have d2 : wr.cell? ⟨b, off + k * 4 + 2, none⟩ = some (.int .i64 (its k).c) := (hnx.cell (by exact hb)).trans c2
      have d3 : wr.cell? ⟨b, off + k * 4 + 3, none⟩ = some (.string ⟨(its k).l.toArray⟩) := (hnx.cell (by exact hb)).trans c3
      clear c0 c1 c2 c3
      go_wp2_with (first
        | (at_lookup; refine wpList_lookup_own_int _ rfl _ _ 92 rfl 3 3 .i64 law3 Try.underlying92 Try.underlying3 (zero3 _) w.heap.size k D rfl (hown.alloc _) _ _ rfl (keyOf_int_mk Try.underlying3 (hwz k hlt)) ?_; intro c hat hwc)
        | (at_mapUpdate; refine wpList_mapUpdate_own _ rfl _ _ _ 92 rfl 3 3 law3 Try.underlying92 _ w.heap.size k D rfl (hown.alloc _) (by unfold maxLen; omega) _ _ _ rfl rfl (keyOf_int_mk Try.underlying3 (hwz k hlt)) _ [] (plainElem_int Try.underlying3 (wrap64_wf _)) ?_; intro w1 hown1 hgrow1)
        | go_in)
      all_goals go_roundw
      case measure => simp [intOf]; omega
      case measure => simp [intOf]; omega
      case measure => simp [intOf]; omega
      case rel => exact ⟨k + 1, _, by omega, by go_num, hown1, (hnx.alloc hnx.size _).grown hgrow1 (Nat.le_trans hnx.size (by simp)) (fun j hj => by cases hj; exact Nat.le_refl _), cnts_put hcn (by omega) (hwz k hlt) (by omega) (by omega) hat⟩
      case rel => exact ⟨k + 1, D, by omega, by go_num, (hown.alloc _).mono (by omega), hnx.alloc hnx.size _, cnts_same hcn (by omega)⟩
      case rel => exact ⟨k + 1, D, by omega, by go_num, (hown.alloc _).mono (by omega), hnx.alloc hnx.size _, cnts_same hcn (by omega)⟩
    · have : k = len := by omega
      subst this
      obtain ⟨c1, r1, a1, _⟩ := hown.drew.lookup_int law3 Try.underlying92 Try.underlying3 (zero3 _) (key := .int .i64 1) (keyOf_int_mk Try.underlying3 (by decide))
      obtain ⟨c2, r2, a2, _⟩ := hown.drew.lookup_int law3 Try.underlying92 Try.underlying3 (zero3 _) (key := .int .i64 2) (keyOf_int_mk Try.underlying3 (by decide))
      rw [hcn.2 1 (by unfold wf64; decide)] at a1
      rw [hcn.2 2 (by unfold wf64; decide)] at a2
      simp only [DataW.lit.injEq, Lit.int.injEq, true_and] at a1 a2
      rw [← a1] at r1
      rw [← a2] at r2
      clear a1 a2
      go_wp2
      go_region
      go_wp2
      go_ret2
      exact ⟨rfl, hnx.drew⟩
set_option maxRecDepth 100000 in
theorem walk37_none (a : Option Addr) (cap : Nat) (w : World) :
    Calls Try.prog 37 #[.slice a 0 cap] w fun e w' => e = .returned (.tuple #[.int .i64 0, .int .i64 0]) ∧ Below w.heap.size w w' := by
  have hmm := @run_makeMap Try.prog
  have hown : ((w.alloc (.map #[] 0)).drew).ownsMap Try.prog 3 (plainElem (H := Nat) Try.prog 3) w.heap.size 0 (.map []) := (World.ownsMap_made _ _ _ _).drew
  obtain ⟨c1, r1, a1, _⟩ := hown.lookup_int law3 Try.underlying92 Try.underlying3 (zero3 _) (key := .int .i64 1) (keyOf_int_mk Try.underlying3 (by decide))
  obtain ⟨c2, r2, a2, _⟩ := hown.lookup_int law3 Try.underlying92 Try.underlying3 (zero3 _) (key := .int .i64 2) (keyOf_int_mk Try.underlying3 (by decide))
  obtain rfl : 0 = c1 := by
    have : (DataW.lit (.int .i64 0) : DataW Nat) = .lit (.int .i64 c1) := a1
    simpa using this
  obtain rfl : 0 = c2 := by
    have : (DataW.lit (.int .i64 0) : DataW Nat) = .lit (.int .i64 c2) := a2
    simpa using this
  clear a1 a2 hown
  go_enter Try.func37, Try.ntmps37
  go_wp2
  refine wp_loop_rounds 1 ?_
  rw [rounds_succ]
  go_wp2
  go_region
  go_wp2
  go_ret2
  exact ⟨rfl, ((Below.refl _ _).alloc (Nat.le_refl _) _).drew⟩

/-! ### Its contract -/
open Go.Avc
def pre37 (l : List (List CD)) : Prop := preL l ∧ ∀ x ∈ itsOf l, wf64 x.k
def ct37 : Ct := { ps := [.rd itemE], bs := [], pre := fun | [.r l] => pre37 l | _ => False, res := fun | [.r l] => .ret (.tup [i64, i64]) [] [.i (tot (itsOf l) 1), .i (tot (itsOf l) 2)] | _ => noRes }
theorem cells_its {Im : Nat → Prop} {w : World} : ∀ {l : List (List CD)} {xs : List Value}, FlatRel Im w itemE l xs → ∀ j, j < l.length →
    xs[j * 4]? = some (.int .i64 (itRow (l.getD j [])).k) ∧ xs[j * 4 + 1]? = some (.int .i64 (itRow (l.getD j [])).t) ∧ xs[j * 4 + 2]? = some (.int .i64 (itRow (l.getD j [])).c) ∧ xs[j * 4 + 3]? = some (.string ⟨(itRow (l.getD j [])).l.toArray⟩)
  | _, _, .nil _, j, h => by simp at h
  | _, _, .cons _ row vs l xs h1 h2, j, h => by
    cases h1 with
    | cons _ _ v1 _ _ _ g1 r1 => cases r1 with
      | cons _ _ v2 _ _ _ g2 r2 => cases r2 with
        | cons _ _ v3 _ _ _ g3 r3 => cases r3 with
          | cons _ _ v4 _ _ _ g4 r4 =>
            cases r4; cases g1; cases g2; cases g3; cases g4
            cases j with
            | zero => exact ⟨rfl, rfl, rfl, rfl⟩
            | succ j =>
              have := cells_its h2 j (by simpa using h)
              simp only [List.cons_append, List.nil_append, List.getD_cons_succ, show (j + 1) * 4 = j * 4 + 1 + 1 + 1 + 1 from by omega, show j * 4 + 1 + 1 + 1 + 1 + 1 = j * 4 + 1 + 1 + 1 + 1 + 1 from rfl, show j * 4 + 1 + 1 + 1 + 1 + 2 = (j * 4 + 2) + 1 + 1 + 1 + 1 from by omega, show j * 4 + 1 + 1 + 1 + 1 + 3 = (j * 4 + 3) + 1 + 1 + 1 + 1 from by omega, List.getElem?_cons_succ]
              exact this
theorem tot_snoc (q : Int) (x : It) : ∀ l : List It, tot (l ++ [x]) q = tot l q + cnt q x
  | [] => by simp [tot]
  | y :: l => by simp only [List.cons_append, tot, tot_snoc q x l]; omega
theorem totN_tot (l : List (List CD)) (q : Int) : ∀ n, n ≤ l.length → totN (fun j => itRow (l.getD j [])) n q = tot ((itsOf l).take n) q
  | 0, _ => rfl
  | n + 1, h => by
    rw [its_take (by omega), tot_snoc, ← totN_tot l q n (by omega)]
    rfl
theorem tot_all (l : List (List CD)) (q : Int) : totN (fun j => itRow (l.getD j [])) l.length q = tot (itsOf l) q := by
  rw [totN_tot l q _ (Nat.le_refl _), List.take_of_length_le (by rw [itsOf_length]; exact Nat.le_refl _)]
theorem calls37 {Im : Nat → Prop} {w : World} {l : List (List CD)} {v : Value} (h : CRel Im w (.sl itemE) (.sl l) v) (hIm : ∀ i, Im i → i < w.heap.size) (hp : pre37 l) :
    Calls Try.prog 37 #[v] w fun e w' => e = .returned (.tuple #[.int .i64 (tot (itsOf l) 1), .int .i64 (tot (itsOf l) 2)]) ∧ Below w.heap.size w w' := by
  cases h with
  | sl0 _ a cap _ => exact walk37_none a cap w
  | sl _ _ ad cap xs h1 h2 h3 h4 h5 =>
    rcases Nat.eq_zero_or_pos l.length with h0 | h0
    · have : l = [] := List.length_eq_zero_iff.1 h0
      subst this
      exact walk37_none (some ad) cap w
    · have hc := cells_its h4
      have hspot : ad.spot = none := by
        have := h5 0 _ (by have := (hc 0 h0).1; simpa using this)
        have := spot_of_cell this (.inl rfl)
        simpa [Addr.add] using this
      obtain ⟨b, off, sp⟩ := ad
      simp only at hspot
      subst hspot
      have hadd : ∀ n, (⟨b, off, none⟩ : Addr).add n = ⟨b, off + n, none⟩ := fun n => by simp [Addr.add]
      have := walk37 (H := Nat) b off l.length cap (fun j => itRow (l.getD j [])) w hp.1 (hIm _ h3) (fun j hj => by
        obtain ⟨c0, c1, c2, c3⟩ := hc j hj
        have e0 := h5 _ _ c0
        have e1 := h5 _ _ c1
        have e2 := h5 _ _ c2
        have e3 := h5 _ _ c3
        rw [hadd] at e0 e1 e2 e3
        exact ⟨e0, e1, e2, e3⟩) (fun j hj => hp.2 _ (by
          have := its_drop hj
          have h6 : itRow (l.getD j []) ∈ (itsOf l).drop j := by rw [this]; exact List.mem_cons_self ..
          exact List.mem_of_mem_drop h6))
      rw [tot_all, tot_all] at this
      exact this
theorem ok37 {C : Ctx} (hC : C.Ok) (hP : C.P = Try.prog) : SpecOk C 37 (mkF ct37) := by
  intro svs hp K R h E Im ι w vs hm hRn hv
  unfold mkF at h
  split at h
  · rename_i svs' hpl ds m hw
    split at h
    · rename_i σ hσ
      obtain ⟨hpre, h⟩ := h
      obtain ⟨ds1, ds2, m1, rfl, h1, h2, h3, h4⟩ := weakL_all hw
      have f1 := convs_le (D := noneAt ct37.bs) h1
      have f2 := convBs_le (D := noneAt ct37.bs) h2
      have fine := fine_of f1 f2 h3 h4
      have hlenB : hpl.length = ct37.bs.length := (convBs_all h2).2.2
      obtain ⟨hσl, hσs⟩ := sigma_spec hσ
      have hvl := convs_rel hm.hv fine.ok h1 f2.1 hv
      have hm0 : Mem C ⟨w, Im, fun _ => none, fun r => ∃ b v, ι b = some v ∧ live (hp.getD b .none) = true ∧ foot v = some r⟩ hp Im ι w :=
        ⟨hm.hv, ⟨hm.mr.imlt, hm.mr.imm, hm.mr.sep, fun b v r a1 a2 a3 => .inr ⟨b, v, a2, a1, a3⟩⟩, ⟨rfl, rfl, rfl, Nat.le_refl _, fun _ _ _ => rfl, (fun b v h => by cases h), fun _ h => h, fun _ h => .inl h⟩, hm.glob⟩
      have hm1 := weak_mem hm0 fine hlenB (fun j v hj => by
        have := convBs_rel hm.hv fine.ok h2 (.refl _) j v (by rw [Nat.zero_add]; exact hj)
        rwa [Nat.zero_add] at this) (fun j hj => convBs_none h2 j hj) (fun _ _ => rfl) hC.globE
      have hfine : ∀ i, ct37.bs.length ≤ i → ιW ι m i = none := fun i hi => ιW_lt fine hi
      have hml : Mem C ⟨w, ImW Im ι hp m, ιW ι m, fun r => ∃ i v, i < ct37.bs.length ∧ ιW ι m i = some v ∧ live (hpl.getD i .none) = true ∧ foot v = some r⟩ hpl (ImW Im ι hp m) (ιW ι m) w := by
        refine ⟨hm1.hv, ⟨hm1.mr.imlt, hm1.mr.imm, hm1.mr.sep, fun b v r a1 a2 a3 => .inr ⟨b, v, ?_, a2, a1, a3⟩⟩, ⟨rfl, rfl, rfl, Nat.le_refl _, fun _ _ _ => rfl, fun _ _ h => h, fun _ h => h, fun _ h => .inl h⟩, hm1.glob⟩
        rcases Nat.lt_or_ge b ct37.bs.length with hlt | hge
        · exact hlt
        · rw [hfine b hge] at a2; cases a2
      obtain ⟨l, rfl, rfl⟩ : ∃ l, svs' = [.rd itemE l] ∧ ds1 = [.r l] := (convs_all h1).1 (fun svs ds => ∃ l, svs = [.rd itemE l] ∧ ds = [.r l]) (fun l => ⟨l, rfl, rfl⟩)
      obtain ⟨rfl, rfl⟩ : hpl = [] ∧ ds2 = [] := (convBs_all h2).1 (fun hp ds => hp = [] ∧ ds = []) ⟨rfl, rfl⟩
      obtain ⟨v, vs', rfl, hv1, hv2⟩ := hvl
      have hv2' : vs' = [] := hv2
      subst hv2'
      have hbody : Calls C.P 37 #[v] w (ResPost C ⟨w, ImW Im ι hp m, ιW ι m, fun r => ∃ i v, i < ct37.bs.length ∧ ιW ι m i = some v ∧ live (([] : List Blk).getD i .none) = true ∧ foot v = some r⟩ (ImW Im ι hp m) (ιW ι m) w 0 (.ret (.tup [i64, i64]) [] [.i (tot (itsOf l) 1), .i (tot (itsOf l) 2)])) := by
        rw [hP]
        refine (calls37 hv1 hml.mr.imlt hpre).mono ?_
        rintro e w' ⟨rfl, bel⟩
        have hg : w.grownBy w' none := ⟨bel.os, bel.tape, bel.output, bel.size, fun k hk _ => bel.block k hk⟩
        have hs := Mem.same hml hg
        exact ⟨_, _, _, [], [], rfl, rfl, rfl, ⟨_, rfl, _, _, rfl, rfl, _, _, rfl, rfl, rfl⟩, hs.1, rfl, fun b _ => hfine b (Nat.zero_le _), hs.2, Nat.le_refl _, fun b _ => rfl⟩
      have ok0 : m.Ok (fun _ => False) := (convBs_le h2).2 ((convs_le h1).2 ⟨fun i h => (by cases h), fun i b h => (by cases h)⟩)
      have hinj : ∀ i b, i < ct37.bs.length → rhoI m.ρ i = some b → rhoB m.β b = some i := fun i b _ hb => (ok0.inj i b hb).resolve_left id
      refine .inl ⟨by rw [hP]; exact Try.call37 _ _, Calls.mono hbody fun e w' hp0 => ?_⟩
      · exact lift_post hC hm hinj fine.apart (fun j hj => by have := hσs j hj; rwa [Nat.zero_add] at this) hσl hfine hRn _ h hp0 fun i v a1 a2 a3 => by
          have := (hσs i a3).2
          exact this
    · exact h.elim
  · exact h.elim
end Go.Proofs.Ytfikklbaceidfaa
