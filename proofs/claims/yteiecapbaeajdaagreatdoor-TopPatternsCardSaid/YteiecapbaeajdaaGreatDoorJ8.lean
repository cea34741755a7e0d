/-
  The field's product, and its bytes: the conditions are met.
-/
import Derived.Test.YteiecapbaeajdaaGreatDoorJ7
import Derived.Laws.MathBits
namespace Go.Proofs.YteiecapbaeajdaaGreatDoor
open Go Go.Avc Go.Proofs
set_option linter.unusedVariables false
set_option linter.unusedSimpArgs false
set_option maxRecDepth 100000
theorem liL_w (a x y c : Int) : isW (liL a x y c) := by unfold isW liL; omega
theorem liH_w {a x y c : Int} (ha : isW a) (hx : isW x) (hy : isW y) (hc : isW c) : isW (liH a x y c) := by
  have := line_w ha hx hy hc
  unfold isW liH; omega
theorem wr_w (n : Int) : isW (IntKind.u64.wrap n) := by rw [wrapW]; unfold isW; omega
theorem muN_ok {x : Int} {b t : List Int} (hx : isW x) (hb : areW b) (ht : areW t) : ∀ j, areW (muN x b t j).1 ∧ isW (muN x b t j).2
  | 0 => ⟨ht, isW0⟩
  | j + 1 => ⟨areW_set (muN_ok hx hb ht j).1 (liL_w _ _ _ _) j, liH_w ((muN_ok hx hb ht j).1 j) hx (hb j) (muN_ok hx hb ht j).2⟩
theorem reN_ok {k c : Int} {t : List Int} (hk : isW k) (hc : isW c) (ht : areW t) : ∀ n, areW (reN k t c n).1 ∧ isW (reN k t c n).2
  | 0 => ⟨ht, hc⟩
  | n + 1 => ⟨areW_set (reN_ok hk hc ht n).1 (liL_w _ _ _ _) n, liH_w ((reN_ok hk hc ht n).1 (n + 1)) hk (areW_p (n + 1)) (reN_ok hk hc ht n).2⟩
theorem u1_ok {x : Int} {b t : List Int} (hx : isW x) (hb : areW b) (ht : areW t) : areW (u1 x b t) := areW_set (muN_ok hx hb ht 4).1 (wr_w _) 4
theorem adC_w {x y c : Int} (hx : isW x) (hy : isW y) (hc : 0 ≤ c ∧ c ≤ 1) : isW (adC x y c) := by
  have := adC_b hx hy hc
  unfold isW; omega
theorem r1_ok {t : List Int} (ht : areW t) : areW (r1 t).1 ∧ isW (r1 t).2 := reN_ok (wr_w _) (liH_w (ht 0) (wr_w _) (areW_p 0) isW0) ht 3
theorem stW_ok {x : Int} {b t : List Int} (hx : isW x) (hb : areW b) (ht : areW t) : areW (stW x b t) := by
  have h := r1_ok (u1_ok hx hb ht)
  exact areW_set (areW_set h.1 (adS_w _ _ _) 3) (adC_w (h.1 4) h.2 ⟨by omega, by omega⟩) 4
theorem areW_05 : areW [0, 0, 0, 0, 0] := fun j => by
  match j with
  | 0 => exact isW0
  | 1 => exact isW0
  | 2 => exact isW0
  | 3 => exact isW0
  | 4 => exact isW0
  | _ + 5 => exact isW0
theorem prN_ok {a b : List Int} (ha : areW a) (hb : areW b) : ∀ i, areW (prN a b i)
  | 0 => areW_05
  | i + 1 => stW_ok (ha i) hb (prN_ok ha hb i)
theorem areW_take {s : List Int} (h : areW s) (n : Nat) : areW (s.take n) := fun j => by
  rw [List.getD_eq_getElem?_getD, List.getElem?_take]
  split
  · rw [← List.getD_eq_getElem?_getD]; exact h j
  · exact isW0
theorem belW_ok {a : List Int} (ha : areW a) : areW (belW a) := by
  unfold belW
  split
  · exact (boN_ok a pW 4).1
  · exact ha
theorem prW_ok {a b : List Int} (ha : areW a) (hb : areW b) : areW (prW a b) := belW_ok (areW_take (prN_ok ha hb 4) 4)
theorem areW_1 : areW [1, 0, 0, 0] := fun j => by
  match j with
  | 0 => exact ⟨by decide, by decide⟩
  | 1 => exact isW0
  | 2 => exact isW0
  | 3 => exact isW0
  | _ + 4 => exact isW0
theorem sqN_ok : ∀ i, areW (sqN i)
  | 0 => areW_1
  | i + 1 => belW_ok (plN_ok (sqN_ok i) (sqN_ok i) 4).1
theorem vc149 : P149 := by
  rintro a b _ _ ⟨wa, wb⟩
  refine ⟨trivial, trivial, ⟨⟨rfl, rfl, by omega, by omega, rfl, rfl, rfl⟩, trivial⟩, ?_⟩
  rintro v a' n e b' o p t _ _ _ _ _ hlt ⟨rfl, rfl, h0, h1, rfl, hp, rfl⟩
  have hp : p = pW := hp
  obtain ⟨i, rfl⟩ := Int.eq_ofNat_of_zero_le h0
  rw [Int.toNat_natCast, Nat.mul_one]
  refine condI (fun h => ?_) fun h => ?_
  · simp only [decide_eq_true_eq] at h
    have wt := prN_ok wa wb i
    refine ⟨⟨h0, h, by omega⟩, ⟨⟨rfl, rfl, rfl, rfl, rfl, by omega, by omega, rfl, rfl, rfl, rfl⟩, trivial⟩, ?_⟩
    rintro v2 x c a2 i2 b2 j e2 f2 o2 p2 t2 _ _ _ _ _ _ ht2 ⟨rfl, rfl, rfl, rfl, rfl, j0, j1, rfl, rfl, rfl, rfl⟩
    obtain ⟨j, rfl⟩ := Int.eq_ofNat_of_zero_le j0
    rw [Int.toNat_natCast, Nat.mul_one]
    have wm := muN_ok (wa i) wb wt
    refine condI (fun h2 => ?_) fun h2 => ?_
    · simp only [decide_eq_true_eq] at h2
      refine ⟨⟨j0, h2, by omega⟩, ⟨j0, by omega⟩, by omega, ⟨(wm j).1 j, wa i, wb j, (wm j).2⟩, ⟨j0, by omega⟩, by omega, ⟨by omega, by omega⟩, ⟨rfl, rfl, rfl, rfl, rfl, by omega, by omega, rfl, rfl, ?_, ?_⟩, by omega⟩
      · rw [show ((j : Int) + 1).toNat = j + 1 from by omega]; rfl
      · rw [show ((j : Int) + 1).toNat = j + 1 from by omega]; rfl
    · simp only [decide_eq_false_iff_not] at h2
      have e4 : j = 4 := by omega
      subst e4
      have wU : areW (u1 (gI a2 i) f2 (prN a2 f2 i)) := u1_ok (wa i) wb wt
      have hst : prN a2 f2 (i + 1) = f5 (r1 (u1 (gI a2 i) f2 (prN a2 f2 i))) := rfl
      rw [show (muN (a2.getD i 0) f2 (prN a2 f2 i) 4).1.set 4 (IntKind.u64.wrap ((muN (a2.getD i 0) f2 (prN a2 f2 i) 4).1.getD 4 0 + (muN (a2.getD i 0) f2 (prN a2 f2 i) 4).2)) = u1 (gI a2 i) f2 (prN a2 f2 i) from rfl]
      generalize u1 (gI a2 i) f2 (prN a2 f2 i) = U at *
      rw [show IntKind.u64.wrap (U.getD 0 0 * inv) = kW U from rfl]
      have wk : isW (kW U) := wr_w _
      have wl : isW (liH (U.getD 0 0) (kW U) (p2.getD 0 0) 0) := by rw [hp]; exact liH_w (wU 0) wk (areW_p 0) isW0
      refine ⟨⟨by omega, by omega⟩, by omega, ⟨by omega, by omega⟩, by omega, ⟨by omega, by omega⟩, by omega, ⟨by omega, by omega⟩, by omega, ⟨by omega, by omega⟩, by omega, ⟨wU 0, wk, by rw [hp]; exact areW_p 0, isW0⟩, ⟨⟨rfl, rfl, rfl, rfl, by omega, by omega, rfl, rfl, rfl, rfl⟩, trivial⟩, ?_⟩
      rintro v3 c3 k3 j3 a3 i3 e3 f3 o3 p3 t3 _ _ _ _ _ ht3 ⟨rfl, rfl, rfl, rfl, g0, g1, rfl, rfl, rfl, rfl⟩
      obtain ⟨m, rfl⟩ : ∃ m : Nat, j3 = m + 1 := ⟨(j3 - 1).toNat, by omega⟩
      have wr := reN_ok wk wl wU
      rw [show ((m : Int) + 1).toNat = m + 1 from by omega, Nat.mul_one, Nat.add_sub_cancel]
      refine condI (fun h3 => ?_) fun h3 => ?_
      · simp only [decide_eq_true_eq] at h3
        have em : ((m : Int) + 1 - 1).toNat * 1 = m := by omega
        refine ⟨⟨by omega, by omega⟩, ⟨by omega, by omega⟩, by omega, ⟨by omega, by omega⟩, by omega, ⟨(wr m).1 (m + 1), wk, by rw [hp]; exact areW_p (m + 1), (wr m).2⟩, ⟨by omega, by omega⟩, by omega, ⟨by omega, by omega⟩, ⟨rfl, rfl, rfl, rfl, by omega, by omega, rfl, rfl, ?_, ?_⟩, by omega⟩
        · rw [em, show ((m : Int) + 1 + 1).toNat - 1 = m + 1 from by omega, hp]; rfl
        · rw [show ((m : Int) + 1 + 1).toNat - 1 = m + 1 from by omega, hp]; rfl
      · simp only [decide_eq_false_iff_not] at h3
        have e3 : m = 3 := by omega
        subst e3
        refine ⟨⟨by omega, by omega⟩, by omega, ⟨(wr 3).1 4, (wr 3).2, by omega, by omega⟩, ⟨by omega, by omega⟩, by omega, ⟨by omega, by omega⟩, by omega, ⟨by omega, by omega⟩, ⟨rfl, rfl, by omega, by omega, rfl, hp, ?_⟩, by omega⟩
        rw [show ((i : Int) + 1).toNat = i + 1 from by omega, hst, hp]
        rfl
  · simp only [decide_eq_false_iff_not] at h
    have e4 : i = 4 := by omega
    subst e4
    exact ⟨⟨by omega, by omega, by omega, by omega⟩, by omega, by omega, areW_take (prN_ok wa wb 4) 4, rfl⟩
theorem ok149 : SpecOk (base.with sp188) 149 (mkF ct149) := spec_ct (fn := Tryz.f149) (c := bodyOf Tryz.f149) (k := Tryz.f149.ntmps - ct149.ps.length) (ct := ct149) c188 Tryz.func149 (by kernel_rfl) ann149 (by kernel_rfl) (fun vs w _ => Tryz.call149 vs w) (by rw [e149]; exact vc149)
theorem c149 : (base.with sp149).Ok := addS_ok c188 ok149
theorem muN_len (x : Int) (b t : List Int) : ∀ j, (muN x b t j).1.length = t.length
  | 0 => rfl
  | j + 1 => by rw [muN, List.length_set, muN_len x b t j]
theorem reN_len (k : Int) (t : List Int) (c : Int) : ∀ n, (reN k t c n).1.length = t.length
  | 0 => rfl
  | n + 1 => by rw [reN, List.length_set, reN_len k t c n]
theorem prN_len (a b : List Int) : ∀ i, (prN a b i).length = 5
  | 0 => rfl
  | i + 1 => by
    show (f5 (r1 (u1 (gI a i) b (prN a b i)))).length = 5
    unfold f5 r1 u1
    rw [List.length_set, List.length_set, reN_len, List.length_set, muN_len, prN_len a b i]
theorem boN_len (a b : List Int) : ∀ i, (boN a b i).1.length = 4
  | 0 => rfl
  | i + 1 => by rw [boN, List.length_set, boN_len a b i]
theorem belW_len {a : List Int} (h : a.length = 4) : (belW a).length = 4 := by
  unfold belW
  split
  · exact boN_len _ _ 4
  · exact h
theorem prW_len (a b : List Int) : (prW a b).length = 4 := belW_len (by rw [List.length_take, prN_len]; rfl)
theorem ws_w (l : List (List CD)) : ∀ n, areW (wsN l n)
  | 0 => fun j => by
    rw [wsN, List.getD_eq_getElem?_getD, List.getElem?_replicate]
    split <;> exact isW0
  | n + 1 => areW_set (ws_w l n) (or_isW _ _) _
theorem vc139 : P139 := by
  intro a _ wa
  refine ⟨⟨⟨by omega, by omega, rfl, rfl⟩, trivial⟩, ?_⟩
  rintro n a' o s _ _ _ ⟨h0, h1, rfl, rfl⟩
  obtain ⟨i, rfl⟩ := Int.eq_ofNat_of_zero_le h0
  rw [Int.toNat_natCast]
  refine condI (fun h => ?_) fun h => ?_
  · simp only [decide_eq_true_eq] at h
    refine ⟨⟨sqN_ok i, sqN_ok i⟩, (plN_ok (sqN_ok i) (sqN_ok i) 4).1, ⟨by omega, by omega⟩, ⟨by omega, by omega, rfl, ?_⟩, by omega⟩
    rw [show ((i : Int) + 1).toNat = i + 1 from by omega]
    rfl
  · simp only [decide_eq_false_iff_not] at h
    rw [show i = 512 from by omega]
    exact ⟨⟨wa, sqN_ok _⟩, rfl⟩
theorem ok139 : SpecOk (base.with sp149) 139 (mkF ct139) := spec_ct (fn := Tryz.f139) (c := bodyOf Tryz.f139) (k := Tryz.f139.ntmps - ct139.ps.length) (ct := ct139) c149 Tryz.func139 (by kernel_rfl) ann139 (by kernel_rfl) (fun vs w _ => Tryz.call139 vs w) (by rw [e139]; exact vc139)
theorem c139 : (base.with sp139).Ok := addS_ok c149 ok139
theorem vc101 : P101 := fun a _ wa => ⟨⟨wa, areW_1⟩, rfl⟩
theorem ok101 : SpecOk (base.with sp139) 101 (mkF ct101) := spec_ct (fn := Tryz.f101) (c := bodyOf Tryz.f101) (k := Tryz.f101.ntmps - ct101.ps.length) (ct := ct101) c139 Tryz.func101 (by kernel_rfl) noAnn (by kernel_rfl) (fun vs w _ => Tryz.call101 vs w) (by rw [e101]; exact vc101)
theorem c101 : (base.with sp101).Ok := addS_ok c139 ok101
theorem leW_len (a : List Int) : (leW a).length = 4 := prW_len _ _
theorem leW_ok {a : List Int} (h : areW a) : areW (leW a) := prW_ok h areW_1
theorem vc63 : P63 := by
  intro a _ wa
  have hl := leW_len a
  have hw := leW_ok wa
  unfold elB
  rw [List.drop_zero, List.take_of_length_le (Nat.le_of_eq hl)]
  generalize leW a = L at *
  have e : L.map (fun x => [CD.int x]) = L.map row1 := rfl
  rw [e]
  have el : (L.map row1).length = 4 := by rw [List.length_map, hl]
  have ef : rv (L.map row1) = fun i => gI L i := funext fun i => rv_row1 L i
  rw [el, ef]
  have e32 : (bysN (fun i => gI L i) 4).length = 32 := bys_len _ 4
  have e32' : 32 ≤ ((bysN (fun i => gI L i) 4).map row1).length := by rw [List.length_map, e32]; exact Nat.le_refl _
  refine ⟨wa, ⟨by omega, by omega, by omega, by omega⟩, ⟨by omega, fun i => by rw [rv_row1]; exact hw i⟩, e32', e32', ?_⟩
  exact row1_whole e32
theorem ok63 : SpecOk (base.with sp101) 63 (mkF ct63) := spec_ct (fn := Tryz.f63) (c := bodyOf Tryz.f63) (k := Tryz.f63.ntmps - ct63.ps.length) (ct := ct63) c101 Tryz.func63 (by kernel_rfl) noAnn (by kernel_rfl) (fun vs w _ => Tryz.call63 vs w) (by rw [e63]; exact vc63)
theorem c63 : (base.with sp63).Ok := addS_ok c101 ok63
theorem vc177 : P177 := by
  intro l hl hb _
  refine condI (fun h => ?_) fun h => ?_
  · have h' : l.length ≠ 32 := fun e => (of_decide_eq_true h) (by rw [e]; rfl)
    rw [decide_eq_true h']
    exact ⟨rfl, rfl⟩
  · have h' : l.length = 32 := by
      have := of_decide_eq_false h
      omega
    have hd : decide (l.length ≠ 32) = false := decide_eq_false fun h => h h'
    rw [hd, h']
    have hw : (wsN l 32).length = 4 := by rw [ws_len, h']
    have ew : List.map (fun r => (r.getD 0 (CD.int 0)).toInt) (List.take 4 (List.drop 0 ((wsN l 32).map row1))) = w32 l := row1_whole hw
    rw [ew]
    have h4 : 4 ≤ ((wsN l 32).map row1).length := by rw [List.length_map, hw]; exact Nat.le_refl _
    have w1 : areW (w32 l) := by unfold w32; exact ws_w l 32
    generalize w32 l = W at *
    refine ⟨⟨by omega, hb⟩, h4, h4, trivial, ⟨w1, areW_p⟩, condI (fun h2 => ?_) fun h2 => ⟨w1, ?_⟩⟩
    · have h2' : decide ((boN W pW 4).2 = 0) = true := h2
      rw [h2]
      exact ⟨rfl, rfl⟩
    · have h2' : decide ((boN W pW 4).2 = 0) = false := h2
      rw [h2]
      exact ⟨rfl, rfl⟩
theorem ok177 : SpecOk (base.with sp63) 177 (mkF ct177) := spec_ct (fn := Tryz.f177) (c := bodyOf Tryz.f177) (k := Tryz.f177.ntmps - ct177.ps.length) (ct := ct177) c63 Tryz.func177 (by kernel_rfl) noAnn (by kernel_rfl) (fun vs w _ => Tryz.call177 vs w) (by rw [e177]; exact vc177)
theorem c177 : (base.with sp177).Ok := addS_ok c63 ok177
theorem vc280 : P280 := fun l hl _ => ⟨⟨by omega, by omega⟩, by omega, ⟨by omega, by omega⟩, by omega, rfl⟩
theorem ok280 : SpecOk (base.with sp177) 280 (mkF ct280) := spec_ct (fn := Tryz.f280) (c := bodyOf Tryz.f280) (k := Tryz.f280.ntmps - ct280.ps.length) (ct := ct280) c177 Tryz.func280 (by kernel_rfl) noAnn (by kernel_rfl) (fun vs w _ => Tryz.call280 vs w) (by rw [e280]; exact vc280)
theorem c280 : (base.with sp280).Ok := addS_ok c177 ok280
end Go.Proofs.YteiecapbaeajdaaGreatDoor
namespace Go.Proofs.YteiecapbaeajdaaGreatDoor
open Go.Avc
set_option linter.unusedVariables false
abbrev lanP : Pat := .iface 253 (.agg [])
abbrev qSp : BPat := .cells 298 [lanP, .own 1, i64, i64, i64]
abbrev ofB : Pat := .agg [.ptr 0 0]
/-- The state behind a permutation. -/
noncomputable def pmR (s : List (List CD)) : List (List CD) := (bysL (perm (wsN s 200))).map row1
/-- Where the next unit is taken, and given; how often it was permuted; the state. -/
abbrev Sp := Int × Int × Int × List (List CD)
noncomputable def pmS (x : Sp) : Sp := (0, x.2.1, x.2.2.1 + 1, pmR x.2.2.2)
noncomputable def ab0 (x : Sp) : Sp := if x.1 = 136 then pmS x else x
def ab1 (x : Sp) (u : Int) : Sp := (x.1 + 1, 136, x.2.2.1, x.2.2.2.set x.1.toNat ((x.2.2.2.getD x.1.toNat []).set 0 (.int u)))
noncomputable def abN (l : List (List CD)) (x : Sp) : Nat → Sp
  | 0 => x
  | i + 1 => ab1 (ab0 (abN l x i)) (rv l i)
noncomputable def sq0 (x : Sp) : Sp := if x.2.1 = 136 then (0, 0, x.2.2.1 + 1, pmR x.2.2.2) else x
def sq1 (x : Sp) : Sp := (x.1, x.2.1 + 1, x.2.2.1, x.2.2.2)
noncomputable def sqS (x : Sp) : Nat → Sp
  | 0 => x
  | i + 1 => sq1 (sq0 (sqS x i))
/-- What is given. -/
noncomputable def sqO (x : Sp) : Nat → List (List CD)
  | 0 => []
  | i + 1 => sqO x i ++ [[.int (rv (sq0 (sqS x i)).2.2.2 (sq0 (sqS x i)).2.1.toNat)]]
def stB (l : List (List CD)) : List (List CD) := spl (List.replicate 200 [.int 0]) 136 64 l
def spOk (x : Sp) : Prop := 0 ≤ x.1 ∧ x.1 ≤ 136 ∧ 0 ≤ x.2.1 ∧ x.2.1 ≤ 136 ∧ 0 ≤ x.2.2.1 ∧ x.2.2.1 ≤ 1000000000 ∧ x.2.2.2.length = 200 ∧ areB x.2.2.2
/-! ### Contracts -/
def ct294 : Ct := { ps := [.agg []], bs := [], pre := fun _ => True, res := fun _ => .ret i64 [] [.i 136] }
def ct295 : Ct := { ps := [.agg []], bs := [], pre := fun _ => True, res := fun _ => .ret i64 [] [.i 200] }
noncomputable def ct293 : Ct := { ps := [.agg [], .own 0], bs := [ob], pre := fun | [.r s] => s.length = 200 ∧ areB s | _ => False, res := fun | [.r s] => .ret (.tup []) [ob] [.r (pmR s)] | _ => noRes }
def ct83 : Ct := { ps := [], bs := [], pre := fun _ => True, res := fun _ => .ret lanP [] [] }
def ct130 : Ct := { ps := [lanP, rb], bs := [], pre := fun | [.r l] => l.length ≤ 64 | _ => False, res := fun | [.r l] => .ret (.tup [.ptr 0 0, i64]) [qSp, ob] [.i 0, .i 0, .i 136, .i 0, .r (stB l)] | _ => noRes }
def ct82 : Ct := { ps := [lanP, rb], bs := [], pre := fun | [.r l] => l.length ≤ 64 | _ => False, res := fun | [.r l] => .ret (.ptr 0 0) [qSp, ob] [.i 0, .i 136, .i 0, .r (stB l)] | _ => noRes }
def ct45 : Ct := { ps := [a32], bs := [], pre := fun _ => True, res := fun | [.li t] => .ret (.ptr 0 0) [qSp, ob] [.i 0, .i 136, .i 0, .r (stB (t.map row1))] | _ => noRes }
noncomputable def ct271 : Ct := { ps := [.ptr 0 0], bs := [qSp, ob], pre := fun | [.i a, .i b, .i c, .r s] => s.length = 200 ∧ areB s ∧ 0 ≤ c ∧ c ≤ 2000000000 | _ => False, res := fun | [.i a, .i b, .i c, .r s] => .ret (.tup []) [qSp, ob] [.i 0, .i b, .i (c + 1), .r (pmR s)] | _ => noRes }
noncomputable def ct278 : Ct := { ps := [.ptr 0 0, rb], bs := [qSp, ob], pre := fun | [.r l, .i a, .i b, .i c, .r s] => spOk (a, b, c, s) ∧ areB l ∧ l.length ≤ 1000000 | _ => False, res := fun
  | [.r l, .i a, .i b, .i c, .r s] => .ret (.tup []) [qSp, ob] [.i (abN l (a, b, c, s) l.length).1, .i (abN l (a, b, c, s) l.length).2.1, .i (abN l (a, b, c, s) l.length).2.2.1, .r (abN l (a, b, c, s) l.length).2.2.2]
  | _ => noRes }
noncomputable def ann278 : List Dat → Ann
  | [.r l, .i a, .i b, .i c, .r s] => { cut := [], loop := [(2, [la 48 [(0, .ptr 0 0), (4, i64), (12, rb), (13, i64), (14, i64)] [qSp, ob] (fun
      | [.i q, .r l', .i n, .i i, .i a', .i b', .i c', .r s'] => q = 136 ∧ l' = l ∧ n = l.length ∧ 0 ≤ i ∧ i ≤ n ∧ a' = (abN l (a, b, c, s) i.toNat).1 ∧ b' = (abN l (a, b, c, s) i.toNat).2.1 ∧ c' = (abN l (a, b, c, s) i.toNat).2.2.1 ∧ s' = (abN l (a, b, c, s) i.toNat).2.2.2
      | _ => False) (fun | [_, _, .i n, .i i, _, _, _, _] => (n - i).toNat | _ => 0)])] }
  | _ => { cut := [], loop := [] }
noncomputable def ct275 : Ct := { ps := [.ptr 0 0, i64], bs := [qSp, ob], pre := fun | [.i n, .i a, .i b, .i c, .r s] => spOk (a, b, c, s) ∧ n ≤ 1000000 | _ => False, res := fun
  | [.i n, .i a, .i b, .i c, .r s] => .ret (.own 2) [qSp, ob, ob] [.i (sqS (a, b, c, s) n.toNat).1, .i (sqS (a, b, c, s) n.toNat).2.1, .i (sqS (a, b, c, s) n.toNat).2.2.1, .r (sqS (a, b, c, s) n.toNat).2.2.2, .r (sqO (a, b, c, s) n.toNat)]
  | _ => noRes }
noncomputable def ann275 : List Dat → Ann
  | [.i n, .i a, .i b, .i c, .r s] => { cut := [], loop := [(3, [la 47 [(0, .ptr 0 0), (5, .own 2), (7, i64), (8, i64)] [qSp, ob, ob] (fun
      | [.i m, .i i, .i a', .i b', .i c', .r s', .r o] => m = max n 0 ∧ 0 ≤ i ∧ i ≤ m ∧ a' = (sqS (a, b, c, s) i.toNat).1 ∧ b' = (sqS (a, b, c, s) i.toNat).2.1 ∧ c' = (sqS (a, b, c, s) i.toNat).2.2.1 ∧ s' = (sqS (a, b, c, s) i.toNat).2.2.2 ∧ o = sqO (a, b, c, s) i.toNat
      | _ => False) (fun | [.i m, .i i, _, _, _, _, _] => (m - i).toNat | _ => 0)])] }
  | _ => { cut := [], loop := [] }
/-- A block (behind a choice). -/
noncomputable def blB (x : Sp) : List Int := hid ((sqO x 32).map fun r => (r.getD 0 .d0).toInt)
noncomputable def ct277 : Ct := { ps := [ofB], bs := [qSp, ob], pre := fun | [.i a, .i b, .i c, .r s] => spOk (a, b, c, s) | _ => False, res := fun
  | [.i a, .i b, .i c, .r s] => .ret a32 [qSp, ob] [.li (blB (a, b, c, s)), .i (sqS (a, b, c, s) 32).1, .i (sqS (a, b, c, s) 32).2.1, .i (sqS (a, b, c, s) 32).2.2.1, .r (sqS (a, b, c, s) 32).2.2.2]
  | _ => noRes }
end Go.Proofs.YteiecapbaeajdaaGreatDoor
namespace Go.Proofs.YteiecapbaeajdaaGreatDoor
open Go Go.Avc Go.Proofs
set_option linter.unusedVariables false
set_option maxRecDepth 100000
def P294 : Prop :=
 True → (136 : Int) = (136 : Int)
theorem e294 : ct294.VC (base.with sp280) Tryz.f294.results.toList Tryz.f294.ntmps (Tryz.f294.ntmps - ct294.ps.length) (bodyOf Tryz.f294) noAnn = P294 := by kernel_rfl
noncomputable def sp294 : SpecT := addS sp280 294 (mkF ct294)
def P295 : Prop :=
 True → (200 : Int) = (200 : Int)
theorem e295 : ct295.VC (base.with sp294) Tryz.f295.results.toList Tryz.f295.ntmps (Tryz.f295.ntmps - ct295.ps.length) (bodyOf Tryz.f295) noAnn = P295 := by kernel_rfl
noncomputable def sp295 : SpecT := addS sp294 295 (mkF ct295)
def P293 : Prop :=
 ∀ (l : List (List CD)),
 l.length ≤ (9223372036854775807 : Nat) →
 l.length = (200 : Nat) ∧ areB l →
 areB l ∧
 bif decide (l.length ≠ (200 : Nat)) then l = pmR l
 else
 True ∧
 areW (perm (wsN l (200 : Nat))) ∧
 ((0 : Int) ≤ (0 : Int) ∧ (0 : Int) ≤ (↑(200 : Nat) : Int) ∧ (↑(200 : Nat) : Int) ≤ (↑(200 : Nat) : Int) ∧ (0 : Int) < (↑(200 : Nat) : Int)) ∧
 spl l (0 : Nat) l.length
 (List.map (fun x => [CD.int x])
 (List.take (200 : Nat)
 (List.drop (0 : Nat)
 (bysL (perm (wsN l (200 : Nat))))))) =
 pmR l
theorem e293 : ct293.VC (base.with sp295) Tryz.f293.results.toList Tryz.f293.ntmps (Tryz.f293.ntmps - ct293.ps.length) (bodyOf Tryz.f293) noAnn = P293 := by kernel_rfl
noncomputable def sp293 : SpecT := addS sp295 293 (mkF ct293)
def P83 : Prop :=
 True → True
theorem e83 : ct83.VC (base.with sp293) Tryz.f83.results.toList Tryz.f83.ntmps (Tryz.f83.ntmps - ct83.ps.length) (bodyOf Tryz.f83) noAnn = P83 := by kernel_rfl
noncomputable def sp83 : SpecT := addS sp293 83 (mkF ct83)
def P130 : Prop :=
 ∀ (l : List (List CD)),
 l.length ≤ (9223372036854775807 : Nat) →
 l.length ≤ (64 : Nat) →
 l.length ≤ (9223372036854775807 : Nat) →
 True ∧
 True ∧
 ((-9223372036854775808 : Int) ≤ (200 : Int) - (136 : Int) ∧ (200 : Int) - (136 : Int) ≤ (9223372036854775807 : Int)) ∧
 bif decide ((200 : Int) - (136 : Int) < (↑l.length : Int)) then
 Miss (2 : Nat) { n := (0 : Nat), ov := [], tm := [SV.tup [SV.nilp, SV.int Go.IntKind.i64 (1 : Int)]], hp := [], G := [] }
 else
 True ∧
 ((0 : Int) ≤ (200 : Int) ∧ (200 : Int) ≤ (200 : Int) ∧ (↑(1 : Nat) : Int) * (200 : Int) ≤ (140737488355328 : Int) ∧ (200 : Int) ≤ (9223372036854775807 : Int)) ∧
 True ∧
 True ∧
 ((0 : Int) ≤ (136 : Int) ∧ (136 : Int) ≤ (↑(200 : Nat) : Int) ∧ (↑(200 : Nat) : Int) ≤ (↑(200 : Nat) : Int) ∧ (136 : Int) < (↑(200 : Nat) : Int)) ∧
 (0 : Int) = (0 : Int) ∧
 (0 : Int) = (0 : Int) ∧
 (136 : Int) = (136 : Int) ∧
 (0 : Int) = (0 : Int) ∧
 spl
 [[CD.int (0 : Int)], [CD.int (0 : Int)], [CD.int (0 : Int)], [CD.int (0 : Int)], [CD.int (0 : Int)],
 [CD.int (0 : Int)], [CD.int (0 : Int)], [CD.int (0 : Int)], [CD.int (0 : Int)], [CD.int (0 : Int)],
 [CD.int (0 : Int)], [CD.int (0 : Int)], [CD.int (0 : Int)], [CD.int (0 : Int)], [CD.int (0 : Int)],
 [CD.int (0 : Int)], [CD.int (0 : Int)], [CD.int (0 : Int)], [CD.int (0 : Int)], [CD.int (0 : Int)],
 [CD.int (0 : Int)], [CD.int (0 : Int)], [CD.int (0 : Int)], [CD.int (0 : Int)], [CD.int (0 : Int)],
 [CD.int (0 : Int)], [CD.int (0 : Int)], [CD.int (0 : Int)], [CD.int (0 : Int)], [CD.int (0 : Int)],
 [CD.int (0 : Int)], [CD.int (0 : Int)], [CD.int (0 : Int)], [CD.int (0 : Int)], [CD.int (0 : Int)],
 [CD.int (0 : Int)], [CD.int (0 : Int)], [CD.int (0 : Int)], [CD.int (0 : Int)], [CD.int (0 : Int)],
 [CD.int (0 : Int)], [CD.int (0 : Int)], [CD.int (0 : Int)], [CD.int (0 : Int)], [CD.int (0 : Int)],
 [CD.int (0 : Int)], [CD.int (0 : Int)], [CD.int (0 : Int)], [CD.int (0 : Int)], [CD.int (0 : Int)],
 [CD.int (0 : Int)], [CD.int (0 : Int)], [CD.int (0 : Int)], [CD.int (0 : Int)], [CD.int (0 : Int)],
 [CD.int (0 : Int)], [CD.int (0 : Int)], [CD.int (0 : Int)], [CD.int (0 : Int)], [CD.int (0 : Int)],
 [CD.int (0 : Int)], [CD.int (0 : Int)], [CD.int (0 : Int)], [CD.int (0 : Int)], [CD.int (0 : Int)],
 [CD.int (0 : Int)], [CD.int (0 : Int)], [CD.int (0 : Int)], [CD.int (0 : Int)], [CD.int (0 : Int)],
 [CD.int (0 : Int)], [CD.int (0 : Int)], [CD.int (0 : Int)], [CD.int (0 : Int)], [CD.int (0 : Int)],
 [CD.int (0 : Int)], [CD.int (0 : Int)], [CD.int (0 : Int)], [CD.int (0 : Int)], [CD.int (0 : Int)],
 [CD.int (0 : Int)], [CD.int (0 : Int)], [CD.int (0 : Int)], [CD.int (0 : Int)], [CD.int (0 : Int)],
 [CD.int (0 : Int)], [CD.int (0 : Int)], [CD.int (0 : Int)], [CD.int (0 : Int)], [CD.int (0 : Int)],
 [CD.int (0 : Int)], [CD.int (0 : Int)], [CD.int (0 : Int)], [CD.int (0 : Int)], [CD.int (0 : Int)],
 [CD.int (0 : Int)], [CD.int (0 : Int)], [CD.int (0 : Int)], [CD.int (0 : Int)], [CD.int (0 : Int)],
 [CD.int (0 : Int)], [CD.int (0 : Int)], [CD.int (0 : Int)], [CD.int (0 : Int)], [CD.int (0 : Int)],
 [CD.int (0 : Int)], [CD.int (0 : Int)], [CD.int (0 : Int)], [CD.int (0 : Int)], [CD.int (0 : Int)],
 [CD.int (0 : Int)], [CD.int (0 : Int)], [CD.int (0 : Int)], [CD.int (0 : Int)], [CD.int (0 : Int)],
 [CD.int (0 : Int)], [CD.int (0 : Int)], [CD.int (0 : Int)], [CD.int (0 : Int)], [CD.int (0 : Int)],
 [CD.int (0 : Int)], [CD.int (0 : Int)], [CD.int (0 : Int)], [CD.int (0 : Int)], [CD.int (0 : Int)],
 [CD.int (0 : Int)], [CD.int (0 : Int)], [CD.int (0 : Int)], [CD.int (0 : Int)], [CD.int (0 : Int)],
 [CD.int (0 : Int)], [CD.int (0 : Int)], [CD.int (0 : Int)], [CD.int (0 : Int)], [CD.int (0 : Int)],
 [CD.int (0 : Int)], [CD.int (0 : Int)], [CD.int (0 : Int)], [CD.int (0 : Int)], [CD.int (0 : Int)],
 [CD.int (0 : Int)], [CD.int (0 : Int)], [CD.int (0 : Int)], [CD.int (0 : Int)], [CD.int (0 : Int)],
 [CD.int (0 : Int)], [CD.int (0 : Int)], [CD.int (0 : Int)], [CD.int (0 : Int)], [CD.int (0 : Int)],
 [CD.int (0 : Int)], [CD.int (0 : Int)], [CD.int (0 : Int)], [CD.int (0 : Int)], [CD.int (0 : Int)],
 [CD.int (0 : Int)], [CD.int (0 : Int)], [CD.int (0 : Int)], [CD.int (0 : Int)], [CD.int (0 : Int)],
 [CD.int (0 : Int)], [CD.int (0 : Int)], [CD.int (0 : Int)], [CD.int (0 : Int)], [CD.int (0 : Int)],
 [CD.int (0 : Int)], [CD.int (0 : Int)], [CD.int (0 : Int)], [CD.int (0 : Int)], [CD.int (0 : Int)],
 [CD.int (0 : Int)], [CD.int (0 : Int)], [CD.int (0 : Int)], [CD.int (0 : Int)], [CD.int (0 : Int)],
 [CD.int (0 : Int)], [CD.int (0 : Int)], [CD.int (0 : Int)], [CD.int (0 : Int)], [CD.int (0 : Int)],
 [CD.int (0 : Int)], [CD.int (0 : Int)], [CD.int (0 : Int)], [CD.int (0 : Int)], [CD.int (0 : Int)],
 [CD.int (0 : Int)], [CD.int (0 : Int)], [CD.int (0 : Int)], [CD.int (0 : Int)], [CD.int (0 : Int)],
 [CD.int (0 : Int)], [CD.int (0 : Int)], [CD.int (0 : Int)], [CD.int (0 : Int)], [CD.int (0 : Int)],
 [CD.int (0 : Int)], [CD.int (0 : Int)], [CD.int (0 : Int)], [CD.int (0 : Int)], [CD.int (0 : Int)]]
 (136 : Nat) (64 : Nat) l =
 stB l
theorem e130 : ct130.VC (base.with sp83) Tryz.f130.results.toList Tryz.f130.ntmps (Tryz.f130.ntmps - ct130.ps.length) (bodyOf Tryz.f130) noAnn = P130 := by kernel_rfl
noncomputable def sp130 : SpecT := addS sp83 130 (mkF ct130)
def P82 : Prop :=
 ∀ (l : List (List CD)),
 l.length ≤ (9223372036854775807 : Nat) →
 l.length ≤ (64 : Nat) →
 l.length ≤ (64 : Nat) ∧
 (0 : Int) = (0 : Int) ∧ (136 : Int) = (136 : Int) ∧ (0 : Int) = (0 : Int) ∧ stB l = stB l
theorem e82 : ct82.VC (base.with sp130) Tryz.f82.results.toList Tryz.f82.ntmps (Tryz.f82.ntmps - ct82.ps.length) (bodyOf Tryz.f82) noAnn = P82 := by kernel_rfl
noncomputable def sp82 : SpecT := addS sp130 82 (mkF ct82)
def P45 : Prop :=
 ∀ (l : List Int),
 l.length = (32 : Nat) →
 True →
 True ∧
 ((0 : Int) ≤ (0 : Int) ∧ (0 : Int) ≤ (↑(32 : Nat) : Int) ∧ (↑(32 : Nat) : Int) ≤ (↑(32 : Nat) : Int) ∧ (0 : Int) < (↑(32 : Nat) : Int)) ∧
 (List.map (fun x => [CD.int x]) (List.take (32 : Nat) (List.drop (0 : Nat) l))).length ≤ (64 : Nat) ∧
 (0 : Int) = (0 : Int) ∧
 (136 : Int) = (136 : Int) ∧
 (0 : Int) = (0 : Int) ∧
 stB (List.map (fun x => [CD.int x]) (List.take (32 : Nat) (List.drop (0 : Nat) l))) =
 stB (List.map row1 l)
theorem e45 : ct45.VC (base.with sp82) Tryz.f45.results.toList Tryz.f45.ntmps (Tryz.f45.ntmps - ct45.ps.length) (bodyOf Tryz.f45) noAnn = P45 := by kernel_rfl
noncomputable def sp45 : SpecT := addS sp82 45 (mkF ct45)
def P271 : Prop :=
 ∀ (n n n_1 : Int) (l : List (List CD)),
 l.length = (200 : Nat) ∧ areB l ∧ (0 : Int) ≤ n_1 ∧ n_1 ≤ (2000000000 : Int) →
 (l.length = (200 : Nat) ∧ areB l) ∧
 ((-9223372036854775808 : Int) ≤ n_1 + (1 : Int) ∧ n_1 + (1 : Int) ≤ (9223372036854775807 : Int)) ∧
 (0 : Int) = (0 : Int) ∧ n = n ∧ n_1 + (1 : Int) = n_1 + (1 : Int) ∧ pmR l = pmR l
theorem e271 : ct271.VC (base.with sp45) Tryz.f271.results.toList Tryz.f271.ntmps (Tryz.f271.ntmps - ct271.ps.length) (bodyOf Tryz.f271) noAnn = P271 := by kernel_rfl
noncomputable def sp271 : SpecT := addS sp45 271 (mkF ct271)
def P278 : Prop :=
 ∀ (l : List (List CD)) (n n_1 n_2 : Int) (l_1 : List (List CD)),
 l.length ≤ (9223372036854775807 : Nat) →
 spOk (n, n_1, n_2, l_1) ∧ areB l ∧ l.length ≤ (1000000 : Nat) →
 True ∧
 (l.length ≤ (9223372036854775807 : Nat) →
 (((136 : Int) = (136 : Int) ∧
 l = l ∧
 (↑l.length : Int) = (↑l.length : Int) ∧
 (0 : Int) ≤ (0 : Int) ∧
 (0 : Int) ≤ (↑l.length : Int) ∧
 n = (abN l (n, n_1, n_2, l_1) (0 : Nat)).fst ∧
 n_1 = (abN l (n, n_1, n_2, l_1) (0 : Nat)).snd.fst ∧
 n_2 = (abN l (n, n_1, n_2, l_1) (0 : Nat)).snd.snd.fst ∧
 l_1 = (abN l (n, n_1, n_2, l_1) (0 : Nat)).snd.snd.snd) ∧
 True) ∧
 ∀ (n_3 : Int) (l_2 : List (List CD)) (n_4 n_5 n_6 n_7 n_8 : Int) (l_3 : List (List CD)),
 l_2.length ≤ (9223372036854775807 : Nat) →
 n_3 = (136 : Int) ∧
 l_2 = l ∧
 n_4 = (↑l.length : Int) ∧
 (0 : Int) ≤ n_5 ∧
 n_5 ≤ n_4 ∧
 n_6 = (abN l (n, n_1, n_2, l_1) n_5.toNat).fst ∧
 n_7 = (abN l (n, n_1, n_2, l_1) n_5.toNat).snd.fst ∧
 n_8 = (abN l (n, n_1, n_2, l_1) n_5.toNat).snd.snd.fst ∧
 l_3 = (abN l (n, n_1, n_2, l_1) n_5.toNat).snd.snd.snd →
 bif decide (n_5 < n_4) then
 ((0 : Int) ≤ n_5 ∧ n_5 < (↑l_2.length : Int)) ∧
 n_5.toNat < l_2.length ∧
 bif decide (n_6 = n_3) then
 (l_3.length = (200 : Nat) ∧ areB l_3 ∧ (0 : Int) ≤ n_8 ∧ n_8 ≤ (2000000000 : Int)) ∧
 ((0 : Int) ≤ (0 : Int) ∧ (0 : Int) < (↑(pmR l_3).length : Int)) ∧
 (0 : Nat) < (pmR l_3).length ∧
 ((-9223372036854775808 : Int) ≤ (0 : Int) + (1 : Int) ∧ (0 : Int) + (1 : Int) ≤ (9223372036854775807 : Int)) ∧
 ((-9223372036854775808 : Int) ≤ n_5 + (1 : Int) ∧ n_5 + (1 : Int) ≤ (9223372036854775807 : Int)) ∧
 (n_3 = (136 : Int) ∧
 l_2 = l ∧
 n_4 = (↑l.length : Int) ∧
 (0 : Int) ≤ n_5 + (1 : Int) ∧
 n_5 + (1 : Int) ≤ n_4 ∧
 (0 : Int) + (1 : Int) = (abN l (n, n_1, n_2, l_1) (n_5 + (1 : Int)).toNat).fst ∧
 n_3 = (abN l (n, n_1, n_2, l_1) (n_5 + (1 : Int)).toNat).snd.fst ∧
 n_8 + (1 : Int) = (abN l (n, n_1, n_2, l_1) (n_5 + (1 : Int)).toNat).snd.snd.fst ∧
 (pmR l_3).set (0 : Nat)
 (((pmR l_3).getD (0 : Nat) []).set (0 : Nat)
 (CD.int ((l_2.getD n_5.toNat []).getD (0 : Nat) (CD.int (0 : Int))).toInt)) =
 (abN l (n, n_1, n_2, l_1) (n_5 + (1 : Int)).toNat).snd.snd.snd) ∧
 (n_4 - (n_5 + (1 : Int))).toNat < (n_4 - n_5).toNat
 else
 ((0 : Int) ≤ n_6 ∧ n_6 < (↑l_3.length : Int)) ∧
 n_6.toNat < l_3.length ∧
 ((-9223372036854775808 : Int) ≤ n_6 + (1 : Int) ∧ n_6 + (1 : Int) ≤ (9223372036854775807 : Int)) ∧
 ((-9223372036854775808 : Int) ≤ n_5 + (1 : Int) ∧ n_5 + (1 : Int) ≤ (9223372036854775807 : Int)) ∧
 (n_3 = (136 : Int) ∧
 l_2 = l ∧
 n_4 = (↑l.length : Int) ∧
 (0 : Int) ≤ n_5 + (1 : Int) ∧
 n_5 + (1 : Int) ≤ n_4 ∧
 n_6 + (1 : Int) = (abN l (n, n_1, n_2, l_1) (n_5 + (1 : Int)).toNat).fst ∧
 n_3 = (abN l (n, n_1, n_2, l_1) (n_5 + (1 : Int)).toNat).snd.fst ∧
 n_8 = (abN l (n, n_1, n_2, l_1) (n_5 + (1 : Int)).toNat).snd.snd.fst ∧
 l_3.set n_6.toNat
 ((l_3.getD n_6.toNat []).set (0 : Nat)
 (CD.int ((l_2.getD n_5.toNat []).getD (0 : Nat) (CD.int (0 : Int))).toInt)) =
 (abN l (n, n_1, n_2, l_1) (n_5 + (1 : Int)).toNat).snd.snd.snd) ∧
 (n_4 - (n_5 + (1 : Int))).toNat < (n_4 - n_5).toNat
 else
 n_6 = (abN l (n, n_1, n_2, l_1) l.length).fst ∧
 n_7 = (abN l (n, n_1, n_2, l_1) l.length).snd.fst ∧
 n_8 = (abN l (n, n_1, n_2, l_1) l.length).snd.snd.fst ∧
 l_3 = (abN l (n, n_1, n_2, l_1) l.length).snd.snd.snd)
theorem e278 : ct278.VC (base.with sp271) Tryz.f278.results.toList Tryz.f278.ntmps (Tryz.f278.ntmps - ct278.ps.length) (bodyOf Tryz.f278) ann278 = P278 := by kernel_rfl
noncomputable def sp278 : SpecT := addS sp271 278 (mkF ct278)
def P275 : Prop :=
 ∀ (n n_1 n_2 n_3 : Int) (l : List (List CD)),
 spOk (n_1, n_2, n_3, l) ∧ n ≤ (1000000 : Int) →
 ((max n (0 : Int) = max n (0 : Int) ∧
 (0 : Int) ≤ (0 : Int) ∧
 (0 : Int) ≤ max n (0 : Int) ∧
 n_1 = (sqS (n_1, n_2, n_3, l) (0 : Nat)).fst ∧
 n_2 = (sqS (n_1, n_2, n_3, l) (0 : Nat)).snd.fst ∧
 n_3 = (sqS (n_1, n_2, n_3, l) (0 : Nat)).snd.snd.fst ∧
 l = (sqS (n_1, n_2, n_3, l) (0 : Nat)).snd.snd.snd ∧
 [] = sqO (n_1, n_2, n_3, l) (0 : Nat)) ∧
 True) ∧
 ∀ (n_4 n_5 n_6 n_7 n_8 : Int) (l_1 l_2 : List (List CD)),
 l_2.length ≤ (9223372036854775807 : Nat) →
 n_4 = max n (0 : Int) ∧
 (0 : Int) ≤ n_5 ∧
 n_5 ≤ n_4 ∧
 n_6 = (sqS (n_1, n_2, n_3, l) n_5.toNat).fst ∧
 n_7 = (sqS (n_1, n_2, n_3, l) n_5.toNat).snd.fst ∧
 n_8 = (sqS (n_1, n_2, n_3, l) n_5.toNat).snd.snd.fst ∧
 l_1 = (sqS (n_1, n_2, n_3, l) n_5.toNat).snd.snd.snd ∧
 l_2 = sqO (n_1, n_2, n_3, l) n_5.toNat →
 bif decide (n_5 < n_4) then
 True ∧
 bif decide (n_7 = (136 : Int)) then
 (l_1.length = (200 : Nat) ∧ areB l_1 ∧ (0 : Int) ≤ n_8 ∧ n_8 ≤ (2000000000 : Int)) ∧
 ((0 : Int) ≤ (0 : Int) ∧ (0 : Int) < (↑(pmR l_1).length : Int)) ∧
 (0 : Nat) < (pmR l_1).length ∧
 ((l_2.length + (1 : Nat)) * (1 : Nat) ≤ (140737488355328 : Nat) ∧ l_2.length + (1 : Nat) ≤ (9223372036854775807 : Nat)) ∧
 ((-9223372036854775808 : Int) ≤ (0 : Int) + (1 : Int) ∧ (0 : Int) + (1 : Int) ≤ (9223372036854775807 : Int)) ∧
 ((-9223372036854775808 : Int) ≤ n_5 + (1 : Int) ∧ n_5 + (1 : Int) ≤ (9223372036854775807 : Int)) ∧
 (n_4 = max n (0 : Int) ∧
 (0 : Int) ≤ n_5 + (1 : Int) ∧
 n_5 + (1 : Int) ≤ n_4 ∧
 (0 : Int) = (sqS (n_1, n_2, n_3, l) (n_5 + (1 : Int)).toNat).fst ∧
 (0 : Int) + (1 : Int) = (sqS (n_1, n_2, n_3, l) (n_5 + (1 : Int)).toNat).snd.fst ∧
 n_8 + (1 : Int) = (sqS (n_1, n_2, n_3, l) (n_5 + (1 : Int)).toNat).snd.snd.fst ∧
 pmR l_1 =
 (sqS (n_1, n_2, n_3, l) (n_5 + (1 : Int)).toNat).snd.snd.snd ∧
 l_2 ++
 [[CD.int
 (((pmR l_1).getD (0 : Nat) []).getD (0 : Nat) (CD.int (0 : Int))).toInt]] =
 sqO (n_1, n_2, n_3, l) (n_5 + (1 : Int)).toNat) ∧
 (n_4 - (n_5 + (1 : Int))).toNat < (n_4 - n_5).toNat
 else
 ((0 : Int) ≤ n_7 ∧ n_7 < (↑l_1.length : Int)) ∧
 n_7.toNat < l_1.length ∧
 ((l_2.length + (1 : Nat)) * (1 : Nat) ≤ (140737488355328 : Nat) ∧ l_2.length + (1 : Nat) ≤ (9223372036854775807 : Nat)) ∧
 ((-9223372036854775808 : Int) ≤ n_7 + (1 : Int) ∧ n_7 + (1 : Int) ≤ (9223372036854775807 : Int)) ∧
 ((-9223372036854775808 : Int) ≤ n_5 + (1 : Int) ∧ n_5 + (1 : Int) ≤ (9223372036854775807 : Int)) ∧
 (n_4 = max n (0 : Int) ∧
 (0 : Int) ≤ n_5 + (1 : Int) ∧
 n_5 + (1 : Int) ≤ n_4 ∧
 n_6 = (sqS (n_1, n_2, n_3, l) (n_5 + (1 : Int)).toNat).fst ∧
 n_7 + (1 : Int) = (sqS (n_1, n_2, n_3, l) (n_5 + (1 : Int)).toNat).snd.fst ∧
 n_8 = (sqS (n_1, n_2, n_3, l) (n_5 + (1 : Int)).toNat).snd.snd.fst ∧
 l_1 = (sqS (n_1, n_2, n_3, l) (n_5 + (1 : Int)).toNat).snd.snd.snd ∧
 l_2 ++ [[CD.int ((l_1.getD n_7.toNat []).getD (0 : Nat) (CD.int (0 : Int))).toInt]] =
 sqO (n_1, n_2, n_3, l) (n_5 + (1 : Int)).toNat) ∧
 (n_4 - (n_5 + (1 : Int))).toNat < (n_4 - n_5).toNat
 else
 n_6 = (sqS (n_1, n_2, n_3, l) n.toNat).fst ∧
 n_7 = (sqS (n_1, n_2, n_3, l) n.toNat).snd.fst ∧
 n_8 = (sqS (n_1, n_2, n_3, l) n.toNat).snd.snd.fst ∧
 l_1 = (sqS (n_1, n_2, n_3, l) n.toNat).snd.snd.snd ∧
 l_2 = sqO (n_1, n_2, n_3, l) n.toNat
theorem e275 : ct275.VC (base.with sp278) Tryz.f275.results.toList Tryz.f275.ntmps (Tryz.f275.ntmps - ct275.ps.length) (bodyOf Tryz.f275) ann275 = P275 := by kernel_rfl
noncomputable def sp275 : SpecT := addS sp278 275 (mkF ct275)
def P277 : Prop :=
 ∀ (n n_1 n_2 : Int) (l : List (List CD)),
 spOk (n, n_1, n_2, l) →
 (spOk (n, n_1, n_2, l) ∧ (32 : Int) ≤ (1000000 : Int)) ∧
 (32 : Nat) ≤ (32 : Nat) ∧
 (32 : Nat) ≤ (32 : Nat) ∧
 List.map (fun r => (r.getD (0 : Nat) (CD.int (0 : Int))).toInt)
 (List.take (32 : Nat) (List.drop (0 : Nat) (sqO (n, n_1, n_2, l) (32 : Nat)))) =
 blB (n, n_1, n_2, l) ∧
 (sqS (n, n_1, n_2, l) (32 : Nat)).fst = (sqS (n, n_1, n_2, l) (32 : Nat)).fst ∧
 (sqS (n, n_1, n_2, l) (32 : Nat)).snd.fst = (sqS (n, n_1, n_2, l) (32 : Nat)).snd.fst ∧
 (sqS (n, n_1, n_2, l) (32 : Nat)).snd.snd.fst =
 (sqS (n, n_1, n_2, l) (32 : Nat)).snd.snd.fst ∧
 (sqS (n, n_1, n_2, l) (32 : Nat)).snd.snd.snd =
 (sqS (n, n_1, n_2, l) (32 : Nat)).snd.snd.snd
theorem e277 : ct277.VC (base.with sp275) Tryz.f277.results.toList Tryz.f277.ntmps (Tryz.f277.ntmps - ct277.ps.length) (bodyOf Tryz.f277) noAnn = P277 := by kernel_rfl
noncomputable def sp277 : SpecT := addS sp275 277 (mkF ct277)
end Go.Proofs.YteiecapbaeajdaaGreatDoor
namespace Go.Proofs.YteiecapbaeajdaaGreatDoor
open Go Go.Avc Go.Proofs
set_option linter.unusedVariables false
set_option linter.unusedSimpArgs false
set_option maxRecDepth 100000
theorem pmR_len (s : List (List CD)) : (pmR s).length = 200 := by unfold pmR; rw [List.length_map, bysL_len]
theorem pmR_b (s : List (List CD)) : areB (pmR s) := bysL_areB _
theorem spl_all {l m : List (List CD)} (h : l.length = m.length) : spl l 0 l.length m = m := by
  unfold spl
  rw [h, List.take_zero, List.nil_append, Nat.min_self, Nat.zero_add, List.take_length, List.drop_of_length_le (by omega), List.append_nil]
theorem areB_set {s : List (List CD)} (h : areB s) {u : Int} (hu : 0 ≤ u ∧ u < 256) (k : Nat) : areB (s.set k ((s.getD k []).set 0 (.int u))) := fun j => by
  have key : (s.set k ((s.getD k []).set 0 (.int u))).getD j [] = if k = j then (if k < s.length then (s.getD k []).set 0 (.int u) else []) else s.getD j [] := by
    rw [List.getD_eq_getElem?_getD, List.getElem?_set]
    split
    · split <;> rfl
    · rw [← List.getD_eq_getElem?_getD]
  show 0 ≤ (((s.set k ((s.getD k []).set 0 (.int u))).getD j []).getD 0 .d0).toInt ∧ (((s.set k ((s.getD k []).set 0 (.int u))).getD j []).getD 0 .d0).toInt < 256
  rw [key]
  split
  · split
    · cases s.getD k [] with
      | nil => exact ⟨Int.le_refl 0, show (0 : Int) < 256 by decide⟩
      | cons a r => exact hu
    · exact ⟨Int.le_refl 0, by decide⟩
  · exact h j
/-- A sponge's state is as it must be; n: how often it was permuted at most. -/
def spB (n : Int) (x : Sp) : Prop := 0 ≤ x.1 ∧ x.1 ≤ 136 ∧ 0 ≤ x.2.1 ∧ x.2.1 ≤ 136 ∧ 0 ≤ x.2.2.1 ∧ x.2.2.1 ≤ n ∧ x.2.2.2.length = 200 ∧ areB x.2.2.2
theorem ab0_ok {n : Int} {x : Sp} (h : spB n x) : spB (n + 1) (ab0 x) ∧ (ab0 x).1 < 136 := by
  obtain ⟨h1, h2, h3, h4, h5, h6, h7, h8⟩ := h
  unfold ab0
  split
  · exact ⟨⟨Int.le_refl 0, by show (0 : Int) ≤ 136; omega, h3, h4, by show 0 ≤ x.2.2.1 + 1; omega, by show x.2.2.1 + 1 ≤ n + 1; omega, pmR_len _, pmR_b _⟩, by show (0 : Int) < 136; omega⟩
  · exact ⟨⟨h1, h2, h3, h4, h5, by omega, h7, h8⟩, by omega⟩
theorem ab1_ok {n : Int} {x : Sp} (h : spB n x) (h0 : x.1 < 136) {u : Int} (hu : 0 ≤ u ∧ u < 256) : spB n (ab1 x u) := by
  obtain ⟨h1, h2, h3, h4, h5, h6, h7, h8⟩ := h
  exact ⟨by show 0 ≤ x.1 + 1; omega, by show x.1 + 1 ≤ 136; omega, by show (0 : Int) ≤ 136; omega, Int.le_refl 136, h5, h6, by show (List.set _ _ _).length = 200; rw [List.length_set]; exact h7, areB_set h8 hu _⟩
theorem abN_ok {l : List (List CD)} (hl : areB l) {n : Int} {x : Sp} (h : spB n x) : ∀ i : Nat, spB (n + i) (abN l x i)
  | 0 => by rw [show n + ((0 : Nat) : Int) = n from by omega]; exact h
  | i + 1 => by
    have h1 := ab0_ok (abN_ok hl h i)
    have h2 := ab1_ok h1.1 h1.2 (hl i)
    rw [show n + ((i + 1 : Nat) : Int) = n + i + 1 from by omega]
    exact h2
theorem sq0_ok {n : Int} {x : Sp} (h : spB n x) : spB (n + 1) (sq0 x) ∧ (sq0 x).2.1 < 136 := by
  obtain ⟨h1, h2, h3, h4, h5, h6, h7, h8⟩ := h
  unfold sq0
  split
  · exact ⟨⟨Int.le_refl 0, by show (0 : Int) ≤ 136; omega, Int.le_refl 0, by show (0 : Int) ≤ 136; omega, by show 0 ≤ x.2.2.1 + 1; omega, by show x.2.2.1 + 1 ≤ n + 1; omega, pmR_len _, pmR_b _⟩, by show (0 : Int) < 136; omega⟩
  · exact ⟨⟨h1, h2, h3, h4, h5, by omega, h7, h8⟩, by omega⟩
theorem sqS_ok {n : Int} {x : Sp} (h : spB n x) : ∀ i : Nat, spB (n + i) (sqS x i)
  | 0 => by rw [show n + ((0 : Nat) : Int) = n from by omega]; exact h
  | i + 1 => by
    obtain ⟨⟨h1, h2, h3, h4, h5, h6, h7, h8⟩, h9⟩ := sq0_ok (sqS_ok h i)
    rw [show n + ((i + 1 : Nat) : Int) = n + i + 1 from by omega]
    exact ⟨h1, h2, by show 0 ≤ (sq0 (sqS x i)).2.1 + 1; omega, by show (sq0 (sqS x i)).2.1 + 1 ≤ 136; omega, h5, h6, h7, h8⟩
theorem sqO_len (x : Sp) : ∀ i, (sqO x i).length = i
  | 0 => rfl
  | i + 1 => by rw [sqO, List.length_append, sqO_len x i]; rfl
theorem vc294 : P294 := fun _ => rfl
theorem ok294 : SpecOk (base.with sp280) 294 (mkF ct294) := spec_ct (fn := Tryz.f294) (c := bodyOf Tryz.f294) (k := Tryz.f294.ntmps - ct294.ps.length) (ct := ct294) c280 Tryz.func294 (by kernel_rfl) noAnn (by kernel_rfl) (fun vs w _ => Tryz.call294 vs w) (by rw [e294]; exact vc294)
theorem c294 : (base.with sp294).Ok := addS_ok c280 ok294
theorem vc295 : P295 := fun _ => rfl
theorem ok295 : SpecOk (base.with sp294) 295 (mkF ct295) := spec_ct (fn := Tryz.f295) (c := bodyOf Tryz.f295) (k := Tryz.f295.ntmps - ct295.ps.length) (ct := ct295) c294 Tryz.func295 (by kernel_rfl) noAnn (by kernel_rfl) (fun vs w _ => Tryz.call295 vs w) (by rw [e295]; exact vc295)
theorem c295 : (base.with sp295).Ok := addS_ok c294 ok295
theorem vc293 : P293 := by
  rintro s _ ⟨h1, h2⟩
  have hw : (wsN s 200).length = 25 := by rw [ws_len, h1]
  have hp := perm_ok hw (ws_w s 200)
  refine ⟨h2, condI (fun h => absurd h1 (of_decide_eq_true h)) fun _ => ⟨trivial, hp.2, ⟨by omega, by omega, by omega, by omega⟩, ?_⟩⟩
  rw [List.drop_zero, List.take_of_length_le (Nat.le_of_eq (bysL_len _))]
  exact spl_all (by rw [h1, List.length_map, bysL_len])
theorem ok293 : SpecOk (base.with sp295) 293 (mkF ct293) := spec_ct (fn := Tryz.f293) (c := bodyOf Tryz.f293) (k := Tryz.f293.ntmps - ct293.ps.length) (ct := ct293) c295 Tryz.func293 (by kernel_rfl) noAnn (by kernel_rfl) (fun vs w _ => Tryz.call293 vs w) (by rw [e293]; exact vc293)
theorem c293 : (base.with sp293).Ok := addS_ok c295 ok293
theorem vc83 : P83 := fun _ => trivial
theorem ok83 : SpecOk (base.with sp293) 83 (mkF ct83) := spec_ct (fn := Tryz.f83) (c := bodyOf Tryz.f83) (k := Tryz.f83.ntmps - ct83.ps.length) (ct := ct83) c293 Tryz.func83 (by kernel_rfl) noAnn (by kernel_rfl) (fun vs w _ => Tryz.call83 vs w) (by rw [e83]; exact vc83)
theorem c83 : (base.with sp83).Ok := addS_ok c293 ok83
theorem vc130 : P130 := by
  intro l _ hl _
  refine ⟨trivial, trivial, ⟨by omega, by omega⟩, condI (fun h => ?_) fun _ => ⟨trivial, ⟨by omega, by omega, by omega, by omega⟩, trivial, trivial, ⟨by omega, by omega, by omega, by omega⟩, rfl, rfl, rfl, rfl, rfl⟩⟩
  have := of_decide_eq_true h
  omega
theorem ok130 : SpecOk (base.with sp83) 130 (mkF ct130) := spec_ct (fn := Tryz.f130) (c := bodyOf Tryz.f130) (k := Tryz.f130.ntmps - ct130.ps.length) (ct := ct130) c83 Tryz.func130 (by kernel_rfl) noAnn (by kernel_rfl) (fun vs w _ => Tryz.call130 vs w) (by rw [e130]; exact vc130)
theorem c130 : (base.with sp130).Ok := addS_ok c83 ok130
theorem vc82 : P82 := fun l _ h => ⟨h, rfl, rfl, rfl, rfl⟩
theorem ok82 : SpecOk (base.with sp130) 82 (mkF ct82) := spec_ct (fn := Tryz.f82) (c := bodyOf Tryz.f82) (k := Tryz.f82.ntmps - ct82.ps.length) (ct := ct82) c130 Tryz.func82 (by kernel_rfl) noAnn (by kernel_rfl) (fun vs w _ => Tryz.call82 vs w) (by rw [e82]; exact vc82)
theorem c82 : (base.with sp82).Ok := addS_ok c130 ok82
theorem vc45 : P45 := by
  intro t ht _
  rw [List.drop_zero, List.take_of_length_le (Nat.le_of_eq ht)]
  exact ⟨trivial, ⟨by omega, by omega, by omega, by omega⟩, by rw [List.length_map]; omega, rfl, rfl, rfl, rfl⟩
theorem ok45 : SpecOk (base.with sp82) 45 (mkF ct45) := spec_ct (fn := Tryz.f45) (c := bodyOf Tryz.f45) (k := Tryz.f45.ntmps - ct45.ps.length) (ct := ct45) c82 Tryz.func45 (by kernel_rfl) noAnn (by kernel_rfl) (fun vs w _ => Tryz.call45 vs w) (by rw [e45]; exact vc45)
theorem c45 : (base.with sp45).Ok := addS_ok c82 ok45
theorem vc271 : P271 := fun a b c s ⟨h1, h2, h3, h4⟩ => ⟨⟨h1, h2⟩, ⟨by omega, by omega⟩, rfl, rfl, rfl, rfl⟩
theorem ok271 : SpecOk (base.with sp45) 271 (mkF ct271) := spec_ct (fn := Tryz.f271) (c := bodyOf Tryz.f271) (k := Tryz.f271.ntmps - ct271.ps.length) (ct := ct271) c45 Tryz.func271 (by kernel_rfl) noAnn (by kernel_rfl) (fun vs w _ => Tryz.call271 vs w) (by rw [e271]; exact vc271)
theorem c271 : (base.with sp271).Ok := addS_ok c45 ok271
theorem vc278 : P278 := by
  rintro l a b c s hll ⟨hx, hl, hn⟩
  refine ⟨trivial, fun _ => ⟨⟨⟨rfl, rfl, rfl, by omega, by omega, rfl, rfl, rfl, rfl⟩, trivial⟩, ?_⟩⟩
  rintro q l' n i a' b' c' s' _ ⟨rfl, rfl, rfl, h0, h1, ea, eb, ec, es⟩
  obtain ⟨i, rfl⟩ := Int.eq_ofNat_of_zero_le h0
  rw [Int.toNat_natCast] at ea eb ec es ⊢
  have hN := abN_ok hl hx i
  have e2 : ((i : Int) + 1).toNat = i + 1 := by omega
  have hs1 : abN l' (a, b, c, s) (i + 1) = ab1 (ab0 (abN l' (a, b, c, s) i)) (rv l' i) := rfl
  rw [e2, hs1]
  generalize hX : abN l' (a, b, c, s) i = X at *
  obtain ⟨x1, x2, x3, x4⟩ := X
  simp only at ea eb ec es
  subst ea eb ec es
  obtain ⟨k1, k2, k3, k4, k5, k6, k7, k8⟩ := hN
  simp only at k1 k2 k3 k4 k5 k6 k7 k8
  refine condI (fun h => ?_) fun h => ?_
  · have h := of_decide_eq_true h
    refine ⟨⟨h0, h⟩, by omega, condI (fun h2 => ?_) fun h2 => ?_⟩
    · have h2 := of_decide_eq_true h2
      subst h2
      have hab : ab0 (136, b', c', s') = (0, b', c' + 1, pmR s') := if_pos rfl
      rw [hab]
      refine ⟨⟨k7, k8, k5, by omega⟩, ⟨by omega, by rw [pmR_len]; omega⟩, by rw [pmR_len]; omega, ⟨by omega, by omega⟩, ⟨by omega, by omega⟩, ⟨rfl, rfl, rfl, by omega, by omega, rfl, rfl, rfl, rfl⟩, by omega⟩
    · have h2 := of_decide_eq_false h2
      have hab : ab0 (a', b', c', s') = (a', b', c', s') := if_neg h2
      rw [hab]
      refine ⟨⟨k1, by omega⟩, by omega, ⟨by omega, by omega⟩, ⟨by omega, by omega⟩, ⟨rfl, rfl, rfl, by omega, by omega, rfl, rfl, rfl, rfl⟩, by omega⟩
  · have h := of_decide_eq_false h
    have ei : i = l'.length := by omega
    rw [← ei, hX]
    exact ⟨rfl, rfl, rfl, rfl⟩
theorem ok278 : SpecOk (base.with sp271) 278 (mkF ct278) := spec_ct (fn := Tryz.f278) (c := bodyOf Tryz.f278) (k := Tryz.f278.ntmps - ct278.ps.length) (ct := ct278) c271 Tryz.func278 (by kernel_rfl) ann278 (by kernel_rfl) (fun vs w _ => Tryz.call278 vs w) (by rw [e278]; exact vc278)
theorem c278 : (base.with sp278).Ok := addS_ok c271 ok278
theorem vc275 : P275 := by
  rintro n a b c s ⟨hx, hn⟩
  refine ⟨⟨⟨rfl, by omega, by omega, rfl, rfl, rfl, rfl, rfl⟩, trivial⟩, ?_⟩
  rintro m i a' b' c' s' o _ ⟨rfl, h0, h1, ea, eb, ec, es, eo⟩
  obtain ⟨i, rfl⟩ := Int.eq_ofNat_of_zero_le h0
  rw [Int.toNat_natCast] at ea eb ec es eo
  have hN := sqS_ok hx i
  have e2 : ((i : Int) + 1).toNat = i + 1 := by omega
  have hs1 : sqS (a, b, c, s) (i + 1) = sq1 (sq0 (sqS (a, b, c, s) i)) := rfl
  have ho1 : sqO (a, b, c, s) (i + 1) = sqO (a, b, c, s) i ++ [[.int (rv (sq0 (sqS (a, b, c, s) i)).2.2.2 (sq0 (sqS (a, b, c, s) i)).2.1.toNat)]] := rfl
  have hol := sqO_len (a, b, c, s) i
  rw [e2, hs1, ho1]
  generalize hX : sqS (a, b, c, s) i = X at *
  obtain ⟨x1, x2, x3, x4⟩ := X
  simp only at ea eb ec es
  subst ea eb ec es eo
  obtain ⟨k1, k2, k3, k4, k5, k6, k7, k8⟩ := hN
  simp only at k1 k2 k3 k4 k5 k6 k7 k8
  refine condI (fun h => ?_) fun h => ?_
  · have h := of_decide_eq_true h
    refine ⟨trivial, condI (fun h2 => ?_) fun h2 => ?_⟩
    · have h2 := of_decide_eq_true h2
      subst h2
      have hab : sq0 (a', 136, c', s') = (0, 0, c' + 1, pmR s') := if_pos rfl
      rw [hab]
      refine ⟨⟨k7, k8, k5, by omega⟩, ⟨by omega, by rw [pmR_len]; omega⟩, by rw [pmR_len]; omega, ⟨by omega, by omega⟩, ⟨by omega, by omega⟩, ⟨by omega, by omega⟩, ⟨rfl, by omega, by omega, rfl, rfl, rfl, rfl, rfl⟩, by omega⟩
    · have h2 := of_decide_eq_false h2
      have hab : sq0 (a', b', c', s') = (a', b', c', s') := if_neg h2
      rw [hab]
      refine ⟨⟨k3, by omega⟩, by omega, ⟨by omega, by omega⟩, ⟨by omega, by omega⟩, ⟨by omega, by omega⟩, ⟨rfl, by omega, by omega, rfl, rfl, rfl, rfl, rfl⟩, by omega⟩
  · have h := of_decide_eq_false h
    have ei : n.toNat = i := by omega
    rw [ei, hX]
    exact ⟨rfl, rfl, rfl, rfl, rfl⟩
theorem ok275 : SpecOk (base.with sp278) 275 (mkF ct275) := spec_ct (fn := Tryz.f275) (c := bodyOf Tryz.f275) (k := Tryz.f275.ntmps - ct275.ps.length) (ct := ct275) c278 Tryz.func275 (by kernel_rfl) ann275 (by kernel_rfl) (fun vs w _ => Tryz.call275 vs w) (by rw [e275]; exact vc275)
theorem c275 : (base.with sp275).Ok := addS_ok c278 ok275
theorem vc277 : P277 := by
  intro a b c s h
  have hl := sqO_len (a, b, c, s) 32
  rw [blB, hid_eq]
  generalize sqO (a, b, c, s) 32 = O at *
  generalize sqS (a, b, c, s) 32 = X at *
  rw [List.drop_zero, List.take_of_length_le (Nat.le_of_eq hl)]
  exact ⟨⟨h, by omega⟩, by omega, by omega, rfl, rfl, rfl, rfl, rfl⟩
theorem ok277 : SpecOk (base.with sp275) 277 (mkF ct277) := spec_ct (fn := Tryz.f277) (c := bodyOf Tryz.f277) (k := Tryz.f277.ntmps - ct277.ps.length) (ct := ct277) c275 Tryz.func277 (by kernel_rfl) noAnn (by kernel_rfl) (fun vs w _ => Tryz.call277 vs w) (by rw [e277]; exact vc277)
theorem c277 : (base.with sp277).Ok := addS_ok c275 ok277
end Go.Proofs.YteiecapbaeajdaaGreatDoor
namespace Go.Proofs.YteiecapbaeajdaaGreatDoor
open Go.Avc
set_option linter.unusedVariables false
abbrev opP : Pat := .agg [i64, i64, i64, rb]
def cntE (l : List (List CD)) : Int := if l.length = 0 ∨ 1048576 < l.length then 7 else 0
def rgtB (k t n : Int) (l : List (List CD)) : Bool := bif decide (chk k t n [] ≠ 0) then false else (bif decide (k ≠ 1) then decide (l.length = 0) else decide (cntE l = 0) && decide (n = l.length))
/-- What is told; nothing of what is none. -/
def toB (k t n : Int) (l : List (List CD)) : List (List CD) := if rgtB k t n l = true then [k % 256, t % 256, n % 256, n / 256 % 256, n / 65536 % 256, n / 16777216 % 256].map row1 ++ l else []
def pre95 (k t n : Int) (l : List (List CD)) : Prop := k = 1 → t = 1
/-! ### Contracts -/
def ct138 : Ct := { ps := [i64], bs := [], pre := fun | [.i t] => t = 1 | _ => False, res := fun _ => .ret (.agg [i64, .nilf, .nils]) [] [.i 1] }
def ct136 : Ct := { ps := [i64], bs := [], pre := fun | [.i t] => t = 1 | _ => False, res := fun _ => .ret i64 [] [.i 1] }
def ct91 : Ct := { ps := [i64, rb], bs := [], pre := fun | [.i t, .r l] => t = 1 | _ => False, res := fun | [.i t, .r l] => .ret (.tup [i64, i64]) [] [.i (if cntE l = 0 then l.length else 0), .i (cntE l)] | _ => noRes }
def ct93 : Ct := { ps := [i64, rb], bs := [], pre := fun | [.i t, .r l] => t = 1 | _ => False, res := fun | [.i t, .r l] => .ret i64 [] [.i (cntE l)] | _ => noRes }
def ann93 : List Dat → Ann
  | [.i t, .r l] => { cut := [], loop := [(6, [la 44 [(1, rb), (7, .ptr 0 0), (8, i64)] [.cells 265 [i64, .nilf, .nils]] (fun | [.r l', .i i, .i s] => i = 0 ∧ cntE l = 0 | _ => False) (fun _ => 0)])] }
  | _ => { cut := [], loop := [] }
def ct95 : Ct := { ps := [opP], bs := [], pre := fun | [.i k, .i t, .i n, .r l] => pre95 k t n l | _ => False, res := fun | [.i k, .i t, .i n, .r l] => .ret .bool [] [.b (rgtB k t n l)] | _ => noRes }
def ct58 : Ct := { ps := [opP], bs := [], pre := fun | [.i k, .i t, .i n, .r l] => pre95 k t n l ∧ l.length ≤ 1000 | _ => False, res := fun | [.i k, .i t, .i n, .r l] => .ret (.own 0) [ob] [.r (toB k t n l)] | _ => noRes }
noncomputable def ct274 : Ct := { ps := [ofB, opP], bs := [qSp, ob], pre := fun | [.i k, .i t, .i n, .r l, .i a, .i b, .i c, .r s] => pre95 k t n l ∧ l.length ≤ 1000 ∧ areB l ∧ spOk (a, b, c, s) | _ => False, res := fun
  | [.i k, .i t, .i n, .r l, .i a, .i b, .i c, .r s] => .ret (.tup []) [qSp, ob] [.i (abN (toB k t n l) (a, b, c, s) (toB k t n l).length).1, .i (abN (toB k t n l) (a, b, c, s) (toB k t n l).length).2.1, .i (abN (toB k t n l) (a, b, c, s) (toB k t n l).length).2.2.1, .r (abN (toB k t n l) (a, b, c, s) (toB k t n l).length).2.2.2]
  | _ => noRes }
end Go.Proofs.YteiecapbaeajdaaGreatDoor
namespace Go.Proofs.YteiecapbaeajdaaGreatDoor
open Go Go.Avc Go.Proofs
set_option linter.unusedVariables false
set_option maxRecDepth 100000
def P138 : Prop :=
 ∀ (n : Int),
 n = (1 : Int) →
 bif decide (n = (1 : Int)) then (1 : Int) = (1 : Int)
 else
 bif decide (n = (2 : Int)) then
 Miss (2 : Nat)
 { n := (0 : Nat), ov := [], tm := [SV.agg [SV.int Go.IntKind.i64 (8 : Int), SV.nilf, SV.own (1 : Nat)]], hp := [Blk.cells (265 : Nat) [SV.int Go.IntKind.i64 (8 : Int), SV.nilf, SV.own (1 : Nat)], Blk.own (3 : Nat) [CSh.int Go.IntKind.i64] [[CD.int (8 : Int)]]], G := [] }
 else
 bif decide (n = (3 : Int)) then
 Miss (2 : Nat)
 { n := (0 : Nat), ov := [], tm := [SV.agg [SV.int Go.IntKind.i64 (32 : Int), SV.fn (176 : Nat) [], SV.own (1 : Nat)]], hp := [Blk.cells (265 : Nat) [SV.int Go.IntKind.i64 (32 : Int), SV.fn (176 : Nat) [], SV.own (1 : Nat)], Blk.own (3 : Nat) [CSh.int Go.IntKind.i64] [[CD.int (32 : Int)]]], G := [] }
 else
 bif decide (n = (4 : Int)) then
 Miss (2 : Nat)
 { n := (0 : Nat), ov := [], tm := [SV.agg [SV.int Go.IntKind.i64 (96 : Int), SV.fn (178 : Nat) [], SV.own (1 : Nat)]], hp := [Blk.cells (265 : Nat) [SV.int Go.IntKind.i64 (96 : Int), SV.fn (178 : Nat) [], SV.own (1 : Nat)], Blk.own (3 : Nat) [CSh.int Go.IntKind.i64] [[CD.int (31 : Int)], [CD.int (31 : Int)], [CD.int (31 : Int)], [CD.int (3 : Int)]]], G := [] }
 else (0 : Int) = (1 : Int)
theorem e138 : ct138.VC (base.with sp277) Tryz.f138.results.toList Tryz.f138.ntmps (Tryz.f138.ntmps - ct138.ps.length) (bodyOf Tryz.f138) noAnn = P138 := by kernel_rfl
noncomputable def sp138 : SpecT := addS sp277 138 (mkF ct138)
def P136 : Prop :=
 ∀ (n : Int), n = (1 : Int) → n = (1 : Int) ∧ (1 : Int) = (1 : Int)
theorem e136 : ct136.VC (base.with sp138) Tryz.f136.results.toList Tryz.f136.ntmps (Tryz.f136.ntmps - ct136.ps.length) (bodyOf Tryz.f136) noAnn = P136 := by kernel_rfl
noncomputable def sp136 : SpecT := addS sp138 136 (mkF ct136)
def P91 : Prop :=
 ∀ (n : Int) (l : List (List CD)),
 l.length ≤ (9223372036854775807 : Nat) →
 n = (1 : Int) →
 n = (1 : Int) ∧
 (l.length ≤ (9223372036854775807 : Nat) →
 ((0 : Int) ≤ (↑l.length : Int) ∧ (0 : Int) < (1 : Int)) ∧
 bif decide ((↑l.length : Int) % (1 : Int) ≠ (0 : Int)) then
 ((0 : Int) = if cntE l = (0 : Int) then (↑l.length : Int) else (0 : Int)) ∧ (3 : Int) = cntE l
 else
 l.length ≤ (9223372036854775807 : Nat) →
 (bw false (decide ((↑l.length : Int) = (0 : Int))) = true → l.length ≤ (9223372036854775807 : Nat)) →
 ((!decide ((↑l.length : Int) = (0 : Int))) = true → (0 : Int) ≤ (↑l.length : Int) ∧ (0 : Int) < (1 : Int) ∧ (↑l.length : Int) ≤ Go.IntKind.i64.max) ∧
 bif decide ((↑l.length : Int) = (0 : Int)) || decide ((1048576 : Int) < (↑l.length : Int) / (1 : Int)) then
 ((0 : Int) = if cntE l = (0 : Int) then (↑l.length : Int) else (0 : Int)) ∧
 (7 : Int) = cntE l
 else
 l.length ≤ (9223372036854775807 : Nat) →
 ((0 : Int) ≤ (↑l.length : Int) ∧ (0 : Int) < (1 : Int) ∧ (↑l.length : Int) ≤ Go.IntKind.i64.max) ∧
 ((↑l.length : Int) / (1 : Int) = if cntE l = (0 : Int) then (↑l.length : Int) else (0 : Int)) ∧
 (0 : Int) = cntE l)
theorem e91 : ct91.VC (base.with sp136) Tryz.f91.results.toList Tryz.f91.ntmps (Tryz.f91.ntmps - ct91.ps.length) (bodyOf Tryz.f91) noAnn = P91 := by kernel_rfl
noncomputable def sp91 : SpecT := addS sp136 91 (mkF ct91)
def P93 : Prop :=
 ∀ (n : Int) (l : List (List CD)),
 l.length ≤ (9223372036854775807 : Nat) →
 n = (1 : Int) →
 n = (1 : Int) ∧
 bif decide (cntE l ≠ (0 : Int)) then cntE l = cntE l
 else
 n = (1 : Int) ∧
 (((0 : Int) = (0 : Int) ∧ cntE l = (0 : Int)) ∧ True) ∧
 ∀ (l_1 : List (List CD)) (n n_1 : Int),
 l_1.length ≤ (9223372036854775807 : Nat) →
 n = (0 : Int) ∧ cntE l = (0 : Int) →
 ((bw true !true) = true → l_1.length ≤ (9223372036854775807 : Nat)) → (0 : Int) = cntE l
theorem e93 : ct93.VC (base.with sp91) Tryz.f93.results.toList Tryz.f93.ntmps (Tryz.f93.ntmps - ct93.ps.length) (bodyOf Tryz.f93) ann93 = P93 := by kernel_rfl
noncomputable def sp93 : SpecT := addS sp91 93 (mkF ct93)
def P95 : Prop :=
 ∀ (n n_1 n_2 : Int) (l : List (List CD)),
 l.length ≤ (9223372036854775807 : Nat) →
 pre95 n n_1 n_2 l →
 True ∧
 bif decide (chk n n_1 n_2 [] ≠ (0 : Int)) then false = rgtB n n_1 n_2 l
 else
 bif decide (n ≠ (1 : Int)) then l.length ≤ (9223372036854775807 : Nat) → decide ((↑l.length : Int) = (0 : Int)) = rgtB n n_1 n_2 l
 else
 n_1 = (1 : Int) ∧
 (decide ((if cntE l = (0 : Int) then (↑l.length : Int) else (0 : Int)) = n_2) = true → n_1 = (1 : Int)) ∧
 (decide ((if cntE l = (0 : Int) then (↑l.length : Int) else (0 : Int)) = n_2) &&
 decide (cntE l = (0 : Int))) =
 rgtB n n_1 n_2 l
theorem e95 : ct95.VC (base.with sp93) Tryz.f95.results.toList Tryz.f95.ntmps (Tryz.f95.ntmps - ct95.ps.length) (bodyOf Tryz.f95) noAnn = P95 := by kernel_rfl
noncomputable def sp95 : SpecT := addS sp93 95 (mkF ct95)
def P58 : Prop :=
 ∀ (n n_1 n_2 : Int) (l : List (List CD)),
 l.length ≤ (9223372036854775807 : Nat) →
 pre95 n n_1 n_2 l ∧ l.length ≤ (1000 : Nat) →
 pre95 n n_1 n_2 l ∧
 bif !rgtB n n_1 n_2 l then [] = toB n n_1 n_2 l
 else
 (0 : Int) ≤ (8 : Int) ∧
 (0 : Int) ≤ (16 : Int) ∧
 (0 : Int) ≤ (24 : Int) ∧
 (((6 : Nat) + l.length) * (1 : Nat) ≤ (140737488355328 : Nat) ∧ (6 : Nat) + l.length ≤ (9223372036854775807 : Nat)) ∧
 [[CD.int (Go.IntKind.u8.wrap n)], [CD.int (Go.IntKind.u8.wrap n_1)], [CD.int (Go.IntKind.u8.wrap n_2)],
 [CD.int (Go.IntKind.u8.wrap (bShr Go.IntKind.i64 n_2 (8 : Int)))],
 [CD.int (Go.IntKind.u8.wrap (bShr Go.IntKind.i64 n_2 (16 : Int)))],
 [CD.int (Go.IntKind.u8.wrap (bShr Go.IntKind.i64 n_2 (24 : Int)))]] ++
 l =
 toB n n_1 n_2 l
theorem e58 : ct58.VC (base.with sp95) Tryz.f58.results.toList Tryz.f58.ntmps (Tryz.f58.ntmps - ct58.ps.length) (bodyOf Tryz.f58) noAnn = P58 := by kernel_rfl
noncomputable def sp58 : SpecT := addS sp95 58 (mkF ct58)
def P274 : Prop :=
 ∀ (n n_1 n_2 : Int) (l : List (List CD)) (n_3 n_4 n_5 : Int) (l_1 : List (List CD)),
 l.length ≤ (9223372036854775807 : Nat) →
 pre95 n n_1 n_2 l ∧
 l.length ≤ (1000 : Nat) ∧ areB l ∧ spOk (n_3, n_4, n_5, l_1) →
 (pre95 n n_1 n_2 l ∧ l.length ≤ (1000 : Nat)) ∧
 (spOk (n_3, n_4, n_5, l_1) ∧
 areB (toB n n_1 n_2 l) ∧
 (toB n n_1 n_2 l).length ≤ (1000000 : Nat)) ∧
 (abN (toB n n_1 n_2 l) (n_3, n_4, n_5, l_1)
 (toB n n_1 n_2 l).length).fst =
 (abN (toB n n_1 n_2 l) (n_3, n_4, n_5, l_1)
 (toB n n_1 n_2 l).length).fst ∧
 (abN (toB n n_1 n_2 l) (n_3, n_4, n_5, l_1)
 (toB n n_1 n_2 l).length).snd.fst =
 (abN (toB n n_1 n_2 l) (n_3, n_4, n_5, l_1)
 (toB n n_1 n_2 l).length).snd.fst ∧
 (abN (toB n n_1 n_2 l) (n_3, n_4, n_5, l_1)
 (toB n n_1 n_2 l).length).snd.snd.fst =
 (abN (toB n n_1 n_2 l) (n_3, n_4, n_5, l_1)
 (toB n n_1 n_2 l).length).snd.snd.fst ∧
 (abN (toB n n_1 n_2 l) (n_3, n_4, n_5, l_1)
 (toB n n_1 n_2 l).length).snd.snd.snd =
 (abN (toB n n_1 n_2 l) (n_3, n_4, n_5, l_1)
 (toB n n_1 n_2 l).length).snd.snd.snd
theorem e274 : ct274.VC (base.with sp58) Tryz.f274.results.toList Tryz.f274.ntmps (Tryz.f274.ntmps - ct274.ps.length) (bodyOf Tryz.f274) noAnn = P274 := by kernel_rfl
noncomputable def sp274 : SpecT := addS sp58 274 (mkF ct274)
end Go.Proofs.YteiecapbaeajdaaGreatDoor
namespace Go.Proofs.YteiecapbaeajdaaGreatDoor
open Go Go.Avc Go.Proofs
set_option linter.unusedVariables false
set_option linter.unusedSimpArgs false
set_option maxRecDepth 100000
theorem vc138 : P138 := by
  rintro t rfl
  exact rfl
theorem ok138 : SpecOk (base.with sp277) 138 (mkF ct138) := spec_ct (fn := Tryz.f138) (c := bodyOf Tryz.f138) (k := Tryz.f138.ntmps - ct138.ps.length) (ct := ct138) c277 Tryz.func138 (by kernel_rfl) noAnn (by kernel_rfl) (fun vs w _ => Tryz.call138 vs w) (by rw [e138]; exact vc138)
theorem c138 : (base.with sp138).Ok := addS_ok c277 ok138
theorem vc136 : P136 := fun _ h => ⟨h, rfl⟩
theorem ok136 : SpecOk (base.with sp138) 136 (mkF ct136) := spec_ct (fn := Tryz.f136) (c := bodyOf Tryz.f136) (k := Tryz.f136.ntmps - ct136.ps.length) (ct := ct136) c138 Tryz.func136 (by kernel_rfl) noAnn (by kernel_rfl) (fun vs w _ => Tryz.call136 vs w) (by rw [e136]; exact vc136)
theorem c136 : (base.with sp136).Ok := addS_ok c138 ok136
theorem cntE_bad {l : List (List CD)} (h : l.length = 0 ∨ 1048576 < l.length) : cntE l = 7 := if_pos h
theorem cntE_ok {l : List (List CD)} (h : ¬ (l.length = 0 ∨ 1048576 < l.length)) : cntE l = 0 := if_neg h
theorem vc91 : P91 := by
  rintro t l hl rfl
  refine ⟨rfl, fun _ => ⟨⟨by omega, by omega⟩, condI (fun h => ?_) fun _ => fun _ => fun _ => ⟨fun _ => ⟨by omega, by omega, by show (l.length : Int) ≤ 9223372036854775807; omega⟩, condI (fun h => ?_) fun h => ?_⟩⟩⟩
  · have := of_decide_eq_true h
    omega
  · simp only [Bool.or_eq_true, decide_eq_true_eq, Int.ediv_one] at h
    rw [cntE_bad (by omega)]
    exact ⟨rfl, rfl⟩
  · simp only [Bool.or_eq_false_iff, decide_eq_false_iff_not, Int.ediv_one] at h
    rw [cntE_ok (by omega)]
    exact fun _ => ⟨⟨by omega, by omega, by show (l.length : Int) ≤ 9223372036854775807; omega⟩, by rw [Int.ediv_one]; rfl, rfl⟩
theorem ok91 : SpecOk (base.with sp136) 91 (mkF ct91) := spec_ct (fn := Tryz.f91) (c := bodyOf Tryz.f91) (k := Tryz.f91.ntmps - ct91.ps.length) (ct := ct91) c136 Tryz.func91 (by kernel_rfl) noAnn (by kernel_rfl) (fun vs w _ => Tryz.call91 vs w) (by rw [e91]; exact vc91)
theorem c91 : (base.with sp91).Ok := addS_ok c136 ok91
theorem vc93 : P93 := by
  rintro t l hl rfl
  refine ⟨rfl, condI (fun _ => rfl) fun h => ⟨rfl, ⟨⟨rfl, Decidable.not_not.1 (of_decide_eq_false h)⟩, trivial⟩, ?_⟩⟩
  rintro l1 i s _ ⟨_, h2⟩ _
  exact h2.symm
theorem ok93 : SpecOk (base.with sp91) 93 (mkF ct93) := spec_ct (fn := Tryz.f93) (c := bodyOf Tryz.f93) (k := Tryz.f93.ntmps - ct93.ps.length) (ct := ct93) c91 Tryz.func93 (by kernel_rfl) ann93 (by kernel_rfl) (fun vs w _ => Tryz.call93 vs w) (by rw [e93]; exact vc93)
theorem c93 : (base.with sp93).Ok := addS_ok c91 ok93
theorem vc95 : P95 := by
  rintro k t n l hl hp
  unfold rgtB
  refine ⟨trivial, condI (fun h => ?_) fun h => condI (fun h2 => ?_) fun h2 => ?_⟩
  · rw [h]; rfl
  · rw [h, h2]
    intro _
    exact decide_eq_decide.2 (by omega)
  · have hk : k = 1 := Decidable.not_not.1 (of_decide_eq_false h2)
    rw [h, h2]
    refine ⟨hp hk, fun _ => hp hk, ?_⟩
    show _ = (decide (cntE l = 0) && decide (n = l.length))
    by_cases h3 : cntE l = 0
    · rw [if_pos h3, decide_eq_true h3, Bool.and_true, Bool.true_and]
      exact decide_eq_decide.2 (by omega)
    · rw [decide_eq_false h3, Bool.and_false, Bool.false_and]
theorem ok95 : SpecOk (base.with sp93) 95 (mkF ct95) := spec_ct (fn := Tryz.f95) (c := bodyOf Tryz.f95) (k := Tryz.f95.ntmps - ct95.ps.length) (ct := ct95) c93 Tryz.func95 (by kernel_rfl) noAnn (by kernel_rfl) (fun vs w _ => Tryz.call95 vs w) (by rw [e95]; exact vc95)
theorem c95 : (base.with sp95).Ok := addS_ok c93 ok95
theorem u8w (n : Int) : IntKind.u8.wrap n = n % 256 := wrap_u8 n
theorem shr_i (n : Int) (k : Nat) (hk : k ≤ 64) : bShr .i64 n (k : Int) = n / 2 ^ k := by
  unfold bShr
  rw [Int.toNat_natCast, show min k IntKind.i64.bits = k from Nat.min_eq_left hk]
  exact Int.fdiv_eq_ediv_of_nonneg _ (Int.le_of_lt (Int.pow_pos (by decide)))
theorem vc58 : P58 := by
  rintro k t n l hl ⟨hp, hn⟩
  unfold toB
  refine ⟨hp, condI (fun h => ?_) fun h => ⟨by omega, by omega, by omega, ⟨by omega, by omega⟩, ?_⟩⟩
  · have h : rgtB k t n l = false := by simpa using h
    rw [if_neg (by rw [h]; decide)]
  · have h : rgtB k t n l = true := by simpa using h
    rw [if_pos h, u8w, u8w, u8w, u8w, u8w, u8w, show bShr .i64 n 8 = n / 256 from shr_i n 8 (by omega), show bShr .i64 n 16 = n / 65536 from shr_i n 16 (by omega), show bShr .i64 n 24 = n / 16777216 from shr_i n 24 (by omega)]
    rfl
theorem ok58 : SpecOk (base.with sp95) 58 (mkF ct58) := spec_ct (fn := Tryz.f58) (c := bodyOf Tryz.f58) (k := Tryz.f58.ntmps - ct58.ps.length) (ct := ct58) c95 Tryz.func58 (by kernel_rfl) noAnn (by kernel_rfl) (fun vs w _ => Tryz.call58 vs w) (by rw [e58]; exact vc58)
theorem c58 : (base.with sp58).Ok := addS_ok c95 ok58
theorem toB_len (k t n : Int) (l : List (List CD)) : (toB k t n l).length ≤ l.length + 6 := by
  unfold toB
  split
  · simp; try omega
  · simp
theorem toB_b (k t n : Int) {l : List (List CD)} (h : areB l) : areB (toB k t n l) := fun j => by
  unfold toB
  split
  · have b : ∀ m : Int, 0 ≤ m % 256 ∧ m % 256 < 256 := fun m => by omega
    match j with
    | 0 => exact b k
    | 1 => exact b t
    | 2 => exact b n
    | 3 => exact b _
    | 4 => exact b _
    | 5 => exact b _
    | j + 6 => exact h j
  · exact ⟨Int.le_refl 0, show (0 : Int) < 256 by decide⟩
theorem vc274 : P274 := by
  rintro k t n l a b c s hl ⟨hp, hn, hb, hs⟩
  have := toB_len k t n l
  exact ⟨⟨hp, hn⟩, ⟨hs, toB_b k t n hb, by omega⟩, rfl, rfl, rfl, rfl⟩
theorem ok274 : SpecOk (base.with sp58) 274 (mkF ct274) := spec_ct (fn := Tryz.f274) (c := bodyOf Tryz.f274) (k := Tryz.f274.ntmps - ct274.ps.length) (ct := ct274) c58 Tryz.func274 (by kernel_rfl) noAnn (by kernel_rfl) (fun vs w _ => Tryz.call274 vs w) (by rw [e274]; exact vc274)
theorem c274 : (base.with sp274).Ok := addS_ok c58 ok274
end Go.Proofs.YteiecapbaeajdaaGreatDoor
namespace Go.Proofs.YteiecapbaeajdaaGreatDoor
open Go.Avc
set_option linter.unusedVariables false
abbrev ofB2 : Pat := .fb 277 [ofB]
abbrev elE : List CSh := [.int .u64, .int .u64, .int .u64, .int .u64]
abbrev oe : BPat := .own 76 elE
/-- The words of a block, masked. -/
noncomputable def blW (x : Sp) : List Int := w32 ((maskL (blB x)).map row1)
noncomputable def itS (x : Sp) : Nat → Sp
  | 0 => x
  | i + 1 => sqS (itS x i) 32
/-- The first element among blocks, how many were asked for, the error, the sponge. -/
noncomputable def fdF (x : Sp) : Nat → Nat → List Int × Int × Int × Sp
  | 0, i => ([0, 0, 0, 0], 64, 11, x)
  | f + 1, i => if (boN (blW x) pW 4).2 = 0 then fdF (sqS x 32) f (i + 1) else (enW (blW x), (i : Int) + 1, 0, sqS x 32)
noncomputable def fdX (x : Sp) : List Int × Int × Int × Sp := hid (fdF x 64 0)
def spC (x : Sp) : Prop := spB 900000000 x
def rowE (w : List Int) : List CD := [.int (gI w 0), .int (gI w 1), .int (gI w 2), .int (gI w 3)]
/-! ### Contracts -/
noncomputable def ct279 : Ct := { ps := [ofB2], bs := [qSp, ob], pre := fun | [.i a, .i b, .i c, .r s] => spC (a, b, c, s) | _ => False, res := fun
  | [.i a, .i b, .i c, .r s] => .ret (.tup [w4, i64, i64]) [qSp, ob] [.li (fdX (a, b, c, s)).1, .i (fdX (a, b, c, s)).2.1, .i (fdX (a, b, c, s)).2.2.1, .i (fdX (a, b, c, s)).2.2.2.1, .i (fdX (a, b, c, s)).2.2.2.2.1, .i (fdX (a, b, c, s)).2.2.2.2.2.1, .r (fdX (a, b, c, s)).2.2.2.2.2.2]
  | _ => noRes }
noncomputable def ann279 : List Dat → Ann
  | [.i a, .i b, .i c, .r s] => { cut := [], loop := [(2, [la 27 [(0, ofB2), (2, .ptr 2 0), (9, i64)] [qSp, ob, qe] (fun
      | [.i i, .i a', .i b', .i c', .r s', .li _] => 0 ≤ i ∧ i ≤ 64 ∧ (a', b', c', s') = itS (a, b, c, s) i.toNat ∧ fdX (a, b, c, s) = fdF (itS (a, b, c, s) i.toNat) (64 - i.toNat) i.toNat
      | _ => False) (fun | [.i i, _, _, _, _, _] => (64 - i).toNat | _ => 0)])] }
  | _ => { cut := [], loop := [] }
/-- One element is drawn. -/
noncomputable def ct276 : Ct := { ps := [i64, ofB2], bs := [qSp, ob], pre := fun | [.i n, .i a, .i b, .i c, .r s] => n = 1 ∧ spC (a, b, c, s) | _ => False, res := fun
  | [.i n, .i a, .i b, .i c, .r s] => .ite (decide ((fdX (a, b, c, s)).2.2.1 = 0))
      (.ret (.tup [.own 2, i64, i64]) [qSp, ob, oe] [.i (fdX (a, b, c, s)).2.1, .i 0, .i (fdX (a, b, c, s)).2.2.2.1, .i (fdX (a, b, c, s)).2.2.2.2.1, .i (fdX (a, b, c, s)).2.2.2.2.2.1, .r (fdX (a, b, c, s)).2.2.2.2.2.2, .r [rowE (fdX (a, b, c, s)).1]])
      (.ret (.tup [.nils, i64, i64]) [qSp, ob] [.i (fdX (a, b, c, s)).2.1, .i (fdX (a, b, c, s)).2.2.1, .i (fdX (a, b, c, s)).2.2.2.1, .i (fdX (a, b, c, s)).2.2.2.2.1, .i (fdX (a, b, c, s)).2.2.2.2.2.1, .r (fdX (a, b, c, s)).2.2.2.2.2.2])
  | _ => noRes }
noncomputable def ann276 : List Dat → Ann
  | [.i n, .i a, .i b, .i c, .r s] => { cut := [], loop := [(4, [la 36 [(1, ofB2), (7, .own 2), (8, i64), (13, i64), (14, i64)] [qSp, ob, oe] (fun
      | [.i t, .i m, .i i, .i a', .i b', .i c', .r s', .r o] => m = 1 ∧ ((i = 0 ∧ t = 0 ∧ a' = a ∧ b' = b ∧ c' = c ∧ s' = s ∧ o = []) ∨ (i = 1 ∧ (fdX (a, b, c, s)).2.2.1 = 0 ∧ t = (fdX (a, b, c, s)).2.1 ∧ (a', b', c', s') = (fdX (a, b, c, s)).2.2.2 ∧ o = [rowE (fdX (a, b, c, s)).1]))
      | _ => False) (fun | [_, _, .i i, _, _, _, _, _] => (1 - i).toNat | _ => 0)])] }
  | _ => { cut := [], loop := [] }
noncomputable def ct273 : Ct := { ps := [ofB, i64], bs := [qSp, ob], pre := fun | [.i n, .i a, .i b, .i c, .r s] => n = 1 ∧ spC (a, b, c, s) | _ => False, res := fun
  | [.i n, .i a, .i b, .i c, .r s] => .ite (decide ((fdX (a, b, c, s)).2.2.1 = 0))
      (.ret (.tup [.own 2, i64]) [qSp, ob, oe] [.i 0, .i (fdX (a, b, c, s)).2.2.2.1, .i (fdX (a, b, c, s)).2.2.2.2.1, .i (fdX (a, b, c, s)).2.2.2.2.2.1, .r (fdX (a, b, c, s)).2.2.2.2.2.2, .r [rowE (fdX (a, b, c, s)).1]])
      (.ret (.tup [.nils, i64]) [qSp, ob] [.i (fdX (a, b, c, s)).2.2.1, .i (fdX (a, b, c, s)).2.2.2.1, .i (fdX (a, b, c, s)).2.2.2.2.1, .i (fdX (a, b, c, s)).2.2.2.2.2.1, .r (fdX (a, b, c, s)).2.2.2.2.2.2])
  | _ => noRes }
end Go.Proofs.YteiecapbaeajdaaGreatDoor
namespace Go.Proofs.YteiecapbaeajdaaGreatDoor
open Go Go.Avc Go.Proofs
set_option linter.unusedVariables false
set_option maxRecDepth 100000
def P279 : Prop :=
 ∀ (n n_1 n_2 : Int) (l : List (List CD)),
 spC (n, n_1, n_2, l) →
 (((0 : Int) ≤ (0 : Int) ∧
 (0 : Int) ≤ (64 : Int) ∧
 (n, n_1, n_2, l) = itS (n, n_1, n_2, l) (0 : Nat) ∧
 fdX (n, n_1, n_2, l) =
 fdF (itS (n, n_1, n_2, l) (0 : Nat)) (64 : Nat) (0 : Nat)) ∧
 True) ∧
 ∀ (n_3 n_4 n_5 n_6 : Int) (l_1 : List (List CD)) (l_2 : List Int),
 l_2.length = (4 : Nat) →
 (0 : Int) ≤ n_3 ∧
 n_3 ≤ (64 : Int) ∧
 (n_4, n_5, n_6, l_1) = itS (n, n_1, n_2, l) n_3.toNat ∧
 fdX (n, n_1, n_2, l) =
 fdF (itS (n, n_1, n_2, l) n_3.toNat) ((64 : Nat) - n_3.toNat) n_3.toNat →
 bif decide (n_3 < (64 : Int)) then
 spOk (n_4, n_5, n_6, l_1) ∧
 True ∧
 ((0 : Int) ≤ (0 : Int) ∧ (0 : Int) ≤ (↑(32 : Nat) : Int) ∧ (↑(32 : Nat) : Int) ≤ (↑(32 : Nat) : Int) ∧ (0 : Int) < (↑(32 : Nat) : Int)) ∧
 areB
 (List.map (fun x => [CD.int x])
 (List.take (32 : Nat) (List.drop (0 : Nat) (maskL (blB (n_4, n_5, n_6, l_1)))))) ∧
 bif
 decide
 ((List.map (fun x => [CD.int x])
 (List.take (32 : Nat)
 (List.drop (0 : Nat) (maskL (blB (n_4, n_5, n_6, l_1)))))).length ≠
 (32 : Nat)) then
 ((-9223372036854775808 : Int) ≤ n_3 + (1 : Int) ∧ n_3 + (1 : Int) ≤ (9223372036854775807 : Int)) ∧
 ((0 : Int) ≤ n_3 + (1 : Int) ∧
 n_3 + (1 : Int) ≤ (64 : Int) ∧
 ((sqS (n_4, n_5, n_6, l_1) (32 : Nat)).fst,
 (sqS (n_4, n_5, n_6, l_1) (32 : Nat)).snd.fst,
 (sqS (n_4, n_5, n_6, l_1) (32 : Nat)).snd.snd.fst,
 (sqS (n_4, n_5, n_6, l_1) (32 : Nat)).snd.snd.snd) =
 itS (n, n_1, n_2, l) (n_3 + (1 : Int)).toNat ∧
 fdX (n, n_1, n_2, l) =
 fdF (itS (n, n_1, n_2, l) (n_3 + (1 : Int)).toNat)
 ((64 : Nat) - (n_3 + (1 : Int)).toNat) (n_3 + (1 : Int)).toNat) ∧
 ((64 : Int) - (n_3 + (1 : Int))).toNat < ((64 : Int) - n_3).toNat
 else
 bif
 decide
 ((boN
 (w32
 (List.map (fun x => [CD.int x])
 (List.take (32 : Nat)
 (List.drop (0 : Nat) (maskL (blB (n_4, n_5, n_6, l_1)))))))
 [(4891460686036598785 : Int), (2896914383306846353 : Int), (13281191951274694749 : Int), (3486998266802970665 : Int)] (4 : Nat)).snd =
 (0 : Int)) then
 ((-9223372036854775808 : Int) ≤ n_3 + (1 : Int) ∧ n_3 + (1 : Int) ≤ (9223372036854775807 : Int)) ∧
 ((0 : Int) ≤ n_3 + (1 : Int) ∧
 n_3 + (1 : Int) ≤ (64 : Int) ∧
 ((sqS (n_4, n_5, n_6, l_1) (32 : Nat)).fst,
 (sqS (n_4, n_5, n_6, l_1) (32 : Nat)).snd.fst,
 (sqS (n_4, n_5, n_6, l_1) (32 : Nat)).snd.snd.fst,
 (sqS (n_4, n_5, n_6, l_1) (32 : Nat)).snd.snd.snd) =
 itS (n, n_1, n_2, l) (n_3 + (1 : Int)).toNat ∧
 fdX (n, n_1, n_2, l) =
 fdF (itS (n, n_1, n_2, l) (n_3 + (1 : Int)).toNat)
 ((64 : Nat) - (n_3 + (1 : Int)).toNat) (n_3 + (1 : Int)).toNat) ∧
 ((64 : Int) - (n_3 + (1 : Int))).toNat < ((64 : Int) - n_3).toNat
 else
 ((-9223372036854775808 : Int) ≤ n_3 + (1 : Int) ∧ n_3 + (1 : Int) ≤ (9223372036854775807 : Int)) ∧
 enW
 (w32
 (List.map (fun x => [CD.int x])
 (List.take (32 : Nat)
 (List.drop (0 : Nat) (maskL (blB (n_4, n_5, n_6, l_1))))))) =
 (fdX (n, n_1, n_2, l)).fst ∧
 n_3 + (1 : Int) = (fdX (n, n_1, n_2, l)).snd.fst ∧
 (0 : Int) = (fdX (n, n_1, n_2, l)).snd.snd.fst ∧
 (sqS (n_4, n_5, n_6, l_1) (32 : Nat)).fst =
 (fdX (n, n_1, n_2, l)).snd.snd.snd.fst ∧
 (sqS (n_4, n_5, n_6, l_1) (32 : Nat)).snd.fst =
 (fdX (n, n_1, n_2, l)).snd.snd.snd.snd.fst ∧
 (sqS (n_4, n_5, n_6, l_1) (32 : Nat)).snd.snd.fst =
 (fdX (n, n_1, n_2, l)).snd.snd.snd.snd.snd.fst ∧
 (sqS (n_4, n_5, n_6, l_1) (32 : Nat)).snd.snd.snd =
 (fdX (n, n_1, n_2, l)).snd.snd.snd.snd.snd.snd
 else
 [(0 : Int), (0 : Int), (0 : Int), (0 : Int)] = (fdX (n, n_1, n_2, l)).fst ∧
 (64 : Int) = (fdX (n, n_1, n_2, l)).snd.fst ∧
 (11 : Int) = (fdX (n, n_1, n_2, l)).snd.snd.fst ∧
 n_4 = (fdX (n, n_1, n_2, l)).snd.snd.snd.fst ∧
 n_5 = (fdX (n, n_1, n_2, l)).snd.snd.snd.snd.fst ∧
 n_6 = (fdX (n, n_1, n_2, l)).snd.snd.snd.snd.snd.fst ∧
 l_1 = (fdX (n, n_1, n_2, l)).snd.snd.snd.snd.snd.snd
theorem e279 : ct279.VC (base.with sp274) Tryz.f279.results.toList Tryz.f279.ntmps (Tryz.f279.ntmps - ct279.ps.length) (bodyOf Tryz.f279) ann279 = P279 := by kernel_rfl
noncomputable def sp279 : SpecT := addS sp274 279 (mkF ct279)
def P276 : Prop :=
 ∀ (n n_1 n_2 n_3 : Int) (l : List (List CD)),
 n = (1 : Int) ∧ spC (n_1, n_2, n_3, l) →
 ((max n (0 : Int) = (1 : Int) ∧
 ((0 : Int) = (0 : Int) ∧ (0 : Int) = (0 : Int) ∧ n_1 = n_1 ∧ n_2 = n_2 ∧ n_3 = n_3 ∧ l = l ∧ ([] : List (List CD)) = [] ∨
 (0 : Int) = (1 : Int) ∧
 (fdX (n_1, n_2, n_3, l)).snd.snd.fst = (0 : Int) ∧
 (0 : Int) = (fdX (n_1, n_2, n_3, l)).snd.fst ∧
 (n_1, n_2, n_3, l) = (fdX (n_1, n_2, n_3, l)).snd.snd.snd ∧
 [] = [rowE (fdX (n_1, n_2, n_3, l)).fst])) ∧
 True) ∧
 ∀ (n n_4 n_5 n_6 n_7 n_8 : Int) (l_1 l_2 : List (List CD)),
 l_2.length ≤ (9223372036854775807 : Nat) →
 n_4 = (1 : Int) ∧
 (n_5 = (0 : Int) ∧ n = (0 : Int) ∧ n_6 = n_1 ∧ n_7 = n_2 ∧ n_8 = n_3 ∧ l_1 = l ∧ l_2 = [] ∨
 n_5 = (1 : Int) ∧
 (fdX (n_1, n_2, n_3, l)).snd.snd.fst = (0 : Int) ∧
 n = (fdX (n_1, n_2, n_3, l)).snd.fst ∧
 (n_6, n_7, n_8, l_1) = (fdX (n_1, n_2, n_3, l)).snd.snd.snd ∧
 l_2 = [rowE (fdX (n_1, n_2, n_3, l)).fst]) →
 bif decide (n_5 < n_4) then
 spC (n_6, n_7, n_8, l_1) ∧
 ((-9223372036854775808 : Int) ≤ n + (fdX (n_6, n_7, n_8, l_1)).snd.fst ∧
 n + (fdX (n_6, n_7, n_8, l_1)).snd.fst ≤ (9223372036854775807 : Int)) ∧
 bif decide ((fdX (n_6, n_7, n_8, l_1)).snd.snd.fst ≠ (0 : Int)) then
 bif decide ((fdX (n_1, n_2, n_3, l)).snd.snd.fst = (0 : Int)) then
 n + (fdX (n_6, n_7, n_8, l_1)).snd.fst = (fdX (n_1, n_2, n_3, l)).snd.fst ∧
 (fdX (n_6, n_7, n_8, l_1)).snd.snd.fst = (0 : Int) ∧
 (fdX (n_6, n_7, n_8, l_1)).snd.snd.snd.fst =
 (fdX (n_1, n_2, n_3, l)).snd.snd.snd.fst ∧
 (fdX (n_6, n_7, n_8, l_1)).snd.snd.snd.snd.fst =
 (fdX (n_1, n_2, n_3, l)).snd.snd.snd.snd.fst ∧
 (fdX (n_6, n_7, n_8, l_1)).snd.snd.snd.snd.snd.fst =
 (fdX (n_1, n_2, n_3, l)).snd.snd.snd.snd.snd.fst ∧
 (fdX (n_6, n_7, n_8, l_1)).snd.snd.snd.snd.snd.snd =
 (fdX (n_1, n_2, n_3, l)).snd.snd.snd.snd.snd.snd ∧
 [] = [rowE (fdX (n_1, n_2, n_3, l)).fst]
 else
 n + (fdX (n_6, n_7, n_8, l_1)).snd.fst = (fdX (n_1, n_2, n_3, l)).snd.fst ∧
 (fdX (n_6, n_7, n_8, l_1)).snd.snd.fst = (fdX (n_1, n_2, n_3, l)).snd.snd.fst ∧
 (fdX (n_6, n_7, n_8, l_1)).snd.snd.snd.fst =
 (fdX (n_1, n_2, n_3, l)).snd.snd.snd.fst ∧
 (fdX (n_6, n_7, n_8, l_1)).snd.snd.snd.snd.fst =
 (fdX (n_1, n_2, n_3, l)).snd.snd.snd.snd.fst ∧
 (fdX (n_6, n_7, n_8, l_1)).snd.snd.snd.snd.snd.fst =
 (fdX (n_1, n_2, n_3, l)).snd.snd.snd.snd.snd.fst ∧
 (fdX (n_6, n_7, n_8, l_1)).snd.snd.snd.snd.snd.snd =
 (fdX (n_1, n_2, n_3, l)).snd.snd.snd.snd.snd.snd
 else
 ((l_2.length + (1 : Nat)) * (32 : Nat) ≤ (140737488355328 : Nat) ∧ l_2.length + (1 : Nat) ≤ (9223372036854775807 : Nat)) ∧
 ((-9223372036854775808 : Int) ≤ n_5 + (1 : Int) ∧ n_5 + (1 : Int) ≤ (9223372036854775807 : Int)) ∧
 (n_4 = (1 : Int) ∧
 (n_5 + (1 : Int) = (0 : Int) ∧
 n + (fdX (n_6, n_7, n_8, l_1)).snd.fst = (0 : Int) ∧
 (fdX (n_6, n_7, n_8, l_1)).snd.snd.snd.fst = n_1 ∧
 (fdX (n_6, n_7, n_8, l_1)).snd.snd.snd.snd.fst = n_2 ∧
 (fdX (n_6, n_7, n_8, l_1)).snd.snd.snd.snd.snd.fst = n_3 ∧
 (fdX (n_6, n_7, n_8, l_1)).snd.snd.snd.snd.snd.snd = l ∧
 l_2 ++
 [[CD.int ((fdX (n_6, n_7, n_8, l_1)).fst.getD 0 (0 : Int)),
 CD.int ((fdX (n_6, n_7, n_8, l_1)).fst.getD 1 (0 : Int)),
 CD.int ((fdX (n_6, n_7, n_8, l_1)).fst.getD 2 (0 : Int)),
 CD.int ((fdX (n_6, n_7, n_8, l_1)).fst.getD 3 (0 : Int))]] =
 [] ∨
 n_5 + (1 : Int) = (1 : Int) ∧
 (fdX (n_1, n_2, n_3, l)).snd.snd.fst = (0 : Int) ∧
 n + (fdX (n_6, n_7, n_8, l_1)).snd.fst =
 (fdX (n_1, n_2, n_3, l)).snd.fst ∧
 ((fdX (n_6, n_7, n_8, l_1)).snd.snd.snd.fst,
 (fdX (n_6, n_7, n_8, l_1)).snd.snd.snd.snd.fst,
 (fdX (n_6, n_7, n_8, l_1)).snd.snd.snd.snd.snd.fst,
 (fdX (n_6, n_7, n_8, l_1)).snd.snd.snd.snd.snd.snd) =
 (fdX (n_1, n_2, n_3, l)).snd.snd.snd ∧
 l_2 ++
 [[CD.int ((fdX (n_6, n_7, n_8, l_1)).fst.getD 0 (0 : Int)),
 CD.int ((fdX (n_6, n_7, n_8, l_1)).fst.getD 1 (0 : Int)),
 CD.int ((fdX (n_6, n_7, n_8, l_1)).fst.getD 2 (0 : Int)),
 CD.int ((fdX (n_6, n_7, n_8, l_1)).fst.getD 3 (0 : Int))]] =
 [rowE (fdX (n_1, n_2, n_3, l)).fst])) ∧
 ((1 : Int) - (n_5 + (1 : Int))).toNat < ((1 : Int) - n_5).toNat
 else
 bif decide ((fdX (n_1, n_2, n_3, l)).snd.snd.fst = (0 : Int)) then
 n = (fdX (n_1, n_2, n_3, l)).snd.fst ∧
 (0 : Int) = (0 : Int) ∧
 n_6 = (fdX (n_1, n_2, n_3, l)).snd.snd.snd.fst ∧
 n_7 = (fdX (n_1, n_2, n_3, l)).snd.snd.snd.snd.fst ∧
 n_8 = (fdX (n_1, n_2, n_3, l)).snd.snd.snd.snd.snd.fst ∧
 l_1 = (fdX (n_1, n_2, n_3, l)).snd.snd.snd.snd.snd.snd ∧
 l_2 = [rowE (fdX (n_1, n_2, n_3, l)).fst]
 else
 Miss (2 : Nat)
 { n := (0 : Nat), ov := [], tm := [SV.tup [SV.own (2 : Nat), SV.int Go.IntKind.i64 n, SV.int Go.IntKind.i64 (0 : Int)]], hp := [Blk.cells (298 : Go.TypeId) [SV.iface (253 : Go.TypeId) (SV.agg []), SV.own (1 : Nat), SV.int Go.IntKind.i64 n_6, SV.int Go.IntKind.i64 n_7, SV.int Go.IntKind.i64 n_8], Blk.own (5 : Go.TypeId) [CSh.int Go.IntKind.u8] l_1, Blk.own (76 : Go.TypeId) [CSh.int Go.IntKind.u64, CSh.int Go.IntKind.u64, CSh.int Go.IntKind.u64, CSh.int Go.IntKind.u64] l_2], G := [] }
theorem e276 : ct276.VC (base.with sp279) Tryz.f276.results.toList Tryz.f276.ntmps (Tryz.f276.ntmps - ct276.ps.length) (bodyOf Tryz.f276) ann276 = P276 := by kernel_rfl
noncomputable def sp276 : SpecT := addS sp279 276 (mkF ct276)
def P273 : Prop :=
 ∀ (n n_1 n_2 n_3 : Int) (l : List (List CD)),
 n = (1 : Int) ∧ spC (n_1, n_2, n_3, l) →
 (n = (1 : Int) ∧ spC (n_1, n_2, n_3, l)) ∧
 bif decide ((fdX (n_1, n_2, n_3, l)).snd.snd.fst = (0 : Int)) then
 bif decide ((fdX (n_1, n_2, n_3, l)).snd.snd.fst = (0 : Int)) then
 (0 : Int) = (0 : Int) ∧
 (fdX (n_1, n_2, n_3, l)).snd.snd.snd.fst = (fdX (n_1, n_2, n_3, l)).snd.snd.snd.fst ∧
 (fdX (n_1, n_2, n_3, l)).snd.snd.snd.snd.fst = (fdX (n_1, n_2, n_3, l)).snd.snd.snd.snd.fst ∧
 (fdX (n_1, n_2, n_3, l)).snd.snd.snd.snd.snd.fst =
 (fdX (n_1, n_2, n_3, l)).snd.snd.snd.snd.snd.fst ∧
 (fdX (n_1, n_2, n_3, l)).snd.snd.snd.snd.snd.snd =
 (fdX (n_1, n_2, n_3, l)).snd.snd.snd.snd.snd.snd ∧
 [rowE (fdX (n_1, n_2, n_3, l)).fst] =
 [rowE (fdX (n_1, n_2, n_3, l)).fst]
 else
 Miss (2 : Nat)
 { n := (0 : Nat), ov := [], tm := [SV.tup [SV.own (3 : Nat), SV.int Go.IntKind.i64 (0 : Int)]], hp := [Blk.cells (298 : Go.TypeId) [SV.iface (253 : Go.TypeId) (SV.agg []), SV.own (1 : Nat), SV.int Go.IntKind.i64 (fdX (n_1, n_2, n_3, l)).snd.snd.snd.fst, SV.int Go.IntKind.i64 (fdX (n_1, n_2, n_3, l)).snd.snd.snd.snd.fst, SV.int Go.IntKind.i64 (fdX (n_1, n_2, n_3, l)).snd.snd.snd.snd.snd.fst], Blk.own (5 : Go.TypeId) [CSh.int Go.IntKind.u8] (fdX (n_1, n_2, n_3, l)).snd.snd.snd.snd.snd.snd, Blk.cells (133 : Nat) [SV.ptr (0 : Nat) (0 : Nat)], Blk.own (76 : Go.TypeId) [CSh.int Go.IntKind.u64, CSh.int Go.IntKind.u64, CSh.int Go.IntKind.u64, CSh.int Go.IntKind.u64] [rowE (fdX (n_1, n_2, n_3, l)).fst]], G := [] }
 else
 bif decide ((fdX (n_1, n_2, n_3, l)).snd.snd.fst = (0 : Int)) then
 (fdX (n_1, n_2, n_3, l)).snd.snd.fst = (0 : Int) ∧
 (fdX (n_1, n_2, n_3, l)).snd.snd.snd.fst = (fdX (n_1, n_2, n_3, l)).snd.snd.snd.fst ∧
 (fdX (n_1, n_2, n_3, l)).snd.snd.snd.snd.fst = (fdX (n_1, n_2, n_3, l)).snd.snd.snd.snd.fst ∧
 (fdX (n_1, n_2, n_3, l)).snd.snd.snd.snd.snd.fst =
 (fdX (n_1, n_2, n_3, l)).snd.snd.snd.snd.snd.fst ∧
 (fdX (n_1, n_2, n_3, l)).snd.snd.snd.snd.snd.snd =
 (fdX (n_1, n_2, n_3, l)).snd.snd.snd.snd.snd.snd ∧
 [] = [rowE (fdX (n_1, n_2, n_3, l)).fst]
 else
 (fdX (n_1, n_2, n_3, l)).snd.snd.fst = (fdX (n_1, n_2, n_3, l)).snd.snd.fst ∧
 (fdX (n_1, n_2, n_3, l)).snd.snd.snd.fst = (fdX (n_1, n_2, n_3, l)).snd.snd.snd.fst ∧
 (fdX (n_1, n_2, n_3, l)).snd.snd.snd.snd.fst = (fdX (n_1, n_2, n_3, l)).snd.snd.snd.snd.fst ∧
 (fdX (n_1, n_2, n_3, l)).snd.snd.snd.snd.snd.fst =
 (fdX (n_1, n_2, n_3, l)).snd.snd.snd.snd.snd.fst ∧
 (fdX (n_1, n_2, n_3, l)).snd.snd.snd.snd.snd.snd =
 (fdX (n_1, n_2, n_3, l)).snd.snd.snd.snd.snd.snd
theorem e273 : ct273.VC (base.with sp276) Tryz.f273.results.toList Tryz.f273.ntmps (Tryz.f273.ntmps - ct273.ps.length) (bodyOf Tryz.f273) noAnn = P273 := by kernel_rfl
noncomputable def sp273 : SpecT := addS sp276 273 (mkF ct273)
end Go.Proofs.YteiecapbaeajdaaGreatDoor
namespace Go.Proofs.YteiecapbaeajdaaGreatDoor
open Go Go.Avc Go.Proofs
set_option linter.unusedVariables false
set_option linter.unusedSimpArgs false
set_option maxRecDepth 100000
def isY (n : Int) : Prop := 0 ≤ n ∧ n < 256
theorem isY0 : isY 0 := ⟨by omega, by omega⟩
theorem blB_len (x : Sp) : (blB x).length = 32 := by rw [blB, hid_eq, List.length_map, sqO_len]
theorem sqO_y {n : Int} {x : Sp} (h : spB n x) : ∀ i, ∀ r ∈ sqO x i, isY (r.getD 0 .d0).toInt
  | 0, r, hr => by cases hr
  | i + 1, r, hr => by
    rw [sqO, List.mem_append] at hr
    rcases hr with hr | hr
    · exact sqO_y h i r hr
    · rw [List.mem_singleton] at hr
      subst hr
      exact (sq0_ok (sqS_ok h i)).1.2.2.2.2.2.2.2 _
theorem all_get {P : Int → Prop} (h0 : P 0) {l : List Int} (h : ∀ n ∈ l, P n) (j : Nat) : P (l.getD j 0) := by
  rw [List.getD_eq_getElem?_getD]
  cases hj : l[j]? with
  | none => exact h0
  | some a => exact h a (List.mem_of_getElem? hj)
theorem blB_y {n : Int} {x : Sp} (h : spB n x) (j : Nat) : isY ((blB x).getD j 0) := by
  refine all_get isY0 (fun m hm => ?_) j
  rw [blB, hid_eq, List.mem_map] at hm
  obtain ⟨r, hr, rfl⟩ := hm
  exact sqO_y h 32 r hr
theorem bAnd8 (a b : Int) : isY (bAnd .u8 a b) := by
  unfold bAnd
  rw [u8w]
  unfold isY
  omega
theorem mask_y {l : List Int} (h : ∀ j, isY (l.getD j 0)) (j : Nat) : isY ((maskL l).getD j 0) := by
  unfold maskL
  rw [List.getD_eq_getElem?_getD, List.getElem?_set]
  split
  · split
    · exact bAnd8 _ _
    · exact isY0
  · rw [← List.getD_eq_getElem?_getD]; exact h j
theorem itS_ok {n : Int} {x : Sp} (h : spB n x) : ∀ i : Nat, spB (n + 32 * i) (itS x i)
  | 0 => by rw [show n + 32 * ((0 : Nat) : Int) = n from by omega]; exact h
  | i + 1 => by
    have := sqS_ok (itS_ok h i) 32
    rw [show n + 32 * ((i + 1 : Nat) : Int) = n + 32 * (i : Int) + (32 : Nat) from by omega]
    exact this
theorem spB_mono {n m : Int} (hn : n ≤ m) {x : Sp} (h : spB n x) : spB m x := by
  obtain ⟨h1, h2, h3, h4, h5, h6, h7⟩ := h
  exact ⟨h1, h2, h3, h4, h5, by omega, h7⟩
theorem fd_tries : ∀ (f i : Nat) (x : Sp), 0 ≤ (fdF x f i).2.1 ∧ (fdF x f i).2.1 ≤ 64 + f + i
  | 0, i, x => ⟨by show (0 : Int) ≤ 64; omega, by show (64 : Int) ≤ 64 + ((0 : Nat) : Int) + i; omega⟩
  | f + 1, i, x => by
    rw [fdF]
    split
    · have := fd_tries f (i + 1) (sqS x 32)
      omega
    · exact ⟨by show (0 : Int) ≤ (i : Int) + 1; omega, by show (i : Int) + 1 ≤ _; omega⟩
theorem fdX_tries (x : Sp) : 0 ≤ (fdX x).2.1 ∧ (fdX x).2.1 ≤ 128 := by
  have := fd_tries 64 0 x
  rw [fdX, hid_eq]
  omega
theorem vc279 : P279 := by
  rintro a b c s hc
  refine ⟨⟨⟨by omega, by omega, rfl, by rw [fdX, hid_eq]; rfl⟩, trivial⟩, ?_⟩
  rintro i a' b' c' s' z _ ⟨h0, h1, hst, hfd⟩
  obtain ⟨j, rfl⟩ := Int.eq_ofNat_of_zero_le h0
  rw [Int.toNat_natCast] at hst hfd
  have hok := itS_ok hc j
  have hnx : itS (a, b, c, s) (j + 1) = sqS (itS (a, b, c, s) j) 32 := rfl
  rw [← hst] at hok hfd hnx
  have hok' : spOk (a', b', c', s') := spB_mono (by omega) hok
  refine condI (fun h => ?_) fun h => ?_
  · have h := of_decide_eq_true h
    have e1 : ((j : Int) + 1).toNat = j + 1 := by omega
    have hl : (maskL (blB (a', b', c', s'))).length = 32 := by unfold maskL; rw [List.length_set, blB_len]
    rw [List.drop_zero, List.take_of_length_le (Nat.le_of_eq hl), e1, hnx]
    have ey : List.map (fun x => [CD.int x]) (maskL (blB (a', b', c', s'))) = (maskL (blB (a', b', c', s'))).map row1 := rfl
    rw [ey]
    have ew : w32 ((maskL (blB (a', b', c', s'))).map row1) = blW (a', b', c', s') := rfl
    rw [ew]
    have e64 : 64 - j = 64 - (j + 1) + 1 := by omega
    have hy : areB ((maskL (blB (a', b', c', s'))).map row1) := fun k => by rw [rv_row1]; exact mask_y (blB_y hok) k
    have hl2 : ((maskL (blB (a', b', c', s'))).map row1).length = 32 := by rw [List.length_map]; exact hl
    rw [hl2]
    obtain ⟨q, hq⟩ : ∃ q, (boN (blW (a', b', c', s')) pW 4).2 = q := ⟨_, rfl⟩
    have hq' : (boN (blW (a', b', c', s')) [4891460686036598785, 2896914383306846353, 13281191951274694749, 3486998266802970665] 4).2 = q := hq
    rw [hq', hfd, e64, fdF, hq]
    generalize blW (a', b', c', s') = W at *
    generalize sqS (a', b', c', s') 32 = X at *
    refine ⟨hok', trivial, ⟨by omega, by omega, by omega, by omega⟩, hy, ?_⟩
    refine condI (fun h3 => absurd rfl (of_decide_eq_true h3)) fun _ => ?_
    refine condI (fun h2 => ?_) fun h2 => ?_
    · rw [if_pos (of_decide_eq_true h2)]
      exact ⟨⟨by omega, by omega⟩, ⟨by omega, by omega, rfl, rfl⟩, by omega⟩
    · rw [if_neg (of_decide_eq_false h2)]
      generalize enW W = Y at *
      exact ⟨⟨by omega, by omega⟩, rfl, rfl, rfl, rfl, rfl, rfl, rfl⟩
  · have h := of_decide_eq_false h
    have ej : j = 64 := by omega
    rw [ej, Nat.sub_self, fdF] at hfd
    rw [hfd]
    exact ⟨rfl, rfl, rfl, rfl, rfl, rfl, rfl⟩
theorem ok279 : SpecOk (base.with sp274) 279 (mkF ct279) := spec_ct (fn := Tryz.f279) (c := bodyOf Tryz.f279) (k := Tryz.f279.ntmps - ct279.ps.length) (ct := ct279) c274 Tryz.func279 (by kernel_rfl) ann279 (by kernel_rfl) (fun vs w _ => Tryz.call279 vs w) (by rw [e279]; exact vc279)
theorem c279 : (base.with sp279).Ok := addS_ok c274 ok279
theorem vc276 : P276 := by
  rintro n a b c s ⟨rfl, hc⟩
  have ht := fdX_tries (a, b, c, s)
  generalize hF : fdX (a, b, c, s) = F at *
  refine ⟨⟨⟨rfl, .inl ⟨rfl, rfl, rfl, rfl, rfl, rfl, rfl⟩⟩, trivial⟩, ?_⟩
  rintro t m i a' b' c' s' o _ ⟨rfl, h⟩
  rcases h with ⟨rfl, rfl, rfl, rfl, rfl, rfl, rfl⟩ | ⟨rfl, h1, rfl, h2, rfl⟩
  · rw [hF]
    refine condI (fun _ => ⟨hc, ⟨by omega, by omega⟩, condI (fun h => ?_) fun h => ?_⟩) fun h => absurd (of_decide_eq_false h) (by decide)
    · have h' := of_decide_eq_true h
      rw [decide_eq_false h']
      exact ⟨by omega, rfl, rfl, rfl, rfl, rfl⟩
    · have h' : F.2.2.1 = 0 := Decidable.not_not.1 (of_decide_eq_false h)
      exact ⟨⟨by decide, by decide⟩, ⟨by omega, by omega⟩, ⟨rfl, .inr ⟨rfl, h', by omega, rfl, rfl⟩⟩, by decide⟩
  · refine condI (fun h => absurd (of_decide_eq_true h) (by decide)) fun _ => ?_
    rw [decide_eq_true h1]
    obtain ⟨F1, F2, F3, F4, F5, F6, F7⟩ := F
    cases h2
    exact ⟨rfl, rfl, rfl, rfl, rfl, rfl, rfl⟩
theorem ok276 : SpecOk (base.with sp279) 276 (mkF ct276) := spec_ct (fn := Tryz.f276) (c := bodyOf Tryz.f276) (k := Tryz.f276.ntmps - ct276.ps.length) (ct := ct276) c279 Tryz.func276 (by kernel_rfl) ann276 (by kernel_rfl) (fun vs w _ => Tryz.call276 vs w) (by rw [e276]; exact vc276)
theorem c276 : (base.with sp276).Ok := addS_ok c279 ok276
theorem vc273 : P273 := by
  rintro n a b c s h
  refine ⟨h, condI (fun h2 => ?_) fun h2 => ?_⟩
  · rw [h2]
    exact ⟨rfl, rfl, rfl, rfl, rfl, rfl⟩
  · rw [h2]
    exact ⟨rfl, rfl, rfl, rfl, rfl⟩
theorem ok273 : SpecOk (base.with sp276) 273 (mkF ct273) := spec_ct (fn := Tryz.f273) (c := bodyOf Tryz.f273) (k := Tryz.f273.ntmps - ct273.ps.length) (ct := ct273) c276 Tryz.func273 (by kernel_rfl) noAnn (by kernel_rfl) (fun vs w _ => Tryz.call273 vs w) (by rw [e273]; exact vc273)
theorem c273 : (base.with sp273).Ok := addS_ok c276 ok273
end Go.Proofs.YteiecapbaeajdaaGreatDoor
namespace Go.Proofs.YteiecapbaeajdaaGreatDoor
open Go Go.Avc
set_option linter.unusedVariables false
abbrev qM : BPat := .cells 332 [rw64, u64, rw64]
def cmpW (x y : Int) : Int := if x < y then -1 else if y < x then 1 else 0
def cmpD (a b : List (List CD)) : Nat → Int
  | 0 => 0
  | n + 1 => if cmpW (rv a n) (rv b n) = 0 then cmpD a b n else cmpW (rv a n) (rv b n)
def mxL (a b : List (List CD)) : Nat := max a.length b.length
/-- a - b, word by word; what is borrowed. -/
def eaN (a b : List (List CD)) : Nat → List Int × Int
  | 0 => (List.replicate (mxL a b) 0, 0)
  | i + 1 => ((eaN a b i).1.set i (sbD (rv a i) (rv b i) (eaN a b i).2), sbC (rv a i) (rv b i) (eaN a b i).2)
def lesR (m a : List (List CD)) (c : Int) : List (List CD) := if c = 0 ∧ cmpD a m (mxL a m) < 0 then a else (eaN a m (mxL a m)).1.map row1
def twN (a : List (List CD)) (bit : Int) : Nat → List Int × Int
  | 0 => (List.replicate a.length 0, bit)
  | i + 1 => ((twN a bit i).1.set i (bOr .u64 (bShl .u64 (rv a i) 1) (twN a bit i).2), bShr .u64 (rv a i) 63)
def twR (m a : List (List CD)) (bit : Int) : List (List CD) := lesR m ((twN a bit a.length).1.map row1) (twN a bit a.length).2
def okL (l : List (List CD)) : Prop := l.length ≤ 1000 ∧ areR l
/-! ### Contracts -/
def ct184 : Ct := { ps := [rw64], bs := [], pre := fun | [.r l] => l.length ≤ 1000 | _ => False, res := fun | [.r l] => .ret (.own 0) [ow] [.r l] | _ => noRes }
def ct245 : Ct := { ps := [rw64, i64], bs := [], pre := fun | [.r l, .i i] => 0 ≤ i | _ => False, res := fun | [.r l, .i i] => .ret u64 [] [.i (rv l i.toNat)] | _ => noRes }
def ct248 : Ct := { ps := [u64], bs := [], pre := fun _ => True, res := fun _ => .ret .bool [] [.b false] }
def ct244 : Ct := { ps := [u64, u64], bs := [], pre := fun _ => True, res := fun | [.i x, .i y] => .ret i64 [] [.i (cmpW x y)] | _ => noRes }
def ct233 : Ct := { ps := [rw64, rw64], bs := [], pre := fun | [.r a, .r b] => a.length ≤ 1000 ∧ b.length ≤ 1000 | _ => False, res := fun | [.r a, .r b] => .ret i64 [] [.i (cmpD a b (mxL a b))] | _ => noRes }
def ann233 : List Dat → Ann
  | [.r a, .r b] => { cut := [], loop := [(2, [la 27 [(0, rw64), (1, rw64), (5, i64)] [] (fun | [.r a', .r b', .i i] => a' = a ∧ b' = b ∧ -1 ≤ i ∧ i < mxL a b ∧ cmpD a b (mxL a b) = cmpD a b (i + 1).toNat | _ => False) (fun | [_, _, .i i] => (i + 1).toNat | _ => 0)])] }
  | _ => { cut := [], loop := [] }
def ct247 : Ct := { ps := [rw64, rw64, .fn 230 []], bs := [], pre := fun | [.r a, .r b] => okL a ∧ okL b | _ => False, res := fun | [.r a, .r b] => .ret (.tup [.own 0, u64]) [ow] [.i (eaN a b (mxL a b)).2, .r ((eaN a b (mxL a b)).1.map row1)] | _ => noRes }
def ann247 : List Dat → Ann
  | [.r a, .r b] => { cut := [], loop := [(4, [la 40 [(0, rw64), (1, rw64), (2, .fn 230 []), (8, .own 0), (9, u64), (18, i64), (19, i64)] [ow] (fun | [.r a', .r b', .i c, .i n, .i i, .r o] => a' = a ∧ b' = b ∧ n = mxL a b ∧ 0 ≤ i ∧ i ≤ n ∧ c = (eaN a b i.toNat).2 ∧ o = (eaN a b i.toNat).1.map row1 | _ => False) (fun | [_, _, _, .i n, .i i, _] => (n - i).toNat | _ => 0)])] }
  | _ => { cut := [], loop := [] }
def ct237 : Ct := { ps := [rw64, rw64], bs := [], pre := fun | [.r a, .r b] => okL a ∧ okL b | _ => False, res := fun | [.r a, .r b] => .ret (.tup [.own 0, u64]) [ow] [.i (eaN a b (mxL a b)).2, .r ((eaN a b (mxL a b)).1.map row1)] | _ => noRes }
def ct209 : Ct := { ps := [.ptr 0 0, rw64, u64], bs := [qM], pre := fun | [.r a, .i c, .r m, .i _, .r _] => okL a ∧ okL m | _ => False, res := fun | [.r a, .i c, .r m, .i v, .r q] => .ret rw64 [qM] [.r (lesR m a c), .r m, .i v, .r q] | _ => noRes }
def ct185 : Ct := { ps := [.ptr 0 0, rw64, u64], bs := [qM], pre := fun | [.r a, .i c, .r m, .i _, .r _] => okL a ∧ okL m | _ => False, res := fun | [.r a, .i c, .r m, .i v, .r q] => .ret rw64 [qM] [.r (twR m a c), .r m, .i v, .r q] | _ => noRes }
def ann185 : List Dat → Ann
  | [.r a, .i c, .r m, .i v, .r q] => ⟨[(8, [la 34 [(0, .ptr 0 0), (2, u64), (7, rw64)] [qM] (fun | [.i b, .r o, .r m', .i v', .r q'] => m' = m ∧ v' = v ∧ q' = q ∧ b = (twN a c a.length).2 ∧ o = (twN a c a.length).1.map row1 | _ => False) (fun _ => 0)])],
      [(3, [la 34 [(0, .ptr 0 0), (2, u64), (7, .own 1), (13, rw64), (14, i64), (15, i64)] [qM, ow] (fun | [.i b, .r a', .i n, .i i, .r m', .i v', .r q', .r o] => a' = a ∧ n = a.length ∧ 0 ≤ i ∧ i ≤ n ∧ m' = m ∧ v' = v ∧ q' = q ∧ b = (twN a c i.toNat).2 ∧ o = (twN a c i.toNat).1.map row1 | _ => False) (fun | [_, _, .i n, .i i, _, _, _, _] => (n - i).toNat | _ => 0)])], []⟩
  | _ => { cut := [], loop := [] }
end Go.Proofs.YteiecapbaeajdaaGreatDoor
namespace Go.Proofs.YteiecapbaeajdaaGreatDoor
open Go Go.Avc Go.Proofs
set_option linter.unusedVariables false
set_option maxRecDepth 100000
def P184 : Prop :=
 ∀ (l : List (List CD)),
 l.length ≤ (9223372036854775807 : Nat) →
 l.length ≤ (1000 : Nat) →
 ∀ (β : Bool),
 (β = true → l = []) →
 bif β then [] = l else (((0 : Nat) + l.length) * (8 : Nat) ≤ (140737488355328 : Nat) ∧ (0 : Nat) + l.length ≤ (9223372036854775807 : Nat)) ∧ [] ++ l = l
theorem e184 : ct184.VC (base.with sp273) Tryz.f184.results.toList Tryz.f184.ntmps (Tryz.f184.ntmps - ct184.ps.length) (bodyOf Tryz.f184) noAnn = P184 := by kernel_rfl
noncomputable def sp184 : SpecT := addS sp273 184 (mkF ct184)
def P245 : Prop :=
 ∀ (l : List (List CD)) (n : Int),
 l.length ≤ (9223372036854775807 : Nat) →
 (0 : Int) ≤ n →
 l.length ≤ (9223372036854775807 : Nat) →
 bif decide (n < (↑l.length : Int)) then
 ((0 : Int) ≤ n ∧ n < (↑l.length : Int)) ∧
 n.toNat < l.length ∧ ((l.getD n.toNat []).getD (0 : Nat) (CD.int (0 : Int))).toInt = rv l n.toNat
 else (0 : Int) = rv l n.toNat
theorem e245 : ct245.VC (base.with sp184) Tryz.f245.results.toList Tryz.f245.ntmps (Tryz.f245.ntmps - ct245.ps.length) (bodyOf Tryz.f245) noAnn = P245 := by kernel_rfl
noncomputable def sp245 : SpecT := addS sp184 245 (mkF ct245)
def P248 : Prop :=
 ∀ (n : Int), True → decide (n ≠ n) = false
theorem e248 : ct248.VC (base.with sp245) Tryz.f248.results.toList Tryz.f248.ntmps (Tryz.f248.ntmps - ct248.ps.length) (bodyOf Tryz.f248) noAnn = P248 := by kernel_rfl
noncomputable def sp248 : SpecT := addS sp245 248 (mkF ct248)
def P244 : Prop :=
 ∀ (n n_1 : Int),
 True →
 True ∧
 True ∧
 bif decide (n < n_1) then (-1 : Int) = cmpW n n_1
 else bif decide (n_1 < n) then (1 : Int) = cmpW n n_1 else (0 : Int) = cmpW n n_1
theorem e244 : ct244.VC (base.with sp248) Tryz.f244.results.toList Tryz.f244.ntmps (Tryz.f244.ntmps - ct244.ps.length) (bodyOf Tryz.f244) noAnn = P244 := by kernel_rfl
noncomputable def sp244 : SpecT := addS sp248 244 (mkF ct244)
def P233 : Prop :=
 ∀ (l l_1 : List (List CD)),
 l.length ≤ (9223372036854775807 : Nat) →
 l_1.length ≤ (9223372036854775807 : Nat) →
 l.length ≤ (1000 : Nat) ∧ l_1.length ≤ (1000 : Nat) →
 l.length ≤ (9223372036854775807 : Nat) →
 l_1.length ≤ (9223372036854775807 : Nat) →
 ((-9223372036854775808 : Int) ≤ max (↑l.length : Int) (↑l_1.length : Int) - (1 : Int) ∧
 max (↑l.length : Int) (↑l_1.length : Int) - (1 : Int) ≤ (9223372036854775807 : Int)) ∧
 ((l = l ∧
 l_1 = l_1 ∧
 (-1 : Int) ≤ max (↑l.length : Int) (↑l_1.length : Int) - (1 : Int) ∧
 max (↑l.length : Int) (↑l_1.length : Int) - (1 : Int) < (↑(mxL l l_1) : Int) ∧
 cmpD l l_1 (mxL l l_1) =
 cmpD l l_1 (max (↑l.length : Int) (↑l_1.length : Int) - (1 : Int) + (1 : Int)).toNat) ∧
 True) ∧
 ∀ (l_2 l_3 : List (List CD)) (n : Int),
 l_2.length ≤ (9223372036854775807 : Nat) →
 l_3.length ≤ (9223372036854775807 : Nat) →
 l_2 = l ∧
 l_3 = l_1 ∧
 (-1 : Int) ≤ n ∧
 n < (↑(mxL l l_1) : Int) ∧
 cmpD l l_1 (mxL l l_1) =
 cmpD l l_1 (n + (1 : Int)).toNat →
 bif decide ((0 : Int) ≤ n) then
 (0 : Int) ≤ n ∧
 (0 : Int) ≤ n ∧
 True ∧
 bif
 decide
 (cmpW (rv l_2 n.toNat)
 (rv l_3 n.toNat) ≠
 (0 : Int)) then
 cmpW (rv l_2 n.toNat)
 (rv l_3 n.toNat) =
 cmpD l l_1 (mxL l l_1)
 else
 ((-9223372036854775808 : Int) ≤ n - (1 : Int) ∧ n - (1 : Int) ≤ (9223372036854775807 : Int)) ∧
 (l_2 = l ∧
 l_3 = l_1 ∧
 (-1 : Int) ≤ n - (1 : Int) ∧
 n - (1 : Int) < (↑(mxL l l_1) : Int) ∧
 cmpD l l_1 (mxL l l_1) =
 cmpD l l_1 (n - (1 : Int) + (1 : Int)).toNat) ∧
 (n - (1 : Int) + (1 : Int)).toNat < (n + (1 : Int)).toNat
 else (0 : Int) = cmpD l l_1 (mxL l l_1)
theorem e233 : ct233.VC (base.with sp244) Tryz.f233.results.toList Tryz.f233.ntmps (Tryz.f233.ntmps - ct233.ps.length) (bodyOf Tryz.f233) ann233 = P233 := by kernel_rfl
noncomputable def sp233 : SpecT := addS sp244 233 (mkF ct233)
def P247 : Prop :=
 ∀ (l l_1 : List (List CD)),
 l.length ≤ (9223372036854775807 : Nat) →
 l_1.length ≤ (9223372036854775807 : Nat) →
 okL l ∧ okL l_1 →
 l.length ≤ (9223372036854775807 : Nat) →
 l_1.length ≤ (9223372036854775807 : Nat) →
 ((0 : Int) ≤ max (↑l.length : Int) (↑l_1.length : Int) ∧
 max (↑l.length : Int) (↑l_1.length : Int) ≤ max (↑l.length : Int) (↑l_1.length : Int) ∧
 (↑(8 : Nat) : Int) * max (↑l.length : Int) (↑l_1.length : Int) ≤ (140737488355328 : Int) ∧
 max (↑l.length : Int) (↑l_1.length : Int) ≤ (9223372036854775807 : Int)) ∧
 ((List.replicate (max (↑l.length : Int) (↑l_1.length : Int)).toNat [CD.int (0 : Int)]).length ≤ (9223372036854775807 : Nat) →
 ((l = l ∧
 l_1 = l_1 ∧
 (↑(List.replicate (max (↑l.length : Int) (↑l_1.length : Int)).toNat [CD.int (0 : Int)]).length : Int) =
 (↑(mxL l l_1) : Int) ∧
 (0 : Int) ≤ (0 : Int) ∧
 (0 : Int) ≤ (↑(List.replicate (max (↑l.length : Int) (↑l_1.length : Int)).toNat [CD.int (0 : Int)]).length : Int) ∧
 (0 : Int) = (eaN l l_1 (0 : Nat)).snd ∧
 List.replicate (max (↑l.length : Int) (↑l_1.length : Int)).toNat [CD.int (0 : Int)] =
 List.map row1 (eaN l l_1 (0 : Nat)).fst) ∧
 True) ∧
 ∀ (l_2 l_3 : List (List CD)) (n n_1 n_2 : Int) (l_4 : List (List CD)),
 l_2.length ≤ (9223372036854775807 : Nat) →
 l_3.length ≤ (9223372036854775807 : Nat) →
 l_4.length ≤ (9223372036854775807 : Nat) →
 l_2 = l ∧
 l_3 = l_1 ∧
 n_1 = (↑(mxL l l_1) : Int) ∧
 (0 : Int) ≤ n_2 ∧
 n_2 ≤ n_1 ∧
 n = (eaN l l_1 n_2.toNat).snd ∧
 l_4 = List.map row1 (eaN l l_1 n_2.toNat).fst →
 bif decide (n_2 < n_1) then
 (0 : Int) ≤ n_2 ∧
 (0 : Int) ≤ n_2 ∧
 (isW (rv l_2 n_2.toNat) ∧
 isW (rv l_3 n_2.toNat) ∧ (0 : Int) ≤ n ∧ n ≤ (1 : Int)) ∧
 ((0 : Int) ≤ n_2 ∧ n_2 < (↑l_4.length : Int)) ∧
 n_2.toNat < l_4.length ∧
 ((-9223372036854775808 : Int) ≤ n_2 + (1 : Int) ∧ n_2 + (1 : Int) ≤ (9223372036854775807 : Int)) ∧
 (l_2 = l ∧
 l_3 = l_1 ∧
 n_1 = (↑(mxL l l_1) : Int) ∧
 (0 : Int) ≤ n_2 + (1 : Int) ∧
 n_2 + (1 : Int) ≤ n_1 ∧
 sbC (rv l_2 n_2.toNat)
 (rv l_3 n_2.toNat) n =
 (eaN l l_1 (n_2 + (1 : Int)).toNat).snd ∧
 l_4.set n_2.toNat
 ((l_4.getD n_2.toNat []).set (0 : Nat)
 (CD.int
 (sbD (rv l_2 n_2.toNat)
 (rv l_3 n_2.toNat) n))) =
 List.map row1
 (eaN l l_1 (n_2 + (1 : Int)).toNat).fst) ∧
 (n_1 - (n_2 + (1 : Int))).toNat < (n_1 - n_2).toNat
 else
 n = (eaN l l_1 (mxL l l_1)).snd ∧
 l_4 =
 List.map row1
 (eaN l l_1 (mxL l l_1)).fst)
theorem e247 : ct247.VC (base.with sp233) Tryz.f247.results.toList Tryz.f247.ntmps (Tryz.f247.ntmps - ct247.ps.length) (bodyOf Tryz.f247) ann247 = P247 := by kernel_rfl
noncomputable def sp247 : SpecT := addS sp233 247 (mkF ct247)
def P237 : Prop :=
 ∀ (l l_1 : List (List CD)),
 l.length ≤ (9223372036854775807 : Nat) →
 l_1.length ≤ (9223372036854775807 : Nat) →
 okL l ∧ okL l_1 →
 (okL l ∧ okL l_1) ∧
 (eaN l l_1 (mxL l l_1)).snd =
 (eaN l l_1 (mxL l l_1)).snd ∧
 List.map row1 (eaN l l_1 (mxL l l_1)).fst =
 List.map row1 (eaN l l_1 (mxL l l_1)).fst
theorem e237 : ct237.VC (base.with sp247) Tryz.f237.results.toList Tryz.f237.ntmps (Tryz.f237.ntmps - ct237.ps.length) (bodyOf Tryz.f237) noAnn = P237 := by kernel_rfl
noncomputable def sp237 : SpecT := addS sp247 237 (mkF ct237)
def P209 : Prop :=
 ∀ (l : List (List CD)) (n : Int) (l_1 : List (List CD)) (n_1 : Int) (l_2 : List (List CD)),
 l.length ≤ (9223372036854775807 : Nat) →
 l_1.length ≤ (9223372036854775807 : Nat) →
 l_2.length ≤ (9223372036854775807 : Nat) →
 okL l ∧ okL l_1 →
 (decide (n = (0 : Int)) = true → l.length ≤ (1000 : Nat) ∧ l_1.length ≤ (1000 : Nat)) ∧
 bif decide (n = (0 : Int)) && decide (cmpD l l_1 (mxL l l_1) < (0 : Int)) then
 l = lesR l_1 l n ∧ l_1 = l_1 ∧ n_1 = n_1 ∧ l_2 = l_2
 else
 (okL l ∧ okL l_1) ∧
 List.map row1 (eaN l l_1 (mxL l l_1)).fst =
 lesR l_1 l n ∧
 l_1 = l_1 ∧ n_1 = n_1 ∧ l_2 = l_2
theorem e209 : ct209.VC (base.with sp237) Tryz.f209.results.toList Tryz.f209.ntmps (Tryz.f209.ntmps - ct209.ps.length) (bodyOf Tryz.f209) noAnn = P209 := by kernel_rfl
noncomputable def sp209 : SpecT := addS sp237 209 (mkF ct209)
def P185 : Prop :=
 ∀ (l : List (List CD)) (n : Int) (l_1 : List (List CD)) (n_1 : Int) (l_2 : List (List CD)),
 l.length ≤ (9223372036854775807 : Nat) →
 l_1.length ≤ (9223372036854775807 : Nat) →
 l_2.length ≤ (9223372036854775807 : Nat) →
 okL l ∧ okL l_1 →
 l.length ≤ (9223372036854775807 : Nat) →
 ((0 : Int) ≤ (↑l.length : Int) ∧
 (↑l.length : Int) ≤ (↑l.length : Int) ∧ (↑(8 : Nat) : Int) * (↑l.length : Int) ≤ (140737488355328 : Int) ∧ (↑l.length : Int) ≤ (9223372036854775807 : Int)) ∧
 (l.length ≤ (9223372036854775807 : Nat) →
 ((l = l ∧
 (↑l.length : Int) = (↑l.length : Int) ∧
 (0 : Int) ≤ (0 : Int) ∧
 (0 : Int) ≤ (↑l.length : Int) ∧
 l_1 = l_1 ∧
 n_1 = n_1 ∧
 l_2 = l_2 ∧
 n = (twN l n (0 : Nat)).snd ∧
 List.replicate (↑l.length : Int).toNat [CD.int (0 : Int)] =
 List.map row1 (twN l n (0 : Nat)).fst) ∧
 True) ∧
 ∀ (n_2 : Int) (l_3 : List (List CD)) (n_3 n_4 : Int) (l_4 : List (List CD)) (n_5 : Int) (l_5 l_6 : List (List CD)),
 l_3.length ≤ (9223372036854775807 : Nat) →
 l_4.length ≤ (9223372036854775807 : Nat) →
 l_5.length ≤ (9223372036854775807 : Nat) →
 l_6.length ≤ (9223372036854775807 : Nat) →
 l_3 = l ∧
 n_3 = (↑l.length : Int) ∧
 (0 : Int) ≤ n_4 ∧
 n_4 ≤ n_3 ∧
 l_4 = l_1 ∧
 n_5 = n_1 ∧
 l_5 = l_2 ∧
 n_2 = (twN l n n_4.toNat).snd ∧
 l_6 = List.map row1 (twN l n n_4.toNat).fst →
 bif decide (n_4 < n_3) then
 ((0 : Int) ≤ n_4 ∧ n_4 < (↑l_3.length : Int)) ∧
 n_4.toNat < l_3.length ∧
 (0 : Int) ≤ (1 : Int) ∧
 ((0 : Int) ≤ n_4 ∧ n_4 < (↑l_6.length : Int)) ∧
 n_4.toNat < l_6.length ∧
 (0 : Int) ≤ (63 : Int) ∧
 ((-9223372036854775808 : Int) ≤ n_4 + (1 : Int) ∧ n_4 + (1 : Int) ≤ (9223372036854775807 : Int)) ∧
 (l_3 = l ∧
 n_3 = (↑l.length : Int) ∧
 (0 : Int) ≤ n_4 + (1 : Int) ∧
 n_4 + (1 : Int) ≤ n_3 ∧
 l_4 = l_1 ∧
 n_5 = n_1 ∧
 l_5 = l_2 ∧
 bShr Go.IntKind.u64 ((l_3.getD n_4.toNat []).getD (0 : Nat) (CD.int (0 : Int))).toInt (63 : Int) =
 (twN l n (n_4 + (1 : Int)).toNat).snd ∧
 l_6.set n_4.toNat
 ((l_6.getD n_4.toNat []).set (0 : Nat)
 (CD.int
 (bOr Go.IntKind.u64
 (bShl Go.IntKind.u64 ((l_3.getD n_4.toNat []).getD (0 : Nat) (CD.int (0 : Int))).toInt
 (1 : Int))
 n_2))) =
 List.map row1
 (twN l n (n_4 + (1 : Int)).toNat).fst) ∧
 (n_3 - (n_4 + (1 : Int))).toNat < (n_3 - n_4).toNat
 else
 (l_4 = l_1 ∧
 n_5 = n_1 ∧
 l_5 = l_2 ∧
 n_2 = (twN l n l.length).snd ∧
 l_6 = List.map row1 (twN l n l.length).fst) ∧
 True) ∧
 ∀ (n_2 : Int) (l_3 l_4 : List (List CD)) (n_3 : Int) (l_5 : List (List CD)),
 l_3.length ≤ (9223372036854775807 : Nat) →
 l_4.length ≤ (9223372036854775807 : Nat) →
 l_5.length ≤ (9223372036854775807 : Nat) →
 l_4 = l_1 ∧
 n_3 = n_1 ∧
 l_5 = l_2 ∧
 n_2 = (twN l n l.length).snd ∧
 l_3 = List.map row1 (twN l n l.length).fst →
 (okL l_3 ∧ okL l_4) ∧
 lesR l_4 l_3 n_2 = twR l_1 l n ∧ l_4 = l_1 ∧ n_3 = n_1 ∧ l_5 = l_2
theorem e185 : ct185.VC (base.with sp209) Tryz.f185.results.toList Tryz.f185.ntmps (Tryz.f185.ntmps - ct185.ps.length) (bodyOf Tryz.f185) ann185 = P185 := by kernel_rfl
noncomputable def sp185 : SpecT := addS sp209 185 (mkF ct185)
end Go.Proofs.YteiecapbaeajdaaGreatDoor
namespace Go.Proofs.YteiecapbaeajdaaGreatDoor
open Go Go.Avc Go.Proofs
set_option linter.unusedVariables false
set_option linter.unusedSimpArgs false
set_option maxRecDepth 100000
theorem vc184 : P184 := by
  intro l hl h1 β hβ
  refine condI (fun h => (hβ h).symm) fun _ => ⟨⟨by omega, by omega⟩, rfl⟩
theorem ok184 : SpecOk (base.with sp273) 184 (mkF ct184) := spec_ct (fn := Tryz.f184) (c := bodyOf Tryz.f184) (k := Tryz.f184.ntmps - ct184.ps.length) (ct := ct184) c273 Tryz.func184 (by kernel_rfl) noAnn (by kernel_rfl) (fun vs w _ => Tryz.call184 vs w) (by rw [e184]; exact vc184)
theorem c184 : (base.with sp184).Ok := addS_ok c273 ok184
theorem rv_ge {l : List (List CD)} {i : Nat} (h : l.length ≤ i) : rv l i = 0 := by
  have e : l.getD i [] = [] := by rw [List.getD_eq_getElem?_getD, List.getElem?_eq_none h]; rfl
  show ((l.getD i []).getD 0 .d0).toInt = 0
  rw [e]
  rfl
theorem vc245 : P245 := by
  intro l n hl h0 _
  refine condI (fun h => ?_) fun h => ?_
  · have := of_decide_eq_true h
    exact ⟨⟨h0, this⟩, by omega, rfl⟩
  · have := of_decide_eq_false h
    exact (rv_ge (by omega)).symm
theorem ok245 : SpecOk (base.with sp184) 245 (mkF ct245) := spec_ct (fn := Tryz.f245) (c := bodyOf Tryz.f245) (k := Tryz.f245.ntmps - ct245.ps.length) (ct := ct245) c184 Tryz.func245 (by kernel_rfl) noAnn (by kernel_rfl) (fun vs w _ => Tryz.call245 vs w) (by rw [e245]; exact vc245)
theorem c245 : (base.with sp245).Ok := addS_ok c184 ok245
theorem vc248 : P248 := fun n _ => decide_eq_false fun h => h rfl
theorem ok248 : SpecOk (base.with sp245) 248 (mkF ct248) := spec_ct (fn := Tryz.f248) (c := bodyOf Tryz.f248) (k := Tryz.f248.ntmps - ct248.ps.length) (ct := ct248) c245 Tryz.func248 (by kernel_rfl) noAnn (by kernel_rfl) (fun vs w _ => Tryz.call248 vs w) (by rw [e248]; exact vc248)
theorem c248 : (base.with sp248).Ok := addS_ok c245 ok248
theorem vc244 : P244 := by
  intro x y _
  unfold cmpW
  refine ⟨trivial, trivial, condI (fun h => ?_) fun h => condI (fun h2 => ?_) fun h2 => ?_⟩
  · rw [if_pos (of_decide_eq_true h)]
  · rw [if_neg (of_decide_eq_false h), if_pos (of_decide_eq_true h2)]
  · rw [if_neg (of_decide_eq_false h), if_neg (of_decide_eq_false h2)]
theorem ok244 : SpecOk (base.with sp248) 244 (mkF ct244) := spec_ct (fn := Tryz.f244) (c := bodyOf Tryz.f244) (k := Tryz.f244.ntmps - ct244.ps.length) (ct := ct244) c248 Tryz.func244 (by kernel_rfl) noAnn (by kernel_rfl) (fun vs w _ => Tryz.call244 vs w) (by rw [e244]; exact vc244)
theorem c244 : (base.with sp244).Ok := addS_ok c248 ok244
theorem vc233 : P233 := by
  rintro a b _ _ ⟨ha, hb⟩ _ _
  have hm : max (a.length : Int) (b.length : Int) = (mxL a b : Int) := by unfold mxL; omega
  rw [hm]
  have hm2 : mxL a b ≤ 1000 := by unfold mxL; omega
  generalize mxL a b = M at *
  refine ⟨⟨by omega, by omega⟩, ⟨⟨rfl, rfl, by omega, by omega, by rw [show ((M : Int) - 1 + 1).toNat = M from by omega]⟩, trivial⟩, ?_⟩
  rintro a' b' n _ _ ⟨rfl, rfl, h0, h1, h2⟩
  refine condI (fun h => ?_) fun h => ?_
  · have h := of_decide_eq_true h
    obtain ⟨i, rfl⟩ := Int.eq_ofNat_of_zero_le h
    rw [Int.toNat_natCast]
    have e1 : ((i : Int) + 1).toNat = i + 1 := by omega
    rw [e1, cmpD] at h2
    refine ⟨h, h, trivial, condI (fun h3 => ?_) fun h3 => ⟨⟨by omega, by omega⟩, ⟨rfl, rfl, by omega, by omega, ?_⟩, by omega⟩⟩
    · rw [h2, if_neg (of_decide_eq_true h3)]
    · rw [h2, if_pos (Decidable.not_not.1 (of_decide_eq_false h3)), show ((i : Int) - 1 + 1).toNat = i from by omega]
  · have h := of_decide_eq_false h
    rw [h2, show (n + 1).toNat = 0 from by omega]
    rfl
theorem ok233 : SpecOk (base.with sp244) 233 (mkF ct233) := spec_ct (fn := Tryz.f233) (c := bodyOf Tryz.f233) (k := Tryz.f233.ntmps - ct233.ps.length) (ct := ct233) c244 Tryz.func233 (by kernel_rfl) ann233 (by kernel_rfl) (fun vs w _ => Tryz.call233 vs w) (by rw [e233]; exact vc233)
theorem c233 : (base.with sp233).Ok := addS_ok c244 ok233
theorem eaN_len (a b : List (List CD)) : ∀ i, (eaN a b i).1.length = mxL a b
  | 0 => List.length_replicate
  | i + 1 => by rw [eaN, List.length_set, eaN_len a b i]
theorem eaN_c (a b : List (List CD)) : ∀ i, 0 ≤ (eaN a b i).2 ∧ (eaN a b i).2 ≤ 1
  | 0 => ⟨Int.le_refl 0, show (0 : Int) ≤ 1 by decide⟩
  | i + 1 => sbC_b _ _ _
theorem eaN_w (a b : List (List CD)) : ∀ i, areW (eaN a b i).1
  | 0 => fun j => by
    rw [eaN, List.getD_eq_getElem?_getD, List.getElem?_replicate]
    split <;> exact isW0
  | i + 1 => areW_set (eaN_w a b i) (sbD_w _ _ _) i
theorem row_put {L : List Int} {i : Nat} (h : i < L.length) (v : Int) : (L.map row1).set i (((L.map row1).getD i []).set 0 (.int v)) = (L.set i v).map row1 := by
  rw [row1_get h, List.map_set]
  rfl
theorem vc247 : P247 := by
  rintro a b _ _ ⟨ha, hb⟩ _ _
  have hm : max (a.length : Int) (b.length : Int) = (mxL a b : Int) := by unfold mxL; omega
  rw [hm, Int.toNat_natCast, List.length_replicate]
  have hm2 : mxL a b ≤ 1000 := by have := ha.1; have := hb.1; unfold mxL; omega
  have hl := eaN_len a b
  have hc := eaN_c a b
  have h0' : List.replicate (mxL a b) [CD.int 0] = List.map row1 (eaN a b 0).1 := by rw [eaN, List.map_replicate]; rfl
  refine ⟨⟨by omega, by omega, by omega, by omega⟩, fun _ => ⟨⟨⟨rfl, rfl, rfl, by omega, by omega, rfl, h0'⟩, trivial⟩, ?_⟩⟩
  rintro a' b' c n i o _ _ _ ⟨rfl, rfl, rfl, h0, h1, rfl, rfl⟩
  obtain ⟨j, rfl⟩ := Int.eq_ofNat_of_zero_le h0
  rw [Int.toNat_natCast]
  refine condI (fun h => ?_) fun h => ?_
  · have h := of_decide_eq_true h
    have hj : j < (eaN a' b' j).1.length := by rw [hl]; omega
    rw [List.length_map, row_put hj, show ((j : Int) + 1).toNat = j + 1 from by omega]
    exact ⟨h0, h0, ⟨ha.2 j, hb.2 j, hc j⟩, ⟨h0, by omega⟩, hj, ⟨by omega, by omega⟩, ⟨rfl, rfl, rfl, by omega, by omega, rfl, rfl⟩, by omega⟩
  · have h := of_decide_eq_false h
    rw [show j = mxL a' b' from by omega]
    exact ⟨rfl, rfl⟩
theorem ok247 : SpecOk (base.with sp233) 247 (mkF ct247) := spec_ct (fn := Tryz.f247) (c := bodyOf Tryz.f247) (k := Tryz.f247.ntmps - ct247.ps.length) (ct := ct247) c233 Tryz.func247 (by kernel_rfl) ann247 (by kernel_rfl) (fun vs w _ => Tryz.call247 vs w) (by rw [e247]; exact vc247)
theorem c247 : (base.with sp247).Ok := addS_ok c233 ok247
theorem vc237 : P237 := fun a b _ _ h => ⟨h, rfl, rfl⟩
theorem ok237 : SpecOk (base.with sp247) 237 (mkF ct237) := spec_ct (fn := Tryz.f237) (c := bodyOf Tryz.f237) (k := Tryz.f237.ntmps - ct237.ps.length) (ct := ct237) c247 Tryz.func237 (by kernel_rfl) noAnn (by kernel_rfl) (fun vs w _ => Tryz.call237 vs w) (by rw [e237]; exact vc237)
theorem c237 : (base.with sp237).Ok := addS_ok c247 ok237
theorem vc209 : P209 := by
  rintro a c m v q _ _ _ ⟨ha, hm⟩
  unfold lesR
  refine ⟨fun _ => ⟨ha.1, hm.1⟩, condI (fun h => ?_) fun h => ⟨⟨ha, hm⟩, ?_, rfl, rfl, rfl⟩⟩
  · simp only [Bool.and_eq_true, decide_eq_true_eq] at h
    rw [if_pos h]
    exact ⟨rfl, rfl, rfl, rfl⟩
  · simp only [Bool.and_eq_false_iff, decide_eq_false_iff_not] at h
    rw [if_neg (fun k => h.elim (fun h => h k.1) fun h => h k.2)]
theorem ok209 : SpecOk (base.with sp237) 209 (mkF ct209) := spec_ct (fn := Tryz.f209) (c := bodyOf Tryz.f209) (k := Tryz.f209.ntmps - ct209.ps.length) (ct := ct209) c237 Tryz.func209 (by kernel_rfl) noAnn (by kernel_rfl) (fun vs w _ => Tryz.call209 vs w) (by rw [e209]; exact vc209)
theorem c209 : (base.with sp209).Ok := addS_ok c237 ok209
theorem twN_len (a : List (List CD)) (c : Int) : ∀ i, (twN a c i).1.length = a.length
  | 0 => List.length_replicate
  | i + 1 => by rw [twN, List.length_set, twN_len a c i]
theorem twN_w (a : List (List CD)) (c : Int) : ∀ i, areW (twN a c i).1
  | 0 => fun j => by
    rw [twN, List.getD_eq_getElem?_getD, List.getElem?_replicate]
    split <;> exact isW0
  | i + 1 => areW_set (twN_w a c i) (or_isW _ _) i
theorem vc185 : P185 := by
  rintro a c m v q _ _ _ ⟨ha, hm⟩ _
  have hl := twN_len a c
  have ha1 := ha.1
  have h0' : List.replicate ((a.length : Int)).toNat [CD.int 0] = List.map row1 (twN a c 0).1 := by rw [Int.toNat_natCast, twN, List.map_replicate]; rfl
  refine ⟨⟨by omega, by omega, by omega, by omega⟩, fun _ => ⟨⟨⟨rfl, rfl, by omega, by omega, rfl, rfl, rfl, rfl, h0'⟩, trivial⟩, ?_⟩, ?_⟩
  · rintro b a' n i m' v' q' o _ _ _ _ ⟨rfl, rfl, h0, h1, rfl, rfl, rfl, rfl, rfl⟩
    obtain ⟨j, rfl⟩ := Int.eq_ofNat_of_zero_le h0
    rw [Int.toNat_natCast]
    refine condI (fun h => ?_) fun h => ?_
    · have h := of_decide_eq_true h
      have hj : j < (twN a' c j).1.length := by rw [hl]; omega
      rw [List.length_map, row_put hj, show ((j : Int) + 1).toNat = j + 1 from by omega]
      exact ⟨⟨h0, h⟩, by omega, by omega, ⟨h0, by omega⟩, hj, by omega, ⟨by omega, by omega⟩, ⟨rfl, rfl, by omega, by omega, rfl, rfl, rfl, rfl, rfl⟩, by omega⟩
    · have h := of_decide_eq_false h
      rw [show j = a'.length from by omega]
      exact ⟨⟨rfl, rfl, rfl, rfl, rfl⟩, trivial⟩
  · rintro b o m' v' q' _ _ _ ⟨rfl, rfl, rfl, rfl, rfl⟩
    exact ⟨⟨⟨by rw [List.length_map, hl]; exact ha1, fun i => by rw [rv_row1]; exact twN_w a c _ i⟩, hm⟩, rfl, rfl, rfl, rfl⟩
theorem ok185 : SpecOk (base.with sp209) 185 (mkF ct185) := spec_ct (fn := Tryz.f185) (c := bodyOf Tryz.f185) (k := Tryz.f185.ntmps - ct185.ps.length) (ct := ct185) c209 Tryz.func185 (by kernel_rfl) ann185 (by kernel_rfl) (fun vs w _ => Tryz.call185 vs w) (by rw [e185]; exact vc185)
theorem c185 : (base.with sp185).Ok := addS_ok c209 ok185
end Go.Proofs.YteiecapbaeajdaaGreatDoor
namespace Go.Proofs.YteiecapbaeajdaaGreatDoor
open Go Go.Avc
set_option linter.unusedVariables false
def ct81 : Ct := { ps := [.rd itemE], bs := [], pre := fun | [.r l] => l.length ≤ 1000000 | _ => False, res := fun | [.r l] => .ret (.own 0) [.own 116 itemE] [.r l] | _ => noRes }
def ct44 : Ct := { ps := [.ptr 0 0], bs := [gA], pre := fun | [.r l, .i _] => l.length ≤ 1000000 | _ => False, res := fun | [.r l, .i n] => .ret (.own 1) [gA, .own 116 itemE] [.r l, .i n, .r l] | _ => noRes }
def domR : List (List CD) := ([97, 118, 111, 117, 99, 104, 47, 116, 114, 97, 110, 115, 99, 114, 105, 112, 116, 47, 49] : List Int).map row1
noncomputable def tagL (k : Int) (l : List (List CD)) : List Int := sumP [[.sl domR], [.sl [[.int (IntKind.u8.wrap k)]]], [.sl (rowsOfBytes (ser (itsOf l)).1)]]
/-- The tag, of whatever items. -/
noncomputable def tagX (k : Int) (l : List (List CD)) : List Int := if (ser (itsOf l)).2.2 = 0 then tagL k l else List.replicate 32 0
noncomputable def ct30 : Ct := { ps := [i64, .rd itemE], bs := [], pre := fun | [.i k, .r l] => (k = 1 ∨ k = 2) ∧ preL l | _ => False, res := fun
  | [.i k, .r l] => .ret (.tup [a32, i64, i64]) [] [.li (tagX k l), .i (if (ser (itsOf l)).2.2 = 0 then -1 else (ser (itsOf l)).2.1), .i (ser (itsOf l)).2.2]
  | _ => noRes }
end Go.Proofs.YteiecapbaeajdaaGreatDoor
namespace Go.Proofs.YteiecapbaeajdaaGreatDoor
open Go Go.Avc Go.Proofs
set_option linter.unusedVariables false
set_option maxRecDepth 100000
def P81 : Prop :=
 ∀ (l : List (List CD)),
 l.length ≤ (9223372036854775807 : Nat) →
 l.length ≤ (1000000 : Nat) →
 ∀ (β : Bool),
 (β = true → l = []) →
 bif β then [] = l else (((0 : Nat) + l.length) * (40 : Nat) ≤ (140737488355328 : Nat) ∧ (0 : Nat) + l.length ≤ (9223372036854775807 : Nat)) ∧ [] ++ l = l
theorem e81 : ct81.VC (base.with sp185) Tryz.f81.results.toList Tryz.f81.ntmps (Tryz.f81.ntmps - ct81.ps.length) (bodyOf Tryz.f81) noAnn = P81 := by kernel_rfl
noncomputable def sp81 : SpecT := addS sp185 81 (mkF ct81)
def P44 : Prop :=
 ∀ (l : List (List CD)) (n : Int), l.length ≤ (9223372036854775807 : Nat) → l.length ≤ (1000000 : Nat) → l.length ≤ (1000000 : Nat) ∧ l = l ∧ n = n ∧ l = l
theorem e44 : ct44.VC (base.with sp81) Tryz.f44.results.toList Tryz.f44.ntmps (Tryz.f44.ntmps - ct44.ps.length) (bodyOf Tryz.f44) noAnn = P44 := by kernel_rfl
noncomputable def sp44 : SpecT := addS sp81 44 (mkF ct44)
def P30 : Prop :=
 ∀ (n : Int) (l : List (List CD)),
 l.length ≤ (9223372036854775807 : Nat) →
 (n = (1 : Int) ∨ n = (2 : Int)) ∧ preL l →
 bif decide (n ≠ (1 : Int)) && decide (n ≠ (2 : Int)) then
 [(0 : Int), (0 : Int), (0 : Int), (0 : Int), (0 : Int), (0 : Int), (0 : Int), (0 : Int), (0 : Int), (0 : Int), (0 : Int), (0 : Int), (0 : Int), (0 : Int), (0 : Int),
 (0 : Int), (0 : Int), (0 : Int), (0 : Int), (0 : Int), (0 : Int), (0 : Int), (0 : Int), (0 : Int), (0 : Int), (0 : Int), (0 : Int), (0 : Int), (0 : Int), (0 : Int),
 (0 : Int), (0 : Int)] =
 tagX n l ∧
 ((-1 : Int) =
 if (ser (itsOf l)).snd.snd = (0 : Int) then (-1 : Int)
 else (ser (itsOf l)).snd.fst) ∧
 (15 : Int) = (ser (itsOf l)).snd.snd
 else
 preL l ∧
 bif decide ((ser (itsOf l)).snd.snd ≠ (0 : Int)) then
 [(0 : Int), (0 : Int), (0 : Int), (0 : Int), (0 : Int), (0 : Int), (0 : Int), (0 : Int), (0 : Int), (0 : Int), (0 : Int), (0 : Int), (0 : Int), (0 : Int), (0 : Int),
 (0 : Int), (0 : Int), (0 : Int), (0 : Int), (0 : Int), (0 : Int), (0 : Int), (0 : Int), (0 : Int), (0 : Int), (0 : Int), (0 : Int), (0 : Int), (0 : Int),
 (0 : Int), (0 : Int), (0 : Int)] =
 tagX n l ∧
 ((ser (itsOf l)).snd.fst =
 if (ser (itsOf l)).snd.snd = (0 : Int) then (-1 : Int)
 else (ser (itsOf l)).snd.fst) ∧
 (ser (itsOf l)).snd.snd =
 (ser (itsOf l)).snd.snd
 else
 areP
 [[CD.sl
 [[CD.int (97 : Int)], [CD.int (118 : Int)], [CD.int (111 : Int)], [CD.int (117 : Int)], [CD.int (99 : Int)],
 [CD.int (104 : Int)], [CD.int (47 : Int)], [CD.int (116 : Int)], [CD.int (114 : Int)], [CD.int (97 : Int)],
 [CD.int (110 : Int)], [CD.int (115 : Int)], [CD.int (99 : Int)], [CD.int (114 : Int)], [CD.int (105 : Int)],
 [CD.int (112 : Int)], [CD.int (116 : Int)], [CD.int (47 : Int)], [CD.int (49 : Int)]]],
 [CD.sl [[CD.int (Go.IntKind.u8.wrap n)]]],
 [CD.sl (rowsOfBytes (ser (itsOf l)).fst)]] ∧
 sumP
 [[CD.sl
 [[CD.int (97 : Int)], [CD.int (118 : Int)], [CD.int (111 : Int)], [CD.int (117 : Int)], [CD.int (99 : Int)],
 [CD.int (104 : Int)], [CD.int (47 : Int)], [CD.int (116 : Int)], [CD.int (114 : Int)], [CD.int (97 : Int)],
 [CD.int (110 : Int)], [CD.int (115 : Int)], [CD.int (99 : Int)], [CD.int (114 : Int)], [CD.int (105 : Int)],
 [CD.int (112 : Int)], [CD.int (116 : Int)], [CD.int (47 : Int)], [CD.int (49 : Int)]]],
 [CD.sl [[CD.int (Go.IntKind.u8.wrap n)]]],
 [CD.sl (rowsOfBytes (ser (itsOf l)).fst)]] =
 tagX n l ∧
 ((-1 : Int) =
 if (ser (itsOf l)).snd.snd = (0 : Int) then (-1 : Int)
 else (ser (itsOf l)).snd.fst) ∧
 (0 : Int) = (ser (itsOf l)).snd.snd
theorem e30 : ct30.VC (base.with sp44) Tryz.f30.results.toList Tryz.f30.ntmps (Tryz.f30.ntmps - ct30.ps.length) (bodyOf Tryz.f30) noAnn = P30 := by kernel_rfl
noncomputable def sp30 : SpecT := addS sp44 30 (mkF ct30)
end Go.Proofs.YteiecapbaeajdaaGreatDoor
namespace Go.Proofs.YteiecapbaeajdaaGreatDoor
open Go Go.Avc Go.Proofs
set_option linter.unusedVariables false
set_option linter.unusedSimpArgs false
set_option maxRecDepth 100000
theorem rv_none {l : List (List CD)} {i : Nat} (h : l.length ≤ i) : 0 ≤ rv l i ∧ rv l i < 256 := by rw [rv_ge h]; exact ⟨by decide, by decide⟩
theorem rob_b (b : List UInt8) : areB (rowsOfBytes b) := fun i => by
  rcases Nat.lt_or_ge i b.length with h | h
  · have e : rv (rowsOfBytes b) i = ((b.getD i 0).toNat : Int) := rows_get b h
    have := UInt8.toNat_lt (b.getD i 0)
    rw [e]
    omega
  · exact rv_none (by rw [rows_length]; exact h)
theorem wr8 (n : Int) : 0 ≤ IntKind.u8.wrap n ∧ IntKind.u8.wrap n < 256 := by rw [u8w]; omega
theorem areB1 {n : Int} (h : 0 ≤ n ∧ n < 256) : areB [[.int n]] := fun i => by
  match i with
  | 0 => exact h
  | _ + 1 => exact rv_none (by simp)
theorem dom_b : areB domR := fun i => by
  unfold domR
  rw [rv_row1]
  rw [List.getD_eq_getElem?_getD]
  cases hb : ([97, 118, 111, 117, 99, 104, 47, 116, 114, 97, 110, 115, 99, 114, 105, 112, 116, 47, 49] : List Int)[i]? with
  | none => exact ⟨by decide, by decide⟩
  | some x =>
    have := List.mem_of_getElem? hb
    revert x
    have : ∀ x ∈ ([97, 118, 111, 117, 99, 104, 47, 116, 114, 97, 110, 115, 99, 114, 105, 112, 116, 47, 49] : List Int), 0 ≤ x ∧ x < 256 := by decide
    exact fun x _ h => this x h
theorem areP3 {a b c : List (List CD)} (ha : areB a) (hb : areB b) (hc : areB c) : areP [[.sl a], [.sl b], [.sl c]] := fun i => by
  match i with
  | 0 => exact ha
  | 1 => exact hb
  | 2 => exact hc
  | _ + 3 => exact fun j => rv_none (l := []) (Nat.zero_le j)
theorem vc81 : P81 := by
  intro l _ h β hβ
  refine condI (fun e => (hβ e).symm) fun _ => ⟨⟨by omega, by omega⟩, rfl⟩
theorem ok81 : SpecOk (base.with sp185) 81 (mkF ct81) := spec_ct (fn := Tryz.f81) (c := bodyOf Tryz.f81) (k := Tryz.f81.ntmps - ct81.ps.length) (ct := ct81) c185 Tryz.func81 (by kernel_rfl) noAnn (by kernel_rfl) (fun vs w _ => Tryz.call81 vs w) (by rw [e81]; exact vc81)
theorem c81 : (base.with sp81).Ok := addS_ok c185 ok81
theorem vc44 : P44 := fun l n _ h => ⟨h, rfl, rfl, rfl⟩
theorem ok44 : SpecOk (base.with sp81) 44 (mkF ct44) := spec_ct (fn := Tryz.f44) (c := bodyOf Tryz.f44) (k := Tryz.f44.ntmps - ct44.ps.length) (ct := ct44) c81 Tryz.func44 (by kernel_rfl) noAnn (by kernel_rfl) (fun vs w _ => Tryz.call44 vs w) (by rw [e44]; exact vc44)
theorem c44 : (base.with sp44).Ok := addS_ok c81 ok44
theorem vc30 : P30 := by
  rintro k l _ ⟨hk, hp⟩
  refine condI (fun h => ?_) fun _ => ⟨hp, condI (fun h => ?_) fun h => ?_⟩
  · simp only [Bool.and_eq_true, decide_eq_true_eq] at h
    omega
  · have h := of_decide_eq_true h
    unfold tagX
    rw [if_neg h, if_neg h]
    exact ⟨rfl, rfl, rfl⟩
  · have h := Decidable.not_not.1 (of_decide_eq_false h)
    unfold tagX
    rw [if_pos h, if_pos h]
    exact ⟨areP3 dom_b (areB1 (wr8 k)) (rob_b _), rfl, rfl, h.symm⟩
theorem ok30 : SpecOk (base.with sp44) 30 (mkF ct30) := spec_ct (fn := Tryz.f30) (c := bodyOf Tryz.f30) (k := Tryz.f30.ntmps - ct30.ps.length) (ct := ct30) c44 Tryz.func30 (by kernel_rfl) noAnn (by kernel_rfl) (fun vs w _ => Tryz.call30 vs w) (by rw [e30]; exact vc30)
theorem c30 : (base.with sp30).Ok := addS_ok c44 ok30
end Go.Proofs.YteiecapbaeajdaaGreatDoor
namespace Go.Proofs.YteiecapbaeajdaaGreatDoor
open Go Go.Avc
set_option linter.unusedVariables false
/-- The table of a byte's bits. -/
def len8T : List UInt8 := [0, 1, 2, 2, 3, 3, 3, 3, 4, 4, 4, 4, 4, 4, 4, 4, 5, 5, 5, 5, 5, 5, 5, 5, 5, 5, 5, 5, 5, 5, 5, 5, 6, 6, 6, 6, 6, 6, 6, 6, 6, 6, 6, 6, 6, 6, 6, 6, 6, 6, 6, 6, 6, 6, 6, 6, 6, 6, 6, 6, 6, 6, 6, 6, 7, 7, 7, 7, 7, 7, 7, 7, 7, 7, 7, 7, 7, 7, 7, 7, 7, 7, 7, 7, 7, 7, 7, 7, 7, 7, 7, 7, 7, 7, 7, 7, 7, 7, 7, 7, 7, 7, 7, 7, 7, 7, 7, 7, 7, 7, 7, 7, 7, 7, 7, 7, 7, 7, 7, 7, 7, 7, 7, 7, 7, 7, 7, 7, 8, 8, 8, 8, 8, 8, 8, 8, 8, 8, 8, 8, 8, 8, 8, 8, 8, 8, 8, 8, 8, 8, 8, 8, 8, 8, 8, 8, 8, 8, 8, 8, 8, 8, 8, 8, 8, 8, 8, 8, 8, 8, 8, 8, 8, 8, 8, 8, 8, 8, 8, 8, 8, 8, 8, 8, 8, 8, 8, 8, 8, 8, 8, 8, 8, 8, 8, 8, 8, 8, 8, 8, 8, 8, 8, 8, 8, 8, 8, 8, 8, 8, 8, 8, 8, 8, 8, 8, 8, 8, 8, 8, 8, 8, 8, 8, 8, 8, 8, 8, 8, 8, 8, 8, 8, 8, 8, 8, 8, 8, 8, 8, 8, 8, 8, 8, 8, 8, 8, 8, 8, 8, 8, 8, 8, 8, 8, 8]
def lenW (x : Int) : Int := ((bitLen x.toNat : Nat) : Int)
/-- How many bits the first n words have. -/
def btN (a : List (List CD)) : Nat → Int
  | 0 => 0
  | n + 1 => if rv a n = 0 then btN a n else 64 * n + lenW (rv a n)
def pR : List (List CD) := pW.map row1
/-- What the lowest word is multiplied by so that there is 1 (in turns), with the other sign. -/
def ngN (m : Int) : Nat → Int
  | 0 => 1
  | i + 1 => IntKind.u64.wrap (ngN m i * IntKind.u64.wrap (2 - IntKind.u64.wrap (m * ngN m i)))
def ngI (m : Int) : Int := IntKind.u64.wrap (0 - ngN m 6)
/-- The rest of 2^n, as the program makes it. -/
def sqM (m : List (List CD)) : Nat → List (List CD)
  | 0 => (List.replicate m.length [.int 0]).set 0 [.int 1]
  | i + 1 => twR m (sqM m i) 0
noncomputable def sqMh (m : List (List CD)) : List (List CD) := hid (sqM m (128 * m.length))
/-- A modulus. -/
def okM (m : List (List CD)) : Prop := 2 ≤ m.length ∧ m.length ≤ 16 ∧ areR m ∧ bAnd .u64 (rv m 0) 1 ≠ 0 ∧ rv m (m.length - 1) ≠ 0
/-- The rest of a number's highest bits; n: how many are left. -/
def rdN (m a : List (List CD)) (k : Nat) : Nat → List (List CD)
  | 0 => List.replicate m.length [.int 0]
  | i + 1 => twR m (rdN m a k i) (bAnd .u64 (bShr .u64 (rv a ((k - 1 - i) / 64)) (((k - 1 - i) % 64 : Nat) : Int)) 1)
noncomputable def redR (m a : List (List CD)) : List (List CD) := hid (rdN m a (btN a a.length).toNat (btN a a.length).toNat)
/-! ### Contracts -/
def ct210 : Ct := { ps := [u64], bs := [], pre := fun | [.i x] => isW x | _ => False, res := fun | [.i x] => .ret i64 [] [.i (lenW x)] | _ => noRes }
def ct186 : Ct := { ps := [rw64], bs := [], pre := fun | [.r a] => okL a | _ => False, res := fun | [.r a] => .ret i64 [] [.i (btN a a.length)] | _ => noRes }
def ann186 : List Dat → Ann
  | [.r a] => { cut := [], loop := [(2, [la 24 [(0, rw64), (3, i64)] [] (fun | [.r a', .i i] => a' = a ∧ -1 ≤ i ∧ i < a.length ∧ btN a a.length = btN a (i + 1).toNat | _ => False) (fun | [_, .i i] => (i + 1).toNat | _ => 0)])] }
  | _ => { cut := [], loop := [] }
noncomputable def ct143 : Ct := { ps := [rw64], bs := [], pre := fun | [.r l] => okM l | _ => False, res := fun | [.r l] => .ret (.tup [.ptr 0 0, i64]) [qM] [.i 0, .r l, .i (ngI (rv l 0)), .r (sqMh l)] | _ => noRes }
def ann143 : List Dat → Ann
  | [.r l] => ⟨[], [(6, [la 88 [(0, rw64), (4, .ptr 0 0), (5, u64), (45, i64)] [qM] (fun | [.r l', .i x, .i i, .r m, .i _, .r q] => l' = l ∧ m = l ∧ 0 ≤ i ∧ i ≤ 6 ∧ x = ngN (rv l 0) i.toNat | _ => False) (fun | [_, _, .i i, _, _, _] => (6 - i).toNat | _ => 0)]),
      (13, [la 88 [(4, .ptr 0 0), (74, i64), (75, i64)] [qM] (fun | [.i n, .i i, .r m, .i v, .r q] => n = 128 * (l.length : Int) ∧ 0 ≤ i ∧ i ≤ n ∧ m = l ∧ v = ngI (rv l 0) ∧ q = sqM l i.toNat | _ => False) (fun | [.i n, .i i, _, _, _] => (n - i).toNat | _ => 0)])], []⟩
  | _ => { cut := [], loop := [] }
noncomputable def ct144 : Ct := { ps := [.ptr 0 0, rw64], bs := [qM], pre := fun | [.r a, .r m, .i _, .r _] => okL a ∧ okL m | _ => False, res := fun | [.r a, .r m, .i v, .r q] => .ret rw64 [qM] [.r (redR m a), .r m, .i v, .r q] | _ => noRes }
def ann144 : List Dat → Ann
  | [.r a, .r m, .i v, .r q] => { cut := [], loop := [(3, [la 33 [(0, .ptr 0 0), (1, rw64), (5, rw64), (6, i64)] [qM] (fun | [.r a', .r o, .i i, .r m', .i v', .r q'] => a' = a ∧ m' = m ∧ v' = v ∧ q' = q ∧ -1 ≤ i ∧ i < btN a a.length ∧ o = rdN m a (btN a a.length).toNat ((btN a a.length).toNat - (i + 1).toNat) | _ => False) (fun | [_, _, .i i, _, _, _] => (i + 1).toNat | _ => 0)])] }
  | _ => { cut := [], loop := [] }
end Go.Proofs.YteiecapbaeajdaaGreatDoor
