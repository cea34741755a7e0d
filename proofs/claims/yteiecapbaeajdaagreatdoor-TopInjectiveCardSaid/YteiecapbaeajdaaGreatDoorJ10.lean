/-
  Which operations there are, by the reference: the conditions are met.
-/
import Derived.Test.YteiecapbaeajdaaGreatDoorJ9
namespace Go.Proofs.YteiecapbaeajdaaGreatDoor
open Go Go.Avc Go.Proofs
set_option linter.unusedVariables false
set_option linter.unusedSimpArgs false
set_option maxRecDepth 100000
theorem Q5:Qo:=by
  unfold Qo
  intro n _
  unfold az
  refine ab (fun h=> ?_) (fun h=>ab (fun h2=> ?_) (fun h2=>ab (fun h3=> ?_) (fun h3=>ab (fun h4=> ?_) (fun h4=> ?_))))
  · rw [if_pos (of_decide_eq_true h)]
  · rw [if_neg (of_decide_eq_false h),if_pos (of_decide_eq_true h2)]
  · rw [if_neg (of_decide_eq_false h),if_neg (of_decide_eq_false h2),if_pos (of_decide_eq_true h3)]
  · rw [if_neg (of_decide_eq_false h),if_neg (of_decide_eq_false h2),if_neg (of_decide_eq_false h3),if_pos (of_decide_eq_true h4)]
  · rw [if_neg (of_decide_eq_false h),if_neg (of_decide_eq_false h2),if_neg (of_decide_eq_false h3),if_neg (of_decide_eq_false h4)]
theorem acZ:af (base.with Eg) 88 (ag KL):=am c89 Tryz.func88 (by kernel_rfl) (by kernel_rfl) Tryz.call88 e88 Q5
theorem c88:(base.with D7).Ok:=ae c89 acZ
theorem pD (t:Int):az t=0∨az t=1∨az t=8∨az t=32∨az t=96:=by
  unfold az
  split
  · omega
  · split
    · omega
    · split
      · omega
      · split <;>omega
theorem aca:QA:=by
  unfold QA
  intro t l _ hl
  have hlen:=hl.2
  have hs:=pD t
  refine ⟨trivial,ab (fun h=> ?_) (fun h=> ?_)⟩
  · have h:=of_decide_eq_true h
    have k:bf t l=6:=by unfold bf;rw [if_pos h]
    unfold bK
    rw [k]
    exact ⟨rfl,rfl⟩
  have h:=of_decide_eq_false h
  intro _
  refine ⟨trivial,⟨by omega,by omega⟩,ab (fun h2=> ?_) (fun h2=> ?_)⟩
  · have k:bf t l=3:=by unfold bf;rw [if_neg h,if_pos (of_decide_eq_true h2)]
    unfold bK
    rw [k]
    exact ⟨rfl,rfl⟩
  have h2:=of_decide_eq_false h2
  intro _
  have hm:IntKind.i64.max=9223372036854775807:=by decide
  rw [hm]
  refine ⟨trivial,⟨by omega,by omega,by omega⟩,ab (fun h3=> ?_) (fun h3=> ?_)⟩
  · have h3:(l.length:Int) / az t<1∨1048576<(l.length:Int) / az t:=by
      rw [Bool.or_eq_true] at h3
      exact h3.imp of_decide_eq_true of_decide_eq_true
    have k:bf t l=7:=by unfold bf;rw [if_neg h,if_neg h2,if_pos h3]
    unfold bK
    rw [k]
    exact ⟨rfl,rfl⟩
  · have h3:¬ ((l.length:Int) / az t<1∨1048576<(l.length:Int) / az t):=by
      rw [Bool.or_eq_false_iff] at h3
      have k1:=of_decide_eq_false h3.1
      have k2:=of_decide_eq_false h3.2
      omega
    have k:bf t l=0:=by unfold bf;rw [if_neg h,if_neg h2,if_neg h3]
    unfold bK
    rw [k,if_pos rfl]
    exact ⟨rfl,rfl⟩
theorem act:af (base.with D7) 49 (ag K7):=am c88 Tryz.func49 (by kernel_rfl) (by kernel_rfl) Tryz.call49 e49 aca
theorem c49:(base.with Gl).Ok:=ae c88 act
theorem vg (b:List (List CD)):dA b=0↔oW b=true:=by
  unfold dA
  by_cases h:(b.length:Int)=96
  · rw [if_neg (fun e=>e h)]
    cases oW b <;>simp
  · rw [if_pos h]
    constructor
    · intro e;cases e
    · intro e
      rw [ny,decide_eq_false h] at e;cases e
theorem vC (b:List (List CD)):gU b=0↔zP b=true:=by
  unfold gU zP
  by_cases h:(b.length:Int)=32
  · rw [if_neg (fun e=>e h),decide_eq_true h,Bool.true_and]
    by_cases k:go≤bv b
    · rw [if_pos k,decide_eq_false (by omega)];simp
    · rw [if_neg k,decide_eq_true (by omega)];simp
  · rw [if_pos h,decide_eq_false h];simp
theorem qv {l:List (List CD)} (h:cI l) (i j:Nat):cI ((l.take j).drop i):=by
  have e:(l.take j).drop i=ah (((aa l).take j).drop i):=by
    rw [show l=ah (aa l) from h]
    unfold ah
    rw [← List.map_take,← List.map_drop]
    rw [← show l=List.map _ (aa l) from h]
  rw [e]
  exact gu _
theorem H4 {t:Int} {l:List (List CD)} {i:Nat} (h:qX t (jc t l i)=false):∀ {n:Nat},i<n→j6 t l n=false
  | n+1,hi=>by
    rw [j6]
    by_cases e:i=n
    · subst e;rw [h];simp
    · rw [H4 h (show i<n by omega)];rfl
theorem yC {t:Int} {l:List (List CD)} {i:Nat} (hk:bf t l=0) (hi:i<(bK t l).toNat) (h:qX t (jc t l i)=false):4=bM t l:=by
  unfold bM
  rw [if_neg (fun e=>e hk),H4 h hi];rfl
theorem LT (b:List (List CD)):qX 3 b=zP b:=rfl
theorem Mg (b:List (List CD)):qX 4 b=oW b:=rfl
theorem adi:O7:=by
  unfold O7
  intro t l _ hl
  have hlen:=hl.2
  refine ⟨hl,ab (fun h=> ?_) (fun h=> ?_)⟩
  · have h:=of_decide_eq_true h
    unfold bM
    rw [if_pos h]
  have hk:bf t l=0:=by simpa using of_decide_eq_false h
  have j7:az t≠0:=fun e=>by unfold bf at hk;rw [if_pos e] at hk;cases hk
  have hm:(l.length:Int)%az t=0:=by
    apply Classical.byContradiction
    intro e
    unfold bf at hk
    rw [if_neg j7,if_pos e] at hk;cases hk
  have hn:bK t l=(l.length:Int) / az t:=by unfold bK;rw [if_pos hk]
  have hs:=pD t
  have hlen2:(l.length:Int)=az t*bK t l:=by
    rw [hn]
    have:=Int.emod_add_mul_ediv (l.length:Int) (az t)
    omega
  have hn0:0≤bK t l:=by rw [hn];exact Int.ediv_nonneg (by omega) (by omega)
  have hn1:bK t l≤1048576:=by
    rw [hn]
    apply Classical.byContradiction
    intro e
    unfold bf at hk
    rw [if_neg j7,if_neg (fun e2=>e2 hm),if_pos (.inr (by omega))] at hk;cases hk
  refine ⟨⟨⟨rfl,rfl,hk,rfl,by omega,hn0,rfl⟩,trivial⟩,?_⟩
  intro t' l' n i _ h
  obtain ⟨e1,e2,_,e3,h0,h1,h2⟩:=h
  rw [e1,e2,e3]
  rw [e3] at h1
  refine ab (fun hi=> ?_) (fun hi=> ?_)
  · have hi:=of_decide_eq_true hi
    have hii:i.toNat<(bK t l).toNat:=by omega
    have m1:(i+1)*az t≤l.length:=by
      rw [hlen2,Int.mul_comm (az t)]
      exact Int.mul_le_mul_of_nonneg_right (by omega) (by omega)
    have m0:0≤i*az t:=Int.mul_nonneg h0 (by omega)
    have m2:(i+1)*az t=i*az t+az t:=by rw [Int.add_mul,Int.one_mul]
    have q1:(i*az t).toNat=i.toNat*(az t).toNat:=Int.toNat_mul h0 (by omega)
    have q2:((i+1)*az t).toNat=(i.toNat+1)*(az t).toNat:=by rw [Int.toNat_mul (by omega) (by omega),show (i+1).toNat=i.toNat+1 from by omega]
    have ev:List.drop (i*az t).toNat (List.take ((i+1)*az t).toNat l)=jc t l i.toNat:=by rw [q1,q2];rfl
    rw [ev]
    have hB:cI (jc t l i.toNat)∧(jc t l i.toNat).length≤1000:=by
      refine ⟨qv hl.1 _ _,?_⟩
      unfold jc
      rw [List.length_drop,List.length_take]
      omega
    have nx:qX t (jc t l i.toNat)=true→(-9223372036854775808≤i+1∧i+1≤9223372036854775807)∧(t=t∧l=l∧bf t l=0∧bK t l=bK t l∧0≤i+1∧i+1≤bK t l∧j6 t l (i+1).toNat=true)∧(bK t l-(i+1)).toNat<(bK t l-i).toNat:=fun hv=>by
      refine ⟨by omega,⟨rfl,rfl,hk,rfl,by omega,by omega,?_⟩,by omega⟩
      rw [show (i+1).toNat=i.toNat+1 from by omega,j6,h2,hv];rfl
    have hF:t=3→cI (jc t l i.toNat)∧True:=fun _=>⟨hB.1,trivial⟩
    refine ⟨trivial,by omega,by omega,trivial,by omega,⟨m0,by omega,m1⟩,ab (fun c3=> ?_) (fun c3=> ?_)⟩
    · have c3:=of_decide_eq_true c3
      refine ⟨hB,cz (decide_eq_false (by omega)) (ab (fun k=> ?_) (fun k=> ?_))⟩
      · refine yC hk hii ?_
        rw [c3,LT,← c3]
        cases hf:zP (jc t l i.toNat) with
        | false=>rfl
        | true=>exact absurd ((vC _).2 hf) (of_decide_eq_true k)
      · refine nx ?_
        rw [c3,LT,← c3]
        exact (vC _).1 (by simpa using of_decide_eq_false k)
    · have c3:=of_decide_eq_false c3
      refine ab (fun c4=> ?_) (fun c4=> ?_)
      · have c4:=of_decide_eq_true c4
        refine ⟨hB,ab (fun k=> ?_) (fun k=> ?_)⟩
        · refine yC hk hii ?_
          rw [c4,Mg,← c4]
          cases hf:oW (jc t l i.toNat) with
          | false=>rfl
          | true=>exact absurd ((vg _).2 hf) (of_decide_eq_true k)
        · refine nx ?_
          rw [c4,Mg,← c4]
          exact (vg _).1 (by simpa using of_decide_eq_false k)
      · have c4:=of_decide_eq_false c4
        refine nx ?_
        unfold qX
        rw [if_neg c3,if_neg c4]
  · have hi:=of_decide_eq_false hi
    unfold bM
    rw [if_neg (fun e=>e hk),show (bK t l).toNat=i.toNat from by omega,h2];rfl
theorem aem:af (base.with Gl) 50 (ag KS):=am c49 Tryz.func50 (by kernel_rfl) (by kernel_rfl) Tryz.call50 e50 adi
theorem c50:(base.with G5).Ok:=ae c49 aem
theorem aeb:PL:=by
  unfold PL
  intro k t c l _ hl
  refine ⟨trivial,ab (fun h=> ?_) (fun h=>ab (fun h2=>fun _=> ?_) (fun h2=>⟨hl,fun _=>hl,?_⟩))⟩
  · unfold dL
    rw [decide_eq_false (of_decide_eq_true h)];rfl
  · unfold dL
    have h:cH k t c [] =0:=by simpa using of_decide_eq_false h
    rw [decide_eq_true h,h2];rfl
  · unfold dL
    have h:cH k t c [] =0:=by simpa using of_decide_eq_false h
    rw [decide_eq_true h,h2,Bool.and_assoc];rfl
theorem abM:af (base.with G5) 23 (ag KP):=am c50 Tryz.func23 (by kernel_rfl) (by kernel_rfl) Tryz.call23 e23 aeb
theorem c23:(base.with Ey).Ok:=ae c50 abM
end Go.Proofs.YteiecapbaeajdaaGreatDoor
namespace Go.Proofs.YteiecapbaeajdaaGreatDoor
open Go Go.Avc
set_option linter.unusedVariables false
def bY (x:Int) (b:List (List CD)) (t:List Int):Nat→List Int×Int
  | 0=>(t,0)
  | j+1=>((bY x b t j).1.set j (cU (gI (bY x b t j).1 j) x (rv b j) (bY x b t j).2),bS (gI (bY x b t j).1 j) x (rv b j) (bY x b t j).2)
def gV (k:Int) (m:List (List CD)) (t:List Int) (c:Int):Nat→List Int×Int
  | 0=>(t,c)
  | j+1=>((gV k m t c j).1.set j (cU (gI (gV k m t c j).1 (j+1)) k (rv m (j+1)) (gV k m t c j).2),bS (gI (gV k m t c j).1 (j+1)) k (rv m (j+1)) (gV k m t c j).2)
def ky (n:Nat) (r:List Int×Int):List Int:=(r.1.set n (aX (gI r.1 n) r.2 0)).set (n+1) (bI (gI r.1 n) r.2 0)
def ju (v:Int) (t:List Int):Int:=IntKind.u64.wrap (gI t 0*v)
def iD (m:List (List CD)) (v:Int) (t:List Int) (j:Nat):List Int×Int:=gV (ju v t) m t (bS (gI t 0) (ju v t) (rv m 0) 0) j
def rf (n:Nat) (r:List Int×Int):List Int:=(r.1.set (n-1) (aX (gI r.1 n) r.2 0)).set n (IntKind.u64.wrap (gI (r.1.set (n-1) (aX (gI r.1 n) r.2 0)) (n+1)+bI (gI r.1 n) r.2 0))
def v7 (m b:List (List CD)) (v x:Int) (t:List Int):List Int:=rf m.length (iD m v (ky m.length (bY x b t m.length)) (m.length-1))
def dE (m b:List (List CD)) (v:Int) (a:List (List CD)):Nat→List Int
  | 0=>List.replicate (m.length+2) 0
  | i+1=>v7 m b v (rv a i) (dE m b v a i)
def ka (m b:List (List CD)) (v:Int) (a:List (List CD)):List Int:=dE m b v a a.length
def cR (m b:List (List CD)) (v:Int) (a:List (List CD)):List (List CD):=jf m (((ka m b v a).take m.length).map ac) (gI (ka m b v a) m.length)
def EV:Ct:= {ps:= [u64,u64,u64,u64],bs:= [],pre:=fun | [.i a,.i x,.i y,.i c] =>ak a∧ak x∧ak y∧ak c | _=>False,res:=fun | [.i a,.i x,.i y,.i c] => .ret (.tup [u64,u64]) [] [.i (cU a x y c),.i (bS a x y c)] | _=>aj}
def js (a b m:List (List CD)) (v:Int):Prop:=aG a∧aG b∧aG m∧ak v∧b.length=m.length∧2≤m.length
def sG:Ct:= {ps:= [.ptr 0 0,aI,aI],bs:= [qM],pre:=fun | [.r a,.r b,.r m,.i v,.r _] =>js a b m v | _=>False,res:=fun | [.r a,.r b,.r m,.i v,.r q] => .ret aI [qM] [.r (cR m b v a),.r m,.i v,.r q] | _=>aj}
def uj:List (Nat×Pat):= [(0,.ptr 0 0),(2,aI),(7,i64),(8,.own 1),(25,aI),(26,i64),(27,i64)]
def O5:List Dat→Ann
  | [.r a,.r b,.r m,.i v,.r q] =>⟨[(23,[la 151 [(0,.ptr 0 0),(7,i64),(8,aI)] [qM] (fun | [.i n,.r t,.r m',.i v',.r q'] =>n=m.length∧t=(ka m b v a).map ac∧m'=m∧v'=v∧q'=q | _=>False) jv])],
      [(4,[la 151 uj [qM,ow] (fun | [.r b',.i n,.r a',.i na,.i i,.r m',.i v',.r q',.r t] =>b'=b∧n=m.length∧a'=a∧na=a.length∧0≤i∧i≤na∧m'=m∧v'=v∧q'=q∧t=(dE m b v a i.toNat).map ac | _=>False) (fun | [_,_,_,.i na,.i i,_,_,_,_] =>(na-i).toNat | _=>0)])],
      [ (8,[la 151 (uj++ [(10,u64),(11,u64),(31,aI),(32,i64),(33,i64)]) [qM,ow] (fun _=>True) jv],fun
          | [.r b0,.i n0,.i x0,.i c0,.r a0,.i na0,.i i0,.r bb0,.i nb0,.i j0,.r m0,.i v0,.r q0,.r t0] => [la 151 (uj++ [(10,u64),(11,u64),(31,aI),(32,i64),(33,i64)]) [qM,ow]
            (fun | [.r b',.i n,.i x,.i c,.r a',.i na,.i i,.r bb,.i nb,.i j,.r m',.i v',.r q',.r t] =>b'=b∧n=m.length∧x=x0∧a'=a∧na=na0∧i=i0∧bb=b∧nb=m.length∧0≤j∧j≤nb∧m'=m∧v'=v∧q'=q∧t=(bY x0 b (dE m b v a i0.toNat) j.toNat).1.map ac∧c=(bY x0 b (dE m b v a i0.toNat) j.toNat).2 | _=>False)
            (fun | [_,_,_,_,_,_,_,_,.i nb,.i j,_,_,_,_] =>(nb-j).toNat | _=>0)]
          | _=> []),
        (17,[la 151 (uj++ [(11,u64),(15,u64),(16,i64)]) [qM,ow] (fun _=>True) jv],fun
          | [.r b0,.i n0,.i c0,.i k0,.i j0,.r a0,.i na0,.i i0,.r m0,.i v0,.r q0,.r t0] => [la 151 (uj++ [(11,u64),(15,u64),(16,i64)]) [qM,ow]
            (fun | [.r b',.i n,.i c,.i k,.i j,.r a',.i na,.i i,.r m',.i v',.r q',.r t] =>b'=b∧n=m.length∧k=k0∧1≤j∧j≤n∧a'=a∧na=na0∧i=i0∧m'=m∧v'=v∧q'=q∧t=(iD m v (ky m.length (bY (rv a i0.toNat) b (dE m b v a i0.toNat) m.length)) (j.toNat-1)).1.map ac∧c=(iD m v (ky m.length (bY (rv a i0.toNat) b (dE m b v a i0.toNat) m.length)) (j.toNat-1)).2 | _=>False)
            (fun | [_,.i n,_,_,.i j,_,_,_,_,_,_,_] =>(n-j).toNat | _=>0)]
          | _=> [])]⟩
  | _=> {cut:= [],loop:= []}
end Go.Proofs.YteiecapbaeajdaaGreatDoor
namespace Go.Proofs.YteiecapbaeajdaaGreatDoor
open Go Go.Avc Go.Proofs
set_option linter.unusedVariables false
set_option maxRecDepth 100000
def RW:Prop:= ∀ (n n_1 n_2 n_3:Int),
 ak n∧
 ak n_1∧ak n_2∧ak n_3→
 (ak n_1∧ak n_2)∧
 (ak (n_1*n_2 % 18446744073709551616)∧
 ak n∧(0:Int)≤0∧(0:Int)≤1)∧
 (ak (aX (n_1*n_2 % 18446744073709551616) n 0)∧
 ak n_3∧(0:Int)≤0∧(0:Int)≤1)∧
 aX (aX (n_1*n_2 % 18446744073709551616) n 0) n_3 0=
 cU n n_1 n_2 n_3∧
 IntKind.u64.wrap
 (IntKind.u64.wrap (n_1*n_2 / 18446744073709551616+bI (n_1*n_2 % 18446744073709551616) n 0)+
 bI (aX (n_1*n_2 % 18446744073709551616) n 0) n_3 0)=
 bS n n_1 n_2 n_3
theorem ad3:av Ey Tryz.f249 EV au=RW:=by kernel_rfl
noncomputable def yO:ai:=al Ey 249 (ag EV)
def KT:Prop:= ∀ (l l_1 l_2:List (List CD)) (n:Int) (l_3:List (List CD)),
 l.length≤9223372036854775807→
 l_1.length≤9223372036854775807→
 l_2.length≤9223372036854775807→
 l_3.length≤9223372036854775807→
 js l l_1 l_2 n→
 l_2.length≤9223372036854775807→
 ((-9223372036854775808:Int)≤(↑l_2.length:Int)+2∧(↑l_2.length:Int)+2≤9223372036854775807)∧
 (0≤(↑l_2.length:Int)+2∧
 (↑l_2.length:Int)+2≤(↑l_2.length:Int)+2∧
 (↑(8:Nat):Int)*((↑l_2.length:Int)+2)≤140737488355328∧(↑l_2.length:Int)+2≤9223372036854775807)∧
 (l.length≤9223372036854775807→
 ((l_1=l_1∧
 (↑l_2.length:Int)=(↑l_2.length:Int)∧
 l=l∧
 (↑l.length:Int)=(↑l.length:Int)∧
 (0:Int)≤0∧
 0≤(↑l.length:Int)∧
 l_2=l_2∧
 n=n∧
 l_3=l_3∧
 List.replicate ((↑l_2.length:Int)+2).toNat [.int 0] =
 List.map ac (dE l_2 l_1 n l 0))∧
 True)∧
 ∀ (l_4:List (List CD)) (n_1:Int) (l_5:List (List CD)) (n_2 n_3:Int) (l_6:List (List CD)) (n_4:Int)
 (l_7 l_8:List (List CD)),
 l_4.length≤9223372036854775807→
 l_5.length≤9223372036854775807→
 l_6.length≤9223372036854775807→
 l_7.length≤9223372036854775807→
 l_8.length≤9223372036854775807→
 l_4=l_1∧
 n_1=(↑l_2.length:Int)∧
 l_5=l∧
 n_2=(↑l.length:Int)∧
 0≤n_3∧
 n_3≤n_2∧
 l_6=l_2∧
 n_4=n∧
 l_7=l_3∧
 l_8=List.map ac (dE l_2 l_1 n l n_3.toNat)→
 bif decide (n_3 < n_2) then
 (0≤n_3∧n_3 < (↑l_5.length:Int))∧
 n_3.toNat < l_5.length∧
 (l_4.length≤9223372036854775807→
 ((l_4=l_1∧
 n_1=(↑l_2.length:Int)∧
 ((l_5.getD n_3.toNat []).getD 0 (.int 0)).toInt=
 ((l_5.getD n_3.toNat []).getD 0 (.int 0)).toInt∧
 l_5=l∧
 n_2=n_2∧
 n_3=n_3∧
 l_4=l_1∧
 (↑l_4.length:Int)=(↑l_2.length:Int)∧
 (0:Int)≤0∧
 0≤(↑l_4.length:Int)∧
 l_6=l_2∧
 n_4=n∧
 l_7=l_3∧
 l_8=
 List.map ac
 (bY
 ((l_5.getD n_3.toNat []).getD 0 (.int 0)).toInt l_1
 (dE l_2 l_1 n l n_3.toNat) 0).fst∧
 (0:Int)=
 (bY
 ((l_5.getD n_3.toNat []).getD 0 (.int 0)).toInt l_1
 (dE l_2 l_1 n l n_3.toNat) 0).snd)∧
 True)∧
 ∀ (l_9:List (List CD)) (n_5 n_6 n_7:Int) (l_10:List (List CD)) (n_8 n_9:Int) (l_11:List (List CD))
 (n_10 n_11:Int) (l_12:List (List CD)) (n_12:Int) (l_13 l_14:List (List CD)),
 l_9.length≤9223372036854775807→
 l_10.length≤9223372036854775807→
 l_11.length≤9223372036854775807→
 l_12.length≤9223372036854775807→
 l_13.length≤9223372036854775807→
 l_14.length≤9223372036854775807→
 l_9=l_1∧
 n_5=(↑l_2.length:Int)∧
 n_6=((l_5.getD n_3.toNat []).getD 0 (.int 0)).toInt∧
 l_10=l∧
 n_8=n_2∧
 n_9=n_3∧
 l_11=l_1∧
 n_10=(↑l_2.length:Int)∧
 0≤n_11∧
 n_11≤n_10∧
 l_12=l_2∧
 n_12=n∧
 l_13=l_3∧
 l_14=
 List.map ac
 (bY
 ((l_5.getD n_3.toNat []).getD 0 (.int 0)).toInt l_1
 (dE l_2 l_1 n l n_3.toNat)
 n_11.toNat).fst∧
 n_7=
 (bY
 ((l_5.getD n_3.toNat []).getD 0 (.int 0)).toInt l_1
 (dE l_2 l_1 n l n_3.toNat) n_11.toNat).snd→
 bif decide (n_11 < n_10) then
 (0≤n_11∧n_11 < (↑l_11.length:Int))∧
 n_11.toNat < l_11.length∧
 (0≤n_11∧n_11 < (↑l_14.length:Int))∧
 n_11.toNat < l_14.length∧
 (ak
 ((l_14.getD n_11.toNat []).getD 0 (.int 0)).toInt∧
 ak n_6∧
 ak
 ((l_11.getD n_11.toNat []).getD 0 (.int 0)).toInt∧
 ak n_7)∧
 (0≤n_11∧n_11 < (↑l_14.length:Int))∧
 n_11.toNat < l_14.length∧
 ((-9223372036854775808:Int)≤n_11+1∧n_11+1≤9223372036854775807)∧
 (l_9=l_1∧
 n_5=(↑l_2.length:Int)∧
 n_6=((l_5.getD n_3.toNat []).getD 0 (.int 0)).toInt∧
 l_10=l∧
 n_8=n_2∧
 n_9=n_3∧
 l_11=l_1∧
 n_10=(↑l_2.length:Int)∧
 0≤n_11+1∧
 n_11+1≤n_10∧
 l_12=l_2∧
 n_12=n∧
 l_13=l_3∧
 l_14.set n_11.toNat
 ((l_14.getD n_11.toNat []).set 0
 (.int
 (cU
 ((l_14.getD n_11.toNat []).getD 0
 (.int 0)).toInt
 n_6
 ((l_11.getD n_11.toNat []).getD 0
 (.int 0)).toInt
 n_7)))=
 List.map ac
 (bY
 ((l_5.getD n_3.toNat []).getD 0
 (.int 0)).toInt
 l_1
 (dE l_2 l_1 n l
 n_3.toNat)
 (n_11+1).toNat).fst∧
 bS
 ((l_14.getD n_11.toNat []).getD 0
 (.int 0)).toInt
 n_6
 ((l_11.getD n_11.toNat []).getD 0
 (.int 0)).toInt
 n_7=
 (bY
 ((l_5.getD n_3.toNat []).getD 0
 (.int 0)).toInt
 l_1
 (dE l_2 l_1 n l
 n_3.toNat)
 (n_11+1).toNat).snd)∧
 (n_10 - (n_11+1)).toNat < (n_10 - n_11).toNat
 else
 (0≤n_5∧n_5 < (↑l_14.length:Int))∧
 n_5.toNat < l_14.length∧
 (ak
 ((l_14.getD n_5.toNat []).getD 0 (.int 0)).toInt∧
 ak n_7∧(0:Int)≤0∧(0:Int)≤1)∧
 (0≤n_5∧n_5 < (↑l_14.length:Int))∧
 n_5.toNat < l_14.length∧
 ((-9223372036854775808:Int)≤n_5+1∧n_5+1≤9223372036854775807)∧
 (0≤n_5+1∧
 n_5+1 <
 (↑(l_14.set n_5.toNat
 ((l_14.getD n_5.toNat []).set 0
 (.int
 (aX
 ((l_14.getD n_5.toNat []).getD 0 (.int 0)).toInt n_7
 0)))).length:
 Int))∧
 (n_5+1).toNat <
 (l_14.set n_5.toNat
 ((l_14.getD n_5.toNat []).set 0
 (.int
 (aX
 ((l_14.getD n_5.toNat []).getD 0 (.int 0)).toInt n_7
 0)))).length∧
 ((0:Int)≤0∧
 (0:Int) <
 (↑((l_14.set n_5.toNat
 ((l_14.getD n_5.toNat []).set 0
 (.int
 (aX
 ((l_14.getD n_5.toNat []).getD 0 (.int 0)).toInt
 n_7 0)))).set
 (n_5+1).toNat
 (((l_14.set n_5.toNat
 ((l_14.getD n_5.toNat []).set 0
 (.int
 (aX
 ((l_14.getD n_5.toNat []).getD 0
 (.int 0)).toInt
 n_7 0)))).getD
 (n_5+1).toNat []).set
 0
 (.int
 (bI
 ((l_14.getD n_5.toNat []).getD 0 (.int 0)).toInt n_7
 0)))).length:
 Int))∧
 (0:Nat) <
 ((l_14.set n_5.toNat
 ((l_14.getD n_5.toNat []).set 0
 (.int
 (aX
 ((l_14.getD n_5.toNat []).getD 0 (.int 0)).toInt n_7
 0)))).set
 (n_5+1).toNat
 (((l_14.set n_5.toNat
 ((l_14.getD n_5.toNat []).set 0
 (.int
 (aX
 ((l_14.getD n_5.toNat []).getD 0
 (.int 0)).toInt
 n_7 0)))).getD
 (n_5+1).toNat []).set
 0
 (.int
 (bI
 ((l_14.getD n_5.toNat []).getD 0 (.int 0)).toInt n_7
 0)))).length∧
 ((0:Int)≤0∧
 (0:Int) <
 (↑((l_14.set n_5.toNat
 ((l_14.getD n_5.toNat []).set 0
 (.int
 (aX
 ((l_14.getD n_5.toNat []).getD 0
 (.int 0)).toInt
 n_7 0)))).set
 (n_5+1).toNat
 (((l_14.set n_5.toNat
 ((l_14.getD n_5.toNat []).set 0
 (.int
 (aX
 ((l_14.getD n_5.toNat []).getD 0
 (.int 0)).toInt
 n_7 0)))).getD
 (n_5+1).toNat []).set
 0
 (.int
 (bI
 ((l_14.getD n_5.toNat []).getD 0 (.int 0)).toInt
 n_7 0)))).length:
 Int))∧
 (0:Nat) <
 ((l_14.set n_5.toNat
 ((l_14.getD n_5.toNat []).set 0
 (.int
 (aX
 ((l_14.getD n_5.toNat []).getD 0 (.int 0)).toInt
 n_7 0)))).set
 (n_5+1).toNat
 (((l_14.set n_5.toNat
 ((l_14.getD n_5.toNat []).set 0
 (.int
 (aX
 ((l_14.getD n_5.toNat []).getD 0
 (.int 0)).toInt
 n_7 0)))).getD
 (n_5+1).toNat []).set
 0
 (.int
 (bI
 ((l_14.getD n_5.toNat []).getD 0 (.int 0)).toInt n_7
 0)))).length∧
 ((0:Int)≤0∧0 < (↑l_12.length:Int))∧
 0 < l_12.length∧
 (ak
 ((((l_14.set n_5.toNat
 ((l_14.getD n_5.toNat []).set 0
 (.int
 (aX
 ((l_14.getD n_5.toNat []).getD 0
 (.int 0)).toInt
 n_7 0)))).set
 (n_5+1).toNat
 (((l_14.set n_5.toNat
 ((l_14.getD n_5.toNat []).set 0
 (.int
 (aX
 ((l_14.getD n_5.toNat []).getD 0
 (.int 0)).toInt
 n_7 0)))).getD
 (n_5+1).toNat []).set
 0
 (.int
 (bI
 ((l_14.getD n_5.toNat []).getD 0
 (.int 0)).toInt
 n_7 0)))).getD
 0 []).getD
 0 (.int 0)).toInt∧
 ak
 (IntKind.u64.wrap
 (((((l_14.set n_5.toNat
 ((l_14.getD n_5.toNat []).set 0
 (.int
 (aX
 ((l_14.getD n_5.toNat []).getD 0
 (.int 0)).toInt
 n_7 0)))).set
 (n_5+1).toNat
 (((l_14.set n_5.toNat
 ((l_14.getD n_5.toNat []).set 0
 (.int
 (aX
 ((l_14.getD n_5.toNat []).getD 0
 (.int 0)).toInt
 n_7 0)))).getD
 (n_5+1).toNat []).set
 0
 (.int
 (bI
 ((l_14.getD n_5.toNat []).getD 0
 (.int 0)).toInt
 n_7 0)))).getD
 0 []).getD
 0 (.int 0)).toInt*
 n_12))∧
 ak
 ((l_12.getD 0 []).getD 0 (.int 0)).toInt∧
 ak 0)∧
 ((l_9=l_1∧
 n_5=(↑l_2.length:Int)∧
 IntKind.u64.wrap
 (((((l_14.set n_5.toNat
 ((l_14.getD n_5.toNat []).set 0
 (.int
 (aX
 ((l_14.getD n_5.toNat []).getD 0
 (.int 0)).toInt
 n_7 0)))).set
 (n_5+1).toNat
 (((l_14.set n_5.toNat
 ((l_14.getD n_5.toNat []).set 0
 (.int
 (aX
 ((l_14.getD n_5.toNat []).getD 0
 (.int 0)).toInt
 n_7 0)))).getD
 (n_5+1).toNat []).set
 0
 (.int
 (bI
 ((l_14.getD n_5.toNat []).getD 0
 (.int 0)).toInt
 n_7 0)))).getD
 0 []).getD
 0 (.int 0)).toInt*
 n_12)=
 IntKind.u64.wrap
 (((((l_14.set n_5.toNat
 ((l_14.getD n_5.toNat []).set 0
 (.int
 (aX
 ((l_14.getD n_5.toNat []).getD 0
 (.int 0)).toInt
 n_7 0)))).set
 (n_5+1).toNat
 (((l_14.set n_5.toNat
 ((l_14.getD n_5.toNat []).set 0
 (.int
 (aX
 ((l_14.getD n_5.toNat []).getD 0
 (.int 0)).toInt
 n_7 0)))).getD
 (n_5+1).toNat []).set
 0
 (.int
 (bI
 ((l_14.getD n_5.toNat []).getD 0
 (.int 0)).toInt
 n_7 0)))).getD
 0 []).getD
 0 (.int 0)).toInt*
 n_12)∧
 (1:Int)≤1∧
 1≤n_5∧
 l_10=l∧
 n_8=n_8∧
 n_9=n_9∧
 l_12=l_2∧
 n_12=n∧
 l_13=l_3∧
 (l_14.set n_5.toNat
 ((l_14.getD n_5.toNat []).set 0
 (.int
 (aX
 ((l_14.getD n_5.toNat []).getD 0
 (.int 0)).toInt
 n_7 0)))).set
 (n_5+1).toNat
 (((l_14.set n_5.toNat
 ((l_14.getD n_5.toNat []).set 0
 (.int
 (aX
 ((l_14.getD n_5.toNat []).getD
 0
 (.int 0)).toInt
 n_7 0)))).getD
 (n_5+1).toNat []).set
 0
 (.int
 (bI
 ((l_14.getD n_5.toNat []).getD 0
 (.int 0)).toInt
 n_7 0)))=
 List.map ac
 (iD l_2 n
 (ky
 l_2.length
 (bY
 (rv l
 n_9.toNat)
 l_1
 (dE l_2
 l_1 n l n_9.toNat)
 l_2.length))
 0).fst∧
 bS
 ((((l_14.set n_5.toNat
 ((l_14.getD n_5.toNat []).set
 0
 (.int
 (aX
 ((l_14.getD n_5.toNat []).getD
 0
 (.int
 0)).toInt
 n_7 0)))).set
 (n_5+1).toNat
 (((l_14.set n_5.toNat
 ((l_14.getD n_5.toNat []).set
 0
 (.int
 (aX
 ((l_14.getD n_5.toNat
 []).getD
 0
 (.int
 0)).toInt
 n_7 0)))).getD
 (n_5+1).toNat []).set
 0
 (.int
 (bI
 ((l_14.getD n_5.toNat []).getD
 0
 (.int
 0)).toInt
 n_7 0)))).getD
 0 []).getD
 0 (.int 0)).toInt
 (IntKind.u64.wrap
 (((((l_14.set n_5.toNat
 ((l_14.getD n_5.toNat []).set
 0
 (.int
 (aX
 ((l_14.getD n_5.toNat
 []).getD
 0
 (.int
 0)).toInt
 n_7 0)))).set
 (n_5+1).toNat
 (((l_14.set n_5.toNat
 ((l_14.getD n_5.toNat
 []).set
 0
 (.int
 (aX
 ((l_14.getD
 n_5.toNat
 []).getD
 0
 (.int
 (0:
 Int))).toInt
 n_7
 0)))).getD
 (n_5+1).toNat
 []).set
 0
 (.int
 (bI
 ((l_14.getD n_5.toNat []).getD
 0
 (.int
 0)).toInt
 n_7 0)))).getD
 0 []).getD
 0 (.int 0)).toInt*
 n_12))
 ((l_12.getD 0 []).getD 0
 (.int 0)).toInt
 0=
 (iD l_2 n
 (ky
 l_2.length
 (bY
 (rv l
 n_9.toNat)
 l_1
 (dE l_2
 l_1 n l n_9.toNat)
 l_2.length))
 0).snd)∧
 True)∧
 ∀ (l_15:List (List CD)) (n_13 n_14 n_15 n_16:Int)
 (l_16:List (List CD)) (n_17 n_18:Int) (l_17:List (List CD))
 (n_19:Int) (l_18 l_19:List (List CD)),
 l_15.length≤9223372036854775807→
 l_16.length≤9223372036854775807→
 l_17.length≤9223372036854775807→
 l_18.length≤9223372036854775807→
 l_19.length≤9223372036854775807→
 l_15=l_1∧
 n_13=(↑l_2.length:Int)∧
 n_15=
 IntKind.u64.wrap
 (((((l_14.set n_5.toNat
 ((l_14.getD n_5.toNat []).set 0
 (.int
 (aX
 ((l_14.getD n_5.toNat []).getD
 0
 (.int
 0)).toInt
 n_7 0)))).set
 (n_5+1).toNat
 (((l_14.set n_5.toNat
 ((l_14.getD n_5.toNat []).set
 0
 (.int
 (aX
 ((l_14.getD n_5.toNat
 []).getD
 0
 (.int
 0)).toInt
 n_7 0)))).getD
 (n_5+1).toNat []).set
 0
 (.int
 (bI
 ((l_14.getD n_5.toNat []).getD
 0
 (.int 0)).toInt
 n_7 0)))).getD
 0 []).getD
 0 (.int 0)).toInt*
 n_12)∧
 1≤n_16∧
 n_16≤n_13∧
 l_16=l∧
 n_17=n_8∧
 n_18=n_9∧
 l_17=l_2∧
 n_19=n∧
 l_18=l_3∧
 l_19=
 List.map
 ac
 (iD
 l_2 n
 (ky
 l_2.length
 (bY
 (rv
 l n_9.toNat)
 l_1
 (dE
 l_2 l_1 n l n_9.toNat)
 l_2.length))
 (n_16.toNat - 1)).fst∧
 n_14=
 (iD
 l_2 n
 (ky
 l_2.length
 (bY
 (rv
 l n_9.toNat)
 l_1
 (dE
 l_2 l_1 n l n_9.toNat)
 l_2.length))
 (n_16.toNat - 1)).snd→
 bif decide (n_16 < n_13) then
 ((-9223372036854775808:Int)≤n_16 - 1∧
 n_16 - 1≤9223372036854775807)∧
 (0≤n_16∧n_16 < (↑l_19.length:Int))∧
 n_16.toNat < l_19.length∧
 (0≤n_16∧n_16 < (↑l_17.length:Int))∧
 n_16.toNat < l_17.length∧
 (ak
 ((l_19.getD n_16.toNat []).getD 0
 (.int 0)).toInt∧
 ak n_15∧
 ak
 ((l_17.getD n_16.toNat []).getD 0
 (.int 0)).toInt∧
 ak n_14)∧
 (0≤n_16 - 1∧
 n_16 - 1 < (↑l_19.length:Int))∧
 (n_16 - 1).toNat < l_19.length∧
 ((-9223372036854775808:Int)≤n_16+1∧
 n_16+1≤
 (9223372036854775807:Int))∧
 (l_15=l_1∧
 n_13=(↑l_2.length:Int)∧
 n_15=
 IntKind.u64.wrap
 (((((l_14.set n_5.toNat
 ((l_14.getD
 n_5.toNat
 []).set
 0
 (.int
 (aX
 ((l_14.getD
 n_5.toNat
 []).getD
 (0:
 Nat)
 (.int
 (0:
 Int))).toInt
 n_7
 (0:
 Int))))).set
 (n_5+
 (1:Int)).toNat
 (((l_14.set n_5.toNat
 ((l_14.getD
 n_5.toNat
 []).set
 0
 (.int
 (aX
 ((l_14.getD
 n_5.toNat
 []).getD
 (0:
 Nat)
 (.int
 (0:
 Int))).toInt
 n_7
 (0:
 Int))))).getD
 (n_5+
 (1:
 Int)).toNat
 []).set
 0
 (.int
 (bI
 ((l_14.getD
 n_5.toNat
 []).getD
 0
 (.int
 (0:
 Int))).toInt
 n_7
 (0:
 Int))))).getD
 0 []).getD
 0
 (.int
 0)).toInt*
 n_12)∧
 1≤n_16+1∧
 n_16+1≤n_13∧
 l_16=l∧
 n_17=n_8∧
 n_18=n_9∧
 l_17=l_2∧
 n_19=n∧
 l_18=l_3∧
 l_19.set
 (n_16 -
 (1:
 Int)).toNat
 ((l_19.getD
 (n_16 -
 (1:
 Int)).toNat
 []).set
 0
 (.int
 (cU
 ((l_19.getD
 n_16.toNat
 []).getD
 (0:
 Nat)
 (.int
 (0:
 Int))).toInt
 n_15
 ((l_17.getD
 n_16.toNat
 []).getD
 (0:
 Nat)
 (.int
 (0:
 Int))).toInt
 n_14)))=
 List.map
 ac
 (iD
 l_2 n
 (ky
 l_2.length
 (bY
 (rv
 l
 n_9.toNat)
 l_1
 (dE
 l_2 l_1
 n l
 n_9.toNat)
 l_2.length))
 ((n_16+
 (1:
 Int)).toNat -
 (1:
 Nat))).fst∧
 bS
 ((l_19.getD
 n_16.toNat
 []).getD
 0
 (.int
 (0:
 Int))).toInt
 n_15
 ((l_17.getD
 n_16.toNat
 []).getD
 0
 (.int
 (0:
 Int))).toInt
 n_14=
 (iD
 l_2 n
 (ky
 l_2.length
 (bY
 (rv
 l
 n_9.toNat)
 l_1
 (dE
 l_2 l_1 n
 l
 n_9.toNat)
 l_2.length))
 ((n_16+
 (1:
 Int)).toNat -
 (1:
 Nat))).snd)∧
 (n_13 - (n_16+1)).toNat <
 (n_13 - n_16).toNat
 else
 ((-9223372036854775808:Int)≤n_13 - 1∧
 n_13 - 1≤9223372036854775807)∧
 (0≤n_13∧n_13 < (↑l_19.length:Int))∧
 n_13.toNat < l_19.length∧
 (ak
 ((l_19.getD n_13.toNat []).getD 0
 (.int 0)).toInt∧
 ak n_14∧
 (0:Int)≤0∧(0:Int)≤1)∧
 (0≤n_13 - 1∧
 n_13 - 1 < (↑l_19.length:Int))∧
 (n_13 - 1).toNat < l_19.length∧
 ((-9223372036854775808:Int)≤n_13+1∧
 n_13+1≤9223372036854775807)∧
 (0≤n_13+1∧
 n_13+1 <
 (↑(l_19.set (n_13 - 1).toNat
 ((l_19.getD (n_13 - 1).toNat
 []).set
 0
 (.int
 (aX
 ((l_19.getD n_13.toNat []).getD
 0
 (.int
 0)).toInt
 n_14 0)))).length:
 Int))∧
 (n_13+1).toNat <
 (l_19.set (n_13 - 1).toNat
 ((l_19.getD (n_13 - 1).toNat
 []).set
 0
 (.int
 (aX
 ((l_19.getD n_13.toNat []).getD
 0
 (.int 0)).toInt
 n_14 0)))).length∧
 (0≤n_13∧
 n_13 <
 (↑(l_19.set (n_13 - 1).toNat
 ((l_19.getD
 (n_13 - 1).toNat
 []).set
 0
 (.int
 (aX
 ((l_19.getD n_13.toNat
 []).getD
 0
 (.int
 0)).toInt
 n_14 0)))).length:
 Int))∧
 n_13.toNat <
 (l_19.set (n_13 - 1).toNat
 ((l_19.getD (n_13 - 1).toNat
 []).set
 0
 (.int
 (aX
 ((l_19.getD n_13.toNat []).getD
 0
 (.int
 0)).toInt
 n_14 0)))).length∧
 ((-9223372036854775808:Int)≤
 n_18+1∧
 n_18+1≤
 (9223372036854775807:Int))∧
 (l_15=l_1∧
 n_13=(↑l_2.length:Int)∧
 l_16=l∧
 n_17=(↑l.length:Int)∧
 0≤n_18+1∧
 n_18+1≤n_17∧
 l_17=l_2∧
 n_19=n∧
 l_18=l_3∧
 (l_19.set
 (n_13 -
 (1:
 Int)).toNat
 ((l_19.getD
 (n_13 -
 (1:
 Int)).toNat
 []).set
 0
 (.int
 (aX
 ((l_19.getD
 n_13.toNat
 []).getD
 (0:
 Nat)
 (.int
 (0:
 Int))).toInt
 n_14
 (0:
 Int))))).set
 n_13.toNat
 (((l_19.set
 (n_13 -
 (1:
 Int)).toNat
 ((l_19.getD
 (n_13 -
 (1:
 Int)).toNat
 []).set
 (0:
 Nat)
 (.int
 (aX
 ((l_19.getD
 n_13.toNat
 []).getD
 (0:
 Nat)
 (.int
 (0:
 Int))).toInt
 n_14
 (0:
 Int))))).getD
 n_13.toNat
 []).set
 0
 (.int
 (IntKind.u64.wrap
 ((((l_19.set
 (n_13 -
 (1:
 Int)).toNat
 ((l_19.getD
 (n_13 -
 (1:
 Int)).toNat
 []).set
 (0:
 Nat)
 (.int
 (aX
 ((l_19.getD
 n_13.toNat
 []).getD
 (0:
 Nat)
 (.int
 (0:
 Int))).toInt
 n_14
 (0:
 Int))))).getD
 (n_13+
 (1:
 Int)).toNat
 []).getD
 (0:
 Nat)
 (.int
 (0:
 Int))).toInt+
 bI
 ((l_19.getD
 n_13.toNat
 []).getD
 (0:
 Nat)
 (.int
 (0:
 Int))).toInt
 n_14
 (0:
 Int)))))=
 List.map
 ac
 (dE
 l_2 l_1 n l
 (n_18+
 (1:
 Int)).toNat))∧
 (n_17 - (n_18+1)).toNat <
 (n_2 - n_3).toNat)
 else
 (n_1=(↑l_2.length:Int)∧
 l_8=List.map ac (ka l_2 l_1 n l)∧
 l_6=l_2∧n_4=n∧l_7=l_3)∧
 True)∧
 ∀ (n_1:Int) (l_4 l_5:List (List CD)) (n_2:Int) (l_6:List (List CD)),
 l_4.length≤9223372036854775807→
 l_5.length≤9223372036854775807→
 l_6.length≤9223372036854775807→
 n_1=(↑l_2.length:Int)∧
 l_4=List.map ac (ka l_2 l_1 n l)∧l_5=l_2∧n_2=n∧l_6=l_3→
 ((0:Int)≤0∧0≤n_1∧n_1≤(↑l_4.length:Int))∧
 (0≤n_1∧n_1 < (↑l_4.length:Int))∧
 n_1.toNat < l_4.length∧
 (aG (List.drop 0 (List.take n_1.toNat l_4))∧aG l_5)∧
 jf l_5 (List.drop 0 (List.take n_1.toNat l_4))
 ((l_4.getD n_1.toNat []).getD 0 (.int 0)).toInt=
 cR l_2 l_1 n l∧
 l_5=l_2∧n_2=n∧l_6=l_3
theorem acD:av yO Tryz.f246 sG O5=KT:=by kernel_rfl
noncomputable def Fk:ai:=al yO 246 (ag sG)
end Go.Proofs.YteiecapbaeajdaaGreatDoor
namespace Go.Proofs.YteiecapbaeajdaaGreatDoor
open Go Go.Avc Go.Proofs
set_option linter.unusedVariables false
set_option linter.unusedSimpArgs false
set_option maxRecDepth 100000
theorem YY:RW:=by
  rintro a x y c ⟨ha,hx,hy,hc⟩
  have iw:∀ z:Int,ak (z%18446744073709551616):=fun z=>by unfold ak;omega
  refine ⟨⟨hx,hy⟩,⟨iw _,ha,by omega,by omega⟩,⟨nT _ _ _,hc,by omega,by omega⟩,?_⟩
  have hb:=sD ha hx hy hc
  unfold ak at ha hc
  have h1:0≤x*y:=Int.mul_nonneg hx.1 hy.1
  simp only [ou]
  unfold cU bS aX bI
  generalize x*y=m at *
  refine ⟨by omega,by omega⟩
theorem ZD:af (base.with Ey) 249 (ag EV):=am c23 Tryz.func249 (by kernel_rfl) (by kernel_rfl) Tryz.call249 ad3 YY
theorem T9:(base.with yO).Ok:=ae c23 ZD
def wl (k:Nat) (t:List Int):Prop:=t.length=k∧∀ j,ak (gI t j)
theorem lw {k:Nat} {t:List Int} (h:wl k t) (i:Nat) {x:Int} (hx:ak x):wl k (t.set i x):=by
  refine ⟨by rw [List.length_set];exact h.1,fun j=> ?_⟩
  unfold gI
  rw [List.getD_eq_getElem?_getD,List.getElem?_set]
  split
  · split
    · exact hx
    · exact ⟨by decide,by decide⟩
  · rw [← List.getD_eq_getElem?_getD];exact h.2 j
theorem zu (k:Nat):wl k (List.replicate k 0):=⟨List.length_replicate,fun j=>by
  unfold gI
  rw [List.getD_eq_getElem?_getD,List.getElem?_replicate]
  split <;>exact ⟨by decide,by decide⟩⟩
theorem tT {k:Nat} {x:Int} {b:List (List CD)} {t:List Int} (hx:ak x) (hb:ce b) (ht:wl k t):∀ j,wl k (bY x b t j).1∧ak (bY x b t j).2
  | 0=>⟨ht,bg⟩
  | j+1=>by
    have ⟨h1,h2⟩:=tT hx hb ht j
    exact ⟨lw h1 j (nR ..),lV (h1.2 j) hx (hb j) h2⟩
theorem HF {n:Nat} {k c:Int} {m:List (List CD)} {t:List Int} (hk:ak k) (hm:ce m) (hc:ak c) (ht:wl n t):∀ j,wl n (gV k m t c j).1∧ak (gV k m t c j).2
  | 0=>⟨ht,hc⟩
  | j+1=>by
    have ⟨h1,h2⟩:=HF hk hm hc ht j
    exact ⟨lw h1 j (nR ..),lV (h1.2 (j+1)) hk (hm (j+1)) h2⟩
theorem AO {k n:Nat} {r:List Int×Int} (h:wl k r.1∧ak r.2):wl k (ky n r):=lw (lw h.1 _ (nT ..)) _ (Mu (h.1.2 n) h.2 ⟨by decide,by decide⟩)
theorem tw {n:Nat} {v:Int} {m:List (List CD)} {t:List Int} (hm:ce m) (ht:wl n t) (j:Nat):wl n (iD m v t j).1∧ak (iD m v t j).2:=HF (jR _) hm (lV (ht.2 0) (jR _) (hm 0) ⟨by decide,by decide⟩) ht j
theorem Tl {k n:Nat} {r:List Int×Int} (h:wl k r.1∧ak r.2):wl k (rf n r):=lw (lw h.1 _ (nT ..)) _ (jR _)
theorem qd {a b m:List (List CD)} {v:Int} (ha:ce a) (hb:ce b) (hm:ce m):∀ i,wl (m.length+2) (dE m b v a i)
  | 0=>zu _
  | i+1=>Tl (tw hm (AO (tT (ha i) hb (qd ha hb hm i) _)) _)
theorem vK {n k:Nat} {t:List Int} (h:wl n t) (hk:k≤n):wl k (t.take k):=by
  refine ⟨by rw [List.length_take,h.1];omega,fun j=> ?_⟩
  unfold gI
  rw [List.getD_eq_getElem?_getD]
  by_cases hj:j<k
  · rw [List.getElem?_take_of_lt hj,← List.getD_eq_getElem?_getD];exact h.2 j
  · rw [List.getElem?_eq_none (by rw [List.length_take];omega)];exact bg
theorem ln (L:List Int) (i:Nat) (x:Int):(L.map ac).set i (((L.map ac).getD i []).set 0 (CD.int x))=(L.set i x).map ac:=by
  by_cases h:i<L.length
  · exact oG L i x h
  · rw [List.set_eq_of_length_le (by rw [List.length_map];omega),List.set_eq_of_length_le (by omega)]
theorem eI (L:List Int) (i:Nat):rv (L.map ac) i=gI L i:=cA L i
set_option maxHeartbeats 1000000 in
theorem VO:KT:=by
  unfold KT
  intro a b m v q _ _ _ _ hp _
  obtain ⟨ha,hb,hm,hv,hbm,h2⟩:=hp
  have la:=ha.1
  have lm:=hm.1
  have hT:=fun i=>qd (v:=v) ha.2 hb.2 hm.2 i
  refine ⟨by omega,⟨by omega,by omega,by omega,by omega⟩,⟨fun _=>⟨⟨⟨rfl,rfl,rfl,rfl,by omega,by omega,rfl,rfl,rfl,?_⟩,trivial⟩,?_⟩,?_⟩⟩
  case' refine_3=>
    intro n t m2 v2 q2 _ _ _ h
    obtain ⟨e1,e2,e3,e4,e5⟩:=h
    rw [e1,e2,e3,e4,e5]
    have h3:wl (m.length+2) (ka m b v a):=hT a.length
    have n0:((m.length:Int)).toNat=m.length:=by omega
    have hk:=vK (k:=m.length) h3 (by omega)
    simp only [n0,dH,eI,List.drop_zero,List.length_map]
    rw [show (ka m b v a).length=m.length+2 from h3.1,← List.map_take]
    exact ⟨by omega,by omega,by omega,⟨⟨by rw [List.length_map,hk.1];exact lm,fun j=>by rw [eI];exact hk.2 j⟩,hm⟩,by repeat' first | exact trivial | rfl | apply And.intro⟩
  · show _=List.map ac (List.replicate (m.length+2) 0)
    rw [List.map_replicate,show ((m.length:Int)+2).toNat=m.length+2 from by omega];rfl
  intro b' n a' na i m' v' q' t _ _ _ _ _ h
  obtain ⟨e1,e2,e3,e4,i0,i1,e6,e7,e8,e9⟩:=h
  rw [e1,e2,e3,e4,e6,e7,e8,e9]
  rw [e4] at i1
  clear e1 e2 e3 e4 e6 e7 e8 e9
  have ht:=hT i.toNat
  have hs:dE m b v a (i.toNat+1)=v7 m b v (rv a i.toNat) (dE m b v a i.toNat):=rfl
  obtain ⟨t,et⟩:∃ t,t=dE m b v a i.toNat:=⟨_,rfl⟩
  rw [← et] at ht hs
  refine ab (fun hi=> ?_) (fun hi=> ?_)
  · have hi:=of_decide_eq_true hi
    refine ⟨⟨i0,hi⟩,by omega,fun _=>⟨⟨⟨rfl,rfl,rfl,rfl,rfl,rfl,rfl,by omega,by omega,by omega,rfl,rfl,rfl,rfl,rfl⟩,trivial⟩,?_⟩⟩
    rw [dH]
    intro b2 n2 x c a2 na2 i2 bb nb j m2 v2 q2 u _ _ _ _ _ _ h
    obtain ⟨e1,e2,e3,e4,e5,e6,e7,e8,j0,j1,LY,e11,e12,LV,e14⟩:=h
    rw [e1,e2,e3,e4,e5,e6,e7,e8,LY,e11,e12,LV,e14]
    rw [e8] at j1
    clear e1 e2 e3 e4 e5 e6 e7 e8 LY e11 e12 LV e14
    have hx:=ha.2 i.toNat
    have hM:=fun j=>tT (k:=m.length+2) hx hb.2 ht j
    refine ab (fun hj=> ?_) (fun hj=> ?_)
    · have hj:=of_decide_eq_true hj
      have hw:=hM j.toNat
      simp only [dH,ln,eI,List.length_map,List.length_set,← et,hw.1.1]
      have en:(j+1).toNat=j.toNat+1:=by omega
      rw [en]
      repeat' first
        | exact trivial
        | rfl
        | exact hw.1.2 _
        | exact hx
        | exact hb.2 _
        | exact hw.2
        | omega
        | apply And.intro
    · have hj:=of_decide_eq_false hj
      have hjn:j.toNat=m.length:=by omega
      rw [hjn]
      have hw:=hM m.length
      have h1:=AO (n:=m.length) hw
      have hs1:ky m.length (bY (rv a i.toNat) b t m.length)=((bY (rv a i.toNat) b t m.length).1.set m.length (aX (gI (bY (rv a i.toNat) b t m.length).1 m.length) (bY (rv a i.toNat) b t m.length).2 0)).set (m.length+1) (bI (gI (bY (rv a i.toNat) b t m.length).1 m.length) (bY (rv a i.toNat) b t m.length).2 0):=rfl
      have n1:((m.length:Int)+1).toNat=m.length+1:=by omega
      have n0:((m.length:Int)).toNat=m.length:=by omega
      simp only [dH,ln,eI,List.length_map,List.length_set,← et,hw.1.1,n0,n1]
      simp only [← hs1]
      obtain ⟨w,ew⟩:∃ w,w=ky m.length (bY (rv a i.toNat) b t m.length):=⟨_,rfl⟩
      simp only [← ew]
      rw [← ew] at h1
      refine ⟨by omega,by omega,⟨hw.1.2 _,hw.2,by decide,by decide⟩,by omega,by omega,by omega,by omega,by omega,by omega,by omega,by omega,by omega,by omega,by omega,⟨h1.2 0,jR _,hm.2 0,bg⟩,⟨?_,trivial⟩,?_⟩
      · repeat' first
          | exact trivial
          | rfl
          | omega
          | apply And.intro
      intro b3 n3 c3 k3 j3 a3 na3 i3 m3 v3 q3 u3 _ _ _ _ _ h
      obtain ⟨f1,f2,f3,g0,g1,f6,f7,f8,f9,f10,f11,f12,f13⟩:=h
      rw [f1,f2,f3,f6,f7,f8,f9,f10,f11,f12,f13]
      rw [f2] at g1
      clear f1 f2 f3 f6 f7 f8 f9 f10 f11 f12 f13
      refine ab (fun hj3=> ?_) (fun hj3=> ?_)
      · have hj3:=of_decide_eq_true hj3
        obtain ⟨p,hp⟩:∃ p,p=j3.toNat-1:=⟨_,rfl⟩
        have p1:j3.toNat=p+1:=by omega
        have p2:(j3-1).toNat=p:=by omega
        have p3:(j3+1).toNat-1=p+1:=by omega
        have hw2:=tw (v:=v) hm.2 h1 p
        simp only [p2,p3,p1,Nat.add_sub_cancel,dH,ln,eI,List.length_map,List.length_set,hw2.1.1]
        refine ⟨by omega,by omega,by omega,by omega,by omega,⟨hw2.1.2 _,jR _,hm.2 _,hw2.2⟩,by omega,by omega,by omega,?_,by omega⟩
        repeat' first
          | exact trivial
          | rfl
          | omega
          | apply And.intro
      · have hj3:=of_decide_eq_false hj3
        have p1:j3.toNat=m.length:=by omega
        have n3:((m.length:Int)-1).toNat=m.length-1:=by omega
        have hw3:=tw (v:=v) hm.2 h1 (m.length-1)
        have en:(i+1).toNat=i.toNat+1:=by omega
        have hf:v7 m b v (rv a i.toNat) t=((iD m v w (m.length-1)).1.set (m.length-1) (aX (gI (iD m v w (m.length-1)).1 m.length) (iD m v w (m.length-1)).2 0)).set m.length (IntKind.u64.wrap (gI ((iD m v w (m.length-1)).1.set (m.length-1) (aX (gI (iD m v w (m.length-1)).1 m.length) (iD m v w (m.length-1)).2 0)) (m.length+1)+bI (gI (iD m v w (m.length-1)).1 m.length) (iD m v w (m.length-1)).2 0)):=by
          unfold v7 rf
          rw [← ew]
        simp only [p1,n0,n1,n3,dH,ln,eI,List.length_map,List.length_set,hw3.1.1,en,hs,hf]
        refine ⟨by omega,by omega,by omega,⟨hw3.1.2 _,hw3.2,by decide,by decide⟩,by omega,by omega,by omega,by omega,by omega,by omega,by omega,by omega,?_,by omega⟩
        refine ⟨trivial,trivial,trivial,trivial,by omega,by omega,trivial,trivial,trivial,?_⟩
        exact trivial
  · have hi:=of_decide_eq_false hi
    have hn:i.toNat=a.length:=by omega
    rw [hn]
    exact ⟨⟨rfl,rfl,rfl,rfl,rfl⟩,trivial⟩
theorem Xi:af (base.with yO) 246 (ag sG):=am T9 Tryz.func246 (by kernel_rfl) (by kernel_rfl) Tryz.call246 acD VO
theorem Pm:(base.with Fk).Ok:=ae T9 Xi
end Go.Proofs.YteiecapbaeajdaaGreatDoor
namespace Go.Proofs.YteiecapbaeajdaaGreatDoor
open Go Go.Avc Go.Proofs
set_option linter.unusedVariables false
set_option linter.unusedSimpArgs false
def ps (f:Nat→Int):Nat→Int
  | 0=>0
  | n+1=>ps f n+18446744073709551616 ^ n*f n
theorem fj {f g:Nat→Int} :∀ {n},(∀ i,i<n→f i=g i)→ps f n=ps g n
  | 0,_=>rfl
  | n+1,h=>by rw [ps,ps,fj fun i hi=>h i (by omega),h n (by omega)]
theorem lJ (n:Nat):(0:Int)<18446744073709551616 ^ n:=Int.pow_pos (by decide)
theorem fy {f:Nat→Int} :∀ {n},(∀ i,i<n→ak (f i))→0≤ps f n∧ps f n<18446744073709551616 ^ n
  | 0,_=>⟨Int.le_refl 0,by show (0:Int)<1;decide⟩
  | n+1,h=>by
    have ⟨h1,h2⟩:=fy (n:=n) fun i hi=>h i (by omega)
    have ⟨k1,k2⟩:=h n (by omega)
    have hp:=lJ n
    rw [ps,Int.pow_succ]
    have m1:0≤18446744073709551616 ^ n*f n:=Int.mul_nonneg (by omega) k1
    have m2:18446744073709551616 ^ n*f n≤18446744073709551616 ^ n*(18446744073709551616-1):=Int.mul_le_mul_of_nonneg_left (by omega) (by omega)
    omega
theorem rR {a b:List (List CD)} (ha:ce a) (hb:ce b):∀ n,(d6 a b n<0↔ps (rv a) n<ps (rv b) n)∧(d6 a b n=0↔ps (rv a) n=ps (rv b) n)
  | 0=>⟨⟨fun h=>absurd h (by show ¬ (0:Int)<0;decide),fun h=>absurd h (by show ¬ (0:Int)<0;decide)⟩,⟨fun _=>rfl,fun _=>rfl⟩⟩
  | n+1=>by
    have ⟨h1,h2⟩:=rR ha hb n
    have ⟨a1,a2⟩:=fy (n:=n) (f:=rv a) fun i _=>ha i
    have ⟨b1,b2⟩:=fy (n:=n) (f:=rv b) fun i _=>hb i
    have hp:=lJ n
    have key:∀ x y:Int,x<y→18446744073709551616 ^ n*x+18446744073709551616 ^ n≤18446744073709551616 ^ n*y:=fun x y h=>by
      have:=Int.mul_le_mul_of_nonneg_left (show x+1≤y by omega) (show (0:Int)≤18446744073709551616 ^ n by omega)
      rw [Int.mul_add,Int.mul_one] at this
      exact this
    rw [d6,ps,ps]
    unfold mR
    by_cases c1:rv a n<rv b n
    · have:=key _ _ c1
      rw [if_pos c1]
      rw [if_neg (by decide)]
      exact ⟨⟨fun _=>by omega,fun _=>by decide⟩,⟨fun h=>absurd h (by decide),fun h=>by omega⟩⟩
    · rw [if_neg c1]
      by_cases c2:rv b n<rv a n
      · have:=key _ _ c2
        rw [if_pos c2,if_neg (by decide)]
        exact ⟨⟨fun h=>absurd h (by decide),fun h=>by omega⟩,⟨fun h=>absurd h (by decide),fun h=>by omega⟩⟩
      · rw [if_neg c2,if_pos rfl,show rv a n=rv b n from by omega]
        exact ⟨⟨fun h=>by have:=h1.1 h;omega,fun h=>h1.2 (by omega)⟩,⟨fun h=>by have:=h2.1 h;omega,fun h=>h2.2 (by omega)⟩⟩
theorem bN (t:List Int) (i j:Nat) (x:Int):gI (t.set i x) j=if i=j then (if i<t.length then x else 0) else gI t j:=by
  unfold gI
  rw [List.getD_eq_getElem?_getD,List.getElem?_set]
  split
  · split <;>rfl
  · rw [← List.getD_eq_getElem?_getD]
theorem HO {a b:List (List CD)} (ha:ce a) (hb:ce b):∀ i,i≤bZ a b→ps (gI (cy a b i).1) i=ps (rv a) i-ps (rv b) i+18446744073709551616 ^ i*(cy a b i).2
  | 0,_=>rfl
  | i+1,h=>by
    have ih:=HO ha hb i (by omega)
    have hc:=MP a b i
    have hl:=ni a b i
    have he:=tZ (ha i) (hb i) hc
    rw [ps,ps,ps,cy]
    dsimp only
    rw [fj (f:=gI ((cy a b i).1.set i _)) (g:=gI (cy a b i).1) fun j hj=>by rw [bN,if_neg (by omega)],ih,bN,if_pos rfl,if_pos (by omega),he,Int.pow_succ]
    grind
theorem kJ (L:List Int):rv (L.map ac)=gI L:=by funext i;exact cA L i
theorem CT {m a:List (List CD)} {c V:Int} (ha:ce a) (hm:ce m) (hl:a.length=m.length) (hV:V=ps (rv a) m.length+18446744073709551616 ^ m.length*c) (h0:0≤c) (h2:V<2*ps (rv m) m.length):
    ps (rv (jf m a c)) m.length=V%ps (rv m) m.length:=by
  have ⟨a1,a2⟩:=fy (n:=m.length) (f:=rv a) fun i _=>ha i
  have ⟨b1,b2⟩:=fy (n:=m.length) (f:=rv m) fun i _=>hm i
  have hmx:bZ a m=m.length:=by unfold bZ;omega
  have ⟨k1,_⟩:=rR ha hm m.length
  unfold jf
  rw [hmx]
  by_cases hc:c=0∧d6 a m m.length<0
  · rw [if_pos hc]
    have:=k1.1 hc.2
    rw [hc.1,Int.mul_zero,Int.add_zero] at hV
    rw [hV,Int.emod_eq_of_lt a1 this]
  · rw [if_neg hc]
    have hge:ps (rv m) m.length≤V:=by
      by_cases e:c=0
      · have:¬ d6 a m m.length<0:=fun h=>hc ⟨e,h⟩
        rw [k1] at this
        rw [hV,e];omega
      · have:=Int.mul_le_mul_of_nonneg_left (show 1≤c by omega) (show (0:Int)≤18446744073709551616 ^ m.length by have:=lJ m.length;omega)
        omega
    have h3:=HO ha hm m.length (by omega)
    have hw:=GZ a m m.length
    have ⟨r1,r2⟩:=fy (n:=m.length) (f:=gI (cy a m m.length).1) fun i _=>hw i
    rw [kJ]
    have hd:0≤V-ps (rv m) m.length∧V-ps (rv m) m.length<ps (rv m) m.length:=by omega
    have he:V%ps (rv m) m.length=V-ps (rv m) m.length:=by
      have:V=V-ps (rv m) m.length+ps (rv m) m.length*1:=by omega
      rw [this,Int.add_mul_emod_self_left,Int.emod_eq_of_lt hd.1 hd.2]
      omega
    rw [he]
    have hx:ps (gI (cy a m m.length).1) m.length-(V-ps (rv m) m.length)=18446744073709551616 ^ m.length*((cy a m m.length).2-c):=by rw [h3,hV];grind
    have hp:=lJ m.length
    have hz:(cy a m m.length).2-c=0:=by
      rcases Int.lt_trichotomy ((cy a m m.length).2-c) 0 with h | h | h
      · have:=Int.mul_le_mul_of_nonneg_left (show (cy a m m.length).2-c≤-1 by omega) (show (0:Int)≤18446744073709551616 ^ m.length by omega)
        omega
      · exact h
      · have:=Int.mul_le_mul_of_nonneg_left (show 1≤(cy a m m.length).2-c by omega) (show (0:Int)≤18446744073709551616 ^ m.length by omega)
        omega
    rw [hz,Int.mul_zero] at hx
    omega
theorem zA {x:Int} {b:List (List CD)} {t:List Int} :∀ (j i:Nat),j≤i→gI (bY x b t j).1 i=gI t i
  | 0,_,_=>rfl
  | j+1,i,h=>by rw [bY];dsimp only;rw [bN,if_neg (by omega),zA j i (by omega)]
theorem u7 {x:Int} {b:List (List CD)} {t:List Int} :∀ j,(bY x b t j).1.length=t.length
  | 0=>rfl
  | j+1=>by rw [bY];dsimp only;rw [List.length_set,u7 j]
theorem Dh {x:Int} {b:List (List CD)} {t:List Int} :∀ j,j≤t.length→ps (gI (bY x b t j).1) j+18446744073709551616 ^ j*(bY x b t j).2=ps (gI t) j+x*ps (rv b) j
  | 0,_=>by simp [bY,ps]
  | j+1,h=>by
    have ih:=Dh (x:=x) (b:=b) (t:=t) j (by omega)
    have he:=i8 (gI (bY x b t j).1 j) x (rv b j) (bY x b t j).2
    have hh:=zA (x:=x) (b:=b) (t:=t) j j (Nat.le_refl j)
    rw [ps,ps,ps,bY]
    dsimp only
    rw [fj (f:=gI ((bY x b t j).1.set j _)) (g:=gI (bY x b t j).1) fun i hi=>by rw [bN,if_neg (by omega)],bN,if_pos rfl,if_pos (by rw [u7];omega),Int.pow_succ]
    rw [hh] at he ⊢
    generalize cU (gI t j) x (rv b j) (bY x b t j).2=lo at *
    generalize bS (gI t j) x (rv b j) (bY x b t j).2=hi at *
    generalize (18446744073709551616:Int) ^ j=w at *
    grind
theorem ue {k c:Int} {m:List (List CD)} {t:List Int} :∀ (j i:Nat),j≤i→gI (gV k m t c j).1 i=gI t i
  | 0,_,_=>rfl
  | j+1,i,h=>by rw [gV];dsimp only;rw [bN,if_neg (by omega),ue j i (by omega)]
theorem uF {k c:Int} {m:List (List CD)} {t:List Int} :∀ j,(gV k m t c j).1.length=t.length
  | 0=>rfl
  | j+1=>by rw [gV];dsimp only;rw [List.length_set,uF j]
theorem DI {k c:Int} {m:List (List CD)} {t:List Int} (hc:18446744073709551616*c=gI t 0+k*rv m 0):∀ j,j<t.length→18446744073709551616*(ps (gI (gV k m t c j).1) j+18446744073709551616 ^ j*(gV k m t c j).2)=ps (gI t) (j+1)+k*ps (rv m) (j+1)
  | 0,_=>by
    show 18446744073709551616*(0+1*c)=0+1*gI t 0+k*(0+1*rv m 0)
    grind
  | j+1,h=>by
    have ih:=DI hc j (by omega)
    have hh:=ue (k:=k) (c:=c) (m:=m) (t:=t) j (j+1) (by omega)
    have he:=i8 (gI (gV k m t c j).1 (j+1)) k (rv m (j+1)) (gV k m t c j).2
    have e1:ps (gI t) (j+1+1)=ps (gI t) (j+1)+18446744073709551616 ^ (j+1)*gI t (j+1):=rfl
    have e2:ps (rv m) (j+1+1)=ps (rv m) (j+1)+18446744073709551616 ^ (j+1)*rv m (j+1):=rfl
    rw [e1,e2,ps,gV]
    dsimp only
    rw [fj (f:=gI ((gV k m t c j).1.set j _)) (g:=gI (gV k m t c j).1) fun i hi=>by rw [bN,if_neg (by omega)],bN,if_pos rfl,if_pos (by rw [uF];omega),Int.pow_succ]
    rw [hh] at he ⊢
    generalize cU (gI t (j+1)) k (rv m (j+1)) (gV k m t c j).2=lo at *
    generalize bS (gI t (j+1)) k (rv m (j+1)) (gV k m t c j).2=hi at *
    generalize (18446744073709551616:Int) ^ j=w at *
    grind
theorem NH {m b:List (List CD)} {v x:Int} {t:List Int} (hx:ak x) (hb:ce b) (hm:ce m) (ht:wl (m.length+2) t) (hv:(rv m 0*v+1)%18446744073709551616=0) (h2:2≤m.length)
    (hV:ps (gI t) (m.length+1)<ps (rv b) m.length+ps (rv m) m.length):
    ∃ k,ak k∧18446744073709551616*ps (gI (v7 m b v x t)) (m.length+1)=ps (gI t) (m.length+1)+x*ps (rv b) m.length+k*ps (rv m) m.length:=by
  obtain ⟨n,hn⟩:∃ n,m.length=n+1:=⟨m.length-1,by omega⟩
  have hM:=tT (k:=m.length+2) hx hb ht m.length
  have hu:=AO (n:=m.length) hM
  have v1:=Dh (x:=x) (b:=b) (t:=t) m.length (by rw [ht.1];omega)
  have hi1:=zA (x:=x) (b:=b) (t:=t) m.length m.length (Nat.le_refl _)
  have hlen:=u7 (x:=x) (b:=b) (t:=t) m.length
  unfold v7
  obtain ⟨u,eu⟩:∃ u,u=ky m.length (bY x b t m.length):=⟨_,rfl⟩
  have un:gI u m.length=aX (gI t m.length) (bY x b t m.length).2 0:=by
    rw [eu,ky,bN,if_neg (by omega),bN,if_pos rfl,if_pos (by rw [hlen,ht.1];omega),hi1]
  have un1:gI u (m.length+1)=bI (gI t m.length) (bY x b t m.length).2 0:=by
    rw [eu,ky,bN,if_pos rfl,if_pos (by rw [List.length_set,hlen,ht.1];omega),hi1]
  have ul:ps (gI u) m.length=ps (gI (bY x b t m.length).1) m.length:=fj fun i hi=>by rw [eu,ky,bN,if_neg (by omega),bN,if_neg (by omega)]
  have had:=qL (x:=gI t m.length) (y:=(bY x b t m.length).2) (c:=0)
  rw [← un,← un1] at had
  rw [← eu] at hu ⊢
  have vt:ps (gI t) (m.length+1)=ps (gI t) m.length+18446744073709551616 ^ m.length*gI t m.length:=rfl
  have hk:=jR (gI u 0*v)
  refine ⟨ju v u,hk,?_⟩
  have hc:18446744073709551616*bS (gI u 0) (ju v u) (rv m 0) 0=gI u 0+ju v u*rv m 0:=by
    have he:=i8 (gI u 0) (ju v u) (rv m 0) 0
    have hz:cU (gI u 0) (ju v u) (rv m 0) 0=0:=by
      show (gI u 0+ju v u*rv m 0+0)%18446744073709551616=0
      unfold ju
      rw [eY,Int.add_zero,Int.add_emod,Int.mul_emod,Int.emod_emod,← Int.mul_emod,← Int.add_emod]
      rw [show gI u 0+gI u 0*v*rv m 0=gI u 0*(rv m 0*v+1) from by grind,Int.mul_emod,hv,Int.mul_zero];rfl
    rw [hz] at he
    omega
  have v2:=DI (k:=ju v u) (m:=m) (t:=u) hc n (by rw [hu.1];omega)
  have hR:=tw (v:=v) hm hu (m.length-1)
  have hh1:=ue (k:=ju v u) (c:=bS (gI u 0) (ju v u) (rv m 0) 0) (m:=m) (t:=u) n m.length (by omega)
  have hh2:=ue (k:=ju v u) (c:=bS (gI u 0) (ju v u) (rv m 0) 0) (m:=m) (t:=u) n (m.length+1) (by omega)
  have hl2:=uF (k:=ju v u) (c:=bS (gI u 0) (ju v u) (rv m 0) 0) (m:=m) (t:=u) n
  have en:m.length-1=n:=by omega
  rw [en] at hR ⊢
  obtain ⟨r,er⟩:∃ r,r=iD m v u n:=⟨_,rfl⟩
  have er':gV (ju v u) m u (bS (gI u 0) (ju v u) (rv m 0) 0) n=r:=by rw [er];rfl
  rw [er'] at v2 hh1 hh2 hl2
  rw [← er] at hR ⊢
  have hadu:0≤bI (gI r.1 m.length) r.2 0∧bI (gI r.1 m.length) r.2 0≤1:=xl (hR.1.2 _) hR.2 ⟨by decide,by decide⟩
  have hadv:0≤gI u (m.length+1)∧gI u (m.length+1)≤1:=by rw [un1];exact xl (ht.2 _) hM.2 ⟨by decide,by decide⟩
  have had2:=qL (x:=gI r.1 m.length) (y:=r.2) (c:=0)
  have g1:gI (rf m.length r) m.length=gI u (m.length+1)+bI (gI r.1 m.length) r.2 0:=by
    unfold rf
    rw [bN,if_pos rfl,if_pos (by rw [List.length_set,hl2,hu.1];omega),bN,if_neg (by omega),hh2]
    exact cE ⟨by omega,by omega⟩
  have g2:gI (rf m.length r) n=aX (gI r.1 m.length) r.2 0:=by
    unfold rf
    rw [bN,if_neg (by omega),bN,en,if_pos rfl,if_pos (by rw [hl2,hu.1];omega)]
  have g3:ps (gI (rf m.length r)) n=ps (gI r.1) n:=fj fun i hi=>by unfold rf;rw [bN,if_neg (by omega),bN,if_neg (by omega)]
  have hps:∀ F:Nat→Int,ps F m.length=ps F n+18446744073709551616 ^ n*F n:=fun F=>by rw [hn];rfl
  have w0:(18446744073709551616:Int) ^ m.length=18446744073709551616 ^ (n+1):=by rw [hn]
  have gs:ps (gI (rf m.length r)) (m.length+1)=ps (gI r.1) n+18446744073709551616 ^ n*aX (gI r.1 m.length) r.2 0+18446744073709551616 ^ (n+1)*(gI u (m.length+1)+bI (gI r.1 m.length) r.2 0):=by
    rw [ps,g1,hps,g3,g2,w0]
  rw [gs,vt]
  rw [hh1] at had2 ⊢
  rw [hn] at v1 ul had had2 un un1 ⊢
  have w1:(18446744073709551616:Int) ^ (n+1)=18446744073709551616 ^ n*18446744073709551616:=Int.pow_succ ..
  rw [w1] at v1 ⊢
  rw [ul] at v2
  generalize (18446744073709551616:Int) ^ n=w at *
  generalize aX (gI u (n+1)) r.2 0=s at *
  generalize bI (gI u (n+1)) r.2 0=d at *
  generalize ps (gI (bY x b t (n+1)).1) (n+1)=p at *
  generalize (bY x b t (n+1)).2=c at *
  clear hv hc un un1
  grind
end Go.Proofs.YteiecapbaeajdaaGreatDoor
namespace Go.Proofs.YteiecapbaeajdaaGreatDoor
open Go Go.Avc Go.Proofs
set_option linter.unusedVariables false
set_option linter.unusedSimpArgs false
set_option maxRecDepth 10000
theorem DC {m b a:List (List CD)} {v:Int} (ha:ce a) (hb:ce b) (hm:ce m) (hv:(rv m 0*v+1)%18446744073709551616=0) (h2:2≤m.length) (hM:0<ps (rv m) m.length):
    ∀ i,ps (gI (dE m b v a i)) (m.length+1)<ps (rv b) m.length+ps (rv m) m.length∧
      ∃ k:Int,18446744073709551616 ^ i*ps (gI (dE m b v a i)) (m.length+1)=ps (rv a) i*ps (rv b) m.length+k*ps (rv m) m.length
  | 0=>by
    have e:ps (gI (dE m b v a 0)) (m.length+1)=0:=by
      have:∀ n,ps (gI (List.replicate (m.length+2) 0)) n=0:=fun n=>by
        induction n with
        | zero=>rfl
        | succ n ih=>
          rw [ps,ih]
          have:gI (List.replicate (m.length+2) 0) n=0:=by
            unfold gI
            rw [List.getD_eq_getElem?_getD,List.getElem?_replicate]
            split <;>rfl
          rw [this,Int.mul_zero];rfl
      exact this _
    rw [e]
    have hB:=fy (n:=m.length) (f:=rv b) fun i _=>hb i
    exact ⟨by omega,0,by simp [ps]⟩
  | i+1=>by
    have ⟨h1,k1,h3⟩:=DC ha hb hm hv h2 hM i
    obtain ⟨k,hk,hs⟩:=NH (ha i) hb hm (qd (v:=v) ha hb hm i) hv h2 h1
    have es:dE m b v a (i+1)=v7 m b v (rv a i) (dE m b v a i):=rfl
    rw [es]
    have hB:=(fy (n:=m.length) (f:=rv b) fun i _=>hb i).1
    have hx:=ha i
    have m1:rv a i*ps (rv b) m.length≤18446744073709551615*ps (rv b) m.length:=Int.mul_le_mul_of_nonneg_right (by have:=hx.2;omega) hB
    have m2:k*ps (rv m) m.length≤18446744073709551615*ps (rv m) m.length:=Int.mul_le_mul_of_nonneg_right (by have:=hk.2;omega) (by omega)
    refine ⟨by omega,k1+18446744073709551616 ^ i*k,?_⟩
    have ea:ps (rv a) (i+1)=ps (rv a) i+18446744073709551616 ^ i*rv a i:=rfl
    rw [ea,Int.pow_succ]
    generalize ps (gI (v7 m b v (rv a i) (dE m b v a i))) (m.length+1)=y at *
    generalize ps (gI (dE m b v a i)) (m.length+1)=z at *
    generalize (18446744073709551616:Int) ^ i=w at *
    have:w*18446744073709551616*y=w*(18446744073709551616*y):=by grind
    rw [this,hs]
    grind
theorem vj {m b a:List (List CD)} {v:Int} (hp:js a b m v) (hv:(rv m 0*v+1)%18446744073709551616=0) (hM:0<ps (rv m) m.length) (hB:ps (rv b) m.length≤ps (rv m) m.length):
    (0≤ps (rv (cR m b v a)) m.length∧ps (rv (cR m b v a)) m.length<ps (rv m) m.length)∧
      ∃ k:Int,18446744073709551616 ^ a.length*ps (rv (cR m b v a)) m.length=ps (rv a) a.length*ps (rv b) m.length+k*ps (rv m) m.length:=by
  obtain ⟨ha,hb,hm,_,_,h2⟩:=hp
  have ⟨h1,k,h3⟩:=DC ha.2 hb.2 hm.2 hv h2 hM a.length
  have hT:wl (m.length+2) (ka m b v a):=qd (v:=v) ha.2 hb.2 hm.2 a.length
  have hk:=vK (k:=m.length) hT (by omega)
  have e:ps (rv (cR m b v a)) m.length=ps (gI (ka m b v a)) (m.length+1)%ps (rv m) m.length:=by
    unfold cR
    refine CT (V:=ps (gI (ka m b v a)) (m.length+1)) (fun j=>by rw [eI];exact hk.2 j) hm.2 (by rw [List.length_map,hk.1]) ?_ (hT.2 _).1 ?_
    · rw [ps,kJ]
      congr 1
      refine fj fun i hi=> ?_
      unfold gI
      rw [List.getD_eq_getElem?_getD,List.getD_eq_getElem?_getD,List.getElem?_take_of_lt hi]
    · show ps (gI (dE m b v a a.length)) (m.length+1)<_
      omega
  rw [e]
  refine ⟨⟨Int.emod_nonneg _ (by omega),Int.emod_lt_of_pos _ hM⟩,k-18446744073709551616 ^ a.length*(ps (gI (ka m b v a)) (m.length+1) / ps (rv m) m.length),?_⟩
  have hd:=Int.emod_add_mul_ediv (ps (gI (ka m b v a)) (m.length+1)) (ps (rv m) m.length)
  have h3:18446744073709551616 ^ a.length*ps (gI (ka m b v a)) (m.length+1)=ps (rv a) a.length*ps (rv b) m.length+k*ps (rv m) m.length:=h3
  generalize ps (gI (ka m b v a)) (m.length+1)%ps (rv m) m.length=r at *
  generalize ps (gI (ka m b v a)) (m.length+1) / ps (rv m) m.length=d at *
  generalize ps (gI (ka m b v a)) (m.length+1)=y at *
  generalize (18446744073709551616:Int) ^ a.length=w at *
  rw [← hd] at h3
  grind
theorem Oz {a c:Int} (ha:ak a) (hc:c=0∨c=1):dQ .u64 (cn .u64 a 1) c=(2*a+c)%18446744073709551616:=by
  obtain ⟨n,rfl⟩:∃ n:Nat,a=n:=⟨a.toNat,by have:=ha.1;omega⟩
  obtain ⟨d,rfl⟩:∃ d:Nat,c=d:=⟨c.toNat,by omega⟩
  have h1:=Fq n 1 (by decide)
  rw [show ((1:Nat):Int)=1 from rfl] at h1
  rw [h1,Nat.pow_one]
  obtain ⟨y,hy⟩:∃ y,n*2%18446744073709551616=2*y:=⟨n*2%18446744073709551616 / 2,by omega⟩
  rw [hy]
  unfold dQ
  have hlt:2*y<18446744073709551616:=by rw [← hy];exact Nat.mod_lt _ (by decide)
  have e1:BitVec.ofInt IntKind.u64.bits ((2*y:Nat):Int)=BitVec.ofNat 64 (2*y):=BitVec.ofInt_natCast ..
  have e2:BitVec.ofInt IntKind.u64.bits (d:Int)=BitVec.ofNat 64 d:=BitVec.ofInt_natCast ..
  rw [e1,e2]
  have e3:(BitVec.ofNat 64 (2*y) |||BitVec.ofNat 64 d).toNat=2*y+d:=by
    have hd2:d<2 ^ 64:=Nat.lt_trans (show d<2 by omega) (by decide)
    rw [BitVec.toNat_or,BitVec.toNat_ofNat,BitVec.toNat_ofNat,Nat.mod_eq_of_lt (show 2*y<2 ^ 64 from hlt),Nat.mod_eq_of_lt hd2]
    have:=Nat.two_pow_add_eq_or_of_lt (i:=1) (b:=d) (by omega) y
    rw [Nat.pow_one] at this
    exact this.symm
  show IntKind.u64.wrap (((BitVec.ofNat 64 (2*y) |||BitVec.ofNat 64 d).toNat:Nat):Int)=_
  rw [e3,eY]
  omega
theorem IB {a:List (List CD)} {c:Int} (ha:ce a) (hc:c=0∨c=1):∀ i,i≤a.length→((de a c i).2=0∨(de a c i).2=1)∧ps (gI (de a c i).1) i+18446744073709551616 ^ i*(de a c i).2=2*ps (rv a) i+c
  | 0,_=>⟨hc,by simp [de,ps]⟩
  | i+1,h=>by
    have ⟨h1,ih⟩:=IB ha hc i (by omega)
    have hw:=ha i
    have hl:=kY a c i
    rw [ps,ps,de]
    dsimp only
    rw [fj (f:=gI ((de a c i).1.set i _)) (g:=gI (de a c i).1) fun j hj=>by rw [bN,if_neg (by omega)],bN,if_pos rfl,if_pos (by omega),Oz hw h1]
    have e:aw .u64 (rv a i) 63=rv a i / 9223372036854775808:=by
      have:=Bb (rv a i) 63 (by decide)
      exact this
    rw [e,Int.pow_succ]
    have hw1:=hw.1
    have hw2:=hw.2
    have hd:(2*rv a i+(de a c i).2)%18446744073709551616+18446744073709551616*(rv a i / 9223372036854775808)=2*rv a i+(de a c i).2:=by omega
    refine ⟨by omega,?_⟩
    generalize (2*rv a i+(de a c i).2)%18446744073709551616=lo at *
    generalize rv a i / 9223372036854775808=hi at *
    generalize (18446744073709551616:Int) ^ i=w at *
    grind
theorem CZ {m a:List (List CD)} {c:Int} (ha:ce a) (hm:ce m) (hl:a.length=m.length) (hc:c=0∨c=1) (h:ps (rv a) m.length<ps (rv m) m.length):
    ps (rv (rc m a c)) m.length=(2*ps (rv a) m.length+c)%ps (rv m) m.length:=by
  have ⟨h1,h2⟩:=IB ha hc a.length (Nat.le_refl _)
  unfold rc
  refine CT (V:=2*ps (rv a) m.length+c) (fun j=>by rw [eI];exact yR a c _ j) hm (by rw [List.length_map,kY,hl]) ?_ (by omega) (by omega)
  rw [kJ,← hl,← h2]
theorem Da {m:List (List CD)} (hm:aG m) (h0:0<m.length) (hM:1<ps (rv m) m.length):∀ i,ps (rv (kB m i)) m.length=2 ^ i%ps (rv m) m.length
  | 0=>by
    have e:kB m 0=((List.replicate m.length 0).set 0 1).map ac:=by rw [kB,List.map_set,List.map_replicate];rfl
    rw [e,kJ,Int.pow_zero,Int.emod_eq_of_lt (by omega) hM]
    have:∀ n,0<n→n≤m.length→ps (gI ((List.replicate m.length 0).set 0 1)) n=1:=fun n hn hle=>by
      induction n with
      | zero=>omega
      | succ n ih=>
        by_cases hz:n=0
        · subst hz
          show 0+1*gI _ 0=1
          rw [bN,if_pos rfl,if_pos (by rw [List.length_replicate];omega)];rfl
        · rw [ps,ih (by omega) (by omega),bN,if_neg (by omega)]
          have:gI (List.replicate m.length 0) n=0:=by
            unfold gI
            rw [List.getD_eq_getElem?_getD,List.getElem?_replicate]
            split <;>rfl
          rw [this,Int.mul_zero];rfl
    exact this _ h0 (Nat.le_refl _)
  | i+1=>by
    have h1:=tB hm h0 i
    have h2:=uO m i
    have ih:=Da hm h0 hM i
    rw [kB,CZ h1.2 hm.2 h2 (.inl rfl) (by rw [ih];exact Int.emod_lt_of_pos _ (by omega)),ih,Int.add_zero,Int.pow_succ,Int.mul_comm (2 ^ i)]
    rw [Int.mul_emod,Int.emod_emod,← Int.mul_emod]
end Go.Proofs.YteiecapbaeajdaaGreatDoor
namespace Go.Proofs.YteiecapbaeajdaaGreatDoor
open Go Go.Avc Go.Proofs
set_option linter.unusedVariables false
set_option linter.unusedSimpArgs false
set_option maxRecDepth 10000
theorem Nc {x:Int} (hx:ak x):bU .u64 x 1=x%2:=by
  obtain ⟨n,rfl⟩:∃ n:Nat,x=n:=⟨x.toNat,by have:=hx.1;omega⟩
  have hn:n<2 ^ 64:=by have:=hx.2;omega
  unfold bU
  have e1:BitVec.ofInt IntKind.u64.bits ((n:Nat):Int)=BitVec.ofNat 64 n:=BitVec.ofInt_natCast ..
  have e2:BitVec.ofInt IntKind.u64.bits 1=BitVec.ofNat 64 1:=BitVec.ofInt_natCast (w:=64) (n:=1)
  rw [e1,e2]
  have e3:(BitVec.ofNat 64 n &&&BitVec.ofNat 64 1).toNat=n%2:=by
    rw [BitVec.toNat_and,BitVec.toNat_ofNat,BitVec.toNat_ofNat,Nat.mod_eq_of_lt hn]
    exact Nat.and_one_is_mod n
  show IntKind.u64.wrap (((BitVec.ofNat 64 n &&&BitVec.ofNat 64 1).toNat:Nat):Int)=_
  rw [e3,eY]
  omega
theorem Bd {f:Nat→Int} (j:Nat):∀ n,j<n→∃ q:Int,ps f n=ps f j+18446744073709551616 ^ j*(f j+18446744073709551616*q)
  | n+1,h=>by
    by_cases e:j=n
    · subst e
      exact ⟨0,by rw [ps,Int.mul_zero,Int.add_zero]⟩
    · obtain ⟨q,hq⟩:=Bd j n (by omega)
      obtain ⟨d,rfl⟩:∃ d,n=j+1+d:=⟨n-(j+1),by omega⟩
      refine ⟨q+18446744073709551616 ^ d*f (j+1+d),?_⟩
      rw [ps,hq,Int.pow_add,Int.pow_succ]
      grind
theorem UE {f:Nat→Int} {n:Nat} (hf:∀ i,ak (f i)) {j s:Nat} (hj:j<n) (hs:s<64):(f j / 2 ^ s)%2=(ps f n / 2 ^ (64*j+s))%2:=by
  obtain ⟨q,hq⟩:=Bd (f:=f) j n hj
  have ⟨h1,h2⟩:=fy (n:=j) (f:=f) fun i _=>hf i
  have hp:=lJ j
  have e1:(2:Int) ^ (64*j+s)=18446744073709551616 ^ j*2 ^ s:=by rw [Int.pow_add,Int.pow_mul];rfl
  have e2:ps f n / 18446744073709551616 ^ j=f j+18446744073709551616*q:=by
    rw [hq,Int.add_mul_ediv_left _ _ (by omega),Int.ediv_eq_zero_of_lt h1 h2,Int.zero_add]
  rw [e1,← Int.ediv_ediv_of_nonneg (by omega),e2]
  obtain ⟨d,hd⟩:∃ d,64=s+1+d:=⟨63-s,by omega⟩
  have e3:(18446744073709551616:Int)=2 ^ s*(2*2 ^ d):=by
    rw [show (18446744073709551616:Int)=2 ^ 64 from rfl,hd,Int.pow_add,Int.pow_succ];grind
  have j7:(0:Int)<2 ^ s:=Int.pow_pos (by decide)
  rw [e3,show f j+2 ^ s*(2*2 ^ d)*q=f j+2 ^ s*(2*(2 ^ d*q)) from by grind,Int.add_mul_ediv_left _ _ (by omega)]
  omega
theorem GK {a:List (List CD)} (ha:ce a):∀ n,ps (rv a) n<2 ^ (bd a n).toNat
  | 0=>by show (0:Int)<1;decide
  | n+1=>by
    have ih:=GK ha n
    have ⟨h1,h2⟩:=fy (n:=n) (f:=rv a) fun i _=>ha i
    rw [ps,bd]
    by_cases e:rv a n=0
    · rw [if_pos e,e,Int.mul_zero,Int.add_zero];exact ih
    · rw [if_neg e]
      have hw:=ha n
      have hb:=A9 hw
      have hl:rv a n<2 ^ (bW (rv a n)).toNat:=by
        obtain ⟨k,hk⟩:∃ k:Nat,rv a n=k:=⟨(rv a n).toNat,by have:=hw.1;omega⟩
        rw [hk]
        unfold bW
        rw [Int.toNat_natCast,Int.toNat_natCast]
        have:=(bitLen_spec k).1
        exact_mod_cast this
      have hp:=lJ n
      have e1:(2:Int) ^ (64*(n:Int)+bW (rv a n)).toNat=18446744073709551616 ^ n*2 ^ (bW (rv a n)).toNat:=by
        rw [show (64*(n:Int)+bW (rv a n)).toNat=64*n+(bW (rv a n)).toNat from by omega,Int.pow_add,Int.pow_mul];rfl
      rw [e1]
      have:=Int.mul_le_mul_of_nonneg_left (show rv a n+1≤2 ^ (bW (rv a n)).toNat by omega) (show (0:Int)≤18446744073709551616 ^ n by omega)
      rw [Int.mul_add,Int.mul_one] at this
      omega
theorem HX {a:List (List CD)} (ha:ce a) {t:Nat} (ht:t<64*a.length):bU .u64 (aw .u64 (rv a (t / 64)) ((t%64:Nat):Int)) 1=ps (rv a) a.length / 2 ^ t%2:=by
  have hw:=ha (t / 64)
  have hs:t%64<64:=Nat.mod_lt _ (by decide)
  rw [Bb _ _ (by omega)]
  have hp:(0:Int)<2 ^ (t%64):=Int.pow_pos (by decide)
  have hr:ak (rv a (t / 64) / 2 ^ (t%64)):=⟨Int.ediv_nonneg hw.1 (by omega),Int.lt_of_le_of_lt (Int.ediv_le_self _ hw.1) hw.2⟩
  rw [Nc hr,UE (f:=rv a) (n:=a.length) ha (show t / 64<a.length by omega) hs]
  congr 2
  rw [Nat.div_add_mod]
theorem Js (x:Int) (t:Nat):x / 2 ^ t=2*(x / 2 ^ (t+1))+x / 2 ^ t%2:=by
  have hp:(0:Int)<2 ^ t:=Int.pow_pos (by decide)
  rw [Int.pow_succ,← Int.ediv_ediv_of_nonneg (by omega)]
  omega
theorem DG {m a:List (List CD)} (hm:aG m) (ha:aG a) (h0:0<m.length) (hM:1<ps (rv m) m.length) {k:Nat} (hk:k≤64*a.length) (hlt:ps (rv a) a.length<2 ^ k):∀ i,i≤k→
    aG (j9 m a k i)∧(j9 m a k i).length=m.length∧ps (rv (j9 m a k i)) m.length=(ps (rv a) a.length / 2 ^ (k-i))%ps (rv m) m.length
  | 0,_=>by
    have h1:=(fy (n:=a.length) (f:=rv a) fun i _=>ha.2 i).1
    have e:j9 m a k 0=(List.replicate m.length 0).map ac:=by rw [j9,List.map_replicate];rfl
    have hw:=zu m.length
    refine ⟨?_,by rw [j9,List.length_replicate],?_⟩
    · rw [e]
      exact ⟨by rw [List.length_map,hw.1];exact hm.1,fun j=>by rw [eI];exact hw.2 j⟩
    · rw [Nat.sub_zero,Int.ediv_eq_zero_of_lt h1 hlt,Int.zero_emod,e,kJ]
      have:∀ n,ps (gI (List.replicate m.length 0)) n=0:=fun n=>by
        induction n with
        | zero=>rfl
        | succ n ih=>
          rw [ps,ih]
          have:gI (List.replicate m.length 0) n=0:=by
            unfold gI
            rw [List.getD_eq_getElem?_getD,List.getElem?_replicate]
            split <;>rfl
          rw [this,Int.mul_zero];rfl
      exact this _
  | i+1,h=>by
    have ⟨h1,h2,h3⟩:=DG hm ha h0 hM hk hlt i (by omega)
    have hb:=HX ha.2 (t:=k-1-i) (by omega)
    have e1:k-i=k-1-i+1:=by omega
    have e2:k-(i+1)=k-1-i:=by omega
    have hbit:ps (rv a) a.length / 2 ^ (k-1-i)%2=0∨ps (rv a) a.length / 2 ^ (k-1-i)%2=1:=by omega
    rw [j9,hb]
    refine ⟨zJ h1 hm _,u6 h2 _,?_⟩
    rw [CZ h1.2 hm.2 h2 hbit (by rw [h3];exact Int.emod_lt_of_pos _ (by omega)),h3,e1,e2]
    have hh:=Js (ps (rv a) a.length) (k-1-i)
    generalize ps (rv a) a.length / 2 ^ (k-1-i+1)=y at hh ⊢
    generalize ps (rv a) a.length / 2 ^ (k-1-i)=x at hh ⊢
    rw [hh]
    rw [← hh,Int.add_emod,Int.mul_emod,Int.emod_emod,← Int.mul_emod,← Int.add_emod,← hh]
theorem qI {m a:List (List CD)} (hm:aG m) (ha:aG a) (h0:0<m.length) (hM:1<ps (rv m) m.length):aG (cw m a)∧(cw m a).length=m.length∧ps (rv (cw m a)) m.length=ps (rv a) a.length%ps (rv m) m.length:=by
  have hb:=ut ha.2 a.length
  have h:=DG hm ha h0 hM (k:=(bd a a.length).toNat) (by omega) (GK ha.2 a.length) _ (Nat.le_refl _)
  rw [Nat.sub_self,Int.pow_zero,Int.ediv_one] at h
  unfold cw
  rw [aR]
  exact h
def rp (m x:List (List CD)) (X:Int):Prop:=aG x∧x.length=m.length∧(0≤ps (rv x) m.length∧ps (rv x) m.length<ps (rv m) m.length)∧ps (rv m) m.length∣ps (rv x) m.length-X*18446744073709551616 ^ m.length
structure mdl (m:List (List CD)) (v:Int):Prop where
  ok:aG m
  vw:ak v
  inv:(rv m 0*v+1)%18446744073709551616=0
  len:2≤m.length
  one:1<ps (rv m) m.length
  cop:∀ n,Int.gcd (18446744073709551616 ^ n) (ps (rv m) m.length)=1
theorem gg {m b a:List (List CD)} {v:Int} (ha:ce a) (hb:ce b) (hm:aG m):aG (cR m b v a)∧(cR m b v a).length=m.length:=by
  have hT:wl (m.length+2) (ka m b v a):=qd (v:=v) ha hb hm.2 a.length
  have hk:=vK (k:=m.length) hT (by omega)
  unfold cR
  refine ⟨Dk ⟨by rw [List.length_map,hk.1];exact hm.1,fun j=>by rw [eI];exact hk.2 j⟩ hm _,Ad (by rw [List.length_map,hk.1]) _⟩
theorem Ic {m x y:List (List CD)} {v X Y:Int} (hd:mdl m v) (hx:rp m x X) (hy:rp m y Y):rp m (cR m y v x) (X*Y):=by
  obtain ⟨x1,x2,x3,p,hp⟩:=hx
  obtain ⟨y1,y2,y3,q,hq⟩:=hy
  have ⟨k1,k2⟩:=gg (v:=v) x1.2 y1.2 hd.ok
  have ⟨h1,k,h2⟩:=vj (m:=m) (b:=y) (a:=x) (v:=v) ⟨x1,y1,hd.ok,hd.vw,y2,hd.len⟩ hd.inv (by have:=hd.one;omega) (by omega)
  refine ⟨k1,k2,h1,NT.int_cop (x:=18446744073709551616 ^ m.length) ?_ (hd.cop _)⟩
  rw [x2] at h2
  refine ⟨X*18446744073709551616 ^ m.length*q+p*ps (rv y) m.length+k,?_⟩
  generalize (18446744073709551616:Int) ^ m.length=w at *
  rw [Int.mul_sub,h2]
  have e1:ps (rv x) m.length=ps (rv m) m.length*p+X*w:=by omega
  have e2:ps (rv y) m.length=ps (rv m) m.length*q+Y*w:=by omega
  rw [e1,e2]
  grind
theorem ML {m s a:List (List CD)} {v A:Int} (hd:mdl m v) (hs:aG s) (hsl:s.length=m.length) (hsv:ps (rv s) m.length=(18446744073709551616 ^ m.length*18446744073709551616 ^ m.length)%ps (rv m) m.length) (ha:aG a) (hal:a.length=m.length) (hav:ps (rv a) m.length=A):rp m (cR m s v a) A:=by
  have hone:=hd.one
  have ⟨k1,k2⟩:=gg (v:=v) ha.2 hs.2 hd.ok
  have ⟨h1,k,h2⟩:=vj (m:=m) (b:=s) (a:=a) (v:=v) ⟨ha,hs,hd.ok,hd.vw,hsl,hd.len⟩ hd.inv (by omega) (by rw [hsv];exact Int.le_of_lt (Int.emod_lt_of_pos _ (by omega)))
  refine ⟨k1,k2,h1,NT.int_cop (x:=18446744073709551616 ^ m.length) ?_ (hd.cop _)⟩
  rw [hal,hav,hsv] at h2
  have he:=Int.emod_add_mul_ediv (18446744073709551616 ^ m.length*18446744073709551616 ^ m.length) (ps (rv m) m.length)
  generalize (18446744073709551616:Int) ^ m.length=w at *
  refine ⟨k-A*(w*w / ps (rv m) m.length),?_⟩
  generalize w*w / ps (rv m) m.length=d at *
  generalize w*w%ps (rv m) m.length=r at *
  rw [Int.mul_sub,h2]
  have:w*(A*w)=A*(r+ps (rv m) m.length*d):=by rw [he];grind
  rw [this]
  grind
theorem PV {m x o:List (List CD)} {v X:Int} (hd:mdl m v) (hx:rp m x X) (ho:aG o) (hol:o.length=m.length) (hov:ps (rv o) m.length=1):ps (rv (cR m o v x)) m.length=X%ps (rv m) m.length:=by
  obtain ⟨x1,x2,x3,p,hp⟩:=hx
  have hone:=hd.one
  have ⟨h1,k,h2⟩:=vj (m:=m) (b:=o) (a:=x) (v:=v) ⟨x1,ho,hd.ok,hd.vw,hol,hd.len⟩ hd.inv (by omega) (by omega)
  have hdv:ps (rv m) m.length∣ps (rv (cR m o v x)) m.length-X:=by
    refine NT.int_cop (x:=18446744073709551616 ^ m.length) ?_ (hd.cop _)
    rw [x2,hov] at h2
    refine ⟨p+k,?_⟩
    generalize (18446744073709551616:Int) ^ m.length=w at *
    rw [Int.mul_sub,h2]
    have e1:ps (rv x) m.length=ps (rv m) m.length*p+X*w:=by omega
    rw [e1]
    grind
  have:=Int.emod_emod_of_dvd X (Int.dvd_refl (ps (rv m) m.length))
  have e:=Int.emod_eq_emod_iff_emod_sub_eq_zero.2 (Int.emod_eq_zero_of_dvd hdv)
  rw [← e,Int.emod_eq_of_lt h1.1 h1.2]
end Go.Proofs.YteiecapbaeajdaaGreatDoor
namespace Go.Proofs.YteiecapbaeajdaaGreatDoor
open Go Go.Avc
set_option linter.unusedVariables false
def fO (m:List (List CD)):List (List CD):=((List.replicate m.length 0).set 0 1).map ac
def sO (e:List (List CD)) (t:Nat):Bool:=decide (bU .u64 (aw .u64 (rv e (t / 64)) ((t%64:Nat):Int)) 1=1)
def oT (m:List (List CD)) (v:Int) (one base e:List (List CD)) (k:Nat):Nat→List (List CD)
  | 0=>one
  | i+1=>bif sO e (k-1-i) then cR m base v (cR m (oT m v one base e k i) v (oT m v one base e k i)) else cR m (oT m v one base e k i) v (oT m v one base e k i)
noncomputable def iL (m q a e:List (List CD)) (v:Int) (i:Nat):List (List CD):=hid (oT m v (cR m q v (fO m)) (cR m q v (cw m a)) e (bd e e.length).toNat i)
noncomputable def fD (m q a e:List (List CD)) (v:Int):List (List CD):=hid (cR m (fO m) v (iL m q a e v (bd e e.length).toNat))
def ic (a e m q:List (List CD)) (v:Int):Prop:=aG a∧aG e∧mdl m v∧aG q∧q.length=m.length
noncomputable def FG:Ct:= {ps:= [.ptr 0 0,aI,aI],bs:= [qM],pre:=fun | [.r a,.r e,.r m,.i v,.r q] =>ic a e m q v | _=>False,res:=fun | [.r a,.r e,.r m,.i v,.r q] => .ret aI [qM] [.r (fD m q a e v),.r m,.i v,.r q] | _=>aj}
noncomputable def UB:List Dat→Ann
  | [.r a,.r e,.r m,.i v,.r q] =>⟨[(3,[la 64 [(0,.ptr 0 0),(1,aI),(2,aI),(7,aI)] [qM] (fun | [.r a',.r e',.r o,.r m',.i v',.r q'] =>a'=a∧e'=e∧o=fO m∧m'=m∧v'=v∧q'=q | _=>False) jv])],
      [(5,[la 64 [(0,.ptr 0 0),(2,aI),(7,aI),(8,aI),(9,aI),(10,i64)] [qM] (fun | [.r e',.r o,.r bs,.r x,.i i,.r m',.i v',.r q'] =>e'=e∧o=fO m∧bs=cR m q v (cw m a)∧-1≤i∧i<bd e e.length∧x=iL m q a e v ((bd e e.length).toNat-(i+1).toNat)∧m'=m∧v'=v∧q'=q | _=>False) (fun | [_,_,_,_,.i i,_,_,_] =>(i+1).toNat | _=>0)])],[]⟩
  | _=> {cut:= [],loop:= []}
noncomputable def EB:ai:=al Fk 144 (qy (ag sV))
theorem VH:af (base.with Fk) 144 (qy (ag sV)):=Cv (Pm.spec 144)
theorem QJ:(base.with EB).Ok:=ae Pm VH
noncomputable def yH:ai:=al EB 246 (qy (ag sG))
theorem Yl:af (base.with EB) 246 (qy (ag sG)):=Cv (QJ.spec 246)
theorem Qj:(base.with yH).Ok:=ae QJ Yl
end Go.Proofs.YteiecapbaeajdaaGreatDoor
namespace Go.Proofs.YteiecapbaeajdaaGreatDoor
open Go Go.Avc Go.Proofs
set_option linter.unusedVariables false
set_option maxRecDepth 100000
def KJ:Prop:= ∀ (l l_1 l_2:List (List CD)) (n:Int) (l_3:List (List CD)),
 l.length≤9223372036854775807→
 l_1.length≤9223372036854775807→
 l_2.length≤9223372036854775807→
 l_3.length≤9223372036854775807→
 ic l l_1 l_2 l_3 n→
 l_2.length≤9223372036854775807→
 (0≤(↑l_2.length:Int)∧
 (↑l_2.length:Int)≤(↑l_2.length:Int)∧
 (↑(8:Nat):Int)*(↑l_2.length:Int)≤140737488355328∧(↑l_2.length:Int)≤9223372036854775807)∧
 (((0:Int)≤0∧0 < (↑(List.replicate (↑l_2.length:Int).toNat [CD.int 0]).length:Int))∧
 0 < (List.replicate (↑l_2.length:Int).toNat [CD.int 0]).length∧
 (l=l∧
 l_1=l_1∧
 (List.replicate (↑l_2.length:Int).toNat [CD.int 0]).set 0
 (((List.replicate (↑l_2.length:Int).toNat [CD.int 0]).getD 0 []).set 0 (CD.int 1))=
 fO l_2∧
 l_2=l_2∧n=n∧l_3=l_3)∧
 True)∧
 ∀ (l_4 l_5 l_6 l_7:List (List CD)) (n_1:Int) (l_8:List (List CD)),
 l_4.length≤9223372036854775807→
 l_5.length≤9223372036854775807→
 l_6.length≤9223372036854775807→
 l_7.length≤9223372036854775807→
 l_8.length≤9223372036854775807→
 l_4=l∧l_5=l_1∧l_6=fO l_2∧l_7=l_2∧n_1=n∧l_8=l_3→
 ((aG l_4∧aG l_7)∧
 gP
 [.cells (332:TypeId)
 [.rd [.int .u64] l_7,.int .u64 n_1,.rd [.int .u64] l_8]]
 (ci (bX [(0:Nat)] 1) [(0:Nat)]
 [.cells (332:TypeId)
 [.rd [.int .u64] l_7,.int .u64 n_1,
 .rd [.int .u64] l_8]]))∧
 (js (cw l_7 l_4) l_8 l_7 n_1∧
 gP
 [.cells (332:TypeId)
 [.rd [.int .u64] l_7,.int .u64 n_1,.rd [.int .u64] l_8]]
 (ci (bX [(0:Nat)] 1) [(0:Nat)]
 [.cells (332:TypeId)
 [.rd [.int .u64] l_7,.int .u64 n_1,
 .rd [.int .u64] l_8]]))∧
 (js l_6 l_8 l_7 n_1∧
 gP
 [.cells (332:TypeId)
 [.rd [.int .u64] l_7,.int .u64 n_1,
 .rd [.int .u64] l_8]]
 (ci (bX [(0:Nat)] 1) [(0:Nat)]
 [.cells (332:TypeId)
 [.rd [.int .u64] l_7,.int .u64 n_1,
 .rd [.int .u64] l_8]]))∧
 aG l_5∧
 ((-9223372036854775808:Int)≤bd l_5 l_5.length - 1∧
 bd l_5 l_5.length - 1≤9223372036854775807)∧
 ((l_5=l_1∧
 l_6=fO l_2∧
 cR l_7 l_8 n_1 (cw l_7 l_4)=
 cR l_2 l_3 n (cw l_2 l)∧
 (-1:Int)≤bd l_5 l_5.length - 1∧
 bd l_5 l_5.length - 1 < bd l_1 l_1.length∧
 cR l_7 l_8 n_1 l_6=
 iL l_2 l_3 l l_1 n
 ((bd l_1 l_1.length).toNat -
 (bd l_5 l_5.length - 1+1).toNat)∧
 l_7=l_2∧n_1=n∧l_8=l_3)∧
 True)∧
 ∀ (l_9 l_10 l_11 l_12:List (List CD)) (n_2:Int) (l_13:List (List CD)) (n_3:Int) (l_14:List (List CD)),
 l_9.length≤9223372036854775807→
 l_10.length≤9223372036854775807→
 l_11.length≤9223372036854775807→
 l_12.length≤9223372036854775807→
 l_13.length≤9223372036854775807→
 l_14.length≤9223372036854775807→
 l_9=l_1∧
 l_10=fO l_2∧
 l_11=cR l_2 l_3 n (cw l_2 l)∧
 (-1:Int)≤n_2∧
 n_2 < bd l_1 l_1.length∧
 l_12=
 iL l_2 l_3 l l_1 n
 ((bd l_1 l_1.length).toNat - (n_2+1).toNat)∧
 l_13=l_2∧n_3=n∧l_14=l_3→
 bif decide (0≤n_2) then
 (js l_12 l_12 l_13 n_3∧
 gP
 [.cells (332:TypeId)
 [.rd [.int .u64] l_13,.int .u64 n_3,
 .rd [.int .u64] l_14]]
 (ci (bX [(0:Nat)] 1) [(0:Nat)]
 [.cells (332:TypeId)
 [.rd [.int .u64] l_13,.int .u64 n_3,
 .rd [.int .u64] l_14]]))∧
 (0≤n_2∧(0:Int) < 64∧n_2≤IntKind.i64.max)∧
 (0≤n_2 / 64∧n_2 / 64 < (↑l_9.length:Int))∧
 (n_2 / 64).toNat < l_9.length∧
 (0≤n_2∧(0:Int) < 64)∧
 0≤n_2 % 64∧
 bif
 decide
 (bU .u64
 (aw .u64
 ((l_9.getD (n_2 / 64).toNat []).getD 0 (CD.int 0)).toInt
 (n_2 % 64))
 1=
 (1:Int)) then
 (js (cR l_13 l_12 n_3 l_12)
 l_11 l_13 n_3∧
 gP
 [.cells (332:TypeId)
 [.rd [.int .u64] l_13,.int .u64 n_3,
 .rd [.int .u64] l_14]]
 (ci (bX [(0:Nat)] 1) [(0:Nat)]
 [.cells (332:TypeId)
 [.rd [.int .u64] l_13,.int .u64 n_3,
 .rd [.int .u64] l_14]]))∧
 ((-9223372036854775808:Int)≤n_2 - 1∧n_2 - 1≤9223372036854775807)∧
 (l_9=l_1∧
 l_10=fO l_2∧
 l_11=
 cR l_2 l_3 n
 (cw l_2 l)∧
 (-1:Int)≤n_2 - 1∧
 n_2 - 1 < bd l_1 l_1.length∧
 cR l_13 l_11 n_3
 (cR l_13 l_12 n_3 l_12)=
 iL l_2 l_3 l l_1 n
 ((bd l_1 l_1.length).toNat -
 (n_2 - 1+1).toNat)∧
 l_13=l_2∧n_3=n∧l_14=l_3)∧
 (n_2 - 1+1).toNat < (n_2+1).toNat
 else
 ((-9223372036854775808:Int)≤n_2 - 1∧n_2 - 1≤9223372036854775807)∧
 (l_9=l_1∧
 l_10=fO l_2∧
 l_11=
 cR l_2 l_3 n
 (cw l_2 l)∧
 (-1:Int)≤n_2 - 1∧
 n_2 - 1 < bd l_1 l_1.length∧
 cR l_13 l_12 n_3 l_12=
 iL l_2 l_3 l l_1 n
 ((bd l_1 l_1.length).toNat -
 (n_2 - 1+1).toNat)∧
 l_13=l_2∧n_3=n∧l_14=l_3)∧
 (n_2 - 1+1).toNat < (n_2+1).toNat
 else
 (js l_12 l_10 l_13 n_3∧
 gP
 [.cells (332:TypeId)
 [.rd [.int .u64] l_13,.int .u64 n_3,
 .rd [.int .u64] l_14]]
 (ci (bX [(0:Nat)] 1) [(0:Nat)]
 [.cells (332:TypeId)
 [.rd [.int .u64] l_13,.int .u64 n_3,
 .rd [.int .u64] l_14]]))∧
 cR l_13 l_10 n_3 l_12=
 fD l_2 l_3 l l_1 n∧
 l_13=l_2∧n_3=n∧l_14=l_3
theorem adZ:av yH Tryz.f236 FG UB=KJ:=by kernel_rfl
noncomputable def xy:ai:=al yH 236 (ag FG)
end Go.Proofs.YteiecapbaeajdaaGreatDoor
namespace Go.Proofs.YteiecapbaeajdaaGreatDoor
open Go Go.Avc Go.Proofs
set_option linter.unusedVariables false
set_option linter.unusedSimpArgs false
set_option maxRecDepth 100000
theorem Px {m:List (List CD)} :wl m.length ((List.replicate m.length 0).set 0 1):=lw (zu m.length) 0 ⟨by decide,by decide⟩
theorem vu {m:List (List CD)} (hm:aG m):aG (fO m)∧(fO m).length=m.length:=by
  have h:=Px (m:=m)
  unfold fO
  exact ⟨⟨by rw [List.length_map,h.1];exact hm.1,fun j=>by rw [eI];exact h.2 j⟩,by rw [List.length_map,h.1]⟩
theorem zz {m:List (List CD)} (h0:0<m.length):ps (rv (fO m)) m.length=1:=by
  unfold fO
  rw [kJ]
  have:∀ n,0<n→n≤m.length→ps (gI ((List.replicate m.length 0).set 0 1)) n=1:=fun n hn hle=>by
    induction n with
    | zero=>omega
    | succ n ih=>
      by_cases hz:n=0
      · subst hz
        show 0+1*gI _ 0=1
        rw [bN,if_pos rfl,if_pos (by rw [List.length_replicate];omega)];rfl
      · rw [ps,ih (by omega) (by omega),bN,if_neg (by omega)]
        have:gI (List.replicate m.length 0) n=0:=by
          unfold gI
          rw [List.getD_eq_getElem?_getD,List.getElem?_replicate]
          split <;>rfl
        rw [this,Int.mul_zero];rfl
  exact this _ h0 (Nat.le_refl _)
theorem Bc {m one base e:List (List CD)} {v:Int} {k:Nat} (hm:aG m) (ho:aG one) (hol:one.length=m.length) (hb:aG base):∀ i,aG (oT m v one base e k i)∧(oT m v one base e k i).length=m.length
  | 0=>⟨ho,hol⟩
  | i+1=>by
    have ⟨h1,h2⟩:=Bc (v:=v) (e:=e) (k:=k) hm ho hol hb i
    have ⟨k1,k2⟩:=gg (v:=v) h1.2 h1.2 hm
    rw [oT]
    cases sO e (k-1-i) with
    | true=>exact gg (v:=v) k1.2 hb.2 hm
    | false=>exact ⟨k1,k2⟩
theorem Wu:KJ:=by
  unfold KJ
  intro a e m v q _ _ _ _ hp _
  obtain ⟨ha,he,hd,hq,hql⟩:=hp
  have hm:=hd.ok
  have lm:=hm.1
  have l2:=hd.len
  have ⟨o1,o2⟩:=vu hm
  have ⟨r1,r2,_⟩:=qI hm ha (by omega) hd.one
  have ⟨s1,s2⟩:=gg (v:=v) (m:=m) (b:=q) r1.2 hq.2 hm
  have ⟨t1,t2⟩:=gg (v:=v) (m:=m) (b:=q) o1.2 hq.2 hm
  have hb:=ut he.2 e.length
  have le:=he.1
  have hx:∀ i,aG (iL m q a e v i)∧(iL m q a e v i).length=m.length:=fun i=>by
    unfold iL
    rw [aR]
    exact Bc hm t1 t2 s1 i
  have n0:((m.length:Int)).toNat=m.length:=by omega
  have pr:∀ x y:List (List CD),aG x→aG y→y.length=m.length→js x y m v:=fun x y h1 h2 h3=>⟨h1,h2,hm,hd.vw,h3,l2⟩
  have h1r:(List.replicate m.length [CD.int 0]).set 0 (((List.replicate m.length [CD.int 0]).getD 0 []).set 0 (CD.int 1))=fO m:=by
    have e:List.replicate m.length [CD.int 0] =(List.replicate m.length 0).map ac:=by rw [List.map_replicate];rfl
    rw [e,ln];rfl
  rw [n0,List.length_replicate]
  refine ⟨by omega,⟨⟨by omega,by omega⟩,by omega,⟨rfl,rfl,h1r,rfl,rfl,rfl⟩,trivial⟩,?_⟩
  intro a2 e2 o2' m2 v2 q2 _ _ _ _ _ h
  obtain ⟨f1,f2,f3,f4,f5,f6⟩:=h
  rw [f1,f2,f3,f4,f5,f6]
  clear f1 f2 f3 f4 f5 f6
  refine ⟨⟨⟨ha,hm⟩,rfl,trivial⟩,⟨pr _ _ r1 hq hql,rfl,trivial⟩,⟨pr _ _ o1 hq hql,rfl,trivial⟩,he,by omega,⟨⟨rfl,rfl,rfl,by omega,by omega,?_,rfl,rfl,rfl⟩,trivial⟩,?_⟩
  · rw [show (bd e e.length).toNat-(bd e e.length-1+1).toNat=0 from by omega]
    unfold iL
    rw [aR];rfl
  intro e3 o3 b3 x3 i m3 v3 q3 _ _ _ _ _ _ h
  obtain ⟨f1,f2,f3,i0,i1,f4,f5,f6,f7⟩:=h
  rw [f1,f2,f3,f4,f5,f6,f7]
  clear f1 f2 f3 f4 f5 f6 f7
  obtain ⟨j,hj⟩:∃ j,j=(bd e e.length).toNat-(i+1).toNat:=⟨_,rfl⟩
  rw [← hj]
  have ⟨x1,x2⟩:=hx j
  have ⟨y1,y2⟩:=gg (v:=v) x1.2 x1.2 hm
  refine ab (fun hi=> ?_) (fun hi=> ?_)
  · have hi:=of_decide_eq_true hi
    have hmx:IntKind.i64.max=9223372036854775807:=by decide
    have ht:(bd e e.length).toNat-1-j=i.toNat:=by omega
    have q1:(i / 64).toNat=i.toNat / 64:=by omega
    have q2:i%64=((i.toNat%64:Nat):Int):=by omega
    have ej:(bd e e.length).toNat-(i-1+1).toNat=j+1:=by omega
    have ex:iL m q a e v (j+1)=bif sO e i.toNat then cR m (cR m q v (cw m a)) v (cR m (iL m q a e v j) v (iL m q a e v j)) else cR m (iL m q a e v j) v (iL m q a e v j):=by
      unfold iL
      rw [aR,aR,oT,ht]
    rw [hmx,ej,ex,q1,dH]
    refine ⟨⟨pr _ _ x1 x1 x2,rfl,trivial⟩,⟨by omega,by decide,by omega⟩,⟨by omega,by omega⟩,by omega,⟨by omega,by decide⟩,by omega,ab (fun hc=> ?_) (fun hc=> ?_)⟩
    · have hc:sO e i.toNat=true:=by unfold sO;rw [← q2];exact hc
      rw [hc]
      exact ⟨⟨pr _ _ y1 s1 s2,rfl,trivial⟩,by omega,⟨rfl,rfl,rfl,by omega,by omega,rfl,rfl,rfl,rfl⟩,by omega⟩
    · have hc:sO e i.toNat=false:=by unfold sO;rw [← q2];exact hc
      rw [hc]
      exact ⟨by omega,⟨rfl,rfl,rfl,by omega,by omega,rfl,rfl,rfl,rfl⟩,by omega⟩
  · have hi:=of_decide_eq_false hi
    have hjn:j=(bd e e.length).toNat:=by omega
    refine ⟨⟨pr _ _ x1 o1 o2,rfl,trivial⟩,?_,rfl,rfl,rfl⟩
    unfold fD
    rw [aR,hjn]
theorem WJ:af (base.with yH) 236 (ag FG):=am Qj Tryz.func236 (by kernel_rfl) (by kernel_rfl) Tryz.call236 adZ Wu
theorem S8:(base.with xy).Ok:=ae Qj WJ
end Go.Proofs.YteiecapbaeajdaaGreatDoor
namespace Go.Proofs.YteiecapbaeajdaaGreatDoor
open Go Go.Avc Go.Proofs
set_option linter.unusedVariables false
set_option linter.unusedSimpArgs false
set_option maxRecDepth 10000
theorem TU {e:List (List CD)} (he:ce e) {E:Nat} (hE:ps (rv e) e.length=E) {t:Nat} (ht:t<64*e.length):sO e t=decide (E / 2 ^ t%2=1):=by
  have h:=HX he ht
  unfold sO
  rw [h,hE]
  have:((E:Int) / 2 ^ t%2)=((E / 2 ^ t%2:Nat):Int):=by simp
  rw [this]
  by_cases hc:E / 2 ^ t%2=1
  · rw [decide_eq_true hc,decide_eq_true (by omega)]
  · rw [decide_eq_false hc,decide_eq_false (by omega)]
theorem Cr {m one base e:List (List CD)} {v A:Int} {E k:Nat} (hd:mdl m v) (ho:rp m one 1) (hb:rp m base A) (he:ce e) (hE:ps (rv e) e.length=E) (hk:k≤64*e.length) (hlt:E<2 ^ k):∀ i,i≤k→rp m (oT m v one base e k i) (A ^ (E / 2 ^ (k-i)))
  | 0,_=>by
    rw [Nat.sub_zero,Nat.div_eq_of_lt hlt,Int.pow_zero];exact ho
  | i+1,h=>by
    have ih:=Cr hd ho hb he hE hk hlt i (by omega)
    have h2:=Ic hd ih ih
    have e1:k-i=k-1-i+1:=by omega
    have e2:k-(i+1)=k-1-i:=by omega
    have hbit:=TU he hE (t:=k-1-i) (by omega)
    have hh:E / 2 ^ (k-1-i)=2*(E / 2 ^ (k-1-i+1))+E / 2 ^ (k-1-i)%2:=by
      rw [Nat.pow_succ,← Nat.div_div_eq_div_mul];omega
    rw [e1] at h2
    rw [oT,hbit,e2]
    generalize E / 2 ^ (k-1-i+1)=y at *
    generalize E / 2 ^ (k-1-i)=x at *
    have e3:A ^ y*A ^ y=A ^ (2*y):=by rw [← Int.pow_add];congr 1;omega
    rw [e3] at h2
    by_cases hc:x%2=1
    · rw [decide_eq_true hc]
      have h3:=Ic hd h2 hb
      rwa [show A ^ (2*y)*A=A ^ x from by rw [← Int.pow_succ];congr 1;omega] at h3
    · rw [decide_eq_false hc]
      rwa [show 2*y=x from by omega] at h2
theorem Nf {m q a e:List (List CD)} {v A:Int} {E:Nat} (hd:mdl m v) (hq:aG q) (hql:q.length=m.length) (hqv:ps (rv q) m.length=(18446744073709551616 ^ m.length*18446744073709551616 ^ m.length)%ps (rv m) m.length)
    (ha:aG a) (hA:ps (rv a) a.length%ps (rv m) m.length=A) (he:aG e) (hE:ps (rv e) e.length=E):
    aG (fD m q a e v)∧(fD m q a e v).length=m.length∧ps (rv (fD m q a e v)) m.length=A ^ E%ps (rv m) m.length:=by
  have hm:=hd.ok
  have l2:=hd.len
  have ⟨o1,o2⟩:=vu hm
  have ⟨r1,r2,r3⟩:=qI hm ha (by omega) hd.one
  rw [hA] at r3
  have hone:=ML hd hq hql hqv o1 o2 (zz (by omega))
  have hbase:=ML hd hq hql hqv r1 r2 r3
  have hb:=ut he.2 e.length
  have hlt:E<2 ^ (bd e e.length).toNat:=by
    have:=GK he.2 e.length
    rw [hE] at this
    exact_mod_cast this
  have h:=Cr hd hone hbase he.2 hE (k:=(bd e e.length).toNat) (by omega) hlt _ (Nat.le_refl _)
  rw [Nat.sub_self,Nat.pow_zero,Nat.div_one] at h
  have hx:iL m q a e v (bd e e.length).toNat=oT m v (cR m q v (fO m)) (cR m q v (cw m a)) e (bd e e.length).toNat (bd e e.length).toNat:=by unfold iL;rw [aR]
  have hr:fD m q a e v=cR m (fO m) v (iL m q a e v (bd e e.length).toNat):=by unfold fD;rw [aR]
  rw [hr,hx]
  have ⟨k1,k2⟩:=gg (v:=v) (m:=m) (b:=fO m) h.1.2 o1.2 hm
  exact ⟨k1,k2,PV hd h o1 o2 (zz (by omega))⟩
end Go.Proofs.YteiecapbaeajdaaGreatDoor
namespace Go.Proofs.YteiecapbaeajdaaGreatDoor
open Go Go.Avc
set_option linter.unusedVariables false
abbrev a12:Pat:= .arrI 12 .u64
abbrev oX:Pat:= .agg [a12]
abbrev q12:BPat:= .cells 324 [a12]
abbrev tW:BPat:= .cells 376 [.ptr 1 0]
def LM:List Int:= [18446744073709551615,17603518614768072224,16466767132611215046,5755940542857986629,3470879405153129527,17263733006627652379,5857503583518590173,147421033984662306,2955010104097229940,14179128828124470481,14488038916154245684,18446744073709551615]
def bC:List (List CD):=LM.map ac
def nA:Nat→List Int×Int
  | 0=>(LM,0)
  | k+1=>((nA k).1.set (11-k) (dQ .u64 (aw .u64 (gI (nA k).1 (11-k)) 1) (cn .u64 (nA k).2 63)),bU .u64 (gI (nA k).1 (11-k)) 1)
def UH:List Int:= [9223372036854775807,8801759307384036112,17456755603160383331,12101342308283769122,10958811739431340571,17855238540168601997,2928751791759295086,73710516992331153,10700877088903390778,7089564414062235240,16467391494931898650,9223372036854775807]
def iv:List (List CD):=UH.map ac
def HS:List Int:=List.replicate 12 0
def rn:List Int:= [1,0,0,0,0,0,0,0,0,0,0,0]
def cX (l:List (List CD)):List Int:=l.map fun r=>(r.getD 0 (CD.int 0)).toInt
def GJ:Ct:= {ps:= [],bs:= [],pre:=fun _=>True,res:=fun _=> .ret oX [] [.li LM]}
noncomputable def EQ:Ct:= {ps:= [oX],bs:= [],pre:=fun | [.li l] =>pJ (l.map ac) | _=>False,res:=fun | [.li l] => .ret (.ptr 0 0) [tW,qM] [.r (l.map ac),.i (m4 (rv (l.map ac) 0)),.r (c7 (l.map ac))] | _=>aj}
noncomputable def Eh:Ct:= {ps:= [],bs:= [],pre:=fun _=>True,res:=fun _=> .ret (.ptr 0 0) [tW,qM] [.r bC,.i 1,.r (c7 bC)]}
noncomputable def EC:Ct:= {ps:= [],bs:= [],pre:=fun _=>True,res:=fun _=> .ret (.ptr 0 0) [tW,qM] [.r iv,.i (m4 9223372036854775807),.r (c7 iv)]}
def Sq:List Dat→Ann:=fun _=> {cut:= [],loop:= [(3,[la 24 [(1,.ptr 0 0),(2,u64),(3,i64)] [q12] (fun | [.i c,.i i,.li l] => -1≤i∧i≤11∧l=(nA (11-i).toNat).1∧c=(nA (11-i).toNat).2 | _=>False) (fun | [_,.i i,_] =>(i+1).toNat | _=>0)])]}
def E7:Ct:= {ps:= [.ptr 0 0],bs:= [qM],pre:=fun | [.r m,.i _,.r _] =>m.length≤1000 | _=>False,res:=fun | [.r m,.i v,.r q] => .ret (.own 1) [qM,ow] [.r m,.i v,.r q,.r m] | _=>aj}
def GH:Ct:= {ps:= [.ptr 0 0],bs:= [tW,qM],pre:=fun | [.r m,.i _,.r _] =>m.length=12 | _=>False,res:=fun | [.r m,.i v,.r q] => .ret oX [tW,qM] [.li (cX m),.r m,.i v,.r q] | _=>aj}
def DS:Ct:= {ps:= [],bs:= [],pre:=fun _=>True,res:=fun _=> .ret oX [] [.li rn]}
def gX (m b:List (List CD)):Int:=if (b.length:Int)≠96 then 1 else if d6 ((aL b b.length).map ac) m (bZ ((aL b b.length).map ac) m)<0 then 0 else 4
def iQ (m b:List (List CD)):List Int:=if gX m b=0 then aL b b.length else HS
def G2:Ct:= {ps:= [.ptr 0 0,rb],bs:= [tW,qM],pre:=fun | [.r b,.r m,.i _,.r _] =>ax b∧b.length≤1000∧m.length=12 | _=>False,res:=fun | [.r b,.r m,.i v,.r q] => .ret (.tup [oX,i64]) [tW,qM] [.li (iQ m b),.i (gX m b),.r m,.i v,.r q] | _=>aj}
noncomputable def FS:Ct:= {ps:= [.fb 236 [.ptr 0 0],oX,oX],bs:= [qM],pre:=fun | [.li a,.li e,.r m,.i v,.r q] =>ic (a.map ac) (e.map ac) m q v∧m.length=12 | _=>False,res:=fun | [.li a,.li e,.r m,.i v,.r q] => .ret oX [qM] [.li (cX (fD m q (a.map ac) (e.map ac) v)),.r m,.i v,.r q] | _=>aj}
noncomputable def EF:Ct:= {ps:= [.ptr 0 0,oX,oX],bs:= [tW,qM],pre:=fun | [.li a,.li e,.r m,.i v,.r q] =>ic (a.map ac) (e.map ac) m q v∧m.length=12 | _=>False,res:=fun | [.li a,.li e,.r m,.i v,.r q] => .ret oX [tW,qM] [.li (cX (fD m q (a.map ac) (e.map ac) v)),.r m,.i v,.r q] | _=>aj}
def gE (b:List (List CD)):List Int:=if dA b=0 then aL b b.length else HS
noncomputable def Hp:Ct:= {ps:= [rb],bs:= [],pre:=fun | [.r b] =>ax b∧b.length≤1000 | _=>False,res:=fun | [.r b] => .ret (.tup [oX,i64]) [] [.li (gE b),.i (dA b)] | _=>aj}
end Go.Proofs.YteiecapbaeajdaaGreatDoor
namespace Go.Proofs.YteiecapbaeajdaaGreatDoor
open Go Go.Avc Go.Proofs
set_option linter.unusedVariables false
set_option maxRecDepth 100000
def Uq:Prop:= True→
 [18446744073709551615,17603518614768072224,16466767132611215046,5755940542857986629,3470879405153129527,17263733006627652379,
 (5857503583518590173:Int),147421033984662306,2955010104097229940,14179128828124470481,14488038916154245684,
 (18446744073709551615:Int)] =
 [18446744073709551615,17603518614768072224,16466767132611215046,5755940542857986629,3470879405153129527,
 (17263733006627652379:Int),5857503583518590173,147421033984662306,2955010104097229940,14179128828124470481,
 (14488038916154245684:Int),18446744073709551615]
theorem ade:av xy Tryz.f232 GJ au=Uq:=by kernel_rfl
noncomputable def zn:ai:=al xy 232 (ag GJ)
def JV:Prop:= ∀ (l:List Int),
 l.length=12→
 pJ (List.map ac l)→
 ((0:Int)≤0∧0≤(↑(12:Nat):Int)∧(↑(12:Nat):Int)≤(↑(12:Nat):Int)∧0 < (↑(12:Nat):Int))∧
 pJ (List.map (fun x=> [.int x]) (List.take 12 (List.drop 0 l)))∧
 List.map (fun x=> [.int x]) (List.take 12 (List.drop 0 l))=List.map ac l∧
 m4
 (rv (List.map (fun x=> [.int x]) (List.take 12 (List.drop 0 l))) 0)=
 m4 (rv (List.map ac l) 0)∧
 c7 (List.map (fun x=> [.int x]) (List.take 12 (List.drop 0 l)))=
 c7 (List.map ac l)
theorem acQ:av zn Tryz.f231 EQ au=JV:=by kernel_rfl
noncomputable def zi:ai:=al zn 231 (ag EQ)
def Tm:Prop:= True→
 True∧
 pJ
 [[CD.int 18446744073709551615],[CD.int 17603518614768072224],[CD.int 16466767132611215046],
 [CD.int 5755940542857986629],[CD.int 3470879405153129527],[CD.int 17263733006627652379],
 [CD.int 5857503583518590173],[CD.int 147421033984662306],[CD.int 2955010104097229940],
 [CD.int 14179128828124470481],[CD.int 14488038916154245684],[CD.int 18446744073709551615]] ∧
 [[CD.int 18446744073709551615],[CD.int 17603518614768072224],[CD.int 16466767132611215046],
 [CD.int 5755940542857986629],[CD.int 3470879405153129527],[CD.int 17263733006627652379],
 [CD.int 5857503583518590173],[CD.int 147421033984662306],[CD.int 2955010104097229940],
 [CD.int 14179128828124470481],[CD.int 14488038916154245684],[CD.int 18446744073709551615]] =
 [[CD.int 18446744073709551615],[CD.int 17603518614768072224],[CD.int 16466767132611215046],
 [CD.int 5755940542857986629],[CD.int 3470879405153129527],[CD.int 17263733006627652379],
 [CD.int 5857503583518590173],[CD.int 147421033984662306],[CD.int 2955010104097229940],
 [CD.int 14179128828124470481],[CD.int 14488038916154245684],[CD.int 18446744073709551615]] ∧
 m4
 (rv
 [[CD.int 18446744073709551615],[CD.int 17603518614768072224],[CD.int 16466767132611215046],
 [CD.int 5755940542857986629],[CD.int 3470879405153129527],[CD.int 17263733006627652379],
 [CD.int 5857503583518590173],[CD.int 147421033984662306],[CD.int 2955010104097229940],
 [CD.int 14179128828124470481],[CD.int 14488038916154245684],[CD.int 18446744073709551615]]
 0)=
 (1:Int)∧
 c7
 [[CD.int 18446744073709551615],[CD.int 17603518614768072224],[CD.int 16466767132611215046],
 [CD.int 5755940542857986629],[CD.int 3470879405153129527],[CD.int 17263733006627652379],
 [CD.int 5857503583518590173],[CD.int 147421033984662306],[CD.int 2955010104097229940],
 [CD.int 14179128828124470481],[CD.int 14488038916154245684],[CD.int 18446744073709551615]] =
 c7
 [[CD.int 18446744073709551615],[CD.int 17603518614768072224],[CD.int 16466767132611215046],
 [CD.int 5755940542857986629],[CD.int 3470879405153129527],[CD.int 17263733006627652379],
 [CD.int 5857503583518590173],[CD.int 147421033984662306],[CD.int 2955010104097229940],
 [CD.int 14179128828124470481],[CD.int 14488038916154245684],[CD.int 18446744073709551615]]
theorem adI:av zi Tryz.f203 Eh au=Tm:=by kernel_rfl
noncomputable def za:ai:=al zi 203 (ag Eh)
def Kl:Prop:= True→
 True∧
 (((-1:Int)≤11∧
 (11:Int)≤11∧
 [18446744073709551615,17603518614768072224,16466767132611215046,5755940542857986629,3470879405153129527,
 (17263733006627652379:Int),5857503583518590173,147421033984662306,2955010104097229940,14179128828124470481,
 (14488038916154245684:Int),18446744073709551615] =
 [18446744073709551615,17603518614768072224,16466767132611215046,5755940542857986629,3470879405153129527,
 (17263733006627652379:Int),5857503583518590173,147421033984662306,2955010104097229940,14179128828124470481,
 (14488038916154245684:Int),18446744073709551615] ∧
 0=(nA 0).snd)∧
 True)∧
 ∀ (n n_1:Int) (l:List Int),
 l.length=12→
 (-1:Int)≤n_1∧
 n_1≤11∧
 l=(nA ((11:Int) - n_1).toNat).fst∧n=(nA ((11:Int) - n_1).toNat).snd→
 bif decide (0≤n_1) then
 (0≤n_1∧n_1 < (↑(12:Nat):Int))∧
 n_1.toNat*1 < 12∧
 (0:Int)≤1∧
 (0:Int)≤63∧
 (0≤n_1∧n_1 < (↑(12:Nat):Int))∧
 n_1.toNat*1 < 12∧
 (0≤n_1∧n_1 < (↑(12:Nat):Int))∧
 n_1.toNat*1 < 12∧
 ((-9223372036854775808:Int)≤n_1 - 1∧n_1 - 1≤9223372036854775807)∧
 ((-1:Int)≤n_1 - 1∧
 n_1 - 1≤11∧
 l.set (n_1.toNat*1)
 (dQ .u64 (aw .u64 (l.getD (n_1.toNat*1) 0) 1)
 (cn .u64 n 63))=
 (nA ((11:Int) - (n_1 - 1)).toNat).fst∧
 bU .u64 (l.getD (n_1.toNat*1) 0) 1=
 (nA ((11:Int) - (n_1 - 1)).toNat).snd)∧
 (n_1 - 1+1).toNat < (n_1+1).toNat
 else
 pJ (List.map ac l)∧
 List.map ac l=
 [[.int 9223372036854775807],[.int 8801759307384036112],[.int 17456755603160383331],
 [.int 12101342308283769122],[.int 10958811739431340571],[.int 17855238540168601997],
 [.int 2928751791759295086],[.int 73710516992331153],[.int 10700877088903390778],
 [.int 7089564414062235240],[.int 16467391494931898650],[.int 9223372036854775807]] ∧
 m4 (rv (List.map ac l) 0)=
 m4 9223372036854775807∧
 c7 (List.map ac l)=
 c7
 [[.int 9223372036854775807],[.int 8801759307384036112],[.int 17456755603160383331],
 [.int 12101342308283769122],[.int 10958811739431340571],[.int 17855238540168601997],
 [.int 2928751791759295086],[.int 73710516992331153],[.int 10700877088903390778],
 [.int 7089564414062235240],[.int 16467391494931898650],[.int 9223372036854775807]]
theorem abX:av za Tryz.f206 EC Sq=Kl:=by kernel_rfl
noncomputable def yF:ai:=al za 206 (ag EC)
def Jz:Prop:= ∀ (l:List (List CD)) (n:Int) (l_1:List (List CD)),
 l.length≤9223372036854775807→l_1.length≤9223372036854775807→l.length≤1000→l.length≤1000∧l=l∧n=n∧l_1=l_1∧l=l
theorem aeg:av yF Tryz.f234 E7 au=Jz:=by kernel_rfl
noncomputable def yE:ai:=al yF 234 (ag E7)
def Kx:Prop:= ∀ (l:List (List CD)) (n:Int) (l_1:List (List CD)),
 l.length=12→
 l.length≤1000∧
 12≤l.length∧
 12≤l.length∧
 List.map (fun r=>(r.getD 0 (.int 0)).toInt) (List.take 12 (List.drop 0 l))=cX l∧
 l=l∧n=n∧l_1=l_1
theorem acX:av yE Tryz.f207 GH au=Kx:=by kernel_rfl
noncomputable def y9:ai:=al yE 207 (ag GH)
def PE:Prop:= True→
 [(1:Int),0,0,0,0,0,0,0,0,0,0,0] =
 [(1:Int),0,0,0,0,0,0,0,0,0,0,0]
theorem aeT:av y9 Tryz.f208 DS au=PE:=by kernel_rfl
noncomputable def xj:ai:=al y9 208 (ag DS)
def J2:Prop:= ∀ (l l_1:List (List CD)) (n:Int) (l_2:List (List CD)),
 l.length≤9223372036854775807→
 ax l∧l.length≤1000∧l_1.length=12→
 l.length≤9223372036854775807→
 bif decide ((↑l.length:Int)≠96) then
 [0,0,0,0,0,0,0,0,0,0,0,0] =
 iQ l_1 l∧
 1=gX l_1 l∧l_1=l_1∧n=n∧l_2=l_2
 else
 (l.length≤1000∧ax l)∧
 l_1.length≤1000∧
 ((List.map ac (aL l l.length)).length≤1000∧l_1.length≤1000)∧
 bif
 decide
 ((0:Int)≤
 d6 (List.map ac (aL l l.length)) l_1
 (bZ (List.map ac (aL l l.length))
 l_1)) then
 [0,0,0,0,0,0,0,0,0,0,0,0] =
 iQ l_1 l∧
 4=gX l_1 l∧l_1=l_1∧n=n∧l_2=l_2
 else
 12≤(List.map ac (aL l l.length)).length∧
 12≤(List.map ac (aL l l.length)).length∧
 List.map (fun r=>(r.getD 0 (.int 0)).toInt)
 (List.take 12 (List.drop 0 (List.map ac (aL l l.length))))=
 iQ l_1 l∧
 0=gX l_1 l∧l_1=l_1∧n=n∧l_2=l_2
theorem aeq:av xj Tryz.f204 G2 au=J2:=by kernel_rfl
noncomputable def yh:ai:=al xj 204 (ag G2)
def Lc:Prop:= ∀ (l l_1:List Int) (l_2:List (List CD)) (n:Int) (l_3:List (List CD)),
 l.length=12→
 l_1.length=12→
 l_2.length≤9223372036854775807→
 l_3.length≤9223372036854775807→
 ic (List.map ac l) (List.map ac l_1) l_2 l_3 n∧
 l_2.length=12→
 ((0:Int)≤0∧0≤(↑(12:Nat):Int)∧(↑(12:Nat):Int)≤(↑(12:Nat):Int)∧0 < (↑(12:Nat):Int))∧
 ((0:Int)≤0∧0≤(↑(12:Nat):Int)∧(↑(12:Nat):Int)≤(↑(12:Nat):Int)∧0 < (↑(12:Nat):Int))∧
 ic (List.map (fun x=> [.int x]) (List.take 12 (List.drop 0 l)))
 (List.map (fun x=> [.int x]) (List.take 12 (List.drop 0 l_1))) l_2 l_3 n∧
 (12:Nat)≤
 (fD l_2 l_3 (List.map (fun x=> [.int x]) (List.take 12 (List.drop 0 l)))
 (List.map (fun x=> [.int x]) (List.take 12 (List.drop 0 l_1))) n).length∧
 (12:Nat)≤
 (fD l_2 l_3 (List.map (fun x=> [.int x]) (List.take 12 (List.drop 0 l)))
 (List.map (fun x=> [.int x]) (List.take 12 (List.drop 0 l_1))) n).length∧
 List.map (fun r=>(r.getD 0 (.int 0)).toInt)
 (List.take 12
 (List.drop 0
 (fD l_2 l_3 (List.map (fun x=> [.int x]) (List.take 12 (List.drop 0 l)))
 (List.map (fun x=> [.int x]) (List.take 12 (List.drop 0 l_1))) n)))=
 cX
 (fD l_2 l_3 (List.map ac l)
 (List.map ac l_1) n)∧
 l_2=l_2∧n=n∧l_3=l_3
theorem aeL:av yh Tryz.f235 FS au=Lc:=by kernel_rfl
noncomputable def ya:ai:=al yh 235 (ag FS)
def Lp:Prop:= ∀ (l l_1:List Int) (l_2:List (List CD)) (n:Int) (l_3:List (List CD)),
 l.length=12→
 l_1.length=12→
 ic (List.map ac l) (List.map ac l_1) l_2 l_3 n∧
 l_2.length=12→
 (ic (List.map ac l) (List.map ac l_1) l_2 l_3 n∧
 l_2.length=12)∧
 cX
 (fD l_2 l_3 (List.map ac l) (List.map ac l_1) n)=
 cX
 (fD l_2 l_3 (List.map ac l) (List.map ac l_1) n)∧
 l_2=l_2∧n=n∧l_3=l_3
theorem ab9:av ya Tryz.f205 EF au=Lp:=by kernel_rfl
noncomputable def yD:ai:=al ya 205 (ag EF)
def J7:Prop:= ∀ (l:List (List CD)),
 l.length≤9223372036854775807→
 ax l∧l.length≤1000→
 True∧
 (ax l∧l.length≤1000∧12=12)∧
 bif
 decide
 (gX
 [[CD.int 18446744073709551615],[CD.int 17603518614768072224],[CD.int 16466767132611215046],
 [CD.int 5755940542857986629],[CD.int 3470879405153129527],[CD.int 17263733006627652379],
 [CD.int 5857503583518590173],[CD.int 147421033984662306],[CD.int 2955010104097229940],
 [CD.int 14179128828124470481],[CD.int 14488038916154245684],[CD.int 18446744073709551615]]
 l≠
 (0:Int)) then
 [0,0,0,0,0,0,0,0,0,0,0,0] =
 gE l∧
 gX
 [[CD.int 18446744073709551615],[CD.int 17603518614768072224],[CD.int 16466767132611215046],
 [CD.int 5755940542857986629],[CD.int 3470879405153129527],[CD.int 17263733006627652379],
 [CD.int 5857503583518590173],[CD.int 147421033984662306],[CD.int 2955010104097229940],
 [CD.int 14179128828124470481],[CD.int 14488038916154245684],[CD.int 18446744073709551615]]
 l=
 dA l
 else
 True∧
 12=12∧
 (ic
 (List.map ac
 (iQ
 [[CD.int 18446744073709551615],[CD.int 17603518614768072224],[CD.int 16466767132611215046],
 [CD.int 5755940542857986629],[CD.int 3470879405153129527],[CD.int 17263733006627652379],
 [CD.int 5857503583518590173],[CD.int 147421033984662306],[CD.int 2955010104097229940],
 [CD.int 14179128828124470481],[CD.int 14488038916154245684],[CD.int 18446744073709551615]]
 l))
 [[CD.int ((fun r=>(r.getD 0 (CD.int 0)).toInt) [CD.int 9223372036854775807])],
 [CD.int ((fun r=>(r.getD 0 (CD.int 0)).toInt) [CD.int 8801759307384036112])],
 [CD.int ((fun r=>(r.getD 0 (CD.int 0)).toInt) [CD.int 17456755603160383331])],
 [CD.int ((fun r=>(r.getD 0 (CD.int 0)).toInt) [CD.int 12101342308283769122])],
 [CD.int ((fun r=>(r.getD 0 (CD.int 0)).toInt) [CD.int 10958811739431340571])],
 [CD.int ((fun r=>(r.getD 0 (CD.int 0)).toInt) [CD.int 17855238540168601997])],
 [CD.int ((fun r=>(r.getD 0 (CD.int 0)).toInt) [CD.int 2928751791759295086])],
 [CD.int ((fun r=>(r.getD 0 (CD.int 0)).toInt) [CD.int 73710516992331153])],
 [CD.int ((fun r=>(r.getD 0 (CD.int 0)).toInt) [CD.int 10700877088903390778])],
 [CD.int ((fun r=>(r.getD 0 (CD.int 0)).toInt) [CD.int 7089564414062235240])],
 [CD.int ((fun r=>(r.getD 0 (CD.int 0)).toInt) [CD.int 16467391494931898650])],
 [CD.int ((fun r=>(r.getD 0 (CD.int 0)).toInt) [CD.int 9223372036854775807])]]
 [[CD.int 18446744073709551615],[CD.int 17603518614768072224],[CD.int 16466767132611215046],
 [CD.int 5755940542857986629],[CD.int 3470879405153129527],[CD.int 17263733006627652379],
 [CD.int 5857503583518590173],[CD.int 147421033984662306],[CD.int 2955010104097229940],
 [CD.int 14179128828124470481],[CD.int 14488038916154245684],[CD.int 18446744073709551615]]
 (c7
 [[CD.int 18446744073709551615],[CD.int 17603518614768072224],[CD.int 16466767132611215046],
 [CD.int 5755940542857986629],[CD.int 3470879405153129527],[CD.int 17263733006627652379],
 [CD.int 5857503583518590173],[CD.int 147421033984662306],[CD.int 2955010104097229940],
 [CD.int 14179128828124470481],[CD.int 14488038916154245684],[CD.int 18446744073709551615]])
 1∧
 12=12)∧
 True∧
 bif
 !decide
 (cX
 (fD
 [[CD.int 18446744073709551615],[CD.int 17603518614768072224],[CD.int 16466767132611215046],
 [CD.int 5755940542857986629],[CD.int 3470879405153129527],[CD.int 17263733006627652379],
 [CD.int 5857503583518590173],[CD.int 147421033984662306],[CD.int 2955010104097229940],
 [CD.int 14179128828124470481],[CD.int 14488038916154245684],[CD.int 18446744073709551615]]
 (c7
 [[CD.int 18446744073709551615],[CD.int 17603518614768072224],[CD.int 16466767132611215046],
 [CD.int 5755940542857986629],[CD.int 3470879405153129527],[CD.int 17263733006627652379],
 [CD.int 5857503583518590173],[CD.int 147421033984662306],[CD.int 2955010104097229940],
 [CD.int 14179128828124470481],[CD.int 14488038916154245684],[CD.int 18446744073709551615]])
 (List.map ac
 (iQ
 [[CD.int 18446744073709551615],[CD.int 17603518614768072224],[CD.int 16466767132611215046],
 [CD.int 5755940542857986629],[CD.int 3470879405153129527],[CD.int 17263733006627652379],
 [CD.int 5857503583518590173],[CD.int 147421033984662306],[CD.int 2955010104097229940],
 [CD.int 14179128828124470481],[CD.int 14488038916154245684],[CD.int 18446744073709551615]]
 l))
 [[CD.int ((fun r=>(r.getD 0 (CD.int 0)).toInt) [CD.int 9223372036854775807])],
 [CD.int ((fun r=>(r.getD 0 (CD.int 0)).toInt) [CD.int 8801759307384036112])],
 [CD.int ((fun r=>(r.getD 0 (CD.int 0)).toInt) [CD.int 17456755603160383331])],
 [CD.int ((fun r=>(r.getD 0 (CD.int 0)).toInt) [CD.int 12101342308283769122])],
 [CD.int ((fun r=>(r.getD 0 (CD.int 0)).toInt) [CD.int 10958811739431340571])],
 [CD.int ((fun r=>(r.getD 0 (CD.int 0)).toInt) [CD.int 17855238540168601997])],
 [CD.int ((fun r=>(r.getD 0 (CD.int 0)).toInt) [CD.int 2928751791759295086])],
 [CD.int ((fun r=>(r.getD 0 (CD.int 0)).toInt) [CD.int 73710516992331153])],
 [CD.int ((fun r=>(r.getD 0 (CD.int 0)).toInt) [CD.int 10700877088903390778])],
 [CD.int ((fun r=>(r.getD 0 (CD.int 0)).toInt) [CD.int 7089564414062235240])],
 [CD.int ((fun r=>(r.getD 0 (CD.int 0)).toInt) [CD.int 16467391494931898650])],
 [CD.int ((fun r=>(r.getD 0 (CD.int 0)).toInt) [CD.int 9223372036854775807])]]
 1)=
 [1,0,0,0,0,0,0,0,0,0,0,0]) then
 [0,0,0,0,0,0,0,0,0,0,0,0] =
 gE l∧
 4=dA l
 else
 iQ
 [[CD.int 18446744073709551615],[CD.int 17603518614768072224],[CD.int 16466767132611215046],
 [CD.int 5755940542857986629],[CD.int 3470879405153129527],[CD.int 17263733006627652379],
 [CD.int 5857503583518590173],[CD.int 147421033984662306],[CD.int 2955010104097229940],
 [CD.int 14179128828124470481],[CD.int 14488038916154245684],[CD.int 18446744073709551615]]
 l=
 gE l∧
 0=dA l
theorem acm:av yD Tryz.f179 Hp au=J7:=by kernel_rfl
noncomputable def yk:ai:=al yD 179 (ag Hp)
end Go.Proofs.YteiecapbaeajdaaGreatDoor
namespace Go.Proofs.YteiecapbaeajdaaGreatDoor
open Go Go.Avc Go.Proofs
set_option linter.unusedVariables false
set_option linter.unusedSimpArgs false
set_option maxRecDepth 10000
theorem C1 {l:List (List CD)} (hb:ax l):∀ n,n≤l.length→∀ j,j<(l.length+7) / 8→(aL l n).getD j 0=wd (fun k=>rv l (8*j+k)) (min 8 (n-8*j))
  | 0,_,j,hj=>by
    rw [aL,show min 8 (0-8*j)=0 from by omega,wd,List.getD_eq_getElem?_getD,List.getElem?_replicate]
    split <;>rfl
  | n+1,hn,j,hj=>by
    have ih:=C1 hb n (by omega)
    rw [aL,qB _ _ _ _ (by rw [d8];omega)]
    by_cases e:n / 8=j
    · subst e
      have hv:=FM (f:=fun k=>rv l (8*(n / 8)+k)) (fun k=>hb _) (n%8)
      have hbn:=hb n
      rw [if_pos rfl,ih _ hj,show min 8 (n-8*(n / 8))=n%8 from by omega,show min 8 (n+1-8*(n / 8))=n%8+1 from by omega,cE ⟨hbn.1,by omega⟩,I9 (by omega) hv hbn,wd,show 8*(n / 8)+n%8=n from by omega]
    · rw [if_neg e,ih j hj]
      congr 1
      omega
theorem Il {t:List Int} {k:Nat} {x:Int} (hk:k<t.length):∀ n,k<n→ps (gI (t.set k x)) n=ps (gI t) n+18446744073709551616 ^ k*(x-gI t k)
  | n+1,h=>by
    rw [ps,ps,bN]
    by_cases e:k=n
    · subst e
      rw [if_pos rfl,if_pos hk,fj (f:=gI (t.set k x)) (g:=gI t) fun i hi=>by rw [bN,if_neg (by omega)]]
      grind
    · rw [if_neg e,Il hk n (by omega)]
      grind
theorem HE {l:List (List CD)} (hb:ax l):∀ n,n≤l.length→ps (gI (aL l n)) ((l.length+7) / 8)=wd (rv l) n
  | 0,_=>by
    rw [aL]
    have:∀ n,ps (gI (List.replicate ((l.length+7) / 8) 0)) n=0:=fun n=>by
      induction n with
      | zero=>rfl
      | succ n ih=>
        rw [ps,ih]
        have:gI (List.replicate ((l.length+7) / 8) 0) n=0:=by
          unfold gI
          rw [List.getD_eq_getElem?_getD,List.getElem?_replicate]
          split <;>rfl
        rw [this,Int.mul_zero];rfl
    exact this _
  | n+1,h=>by
    have ih:=HE hb n (by omega)
    have hg:=C1 hb n (by omega) (n / 8) (by omega)
    have hv:=FM (f:=fun k=>rv l (8*(n / 8)+k)) (fun k=>hb _) (n%8)
    have hbn:=hb n
    rw [aL,Il (by rw [d8];omega) _ (by omega),ih,wd]
    rw [hg,show min 8 (n-8*(n / 8))=n%8 from by omega,cE ⟨hbn.1,by omega⟩,I9 (by omega) hv hbn]
    show _+18446744073709551616 ^ (n / 8)*(_-(aL l n).getD (n / 8) 0)=_
    rw [hg,show min 8 (n-8*(n / 8))=n%8 from by omega]
    have e:(256:Int) ^ n=18446744073709551616 ^ (n / 8)*256 ^ (n%8):=by
      have h1:(18446744073709551616:Int) ^ (n / 8)=256 ^ (8*(n / 8)):=by rw [Int.pow_mul];rfl
      rw [h1,← Int.pow_add,Nat.div_add_mod]
    rw [e]
    grind
theorem CF (f:Nat→Int):∀ n,wd f (n+1)=f 0+256*wd (fun k=>f (k+1)) n
  | 0=>by show 0+f 0*256 ^ 0=f 0+256*0;simp
  | n+1=>by
    rw [wd,CF f n,wd,Int.pow_succ]
    grind
theorem MT:∀ {l:List (List CD)},ax l→(bv l:Int)=wd (rv l) l.length
  | [],_=>rfl
  | r::l,h=>by
    have hl:ax l:=fun i=>h (i+1)
    have ih:=MT hl
    rw [List.length_cons,CF]
    have e1:(fun k=>rv (r::l) (k+1))=rv l:=rfl
    have e2:bv (r::l)=(rv (r::l) 0).toNat+256*bv l:=rfl
    rw [e1,← ih,e2]
    have:=(h 0).1
    omega
theorem wY {l:List (List CD)} (hb:ax l):ps (rv ((aL l l.length).map ac)) ((l.length+7) / 8)=bv l:=by
  rw [kJ,HE hb _ (Nat.le_refl _),MT hb]
end Go.Proofs.YteiecapbaeajdaaGreatDoor
namespace Go.Proofs.YteiecapbaeajdaaGreatDoor
open Go Go.Avc Go.Proofs
set_option linter.unusedVariables false
set_option linter.unusedSimpArgs false
set_option maxRecDepth 10000
theorem Jf {f g:Nat→Int} :∀ {n},(∀ i,i<n→ak (f i))→(∀ i,i<n→ak (g i))→ps f n=ps g n→∀ i,i<n→f i=g i
  | n+1,hf,hg,h,i,hi=>by
    have ⟨f1,f2⟩:=fy (n:=n) (f:=f) fun i hi=>hf i (by omega)
    have ⟨g1,g2⟩:=fy (n:=n) (f:=g) fun i hi=>hg i (by omega)
    have hp:=lJ n
    rw [ps,ps] at h
    have hn:f n=g n:=by
      have e:18446744073709551616 ^ n*(f n-g n)=ps g n-ps f n:=by rw [Int.mul_sub];omega
      rcases Int.lt_trichotomy (f n-g n) 0 with k | k | k
      · have:=Int.mul_le_mul_of_nonneg_left (show f n-g n≤-1 by omega) (show (0:Int)≤18446744073709551616 ^ n by omega)
        omega
      · omega
      · have:=Int.mul_le_mul_of_nonneg_left (show 1≤f n-g n by omega) (show (0:Int)≤18446744073709551616 ^ n by omega)
        omega
    by_cases e:i=n
    · rw [e];exact hn
    · exact Jf (n:=n) (fun i hi=>hf i (by omega)) (fun i hi=>hg i (by omega)) (by rw [hn] at h;omega) i (by omega)
theorem dX:bC.length=12:=by decide
theorem lu:ps (rv bC) 12=(bk:Int):=by decide+kernel
theorem LK:ps (rv iv) 12=((bk / 2:Nat):Int):=by decide+kernel
theorem HT {L:List Int} (hl:L.length=12) (h:∀ x∈L,0≤x∧x<18446744073709551616):aG (L.map ac):=⟨by rw [List.length_map];omega,fun i=>by
  rw [eI]
  unfold gI
  rw [List.getD_eq_getElem?_getD]
  cases e:L[i]? with
  | none=>exact ⟨by decide,by decide⟩
  | some x=>exact h x (List.mem_of_getElem? e)⟩
theorem nM:aG bC:=HT (by decide) (by decide+kernel)
theorem vJ:aG iv:=HT (by decide) (by decide+kernel)
theorem D5:mdl bC 1 where
  ok:=nM
  vw:=⟨by decide,by decide⟩
  inv:=by decide+kernel
  len:=by decide
  one:=by rw [dX,lu];decide+kernel
  cop:=fun n=>by
    rw [dX,lu]
    show Nat.gcd (Int.natAbs (18446744073709551616 ^ n)) bk=1
    rw [Int.natAbs_pow]
    exact Nat.Coprime.pow_left n (by decide+kernel:Nat.gcd 18446744073709551616 bk=1)
theorem Nl:(2:Int) ^ (128*12)=18446744073709551616 ^ 12*18446744073709551616 ^ 12:=by decide+kernel
theorem z9:aG (c7 bC)∧(c7 bC).length=12∧ps (rv (c7 bC)) 12=(18446744073709551616 ^ 12*18446744073709551616 ^ 12)%ps (rv bC) 12:=by
  have h0:0<bC.length:=by rw [dX];decide
  have h1:=D5.one
  have hv:=Da nM h0 h1 (128*bC.length)
  unfold c7
  rw [aR]
  refine ⟨tB nM h0 _,(uO _ _).trans dX,?_⟩
  rw [dX] at hv ⊢
  rw [hv]
  exact congrArg (· % ps (rv bC) 12) Nl
theorem Kn {L:List Int} (h:aG (L.map ac)):ic (L.map ac) iv bC (c7 bC) 1:=⟨h,vJ,D5,z9.1,by rw [z9.2.1,dX]⟩
theorem JK {b:List (List CD)} (hb:ax b) (hl:b.length=96) (hlt:bv b<bk):
    cX (fD bC (c7 bC) ((aL b b.length).map ac) iv 1)=rn↔bv b ^ (bk / 2)%bk=1:=by
  have hw:aG ((aL b b.length).map ac):=qc (by omega) hb
  have hA:=wY hb
  rw [hl] at hA
  have hlen:((aL b 96).map ac).length=12:=by rw [List.length_map,d8,hl]
  have ⟨s1,s2,s3⟩:=z9
  have ⟨k1,k2,k3⟩:=Nf (m:=bC) (q:=c7 bC) (a:=(aL b b.length).map ac) (e:=iv) (v:=1) (A:=(bv b:Int)) (E:=bk / 2) D5 s1 (by rw [s2,dX]) (by rw [dX];exact s3) hw
    (by
      rw [hl,hlen,dX,lu]
      rw [show ((96+7) / 8:Nat)=12 from rfl] at hA
      rw [hA]
      exact Int.emod_eq_of_lt (by omega) (by omega)) vJ (by rw [show iv.length=12 from by decide];exact LK)
  rw [dX] at k2 k3
  rw [lu] at k3
  generalize fD bC (c7 bC) ((aL b b.length).map ac) iv 1=x at *
  have e1:ps (rv x) 12=((bv b ^ (bk / 2)%bk:Nat):Int):=by rw [k3];simp
  have hg:∀ i,gI (cX x) i=rv x i:=fun i=>by
    unfold gI cX rv
    rw [List.getD_eq_getElem?_getD (l:=x.map _),List.getElem?_map,List.getD_eq_getElem?_getD (l:=x)]
    cases x[i]? <;>rfl
  have hlx:(cX x).length=12:=by unfold cX;rw [List.length_map,k2]
  have e2:ps (gI (cX x)) 12=ps (rv x) 12:=fj fun i _=>hg i
  have e3:ps (gI rn) 12=1:=by decide+kernel
  constructor
  · intro h
    rw [h,e3,e1] at e2
    omega
  · intro h
    rw [h] at e1
    have hi:=Jf (f:=gI (cX x)) (g:=gI rn) (n:=12) (fun i _=>by rw [hg];exact k1.2 i) (fun i hi=>by
      have:∀ i,i<12→ak (gI rn i):=by unfold ak;decide
      exact this i hi) (by rw [e2,e1,e3];rfl)
    refine List.ext_getElem (by rw [hlx];rfl) fun i h1 h2=> ?_
    have:=hi i (by omega)
    unfold gI at this
    rwa [List.getD_eq_getElem?_getD,List.getElem?_eq_getElem h1,List.getD_eq_getElem?_getD,List.getElem?_eq_getElem h2] at this
theorem JX {b:List (List CD)} (hb:ax b) (hl:b.length=96) (hlt:bv b<bk):
    oW b=true↔cX (fD bC (c7 bC) ((aL b b.length).map ac) iv 1)=rn:=by
  rw [JK hb hl hlt,ny,decide_eq_true (show (b.length:Int)=96 by omega),decide_eq_true hlt]
  by_cases h0:bv b=0
  · rw [decide_eq_false (fun h=>h h0),h0]
    have:(0:Nat) ^ (bk / 2)%bk=0:=by
      rw [Nat.zero_pow (by decide+kernel),Nat.zero_mod]
    rw [this]
    simp
  · rw [decide_eq_true h0]
    have hd:¬ bk∣bv b:=fun h=>by have:=Nat.le_of_dvd (by omega) h;omega
    have:=NT.euler_sy M3 C4 hd
    simpa using this
end Go.Proofs.YteiecapbaeajdaaGreatDoor
namespace Go.Proofs.YteiecapbaeajdaaGreatDoor
open Go Go.Avc Go.Proofs
set_option linter.unusedVariables false
set_option linter.unusedSimpArgs false
set_option maxRecDepth 100000
theorem Zm:Uq:=fun _=>rfl
theorem Wr:af (base.with xy) 232 (ag GJ):=am S8 Tryz.func232 (by kernel_rfl) (by kernel_rfl) Tryz.call232 ade Zm
theorem RO:(base.with zn).Ok:=ae S8 Wr
theorem Ap {l:List Int} (h:l.length=12):List.map (fun x=> [CD.int x]) (List.take 12 (List.drop 0 l))=l.map ac:=by
  rw [List.drop_zero,List.take_of_length_le (by omega)];rfl
theorem Wd:JV:=by
  unfold JV
  intro l hl hk
  rw [Ap hl]
  exact ⟨by omega,hk,rfl,rfl,rfl⟩
theorem Vk:af (base.with zn) 231 (ag EQ):=am RO Tryz.func231 (by kernel_rfl) (by kernel_rfl) Tryz.call231 acQ Wd
theorem SI:(base.with zi).Ok:=ae RO Vk
theorem Nr:pJ bC:=⟨by decide,by decide,nM.2,by decide+kernel,by decide+kernel⟩
theorem Nd:pJ iv:=⟨by decide,by decide,vJ.2,by decide+kernel,by decide+kernel⟩
theorem V0:Tm:=fun _=>⟨trivial,Nr,rfl,by decide+kernel,rfl⟩
theorem ZY:af (base.with zi) 203 (ag Eh):=am SI Tryz.func203 (by kernel_rfl) (by kernel_rfl) Tryz.call203 adI V0
theorem UO:(base.with za).Ok:=ae SI ZY
theorem Yg:(nA 12).1=UH:=by decide+kernel
theorem X4:Kl:=by
  unfold Kl
  intro _
  refine ⟨trivial,⟨⟨by decide,by decide,rfl,rfl⟩,trivial⟩,?_⟩
  intro c i l hl h
  obtain ⟨i0,i1,e1,e2⟩:=h
  refine ab (fun hi=> ?_) (fun hi=> ?_)
  · have hi:=of_decide_eq_true hi
    have n1:(11-(i-1)).toNat=(11-i).toNat+1:=by omega
    have n2:11-(11-i).toNat=i.toNat:=by omega
    rw [n1,nA,n2,← e1,← e2,Nat.mul_one]
    refine ⟨⟨hi,by omega⟩,by omega,by decide,by decide,⟨hi,by omega⟩,by omega,⟨hi,by omega⟩,by omega,by omega,⟨by omega,by omega,rfl,rfl⟩,by omega⟩
  · have hi:=of_decide_eq_false hi
    rw [show (11-i).toNat=12 from by omega,Yg] at e1
    rw [e1]
    exact ⟨Nd,rfl,rfl,rfl⟩
theorem W9:af (base.with za) 206 (ag EC):=am UO Tryz.func206 (by kernel_rfl) (by kernel_rfl) Tryz.call206 abX X4
theorem Qp:(base.with yF).Ok:=ae UO W9
theorem Zz:Jz:=by
  unfold Jz
  intro m v q _ _ h
  exact ⟨h,rfl,rfl,rfl,rfl⟩
theorem Xd:af (base.with yF) 234 (ag E7):=am Qp Tryz.func234 (by kernel_rfl) (by kernel_rfl) Tryz.call234 aeg Zz
theorem Ql:(base.with yE).Ok:=ae Qp Xd
theorem A7 {l:List (List CD)} (h:l.length=12):List.map (fun r=>(r.getD 0 (CD.int 0)).toInt) (List.take 12 (List.drop 0 l))=cX l:=by
  rw [List.drop_zero,List.take_of_length_le (by omega)];rfl
theorem XB:Kx:=by
  unfold Kx
  intro m v q h
  exact ⟨by omega,by omega,by omega,A7 h,rfl,rfl,rfl⟩
theorem VN:af (base.with yE) 207 (ag GH):=am Ql Tryz.func207 (by kernel_rfl) (by kernel_rfl) Tryz.call207 acX XB
theorem Ub:(base.with y9).Ok:=ae Ql VN
theorem XO:PE:=fun _=>rfl
theorem UZ:af (base.with y9) 208 (ag DS):=am Ub Tryz.func208 (by kernel_rfl) (by kernel_rfl) Tryz.call208 aeT XO
theorem UJ:(base.with xj).Ok:=ae Ub UZ
theorem V3:J2:=by
  unfold J2
  intro b m v q _ h _
  obtain ⟨hb,hl,hm⟩:=h
  refine ab (fun h=> ?_) (fun h=> ?_)
  · have h:=of_decide_eq_true h
    have k:gX m b=1:=by unfold gX;rw [if_pos h]
    have w:iQ m b=HS:=by unfold iQ;rw [k,if_neg (by decide)]
    rw [w,k]
    exact ⟨rfl,rfl,rfl,rfl,rfl⟩
  have h:=of_decide_eq_false h
  have hlen:((aL b b.length).map ac).length=12:=by rw [List.length_map,d8];omega
  refine ⟨⟨hl,hb⟩,by omega,⟨by omega,by omega⟩,ab (fun h2=> ?_) (fun h2=> ?_)⟩
  · have h2:=of_decide_eq_true h2
    have k:gX m b=4:=by unfold gX;rw [if_neg h,if_neg (by omega)]
    have w:iQ m b=HS:=by unfold iQ;rw [k,if_neg (by decide)]
    rw [w,k]
    exact ⟨rfl,rfl,rfl,rfl,rfl⟩
  · have h2:=of_decide_eq_false h2
    have k:gX m b=0:=by unfold gX;rw [if_neg h,if_pos (by omega)]
    have w:iQ m b=aL b b.length:=by unfold iQ;rw [if_pos k]
    rw [w,k]
    refine ⟨by omega,by omega,?_,rfl,rfl,rfl,rfl⟩
    rw [A7 hlen]
    unfold cX
    rw [List.map_map]
    have:((fun r:List CD=>(r.getD 0 (CD.int 0)).toInt) ∘ ac)=id:=by funext x;rfl
    rw [this,List.map_id]
theorem Zf:af (base.with xj) 204 (ag G2):=am UJ Tryz.func204 (by kernel_rfl) (by kernel_rfl) Tryz.call204 aeq V3
theorem O4:(base.with yh).Ok:=ae UJ Zf
theorem Ng {m q a e:List (List CD)} {v:Int} (hm:aG m) (ha:ce a) (hq:ce q) (hr:aG (cw m a)):(fD m q a e v).length=m.length:=by
  have ⟨o1,o2⟩:=vu hm
  have ⟨s1,s2⟩:=gg (v:=v) (m:=m) (b:=q) hr.2 hq hm
  have ⟨t1,t2⟩:=gg (v:=v) (m:=m) (b:=q) o1.2 hq hm
  unfold fD iL
  rw [aR,aR]
  have ⟨x1,x2⟩:=Bc (v:=v) (e:=e) (k:=(bd e e.length).toNat) hm t1 t2 s1 (bd e e.length).toNat
  exact (gg (v:=v) x1.2 o1.2 hm).2
theorem Xg:Lc:=by
  unfold Lc
  intro a e m v q ha he _ _ h
  obtain ⟨hp,hm⟩:=h
  obtain ⟨p1,p2,p3,p4,p5⟩:=id hp
  have ⟨r1,_,_⟩:=qI p3.ok p1 (by omega) p3.one
  have hlen:=Ng (e:=e.map ac) (v:=v) p3.ok p1.2 p4.2 r1
  rw [Ap ha,Ap he]
  exact ⟨by omega,by omega,hp,by omega,by omega,A7 (by rw [hlen,hm]),rfl,rfl,rfl⟩
theorem Wk:af (base.with yh) 235 (ag FS):=am O4 Tryz.func235 (by kernel_rfl) (by kernel_rfl) Tryz.call235 aeL Xg
theorem OD:(base.with ya).Ok:=ae O4 Wk
theorem Wv:Lp:=by
  unfold Lp
  intro a e m v q ha he h
  exact ⟨h,rfl,rfl,rfl,rfl⟩
theorem YO:af (base.with ya) 205 (ag EF):=am OD Tryz.func205 (by kernel_rfl) (by kernel_rfl) Tryz.call205 ab9 Wv
theorem R4:(base.with yD).Ok:=ae OD YO
theorem Ji {b:List (List CD)} (hb:ax b) (hl:b.length=96):gX bC b=0↔bv b<bk:=by
  have hw:aG ((aL b b.length).map ac):=qc (by omega) hb
  have hlen:((aL b b.length).map ac).length=12:=by rw [List.length_map,d8,hl]
  have hA:=wY hb
  rw [show (b.length+7) / 8=12 from by omega] at hA
  have hmx:bZ ((aL b b.length).map ac) bC=12:=by unfold bZ;rw [hlen,dX];rfl
  have ⟨k1,_⟩:=rR hw.2 nM.2 12
  rw [hA,lu] at k1
  unfold gX
  rw [if_neg (by omega),hmx]
  by_cases hc:d6 ((aL b b.length).map ac) bC 12<0
  · rw [if_pos hc]
    have:=k1.1 hc
    exact ⟨fun _=>by omega,fun _=>rfl⟩
  · rw [if_neg hc]
    exact ⟨fun h=>absurd h (by decide),fun h=>absurd (k1.2 (by omega)) hc⟩
theorem aex {b:List (List CD)} (h:dA b=0):gE b=aL b b.length:=by unfold gE;rw [if_pos h]
theorem QK {b:List (List CD)} (h:dA b≠0):HS=gE b:=by unfold gE;rw [if_neg h]
theorem Vd:J7:=by
  unfold J7
  intro b _ h
  obtain ⟨hb,hl⟩:=h
  refine ⟨trivial,⟨hb,hl,rfl⟩,ab (fun h=> ?_) (fun h=> ?_)⟩
  · have h:gX bC b≠0:=of_decide_eq_true h
    suffices hk:gX bC b=dA b from ⟨QK (by rw [← hk];exact h),hk⟩
    by_cases h96:(b.length:Int)=96
    · have hn:¬ bv b<bk:=fun k=>h ((Ji hb (by omega)).2 k)
      have hg:oW b=false:=by rw [ny,decide_eq_false hn];simp
      rw [← zj h96 hg]
      unfold gX at h ⊢
      rw [if_neg (fun e=>e h96)] at h ⊢
      split at h
      · exact absurd rfl h
      · rename_i hc;rw [if_neg hc]
    · rw [← ME h96]
      unfold gX
      rw [if_pos h96]
  · have h:¬ gX bC b≠0:=of_decide_eq_false h
    have h:gX bC b=0:=Decidable.not_not.1 h
    have h96:(b.length:Int)=96:=by
      apply Classical.byContradiction
      intro e
      unfold gX at h
      rw [if_pos e] at h;cases h
    have hlt:=(Ji hb (by omega)).1 h
    have w:iQ bC b=aL b b.length:=by unfold iQ;rw [if_pos h]
    have hw:aG ((aL b b.length).map ac):=qc (by omega) hb
    have hG:=JX hb (by omega) hlt
    have hp:=Kn hw
    rw [← w] at hp hG
    refine ⟨trivial,rfl,⟨hp,rfl⟩,trivial,ab (fun k=> ?_) (fun k=> ?_)⟩
    · suffices hk:4=dA b from ⟨QK (by rw [← hk];decide),hk⟩
      refine zj h96 ?_
      have k:¬ cX (fD bC (c7 bC) ((iQ bC b).map ac) iv 1)=rn:=by
        have k:(!decide (cX (fD bC (c7 bC) ((iQ bC b).map ac) iv 1)=rn))=true:=k
        simpa using k
      cases hg:oW b with
      | false=>rfl
      | true=>exact absurd (hG.1 hg) k
    · suffices hk:0=dA b from ⟨by show iQ bC b=gE b;rw [w,aex hk.symm],hk⟩
      refine MH h96 ?_
      have k:cX (fD bC (c7 bC) ((iQ bC b).map ac) iv 1)=rn:=by
        have k:(!decide (cX (fD bC (c7 bC) ((iQ bC b).map ac) iv 1)=rn))=false:=k
        simpa using k
      exact hG.2 k
theorem X0:af (base.with yD) 179 (ag Hp):=am R4 Tryz.func179 (by kernel_rfl) (by kernel_rfl) Tryz.call179 acm Vd
theorem Q2:(base.with yk).Ok:=ae R4 X0
end Go.Proofs.YteiecapbaeajdaaGreatDoor
namespace Go.Proofs.YteiecapbaeajdaaGreatDoor
open Go Go.Avc
set_option linter.unusedVariables false
abbrev oi:BPat:= .own 3 [.int .i64]
def GX:Ct:= {ps:= [rb],bs:= [],pre:=fun | [.r b] =>ax b∧b.length≤1000 | _=>False,res:=fun | [.r b] => .ret i64 [] [.i (gU b)] | _=>aj}
def DU:Ct:= {ps:= [rb],bs:= [],pre:=fun | [.r b] =>ax b∧b.length≤1000 | _=>False,res:=fun | [.r b] => .ret i64 [] [.i (dA b)] | _=>aj}
def z7:Ct:= {ps:= [i64],bs:= [],pre:=fun _=>True,res:=fun
  | [.i t] => .ite (decide (t=1)) (.ret (.agg [i64,.nilf,.nils]) [] [.i 1]) (.ite (decide (t=2)) (.ret (.agg [i64,.nilf,.own 0]) [oi] [.i 8,.r [[.int 8]]])
    (.ite (decide (t=3)) (.ret (.agg [i64,.fn 176 [],.own 0]) [oi] [.i 32,.r [[.int 32]]]) (.ite (decide (t=4)) (.ret (.agg [i64,.fn 178 [],.own 0]) [oi] [.i 96,.r [[.int 31],[.int 31],[.int 31],[.int 3]]]) (.ret (.agg [i64,.nilf,.nils]) [] [.i 0]))))
  | _=>aj}
def Bu:Ct:= {ps:= [i64],bs:= [],pre:=fun _=>True,res:=fun | [.i t] => .ret i64 [] [.i (az t)] | _=>aj}
def GB:Ct:= {ps:= [i64,rb],bs:= [],pre:=fun | [.i t,.r l] =>l.length≤1000 | _=>False,res:=fun | [.i t,.r l] => .ret (.tup [i64,i64]) [] [.i (bK t l),.i (bf t l)] | _=>aj}
end Go.Proofs.YteiecapbaeajdaaGreatDoor
namespace Go.Proofs.YteiecapbaeajdaaGreatDoor
open Go Go.Avc Go.Proofs
set_option linter.unusedVariables false
set_option maxRecDepth 100000
def Lu:Prop:= ∀ (l:List (List CD)),
 l.length≤9223372036854775807→
 ax l∧l.length≤1000→
 ax l∧
 bif decide (l.length≠32) then 1=gU l
 else
 bif
 decide
 ((bP (fS l)
 [4891460686036598785,2896914383306846353,13281191951274694749,3486998266802970665] 4).snd=
 (0:Int)) then
 4=gU l
 else 0=gU l
theorem adT:av yk Tryz.f176 GX au=Lu:=by kernel_rfl
noncomputable def uw:ai:=al yk 176 (ag GX)
def KD:Prop:= ∀ (l:List (List CD)),
 l.length≤9223372036854775807→
 ax l∧l.length≤1000→
 (ax l∧l.length≤1000)∧dA l=dA l
theorem acG:av uw Tryz.f178 DU au=KD:=by kernel_rfl
noncomputable def sE:ai:=al uw 178 (ag DU)
def He:Prop:= ∀ (n:Int),
 True→
 bif decide (n=1) then
 bif decide (n=1) then (1:Int)=1
 else
 bif decide (n=2) then (1:Int)=8∧ [] = [[CD.int 8]]
 else
 bif decide (n=3) then
 Miss (2:Nat)
 {n:=0,ov:= [],tm:= [.agg [.int .i64 (1:Int),.nilf,.nils]],hp:= [.cells (265:Nat) [.int .i64 (1:Int),.nilf,.nils]],G:= []}
 else
 bif decide (n=4) then
 Miss (2:Nat)
 {n:=0,ov:= [],tm:= [.agg [.int .i64 (1:Int),.nilf,.nils]],hp:= [.cells (265:Nat) [.int .i64 (1:Int),.nilf,.nils]],G:= []}
 else (1:Int)=0
 else
 bif decide (n=2) then
 bif decide (n=1) then
 Miss (2:Nat)
 {n:=0,ov:= [],tm:= [.agg [.int .i64 (8:Int),.nilf,.own (1:Nat)]],hp:= [.cells (265:Nat) [.int .i64 (8:Int),.nilf,.own (1:Nat)],.own (3:Nat) [.int .i64] [[CD.int 8]]],G:= []}
 else
 bif decide (n=2) then (8:Int)=8∧ [[CD.int 8]] = [[CD.int 8]]
 else
 bif decide (n=3) then
 Miss (2:Nat)
 {n:=0,ov:= [],tm:= [.agg [.int .i64 (8:Int),.nilf,.own (1:Nat)]],hp:= [.cells (265:Nat) [.int .i64 (8:Int),.nilf,.own (1:Nat)],.own (3:Nat) [.int .i64] [[CD.int 8]]],G:= []}
 else
 bif decide (n=4) then
 Miss (2:Nat)
 {n:=0,ov:= [],tm:= [.agg [.int .i64 (8:Int),.nilf,.own (1:Nat)]],hp:= [.cells (265:Nat) [.int .i64 (8:Int),.nilf,.own (1:Nat)],.own (3:Nat) [.int .i64] [[CD.int 8]]],G:= []}
 else
 Miss (2:Nat)
 {n:=0,ov:= [],tm:= [.agg [.int .i64 (8:Int),.nilf,.own (1:Nat)]],hp:= [.cells (265:Nat) [.int .i64 (8:Int),.nilf,.own (1:Nat)],.own (3:Nat) [.int .i64] [[CD.int 8]]],G:= []}
 else
 bif decide (n=3) then
 bif decide (n=1) then
 Miss (2:Nat)
 {n:=0,ov:= [],tm:= [.agg [.int .i64 (32:Int),.fn (176:Nat) [],.own (1:Nat)]],hp:= [.cells (265:Nat) [.int .i64 (32:Int),.fn (176:Nat) [],.own (1:Nat)],.own (3:Nat) [.int .i64] [[CD.int 32]]],G:= []}
 else
 bif decide (n=2) then
 Miss (2:Nat)
 {n:=0,ov:= [],tm:= [.agg [.int .i64 (32:Int),.fn (176:Nat) [],.own (1:Nat)]],hp:= [.cells (265:Nat) [.int .i64 (32:Int),.fn (176:Nat) [],.own (1:Nat)],.own (3:Nat) [.int .i64] [[CD.int 32]]],G:= []}
 else
 bif decide (n=3) then (32:Int)=32∧ [[CD.int 32]] = [[CD.int 32]]
 else
 bif decide (n=4) then
 Miss (2:Nat)
 {n:=0,ov:= [],tm:= [.agg [.int .i64 (32:Int),.fn (176:Nat) [],.own (1:Nat)]],hp:= [.cells (265:Nat) [.int .i64 (32:Int),.fn (176:Nat) [],.own (1:Nat)],.own (3:Nat) [.int .i64] [[CD.int 32]]],G:= []}
 else
 Miss (2:Nat)
 {n:=0,ov:= [],tm:= [.agg [.int .i64 (32:Int),.fn (176:Nat) [],.own (1:Nat)]],hp:= [.cells (265:Nat) [.int .i64 (32:Int),.fn (176:Nat) [],.own (1:Nat)],.own (3:Nat) [.int .i64] [[CD.int 32]]],G:= []}
 else
 bif decide (n=4) then
 bif decide (n=1) then
 Miss (2:Nat)
 {n:=0,ov:= [],tm:= [.agg [.int .i64 (96:Int),.fn (178:Nat) [],.own (1:Nat)]],hp:= [.cells (265:Nat) [.int .i64 (96:Int),.fn (178:Nat) [],.own (1:Nat)],.own (3:Nat) [.int .i64] [[CD.int 31],[CD.int 31],[CD.int 31],[CD.int 3]]],G:= []}
 else
 bif decide (n=2) then
 Miss (2:Nat)
 {n:=0,ov:= [],tm:= [.agg [.int .i64 (96:Int),.fn (178:Nat) [],.own (1:Nat)]],hp:= [.cells (265:Nat) [.int .i64 (96:Int),.fn (178:Nat) [],.own (1:Nat)],.own (3:Nat) [.int .i64] [[CD.int 31],[CD.int 31],[CD.int 31],[CD.int 3]]],G:= []}
 else
 bif decide (n=3) then
 Miss (2:Nat)
 {n:=0,ov:= [],tm:= [.agg [.int .i64 (96:Int),.fn (178:Nat) [],.own (1:Nat)]],hp:= [.cells (265:Nat) [.int .i64 (96:Int),.fn (178:Nat) [],.own (1:Nat)],.own (3:Nat) [.int .i64] [[CD.int 31],[CD.int 31],[CD.int 31],[CD.int 3]]],G:= []}
 else
 bif decide (n=4) then
 (96:Int)=96∧
 [[CD.int 31],[CD.int 31],[CD.int 31],[CD.int 3]] =
 [[CD.int 31],[CD.int 31],[CD.int 31],[CD.int 3]]
 else
 Miss (2:Nat)
 {n:=0,ov:= [],tm:= [.agg [.int .i64 (96:Int),.fn (178:Nat) [],.own (1:Nat)]],hp:= [.cells (265:Nat) [.int .i64 (96:Int),.fn (178:Nat) [],.own (1:Nat)],.own (3:Nat) [.int .i64] [[CD.int 31],[CD.int 31],[CD.int 31],[CD.int 3]]],G:= []}
 else
 bif decide (n=1) then (0:Int)=1
 else
 bif decide (n=2) then (0:Int)=8∧ [] = [[CD.int 8]]
 else
 bif decide (n=3) then
 Miss (2:Nat)
 {n:=0,ov:= [],tm:= [.agg [.int .i64 (0:Int),.nilf,.nils]],hp:= [.cells (265:Nat) [.int .i64 (0:Int),.nilf,.nils]],G:= []}
 else
 bif decide (n=4) then
 Miss (2:Nat)
 {n:=0,ov:= [],tm:= [.agg [.int .i64 (0:Int),.nilf,.nils]],hp:= [.cells (265:Nat) [.int .i64 (0:Int),.nilf,.nils]],G:= []}
 else (0:Int)=0
theorem WW:av sE Tryz.f138 z7 au=He:=by kernel_rfl
noncomputable def up:ai:=al sE 138 (ag z7)
def Mv:Prop:= ∀ (n:Int),
 True→
 True∧
 bif decide (n=1) then 1=az n
 else
 bif decide (n=2) then 8=az n
 else
 bif decide (n=3) then 32=az n
 else bif decide (n=4) then 96=az n else 0=az n
theorem Xr:av up Tryz.f136 Bu au=Mv:=by kernel_rfl
noncomputable def te:ai:=al up 136 (ag Bu)
def Lf:Prop:= ∀ (n:Int) (l:List (List CD)),
 l.length≤9223372036854775807→
 l.length≤1000→
 True∧
 bif decide (az n=0) then
 0=bK n l∧6=bf n l
 else
 l.length≤9223372036854775807→
 (0≤(↑l.length:Int)∧0 < az n)∧
 bif decide ((↑l.length:Int) % az n≠0) then
 0=bK n l∧3=bf n l
 else
 l.length≤9223372036854775807→
 (bw false (decide ((↑l.length:Int)=0))=true→l.length≤9223372036854775807)→
 ((!decide ((↑l.length:Int)=0))=true→
 0≤(↑l.length:Int)∧0 < az n∧(↑l.length:Int)≤IntKind.i64.max)∧
 bif decide ((↑l.length:Int)=0) || decide (1048576 < (↑l.length:Int) / az n) then
 0=bK n l∧7=bf n l
 else
 l.length≤9223372036854775807→
 (0≤(↑l.length:Int)∧0 < az n∧(↑l.length:Int)≤IntKind.i64.max)∧
 (↑l.length:Int) / az n=bK n l∧
 0=bf n l
theorem aeP:av te Tryz.f91 GB au=Lf:=by kernel_rfl
noncomputable def wZ:ai:=al te 91 (ag GB)
end Go.Proofs.YteiecapbaeajdaaGreatDoor
namespace Go.Proofs.YteiecapbaeajdaaGreatDoor
open Go Go.Avc Go.Proofs
set_option linter.unusedVariables false
set_option linter.unusedSimpArgs false
set_option maxRecDepth 100000
theorem D4 {L:List Int} (h:L.length=4):vl L=ps (gI L) 4:=by
  obtain ⟨a,b,c,d,rfl⟩:=lU h
  show a+18446744073709551616*(b+18446744073709551616*(c+18446744073709551616*(d+18446744073709551616*0)))=0+18446744073709551616 ^ 0*a+18446744073709551616 ^ 1*b+18446744073709551616 ^ 2*c+18446744073709551616 ^ 3*d
  grind
theorem Rs {l:List (List CD)} (hb:ax l) (hl:l.length=32):vl (fS l)=bv l:=by
  have h:=wY hb
  have h4:(aL l l.length).length=4:=by rw [d8];omega
  have e4:(l.length+7) / 8=4:=by omega
  rw [kJ,e4] at h
  have hw:fS l=aL l l.length:=by unfold fS;rw [hl]
  rw [hw,D4 h4]
  exact h
theorem Vl:Lu:=by
  unfold Lu
  intro l _ h
  obtain ⟨hb,hl⟩:=h
  refine ⟨hb,ab (fun h=> ?_) (fun h=> ?_)⟩
  · have h:=of_decide_eq_true h
    unfold gU
    rw [if_pos (by omega)]
  have h:=of_decide_eq_false h
  have h:l.length=32:=by omega
  have k:=(GG (a:=fS l) (by unfold fS;rw [d8,h]) (uS l _)).1
  rw [Rs hb h] at k
  unfold pW at k
  generalize bP (fS l) [4891460686036598785,2896914383306846353,13281191951274694749,3486998266802970665] 4=bo at *
  unfold gU go
  rw [if_neg (by omega)]
  refine ab (fun h2=> ?_) (fun h2=> ?_)
  · have h2:=k.1 (of_decide_eq_true h2)
    rw [if_pos (by omega)]
  · have h2:¬ bo.2=0:=of_decide_eq_false h2
    rw [if_neg (fun e=>h2 (k.2 (by omega)))]
theorem W8:af (base.with yk) 176 (ag GX):=am Q2 Tryz.func176 (by kernel_rfl) (by kernel_rfl) Tryz.call176 adT Vl
theorem L6:(base.with uw).Ok:=ae Q2 W8
theorem Va:KD:=by
  unfold KD
  intro l _ h
  exact ⟨h,rfl⟩
theorem XM:af (base.with uw) 178 (ag DU):=am L6 Tryz.func178 (by kernel_rfl) (by kernel_rfl) Tryz.call178 acG Va
theorem Mh:(base.with sE).Ok:=ae L6 XM
theorem SK:He:=by
  unfold He
  intro n _
  exact ab (fun h1=>jt h1 rfl) (fun h1=>ab (fun h2=>cz h1 (jt h2 ⟨rfl,rfl⟩)) (fun h2=>ab (fun h3=>cz h1 (cz h2 (jt h3 ⟨rfl,rfl⟩))) (fun h3=>ab (fun h4=>cz h1 (cz h2 (cz h3 (jt h4 ⟨rfl,rfl⟩)))) (fun h4=>cz h1 (cz h2 (cz h3 (cz h4 rfl)))))))
theorem P1:af (base.with sE) 138 (ag z7):=am Mh Tryz.func138 (by kernel_rfl) (by kernel_rfl) Tryz.call138 WW SK
theorem Ma:(base.with up).Ok:=ae Mh P1
theorem PA:Mv:=fun n h=>⟨trivial,Q5 n h⟩
theorem PK:af (base.with up) 136 (ag Bu):=am Ma Tryz.func136 (by kernel_rfl) (by kernel_rfl) Tryz.call136 Xr PA
theorem MQ:(base.with te).Ok:=ae Ma PK
theorem W2:Lf:=by
  unfold Lf
  intro t l _ hlen
  have hs:=pD t
  refine ⟨trivial,ab (fun h=> ?_) (fun h=> ?_)⟩
  · have h:=of_decide_eq_true h
    have k:bf t l=6:=by unfold bf;rw [if_pos h]
    unfold bK
    rw [k]
    exact ⟨rfl,rfl⟩
  have h:=of_decide_eq_false h
  intro _
  refine ⟨⟨by omega,by omega⟩,ab (fun h2=> ?_) (fun h2=> ?_)⟩
  · have k:bf t l=3:=by unfold bf;rw [if_neg h,if_pos (of_decide_eq_true h2)]
    unfold bK
    rw [k]
    exact ⟨rfl,rfl⟩
  have h2:=of_decide_eq_false h2
  have hd:=Int.emod_add_mul_ediv (l.length:Int) (az t)
  have hz:(l.length:Int) / az t<1↔(l.length:Int)=0:=by
    have h0:0≤(l.length:Int) / az t:=Int.ediv_nonneg (by omega) (by omega)
    constructor
    · intro e
      have e0:(l.length:Int) / az t=0:=by omega
      rw [e0,Int.mul_zero] at hd
      omega
    · intro e
      rw [e,Int.zero_ediv];decide
  have hm:IntKind.i64.max=9223372036854775807:=by decide
  rw [hm]
  intro _ _
  refine ⟨fun _=>⟨by omega,by omega,by omega⟩,ab (fun h3=> ?_) (fun h3=> ?_)⟩
  · have h3:(l.length:Int) / az t<1∨1048576<(l.length:Int) / az t:=by
      rw [Bool.or_eq_true] at h3
      exact h3.imp (fun e=>hz.2 (of_decide_eq_true e)) of_decide_eq_true
    have k:bf t l=7:=by unfold bf;rw [if_neg h,if_neg h2,if_pos h3]
    unfold bK
    rw [k]
    exact ⟨rfl,rfl⟩
  · have h3:¬ ((l.length:Int) / az t<1∨1048576<(l.length:Int) / az t):=by
      rw [Bool.or_eq_false_iff] at h3
      have k1:=of_decide_eq_false h3.1
      have k2:=of_decide_eq_false h3.2
      rw [hz]
      omega
    have k:bf t l=0:=by unfold bf;rw [if_neg h,if_neg h2,if_neg h3]
    intro _
    refine ⟨⟨by omega,by omega,by omega⟩,?_⟩
    unfold bK
    rw [k,if_pos rfl]
    exact ⟨rfl,rfl⟩
theorem VL:af (base.with te) 91 (ag GB):=am MQ Tryz.func91 (by kernel_rfl) (by kernel_rfl) Tryz.call91 aeP W2
theorem Pt:(base.with wZ).Ok:=ae MQ VL
end Go.Proofs.YteiecapbaeajdaaGreatDoor
namespace Go.Proofs.YteiecapbaeajdaaGreatDoor
open Go Go.Avc
set_option linter.unusedVariables false
def Gu:Ct:= {ps:= [i64,rb],bs:= [],pre:=fun | [.i t,.r l] =>fT l | _=>False,res:=fun | [.i t,.r l] => .ret i64 [] [.i (bM t l)] | _=>aj}
def fl (t:Int) (l:List (List CD)) (u:Int) (l':List (List CD)) (i s:Int):Prop:=t=u∧l'=l∧bf t l=0∧s=az t∧0≤i∧i≤l.length∧i%az t=0∧j6 t l (i / az t).toNat=true
def Hy:List (Nat×Pat):= [(1,rb),(7,.ptr 0 0),(8,i64)]
def QS:List Dat→Ann
  | [.i t,.r l] => {cut:= [],loop:= [(6,[
      la 44 Hy [.cells 265 [i64,.nilf,.nils]] (fun | [.r l',.i i,.i s] =>t=1∧bf t l=0∧i=0 | _=>False) (fun _=>0),
      la 44 Hy [.cells 265 [i64,.nilf,.own 1],oi] (fun | [.r l',.i i,.i s,.r _] =>t=2∧bf t l=0∧i=0 | _=>False) (fun _=>0),
      la 44 Hy [.cells 265 [i64,.fn 176 [],.own 1],oi] (fun | [.r l',.i i,.i s,.r _] =>fl t l 3 l' i s | _=>False) (fun | [.r l',.i i,_,_] =>(l'.length-i).toNat | _=>0),
      la 44 Hy [.cells 265 [i64,.fn 178 [],.own 1],oi] (fun | [.r l',.i i,.i s,.r _] =>fl t l 4 l' i s | _=>False) (fun | [.r l',.i i,_,_] =>(l'.length-i).toNat | _=>0)])]}
  | _=> {cut:= [],loop:= []}
def EG:Ct:= {ps:= [q7],bs:= [],pre:=fun | [.i k,.i t,.i c,.r l] =>fT l | _=>False,res:=fun | [.i k,.i t,.i c,.r l] => .ret .bool [] [.b (dL k t c l)] | _=>aj}
end Go.Proofs.YteiecapbaeajdaaGreatDoor
