/-
 Numbers: signs of rests (Gauss, Schering), their product, the law of reciprocity, powers modulo a prime (Euler). No program in sight.
-/
import Derived.Test.YteiecapbaeajdaaGreatDoorJ8
import Derived.KernelRfl
namespace Go.NT
set_option linter.unusedVariables false
def fo {α:Type} (op:α→α→α) (z:α) (f:Nat→α):Nat→α
 | 0=>z
 | n+1=>op (fo op z f n) (f n)
theorem sd {α:Type} {op:α→α→α} {z:α} {f g:Nat→α} :∀ {n},(∀ k,k<n→f k=g k)→fo op z f n=fo op z g n
 | 0,_=>rfl
 | n+1,h=>by rw [fo,fo,sd fun k hk=>h k (by omega),h n (by omega)]
theorem Qz {α:Type} {op:α→α→α} {z:α} (hc:∀ x y,op x y=op y x) (ha:∀ x y w,op (op x y) w=op x (op y w)) (f:Nat→α) (u:α) (j:Nat):∀ n,j<n→op (fo op z (fun k=>if k=j then u else f k) n) (f j)=op (fo op z f n) u
 | n+1,h=>by
  rw [fo,fo]
  by_cases e:n=j
  ·subst e
   rw [if_pos rfl,sd (g:=f) fun k hk=>if_neg (by omega),ha,ha,hc u]
  ·rw [if_neg e,ha,hc (f n),← ha,Qz hc ha f u j n (by omega),ha,ha,hc u]
theorem QS:∀ (n:Nat) (f:Nat→Nat),(∀ k,k<n+1→f k<n)→(∀ i j,i<n+1→j<n+1→f i=f j→i=j)→False
 | 0,f,h,_=>by have:=h 0 (by omega);omega
 | n+1,f,h,hi=>by
  refine QS n (fun k=>if f k=n then f (n+1) else f k) (fun k hk=> ?_) (fun i j hi' hj' e=> ?_)
  ·have h1:=h k (by omega)
   have h2:=h (n+1) (by omega)
   have h3:f k=n→f (n+1)≠n:=fun e1 e2=>by have:=hi k (n+1) (by omega) (by omega) (by omega);omega
   show (if f k=n then f (n+1) else f k)<n
   split
   ·rename_i e;have:=h3 e;omega
   ·omega
  ·have e:(if f i=n then f (n+1) else f i)=(if f j=n then f (n+1) else f j):=e
   have h1:f i=f (n+1)→False:=fun e1=>by have:=hi i (n+1) (by omega) (by omega) e1;omega
   have h2:f j=f (n+1)→False:=fun e1=>by have:=hi j (n+1) (by omega) (by omega) e1;omega
   split at e
   ·split at e
    ·exact hi i j (by omega) (by omega) (by omega)
    ·exact (h2 e.symm).elim
   ·split at e
    ·exact (h1 e).elim
    ·exact hi i j (by omega) (by omega) e
theorem yM {α:Type} {op:α→α→α} {z:α} (hc:∀ x y,op x y=op y x) (ha:∀ x y w,op (op x y) w=op x (op y w)) (g:Nat→α):∀ (n:Nat) (f:Nat→Nat),(∀ k,k<n→f k<n)→(∀ i j,i<n→j<n→f i=f j→i=j)→fo op z (fun k=>g (f k)) n=fo op z g n
 | 0,f,_,_=>rfl
 | n+1,f,h,hi=>by
  have ⟨j,hj,e⟩:∃ j,j<n+1∧f j=n:=by
   apply Classical.byContradiction
   intro hn
   refine QS n f (fun k hk=> ?_) (fun i j hi' hj'=>hi i j hi' hj')
   have h1:=h k hk
   have h2:f k≠n:=fun e=>hn ⟨k,hk,e⟩
   omega
  by_cases hjn:j=n
  ·subst hjn
   rw [fo,fo,e,yM hc ha g j f (fun k hk=> ?_) (fun i k hi' hk'=>hi i k (by omega) (by omega))]
   have h1:=h k (by omega)
   have h2:f k≠j:=fun e2=>by have:=hi k j (by omega) (by omega) (by omega);omega
   omega
  ·have ih:=yM (z:=z) hc ha g n (fun k=>if k=j then f n else f k) (fun k hk=>by
     show (if k=j then f n else f k)<n
     have h3:f n≠n:=fun e2=>by have:=hi n j (by omega) (by omega) (by omega);omega
     have h4:=h n (by omega)
     split
     ·omega
     ·rename_i hk2
      have h1:=h k (by omega)
      have h2:f k≠n:=fun e2=>by have:=hi k j (by omega) (by omega) (by omega);omega
      omega) (fun i k hi' hk' e2=>by
     have e2:(if i=j then f n else f i)=(if k=j then f n else f k):=e2
     split at e2
     ·split at e2
      ·omega
      ·have:=hi n k (by omega) (by omega) e2;omega
     ·split at e2
      ·have:=hi i n (by omega) (by omega) e2;omega
      ·exact hi i k (by omega) (by omega) e2)
   have hu:=Qz hc ha (z:=z) (fun k=>g (f k)) (g (f n)) j n (by omega)
   rw [fo,fo,← ih,← hu,e]
   congr 1
   exact sd fun k hk=>by split <;>rfl
theorem int_cop {m x y:Int} (h:m∣x*y) (hg:Int.gcd x m=1):m∣y:=by
 rw [← Int.natAbs_dvd_natAbs,Int.natAbs_mul] at h
 rw [← Int.natAbs_dvd_natAbs]
 exact Nat.Coprime.dvd_of_dvd_mul_left (Nat.Coprime.symm hg) h
def su (f:Nat→Nat) (n:Nat):Nat:=fo Nat.add 0 f n
def pd (f:Nat→Int) (n:Nat):Int:=fo (fun x y=>x*y) 1 f n
theorem vO (f:Nat→Nat) (n:Nat):su f (n+1)=su f n+f n:=rfl
theorem tH (f:Nat→Int) (n:Nat):pd f (n+1)=pd f n*f n:=rfl
theorem vV {f g:Nat→Nat} {n:Nat} (h:∀ k,k<n→f k=g k):su f n=su g n:=sd h
theorem Kk {f g:Nat→Int} {n:Nat} (h:∀ k,k<n→f k=g k):pd f n=pd g n:=sd h
theorem uB (f g:Nat→Nat):∀ n,su (fun k=>f k+g k) n=su f n+su g n
 | 0=>rfl
 | n+1=>by rw [vO,vO,vO,uB f g n];omega
theorem uP (a:Nat):∀ n,su (fun _=>a) n=n*a
 | 0=>by rw [Nat.zero_mul];rfl
 | n+1=>by rw [vO,uP a n,Nat.succ_mul]
theorem LB (f:Nat→Nat→Nat) (m:Nat):∀ n,su (fun i=>su (fun j=>f i j) m) n=su (fun j=>su (fun i=>f i j) n) m
 | 0=>by
  rw [show su (fun j=>su (fun i=>f i j) 0) m=su (fun _=>0) m from rfl,uP,Nat.mul_zero];rfl
 | n+1=>by
  rw [vO,LB f m n,← uB]
  rfl
theorem IJ (f g:Nat→Int):∀ n,pd (fun k=>f k*g k) n=pd f n*pd g n
 | 0=>rfl
 | n+1=>by rw [tH,tH,tH,IJ f g n];grind
theorem Xv (g:Nat→Nat) {n:Nat} {f:Nat→Nat} (h:∀ k,k<n→f k<n) (hi:∀ i j,i<n→j<n→f i=f j→i=j):su (fun k=>g (f k)) n=su g n:=yM Nat.add_comm Nat.add_assoc g n f h hi
theorem KX (g:Nat→Int) {n:Nat} {f:Nat→Nat} (h:∀ k,k<n→f k<n) (hi:∀ i j,i<n→j<n→f i=f j→i=j):pd (fun k=>g (f k)) n=pd g n:=yM Int.mul_comm Int.mul_assoc g n f h hi
def rs (h a k:Nat):Nat:=a*(k+1)%(2*h+1)
def ep (h a k:Nat):Int:=if h<rs h a k then -1 else 1
def pl (h a k:Nat):Nat:=(if h<rs h a k then 2*h+1-rs h a k else rs h a k)-1
def gs (h a:Nat):Int:=pd (ep h a) h
theorem Cu (h a k:Nat):ep h a k=1∨ep h a k= -1:=by unfold ep;split <;>simp
theorem Kx {h a k:Nat} (hg:Nat.gcd a (2*h+1)=1) (hk:k<h):0<rs h a k:=by
 apply Nat.pos_of_ne_zero
 intro e
 have hd:(2*h+1)∣a*(k+1):=Nat.dvd_of_mod_eq_zero e
 have h1:=(Nat.Coprime.symm hg).dvd_of_dvd_mul_left hd
 have:=Nat.le_of_dvd (by omega) h1
 omega
theorem Nl (h a k:Nat):rs h a k<2*h+1:=Nat.mod_lt _ (by omega)
theorem yN {h a k:Nat} (hg:Nat.gcd a (2*h+1)=1) (hk:k<h):pl h a k<h:=by
 have h1:=Kx hg hk
 have h2:=Nl h a k
 unfold pl
 split <;>omega
theorem zH {h a k:Nat} (hg:Nat.gcd a (2*h+1)=1) (hk:k<h):((2*h+1:Nat):Int)∣(a:Int)*(k+1)-ep h a k*(pl h a k+1):=by
 have h1:=Kx hg hk
 have h2:=Nl h a k
 have h3:a*(k+1)=(2*h+1)*(a*(k+1) / (2*h+1))+rs h a k:=(Nat.div_add_mod _ _).symm
 have h4:(a:Int)*(k+1)=((2*h+1:Nat):Int)*((a*(k+1) / (2*h+1):Nat):Int)+(rs h a k:Int):=by
  have:((a*(k+1):Nat):Int)=(((2*h+1)*(a*(k+1) / (2*h+1))+rs h a k:Nat):Int):=congrArg _ h3
  rw [Int.natCast_add,Int.natCast_mul,Int.natCast_mul] at this
  rw [← this];simp
 rw [h4]
 unfold ep pl
 by_cases hc:h<rs h a k
 ·rw [if_pos hc,if_pos hc]
  refine ⟨((a*(k+1) / (2*h+1):Nat):Int)+1,?_⟩
  have:((2*h+1-rs h a k-1:Nat):Int)+1=((2*h+1:Nat):Int)-rs h a k:=by omega
  rw [this]
  grind
 ·rw [if_neg hc,if_neg hc]
  refine ⟨((a*(k+1) / (2*h+1):Nat):Int),?_⟩
  have:((rs h a k-1:Nat):Int)+1=rs h a k:=by omega
  rw [this]
  grind
theorem QM {h u v:Nat} {d e:Int} (hd:d=1∨d= -1) (he:e=1∨e= -1) (hu:u<h) (hv:v<h) (k:((2*h+1:Nat):Int)∣d*(u+1)-e*(v+1)):d=e∧u=v:=by
 obtain ⟨q,hq⟩:=k
 have hb:∀ x:Int,((2*h+1:Nat):Int)*q=x→-(2*h+1:Int)<x→x<2*h+1→x=0:=fun x hx h1 h2=>by
  have h0:q=0:=by
   rcases Int.lt_trichotomy q 0 with hq | hq | hq
   ·have:((2*h+1:Nat):Int)*q≤((2*h+1:Nat):Int)* -1:=Int.mul_le_mul_of_nonneg_left (by omega) (by omega)
    omega
   ·exact hq
   ·have:((2*h+1:Nat):Int)*1≤((2*h+1:Nat):Int)*q:=Int.mul_le_mul_of_nonneg_left (by omega) (by omega)
    omega
  rw [← hx,h0,Int.mul_zero]
 rcases hd with rfl | rfl <;>rcases he with rfl | rfl
 ·have:=hb _ hq.symm (by omega) (by omega);omega
 ·have:=hb _ hq.symm (by omega) (by omega);omega
 ·have:=hb _ hq.symm (by omega) (by omega);omega
 ·have:=hb _ hq.symm (by omega) (by omega);omega
theorem IG {h a:Nat} (hg:Nat.gcd a (2*h+1)=1) (i j:Nat) (hi:i<h) (hj:j<h) (e:pl h a i=pl h a j):i=j:=by
 have h1:=zH hg hi
 have h2:=zH hg hj
 rw [e] at h1
 have key:∃ s:Int,(s=1∨s= -1)∧((2*h+1:Nat):Int)∣(a:Int)*(1*((i:Int)+1)-s*(j+1)):=by
  rcases Cu h a i with e1 | e1 <;>rcases Cu h a j with e2 | e2 <;>rw [e1] at h1 <;>rw [e2] at h2
  ·refine ⟨1,.inl rfl,?_⟩
   have e:(a:Int)*(1*((i:Int)+1)-1*(j+1))=a*(i+1)-1*(pl h a j+1)-(a*(j+1)-1*(pl h a j+1)):=by grind
   rw [e];exact Int.dvd_sub h1 h2
  ·refine ⟨-1,.inr rfl,?_⟩
   have e:(a:Int)*(1*((i:Int)+1)- -1*(j+1))=a*(i+1)-1*(pl h a j+1)+(a*(j+1)- -1*(pl h a j+1)):=by grind
   rw [e];exact Int.dvd_add h1 h2
  ·refine ⟨-1,.inr rfl,?_⟩
   have e:(a:Int)*(1*((i:Int)+1)- -1*(j+1))=a*(i+1)- -1*(pl h a j+1)+(a*(j+1)-1*(pl h a j+1)):=by grind
   rw [e];exact Int.dvd_add h1 h2
  ·refine ⟨1,.inl rfl,?_⟩
   have e:(a:Int)*(1*((i:Int)+1)-1*(j+1))=a*(i+1)- -1*(pl h a j+1)-(a*(j+1)- -1*(pl h a j+1)):=by grind
   rw [e];exact Int.dvd_sub h1 h2
 obtain ⟨s,hs,hd⟩:=key
 have hd2:((2*h+1:Nat):Int)∣1*((i:Int)+1)-s*(j+1):=int_cop hd hg
 exact (QM (.inl rfl) hs hi hj hd2).2
theorem LQ {a b n:Nat} (ha:Nat.gcd a n=1) (hb:Nat.gcd b n=1):Nat.gcd (a*b) n=1:=Nat.Coprime.mul_left ha hb
theorem aao {h a b:Nat} (ha:Nat.gcd a (2*h+1)=1) (hb:Nat.gcd b (2*h+1)=1):gs h (a*b)=gs h a*gs h b:=by
 have key:∀ k,k<h→ep h (a*b) k=ep h a (pl h b k)*ep h b k:=fun k hk=>by
  have h1:=zH hb hk
  have hp:=yN hb hk
  have h2:=zH ha hp
  have h3:=zH (LQ ha hb) hk
  have h4:((2*h+1:Nat):Int)∣(a:Int)*b*(k+1)-ep h a (pl h b k)*ep h b k*(pl h a (pl h b k)+1):=by
   have e:(a:Int)*b*(k+1)-ep h a (pl h b k)*ep h b k*(pl h a (pl h b k)+1)=a*(b*(k+1)-ep h b k*(pl h b k+1))+ep h b k*(a*(pl h b k+1)-ep h a (pl h b k)*(pl h a (pl h b k)+1)):=by grind
   rw [e]
   exact Int.dvd_add (Int.dvd_mul_of_dvd_right h1) (Int.dvd_mul_of_dvd_right h2)
  rw [Int.natCast_mul] at h3
  have h5:=Int.dvd_sub h4 h3
  have e:(a:Int)*b*(k+1)-ep h a (pl h b k)*ep h b k*(pl h a (pl h b k)+1)-(a*b*(k+1)-ep h (a*b) k*(pl h (a*b) k+1))=ep h (a*b) k*(pl h (a*b) k+1)-ep h a (pl h b k)*ep h b k*(pl h a (pl h b k)+1):=by grind
  rw [e] at h5
  have hor:ep h a (pl h b k)*ep h b k=1∨ep h a (pl h b k)*ep h b k= -1:=by
   rcases Cu h a (pl h b k) with e1 | e1 <;>rcases Cu h b k with e2 | e2 <;>rw [e1,e2] <;>decide
  exact (QM (Cu _ _ _) hor (yN (LQ ha hb) hk) (yN ha hp) h5).1
 unfold gs
 rw [Kk key,IJ,KX (ep h a) (fun k hk=>yN hb hk) fun i j hi hj=>IG hb i j hi hj]
theorem PY (h a:Nat):gs h (a%(2*h+1))=gs h a:=by
 unfold gs
 refine Kk fun k hk=> ?_
 have e:rs h (a%(2*h+1)) k=rs h a k:=by unfold rs;rw [Nat.mod_mul_mod]
 unfold ep
 rw [e]
theorem aaN {h a:Nat} (ha:2*h+1≤a):gs h (a-(2*h+1))=gs h a:=by
 rw [← PY h a,← PY h (a-_),← Nat.mod_eq_sub_mod ha]
def OM (n:Nat):Int:=pd (fun k=>(k:Int)+1) n
theorem Jv (a:Int) (f:Nat→Int):∀ n,pd (fun k=>a*f k) n=a ^ n*pd f n
 | 0=>by show (1:Int)=a ^ 0*1;simp
 | n+1=>by rw [tH,tH,Jv a f n,Int.pow_succ];grind
theorem K7 {m:Int} {f g:Nat→Int} :∀ {n},(∀ k,k<n→m∣f k-g k)→m∣pd f n-pd g n
 | 0,_=>by show m∣1-1;simp
 | n+1,hk=>by
  have h1:=K7 (n:=n) fun k h=>hk k (by omega)
  have h2:=hk n (by omega)
  rw [tH,tH,show pd f n*f n-pd g n*g n=(pd f n-pd g n)*f n+pd g n*(f n-g n) from by grind]
  exact Int.dvd_add (Int.dvd_mul_of_dvd_left h1) (Int.dvd_mul_of_dvd_right h2)
theorem Me {p:Nat} (hp:Pr p):∀ n,n<p→Int.gcd (OM n) p=1
 | 0,_=>by show Int.gcd 1 p=1;simp
 | n+1,hn=>by
  have ih:=Me hp n (by omega)
  have h1:Nat.gcd (n+1) p=1:=by
   rw [Nat.gcd_comm]
   exact hp.coprime fun hd=>by have:=Nat.le_of_dvd (by omega) hd;omega
  unfold OM
  rw [tH]
  show Nat.gcd (Int.natAbs (OM n*((n:Int)+1))) p=1
  rw [Int.natAbs_mul]
  exact Nat.Coprime.mul_left ih h1
theorem al8 {h a:Nat} (hp:Pr (2*h+1)) (ha:Nat.gcd a (2*h+1)=1):((2*h+1:Nat):Int)∣(a:Int) ^ h-gs h a:=by
 have h1:((2*h+1:Nat):Int)∣pd (fun k=>(a:Int)*((k:Int)+1)) h-pd (fun k=>ep h a k*((pl h a k:Nat)+1:Int)) h:=K7 fun k hk=>zH ha hk
 rw [Jv,IJ,KX (fun k=>(k:Int)+1) (fun k hk=>yN ha hk) fun i j hi hj=>IG ha i j hi hj] at h1
 have e:(a:Int) ^ h*pd (fun k=>(k:Int)+1) h-pd (fun k=>ep h a k) h*pd (fun k=>(k:Int)+1) h=OM h*((a:Int) ^ h-gs h a):=by unfold OM gs;grind
 rw [e] at h1
 exact int_cop h1 (Me hp h (by omega))
theorem Cd (h:Nat):∀ n,n≤h→pd (ep h 2) n=if (n-h / 2)%2=0 then 1 else -1
 | 0,_=>by rw [Nat.zero_sub];rfl
 | n+1,hn=>by
  rw [tH,Cd h n (by omega)]
  have e:rs h 2 n=2*(n+1):=Nat.mod_eq_of_lt (by omega)
  unfold ep
  rw [e]
  by_cases hc:h<2*(n+1)
  ·rw [if_pos hc]
   have h1:n+1-h / 2=n-h / 2+1:=by omega
   rw [h1]
   rcases Nat.mod_two_eq_zero_or_one (n-h / 2) with e1 | e1
   ·rw [if_pos e1,if_neg (by omega)];rfl
   ·rw [if_neg (by omega),if_pos (by omega)];rfl
  ·rw [if_neg hc]
   have h1:n+1-h / 2=0:=by omega
   have h2:n-h / 2=0:=by omega
   rw [h1,h2];rfl
theorem adK (h:Nat):gs h 2=if (2*h+1)%8=3∨(2*h+1)%8=5 then -1 else 1:=by
 unfold gs
 rw [Cd h h (Nat.le_refl _)]
 by_cases hc:(2*h+1)%8=3∨(2*h+1)%8=5
 ·rw [if_pos hc,if_neg (by omega)]
 ·rw [if_neg hc,if_pos (by omega)]
def np (m:Nat):Int:=if m%2=0 then 1 else -1
theorem I6 (m n:Nat):np (m+n)=np m*np n:=by
 have h:=Nat.add_mod m n 2
 unfold np
 rw [h]
 rcases Nat.mod_two_eq_zero_or_one m with e1 | e1 <;>rcases Nat.mod_two_eq_zero_or_one n with e2 | e2 <;>rw [e1,e2] <;>rfl
def ng (h a k:Nat):Nat:=if h<rs h a k then 1 else 0
theorem B3 (h a:Nat):∀ n,pd (ep h a) n=np (su (ng h a) n)
 | 0=>rfl
 | n+1=>by
  rw [tH,vO,I6,B3 h a n]
  congr 1
  unfold ep ng
  split <;>rfl
theorem Fp {f g:Nat→Nat} :∀ {n},(∀ k,k<n→f k%2=g k%2)→su f n%2=su g n%2
 | 0,_=>rfl
 | n+1,h=>by
  have h1:=Fp (n:=n) fun k hk=>h k (by omega)
  have h2:=h n (by omega)
  rw [vO,vO]
  omega
theorem Ju {h b:Nat} (ha:Nat.gcd (2*b+1) (2*h+1)=1):gs h (2*b+1)=np (su (fun k=>(2*b+1)*(k+1) / (2*h+1)) h):=by
 unfold gs
 rw [B3]
 have key:∀ k,k<h→(k+1+ng h (2*b+1) k)%2=((2*b+1)*(k+1) / (2*h+1)+(pl h (2*b+1) k+1))%2:=fun k hk=>by
  have h1:=Kx ha hk
  have h2:=Nl h (2*b+1) k
  have h3:(2*b+1)*(k+1)=(2*h+1)*((2*b+1)*(k+1) / (2*h+1))+rs h (2*b+1) k:=(Nat.div_add_mod _ _).symm
  generalize (2*b+1)*(k+1) / (2*h+1)=f at h3 ⊢
  have h4:(2*b+1)*(k+1)=2*(b*(k+1))+(k+1):=by grind
  have h5:(2*h+1)*f=2*(h*f)+f:=by grind
  rw [h4,h5] at h3
  unfold ng pl
  split <;>omega
 have h1:=Fp key
 have h0:su (fun k=>pl h (2*b+1) k+1) h=su (fun k=>k+1) h:=Xv (fun k=>k+1) (fun k hk=>yN ha hk) fun i j hi hj=>IG ha i j hi hj
 have e3:=uB (fun k=>k+1) (ng h (2*b+1)) h
 have e4:=uB (fun k=>(2*b+1)*(k+1) / (2*h+1)) (fun k=>pl h (2*b+1) k+1) h
 rw [e3,e4,h0] at h1
 unfold np
 have:su (ng h (2*b+1)) h%2=su (fun k=>(2*b+1)*(k+1) / (2*h+1)) h%2:=by omega
 rw [this]
theorem A2 {x n:Nat} (hn:0<n):∀ m,su (fun j=>if n*(j+1)≤x then 1 else 0) m=if x / n<m then x / n else m
 | 0=>by simp;rfl
 | m+1=>by
  rw [vO,A2 hn m]
  have:n*(m+1)≤x↔m+1≤x / n:=by rw [Nat.le_div_iff_mul_le hn,Nat.mul_comm]
  by_cases hc:n*(m+1)≤x
  ·have:=this.1 hc
   rw [if_pos hc,if_neg (by omega),if_neg (by omega)]
  ·have h1:¬ m+1≤x / n:=fun h=>hc (this.2 h)
   rw [if_neg hc]
   by_cases h2:x / n<m
   ·rw [if_pos h2,if_pos (by omega)];rfl
   ·rw [if_neg h2,if_pos (by omega)];omega
theorem Xz {h b:Nat} (ha:Nat.gcd (2*b+1) (2*h+1)=1):su (fun k=>(2*b+1)*(k+1) / (2*h+1)) h+su (fun j=>(2*h+1)*(j+1) / (2*b+1)) b=h*b:=by
 have e1:∀ k,k<h→(2*b+1)*(k+1) / (2*h+1)=su (fun j=>if (2*h+1)*(j+1)≤(2*b+1)*(k+1) then 1 else 0) b:=fun k hk=>by
  rw [A2 (by omega)]
  split
  ·rfl
  ·rename_i hc
   have:(2*b+1)*(k+1) / (2*h+1)<b+1:=by
    rw [Nat.div_lt_iff_lt_mul (by omega)]
    have:(2*b+1)*(k+1)≤(2*b+1)*h:=Nat.mul_le_mul_left _ (by omega)
    grind
   omega
 have e2:∀ j,j<b→(2*h+1)*(j+1) / (2*b+1)=su (fun k=>if (2*b+1)*(k+1)≤(2*h+1)*(j+1) then 1 else 0) h:=fun j hj=>by
  rw [A2 (by omega)]
  split
  ·rfl
  ·rename_i hc
   have:(2*h+1)*(j+1) / (2*b+1)<h+1:=by
    rw [Nat.div_lt_iff_lt_mul (by omega)]
    have:(2*h+1)*(j+1)≤(2*h+1)*b:=Nat.mul_le_mul_left _ (by omega)
    grind
   omega
 have e3:=LB (fun j k=>if (2*b+1)*(k+1)≤(2*h+1)*(j+1) then 1 else 0) h b
 have e4:=uB (fun k=>su (fun j=>if (2*h+1)*(j+1)≤(2*b+1)*(k+1) then 1 else 0) b) (fun k=>su (fun j=>if (2*b+1)*(k+1)≤(2*h+1)*(j+1) then 1 else 0) b) h
 rw [vV e1,vV e2,e3,← e4,← uP b h]
 refine vV fun k hk=> ?_
 have e5:=uB (fun j=>if (2*h+1)*(j+1)≤(2*b+1)*(k+1) then 1 else 0) (fun j=>if (2*b+1)*(k+1)≤(2*h+1)*(j+1) then 1 else 0) b
 rw [← e5,vV (g:=fun _=>1) fun j hj=> ?_,uP,Nat.mul_one]
 have hne:(2*h+1)*(j+1)≠(2*b+1)*(k+1):=fun e=>by
  have hd:(2*b+1)∣(2*h+1)*(j+1):=⟨k+1,e⟩
  have:=Nat.le_of_dvd (by omega) (Nat.Coprime.dvd_of_dvd_mul_left ha hd)
  omega
 rcases Nat.lt_or_ge ((2*h+1)*(j+1)) ((2*b+1)*(k+1)) with hl | hl
 ·rw [if_pos (by omega),if_neg (by omega)]
 ·rw [if_neg (by omega),if_pos (by omega)]
theorem ak6 {h b:Nat} (ha:Nat.gcd (2*b+1) (2*h+1)=1):gs h (2*b+1)*gs b (2*h+1)=np (h*b):=by
 have ha':Nat.gcd (2*h+1) (2*b+1)=1:=by rw [Nat.gcd_comm];exact ha
 rw [Ju ha,Ju ha',← I6,Xz ha]
def sy (a n:Nat):Int:=gs (n / 2) a
theorem q6 {n:Nat} (h:n%2=1):n=2*(n / 2)+1:=by omega
theorem sy_half {a n:Nat} (hn:n%2=1) (hg:Nat.gcd a n=1) (ha:a%2=0):sy a n=(if n%8=3∨n%8=5 then -1 else 1)*sy (a / 2) n:=by
 have e:=q6 hn
 have h2:Nat.gcd 2 n=1:=by
  rw [Nat.gcd_rec,hn];rfl
 have h3:Nat.gcd (a / 2) n=1:=Nat.Coprime.coprime_dvd_left (Nat.div_dvd_of_dvd (Nat.dvd_of_mod_eq_zero ha)) hg
 unfold sy
 have h4:=aao (h:=n / 2) (a:=2) (b:=a / 2) (by rw [← e];exact h2) (by rw [← e];exact h3)
 rw [show 2*(a / 2)=a from by omega] at h4
 rw [h4,adK,← e]
theorem sy_sub {a n:Nat} (hn:n%2=1) (h:n≤a):sy (a-n) n=sy a n:=by
 unfold sy
 have e:=q6 hn
 have:=aaN (h:=n / 2) (a:=a) (by omega)
 rwa [← e] at this
theorem Yh (m:Nat):np m*np m=1:=by unfold np;split <;>rfl
theorem aji (h a:Nat):gs h a*gs h a=1:=by unfold gs;rw [B3];exact Yh _
theorem sy_swap {a n:Nat} (hn:n%2=1) (ha:a%2=1) (hg:Nat.gcd a n=1):sy a n=(if a%4=3∧n%4=3 then -1 else 1)*sy n a:=by
 have e1:=q6 hn
 have e2:=q6 ha
 have h:=ak6 (h:=n / 2) (b:=a / 2) (by rw [← e1,← e2];exact hg)
 rw [← e1,← e2] at h
 unfold sy
 have h2:=aji (a / 2) n
 have h3:gs (n / 2) a=np (n / 2*(a / 2))*gs (a / 2) n:=by
  rw [← h,Int.mul_assoc,h2,Int.mul_one]
 rw [h3]
 congr 1
 unfold np
 have hm:n / 2*(a / 2)%2=(n / 2%2)*(a / 2%2)%2:=Nat.mul_mod _ _ _
 rw [hm]
 have f1:n / 2%2=0∨n / 2%2=1:=by omega
 have f2:a / 2%2=0∨a / 2%2=1:=by omega
 rcases f1 with f1 | f1 <;>rcases f2 with f2 | f2 <;>rw [f1,f2]
 ·rw [if_pos (by decide),if_neg (by omega)]
 ·rw [if_pos (by decide),if_neg (by omega)]
 ·rw [if_pos (by decide),if_neg (by omega)]
 ·rw [if_neg (by decide),if_pos (by omega)]
theorem sy_one (a:Nat):sy a 1=1:=rfl
theorem alg (a n:Nat):sy a n=1∨sy a n= -1:=by
 unfold sy gs
 rw [B3]
 unfold np
 split <;>simp
theorem euler_sy {p a:Nat} (hp:Pr p) (hodd:p%2=1) (ha:¬ p∣a):sy a p=1↔a ^ (p / 2)%p=1:=by
 have e:=q6 hodd
 have hp':Pr (2*(p / 2)+1):=by rw [← e];exact hp
 have hg:Nat.gcd a (2*(p / 2)+1)=1:=by rw [← e,Nat.gcd_comm];exact hp.coprime ha
 have h:=al8 hp' hg
 rw [← e] at h
 have h3:3≤p:=by have:=hp.1;omega
 unfold sy
 rcases alg a p with h1 | h1
 ·refine ⟨fun _=> ?_,fun _=>h1⟩
  have h1:gs (p / 2) a=1:=h1
  rw [h1] at h
  have h4:((a ^ (p / 2):Nat):Int)%(p:Int)=1%(p:Int):=by
   rw [Int.natCast_pow]
   exact Int.emod_eq_emod_iff_emod_sub_eq_zero.2 (Int.emod_eq_zero_of_dvd h)
  have h5:(1:Int)%(p:Int)=1:=Int.emod_eq_of_lt (by omega) (by omega)
  rw [h5] at h4
  exact_mod_cast h4
 ·have h1:gs (p / 2) a= -1:=h1
  refine ⟨fun h2=>absurd (h1.symm.trans h2) (by decide),fun h2=> ?_⟩
  rw [h1] at h
  exfalso
  have h4:((a ^ (p / 2):Nat):Int)%(p:Int)=1:=by exact_mod_cast h2
  rw [Int.natCast_pow] at h4
  have h5:=Int.emod_eq_zero_of_dvd h
  have h6:((a:Int) ^ (p / 2)- -1)%(p:Int)=(((a:Int) ^ (p / 2))%p+1%p)%p:=by
   rw [← Int.add_emod];congr 1
  have h7:(1:Int)%(p:Int)=1:=Int.emod_eq_of_lt (by omega) (by omega)
  rw [h6,h4,h7,Int.emod_eq_of_lt (by omega) (by omega)] at h5
  omega
end Go.NT
namespace Go.Proofs.YteiecapbaeajdaaGreatDoor
open Go Go.Avc
set_option linter.unusedVariables false
open Go Go.Avc Go.Proofs
set_option maxRecDepth 100000
set_option linter.unusedSimpArgs false
noncomputable section
def bG:Nat:=1552518092300708935130918131258481755631334049434514313202351194902966239949102107258669453876591642442910007680288864229150803718918046342632727613031282983744380820890196288509170691316593175367469551763119843371637221007210577919
def tp:LD:= [4294967295,4294967295,2788832800,4098638569,1650360006,3833967990,1834074693,1340159341,4066317367,808127085,3443147547,4019526067,2385773789,1363806329,991140642,34324134,2322058356,688016904,2161908945,3301335691,560513588,3373259426,4294967295,4294967295].map ae
def pP2:LD:= [4026531841,1138881939,2042196113,674490440,2172737629,3092268470,3778125865,811880050].map ae
def fx:Nat:=21888242871839275222246405745257275088548364400416034343698204186575808495617
def cb (l:LD):Prop:=fS l∧l.length≤1000
def kw (x y:Nat):Int:=if x<y then -1 else if y<x then 1 else 0
def fB (a b:LD):Nat→List Int×Int
 | 0=>([],0)
 | i+1=>((fB a b i).1++ [(4294967296+rv a i-rv b i-(fB a b i).2)%4294967296],1-(4294967296+rv a i-rv b i-(fB a b i).2) / 4294967296)
def nV (a:LD):Nat→List Int
 | 0=>List.replicate a.length 0
 | i+1=>(nV a i).set i (rv a i / 2+rv a (i+1)%2*2147483648)
def ia (b:LD):Nat→List Int
 | 0=>List.replicate (b.length / 4+1) 0
 | k+1=>(ia b k).set ((b.length-1-k) / 4) ((ia b k).getD ((b.length-1-k) / 4) 0*256+rv b (b.length-1-k))
def t7:List Nat→Nat
 | [] =>0
 | d::l=>d+256*t7 l
def bv (l:LD):Nat:=t7 (dI l)
def KB (b:Bool):Int:=if b then 1 else -1
def nX (p:Nat) (x n:LD) (s:Bool) (y:Nat):Prop:=yd x∧yd n∧dv x≤p∧dv n≤p∧dv n%2=1∧Nat.gcd (dv x) (dv n)=1∧KB s*NT.sy (dv x) (dv n)=NT.sy y p
def amJ:Ct:= {ps:= [aI,i64],bs:= [],pre:=fun | [.r l,.i i] =>0≤i | _=>False,res:=fun | [.r l,.i i] => .ret u64 [] [.i (rv l i.toNat)] | _=>ag}
def akn:Ct:= {ps:= [aI],bs:= [],pre:=fun | [.r l] =>cb l | _=>False,res:=fun | [.r l] => .ret aI [] [.r (be (dv l))] | _=>ag}
def Y4:List Dat→Ann
 | [.r l] => {cut:= [],loop:= [(2,[la 21 [(0,aI),(3,i64)] [] (fun | [.r l',.i i] =>l'=l∧0≤i∧i≤l.length∧∀ j:Nat,i≤j→rv l j=0 | _=>False) (fun | [_,.i i] =>i.toNat | _=>0)])]}
 | _=> {cut:= [],loop:= []}
def amV:Ct:= {ps:= [aI,aI],bs:= [],pre:=fun | [.r a,.r b] =>cb a∧cb b | _=>False,res:=fun | [.r a,.r b] => .ret i64 [] [.i (kw (dv a) (dv b))] | _=>ag}
def abp:List Dat→Ann
 | [.r a,.r b] => {cut:= [],loop:= [(2,[la 29 [(0,aI),(1,aI),(5,i64)] [] (fun | [.r a',.r b',.i i] =>a'=a∧b'=b∧-1≤i∧i≤a.length+b.length∧∀ j:Nat,i<j→rv a j=rv b j | _=>False) (fun | [_,_,.i i] =>(i+1).toNat | _=>0)])]}
 | _=> {cut:= [],loop:= []}
def ald:Ct:= {ps:= [aI,aI],bs:= [],pre:=fun | [.r a,.r b] =>cb a∧cb b∧dv b≤dv a | _=>False,res:=fun | [.r a,.r b] => .ret aI [] [.r (be (dv a-dv b))] | _=>ag}
def aaB:List Dat→Ann
 | [.r a,.r b] => {cut:= [],loop:= [(4,[la 39 [(0,aI),(1,aI),(5,.own 0),(6,u64),(7,i64)] [ow] (fun | [.r a',.r b',.i c,.i i,.r o] =>a'=a∧b'=b∧0≤i∧i≤a.length∧c=(fB a b i.toNat).2∧o=(fB a b i.toNat).1.map ae | _=>False) (fun | [_,_,_,.i i,_] =>(a.length-i).toNat | _=>0)])]}
 | _=> {cut:= [],loop:= []}
def alR:Ct:= {ps:= [aI],bs:= [],pre:=fun | [.r a] =>cb a | _=>False,res:=fun | [.r a] => .ret aI [] [.r (be (dv a / 2))] | _=>ag}
def YH:List Dat→Ann
 | [.r a] => {cut:= [],loop:= [(3,[la 44 [(0,aI),(3,.own 0),(4,i64)] [ow] (fun | [.r a',.i i,.r o] =>a'=a∧0≤i∧i≤a.length∧o=(nV a i.toNat).map ae | _=>False) (fun | [_,.i i,_] =>(a.length-i).toNat | _=>0)])]}
 | _=> {cut:= [],loop:= []}
def ak1:Ct:= {ps:= [rb],bs:= [],pre:=fun | [.r b] =>bP b∧b.length≤1000 | _=>False,res:=fun | [.r b] => .ret aI [] [.r (be (bv b))] | _=>ag}
def Yp:List Dat→Ann
 | [.r b] => {cut:= [],loop:= [(3,[la 35 [(0,rb),(3,.own 0),(4,i64)] [ow] (fun | [.r b',.i i,.r o] =>b'=b∧-1≤i∧i<b.length∧o=(ia b (b.length-1-i).toNat).map ae | _=>False) (fun | [_,.i i,_] =>(i+1).toNat | _=>0)])]}
 | _=> {cut:= [],loop:= []}
def alt:Ct:= {ps:= [],bs:= [],pre:=fun _=>True,res:=fun _=> .ret (.own 0) [ow] [.r tp]}
def ajb:Ct:= {ps:= [.bool],bs:= [],pre:=fun | [.b g] =>g=true | _=>False,res:=fun _=> .ret (.own 0) [ow] [.r tp]}
def ajR:Ct:= {ps:= [],bs:= [],pre:=fun _=>True,res:=fun _=> .ret (.own 0) [ow] [.r pP2]}
def akU:Ct:= {ps:= [aI],bs:= [],pre:=fun | [.r a] =>cb a∧yd a∧0<dv a∧dv a<bG | _=>False,res:=fun | [.r a] => .ret .bool [] [.b (decide (NT.sy (dv a) bG=1))] | _=>ag}
def aep:List Dat→Ann
 | [.r a] =>⟨[],[(3,[la 54 [(0,aI),(3,aI),(4,.bool)] [] (fun | [.r x,.r n,.b s] =>nX bG x n s (dv a) | _=>False) (fun | [.r x,.r n,_] =>dv x+dv n | _=>0)])],
   [(4,[la 54 [(0,aI),(3,aI),(4,.bool)] [] (fun _=>True) js],fun
    | [.r x0,.r n0,_] => [la 54 [(0,aI),(3,aI),(4,.bool)] [] (fun | [.r x,.r n,.b s] =>nX bG x n s (dv a)∧0<dv x∧dv x≤dv x0∧dv n=dv n0 | _=>False) (fun | [.r x,_,_] =>dv x | _=>0)]
    | _=> [])]⟩
 | _=> {cut:= [],loop:= []}
def akL:Ct:= {ps:= [.bool,rb],bs:= [],pre:=fun | [.b g,.r b] =>g=true∧bP b∧b.length≤1000 | _=>False,res:=fun | [.b g,.r b] => .ite (decide ((b.length:Int)≠96)) (.ret (.tup [.nils,i64]) [] [.i 1]) (.ite (decide (bG≤bv b)) (.ret (.tup [.nils,i64]) [] [.i 4]) (.ret (.tup [aI,i64]) [] [.r (be (bv b)),.i 0])) | _=>ag}
def wN (b:LD):Bool:=decide ((b.length:Int)=96)&&(decide (bv b<bG)&&(decide (bv b≠0)&&decide (NT.sy (bv b) bG=1)))
def ic (b:LD):Int:=if (b.length:Int)≠96 then 1 else if wN b=true then 0 else 4
def nU (b:LD):Int:=if (b.length:Int)≠32 then 1 else if fx≤bv b then 4 else 0
def aqf:Ct:= {ps:= [rb],bs:= [],pre:=fun | [.r b] =>bP b∧b.length≤1000 | _=>False,res:=fun | [.r b] => .ret (.tup [.skip,i64]) [] [.i (ic b)] | _=>ag}
def apS:Ct:= {ps:= [rb],bs:= [],pre:=fun | [.r b] =>bP b∧b.length≤1000 | _=>False,res:=fun | [.r b] => .ret (.tup [.skip,i64]) [] [.i (nU b)] | _=>ag}
abbrev ay (a:LD):Int:=
 ↑a.length
abbrev lN (a:Int)(b:LD):Int:=
 ((b.getD a.toNat []).getD 0 (.int 0)).toInt
def acK:Prop:=
 ∀ (a:LD) (b:Int),
 lM a→
 0≤b→
 lM a→
 bif decide (b<ay a) then
 bR b a∧b.toNat<a.length∧lN b a=rv a b.toNat
 else 0=rv a b.toNat
def Wa:af:=aj sp9 152 (ap amJ)
def aga:Prop:=
 ∀ (a:LD),
 lM a→
 cb a→
 lM a→
 ((a=a∧
 0≤ay a∧
 ay a≤ay a∧
 ∀ (b:Nat),ay a≤↑b→rv a b=0)∧
 True)∧
 ∀ (b:LD) (c:Int),
 lM b→
 (b=a∧0≤c∧c≤ay a∧∀ (d:Nat),c≤↑d→rv a d=0)→
 (decide ((0:Int)<c)=true→iR (c-(1:Int)))∧
 (decide ((0:Int)<c)=true→bR (c-(1:Int)) b)∧
 (decide ((0:Int)<c)=true→(c-(1:Int)).toNat<b.length)∧
 bif decide ((0:Int)<c)&&decide (((b.getD (c-(1:Int)).toNat []).getD 0 (.int 0)).toInt=0) then
 iR (c-(1:Int))∧
 (b=a∧
 0≤c-(1:Int)∧
 c-1≤ay a∧
 ∀ (d:Nat),c-1≤↑d→rv a d=0)∧
 (c-(1:Int)).toNat<c.toNat
 else
 ((0:Int)≤0∧0≤c∧c≤ay b)∧
 List.drop 0 (List.take c.toNat b)=be (dv a)
def TD:af:=aj Wa 110 (ap akn)
def ZP:Prop:=
 ∀ (a b:LD),
 lM a→
 lM b→
 cb a∧cb b→
 lM a→
 lM b→
 iR (ay a+ay b)∧
 ((a=a∧
 b=b∧
 (-1:Int)≤ay a+ay b∧
 ay a+ay b≤
 ay a+ay b∧
 ∀ (c:Nat),
 ay a+ay b<↑c→
 rv a c=rv b c)∧
 True)∧
 ∀ (c d:LD) (e:Int),
 lM c→
 lM d→
 (c=a∧
 d=b∧
 (-1:Int)≤e∧
 e≤ay a+ay b∧
 ∀ (f:Nat),e<↑f→rv a f=rv b f)→
 bif decide (0≤e) then
 0≤e∧
 0≤e∧
 bif decide (rv c e.toNat<rv d e.toNat) then
 (-1:Int)=kw (dv a) (dv b)
 else
 0≤e∧
 0≤e∧
 bif decide (rv d e.toNat<rv c e.toNat) then
 1=kw (dv a) (dv b)
 else
 iR (e-(1:Int))∧
 (c=a∧
 d=b∧
 (-1:Int)≤e-(1:Int)∧
 e-1≤ay a+ay b∧
 ∀ (f:Nat),
 e-(1:Int)<↑f→rv a f=rv b f)∧
 (e-(1:Int)+1).toNat<(e+1).toNat
 else 0=kw (dv a) (dv b)
def SL:af:=aj TD 108 (ap amV)
abbrev BV (a:LD):Prop:=
 (↑(8:Nat):Int)*ay a≤140737488355328∧ay a≤9223372036854775807
abbrev t6 (a b:Int)(c d:LD):Int:=
 IntKind.u64.wrap
 (IntKind.u64.wrap (IntKind.u64.wrap ((4294967296:Int)+lN a c)-rv d a.toNat)-b)
abbrev x7 (a:Int)(b:LD):Prop:=
 (ay b-(a+1)).toNat<(ay b-a).toNat
def YS:Prop:=
 ∀ (a b:LD),
 lM a→
 lM b→
 cb a∧
 cb b∧dv b≤dv a→
 lM a→
 ((0:Int)≤0∧0≤ay a∧BV a)∧
 ((a=a∧
 b=b∧
 (0:Int)≤0∧
 0≤ay a∧
 0=(fB a b 0).snd∧
 [] =List.map ae (fB a b 0).fst)∧
 True)∧
 ∀ (c d:LD) (e f:Int) (g:LD),
 lM c→
 lM d→
 lM g→
 c=a∧
 d=b∧
 0≤f∧
 f≤ay a∧
 e=(fB a b f.toNat).snd∧
 g=List.map ae (fB a b f.toNat).fst→
 lM c→
 bif decide (f<ay c) then
 bR f c∧
 f.toNat<c.length∧
 0≤f∧
 (0≤t6 f e c d∧(0:Int)<(4294967296:Int))∧
 aR (g.length+1) 8∧
 (0≤t6 f e c d∧
 (0:Int)<(4294967296:Int)∧t6 f e c d≤IntKind.u64.max)∧
 iR (f+1)∧
 (c=a∧
 d=b∧
 0≤f+1∧
 f+1≤ay a∧
 IntKind.u64.wrap ((1:Int)-t6 f e c d / 4294967296)=
 (fB a b (f+1).toNat).snd∧
 g++ [[.int (t6 f e c d%(4294967296:Int))]] =
 List.map ae (fB a b (f+1).toNat).fst)∧
 x7 f a
 else
 cb g∧
 be (dv g)=
 be (dv a-dv b)
def WA:af:=aj SL 151 (ap ald)
abbrev nj (a:Int)(b c:LD):LD:=
 b.set a.toNat ((b.getD a.toNat []).set 0 (.int (lN a c / 2)))
def agR:Prop:=
 ∀ (a:LD),
 lM a→
 cb a→
 lM a→
 (0≤ay a∧
 ay a≤ay a∧BV a)∧
 ((a=a∧
 (0:Int)≤0∧
 0≤ay a∧
 List.replicate (ay a).toNat [.int 0] =
 List.map ae (nV a 0))∧
 True)∧
 ∀ (b:LD) (c:Int) (d:LD),
 lM b→
 lM d→
 b=a∧
 0≤c∧
 c≤ay a∧
 d=List.map ae (nV a c.toNat)→
 lM b→
 bif decide (c<ay b) then
 bR c b∧
 c.toNat<b.length∧
 (0≤lN c b∧
 (0:Int)<(2:Int)∧lN c b≤IntKind.u64.max)∧
 bR c d∧
 c.toNat<d.length∧
 iR (c+1)∧
 (lM b→
 bif decide (c+1<ay b) then
 bR c (nj c d b)∧
 c.toNat<(nj c d b).length∧
 iR (c+1)∧
 bR (c+1) b∧
 (c+1).toNat<b.length∧
 (0≤((b.getD (c+1).toNat []).getD 0 (.int 0)).toInt∧(0:Int)<(2:Int))∧
 bR c (nj c d b)∧
 c.toNat<(nj c d b).length∧
 iR (c+1)∧
 (b=a∧
 0≤c+1∧
 c+1≤ay a∧
 (nj c d b).set c.toNat
 (((nj c d b).getD c.toNat []).set 0
 (.int
 (IntKind.u64.wrap
 ((((nj c d b).getD c.toNat []).getD 0
 (.int 0)).toInt+
 IntKind.u64.wrap
 (((b.getD (c+1).toNat []).getD 0 (.int 0)).toInt%(2:Int) *
 (2147483648:Int))))))=
 List.map ae
 (nV a (c+1).toNat))∧
 x7 c a
 else
 iR (c+1)∧
 (b=a∧
 0≤c+1∧
 c+1≤ay a∧
 nj c d b=
 List.map ae (nV a (c+1).toNat))∧
 x7 c a)
 else
 cb d∧
 be (dv d)=
 be (dv a / 2)
def Ub:af:=aj WA 174 (ap alR)
abbrev kf (a:LD):Prop:=
 bP a∧a.length≤1000
def agy:Prop:=
 ∀ (a:LD),
 lM a→
 kf a→
 lM a→
 (0≤ay a∧(0:Int)<(4:Int)∧ay a≤IntKind.i64.max)∧
 iR (ay a / 4+1)∧
 (0≤ay a / 4+1∧
 ay a / 4+1≤ay a / 4+1∧
 (↑(8:Nat):Int)*(ay a / 4+1)≤140737488355328∧
 ay a / 4+1≤9223372036854775807)∧
 (lM a→
 iR (ay a-(1:Int))∧
 ((a=a∧
 (-1:Int)≤ay a-(1:Int)∧
 ay a-(1:Int)<ay a∧
 List.replicate (ay a / 4+1).toNat [.int 0] =
 List.map ae
 (ia a
 (ay a-(1:Int)-(ay a-(1:Int))).toNat))∧
 True)∧
 ∀ (b:LD) (c:Int) (d:LD),
 lM b→
 lM d→
 b=a∧
 (-1:Int)≤c∧
 c<ay a∧
 d=
 List.map ae
 (ia a (ay a-(1:Int)-c).toNat)→
 bif decide (0≤c) then
 (0≤c∧(0:Int)<(4:Int)∧c≤IntKind.i64.max)∧
 (0≤c∧(0:Int)<(4:Int)∧c≤IntKind.i64.max)∧
 bR (c / 4) d∧
 (c / 4).toNat<d.length∧
 bR c b∧
 c.toNat<b.length∧
 bR (c / 4) d∧
 (c / 4).toNat<d.length∧
 iR (c-(1:Int))∧
 (b=a∧
 (-1:Int)≤c-(1:Int)∧
 c-(1:Int)<ay a∧
 d.set (c / 4).toNat
 ((d.getD (c / 4).toNat []).set 0
 (.int
 (IntKind.u64.wrap
 (IntKind.u64.wrap
 (((d.getD (c / 4).toNat []).getD 0 (.int 0)).toInt*256)+
 IntKind.u64.wrap (lN c b)))))=
 List.map ae
 (ia a
 (ay a-(1:Int)-(c-(1:Int))).toNat))∧
 (c-(1:Int)+1).toNat<(c+1).toNat
 else
 cb d∧
 be (dv d)=
 be (bv a))
def Vw:af:=aj Ub 133 (ap ak1)
abbrev pA:List CD:=
 [.int 4294967295]
abbrev lH:LD:=
 [pA,pA,[.int 2788832800],[.int 4098638569],
 [.int 1650360006],[.int 3833967990],[.int 1834074693],[.int 1340159341],
 [.int 4066317367],[.int 808127085],[.int 3443147547],[.int 4019526067],[.int 2385773789],
 [.int 1363806329],[.int 991140642],[.int 34324134],[.int 2322058356],[.int 688016904],
 [.int 2161908945],[.int 3301335691],[.int 560513588],[.int 3373259426],
 pA,pA]
def ab6:Prop:=
 True→lH=lH
def Vz:af:=aj Vw 173 (ap alt)
def aac:Prop:=
 ∀ (a:Bool),a=true→bif a then True∧lH=lH else False
def Tx:af:=aj Vz 172 (ap ajb)
abbrev yh:LD:=
 [[.int 4026531841],[.int 1138881939],[.int 2042196113],[.int 674490440],[.int 2172737629],
 [.int 3092268470],[.int 3778125865],[.int 811880050]]
def abU:Prop:=
 True→yh=yh
def UX:af:=aj Tx 109 (ap ajR)
abbrev zy (a b c:LD)(d:Bool):Prop:=
 nX
 (1552518092300708935130918131258481755631334049434514313202351194902966239949102107258669453876591642442910007680288864229150803718918046342632727613031282983744380820890196288509170691316593175367469551763119843371637221007210577919:
 Nat)
 a b d (dv c)
abbrev fe (a:LD):Int:=
 ((a.getD 0 []).getD 0 (.int 0)).toInt
abbrev yV (a:LD):Prop:=
 (!decide (fe a%(8:Int)=3))=true
abbrev E8 (a b c d e:LD)(f:Bool):Prop:=
 (cb a∧cb b∧dv b≤dv a)∧
 nX
 (1552518092300708935130918131258481755631334049434514313202351194902966239949102107258669453876591642442910007680288864229150803718918046342632727613031282983744380820890196288509170691316593175367469551763119843371637221007210577919:
 Nat)
 (be (dv a-dv b)) b f
 (dv c)∧
 (dv (be (dv a-dv b))).add
 (dv b) <
 (dv d).add (dv e)
def ae1:Prop:=
 ∀ (a:LD),
 lM a→
 cb a∧
 yd a∧
 0<dv a∧
 dv a <
 (1552518092300708935130918131258481755631334049434514313202351194902966239949102107258669453876591642442910007680288864229150803718918046342632727613031282983744380820890196288509170691316593175367469551763119843371637221007210577919:
 Nat)→
 True∧
 (nX
 (1552518092300708935130918131258481755631334049434514313202351194902966239949102107258669453876591642442910007680288864229150803718918046342632727613031282983744380820890196288509170691316593175367469551763119843371637221007210577919:
 Nat)
 a lH true (dv a)∧
 True)∧
 ∀ (b c:LD) (d:Bool),
 lM b→
 lM c→
 zy b c a d→
 lM b→
 bif decide ((0:Int)<ay b) then
 ((zy b c a d∧
 0<dv b∧
 dv b≤dv b∧
 dv c=dv c)∧
 True)∧
 ∀ (e f:LD) (g:Bool),
 lM e→
 lM f→
 zy e f a g∧
 0<dv e∧
 dv e≤dv b∧
 dv f=dv c→
 bR 0 e∧
 0<e.length∧
 (0≤fe e∧(0:Int)<(2:Int))∧
 bif decide (fe e%(2:Int)=0) then
 cb e∧
 bR 0 f∧
 0<f.length∧
 (0≤fe f∧(0:Int)<(8:Int))∧
 (yV f→bR 0 f)∧
 (yV f→0<f.length)∧
 (yV f→
 0≤fe f∧(0:Int)<(8:Int))∧
 bif
 decide (fe f%(8:Int)=3) ||
 decide (fe f%(8:Int)=5) then
 (nX
 (1552518092300708935130918131258481755631334049434514313202351194902966239949102107258669453876591642442910007680288864229150803718918046342632727613031282983744380820890196288509170691316593175367469551763119843371637221007210577919:
 Nat)
 (be (dv e / 2)) f (!g)
 (dv a)∧
 0 <
 dv
 (be (dv e / 2))∧
 dv
 (be (dv e / 2))≤
 dv b∧
 dv f=dv c)∧
 dv
 (be (dv e / 2)) <
 dv e
 else
 (nX
 (1552518092300708935130918131258481755631334049434514313202351194902966239949102107258669453876591642442910007680288864229150803718918046342632727613031282983744380820890196288509170691316593175367469551763119843371637221007210577919:
 Nat)
 (be (dv e / 2)) f g
 (dv a)∧
 0 <
 dv
 (be (dv e / 2))∧
 dv
 (be (dv e / 2))≤
 dv b∧
 dv f=dv c)∧
 dv
 (be (dv e / 2)) <
 dv e
 else
 (cb e∧cb f)∧
 bif
 decide
 (kw (dv e) (dv f) <
 (0:Int)) then
 bR 0 e∧
 0<e.length∧
 (0≤fe e∧(0:Int)<(4:Int))∧
 (decide (fe e%(4:Int)=3)=true→
 bR 0 f)∧
 (decide (fe e%(4:Int)=3)=true→0<f.length)∧
 (decide (fe e%(4:Int)=3)=true→
 0≤fe f∧(0:Int)<(4:Int))∧
 bif
 decide (fe e%(4:Int)=3) &&
 decide (fe f%(4:Int)=3) then
 (cb f∧
 cb e∧
 dv e≤dv f)∧
 nX
 (1552518092300708935130918131258481755631334049434514313202351194902966239949102107258669453876591642442910007680288864229150803718918046342632727613031282983744380820890196288509170691316593175367469551763119843371637221007210577919:
 Nat)
 (be
 (dv f-dv e))
 e (!g) (dv a)∧
 (dv
 (be
 (dv f-dv e))).add
 (dv e) <
 (dv b).add (dv c)
 else E8 f e a b c g
 else E8 e f a b c g
 else
 d=
 decide
 (Go.NT.sy (dv a)
 (1552518092300708935130918131258481755631334049434514313202351194902966239949102107258669453876591642442910007680288864229150803718918046342632727613031282983744380820890196288509170691316593175367469551763119843371637221007210577919:
 Nat)=
 (1:Int))
def WF:af:=aj UX 135 (ap akU)
abbrev oz (a:LD):Bool:=
 decide (ay a≠96)
abbrev qt (a:LD):Bool:=
 decide
 ((1552518092300708935130918131258481755631334049434514313202351194902966239949102107258669453876591642442910007680288864229150803718918046342632727613031282983744380820890196288509170691316593175367469551763119843371637221007210577919:
 Nat)≤
 bv a)
abbrev EP (a:LD):Prop:=
 Miss 2 eS
def aco:Prop:=
 ∀ (a:Bool) (b:LD),
 lM b→
 a=true∧kf b→
 lM b→
 bif oz b then
 bif oz b then (1:Int)=1
 else
 bif qt b then (1:Int)=4
 else [] =be (bv b)∧(1:Int)=0
 else
 kf b∧
 a=true∧
 (cb (be (bv b))∧
 cb lH)∧
 bif
 decide
 ((0:Int)≤
 kw
 (dv (be (bv b)))
 (1552518092300708935130918131258481755631334049434514313202351194902966239949102107258669453876591642442910007680288864229150803718918046342632727613031282983744380820890196288509170691316593175367469551763119843371637221007210577919:
 Nat)) then
 bif oz b then (4:Int)=1
 else
 bif qt b then (4:Int)=4
 else [] =be (bv b)∧(4:Int)=0
 else
 bif oz b then EP b
 else
 bif qt b then EP b
 else
 be (bv b)=
 be (bv b)∧
 (0:Int)=0
def TS:af:=aj WF 134 (ap akL)
def P90:Prop:=
 ∀ (a:LD),
 lM a→
 kf a→
 (true=true∧kf a)∧
 bif oz a then 1=ic a
 else
 bif qt a then 4=ic a
 else
 lM (be (bv a))→
 ((!decide ((↑(be (bv a)).length:Int)=0))=true→
 cb (be (bv a))∧
 yd (be (bv a))∧
 0<dv (be (bv a))∧
 dv (be (bv a)) <
 (1552518092300708935130918131258481755631334049434514313202351194902966239949102107258669453876591642442910007680288864229150803718918046342632727613031282983744380820890196288509170691316593175367469551763119843371637221007210577919:
 Nat))∧
 bif
 decide ((↑(be (bv a)).length:Int)=0) ||
 !decide
 (Go.NT.sy (dv (be (bv a)))
 (1552518092300708935130918131258481755631334049434514313202351194902966239949102107258669453876591642442910007680288864229150803718918046342632727613031282983744380820890196288509170691316593175367469551763119843371637221007210577919:
 Nat)=
 (1:Int)) then
 4=ic a
 else 0=ic a
def adL:af:=aj TS 90 (ap aqf)
def P89:Prop:=
 ∀ (a:LD),
 lM a→
 kf a→
 lM a→
 bif decide (ay a≠32) then 1=nU a
 else
 kf a∧
 True∧
 (cb (be (bv a))∧
 cb yh)∧
 bif
 decide
 ((0:Int)≤
 kw
 (dv (be (bv a)))
 21888242871839275222246405745257275088548364400416034343698204186575808495617) then
 4=nU a
 else 0=nU a
def YV:af:=aj adL 89 (ap apS)
theorem Gf:∀ (i:Nat) {l:List Nat},s9 l→l.getD i 0=cn l / 4294967296 ^ i%4294967296
 | 0,l,h=>by
  have:=vI h 0
  rw [kC l,Nat.pow_zero,Nat.div_one]
  omega
 | i+1,l,h=>by
  have h0:=vI h 0
  rw [← gX,Gf i (Bl h),Nat.pow_succ,Nat.mul_comm (4294967296 ^ i),← Nat.div_div_eq_div_mul]
  congr 2
  rw [kC l]
  omega
theorem wM:∀ {l:List Nat} {x:Nat},(∀ j,j<l.length→l.getD j 0=x / 4294967296 ^ j%4294967296)→cn l=x%4294967296 ^ l.length
 | [],x,_=>by simp [cn,Nat.mod_one]
 | d::l,x,h=>by
  have h0:d=x%4294967296:=by
   have:=h 0 (by simp)
   rw [Nat.pow_zero,Nat.div_one] at this
   exact this
  have h1:=wM (l:=l) (x:=x / 4294967296) fun j hj=>by
   have:=h (j+1) (by simp;omega)
   rw [Nat.pow_succ,Nat.mul_comm (4294967296 ^ j),← Nat.div_div_eq_div_mul] at this
   exact this
  rw [cn,h1,List.length_cons,Nat.pow_succ,Nat.mul_comm (4294967296 ^ l.length),Nat.mod_mul,h0]
theorem xE {l:LD} (h:fS l) (i:Nat):rv l i=((dv l / 4294967296 ^ i%4294967296:Nat):Int):=by
 rw [pS h,Gf i h.2];rfl
theorem SF {l:LD} (h:fS l):dv l<4294967296 ^ l.length:=by
 have:=Jy h.2
 rwa [kv] at this
theorem Iq {L:List Int} (h:∀ x∈L,0≤x∧x<4294967296):fS (L.map ae):=by
 have e:L.map ae=(L.map Int.toNat).map rI:=by
  rw [List.map_map]
  refine List.map_congr_left fun x hx=> ?_
  show [CD.int x] = [CD.int (x.toNat:Int)]
  rw [Int.toNat_of_nonneg (h x hx).1]
 rw [e]
 refine Yi fun d hd=> ?_
 obtain ⟨x,hx,rfl⟩:=List.mem_map.1 hd
 have:=h x hx
 omega
theorem LF {L:List Int} {x:Nat} (h:∀ j,j<L.length→L.getD j 0=((x / 4294967296 ^ j%4294967296:Nat):Int)):fS (L.map ae)∧dv (L.map ae)=x%4294967296 ^ L.length:=by
 have hd:fS (L.map ae):=Iq fun y hy=>by
  obtain ⟨j,hj,rfl⟩:=List.getElem_of_mem hy
  have:=h j hj
  rw [aw,cJ hj] at this
  have h2:x / 4294967296 ^ j%4294967296<4294967296:=Nat.mod_lt _ (by decide)
  simp at this
  omega
 refine ⟨hd,?_⟩
 have hl:(dI (L.map ae)).length=L.length:=by rw [kv,bA]
 have:=wM (l:=dI (L.map ae)) (x:=x) fun j hj=>by
  have h1:=pS hd j
  rw [b7,h j (by rw [← hl];exact hj)] at h1
  omega
 rw [hl] at this
 exact this
theorem CC (a b:LD):∀ i,(fB a b i).1.length=i
 | 0=>rfl
 | i+1=>by rw [fB];simp [CC a b i]
theorem zF {a b:LD} (ha:fS a) (hb:fS b):∀ i,((fB a b i).2=0∨(fB a b i).2=1)∧(∀ x∈(fB a b i).1,0≤x∧x<4294967296)
 | 0=>⟨.inl rfl,fun x hx=>by cases hx⟩
 | i+1=>by
  have ⟨h1,h2⟩:=zF ha hb i
  have k1:=gO ha i
  have k2:=gO hb i
  rw [fB]
  refine ⟨by dsimp only;omega,fun x hx=> ?_⟩
  rcases List.mem_append.1 hx with hx | hx
  ·exact h2 x hx
  ·rw [List.mem_singleton] at hx
   rw [hx]
   omega
theorem BC:∀ (l m:List Nat),cn (l++m)=cn l+4294967296 ^ l.length*cn m
 | [],m=>by simp [cn]
 | d::l,m=>by
  rw [List.cons_append,cn,BC l m,cn,List.length_cons,Nat.pow_succ]
  grind
def Ar (L:List Int):Int:=((cn (L.map Int.toNat):Nat):Int)
theorem Rt (L:List Int) {x:Int} (hx:0≤x):Ar (L++ [x])=Ar L+4294967296 ^ L.length*x:=by
 unfold Ar
 rw [List.map_append,BC,bA]
 have:cn (List.map Int.toNat [x])=x.toNat:=by show x.toNat+_*0=_;omega
 rw [this,Int.natCast_add,Int.natCast_mul,Int.natCast_pow,Int.toNat_of_nonneg hx]
 rfl
theorem Wm (x i:Nat):((x%4294967296 ^ (i+1):Nat):Int)=((x%4294967296 ^ i:Nat):Int)+4294967296 ^ i*((x / 4294967296 ^ i%4294967296:Nat):Int):=by
 rw [Nat.mod_pow_succ,Int.natCast_add,Int.natCast_mul,Int.natCast_pow]
 rfl
theorem OW {a b:LD} (ha:fS a) (hb:fS b):∀ i,Ar (fB a b i).1+((dv b%4294967296 ^ i:Nat):Int)=((dv a%4294967296 ^ i:Nat):Int)+(fB a b i).2*4294967296 ^ i
 | 0=>by simp [fB,Ar,cn,Nat.mod_one]
 | i+1=>by
  have ih:=OW ha hb i
  have ⟨h1,_⟩:=zF ha hb i
  have k1:=gO ha i
  have k2:=gO hb i
  have e1:=xE ha i
  have e2:=xE hb i
  rw [fB]
  dsimp only
  rw [Rt _ (by omega),CC,Wm,Wm,← e1,← e2]
  generalize hs:4294967296+rv a i-rv b i-(fB a b i).2=s
  have hd:=Int.emod_add_mul_ediv s 4294967296
  generalize s%4294967296=d at hd ⊢
  generalize s / 4294967296=q at hd ⊢
  rw [Int.pow_succ]
  generalize (4294967296:Int) ^ i=w at ih ⊢
  generalize (fB a b i).2=c at *
  generalize Ar (fB a b i).1=o at *
  generalize ((dv a%4294967296 ^ i:Nat):Int)=x at *
  generalize ((dv b%4294967296 ^ i:Nat):Int)=y at *
  have:w*d=w*(4294967296+rv a i-rv b i-c-4294967296*q):=by rw [hs,← hd];grind
  rw [this]
  grind
theorem Y5 {L:List Int} (h:∀ x∈L,0≤x∧x<4294967296):Ar L<4294967296 ^ L.length:=by
 have:cn (L.map Int.toNat)<4294967296 ^ (L.map Int.toNat).length:=Jy fun d hd=>by
  obtain ⟨x,hx,rfl⟩:=List.mem_map.1 hd
  have:=h x hx
  omega
 rw [bA] at this
 have h7:((4294967296 ^ L.length:Nat):Int)=(4294967296:Int) ^ L.length:=Int.natCast_pow ..
 unfold Ar
 omega
theorem acE {L:List Int} (h:∀ x∈L,0≤x∧x<4294967296):(dv (L.map ae):Int)=Ar L:=by
 unfold dv Ar dI
 rw [List.map_map]
 rfl
theorem afp {a b:LD} (ha:fS a) (hb:fS b) (h:dv b≤dv a):fS ((fB a b a.length).1.map ae)∧dv ((fB a b a.length).1.map ae)=dv a-dv b:=by
 have ⟨h1,h2⟩:=zF ha hb a.length
 refine ⟨Iq h2,?_⟩
 have h3:=OW ha hb a.length
 have h4:=SF ha
 rw [Nat.mod_eq_of_lt h4,Nat.mod_eq_of_lt (Nat.lt_of_le_of_lt h h4)] at h3
 have h5:=Y5 h2
 rw [CC] at h5
 have h6:=acE h2
 have h7:((4294967296 ^ a.length:Nat):Int)=(4294967296:Int) ^ a.length:=Int.natCast_pow ..
 rcases h1 with e | e <;>rw [e] at h3 <;>omega
theorem uJ (a:LD):∀ i,(nV a i).length=a.length
 | 0=>List.length_replicate
 | i+1=>by rw [nV,dc,uJ a i]
theorem O8 (a:LD):∀ i,i≤a.length→∀ j,(nV a i).getD j 0=if j<i then rv a j / 2+rv a (j+1)%2*2147483648 else 0
 | 0,_,j=>by
  rw [nV,if_neg (by omega),aw,List.getElem?_replicate]
  split <;>rfl
 | i+1,h,j=>by
  have ih:=O8 a i (by omega) j
  rw [nV,aw,List.getElem?_set,uJ]
  by_cases e:i=j
  ·subst e
   rw [if_pos rfl,if_pos (by omega),if_pos (by omega)];rfl
  ·rw [if_neg e,← aw,ih]
   by_cases h2:j<i
   ·rw [if_pos h2,if_pos (by omega)]
   ·rw [if_neg h2,if_neg (by omega)]
theorem W1 {a:LD} (ha:fS a):fS ((nV a a.length).map ae)∧dv ((nV a a.length).map ae)=dv a / 2:=by
 have h:=LF (L:=nV a a.length) (x:=dv a / 2) fun j hj=>by
  rw [uJ] at hj
  rw [O8 a _ (Nat.le_refl _),if_pos hj,xE ha,xE ha,Nat.pow_succ,← Nat.div_div_eq_div_mul,Nat.div_div_eq_div_mul (dv a) 2,Nat.mul_comm 2,← Nat.div_div_eq_div_mul]
  omega
 refine ⟨h.1,?_⟩
 rw [h.2,uJ]
 exact Nat.mod_eq_of_lt (Nat.lt_of_le_of_lt (Nat.div_le_self _ _) (SF ha))
theorem PN {a b:LD} (ha:fS a) (hb:fS b) {i:Nat} (h:∀ j:Nat,(i:Int)<j→rv a j=rv b j) (hl:rv a i<rv b i):dv a<dv b:=by
 refine LM i ha.2 hb.2 (fun j hj=> ?_) ?_
 ·have:=h j (by omega)
  rw [pS ha,pS hb] at this
  omega
 ·rw [pS ha,pS hb] at hl
  omega
theorem abl {a b:LD} (ha:fS a) (hb:fS b) (h:∀ j:Nat,rv a j=rv b j):dv a=dv b:=by
 refine Ef (max (dI a).length (dI b).length) (by omega) (by omega) fun j=> ?_
 have:=h j
 rw [pS ha,pS hb] at this
 omega
theorem H2:∀ (l:List Nat) (n:Nat),n<l.length→t7 (l.drop n)=l.getD n 0+256*t7 (l.drop (n+1))
 | [],n,h=>by simp at h
 | d::l,0,_=>rfl
 | d::l,n+1,h=>by
  rw [List.drop_succ_cons,List.drop_succ_cons,H2 l n (by simpa using h)]
  rfl
theorem K0:∀ (l:List Nat),(∀ d∈l,d<256)→∀ n,t7 (l.drop n)=t7 l / 256 ^ n
 | l,h,0=>by rw [List.drop_zero,Nat.pow_zero,Nat.div_one]
 | [],h,n+1=>by rw [List.drop_nil];simp [t7]
 | d::l,h,n+1=>by
  have h1:=h d (List.mem_cons_self ..)
  rw [List.drop_succ_cons,K0 l (fun x hx=>h x (List.mem_cons_of_mem _ hx)) n,Nat.pow_succ,Nat.mul_comm (256 ^ n),← Nat.div_div_eq_div_mul]
  congr 1
  rw [t7]
  omega
theorem HR:∀ {l:List Nat},(∀ d∈l,d<256)→t7 l<256 ^ l.length
 | [],_=>by decide
 | d::l,h=>by
  have h1:=HR fun x hx=>h x (List.mem_cons_of_mem _ hx)
  have h2:=h d (List.mem_cons_self ..)
  rw [t7,List.length_cons,Nat.pow_succ]
  omega
theorem uI (b:LD):∀ k,(ia b k).length=b.length / 4+1
 | 0=>List.length_replicate
 | k+1=>by rw [ia,dc,uI b k]
theorem FU (l:LD) (i:Nat):(dI l).getD i 0=(rv l i).toNat:=by
 unfold dI rv
 rw [aw (l:=l.map _),eW,aw (l:=l)]
 cases l[i]? <;>rfl
theorem yk {l:LD} (h:ar l):∀ d∈dI l,d<256:=fun d hd=>by
 obtain ⟨i,hi,rfl⟩:=List.getElem_of_mem hd
 have h1:=FU l i
 rw [aw,cJ hi] at h1
 have h2:=h i
 simp at h1
 omega
theorem HH {b:LD} (hb:ar b):∀ k,k≤b.length→∀ j,j<b.length / 4+1→
  (ia b k).getD j 0=((t7 ((dI b).drop (max (4*j) (b.length-k)))%256 ^ (4*j+4-max (4*j) (b.length-k)):Nat):Int)
 | 0,_,j,_=>by
  rw [ia,List.drop_of_length_le (by rw [kv];omega),aw,List.getElem?_replicate]
  show _=(((0%_:Nat)):Int)
  rw [Nat.zero_mod]
  split <;>rfl
 | k+1,h,j,hj=>by
  have ih:=fun j hj=>HH hb k (by omega) j hj
  obtain ⟨n,hn⟩:∃ n,n=b.length-1-k:=⟨_,rfl⟩
  have e1:b.length-k=n+1:=by omega
  have e2:b.length-(k+1)=n:=by omega
  rw [ia,← hn,e2,aw,List.getElem?_set,uI]
  rw [e1] at ih
  by_cases e:n / 4=j
  ·rw [if_pos e,if_pos (by omega)]
   show (ia b k).getD (n / 4) 0*256+rv b n=_
   rw [ih (n / 4) (by omega),e,Nat.max_eq_right (show 4*j≤n+1 by omega),Nat.max_eq_right (show 4*j≤n by omega),show 4*j+4-n=(4*j+4-(n+1))+1 from by omega,
    H2 (dI b) n (by rw [kv];omega),FU,Nat.pow_succ,Nat.mul_comm (256 ^ _),Nat.mod_mul]
   have hr:=hb n
   generalize t7 ((dI b).drop (n+1))=X
   have f1:((rv b n).toNat+256*X)%256=(rv b n).toNat:=by omega
   have f2:((rv b n).toNat+256*X) / 256=X:=by omega
   rw [f1,f2]
   omega
  ·rw [if_neg e,← aw,ih j hj]
   by_cases h2:n+1≤4*j
   ·rw [Nat.max_eq_left h2,Nat.max_eq_left (show n≤4*j by omega)]
   ·rw [show 4*j+4-max (4*j) (n+1)=0 from by omega,show 4*j+4-max (4*j) n=0 from by omega,Nat.pow_zero,Nat.mod_one,Nat.mod_one]
theorem Ss {b:LD} (hb:ar b):fS ((ia b b.length).map ae)∧dv ((ia b b.length).map ae)=bv b:=by
 have hp:∀ j,(256:Nat) ^ (4*j)=4294967296 ^ j:=fun j=>by rw [Nat.pow_mul]
 have h:=LF (L:=ia b b.length) (x:=bv b) fun j hj=>by
  rw [uI] at hj
  rw [HH hb _ (Nat.le_refl _) j hj,Nat.sub_self,Nat.max_eq_left (Nat.zero_le _),show 4*j+4-4*j=4 from by omega,K0 _ (yk hb),hp]
  rfl
 refine ⟨h.1,?_⟩
 rw [h.2,uI]
 refine Nat.mod_eq_of_lt ?_
 have h1:=HR (yk hb)
 rw [kv] at h1
 rw [← hp]
 exact Nat.lt_of_lt_of_le h1 (Nat.pow_le_pow_right (by decide) (by omega))
end
end Go.Proofs.YteiecapbaeajdaaGreatDoor
namespace Go.NT
set_option linter.unusedVariables false
@[ext] structure C7 where
 a0:Int
 a1:Int
 a2:Int
 a3:Int
 a4:Int
 a5:Int
 a6:Int
namespace C7
def add (x y:C7):C7:=⟨x.a0+y.a0,x.a1+y.a1,x.a2+y.a2,x.a3+y.a3,x.a4+y.a4,x.a5+y.a5,x.a6+y.a6⟩
def neg (x:C7):C7:=⟨-x.a0,-x.a1,-x.a2,-x.a3,-x.a4,-x.a5,-x.a6⟩
def c (n:Int):C7:=⟨n,0,0,0,0,0,0⟩
def sc (n:Int) (x:C7):C7:=⟨n*x.a0,n*x.a1,n*x.a2,n*x.a3,n*x.a4,n*x.a5,n*x.a6⟩
def mul (x y:C7):C7:=
 ⟨x.a0*y.a0+x.a1*y.a6+x.a2*y.a5+x.a3*y.a4+x.a4*y.a3+x.a5*y.a2+x.a6*y.a1,
  x.a0*y.a1+x.a1*y.a0+x.a2*y.a6+x.a3*y.a5+x.a4*y.a4+x.a5*y.a3+x.a6*y.a2,
  x.a0*y.a2+x.a1*y.a1+x.a2*y.a0+x.a3*y.a6+x.a4*y.a5+x.a5*y.a4+x.a6*y.a3,
  x.a0*y.a3+x.a1*y.a2+x.a2*y.a1+x.a3*y.a0+x.a4*y.a6+x.a5*y.a5+x.a6*y.a4,
  x.a0*y.a4+x.a1*y.a3+x.a2*y.a2+x.a3*y.a1+x.a4*y.a0+x.a5*y.a6+x.a6*y.a5,
  x.a0*y.a5+x.a1*y.a4+x.a2*y.a3+x.a3*y.a2+x.a4*y.a1+x.a5*y.a0+x.a6*y.a6,
  x.a0*y.a6+x.a1*y.a5+x.a2*y.a4+x.a3*y.a3+x.a4*y.a2+x.a5*y.a1+x.a6*y.a0⟩
def pow (x:C7):Nat→C7
 | 0=>c 1
 | n+1=>mul (pow x n) x
theorem ky (x y:C7):add x y=add y x:=by unfold add;ext <;>exact Int.add_comm _ _
theorem CL (x y z:C7):add (add x y) z=add x (add y z):=by unfold add;ext <;>exact Int.add_assoc _ _ _
theorem fm (x:C7):add x (c 0)=x:=by unfold add c;ext <;>exact Int.add_zero _
theorem Sq (x:C7):add (neg x) x=c 0:=by unfold add c neg;ext <;>exact Int.add_left_neg _
theorem hU (x y:C7):mul x y=mul y x:=by unfold mul;ext <;>dsimp only <;>grind
theorem iD (x:C7):mul x (c 1)=x:=by unfold mul c;ext <;>dsimp only <;>grind
theorem gV (x:C7):mul x (c 0)=c 0:=by unfold mul c;ext <;>dsimp only <;>grind
theorem Wn (x y z:C7):mul x (add y z)=add (mul x y) (mul x z):=by unfold mul add;ext <;>dsimp only <;>grind
theorem ME (x y z:C7):mul (mul x y) z=mul x (mul y z):=by unfold mul;ext <;>dsimp only <;>grind
end C7
open C7
theorem akt (m n:Int):c (m+n)=add (c m) (c n):=by unfold c add;ext <;>simp
def gZ (f:Nat→C7):Nat→C7
 | 0=>c 0
 | n+1=>add (gZ f n) (f n)
instance:Add C7:=⟨add⟩
instance:Mul C7:=⟨mul⟩
instance:Neg C7:=⟨neg⟩
instance:HPow C7 Nat C7:=⟨pow⟩
instance:Std.Associative (α:=C7) (· + ·):=⟨CL⟩
instance:Std.Commutative (α:=C7) (· + ·):=⟨ky⟩
instance:Std.Associative (α:=C7) (· * ·):=⟨ME⟩
instance:Std.Commutative (α:=C7) (· * ·):=⟨hU⟩
theorem lZ (x y z:C7):x*(y+z)=x*y+x*z:=Wn x y z
theorem IU (x y z:C7):(x+y)*z=x*z+y*z:=by
 show mul (add x y) z=add (mul x z) (mul y z)
 rw [hU,Wn,hU z x,hU z y]
theorem KY (f g:Nat→C7):∀ n,gZ (fun j=>f j+g j) n=gZ f n+gZ g n
 | 0=>by show c 0=c 0+c 0;exact (fm _).symm
 | n+1=>by
  show gZ (fun j=>f j+g j) n+(f n+g n)=(gZ f n+f n)+(gZ g n+g n)
  rw [KY f g n]
  ac_rfl
theorem EE (a:C7) (f:Nat→C7):∀ n,gZ (fun j=>a*f j) n=a*gZ f n
 | 0=>(gV a).symm
 | n+1=>by
  show gZ (fun j=>a*f j) n+a*f n=a*(gZ f n+f n)
  rw [EE a f n,lZ]
theorem sY (f:Nat→C7):∀ n,gZ f (n+1)=f 0+gZ (fun j=>f (j+1)) n
 | 0=>by show c 0+f 0=f 0+c 0;exact ky _ _
 | n+1=>by
  show gZ f (n+1)+f (n+1)=f 0+(gZ (fun j=>f (j+1)) n+f (n+1))
  rw [sY f n]
  ac_rfl
theorem FB {f g:Nat→C7} :∀ {n},(∀ j,j<n→f j=g j)→gZ f n=gZ g n
 | 0,_=>rfl
 | n+1,h=>by
  show gZ f n+f n=gZ g n+g n
  rw [FB fun j hj=>h j (by omega),h n (by omega)]
theorem DY (m n:Int):c (m*n)=c m*c n:=by
 show c (m*n)=mul (c m) (c n)
 unfold c mul;ext <;>simp
theorem DL (m n:Int):c (m+n)=c m+c n:=akt m n
def gH (a b:C7) (n k:Nat):C7:=c (ch n k)*(a ^ (n-k)*b ^ k)
theorem jj (a:C7) (n:Nat):a ^ (n+1)=a ^ n*a:=rfl
theorem yR (a:C7):a ^ 0=c 1:=rfl
theorem k9 (a:C7):c 1*a=a:=(hU _ _).trans (iD a)
theorem C4 (a:C7):c 0*a=c 0:=(hU _ _).trans (gV a)
theorem ahU (a b:C7) (n:Nat):gH a b (n+1) 0=a*gH a b n 0:=by
 unfold gH
 rw [ve,ve,Nat.sub_zero,Nat.sub_zero,jj,yR]
 show c 1*_=a*(c 1*_)
 rw [k9,k9]
 ac_rfl
theorem xU (a b:C7) (n k:Nat) (h:n<k):gH a b n k=c 0:=by
 unfold gH
 rw [oJ n k h]
 exact C4 _
theorem aiS (a b:C7) (n k:Nat):gH a b (n+1) (k+1)=a*gH a b n (k+1)+b*gH a b n k:=by
 by_cases h:k<n
 ·unfold gH
  obtain ⟨m,rfl⟩:∃ m,n=k+1+m:=⟨n-(k+1),by omega⟩
  rw [show k+1+m+1-(k+1)=m+1 from by omega,show k+1+m-(k+1)=m from by omega,show k+1+m-k=m+1 from by omega]
  rw [show ch (k+1+m+1) (k+1)=ch (k+1+m) k+ch (k+1+m) (k+1) from rfl,Int.natCast_add,DL,jj,jj,IU]
  have e1:c (ch (k+1+m) k)*(a ^ m*a*(b ^ k*b))=b*(c (ch (k+1+m) k)*(a ^ m*a*b ^ k)):=by ac_rfl
  have e2:c (ch (k+1+m) (k+1))*(a ^ m*a*(b ^ k*b))=a*(c (ch (k+1+m) (k+1))*(a ^ m*(b ^ k*b))):=by ac_rfl
  rw [e1,e2]
  exact ky _ _
 ·by_cases h2:n<k
  ·rw [xU _ _ _ _ (by omega),xU _ _ _ _ (by omega),xU _ _ _ _ h2]
   show c 0=mul a (c 0)+mul b (c 0)
   rw [gV,gV]
   exact (fm _).symm
  ·have:n=k:=by omega
   subst this
   rw [xU a b n (n+1) (by omega)]
   unfold gH
   rw [show ch (n+1) (n+1)=ch n n+ch n (n+1) from rfl,oJ n (n+1) (by omega),Nat.add_zero,Nat.sub_self,Nat.sub_self,jj,yR]
   show _=mul a (c 0)+_
   rw [gV]
   show _=c 0+b*(c (ch n n)*(c 1*b ^ n))
   have:∀ x,c 0+x=x:=fun x=>(ky _ _).trans (fm x)
   rw [this,k9,k9]
   ac_rfl
theorem Vi (a b:C7):∀ n,(a+b) ^ n=gZ (gH a b n) (n+1)
 | 0=>by
  show c 1=add (c 0) (mul (c 1) (mul (c 1) (c 1)))
  rw [iD,iD,ky,fm]
 | n+1=>by
  rw [sY,ahU,FB (g:=fun k=>a*gH a b n (k+1)+b*gH a b n k) fun k _=>aiS a b n k,KY,EE,EE,jj,Vi a b n]
  have h:=sY (gH a b n) (n+1)
  have h2:gZ (gH a b n) (n+1+1)=gZ (gH a b n) (n+1)+gH a b n (n+1):=rfl
  rw [xU a b n (n+1) (by omega)] at h2
  have h3:gZ (gH a b n) (n+1)+c 0=gZ (gH a b n) (n+1):=fm _
  rw [h3] at h2
  rw [h2] at h
  generalize gZ (fun j=>gH a b n (j+1)) (n+1)=u at h ⊢
  generalize gZ (gH a b n) (n+1)=v at h ⊢
  generalize gH a b n 0=w at h ⊢
  rw [h,lZ,show (w+u)*a=a*(w+u) from hU _ _,lZ,show (w+u)*b=b*(w+u) from hU _ _]
  ac_rfl
def Cg (m:Nat) (x y:C7):Prop:=∃ z,x=y+c m*z
theorem Cg.refl (m:Nat) (x:C7):Cg m x x:=⟨c 0,by
 show x=add x (mul (c m) (c 0))
 rw [gV,fm]⟩
theorem Cg.symm {m:Nat} {x y:C7} (h:Cg m x y):Cg m y x:=by
 obtain ⟨z,rfl⟩:=h
 refine ⟨-z,?_⟩
 have h:c m*z+c m*(-z)=c 0:=by
  rw [← lZ,show z+ -z=c 0 from (ky _ _).trans (Sq z)]
  exact gV _
 rw [show y+c m*z+c m*(-z)=y+(c m*z+c m*(-z)) from CL _ _ _,h]
 exact (fm y).symm
theorem Cg.trans {m:Nat} {x y z:C7} (h:Cg m x y) (k:Cg m y z):Cg m x z:=by
 obtain ⟨u,rfl⟩:=h
 obtain ⟨v,rfl⟩:=k
 exact ⟨u+v,by rw [lZ];ac_rfl⟩
theorem Cg.mul {m:Nat} {x y u v:C7} (h:Cg m x y) (k:Cg m u v):Cg m (x*u) (y*v):=by
 obtain ⟨a,rfl⟩:=h
 obtain ⟨b,rfl⟩:=k
 exact ⟨y*b+a*v+c m*a*b,by simp only [lZ,IU];ac_rfl⟩
theorem Cg.add {m:Nat} {x y u v:C7} (h:Cg m x y) (k:Cg m u v):Cg m (x+u) (y+v):=by
 obtain ⟨a,rfl⟩:=h
 obtain ⟨b,rfl⟩:=k
 exact ⟨a+b,by rw [lZ];ac_rfl⟩
theorem Cg.pow {m:Nat} {x y:C7} (h:Cg m x y):∀ n:Nat,Cg m (x ^ n) (y ^ n)
 | 0=>Cg.refl m _
 | n+1=>(Cg.pow h n).mul h
theorem Cg.of_dvd {m n:Nat} {x y:C7} (h:Cg n x y) (hd:m∣n):Cg m x y:=by
 obtain ⟨z,rfl⟩:=h
 obtain ⟨k,rfl⟩:=hd
 refine ⟨c k*z,?_⟩
 rw [Int.natCast_mul,DY]
 show _+_*_*_=_+_*(_*_)
 ac_rfl
theorem Pe {m:Nat} {f:Nat→C7} :∀ {n},(∀ j,j<n→Cg m (f j) (c 0))→Cg m (gZ f n) (c 0)
 | 0,_=>Cg.refl m _
 | n+1,h=>by
  have:=(Pe (n:=n) fun j hj=>h j (by omega)).add (h n (by omega))
  rwa [show c 0+c 0=c 0 from fm _] at this
theorem zA {p:Nat} (hp:Pr p) (a b:C7):Cg p ((a+b) ^ p) (a ^ p+b ^ p):=by
 obtain ⟨q,rfl⟩:∃ q,p=q+1:=⟨p-1,by have:=hp.1;omega⟩
 rw [Vi]
 show Cg (q+1) (gZ (gH a b (q+1)) (q+1)+gH a b (q+1) (q+1)) _
 rw [sY]
 have h0:gH a b (q+1) 0=a ^ (q+1):=by
  unfold gH
  rw [ve,Nat.sub_zero,yR]
  show c 1*(_*c 1)=_
  rw [k9]
  exact iD _
 have hcc:∀ n,ch n n=1:=fun n=>by
  induction n with
  | zero=>rfl
  | succ n ih=>rw [show ch (n+1) (n+1)=ch n n+ch n (n+1) from rfl,oJ n (n+1) (by omega),ih]
 have h1:gH a b (q+1) (q+1)=b ^ (q+1):=by
  unfold gH
  rw [hcc,Nat.sub_self,yR]
  show c 1*(c 1*_)=_
  rw [k9,k9]
 rw [h0,h1]
 have h2:Cg (q+1) (gZ (fun j=>gH a b (q+1) (j+1)) q) (c 0):=Pe fun j hj=>by
  obtain ⟨k,hk⟩:=TU hp (k:=j+1) (by omega) (by omega)
  refine ⟨c k*(a ^ (q+1-(j+1))*b ^ (j+1)),?_⟩
  unfold gH
  rw [hk,Int.natCast_mul,DY]
  have:∀ x,c 0+x=x:=fun x=>(ky _ _).trans (fm x)
  rw [this]
  ac_rfl
 have h3:=((Cg.refl (q+1) (a ^ (q+1))).add h2).add (Cg.refl (q+1) (b ^ (q+1)))
 rwa [show a ^ (q+1)+c 0=a ^ (q+1) from fm _] at h3
end Go.NT
namespace Go.NT
set_option linter.unusedVariables false
open C7
def X:C7:=⟨0,1,0,0,0,0,0⟩
theorem rg:∀ n:Nat,(c 1) ^ n=c 1
 | 0=>rfl
 | n+1=>by rw [jj,rg n];exact iD _
theorem j5 (x:C7) (m:Nat):∀ n:Nat,x ^ (m+n)=x ^ m*x ^ n
 | 0=>(iD _).symm
 | n+1=>by rw [← Nat.add_assoc,jj,j5 x m n,jj];ac_rfl
theorem fg (x:C7) (m:Nat):∀ n:Nat,x ^ (m*n)=(x ^ m) ^ n
 | 0=>rfl
 | n+1=>by rw [Nat.mul_succ,j5,fg x m n,jj]
theorem AQ (x y:C7):∀ n:Nat,(x*y) ^ n=x ^ n*y ^ n
 | 0=>(iD _).symm
 | n+1=>by rw [jj,AQ x y n,jj,jj];ac_rfl
theorem GO (a:Int):∀ n:Nat,(c a) ^ n=c (a ^ n)
 | 0=>by rw [yR,Int.pow_zero]
 | n+1=>by rw [jj,GO a n,Int.pow_succ,DY]
theorem X7:X ^ 7=c 1:=rfl
theorem nq (n:Nat):X ^ n=X ^ (n%7):=by
 have h:n=7*(n / 7)+n%7:=(Nat.div_add_mod n 7).symm
 rw [h,j5,fg,X7,rg,k9,← h]
def sub (k:Nat) (x:C7):C7:=c x.a0+c x.a1*X ^ k+c x.a2*X ^ (2*k)+c x.a3*X ^ (3*k)+c x.a4*X ^ (4*k)+c x.a5*X ^ (5*k)+c x.a6*X ^ (6*k)
theorem LH (k:Nat) (x:C7):sub k x=sub (k%7) x:=by
 unfold sub
 rw [nq k,nq (2*k),nq (3*k),nq (4*k),nq (5*k),nq (6*k),nq (2*(k%7)),nq (3*(k%7)),nq (4*(k%7)),nq (5*(k%7)),nq (6*(k%7))]
 rw [Nat.mul_mod_mod,Nat.mul_mod_mod,Nat.mul_mod_mod,Nat.mul_mod_mod,Nat.mul_mod_mod]
theorem x1:X ^ 1=⟨0,1,0,0,0,0,0⟩:=rfl
theorem x2:X ^ 2=⟨0,0,1,0,0,0,0⟩:=rfl
theorem x3:X ^ 3=⟨0,0,0,1,0,0,0⟩:=rfl
theorem x4:X ^ 4=⟨0,0,0,0,1,0,0⟩:=rfl
theorem x5:X ^ 5=⟨0,0,0,0,0,1,0⟩:=rfl
theorem x6:X ^ 6=⟨0,0,0,0,0,0,1⟩:=rfl
theorem plus_is (x y:C7):x+y=add x y:=rfl
theorem times_is (x y:C7):x*y=mul x y:=rfl
theorem Ln (x:C7):sub 1 x=x:=by
 unfold sub
 rw [x1,show X ^ (2*1)=_ from x2,show X ^ (3*1)=_ from x3,show X ^ (4*1)=_ from x4,show X ^ (5*1)=_ from x5,show X ^ (6*1)=_ from x6]
 simp only [plus_is,times_is]
 unfold add mul c
 ext <;>dsimp only <;>grind
def sg (x:C7):C7:=⟨x.a0,x.a3,x.a6,x.a2,x.a5,x.a1,x.a4⟩
theorem pn (x y:C7):sg (x*y)=sg x*sg y:=by
 show sg (mul x y)=mul (sg x) (sg y)
 unfold sg mul
 ext <;>dsimp only <;>grind
theorem rN (x y:C7):sg (x+y)=sg x+sg y:=rfl
theorem yz (n:Int):sg (c n)=c n:=rfl
theorem pE (x:C7):∀ n:Nat,sg (x ^ n)=sg x ^ n
 | 0=>rfl
 | n+1=>by rw [jj,pn,pE x n,jj]
theorem Cg.sg {m:Nat} {x y:C7} (h:Cg m x y):Cg m (sg x) (sg y):=by
 obtain ⟨z,rfl⟩:=h
 exact ⟨NT.sg z,by rw [rN,pn,yz]⟩
def FH (x:C7):Nat→C7
 | 0=>x
 | n+1=>sg (FH x n)
theorem aeE (k:Nat) (x:C7):sg (sub k x)=sub (5*k) x:=by
 have hX:sg X=X ^ 5:=rfl
 unfold sub
 rw [rN,rN,rN,rN,rN,rN,pn,pn,pn,pn,pn,pn,yz,yz,yz,yz,yz,yz,yz,pE,pE,pE,pE,pE,pE,hX,
  ← fg,← fg,← fg,← fg,← fg,← fg,
  show 5*(2*k)=2*(5*k) from by omega,show 5*(3*k)=3*(5*k) from by omega,show 5*(4*k)=4*(5*k) from by omega,show 5*(6*k)=6*(5*k) from by omega]
theorem LW (x:C7):∀ i:Nat,sub (5 ^ i) x=FH x i
 | 0=>Ln x
 | i+1=>by rw [Nat.pow_succ,Nat.mul_comm,← aeE,LW x i];rfl
theorem AN {p K:Nat} (hp:Pr p) (hK:p=2*K+1) (a:Int):Cg p (c (a ^ p)) (c a):=by
 obtain ⟨k,hk⟩:=X6 hp hK a
 refine ⟨c k,?_⟩
 rw [← DY,← hk,← DL]
 congr 1
 omega
theorem oo {p K:Nat} (hp:Pr p) (hK:p=2*K+1) (a:Int) (i:Nat):Cg p ((c a*X ^ i) ^ p) (c a*X ^ (i*p)):=by
 rw [AQ,GO,← fg]
 exact (AN hp hK a).mul (Cg.refl p _)
theorem alh {p K:Nat} (hp:Pr p) (hK:p=2*K+1) (x:C7):Cg p (x ^ p) (sub p x):=by
 have h1:Cg p (sub 1 x ^ p) (sub p x):=by
  unfold sub
  refine (zA hp _ _).trans (Cg.add ?_ (oo hp hK x.a6 6))
  refine (zA hp _ _).trans (Cg.add ?_ (oo hp hK x.a5 5))
  refine (zA hp _ _).trans (Cg.add ?_ (oo hp hK x.a4 4))
  refine (zA hp _ _).trans (Cg.add ?_ (oo hp hK x.a3 3))
  refine (zA hp _ _).trans (Cg.add ?_ (oo hp hK x.a2 2))
  refine (zA hp _ _).trans (Cg.add ?_ (by have:=oo hp hK x.a1 1;rwa [Nat.one_mul] at this))
  rw [GO]
  exact AN hp hK x.a0
 rwa [Ln] at h1
theorem W6 {p K:Nat} (hp:Pr p) (hK:p=2*K+1) (h7:p%7≠0) (x:C7):∃ i,i<6∧Cg p (x ^ p) (FH x i):=by
 have h:=alh hp hK x
 have key:∃ i,i<6∧5 ^ i%7=p%7:=by
  have:p%7=1∨p%7=2∨p%7=3∨p%7=4∨p%7=5∨p%7=6:=by omega
  rcases this with e | e | e | e | e | e <;>rw [e]
  ·exact ⟨0,by decide,by decide⟩
  ·exact ⟨4,by decide,by decide⟩
  ·exact ⟨5,by decide,by decide⟩
  ·exact ⟨2,by decide,by decide⟩
  ·exact ⟨1,by decide,by decide⟩
  ·exact ⟨3,by decide,by decide⟩
 obtain ⟨i,hi,e⟩:=key
 refine ⟨i,hi,?_⟩
 rw [← LW,LH,e,← LH]
 exact h
def eC (r:Nat) (x:C7) (n:Nat):Prop:=Cg r (x ^ n) (c 1)
theorem Pm {r:Nat} {x:C7} (a b:Nat) (ha:eC r x a) (hb:eC r x b):eC r x (b%a):=by
 have h1:x ^ b=x ^ (a*(b / a))*x ^ (b%a):=by rw [← j5,Nat.div_add_mod]
 have h2:Cg r (x ^ (a*(b / a))) (c 1):=by
  rw [fg]
  have:=Cg.pow ha (b / a)
  rwa [rg] at this
 unfold eC at hb ⊢
 rw [h1] at hb
 have h3:=(h2.mul (Cg.refl r (x ^ (b%a)))).symm.trans hb
 rwa [k9] at h3
theorem JP {r:Nat} {x:C7} (a k:Nat) (ha:eC r x a):eC r x (a*k):=by
 unfold eC
 rw [fg]
 have:=Cg.pow ha k
 rwa [rg] at this
theorem U1 {N:Nat} {x:C7} (h:Cg N (x ^ N) (sg x)):∀ i:Nat,Cg N (x ^ (N ^ i)) (FH x i)
 | 0=>by rw [Nat.pow_zero];exact ⟨c 0,by show mul (c 1) x=add x (mul _ (c 0));rw [gV,fm,hU,iD]⟩
 | i+1=>by
  rw [Nat.pow_succ,fg]
  refine (Cg.pow (U1 h i) N).trans ?_
  have key:∀ i,Cg N (FH x i ^ N) (FH x (i+1)):=fun i=>by
   induction i with
   | zero=>exact h
   | succ i ih=>
    show Cg N (sg (FH x i) ^ N) (sg (FH x (i+1)))
    rw [← pE]
    exact ih.sg
  exact key i
theorem AV {r s u v:Nat} {x:C7} (hs:0<s) (h1:eC r x s) (h:Cg r (x ^ u) (x ^ v)) (huv:u≤v):eC r x (v-u):=by
 obtain ⟨d,rfl⟩:∃ d,v=u+d:=⟨v-u,by omega⟩
 rw [Nat.add_sub_cancel_left]
 obtain ⟨t,rfl⟩:∃ t,s=t+1:=⟨s-1,by omega⟩
 have h2:=JP _ u h1
 have h3:=h.mul (Cg.refl r (x ^ (t*u)))
 rw [← j5,← j5,show u+t*u=(t+1)*u from by rw [Nat.add_mul,Nat.one_mul,Nat.add_comm],show u+d+t*u=d+(t+1)*u from by rw [Nat.add_mul,Nat.one_mul];omega,j5] at h3
 have h4:=(Cg.refl r (x ^ d)).mul h2
 have h5:=(h3.trans h4).symm.trans h2
 rwa [show x ^ d*c 1=x ^ d from iD _] at h5
def fL:List (Nat×Nat)→Nat
 | [] =>1
 | (f,k)::l=>f ^ k*fL l
def EF:List (Nat×Nat)→Bool
 | [] =>true
 | (f,k)::l=>Nat.beq (Nat.gcd (f ^ k) (fL l)) 1&&EF l
theorem D9:∀ {l:List (Nat×Nat)} {t:Nat},EF l=true→(∀ f k,(f,k)∈l→f ^ k∣t)→fL l∣t
 | [],t,_,_=>Nat.one_dvd t
 | (f,k)::l,t,h,hd=>by
  rw [EF,Bool.and_eq_true] at h
  have h1:=D9 h.2 fun f k hf=>hd f k (List.mem_cons_of_mem _ hf)
  exact Nat.Coprime.mul_dvd_of_dvd_of_dvd (Nat.eq_of_beq_eq_true h.1) (hd f k (List.mem_cons_self ..)) h1
theorem Et:∀ {l:List (Nat×Nat)} {f k:Nat},(f,k)∈l→f ^ k∣fL l
 | [],_,_,h=>by cases h
 | (f,k)::l,f',k',h=>by
  rw [fL]
  cases h with
  | head=>exact Nat.dvd_mul_right _ _
  | tail _ h=>exact Nat.dvd_trans (Et h) (Nat.dvd_mul_left _ _)
theorem Xb {N:Nat} {x:C7} {l:List (Nat×Nat)} (h2:2≤N) (h7:N%7=5) (hodd:N%2=1) (hc:EF l=true) (hl:∀ f k,(f,k)∈l→Pr f)
  (h1:Cg N (x ^ fL l) (c 1)) (hN:Cg N (x ^ N) (sg x)) (hne:∀ r,Pr r→r∣N→∀ f k,(f,k)∈l→¬ Cg r (x ^ (fL l / f)) (c 1))
  (hbig:N<fL l*fL l) (hno:∀ i,i<6→N ^ i%fL l=1∨¬ N ^ i%fL l∣N):Pr N:=by
 refine Tk h2 fun r hr hrN hsq=> ?_
 have hr2:r%2=1:=by
  rcases Nat.mod_two_eq_zero_or_one r with e | e
  ·have:2∣N:=Nat.dvd_trans (Nat.dvd_of_mod_eq_zero e) hrN
   omega
  ·exact e
 have hr7:r%7≠0:=fun e=>by
  have:7∣N:=Nat.dvd_trans (Nat.dvd_of_mod_eq_zero e) hrN
  omega
 obtain ⟨i,hi,hf⟩:=W6 hr (K:=r / 2) (by omega) hr7 x
 have hv:=(U1 hN i).of_dvd hrN
 have iu:0<fL l:=by
  rcases Nat.eq_zero_or_pos (fL l) with e | e
  ·rw [e] at hbig;omega
  ·exact e
 have hone:eC r x (fL l):=h1.of_dvd hrN
 have main:∀ t,eC r x t→fL l∣t:=fun t ht=>D9 hc fun f k hm=>
  LS (e:=eC r x) (fun a b=>Pm a b) (fun a k=>JP a k) (hl f k hm) hone (Et hm) ht (hne r hr hrN f k hm)
 have hcg:Cg r (x ^ r) (x ^ (N ^ i)):=hf.trans hv.symm
 have hmod:r%fL l=N ^ i%fL l:=by
  rcases Nat.le_total r (N ^ i) with hle | hle
  ·obtain ⟨q,hq⟩:=main _ (AV iu hone hcg hle)
   rw [show N ^ i=r+fL l*q from by omega,Nat.add_mul_mod_self_left]
  ·obtain ⟨q,hq⟩:=main _ (AV iu hone hcg.symm hle)
   rw [show r=N ^ i+fL l*q from by omega,Nat.add_mul_mod_self_left]
 have hlt:r<fL l:=by
  rcases Nat.lt_or_ge r (fL l) with e | e
  ·exact e
  ·have:=Nat.mul_le_mul e e
   omega
 rw [Nat.mod_eq_of_lt hlt] at hmod
 rcases hno i hi with e | e
 ·have:=hr.1;omega
 ·exact e (hmod ▸ hrN)
end Go.NT
namespace Go.NT
set_option linter.unusedVariables false
open C7
structure V7 where
 b0:Nat
 b1:Nat
 b2:Nat
 b3:Nat
 b4:Nat
 b5:Nat
 b6:Nat
def cv (x:V7):C7:=⟨x.b0,x.b1,x.b2,x.b3,x.b4,x.b5,x.b6⟩
noncomputable def fr (n:Nat) (K:Nat→Bool):Bool:=Nat.rec (K 0) (fun m _=>K (Nat.succ m)) n
theorem vM (n:Nat) (K:Nat→Bool):fr n K=K n:=by cases n <;>rfl
def a7 (a b c d e f g:Nat):Nat:=Nat.add (Nat.add (Nat.add (Nat.add (Nat.add (Nat.add a b) c) d) e) f) g
noncomputable def tB (m:Nat) (x y:V7) (K:V7→Bool):Bool:=
 fr (Nat.mod (a7 (Nat.mul x.b0 y.b0) (Nat.mul x.b1 y.b6) (Nat.mul x.b2 y.b5) (Nat.mul x.b3 y.b4) (Nat.mul x.b4 y.b3) (Nat.mul x.b5 y.b2) (Nat.mul x.b6 y.b1)) m) fun c0=>
 fr (Nat.mod (a7 (Nat.mul x.b0 y.b1) (Nat.mul x.b1 y.b0) (Nat.mul x.b2 y.b6) (Nat.mul x.b3 y.b5) (Nat.mul x.b4 y.b4) (Nat.mul x.b5 y.b3) (Nat.mul x.b6 y.b2)) m) fun c1=>
 fr (Nat.mod (a7 (Nat.mul x.b0 y.b2) (Nat.mul x.b1 y.b1) (Nat.mul x.b2 y.b0) (Nat.mul x.b3 y.b6) (Nat.mul x.b4 y.b5) (Nat.mul x.b5 y.b4) (Nat.mul x.b6 y.b3)) m) fun c2=>
 fr (Nat.mod (a7 (Nat.mul x.b0 y.b3) (Nat.mul x.b1 y.b2) (Nat.mul x.b2 y.b1) (Nat.mul x.b3 y.b0) (Nat.mul x.b4 y.b6) (Nat.mul x.b5 y.b5) (Nat.mul x.b6 y.b4)) m) fun c3=>
 fr (Nat.mod (a7 (Nat.mul x.b0 y.b4) (Nat.mul x.b1 y.b3) (Nat.mul x.b2 y.b2) (Nat.mul x.b3 y.b1) (Nat.mul x.b4 y.b0) (Nat.mul x.b5 y.b6) (Nat.mul x.b6 y.b5)) m) fun c4=>
 fr (Nat.mod (a7 (Nat.mul x.b0 y.b5) (Nat.mul x.b1 y.b4) (Nat.mul x.b2 y.b3) (Nat.mul x.b3 y.b2) (Nat.mul x.b4 y.b1) (Nat.mul x.b5 y.b0) (Nat.mul x.b6 y.b6)) m) fun c9=>
 fr (Nat.mod (a7 (Nat.mul x.b0 y.b6) (Nat.mul x.b1 y.b5) (Nat.mul x.b2 y.b4) (Nat.mul x.b3 y.b3) (Nat.mul x.b4 y.b2) (Nat.mul x.b5 y.b1) (Nat.mul x.b6 y.b0)) m) fun c6=>
 K ⟨c0,c1,c2,c3,c4,c9,c6⟩
theorem Q2 (n:Int) (z:C7):c n*z=sc n z:=by
 show mul (c n) z=sc n z
 unfold mul c sc
 ext <;>simp
theorem XV (a m:Nat):((Nat.mod a m:Nat):Int)=(a:Int)+(m:Int)* -((a / m:Nat):Int):=by
 have h:=Nat.div_add_mod a m
 have h2:((m*(a / m)+a%m:Nat):Int)=(a:Int):=by rw [h]
 rw [Int.natCast_add,Int.natCast_mul] at h2
 show ((a%m:Nat):Int)=_
 rw [Int.mul_neg]
 omega
theorem aff (a b c d e f g:Nat):((a7 a b c d e f g:Nat):Int)=a+b+c+d+e+f+g:=by
 show ((a+b+c+d+e+f+g:Nat):Int)=_
 simp
theorem og (a b:Nat):((Nat.mul a b:Nat):Int)=a*b:=Int.natCast_mul a b
theorem A9 {a m:Nat} {b:Int} (h:(a:Int)=b):∃ z:Int,((Nat.mod a m:Nat):Int)=b+m*z:=⟨_,by rw [XV,h]⟩
theorem ah3 {m:Nat} {x y:C7} (h0:∃ z:Int,x.a0=y.a0+m*z) (h1:∃ z:Int,x.a1=y.a1+m*z) (h2:∃ z:Int,x.a2=y.a2+m*z) (h3:∃ z:Int,x.a3=y.a3+m*z) (h4:∃ z:Int,x.a4=y.a4+m*z) (h5:∃ z:Int,x.a5=y.a5+m*z) (h6:∃ z:Int,x.a6=y.a6+m*z):Cg m x y:=by
 obtain ⟨z0,h0⟩:=h0
 obtain ⟨z1,h1⟩:=h1
 obtain ⟨z2,h2⟩:=h2
 obtain ⟨z3,h3⟩:=h3
 obtain ⟨z4,h4⟩:=h4
 obtain ⟨z5,h5⟩:=h5
 obtain ⟨z6,h6⟩:=h6
 refine ⟨⟨z0,z1,z2,z3,z4,z5,z6⟩,?_⟩
 rw [Q2]
 exact C7.ext h0 h1 h2 h3 h4 h5 h6
theorem uH {m:Nat} {x y:V7} {K:V7→Bool} (h:tB m x y K=true):∃ r,K r=true∧Cg m (cv r) (cv x*cv y):=by
 unfold tB at h
 rw [vM,vM,vM,vM,vM,vM,vM] at h
 refine ⟨_,h,ah3 (A9 ?_) (A9 ?_) (A9 ?_) (A9 ?_) (A9 ?_) (A9 ?_) (A9 ?_)⟩ <;>rw [aff,og,og,og,og,og,og,og] <;>rfl
def rJ:V7:=⟨1,0,0,0,0,0,0⟩
theorem PI:cv rJ=c 1:=rfl
noncomputable def yb (m:Nat) (x:V7) (n i:Nat):V7→(V7→Bool)→Bool:=
 Nat.rec (motive:=fun _=>V7→(V7→Bool)→Bool) (fun a K=>K a) (fun i ih a K=>tB m a a fun a2=>bif Nat.beq (Nat.mod (Nat.div n (Nat.pow 2 i)) 2) 1 then tB m a2 x fun a3=>ih a3 K else ih a2 K) i
theorem aiT (m:Nat) (x:V7) (n i:Nat) (a:V7) (K:V7→Bool):yb m x n (i+1) a K=tB m a a fun a2=>bif Nat.beq (Nat.mod (Nat.div n (Nat.pow 2 i)) 2) 1 then tB m a2 x fun a3=>yb m x n i a3 K else yb m x n i a2 K:=rfl
theorem Kj {m:Nat} {x:V7} {n:Nat} :∀ {i:Nat} {a:V7} {K:V7→Bool},yb m x n i a K=true→∃ r,K r=true∧Cg m (cv r) (cv a ^ (2 ^ i)*cv x ^ (n%2 ^ i))
 | 0,a,K,h=>⟨a,h,by
  rw [Nat.pow_zero,Nat.mod_one,yR]
  show Cg m (cv a) ((c 1*cv a)*c 1)
  rw [k9,show cv a*c 1=cv a from iD _]
  exact Cg.refl m _⟩
 | i+1,a,K,h=>by
  rw [aiT] at h
  obtain ⟨a2,h,k2⟩:=uH h
  have hb:n%2 ^ (i+1)=n%2 ^ i+2 ^ i*(n / 2 ^ i%2):=Nat.mod_pow_succ ..
  have k3:Cg m (cv a2 ^ (2 ^ i)) (cv a ^ (2 ^ (i+1))):=by
   have:=Cg.pow k2 (2 ^ i)
   rwa [show cv a*cv a=cv a ^ 2 from (by show _=(c 1*cv a)*cv a;rw [k9]),← fg,show 2*2 ^ i=2 ^ (i+1) from by rw [Nat.pow_succ,Nat.mul_comm]] at this
  cases hc:Nat.beq (Nat.mod (Nat.div n (Nat.pow 2 i)) 2) 1 with
  | true=>
   rw [hc] at h
   obtain ⟨a3,h,k4⟩:=uH (show tB m a2 x (fun a3=>yb m x n i a3 K)=true from h)
   obtain ⟨r,h,k5⟩:=Kj h
   have hc:n / 2 ^ i%2=1:=Nat.eq_of_beq_eq_true hc
   refine ⟨r,h,k5.trans ?_⟩
   rw [hb,hc,Nat.mul_one]
   have k6:=Cg.pow k4 (2 ^ i)
   rw [AQ] at k6
   have k7:=(k6.trans (k3.mul (Cg.refl m (cv x ^ (2 ^ i))))).mul (Cg.refl m (cv x ^ (n%2 ^ i)))
   rw [j5]
   refine k7.trans ?_
   have:cv a ^ 2 ^ (i+1)*cv x ^ 2 ^ i*cv x ^ (n%2 ^ i)=cv a ^ 2 ^ (i+1)*(cv x ^ (n%2 ^ i)*cv x ^ 2 ^ i):=by ac_rfl
   rw [this]
   exact Cg.refl m _
  | false=>
   rw [hc] at h
   obtain ⟨r,h,k5⟩:=Kj (show yb m x n i a2 K=true from h)
   have hc:n / 2 ^ i%2=0:=by
    have h1:¬ n / 2 ^ i%2=1:=fun e=>by
     have:Nat.beq (n / 2 ^ i%2) 1=true:=by rw [e];rfl
     have h3:Nat.beq (n / 2 ^ i%2) 1=false:=hc
     rw [this] at h3;cases h3
    omega
   refine ⟨r,h,k5.trans ?_⟩
   rw [hb,hc,Nat.mul_zero,Nat.add_zero]
   exact k3.mul (Cg.refl m _)
theorem Cn {m:Nat} {x:V7} {n L:Nat} {K:V7→Bool} (hn:n<2 ^ L) (h:yb m x n L rJ K=true):∃ r,K r=true∧Cg m (cv r) (cv x ^ n):=by
 obtain ⟨r,h1,h2⟩:=Kj h
 rw [PI,rg,k9,Nat.mod_eq_of_lt hn] at h2
 exact ⟨r,h1,h2⟩
def Io (x y:V7):Bool:=Nat.beq x.b0 y.b0&&(Nat.beq x.b1 y.b1&&(Nat.beq x.b2 y.b2&&(Nat.beq x.b3 y.b3&&(Nat.beq x.b4 y.b4&&(Nat.beq x.b5 y.b5&&Nat.beq x.b6 y.b6)))))
theorem yF {x y:V7} (h:Io x y=true):x=y:=by
 unfold Io at h
 simp only [Bool.and_eq_true] at h
 obtain ⟨h0,h1,h2,h3,h4,h5,h6⟩:=h
 cases x;cases y
 rw [V7.mk.injEq]
 exact ⟨Nat.eq_of_beq_eq_true h0,Nat.eq_of_beq_eq_true h1,Nat.eq_of_beq_eq_true h2,Nat.eq_of_beq_eq_true h3,Nat.eq_of_beq_eq_true h4,Nat.eq_of_beq_eq_true h5,Nat.eq_of_beq_eq_true h6⟩
def GB (m:Nat) (x:V7):V7:=⟨Nat.add x.b0 m,x.b1,x.b2,x.b3,x.b4,x.b5,x.b6⟩
theorem R4 {r m:Nat} (hr:r∣m+1) {x:V7} (h:Cg r (cv x) (c 1)):Cg r (cv (GB m x)) (c 0):=by
 have e:cv (GB m x)=cv x+c m:=by
  show _=add (cv x) (c m)
  unfold cv GB add c
  ext <;>simp
 rw [e]
 obtain ⟨k,hk⟩:=hr
 have h2:Cg r (c m) (c (-1)):=⟨c k,by
  rw [← DY,← DL]
  congr 1
  have:((m+1:Nat):Int)=((r*k:Nat):Int):=by rw [hk]
  rw [Int.natCast_add,Int.natCast_mul] at this
  omega⟩
 have h3:=h.add h2
 rwa [← DL] at h3
noncomputable def Do (m:Nat) (x:V7) (s L:Nat):List (Nat×Nat)→V7→(V7→Bool)→Bool
 | [],a,K=>K a
 | (f,_)::l,a,K=>yb (Nat.succ m) x (Nat.div s f) L rJ fun t=>tB (Nat.succ m) a (GB m t) fun a=>Do m x s L l a K
theorem aeY (x:C7):x*c 0=c 0:=gV x
theorem AM {m:Nat} {x:V7} {s L:Nat} (hs:s<2 ^ L):∀ {l:List (Nat×Nat)} {a:V7} {K:V7→Bool},Do m x s L l a K=true→∃ W,K W=true∧∀ r,r∣m+1→(Cg r (cv a) (c 0)∨∃ f k,(f,k)∈l∧Cg r (cv x ^ (s / f)) (c 1))→Cg r (cv W) (c 0)
 | [],a,K,h=>⟨a,h,fun r _ hr=>by
  rcases hr with hr | ⟨_,_,hm,_⟩
  ·exact hr
  ·cases hm⟩
 | (f,k)::l,a,K,h=>by
  rw [Do] at h
  obtain ⟨t,h,k1⟩:=Cn (Nat.lt_of_le_of_lt (Nat.div_le_self _ _) hs) h
  obtain ⟨a',h,k2⟩:=uH h
  obtain ⟨W,h,k3⟩:=AM hs h
  refine ⟨W,h,fun r hr hd=>k3 r hr ?_⟩
  have k2':=k2.of_dvd hr
  rcases hd with hd | ⟨f',k',hm,hd⟩
  ·have:=k2'.trans (hd.mul (Cg.refl r _))
   rw [C4] at this
   exact .inl this
  ·cases hm with
   | head=>
    have e:=R4 hr ((k1.of_dvd hr).trans hd)
    have:=k2'.trans ((Cg.refl r (cv a)).mul e)
    rw [aeY] at this
    exact .inl this
   | tail _ hm=>exact .inr ⟨f',k',hm,hd⟩
def sgV (x:V7):V7:=⟨x.b0,x.b3,x.b6,x.b2,x.b5,x.b1,x.b4⟩
noncomputable def RS (m:Nat) (l:List (Nat×Nat)) (s L M:Nat) (x u w:V7):Bool:=
 (yb (Nat.succ m) x s L rJ fun r=>Io r rJ)&&((yb (Nat.succ m) x (Nat.succ m) M rJ fun r=>Io r (sgV x))&&(Do m x s L l rJ fun W=>tB (Nat.succ m) W u fun z=>Io z w))
theorem Q7 {m:Nat} {l:List (Nat×Nat)} {L M:Nat} {x u w:V7} (h2:2≤m+1) (h7:(m+1)%7=5) (hodd:(m+1)%2=1) (hc:EF l=true) (hl:∀ f k,(f,k)∈l→Pr f)
  (hL:fL l<2 ^ L) (hM:m+1<2 ^ M) (hw:w.b0=w.b1+1) (h:RS m l (fL l) L M x u w=true)
  (hbig:m+1<fL l*fL l) (hno:∀ i,i<6→(m+1) ^ i%fL l=1∨¬ (m+1) ^ i%fL l∣m+1):Pr (m+1):=by
 unfold RS at h
 rw [Bool.and_eq_true,Bool.and_eq_true] at h
 obtain ⟨ha,hb,hp⟩:=h
 obtain ⟨r1,e1,k1⟩:=Cn hL ha
 obtain rfl:=yF e1
 obtain ⟨r2,e2,k2⟩:=Cn hM hb
 obtain rfl:=yF e2
 obtain ⟨W,e3,k3⟩:=AM hL hp
 obtain ⟨z,e4,k4⟩:=uH e3
 obtain rfl:=yF e4
 refine Xb (x:=cv x) h2 h7 hodd hc hl k1.symm k2.symm (fun r hr hrN f k hm hd=> ?_) hbig hno
 have h0:=k3 r hrN (.inr ⟨f,k,hm,hd⟩)
 have h1:=(k4.of_dvd hrN).trans (h0.mul (Cg.refl r _))
 rw [C4] at h1
 obtain ⟨y,hy⟩:=h1
 rw [Q2] at hy
 have y0:((z.b0:Nat):Int)=0+r*y.a0:=congrArg C7.a0 hy
 have y1:((z.b1:Nat):Int)=0+r*y.a1:=congrArg C7.a1 hy
 have hd:(r:Int)∣1:=⟨y.a0-y.a1,by rw [Int.mul_sub];omega⟩
 have:r∣1:=by exact_mod_cast hd
 have h9:=Nat.le_of_dvd (by decide) this
 have:=hr.1
 omega
end Go.NT
namespace Go.NT
set_option linter.unusedVariables false
set_option maxRecDepth 100000
open C7
theorem bU {p:Nat} (h2:2≤p) (h:∀ d,d<p→2≤d→p%d≠0):Pr p:=⟨h2,fun d hd=>by
 have hle:=Nat.le_of_dvd (by omega) hd
 have h0:d≠0:=fun e=>by subst e;have:=Nat.eq_zero_of_zero_dvd hd;omega
 rcases Nat.lt_or_ge d p with e | e
 ·rcases Nat.lt_or_ge d 2 with e2 | e2
  ·exact .inl (by omega)
  ·exact absurd (Nat.mod_eq_zero_of_dvd hd) (h d e e2)
 ·exact .inr (by omega)⟩
theorem eG {m a v:Nat} {l:List (Nat×Nat)} {L:Nat} (hm:1≤m) (hodd:(m+1)%2=1) (hc:EF l=true) (hl:∀ f k,(f,k)∈l→Pr f)
  (hL:m<2 ^ L) (hd:fL l∣m) (h:((yb (Nat.succ m) ⟨a,0,0,0,0,0,0⟩ m L rJ fun r=>Io r rJ)&&Do m ⟨a,0,0,0,0,0,0⟩ m L l rJ fun W=>tB (Nat.succ m) W ⟨v,0,0,0,0,0,0⟩ fun z=>Io z rJ)=true)
  (hbig:m+1<(fL l+1)*(fL l+1)):Pr (m+1):=by
 rw [Bool.and_eq_true] at h
 obtain ⟨ha,hp⟩:=h
 obtain ⟨r1,e1,k1⟩:=Cn hL ha
 obtain rfl:=yF e1
 obtain ⟨W,e3,k3⟩:=AM hL hp
 obtain ⟨z,e4,k4⟩:=uH e3
 obtain rfl:=yF e4
 refine Tk (by omega) fun r hr hrN hsq=> ?_
 have hr2:r%2=1:=by
  rcases Nat.mod_two_eq_zero_or_one r with e | e
  ·have:2∣m+1:=Nat.dvd_trans (Nat.dvd_of_mod_eq_zero e) hrN
   omega
  ·exact e
 have hcv:cv ⟨a,0,0,0,0,0,0⟩=c a:=rfl
 rw [hcv] at k1 k3
 have hone:eC r (c a) m:=k1.symm.of_dvd hrN
 have hf:Cg r ((c a) ^ r) ((c a) ^ 1):=by
  rw [GO,show (c (a:Int)) ^ 1=c a from k9 _]
  exact AN hr (K:=r / 2) (by omega) a
 have h1:=AV (by omega) hone hf.symm (by omega)
 have main:fL l∣r-1:=D9 hc fun f k hm=>LS (e:=eC r (c a)) (fun a b=>Pm a b) (fun a k=>JP a k) (hl f k hm) hone (Nat.dvd_trans (Et hm) hd) h1 fun hd=>by
  have h0:=k3 r hrN (.inr ⟨f,k,hm,hd⟩)
  have h1:=(k4.of_dvd hrN).trans (h0.mul (Cg.refl r _))
  rw [C4,PI] at h1
  obtain ⟨y,hy⟩:=h1
  rw [Q2] at hy
  have y0:(1:Int)=0+r*y.a0:=congrArg C7.a0 hy
  have hd:(r:Int)∣1:=⟨y.a0,by omega⟩
  have:r∣1:=by exact_mod_cast hd
  have h9:=Nat.le_of_dvd (by decide) this
  have:=hr.1
  omega
 have hle:=Nat.le_of_dvd (by have:=hr.1;omega) main
 have:=Nat.mul_le_mul (show fL l+1≤r by have:=hr.1;omega) (show fL l+1≤r by have:=hr.1;omega)
 omega
theorem vC:Pr 2:=bU (by decide) (by decide+kernel)
theorem Bp:Pr 3:=bU (by decide) (by decide+kernel)
theorem NO:Pr 5:=bU (by decide) (by decide+kernel)
theorem Ri:Pr 7:=bU (by decide) (by decide+kernel)
theorem aj4:Pr 13:=bU (by decide) (by decide+kernel)
theorem amz:Pr 31:=bU (by decide) (by decide+kernel)
theorem ane:Pr 73:=bU (by decide) (by decide+kernel)
theorem aeD:Pr 199:=bU (by decide) (by decide+kernel)
theorem YY:Pr 313:=bU (by decide) (by decide+kernel)
theorem Vh:Pr 11:=bU (by decide) (by decide+kernel)
theorem Xd:Pr (3850+1):=eG (l:= [(5,2),(11,1)]) (L:=12) (a:=2) (v:=3845) (by decide+kernel) (by decide+kernel) (by decide+kernel) (fun f k h=>by simp at h;rcases h with h | h <;>(obtain ⟨rfl,rfl⟩:=h) <;>first | exact NO | exact Vh) (by decide+kernel) (by decide+kernel) (by kernel_rfl) (by decide+kernel)
theorem afP:Pr 311:=bU (by decide) (by decide+kernel)
theorem Ro:Pr (18660+1):=eG (l:= [(311,1)]) (L:=15) (a:=2) (v:=17392) (by decide+kernel) (by decide+kernel) (by decide+kernel) (fun f k h=>by simp at h;(obtain ⟨rfl,rfl⟩:=h) <;>first | exact afP) (by decide+kernel) (by decide+kernel) (by kernel_rfl) (by decide+kernel)
theorem ad0:Pr 101:=bU (by decide) (by decide+kernel)
theorem RV:Pr (65650+1):=eG (l:= [(101,1),(5,2)]) (L:=17) (a:=2) (v:=49412) (by decide+kernel) (by decide+kernel) (by decide+kernel) (fun f k h=>by simp at h;rcases h with h | h <;>(obtain ⟨rfl,rfl⟩:=h) <;>first | exact ad0 | exact NO) (by decide+kernel) (by decide+kernel) (by kernel_rfl) (by decide+kernel)
theorem Nf:Pr (4332966+1):=eG (l:= [(11,1),(3,1),(2,1),(65651,1)]) (L:=23) (a:=6) (v:=3537540) (by decide+kernel) (by decide+kernel) (by decide+kernel) (fun f k h=>by simp at h;rcases h with h | h | h | h <;>(obtain ⟨rfl,rfl⟩:=h) <;>first | exact Vh | exact Bp | exact vC | exact RV) (by decide+kernel) (by decide+kernel) (by kernel_rfl) (by decide+kernel)
theorem ags:Pr 131:=bU (by decide) (by decide+kernel)
theorem Zv:Pr 827:=bU (by decide) (by decide+kernel)
theorem QW:Pr (223290+1):=eG (l:= [(827,1)]) (L:=18) (a:=2) (v:=61689) (by decide+kernel) (by decide+kernel) (by decide+kernel) (fun f k h=>by simp at h;(obtain ⟨rfl,rfl⟩:=h) <;>first | exact Zv) (by decide+kernel) (by decide+kernel) (by kernel_rfl) (by decide+kernel)
theorem KD:Pr (58502242+1):=eG (l:= [(131,1),(2,1),(223291,1)]) (L:=26) (a:=2) (v:=43817423) (by decide+kernel) (by decide+kernel) (by decide+kernel) (fun f k h=>by simp at h;rcases h with h | h | h <;>(obtain ⟨rfl,rfl⟩:=h) <;>first | exact ags | exact vC | exact QW) (by decide+kernel) (by decide+kernel) (by kernel_rfl) (by decide+kernel)
theorem ale:Pr 37:=bU (by decide) (by decide+kernel)
theorem aea:Pr 853:=bU (by decide) (by decide+kernel)
theorem NU:Pr (1310208+1):=eG (l:= [(853,1),(2,9)]) (L:=21) (a:=7) (v:=1153598) (by decide+kernel) (by decide+kernel) (by decide+kernel) (fun f k h=>by simp at h;rcases h with h | h <;>(obtain ⟨rfl,rfl⟩:=h) <;>first | exact aea | exact vC) (by decide+kernel) (by decide+kernel) (by kernel_rfl) (by decide+kernel)
theorem J7:Pr (290866398+1):=eG (l:= [(37,1),(3,1),(2,1),(1310209,1)]) (L:=29) (a:=6) (v:=210408986) (by decide+kernel) (by decide+kernel) (by decide+kernel) (fun f k h=>by simp at h;rcases h with h | h | h | h <;>(obtain ⟨rfl,rfl⟩:=h) <;>first | exact ale | exact Bp | exact vC | exact NU) (by decide+kernel) (by decide+kernel) (by kernel_rfl) (by decide+kernel)
theorem adW:Pr 659:=bU (by decide) (by decide+kernel)
theorem Sj:Pr (39540+1):=eG (l:= [(659,1)]) (L:=16) (a:=2) (v:=28710) (by decide+kernel) (by decide+kernel) (by decide+kernel) (fun f k h=>by simp at h;(obtain ⟨rfl,rfl⟩:=h) <;>first | exact adW) (by decide+kernel) (by decide+kernel) (by kernel_rfl) (by decide+kernel)
theorem Hl:Pr (2167716702+1):=eG (l:= [(3,1),(2,1),(39541,1)]) (L:=32) (a:=3) (v:=1933124885) (by decide+kernel) (by decide+kernel) (by decide+kernel) (fun f k h=>by simp at h;rcases h with h | h | h <;>(obtain ⟨rfl,rfl⟩:=h) <;>first | exact Bp | exact vC | exact Sj) (by decide+kernel) (by decide+kernel) (by kernel_rfl) (by decide+kernel)
theorem Hk:Pr (182088203052+1):=eG (l:= [(7,1),(2,2),(3,1),(2167716703,1)]) (L:=38) (a:=6) (v:=85806158140) (by decide+kernel) (by decide+kernel) (by decide+kernel) (fun f k h=>by simp at h;rcases h with h | h | h | h <;>(obtain ⟨rfl,rfl⟩:=h) <;>first | exact Ri | exact vC | exact Bp | exact Hl) (by decide+kernel) (by decide+kernel) (by kernel_rfl) (by decide+kernel)
theorem YE:Pr 509:=bU (by decide) (by decide+kernel)
theorem acT:Pr 227:=bU (by decide) (by decide+kernel)
theorem UZ:Pr 47:=bU (by decide) (by decide+kernel)
theorem agf:Pr 229:=bU (by decide) (by decide+kernel)
theorem amI:Pr 53:=bU (by decide) (by decide+kernel)
theorem MW:Pr (5267458+1):=eG (l:= [(229,1),(53,1)]) (L:=23) (a:=2) (v:=4212879) (by decide+kernel) (by decide+kernel) (by decide+kernel) (fun f k h=>by simp at h;rcases h with h | h <;>(obtain ⟨rfl,rfl⟩:=h) <;>first | exact agf | exact amI) (by decide+kernel) (by decide+kernel) (by kernel_rfl) (by decide+kernel)
theorem IN:Pr (500905890761075075178+1):=eG (l:= [(509,1),(227,1),(47,1),(3,2),(7,1),(2,1),(5267459,1)]) (L:=69) (a:=3) (v:=167025632575226923993) (by decide+kernel) (by decide+kernel) (by decide+kernel) (fun f k h=>by simp at h;rcases h with h | h | h | h | h | h | h <;>(obtain ⟨rfl,rfl⟩:=h) <;>first | exact YE | exact acT | exact UZ | exact Bp | exact Ri | exact vC | exact MW) (by decide+kernel) (by decide+kernel) (by kernel_rfl) (by decide+kernel)
theorem Zu:Pr 907:=bU (by decide) (by decide+kernel)
theorem Kd:Pr (3651845256750+1):=eG (l:= [(907,1),(5,3),(47,1)]) (L:=42) (a:=2) (v:=2176430755238) (by decide+kernel) (by decide+kernel) (by decide+kernel) (fun f k h=>by simp at h;rcases h with h | h | h <;>(obtain ⟨rfl,rfl⟩:=h) <;>first | exact Zu | exact NO | exact UZ) (by decide+kernel) (by decide+kernel) (by kernel_rfl) (by decide+kernel)
theorem JD:Pr (22834869333004942403898+1):=eG (l:= [(3,1),(2,1),(3651845256751,1)]) (L:=75) (a:=3) (v:=21655329101214184530252) (by decide+kernel) (by decide+kernel) (by decide+kernel) (fun f k h=>by simp at h;rcases h with h | h | h <;>(obtain ⟨rfl,rfl⟩:=h) <;>first | exact Bp | exact vC | exact Kd) (by decide+kernel) (by decide+kernel) (by kernel_rfl) (by decide+kernel)
def lQ:List (Nat×Nat):= [(2,64),(3,2),(5,1),(7,1),(13,1),(31,1),(73,1),(199,1),(313,1),(3851,1),(18661,1),(4332967,1),(58502243,1),(290866399,1),(182088203053,1),(500905890761075075179,1),(22834869333004942403899,1)]
theorem alG (f k:Nat) (h:(f,k)∈lQ):Pr f:=by
 simp [lQ] at h
 rcases h with h | h | h | h | h | h | h | h | h | h | h | h | h | h | h | h | h <;>(obtain ⟨rfl,rfl⟩:=h) <;>first | exact vC | exact Bp | exact NO | exact Ri | exact aj4 | exact amz | exact ane | exact aeD | exact YY | exact Xd | exact Ro | exact Nf | exact KD | exact J7 | exact Hk | exact IN | exact JD
def xQ:V7:=⟨619156953510124584840972238367707136359470755609529308357206401816712224979289970261622747411342062982008556891454584395159983290899110351048612044579536085345830250666663507491711100986212609090714738227830116578582363267635622853,138610260408283159125407010449514201387936323980994698146885549503888546460103769491789317027543610516835830756783648883668802968049652187536810708003225599650537506364095700029170155205845962998133866609277378462638544010050700826,244349304874187703607619211800316296135163527677067890675771491081210894421294285411444415927500472536137650691834615716136815668823919132923537804128855271964174239829524007453607188468221240131320357582434385921429397485439519029,56483800499733040760581762283106866099640241271753899363617460874634362698659313467648181460084735370510438101659365889270675979846943957641519138324830777729590382957697670019297903572274791319198290497633924388139313939842510629,243717798761737243174451853257331037922766201206184656549304917898839285879903126450215430696582375378881134570702116157281273446221002624739673442868758393983976098465139585392709425503489785900150112120443657230736920552938061367,507268891867790266032907888646939444212013157477871102718825543657088529174949896869450879358650127661190811058943616782450780590734113738844457677745186286219818882014354895587911459897498151185394639777796199249471565333401549645,519190128529207405154437232082807651330010866928369913991915427522075516309452798935833208933184079218800589449055348519757873633802327521214480603896532060722643871037819066789348803341347222426292322829264103226457726921507902529⟩
def uQ:V7:=⟨80211473802450178760199653970989325728314481791561296150173635116016619553254238749928997679800605056474125292440564842710934604601877639318440392193089848553812059934160352249963823718119668110864868823545576265434564187808539598,232540457691508878670696846686123589441399794431882324255032071183153076624949552606522206110898044194106313252329965558412393764605061934956154920375118792080197359876144916590001929861420113961968874039077787744539842196255035224,622665816935469279383126821538911950948437975235579540487034658246601495511103361628118386605831144611021116277675795321484697969491285151747032592818271238843072509356687774797907250519872122221855700428514680809008712281372332285,281246691927707718795483032252437523117719565025279091081128849026024256572941861441113483230510375201921339262673948856750170802830477228695710079176867155015268270600540709606836450098044134486257216861034022087742425852137185294,704626996654500644387300586101910125423706740282132790508433861129451805620081229470573154419560461984354892702587247194277339616992681904029794509354063542426374851685972571094991126481280417140688279035583713088044867448577012628,120178352761549519321512059186724850542924613258093530106490076907713319967206135103196476583952029815789984898152372497538232219461580828155312250629140891883364629005217168783286588250453356305613622533994308640857464338216259426,287307348677877183378058197150625268244497904127242897215233640745488786074116781888551476184334802800697239834573402072552436600394104827046646675000373006814481550876570939640768868045699950823955765922929676421827955206449502422⟩
def wQ:V7:=⟨332682448350151914670911028126817519063857296307395924257646684622064194274807594412572025830698209094909287360061899477675172225482438501992727345649560639373795890190756347537679433853555680435886332520668537865350833072973695269,332682448350151914670911028126817519063857296307395924257646684622064194274807594412572025830698209094909287360061899477675172225482438501992727345649560639373795890190756347537679433853555680435886332520668537865350833072973695268,332682448350151914670911028126817519063857296307395924257646684622064194274807594412572025830698209094909287360061899477675172225482438501992727345649560639373795890190756347537679433853555680435886332520668537865350833072973695268,332682448350151914670911028126817519063857296307395924257646684622064194274807594412572025830698209094909287360061899477675172225482438501992727345649560639373795890190756347537679433853555680435886332520668537865350833072973695268,332682448350151914670911028126817519063857296307395924257646684622064194274807594412572025830698209094909287360061899477675172225482438501992727345649560639373795890190756347537679433853555680435886332520668537865350833072973695268,332682448350151914670911028126817519063857296307395924257646684622064194274807594412572025830698209094909287360061899477675172225482438501992727345649560639373795890190756347537679433853555680435886332520668537865350833072973695268,332682448350151914670911028126817519063857296307395924257646684622064194274807594412572025830698209094909287360061899477675172225482438501992727345649560639373795890190756347537679433853555680435886332520668537865350833072973695268⟩
theorem ary:RS 776259046150354467565459065629240877815667024717257156601175597451483119974551053629334726938295821221455003840144432114575401859459023171316363806515641491872190410445098144254585345658296587683734775881559921685818610503605288958 lQ 117503813392761817068111132675669899316816427660372966666489466295074426660089323991980846165815105337757663273943040 386 767 xQ uQ wQ=true:=by kernel_rfl
theorem prQ:Pr (776259046150354467565459065629240877815667024717257156601175597451483119974551053629334726938295821221455003840144432114575401859459023171316363806515641491872190410445098144254585345658296587683734775881559921685818610503605288958+1):=Q7 (l:=lQ) (L:=386) (M:=767) (x:=xQ) (u:=uQ) (w:=wQ) (by decide+kernel) (by decide+kernel) (by decide+kernel) (by decide+kernel) alG (by decide+kernel) (by decide+kernel) rfl ary (by decide+kernel) (by decide+kernel)
theorem prP:Pr (1552518092300708935130918131258481755631334049434514313202351194902966239949102107258669453876591642442910007680288864229150803718918046342632727613031282983744380820890196288509170691316593175367469551763119843371637221007210577918+1):=eG (l:= [(776259046150354467565459065629240877815667024717257156601175597451483119974551053629334726938295821221455003840144432114575401859459023171316363806515641491872190410445098144254585345658296587683734775881559921685818610503605288959,1)]) (L:=768) (a:=2) (v:=517506030766902978376972710419493918543778016478171437734117064967655413316367369086223151292197214147636669226762954743050267906306015447544242537677094327914793606963398762836390230438864391789156517254373281123879073669070192640) (by decide+kernel) (by decide+kernel) (by decide+kernel) (fun f k h=>by simp at h;(obtain ⟨rfl,rfl⟩:=h) <;>first | exact prQ) (by decide+kernel) (by decide+kernel) (by kernel_rfl) (by decide+kernel)
end Go.NT
namespace Go.Proofs.YteiecapbaeajdaaGreatDoor
open Go Go.Avc Go.Proofs
set_option linter.unusedVariables false
set_option linter.unusedSimpArgs false
set_option maxRecDepth 100000
open Go Go.Avc
noncomputable section
theorem ahl:acK:=by
 delta acK lM bR ay lN
 intro l n _ h0 _
 refine aa (fun h=> ?_) (fun h=> ?_)
 ·have h:=av h
  exact ⟨⟨h0,h⟩,by omega,rfl⟩
 ·have h:=au h
  exact (vu (by omega)).symm
theorem afN:(base.with Wa).Ok:=ac c9 (ai am c9 Tryz.func152 (by kernel_rfl) Tryz.call152 (by kernel_rfl) ahl)
theorem amd:aga:=by
 delta aga lM iR bR ay
 intro l _ hd _
 refine ⟨⟨⟨rfl,by omega,by omega,fun j hj=>vu (by omega)⟩,trivial⟩,?_⟩
 intro l1 n _ h
 obtain ⟨e,h0,h1,h2⟩:=h
 rw [e]
 refine ⟨fun h=> ?_,fun h=> ?_,fun h=> ?_,aa (fun h=> ?_) (fun h=> ?_)⟩
 ·have h:=av h;have:=hd.2;omega
 ·have h:=av h;omega
 ·have h:=av h;omega
 ·rw [cV] at h
  have h3:=av h.1
  have h4:rv l (n-1).toNat=0:=av h.2
  have:=hd.2
  refine ⟨by omega,⟨rfl,by omega,by omega,fun j hj=> ?_⟩,by omega⟩
  by_cases e:(j:Int)=n-1
  ·rw [show j=(n-1).toNat from by omega];exact h4
  ·exact h2 j (by omega)
 ·refine ⟨⟨by omega,h0,h1⟩,?_⟩
  rw [List.drop_zero]
  refine Qy hd.1 (by omega) (fun j hj=>h2 j (by omega)) ?_
  by_cases e:n=0
  ·exact .inl (by omega)
  ·refine .inr fun h4=> ?_
   rw [Bool.and_eq_false_iff] at h
   rcases h with h | h
   ·have:=au h;omega
   ·refine au h ?_
    show rv l (n-1).toNat=0
    rw [show (n-1).toNat=n.toNat-1 from by omega];exact h4
theorem abm:(base.with TD).Ok:=ac afN (ai Y4 afN Tryz.func110 (by kernel_rfl) Tryz.call110 (by kernel_rfl) amd)
theorem W7 {x y:Nat} (h:x<y): -1=kw x y:=by unfold kw;rw [if_pos h]
theorem Xi {x y:Nat} (h:y<x):1=kw x y:=by unfold kw;rw [if_neg (by omega),if_pos h]
theorem XH {x y:Nat} (h:x=y):0=kw x y:=by unfold kw;rw [if_neg (by omega),if_neg (by omega)]
theorem qW {x y:Nat} :kw x y<0↔x<y:=by
 unfold kw
 by_cases h:x<y
 ·rw [if_pos h];exact ⟨fun _=>h,fun _=>by decide⟩
 ·rw [if_neg h];split <;>constructor <;>intro k <;>omega
theorem ajm:ZP:=by
 delta ZP lM iR ay
 intro a b _ _ hd _ _
 obtain ⟨ha,hb⟩:=hd
 have la:=ha.2
 have lb:=hb.2
 refine ⟨by omega,⟨⟨rfl,rfl,by omega,by omega,fun j hj=>by rw [vu (by omega),vu (by omega)]⟩,trivial⟩,?_⟩
 intro a' b' n _ _ h
 obtain ⟨e1,e2,h0,h1,h2⟩:=h
 rw [e1,e2]
 refine aa (fun h=> ?_) (fun h=> ?_)
 ·have h:=av h
  have h2':∀ j:Nat,((n.toNat:Nat):Int)<j→rv a j=rv b j:=fun j hj=>h2 j (by omega)
  refine ⟨h,h,aa (fun k=> ?_) (fun k=>⟨h,h,aa (fun k2=> ?_) (fun k2=> ?_)⟩)⟩
  ·exact W7 (PN ha.1 hb.1 h2' (av k))
  ·exact Xi (PN hb.1 ha.1 (fun j hj=>(h2' j hj).symm) (av k2))
  ·have k:=au k
   have k2:=au k2
   refine ⟨by omega,⟨rfl,rfl,by omega,by omega,fun j hj=> ?_⟩,by omega⟩
   by_cases e:(j:Int)=n
   ·rw [show j=n.toNat from by omega];omega
   ·exact h2 j (by omega)
 ·have h:=au h
  exact XH (abl ha.1 hb.1 fun j=>h2 j (by omega))
theorem ZI:(base.with SL).Ok:=ac abm (ai abp abm Tryz.func108 (by kernel_rfl) Tryz.call108 (by kernel_rfl) ajm)
theorem akY:YS:=by
 delta YS lM iR aR bR ay lN BV t6 x7
 intro a b _ _ hd _
 obtain ⟨ha,hb,hle⟩:=hd
 have la:=ha.2
 refine ⟨⟨by omega,by omega,by omega,by omega⟩,⟨⟨rfl,rfl,by omega,by omega,rfl,rfl⟩,trivial⟩,?_⟩
 intro a' b' c n o _ _ _ h _
 obtain ⟨e1,e2,h0,h1,e3,e4⟩:=h
 rw [e1,e2,e3,e4]
 have lo:((fB a b n.toNat).1.map ae).length=n.toNat:=by rw [bA,CC]
 refine aa (fun h=> ?_) (fun h=> ?_)
 ·have h:=av h
  have k1:=gO ha.1 n.toNat
  have k2:=gO hb.1 n.toNat
  have ⟨k3,_⟩:=zF ha.1 hb.1 n.toNat
  have f1:IntKind.u64.wrap (4294967296+rv a n.toNat)=4294967296+rv a n.toNat:=df ⟨by omega,by omega⟩
  have f2:IntKind.u64.wrap (4294967296+rv a n.toNat-rv b n.toNat)=4294967296+rv a n.toNat-rv b n.toNat:=df ⟨by omega,by omega⟩
  have f3:IntKind.u64.wrap (4294967296+rv a n.toNat-rv b n.toNat-(fB a b n.toNat).2)=4294967296+rv a n.toNat-rv b n.toNat-(fB a b n.toNat).2:=df ⟨by omega,by omega⟩
  have f4:IntKind.u64.wrap (1-(4294967296+rv a n.toNat-rv b n.toNat-(fB a b n.toNat).2) / 4294967296)=1-(4294967296+rv a n.toNat-rv b n.toNat-(fB a b n.toNat).2) / 4294967296:=df ⟨by omega,by omega⟩
  have f5:IntKind.u64.wrap ((4294967296+rv a n.toNat-rv b n.toNat-(fB a b n.toNat).2)%4294967296)=(4294967296+rv a n.toNat-rv b n.toNat-(fB a b n.toNat).2)%4294967296:=df ⟨by omega,by omega⟩
  have hm:IntKind.u64.max=18446744073709551615:=by decide
  rw [dh,f1,f2,f3,f4,lo,hm]
  refine ⟨⟨h0,h⟩,by omega,h0,⟨by omega,by decide⟩,⟨by omega,by omega⟩,⟨by omega,by decide,by omega⟩,by omega,⟨rfl,rfl,by omega,by omega,?_,?_⟩,by omega⟩
  ·rw [show (n+1).toNat=n.toNat+1 from by omega];rfl
  ·rw [show (n+1).toNat=n.toNat+1 from by omega]
   show _=List.map ae ((fB a b n.toNat).1++_)
   rw [List.map_append];rfl
 ·have h:=au h
  have hn:n.toNat=a.length:=by omega
  rw [hn]
  have ⟨k1,k2⟩:=afp ha.1 hb.1 hle
  rw [hn] at lo
  exact ⟨⟨k1,by rw [lo];exact la⟩,by rw [k2]⟩
theorem Zr:(base.with WA).Ok:=ac ZI (ai aaB ZI Tryz.func151 (by kernel_rfl) Tryz.call151 (by kernel_rfl) akY)
theorem vS (L:List Int) (i:Nat) (x:Int) (h:i<L.length):(L.map ae).set i (((L.map ae).getD i []).set 0 (CD.int x))=(L.set i x).map ae:=by
 rw [List.map_set]
 congr 1
 rw [aw,eW,cJ h]
 rfl
theorem am1:agR:=by
 delta agR lM iR bR ay lN BV x7 nj
 intro a _ ha _
 have la:=ha.2
 refine ⟨⟨by omega,by omega,by omega,by omega⟩,⟨⟨rfl,by omega,by omega,?_⟩,trivial⟩,?_⟩
 ·show _=List.map ae (List.replicate a.length 0)
  rw [List.map_replicate];rfl
 intro a' n o _ _ h _
 obtain ⟨e1,h0,h1,e2⟩:=h
 rw [e1,e2]
 refine aa (fun h=> ?_) (fun h=> ?_)
 ·have h:=av h
  have hl:(nV a n.toNat).length=a.length:=uJ a _
  have lo:((nV a n.toNat).map ae).length=a.length:=by rw [bA,hl]
  have hn:(n+1).toNat=n.toNat+1:=by omega
  have k1:=gO ha.1 n.toNat
  have k2:=gO ha.1 (n.toNat+1)
  have hm:IntKind.u64.max=18446744073709551615:=by decide
  rw [hm,lo,hn,dh,dh,vS _ _ _ (by omega),bA,dc,hl]
  refine ⟨⟨h0,h⟩,by omega,⟨by omega,by decide,by omega⟩,⟨h0,by omega⟩,by omega,by omega,fun _=>aa (fun h2=> ?_) (fun h2=> ?_)⟩
  ·have h2:=av h2
   have g1:((((nV a n.toNat).set n.toNat (rv a n.toNat / 2)).map ae).getD n.toNat []).getD 0 (CD.int 0)=CD.int (rv a n.toNat / 2):=by
    rw [aw (l:=List.map _ _),eW,List.getElem?_set,if_pos rfl,if_pos (by omega)];rfl
   refine ⟨⟨h0,by omega⟩,by omega,by omega,⟨by omega,h2⟩,by omega,⟨by omega,by decide⟩,⟨h0,by omega⟩,by omega,by omega,⟨rfl,by omega,by omega,?_⟩,by omega⟩
   rw [g1,vS _ _ _ (by rw [dc];omega),List.set_set]
   have f1:IntKind.u64.wrap (rv a (n.toNat+1)%2*2147483648)=rv a (n.toNat+1)%2*2147483648:=df ⟨by omega,by omega⟩
   have f2:IntKind.u64.wrap (rv a n.toNat / 2+rv a (n.toNat+1)%2*2147483648)=rv a n.toNat / 2+rv a (n.toNat+1)%2*2147483648:=df ⟨by omega,by omega⟩
   rw [f1,show (CD.int (rv a n.toNat / 2)).toInt=rv a n.toNat / 2 from rfl,f2]
   rfl
  ·have h2:=au h2
   refine ⟨by omega,⟨rfl,by omega,by omega,?_⟩,by omega⟩
   have:rv a (n.toNat+1)=0:=vu (by omega)
   show _=List.map ae ((nV a n.toNat).set n.toNat (rv a n.toNat / 2+rv a (n.toNat+1)%2*2147483648))
   rw [this]
   simp
 ·have h:=au h
  have hn:n.toNat=a.length:=by omega
  rw [hn]
  have ⟨k1,k2⟩:=W1 ha.1
  exact ⟨⟨k1,by rw [bA,uJ];exact la⟩,by rw [k2]⟩
theorem YW:(base.with Ub).Ok:=ac Zr (ai YH Zr Tryz.func174 (by kernel_rfl) Tryz.call174 (by kernel_rfl) am1)
theorem dK {l:LD} (h:bP l):ar l:=by rw [show l=ah (ab l) from h];exact WH _
theorem akR:agy:=by
 delta agy lM iR bR ay lN kf
 intro b _ hb _
 obtain ⟨hB,lb⟩:=hb
 have hA:=dK hB
 have hm:IntKind.i64.max=9223372036854775807:=by decide
 rw [hm]
 refine ⟨⟨by omega,by decide,by omega⟩,by omega,⟨by omega,by omega,by omega,by omega⟩,fun _=>⟨by omega,⟨⟨rfl,by omega,by omega,?_⟩,trivial⟩,?_⟩⟩
 ·rw [show ((b.length:Int)-1-((b.length:Int)-1)).toNat=0 from by omega]
  show _=List.map ae (List.replicate (b.length / 4+1) 0)
  rw [List.map_replicate,show ((b.length:Int) / 4+1).toNat=b.length / 4+1 from by omega];rfl
 intro b' n o _ _ h
 obtain ⟨e1,h0,h1,e2⟩:=h
 rw [e1,e2]
 obtain ⟨k,hk⟩:∃ k,k=((b.length:Int)-1-n).toNat:=⟨_,rfl⟩
 rw [← hk]
 have hl:=uI b k
 have lo:((ia b k).map ae).length=b.length / 4+1:=by rw [bA,hl]
 refine aa (fun h=> ?_) (fun h=> ?_)
 ·have h:=av h
  have hn:b.length-1-k=n.toNat:=by omega
  have hn4:(n / 4).toNat=n.toNat / 4:=by omega
  have k1:=hA n.toNat
  have hg:=HH hA k (by omega) (n.toNat / 4) (by omega)
  have hrv:((List.map ae (ia b k)).getD (n.toNat / 4) []).getD 0 (CD.int 0)=CD.int ((ia b k).getD (n.toNat / 4) 0):=by
   rw [aw (l:=List.map _ _),eW,cJ (by omega),aw (l:=ia b k),cJ (by omega)];rfl
  have hold:0≤(ia b k).getD (n.toNat / 4) 0∧(ia b k).getD (n.toNat / 4) 0<4294967296:=by
   rw [hg]
   have h3:∀ y e:Nat,e≤4→y%256 ^ e<4294967296:=fun y e he=>Nat.lt_of_lt_of_le (Nat.mod_lt _ (Nat.pow_pos (by decide))) (Nat.le_trans (Nat.pow_le_pow_right (by decide) he) (by decide))
   have h4:=h3 (t7 ((dI b).drop (max (4*(n.toNat / 4)) (b.length-k)))) (4*(n.toNat / 4)+4-max (4*(n.toNat / 4)) (b.length-k)) (by omega)
   omega
  rw [hn4,lo,hrv,dh,vS _ _ _ (by omega)]
  refine ⟨⟨h,by decide,by omega⟩,⟨h,by decide,by omega⟩,⟨by omega,by omega⟩,by omega,⟨h,h1⟩,by omega,⟨by omega,by omega⟩,by omega,by omega,⟨rfl,by omega,by omega,?_⟩,by omega⟩
  rw [show ((b.length:Int)-1-(n-1)).toNat=k+1 from by omega]
  show _=List.map ae ((ia b k).set ((b.length-1-k) / 4) ((ia b k).getD ((b.length-1-k) / 4) 0*256+rv b (b.length-1-k)))
  rw [hn,show (CD.int ((ia b k).getD (n.toNat / 4) 0)).toInt=(ia b k).getD (n.toNat / 4) 0 from rfl]
  have f1:IntKind.u64.wrap ((ia b k).getD (n.toNat / 4) 0*256)=(ia b k).getD (n.toNat / 4) 0*256:=df ⟨by omega,by omega⟩
  have f2:IntKind.u64.wrap (rv b n.toNat)=rv b n.toNat:=df ⟨by omega,by omega⟩
  have f3:IntKind.u64.wrap ((ia b k).getD (n.toNat / 4) 0*256+rv b n.toNat)=(ia b k).getD (n.toNat / 4) 0*256+rv b n.toNat:=df ⟨by omega,by omega⟩
  rw [f1,f2,f3]
 ·have h:=au h
  have hk2:k=b.length:=by omega
  rw [hk2]
  have ⟨k1,k2⟩:=Ss hA
  exact ⟨⟨k1,by rw [bA,uI];omega⟩,by rw [k2]⟩
theorem ae4:(base.with Vw).Ok:=ac YW (ai Yp YW Tryz.func133 (by kernel_rfl) Tryz.call133 (by kernel_rfl) akR)
theorem alJ:ab6:=by
 delta ab6 pA lH
 exact fun _=>rfl
theorem YC:(base.with Vz).Ok:=ac ae4 (ai am ae4 Tryz.func173 (by kernel_rfl) Tryz.call173 (by kernel_rfl) alJ)
theorem ak8:aac:=by
 delta aac pA lH
 exact fun b hb=>by
  subst hb
  exact ⟨trivial,rfl⟩
theorem abx:(base.with Tx).Ok:=ac YC (ai am YC Tryz.func172 (by kernel_rfl) Tryz.call172 (by kernel_rfl) ak8)
theorem akf:abU:=by
 delta abU yh
 exact fun _=>rfl
theorem afZ:(base.with UX).Ok:=ac abx (ai am abx Tryz.func109 (by kernel_rfl) Tryz.call109 (by kernel_rfl) akf)
theorem L8:∀ (f n k:Nat),n<4294967296 ^ k→(yB f n).length≤k
 | 0,_,_,_=>Nat.zero_le _
 | f+1,n,0,h=>by
  have:n=0:=by simp at h;exact h
  rw [yB,if_pos this];exact Nat.le_refl _
 | f+1,n,k+1,h=>by
  rw [yB]
  split
  ·exact Nat.zero_le _
  ·rw [List.length_cons]
   have:n / 4294967296<4294967296 ^ k:=by
    rw [Nat.div_lt_iff_lt_mul (by decide)]
    rwa [Nat.pow_succ] at h
   have:=L8 f _ k this
   omega
theorem D8 {n k:Nat} (h:n<4294967296 ^ k):(be n).length≤k:=by
 show ((FE n).map rI).length≤k
 rw [bA]
 exact L8 n n k h
theorem agG:bG<4294967296 ^ 24:=by decide+kernel
theorem Bb {n:Nat} (h:n≤bG):cb (be n):=⟨zg n,Nat.le_trans (D8 (Nat.lt_of_le_of_lt h agG)) (by decide)⟩
theorem OV {x:LD} (h:yd x) (hl:dv x≤bG):cb x:=by rw [show x=be (dv x) from h];exact Bb hl
theorem rl {x:LD} (h:yd x):x.length=0↔dv x=0:=by
 constructor
 ·intro e
  rw [List.length_eq_zero_iff.1 e];rfl
 ·intro e
  rw [show x=be (dv x) from h,e];rfl
theorem KW {x:LD} (h:fS x):rv x 0=((dv x%4294967296:Nat):Int):=by
 have:=xE h 0
 rwa [Nat.pow_zero,Nat.div_one] at this
theorem Li (b:Bool):KB (!b)= -1*KB b:=by cases b <;>rfl
theorem Vo {x:LD} (h:yd x):fS x:=by rw [show x=be (dv x) from h];exact zg _
theorem Xt {p y:Nat} {x n:LD} {s:Bool} (h:nX p x n s y) (he:dv x%2=0):nX p (be (dv x / 2)) n (bif decide (dv n%8=3∨dv n%8=5) then !s else s) y:=by
 obtain ⟨h1,h2,h3,h4,h5,h6,h7⟩:=h
 refine ⟨uF _,h2,by rw [cM];omega,h4,h5,?_,?_⟩
 ·rw [cM]
  exact Nat.Coprime.coprime_dvd_left (Nat.div_dvd_of_dvd (Nat.dvd_of_mod_eq_zero he)) h6
 ·rw [cM]
  rw [NT.sy_half h5 h6 he] at h7
  by_cases hc:dv n%8=3∨dv n%8=5
  ·rw [if_pos hc] at h7
   rw [decide_eq_true hc]
   show KB (!s)*_=_
   rw [Li,← h7];grind
  ·rw [if_neg hc] at h7
   rw [decide_eq_false hc]
   show KB s*_=_
   rw [← h7];grind
theorem WV {x n:Nat} (h:n≤x):Nat.gcd (x-n) n=Nat.gcd x n:=by
 have:x=x-n+n:=by omega
 rw [this,Nat.gcd_add_self_left,← this]
theorem Kz {p y:Nat} {x n:LD} {s:Bool} (h:nX p x n s y) (hl:dv n≤dv x):nX p (be (dv x-dv n)) n s y:=by
 obtain ⟨h1,h2,h3,h4,h5,h6,h7⟩:=h
 refine ⟨uF _,h2,by rw [cM];omega,h4,h5,?_,?_⟩
 ·rw [cM,WV hl];exact h6
 ·rw [cM,NT.sy_sub h5 hl];exact h7
theorem WW {p y:Nat} {x n:LD} {s:Bool} (h:nX p x n s y) (ho:dv x%2=1):nX p n x (bif decide (dv x%4=3∧dv n%4=3) then !s else s) y:=by
 obtain ⟨h1,h2,h3,h4,h5,h6,h7⟩:=h
 refine ⟨h2,h1,h4,h3,ho,by rw [Nat.gcd_comm];exact h6,?_⟩
 rw [NT.sy_swap h5 ho h6] at h7
 by_cases hc:dv x%4=3∧dv n%4=3
 ·rw [if_pos hc] at h7
  rw [decide_eq_true hc]
  show KB (!s)*_=_
  rw [Li,← h7];grind
 ·rw [if_neg hc] at h7
  rw [decide_eq_false hc]
  show KB s*_=_
  rw [← h7];grind
theorem YT {p y:Nat} {x n:LD} {s:Bool} (h:nX p x n s y) (h0:dv x=0):s=decide (NT.sy y p=1):=by
 obtain ⟨h1,h2,h3,h4,h5,h6,h7⟩:=h
 rw [h0,Nat.gcd_zero_left] at h6
 rw [h0,h6,NT.sy_one,Int.mul_one] at h7
 rw [← h7]
 cases s <;>rfl
theorem Kg:tp=be bG:=by
 have h1:dI tp=FE bG:=(QA (l:=dI tp) (fun d hd=>by
  have:∀ d∈dI tp,d<4294967296:=by decide+kernel
  exact this d hd) (fun m d e=>by
  intro h0
  have h2:(dI tp).getLast? =some d:=by rw [e];simp
  have h3:(dI tp).getLast? =some 4294967295:=by decide+kernel
  rw [h3] at h2
  cases h2;cases h0)).symm.trans (congrArg FE (by decide+kernel:cn (dI tp)=bG))
 have h2:tp=(dI tp).map rI:=by kernel_rfl
 rw [h2,h1];rfl
theorem VX:NT.Pr bG:=NT.prP
theorem Mg:bG%2=1:=by decide+kernel
theorem X4 {y:Nat} (h0:0<y) (h:y<bG):Nat.gcd y bG=1:=by
 rw [Nat.gcd_comm]
 exact VX.coprime fun hd=>by have:=Nat.le_of_dvd h0 hd;omega
theorem RW {l:LD} (h:yd l) (h0:0<dv l) (h1:dv l<bG):nX bG l tp true (dv l):=by
 have e:dv tp=bG:=by rw [Kg,cM]
 refine ⟨h,by rw [Kg];exact uF _,by omega,by omega,by rw [e];exact Mg,by rw [e];exact X4 h0 h1,?_⟩
 rw [e]
 show 1*_=_
 rw [Int.one_mul]
theorem al0:ae1:=by
 delta ae1 lM bR ay pA lH zy fe yV E8
 intro l _ hl
 obtain ⟨hd,ht,h0,h1⟩:=hl
 have h1:dv l<bG:=h1
 refine ⟨trivial,⟨RW ht h0 h1,trivial⟩,?_⟩
 intro a n b _ _ h _
 have h:nX bG a n b (dv l):=h
 refine aa (fun hc=> ?_) (fun hc=> ?_)
 ·have hc:=av hc
  have ha0:0<dv a:=by
   apply Nat.pos_of_ne_zero
   intro e
   have:=(rl h.1).2 e
   omega
  refine ⟨⟨⟨h,ha0,Nat.le_refl _,rfl⟩,trivial⟩,?_⟩
  intro x m s _ _ hx
  obtain ⟨hs,hx0,hx1,hm⟩:=hx
  have hs:nX bG x m s (dv l):=hs
  obtain ⟨s1,s2,s3,s4,s5,s6,s7⟩:=id hs
  have lx:0<x.length:=by
   apply Nat.pos_of_ne_zero
   intro e
   have:=(rl s1).1 e
   omega
  have lm:0<m.length:=by
   apply Nat.pos_of_ne_zero
   intro e
   have:=(rl s2).1 e
   omega
  have rx:=KW (Vo s1)
  have rm:=KW (Vo s2)
  have dx:=OV s1 s3
  have dm:=OV s2 s4
  rw [dh,dh]
  refine ⟨⟨by omega,by omega⟩,lx,⟨by omega,by decide⟩,aa (fun he=> ?_) (fun he=> ?_)⟩
  ·have he:=av he
   have he2:dv x%2=0:=by omega
   have hh:=Xt hs he2
   refine ⟨dx,⟨by omega,by omega⟩,lm,⟨by omega,by decide⟩,fun _=>⟨by omega,by omega⟩,fun _=>lm,fun _=>⟨by omega,by decide⟩,aa (fun hk=> ?_) (fun hk=> ?_)⟩
   ·have hk:dv m%8=3∨dv m%8=5:=by
     rw [Bool.or_eq_true] at hk
     rcases hk with hk | hk <;>have hk:=av hk <;>omega
    rw [decide_eq_true hk] at hh
    rw [cM]
    exact ⟨⟨hh,by omega,by omega,hm⟩,by omega⟩
   ·have hk:¬ (dv m%8=3∨dv m%8=5):=by
     rw [Bool.or_eq_false_iff] at hk
     have k1:=au hk.1
     have k2:=au hk.2
     omega
    rw [decide_eq_false hk] at hh
    rw [cM]
    exact ⟨⟨hh,by omega,by omega,hm⟩,by omega⟩
  ·have he:=au he
   have ho:dv x%2=1:=by omega
   refine ⟨⟨dx,dm⟩,aa (fun hk=> ?_) (fun hk=> ?_)⟩
   ·have hk:=qW.1 (av hk)
    have hw:=WW hs ho
    refine ⟨⟨by omega,by omega⟩,lx,⟨by omega,by decide⟩,fun _=>⟨by omega,by omega⟩,fun _=>lm,fun _=>⟨by omega,by decide⟩,aa (fun hf=> ?_) (fun hf=> ?_)⟩
    ·have hf:dv x%4=3∧dv m%4=3:=by
      rw [cV] at hf
      have k1:=av hf.1
      have k2:=av hf.2
      omega
     rw [decide_eq_true hf] at hw
     rw [cM]
     exact ⟨⟨dm,dx,by omega⟩,Kz hw (by omega),show dv m-dv x+dv x<dv a+dv n by omega⟩
    ·have hf:¬ (dv x%4=3∧dv m%4=3):=by
      rw [Bool.and_eq_false_iff] at hf
      rcases hf with hf | hf <;>have k1:=au hf <;>omega
     rw [decide_eq_false hf] at hw
     rw [cM]
     exact ⟨⟨dm,dx,by omega⟩,Kz hw (by omega),show dv m-dv x+dv x<dv a+dv n by omega⟩
   ·have hk:dv m≤dv x:=by
     have:=au hk
     rw [qW] at this
     omega
    rw [cM]
    exact ⟨⟨dx,dm,hk⟩,Kz hs hk,show dv x-dv m+dv m<dv a+dv n by omega⟩
 ·have hc:=au hc
  exact YT h ((rl h.1).1 (by omega))
theorem af3:(base.with WF).Ok:=ac afZ (ai aep afZ Tryz.func135 (by kernel_rfl) Tryz.call135 (by kernel_rfl) al0)
theorem amK {b:LD} (hb:ar b):bv b<256 ^ b.length:=by
 have:=HR (yk hb)
 rwa [kv] at this
theorem Fb {b:LD} (hb:ar b) (hl:b.length≤1000):cb (be (bv b)):=⟨zg _,by
 have h:=amK hb
 have h2:bv b<4294967296 ^ 250:=Nat.lt_of_lt_of_le h (Nat.le_trans (Nat.pow_le_pow_right (by decide) hl) (by decide+kernel))
 exact Nat.le_trans (D8 h2) (by decide)⟩
theorem RL:cb tp:=by rw [Kg];exact Bb (Nat.le_refl _)
theorem zU {x y:Nat} :0≤kw x y↔y≤x:=by
 have:=qW (x:=x) (y:=y)
 omega
theorem ai9:aco:=by
 delta aco lM ay kf pA lH oz qt EP
 intro g b _ h _
 obtain ⟨hg,hB,hl⟩:=h
 have hA:=dK hB
 refine aa (fun h=>nd h rfl) (fun h=>⟨⟨hB,hl⟩,hg,⟨Fb hA hl,RL⟩,aa (fun k=>dq h ?_) (fun k=>dq h ?_)⟩)
 ·have k:bG≤dv (be (bv b)):=zU.1 (av k)
  rw [cM] at k
  exact nd (decide_eq_true k) rfl
 ·have k:¬ bG≤dv (be (bv b)):=fun k2=>au k (zU.2 k2)
  rw [cM] at k
  exact dq (decide_eq_false k) ⟨rfl,rfl⟩
theorem ZQ:(base.with TS).Ok:=ac af3 (ai am af3 Tryz.func134 (by kernel_rfl) Tryz.call134 (by kernel_rfl) ai9)
theorem tP (b:LD):wN b=(decide ((b.length:Int)=96)&&(decide (bv b<bG)&&(decide (bv b≠0)&&decide (NT.sy (bv b) bG=1)))):=rfl
theorem VT {b:LD} (h:(b.length:Int)≠96):1=ic b:=by unfold ic;rw [if_pos h]
theorem Hh {b:LD} (h:(b.length:Int)=96) (k:wN b=false):4=ic b:=by unfold ic;rw [if_neg (fun e=>e h),if_neg (by rw [k];decide)]
theorem TL {b:LD} (h:(b.length:Int)=96) (k:wN b=true):0=ic b:=by unfold ic;rw [if_neg (fun e=>e h),if_pos k]
theorem arV:P90:=by
 delta P90 lM ay kf oz qt
 intro b _ h
 obtain ⟨hB,hl⟩:=h
 refine ⟨⟨rfl,hB,hl⟩,aa (fun h=>VT (av h)) (fun h=> ?_)⟩
 have h:=au h
 have h:(b.length:Int)=96:=by omega
 refine aa (fun k=> ?_) (fun k=> ?_)
 ·have k:bG≤bv b:=av k
  refine Hh h ?_
  rw [tP,decide_eq_false (p:=bv b<bG) (by omega)];simp
 ·have k:¬ bG≤bv b:=au k
  have k:bv b<bG:=by omega
  intro _
  have hz:((be (bv b)).length:Int)=0↔bv b=0:=by
   have:=rl (uF (bv b))
   rw [cM] at this
   omega
  refine ⟨fun h0=>⟨Bb (by omega),uF _,?_,?_⟩,aa (fun h0=> ?_) (fun h0=> ?_)⟩
  ·rw [cM]
   have:¬ ((be (bv b)).length:Int)=0:=by simpa using h0
   rw [hz] at this
   omega
  ·rw [cM];exact k
  ·refine Hh h ?_
   rw [tP]
   rw [Bool.or_eq_true] at h0
   rcases h0 with h0 | h0
   ·have h0:=hz.1 (av h0)
    rw [decide_eq_false (p:=bv b≠0) (fun hn=>hn h0)];simp
   ·rw [cM] at h0
    have h0:¬ NT.sy (bv b) bG=1:=by
     have h0:(!decide (NT.sy (bv b) bG=1))=true:=h0
     simpa using h0
    rw [decide_eq_false h0];simp
  ·refine TL h ?_
   rw [Bool.or_eq_false_iff] at h0
   have h1:bv b≠0:=fun e=>au h0.1 (hz.2 e)
   have h2:=h0.2
   rw [cM] at h2
   have h2:NT.sy (bv b) bG=1:=by
    have h2:(!decide (NT.sy (bv b) bG=1))=false:=h2
    simpa using h2
   rw [tP,decide_eq_true h,decide_eq_true k,decide_eq_true h1,decide_eq_true h2];rfl
theorem c90:(base.with adL).Ok:=ac ZQ (ai am ZQ Tryz.func90 (by kernel_rfl) Tryz.call90 (by kernel_rfl) arV)
theorem IT:cb pP2:=by
 refine ⟨⟨by kernel_rfl,fun d hd=> ?_⟩,by decide⟩
 have:∀ d∈dI pP2,d<4294967296:=by decide+kernel
 exact this d hd
theorem arO:P89:=by
 delta P89 lM ay kf yh
 intro b _ h _
 obtain ⟨hB,hl⟩:=h
 have hA:=dK hB
 refine aa (fun h=>by unfold nU;rw [if_pos (av h)]) (fun h=>⟨⟨hB,hl⟩,trivial,⟨Fb hA hl,IT⟩,aa (fun k=> ?_) (fun k=> ?_)⟩)
 ·have k:fx≤dv (be (bv b)):=zU.1 (av k)
  rw [cM] at k
  unfold nU
  rw [if_neg (au h),if_pos k]
 ·have k:¬ fx≤dv (be (bv b)):=fun k2=>au k (zU.2 k2)
  rw [cM] at k
  unfold nU
  rw [if_neg (au h),if_neg k]
theorem c89:(base.with YV).Ok:=ac c90 (ai am c90 Tryz.func89 (by kernel_rfl) Tryz.call89 (by kernel_rfl) arO)
def aG (t:Int):Int:=if t=1 then 1 else if t=2 then 8 else if t=3 then 32 else if t=4 then 96 else 0
def bl (t:Int) (l:LD):Int:=if aG t=0 then 6 else if (l.length:Int)%aG t≠0 then 3 else if (l.length:Int) / aG t<1∨1048576<(l.length:Int) / aG t then 7 else 0
def bi (t:Int) (l:LD):Int:=if bl t l=0 then (l.length:Int) / aG t else 0
def o9 (t:Int) (l:LD) (i:Nat):LD:=(l.take ((i+1)*(aG t).toNat)).drop (i*(aG t).toNat)
def Oz (b:LD):Bool:=decide ((b.length:Int)=32)&&decide (bv b<fx)
def As (t:Int) (b:LD):Bool:=if t=3 then Oz b else if t=4 then wN b else true
def sN (t:Int) (l:LD):Nat→Bool
 | 0=>true
 | i+1=>sN t l i&&As t (o9 t l i)
def dg (t:Int) (l:LD):Int:=if bl t l≠0 then bl t l else if sN t l (bi t l).toNat then 0 else 4
def fO (k t c:Int) (l:LD):Bool:=decide (cR k t c [] =0)&&(bif decide (k≠1) then decide ((l.length:Int)=0) else (decide (bl t l=0)&&(decide (bi t l=c)&&decide (dg t l=0))))
abbrev MF:Pat:= .agg [i64,i64,i64,rb]
def bW (l:LD):Prop:=bP l∧l.length≤1000
def aq0:Ct:= {ps:= [i64],bs:= [],pre:=fun _=>True,res:=fun | [.i t] => .ret i64 [] [.i (aG t)] | _=>ag}
def apC:Ct:= {ps:= [i64,rb],bs:= [],pre:=fun | [.i t,.r l] =>bW l | _=>False,res:=fun | [.i t,.r l] => .ret (.tup [i64,i64]) [] [.i (bi t l),.i (bl t l)] | _=>ag}
def asa:Ct:= {ps:= [i64,rb],bs:= [],pre:=fun | [.i t,.r l] =>bW l | _=>False,res:=fun | [.i t,.r l] => .ret i64 [] [.i (dg t l)] | _=>ag}
def aig:List Dat→Ann
 | [.i t,.r l] => {cut:= [],loop:= [(5,[la 51 [(0,i64),(1,rb),(5,i64),(7,i64)] [] (fun
   | [.i t',.r l',.i n,.i i] =>t'=t∧l'=l∧bl t l=0∧n=bi t l∧0≤i∧i≤n∧sN t l i.toNat=true
   | _=>False) (fun | [_,_,.i n,.i i] =>(n-i).toNat | _=>0)])]}
 | _=> {cut:= [],loop:= []}
def aqG:Ct:= {ps:= [MF],bs:= [],pre:=fun | [.i k,.i t,.i c,.r l] =>bW l | _=>False,res:=fun | [.i k,.i t,.i c,.r l] => .ret .bool [] [.b (fO k t c l)] | _=>ag}
def P88:Prop:=
 ∀ (a:Int),
 True→
 bif decide (a=1) then 1=aG a
 else
 bif decide (a=2) then 8=aG a
 else
 bif decide (a=3) then 32=aG a
 else bif decide (a=4) then 96=aG a else 0=aG a
def YL:af:=aj YV 88 (ap aq0)
def P49:Prop:=
 ∀ (a:Int) (b:LD),
 lM b→
 bW b→
 True∧
 bif decide (aG a=0) then
 0=bi a b∧(6:Int)=bl a b
 else
 lM b→
 True∧
 ((0:Int)≤↑b.length∧(0:Int)<aG a)∧
 bif decide (↑b.length%aG a≠0) then
 0=bi a b∧(3:Int)=bl a b
 else
 lM b→
 True∧
 ((0:Int)≤↑b.length∧(0:Int)<aG a∧↑b.length≤IntKind.i64.max)∧
 bif
 decide (↑b.length / aG a<(1:Int)) ||
 decide ((1048576:Int)<↑b.length / aG a) then
 0=bi a b∧(7:Int)=bl a b
 else
 ↑b.length / aG a=bi a b∧
 (0:Int)=bl a b
def ab8:af:=aj YL 49 (ap apC)
abbrev qY (a b:Int)(c:LD):LD:=
 List.drop (a*aG b).toNat (List.take ((a+1)*aG b).toNat c)
abbrev CJ (a b c d:Int)(e f:LD):Prop:=
 iR (a+1)∧
 (b=c∧
 e=f∧
 bl c f=0∧
 d=bi c f∧
 0≤a+1∧a+1≤d∧sN c f (a+1).toNat=true)∧
 (d-(a+1)).toNat<(d-a).toNat
abbrev I5 (a b c d:Int)(e f:LD):Prop:=
 (bP (qY a b e)∧(qY a b e).length≤1000)∧
 bif decide (ic (qY a b e)≠0) then 4=dg c f
 else CJ a b c d e f
def P50:Prop:=
 ∀ (a:Int) (b:LD),
 lM b→
 bW b→
 bW b∧
 bif decide (bl a b≠0) then bl a b=dg a b
 else
 ((a=a∧
 b=b∧
 bl a b=0∧
 bi a b=bi a b∧
 (0:Int)≤0∧0≤bi a b∧sN a b 0=true)∧
 True)∧
 ∀ (c:Int) (d:LD) (e f:Int),
 lM d→
 c=a∧
 d=b∧
 bl a b=0∧
 e=bi a b∧0≤f∧f≤e∧sN a b f.toNat=true→
 bif decide (f<e) then
 True∧
 iR (f*aG c)∧
 iR (f+1)∧
 True∧
 iR ((f+1)*aG c)∧
 (0≤f*aG c∧
 f*aG c≤(f+1)*aG c∧
 (f+1)*aG c≤↑d.length)∧
 bif decide (c=3) then
 (bP (qY f c d)∧
 (qY f c d).length≤1000)∧
 bif decide (c=4) then I5 f c a e d b
 else
 bif decide (nU (qY f c d)≠0) then
 4=dg a b
 else CJ f c a e d b
 else
 bif decide (c=4) then I5 f c a e d b else CJ f c a e d b
 else 0=dg a b
def afY:af:=aj ab8 50 (ap asa)
def P23:Prop:=
 ∀ (a b c:Int) (d:LD),
 lM d→
 bW d→
 True∧
 bif decide (cR a b c [] ≠(0:Int)) then false=fO a b c d
 else
 bif decide (a≠1) then lM d→decide ((↑d.length:Int)=0)=fO a b c d
 else
 bW d∧
 ((decide (bl b d=0)&&decide (bi b d=c))=true→
 bW d)∧
 (decide (bl b d=0)&&decide (bi b d=c) &&
 decide (dg b d=0))=
 fO a b c d
def ag9:af:=aj afY 23 (ap aqG)
theorem aeG:P88:=by
 unfold P88
 intro n _
 unfold aG
 refine aa (fun h=> ?_) (fun h=>aa (fun h2=> ?_) (fun h2=>aa (fun h3=> ?_) (fun h3=>aa (fun h4=> ?_) (fun h4=> ?_))))
 ·rw [if_pos (av h)]
 ·rw [if_neg (au h),if_pos (av h2)]
 ·rw [if_neg (au h),if_neg (au h2),if_pos (av h3)]
 ·rw [if_neg (au h),if_neg (au h2),if_neg (au h3),if_pos (av h4)]
 ·rw [if_neg (au h),if_neg (au h2),if_neg (au h3),if_neg (au h4)]
theorem c88:(base.with YL).Ok:=ac c89 (ai am c89 Tryz.func88 (by kernel_rfl) Tryz.call88 (by kernel_rfl) aeG)
theorem yw (t:Int):aG t=0∨aG t=1∨aG t=8∨aG t=32∨aG t=96:=by
 unfold aG
 split
 ·omega
 ·split
  ·omega
  ·split
   ·omega
   ·split <;>omega
theorem ar7:P49:=by
 delta P49 lM
 intro t l _ hl
 have hlen:=hl.2
 have hs:=yw t
 refine ⟨trivial,aa (fun h=> ?_) (fun h=> ?_)⟩
 ·have h:=av h
  have k:bl t l=6:=by unfold bl;rw [if_pos h]
  unfold bi
  rw [k]
  exact ⟨rfl,rfl⟩
 have h:=au h
 intro _
 refine ⟨trivial,⟨by omega,by omega⟩,aa (fun h2=> ?_) (fun h2=> ?_)⟩
 ·have k:bl t l=3:=by unfold bl;rw [if_neg h,if_pos (av h2)]
  unfold bi
  rw [k]
  exact ⟨rfl,rfl⟩
 have h2:=au h2
 intro _
 have hm:IntKind.i64.max=9223372036854775807:=by decide
 rw [hm]
 refine ⟨trivial,⟨by omega,by omega,by omega⟩,aa (fun h3=> ?_) (fun h3=> ?_)⟩
 ·have h3:(l.length:Int) / aG t<1∨1048576<(l.length:Int) / aG t:=by
   rw [Bool.or_eq_true] at h3
   exact h3.imp av av
  have k:bl t l=7:=by unfold bl;rw [if_neg h,if_neg h2,if_pos h3]
  unfold bi
  rw [k]
  exact ⟨rfl,rfl⟩
 ·have h3:¬ ((l.length:Int) / aG t<1∨1048576<(l.length:Int) / aG t):=by
   rw [Bool.or_eq_false_iff] at h3
   have k1:=au h3.1
   have k2:=au h3.2
   omega
  have k:bl t l=0:=by unfold bl;rw [if_neg h,if_neg h2,if_neg h3]
  unfold bi
  rw [k,if_pos rfl]
  exact ⟨rfl,rfl⟩
theorem c49:(base.with ab8).Ok:=ac c88 (ai am c88 Tryz.func49 (by kernel_rfl) Tryz.call49 (by kernel_rfl) ar7)
theorem D1 (b:LD):ic b=0↔wN b=true:=by
 unfold ic
 by_cases h:(b.length:Int)=96
 ·rw [if_neg (fun e=>e h)]
  cases wN b <;>simp
 ·rw [if_pos h]
  constructor
  ·intro e;cases e
  ·intro e
   rw [tP,decide_eq_false h] at e;cases e
theorem EB (b:LD):nU b=0↔Oz b=true:=by
 unfold nU Oz
 by_cases h:(b.length:Int)=32
 ·rw [if_neg (fun e=>e h),decide_eq_true h,Bool.true_and]
  by_cases k:fx≤bv b
  ·rw [if_pos k,decide_eq_false (by omega)];simp
  ·rw [if_neg k,decide_eq_true (by omega)];simp
 ·rw [if_pos h,decide_eq_false h];simp
theorem zf {l:LD} (h:bP l) (i j:Nat):bP ((l.take j).drop i):=by
 have e:(l.take j).drop i=ah (((ab l).take j).drop i):=by
  rw [show l=ah (ab l) from h]
  unfold ah
  rw [← List.map_take,← List.map_drop]
  rw [← show l=List.map _ (ab l) from h]
 rw [e]
 exact eZ _
theorem Pj {t:Int} {l:LD} {i:Nat} (h:As t (o9 t l i)=false):∀ {n:Nat},i<n→sN t l n=false
 | n+1,hi=>by
  rw [sN]
  by_cases e:i=n
  ·subst e;rw [h];simp
  ·rw [Pj h (show i<n by omega)];rfl
theorem MT {t:Int} {l:LD} {i:Nat} (hk:bl t l=0) (hi:i<(bi t l).toNat) (h:As t (o9 t l i)=false):4=dg t l:=by
 unfold dg
 rw [if_neg (fun e=>e hk),Pj h hi];rfl
theorem S0 (b:LD):As 3 b=Oz b:=rfl
theorem WB (b:LD):As 4 b=wN b:=rfl
theorem aqM:P50:=by
 delta P50 lM iR qY CJ I5
 intro t l _ hl
 have hlen:=hl.2
 refine ⟨hl,aa (fun h=> ?_) (fun h=> ?_)⟩
 ·have h:=av h
  unfold dg
  rw [if_pos h]
 have hk:bl t l=0:=by simpa using au h
 have iu:aG t≠0:=fun e=>by unfold bl at hk;rw [if_pos e] at hk;cases hk
 have hm:(l.length:Int)%aG t=0:=by
  apply Classical.byContradiction
  intro e
  unfold bl at hk
  rw [if_neg iu,if_pos e] at hk;cases hk
 have hn:bi t l=(l.length:Int) / aG t:=by unfold bi;rw [if_pos hk]
 have hs:=yw t
 have hlen2:(l.length:Int)=aG t*bi t l:=by
  rw [hn]
  have:=Int.emod_add_mul_ediv (l.length:Int) (aG t)
  omega
 have hn0:0≤bi t l:=by rw [hn];exact Int.ediv_nonneg (by omega) (by omega)
 have hn1:bi t l≤1048576:=by
  rw [hn]
  apply Classical.byContradiction
  intro e
  unfold bl at hk
  rw [if_neg iu,if_neg (fun e2=>e2 hm),if_pos (.inr (by omega))] at hk;cases hk
 refine ⟨⟨⟨rfl,rfl,hk,rfl,by omega,hn0,rfl⟩,trivial⟩,?_⟩
 intro t' l' n i _ h
 obtain ⟨e1,e2,_,e3,h0,h1,h2⟩:=h
 rw [e1,e2,e3]
 rw [e3] at h1
 refine aa (fun hi=> ?_) (fun hi=> ?_)
 ·have hi:=av hi
  have hii:i.toNat<(bi t l).toNat:=by omega
  have m1:(i+1)*aG t≤l.length:=by
   rw [hlen2,Int.mul_comm (aG t)]
   exact Int.mul_le_mul_of_nonneg_right (by omega) (by omega)
  have m0:0≤i*aG t:=Int.mul_nonneg h0 (by omega)
  have m2:(i+1)*aG t=i*aG t+aG t:=by rw [Int.add_mul,Int.one_mul]
  have q1:(i*aG t).toNat=i.toNat*(aG t).toNat:=Int.toNat_mul h0 (by omega)
  have q2:((i+1)*aG t).toNat=(i.toNat+1)*(aG t).toNat:=by rw [Int.toNat_mul (by omega) (by omega),show (i+1).toNat=i.toNat+1 from by omega]
  have ev:List.drop (i*aG t).toNat (List.take ((i+1)*aG t).toNat l)=o9 t l i.toNat:=by rw [q1,q2];rfl
  rw [ev]
  have hB:bP (o9 t l i.toNat)∧(o9 t l i.toNat).length≤1000:=by
   refine ⟨zf hl.1 _ _,?_⟩
   unfold o9
   rw [cj,List.length_take]
   omega
  have nx:As t (o9 t l i.toNat)=true→(-9223372036854775808≤i+1∧i+1≤9223372036854775807)∧(t=t∧l=l∧bl t l=0∧bi t l=bi t l∧0≤i+1∧i+1≤bi t l∧sN t l (i+1).toNat=true)∧(bi t l-(i+1)).toNat<(bi t l-i).toNat:=fun hv=>by
   refine ⟨by omega,⟨rfl,rfl,hk,rfl,by omega,by omega,?_⟩,by omega⟩
   rw [show (i+1).toNat=i.toNat+1 from by omega,sN,h2,hv];rfl
  have hF:t=3→bP (o9 t l i.toNat)∧True:=fun _=>⟨hB.1,trivial⟩
  refine ⟨trivial,by omega,by omega,trivial,by omega,⟨m0,by omega,m1⟩,aa (fun c3=> ?_) (fun c3=> ?_)⟩
  ·have c3:=av c3
   refine ⟨hB,dq (decide_eq_false (by omega)) (aa (fun k=> ?_) (fun k=> ?_))⟩
   ·refine MT hk hii ?_
    rw [c3,S0,← c3]
    cases hf:Oz (o9 t l i.toNat) with
    | false=>rfl
    | true=>exact absurd ((EB _).2 hf) (av k)
   ·refine nx ?_
    rw [c3,S0,← c3]
    exact (EB _).1 (by simpa using au k)
  ·have c3:=au c3
   refine aa (fun c4=> ?_) (fun c4=> ?_)
   ·have c4:=av c4
    refine ⟨hB,aa (fun k=> ?_) (fun k=> ?_)⟩
    ·refine MT hk hii ?_
     rw [c4,WB,← c4]
     cases hf:wN (o9 t l i.toNat) with
     | false=>rfl
     | true=>exact absurd ((D1 _).2 hf) (av k)
    ·refine nx ?_
     rw [c4,WB,← c4]
     exact (D1 _).1 (by simpa using au k)
   ·have c4:=au c4
    refine nx ?_
    unfold As
    rw [if_neg c3,if_neg c4]
 ·have hi:=au hi
  unfold dg
  rw [if_neg (fun e=>e hk),show (bi t l).toNat=i.toNat from by omega,h2];rfl
theorem c50:(base.with afY).Ok:=ac c49 (ai aig c49 Tryz.func50 (by kernel_rfl) Tryz.call50 (by kernel_rfl) aqM)
theorem apX:P23:=by
 delta P23 lM
 intro k t c l _ hl
 refine ⟨trivial,aa (fun h=> ?_) (fun h=>aa (fun h2=>fun _=> ?_) (fun h2=>⟨hl,fun _=>hl,?_⟩))⟩
 ·unfold fO
  rw [decide_eq_false (av h)];rfl
 ·unfold fO
  have h:cR k t c [] =0:=by simpa using au h
  rw [decide_eq_true h,h2];rfl
 ·unfold fO
  have h:cR k t c [] =0:=by simpa using au h
  rw [decide_eq_true h,h2,Bool.and_assoc];rfl
theorem c23:(base.with ag9).Ok:=ac c50 (ai am c50 Tryz.func23 (by kernel_rfl) Tryz.call23 (by kernel_rfl) apX)
end
end Go.Proofs.YteiecapbaeajdaaGreatDoor
