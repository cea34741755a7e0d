/-
  Numbers: signs of rests (Gauss, Schering), their product, the law of reciprocity, powers modulo a prime (Euler). No program in sight.
-/
import Derived.Test.YteiecapbaeajdaaGreatDoorJ8
import Derived.KernelRfl
namespace Go.NT
set_option linter.unusedVariables false
def fo {α:Type} (op:α→α→α) (z:α) (f:Nat→α):Nat→α
  | 0=>z
  | n+1=>op (fo op z f n) (f n)
theorem ld {α:Type} {op:α→α→α} {z:α} {f g:Nat→α} :∀ {n},(∀ k,k<n→f k=g k)→fo op z f n=fo op z g n
  | 0,_=>rfl
  | n+1,h=>by rw [fo,fo,ld fun k hk=>h k (by omega),h n (by omega)]
theorem Ir {α:Type} {op:α→α→α} {z:α} (hc:∀ x y,op x y=op y x) (ha:∀ x y w,op (op x y) w=op x (op y w)) (f:Nat→α) (u:α) (j:Nat):∀ n,j<n→op (fo op z (fun k=>if k=j then u else f k) n) (f j)=op (fo op z f n) u
  | n+1,h=>by
    rw [fo,fo]
    by_cases e:n=j
    · subst e
      rw [if_pos rfl,ld (g:=f) fun k hk=>if_neg (by omega),ha,ha,hc u]
    · rw [if_neg e,ha,hc (f n),← ha,Ir hc ha f u j n (by omega),ha,ha,hc u]
theorem HZ:∀ (n:Nat) (f:Nat→Nat),(∀ k,k<n+1→f k<n)→(∀ i j,i<n+1→j<n+1→f i=f j→i=j)→False
  | 0,f,h,_=>by have:=h 0 (by omega);omega
  | n+1,f,h,hi=>by
    refine HZ n (fun k=>if f k=n then f (n+1) else f k) (fun k hk=> ?_) (fun i j hi' hj' e=> ?_)
    · have h1:=h k (by omega)
      have h2:=h (n+1) (by omega)
      have h3:f k=n→f (n+1)≠n:=fun e1 e2=>by have:=hi k (n+1) (by omega) (by omega) (by omega);omega
      show (if f k=n then f (n+1) else f k)<n
      split
      · rename_i e;have:=h3 e;omega
      · omega
    · have e:(if f i=n then f (n+1) else f i)=(if f j=n then f (n+1) else f j):=e
      have h1:f i=f (n+1)→False:=fun e1=>by have:=hi i (n+1) (by omega) (by omega) e1;omega
      have h2:f j=f (n+1)→False:=fun e1=>by have:=hi j (n+1) (by omega) (by omega) e1;omega
      split at e
      · split at e
        · exact hi i j (by omega) (by omega) (by omega)
        · exact (h2 e.symm).elim
      · split at e
        · exact (h1 e).elim
        · exact hi i j (by omega) (by omega) e
theorem qV {α:Type} {op:α→α→α} {z:α} (hc:∀ x y,op x y=op y x) (ha:∀ x y w,op (op x y) w=op x (op y w)) (g:Nat→α):∀ (n:Nat) (f:Nat→Nat),(∀ k,k<n→f k<n)→(∀ i j,i<n→j<n→f i=f j→i=j)→fo op z (fun k=>g (f k)) n=fo op z g n
  | 0,f,_,_=>rfl
  | n+1,f,h,hi=>by
    have ⟨j,hj,e⟩:∃ j,j<n+1∧f j=n:=by
      apply Classical.byContradiction
      intro hn
      refine HZ n f (fun k hk=> ?_) (fun i j hi' hj'=>hi i j hi' hj')
      have h1:=h k hk
      have h2:f k≠n:=fun e=>hn ⟨k,hk,e⟩
      omega
    by_cases hjn:j=n
    · subst hjn
      rw [fo,fo,e,qV hc ha g j f (fun k hk=> ?_) (fun i k hi' hk'=>hi i k (by omega) (by omega))]
      have h1:=h k (by omega)
      have h2:f k≠j:=fun e2=>by have:=hi k j (by omega) (by omega) (by omega);omega
      omega
    · have ih:=qV (z:=z) hc ha g n (fun k=>if k=j then f n else f k) (fun k hk=>by
          show (if k=j then f n else f k)<n
          have h3:f n≠n:=fun e2=>by have:=hi n j (by omega) (by omega) (by omega);omega
          have h4:=h n (by omega)
          split
          · omega
          · rename_i hk2
            have h1:=h k (by omega)
            have h2:f k≠n:=fun e2=>by have:=hi k j (by omega) (by omega) (by omega);omega
            omega) (fun i k hi' hk' e2=>by
          have e2:(if i=j then f n else f i)=(if k=j then f n else f k):=e2
          split at e2
          · split at e2
            · omega
            · have:=hi n k (by omega) (by omega) e2;omega
          · split at e2
            · have:=hi i n (by omega) (by omega) e2;omega
            · exact hi i k (by omega) (by omega) e2)
      have hu:=Ir hc ha (z:=z) (fun k=>g (f k)) (g (f n)) j n (by omega)
      rw [fo,fo,← ih,← hu,e]
      congr 1
      exact ld fun k hk=>by split <;>rfl
theorem int_cop {m x y:Int} (h:m∣x*y) (hg:Int.gcd x m=1):m∣y:=by
  rw [← Int.natAbs_dvd_natAbs,Int.natAbs_mul] at h
  rw [← Int.natAbs_dvd_natAbs]
  exact Nat.Coprime.dvd_of_dvd_mul_left (Nat.Coprime.symm hg) h
def su (f:Nat→Nat) (n:Nat):Nat:=fo Nat.add 0 f n
def pd (f:Nat→Int) (n:Nat):Int:=fo (fun x y=>x*y) 1 f n
theorem oa (f:Nat→Nat) (n:Nat):su f (n+1)=su f n+f n:=rfl
theorem mL (f:Nat→Int) (n:Nat):pd f (n+1)=pd f n*f n:=rfl
theorem nY {f g:Nat→Nat} {n:Nat} (h:∀ k,k<n→f k=g k):su f n=su g n:=ld h
theorem AK {f g:Nat→Int} {n:Nat} (h:∀ k,k<n→f k=g k):pd f n=pd g n:=ld h
theorem nn (f g:Nat→Nat):∀ n,su (fun k=>f k+g k) n=su f n+su g n
  | 0=>rfl
  | n+1=>by rw [oa,oa,oa,nn f g n];omega
theorem n7 (a:Nat):∀ n,su (fun _=>a) n=n*a
  | 0=>by rw [Nat.zero_mul];rfl
  | n+1=>by rw [oa,n7 a n,Nat.succ_mul]
theorem DK (f:Nat→Nat→Nat) (m:Nat):∀ n,su (fun i=>su (fun j=>f i j) m) n=su (fun j=>su (fun i=>f i j) n) m
  | 0=>by
    rw [show su (fun j=>su (fun i=>f i j) 0) m=su (fun _=>0) m from rfl,n7,Nat.mul_zero];rfl
  | n+1=>by
    rw [oa,DK f m n,← nn]
    rfl
theorem zY (f g:Nat→Int):∀ n,pd (fun k=>f k*g k) n=pd f n*pd g n
  | 0=>rfl
  | n+1=>by rw [mL,mL,mL,zY f g n];grind
theorem Oh (g:Nat→Nat) {n:Nat} {f:Nat→Nat} (h:∀ k,k<n→f k<n) (hi:∀ i j,i<n→j<n→f i=f j→i=j):su (fun k=>g (f k)) n=su g n:=qV Nat.add_comm Nat.add_assoc g n f h hi
theorem C6 (g:Nat→Int) {n:Nat} {f:Nat→Nat} (h:∀ k,k<n→f k<n) (hi:∀ i j,i<n→j<n→f i=f j→i=j):pd (fun k=>g (f k)) n=pd g n:=qV Int.mul_comm Int.mul_assoc g n f h hi
def rs (h a k:Nat):Nat:=a*(k+1)%(2*h+1)
def ep (h a k:Nat):Int:=if h<rs h a k then -1 else 1
def pl (h a k:Nat):Nat:=(if h<rs h a k then 2*h+1-rs h a k else rs h a k)-1
def gs (h a:Nat):Int:=pd (ep h a) h
theorem tY (h a k:Nat):ep h a k=1∨ep h a k= -1:=by unfold ep;split <;>simp
theorem AC {h a k:Nat} (hg:Nat.gcd a (2*h+1)=1) (hk:k<h):0<rs h a k:=by
  apply Nat.pos_of_ne_zero
  intro e
  have hd:(2*h+1)∣a*(k+1):=Nat.dvd_of_mod_eq_zero e
  have h1:=(Nat.Coprime.symm hg).dvd_of_dvd_mul_left hd
  have:=Nat.le_of_dvd (by omega) h1
  omega
theorem Ec (h a k:Nat):rs h a k<2*h+1:=Nat.mod_lt _ (by omega)
theorem qA {h a k:Nat} (hg:Nat.gcd a (2*h+1)=1) (hk:k<h):pl h a k<h:=by
  have h1:=AC hg hk
  have h2:=Ec h a k
  unfold pl
  split <;>omega
theorem qH {h a k:Nat} (hg:Nat.gcd a (2*h+1)=1) (hk:k<h):((2*h+1:Nat):Int)∣(a:Int)*(k+1)-ep h a k*(pl h a k+1):=by
  have h1:=AC hg hk
  have h2:=Ec h a k
  have h3:a*(k+1)=(2*h+1)*(a*(k+1) / (2*h+1))+rs h a k:=(Nat.div_add_mod _ _).symm
  have h4:(a:Int)*(k+1)=((2*h+1:Nat):Int)*((a*(k+1) / (2*h+1):Nat):Int)+(rs h a k:Int):=by
    have:((a*(k+1):Nat):Int)=(((2*h+1)*(a*(k+1) / (2*h+1))+rs h a k:Nat):Int):=congrArg _ h3
    rw [Int.natCast_add,Int.natCast_mul,Int.natCast_mul] at this
    rw [← this];simp
  rw [h4]
  unfold ep pl
  by_cases hc:h<rs h a k
  · rw [if_pos hc,if_pos hc]
    refine ⟨((a*(k+1) / (2*h+1):Nat):Int)+1,?_⟩
    have:((2*h+1-rs h a k-1:Nat):Int)+1=((2*h+1:Nat):Int)-rs h a k:=by omega
    rw [this]
    grind
  · rw [if_neg hc,if_neg hc]
    refine ⟨((a*(k+1) / (2*h+1):Nat):Int),?_⟩
    have:((rs h a k-1:Nat):Int)+1=rs h a k:=by omega
    rw [this]
    grind
theorem Ij {h u v:Nat} {d e:Int} (hd:d=1∨d= -1) (he:e=1∨e= -1) (hu:u<h) (hv:v<h) (k:((2*h+1:Nat):Int)∣d*(u+1)-e*(v+1)):d=e∧u=v:=by
  obtain ⟨q,hq⟩:=k
  have hb:∀ x:Int,((2*h+1:Nat):Int)*q=x→-(2*h+1:Int)<x→x<2*h+1→x=0:=fun x hx h1 h2=>by
    have h0:q=0:=by
      rcases Int.lt_trichotomy q 0 with hq | hq | hq
      · have:((2*h+1:Nat):Int)*q≤((2*h+1:Nat):Int)* -1:=Int.mul_le_mul_of_nonneg_left (by omega) (by omega)
        omega
      · exact hq
      · have:((2*h+1:Nat):Int)*1≤((2*h+1:Nat):Int)*q:=Int.mul_le_mul_of_nonneg_left (by omega) (by omega)
        omega
    rw [← hx,h0,Int.mul_zero]
  rcases hd with rfl | rfl <;>rcases he with rfl | rfl
  · have:=hb _ hq.symm (by omega) (by omega);omega
  · have:=hb _ hq.symm (by omega) (by omega);omega
  · have:=hb _ hq.symm (by omega) (by omega);omega
  · have:=hb _ hq.symm (by omega) (by omega);omega
theorem Aw {h a:Nat} (hg:Nat.gcd a (2*h+1)=1) (i j:Nat) (hi:i<h) (hj:j<h) (e:pl h a i=pl h a j):i=j:=by
  have h1:=qH hg hi
  have h2:=qH hg hj
  rw [e] at h1
  have key:∃ s:Int,(s=1∨s= -1)∧((2*h+1:Nat):Int)∣(a:Int)*(1*((i:Int)+1)-s*(j+1)):=by
    rcases tY h a i with e1 | e1 <;>rcases tY h a j with e2 | e2 <;>rw [e1] at h1 <;>rw [e2] at h2
    · refine ⟨1,.inl rfl,?_⟩
      have e:(a:Int)*(1*((i:Int)+1)-1*(j+1))=a*(i+1)-1*(pl h a j+1)-(a*(j+1)-1*(pl h a j+1)):=by grind
      rw [e];exact Int.dvd_sub h1 h2
    · refine ⟨-1,.inr rfl,?_⟩
      have e:(a:Int)*(1*((i:Int)+1)- -1*(j+1))=a*(i+1)-1*(pl h a j+1)+(a*(j+1)- -1*(pl h a j+1)):=by grind
      rw [e];exact Int.dvd_add h1 h2
    · refine ⟨-1,.inr rfl,?_⟩
      have e:(a:Int)*(1*((i:Int)+1)- -1*(j+1))=a*(i+1)- -1*(pl h a j+1)+(a*(j+1)-1*(pl h a j+1)):=by grind
      rw [e];exact Int.dvd_add h1 h2
    · refine ⟨1,.inl rfl,?_⟩
      have e:(a:Int)*(1*((i:Int)+1)-1*(j+1))=a*(i+1)- -1*(pl h a j+1)-(a*(j+1)- -1*(pl h a j+1)):=by grind
      rw [e];exact Int.dvd_sub h1 h2
  obtain ⟨s,hs,hd⟩:=key
  have hd2:((2*h+1:Nat):Int)∣1*((i:Int)+1)-s*(j+1):=int_cop hd hg
  exact (Ij (.inl rfl) hs hi hj hd2).2
theorem Co {a b n:Nat} (ha:Nat.gcd a n=1) (hb:Nat.gcd b n=1):Nat.gcd (a*b) n=1:=Nat.Coprime.mul_left ha hb
theorem Q7 {h a b:Nat} (ha:Nat.gcd a (2*h+1)=1) (hb:Nat.gcd b (2*h+1)=1):gs h (a*b)=gs h a*gs h b:=by
  have key:∀ k,k<h→ep h (a*b) k=ep h a (pl h b k)*ep h b k:=fun k hk=>by
    have h1:=qH hb hk
    have hp:=qA hb hk
    have h2:=qH ha hp
    have h3:=qH (Co ha hb) hk
    have h4:((2*h+1:Nat):Int)∣(a:Int)*b*(k+1)-ep h a (pl h b k)*ep h b k*(pl h a (pl h b k)+1):=by
      have e:(a:Int)*b*(k+1)-ep h a (pl h b k)*ep h b k*(pl h a (pl h b k)+1)=a*(b*(k+1)-ep h b k*(pl h b k+1))+ep h b k*(a*(pl h b k+1)-ep h a (pl h b k)*(pl h a (pl h b k)+1)):=by grind
      rw [e]
      exact Int.dvd_add (Int.dvd_mul_of_dvd_right h1) (Int.dvd_mul_of_dvd_right h2)
    rw [Int.natCast_mul] at h3
    have h5:=Int.dvd_sub h4 h3
    have e:(a:Int)*b*(k+1)-ep h a (pl h b k)*ep h b k*(pl h a (pl h b k)+1)-(a*b*(k+1)-ep h (a*b) k*(pl h (a*b) k+1))=ep h (a*b) k*(pl h (a*b) k+1)-ep h a (pl h b k)*ep h b k*(pl h a (pl h b k)+1):=by grind
    rw [e] at h5
    have hor:ep h a (pl h b k)*ep h b k=1∨ep h a (pl h b k)*ep h b k= -1:=by
      rcases tY h a (pl h b k) with e1 | e1 <;>rcases tY h b k with e2 | e2 <;>rw [e1,e2] <;>decide
    exact (Ij (tY _ _ _) hor (qA (Co ha hb) hk) (qA ha hp) h5).1
  unfold gs
  rw [AK key,zY,C6 (ep h a) (fun k hk=>qA hb hk) fun i j hi hj=>Aw hb i j hi hj]
theorem H0 (h a:Nat):gs h (a%(2*h+1))=gs h a:=by
  unfold gs
  refine AK fun k hk=> ?_
  have e:rs h (a%(2*h+1)) k=rs h a k:=by unfold rs;rw [Nat.mod_mul_mod]
  unfold ep
  rw [e]
theorem Rq {h a:Nat} (ha:2*h+1≤a):gs h (a-(2*h+1))=gs h a:=by
  rw [← H0 h a,← H0 h (a-_),← Nat.mod_eq_sub_mod ha]
def IH (n:Nat):Int:=pd (fun k=>(k:Int)+1) n
theorem Ab (a:Int) (f:Nat→Int):∀ n,pd (fun k=>a*f k) n=a ^ n*pd f n
  | 0=>by show (1:Int)=a ^ 0*1;simp
  | n+1=>by rw [mL,mL,Ab a f n,Int.pow_succ];grind
theorem Dj {m:Int} {f g:Nat→Int} :∀ {n},(∀ k,k<n→m∣f k-g k)→m∣pd f n-pd g n
  | 0,_=>by show m∣1-1;simp
  | n+1,hk=>by
    have h1:=Dj (n:=n) fun k h=>hk k (by omega)
    have h2:=hk n (by omega)
    rw [mL,mL,show pd f n*f n-pd g n*g n=(pd f n-pd g n)*f n+pd g n*(f n-g n) from by grind]
    exact Int.dvd_add (Int.dvd_mul_of_dvd_left h1) (Int.dvd_mul_of_dvd_right h2)
theorem CH {p:Nat} (hp:Pr p):∀ n,n<p→Int.gcd (IH n) p=1
  | 0,_=>by show Int.gcd 1 p=1;simp
  | n+1,hn=>by
    have ih:=CH hp n (by omega)
    have h1:Nat.gcd (n+1) p=1:=by
      rw [Nat.gcd_comm]
      exact hp.coprime fun hd=>by have:=Nat.le_of_dvd (by omega) hd;omega
    unfold IH
    rw [mL]
    show Nat.gcd (Int.natAbs (IH n*((n:Int)+1))) p=1
    rw [Int.natAbs_mul]
    exact Nat.Coprime.mul_left ih h1
theorem Y0 {h a:Nat} (hp:Pr (2*h+1)) (ha:Nat.gcd a (2*h+1)=1):((2*h+1:Nat):Int)∣(a:Int) ^ h-gs h a:=by
  have h1:((2*h+1:Nat):Int)∣pd (fun k=>(a:Int)*((k:Int)+1)) h-pd (fun k=>ep h a k*((pl h a k:Nat)+1:Int)) h:=Dj fun k hk=>qH ha hk
  rw [Ab,zY,C6 (fun k=>(k:Int)+1) (fun k hk=>qA ha hk) fun i j hi hj=>Aw ha i j hi hj] at h1
  have e:(a:Int) ^ h*pd (fun k=>(k:Int)+1) h-pd (fun k=>ep h a k) h*pd (fun k=>(k:Int)+1) h=IH h*((a:Int) ^ h-gs h a):=by unfold IH gs;grind
  rw [e] at h1
  exact int_cop h1 (CH hp h (by omega))
theorem tz (h:Nat):∀ n,n≤h→pd (ep h 2) n=if (n-h / 2)%2=0 then 1 else -1
  | 0,_=>by rw [Nat.zero_sub];rfl
  | n+1,hn=>by
    rw [mL,tz h n (by omega)]
    have e:rs h 2 n=2*(n+1):=Nat.mod_eq_of_lt (by omega)
    unfold ep
    rw [e]
    by_cases hc:h<2*(n+1)
    · rw [if_pos hc]
      have h1:n+1-h / 2=n-h / 2+1:=by omega
      rw [h1]
      rcases Nat.mod_two_eq_zero_or_one (n-h / 2) with e1 | e1
      · rw [if_pos e1,if_neg (by omega)];rfl
      · rw [if_neg (by omega),if_pos (by omega)];rfl
    · rw [if_neg hc]
      have h1:n+1-h / 2=0:=by omega
      have h2:n-h / 2=0:=by omega
      rw [h1,h2];rfl
theorem OC (h:Nat):gs h 2=if (2*h+1)%8=3∨(2*h+1)%8=5 then -1 else 1:=by
  unfold gs
  rw [tz h h (Nat.le_refl _)]
  by_cases hc:(2*h+1)%8=3∨(2*h+1)%8=5
  · rw [if_pos hc,if_neg (by omega)]
  · rw [if_neg hc,if_pos (by omega)]
def jr (m:Nat):Int:=if m%2=0 then 1 else -1
theorem Al (m n:Nat):jr (m+n)=jr m*jr n:=by
  have h:=Nat.add_mod m n 2
  unfold jr
  rw [h]
  rcases Nat.mod_two_eq_zero_or_one m with e1 | e1 <;>rcases Nat.mod_two_eq_zero_or_one n with e2 | e2 <;>rw [e1,e2] <;>rfl
def ng (h a k:Nat):Nat:=if h<rs h a k then 1 else 0
theorem um (h a:Nat):∀ n,pd (ep h a) n=jr (su (ng h a) n)
  | 0=>rfl
  | n+1=>by
    rw [mL,oa,Al,um h a n]
    congr 1
    unfold ep ng
    split <;>rfl
theorem we {f g:Nat→Nat} :∀ {n},(∀ k,k<n→f k%2=g k%2)→su f n%2=su g n%2
  | 0,_=>rfl
  | n+1,h=>by
    have h1:=we (n:=n) fun k hk=>h k (by omega)
    have h2:=h n (by omega)
    rw [oa,oa]
    omega
theorem zx {h b:Nat} (ha:Nat.gcd (2*b+1) (2*h+1)=1):gs h (2*b+1)=jr (su (fun k=>(2*b+1)*(k+1) / (2*h+1)) h):=by
  unfold gs
  rw [um]
  have key:∀ k,k<h→(k+1+ng h (2*b+1) k)%2=((2*b+1)*(k+1) / (2*h+1)+(pl h (2*b+1) k+1))%2:=fun k hk=>by
    have h1:=AC ha hk
    have h2:=Ec h (2*b+1) k
    have h3:(2*b+1)*(k+1)=(2*h+1)*((2*b+1)*(k+1) / (2*h+1))+rs h (2*b+1) k:=(Nat.div_add_mod _ _).symm
    generalize (2*b+1)*(k+1) / (2*h+1)=f at h3 ⊢
    have h4:(2*b+1)*(k+1)=2*(b*(k+1))+(k+1):=by grind
    have h5:(2*h+1)*f=2*(h*f)+f:=by grind
    rw [h4,h5] at h3
    unfold ng pl
    split <;>omega
  have h1:=we key
  have h0:su (fun k=>pl h (2*b+1) k+1) h=su (fun k=>k+1) h:=Oh (fun k=>k+1) (fun k hk=>qA ha hk) fun i j hi hj=>Aw ha i j hi hj
  have e3:=nn (fun k=>k+1) (ng h (2*b+1)) h
  have e4:=nn (fun k=>(2*b+1)*(k+1) / (2*h+1)) (fun k=>pl h (2*b+1) k+1) h
  rw [e3,e4,h0] at h1
  unfold jr
  have:su (ng h (2*b+1)) h%2=su (fun k=>(2*b+1)*(k+1) / (2*h+1)) h%2:=by omega
  rw [this]
theorem sq {x n:Nat} (hn:0<n):∀ m,su (fun j=>if n*(j+1)≤x then 1 else 0) m=if x / n<m then x / n else m
  | 0=>by simp;rfl
  | m+1=>by
    rw [oa,sq hn m]
    have:n*(m+1)≤x↔m+1≤x / n:=by rw [Nat.le_div_iff_mul_le hn,Nat.mul_comm]
    by_cases hc:n*(m+1)≤x
    · have:=this.1 hc
      rw [if_pos hc,if_neg (by omega),if_neg (by omega)]
    · have h1:¬ m+1≤x / n:=fun h=>hc (this.2 h)
      rw [if_neg hc]
      by_cases h2:x / n<m
      · rw [if_pos h2,if_pos (by omega)];rfl
      · rw [if_neg h2,if_pos (by omega)];omega
theorem NA {h b:Nat} (ha:Nat.gcd (2*b+1) (2*h+1)=1):su (fun k=>(2*b+1)*(k+1) / (2*h+1)) h+su (fun j=>(2*h+1)*(j+1) / (2*b+1)) b=h*b:=by
  have e1:∀ k,k<h→(2*b+1)*(k+1) / (2*h+1)=su (fun j=>if (2*h+1)*(j+1)≤(2*b+1)*(k+1) then 1 else 0) b:=fun k hk=>by
    rw [sq (by omega)]
    split
    · rfl
    · rename_i hc
      have:(2*b+1)*(k+1) / (2*h+1)<b+1:=by
        rw [Nat.div_lt_iff_lt_mul (by omega)]
        have:(2*b+1)*(k+1)≤(2*b+1)*h:=Nat.mul_le_mul_left _ (by omega)
        grind
      omega
  have e2:∀ j,j<b→(2*h+1)*(j+1) / (2*b+1)=su (fun k=>if (2*b+1)*(k+1)≤(2*h+1)*(j+1) then 1 else 0) h:=fun j hj=>by
    rw [sq (by omega)]
    split
    · rfl
    · rename_i hc
      have:(2*h+1)*(j+1) / (2*b+1)<h+1:=by
        rw [Nat.div_lt_iff_lt_mul (by omega)]
        have:(2*h+1)*(j+1)≤(2*h+1)*b:=Nat.mul_le_mul_left _ (by omega)
        grind
      omega
  have e3:=DK (fun j k=>if (2*b+1)*(k+1)≤(2*h+1)*(j+1) then 1 else 0) h b
  have e4:=nn (fun k=>su (fun j=>if (2*h+1)*(j+1)≤(2*b+1)*(k+1) then 1 else 0) b) (fun k=>su (fun j=>if (2*b+1)*(k+1)≤(2*h+1)*(j+1) then 1 else 0) b) h
  rw [nY e1,nY e2,e3,← e4,← n7 b h]
  refine nY fun k hk=> ?_
  have e5:=nn (fun j=>if (2*h+1)*(j+1)≤(2*b+1)*(k+1) then 1 else 0) (fun j=>if (2*b+1)*(k+1)≤(2*h+1)*(j+1) then 1 else 0) b
  rw [← e5,nY (g:=fun _=>1) fun j hj=> ?_,n7,Nat.mul_one]
  have hne:(2*h+1)*(j+1)≠(2*b+1)*(k+1):=fun e=>by
    have hd:(2*b+1)∣(2*h+1)*(j+1):=⟨k+1,e⟩
    have:=Nat.le_of_dvd (by omega) (Nat.Coprime.dvd_of_dvd_mul_left ha hd)
    omega
  rcases Nat.lt_or_ge ((2*h+1)*(j+1)) ((2*b+1)*(k+1)) with hl | hl
  · rw [if_pos (by omega),if_neg (by omega)]
  · rw [if_neg (by omega),if_pos (by omega)]
theorem ZC {h b:Nat} (ha:Nat.gcd (2*b+1) (2*h+1)=1):gs h (2*b+1)*gs b (2*h+1)=jr (h*b):=by
  have ha':Nat.gcd (2*h+1) (2*b+1)=1:=by rw [Nat.gcd_comm];exact ha
  rw [zx ha,zx ha',← Al,NA ha]
def sy (a n:Nat):Int:=gs (n / 2) a
theorem ly {n:Nat} (h:n%2=1):n=2*(n / 2)+1:=by omega
theorem sy_half {a n:Nat} (hn:n%2=1) (hg:Nat.gcd a n=1) (ha:a%2=0):sy a n=(if n%8=3∨n%8=5 then -1 else 1)*sy (a / 2) n:=by
  have e:=ly hn
  have h2:Nat.gcd 2 n=1:=by
    rw [Nat.gcd_rec,hn];rfl
  have h3:Nat.gcd (a / 2) n=1:=Nat.Coprime.coprime_dvd_left (Nat.div_dvd_of_dvd (Nat.dvd_of_mod_eq_zero ha)) hg
  unfold sy
  have h4:=Q7 (h:=n / 2) (a:=2) (b:=a / 2) (by rw [← e];exact h2) (by rw [← e];exact h3)
  rw [show 2*(a / 2)=a from by omega] at h4
  rw [h4,OC,← e]
theorem sy_sub {a n:Nat} (hn:n%2=1) (h:n≤a):sy (a-n) n=sy a n:=by
  unfold sy
  have e:=ly hn
  have:=Rq (h:=n / 2) (a:=a) (by omega)
  rwa [← e] at this
theorem NX (m:Nat):jr m*jr m=1:=by unfold jr;split <;>rfl
theorem YV (h a:Nat):gs h a*gs h a=1:=by unfold gs;rw [um];exact NX _
theorem sy_swap {a n:Nat} (hn:n%2=1) (ha:a%2=1) (hg:Nat.gcd a n=1):sy a n=(if a%4=3∧n%4=3 then -1 else 1)*sy n a:=by
  have e1:=ly hn
  have e2:=ly ha
  have h:=ZC (h:=n / 2) (b:=a / 2) (by rw [← e1,← e2];exact hg)
  rw [← e1,← e2] at h
  unfold sy
  have h2:=YV (a / 2) n
  have h3:gs (n / 2) a=jr (n / 2*(a / 2))*gs (a / 2) n:=by
    rw [← h,Int.mul_assoc,h2,Int.mul_one]
  rw [h3]
  congr 1
  unfold jr
  have hm:n / 2*(a / 2)%2=(n / 2%2)*(a / 2%2)%2:=Nat.mul_mod _ _ _
  rw [hm]
  have f1:n / 2%2=0∨n / 2%2=1:=by omega
  have f2:a / 2%2=0∨a / 2%2=1:=by omega
  rcases f1 with f1 | f1 <;>rcases f2 with f2 | f2 <;>rw [f1,f2]
  · rw [if_pos (by decide),if_neg (by omega)]
  · rw [if_pos (by decide),if_neg (by omega)]
  · rw [if_pos (by decide),if_neg (by omega)]
  · rw [if_neg (by decide),if_pos (by omega)]
theorem sy_one (a:Nat):sy a 1=1:=rfl
theorem Vw (a n:Nat):sy a n=1∨sy a n= -1:=by
  unfold sy gs
  rw [um]
  unfold jr
  split <;>simp
theorem euler_sy {p a:Nat} (hp:Pr p) (hodd:p%2=1) (ha:¬ p∣a):sy a p=1↔a ^ (p / 2)%p=1:=by
  have e:=ly hodd
  have hp':Pr (2*(p / 2)+1):=by rw [← e];exact hp
  have hg:Nat.gcd a (2*(p / 2)+1)=1:=by rw [← e,Nat.gcd_comm];exact hp.coprime ha
  have h:=Y0 hp' hg
  rw [← e] at h
  have h3:3≤p:=by have:=hp.1;omega
  unfold sy
  rcases Vw a p with h1 | h1
  · refine ⟨fun _=> ?_,fun _=>h1⟩
    have h1:gs (p / 2) a=1:=h1
    rw [h1] at h
    have h4:((a ^ (p / 2):Nat):Int)%(p:Int)=1%(p:Int):=by
      rw [Int.natCast_pow]
      exact Int.emod_eq_emod_iff_emod_sub_eq_zero.2 (Int.emod_eq_zero_of_dvd h)
    have h5:(1:Int)%(p:Int)=1:=Int.emod_eq_of_lt (by omega) (by omega)
    rw [h5] at h4
    exact_mod_cast h4
  · have h1:gs (p / 2) a= -1:=h1
    refine ⟨fun h2=>absurd (h1.symm.trans h2) (by decide),fun h2=> ?_⟩
    rw [h1] at h
    exfalso
    have h4:((a ^ (p / 2):Nat):Int)%(p:Int)=1:=by exact_mod_cast h2
    rw [Int.natCast_pow] at h4
    have h5:=Int.emod_eq_zero_of_dvd h
    have h6:((a:Int) ^ (p / 2)- -1)%(p:Int)=(((a:Int) ^ (p / 2))%p+1%p)%p:=by
      rw [← Int.add_emod];congr 1
    have h7:(1:Int)%(p:Int)=1:=Int.emod_eq_of_lt (by omega) (by omega)
    rw [h6,h4,h7,Int.emod_eq_of_lt (by omega) (by omega)] at h5
    omega
end Go.NT
namespace Go.Proofs.YteiecapbaeajdaaGreatDoor
open Go Go.Avc
set_option linter.unusedVariables false
def bk:Nat:=1552518092300708935130918131258481755631334049434514313202351194902966239949102107258669453876591642442910007680288864229150803718918046342632727613031282983744380820890196288509170691316593175367469551763119843371637221007210577919
def l7:List (List CD):= [4294967295,4294967295,2788832800,4098638569,1650360006,3833967990,1834074693,1340159341,4066317367,808127085,3443147547,4019526067,2385773789,1363806329,991140642,34324134,2322058356,688016904,2161908945,3301335691,560513588,3373259426,4294967295,4294967295].map ac
def T7:List (List CD):= [4026531841,1138881939,2042196113,674490440,2172737629,3092268470,3778125865,811880050].map ac
def go:Nat:=21888242871839275222246405745257275088548364400416034343698204186575808495617
def cg (l:List (List CD)):Prop:=eP l∧l.length≤1000
def hZ (x y:Nat):Int:=if x<y then -1 else if y<x then 1 else 0
def dF (a b:List (List CD)):Nat→List Int×Int
  | 0=>([],0)
  | i+1=>((dF a b i).1++ [(4294967296+rv a i-rv b i-(dF a b i).2)%4294967296],1-(4294967296+rv a i-rv b i-(dF a b i).2) / 4294967296)
def jz (a:List (List CD)):Nat→List Int
  | 0=>List.replicate a.length 0
  | i+1=>(jz a i).set i (rv a i / 2+rv a (i+1)%2*2147483648)
def eM (b:List (List CD)):Nat→List Int
  | 0=>List.replicate (b.length / 4+1) 0
  | k+1=>(eM b k).set ((b.length-1-k) / 4) ((eM b k).getD ((b.length-1-k) / 4) 0*256+rv b (b.length-1-k))
def kG:List Nat→Nat
  | [] =>0
  | d::l=>d+256*kG l
def bv (l:List (List CD)):Nat:=kG (cK l)
def BG (b:Bool):Int:=if b then 1 else -1
def ij (p:Nat) (x n:List (List CD)) (s:Bool) (y:Nat):Prop:=pN x∧pN n∧dv x≤p∧dv n≤p∧dv n%2=1∧Nat.gcd (dv x) (dv n)=1∧BG s*NT.sy (dv x) (dv n)=NT.sy y p
def Fw:Ct:= {ps:= [aI,i64],bs:= [],pre:=fun | [.r l,.i i] =>0≤i | _=>False,res:=fun | [.r l,.i i] => .ret u64 [] [.i (rv l i.toNat)] | _=>aj}
def Er:Ct:= {ps:= [aI],bs:= [],pre:=fun | [.r l] =>cg l | _=>False,res:=fun | [.r l] => .ret aI [] [.r (bm (dv l))] | _=>aj}
def Qf:List Dat→Ann
  | [.r l] => {cut:= [],loop:= [(2,[la 21 [(0,aI),(3,i64)] [] (fun | [.r l',.i i] =>l'=l∧0≤i∧i≤l.length∧∀ j:Nat,i≤j→rv l j=0 | _=>False) (fun | [_,.i i] =>i.toNat | _=>0)])]}
  | _=> {cut:= [],loop:= []}
def Eu:Ct:= {ps:= [aI,aI],bs:= [],pre:=fun | [.r a,.r b] =>cg a∧cg b | _=>False,res:=fun | [.r a,.r b] => .ret i64 [] [.i (hZ (dv a) (dv b))] | _=>aj}
def RG:List Dat→Ann
  | [.r a,.r b] => {cut:= [],loop:= [(2,[la 29 [(0,aI),(1,aI),(5,i64)] [] (fun | [.r a',.r b',.i i] =>a'=a∧b'=b∧-1≤i∧i≤a.length+b.length∧∀ j:Nat,i<j→rv a j=rv b j | _=>False) (fun | [_,_,.i i] =>(i+1).toNat | _=>0)])]}
  | _=> {cut:= [],loop:= []}
def Hw:Ct:= {ps:= [aI,aI],bs:= [],pre:=fun | [.r a,.r b] =>cg a∧cg b∧dv b≤dv a | _=>False,res:=fun | [.r a,.r b] => .ret aI [] [.r (bm (dv a-dv b))] | _=>aj}
def Si:List Dat→Ann
  | [.r a,.r b] => {cut:= [],loop:= [(4,[la 39 [(0,aI),(1,aI),(5,.own 0),(6,u64),(7,i64)] [ow] (fun | [.r a',.r b',.i c,.i i,.r o] =>a'=a∧b'=b∧0≤i∧i≤a.length∧c=(dF a b i.toNat).2∧o=(dF a b i.toNat).1.map ac | _=>False) (fun | [_,_,_,.i i,_] =>(a.length-i).toNat | _=>0)])]}
  | _=> {cut:= [],loop:= []}
def FW:Ct:= {ps:= [aI],bs:= [],pre:=fun | [.r a] =>cg a | _=>False,res:=fun | [.r a] => .ret aI [] [.r (bm (dv a / 2))] | _=>aj}
def ON:List Dat→Ann
  | [.r a] => {cut:= [],loop:= [(3,[la 44 [(0,aI),(3,.own 0),(4,i64)] [ow] (fun | [.r a',.i i,.r o] =>a'=a∧0≤i∧i≤a.length∧o=(jz a i.toNat).map ac | _=>False) (fun | [_,.i i,_] =>(a.length-i).toNat | _=>0)])]}
  | _=> {cut:= [],loop:= []}
def G4:Ct:= {ps:= [rb],bs:= [],pre:=fun | [.r b] =>cI b∧b.length≤1000 | _=>False,res:=fun | [.r b] => .ret aI [] [.r (bm (bv b))] | _=>aj}
def Ua:List Dat→Ann
  | [.r b] => {cut:= [],loop:= [(3,[la 35 [(0,rb),(3,.own 0),(4,i64)] [ow] (fun | [.r b',.i i,.r o] =>b'=b∧-1≤i∧i<b.length∧o=(eM b (b.length-1-i).toNat).map ac | _=>False) (fun | [_,.i i,_] =>(i+1).toNat | _=>0)])]}
  | _=> {cut:= [],loop:= []}
def DX:Ct:= {ps:= [],bs:= [],pre:=fun _=>True,res:=fun _=> .ret (.own 0) [ow] [.r l7]}
def Gt:Ct:= {ps:= [.bool],bs:= [],pre:=fun | [.b g] =>g=true | _=>False,res:=fun _=> .ret (.own 0) [ow] [.r l7]}
def El:Ct:= {ps:= [],bs:= [],pre:=fun _=>True,res:=fun _=> .ret (.own 0) [ow] [.r T7]}
noncomputable def Ew:Ct:= {ps:= [aI],bs:= [],pre:=fun | [.r a] =>cg a∧pN a∧0<dv a∧dv a<bk | _=>False,res:=fun | [.r a] => .ret .bool [] [.b (decide (NT.sy (dv a) bk=1))] | _=>aj}
def QV:List Dat→Ann
  | [.r a] =>⟨[],[(3,[la 54 [(0,aI),(3,aI),(4,.bool)] [] (fun | [.r x,.r n,.b s] =>ij bk x n s (dv a) | _=>False) (fun | [.r x,.r n,_] =>dv x+dv n | _=>0)])],
      [(4,[la 54 [(0,aI),(3,aI),(4,.bool)] [] (fun _=>True) jv],fun
        | [.r x0,.r n0,_] => [la 54 [(0,aI),(3,aI),(4,.bool)] [] (fun | [.r x,.r n,.b s] =>ij bk x n s (dv a)∧0<dv x∧dv x≤dv x0∧dv n=dv n0 | _=>False) (fun | [.r x,_,_] =>dv x | _=>0)]
        | _=> [])]⟩
  | _=> {cut:= [],loop:= []}
def Ex:Ct:= {ps:= [.bool,rb],bs:= [],pre:=fun | [.b g,.r b] =>g=true∧cI b∧b.length≤1000 | _=>False,res:=fun | [.b g,.r b] => .ite (decide ((b.length:Int)≠96)) (.ret (.tup [.nils,i64]) [] [.i 1]) (.ite (decide (bk≤bv b)) (.ret (.tup [.nils,i64]) [] [.i 4]) (.ret (.tup [aI,i64]) [] [.r (bm (bv b)),.i 0])) | _=>aj}
def oW (b:List (List CD)):Bool:=decide ((b.length:Int)=96)&&(decide (bv b<bk)&&(decide (bv b≠0)&&decide (NT.sy (bv b) bk=1)))
def dA (b:List (List CD)):Int:=if (b.length:Int)≠96 then 1 else if oW b=true then 0 else 4
def gU (b:List (List CD)):Int:=if (b.length:Int)≠32 then 1 else if go≤bv b then 4 else 0
def Kk:Ct:= {ps:= [rb],bs:= [],pre:=fun | [.r b] =>cI b∧b.length≤1000 | _=>False,res:=fun | [.r b] => .ret (.tup [.skip,i64]) [] [.i (dA b)] | _=>aj}
def Jv:Ct:= {ps:= [rb],bs:= [],pre:=fun | [.r b] =>cI b∧b.length≤1000 | _=>False,res:=fun | [.r b] => .ret (.tup [.skip,i64]) [] [.i (gU b)] | _=>aj}
end Go.Proofs.YteiecapbaeajdaaGreatDoor
namespace Go.Proofs.YteiecapbaeajdaaGreatDoor
open Go Go.Avc Go.Proofs
set_option linter.unusedVariables false
set_option maxRecDepth 100000
def J8:Prop:= ∀ (l:List (List CD)) (n:Int),
 l.length≤9223372036854775807→
 0≤n→
 l.length≤9223372036854775807→
 bif decide (n < ↑l.length) then
 (0≤n∧n < ↑l.length)∧
 n.toNat < l.length∧((l.getD n.toNat []).getD 0 (CD.int 0)).toInt=rv l n.toNat
 else 0=rv l n.toNat
theorem aei:av M2 Tryz.f152 Fw au=J8:=by kernel_rfl
noncomputable def xD:ai:=al M2 152 (ag Fw)
def J6:Prop:= ∀ (l:List (List CD)),
 l.length≤9223372036854775807→
 cg l→
 l.length≤9223372036854775807→
 ((l=l∧
 0≤(↑l.length:Int)∧
 (↑l.length:Int)≤(↑l.length:Int)∧∀ (j:Nat),(↑l.length:Int)≤(↑j:Int)→rv l j=0)∧
 True)∧
 ∀ (l_1:List (List CD)) (n:Int),
 l_1.length≤9223372036854775807→
 (l_1=l∧0≤n∧n≤(↑l.length:Int)∧∀ (j:Nat),n≤(↑j:Int)→rv l j=0)→
 (decide (0 < n)=true→(-9223372036854775808:Int)≤n - 1∧n - 1≤9223372036854775807)∧
 (decide (0 < n)=true→0≤n - 1∧n - 1 < (↑l_1.length:Int))∧
 (decide (0 < n)=true→(n - 1).toNat < l_1.length)∧
 bif decide (0 < n) && decide (((l_1.getD (n - 1).toNat []).getD 0 (CD.int 0)).toInt=0) then
 ((-9223372036854775808:Int)≤n - 1∧n - 1≤9223372036854775807)∧
 (l_1=l∧
 0≤n - 1∧
 n - 1≤(↑l.length:Int)∧∀ (j:Nat),n - 1≤(↑j:Int)→rv l j=0)∧
 (n - 1).toNat < n.toNat
 else
 ((0:Int)≤0∧0≤n∧n≤(↑l_1.length:Int))∧
 List.drop 0 (List.take n.toNat l_1)=bm (dv l)
theorem acp:av xD Tryz.f110 Er Qf=J6:=by kernel_rfl
noncomputable def yp:ai:=al xD 110 (ag Er)
def KX:Prop:= ∀ (l l_1:List (List CD)),
 l.length≤9223372036854775807→
 l_1.length≤9223372036854775807→
 cg l∧cg l_1→
 l.length≤9223372036854775807→
 l_1.length≤9223372036854775807→
 ((-9223372036854775808:Int)≤(↑l.length:Int)+(↑l_1.length:Int)∧(↑l.length:Int)+(↑l_1.length:Int)≤9223372036854775807)∧
 ((l=l∧
 l_1=l_1∧
 (-1:Int)≤(↑l.length:Int)+(↑l_1.length:Int)∧
 (↑l.length:Int)+(↑l_1.length:Int)≤(↑l.length:Int)+(↑l_1.length:Int)∧
 ∀ (j:Nat),
 (↑l.length:Int)+(↑l_1.length:Int) < (↑j:Int)→rv l j=rv l_1 j)∧
 True)∧
 ∀ (l_2 l_3:List (List CD)) (n:Int),
 l_2.length≤9223372036854775807→
 l_3.length≤9223372036854775807→
 (l_2=l∧
 l_3=l_1∧
 (-1:Int)≤n∧
 n≤(↑l.length:Int)+(↑l_1.length:Int)∧
 ∀ (j:Nat),n < (↑j:Int)→rv l j=rv l_1 j)→
 bif decide (0≤n) then
 0≤n∧
 0≤n∧
 bif decide (rv l_2 n.toNat < rv l_3 n.toNat) then
 (-1:Int)=hZ (dv l) (dv l_1)
 else
 0≤n∧
 0≤n∧
 bif decide (rv l_3 n.toNat < rv l_2 n.toNat) then
 1=hZ (dv l) (dv l_1)
 else
 ((-9223372036854775808:Int)≤n - 1∧n - 1≤9223372036854775807)∧
 (l_2=l∧
 l_3=l_1∧
 (-1:Int)≤n - 1∧
 n - 1≤(↑l.length:Int)+(↑l_1.length:Int)∧
 ∀ (j:Nat),
 n - 1 < (↑j:Int)→rv l j=rv l_1 j)∧
 (n - 1+1).toNat < (n+1).toNat
 else 0=hZ (dv l) (dv l_1)
theorem ac0:av yp Tryz.f108 Eu RG=KX:=by kernel_rfl
noncomputable def xx:ai:=al yp 108 (ag Eu)
def Kg:Prop:= ∀ (l l_1:List (List CD)),
 l.length≤9223372036854775807→
 l_1.length≤9223372036854775807→
 cg l∧
 cg l_1∧dv l_1≤dv l→
 l.length≤9223372036854775807→
 ((0:Int)≤0∧
 0≤(↑l.length:Int)∧(↑(8:Nat):Int)*(↑l.length:Int)≤140737488355328∧(↑l.length:Int)≤9223372036854775807)∧
 ((l=l∧
 l_1=l_1∧
 (0:Int)≤0∧
 0≤(↑l.length:Int)∧
 0=(dF l l_1 0).snd∧
 [] =List.map ac (dF l l_1 0).fst)∧
 True)∧
 ∀ (l_2 l_3:List (List CD)) (n n_1:Int) (l_4:List (List CD)),
 l_2.length≤9223372036854775807→
 l_3.length≤9223372036854775807→
 l_4.length≤9223372036854775807→
 l_2=l∧
 l_3=l_1∧
 0≤n_1∧
 n_1≤(↑l.length:Int)∧
 n=(dF l l_1 n_1.toNat).snd∧
 l_4=List.map ac (dF l l_1 n_1.toNat).fst→
 l_2.length≤9223372036854775807→
 bif decide (n_1 < (↑l_2.length:Int)) then
 (0≤n_1∧n_1 < (↑l_2.length:Int))∧
 n_1.toNat < l_2.length∧
 0≤n_1∧
 ((0:Int)≤
 IntKind.u64.wrap
 (IntKind.u64.wrap
 (IntKind.u64.wrap ((4294967296:Int)+((l_2.getD n_1.toNat []).getD 0 (CD.int 0)).toInt) -
 rv l_3 n_1.toNat) -
 n)∧
 (0:Int) < 4294967296)∧
 ((l_4.length+1)*8≤140737488355328∧l_4.length+1≤9223372036854775807)∧
 ((0:Int)≤
 IntKind.u64.wrap
 (IntKind.u64.wrap
 (IntKind.u64.wrap ((4294967296:Int)+((l_2.getD n_1.toNat []).getD 0 (CD.int 0)).toInt) -
 rv l_3 n_1.toNat) -
 n)∧
 (0:Int) < 4294967296∧
 IntKind.u64.wrap
 (IntKind.u64.wrap
 (IntKind.u64.wrap ((4294967296:Int)+((l_2.getD n_1.toNat []).getD 0 (CD.int 0)).toInt) -
 rv l_3 n_1.toNat) -
 n)≤
 IntKind.u64.max)∧
 ((-9223372036854775808:Int)≤n_1+1∧n_1+1≤9223372036854775807)∧
 (l_2=l∧
 l_3=l_1∧
 0≤n_1+1∧
 n_1+1≤(↑l.length:Int)∧
 IntKind.u64.wrap
 ((1:Int) -
 IntKind.u64.wrap
 (IntKind.u64.wrap
 (IntKind.u64.wrap
 ((4294967296:Int)+((l_2.getD n_1.toNat []).getD 0 (CD.int 0)).toInt) -
 rv l_3 n_1.toNat) -
 n) /
 (4294967296:Int))=
 (dF l l_1 (n_1+1).toNat).snd∧
 l_4++
 [[CD.int
 (IntKind.u64.wrap
 (IntKind.u64.wrap
 (IntKind.u64.wrap
 ((4294967296:Int)+((l_2.getD n_1.toNat []).getD 0 (CD.int 0)).toInt) -
 rv l_3 n_1.toNat) -
 n) %
 (4294967296:Int))]] =
 List.map ac
 (dF l l_1 (n_1+1).toNat).fst)∧
 ((↑l.length:Int) - (n_1+1)).toNat < ((↑l.length:Int) - n_1).toNat
 else
 cg l_4∧
 bm (dv l_4)=
 bm (dv l - dv l_1)
theorem adh:av xx Tryz.f151 Hw Si=Kg:=by kernel_rfl
noncomputable def yd:ai:=al xx 151 (ag Hw)
def KC:Prop:= ∀ (l:List (List CD)),
 l.length≤9223372036854775807→
 cg l→
 l.length≤9223372036854775807→
 (0≤(↑l.length:Int)∧
 (↑l.length:Int)≤(↑l.length:Int)∧(↑(8:Nat):Int)*(↑l.length:Int)≤140737488355328∧(↑l.length:Int)≤9223372036854775807)∧
 ((l=l∧
 (0:Int)≤0∧
 0≤(↑l.length:Int)∧
 List.replicate (↑l.length:Int).toNat [CD.int 0] =
 List.map ac (jz l 0))∧
 True)∧
 ∀ (l_1:List (List CD)) (n:Int) (l_2:List (List CD)),
 l_1.length≤9223372036854775807→
 l_2.length≤9223372036854775807→
 l_1=l∧0≤n∧n≤(↑l.length:Int)∧l_2=List.map ac (jz l n.toNat)→
 l_1.length≤9223372036854775807→
 bif decide (n < (↑l_1.length:Int)) then
 (0≤n∧n < (↑l_1.length:Int))∧
 n.toNat < l_1.length∧
 (0≤((l_1.getD n.toNat []).getD 0 (CD.int 0)).toInt∧
 (0:Int) < 2∧((l_1.getD n.toNat []).getD 0 (CD.int 0)).toInt≤IntKind.u64.max)∧
 (0≤n∧n < (↑l_2.length:Int))∧
 n.toNat < l_2.length∧
 ((-9223372036854775808:Int)≤n+1∧n+1≤9223372036854775807)∧
 (l_1.length≤9223372036854775807→
 bif decide (n+1 < (↑l_1.length:Int)) then
 (0≤n∧
 n <
 (↑(l_2.set n.toNat
 ((l_2.getD n.toNat []).set 0
 (CD.int (((l_1.getD n.toNat []).getD 0 (CD.int 0)).toInt / 2)))).length:
 Int))∧
 n.toNat <
 (l_2.set n.toNat
 ((l_2.getD n.toNat []).set 0
 (CD.int (((l_1.getD n.toNat []).getD 0 (CD.int 0)).toInt / 2)))).length∧
 ((-9223372036854775808:Int)≤n+1∧n+1≤9223372036854775807)∧
 (0≤n+1∧n+1 < (↑l_1.length:Int))∧
 (n+1).toNat < l_1.length∧
 (0≤((l_1.getD (n+1).toNat []).getD 0 (CD.int 0)).toInt∧(0:Int) < 2)∧
 (0≤n∧
 n <
 (↑(l_2.set n.toNat
 ((l_2.getD n.toNat []).set 0
 (CD.int (((l_1.getD n.toNat []).getD 0 (CD.int 0)).toInt / 2)))).length:
 Int))∧
 n.toNat <
 (l_2.set n.toNat
 ((l_2.getD n.toNat []).set 0
 (CD.int (((l_1.getD n.toNat []).getD 0 (CD.int 0)).toInt / 2)))).length∧
 ((-9223372036854775808:Int)≤n+1∧n+1≤9223372036854775807)∧
 (l_1=l∧
 0≤n+1∧
 n+1≤(↑l.length:Int)∧
 (l_2.set n.toNat
 ((l_2.getD n.toNat []).set 0
 (CD.int
 (((l_1.getD n.toNat []).getD 0 (CD.int 0)).toInt / 2)))).set
 n.toNat
 (((l_2.set n.toNat
 ((l_2.getD n.toNat []).set 0
 (CD.int
 (((l_1.getD n.toNat []).getD 0 (CD.int 0)).toInt / 2)))).getD
 n.toNat []).set
 0
 (CD.int
 (IntKind.u64.wrap
 ((((l_2.set n.toNat
 ((l_2.getD n.toNat []).set 0
 (CD.int
 (((l_1.getD n.toNat []).getD 0 (CD.int 0)).toInt /
 (2:Int))))).getD
 n.toNat []).getD
 0 (CD.int 0)).toInt+
 IntKind.u64.wrap
 (((l_1.getD (n+1).toNat []).getD 0 (CD.int 0)).toInt % 2*
 (2147483648:Int))))))=
 List.map ac
 (jz l (n+1).toNat))∧
 ((↑l.length:Int) - (n+1)).toNat < ((↑l.length:Int) - n).toNat
 else
 ((-9223372036854775808:Int)≤n+1∧n+1≤9223372036854775807)∧
 (l_1=l∧
 0≤n+1∧
 n+1≤(↑l.length:Int)∧
 l_2.set n.toNat
 ((l_2.getD n.toNat []).set 0
 (CD.int (((l_1.getD n.toNat []).getD 0 (CD.int 0)).toInt / 2)))=
 List.map ac (jz l (n+1).toNat))∧
 ((↑l.length:Int) - (n+1)).toNat < ((↑l.length:Int) - n).toNat)
 else
 cg l_2∧
 bm (dv l_2)=
 bm (dv l / 2)
theorem ad7:av yd Tryz.f174 FW ON=KC:=by kernel_rfl
noncomputable def zb:ai:=al yd 174 (ag FW)
def KZ:Prop:= ∀ (l:List (List CD)),
 l.length≤9223372036854775807→
 cI l∧l.length≤1000→
 l.length≤9223372036854775807→
 (0≤(↑l.length:Int)∧(0:Int) < 4∧(↑l.length:Int)≤IntKind.i64.max)∧
 ((-9223372036854775808:Int)≤(↑l.length:Int) / 4+1∧(↑l.length:Int) / 4+1≤9223372036854775807)∧
 (0≤(↑l.length:Int) / 4+1∧
 (↑l.length:Int) / 4+1≤(↑l.length:Int) / 4+1∧
 (↑(8:Nat):Int)*((↑l.length:Int) / 4+1)≤140737488355328∧
 (↑l.length:Int) / 4+1≤9223372036854775807)∧
 (l.length≤9223372036854775807→
 ((-9223372036854775808:Int)≤(↑l.length:Int) - 1∧(↑l.length:Int) - 1≤9223372036854775807)∧
 ((l=l∧
 (-1:Int)≤(↑l.length:Int) - 1∧
 (↑l.length:Int) - 1 < (↑l.length:Int)∧
 List.replicate ((↑l.length:Int) / 4+1).toNat [CD.int 0] =
 List.map ac
 (eM l ((↑l.length:Int) - 1 - ((↑l.length:Int) - 1)).toNat))∧
 True)∧
 ∀ (l_1:List (List CD)) (n:Int) (l_2:List (List CD)),
 l_1.length≤9223372036854775807→
 l_2.length≤9223372036854775807→
 l_1=l∧
 (-1:Int)≤n∧
 n < (↑l.length:Int)∧
 l_2=List.map ac (eM l ((↑l.length:Int) - 1 - n).toNat)→
 bif decide (0≤n) then
 (0≤n∧(0:Int) < 4∧n≤IntKind.i64.max)∧
 (0≤n∧(0:Int) < 4∧n≤IntKind.i64.max)∧
 (0≤n / 4∧n / 4 < (↑l_2.length:Int))∧
 (n / 4).toNat < l_2.length∧
 (0≤n∧n < (↑l_1.length:Int))∧
 n.toNat < l_1.length∧
 (0≤n / 4∧n / 4 < (↑l_2.length:Int))∧
 (n / 4).toNat < l_2.length∧
 ((-9223372036854775808:Int)≤n - 1∧n - 1≤9223372036854775807)∧
 (l_1=l∧
 (-1:Int)≤n - 1∧
 n - 1 < (↑l.length:Int)∧
 l_2.set (n / 4).toNat
 ((l_2.getD (n / 4).toNat []).set 0
 (CD.int
 (IntKind.u64.wrap
 (IntKind.u64.wrap
 (((l_2.getD (n / 4).toNat []).getD 0 (CD.int 0)).toInt*256)+
 IntKind.u64.wrap ((l_1.getD n.toNat []).getD 0 (CD.int 0)).toInt))))=
 List.map ac
 (eM l ((↑l.length:Int) - 1 - (n - 1)).toNat))∧
 (n - 1+1).toNat < (n+1).toNat
 else
 cg l_2∧
 bm (dv l_2)=
 bm (bv l))
theorem abS:av zb Tryz.f133 G4 Ua=KZ:=by kernel_rfl
noncomputable def xL:ai:=al zb 133 (ag G4)
def Tq:Prop:= True→
 [[CD.int 4294967295],[CD.int 4294967295],[CD.int 2788832800],[CD.int 4098638569],
 [CD.int 1650360006],[CD.int 3833967990],[CD.int 1834074693],[CD.int 1340159341],
 [CD.int 4066317367],[CD.int 808127085],[CD.int 3443147547],[CD.int 4019526067],
 [CD.int 2385773789],[CD.int 1363806329],[CD.int 991140642],[CD.int 34324134],
 [CD.int 2322058356],[CD.int 688016904],[CD.int 2161908945],[CD.int 3301335691],
 [CD.int 560513588],[CD.int 3373259426],[CD.int 4294967295],[CD.int 4294967295]] =
 [[CD.int 4294967295],[CD.int 4294967295],[CD.int 2788832800],[CD.int 4098638569],
 [CD.int 1650360006],[CD.int 3833967990],[CD.int 1834074693],[CD.int 1340159341],
 [CD.int 4066317367],[CD.int 808127085],[CD.int 3443147547],[CD.int 4019526067],
 [CD.int 2385773789],[CD.int 1363806329],[CD.int 991140642],[CD.int 34324134],
 [CD.int 2322058356],[CD.int 688016904],[CD.int 2161908945],[CD.int 3301335691],
 [CD.int 560513588],[CD.int 3373259426],[CD.int 4294967295],[CD.int 4294967295]]
theorem acM:av xL Tryz.f173 DX au=Tq:=by kernel_rfl
noncomputable def xo:ai:=al xL 173 (ag DX)
def Um:Prop:= ∀ (b:Bool),
 b=true→
 bif b then
 True∧
 [[CD.int 4294967295],[CD.int 4294967295],[CD.int 2788832800],[CD.int 4098638569],
 [CD.int 1650360006],[CD.int 3833967990],[CD.int 1834074693],[CD.int 1340159341],
 [CD.int 4066317367],[CD.int 808127085],[CD.int 3443147547],[CD.int 4019526067],
 [CD.int 2385773789],[CD.int 1363806329],[CD.int 991140642],[CD.int 34324134],
 [CD.int 2322058356],[CD.int 688016904],[CD.int 2161908945],[CD.int 3301335691],
 [CD.int 560513588],[CD.int 3373259426],[CD.int 4294967295],[CD.int 4294967295]] =
 [[CD.int 4294967295],[CD.int 4294967295],[CD.int 2788832800],[CD.int 4098638569],
 [CD.int 1650360006],[CD.int 3833967990],[CD.int 1834074693],[CD.int 1340159341],
 [CD.int 4066317367],[CD.int 808127085],[CD.int 3443147547],[CD.int 4019526067],
 [CD.int 2385773789],[CD.int 1363806329],[CD.int 991140642],[CD.int 34324134],
 [CD.int 2322058356],[CD.int 688016904],[CD.int 2161908945],[CD.int 3301335691],
 [CD.int 560513588],[CD.int 3373259426],[CD.int 4294967295],[CD.int 4294967295]]
 else False
theorem ab6:av xo Tryz.f172 Gt au=Um:=by kernel_rfl
noncomputable def xG:ai:=al xo 172 (ag Gt)
def T8:Prop:= True→
 [[CD.int 4026531841],[CD.int 1138881939],[CD.int 2042196113],[CD.int 674490440],
 [CD.int 2172737629],[CD.int 3092268470],[CD.int 3778125865],[CD.int 811880050]] =
 [[CD.int 4026531841],[CD.int 1138881939],[CD.int 2042196113],[CD.int 674490440],
 [CD.int 2172737629],[CD.int 3092268470],[CD.int 3778125865],[CD.int 811880050]]
theorem ae1:av xG Tryz.f109 El au=T8:=by kernel_rfl
noncomputable def zm:ai:=al xG 109 (ag El)
def Jw:Prop:= ∀ (l:List (List CD)),
 l.length≤9223372036854775807→
 cg l∧
 pN l∧
 0 < dv l∧
 dv l <
 (1552518092300708935130918131258481755631334049434514313202351194902966239949102107258669453876591642442910007680288864229150803718918046342632727613031282983744380820890196288509170691316593175367469551763119843371637221007210577919:
 Nat)→
 True∧
 (ij
 (1552518092300708935130918131258481755631334049434514313202351194902966239949102107258669453876591642442910007680288864229150803718918046342632727613031282983744380820890196288509170691316593175367469551763119843371637221007210577919:
 Nat)
 l
 [[CD.int 4294967295],[CD.int 4294967295],[CD.int 2788832800],[CD.int 4098638569],
 [CD.int 1650360006],[CD.int 3833967990],[CD.int 1834074693],[CD.int 1340159341],
 [CD.int 4066317367],[CD.int 808127085],[CD.int 3443147547],[CD.int 4019526067],
 [CD.int 2385773789],[CD.int 1363806329],[CD.int 991140642],[CD.int 34324134],
 [CD.int 2322058356],[CD.int 688016904],[CD.int 2161908945],[CD.int 3301335691],
 [CD.int 560513588],[CD.int 3373259426],[CD.int 4294967295],[CD.int 4294967295]]
 true (dv l)∧
 True)∧
 ∀ (l_1 l_2:List (List CD)) (b:Bool),
 l_1.length≤9223372036854775807→
 l_2.length≤9223372036854775807→
 ij
 (1552518092300708935130918131258481755631334049434514313202351194902966239949102107258669453876591642442910007680288864229150803718918046342632727613031282983744380820890196288509170691316593175367469551763119843371637221007210577919:
 Nat)
 l_1 l_2 b (dv l)→
 l_1.length≤9223372036854775807→
 bif decide (0 < (↑l_1.length:Int)) then
 ((ij
 (1552518092300708935130918131258481755631334049434514313202351194902966239949102107258669453876591642442910007680288864229150803718918046342632727613031282983744380820890196288509170691316593175367469551763119843371637221007210577919:
 Nat)
 l_1 l_2 b (dv l)∧
 0 < dv l_1∧
 dv l_1≤dv l_1∧
 dv l_2=dv l_2)∧
 True)∧
 ∀ (l_3 l_4:List (List CD)) (b:Bool),
 l_3.length≤9223372036854775807→
 l_4.length≤9223372036854775807→
 ij
 (1552518092300708935130918131258481755631334049434514313202351194902966239949102107258669453876591642442910007680288864229150803718918046342632727613031282983744380820890196288509170691316593175367469551763119843371637221007210577919:
 Nat)
 l_3 l_4 b (dv l)∧
 0 < dv l_3∧
 dv l_3≤dv l_1∧
 dv l_4=dv l_2→
 ((0:Int)≤0∧0 < (↑l_3.length:Int))∧
 0 < l_3.length∧
 (0≤((l_3.getD 0 []).getD 0 (CD.int 0)).toInt∧(0:Int) < 2)∧
 bif decide (((l_3.getD 0 []).getD 0 (CD.int 0)).toInt % 2=0) then
 cg l_3∧
 ((0:Int)≤0∧0 < (↑l_4.length:Int))∧
 0 < l_4.length∧
 (0≤((l_4.getD 0 []).getD 0 (CD.int 0)).toInt∧(0:Int) < 8)∧
 ((!decide (((l_4.getD 0 []).getD 0 (CD.int 0)).toInt % 8=3))=true→
 (0:Int)≤0∧0 < (↑l_4.length:Int))∧
 ((!decide (((l_4.getD 0 []).getD 0 (CD.int 0)).toInt % 8=3))=true→
 0 < l_4.length)∧
 ((!decide (((l_4.getD 0 []).getD 0 (CD.int 0)).toInt % 8=3))=true→
 0≤((l_4.getD 0 []).getD 0 (CD.int 0)).toInt∧(0:Int) < 8)∧
 bif
 decide (((l_4.getD 0 []).getD 0 (CD.int 0)).toInt % 8=3) ||
 decide (((l_4.getD 0 []).getD 0 (CD.int 0)).toInt % 8=5) then
 (ij
 (1552518092300708935130918131258481755631334049434514313202351194902966239949102107258669453876591642442910007680288864229150803718918046342632727613031282983744380820890196288509170691316593175367469551763119843371637221007210577919:
 Nat)
 (bm (dv l_3 / 2)) l_4 (!b)
 (dv l)∧
 (0:Nat) <
 dv
 (bm (dv l_3 / 2))∧
 dv
 (bm (dv l_3 / 2))≤
 dv l_1∧
 dv l_4=dv l_2)∧
 dv
 (bm (dv l_3 / 2)) <
 dv l_3
 else
 (ij
 (1552518092300708935130918131258481755631334049434514313202351194902966239949102107258669453876591642442910007680288864229150803718918046342632727613031282983744380820890196288509170691316593175367469551763119843371637221007210577919:
 Nat)
 (bm (dv l_3 / 2)) l_4 b
 (dv l)∧
 (0:Nat) <
 dv
 (bm (dv l_3 / 2))∧
 dv
 (bm (dv l_3 / 2))≤
 dv l_1∧
 dv l_4=dv l_2)∧
 dv
 (bm (dv l_3 / 2)) <
 dv l_3
 else
 (cg l_3∧cg l_4)∧
 bif
 decide
 (hZ (dv l_3)
 (dv l_4) <
 (0:Int)) then
 ((0:Int)≤0∧0 < (↑l_3.length:Int))∧
 0 < l_3.length∧
 (0≤((l_3.getD 0 []).getD 0 (CD.int 0)).toInt∧(0:Int) < 4)∧
 (decide (((l_3.getD 0 []).getD 0 (CD.int 0)).toInt % 4=3)=true→
 (0:Int)≤0∧0 < (↑l_4.length:Int))∧
 (decide (((l_3.getD 0 []).getD 0 (CD.int 0)).toInt % 4=3)=true→
 0 < l_4.length)∧
 (decide (((l_3.getD 0 []).getD 0 (CD.int 0)).toInt % 4=3)=true→
 0≤((l_4.getD 0 []).getD 0 (CD.int 0)).toInt∧(0:Int) < 4)∧
 bif
 decide (((l_3.getD 0 []).getD 0 (CD.int 0)).toInt % 4=3) &&
 decide (((l_4.getD 0 []).getD 0 (CD.int 0)).toInt % 4=3) then
 (cg l_4∧
 cg l_3∧
 dv l_3≤dv l_4)∧
 ij
 (1552518092300708935130918131258481755631334049434514313202351194902966239949102107258669453876591642442910007680288864229150803718918046342632727613031282983744380820890196288509170691316593175367469551763119843371637221007210577919:
 Nat)
 (bm
 (dv l_4 - dv l_3))
 l_3 (!b) (dv l)∧
 (dv
 (bm
 (dv l_4 - dv l_3))).add
 (dv l_3) <
 (dv l_1).add (dv l_2)
 else
 (cg l_4∧
 cg l_3∧
 dv l_3≤dv l_4)∧
 ij
 (1552518092300708935130918131258481755631334049434514313202351194902966239949102107258669453876591642442910007680288864229150803718918046342632727613031282983744380820890196288509170691316593175367469551763119843371637221007210577919:
 Nat)
 (bm
 (dv l_4 - dv l_3))
 l_3 b (dv l)∧
 (dv
 (bm
 (dv l_4 - dv l_3))).add
 (dv l_3) <
 (dv l_1).add (dv l_2)
 else
 (cg l_3∧
 cg l_4∧
 dv l_4≤dv l_3)∧
 ij
 (1552518092300708935130918131258481755631334049434514313202351194902966239949102107258669453876591642442910007680288864229150803718918046342632727613031282983744380820890196288509170691316593175367469551763119843371637221007210577919:
 Nat)
 (bm
 (dv l_3 - dv l_4))
 l_4 b (dv l)∧
 (dv
 (bm
 (dv l_3 - dv l_4))).add
 (dv l_4) <
 (dv l_1).add (dv l_2)
 else
 b=
 decide
 (Go.NT.sy (dv l)
 (1552518092300708935130918131258481755631334049434514313202351194902966239949102107258669453876591642442910007680288864229150803718918046342632727613031282983744380820890196288509170691316593175367469551763119843371637221007210577919:
 Nat)=
 (1:Int))
theorem aeX:av zm Tryz.f135 Ew QV=Jw:=by kernel_rfl
noncomputable def yx:ai:=al zm 135 (ag Ew)
def Lh:Prop:= ∀ (b:Bool) (l:List (List CD)),
 l.length≤9223372036854775807→
 b=true∧cI l∧l.length≤1000→
 l.length≤9223372036854775807→
 bif decide (↑l.length≠(96:Int)) then
 bif decide (↑l.length≠(96:Int)) then 1=(1:Int)
 else
 bif
 decide
 ((1552518092300708935130918131258481755631334049434514313202351194902966239949102107258669453876591642442910007680288864229150803718918046342632727613031282983744380820890196288509170691316593175367469551763119843371637221007210577919:
 Nat)≤
 bv l) then
 1=(4:Int)
 else [] =bm (bv l)∧(1:Int)=(0:Int)
 else
 (cI l∧l.length≤1000)∧
 b=true∧
 (cg (bm (bv l))∧
 cg
 [[CD.int 4294967295],[CD.int 4294967295],[CD.int 2788832800],[CD.int 4098638569],
 [CD.int 1650360006],[CD.int 3833967990],[CD.int 1834074693],[CD.int 1340159341],
 [CD.int 4066317367],[CD.int 808127085],[CD.int 3443147547],[CD.int 4019526067],
 [CD.int 2385773789],[CD.int 1363806329],[CD.int 991140642],[CD.int 34324134],
 [CD.int 2322058356],[CD.int 688016904],[CD.int 2161908945],[CD.int 3301335691],
 [CD.int 560513588],[CD.int 3373259426],[CD.int 4294967295],[CD.int 4294967295]])∧
 bif
 decide
 ((0:Int)≤
 hZ
 (dv (bm (bv l)))
 (1552518092300708935130918131258481755631334049434514313202351194902966239949102107258669453876591642442910007680288864229150803718918046342632727613031282983744380820890196288509170691316593175367469551763119843371637221007210577919:
 Nat)) then
 bif decide (↑l.length≠(96:Int)) then 4=(1:Int)
 else
 bif
 decide
 ((1552518092300708935130918131258481755631334049434514313202351194902966239949102107258669453876591642442910007680288864229150803718918046342632727613031282983744380820890196288509170691316593175367469551763119843371637221007210577919:
 Nat)≤
 bv l) then
 4=(4:Int)
 else [] =bm (bv l)∧(4:Int)=(0:Int)
 else
 bif decide (↑l.length≠(96:Int)) then
 Miss 2
 {n:=0,ov:= [],tm:= [SV.tup [SV.rd [CSh.int IntKind.u64] (bm (bv l)),SV.int IntKind.i64 0]],hp:= [Blk.own (73:TypeId) [CSh.int IntKind.u64] [[CD.int 4294967295],[CD.int 4294967295],[CD.int 2788832800],[CD.int 4098638569],[CD.int 1650360006],[CD.int 3833967990],[CD.int 1834074693],[CD.int 1340159341],[CD.int 4066317367],[CD.int 808127085],[CD.int 3443147547],[CD.int 4019526067],[CD.int 2385773789],[CD.int 1363806329],[CD.int 991140642],[CD.int 34324134],[CD.int 2322058356],[CD.int 688016904],[CD.int 2161908945],[CD.int 3301335691],[CD.int 560513588],[CD.int 3373259426],[CD.int 4294967295],[CD.int 4294967295]]],G:= []}
 else
 bif
 decide
 ((1552518092300708935130918131258481755631334049434514313202351194902966239949102107258669453876591642442910007680288864229150803718918046342632727613031282983744380820890196288509170691316593175367469551763119843371637221007210577919:
 Nat)≤
 bv l) then
 Miss 2
 {n:=0,ov:= [],tm:= [SV.tup [SV.rd [CSh.int IntKind.u64] (bm (bv l)),SV.int IntKind.i64 0]],hp:= [Blk.own (73:TypeId) [CSh.int IntKind.u64] [[CD.int 4294967295],[CD.int 4294967295],[CD.int 2788832800],[CD.int 4098638569],[CD.int 1650360006],[CD.int 3833967990],[CD.int 1834074693],[CD.int 1340159341],[CD.int 4066317367],[CD.int 808127085],[CD.int 3443147547],[CD.int 4019526067],[CD.int 2385773789],[CD.int 1363806329],[CD.int 991140642],[CD.int 34324134],[CD.int 2322058356],[CD.int 688016904],[CD.int 2161908945],[CD.int 3301335691],[CD.int 560513588],[CD.int 3373259426],[CD.int 4294967295],[CD.int 4294967295]]],G:= []}
 else
 bm (bv l)=
 bm (bv l)∧
 (0:Int)=(0:Int)
theorem ad5:av yx Tryz.f134 Ex au=Lh:=by kernel_rfl
noncomputable def yn:ai:=al yx 134 (ag Ex)
def TW:Prop:= ∀ (l:List (List CD)),
 l.length≤9223372036854775807→
 cI l∧l.length≤1000→
 (true=true∧cI l∧l.length≤1000)∧
 bif decide (↑l.length≠(96:Int)) then (1:Int)=dA l
 else
 bif
 decide
 ((1552518092300708935130918131258481755631334049434514313202351194902966239949102107258669453876591642442910007680288864229150803718918046342632727613031282983744380820890196288509170691316593175367469551763119843371637221007210577919:
 Nat)≤
 bv l) then
 (4:Int)=dA l
 else
 (bm (bv l)).length≤9223372036854775807→
 ((!decide ((↑(bm (bv l)).length:Int)=(0:Int)))=true→
 cg (bm (bv l))∧
 pN (bm (bv l))∧
 0 < dv (bm (bv l))∧
 dv (bm (bv l)) <
 (1552518092300708935130918131258481755631334049434514313202351194902966239949102107258669453876591642442910007680288864229150803718918046342632727613031282983744380820890196288509170691316593175367469551763119843371637221007210577919:
 Nat))∧
 bif
 decide ((↑(bm (bv l)).length:Int)=(0:Int)) ||
 !decide
 (Go.NT.sy (dv (bm (bv l)))
 (1552518092300708935130918131258481755631334049434514313202351194902966239949102107258669453876591642442910007680288864229150803718918046342632727613031282983744380820890196288509170691316593175367469551763119843371637221007210577919:
 Nat)=
 (1:Int)) then
 (4:Int)=dA l
 else (0:Int)=dA l
theorem e90:av yn Tryz.f90 Kk au=TW:=by kernel_rfl
noncomputable def GW:ai:=al yn 90 (ag Kk)
def QG:Prop:= ∀ (l:List (List CD)),
 l.length≤9223372036854775807→
 cI l∧l.length≤1000→
 l.length≤9223372036854775807→
 bif decide ((↑l.length:Int)≠32) then 1=gU l
 else
 (cI l∧l.length≤1000)∧
 True∧
 (cg (bm (bv l))∧
 cg
 [[.int 4026531841],[.int 1138881939],[.int 2042196113],[.int 674490440],
 [.int 2172737629],[.int 3092268470],[.int 3778125865],[.int 811880050]])∧
 bif
 decide
 ((0:Int)≤
 hZ
 (dv (bm (bv l)))
 21888242871839275222246405745257275088548364400416034343698204186575808495617) then
 4=gU l
 else 0=gU l
theorem e89:av GW Tryz.f89 Jv au=QG:=by kernel_rfl
noncomputable def Eg:ai:=al GW 89 (ag Jv)
end Go.Proofs.YteiecapbaeajdaaGreatDoor
namespace Go.Proofs.YteiecapbaeajdaaGreatDoor
open Go Go.Avc
set_option linter.unusedVariables false
set_option linter.unusedSimpArgs false
theorem wC:∀ (i:Nat) {l:List Nat},mD l→l.getD i 0=cj l / 4294967296 ^ i%4294967296
  | 0,l,h=>by
    have:=oq h 0
    rw [gz l,Nat.pow_zero,Nat.div_one]
    omega
  | i+1,l,h=>by
    have h0:=oq h 0
    rw [← eX,wC i (rU h),Nat.pow_succ,Nat.mul_comm (4294967296 ^ i),← Nat.div_div_eq_div_mul]
    congr 2
    rw [gz l]
    omega
theorem o7:∀ {l:List Nat} {x:Nat},(∀ j,j<l.length→l.getD j 0=x / 4294967296 ^ j%4294967296)→cj l=x%4294967296 ^ l.length
  | [],x,_=>by simp [cj,Nat.mod_one]
  | d::l,x,h=>by
    have h0:d=x%4294967296:=by
      have:=h 0 (by simp)
      rw [Nat.pow_zero,Nat.div_one] at this
      exact this
    have h1:=o7 (l:=l) (x:=x / 4294967296) fun j hj=>by
      have:=h (j+1) (by simp;omega)
      rw [Nat.pow_succ,Nat.mul_comm (4294967296 ^ j),← Nat.div_div_eq_div_mul] at this
      exact this
    rw [cj,h1,List.length_cons,Nat.pow_succ,Nat.mul_comm (4294967296 ^ l.length),Nat.mod_mul,h0]
theorem pA {l:List (List CD)} (h:eP l) (i:Nat):rv l i=((dv l / 4294967296 ^ i%4294967296:Nat):Int):=by
  rw [k9 h,wC i h.2];rfl
theorem Mc {l:List (List CD)} (h:eP l):dv l<4294967296 ^ l.length:=by
  have:=Bq h.2
  rwa [ip] at this
theorem Ai {L:List Int} (h:∀ x∈L,0≤x∧x<4294967296):eP (L.map ac):=by
  have e:L.map ac=(L.map Int.toNat).map lD:=by
    rw [List.map_map]
    refine List.map_congr_left fun x hx=> ?_
    show [CD.int x] = [CD.int (x.toNat:Int)]
    rw [Int.toNat_of_nonneg (h x hx).1]
  rw [e]
  refine NP fun d hd=> ?_
  obtain ⟨x,hx,rfl⟩:=List.mem_map.1 hd
  have:=h x hx
  omega
theorem DB {L:List Int} {x:Nat} (h:∀ j,j<L.length→L.getD j 0=((x / 4294967296 ^ j%4294967296:Nat):Int)):eP (L.map ac)∧dv (L.map ac)=x%4294967296 ^ L.length:=by
  have hd:eP (L.map ac):=Ai fun y hy=>by
    obtain ⟨j,hj,rfl⟩:=List.getElem_of_mem hy
    have:=h j hj
    rw [List.getD_eq_getElem?_getD,List.getElem?_eq_getElem hj] at this
    have h2:x / 4294967296 ^ j%4294967296<4294967296:=Nat.mod_lt _ (by decide)
    simp at this
    omega
  refine ⟨hd,?_⟩
  have hl:(cK (L.map ac)).length=L.length:=by rw [ip,List.length_map]
  have:=o7 (l:=cK (L.map ac)) (x:=x) fun j hj=>by
    have h1:=k9 hd j
    rw [cA,h j (by rw [← hl];exact hj)] at h1
    omega
  rw [hl] at this
  exact this
theorem tU (a b:List (List CD)):∀ i,(dF a b i).1.length=i
  | 0=>rfl
  | i+1=>by rw [dF];simp [tU a b i]
theorem qG {a b:List (List CD)} (ha:eP a) (hb:eP b):∀ i,((dF a b i).2=0∨(dF a b i).2=1)∧(∀ x∈(dF a b i).1,0≤x∧x<4294967296)
  | 0=>⟨.inl rfl,fun x hx=>by cases hx⟩
  | i+1=>by
    have ⟨h1,h2⟩:=qG ha hb i
    have k1:=iA ha i
    have k2:=iA hb i
    rw [dF]
    refine ⟨by dsimp only;omega,fun x hx=> ?_⟩
    rcases List.mem_append.1 hx with hx | hx
    · exact h2 x hx
    · rw [List.mem_singleton] at hx
      rw [hx]
      omega
theorem s9:∀ (l m:List Nat),cj (l++m)=cj l+4294967296 ^ l.length*cj m
  | [],m=>by simp [cj]
  | d::l,m=>by
    rw [List.cons_append,cj,s9 l m,cj,List.length_cons,Nat.pow_succ]
    grind
def ry (L:List Int):Int:=((cj (L.map Int.toNat):Nat):Int)
theorem Ls (L:List Int) {x:Int} (hx:0≤x):ry (L++ [x])=ry L+4294967296 ^ L.length*x:=by
  unfold ry
  rw [List.map_append,s9,List.length_map]
  have:cj (List.map Int.toNat [x])=x.toNat:=by show x.toNat+_*0=_;omega
  rw [this,Int.natCast_add,Int.natCast_mul,Int.natCast_pow,Int.toNat_of_nonneg hx]
  rfl
theorem L9 (x i:Nat):((x%4294967296 ^ (i+1):Nat):Int)=((x%4294967296 ^ i:Nat):Int)+4294967296 ^ i*((x / 4294967296 ^ i%4294967296:Nat):Int):=by
  rw [Nat.mod_pow_succ,Int.natCast_add,Int.natCast_mul,Int.natCast_pow]
  rfl
theorem HG {a b:List (List CD)} (ha:eP a) (hb:eP b):∀ i,ry (dF a b i).1+((dv b%4294967296 ^ i:Nat):Int)=((dv a%4294967296 ^ i:Nat):Int)+(dF a b i).2*4294967296 ^ i
  | 0=>by simp [dF,ry,cj,Nat.mod_one]
  | i+1=>by
    have ih:=HG ha hb i
    have ⟨h1,_⟩:=qG ha hb i
    have k1:=iA ha i
    have k2:=iA hb i
    have e1:=pA ha i
    have e2:=pA hb i
    rw [dF]
    dsimp only
    rw [Ls _ (by omega),tU,L9,L9,← e1,← e2]
    generalize hs:4294967296+rv a i-rv b i-(dF a b i).2=s
    have hd:=Int.emod_add_mul_ediv s 4294967296
    generalize s%4294967296=d at hd ⊢
    generalize s / 4294967296=q at hd ⊢
    rw [Int.pow_succ]
    generalize (4294967296:Int) ^ i=w at ih ⊢
    generalize (dF a b i).2=c at *
    generalize ry (dF a b i).1=o at *
    generalize ((dv a%4294967296 ^ i:Nat):Int)=x at *
    generalize ((dv b%4294967296 ^ i:Nat):Int)=y at *
    have:w*d=w*(4294967296+rv a i-rv b i-c-4294967296*q):=by rw [hs,← hd];grind
    rw [this]
    grind
theorem UQ {L:List Int} (h:∀ x∈L,0≤x∧x<4294967296):ry L<4294967296 ^ L.length:=by
  have:cj (L.map Int.toNat)<4294967296 ^ (L.map Int.toNat).length:=Bq fun d hd=>by
    obtain ⟨x,hx,rfl⟩:=List.mem_map.1 hd
    have:=h x hx
    omega
  rw [List.length_map] at this
  have h7:((4294967296 ^ L.length:Nat):Int)=(4294967296:Int) ^ L.length:=Int.natCast_pow ..
  unfold ry
  omega
theorem Ro {L:List Int} (h:∀ x∈L,0≤x∧x<4294967296):(dv (L.map ac):Int)=ry L:=by
  unfold dv ry cK
  rw [List.map_map]
  rfl
theorem SA {a b:List (List CD)} (ha:eP a) (hb:eP b) (h:dv b≤dv a):eP ((dF a b a.length).1.map ac)∧dv ((dF a b a.length).1.map ac)=dv a-dv b:=by
  have ⟨h1,h2⟩:=qG ha hb a.length
  refine ⟨Ai h2,?_⟩
  have h3:=HG ha hb a.length
  have h4:=Mc ha
  rw [Nat.mod_eq_of_lt h4,Nat.mod_eq_of_lt (Nat.lt_of_le_of_lt h h4)] at h3
  have h5:=UQ h2
  rw [tU] at h5
  have h6:=Ro h2
  have h7:((4294967296 ^ a.length:Nat):Int)=(4294967296:Int) ^ a.length:=Int.natCast_pow ..
  rcases h1 with e | e <;>rw [e] at h3 <;>omega
theorem nN (a:List (List CD)):∀ i,(jz a i).length=a.length
  | 0=>List.length_replicate
  | i+1=>by rw [jz,List.length_set,nN a i]
theorem I2 (a:List (List CD)):∀ i,i≤a.length→∀ j,(jz a i).getD j 0=if j<i then rv a j / 2+rv a (j+1)%2*2147483648 else 0
  | 0,_,j=>by
    rw [jz,if_neg (by omega),List.getD_eq_getElem?_getD,List.getElem?_replicate]
    split <;>rfl
  | i+1,h,j=>by
    have ih:=I2 a i (by omega) j
    rw [jz,List.getD_eq_getElem?_getD,List.getElem?_set,nN]
    by_cases e:i=j
    · subst e
      rw [if_pos rfl,if_pos (by omega),if_pos (by omega)];rfl
    · rw [if_neg e,← List.getD_eq_getElem?_getD,ih]
      by_cases h2:j<i
      · rw [if_pos h2,if_pos (by omega)]
      · rw [if_neg h2,if_neg (by omega)]
theorem NO {a:List (List CD)} (ha:eP a):eP ((jz a a.length).map ac)∧dv ((jz a a.length).map ac)=dv a / 2:=by
  have h:=DB (L:=jz a a.length) (x:=dv a / 2) fun j hj=>by
    rw [nN] at hj
    rw [I2 a _ (Nat.le_refl _),if_pos hj,pA ha,pA ha,Nat.pow_succ,← Nat.div_div_eq_div_mul,Nat.div_div_eq_div_mul (dv a) 2,Nat.mul_comm 2,← Nat.div_div_eq_div_mul]
    omega
  refine ⟨h.1,?_⟩
  rw [h.2,nN]
  exact Nat.mod_eq_of_lt (Nat.lt_of_le_of_lt (Nat.div_le_self _ _) (Mc ha))
theorem H1 {a b:List (List CD)} (ha:eP a) (hb:eP b) {i:Nat} (h:∀ j:Nat,(i:Int)<j→rv a j=rv b j) (hl:rv a i<rv b i):dv a<dv b:=by
  refine DJ i ha.2 hb.2 (fun j hj=> ?_) ?_
  · have:=h j (by omega)
    rw [k9 ha,k9 hb] at this
    omega
  · rw [k9 ha,k9 hb] at hl
    omega
theorem QN {a b:List (List CD)} (ha:eP a) (hb:eP b) (h:∀ j:Nat,rv a j=rv b j):dv a=dv b:=by
  refine uB (max (cK a).length (cK b).length) (by omega) (by omega) fun j=> ?_
  have:=h j
  rw [k9 ha,k9 hb] at this
  omega
theorem BV:∀ (l:List Nat) (n:Nat),n<l.length→kG (l.drop n)=l.getD n 0+256*kG (l.drop (n+1))
  | [],n,h=>by simp at h
  | d::l,0,_=>rfl
  | d::l,n+1,h=>by
    rw [List.drop_succ_cons,List.drop_succ_cons,BV l n (by simpa using h)]
    rfl
theorem Cz:∀ (l:List Nat),(∀ d∈l,d<256)→∀ n,kG (l.drop n)=kG l / 256 ^ n
  | l,h,0=>by rw [List.drop_zero,Nat.pow_zero,Nat.div_one]
  | [],h,n+1=>by rw [List.drop_nil];simp [kG]
  | d::l,h,n+1=>by
    have h1:=h d (List.mem_cons_self ..)
    rw [List.drop_succ_cons,Cz l (fun x hx=>h x (List.mem_cons_of_mem _ hx)) n,Nat.pow_succ,Nat.mul_comm (256 ^ n),← Nat.div_div_eq_div_mul]
    congr 1
    rw [kG]
    omega
theorem A5:∀ {l:List Nat},(∀ d∈l,d<256)→kG l<256 ^ l.length
  | [],_=>by decide
  | d::l,h=>by
    have h1:=A5 fun x hx=>h x (List.mem_cons_of_mem _ hx)
    have h2:=h d (List.mem_cons_self ..)
    rw [kG,List.length_cons,Nat.pow_succ]
    omega
theorem nG (b:List (List CD)):∀ k,(eM b k).length=b.length / 4+1
  | 0=>List.length_replicate
  | k+1=>by rw [eM,List.length_set,nG b k]
theorem wj (l:List (List CD)) (i:Nat):(cK l).getD i 0=(rv l i).toNat:=by
  unfold cK rv
  rw [List.getD_eq_getElem?_getD (l:=l.map _),List.getElem?_map,List.getD_eq_getElem?_getD (l:=l)]
  cases l[i]? <;>rfl
theorem pT {l:List (List CD)} (h:ax l):∀ d∈cK l,d<256:=fun d hd=>by
  obtain ⟨i,hi,rfl⟩:=List.getElem_of_mem hd
  have h1:=wj l i
  rw [List.getD_eq_getElem?_getD,List.getElem?_eq_getElem hi] at h1
  have h2:=h i
  simp at h1
  omega
theorem Am {b:List (List CD)} (hb:ax b):∀ k,k≤b.length→∀ j,j<b.length / 4+1→
    (eM b k).getD j 0=((kG ((cK b).drop (max (4*j) (b.length-k)))%256 ^ (4*j+4-max (4*j) (b.length-k)):Nat):Int)
  | 0,_,j,_=>by
    rw [eM,List.drop_of_length_le (by rw [ip];omega),List.getD_eq_getElem?_getD,List.getElem?_replicate]
    show _=(((0%_:Nat)):Int)
    rw [Nat.zero_mod]
    split <;>rfl
  | k+1,h,j,hj=>by
    have ih:=fun j hj=>Am hb k (by omega) j hj
    obtain ⟨n,hn⟩:∃ n,n=b.length-1-k:=⟨_,rfl⟩
    have e1:b.length-k=n+1:=by omega
    have e2:b.length-(k+1)=n:=by omega
    rw [eM,← hn,e2,List.getD_eq_getElem?_getD,List.getElem?_set,nG]
    rw [e1] at ih
    by_cases e:n / 4=j
    · rw [if_pos e,if_pos (by omega)]
      show (eM b k).getD (n / 4) 0*256+rv b n=_
      rw [ih (n / 4) (by omega),e,Nat.max_eq_right (show 4*j≤n+1 by omega),Nat.max_eq_right (show 4*j≤n by omega),show 4*j+4-n=(4*j+4-(n+1))+1 from by omega,
        BV (cK b) n (by rw [ip];omega),wj,Nat.pow_succ,Nat.mul_comm (256 ^ _),Nat.mod_mul]
      have hr:=hb n
      generalize kG ((cK b).drop (n+1))=X
      have f1:((rv b n).toNat+256*X)%256=(rv b n).toNat:=by omega
      have f2:((rv b n).toNat+256*X) / 256=X:=by omega
      rw [f1,f2]
      omega
    · rw [if_neg e,← List.getD_eq_getElem?_getD,ih j hj]
      by_cases h2:n+1≤4*j
      · rw [Nat.max_eq_left h2,Nat.max_eq_left (show n≤4*j by omega)]
      · rw [show 4*j+4-max (4*j) (n+1)=0 from by omega,show 4*j+4-max (4*j) n=0 from by omega,Nat.pow_zero,Nat.mod_one,Nat.mod_one]
theorem Ll {b:List (List CD)} (hb:ax b):eP ((eM b b.length).map ac)∧dv ((eM b b.length).map ac)=bv b:=by
  have hp:∀ j,(256:Nat) ^ (4*j)=4294967296 ^ j:=fun j=>by rw [Nat.pow_mul]
  have h:=DB (L:=eM b b.length) (x:=bv b) fun j hj=>by
    rw [nG] at hj
    rw [Am hb _ (Nat.le_refl _) j hj,Nat.sub_self,Nat.max_eq_left (Nat.zero_le _),show 4*j+4-4*j=4 from by omega,Cz _ (pT hb),hp]
    rfl
  refine ⟨h.1,?_⟩
  rw [h.2,nG]
  refine Nat.mod_eq_of_lt ?_
  have h1:=A5 (pT hb)
  rw [ip] at h1
  rw [← hp]
  exact Nat.lt_of_lt_of_le h1 (Nat.pow_le_pow_right (by decide) (by omega))
end Go.Proofs.YteiecapbaeajdaaGreatDoor
namespace Go.NT
set_option linter.unusedVariables false
@[ext] structure C7 where
  a0:Int
  a1:Int
  a2:Int
  a3:Int
  a4:Int
  a5:Int
  a6:Int
namespace C7
def add (x y:C7):C7:=⟨x.a0+y.a0,x.a1+y.a1,x.a2+y.a2,x.a3+y.a3,x.a4+y.a4,x.a5+y.a5,x.a6+y.a6⟩
def neg (x:C7):C7:=⟨-x.a0,-x.a1,-x.a2,-x.a3,-x.a4,-x.a5,-x.a6⟩
def c (n:Int):C7:=⟨n,0,0,0,0,0,0⟩
def sc (n:Int) (x:C7):C7:=⟨n*x.a0,n*x.a1,n*x.a2,n*x.a3,n*x.a4,n*x.a5,n*x.a6⟩
def mul (x y:C7):C7:=
  ⟨x.a0*y.a0+x.a1*y.a6+x.a2*y.a5+x.a3*y.a4+x.a4*y.a3+x.a5*y.a2+x.a6*y.a1,
   x.a0*y.a1+x.a1*y.a0+x.a2*y.a6+x.a3*y.a5+x.a4*y.a4+x.a5*y.a3+x.a6*y.a2,
   x.a0*y.a2+x.a1*y.a1+x.a2*y.a0+x.a3*y.a6+x.a4*y.a5+x.a5*y.a4+x.a6*y.a3,
   x.a0*y.a3+x.a1*y.a2+x.a2*y.a1+x.a3*y.a0+x.a4*y.a6+x.a5*y.a5+x.a6*y.a4,
   x.a0*y.a4+x.a1*y.a3+x.a2*y.a2+x.a3*y.a1+x.a4*y.a0+x.a5*y.a6+x.a6*y.a5,
   x.a0*y.a5+x.a1*y.a4+x.a2*y.a3+x.a3*y.a2+x.a4*y.a1+x.a5*y.a0+x.a6*y.a6,
   x.a0*y.a6+x.a1*y.a5+x.a2*y.a4+x.a3*y.a3+x.a4*y.a2+x.a5*y.a1+x.a6*y.a0⟩
def pow (x:C7):Nat→C7
  | 0=>c 1
  | n+1=>mul (pow x n) x
theorem gk (x y:C7):add x y=add y x:=by unfold add;ext <;>exact Int.add_comm _ _
theorem t5 (x y z:C7):add (add x y) z=add x (add y z):=by unfold add;ext <;>exact Int.add_assoc _ _ _
theorem dt (x:C7):add x (c 0)=x:=by unfold add c;ext <;>exact Int.add_zero _
theorem K6 (x:C7):add (neg x) x=c 0:=by unfold add c neg;ext <;>exact Int.add_left_neg _
theorem eK (x y:C7):mul x y=mul y x:=by unfold mul;ext <;>dsimp only <;>grind
theorem fe (x:C7):mul x (c 1)=x:=by unfold mul c;ext <;>dsimp only <;>grind
theorem eO (x:C7):mul x (c 0)=c 0:=by unfold mul c;ext <;>dsimp only <;>grind
theorem Md (x y z:C7):mul x (add y z)=add (mul x y) (mul x z):=by unfold mul add;ext <;>dsimp only <;>grind
theorem EX (x y z:C7):mul (mul x y) z=mul x (mul y z):=by unfold mul;ext <;>dsimp only <;>grind
end C7
open C7
theorem Yp (m n:Int):c (m+n)=add (c m) (c n):=by unfold c add;ext <;>simp
def eR (f:Nat→C7):Nat→C7
  | 0=>c 0
  | n+1=>add (eR f n) (f n)
instance:Add C7:=⟨add⟩
instance:Mul C7:=⟨mul⟩
instance:Neg C7:=⟨neg⟩
instance:HPow C7 Nat C7:=⟨pow⟩
instance:Std.Associative (α:=C7) (· + ·):=⟨t5⟩
instance:Std.Commutative (α:=C7) (· + ·):=⟨gk⟩
instance:Std.Associative (α:=C7) (· * ·):=⟨EX⟩
instance:Std.Commutative (α:=C7) (· * ·):=⟨eK⟩
theorem iz (x y z:C7):x*(y+z)=x*y+x*z:=Md x y z
theorem zy (x y z:C7):(x+y)*z=x*z+y*z:=by
  show mul (add x y) z=add (mul x z) (mul y z)
  rw [eK,Md,eK z x,eK z y]
theorem CW (f g:Nat→C7):∀ n,eR (fun j=>f j+g j) n=eR f n+eR g n
  | 0=>by show c 0=c 0+c 0;exact (dt _).symm
  | n+1=>by
    show eR (fun j=>f j+g j) n+(f n+g n)=(eR f n+f n)+(eR g n+g n)
    rw [CW f g n]
    ac_rfl
theorem uV (a:C7) (f:Nat→C7):∀ n,eR (fun j=>a*f j) n=a*eR f n
  | 0=>(eO a).symm
  | n+1=>by
    show eR (fun j=>a*f j) n+a*f n=a*(eR f n+f n)
    rw [uV a f n,iz]
theorem mi (f:Nat→C7):∀ n,eR f (n+1)=f 0+eR (fun j=>f (j+1)) n
  | 0=>by show c 0+f 0=f 0+c 0;exact gk _ _
  | n+1=>by
    show eR f (n+1)+f (n+1)=f 0+(eR (fun j=>f (j+1)) n+f (n+1))
    rw [mi f n]
    ac_rfl
theorem vZ {f g:Nat→C7} :∀ {n},(∀ j,j<n→f j=g j)→eR f n=eR g n
  | 0,_=>rfl
  | n+1,h=>by
    show eR f n+f n=eR g n+g n
    rw [vZ fun j hj=>h j (by omega),h n (by omega)]
theorem tq (m n:Int):c (m*n)=c m*c n:=by
  show c (m*n)=mul (c m) (c n)
  unfold c mul;ext <;>simp
theorem uu (m n:Int):c (m+n)=c m+c n:=Yp m n
def eD (a b:C7) (n k:Nat):C7:=c (ch n k)*(a ^ (n-k)*b ^ k)
theorem fK (a:C7) (n:Nat):a ^ (n+1)=a ^ n*a:=rfl
theorem qR (a:C7):a ^ 0=c 1:=rfl
theorem gO (a:C7):c 1*a=a:=(eK _ _).trans (fe a)
theorem t8 (a:C7):c 0*a=c 0:=(eK _ _).trans (eO a)
theorem U4 (a b:C7) (n:Nat):eD a b (n+1) 0=a*eD a b n 0:=by
  unfold eD
  rw [oz,oz,Nat.sub_zero,Nat.sub_zero,fK,qR]
  show c 1*_=a*(c 1*_)
  rw [gO,gO]
  ac_rfl
theorem pK (a b:C7) (n k:Nat) (h:n<k):eD a b n k=c 0:=by
  unfold eD
  rw [jU n k h]
  exact t8 _
theorem Xu (a b:C7) (n k:Nat):eD a b (n+1) (k+1)=a*eD a b n (k+1)+b*eD a b n k:=by
  by_cases h:k<n
  · unfold eD
    obtain ⟨m,rfl⟩:∃ m,n=k+1+m:=⟨n-(k+1),by omega⟩
    rw [show k+1+m+1-(k+1)=m+1 from by omega,show k+1+m-(k+1)=m from by omega,show k+1+m-k=m+1 from by omega]
    rw [show ch (k+1+m+1) (k+1)=ch (k+1+m) k+ch (k+1+m) (k+1) from rfl,Int.natCast_add,uu,fK,fK,zy]
    have e1:c (ch (k+1+m) k)*(a ^ m*a*(b ^ k*b))=b*(c (ch (k+1+m) k)*(a ^ m*a*b ^ k)):=by ac_rfl
    have e2:c (ch (k+1+m) (k+1))*(a ^ m*a*(b ^ k*b))=a*(c (ch (k+1+m) (k+1))*(a ^ m*(b ^ k*b))):=by ac_rfl
    rw [e1,e2]
    exact gk _ _
  · by_cases h2:n<k
    · rw [pK _ _ _ _ (by omega),pK _ _ _ _ (by omega),pK _ _ _ _ h2]
      show c 0=mul a (c 0)+mul b (c 0)
      rw [eO,eO]
      exact (dt _).symm
    · have:n=k:=by omega
      subst this
      rw [pK a b n (n+1) (by omega)]
      unfold eD
      rw [show ch (n+1) (n+1)=ch n n+ch n (n+1) from rfl,jU n (n+1) (by omega),Nat.add_zero,Nat.sub_self,Nat.sub_self,fK,qR]
      show _=mul a (c 0)+_
      rw [eO]
      show _=c 0+b*(c (ch n n)*(c 1*b ^ n))
      have:∀ x,c 0+x=x:=fun x=>(gk _ _).trans (dt x)
      rw [this,gO,gO]
      ac_rfl
theorem LW (a b:C7):∀ n,(a+b) ^ n=eR (eD a b n) (n+1)
  | 0=>by
    show c 1=add (c 0) (mul (c 1) (mul (c 1) (c 1)))
    rw [fe,fe,gk,dt]
  | n+1=>by
    rw [mi,U4,vZ (g:=fun k=>a*eD a b n (k+1)+b*eD a b n k) fun k _=>Xu a b n k,CW,uV,uV,fK,LW a b n]
    have h:=mi (eD a b n) (n+1)
    have h2:eR (eD a b n) (n+1+1)=eR (eD a b n) (n+1)+eD a b n (n+1):=rfl
    rw [pK a b n (n+1) (by omega)] at h2
    have h3:eR (eD a b n) (n+1)+c 0=eR (eD a b n) (n+1):=dt _
    rw [h3] at h2
    rw [h2] at h
    generalize eR (fun j=>eD a b n (j+1)) (n+1)=u at h ⊢
    generalize eR (eD a b n) (n+1)=v at h ⊢
    generalize eD a b n 0=w at h ⊢
    rw [h,iz,show (w+u)*a=a*(w+u) from eK _ _,iz,show (w+u)*b=b*(w+u) from eK _ _]
    ac_rfl
def Cg (m:Nat) (x y:C7):Prop:=∃ z,x=y+c m*z
theorem Cg.refl (m:Nat) (x:C7):Cg m x x:=⟨c 0,by
  show x=add x (mul (c m) (c 0))
  rw [eO,dt]⟩
theorem Cg.symm {m:Nat} {x y:C7} (h:Cg m x y):Cg m y x:=by
  obtain ⟨z,rfl⟩:=h
  refine ⟨-z,?_⟩
  have h:c m*z+c m*(-z)=c 0:=by
    rw [← iz,show z+ -z=c 0 from (gk _ _).trans (K6 z)]
    exact eO _
  rw [show y+c m*z+c m*(-z)=y+(c m*z+c m*(-z)) from t5 _ _ _,h]
  exact (dt y).symm
theorem Cg.trans {m:Nat} {x y z:C7} (h:Cg m x y) (k:Cg m y z):Cg m x z:=by
  obtain ⟨u,rfl⟩:=h
  obtain ⟨v,rfl⟩:=k
  exact ⟨u+v,by rw [iz];ac_rfl⟩
theorem Cg.mul {m:Nat} {x y u v:C7} (h:Cg m x y) (k:Cg m u v):Cg m (x*u) (y*v):=by
  obtain ⟨a,rfl⟩:=h
  obtain ⟨b,rfl⟩:=k
  exact ⟨y*b+a*v+c m*a*b,by simp only [iz,zy];ac_rfl⟩
theorem Cg.add {m:Nat} {x y u v:C7} (h:Cg m x y) (k:Cg m u v):Cg m (x+u) (y+v):=by
  obtain ⟨a,rfl⟩:=h
  obtain ⟨b,rfl⟩:=k
  exact ⟨a+b,by rw [iz];ac_rfl⟩
theorem Cg.pow {m:Nat} {x y:C7} (h:Cg m x y):∀ n:Nat,Cg m (x ^ n) (y ^ n)
  | 0=>Cg.refl m _
  | n+1=>(Cg.pow h n).mul h
theorem Cg.of_dvd {m n:Nat} {x y:C7} (h:Cg n x y) (hd:m∣n):Cg m x y:=by
  obtain ⟨z,rfl⟩:=h
  obtain ⟨k,rfl⟩:=hd
  refine ⟨c k*z,?_⟩
  rw [Int.natCast_mul,tq]
  show _+_*_*_=_+_*(_*_)
  ac_rfl
theorem IO {m:Nat} {f:Nat→C7} :∀ {n},(∀ j,j<n→Cg m (f j) (c 0))→Cg m (eR f n) (c 0)
  | 0,_=>Cg.refl m _
  | n+1,h=>by
    have:=(IO (n:=n) fun j hj=>h j (by omega)).add (h n (by omega))
    rwa [show c 0+c 0=c 0 from dt _] at this
theorem qP {p:Nat} (hp:Pr p) (a b:C7):Cg p ((a+b) ^ p) (a ^ p+b ^ p):=by
  obtain ⟨q,rfl⟩:∃ q,p=q+1:=⟨p-1,by have:=hp.1;omega⟩
  rw [LW]
  show Cg (q+1) (eR (eD a b (q+1)) (q+1)+eD a b (q+1) (q+1)) _
  rw [mi]
  have h0:eD a b (q+1) 0=a ^ (q+1):=by
    unfold eD
    rw [oz,Nat.sub_zero,qR]
    show c 1*(_*c 1)=_
    rw [gO]
    exact fe _
  have hcc:∀ n,ch n n=1:=fun n=>by
    induction n with
    | zero=>rfl
    | succ n ih=>rw [show ch (n+1) (n+1)=ch n n+ch n (n+1) from rfl,jU n (n+1) (by omega),ih]
  have h1:eD a b (q+1) (q+1)=b ^ (q+1):=by
    unfold eD
    rw [hcc,Nat.sub_self,qR]
    show c 1*(c 1*_)=_
    rw [gO,gO]
  rw [h0,h1]
  have h2:Cg (q+1) (eR (fun j=>eD a b (q+1) (j+1)) q) (c 0):=IO fun j hj=>by
    obtain ⟨k,hk⟩:=LU hp (k:=j+1) (by omega) (by omega)
    refine ⟨c k*(a ^ (q+1-(j+1))*b ^ (j+1)),?_⟩
    unfold eD
    rw [hk,Int.natCast_mul,tq]
    have:∀ x,c 0+x=x:=fun x=>(gk _ _).trans (dt x)
    rw [this]
    ac_rfl
  have h3:=((Cg.refl (q+1) (a ^ (q+1))).add h2).add (Cg.refl (q+1) (b ^ (q+1)))
  rwa [show a ^ (q+1)+c 0=a ^ (q+1) from dt _] at h3
end Go.NT
namespace Go.NT
set_option linter.unusedVariables false
open C7
def X:C7:=⟨0,1,0,0,0,0,0⟩
theorem lS:∀ n:Nat,(c 1) ^ n=c 1
  | 0=>rfl
  | n+1=>by rw [fK,lS n];exact fe _
theorem gp (x:C7) (m:Nat):∀ n:Nat,x ^ (m+n)=x ^ m*x ^ n
  | 0=>(fe _).symm
  | n+1=>by rw [← Nat.add_assoc,fK,gp x m n,fK];ac_rfl
theorem da (x:C7) (m:Nat):∀ n:Nat,x ^ (m*n)=(x ^ m) ^ n
  | 0=>rfl
  | n+1=>by rw [Nat.mul_succ,gp,da x m n,fK]
theorem rJ (x y:C7):∀ n:Nat,(x*y) ^ n=x ^ n*y ^ n
  | 0=>(fe _).symm
  | n+1=>by rw [fK,rJ x y n,fK,fK];ac_rfl
theorem xc (a:Int):∀ n:Nat,(c a) ^ n=c (a ^ n)
  | 0=>by rw [qR,Int.pow_zero]
  | n+1=>by rw [fK,xc a n,Int.pow_succ,tq]
theorem X7:X ^ 7=c 1:=rfl
theorem jo (n:Nat):X ^ n=X ^ (n%7):=by
  have h:n=7*(n / 7)+n%7:=(Nat.div_add_mod n 7).symm
  rw [h,gp,da,X7,lS,gO,← h]
def sub (k:Nat) (x:C7):C7:=c x.a0+c x.a1*X ^ k+c x.a2*X ^ (2*k)+c x.a3*X ^ (3*k)+c x.a4*X ^ (4*k)+c x.a5*X ^ (5*k)+c x.a6*X ^ (6*k)
theorem CL (k:Nat) (x:C7):sub k x=sub (k%7) x:=by
  unfold sub
  rw [jo k,jo (2*k),jo (3*k),jo (4*k),jo (5*k),jo (6*k),jo (2*(k%7)),jo (3*(k%7)),jo (4*(k%7)),jo (5*(k%7)),jo (6*(k%7))]
  rw [Nat.mul_mod_mod,Nat.mul_mod_mod,Nat.mul_mod_mod,Nat.mul_mod_mod,Nat.mul_mod_mod]
theorem Ol (x y:C7):x+y=add x y:=rfl
theorem LD (x y:C7):x*y=mul x y:=rfl
theorem x1:X ^ 1=⟨0,1,0,0,0,0,0⟩:=rfl
theorem x2:X ^ 2=⟨0,0,1,0,0,0,0⟩:=rfl
theorem x3:X ^ 3=⟨0,0,0,1,0,0,0⟩:=rfl
theorem x4:X ^ 4=⟨0,0,0,0,1,0,0⟩:=rfl
theorem x5:X ^ 5=⟨0,0,0,0,0,1,0⟩:=rfl
theorem x6:X ^ 6=⟨0,0,0,0,0,0,1⟩:=rfl
theorem C8 (x:C7):sub 1 x=x:=by
  unfold sub
  rw [x1,show X ^ (2*1)=_ from x2,show X ^ (3*1)=_ from x3,show X ^ (4*1)=_ from x4,show X ^ (5*1)=_ from x5,show X ^ (6*1)=_ from x6]
  simp only [Ol,LD]
  unfold add mul c
  ext <;>dsimp only <;>grind
def sg (x:C7):C7:=⟨x.a0,x.a3,x.a6,x.a2,x.a5,x.a1,x.a4⟩
theorem kf (x y:C7):sg (x*y)=sg x*sg y:=by
  show sg (mul x y)=mul (sg x) (sg y)
  unfold sg mul
  ext <;>dsimp only <;>grind
theorem lY (x y:C7):sg (x+y)=sg x+sg y:=rfl
theorem pE (n:Int):sg (c n)=c n:=rfl
theorem kb (x:C7):∀ n:Nat,sg (x ^ n)=sg x ^ n
  | 0=>rfl
  | n+1=>by rw [fK,kf,kb x n,fK]
theorem Cg.sg {m:Nat} {x y:C7} (h:Cg m x y):Cg m (sg x) (sg y):=by
  obtain ⟨z,rfl⟩:=h
  exact ⟨NT.sg z,by rw [lY,kf,pE]⟩
def vX (x:C7):Nat→C7
  | 0=>x
  | n+1=>sg (vX x n)
theorem Sx (k:Nat) (x:C7):sg (sub k x)=sub (5*k) x:=by
  have hX:sg X=X ^ 5:=rfl
  unfold sub
  rw [lY,lY,lY,lY,lY,lY,kf,kf,kf,kf,kf,kf,pE,pE,pE,pE,pE,pE,pE,kb,kb,kb,kb,kb,kb,hX,
    ← da,← da,← da,← da,← da,← da,
    show 5*(2*k)=2*(5*k) from by omega,show 5*(3*k)=3*(5*k) from by omega,show 5*(4*k)=4*(5*k) from by omega,show 5*(6*k)=6*(5*k) from by omega]
theorem Cs (x:C7):∀ i:Nat,sub (5 ^ i) x=vX x i
  | 0=>C8 x
  | i+1=>by rw [Nat.pow_succ,Nat.mul_comm,← Sx,Cs x i];rfl
theorem rH {p K:Nat} (hp:Pr p) (hK:p=2*K+1) (a:Int):Cg p (c (a ^ p)) (c a):=by
  obtain ⟨k,hk⟩:=Ni hp hK a
  refine ⟨c k,?_⟩
  rw [← tq,← hk,← uu]
  congr 1
  omega
theorem jD {p K:Nat} (hp:Pr p) (hK:p=2*K+1) (a:Int) (i:Nat):Cg p ((c a*X ^ i) ^ p) (c a*X ^ (i*p)):=by
  rw [rJ,xc,← da]
  exact (rH hp hK a).mul (Cg.refl p _)
theorem Vt {p K:Nat} (hp:Pr p) (hK:p=2*K+1) (x:C7):Cg p (x ^ p) (sub p x):=by
  have h1:Cg p (sub 1 x ^ p) (sub p x):=by
    unfold sub
    refine (qP hp _ _).trans (Cg.add ?_ (jD hp hK x.a6 6))
    refine (qP hp _ _).trans (Cg.add ?_ (jD hp hK x.a5 5))
    refine (qP hp _ _).trans (Cg.add ?_ (jD hp hK x.a4 4))
    refine (qP hp _ _).trans (Cg.add ?_ (jD hp hK x.a3 3))
    refine (qP hp _ _).trans (Cg.add ?_ (jD hp hK x.a2 2))
    refine (qP hp _ _).trans (Cg.add ?_ (by have:=jD hp hK x.a1 1;rwa [Nat.one_mul] at this))
    rw [xc]
    exact rH hp hK x.a0
  rwa [C8] at h1
theorem Nv {p K:Nat} (hp:Pr p) (hK:p=2*K+1) (h7:p%7≠0) (x:C7):∃ i,i<6∧Cg p (x ^ p) (vX x i):=by
  have h:=Vt hp hK x
  have key:∃ i,i<6∧5 ^ i%7=p%7:=by
    have:p%7=1∨p%7=2∨p%7=3∨p%7=4∨p%7=5∨p%7=6:=by omega
    rcases this with e | e | e | e | e | e <;>rw [e]
    · exact ⟨0,by decide,by decide⟩
    · exact ⟨4,by decide,by decide⟩
    · exact ⟨5,by decide,by decide⟩
    · exact ⟨2,by decide,by decide⟩
    · exact ⟨1,by decide,by decide⟩
    · exact ⟨3,by decide,by decide⟩
  obtain ⟨i,hi,e⟩:=key
  refine ⟨i,hi,?_⟩
  rw [← Cs,CL,e,← CL]
  exact h
def eC (r:Nat) (x:C7) (n:Nat):Prop:=Cg r (x ^ n) (c 1)
theorem IM {r:Nat} {x:C7} (a b:Nat) (ha:eC r x a) (hb:eC r x b):eC r x (b%a):=by
  have h1:x ^ b=x ^ (a*(b / a))*x ^ (b%a):=by rw [← gp,Nat.div_add_mod]
  have h2:Cg r (x ^ (a*(b / a))) (c 1):=by
    rw [da]
    have:=Cg.pow ha (b / a)
    rwa [lS] at this
  unfold eC at hb ⊢
  rw [h1] at hb
  have h3:=(h2.mul (Cg.refl r (x ^ (b%a)))).symm.trans hb
  rwa [gO] at h3
theorem Bi {r:Nat} {x:C7} (a k:Nat) (ha:eC r x a):eC r x (a*k):=by
  unfold eC
  rw [da]
  have:=Cg.pow ha k
  rwa [lS] at this
theorem M5 {N:Nat} {x:C7} (h:Cg N (x ^ N) (sg x)):∀ i:Nat,Cg N (x ^ (N ^ i)) (vX x i)
  | 0=>by rw [Nat.pow_zero];exact ⟨c 0,by show mul (c 1) x=add x (mul _ (c 0));rw [eO,dt,eK,fe]⟩
  | i+1=>by
    rw [Nat.pow_succ,da]
    refine (Cg.pow (M5 h i) N).trans ?_
    have key:∀ i,Cg N (vX x i ^ N) (vX x (i+1)):=fun i=>by
      induction i with
      | zero=>exact h
      | succ i ih=>
        show Cg N (sg (vX x i) ^ N) (sg (vX x (i+1)))
        rw [← kb]
        exact ih.sg
    exact key i
theorem sr {r s u v:Nat} {x:C7} (hs:0<s) (h1:eC r x s) (h:Cg r (x ^ u) (x ^ v)) (huv:u≤v):eC r x (v-u):=by
  obtain ⟨d,rfl⟩:∃ d,v=u+d:=⟨v-u,by omega⟩
  rw [Nat.add_sub_cancel_left]
  obtain ⟨t,rfl⟩:∃ t,s=t+1:=⟨s-1,by omega⟩
  have h2:=Bi _ u h1
  have h3:=h.mul (Cg.refl r (x ^ (t*u)))
  rw [← gp,← gp,show u+t*u=(t+1)*u from by rw [Nat.add_mul,Nat.one_mul,Nat.add_comm],show u+d+t*u=d+(t+1)*u from by rw [Nat.add_mul,Nat.one_mul];omega,gp] at h3
  have h4:=(Cg.refl r (x ^ d)).mul h2
  have h5:=(h3.trans h4).symm.trans h2
  rwa [show x ^ d*c 1=x ^ d from fe _] at h5
def dK:List (Nat×Nat)→Nat
  | [] =>1
  | (f,k)::l=>f ^ k*dK l
def ve:List (Nat×Nat)→Bool
  | [] =>true
  | (f,k)::l=>Nat.beq (Nat.gcd (f ^ k) (dK l)) 1&&ve l
theorem uW:∀ {l:List (Nat×Nat)} {t:Nat},ve l=true→(∀ f k,(f,k)∈l→f ^ k∣t)→dK l∣t
  | [],t,_,_=>Nat.one_dvd t
  | (f,k)::l,t,h,hd=>by
    rw [ve,Bool.and_eq_true] at h
    have h1:=uW h.2 fun f k hf=>hd f k (List.mem_cons_of_mem _ hf)
    exact Nat.Coprime.mul_dvd_of_dvd_of_dvd (Nat.eq_of_beq_eq_true h.1) (hd f k (List.mem_cons_self ..)) h1
theorem vF:∀ {l:List (Nat×Nat)} {f k:Nat},(f,k)∈l→f ^ k∣dK l
  | [],_,_,h=>by cases h
  | (f,k)::l,f',k',h=>by
    rw [dK]
    cases h with
    | head=>exact Nat.dvd_mul_right _ _
    | tail _ h=>exact Nat.dvd_trans (vF h) (Nat.dvd_mul_left _ _)
theorem N0 {N:Nat} {x:C7} {l:List (Nat×Nat)} (h2:2≤N) (h7:N%7=5) (hodd:N%2=1) (hc:ve l=true) (hl:∀ f k,(f,k)∈l→Pr f)
    (h1:Cg N (x ^ dK l) (c 1)) (hN:Cg N (x ^ N) (sg x)) (hne:∀ r,Pr r→r∣N→∀ f k,(f,k)∈l→¬ Cg r (x ^ (dK l / f)) (c 1))
    (hbig:N<dK l*dK l) (hno:∀ i,i<6→N ^ i%dK l=1∨¬ N ^ i%dK l∣N):Pr N:=by
  refine L7 h2 fun r hr hrN hsq=> ?_
  have hr2:r%2=1:=by
    rcases Nat.mod_two_eq_zero_or_one r with e | e
    · have:2∣N:=Nat.dvd_trans (Nat.dvd_of_mod_eq_zero e) hrN
      omega
    · exact e
  have hr7:r%7≠0:=fun e=>by
    have:7∣N:=Nat.dvd_trans (Nat.dvd_of_mod_eq_zero e) hrN
    omega
  obtain ⟨i,hi,hf⟩:=Nv hr (K:=r / 2) (by omega) hr7 x
  have hv:=(M5 hN i).of_dvd hrN
  have j7:0<dK l:=by
    rcases Nat.eq_zero_or_pos (dK l) with e | e
    · rw [e] at hbig;omega
    · exact e
  have hone:eC r x (dK l):=h1.of_dvd hrN
  have main:∀ t,eC r x t→dK l∣t:=fun t ht=>uW hc fun f k hm=>
    Do (e:=eC r x) (fun a b=>IM a b) (fun a k=>Bi a k) (hl f k hm) hone (vF hm) ht (hne r hr hrN f k hm)
  have hcg:Cg r (x ^ r) (x ^ (N ^ i)):=hf.trans hv.symm
  have hmod:r%dK l=N ^ i%dK l:=by
    rcases Nat.le_total r (N ^ i) with hle | hle
    · obtain ⟨q,hq⟩:=main _ (sr j7 hone hcg hle)
      rw [show N ^ i=r+dK l*q from by omega,Nat.add_mul_mod_self_left]
    · obtain ⟨q,hq⟩:=main _ (sr j7 hone hcg.symm hle)
      rw [show r=N ^ i+dK l*q from by omega,Nat.add_mul_mod_self_left]
  have hlt:r<dK l:=by
    rcases Nat.lt_or_ge r (dK l) with e | e
    · exact e
    · have:=Nat.mul_le_mul e e
      omega
  rw [Nat.mod_eq_of_lt hlt] at hmod
  rcases hno i hi with e | e
  · have:=hr.1;omega
  · exact e (hmod ▸ hrN)
end Go.NT
namespace Go.NT
set_option linter.unusedVariables false
open C7
structure V7 where
  b0:Nat
  b1:Nat
  b2:Nat
  b3:Nat
  b4:Nat
  b5:Nat
  b6:Nat
def cv (x:V7):C7:=⟨x.b0,x.b1,x.b2,x.b3,x.b4,x.b5,x.b6⟩
noncomputable def fr (n:Nat) (K:Nat→Bool):Bool:=Nat.rec (K 0) (fun m _=>K (Nat.succ m)) n
theorem n9 (n:Nat) (K:Nat→Bool):fr n K=K n:=by cases n <;>rfl
def a7 (a b c d e f g:Nat):Nat:=Nat.add (Nat.add (Nat.add (Nat.add (Nat.add (Nat.add a b) c) d) e) f) g
noncomputable def mN (m:Nat) (x y:V7) (K:V7→Bool):Bool:=
  fr (Nat.mod (a7 (Nat.mul x.b0 y.b0) (Nat.mul x.b1 y.b6) (Nat.mul x.b2 y.b5) (Nat.mul x.b3 y.b4) (Nat.mul x.b4 y.b3) (Nat.mul x.b5 y.b2) (Nat.mul x.b6 y.b1)) m) fun c0=>
  fr (Nat.mod (a7 (Nat.mul x.b0 y.b1) (Nat.mul x.b1 y.b0) (Nat.mul x.b2 y.b6) (Nat.mul x.b3 y.b5) (Nat.mul x.b4 y.b4) (Nat.mul x.b5 y.b3) (Nat.mul x.b6 y.b2)) m) fun c1=>
  fr (Nat.mod (a7 (Nat.mul x.b0 y.b2) (Nat.mul x.b1 y.b1) (Nat.mul x.b2 y.b0) (Nat.mul x.b3 y.b6) (Nat.mul x.b4 y.b5) (Nat.mul x.b5 y.b4) (Nat.mul x.b6 y.b3)) m) fun c2=>
  fr (Nat.mod (a7 (Nat.mul x.b0 y.b3) (Nat.mul x.b1 y.b2) (Nat.mul x.b2 y.b1) (Nat.mul x.b3 y.b0) (Nat.mul x.b4 y.b6) (Nat.mul x.b5 y.b5) (Nat.mul x.b6 y.b4)) m) fun c3=>
  fr (Nat.mod (a7 (Nat.mul x.b0 y.b4) (Nat.mul x.b1 y.b3) (Nat.mul x.b2 y.b2) (Nat.mul x.b3 y.b1) (Nat.mul x.b4 y.b0) (Nat.mul x.b5 y.b6) (Nat.mul x.b6 y.b5)) m) fun c4=>
  fr (Nat.mod (a7 (Nat.mul x.b0 y.b5) (Nat.mul x.b1 y.b4) (Nat.mul x.b2 y.b3) (Nat.mul x.b3 y.b2) (Nat.mul x.b4 y.b1) (Nat.mul x.b5 y.b0) (Nat.mul x.b6 y.b6)) m) fun c9=>
  fr (Nat.mod (a7 (Nat.mul x.b0 y.b6) (Nat.mul x.b1 y.b5) (Nat.mul x.b2 y.b4) (Nat.mul x.b3 y.b3) (Nat.mul x.b4 y.b2) (Nat.mul x.b5 y.b1) (Nat.mul x.b6 y.b0)) m) fun c6=>
  K ⟨c0,c1,c2,c3,c4,c9,c6⟩
theorem Lx (n:Int) (z:C7):c n*z=sc n z:=by
  show mul (c n) z=sc n z
  unfold mul c sc
  ext <;>simp
theorem NY (a m:Nat):((Nat.mod a m:Nat):Int)=(a:Int)+(m:Int)* -((a / m:Nat):Int):=by
  have h:=Nat.div_add_mod a m
  have h2:((m*(a / m)+a%m:Nat):Int)=(a:Int):=by rw [h]
  rw [Int.natCast_add,Int.natCast_mul] at h2
  show ((a%m:Nat):Int)=_
  rw [Int.mul_neg]
  omega
theorem S9 (a b c d e f g:Nat):((a7 a b c d e f g:Nat):Int)=a+b+c+d+e+f+g:=by
  show ((a+b+c+d+e+f+g:Nat):Int)=_
  simp
theorem jT (a b:Nat):((Nat.mul a b:Nat):Int)=a*b:=Int.natCast_mul a b
theorem r8 {a m:Nat} {b:Int} (h:(a:Int)=b):∃ z:Int,((Nat.mod a m:Nat):Int)=b+m*z:=⟨_,by rw [NY,h]⟩
theorem Yn {m:Nat} {x y:C7} (h0:∃ z:Int,x.a0=y.a0+m*z) (h1:∃ z:Int,x.a1=y.a1+m*z) (h2:∃ z:Int,x.a2=y.a2+m*z) (h3:∃ z:Int,x.a3=y.a3+m*z) (h4:∃ z:Int,x.a4=y.a4+m*z) (h5:∃ z:Int,x.a5=y.a5+m*z) (h6:∃ z:Int,x.a6=y.a6+m*z):Cg m x y:=by
  obtain ⟨z0,h0⟩:=h0
  obtain ⟨z1,h1⟩:=h1
  obtain ⟨z2,h2⟩:=h2
  obtain ⟨z3,h3⟩:=h3
  obtain ⟨z4,h4⟩:=h4
  obtain ⟨z5,h5⟩:=h5
  obtain ⟨z6,h6⟩:=h6
  refine ⟨⟨z0,z1,z2,z3,z4,z5,z6⟩,?_⟩
  rw [Lx]
  exact C7.ext h0 h1 h2 h3 h4 h5 h6
theorem nB {m:Nat} {x y:V7} {K:V7→Bool} (h:mN m x y K=true):∃ r,K r=true∧Cg m (cv r) (cv x*cv y):=by
  unfold mN at h
  rw [n9,n9,n9,n9,n9,n9,n9] at h
  refine ⟨_,h,Yn (r8 ?_) (r8 ?_) (r8 ?_) (r8 ?_) (r8 ?_) (r8 ?_) (r8 ?_)⟩ <;>rw [S9,jT,jT,jT,jT,jT,jT,jT] <;>rfl
def ls:V7:=⟨1,0,0,0,0,0,0⟩
theorem HW:cv ls=c 1:=rfl
noncomputable def qa (m:Nat) (x:V7) (n i:Nat):V7→(V7→Bool)→Bool:=
  Nat.rec (motive:=fun _=>V7→(V7→Bool)→Bool) (fun a K=>K a) (fun i ih a K=>mN m a a fun a2=>bif Nat.beq (Nat.mod (Nat.div n (Nat.pow 2 i)) 2) 1 then mN m a2 x fun a3=>ih a3 K else ih a2 K) i
theorem XP (m:Nat) (x:V7) (n i:Nat) (a:V7) (K:V7→Bool):qa m x n (i+1) a K=mN m a a fun a2=>bif Nat.beq (Nat.mod (Nat.div n (Nat.pow 2 i)) 2) 1 then mN m a2 x fun a3=>qa m x n i a3 K else qa m x n i a2 K:=rfl
theorem AW {m:Nat} {x:V7} {n:Nat} :∀ {i:Nat} {a:V7} {K:V7→Bool},qa m x n i a K=true→∃ r,K r=true∧Cg m (cv r) (cv a ^ (2 ^ i)*cv x ^ (n%2 ^ i))
  | 0,a,K,h=>⟨a,h,by
    rw [Nat.pow_zero,Nat.mod_one,qR]
    show Cg m (cv a) ((c 1*cv a)*c 1)
    rw [gO,show cv a*c 1=cv a from fe _]
    exact Cg.refl m _⟩
  | i+1,a,K,h=>by
    rw [XP] at h
    obtain ⟨a2,h,k2⟩:=nB h
    have hb:n%2 ^ (i+1)=n%2 ^ i+2 ^ i*(n / 2 ^ i%2):=Nat.mod_pow_succ ..
    have k3:Cg m (cv a2 ^ (2 ^ i)) (cv a ^ (2 ^ (i+1))):=by
      have:=Cg.pow k2 (2 ^ i)
      rwa [show cv a*cv a=cv a ^ 2 from (by show _=(c 1*cv a)*cv a;rw [gO]),← da,show 2*2 ^ i=2 ^ (i+1) from by rw [Nat.pow_succ,Nat.mul_comm]] at this
    cases hc:Nat.beq (Nat.mod (Nat.div n (Nat.pow 2 i)) 2) 1 with
    | true=>
      rw [hc] at h
      obtain ⟨a3,h,k4⟩:=nB (show mN m a2 x (fun a3=>qa m x n i a3 K)=true from h)
      obtain ⟨r,h,k5⟩:=AW h
      have hc:n / 2 ^ i%2=1:=Nat.eq_of_beq_eq_true hc
      refine ⟨r,h,k5.trans ?_⟩
      rw [hb,hc,Nat.mul_one]
      have k6:=Cg.pow k4 (2 ^ i)
      rw [rJ] at k6
      have k7:=(k6.trans (k3.mul (Cg.refl m (cv x ^ (2 ^ i))))).mul (Cg.refl m (cv x ^ (n%2 ^ i)))
      rw [gp]
      refine k7.trans ?_
      have:cv a ^ 2 ^ (i+1)*cv x ^ 2 ^ i*cv x ^ (n%2 ^ i)=cv a ^ 2 ^ (i+1)*(cv x ^ (n%2 ^ i)*cv x ^ 2 ^ i):=by ac_rfl
      rw [this]
      exact Cg.refl m _
    | false=>
      rw [hc] at h
      obtain ⟨r,h,k5⟩:=AW (show qa m x n i a2 K=true from h)
      have hc:n / 2 ^ i%2=0:=by
        have h1:¬ n / 2 ^ i%2=1:=fun e=>by
          have:Nat.beq (n / 2 ^ i%2) 1=true:=by rw [e];rfl
          have h3:Nat.beq (n / 2 ^ i%2) 1=false:=hc
          rw [this] at h3;cases h3
        omega
      refine ⟨r,h,k5.trans ?_⟩
      rw [hb,hc,Nat.mul_zero,Nat.add_zero]
      exact k3.mul (Cg.refl m _)
theorem tF {m:Nat} {x:V7} {n L:Nat} {K:V7→Bool} (hn:n<2 ^ L) (h:qa m x n L ls K=true):∃ r,K r=true∧Cg m (cv r) (cv x ^ n):=by
  obtain ⟨r,h1,h2⟩:=AW h
  rw [HW,lS,gO,Nat.mod_eq_of_lt hn] at h2
  exact ⟨r,h1,h2⟩
def BZ (x y:V7):Bool:=Nat.beq x.b0 y.b0&&(Nat.beq x.b1 y.b1&&(Nat.beq x.b2 y.b2&&(Nat.beq x.b3 y.b3&&(Nat.beq x.b4 y.b4&&(Nat.beq x.b5 y.b5&&Nat.beq x.b6 y.b6)))))
theorem qi {x y:V7} (h:BZ x y=true):x=y:=by
  unfold BZ at h
  simp only [Bool.and_eq_true] at h
  obtain ⟨h0,h1,h2,h3,h4,h5,h6⟩:=h
  cases x;cases y
  rw [V7.mk.injEq]
  exact ⟨Nat.eq_of_beq_eq_true h0,Nat.eq_of_beq_eq_true h1,Nat.eq_of_beq_eq_true h2,Nat.eq_of_beq_eq_true h3,Nat.eq_of_beq_eq_true h4,Nat.eq_of_beq_eq_true h5,Nat.eq_of_beq_eq_true h6⟩
def yJ (m:Nat) (x:V7):V7:=⟨Nat.add x.b0 m,x.b1,x.b2,x.b3,x.b4,x.b5,x.b6⟩
theorem Lr {r m:Nat} (hr:r∣m+1) {x:V7} (h:Cg r (cv x) (c 1)):Cg r (cv (yJ m x)) (c 0):=by
  have e:cv (yJ m x)=cv x+c m:=by
    show _=add (cv x) (c m)
    unfold cv yJ add c
    ext <;>simp
  rw [e]
  obtain ⟨k,hk⟩:=hr
  have h2:Cg r (c m) (c (-1)):=⟨c k,by
    rw [← tq,← uu]
    congr 1
    have:((m+1:Nat):Int)=((r*k:Nat):Int):=by rw [hk]
    rw [Int.natCast_add,Int.natCast_mul] at this
    omega⟩
  have h3:=h.add h2
  rwa [← uu] at h3
noncomputable def sU (m:Nat) (x:V7) (s L:Nat):List (Nat×Nat)→V7→(V7→Bool)→Bool
  | [],a,K=>K a
  | (f,_)::l,a,K=>qa (Nat.succ m) x (Nat.div s f) L ls fun t=>mN (Nat.succ m) a (yJ m t) fun a=>sU m x s L l a K
theorem Ou (x:C7):x*c 0=c 0:=eO x
theorem sn {m:Nat} {x:V7} {s L:Nat} (hs:s<2 ^ L):∀ {l:List (Nat×Nat)} {a:V7} {K:V7→Bool},sU m x s L l a K=true→∃ W,K W=true∧∀ r,r∣m+1→(Cg r (cv a) (c 0)∨∃ f k,(f,k)∈l∧Cg r (cv x ^ (s / f)) (c 1))→Cg r (cv W) (c 0)
  | [],a,K,h=>⟨a,h,fun r _ hr=>by
    rcases hr with hr | ⟨_,_,hm,_⟩
    · exact hr
    · cases hm⟩
  | (f,k)::l,a,K,h=>by
    rw [sU] at h
    obtain ⟨t,h,k1⟩:=tF (Nat.lt_of_le_of_lt (Nat.div_le_self _ _) hs) h
    obtain ⟨a',h,k2⟩:=nB h
    obtain ⟨W,h,k3⟩:=sn hs h
    refine ⟨W,h,fun r hr hd=>k3 r hr ?_⟩
    have k2':=k2.of_dvd hr
    rcases hd with hd | ⟨f',k',hm,hd⟩
    · have:=k2'.trans (hd.mul (Cg.refl r _))
      rw [t8] at this
      exact .inl this
    · cases hm with
      | head=>
        have e:=Lr hr ((k1.of_dvd hr).trans hd)
        have:=k2'.trans ((Cg.refl r (cv a)).mul e)
        rw [Ou] at this
        exact .inl this
      | tail _ hm=>exact .inr ⟨f',k',hm,hd⟩
def sgV (x:V7):V7:=⟨x.b0,x.b3,x.b6,x.b2,x.b5,x.b1,x.b4⟩
noncomputable def JA (m:Nat) (l:List (Nat×Nat)) (s L M:Nat) (x u w:V7):Bool:=
  (qa (Nat.succ m) x s L ls fun r=>BZ r ls)&&((qa (Nat.succ m) x (Nat.succ m) M ls fun r=>BZ r (sgV x))&&(sU m x s L l ls fun W=>mN (Nat.succ m) W u fun z=>BZ z w))
theorem Lg {m:Nat} {l:List (Nat×Nat)} {L M:Nat} {x u w:V7} (h2:2≤m+1) (h7:(m+1)%7=5) (hodd:(m+1)%2=1) (hc:ve l=true) (hl:∀ f k,(f,k)∈l→Pr f)
    (hL:dK l<2 ^ L) (hM:m+1<2 ^ M) (hw:w.b0=w.b1+1) (h:JA m l (dK l) L M x u w=true)
    (hbig:m+1<dK l*dK l) (hno:∀ i,i<6→(m+1) ^ i%dK l=1∨¬ (m+1) ^ i%dK l∣m+1):Pr (m+1):=by
  unfold JA at h
  rw [Bool.and_eq_true,Bool.and_eq_true] at h
  obtain ⟨ha,hb,hp⟩:=h
  obtain ⟨r1,e1,k1⟩:=tF hL ha
  obtain rfl:=qi e1
  obtain ⟨r2,e2,k2⟩:=tF hM hb
  obtain rfl:=qi e2
  obtain ⟨W,e3,k3⟩:=sn hL hp
  obtain ⟨z,e4,k4⟩:=nB e3
  obtain rfl:=qi e4
  refine N0 (x:=cv x) h2 h7 hodd hc hl k1.symm k2.symm (fun r hr hrN f k hm hd=> ?_) hbig hno
  have h0:=k3 r hrN (.inr ⟨f,k,hm,hd⟩)
  have h1:=(k4.of_dvd hrN).trans (h0.mul (Cg.refl r _))
  rw [t8] at h1
  obtain ⟨y,hy⟩:=h1
  rw [Lx] at hy
  have y0:((z.b0:Nat):Int)=0+r*y.a0:=congrArg C7.a0 hy
  have y1:((z.b1:Nat):Int)=0+r*y.a1:=congrArg C7.a1 hy
  have hd:(r:Int)∣1:=⟨y.a0-y.a1,by rw [Int.mul_sub];omega⟩
  have:r∣1:=by exact_mod_cast hd
  have h9:=Nat.le_of_dvd (by decide) this
  have:=hr.1
  omega
end Go.NT
namespace Go.NT
set_option linter.unusedVariables false
set_option maxRecDepth 100000
open C7
theorem bx {p:Nat} (h2:2≤p) (h:∀ d,d<p→2≤d→p%d≠0):Pr p:=⟨h2,fun d hd=>by
  have hle:=Nat.le_of_dvd (by omega) hd
  have h0:d≠0:=fun e=>by subst e;have:=Nat.eq_zero_of_zero_dvd hd;omega
  rcases Nat.lt_or_ge d p with e | e
  · rcases Nat.lt_or_ge d 2 with e2 | e2
    · exact .inl (by omega)
    · exact absurd (Nat.mod_eq_zero_of_dvd hd) (h d e e2)
  · exact .inr (by omega)⟩
theorem cW {m a v:Nat} {l:List (Nat×Nat)} {L:Nat} (hm:1≤m) (hodd:(m+1)%2=1) (hc:ve l=true) (hl:∀ f k,(f,k)∈l→Pr f)
    (hL:m<2 ^ L) (hd:dK l∣m) (h:((qa (Nat.succ m) ⟨a,0,0,0,0,0,0⟩ m L ls fun r=>BZ r ls)&&sU m ⟨a,0,0,0,0,0,0⟩ m L l ls fun W=>mN (Nat.succ m) W ⟨v,0,0,0,0,0,0⟩ fun z=>BZ z ls)=true)
    (hbig:m+1<(dK l+1)*(dK l+1)):Pr (m+1):=by
  rw [Bool.and_eq_true] at h
  obtain ⟨ha,hp⟩:=h
  obtain ⟨r1,e1,k1⟩:=tF hL ha
  obtain rfl:=qi e1
  obtain ⟨W,e3,k3⟩:=sn hL hp
  obtain ⟨z,e4,k4⟩:=nB e3
  obtain rfl:=qi e4
  refine L7 (by omega) fun r hr hrN hsq=> ?_
  have hr2:r%2=1:=by
    rcases Nat.mod_two_eq_zero_or_one r with e | e
    · have:2∣m+1:=Nat.dvd_trans (Nat.dvd_of_mod_eq_zero e) hrN
      omega
    · exact e
  have hcv:cv ⟨a,0,0,0,0,0,0⟩=c a:=rfl
  rw [hcv] at k1 k3
  have hone:eC r (c a) m:=k1.symm.of_dvd hrN
  have hf:Cg r ((c a) ^ r) ((c a) ^ 1):=by
    rw [xc,show (c (a:Int)) ^ 1=c a from gO _]
    exact rH hr (K:=r / 2) (by omega) a
  have h1:=sr (by omega) hone hf.symm (by omega)
  have main:dK l∣r-1:=uW hc fun f k hm=>Do (e:=eC r (c a)) (fun a b=>IM a b) (fun a k=>Bi a k) (hl f k hm) hone (Nat.dvd_trans (vF hm) hd) h1 fun hd=>by
    have h0:=k3 r hrN (.inr ⟨f,k,hm,hd⟩)
    have h1:=(k4.of_dvd hrN).trans (h0.mul (Cg.refl r _))
    rw [t8,HW] at h1
    obtain ⟨y,hy⟩:=h1
    rw [Lx] at hy
    have y0:(1:Int)=0+r*y.a0:=congrArg C7.a0 hy
    have hd:(r:Int)∣1:=⟨y.a0,by omega⟩
    have:r∣1:=by exact_mod_cast hd
    have h9:=Nat.le_of_dvd (by decide) this
    have:=hr.1
    omega
  have hle:=Nat.le_of_dvd (by have:=hr.1;omega) main
  have:=Nat.mul_le_mul (show dK l+1≤r by have:=hr.1;omega) (show dK l+1≤r by have:=hr.1;omega)
  omega
theorem ol:Pr 2:=bx (by decide) (by decide+kernel)
theorem rP:Pr 3:=bx (by decide) (by decide+kernel)
theorem Ff:Pr 5:=bx (by decide) (by decide+kernel)
theorem Le:Pr 7:=bx (by decide) (by decide+kernel)
theorem X8:Pr 13:=bx (by decide) (by decide+kernel)
theorem VG:Pr 31:=bx (by decide) (by decide+kernel)
theorem Wq:Pr 73:=bx (by decide) (by decide+kernel)
theorem O1:Pr 199:=bx (by decide) (by decide+kernel)
theorem Rh:Pr 313:=bx (by decide) (by decide+kernel)
theorem Mq:Pr 11:=bx (by decide) (by decide+kernel)
theorem Oj:Pr (3850+1):=cW (l:= [(5,2),(11,1)]) (L:=12) (a:=2) (v:=3845) (by decide+kernel) (by decide+kernel) (by decide+kernel) (fun f k h=>by simp at h;rcases h with h | h <;>(obtain ⟨rfl,rfl⟩:=h) <;>first | exact Ff | exact Mq) (by decide+kernel) (by decide+kernel) (by kernel_rfl) (by decide+kernel)
theorem Sh:Pr 311:=bx (by decide) (by decide+kernel)
theorem JR:Pr (18660+1):=cW (l:= [(311,1)]) (L:=15) (a:=2) (v:=17392) (by decide+kernel) (by decide+kernel) (by decide+kernel) (fun f k h=>by simp at h;(obtain ⟨rfl,rfl⟩:=h) <;>first | exact Sh) (by decide+kernel) (by decide+kernel) (by kernel_rfl) (by decide+kernel)
theorem Ty:Pr 101:=bx (by decide) (by decide+kernel)
theorem KK:Pr (65650+1):=cW (l:= [(101,1),(5,2)]) (L:=17) (a:=2) (v:=49412) (by decide+kernel) (by decide+kernel) (by decide+kernel) (fun f k h=>by simp at h;rcases h with h | h <;>(obtain ⟨rfl,rfl⟩:=h) <;>first | exact Ty | exact Ff) (by decide+kernel) (by decide+kernel) (by kernel_rfl) (by decide+kernel)
theorem Ei:Pr (4332966+1):=cW (l:= [(11,1),(3,1),(2,1),(65651,1)]) (L:=23) (a:=6) (v:=3537540) (by decide+kernel) (by decide+kernel) (by decide+kernel) (fun f k h=>by simp at h;rcases h with h | h | h | h <;>(obtain ⟨rfl,rfl⟩:=h) <;>first | exact Mq | exact rP | exact ol | exact KK) (by decide+kernel) (by decide+kernel) (by kernel_rfl) (by decide+kernel)
theorem SG:Pr 131:=bx (by decide) (by decide+kernel)
theorem Qm:Pr 827:=bx (by decide) (by decide+kernel)
theorem HL:Pr (223290+1):=cW (l:= [(827,1)]) (L:=18) (a:=2) (v:=61689) (by decide+kernel) (by decide+kernel) (by decide+kernel) (fun f k h=>by simp at h;(obtain ⟨rfl,rfl⟩:=h) <;>first | exact Qm) (by decide+kernel) (by decide+kernel) (by kernel_rfl) (by decide+kernel)
theorem Cb:Pr (58502242+1):=cW (l:= [(131,1),(2,1),(223291,1)]) (L:=26) (a:=2) (v:=43817423) (by decide+kernel) (by decide+kernel) (by decide+kernel) (fun f k h=>by simp at h;rcases h with h | h | h <;>(obtain ⟨rfl,rfl⟩:=h) <;>first | exact SG | exact ol | exact HL) (by decide+kernel) (by decide+kernel) (by kernel_rfl) (by decide+kernel)
theorem YZ:Pr 37:=bx (by decide) (by decide+kernel)
theorem US:Pr 853:=bx (by decide) (by decide+kernel)
theorem Fp:Pr (1310208+1):=cW (l:= [(853,1),(2,9)]) (L:=21) (a:=7) (v:=1153598) (by decide+kernel) (by decide+kernel) (by decide+kernel) (fun f k h=>by simp at h;rcases h with h | h <;>(obtain ⟨rfl,rfl⟩:=h) <;>first | exact US | exact ol) (by decide+kernel) (by decide+kernel) (by kernel_rfl) (by decide+kernel)
theorem Av:Pr (290866398+1):=cW (l:= [(37,1),(3,1),(2,1),(1310209,1)]) (L:=29) (a:=6) (v:=210408986) (by decide+kernel) (by decide+kernel) (by decide+kernel) (fun f k h=>by simp at h;rcases h with h | h | h | h <;>(obtain ⟨rfl,rfl⟩:=h) <;>first | exact YZ | exact rP | exact ol | exact Fp) (by decide+kernel) (by decide+kernel) (by kernel_rfl) (by decide+kernel)
theorem TS:Pr 659:=bx (by decide) (by decide+kernel)
theorem JQ:Pr (39540+1):=cW (l:= [(659,1)]) (L:=16) (a:=2) (v:=28710) (by decide+kernel) (by decide+kernel) (by decide+kernel) (fun f k h=>by simp at h;(obtain ⟨rfl,rfl⟩:=h) <;>first | exact TS) (by decide+kernel) (by decide+kernel) (by kernel_rfl) (by decide+kernel)
theorem Bo:Pr (2167716702+1):=cW (l:= [(3,1),(2,1),(39541,1)]) (L:=32) (a:=3) (v:=1933124885) (by decide+kernel) (by decide+kernel) (by decide+kernel) (fun f k h=>by simp at h;rcases h with h | h | h <;>(obtain ⟨rfl,rfl⟩:=h) <;>first | exact rP | exact ol | exact JQ) (by decide+kernel) (by decide+kernel) (by kernel_rfl) (by decide+kernel)
theorem AL:Pr (182088203052+1):=cW (l:= [(7,1),(2,2),(3,1),(2167716703,1)]) (L:=38) (a:=6) (v:=85806158140) (by decide+kernel) (by decide+kernel) (by decide+kernel) (fun f k h=>by simp at h;rcases h with h | h | h | h <;>(obtain ⟨rfl,rfl⟩:=h) <;>first | exact Le | exact ol | exact rP | exact Bo) (by decide+kernel) (by decide+kernel) (by kernel_rfl) (by decide+kernel)
theorem Tk:Pr 509:=bx (by decide) (by decide+kernel)
theorem Un:Pr 227:=bx (by decide) (by decide+kernel)
theorem Mp:Pr 47:=bx (by decide) (by decide+kernel)
theorem P0:Pr 229:=bx (by decide) (by decide+kernel)
theorem YJ:Pr 53:=bx (by decide) (by decide+kernel)
theorem Em:Pr (5267458+1):=cW (l:= [(229,1),(53,1)]) (L:=23) (a:=2) (v:=4212879) (by decide+kernel) (by decide+kernel) (by decide+kernel) (fun f k h=>by simp at h;rcases h with h | h <;>(obtain ⟨rfl,rfl⟩:=h) <;>first | exact P0 | exact YJ) (by decide+kernel) (by decide+kernel) (by kernel_rfl) (by decide+kernel)
theorem zS:Pr (500905890761075075178+1):=cW (l:= [(509,1),(227,1),(47,1),(3,2),(7,1),(2,1),(5267459,1)]) (L:=69) (a:=3) (v:=167025632575226923993) (by decide+kernel) (by decide+kernel) (by decide+kernel) (fun f k h=>by simp at h;rcases h with h | h | h | h | h | h | h <;>(obtain ⟨rfl,rfl⟩:=h) <;>first | exact Tk | exact Un | exact Mp | exact rP | exact Le | exact ol | exact Em) (by decide+kernel) (by decide+kernel) (by kernel_rfl) (by decide+kernel)
theorem RV:Pr 907:=bx (by decide) (by decide+kernel)
theorem Ah:Pr (3651845256750+1):=cW (l:= [(907,1),(5,3),(47,1)]) (L:=42) (a:=2) (v:=2176430755238) (by decide+kernel) (by decide+kernel) (by decide+kernel) (fun f k h=>by simp at h;rcases h with h | h | h <;>(obtain ⟨rfl,rfl⟩:=h) <;>first | exact RV | exact Ff | exact Mp) (by decide+kernel) (by decide+kernel) (by kernel_rfl) (by decide+kernel)
theorem BW:Pr (22834869333004942403898+1):=cW (l:= [(3,1),(2,1),(3651845256751,1)]) (L:=75) (a:=3) (v:=21655329101214184530252) (by decide+kernel) (by decide+kernel) (by decide+kernel) (fun f k h=>by simp at h;rcases h with h | h | h <;>(obtain ⟨rfl,rfl⟩:=h) <;>first | exact rP | exact ol | exact Ah) (by decide+kernel) (by decide+kernel) (by kernel_rfl) (by decide+kernel)
def lQ:List (Nat×Nat):= [(2,64),(3,2),(5,1),(7,1),(13,1),(31,1),(73,1),(199,1),(313,1),(3851,1),(18661,1),(4332967,1),(58502243,1),(290866399,1),(182088203053,1),(500905890761075075179,1),(22834869333004942403899,1)]
theorem Zl (f k:Nat) (h:(f,k)∈lQ):Pr f:=by
  simp [lQ] at h
  rcases h with h | h | h | h | h | h | h | h | h | h | h | h | h | h | h | h | h <;>(obtain ⟨rfl,rfl⟩:=h) <;>first | exact ol | exact rP | exact Ff | exact Le | exact X8 | exact VG | exact Wq | exact O1 | exact Rh | exact Oj | exact JR | exact Ei | exact Cb | exact Av | exact AL | exact zS | exact BW
def xQ:V7:=⟨619156953510124584840972238367707136359470755609529308357206401816712224979289970261622747411342062982008556891454584395159983290899110351048612044579536085345830250666663507491711100986212609090714738227830116578582363267635622853,138610260408283159125407010449514201387936323980994698146885549503888546460103769491789317027543610516835830756783648883668802968049652187536810708003225599650537506364095700029170155205845962998133866609277378462638544010050700826,244349304874187703607619211800316296135163527677067890675771491081210894421294285411444415927500472536137650691834615716136815668823919132923537804128855271964174239829524007453607188468221240131320357582434385921429397485439519029,56483800499733040760581762283106866099640241271753899363617460874634362698659313467648181460084735370510438101659365889270675979846943957641519138324830777729590382957697670019297903572274791319198290497633924388139313939842510629,243717798761737243174451853257331037922766201206184656549304917898839285879903126450215430696582375378881134570702116157281273446221002624739673442868758393983976098465139585392709425503489785900150112120443657230736920552938061367,507268891867790266032907888646939444212013157477871102718825543657088529174949896869450879358650127661190811058943616782450780590734113738844457677745186286219818882014354895587911459897498151185394639777796199249471565333401549645,519190128529207405154437232082807651330010866928369913991915427522075516309452798935833208933184079218800589449055348519757873633802327521214480603896532060722643871037819066789348803341347222426292322829264103226457726921507902529⟩
def uQ:V7:=⟨80211473802450178760199653970989325728314481791561296150173635116016619553254238749928997679800605056474125292440564842710934604601877639318440392193089848553812059934160352249963823718119668110864868823545576265434564187808539598,232540457691508878670696846686123589441399794431882324255032071183153076624949552606522206110898044194106313252329965558412393764605061934956154920375118792080197359876144916590001929861420113961968874039077787744539842196255035224,622665816935469279383126821538911950948437975235579540487034658246601495511103361628118386605831144611021116277675795321484697969491285151747032592818271238843072509356687774797907250519872122221855700428514680809008712281372332285,281246691927707718795483032252437523117719565025279091081128849026024256572941861441113483230510375201921339262673948856750170802830477228695710079176867155015268270600540709606836450098044134486257216861034022087742425852137185294,704626996654500644387300586101910125423706740282132790508433861129451805620081229470573154419560461984354892702587247194277339616992681904029794509354063542426374851685972571094991126481280417140688279035583713088044867448577012628,120178352761549519321512059186724850542924613258093530106490076907713319967206135103196476583952029815789984898152372497538232219461580828155312250629140891883364629005217168783286588250453356305613622533994308640857464338216259426,287307348677877183378058197150625268244497904127242897215233640745488786074116781888551476184334802800697239834573402072552436600394104827046646675000373006814481550876570939640768868045699950823955765922929676421827955206449502422⟩
def wQ:V7:=⟨332682448350151914670911028126817519063857296307395924257646684622064194274807594412572025830698209094909287360061899477675172225482438501992727345649560639373795890190756347537679433853555680435886332520668537865350833072973695269,332682448350151914670911028126817519063857296307395924257646684622064194274807594412572025830698209094909287360061899477675172225482438501992727345649560639373795890190756347537679433853555680435886332520668537865350833072973695268,332682448350151914670911028126817519063857296307395924257646684622064194274807594412572025830698209094909287360061899477675172225482438501992727345649560639373795890190756347537679433853555680435886332520668537865350833072973695268,332682448350151914670911028126817519063857296307395924257646684622064194274807594412572025830698209094909287360061899477675172225482438501992727345649560639373795890190756347537679433853555680435886332520668537865350833072973695268,332682448350151914670911028126817519063857296307395924257646684622064194274807594412572025830698209094909287360061899477675172225482438501992727345649560639373795890190756347537679433853555680435886332520668537865350833072973695268,332682448350151914670911028126817519063857296307395924257646684622064194274807594412572025830698209094909287360061899477675172225482438501992727345649560639373795890190756347537679433853555680435886332520668537865350833072973695268,332682448350151914670911028126817519063857296307395924257646684622064194274807594412572025830698209094909287360061899477675172225482438501992727345649560639373795890190756347537679433853555680435886332520668537865350833072973695268⟩
theorem afc:JA 776259046150354467565459065629240877815667024717257156601175597451483119974551053629334726938295821221455003840144432114575401859459023171316363806515641491872190410445098144254585345658296587683734775881559921685818610503605288958 lQ 117503813392761817068111132675669899316816427660372966666489466295074426660089323991980846165815105337757663273943040 386 767 xQ uQ wQ=true:=by kernel_rfl
theorem prQ:Pr (776259046150354467565459065629240877815667024717257156601175597451483119974551053629334726938295821221455003840144432114575401859459023171316363806515641491872190410445098144254585345658296587683734775881559921685818610503605288958+1):=Lg (l:=lQ) (L:=386) (M:=767) (x:=xQ) (u:=uQ) (w:=wQ) (by decide+kernel) (by decide+kernel) (by decide+kernel) (by decide+kernel) Zl (by decide+kernel) (by decide+kernel) rfl afc (by decide+kernel) (by decide+kernel)
theorem prP:Pr (1552518092300708935130918131258481755631334049434514313202351194902966239949102107258669453876591642442910007680288864229150803718918046342632727613031282983744380820890196288509170691316593175367469551763119843371637221007210577918+1):=cW (l:= [(776259046150354467565459065629240877815667024717257156601175597451483119974551053629334726938295821221455003840144432114575401859459023171316363806515641491872190410445098144254585345658296587683734775881559921685818610503605288959,1)]) (L:=768) (a:=2) (v:=517506030766902978376972710419493918543778016478171437734117064967655413316367369086223151292197214147636669226762954743050267906306015447544242537677094327914793606963398762836390230438864391789156517254373281123879073669070192640) (by decide+kernel) (by decide+kernel) (by decide+kernel) (fun f k h=>by simp at h;(obtain ⟨rfl,rfl⟩:=h) <;>first | exact prQ) (by decide+kernel) (by decide+kernel) (by kernel_rfl) (by decide+kernel)
end Go.NT
namespace Go.Proofs.YteiecapbaeajdaaGreatDoor
open Go Go.Avc Go.Proofs
set_option linter.unusedVariables false
set_option linter.unusedSimpArgs false
set_option maxRecDepth 100000
theorem ZE:J8:=by
  unfold J8
  intro l n _ h0 _
  refine ab (fun h=> ?_) (fun h=> ?_)
  · have h:=of_decide_eq_true h
    exact ⟨⟨h0,h⟩,by omega,rfl⟩
  · have h:=of_decide_eq_false h
    exact (oc (by omega)).symm
theorem YL:af (base.with M2) 152 (ag Fw):=am c9 Tryz.func152 (by kernel_rfl) (by kernel_rfl) Tryz.call152 aei ZE
theorem Ra:(base.with xD).Ok:=ae c9 YL
theorem Yy:J6:=by
  unfold J6
  intro l _ hd _
  refine ⟨⟨⟨rfl,by omega,by omega,fun j hj=>oc (by omega)⟩,trivial⟩,?_⟩
  intro l1 n _ h
  obtain ⟨e,h0,h1,h2⟩:=h
  rw [e]
  refine ⟨fun h=> ?_,fun h=> ?_,fun h=> ?_,ab (fun h=> ?_) (fun h=> ?_)⟩
  · have h:=of_decide_eq_true h;have:=hd.2;omega
  · have h:=of_decide_eq_true h;omega
  · have h:=of_decide_eq_true h;omega
  · rw [Bool.and_eq_true] at h
    have h3:=of_decide_eq_true h.1
    have h4:rv l (n-1).toNat=0:=of_decide_eq_true h.2
    have:=hd.2
    refine ⟨by omega,⟨rfl,by omega,by omega,fun j hj=> ?_⟩,by omega⟩
    by_cases e:(j:Int)=n-1
    · rw [show j=(n-1).toNat from by omega];exact h4
    · exact h2 j (by omega)
  · refine ⟨⟨by omega,h0,h1⟩,?_⟩
    rw [List.drop_zero]
    refine Ik hd.1 (by omega) (fun j hj=>h2 j (by omega)) ?_
    by_cases e:n=0
    · exact .inl (by omega)
    · refine .inr fun h4=> ?_
      rw [Bool.and_eq_false_iff] at h
      rcases h with h | h
      · have:=of_decide_eq_false h;omega
      · refine of_decide_eq_false h ?_
        show rv l (n-1).toNat=0
        rw [show (n-1).toNat=n.toNat-1 from by omega];exact h4
theorem WH:af (base.with xD) 110 (ag Er):=am Ra Tryz.func110 (by kernel_rfl) (by kernel_rfl) Tryz.call110 acp Yy
theorem Uj:(base.with yp).Ok:=ae Ra WH
theorem Oa {x y:Nat} (h:x<y): -1=hZ x y:=by unfold hZ;rw [if_pos h]
theorem Oe {x y:Nat} (h:y<x):1=hZ x y:=by unfold hZ;rw [if_neg (by omega),if_pos h]
theorem Nz {x y:Nat} (h:x=y):0=hZ x y:=by unfold hZ;rw [if_neg (by omega),if_neg (by omega)]
theorem si {x y:Nat} :hZ x y<0↔x<y:=by
  unfold hZ
  by_cases h:x<y
  · rw [if_pos h];exact ⟨fun _=>h,fun _=>by decide⟩
  · rw [if_neg h];split <;>constructor <;>intro k <;>omega
theorem Xz:KX:=by
  unfold KX
  intro a b _ _ hd _ _
  obtain ⟨ha,hb⟩:=hd
  have la:=ha.2
  have lb:=hb.2
  refine ⟨by omega,⟨⟨rfl,rfl,by omega,by omega,fun j hj=>by rw [oc (by omega),oc (by omega)]⟩,trivial⟩,?_⟩
  intro a' b' n _ _ h
  obtain ⟨e1,e2,h0,h1,h2⟩:=h
  rw [e1,e2]
  refine ab (fun h=> ?_) (fun h=> ?_)
  · have h:=of_decide_eq_true h
    have h2':∀ j:Nat,((n.toNat:Nat):Int)<j→rv a j=rv b j:=fun j hj=>h2 j (by omega)
    refine ⟨h,h,ab (fun k=> ?_) (fun k=>⟨h,h,ab (fun k2=> ?_) (fun k2=> ?_)⟩)⟩
    · exact Oa (H1 ha.1 hb.1 h2' (of_decide_eq_true k))
    · exact Oe (H1 hb.1 ha.1 (fun j hj=>(h2' j hj).symm) (of_decide_eq_true k2))
    · have k:=of_decide_eq_false k
      have k2:=of_decide_eq_false k2
      refine ⟨by omega,⟨rfl,rfl,by omega,by omega,fun j hj=> ?_⟩,by omega⟩
      by_cases e:(j:Int)=n
      · rw [show j=n.toNat from by omega];omega
      · exact h2 j (by omega)
  · have h:=of_decide_eq_false h
    exact Nz (QN ha.1 hb.1 fun j=>h2 j (by omega))
theorem Vp:af (base.with yp) 108 (ag Eu):=am Uj Tryz.func108 (by kernel_rfl) (by kernel_rfl) Tryz.call108 ac0 Xz
theorem OX:(base.with xx).Ok:=ae Uj Vp
theorem XT:Kg:=by
  unfold Kg
  intro a b _ _ hd _
  obtain ⟨ha,hb,hle⟩:=hd
  have la:=ha.2
  refine ⟨⟨by omega,by omega,by omega,by omega⟩,⟨⟨rfl,rfl,by omega,by omega,rfl,rfl⟩,trivial⟩,?_⟩
  intro a' b' c n o _ _ _ h _
  obtain ⟨e1,e2,h0,h1,e3,e4⟩:=h
  rw [e1,e2,e3,e4]
  have lo:((dF a b n.toNat).1.map ac).length=n.toNat:=by rw [List.length_map,tU]
  refine ab (fun h=> ?_) (fun h=> ?_)
  · have h:=of_decide_eq_true h
    have k1:=iA ha.1 n.toNat
    have k2:=iA hb.1 n.toNat
    have ⟨k3,_⟩:=qG ha.1 hb.1 n.toNat
    have f1:IntKind.u64.wrap (4294967296+rv a n.toNat)=4294967296+rv a n.toNat:=cE ⟨by omega,by omega⟩
    have f2:IntKind.u64.wrap (4294967296+rv a n.toNat-rv b n.toNat)=4294967296+rv a n.toNat-rv b n.toNat:=cE ⟨by omega,by omega⟩
    have f3:IntKind.u64.wrap (4294967296+rv a n.toNat-rv b n.toNat-(dF a b n.toNat).2)=4294967296+rv a n.toNat-rv b n.toNat-(dF a b n.toNat).2:=cE ⟨by omega,by omega⟩
    have f4:IntKind.u64.wrap (1-(4294967296+rv a n.toNat-rv b n.toNat-(dF a b n.toNat).2) / 4294967296)=1-(4294967296+rv a n.toNat-rv b n.toNat-(dF a b n.toNat).2) / 4294967296:=cE ⟨by omega,by omega⟩
    have f5:IntKind.u64.wrap ((4294967296+rv a n.toNat-rv b n.toNat-(dF a b n.toNat).2)%4294967296)=(4294967296+rv a n.toNat-rv b n.toNat-(dF a b n.toNat).2)%4294967296:=cE ⟨by omega,by omega⟩
    have hm:IntKind.u64.max=18446744073709551615:=by decide
    rw [dH,f1,f2,f3,f4,lo,hm]
    refine ⟨⟨h0,h⟩,by omega,h0,⟨by omega,by decide⟩,⟨by omega,by omega⟩,⟨by omega,by decide,by omega⟩,by omega,⟨rfl,rfl,by omega,by omega,?_,?_⟩,by omega⟩
    · rw [show (n+1).toNat=n.toNat+1 from by omega];rfl
    · rw [show (n+1).toNat=n.toNat+1 from by omega]
      show _=List.map ac ((dF a b n.toNat).1++_)
      rw [List.map_append];rfl
  · have h:=of_decide_eq_false h
    have hn:n.toNat=a.length:=by omega
    rw [hn]
    have ⟨k1,k2⟩:=SA ha.1 hb.1 hle
    rw [hn] at lo
    exact ⟨⟨k1,by rw [lo];exact la⟩,by rw [k2]⟩
theorem XI:af (base.with xx) 151 (ag Hw):=am OX Tryz.func151 (by kernel_rfl) (by kernel_rfl) Tryz.call151 adh XT
theorem QW:(base.with yd).Ok:=ae OX XI
theorem oG (L:List Int) (i:Nat) (x:Int) (h:i<L.length):(L.map ac).set i (((L.map ac).getD i []).set 0 (CD.int x))=(L.set i x).map ac:=by
  rw [List.map_set]
  congr 1
  rw [List.getD_eq_getElem?_getD,List.getElem?_map,List.getElem?_eq_getElem h]
  rfl
theorem Vn:KC:=by
  unfold KC
  intro a _ ha _
  have la:=ha.2
  refine ⟨⟨by omega,by omega,by omega,by omega⟩,⟨⟨rfl,by omega,by omega,?_⟩,trivial⟩,?_⟩
  · show _=List.map ac (List.replicate a.length 0)
    rw [List.map_replicate];rfl
  intro a' n o _ _ h _
  obtain ⟨e1,h0,h1,e2⟩:=h
  rw [e1,e2]
  refine ab (fun h=> ?_) (fun h=> ?_)
  · have h:=of_decide_eq_true h
    have hl:(jz a n.toNat).length=a.length:=nN a _
    have lo:((jz a n.toNat).map ac).length=a.length:=by rw [List.length_map,hl]
    have hn:(n+1).toNat=n.toNat+1:=by omega
    have k1:=iA ha.1 n.toNat
    have k2:=iA ha.1 (n.toNat+1)
    have hm:IntKind.u64.max=18446744073709551615:=by decide
    rw [hm,lo,hn,dH,dH,oG _ _ _ (by omega),List.length_map,List.length_set,hl]
    refine ⟨⟨h0,h⟩,by omega,⟨by omega,by decide,by omega⟩,⟨h0,by omega⟩,by omega,by omega,fun _=>ab (fun h2=> ?_) (fun h2=> ?_)⟩
    · have h2:=of_decide_eq_true h2
      have g1:((((jz a n.toNat).set n.toNat (rv a n.toNat / 2)).map ac).getD n.toNat []).getD 0 (CD.int 0)=CD.int (rv a n.toNat / 2):=by
        rw [List.getD_eq_getElem?_getD (l:=List.map _ _),List.getElem?_map,List.getElem?_set,if_pos rfl,if_pos (by omega)];rfl
      refine ⟨⟨h0,by omega⟩,by omega,by omega,⟨by omega,h2⟩,by omega,⟨by omega,by decide⟩,⟨h0,by omega⟩,by omega,by omega,⟨rfl,by omega,by omega,?_⟩,by omega⟩
      rw [g1,oG _ _ _ (by rw [List.length_set];omega),List.set_set]
      have f1:IntKind.u64.wrap (rv a (n.toNat+1)%2*2147483648)=rv a (n.toNat+1)%2*2147483648:=cE ⟨by omega,by omega⟩
      have f2:IntKind.u64.wrap (rv a n.toNat / 2+rv a (n.toNat+1)%2*2147483648)=rv a n.toNat / 2+rv a (n.toNat+1)%2*2147483648:=cE ⟨by omega,by omega⟩
      rw [f1,show (CD.int (rv a n.toNat / 2)).toInt=rv a n.toNat / 2 from rfl,f2]
      rfl
    · have h2:=of_decide_eq_false h2
      refine ⟨by omega,⟨rfl,by omega,by omega,?_⟩,by omega⟩
      have:rv a (n.toNat+1)=0:=oc (by omega)
      show _=List.map ac ((jz a n.toNat).set n.toNat (rv a n.toNat / 2+rv a (n.toNat+1)%2*2147483648))
      rw [this]
      simp
  · have h:=of_decide_eq_false h
    have hn:n.toNat=a.length:=by omega
    rw [hn]
    have ⟨k1,k2⟩:=NO ha.1
    exact ⟨⟨k1,by rw [List.length_map,nN];exact la⟩,by rw [k2]⟩
theorem Xx:af (base.with yd) 174 (ag FW):=am QW Tryz.func174 (by kernel_rfl) (by kernel_rfl) Tryz.call174 ad7 Vn
theorem Tx:(base.with zb).Ok:=ae QW Xx
theorem gq {l:List (List CD)} (h:cI l):ax l:=by rw [show l=ah (aa l) from h];exact MV _
theorem VP:KZ:=by
  unfold KZ
  intro b _ hb _
  obtain ⟨hB,lb⟩:=hb
  have hA:=gq hB
  have hm:IntKind.i64.max=9223372036854775807:=by decide
  rw [hm]
  refine ⟨⟨by omega,by decide,by omega⟩,by omega,⟨by omega,by omega,by omega,by omega⟩,fun _=>⟨by omega,⟨⟨rfl,by omega,by omega,?_⟩,trivial⟩,?_⟩⟩
  · rw [show ((b.length:Int)-1-((b.length:Int)-1)).toNat=0 from by omega]
    show _=List.map ac (List.replicate (b.length / 4+1) 0)
    rw [List.map_replicate,show ((b.length:Int) / 4+1).toNat=b.length / 4+1 from by omega];rfl
  intro b' n o _ _ h
  obtain ⟨e1,h0,h1,e2⟩:=h
  rw [e1,e2]
  obtain ⟨k,hk⟩:∃ k,k=((b.length:Int)-1-n).toNat:=⟨_,rfl⟩
  rw [← hk]
  have hl:=nG b k
  have lo:((eM b k).map ac).length=b.length / 4+1:=by rw [List.length_map,hl]
  refine ab (fun h=> ?_) (fun h=> ?_)
  · have h:=of_decide_eq_true h
    have hn:b.length-1-k=n.toNat:=by omega
    have hn4:(n / 4).toNat=n.toNat / 4:=by omega
    have k1:=hA n.toNat
    have hg:=Am hA k (by omega) (n.toNat / 4) (by omega)
    have hrv:((List.map ac (eM b k)).getD (n.toNat / 4) []).getD 0 (CD.int 0)=CD.int ((eM b k).getD (n.toNat / 4) 0):=by
      rw [List.getD_eq_getElem?_getD (l:=List.map _ _),List.getElem?_map,List.getElem?_eq_getElem (by omega),List.getD_eq_getElem?_getD (l:=eM b k),List.getElem?_eq_getElem (by omega)];rfl
    have hold:0≤(eM b k).getD (n.toNat / 4) 0∧(eM b k).getD (n.toNat / 4) 0<4294967296:=by
      rw [hg]
      have h3:∀ y e:Nat,e≤4→y%256 ^ e<4294967296:=fun y e he=>Nat.lt_of_lt_of_le (Nat.mod_lt _ (Nat.pow_pos (by decide))) (Nat.le_trans (Nat.pow_le_pow_right (by decide) he) (by decide))
      have h4:=h3 (kG ((cK b).drop (max (4*(n.toNat / 4)) (b.length-k)))) (4*(n.toNat / 4)+4-max (4*(n.toNat / 4)) (b.length-k)) (by omega)
      omega
    rw [hn4,lo,hrv,dH,oG _ _ _ (by omega)]
    refine ⟨⟨h,by decide,by omega⟩,⟨h,by decide,by omega⟩,⟨by omega,by omega⟩,by omega,⟨h,h1⟩,by omega,⟨by omega,by omega⟩,by omega,by omega,⟨rfl,by omega,by omega,?_⟩,by omega⟩
    rw [show ((b.length:Int)-1-(n-1)).toNat=k+1 from by omega]
    show _=List.map ac ((eM b k).set ((b.length-1-k) / 4) ((eM b k).getD ((b.length-1-k) / 4) 0*256+rv b (b.length-1-k)))
    rw [hn,show (CD.int ((eM b k).getD (n.toNat / 4) 0)).toInt=(eM b k).getD (n.toNat / 4) 0 from rfl]
    have f1:IntKind.u64.wrap ((eM b k).getD (n.toNat / 4) 0*256)=(eM b k).getD (n.toNat / 4) 0*256:=cE ⟨by omega,by omega⟩
    have f2:IntKind.u64.wrap (rv b n.toNat)=rv b n.toNat:=cE ⟨by omega,by omega⟩
    have f3:IntKind.u64.wrap ((eM b k).getD (n.toNat / 4) 0*256+rv b n.toNat)=(eM b k).getD (n.toNat / 4) 0*256+rv b n.toNat:=cE ⟨by omega,by omega⟩
    rw [f1,f2,f3]
  · have h:=of_decide_eq_false h
    have hk2:k=b.length:=by omega
    rw [hk2]
    have ⟨k1,k2⟩:=Ll hA
    exact ⟨⟨k1,by rw [List.length_map,nG];omega⟩,by rw [k2]⟩
theorem XD:af (base.with zb) 133 (ag G4):=am Tx Tryz.func133 (by kernel_rfl) (by kernel_rfl) Tryz.call133 abS VP
theorem Te:(base.with xL).Ok:=ae Tx XD
theorem XV:Tq:=fun _=>rfl
theorem X9:af (base.with xL) 173 (ag DX):=am Te Tryz.func173 (by kernel_rfl) (by kernel_rfl) Tryz.call173 acM XV
theorem OS:(base.with xo).Ok:=ae Te X9
theorem VE:Um:=fun b hb=>by
  subst hb
  exact ⟨trivial,rfl⟩
theorem YW:af (base.with xo) 172 (ag Gt):=am OS Tryz.func172 (by kernel_rfl) (by kernel_rfl) Tryz.call172 ab6 VE
theorem Qy:(base.with xG).Ok:=ae OS YW
theorem Yu:T8:=fun _=>rfl
theorem ZA:af (base.with xG) 109 (ag El):=am Qy Tryz.func109 (by kernel_rfl) (by kernel_rfl) Tryz.call109 ae1 Yu
theorem Tc:(base.with zm).Ok:=ae Qy ZA
theorem Dt:∀ (f n k:Nat),n<4294967296 ^ k→(pB f n).length≤k
  | 0,_,_,_=>Nat.zero_le _
  | f+1,n,0,h=>by
    have:n=0:=by simp at h;exact h
    rw [pB,if_pos this];exact Nat.le_refl _
  | f+1,n,k+1,h=>by
    rw [pB]
    split
    · exact Nat.zero_le _
    · rw [List.length_cons]
      have:n / 4294967296<4294967296 ^ k:=by
        rw [Nat.div_lt_iff_lt_mul (by decide)]
        rwa [Nat.pow_succ] at h
      have:=Dt f _ k this
      omega
theorem Dv {n k:Nat} (h:n<4294967296 ^ k):(bm n).length≤k:=by
  show ((wG n).map lD).length≤k
  rw [List.length_map]
  exact Dt n n k h
theorem T0:bk<4294967296 ^ 24:=by decide+kernel
theorem se {n:Nat} (h:n≤bk):cg (bm n):=⟨uL n,Nat.le_trans (Dv (Nat.lt_of_le_of_lt h T0)) (by decide)⟩
theorem Jh {x:List (List CD)} (h:pN x) (hl:dv x≤bk):cg x:=by rw [show x=bm (dv x) from h];exact se hl
theorem lf {x:List (List CD)} (h:pN x):x.length=0↔dv x=0:=by
  constructor
  · intro e
    rw [List.length_eq_zero_iff.1 e];rfl
  · intro e
    rw [show x=bm (dv x) from h,e];rfl
theorem CY {x:List (List CD)} (h:eP x):rv x 0=((dv x%4294967296:Nat):Int):=by
  have:=pA h 0
  rwa [Nat.pow_zero,Nat.div_one] at this
theorem CJ (b:Bool):BG (!b)= -1*BG b:=by cases b <;>rfl
theorem MD {x:List (List CD)} (h:pN x):eP x:=by rw [show x=bm (dv x) from h];exact uL _
theorem NS {p y:Nat} {x n:List (List CD)} {s:Bool} (h:ij p x n s y) (he:dv x%2=0):ij p (bm (dv x / 2)) n (bif decide (dv n%8=3∨dv n%8=5) then !s else s) y:=by
  obtain ⟨h1,h2,h3,h4,h5,h6,h7⟩:=h
  refine ⟨m6 _,h2,by rw [cr];omega,h4,h5,?_,?_⟩
  · rw [cr]
    exact Nat.Coprime.coprime_dvd_left (Nat.div_dvd_of_dvd (Nat.dvd_of_mod_eq_zero he)) h6
  · rw [cr]
    rw [NT.sy_half h5 h6 he] at h7
    by_cases hc:dv n%8=3∨dv n%8=5
    · rw [if_pos hc] at h7
      rw [decide_eq_true hc]
      show BG (!s)*_=_
      rw [CJ,← h7];grind
    · rw [if_neg hc] at h7
      rw [decide_eq_false hc]
      show BG s*_=_
      rw [← h7];grind
theorem Nt {x n:Nat} (h:n≤x):Nat.gcd (x-n) n=Nat.gcd x n:=by
  have:x=x-n+n:=by omega
  rw [this,Nat.gcd_add_self_left,← this]
theorem BY {p y:Nat} {x n:List (List CD)} {s:Bool} (h:ij p x n s y) (hl:dv n≤dv x):ij p (bm (dv x-dv n)) n s y:=by
  obtain ⟨h1,h2,h3,h4,h5,h6,h7⟩:=h
  refine ⟨m6 _,h2,by rw [cr];omega,h4,h5,?_,?_⟩
  · rw [cr,Nt hl];exact h6
  · rw [cr,NT.sy_sub h5 hl];exact h7
theorem Of {p y:Nat} {x n:List (List CD)} {s:Bool} (h:ij p x n s y) (ho:dv x%2=1):ij p n x (bif decide (dv x%4=3∧dv n%4=3) then !s else s) y:=by
  obtain ⟨h1,h2,h3,h4,h5,h6,h7⟩:=h
  refine ⟨h2,h1,h4,h3,ho,by rw [Nat.gcd_comm];exact h6,?_⟩
  rw [NT.sy_swap h5 ho h6] at h7
  by_cases hc:dv x%4=3∧dv n%4=3
  · rw [if_pos hc] at h7
    rw [decide_eq_true hc]
    show BG (!s)*_=_
    rw [CJ,← h7];grind
  · rw [if_neg hc] at h7
    rw [decide_eq_false hc]
    show BG s*_=_
    rw [← h7];grind
theorem TB {p y:Nat} {x n:List (List CD)} {s:Bool} (h:ij p x n s y) (h0:dv x=0):s=decide (NT.sy y p=1):=by
  obtain ⟨h1,h2,h3,h4,h5,h6,h7⟩:=h
  rw [h0,Nat.gcd_zero_left] at h6
  rw [h0,h6,NT.sy_one,Int.mul_one] at h7
  rw [← h7]
  cases s <;>rfl
theorem As:l7=bm bk:=by
  have h1:cK l7=wG bk:=(H2 (l:=cK l7) (fun d hd=>by
    have:∀ d∈cK l7,d<4294967296:=by decide+kernel
    exact this d hd) (fun m d e=>by
    intro h0
    have h2:(cK l7).getLast? =some d:=by rw [e];simp
    have h3:(cK l7).getLast? =some 4294967295:=by decide+kernel
    rw [h3] at h2
    cases h2;cases h0)).symm.trans (congrArg wG (by decide+kernel:cj (cK l7)=bk))
  have h2:l7=(cK l7).map lD:=by kernel_rfl
  rw [h2,h1];rfl
theorem M3:NT.Pr bk:=NT.prP
theorem C4:bk%2=1:=by decide+kernel
theorem NU {y:Nat} (h0:0<y) (h:y<bk):Nat.gcd y bk=1:=by
  rw [Nat.gcd_comm]
  exact M3.coprime fun hd=>by have:=Nat.le_of_dvd h0 hd;omega
theorem KY {l:List (List CD)} (h:pN l) (h0:0<dv l) (h1:dv l<bk):ij bk l l7 true (dv l):=by
  have e:dv l7=bk:=by rw [As,cr]
  refine ⟨h,by rw [As];exact m6 _,by omega,by omega,by rw [e];exact C4,by rw [e];exact NU h0 h1,?_⟩
  rw [e]
  show 1*_=_
  rw [Int.one_mul]
theorem Xc:Jw:=by
  unfold Jw
  intro l _ hl
  obtain ⟨hd,ht,h0,h1⟩:=hl
  have h1:dv l<bk:=h1
  refine ⟨trivial,⟨KY ht h0 h1,trivial⟩,?_⟩
  intro a n b _ _ h _
  have h:ij bk a n b (dv l):=h
  refine ab (fun hc=> ?_) (fun hc=> ?_)
  · have hc:=of_decide_eq_true hc
    have ha0:0<dv a:=by
      apply Nat.pos_of_ne_zero
      intro e
      have:=(lf h.1).2 e
      omega
    refine ⟨⟨⟨h,ha0,Nat.le_refl _,rfl⟩,trivial⟩,?_⟩
    intro x m s _ _ hx
    obtain ⟨hs,hx0,hx1,hm⟩:=hx
    have hs:ij bk x m s (dv l):=hs
    obtain ⟨s1,s2,s3,s4,s5,s6,s7⟩:=id hs
    have lx:0<x.length:=by
      apply Nat.pos_of_ne_zero
      intro e
      have:=(lf s1).1 e
      omega
    have lm:0<m.length:=by
      apply Nat.pos_of_ne_zero
      intro e
      have:=(lf s2).1 e
      omega
    have rx:=CY (MD s1)
    have rm:=CY (MD s2)
    have dx:=Jh s1 s3
    have dm:=Jh s2 s4
    rw [dH,dH]
    refine ⟨⟨by omega,by omega⟩,lx,⟨by omega,by decide⟩,ab (fun he=> ?_) (fun he=> ?_)⟩
    · have he:=of_decide_eq_true he
      have he2:dv x%2=0:=by omega
      have hh:=NS hs he2
      refine ⟨dx,⟨by omega,by omega⟩,lm,⟨by omega,by decide⟩,fun _=>⟨by omega,by omega⟩,fun _=>lm,fun _=>⟨by omega,by decide⟩,ab (fun hk=> ?_) (fun hk=> ?_)⟩
      · have hk:dv m%8=3∨dv m%8=5:=by
          rw [Bool.or_eq_true] at hk
          rcases hk with hk | hk <;>have hk:=of_decide_eq_true hk <;>omega
        rw [decide_eq_true hk] at hh
        rw [cr]
        exact ⟨⟨hh,by omega,by omega,hm⟩,by omega⟩
      · have hk:¬ (dv m%8=3∨dv m%8=5):=by
          rw [Bool.or_eq_false_iff] at hk
          have k1:=of_decide_eq_false hk.1
          have k2:=of_decide_eq_false hk.2
          omega
        rw [decide_eq_false hk] at hh
        rw [cr]
        exact ⟨⟨hh,by omega,by omega,hm⟩,by omega⟩
    · have he:=of_decide_eq_false he
      have ho:dv x%2=1:=by omega
      refine ⟨⟨dx,dm⟩,ab (fun hk=> ?_) (fun hk=> ?_)⟩
      · have hk:=si.1 (of_decide_eq_true hk)
        have hw:=Of hs ho
        refine ⟨⟨by omega,by omega⟩,lx,⟨by omega,by decide⟩,fun _=>⟨by omega,by omega⟩,fun _=>lm,fun _=>⟨by omega,by decide⟩,ab (fun hf=> ?_) (fun hf=> ?_)⟩
        · have hf:dv x%4=3∧dv m%4=3:=by
            rw [Bool.and_eq_true] at hf
            have k1:=of_decide_eq_true hf.1
            have k2:=of_decide_eq_true hf.2
            omega
          rw [decide_eq_true hf] at hw
          rw [cr]
          exact ⟨⟨dm,dx,by omega⟩,BY hw (by omega),show dv m-dv x+dv x<dv a+dv n by omega⟩
        · have hf:¬ (dv x%4=3∧dv m%4=3):=by
            rw [Bool.and_eq_false_iff] at hf
            rcases hf with hf | hf <;>have k1:=of_decide_eq_false hf <;>omega
          rw [decide_eq_false hf] at hw
          rw [cr]
          exact ⟨⟨dm,dx,by omega⟩,BY hw (by omega),show dv m-dv x+dv x<dv a+dv n by omega⟩
      · have hk:dv m≤dv x:=by
          have:=of_decide_eq_false hk
          rw [si] at this
          omega
        rw [cr]
        exact ⟨⟨dx,dm,hk⟩,BY hs hk,show dv x-dv m+dv m<dv a+dv n by omega⟩
  · have hc:=of_decide_eq_false hc
    exact TB h ((lf h.1).1 (by omega))
theorem VX:af (base.with zm) 135 (ag Ew):=am Tc Tryz.func135 (by kernel_rfl) (by kernel_rfl) Tryz.call135 aeX Xc
theorem Sk:(base.with yx).Ok:=ae Tc VX
theorem LO {b:List (List CD)} (hb:ax b):bv b<256 ^ b.length:=by
  have:=A5 (pT hb)
  rwa [ip] at this
theorem Cm {b:List (List CD)} (hb:ax b) (hl:b.length≤1000):cg (bm (bv b)):=⟨uL _,by
  have h:=LO hb
  have h2:bv b<4294967296 ^ 250:=Nat.lt_of_lt_of_le h (Nat.le_trans (Nat.pow_le_pow_right (by decide) hl) (by decide+kernel))
  exact Nat.le_trans (Dv h2) (by decide)⟩
theorem JM:cg l7:=by rw [As];exact se (Nat.le_refl _)
theorem qn {x y:Nat} :0≤hZ x y↔y≤x:=by
  have:=si (x:=x) (y:=y)
  omega
theorem ZM:Lh:=by
  unfold Lh
  intro g b _ h _
  obtain ⟨hg,hB,hl⟩:=h
  have hA:=gq hB
  refine ab (fun h=>jt h rfl) (fun h=>⟨⟨hB,hl⟩,hg,⟨Cm hA hl,JM⟩,ab (fun k=>cz h ?_) (fun k=>cz h ?_)⟩)
  · have k:bk≤dv (bm (bv b)):=qn.1 (of_decide_eq_true k)
    rw [cr] at k
    exact jt (decide_eq_true k) rfl
  · have k:¬ bk≤dv (bm (bv b)):=fun k2=>of_decide_eq_false k (qn.2 k2)
    rw [cr] at k
    exact cz (decide_eq_false k) ⟨rfl,rfl⟩
theorem Z4:af (base.with yx) 134 (ag Ex):=am Sk Tryz.func134 (by kernel_rfl) (by kernel_rfl) Tryz.call134 ad5 ZM
theorem Tg:(base.with yn).Ok:=ae Sk Z4
theorem ny (b:List (List CD)):oW b=(decide ((b.length:Int)=96)&&(decide (bv b<bk)&&(decide (bv b≠0)&&decide (NT.sy (bv b) bk=1)))):=rfl
theorem ME {b:List (List CD)} (h:(b.length:Int)≠96):1=dA b:=by unfold dA;rw [if_pos h]
theorem zj {b:List (List CD)} (h:(b.length:Int)=96) (k:oW b=false):4=dA b:=by unfold dA;rw [if_neg (fun e=>e h),if_neg (by rw [k];decide)]
theorem MH {b:List (List CD)} (h:(b.length:Int)=96) (k:oW b=true):0=dA b:=by unfold dA;rw [if_neg (fun e=>e h),if_pos k]
theorem afj:TW:=by
  unfold TW
  intro b _ h
  obtain ⟨hB,hl⟩:=h
  refine ⟨⟨rfl,hB,hl⟩,ab (fun h=>ME (of_decide_eq_true h)) (fun h=> ?_)⟩
  have h:=of_decide_eq_false h
  have h:(b.length:Int)=96:=by omega
  refine ab (fun k=> ?_) (fun k=> ?_)
  · have k:bk≤bv b:=of_decide_eq_true k
    refine zj h ?_
    rw [ny,decide_eq_false (p:=bv b<bk) (by omega)];simp
  · have k:¬ bk≤bv b:=of_decide_eq_false k
    have k:bv b<bk:=by omega
    intro _
    have hz:((bm (bv b)).length:Int)=0↔bv b=0:=by
      have:=lf (m6 (bv b))
      rw [cr] at this
      omega
    refine ⟨fun h0=>⟨se (by omega),m6 _,?_,?_⟩,ab (fun h0=> ?_) (fun h0=> ?_)⟩
    · rw [cr]
      have:¬ ((bm (bv b)).length:Int)=0:=by simpa using h0
      rw [hz] at this
      omega
    · rw [cr];exact k
    · refine zj h ?_
      rw [ny]
      rw [Bool.or_eq_true] at h0
      rcases h0 with h0 | h0
      · have h0:=hz.1 (of_decide_eq_true h0)
        rw [decide_eq_false (p:=bv b≠0) (fun hn=>hn h0)];simp
      · rw [cr] at h0
        have h0:¬ NT.sy (bv b) bk=1:=by
          have h0:(!decide (NT.sy (bv b) bk=1))=true:=h0
          simpa using h0
        rw [decide_eq_false h0];simp
    · refine MH h ?_
      rw [Bool.or_eq_false_iff] at h0
      have h1:bv b≠0:=fun e=>of_decide_eq_false h0.1 (hz.2 e)
      have h2:=h0.2
      rw [cr] at h2
      have h2:NT.sy (bv b) bk=1:=by
        have h2:(!decide (NT.sy (bv b) bk=1))=false:=h2
        simpa using h2
      rw [ny,decide_eq_true h,decide_eq_true k,decide_eq_true h1,decide_eq_true h2];rfl
theorem ae8:af (base.with yn) 90 (ag Kk):=am Tg Tryz.func90 (by kernel_rfl) (by kernel_rfl) Tryz.call90 e90 afj
theorem c90:(base.with GW).Ok:=ae Tg ae8
theorem Lj:cg T7:=by
  refine ⟨⟨by kernel_rfl,fun d hd=> ?_⟩,by decide⟩
  have:∀ d∈cK T7,d<4294967296:=by decide+kernel
  exact this d hd
theorem adW:QG:=by
  unfold QG
  intro b _ h _
  obtain ⟨hB,hl⟩:=h
  have hA:=gq hB
  refine ab (fun h=>by unfold gU;rw [if_pos (of_decide_eq_true h)]) (fun h=>⟨⟨hB,hl⟩,trivial,⟨Cm hA hl,Lj⟩,ab (fun k=> ?_) (fun k=> ?_)⟩)
  · have k:go≤dv (bm (bv b)):=qn.1 (of_decide_eq_true k)
    rw [cr] at k
    unfold gU
    rw [if_neg (of_decide_eq_false h),if_pos k]
  · have k:¬ go≤dv (bm (bv b)):=fun k2=>of_decide_eq_false k (qn.2 k2)
    rw [cr] at k
    unfold gU
    rw [if_neg (of_decide_eq_false h),if_neg k]
theorem abO:af (base.with GW) 89 (ag Jv):=am c90 Tryz.func89 (by kernel_rfl) (by kernel_rfl) Tryz.call89 e89 adW
theorem c89:(base.with Eg).Ok:=ae c90 abO
end Go.Proofs.YteiecapbaeajdaaGreatDoor
namespace Go.Proofs.YteiecapbaeajdaaGreatDoor
open Go Go.Avc
set_option linter.unusedVariables false
def az (t:Int):Int:=if t=1 then 1 else if t=2 then 8 else if t=3 then 32 else if t=4 then 96 else 0
def bf (t:Int) (l:List (List CD)):Int:=if az t=0 then 6 else if (l.length:Int)%az t≠0 then 3 else if (l.length:Int) / az t<1∨1048576<(l.length:Int) / az t then 7 else 0
def bK (t:Int) (l:List (List CD)):Int:=if bf t l=0 then (l.length:Int) / az t else 0
def jc (t:Int) (l:List (List CD)) (i:Nat):List (List CD):=(l.take ((i+1)*(az t).toNat)).drop (i*(az t).toNat)
def zP (b:List (List CD)):Bool:=decide ((b.length:Int)=32)&&decide (bv b<go)
def qX (t:Int) (b:List (List CD)):Bool:=if t=3 then zP b else if t=4 then oW b else true
def j6 (t:Int) (l:List (List CD)):Nat→Bool
  | 0=>true
  | i+1=>j6 t l i&&qX t (jc t l i)
def bM (t:Int) (l:List (List CD)):Int:=if bf t l≠0 then bf t l else if j6 t l (bK t l).toNat then 0 else 4
def dL (k t c:Int) (l:List (List CD)):Bool:=decide (cH k t c [] =0)&&(bif decide (k≠1) then decide ((l.length:Int)=0) else (decide (bf t l=0)&&(decide (bK t l=c)&&decide (bM t l=0))))
abbrev acw:Pat:= .agg [i64,i64,i64,rb]
def fT (l:List (List CD)):Prop:=cI l∧l.length≤1000
def KL:Ct:= {ps:= [i64],bs:= [],pre:=fun _=>True,res:=fun | [.i t] => .ret i64 [] [.i (az t)] | _=>aj}
def K7:Ct:= {ps:= [i64,rb],bs:= [],pre:=fun | [.i t,.r l] =>fT l | _=>False,res:=fun | [.i t,.r l] => .ret (.tup [i64,i64]) [] [.i (bK t l),.i (bf t l)] | _=>aj}
def KS:Ct:= {ps:= [i64,rb],bs:= [],pre:=fun | [.i t,.r l] =>fT l | _=>False,res:=fun | [.i t,.r l] => .ret i64 [] [.i (bM t l)] | _=>aj}
def XL:List Dat→Ann
  | [.i t,.r l] => {cut:= [],loop:= [(5,[la 51 [(0,i64),(1,rb),(5,i64),(7,i64)] [] (fun
      | [.i t',.r l',.i n,.i i] =>t'=t∧l'=l∧bf t l=0∧n=bK t l∧0≤i∧i≤n∧j6 t l i.toNat=true
      | _=>False) (fun | [_,_,.i n,.i i] =>(n-i).toNat | _=>0)])]}
  | _=> {cut:= [],loop:= []}
def KP:Ct:= {ps:= [acw],bs:= [],pre:=fun | [.i k,.i t,.i c,.r l] =>fT l | _=>False,res:=fun | [.i k,.i t,.i c,.r l] => .ret .bool [] [.b (dL k t c l)] | _=>aj}
end Go.Proofs.YteiecapbaeajdaaGreatDoor
namespace Go.Proofs.YteiecapbaeajdaaGreatDoor
open Go Go.Avc Go.Proofs
set_option linter.unusedVariables false
set_option maxRecDepth 100000
def Qo:Prop:= ∀ (n:Int),
 True→
 bif decide (n=1) then 1=az n
 else
 bif decide (n=2) then 8=az n
 else
 bif decide (n=3) then 32=az n
 else bif decide (n=4) then 96=az n else 0=az n
theorem e88:av Eg Tryz.f88 KL au=Qo:=by kernel_rfl
noncomputable def D7:ai:=al Eg 88 (ag KL)
def QA:Prop:= ∀ (n:Int) (l:List (List CD)),
 l.length≤9223372036854775807→
 fT l→
 True∧
 bif decide (az n=0) then
 0=bK n l∧6=bf n l
 else
 l.length≤9223372036854775807→
 True∧
 (0≤(↑l.length:Int)∧0 < az n)∧
 bif decide ((↑l.length:Int) % az n≠0) then
 0=bK n l∧3=bf n l
 else
 l.length≤9223372036854775807→
 True∧
 (0≤(↑l.length:Int)∧0 < az n∧(↑l.length:Int)≤IntKind.i64.max)∧
 bif
 decide ((↑l.length:Int) / az n < 1) ||
 decide (1048576 < (↑l.length:Int) / az n) then
 0=bK n l∧7=bf n l
 else
 (↑l.length:Int) / az n=bK n l∧
 0=bf n l
theorem e49:av D7 Tryz.f49 K7 au=QA:=by kernel_rfl
noncomputable def Gl:ai:=al D7 49 (ag K7)
def O7:Prop:= ∀ (n:Int) (l:List (List CD)),
 l.length≤9223372036854775807→
 fT l→
 fT l∧
 bif decide (bf n l≠0) then bf n l=bM n l
 else
 ((n=n∧
 l=l∧
 bf n l=0∧
 bK n l=bK n l∧
 (0:Int)≤0∧0≤bK n l∧j6 n l 0=true)∧
 True)∧
 ∀ (n_1:Int) (l_1:List (List CD)) (n_2 n_3:Int),
 l_1.length≤9223372036854775807→
 n_1=n∧
 l_1=l∧
 bf n l=0∧
 n_2=bK n l∧0≤n_3∧n_3≤n_2∧j6 n l n_3.toNat=true→
 bif decide (n_3 < n_2) then
 True∧
 ((-9223372036854775808:Int)≤n_3*az n_1∧
 n_3*az n_1≤9223372036854775807)∧
 ((-9223372036854775808:Int)≤n_3+1∧n_3+1≤9223372036854775807)∧
 True∧
 ((-9223372036854775808:Int)≤(n_3+1)*az n_1∧
 (n_3+1)*az n_1≤9223372036854775807)∧
 (0≤n_3*az n_1∧
 n_3*az n_1≤(n_3+1)*az n_1∧
 (n_3+1)*az n_1≤↑l_1.length)∧
 bif decide (n_1=3) then
 (cI
 (List.drop (n_3*az n_1).toNat
 (List.take ((n_3+1)*az n_1).toNat l_1))∧
 (List.drop (n_3*az n_1).toNat
 (List.take ((n_3+1)*az n_1).toNat l_1)).length≤
 1000)∧
 bif decide (n_1=4) then
 (cI
 (List.drop (n_3*az n_1).toNat
 (List.take ((n_3+1)*az n_1).toNat l_1))∧
 (List.drop (n_3*az n_1).toNat
 (List.take ((n_3+1)*az n_1).toNat l_1)).length≤
 1000)∧
 bif
 decide
 (dA
 (List.drop (n_3*az n_1).toNat
 (List.take ((n_3+1)*az n_1).toNat l_1))≠
 (0:Int)) then
 4=bM n l
 else
 ((-9223372036854775808:Int)≤n_3+1∧n_3+1≤9223372036854775807)∧
 (n_1=n∧
 l_1=l∧
 bf n l=0∧
 n_2=bK n l∧
 0≤n_3+1∧
 n_3+1≤n_2∧j6 n l (n_3+1).toNat=true)∧
 (n_2 - (n_3+1)).toNat < (n_2 - n_3).toNat
 else
 bif
 decide
 (gU
 (List.drop (n_3*az n_1).toNat
 (List.take ((n_3+1)*az n_1).toNat l_1))≠
 (0:Int)) then
 4=bM n l
 else
 ((-9223372036854775808:Int)≤n_3+1∧n_3+1≤9223372036854775807)∧
 (n_1=n∧
 l_1=l∧
 bf n l=0∧
 n_2=bK n l∧
 0≤n_3+1∧
 n_3+1≤n_2∧j6 n l (n_3+1).toNat=true)∧
 (n_2 - (n_3+1)).toNat < (n_2 - n_3).toNat
 else
 bif decide (n_1=4) then
 (cI
 (List.drop (n_3*az n_1).toNat
 (List.take ((n_3+1)*az n_1).toNat l_1))∧
 (List.drop (n_3*az n_1).toNat
 (List.take ((n_3+1)*az n_1).toNat l_1)).length≤
 1000)∧
 bif
 decide
 (dA
 (List.drop (n_3*az n_1).toNat
 (List.take ((n_3+1)*az n_1).toNat l_1))≠
 (0:Int)) then
 4=bM n l
 else
 ((-9223372036854775808:Int)≤n_3+1∧n_3+1≤9223372036854775807)∧
 (n_1=n∧
 l_1=l∧
 bf n l=0∧
 n_2=bK n l∧
 0≤n_3+1∧
 n_3+1≤n_2∧j6 n l (n_3+1).toNat=true)∧
 (n_2 - (n_3+1)).toNat < (n_2 - n_3).toNat
 else
 ((-9223372036854775808:Int)≤n_3+1∧n_3+1≤9223372036854775807)∧
 (n_1=n∧
 l_1=l∧
 bf n l=0∧
 n_2=bK n l∧
 0≤n_3+1∧n_3+1≤n_2∧j6 n l (n_3+1).toNat=true)∧
 (n_2 - (n_3+1)).toNat < (n_2 - n_3).toNat
 else 0=bM n l
theorem e50:av Gl Tryz.f50 KS XL=O7:=by kernel_rfl
noncomputable def G5:ai:=al Gl 50 (ag KS)
def PL:Prop:= ∀ (n n_1 n_2:Int) (l:List (List CD)),
 l.length≤9223372036854775807→
 fT l→
 True∧
 bif decide (cH n n_1 n_2 [] ≠(0:Int)) then false=dL n n_1 n_2 l
 else
 bif decide (n≠1) then l.length≤9223372036854775807→decide ((↑l.length:Int)=0)=dL n n_1 n_2 l
 else
 fT l∧
 ((decide (bf n_1 l=0) && decide (bK n_1 l=n_2))=true→
 fT l)∧
 (decide (bf n_1 l=0) && decide (bK n_1 l=n_2) &&
 decide (bM n_1 l=0))=
 dL n n_1 n_2 l
theorem e23:av G5 Tryz.f23 KP au=PL:=by kernel_rfl
noncomputable def Ey:ai:=al G5 23 (ag KP)
end Go.Proofs.YteiecapbaeajdaaGreatDoor
