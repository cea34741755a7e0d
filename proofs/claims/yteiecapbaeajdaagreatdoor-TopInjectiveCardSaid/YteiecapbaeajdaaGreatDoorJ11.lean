/-
 Conditions of contracts, as the kernel reckons them (printed by a program of ours, checked by the kernel).
-/
import Derived.Test.YteiecapbaeajdaaGreatDoorJ10
import Derived.RangeFuncBox
import Derived.RangeFuncLeaves
import Derived.Shelf.Abstract
import Derived.WalkKit
import Derived.OwnWalkIn
import Derived.TacticsInMore
import Derived.LoopNIn
import Derived.LoopIn
import Derived.RegionIn
import Derived.Maps.AppendAt
import Derived.Test.YteiecapbaeajdaaGreatDoorProg
import Derived.Test.YteiecapbaeajdaaGreatDoorJ5
namespace Go.Proofs.YteiecapbaeajdaaGreatDoor
open Go Go.Avc Go.Proofs
set_option linter.unusedVariables false
set_option maxRecDepth 100000
def LJ:Prop:= ∀ (n:Int) (l:List (List CD)),
 l.length≤9223372036854775807→
 fT l→
 l.length≤1000∧
 bif decide (bf n l≠0) then bf n l=bM n l
 else
 True∧
 bif decide (n=1) then
 ((n=1∧bf n l=0∧(0:Int)=0)∧True)∧
 (∀ (l_1:List (List CD)) (n_1 n_2:Int),
 l_1.length≤9223372036854775807→
 n=1∧bf n l=0∧n_1=0→
 ((bw true !true)=true→l_1.length≤9223372036854775807)→0=bM n l)∧
 (∀ (l_1:List (List CD)) (n_1 n_2:Int) (l_2:List (List CD)),
 l_1.length≤9223372036854775807→
 n=2∧bf n l=0∧n_1=0→
 ((bw true !true)=true→l_1.length≤9223372036854775807)→0=bM n l)∧
 (∀ (l_1:List (List CD)) (n_1 n_2:Int) (l_2:List (List CD)),
 l_1.length≤9223372036854775807→
 fl n l 3 l_1 n_1 n_2→
 ((bw true !false)=true→l_1.length≤9223372036854775807)→
 bif !false && decide (n_1 < ↑l_1.length) then
 ((-9223372036854775808:Int)≤n_1+n_2∧n_1+n_2≤9223372036854775807)∧
 (0≤n_1∧n_1≤n_1+n_2∧n_1+n_2≤↑l_1.length)∧
 (ax (List.drop n_1.toNat (List.take (n_1+n_2).toNat l_1))∧
 (List.drop n_1.toNat (List.take (n_1+n_2).toNat l_1)).length≤1000)∧
 bif decide (gU (List.drop n_1.toNat (List.take (n_1+n_2).toNat l_1))≠0) then
 4=bM n l
 else
 ((-9223372036854775808:Int)≤n_1+n_2∧n_1+n_2≤9223372036854775807)∧
 fl n l 3 l_1 (n_1+n_2) n_2∧
 (↑l_1.length - (n_1+n_2)).toNat < (↑l_1.length - n_1).toNat
 else 0=bM n l)∧
 ∀ (l_1:List (List CD)) (n_1 n_2:Int) (l_2:List (List CD)),
 l_1.length≤9223372036854775807→
 fl n l 4 l_1 n_1 n_2→
 ((bw true !false)=true→l_1.length≤9223372036854775807)→
 bif !false && decide (n_1 < ↑l_1.length) then
 ((-9223372036854775808:Int)≤n_1+n_2∧n_1+n_2≤9223372036854775807)∧
 (0≤n_1∧n_1≤n_1+n_2∧n_1+n_2≤↑l_1.length)∧
 (ax (List.drop n_1.toNat (List.take (n_1+n_2).toNat l_1))∧
 (List.drop n_1.toNat (List.take (n_1+n_2).toNat l_1)).length≤1000)∧
 bif decide (dA (List.drop n_1.toNat (List.take (n_1+n_2).toNat l_1))≠0) then
 4=bM n l
 else
 ((-9223372036854775808:Int)≤n_1+n_2∧n_1+n_2≤9223372036854775807)∧
 fl n l 4 l_1 (n_1+n_2) n_2∧
 (↑l_1.length - (n_1+n_2)).toNat < (↑l_1.length - n_1).toNat
 else 0=bM n l
 else
 bif decide (n=2) then
 ((n=2∧bf n l=0∧(0:Int)=0)∧True)∧
 (∀ (l_1:List (List CD)) (n_1 n_2:Int),
 l_1.length≤9223372036854775807→
 n=1∧bf n l=0∧n_1=0→
 ((bw true !true)=true→l_1.length≤9223372036854775807)→0=bM n l)∧
 (∀ (l_1:List (List CD)) (n_1 n_2:Int) (l_2:List (List CD)),
 l_1.length≤9223372036854775807→
 n=2∧bf n l=0∧n_1=0→
 ((bw true !true)=true→l_1.length≤9223372036854775807)→0=bM n l)∧
 (∀ (l_1:List (List CD)) (n_1 n_2:Int) (l_2:List (List CD)),
 l_1.length≤9223372036854775807→
 fl n l 3 l_1 n_1 n_2→
 ((bw true !false)=true→l_1.length≤9223372036854775807)→
 bif !false && decide (n_1 < ↑l_1.length) then
 ((-9223372036854775808:Int)≤n_1+n_2∧n_1+n_2≤9223372036854775807)∧
 (0≤n_1∧n_1≤n_1+n_2∧n_1+n_2≤↑l_1.length)∧
 (ax (List.drop n_1.toNat (List.take (n_1+n_2).toNat l_1))∧
 (List.drop n_1.toNat (List.take (n_1+n_2).toNat l_1)).length≤1000)∧
 bif decide (gU (List.drop n_1.toNat (List.take (n_1+n_2).toNat l_1))≠0) then
 4=bM n l
 else
 ((-9223372036854775808:Int)≤n_1+n_2∧n_1+n_2≤9223372036854775807)∧
 fl n l 3 l_1 (n_1+n_2) n_2∧
 (↑l_1.length - (n_1+n_2)).toNat < (↑l_1.length - n_1).toNat
 else 0=bM n l)∧
 ∀ (l_1:List (List CD)) (n_1 n_2:Int) (l_2:List (List CD)),
 l_1.length≤9223372036854775807→
 fl n l 4 l_1 n_1 n_2→
 ((bw true !false)=true→l_1.length≤9223372036854775807)→
 bif !false && decide (n_1 < ↑l_1.length) then
 ((-9223372036854775808:Int)≤n_1+n_2∧n_1+n_2≤9223372036854775807)∧
 (0≤n_1∧n_1≤n_1+n_2∧n_1+n_2≤↑l_1.length)∧
 (ax (List.drop n_1.toNat (List.take (n_1+n_2).toNat l_1))∧
 (List.drop n_1.toNat (List.take (n_1+n_2).toNat l_1)).length≤1000)∧
 bif decide (dA (List.drop n_1.toNat (List.take (n_1+n_2).toNat l_1))≠0) then
 4=bM n l
 else
 ((-9223372036854775808:Int)≤n_1+n_2∧n_1+n_2≤9223372036854775807)∧
 fl n l 4 l_1 (n_1+n_2) n_2∧
 (↑l_1.length - (n_1+n_2)).toNat < (↑l_1.length - n_1).toNat
 else 0=bM n l
 else
 bif decide (n=3) then
 (fl n l 3 l 0 32∧True)∧
 (∀ (l_1:List (List CD)) (n_1 n_2:Int),
 l_1.length≤9223372036854775807→
 n=1∧bf n l=0∧n_1=0→
 ((bw true !true)=true→l_1.length≤9223372036854775807)→0=bM n l)∧
 (∀ (l_1:List (List CD)) (n_1 n_2:Int) (l_2:List (List CD)),
 l_1.length≤9223372036854775807→
 n=2∧bf n l=0∧n_1=0→
 ((bw true !true)=true→l_1.length≤9223372036854775807)→0=bM n l)∧
 (∀ (l_1:List (List CD)) (n_1 n_2:Int) (l_2:List (List CD)),
 l_1.length≤9223372036854775807→
 fl n l 3 l_1 n_1 n_2→
 ((bw true !false)=true→l_1.length≤9223372036854775807)→
 bif !false && decide (n_1 < ↑l_1.length) then
 ((-9223372036854775808:Int)≤n_1+n_2∧n_1+n_2≤9223372036854775807)∧
 (0≤n_1∧n_1≤n_1+n_2∧n_1+n_2≤↑l_1.length)∧
 (ax (List.drop n_1.toNat (List.take (n_1+n_2).toNat l_1))∧
 (List.drop n_1.toNat (List.take (n_1+n_2).toNat l_1)).length≤1000)∧
 bif decide (gU (List.drop n_1.toNat (List.take (n_1+n_2).toNat l_1))≠0) then
 4=bM n l
 else
 ((-9223372036854775808:Int)≤n_1+n_2∧n_1+n_2≤9223372036854775807)∧
 fl n l 3 l_1 (n_1+n_2) n_2∧
 (↑l_1.length - (n_1+n_2)).toNat < (↑l_1.length - n_1).toNat
 else 0=bM n l)∧
 ∀ (l_1:List (List CD)) (n_1 n_2:Int) (l_2:List (List CD)),
 l_1.length≤9223372036854775807→
 fl n l 4 l_1 n_1 n_2→
 ((bw true !false)=true→l_1.length≤9223372036854775807)→
 bif !false && decide (n_1 < ↑l_1.length) then
 ((-9223372036854775808:Int)≤n_1+n_2∧n_1+n_2≤9223372036854775807)∧
 (0≤n_1∧n_1≤n_1+n_2∧n_1+n_2≤↑l_1.length)∧
 (ax (List.drop n_1.toNat (List.take (n_1+n_2).toNat l_1))∧
 (List.drop n_1.toNat (List.take (n_1+n_2).toNat l_1)).length≤1000)∧
 bif decide (dA (List.drop n_1.toNat (List.take (n_1+n_2).toNat l_1))≠0) then
 4=bM n l
 else
 ((-9223372036854775808:Int)≤n_1+n_2∧n_1+n_2≤9223372036854775807)∧
 fl n l 4 l_1 (n_1+n_2) n_2∧
 (↑l_1.length - (n_1+n_2)).toNat < (↑l_1.length - n_1).toNat
 else 0=bM n l
 else
 bif decide (n=4) then
 (fl n l 4 l 0 96∧True)∧
 (∀ (l_1:List (List CD)) (n_1 n_2:Int),
 l_1.length≤9223372036854775807→
 n=1∧bf n l=0∧n_1=0→
 ((bw true !true)=true→l_1.length≤9223372036854775807)→0=bM n l)∧
 (∀ (l_1:List (List CD)) (n_1 n_2:Int) (l_2:List (List CD)),
 l_1.length≤9223372036854775807→
 n=2∧bf n l=0∧n_1=0→
 ((bw true !true)=true→l_1.length≤9223372036854775807)→0=bM n l)∧
 (∀ (l_1:List (List CD)) (n_1 n_2:Int) (l_2:List (List CD)),
 l_1.length≤9223372036854775807→
 fl n l 3 l_1 n_1 n_2→
 ((bw true !false)=true→l_1.length≤9223372036854775807)→
 bif !false && decide (n_1 < ↑l_1.length) then
 ((-9223372036854775808:Int)≤n_1+n_2∧n_1+n_2≤9223372036854775807)∧
 (0≤n_1∧n_1≤n_1+n_2∧n_1+n_2≤↑l_1.length)∧
 (ax (List.drop n_1.toNat (List.take (n_1+n_2).toNat l_1))∧
 (List.drop n_1.toNat (List.take (n_1+n_2).toNat l_1)).length≤1000)∧
 bif decide (gU (List.drop n_1.toNat (List.take (n_1+n_2).toNat l_1))≠0) then
 4=bM n l
 else
 ((-9223372036854775808:Int)≤n_1+n_2∧n_1+n_2≤9223372036854775807)∧
 fl n l 3 l_1 (n_1+n_2) n_2∧
 (↑l_1.length - (n_1+n_2)).toNat < (↑l_1.length - n_1).toNat
 else 0=bM n l)∧
 ∀ (l_1:List (List CD)) (n_1 n_2:Int) (l_2:List (List CD)),
 l_1.length≤9223372036854775807→
 fl n l 4 l_1 n_1 n_2→
 ((bw true !false)=true→l_1.length≤9223372036854775807)→
 bif !false && decide (n_1 < ↑l_1.length) then
 ((-9223372036854775808:Int)≤n_1+n_2∧n_1+n_2≤9223372036854775807)∧
 (0≤n_1∧n_1≤n_1+n_2∧n_1+n_2≤↑l_1.length)∧
 (ax (List.drop n_1.toNat (List.take (n_1+n_2).toNat l_1))∧
 (List.drop n_1.toNat (List.take (n_1+n_2).toNat l_1)).length≤1000)∧
 bif decide (dA (List.drop n_1.toNat (List.take (n_1+n_2).toNat l_1))≠0) then
 4=bM n l
 else
 ((-9223372036854775808:Int)≤n_1+n_2∧n_1+n_2≤9223372036854775807)∧
 fl n l 4 l_1 (n_1+n_2) n_2∧
 (↑l_1.length - (n_1+n_2)).toNat < (↑l_1.length - n_1).toNat
 else 0=bM n l
 else
 ((n=1∧bf n l=0∧(0:Int)=0)∧True)∧
 (∀ (l_1:List (List CD)) (n_1 n_2:Int),
 l_1.length≤9223372036854775807→
 n=1∧bf n l=0∧n_1=0→
 ((bw true !true)=true→l_1.length≤9223372036854775807)→0=bM n l)∧
 (∀ (l_1:List (List CD)) (n_1 n_2:Int) (l_2:List (List CD)),
 l_1.length≤9223372036854775807→
 n=2∧bf n l=0∧n_1=0→
 ((bw true !true)=true→l_1.length≤9223372036854775807)→0=bM n l)∧
 (∀ (l_1:List (List CD)) (n_1 n_2:Int) (l_2:List (List CD)),
 l_1.length≤9223372036854775807→
 fl n l 3 l_1 n_1 n_2→
 ((bw true !false)=true→l_1.length≤9223372036854775807)→
 bif !false && decide (n_1 < ↑l_1.length) then
 ((-9223372036854775808:Int)≤n_1+n_2∧n_1+n_2≤9223372036854775807)∧
 (0≤n_1∧n_1≤n_1+n_2∧n_1+n_2≤↑l_1.length)∧
 (ax (List.drop n_1.toNat (List.take (n_1+n_2).toNat l_1))∧
 (List.drop n_1.toNat (List.take (n_1+n_2).toNat l_1)).length≤1000)∧
 bif decide (gU (List.drop n_1.toNat (List.take (n_1+n_2).toNat l_1))≠0) then
 4=bM n l
 else
 ((-9223372036854775808:Int)≤n_1+n_2∧n_1+n_2≤9223372036854775807)∧
 fl n l 3 l_1 (n_1+n_2) n_2∧
 (↑l_1.length - (n_1+n_2)).toNat < (↑l_1.length - n_1).toNat
 else 0=bM n l)∧
 ∀ (l_1:List (List CD)) (n_1 n_2:Int) (l_2:List (List CD)),
 l_1.length≤9223372036854775807→
 fl n l 4 l_1 n_1 n_2→
 ((bw true !false)=true→l_1.length≤9223372036854775807)→
 bif !false && decide (n_1 < ↑l_1.length) then
 ((-9223372036854775808:Int)≤n_1+n_2∧n_1+n_2≤9223372036854775807)∧
 (0≤n_1∧n_1≤n_1+n_2∧n_1+n_2≤↑l_1.length)∧
 (ax (List.drop n_1.toNat (List.take (n_1+n_2).toNat l_1))∧
 (List.drop n_1.toNat (List.take (n_1+n_2).toNat l_1)).length≤1000)∧
 bif decide (dA (List.drop n_1.toNat (List.take (n_1+n_2).toNat l_1))≠0) then
 4=bM n l
 else
 ((-9223372036854775808:Int)≤n_1+n_2∧n_1+n_2≤9223372036854775807)∧
 fl n l 4 l_1 (n_1+n_2) n_2∧
 (↑l_1.length - (n_1+n_2)).toNat < (↑l_1.length - n_1).toNat
 else 0=bM n l
theorem ae5:av wZ Tryz.f93 Gu QS=LJ:=by kernel_rfl
noncomputable def zo:ai:=al wZ 93 (ag Gu)
def JY:Prop:= ∀ (n n_1 n_2:Int) (l:List (List CD)),
 l.length≤9223372036854775807→
 fT l→
 True∧
 bif decide (cH n n_1 n_2 [] ≠(0:Int)) then false=dL n n_1 n_2 l
 else
 bif decide (n≠1) then l.length≤9223372036854775807→decide ((↑l.length:Int)=0)=dL n n_1 n_2 l
 else
 l.length≤1000∧
 (decide (bK n_1 l=n_2)=true→fT l)∧
 (decide (bK n_1 l=n_2) && decide (bM n_1 l=0))=
 dL n n_1 n_2 l
theorem adA:av zo Tryz.f95 EG au=JY:=by kernel_rfl
noncomputable def zq:ai:=al zo 95 (ag EG)
end Go.Proofs.YteiecapbaeajdaaGreatDoor
namespace Go.Proofs.YteiecapbaeajdaaGreatDoor
open Go Go.Avc Go.Proofs
set_option linter.unusedVariables false
set_option linter.unusedSimpArgs false
set_option maxRecDepth 100000
theorem At {t:Int} {l:List (List CD)} (h3:t≠3) (h4:t≠4):∀ n,j6 t l n=true
  | 0=>rfl
  | n+1=>by
    rw [j6,At h3 h4 n]
    unfold qX
    rw [if_neg h3,if_neg h4];rfl
theorem gQ {t:Int} {l:List (List CD)} (h3:t≠3) (h4:t≠4) (hk:bf t l=0):0=bM t l:=by
  unfold bM
  rw [if_neg (fun e=>e hk),At h3 h4];rfl
theorem rK {t:Int} {l:List (List CD)} (hk:bf t l=0):az t≠0∧(l.length:Int)=az t*bK t l∧0≤bK t l:=by
  have j7:az t≠0:=fun e=>by unfold bf at hk;rw [if_pos e] at hk;cases hk
  have hm:(l.length:Int)%az t=0:=by
    apply Classical.byContradiction
    intro e
    unfold bf at hk
    rw [if_neg j7,if_pos e] at hk;cases hk
  have hn:bK t l=(l.length:Int) / az t:=by unfold bK;rw [if_pos hk]
  have hs:=pD t
  refine ⟨j7,?_,by rw [hn];exact Int.ediv_nonneg (by omega) (by omega)⟩
  rw [hn]
  have:=Int.emod_add_mul_ediv (l.length:Int) (az t)
  omega
theorem In {t u i s:Int} {l l':List (List CD)} (hl:fT l) (kd:List (List CD)→Int) (hkd:∀ b,kd b=0↔qX u b=true) (h:fl t l u l' i s):
    bif !false&&decide (i<(l'.length:Int)) then
      (-9223372036854775808≤i+s∧i+s≤9223372036854775807)∧(0≤i∧i≤i+s∧i+s≤(l'.length:Int))∧
      (ax (List.drop i.toNat (List.take (i+s).toNat l'))∧(List.drop i.toNat (List.take (i+s).toNat l')).length≤1000)∧
      bif decide (kd (List.drop i.toNat (List.take (i+s).toNat l'))≠0) then 4=bM t l
      else (-9223372036854775808≤i+s∧i+s≤9223372036854775807)∧fl t l u l' (i+s) s∧((l'.length:Int)-(i+s)).toNat<((l'.length:Int)-i).toNat
    else 0=bM t l:=by
  obtain ⟨e1,e2,hk,e3,i0,i1,im,hv⟩:=h
  rw [e2]
  have ⟨j7,hlen,hn0⟩:=rK hk
  have hs:=pD t
  have hll:=hl.2
  have hd:=Int.emod_add_mul_ediv i (az t)
  rw [im] at hd
  obtain ⟨j,hj⟩:∃ j:Nat,i / az t=j:=⟨(i / az t).toNat,by have:=Int.ediv_nonneg i0 (show 0≤az t by omega);omega⟩
  rw [hj] at hd hv
  rw [Int.toNat_natCast] at hv
  have hij:i=az t*j:=by omega
  refine ab (fun hc=> ?_) (fun hc=> ?_)
  · have hc:i<(l.length:Int):=of_decide_eq_true hc
    have hjn:(j:Int)<bK t l:=by
      rw [hij,hlen] at hc
      exact Int.lt_of_mul_lt_mul_left hc (by omega)
    have hle:i+s≤l.length:=by
      rw [e3,hij,hlen]
      have:=Int.mul_le_mul_of_nonneg_left (show (j:Int)+1≤bK t l by omega) (show 0≤az t by omega)
      rw [Int.mul_add,Int.mul_one] at this
      exact this
    have n1:i.toNat=j*(az t).toNat:=by rw [hij,Int.mul_comm,Int.toNat_mul (by omega) (by omega),Int.toNat_natCast]
    have n2:(i+s).toNat=(j+1)*(az t).toNat:=by
      rw [e3,hij,show az t*(j:Int)+az t=((j:Int)+1)*az t from by grind,Int.toNat_mul (by omega) (by omega)]
      congr 1
    have ev:List.drop i.toNat (List.take (i+s).toNat l)=jc t l j:=by rw [n1,n2];rfl
    rw [ev]
    have hB:cI (jc t l j):=qv hl.1 _ _
    have hL:(jc t l j).length≤1000:=by
      unfold jc
      rw [List.length_drop,List.length_take]
      omega
    refine ⟨by omega,⟨by omega,by omega,hle⟩,⟨gq hB,hL⟩,ab (fun k=> ?_) (fun k=> ?_)⟩
    · have k:=of_decide_eq_true k
      refine yC hk (i:=j) (by omega) ?_
      cases hf:qX t (jc t l j) with
      | false=>rfl
      | true=>rw [e1] at hf;exact absurd ((hkd _).2 (by rw [e1];exact hf)) k
    · have k:kd (jc t l j)=0:=by simpa using of_decide_eq_false k
      have k:=(hkd _).1 k
      refine ⟨by omega,⟨e1,rfl,hk,e3,by omega,hle,?_,?_⟩,by omega⟩
      · rw [e3,Int.add_emod_right];exact im
      · have:(i+s) / az t=((j+1:Nat):Int):=by
          rw [e3,hij,show az t*(j:Int)+az t=az t*((j+1:Nat):Int) from by simp [Int.mul_add]]
          exact Int.mul_ediv_cancel_left _ j7
        rw [this,Int.toNat_natCast,j6,hv,e1]
        rw [e1] at k
        rw [k];rfl
  · have hc:¬ i<(l.length:Int):=of_decide_eq_false hc
    have:i=l.length:=by omega
    have hjn:(j:Int)=bK t l:=by
      rw [this,hlen] at hij
      exact (Int.eq_of_mul_eq_mul_left j7 hij).symm
    unfold bM
    rw [if_neg (fun e=>e hk),← hjn,Int.toNat_natCast,hv];rfl
theorem WF:LJ:=by
  unfold LJ
  intro t l _ hl
  have A3:=fun l1 n1 n2 (h:fl t l 3 l1 n1 n2)=>In (u:=3) hl gU (fun b=>vC b) h
  have A4:=fun l1 n1 n2 (h:fl t l 4 l1 n1 n2)=>In (u:=4) hl dA (fun b=>vg b) h
  have B1:t=1∧bf t l=0∧(0:Int)=0→0=bM t l:=fun h=>gQ (by omega) (by omega) h.2.1
  refine ⟨hl.2,ab (fun h=> ?_) (fun h=> ?_)⟩
  · have h:=of_decide_eq_true h
    unfold bM
    rw [if_pos h]
  have hk:bf t l=0:=by simpa using of_decide_eq_false h
  refine ⟨trivial,?_⟩
  refine ab (fun h1=> ?_) (fun h1=>ab (fun h2=> ?_) (fun h2=>ab (fun h3=> ?_) (fun h3=>ab (fun h4=> ?_) (fun h4=> ?_))))
  · refine ⟨⟨⟨of_decide_eq_true h1,hk,rfl⟩,trivial⟩,fun _ _ _ _ h _=>gQ (by omega) (by omega) h.2.1,fun _ _ _ _ _ h _=>gQ (by omega) (by omega) h.2.1,fun l1 n1 n2 _ _ h _=>A3 l1 n1 n2 h,fun l1 n1 n2 _ _ h _=>A4 l1 n1 n2 h⟩
  · refine ⟨⟨⟨of_decide_eq_true h2,hk,rfl⟩,trivial⟩,fun _ _ _ _ h _=>gQ (by omega) (by omega) h.2.1,fun _ _ _ _ _ h _=>gQ (by omega) (by omega) h.2.1,fun l1 n1 n2 _ _ h _=>A3 l1 n1 n2 h,fun l1 n1 n2 _ _ h _=>A4 l1 n1 n2 h⟩
  · have h3:=of_decide_eq_true h3
    refine ⟨⟨⟨h3,rfl,hk,by rw [h3];rfl,by omega,by omega,by rw [Int.zero_emod],by rw [Int.zero_ediv];rfl⟩,trivial⟩,fun _ _ _ _ h _=>gQ (by omega) (by omega) h.2.1,fun _ _ _ _ _ h _=>gQ (by omega) (by omega) h.2.1,fun l1 n1 n2 _ _ h _=>A3 l1 n1 n2 h,fun l1 n1 n2 _ _ h _=>A4 l1 n1 n2 h⟩
  · have h4:=of_decide_eq_true h4
    refine ⟨⟨⟨h4,rfl,hk,by rw [h4];rfl,by omega,by omega,by rw [Int.zero_emod],by rw [Int.zero_ediv];rfl⟩,trivial⟩,fun _ _ _ _ h _=>gQ (by omega) (by omega) h.2.1,fun _ _ _ _ _ h _=>gQ (by omega) (by omega) h.2.1,fun l1 n1 n2 _ _ h _=>A3 l1 n1 n2 h,fun l1 n1 n2 _ _ h _=>A4 l1 n1 n2 h⟩
  · exfalso
    have j7:=(rK hk).1
    refine j7 ?_
    unfold az
    rw [if_neg (of_decide_eq_false h1),if_neg (of_decide_eq_false h2),if_neg (of_decide_eq_false h3),if_neg (of_decide_eq_false h4)]
theorem U3:af (base.with wZ) 93 (ag Gu):=am Pt Tryz.func93 (by kernel_rfl) (by kernel_rfl) Tryz.call93 ae5 WF
theorem UC:(base.with zo).Ok:=ae Pt U3
theorem Vb:JY:=by
  unfold JY
  intro k t c l _ hl
  refine ⟨trivial,ab (fun h=> ?_) (fun h=>ab (fun h2=>fun _=> ?_) (fun h2=>⟨hl.2,fun _=>hl,?_⟩))⟩
  · unfold dL
    rw [decide_eq_false (of_decide_eq_true h)];rfl
  · unfold dL
    have h:cH k t c [] =0:=by simpa using of_decide_eq_false h
    rw [decide_eq_true h,h2];rfl
  · unfold dL
    have h:cH k t c [] =0:=by simpa using of_decide_eq_false h
    rw [decide_eq_true h,h2]
    by_cases hk:bf t l=0
    · rw [decide_eq_true hk];rfl
    · have:bM t l≠0:=by unfold bM;rw [if_pos hk];exact hk
      rw [decide_eq_false hk,decide_eq_false this]
      simp
theorem Z0:af (base.with zo) 95 (ag EG):=am UC Tryz.func95 (by kernel_rfl) (by kernel_rfl) Tryz.call95 adA Vb
theorem Uo:(base.with zq).Ok:=ae UC Z0
end Go.Proofs.YteiecapbaeajdaaGreatDoor
namespace Go.Proofs.YteiecapbaeajdaaGreatDoor
open Go Go.Avc
set_option linter.unusedVariables false
def io (k t n:Int) (l:List (List CD)):List (List CD):=if dL k t n l=true then [k%256,t%256,n%256,n / 256%256,n / 65536%256,n / 16777216%256].map ac++l else []
def F0:Ct:= {ps:= [q7],bs:= [],pre:=fun | [.i k,.i t,.i n,.r l] =>fT l | _=>False,res:=fun | [.i k,.i t,.i n,.r l] => .ret (.own 0) [ob] [.r (io k t n l)] | _=>aj}
def J0:Ct:= {ps:= [q7],bs:= [],pre:=fun _=>True,res:=fun | [.i k,.i t,.i n,.r l] => .ret q7 [] [.i k,.i t,.i n,.r l] | _=>aj}
def K3:Ct:= {ps:= [w4,w4],bs:= [],pre:=fun _=>True,res:=fun | [.li a,.li b] => .ret .bool [] [.b (decide (a=b))] | _=>aj}
end Go.Proofs.YteiecapbaeajdaaGreatDoor
namespace Go.Proofs.YteiecapbaeajdaaGreatDoor
open Go Go.Avc Go.Proofs
set_option linter.unusedVariables false
set_option maxRecDepth 100000
def Rf:Prop:= ∀ (n n_1 n_2:Int) (l:List (List CD)),
 l.length≤9223372036854775807→
 fT l→
 fT l∧
 bif !dL n n_1 n_2 l then [] =io n n_1 n_2 l
 else
 (0:Int)≤8∧
 (0:Int)≤16∧
 (0:Int)≤24∧
 ((6+l.length)*1≤140737488355328∧6+l.length≤9223372036854775807)∧
 [[.int (IntKind.u8.wrap n)],[.int (IntKind.u8.wrap n_1)],[.int (IntKind.u8.wrap n_2)],
 [.int (IntKind.u8.wrap (aw .i64 n_2 8))],
 [.int (IntKind.u8.wrap (aw .i64 n_2 16))],
 [.int (IntKind.u8.wrap (aw .i64 n_2 24))]] ++
 l=
 io n n_1 n_2 l
theorem abP:av zq Tryz.f58 F0 au=Rf:=by kernel_rfl
noncomputable def xW:ai:=al zq 58 (ag F0)
def P59:Prop:= ∀ (n n_1 n_2:Int) (l:List (List CD)),l.length≤9223372036854775807→True→n=n∧n_1=n_1∧n_2=n_2∧l=l
theorem e59:av xW Tryz.f59 J0 au=P59:=by kernel_rfl
noncomputable def y7:ai:=al xW 59 (ag J0)
end Go.Proofs.YteiecapbaeajdaaGreatDoor
namespace Go.Proofs.YteiecapbaeajdaaGreatDoor
open Go Go.Avc Go.Proofs
set_option linter.unusedVariables false
set_option linter.unusedSimpArgs false
set_option maxRecDepth 100000
theorem Vy:Rf:=by
  rintro k t n l hl hp
  have hn:=hp.2
  unfold io
  refine ⟨hp,ab (fun h=> ?_) fun h=>⟨by omega,by omega,by omega,⟨by omega,by omega⟩,?_⟩⟩
  · have h:dL k t n l=false:=by simpa using h
    rw [if_neg (by rw [h];decide)]
  · have h:dL k t n l=true:=by simpa using h
    rw [if_pos h,mu,mu,mu,mu,mu,mu,show aw .i64 n 8=n / 256 from qs n 8 (by omega),show aw .i64 n 16=n / 65536 from qs n 16 (by omega),show aw .i64 n 24=n / 16777216 from qs n 24 (by omega)]
    rfl
theorem U1:af (base.with zq) 58 (ag F0):=am Uo Tryz.func58 (by kernel_rfl) (by kernel_rfl) Tryz.call58 abP Vy
theorem Rp:(base.with xW).Ok:=ae Uo U1
theorem aeu:P59:=fun k t n l _ _=>⟨rfl,rfl,rfl,rfl⟩
theorem aeI:af (base.with xW) 59 (ag J0):=am Rp Tryz.func59 (by kernel_rfl) (by kernel_rfl) Tryz.call59 e59 aeu
theorem Q6:(base.with y7).Ok:=ae Rp aeI
end Go.Proofs.YteiecapbaeajdaaGreatDoor
namespace Go.Proofs.YteiecapbaeajdaaGreatDoor
open Go Go.Avc
set_option linter.unusedVariables false
def La:Ct:= {ps:= [u64],bs:= [],pre:=fun | [.i n] =>ak n | _=>False,res:=fun | [.i n] => .ret w4 [] [.li (ck [n,0,0,0])] | _=>aj}
end Go.Proofs.YteiecapbaeajdaaGreatDoor
namespace Go.Proofs.YteiecapbaeajdaaGreatDoor
open Go Go.Avc Go.Proofs
set_option linter.unusedVariables false
set_option maxRecDepth 100000
def PO:Prop:= ∀ (n:Int),
 ak n→
 aq ([0,0,0,0].set 0 n)∧
 ck ([0,0,0,0].set 0 n)=
 ck [n,0,0,0]
theorem e96:av y7 Tryz.f96 La au=PO:=by kernel_rfl
noncomputable def Hd:ai:=al y7 96 (ag La)
end Go.Proofs.YteiecapbaeajdaaGreatDoor
namespace Go.Proofs.YteiecapbaeajdaaGreatDoor
open Go Go.Avc Go.Proofs
set_option linter.unusedVariables false
set_option linter.unusedSimpArgs false
theorem abY:PO:=by
  unfold PO
  intro n hn
  refine ⟨fun j=> ?_,rfl⟩
  show ak (([n,0,0,0] :List Int).getD j 0)
  match j with
  | 0=>exact hn
  | 1=>exact bg
  | 2=>exact bg
  | 3=>exact bg
  | j+4=>exact bg
theorem acJ:af (base.with y7) 96 (ag La):=am Q6 Tryz.func96 (by kernel_rfl) (by kernel_rfl) Tryz.call96 e96 abY
theorem OG:(base.with Hd).Ok:=ae Q6 acJ
end Go.Proofs.YteiecapbaeajdaaGreatDoor
namespace Go.Proofs.YteiecapbaeajdaaGreatDoor
open Go Go.Proofs
open Go.RowKit Go.Shelf
set_option linter.unusedVariables false
attribute [local go_sem] Oper.semAt_some
def kA (ad:Addr) (len k:Nat):Value:= .slice (some (ad.add (k*31))) (min 31 (len-k*31)) (min 31 (len-k*31))
set_option maxRecDepth 100000 in
set_option maxHeartbeats 2000000 in
theorem IK (F:Fence) (n:Nat) (h7:F.fn 183) (hro:F.round=none) (hn:1≤n) (ad:Addr) (l Bs Bn n₀ len cap K:Nat) (hreach:len≤100000) (hcap:len≤cap) (hK:K=(len+30) / 31) (J Jx:List Nat→World→Prop) (W:World) (hJ:AbidesFrom W.heap.size J)
    (hY:∀ pre x W,J pre W→pre.length<K→YieldAt F (n-1) Tryz.prog l #[kA ad len x] W fun e W'=>
      (e= .returned (.bool true)∧J (pre++ [x]) W'∧Below n₀ W W')∨(e= .returned (.bool false)∧Jx (pre++ [x]) W'))
    (h1:Bs<n₀) (h2:Bn<n₀) (hBs:W.cell? ⟨Bs,0,none⟩=some (.slice (some ad) len cap)) (hBn:W.cell? ⟨Bn,0,none⟩=some (.int .i64 31)) (h0:J [] W):
    CallsIn F n Tryz.prog 183 #[.func (.yield l) #[] #[],.pointer (some ⟨Bs,0,none⟩),.pointer (some ⟨Bn,0,none⟩)] W fun e W'=>(∃ v,e= .returned v)∧
      ((∃ ys,ys=List.range K∧J ys W')∨(∃ pre,(∃ k,k≤K∧pre=List.range k)∧Jx pre W')):=by
  refine callsIn_of_wp Tryz.func183 rfl h7 ?_ hro
  simp only [Tryz.ntmps183,List.size_toArray,List.length_cons,List.length_nil,Nat.reduceAdd,Nat.reduceSub,Array.replicate_succ,Array.replicate_zero,List.push_toArray,List.append_toArray,List.nil_append,List.cons_append]
  gi_wp2
  gi_loopw [4] (fun i wr=>∃ k:Nat,k≤K∧i= .int .i64 (k*31:Nat)∧J (List.range k) wr∧Below n₀ W wr)
    (fun i _=>len+31-(intOf i).toNat)
  case atStart=>exact ⟨0,Nat.zero_le _,rfl,h0,Below.refl _ _⟩
  case round=>
    obtain ⟨k,hk,rfl,hJs,hnx⟩:=hrel
    have hBs':wr.cell? ⟨Bs,0,none⟩=some (.slice (some ad) len cap):=(hnx.cell (p:=⟨Bs,0,none⟩) h1).trans hBs
    have hBn':wr.cell? ⟨Bn,0,none⟩=some (.int .i64 31):=(hnx.cell (p:=⟨Bn,0,none⟩) h2).trans hBn
    by_cases hlt:k*31<len
    · obtain ⟨fn,tmps,assign,body,hy,hR⟩:=hY _ k wr hJs (by rw [List.length_range];omega)
      unfold kA at hy
      obtain ⟨m,hm⟩:∃ m,min 31 (len-k*31)=m:=⟨_,rfl⟩
      have hm1:k*31+m≤len:=by omega
      have hm2:1≤m:=by omega
      have hm3:k*31<len→m=31∨k*31+m=len:=by omega
      gi_wp2
      have hne:¬ cap=k*31:=by omega
      have hmin:(if ((len-k*31:Nat):Int)<31 then ((len-k*31:Nat):Int) else 31)=(m:Int):=by split <;>omega
      have hcm:((k:Int)*31+m).toNat=k*31+m:=by omega
      refine wpIn_mono (Q:=fun e a w=>e= .normal∧w=wr.drew∧a= {tmps:= #[Value.func (Fn.yield l) #[] #[],Value.pointer (some {block:=Bs,off:=0}),Value.pointer (some {block:=Bn,off:=0}),undef,Value.int IntKind.i64 ((k:Int)*31),Value.int IntKind.i64 (m:Int),Value.int IntKind.i64 ((k:Int)*31),
          Value.slice (some ad) len cap,Value.int IntKind.i64 (len:Int),Value.bool true,u10,u11,u12,Value.int IntKind.i64 31,Value.slice (some ad) len cap,Value.int IntKind.i64 ((k:Int)*31),
          Value.slice (some (ad.add (k*31))) (len-k*31) (cap-k*31),Value.int IntKind.i64 ((len-k*31:Nat):Int),Value.int IntKind.i64 (m:Int),u19,u20,u21,u22,u23,u24,u25,u26,u27,u28,u29,u30],defers:= []}) ?h1 ?h2
      case h1=>
        gi_region
        all_goals (try (exfalso;omega))
        all_goals exact ⟨rfl,rfl,rfl⟩
      case h2=>
        rintro e a w ⟨rfl,rfl,rfl⟩
        have hJd:J (List.range k) wr.drew:=hJ _ wr wr.drew none hJs ⟨rfl,rfl,rfl,Nat.le_refl _,fun _ _ _=>rfl⟩ (fun r e=>by cases e)
        have hnd:Below n₀ W wr.drew:=⟨hnx.os,hnx.tape,hnx.output,hnx.size,hnx.block⟩
        have hBs':wr.drew.cell? ⟨Bs,0,none⟩=some (.slice (some ad) len cap):=hBs'
        have hBn':wr.drew.cell? ⟨Bn,0,none⟩=some (.int .i64 31):=hBn'
        generalize wr.drew=wd at *
        obtain ⟨fn,tmps,assign,body,hy,hR⟩:=hY _ k wd hJd (by rw [List.length_range];omega)
        unfold kA at hy
        rw [hm] at hy
        gi_wp2
        refine hR.mono ?_
        rintro e W3 (⟨rfl,hJ3,hk3⟩ | ⟨rfl,hJx3⟩)
        · have hBn3:W3.cell? ⟨Bn,0,none⟩=some (.int .i64 31):=(hk3.cell (p:=⟨Bn,0,none⟩) h2).trans hBn'
          gi_wp2
          go_roundw
          case rel=>exact ⟨k+1,by omega,by congr 1;omega,by rw [List.range_succ];exact hJ3,hnd.trans hk3⟩
          case measure=>simp [intOf];omega
        · gi_wp2
          refine bodyPost_ret (results_none rfl _ _ _) rfl ?_
          exact ⟨⟨_,rfl⟩,.inr ⟨_,⟨k+1,by omega,List.range_succ.symm⟩,hJx3⟩⟩
    · obtain rfl:k=K:=by omega
      gi_wp2
      go_end0
      exact ⟨⟨_,rfl⟩,.inl ⟨_,rfl,hJs⟩⟩
set_option maxRecDepth 100000 in
set_option maxHeartbeats 1000000 in
theorem wP (F:Fence) (n:Nat) (h7:F.fn 183) (hro:F.round=none) (l Bs Bn cap:Nat) (ad:Option Addr) (J:List Nat→World→Prop) (W:World) (hBs:W.cell? ⟨Bs,0,none⟩=some (.slice ad 0 cap)) (h0:J [] W):
    CallsIn F n Tryz.prog 183 #[.func (.yield l) #[] #[],.pointer (some ⟨Bs,0,none⟩),.pointer (some ⟨Bn,0,none⟩)] W fun e W'=>(∃ v,e= .returned v)∧J [] W':=by
  refine callsIn_of_wp Tryz.func183 rfl h7 ?_ hro
  simp only [Tryz.ntmps183,List.size_toArray,List.length_cons,List.length_nil,Nat.reduceAdd,Nat.reduceSub,Array.replicate_succ,Array.replicate_zero,List.push_toArray,List.append_toArray,List.nil_append,List.cons_append]
  gi_wp2
  gi_loopw [4] (fun i wr=>i= .int .i64 0∧J [] wr∧wr.cell? ⟨Bs,0,none⟩=some (.slice ad 0 cap)) (fun _ _=>0)
  case atStart=>exact ⟨rfl,h0,hBs⟩
  case round=>
    obtain ⟨rfl,hJs,hBs⟩:=hrel
    gi_wp2
    go_end0
    exact ⟨⟨_,rfl⟩,hJs⟩
theorem B9 (F:Fence) (n:Nat) (h7:F.fn 183) (hro:F.round=none) (hn:1≤n) (Bs Bn n₀:Nat) (ao:Option Addr) (ad:Addr) (len cap K:Nat) (w:World) (had:len≠0→ao=some ad) (hreach:len≤100000) (hcap:len≤cap) (hK:K=(len+30) / 31)
    (h1:Bs<n₀) (h2:Bn<n₀) (hn₀:n₀≤w.heap.size) (hBs:w.cell? ⟨Bs,0,none⟩=some (.slice ao len cap)) (hBn:w.cell? ⟨Bn,0,none⟩=some (.int .i64 31)):
    SeqStopsK F n Tryz.prog 183 #[.pointer (some ⟨Bs,0,none⟩),.pointer (some ⟨Bn,0,none⟩)] (fun k:Nat=> #[kA ad len k]) (Below n₀) (fun ys=>ys=List.range K) (fun pre=>∃ k,k≤K∧pre=List.range k) K w:=fun l J Jx W hW hJ _ hY h0=>by
  have c1:=(hW.cell (p:=⟨Bs,0,none⟩) (by show Bs<_;omega)).trans hBs
  have c2:=(hW.cell (p:=⟨Bn,0,none⟩) (by show Bn<_;omega)).trans hBn
  by_cases hl:len=0
  · subst hl
    have:K=0:=by omega
    subst this
    exact (wP F n h7 hro l Bs Bn cap ao J W c1 h0).mono fun e W' ⟨he,hj⟩=>⟨he,.inl ⟨_,rfl,hj⟩⟩
  · rw [had hl] at c1
    exact IK F n h7 hro hn ad l Bs Bn n₀ len cap K hreach hcap hK J Jx W hJ hY h1 h2 c1 c2 h0
theorem Po:(Tryz.prog.info? 22).map (fun i=>(i.zero,i.size,i.bytes))=some (some (.slice none 0 0),1,24):=by kernel_rfl
set_option maxRecDepth 100000 in
set_option maxHeartbeats 2000000 in
theorem BO (F:Fence) (n:Nat) (h3:F.fn 182) (h5:F.fn 183) (hro:F.round=none) (hn:3≤n) (Bs Bn:Nat) (ao:Option Addr) (ad:Addr) (len cap K:Nat) (w:World) (had:len≠0→ao=some ad) (hreach:len≤100000) (hcap:len≤cap) (hK:K=(len+30) / 31)
    (hb1:Bs<w.heap.size) (hb2:Bn<w.heap.size) (hBs:w.cell? ⟨Bs,0,none⟩=some (.slice ao len cap)) (hBn:w.cell? ⟨Bn,0,none⟩=some (.int .i64 31)):
    CallsIn F n Tryz.prog 182 #[.slice none 0 0,.func (.func 183) #[] #[.pointer (some ⟨Bs,0,none⟩),.pointer (some ⟨Bn,0,none⟩)]] w fun e W'=>∃ v,e= .returned v∧W'.ownsRow w.heap.size 22 1 v K ((List.range K).map (kA ad len))∧Below w.heap.size w W':=by
  have h1:1≤n:=by omega
  obtain ⟨i0,hi,hz0,hz1,hz2⟩:=info_parts Po
  refine callsIn_of_wp_marks Tryz.func182 rfl h3 ?_ hro
  simp only [Tryz.ntmps182,List.size_toArray,List.length_cons,List.length_nil,Nat.reduceAdd,Nat.reduceSub,Array.replicate_succ,Array.replicate_zero,List.push_toArray,List.append_toArray,List.nil_append,List.cons_append]
  gi_wp2
  have bO:=Boxed.new w 208 (.slice none 0 0)
  have hB0:Below w.heap.size w (w.alloc (.cells #[.slice none 0 0] 208)):=(Below.refl _ w).alloc (Nat.le_refl _) _
  refine wpIn_rangeFunc_ownG hro h1 (gf:=183) (lb:= #[.pointer (some ⟨Bs,0,none⟩),.pointer (some ⟨Bn,0,none⟩)]) rfl h5 (enters_of Tryz.func183 (by kernel_rfl) rfl)
    (B9 F (n-1) h5 hro (by omega) Bs Bn w.heap.size ao ad len cap K _ had hreach hcap hK hb1 hb2 (by simp) ((hB0.cell (p:=⟨Bs,0,none⟩) hb1).trans hBs) ((hB0.cell (p:=⟨Bn,0,none⟩) hb2).trans hBn)) belowK_t (belowK_b (by simp)) (Below.refl _ _) (fun _=>rfl)
    (fun pre W=>(∃ v,Boxed W w.heap.size 208 v∧W.ownsRow w.heap.size 22 1 v pre.length (pre.map (kA ad len))∧True)∧Below w.heap.size w W)
    (fun _ _ _=>False)
    (OwnFrom.and (Own.from (holdsRow_own w.heap.size w.heap.size 208 22 1 (fun pre:List Nat=>pre.length) (fun pre=>pre.map (kA ad len)) (fun pre v=>True)) _) (ownFrom_below (Nat.le_refl _) (by simp)))
    (fun _ _ _ _ _ hs _ _=>hs)
    ⟨⟨_,bO,World.ownsRow_nil _ _ _ _,trivial⟩,hB0⟩
    (fun x=> {tmps:= #[.slice none 0 0,.func (.func 183) #[] #[.pointer (some ⟨Bs,0,none⟩),.pointer (some ⟨Bn,0,none⟩)],.pointer (some ⟨w.heap.size,0,none⟩),undef,.slice none 0 0,kA ad len x,.func (.func 183) #[] #[.pointer (some ⟨Bs,0,none⟩),.pointer (some ⟨Bn,0,none⟩)],kA ad len x,undef,undef,undef,undef,undef],defers:= []}) ?assign ?body ?done ?stop
  case assign=>
    intro l x W K hK
    gi_wp2
    exact hK
  case body=>
    rintro l pre x W ⟨⟨v,hv,hrow,_⟩,hB⟩ hlt
    have hc:=hv.cell
    have hml:1000000≤maxLen:=by decide
    obtain ⟨A,c,hA⟩:∃ A c,kA ad len x= .slice (some A) c c:=⟨_,_,rfl⟩
    rw [hA]
    gi_wp2_with (gi_at_builtin;refine wpListIn_append_own _ rfl _ _ 208 rfl w.heap.size 22 i0 (.slice none 0 0) 1 24 Tryz.underlying208 hi hz0 hz1 hz2 rfl (by decide) _ _ _ rfl (hrow.alloc _) ⟨W.heap.size,0,none⟩ 1 1 [.slice (some A) c c] rfl rfl (cell_one_new _ _ _) (by simp [Value.oneCell']) (by omega) (by omega) (by have:=hB.size;simp;omega) ?_;intro v' w1 hown' hgrow _;obtain ⟨g',cap',rfl⟩:=ownsRow_succ hown';obtain ⟨hv1,hv2,hr2,hk2,hb2⟩:=hv.appended (by decide) hrow hB.size (Nat.le_refl _) hown' hgrow;have hc1:=hv1.cell;have hf1:=hv1.frozen)
    exact ⟨hk2.from _,hb2,⟨_,hv2,by simpa [hA] using hr2,trivial⟩,hB.trans hb2⟩
  case done=>
    rintro D ys W hD rfl ⟨⟨v,hv,hrow,_⟩,hB⟩ hK
    have hc:=hv.cell
    gi_wp2
    refine ⟨by simp,.inl ⟨_,_,rfl,run_takeDeferred hK,?_⟩⟩
    rw [List.length_range] at hrow
    exact ⟨_,results_tmp rfl _ _ _,v,rfl,ownsRow_putObj hrow _ hK rfl,hB.trans (belowK_b (w:=w) (Nat.le_refl _) W D _ _ (by simp at hD;omega) hK rfl rfl)⟩
  case stop=>
    rintro D c pre W _ _ h _
    exact h.elim
end Go.Proofs.YteiecapbaeajdaaGreatDoor
namespace Go.Proofs.YteiecapbaeajdaaGreatDoor
open Go Go.Avc
set_option linter.unusedVariables false
abbrev Ag:List CSh:= [.sl [.int .u8]]
abbrev MX:BPat:= .own 22 Ag
abbrev kp:List CSh:= [.int .i64,.int .i64,.int .i64,.sl [.int .u8]]
def dC (t:Int) (k:Nat):Nat:=if t=2 then 8*k else if t=3 then 32*k else if t=4 then 96*(k / 4)+31*(k%4) else k*31
def lM (t:Int) (k:Nat):Nat:=if t=2 then 8 else if t=3 then 32 else if t=4 then (if k%4=3 then 3 else 31) else 31
def dI (t:Int) (n:Nat):Nat:=if t=2 then n / 8 else if t=3 then n / 32 else if t=4 then n / 96*4 else (n+30) / 31
def eA (t:Int) (l:List (List CD)) (k:Nat):List (List CD):=(l.drop (dC t k)).take (lM t k)
def df (t:Int) (l:List (List CD)) (n:Nat):List (List CD):=(List.range n).map fun k=> [.sl (eA t l k)]
def bB (t:Int) (l:List (List CD)):List (List CD):=df t l (dI t l.length)
def cl (t:Int):List Int:=if t=2 then [8] else if t=3 then [32] else if t=4 then [31,31,31,3] else []
def cZ (t:Int):Prop:=t=2∨t=3∨t=4
def rk (k t n:Int):Int:=dQ .u64 (dQ .u64 (IntKind.u64.wrap k) (cn .u64 (IntKind.u64.wrap t) 8)) (cn .u64 (IntKind.u64.wrap n) 16)
noncomputable def lv (r:List CD):List CD:=bn (d9 (r.getD 0 (CD.int 0)).toSl)
noncomputable def iy (k t n:Int) (l:List (List CD)):List (List CD):=if dL k t n l=true then bn (ck [rk k t n,0,0,0])::(bB t l).map lv else []
def eJ (l:List (List CD)) (i:Nat):List (List CD):=(((l.getD i []).getD 3 (CD.int 0)).toSl)
def ca (l:List (List CD)) (i c:Nat):Int:=((l.getD i []).getD c (CD.int 0)).toInt
def dJ (l:List (List CD)):Nat→List (List CD)
  | 0=> []
  | i+1=>dJ l i++io (ca l i 0) (ca l i 1) (ca l i 2) (eJ l i)
noncomputable def bL (l:List (List CD)):Nat→List (List CD)
  | 0=> []
  | i+1=>bL l i++iy (ca l i 0) (ca l i 1) (ca l i 2) (eJ l i)
def CU (l:List (List CD)):Prop:=l.length≤6∧∀ i,i<l.length→cI (eJ l i)∧(eJ l i).length≤200
def y4:Ct:= {ps:= [.nils,.fn 183 [.ptr 0 0,.ptr 1 0]],bs:= [.cells 22 [rb],.cells 3 [i64]],pre:=fun | [.r l,.i n] =>n=31∧l.length≤1000 | _=>False,res:=fun
  | [.r l,.i n] => .ret (.own 2) [.cells 22 [rb],.cells 3 [i64],MX] [.r l,.i n,.r (df 1 l ((l.length+30) / 31))]
  | _=>aj}
theorem NE {w:World} {Im:Nat→Prop} {l:List (List CD)} {ad:Addr} {cap:Nat} {xs:List Value} (hl:l.length≤cap) (hc:cap≤maxLen) (hIm:Im ad.block) (hf:FlatRel Im w [.int .u8] l xs) (hx:∀ j x,xs[j]? =some x→w.cell? (ad.add j)=some x) (k:Nat) (hk:k*31<l.length):
    CRel Im w (.sl [.int .u8]) (.sl (eA 1 l k)) (kA ad l.length k):=by
  have h1:eA 1 l k=(l.drop (k*31)).take 31:=rfl
  have hxl:xs.length=l.length:=by have:=hf.length;simpa using this
  have hlen:(eA 1 l k).length=min 31 (l.length-k*31):=by rw [h1,List.length_take,List.length_drop]
  have h2:=(hf.split (k*31) (by omega)).2
  have h3:=(h2.split (min 31 (l.length-k*31)) (by rw [List.length_drop];omega)).1
  simp only [List.length_cons,List.length_nil,Nat.zero_add,Nat.mul_one] at h3
  have e1:(l.drop (k*31)).take (min 31 (l.length-k*31))=eA 1 l k:=by
    rw [h1]
    by_cases h:31≤l.length-k*31
    · rw [Nat.min_eq_left h]
    · rw [Nat.min_eq_right (by omega),List.take_of_length_le (by rw [List.length_drop];omega),List.take_of_length_le (by rw [List.length_drop];omega)]
  rw [e1] at h3
  unfold kA
  rw [← hlen]
  refine .sl _ _ _ _ _ (Nat.le_refl _) (by omega) (by unfold Addr.add;split <;>exact hIm) h3 fun j x hj=> ?_
  rw [List.getElem?_take] at hj
  split at hj
  · rw [List.getElem?_drop] at hj
    rw [Addr.add_add]
    exact hx _ _ hj
  · cases hj
theorem Bm {w:World} {Im:Nat→Prop} {l:List (List CD)} {ad:Addr} (h:∀ k,k*31<l.length→CRel Im w (.sl [.int .u8]) (.sl (eA 1 l k)) (kA ad l.length k)):∀ n,n*31<l.length+31→FlatRel Im w Ag (df 1 l n) ((List.range n).map (kA ad l.length))
  | 0,_=> .nil _
  | n+1,hn=>by
    have ih:=Bm h n (by omega)
    unfold df at ih ⊢
    rw [List.range_succ,List.map_append,List.map_append]
    exact ih.append (.cons _ _ _ _ _ (.cons _ _ _ _ _ _ (h n (by omega)) .nil) (.nil _))
theorem P2 {C:Ctx} (hP:C.P=Tryz.prog) {E:Ent} {Im:Nat→Prop} {ι:Nat→Option Value} {w:World} {vs:List Value} {l:List (List CD)} (hl:l.length≤1000) (hE:E.dfr= [])
    (hm:Mem C E [.cells 22 [.rd [.int .u8] l],.cells 3 [.int .i64 31]] Im ι w) (hF:kH 2 ι) (hv:VRels Im ι w [.nils,.fn 183 [.ptr 0 0,.ptr 1 0]] vs):
    Calls Tryz.prog 182 vs.toArray w (dz C E Im ι w 2 (y4.res [.r l,.i 31])):=by
  obtain ⟨v0,vs1,rfl,e0,v1,vs2,rfl,⟨us,e1,u0,us1,rfl,⟨r0,hr0,eu0⟩,u1,us2,rfl,⟨r1,hr1,eu1⟩,rfl⟩,rfl⟩:=hv
  cases e0;cases e1;cases eu0;cases eu1
  obtain ⟨q0,vz,eq0,hq0,c0⟩:=hm.hv 0 _ hr0
  cases eq0
  obtain ⟨sv,vz',rfl,hsv,_,hz⟩:=c0
  cases (show vz'= [] from hz)
  obtain ⟨q1,vz,eq1,hq1,c1⟩:=hm.hv 1 _ hr1
  cases eq1
  obtain ⟨nv,vz',rfl,hnv,_,hz⟩:=c1
  cases (show vz'= [] from hz)
  cases (show nv= .int .i64 31 from hnv)
  have hb0:r0<w.heap.size:=(Array.getElem?_eq_some_iff.1 hq0).1
  have hb1:r1<w.heap.size:=(Array.getElem?_eq_some_iff.1 hq1).1
  have hc1:w.cell? ⟨r1,0,none⟩=some (.int .i64 31):=by simp [World.cell?,hq1]
  have key:∀ (ao:Option Addr) (ad:Addr) (cap:Nat),sv= .slice ao l.length cap→(l.length≠0→ao=some ad)→l.length≤cap→
      (∀ k,k*31<l.length→CRel Im w (.sl [.int .u8]) (.sl (eA 1 l k)) (kA ad l.length k))→
      Calls Tryz.prog 182 [Value.slice none 0 0,.func (.func 183) #[] #[.pointer (some ⟨r0,0,none⟩),.pointer (some ⟨r1,0,none⟩)]].toArray w (dz C E Im ι w 2 (y4.res [.r l,.i 31])):=by
    intro ao ad cap hsv' had hcap hp
    subst hsv'
    have hc0:w.cell? ⟨r0,0,none⟩=some (.slice ao l.length cap):=by simp [World.cell?,hq0]
    have hcall:=callsIn_wide.1 (BO Fence.wide 3 trivial trivial rfl (by omega) r0 r1 ao ad l.length cap ((l.length+30) / 31) w had (by omega) hcap rfl hb0 hb1 hc0 hc1)
    refine Calls.mono hcall ?_
    rintro e w' ⟨v,rfl,ho,hb⟩
    have hg:w.grownBy w' none:=⟨hb.os,hb.tape,hb.output,hb.size,fun k hk _=>hb.block k hk⟩
    have hO:OwnV w' 22 1 v ((l.length+30) / 31) ((List.range ((l.length+30) / 31)).map (kA ad l.length)):=by
      refine ⟨ho.1,?_⟩
      rcases ho.2 with ⟨rfl,h0⟩ | ⟨g,cap',cur,rfl,hbg,hgc,h1,h2,h3,h4⟩
      · exact .inl ⟨_,rfl,h0⟩
      · by_cases hc':cap'=0
        · subst hc'
          have:(l.length+30) / 31=0:=by omega
          rw [this]
          exact .inl ⟨_,rfl,rfl⟩
        · exact .inr ⟨g,cap',cur,rfl,hgc,h1,by omega,h2,h3,h4⟩
    have hk:∀ k,aC v=some k→w.heap.size≤k:=by
      intro k hk
      rcases ho.2 with ⟨rfl,h0⟩ | ⟨g,cap',cur,rfl,hbg,_⟩
      · cases hk
      · simp only [aC] at hk
        split at hk
        · cases hk
        · cases hk;exact hbg
    have hsl:∃ a n c,v= .slice a n c:=by
      rcases ho.2 with ⟨rfl,_⟩ | ⟨g,cap',cur,rfl,_⟩ <;>exact ⟨_,_,_,rfl⟩
    have hfl:=Bm hp ((l.length+30) / 31) (by omega)
    have hn2:ι 2=none:=hF 2 (Nat.le_refl _)
    have hll:(df 1 l ((l.length+30) / 31)).length=(l.length+30) / 31:=by simp [df]
    have hmm:=uG (hp':= [.cells 22 [.rd [.int .u8] l],.cells 3 [.int .i64 31],.own 22 Ag (df 1 l ((l.length+30) / 31))]) (c:=2) (T:=22) (e:=Ag) hm hn2 (fun b hb=>by
      match b,hb with
      | 0,_=>rfl
      | 1,_=>rfl
      | b+3,_=>rfl) rfl hg (by rw [hll];exact hO) hfl hk
    refine ⟨v,Im,ιset ι 2 v,_,_,rfl,rfl,rfl,⟨ιset_same ι 2 v,hsl⟩,hmm.1,rfl,fun b hb=> ?_,hmm.2,(show 2≤3 by decide),fun b hb=>ιset_other ι 2 v (by omega)⟩
    have hb:3≤b:=hb
    rw [ιset_other ι 2 v (by omega)]
    exact hF b (by omega)
  cases hsv with
  | sl0 e a cap hcap=>exact key a ⟨0,0,none⟩ cap rfl (fun h=>absurd rfl h) (Nat.zero_le _) fun k hk=>absurd hk (Nat.not_lt_zero _)
  | sl e l ad cap xs h1 h2 h3 h4 h5=>exact key (some ad) ad cap rfl (fun _=>rfl) h1 fun k hk=>NE h1 h2 h3 h4 h5 k hk
theorem X2:af (base.with Hd) 182 (ag y4):=by
  refine r7 OG (fun svs hp ds=>∃ l,svs= [.nils,.fn 183 [.ptr 0 0,.ptr 1 0]] ∧hp= [.cells 22 [.rd [.int .u8] l],.cells 3 [.int .i64 31]] ∧ds= [.r l,.i 31] ∧l.length≤1000) ?_ (fun vs w _=>Tryz.call182 vs w) ?_
  · rintro svs hp ds E Im ι w vs ⟨l,rfl,rfl,rfl,hl⟩ _ _ hD hE hm hF hv
    exact P2 rfl hl hD hm hF hv
  · rintro l n _ ⟨rfl,hl⟩
    exact ⟨l,rfl,rfl,rfl,hl⟩
noncomputable def ud:ai:=al Hd 182 (ag y4)
theorem MB:(base.with ud).Ok:=ae OG X2
def FT:Ct:= {ps:= [.fn 183 [.ptr 0 0,.ptr 1 0]],bs:= [.cells 22 [rb],.cells 3 [i64]],pre:=fun | [.r l,.i n] =>n=31∧l.length≤1000 | _=>False,res:=fun
  | [.r l,.i n] => .ret (.own 2) [.cells 22 [rb],.cells 3 [i64],MX] [.r l,.i n,.r (df 1 l ((l.length+30) / 31))]
  | _=>aj}
def Fj:Ct:= {ps:= [rb,i64],bs:= [],pre:=fun | [.r l,.i n] =>1≤n | _=>False,res:=fun
  | [.r l,.i n] => .ret (.fn 183 [.ptr 0 0,.ptr 1 0]) [.cells 22 [rb],.cells 3 [i64]] [.r l,.i n]
  | _=>aj}
abbrev ri:Pat:= .rd [.int .i64]
def Ak:Ct:= {ps:= [i64],bs:= [],pre:=fun _=>True,res:=fun
  | [.i t] => .ite (decide (t=1)) (.ret (.agg [i64,.nilf,.nils]) [] [.i 1]) (.ite (decide (t=2)) (.ret (.agg [i64,.nilf,ri]) [] [.i 8,.r [[.int 8]]])
    (.ite (decide (t=3)) (.ret (.agg [i64,.fn 176 [],ri]) [] [.i 32,.r [[.int 32]]]) (.ite (decide (t=4)) (.ret (.agg [i64,.fn 178 [],ri]) [] [.i 96,.r [[.int 31],[.int 31],[.int 31],[.int 3]]]) (.ret (.agg [i64,.nilf,.nils]) [] [.i 0]))))
  | _=>aj}
def Vj:List Dat→Prop
  | [.i t,.r l] =>l.length≤1000∧(cZ t→(l.length:Int)%az t=0)
  | _=>False
def Lt:Ct:= {ps:= [i64,rb],bs:= [],pre:=Vj,res:=fun | [.i t,.r l] => .ret (.own 0) [MX] [.r (bB t l)] | _=>aj}
def Wx:List Dat→Ann
  | [.i t,.r l] => {cut:= [],loop:= [(6,[la 40 [(1,rb),(5,ri),(6,.own 0),(7,i64)] [MX] (fun
      | [.r rest,.r cs,.i i,.r out] =>cs=(cl t).map ac∧∃ j:Nat,j≤dI t l.length∧rest=l.drop (dC t j)∧i=((j%(cl t).length:Nat):Int)∧out=df t l j
      | _=>False) (fun | [.r rest,_,_,_] =>rest.length | _=>0)])]}
  | _=> {cut:= [],loop:= []}
noncomputable def LI:Ct:= {ps:= [q7],bs:= [],pre:=fun | [.i k,.i t,.i n,.r l] =>fT l | _=>False,res:=fun | [.i k,.i t,.i n,.r l] => .ret (.own 0) [oe] [.r (iy k t n l)] | _=>aj}
noncomputable def XN:List Dat→Ann
  | [.i k,.i t,.i n,.r l] => {cut:= [],loop:= [(5,[la 41 [(3,.own 0),(28,.rd Ag),(29,i64),(30,i64)] [oe] (fun
      | [.r p,.i m,.i i,.r out] =>p=bB t l∧m=(bB t l).length∧0≤i∧i≤m∧dL k t n l=true∧out=bn (ck [rk k t n,0,0,0])::((bB t l).map lv).take i.toNat
      | _=>False) (fun | [_,.i m,.i i,_] =>(m-i).toNat | _=>0)])]}
  | _=> {cut:= [],loop:= []}
noncomputable def K5:Ct:= {ps:= [.rd kp],bs:= [],pre:=fun | [.r l] =>CU l | _=>False,res:=fun | [.r l] => .ret (.tup [.str,.own 0]) [oe] [.s (aa (dJ l l.length)),.r (bL l l.length)] | _=>aj}
noncomputable def Zj:List Dat→Ann
  | [.r l] => {cut:= [],loop:= [(4,[la 28 [(4,.own 0),(5,.own 1),(8,.rd kp),(9,i64),(10,i64)] [ob,oe] (fun
      | [.r l',.i m,.i i,.r b,.r f] =>l'=l∧m=l.length∧0≤i∧i≤m∧b=dJ l i.toNat∧f=bL l i.toNat
      | _=>False) (fun | [_,.i m,.i i,_,_] =>(m-i).toNat | _=>0)])]}
  | _=> {cut:= [],loop:= []}
end Go.Proofs.YteiecapbaeajdaaGreatDoor
namespace Go.Proofs.YteiecapbaeajdaaGreatDoor
open Go Go.Avc Go.Proofs
set_option linter.unusedVariables false
set_option maxRecDepth 100000
def Gs:Prop:= ∀ (n:Int),
 True→
 bif decide (n=1) then
 bif decide (n=1) then (1:Int)=1
 else
 bif decide (n=2) then (1:Int)=8∧ [] = [[CD.int 8]]
 else
 bif decide (n=3) then
 Miss (2:Nat)
 {n:=0,ov:= [],tm:= [.agg [.int .i64 (1:Int),.nilf,.nils]],hp:= [.cells (265:Nat) [.int .i64 (1:Int),.nilf,.nils]],G:= []}
 else
 bif decide (n=4) then
 Miss (2:Nat)
 {n:=0,ov:= [],tm:= [.agg [.int .i64 (1:Int),.nilf,.nils]],hp:= [.cells (265:Nat) [.int .i64 (1:Int),.nilf,.nils]],G:= []}
 else (1:Int)=0
 else
 bif decide (n=2) then
 bif decide (n=1) then
 Miss (2:Nat)
 {n:=0,ov:= [],tm:= [.agg [.int .i64 (8:Int),.nilf,.own (1:Nat)]],hp:= [.cells (265:Nat) [.int .i64 (8:Int),.nilf,.own (1:Nat)],.own (3:Nat) [.int .i64] [[CD.int 8]]],G:= []}
 else
 bif decide (n=2) then (8:Int)=8∧ [[CD.int 8]] = [[CD.int 8]]
 else
 bif decide (n=3) then
 Miss (2:Nat)
 {n:=0,ov:= [],tm:= [.agg [.int .i64 (8:Int),.nilf,.own (1:Nat)]],hp:= [.cells (265:Nat) [.int .i64 (8:Int),.nilf,.own (1:Nat)],.own (3:Nat) [.int .i64] [[CD.int 8]]],G:= []}
 else
 bif decide (n=4) then
 Miss (2:Nat)
 {n:=0,ov:= [],tm:= [.agg [.int .i64 (8:Int),.nilf,.own (1:Nat)]],hp:= [.cells (265:Nat) [.int .i64 (8:Int),.nilf,.own (1:Nat)],.own (3:Nat) [.int .i64] [[CD.int 8]]],G:= []}
 else
 Miss (2:Nat)
 {n:=0,ov:= [],tm:= [.agg [.int .i64 (8:Int),.nilf,.own (1:Nat)]],hp:= [.cells (265:Nat) [.int .i64 (8:Int),.nilf,.own (1:Nat)],.own (3:Nat) [.int .i64] [[CD.int 8]]],G:= []}
 else
 bif decide (n=3) then
 bif decide (n=1) then
 Miss (2:Nat)
 {n:=0,ov:= [],tm:= [.agg [.int .i64 (32:Int),.fn (176:Nat) [],.own (1:Nat)]],hp:= [.cells (265:Nat) [.int .i64 (32:Int),.fn (176:Nat) [],.own (1:Nat)],.own (3:Nat) [.int .i64] [[CD.int 32]]],G:= []}
 else
 bif decide (n=2) then
 Miss (2:Nat)
 {n:=0,ov:= [],tm:= [.agg [.int .i64 (32:Int),.fn (176:Nat) [],.own (1:Nat)]],hp:= [.cells (265:Nat) [.int .i64 (32:Int),.fn (176:Nat) [],.own (1:Nat)],.own (3:Nat) [.int .i64] [[CD.int 32]]],G:= []}
 else
 bif decide (n=3) then (32:Int)=32∧ [[CD.int 32]] = [[CD.int 32]]
 else
 bif decide (n=4) then
 Miss (2:Nat)
 {n:=0,ov:= [],tm:= [.agg [.int .i64 (32:Int),.fn (176:Nat) [],.own (1:Nat)]],hp:= [.cells (265:Nat) [.int .i64 (32:Int),.fn (176:Nat) [],.own (1:Nat)],.own (3:Nat) [.int .i64] [[CD.int 32]]],G:= []}
 else
 Miss (2:Nat)
 {n:=0,ov:= [],tm:= [.agg [.int .i64 (32:Int),.fn (176:Nat) [],.own (1:Nat)]],hp:= [.cells (265:Nat) [.int .i64 (32:Int),.fn (176:Nat) [],.own (1:Nat)],.own (3:Nat) [.int .i64] [[CD.int 32]]],G:= []}
 else
 bif decide (n=4) then
 bif decide (n=1) then
 Miss (2:Nat)
 {n:=0,ov:= [],tm:= [.agg [.int .i64 (96:Int),.fn (178:Nat) [],.own (1:Nat)]],hp:= [.cells (265:Nat) [.int .i64 (96:Int),.fn (178:Nat) [],.own (1:Nat)],.own (3:Nat) [.int .i64] [[CD.int 31],[CD.int 31],[CD.int 31],[CD.int 3]]],G:= []}
 else
 bif decide (n=2) then
 Miss (2:Nat)
 {n:=0,ov:= [],tm:= [.agg [.int .i64 (96:Int),.fn (178:Nat) [],.own (1:Nat)]],hp:= [.cells (265:Nat) [.int .i64 (96:Int),.fn (178:Nat) [],.own (1:Nat)],.own (3:Nat) [.int .i64] [[CD.int 31],[CD.int 31],[CD.int 31],[CD.int 3]]],G:= []}
 else
 bif decide (n=3) then
 Miss (2:Nat)
 {n:=0,ov:= [],tm:= [.agg [.int .i64 (96:Int),.fn (178:Nat) [],.own (1:Nat)]],hp:= [.cells (265:Nat) [.int .i64 (96:Int),.fn (178:Nat) [],.own (1:Nat)],.own (3:Nat) [.int .i64] [[CD.int 31],[CD.int 31],[CD.int 31],[CD.int 3]]],G:= []}
 else
 bif decide (n=4) then
 (96:Int)=96∧
 [[CD.int 31],[CD.int 31],[CD.int 31],[CD.int 3]] =
 [[CD.int 31],[CD.int 31],[CD.int 31],[CD.int 3]]
 else
 Miss (2:Nat)
 {n:=0,ov:= [],tm:= [.agg [.int .i64 (96:Int),.fn (178:Nat) [],.own (1:Nat)]],hp:= [.cells (265:Nat) [.int .i64 (96:Int),.fn (178:Nat) [],.own (1:Nat)],.own (3:Nat) [.int .i64] [[CD.int 31],[CD.int 31],[CD.int 31],[CD.int 3]]],G:= []}
 else
 bif decide (n=1) then (0:Int)=1
 else
 bif decide (n=2) then (0:Int)=8∧ [] = [[CD.int 8]]
 else
 bif decide (n=3) then
 Miss (2:Nat)
 {n:=0,ov:= [],tm:= [.agg [.int .i64 (0:Int),.nilf,.nils]],hp:= [.cells (265:Nat) [.int .i64 (0:Int),.nilf,.nils]],G:= []}
 else
 bif decide (n=4) then
 Miss (2:Nat)
 {n:=0,ov:= [],tm:= [.agg [.int .i64 (0:Int),.nilf,.nils]],hp:= [.cells (265:Nat) [.int .i64 (0:Int),.nilf,.nils]],G:= []}
 else (0:Int)=0
theorem XH:av ud Tryz.f138 Ak au=Gs:=by kernel_rfl
noncomputable def sP:ai:=al ud 138 (ag Ak)
end Go.Proofs.YteiecapbaeajdaaGreatDoor
namespace Go.Proofs.YteiecapbaeajdaaGreatDoor
open Go Go.Avc Go.Proofs
set_option linter.unusedVariables false
set_option linter.unusedSimpArgs false
set_option maxRecDepth 100000
theorem QM:Gs:=by
  unfold Gs
  intro n _
  exact ab (fun h1=>jt h1 rfl) (fun h1=>ab (fun h2=>cz h1 (jt h2 ⟨rfl,rfl⟩)) (fun h2=>ab (fun h3=>cz h1 (cz h2 (jt h3 ⟨rfl,rfl⟩))) (fun h3=>ab (fun h4=>cz h1 (cz h2 (cz h3 (jt h4 ⟨rfl,rfl⟩)))) (fun h4=>cz h1 (cz h2 (cz h3 (cz h4 rfl)))))))
theorem T6:af (base.with ud) 138 (ag Ak):=am MB Tryz.func138 (by kernel_rfl) (by kernel_rfl) Tryz.call138 XH QM
theorem Mn:(base.with sP).Ok:=ae MB T6
end Go.Proofs.YteiecapbaeajdaaGreatDoor
namespace Go.Proofs.YteiecapbaeajdaaGreatDoor
open Go Go.Avc Go.Proofs
set_option linter.unusedVariables false
set_option maxRecDepth 100000
def P29:Prop:= ∀ (l l_1:List Int),l.length=4→l_1.length=4→True→decide (l=l_1)=decide (l=l_1)
theorem e29:av sP Tryz.f29 K3 au=P29:=by kernel_rfl
noncomputable def xU:ai:=al sP 29 (ag K3)
def Pe:Prop:= ∀ (l:List (List CD)) (n:Int),
 l.length≤9223372036854775807→
 n=31∧l.length≤1000→
 (n=31∧l.length≤1000)∧
 l=l∧
 n=n∧
 df 1 l ((l.length+30) / 31)=
 df 1 l ((l.length+30) / 31)
theorem ad8:av xU Tryz.f140 FT au=Pe:=by kernel_rfl
noncomputable def tO:ai:=al xU 140 (ag FT)
def Oq:Prop:= ∀ (l:List (List CD)) (n:Int),l.length≤9223372036854775807→1≤n→bif decide (n < 1) then False else l=l∧n=n
theorem adD:av tO Tryz.f141 Fj au=Oq:=by kernel_rfl
noncomputable def sS:ai:=al tO 141 (ag Fj)
def Qg:Prop:= ∀ (n:Int) (l:List (List CD)),
 l.length≤9223372036854775807→
 l.length≤1000∧(cZ n→(↑l.length:Int) % az n=0)→
 True∧
 bif decide (n=1) then
 (1:Int)≤31∧
 ((31:Int)=31∧l.length≤1000)∧
 df 1 l ((l.length+30) / 31)=bB n l
 else
 bif decide (n=2) then
 ∀ (β:Bool),
 (β=true→ [[CD.int 8]] = [])→
 bif β then
 (1:Int)≤31∧
 ((31:Int)=31∧l.length≤1000)∧
 df 1 l ((l.length+30) / 31)=bB n l
 else
 (([[CD.int 8]] =List.map ac (cl n)∧
 ∃ j,
 j≤dI n l.length∧
 l=List.drop (dC n j) l∧
 0=(↑(j % (cl n).length):Int)∧ [] =df n l j)∧
 True)∧
 ∀ (l_1 l_2:List (List CD)) (n_1:Int) (l_3:List (List CD)),
 l_1.length≤9223372036854775807→
 l_2.length≤9223372036854775807→
 l_3.length≤9223372036854775807→
 (l_2=List.map ac (cl n)∧
 ∃ j,
 j≤dI n l.length∧
 l_1=List.drop (dC n j) l∧
 n_1=(↑(j % (cl n).length):Int)∧l_3=df n l j)→
 l_1.length≤9223372036854775807→
 bif decide (0 < (↑l_1.length:Int)) then
 (0≤n_1∧n_1 < (↑l_2.length:Int))∧
 n_1.toNat < l_2.length∧
 ((0:Int)≤0∧
 0≤((l_2.getD n_1.toNat []).getD 0 (CD.int 0)).toInt∧
 ((l_2.getD n_1.toNat []).getD 0 (CD.int 0)).toInt≤(↑l_1.length:Int))∧
 ((l_3.length+1)*24≤140737488355328∧l_3.length+1≤9223372036854775807)∧
 (0≤n_1∧n_1 < (↑l_2.length:Int))∧
 n_1.toNat < l_2.length∧
 (0≤((l_2.getD n_1.toNat []).getD 0 (CD.int 0)).toInt∧
 ((l_2.getD n_1.toNat []).getD 0 (CD.int 0)).toInt≤(↑l_1.length:Int)∧
 (↑l_1.length:Int)≤(↑l_1.length:Int))∧
 ((-9223372036854775808:Int)≤n_1+1∧n_1+1≤9223372036854775807)∧
 (l_2.length≤9223372036854775807→
 (0≤n_1+1∧0 < (↑l_2.length:Int))∧
 (l_2=List.map ac (cl n)∧
 ∃ j,
 j≤dI n l.length∧
 List.drop ((l_2.getD n_1.toNat []).getD 0 (CD.int 0)).toInt.toNat
 (List.take (↑l_1.length:Int).toNat l_1)=
 List.drop (dC n j) l∧
 (n_1+1) % (↑l_2.length:Int)=(↑(j % (cl n).length):Int)∧
 l_3++
 [[CD.sl
 (List.drop 0
 (List.take ((l_2.getD n_1.toNat []).getD 0 (CD.int 0)).toInt.toNat l_1))]] =
 df n l j)∧
 (List.drop ((l_2.getD n_1.toNat []).getD 0 (CD.int 0)).toInt.toNat
 (List.take (↑l_1.length:Int).toNat l_1)).length <
 l_1.length)
 else l_3=bB n l
 else
 bif decide (n=3) then
 ∀ (β:Bool),
 (β=true→ [[CD.int 32]] = [])→
 bif β then
 (1:Int)≤31∧
 ((31:Int)=31∧l.length≤1000)∧
 df 1 l ((l.length+30) / 31)=bB n l
 else
 (([[CD.int 32]] =List.map ac (cl n)∧
 ∃ j,
 j≤dI n l.length∧
 l=List.drop (dC n j) l∧
 0=(↑(j % (cl n).length):Int)∧ [] =df n l j)∧
 True)∧
 ∀ (l_1 l_2:List (List CD)) (n_1:Int) (l_3:List (List CD)),
 l_1.length≤9223372036854775807→
 l_2.length≤9223372036854775807→
 l_3.length≤9223372036854775807→
 (l_2=List.map ac (cl n)∧
 ∃ j,
 j≤dI n l.length∧
 l_1=List.drop (dC n j) l∧
 n_1=(↑(j % (cl n).length):Int)∧l_3=df n l j)→
 l_1.length≤9223372036854775807→
 bif decide (0 < (↑l_1.length:Int)) then
 (0≤n_1∧n_1 < (↑l_2.length:Int))∧
 n_1.toNat < l_2.length∧
 ((0:Int)≤0∧
 0≤((l_2.getD n_1.toNat []).getD 0 (CD.int 0)).toInt∧
 ((l_2.getD n_1.toNat []).getD 0 (CD.int 0)).toInt≤(↑l_1.length:Int))∧
 ((l_3.length+1)*24≤140737488355328∧l_3.length+1≤9223372036854775807)∧
 (0≤n_1∧n_1 < (↑l_2.length:Int))∧
 n_1.toNat < l_2.length∧
 (0≤((l_2.getD n_1.toNat []).getD 0 (CD.int 0)).toInt∧
 ((l_2.getD n_1.toNat []).getD 0 (CD.int 0)).toInt≤(↑l_1.length:Int)∧
 (↑l_1.length:Int)≤(↑l_1.length:Int))∧
 ((-9223372036854775808:Int)≤n_1+1∧n_1+1≤9223372036854775807)∧
 (l_2.length≤9223372036854775807→
 (0≤n_1+1∧0 < (↑l_2.length:Int))∧
 (l_2=List.map ac (cl n)∧
 ∃ j,
 j≤dI n l.length∧
 List.drop ((l_2.getD n_1.toNat []).getD 0 (CD.int 0)).toInt.toNat
 (List.take (↑l_1.length:Int).toNat l_1)=
 List.drop (dC n j) l∧
 (n_1+1) % (↑l_2.length:Int)=(↑(j % (cl n).length):Int)∧
 l_3++
 [[CD.sl
 (List.drop 0
 (List.take ((l_2.getD n_1.toNat []).getD 0 (CD.int 0)).toInt.toNat l_1))]] =
 df n l j)∧
 (List.drop ((l_2.getD n_1.toNat []).getD 0 (CD.int 0)).toInt.toNat
 (List.take (↑l_1.length:Int).toNat l_1)).length <
 l_1.length)
 else l_3=bB n l
 else
 bif decide (n=4) then
 ∀ (β:Bool),
 (β=true→ [[CD.int 31],[CD.int 31],[CD.int 31],[CD.int 3]] = [])→
 bif β then
 (1:Int)≤31∧
 ((31:Int)=31∧l.length≤1000)∧
 df 1 l ((l.length+30) / 31)=bB n l
 else
 (([[CD.int 31],[CD.int 31],[CD.int 31],[CD.int 3]] =
 List.map ac (cl n)∧
 ∃ j,
 j≤dI n l.length∧
 l=List.drop (dC n j) l∧
 0=(↑(j % (cl n).length):Int)∧ [] =df n l j)∧
 True)∧
 ∀ (l_1 l_2:List (List CD)) (n_1:Int) (l_3:List (List CD)),
 l_1.length≤9223372036854775807→
 l_2.length≤9223372036854775807→
 l_3.length≤9223372036854775807→
 (l_2=List.map ac (cl n)∧
 ∃ j,
 j≤dI n l.length∧
 l_1=List.drop (dC n j) l∧
 n_1=(↑(j % (cl n).length):Int)∧l_3=df n l j)→
 l_1.length≤9223372036854775807→
 bif decide (0 < (↑l_1.length:Int)) then
 (0≤n_1∧n_1 < (↑l_2.length:Int))∧
 n_1.toNat < l_2.length∧
 ((0:Int)≤0∧
 0≤((l_2.getD n_1.toNat []).getD 0 (CD.int 0)).toInt∧
 ((l_2.getD n_1.toNat []).getD 0 (CD.int 0)).toInt≤(↑l_1.length:Int))∧
 ((l_3.length+1)*24≤140737488355328∧l_3.length+1≤9223372036854775807)∧
 (0≤n_1∧n_1 < (↑l_2.length:Int))∧
 n_1.toNat < l_2.length∧
 (0≤((l_2.getD n_1.toNat []).getD 0 (CD.int 0)).toInt∧
 ((l_2.getD n_1.toNat []).getD 0 (CD.int 0)).toInt≤(↑l_1.length:Int)∧
 (↑l_1.length:Int)≤(↑l_1.length:Int))∧
 ((-9223372036854775808:Int)≤n_1+1∧n_1+1≤9223372036854775807)∧
 (l_2.length≤9223372036854775807→
 (0≤n_1+1∧0 < (↑l_2.length:Int))∧
 (l_2=List.map ac (cl n)∧
 ∃ j,
 j≤dI n l.length∧
 List.drop ((l_2.getD n_1.toNat []).getD 0 (CD.int 0)).toInt.toNat
 (List.take (↑l_1.length:Int).toNat l_1)=
 List.drop (dC n j) l∧
 (n_1+1) % (↑l_2.length:Int)=(↑(j % (cl n).length):Int)∧
 l_3++
 [[CD.sl
 (List.drop 0
 (List.take ((l_2.getD n_1.toNat []).getD 0 (CD.int 0)).toInt.toNat
 l_1))]] =
 df n l j)∧
 (List.drop ((l_2.getD n_1.toNat []).getD 0 (CD.int 0)).toInt.toNat
 (List.take (↑l_1.length:Int).toNat l_1)).length <
 l_1.length)
 else l_3=bB n l
 else
 (1:Int)≤31∧
 ((31:Int)=31∧l.length≤1000)∧
 df 1 l ((l.length+30) / 31)=bB n l
theorem e97:av sS Tryz.f97 Lt Wx=Qg:=by kernel_rfl
noncomputable def w5:ai:=al sS 97 (ag Lt)
def TX:Prop:= ∀ (n n_1 n_2:Int) (l:List (List CD)),
 l.length≤9223372036854775807→
 fT l→
 fT l∧
 bif !dL n n_1 n_2 l then [] =iy n n_1 n_2 l
 else
 (0:Int)≤8∧
 (0:Int)≤16∧
 ak
 (dQ .u64 (dQ .u64 (IntKind.u64.wrap n) (cn .u64 (IntKind.u64.wrap n_1) 8))
 (cn .u64 (IntKind.u64.wrap n_2) 16))∧
 (l.length≤1000∧(cZ n_1→↑l.length % az n_1=0))∧
 ((bB n_1 l).length≤9223372036854775807→
 ((bB n_1 l=bB n_1 l∧
 (↑(bB n_1 l).length:Int)=(↑(bB n_1 l).length:Int)∧
 (0:Int)≤0∧
 0≤(↑(bB n_1 l).length:Int)∧
 dL n n_1 n_2 l=true∧
 [[.int
 ((ck
 [dQ .u64
 (dQ .u64 (IntKind.u64.wrap n) (cn .u64 (IntKind.u64.wrap n_1) 8))
 (cn .u64 (IntKind.u64.wrap n_2) 16),
 (0:Int),0,0]).getD
 0 0),
 .int
 ((ck
 [dQ .u64
 (dQ .u64 (IntKind.u64.wrap n) (cn .u64 (IntKind.u64.wrap n_1) 8))
 (cn .u64 (IntKind.u64.wrap n_2) 16),
 (0:Int),0,0]).getD
 1 0),
 .int
 ((ck
 [dQ .u64
 (dQ .u64 (IntKind.u64.wrap n) (cn .u64 (IntKind.u64.wrap n_1) 8))
 (cn .u64 (IntKind.u64.wrap n_2) 16),
 (0:Int),0,0]).getD
 2 0),
 .int
 ((ck
 [dQ .u64
 (dQ .u64 (IntKind.u64.wrap n) (cn .u64 (IntKind.u64.wrap n_1) 8))
 (cn .u64 (IntKind.u64.wrap n_2) 16),
 (0:Int),0,0]).getD
 3 0)]] =
 bn
 (ck [rk n n_1 n_2,0,0,0])::
 List.take 0 (List.map lv (bB n_1 l)))∧
 True)∧
 ∀ (l_1:List (List CD)) (n_3 n_4:Int) (l_2:List (List CD)),
 l_1.length≤9223372036854775807→
 l_2.length≤9223372036854775807→
 l_1=bB n_1 l∧
 n_3=(↑(bB n_1 l).length:Int)∧
 0≤n_4∧
 n_4≤n_3∧
 dL n n_1 n_2 l=true∧
 l_2=
 bn
 (ck [rk n n_1 n_2,0,0,0])::
 List.take n_4.toNat (List.map lv (bB n_1 l))→
 bif decide (n_4 < n_3) then
 (0≤n_4∧n_4 < ↑l_1.length)∧
 n_4.toNat < l_1.length∧
 (ax ((l_1.getD n_4.toNat []).getD 0 (.int 0)).toSl∧
 ((l_1.getD n_4.toNat []).getD 0 (.int 0)).toSl.length≤400)∧
 ((l_2.length+1)*32≤140737488355328∧l_2.length+1≤9223372036854775807)∧
 ((-9223372036854775808:Int)≤n_4+1∧n_4+1≤9223372036854775807)∧
 (l_1=bB n_1 l∧
 n_3=(↑(bB n_1 l).length:Int)∧
 0≤n_4+1∧
 n_4+1≤n_3∧
 dL n n_1 n_2 l=true∧
 l_2++
 [[.int
 ((d9
 ((l_1.getD n_4.toNat []).getD 0 (.int 0)).toSl).getD
 0 0),
 .int
 ((d9
 ((l_1.getD n_4.toNat []).getD 0 (.int 0)).toSl).getD
 1 0),
 .int
 ((d9
 ((l_1.getD n_4.toNat []).getD 0 (.int 0)).toSl).getD
 2 0),
 .int
 ((d9
 ((l_1.getD n_4.toNat []).getD 0 (.int 0)).toSl).getD
 3 0)]] =
 bn
 (ck
 [rk n n_1 n_2,0,0,0])::
 List.take (n_4+1).toNat
 (List.map lv (bB n_1 l)))∧
 (n_3 - (n_4+1)).toNat < (n_3 - n_4).toNat
 else l_2=iy n n_1 n_2 l)
theorem e60:av w5 Tryz.f60 LI XN=TX:=by kernel_rfl
noncomputable def xK:ai:=al w5 60 (ag LI)
def So:Prop:= ∀ (l:List (List CD)),
 l.length≤9223372036854775807→
 CU l→
 l.length≤9223372036854775807→
 ((l=l∧
 (↑l.length:Int)=(↑l.length:Int)∧
 (0:Int)≤0∧
 0≤(↑l.length:Int)∧ [] =dJ l 0∧ [] =bL l 0)∧
 True)∧
 ∀ (l_1:List (List CD)) (n n_1:Int) (l_2 l_3:List (List CD)),
 l_1.length≤9223372036854775807→
 l_2.length≤9223372036854775807→
 l_3.length≤9223372036854775807→
 l_1=l∧
 n=(↑l.length:Int)∧
 0≤n_1∧n_1≤n∧l_2=dJ l n_1.toNat∧l_3=bL l n_1.toNat→
 bif decide (n_1 < n) then
 (0≤n_1∧n_1 < (↑l_1.length:Int))∧
 n_1.toNat < l_1.length∧
 True∧
 fT ((l_1.getD n_1.toNat []).getD 3 (.int 0)).toSl∧
 ((l_2.length+
 (io ((l_1.getD n_1.toNat []).getD 0 (.int 0)).toInt
 ((l_1.getD n_1.toNat []).getD 1 (.int 0)).toInt
 ((l_1.getD n_1.toNat []).getD 2 (.int 0)).toInt
 ((l_1.getD n_1.toNat []).getD 3 (.int 0)).toSl).length)*
 1≤
 140737488355328∧
 l_2.length+
 (io ((l_1.getD n_1.toNat []).getD 0 (.int 0)).toInt
 ((l_1.getD n_1.toNat []).getD 1 (.int 0)).toInt
 ((l_1.getD n_1.toNat []).getD 2 (.int 0)).toInt
 ((l_1.getD n_1.toNat []).getD 3 (.int 0)).toSl).length≤
 9223372036854775807)∧
 True∧
 fT ((l_1.getD n_1.toNat []).getD 3 (.int 0)).toSl∧
 ((l_3.length+
 (iy ((l_1.getD n_1.toNat []).getD 0 (.int 0)).toInt
 ((l_1.getD n_1.toNat []).getD 1 (.int 0)).toInt
 ((l_1.getD n_1.toNat []).getD 2 (.int 0)).toInt
 ((l_1.getD n_1.toNat []).getD 3 (.int 0)).toSl).length)*
 32≤
 140737488355328∧
 l_3.length+
 (iy ((l_1.getD n_1.toNat []).getD 0 (.int 0)).toInt
 ((l_1.getD n_1.toNat []).getD 1 (.int 0)).toInt
 ((l_1.getD n_1.toNat []).getD 2 (.int 0)).toInt
 ((l_1.getD n_1.toNat []).getD 3 (.int 0)).toSl).length≤
 9223372036854775807)∧
 ((-9223372036854775808:Int)≤n_1+1∧n_1+1≤9223372036854775807)∧
 (l_1=l∧
 n=(↑l.length:Int)∧
 0≤n_1+1∧
 n_1+1≤n∧
 l_2++
 io ((l_1.getD n_1.toNat []).getD 0 (.int 0)).toInt
 ((l_1.getD n_1.toNat []).getD 1 (.int 0)).toInt
 ((l_1.getD n_1.toNat []).getD 2 (.int 0)).toInt
 ((l_1.getD n_1.toNat []).getD 3 (.int 0)).toSl=
 dJ l (n_1+1).toNat∧
 l_3++
 iy ((l_1.getD n_1.toNat []).getD 0 (.int 0)).toInt
 ((l_1.getD n_1.toNat []).getD 1 (.int 0)).toInt
 ((l_1.getD n_1.toNat []).getD 2 (.int 0)).toInt
 ((l_1.getD n_1.toNat []).getD 3 (.int 0)).toSl=
 bL l (n_1+1).toNat)∧
 (n - (n_1+1)).toNat < (n - n_1).toNat
 else aa l_2=aa (dJ l l.length)∧l_3=bL l l.length
theorem e28:av xK Tryz.f28 K5 Zj=So:=by kernel_rfl
noncomputable def Fo:ai:=al xK 28 (ag K5)
end Go.Proofs.YteiecapbaeajdaaGreatDoor
namespace Go.Proofs.YteiecapbaeajdaaGreatDoor
open Go Go.Avc Go.Proofs
set_option linter.unusedVariables false
set_option linter.unusedSimpArgs false
set_option maxRecDepth 100000
theorem adH:P29:=fun _ _ _ _ _=>rfl
theorem afk:af (base.with sP) 29 (ag K3):=am Mn Tryz.func29 (by kernel_rfl) (by kernel_rfl) Tryz.call29 e29 adH
theorem QU:(base.with xU).Ok:=ae Mn afk
theorem Zx:Pe:=fun l n _ h=>⟨h,rfl,rfl,rfl⟩
theorem Vs:af (base.with xU) 140 (ag FT):=am QU Tryz.func140 (by kernel_rfl) (by kernel_rfl) Tryz.call140 ad8 Zx
theorem MW:(base.with tO).Ok:=ae QU Vs
theorem Wl:Oq:=by
  intro l n _ h
  exact ab (fun h1=>absurd (of_decide_eq_true h1) (by omega)) fun _=>⟨rfl,rfl⟩
theorem Vo:af (base.with tO) 141 (ag Fj):=am MW Tryz.func141 (by kernel_rfl) (by kernel_rfl) Tryz.call141 adD Wl
theorem MF:(base.with sS).Ok:=ae MW Vo
theorem Dr {t:Int} (h:cZ t) (j:Nat):dC t (j+1)=dC t j+lM t j∧1≤lM t j∧lM t j≤32:=by
  unfold dC lM
  rcases h with rfl | rfl | rfl
  · simp;omega
  · simp;omega
  · simp only [show ¬ (4:Int)=2 from by decide,show ¬ (4:Int)=3 from by decide,if_false,if_true]
    split <;>omega
theorem Me {t:Int} (h:cZ t) {n j:Nat} (hn:(n:Int)%az t=0) (hj:j≤dI t n):(dC t j<n↔j<dI t n)∧(j<dI t n→dC t j+lM t j≤n)∧(j=dI t n→dC t j=n):=by
  unfold dC lM dI az at *
  rcases h with rfl | rfl | rfl
  · simp at hn hj ⊢;omega
  · simp at hn hj ⊢;omega
  · simp only [show ¬ (4:Int)=2 from by decide,show ¬ (4:Int)=3 from by decide,show ¬ (4:Int)=1 from by decide,if_false,if_true] at hn hj ⊢
    split <;>omega
theorem Og {t:Int} (h:cZ t) (j:Nat):(cl t).length≠0∧(cl t).length≤4∧rv ((cl t).map ac) (j%(cl t).length)=(lM t j:Int):=by
  unfold cl lM
  rcases h with rfl | rfl | rfl
  · refine ⟨by decide,by decide,?_⟩
    rw [cA]
    simp [Nat.mod_one]
  · refine ⟨by decide,by decide,?_⟩
    rw [cA]
    simp [Nat.mod_one]
  · refine ⟨by decide,by decide,?_⟩
    rw [cA]
    show ([31,31,31,3] :List Int).getD (j%4) 0=_
    simp only [show ¬ (4:Int)=2 from by decide,show ¬ (4:Int)=3 from by decide,if_false,if_true]
    have:j%4<4:=Nat.mod_lt _ (by decide)
    generalize j%4=r at *
    match r,this with
    | 0,_=>rfl
    | 1,_=>rfl
    | 2,_=>rfl
    | 3,_=>rfl
theorem KR (t:Int) (l:List (List CD)) (j:Nat):df t l (j+1)=df t l j++ [[.sl (eA t l j)]] :=by
  unfold df
  rw [List.range_succ,List.map_append];rfl
theorem kU (t:Int) (l:List (List CD)) (j:Nat):(df t l j).length=j:=by simp [df]
theorem Bh {t:Int} (ht:cZ t) {l l1 l2 l3:List (List CD)} {i:Int} (hl:l.length≤1000) (hm:(l.length:Int)%az t=0) (h:l2=List.map ac (cl t)∧∃ j,j≤dI t l.length∧l1=List.drop (dC t j) l∧i=(↑(j%(cl t).length):Int)∧l3=df t l j):
    bif decide ((0:Int)<(↑l1.length:Int)) then
      ((0:Int)≤i∧i<(↑l2.length:Int))∧
        i.toNat<l2.length∧
          ((0:Int)≤(0:Int)∧(0:Int)≤rv l2 i.toNat∧rv l2 i.toNat≤(↑l1.length:Int))∧
            ((l3.length+(1:Nat))*(24:Nat)≤(140737488355328:Nat)∧l3.length+(1:Nat)≤(9223372036854775807:Nat))∧
              ((0:Int)≤i∧i<(↑l2.length:Int))∧
                i.toNat<l2.length∧
                  ((0:Int)≤rv l2 i.toNat∧rv l2 i.toNat≤(↑l1.length:Int)∧(↑l1.length:Int)≤(↑l1.length:Int))∧
                    ((-9223372036854775808:Int)≤i+(1:Int)∧i+(1:Int)≤(9223372036854775807:Int))∧
                      (l2.length≤(9223372036854775807:Nat)→
                        ((0:Int)≤i+(1:Int)∧(0:Int)<(↑l2.length:Int))∧
                          (l2=List.map ac (cl t)∧
                              ∃ j,j≤dI t l.length∧List.drop (rv l2 i.toNat).toNat (List.take (↑l1.length:Int).toNat l1)=List.drop (dC t j) l∧
                                    (i+(1:Int))%(↑l2.length:Int)=(↑(j%(cl t).length):Int)∧
                                      l3++ [[CD.sl (List.drop (0:Nat) (List.take (rv l2 i.toNat).toNat l1))]] =df t l j)∧
                            (List.drop (rv l2 i.toNat).toNat (List.take (↑l1.length:Int).toNat l1)).length<l1.length)
    else l3=bB t l:=by
  obtain ⟨rfl,j,hj,rfl,rfl,rfl⟩:=h
  have ⟨z1,z2,z3⟩:=Og ht j
  have ⟨p1,p2,p3⟩:=Dr ht j
  have ⟨q1,q2,q3⟩:=Me ht hm hj
  have hlt:j%(cl t).length<(cl t).length:=Nat.mod_lt _ (by omega)
  have hl1:(List.drop (dC t j) l).length=l.length-dC t j:=List.length_drop
  have hl2:(List.map ac (cl t)).length=(cl t).length:=List.length_map _
  rw [Int.toNat_natCast,z3,hl1,hl2,kU,Int.toNat_natCast,Int.toNat_natCast]
  have hJ:dI t l.length≤1000:=by
    unfold dI
    rcases ht with rfl | rfl | rfl <;>simp <;>omega
  refine ab (fun h=> ?_) (fun h=> ?_)
  · have h:(0:Int)<((l.length-dC t j:Nat):Int):=of_decide_eq_true h
    have hjn:=q1.1 (by omega)
    have hin:=q2 hjn
    refine ⟨by omega,hlt,by omega,by omega,by omega,hlt,by omega,by omega,fun _=>⟨by omega,⟨rfl,j+1,hjn,?_,?_,?_⟩,?_⟩⟩
    · rw [List.take_of_length_le (by omega),List.drop_drop,p1]
    · rw [show ((j%(cl t).length:Nat):Int)+1=((j%(cl t).length+1:Nat):Int) from by omega,← Int.natCast_emod]
      congr 1
      rw [Nat.add_mod,Nat.mod_mod,← Nat.add_mod]
    · rw [KR];rfl
    · rw [List.take_of_length_le (by omega),List.length_drop,hl1];omega
  · have h:¬ (0:Int)<((l.length-dC t j:Nat):Int):=of_decide_eq_false h
    have:j=dI t l.length:=by
      have:=mt q1.2 (by omega)
      omega
    rw [this];rfl
theorem Ac {t:Int} (ht:¬ cZ t) (l:List (List CD)):df 1 l ((l.length+30) / 31)=bB t l:=by
  unfold cZ at ht
  have h2:¬ t=2:=fun e=>ht (.inl e)
  have h3:¬ t=3:=fun e=>ht (.inr (.inl e))
  have h4:¬ t=4:=fun e=>ht (.inr (.inr e))
  unfold bB df eA dC lM dI
  simp [h2,h3,h4]
theorem adt:Qg:=by
  unfold Qg
  rintro t l _ ⟨hl,hm⟩
  have mp:∀ j,j≤dI t l.length→True:=fun _ _=>trivial
  refine ⟨trivial,ab (fun h1=>⟨by decide,⟨rfl,hl⟩,Ac (by have:=of_decide_eq_true h1;unfold cZ;omega) l⟩) fun h1=> ?_⟩
  refine ab (fun h2 β hβ=> ?_) fun h2=>ab (fun h3 β hβ=> ?_) fun h3=>ab (fun h4 β hβ=> ?_) fun h4=> ?_
  · have h2:=of_decide_eq_true h2
    subst h2
    refine ab (fun e=>by cases hβ e) fun _=>⟨⟨⟨rfl,0,Nat.zero_le _,rfl,rfl,rfl⟩,trivial⟩,fun l1 l2 i l3 _ _ _ h _=>Bh (.inl rfl) hl (hm (.inl rfl)) h⟩
  · have h3:=of_decide_eq_true h3
    subst h3
    refine ab (fun e=>by cases hβ e) fun _=>⟨⟨⟨rfl,0,Nat.zero_le _,rfl,rfl,rfl⟩,trivial⟩,fun l1 l2 i l3 _ _ _ h _=>Bh (.inr (.inl rfl)) hl (hm (.inr (.inl rfl))) h⟩
  · have h4:=of_decide_eq_true h4
    subst h4
    refine ab (fun e=>by cases hβ e) fun _=>⟨⟨⟨rfl,0,Nat.zero_le _,rfl,rfl,rfl⟩,trivial⟩,fun l1 l2 i l3 _ _ _ h _=>Bh (.inr (.inr rfl)) hl (hm (.inr (.inr rfl))) h⟩
  · exact ⟨by decide,⟨rfl,hl⟩,Ac (by have:=of_decide_eq_false h2;have:=of_decide_eq_false h3;have:=of_decide_eq_false h4;unfold cZ;omega) l⟩
theorem ac2:af (base.with sS) 97 (ag Lt):=am MF Tryz.func97 (by kernel_rfl) (by kernel_rfl) Tryz.call97 e97 adt
theorem PH:(base.with w5).Ok:=ae MF ac2
theorem gr {k t n:Int} {l:List (List CD)} (h:dL k t n l=true):(1≤k∧k≤3)∧(0≤t∧t≤4)∧(1≤n∧n≤1048576)∧(k=1→(l.length:Int)=az t*n∧bf t l=0∧bM t l=0)∧(k≠1→l= []):=by
  unfold dL at h
  rw [Bool.and_eq_true] at h
  have hc:=of_decide_eq_true h.1
  have h2:=h.2
  unfold cH at hc
  have hk:¬ (k<1∨3<k):=fun e=>by rw [if_pos e] at hc;cases hc
  rw [if_neg hk] at hc
  have ht:¬ ((k=1∧(t<1∨4<t))∨(k=2∧t≠1∧t≠3)∨(k=3∧t≠0)):=fun e=>by rw [if_pos e] at hc;cases hc
  rw [if_neg ht] at hc
  have hn:¬ (n<1∨1048576<n∨(k=3∧n≠1)):=fun e=>by rw [if_pos e] at hc;cases hc
  refine ⟨by omega,by omega,by omega,fun e=> ?_,fun e=> ?_⟩
  · rw [e] at h2
    simp only [Bool.cond_false,Bool.cond_true,ne_eq,not_true_eq_false,decide_false,cond_false,Bool.and_eq_true,decide_eq_true_eq] at h2
    have:=rK h2.1
    rw [← h2.2.1]
    exact ⟨this.2.1,h2.1,h2.2.2⟩
  · rw [decide_eq_true e] at h2
    have:=of_decide_eq_true h2
    exact List.length_eq_zero_iff.1 (by omega)
theorem Jn {k t n:Int} {l:List (List CD)} (h:dL k t n l=true) (hc:cZ t):(l.length:Int)%az t=0:=by
  have ⟨_,_,_,h1,h2⟩:=gr h
  by_cases e:k=1
  · rw [(h1 e).1,Int.mul_emod_right]
  · rw [h2 e];simp
theorem L3 {v b:Int} {k:Nat} (hk:k≤32) (hv:0≤v∧v<2 ^ k) (hb:0≤b∧b<4294967296):dQ .u64 v (cn .u64 b (k:Int))=v+b*2 ^ k:=by
  obtain ⟨m,rfl⟩:=aT hv.1
  obtain ⟨c,rfl⟩:=aT hb.1
  have hp:((2:Int) ^ k)=((2 ^ k:Nat):Int):=by simp
  have hm:m<2 ^ k:=by have:=hv.2;rw [hp] at this;exact Int.ofNat_lt.1 this
  have hc:c<4294967296:=by have:=hb.2;omega
  have hpow:2 ^ k≤4294967296:=by
    rw [show (4294967296:Nat)=2 ^ 32 from by decide]
    exact Nat.pow_le_pow_right (by decide) hk
  have hlt:m+c*2 ^ k<18446744073709551616:=by
    have h3:c*2 ^ k≤4294967295*2 ^ k:=Nat.mul_le_mul_right _ (by omega)
    omega
  rw [Fq c k (by omega),Nat.mod_eq_of_lt (show c*2 ^ k<18446744073709551616 from by omega),hp]
  have w1:ak (m:Int):=⟨by omega,by omega⟩
  have w2:ak ((c*2 ^ k:Nat):Int):=⟨Int.natCast_nonneg _,by
    have h9:c*2 ^ k<18446744073709551616:=by omega
    omega⟩
  have e1:(BitVec.ofInt 64 (m:Int) |||BitVec.ofInt 64 ((c*2 ^ k:Nat):Int)).toNat=m |||(c*2 ^ k):=by
    rw [BitVec.toNat_or,qO w1,qO w2,Int.toNat_natCast,Int.toNat_natCast]
  show IntKind.u64.wrap ((BitVec.ofInt 64 (m:Int) |||BitVec.ofInt 64 ((c*2 ^ k:Nat):Int)).toNat:Int)=_
  have e2:m |||(c*2 ^ k)=m+c*2 ^ k:=by
    rw [Nat.or_comm,Nat.mul_comm,← Nat.two_pow_add_eq_or_of_lt hm,Nat.add_comm]
  rw [e1,e2,cE ⟨Int.natCast_nonneg _,Int.ofNat_lt.2 hlt⟩,Int.natCast_add,Int.natCast_mul]
theorem NJ {k t n:Int} (hk:0≤k∧k<256) (ht:0≤t∧t<256) (hn:0≤n∧n<4294967296):rk k t n=k+256*t+65536*n:=by
  unfold rk
  rw [cE ⟨hk.1,by omega⟩,cE ⟨ht.1,by omega⟩,cE ⟨hn.1,by omega⟩]
  have e1:=L3 (v:=k) (b:=t) (k:=8) (by decide) ⟨hk.1,by omega⟩ ⟨ht.1,by omega⟩
  rw [show ((8:Nat):Int)=8 from rfl,show (2:Int) ^ 8=256 from by decide] at e1
  rw [e1]
  have e2:=L3 (v:=k+t*256) (b:=n) (k:=16) (by decide) ⟨by omega,by rw [show (2:Int) ^ 16=65536 from by decide];omega⟩ hn
  rw [show ((16:Nat):Int)=16 from rfl,show (2:Int) ^ 16=65536 from by decide] at e2
  rw [e2]
  omega
theorem WY {t:Int} {l:List (List CD)} (h:cI l) (j:Nat):ax (eA t l j):=by
  unfold eA
  rw [List.take_drop]
  exact gq (qv h _ _)
theorem Dx (t:Int) (l:List (List CD)) (j:Nat):(eA t l j).length≤32:=by
  unfold eA lM
  rw [List.length_take]
  split
  · omega
  · split
    · omega
    · split
      · split <;>omega
      · omega
theorem JD {t:Int} {l:List (List CD)} {j:Nat} (h:j<(bB t l).length):((bB t l).getD j [])= [.sl (eA t l j)] :=by
  unfold bB at h ⊢
  rw [kU] at h
  unfold df
  rw [List.getD_eq_getElem?_getD,List.getElem?_map,List.getElem?_range h]
  rfl
theorem Iv (t:Int) (n:Nat):dI t n≤n+30:=by
  unfold dI
  split
  · omega
  · split
    · omega
    · split <;>omega
theorem adf:TX:=by
  unfold TX
  intro k t n l _ hp
  refine ⟨hp,ab (fun h=> ?_) fun h=> ?_⟩
  · have h:dL k t n l=false:=by simpa using h
    unfold iy
    rw [if_neg (by rw [h];decide)]
  have h:dL k t n l=true:=by simpa using h
  have hlen:(bB t l).length≤1030:=by unfold bB;rw [kU];have:=Iv t l.length;have:=hp.2;omega
  refine ⟨by decide,by decide,An _ _,⟨hp.2,Jn h⟩,fun _=>⟨⟨⟨rfl,rfl,by decide,by omega,h,rfl⟩,trivial⟩,?_⟩⟩
  rintro l1 m i l2 _ _ ⟨rfl,rfl,h0,h1,hr,rfl⟩
  obtain ⟨j,rfl⟩:=aT h0
  have hl2:(bn (ck [rk k t n,0,0,0])::List.take (j:Int).toNat (List.map lv (bB t l))).length=j+1:=by
    rw [Int.toNat_natCast,List.length_cons,List.length_take,List.length_map];omega
  refine ab (fun h=> ?_) fun h=> ?_
  · have h:(j:Int)<(bB t l).length:=of_decide_eq_true h
    have hj:j<(bB t l).length:=by omega
    have hg:=JD hj
    rw [hl2,Int.toNat_natCast,hg]
    refine ⟨by omega,hj,⟨WY hp.1 j,Nat.le_trans (Dx t l j) (by decide)⟩,by omega,by omega,⟨rfl,rfl,by omega,by omega,hr,?_⟩,by omega⟩
    rw [show ((j:Int)+1).toNat=j+1 from by omega,List.cons_append]
    congr 1
    rw [List.take_add_one,List.getElem?_map]
    congr 1
    rw [List.getD_eq_getElem?_getD] at hg
    rw [List.getElem?_eq_getElem hj] at hg ⊢
    simp only [Option.getD_some] at hg
    rw [hg]
    rfl
  · have h:¬ (j:Int)<(bB t l).length:=of_decide_eq_false h
    unfold iy
    rw [if_pos hr,Int.toNat_natCast,List.take_of_length_le (by rw [List.length_map];omega)]
theorem adk:af (base.with w5) 60 (ag LI):=am PH Tryz.func60 (by kernel_rfl) (by kernel_rfl) Tryz.call60 e60 adf
theorem Rk:(base.with xK).Ok:=ae PH adk
theorem BP (k t n:Int) (l:List (List CD)):(io k t n l).length≤l.length+6:=by
  unfold io
  split
  · rw [List.length_append];simp;omega
  · simp
theorem AB (k t n:Int) (l:List (List CD)):(iy k t n l).length≤l.length+31:=by
  unfold iy
  split
  · rw [List.length_cons,List.length_map]
    unfold bB
    rw [kU]
    have:=Iv t l.length
    omega
  · simp
theorem Ae {l:List (List CD)} (h:CU l):∀ i,i≤l.length→(dJ l i).length≤206*i∧(bL l i).length≤231*i
  | 0,_=>⟨Nat.le_refl _,Nat.le_refl _⟩
  | i+1,hi=>by
    have ih:=Ae h i (by omega)
    have hd:=(h.2 i (by omega)).2
    have:=BP (ca l i 0) (ca l i 1) (ca l i 2) (eJ l i)
    have:=AB (ca l i 0) (ca l i 1) (ca l i 2) (eJ l i)
    rw [dJ,bL,List.length_append,List.length_append]
    omega
theorem aeK:So:=by
  unfold So
  intro l _ hok _
  refine ⟨⟨⟨rfl,rfl,by decide,by omega,rfl,rfl⟩,trivial⟩,?_⟩
  rintro l1 m i b f _ _ _ ⟨rfl,rfl,h0,h1,rfl,rfl⟩
  obtain ⟨j,rfl⟩:=aT h0
  rw [Int.toNat_natCast]
  have hl:=hok.1
  refine ab (fun h=> ?_) fun h=> ?_
  · have h:(j:Int)<l1.length:=of_decide_eq_true h
    have hj:j<l1.length:=by omega
    have hd:=hok.2 j hj
    have ⟨g1,g2⟩:=Ae hok j (by omega)
    have q1:=BP (ca l1 j 0) (ca l1 j 1) (ca l1 j 2) (eJ l1 j)
    have q2:=AB (ca l1 j 0) (ca l1 j 1) (ca l1 j 2) (eJ l1 j)
    have hk:fT (eJ l1 j):=⟨hd.1,by omega⟩
    unfold eJ ca at q1 q2
    unfold eJ at hk hd
    refine ⟨by omega,hj,trivial,hk,by omega,trivial,hk,by omega,by omega,⟨rfl,rfl,by omega,by omega,?_,?_⟩,by omega⟩
    · rw [show ((j:Int)+1).toNat=j+1 from by omega];rfl
    · rw [show ((j:Int)+1).toNat=j+1 from by omega];rfl
  · have h:¬ (j:Int)<l1.length:=of_decide_eq_false h
    have:j=l1.length:=by omega
    rw [this]
    exact ⟨rfl,rfl⟩
theorem aee:af (base.with xK) 28 (ag K5):=am Rk Tryz.func28 (by kernel_rfl) (by kernel_rfl) Tryz.call28 e28 aeK
theorem ad0:(base.with Fo).Ok:=ae Rk aee
end Go.Proofs.YteiecapbaeajdaaGreatDoor
namespace Go.Proofs.YteiecapbaeajdaaGreatDoor
open Go Go.Avc
set_option linter.unusedVariables false
def fh (l:List (List CD)):Prop:=∀ i,i<l.length→cI (eJ l i)
def pi (l:List (List CD)) (j:Nat):Prop:=(eJ l j).length≤200∧dL (ca l j 0) (ca l j 1) (ca l j 2) (eJ l j)=true
def dN (l:List (List CD)):Prop:=∀ j,j<l.length→pi l j
def Dy (a b:List (List CD)) (i:Nat):Bool:=decide (ca a i 0=ca b i 0)&&(decide (ca a i 1=ca b i 1)&&(decide (ca a i 2=ca b i 2)&&decide (aa (eJ a i)=aa (eJ b i))))
def kD (a b:List (List CD)):Nat→Bool
  | 0=>decide ((a.length:Int)=b.length)
  | i+1=>kD a b i&&Dy a b i
def Uw (a b:List (List CD)) (i:Nat):Bool:=decide ((List.range 4).map (fun c=>ca a i c)=(List.range 4).map (fun c=>ca b i c))
def sR (a b:List (List CD)):Nat→Bool
  | 0=>decide ((a.length:Int)=b.length)
  | i+1=>sR a b i&&Uw a b i
def SO:Ct:= {ps:= [.rd kp,.rd kp],bs:= [],pre:=fun | [.r a,.r b] =>fh a∧fh b | _=>False,res:=fun _=> .ret .bool [] [.b true]}
noncomputable def afd:List Dat→Ann
  | [.r a,.r b] => {cut:= [],loop:= [
    (4,[la 163 [(0,.rd kp),(1,.rd kp),(32,.rd kp),(33,i64),(34,i64)] [] (fun
      | [.r a',.r b',.r x,.i m,.i i] =>a'=a∧b'=b∧a.length≤6∧b.length≤6∧x=a++b∧m=x.length∧0≤i∧i≤m∧∀ j:Nat,j<i→pi x j
      | _=>False) (fun | [_,_,_,.i m,.i i] =>(m-i).toNat | _=>0)]),
    (11,[la 163 [(0,.rd kp),(1,.rd kp),(7,.bool),(57,i64),(58,i64)] [] (fun
      | [.r a',.r b',.b e,.i m,.i i] =>a'=a∧b'=b∧a.length≤6∧b.length≤6∧dN a∧dN b∧m=min a.length b.length∧0≤i∧i≤m∧e=kD a b i.toNat
      | _=>False) (fun | [_,_,_,.i m,.i i] =>(m-i).toNat | _=>0)]),
    (19,[la 163 [(7,.bool),(9,.str),(10,.rd CO),(11,.str),(12,.rd CO),(13,.bool),(136,i64),(137,i64)] [] (fun
      | [.b e,.s s,.r f,.s s',.r f',.b g,.i m,.i i] =>a.length≤6∧b.length≤6∧dN a∧dN b∧e=kD a b (min a.length b.length)∧s=aa (dJ a a.length)∧s'=aa (dJ b b.length)∧f=bL a a.length∧f'=bL b b.length∧m=min f.length f'.length∧0≤i∧i≤m∧g=sR f f' i.toNat
      | _=>False) (fun | [_,_,_,_,_,_,.i m,.i i] =>(m-i).toNat | _=>0)])]}
  | _=> {cut:= [],loop:= []}
end Go.Proofs.YteiecapbaeajdaaGreatDoor
namespace Go.Proofs.YteiecapbaeajdaaGreatDoor
open Go Go.Avc Go.Proofs
set_option linter.unusedVariables false
set_option maxRecDepth 100000
def P7:Prop:= ∀ (l l_1:List (List CD)),
 l.length≤9223372036854775807→
 l_1.length≤9223372036854775807→
 fh l∧fh l_1→
 True∧
 (((bw false !true)=true→l.length≤9223372036854775807)→
 (bw false (!true || decide (6 < (↑l.length:Int)))=true→l_1.length≤9223372036854775807)→
 bif !true || decide (6 < (↑l.length:Int)) || decide (6 < (↑l_1.length:Int)) then True∧true=true
 else
 ((0+l.length)*48≤140737488355328∧0+l.length≤9223372036854775807)∧
 ((([] ++l).length+l_1.length)*48≤140737488355328∧([] ++l).length+l_1.length≤9223372036854775807)∧
 (([] ++l++l_1).length≤9223372036854775807→
 ((l=l∧
 l_1=l_1∧
 l.length≤6∧
 l_1.length≤6∧
 [] ++l++l_1=l++l_1∧
 (↑([] ++l++l_1).length:Int)=(↑([] ++l++l_1).length:Int)∧
 (0:Int)≤0∧
 0≤(↑([] ++l++l_1).length:Int)∧
 ∀ (j:Nat),(↑j:Int) < 0→pi ([] ++l++l_1) j)∧
 True)∧
 ∀ (l_2 l_3 l_4:List (List CD)) (n n_1:Int),
 l_2.length≤9223372036854775807→
 l_3.length≤9223372036854775807→
 l_4.length≤9223372036854775807→
 (l_2=l∧
 l_3=l_1∧
 l.length≤6∧
 l_1.length≤6∧
 l_4=l++l_1∧
 n=(↑l_4.length:Int)∧0≤n_1∧n_1≤n∧∀ (j:Nat),(↑j:Int) < n_1→pi l_4 j)→
 bif decide (n_1 < n) then
 (0≤n_1∧n_1 < (↑l_4.length:Int))∧
 n_1.toNat < l_4.length∧
 (((l_4.getD n_1.toNat []).getD 3 (.int 0)).toSl.length≤9223372036854775807→
 ((!decide (200 < (↑((l_4.getD n_1.toNat []).getD 3 (.int 0)).toSl.length:Int)))=true→
 fT ((l_4.getD n_1.toNat []).getD 3 (.int 0)).toSl)∧
 bif
 decide (200 < (↑((l_4.getD n_1.toNat []).getD 3 (.int 0)).toSl.length:Int)) ||
 !dL ((l_4.getD n_1.toNat []).getD 0 (.int 0)).toInt
 ((l_4.getD n_1.toNat []).getD 1 (.int 0)).toInt
 ((l_4.getD n_1.toNat []).getD 2 (.int 0)).toInt
 ((l_4.getD n_1.toNat []).getD 3 (.int 0)).toSl then
 true=true
 else
 ((-9223372036854775808:Int)≤n_1+1∧n_1+1≤9223372036854775807)∧
 (l_2=l∧
 l_3=l_1∧
 l.length≤6∧
 l_1.length≤6∧
 l_4=l++l_1∧
 n=(↑l_4.length:Int)∧
 0≤n_1+1∧
 n_1+1≤n∧∀ (j:Nat),(↑j:Int) < n_1+1→pi l_4 j)∧
 (n - (n_1+1)).toNat < (n - n_1).toNat)
 else
 l_2.length≤9223372036854775807→
 l_3.length≤9223372036854775807→
 l_2.length≤9223372036854775807→
 l_3.length≤9223372036854775807→
 ((l_2=l∧
 l_3=l_1∧
 l.length≤6∧
 l_1.length≤6∧
 dN l∧
 dN l_1∧
 min (↑l_2.length:Int) (↑l_3.length:Int)=(↑(min l.length l_1.length):Int)∧
 (0:Int)≤0∧
 0≤min (↑l_2.length:Int) (↑l_3.length:Int)∧
 decide ((↑l_2.length:Int)=(↑l_3.length:Int))=kD l l_1 0)∧
 True)∧
 ∀ (l_5 l_6:List (List CD)) (b:Bool) (n n_2:Int),
 l_5.length≤9223372036854775807→
 l_6.length≤9223372036854775807→
 l_5=l∧
 l_6=l_1∧
 l.length≤6∧
 l_1.length≤6∧
 dN l∧
 dN l_1∧
 n=(↑(min l.length l_1.length):Int)∧
 0≤n_2∧n_2≤n∧b=kD l l_1 n_2.toNat→
 bif decide (n_2 < n) then
 (b=true→0≤n_2∧n_2 < (↑l_5.length:Int))∧
 (b=true→n_2.toNat < l_5.length)∧
 (b=true→n_2.toNat < l_5.length)∧
 (b=true→0≤n_2∧n_2 < (↑l_6.length:Int))∧
 (b=true→n_2.toNat < l_6.length)∧
 (b=true→n_2.toNat < l_6.length)∧
 ((b &&
 decide
 (((l_5.getD n_2.toNat []).getD 0 (.int 0)).toInt=
 ((l_6.getD n_2.toNat []).getD 0 (.int 0)).toInt))=
 true→
 0≤n_2∧n_2 < (↑l_5.length:Int))∧
 ((b &&
 decide
 (((l_5.getD n_2.toNat []).getD 0 (.int 0)).toInt=
 ((l_6.getD n_2.toNat []).getD 0 (.int 0)).toInt))=
 true→
 n_2.toNat < l_5.length)∧
 ((b &&
 decide
 (((l_5.getD n_2.toNat []).getD 0 (.int 0)).toInt=
 ((l_6.getD n_2.toNat []).getD 0 (.int 0)).toInt))=
 true→
 n_2.toNat < l_5.length)∧
 ((b &&
 decide
 (((l_5.getD n_2.toNat []).getD 0 (.int 0)).toInt=
 ((l_6.getD n_2.toNat []).getD 0 (.int 0)).toInt))=
 true→
 0≤n_2∧n_2 < (↑l_6.length:Int))∧
 ((b &&
 decide
 (((l_5.getD n_2.toNat []).getD 0 (.int 0)).toInt=
 ((l_6.getD n_2.toNat []).getD 0 (.int 0)).toInt))=
 true→
 n_2.toNat < l_6.length)∧
 ((b &&
 decide
 (((l_5.getD n_2.toNat []).getD 0 (.int 0)).toInt=
 ((l_6.getD n_2.toNat []).getD 0 (.int 0)).toInt))=
 true→
 n_2.toNat < l_6.length)∧
 ((b &&
 decide
 (((l_5.getD n_2.toNat []).getD 0 (.int 0)).toInt=
 ((l_6.getD n_2.toNat []).getD 0 (.int 0)).toInt) &&
 decide
 (((l_5.getD n_2.toNat []).getD 1 (.int 0)).toInt=
 ((l_6.getD n_2.toNat []).getD 1 (.int 0)).toInt))=
 true→
 0≤n_2∧n_2 < (↑l_5.length:Int))∧
 ((b &&
 decide
 (((l_5.getD n_2.toNat []).getD 0 (.int 0)).toInt=
 ((l_6.getD n_2.toNat []).getD 0 (.int 0)).toInt) &&
 decide
 (((l_5.getD n_2.toNat []).getD 1 (.int 0)).toInt=
 ((l_6.getD n_2.toNat []).getD 1 (.int 0)).toInt))=
 true→
 n_2.toNat < l_5.length)∧
 ((b &&
 decide
 (((l_5.getD n_2.toNat []).getD 0 (.int 0)).toInt=
 ((l_6.getD n_2.toNat []).getD 0 (.int 0)).toInt) &&
 decide
 (((l_5.getD n_2.toNat []).getD 1 (.int 0)).toInt=
 ((l_6.getD n_2.toNat []).getD 1 (.int 0)).toInt))=
 true→
 n_2.toNat < l_5.length)∧
 ((b &&
 decide
 (((l_5.getD n_2.toNat []).getD 0 (.int 0)).toInt=
 ((l_6.getD n_2.toNat []).getD 0 (.int 0)).toInt) &&
 decide
 (((l_5.getD n_2.toNat []).getD 1 (.int 0)).toInt=
 ((l_6.getD n_2.toNat []).getD 1 (.int 0)).toInt))=
 true→
 0≤n_2∧n_2 < (↑l_6.length:Int))∧
 ((b &&
 decide
 (((l_5.getD n_2.toNat []).getD 0 (.int 0)).toInt=
 ((l_6.getD n_2.toNat []).getD 0 (.int 0)).toInt) &&
 decide
 (((l_5.getD n_2.toNat []).getD 1 (.int 0)).toInt=
 ((l_6.getD n_2.toNat []).getD 1 (.int 0)).toInt))=
 true→
 n_2.toNat < l_6.length)∧
 ((b &&
 decide
 (((l_5.getD n_2.toNat []).getD 0 (.int 0)).toInt=
 ((l_6.getD n_2.toNat []).getD 0 (.int 0)).toInt) &&
 decide
 (((l_5.getD n_2.toNat []).getD 1 (.int 0)).toInt=
 ((l_6.getD n_2.toNat []).getD 1 (.int 0)).toInt))=
 true→
 n_2.toNat < l_6.length)∧
 ((b &&
 decide
 (((l_5.getD n_2.toNat []).getD 0
 (.int 0)).toInt=
 ((l_6.getD n_2.toNat []).getD 0
 (.int 0)).toInt) &&
 decide
 (((l_5.getD n_2.toNat []).getD 1 (.int 0)).toInt=
 ((l_6.getD n_2.toNat []).getD 1
 (.int 0)).toInt) &&
 decide
 (((l_5.getD n_2.toNat []).getD 2 (.int 0)).toInt=
 ((l_6.getD n_2.toNat []).getD 2 (.int 0)).toInt))=
 true→
 0≤n_2∧n_2 < (↑l_5.length:Int))∧
 ((b &&
 decide
 (((l_5.getD n_2.toNat []).getD 0
 (.int 0)).toInt=
 ((l_6.getD n_2.toNat []).getD 0
 (.int 0)).toInt) &&
 decide
 (((l_5.getD n_2.toNat []).getD 1
 (.int 0)).toInt=
 ((l_6.getD n_2.toNat []).getD 1
 (.int 0)).toInt) &&
 decide
 (((l_5.getD n_2.toNat []).getD 2 (.int 0)).toInt=
 ((l_6.getD n_2.toNat []).getD 2
 (.int 0)).toInt))=
 true→
 n_2.toNat < l_5.length)∧
 ((b &&
 decide
 (((l_5.getD n_2.toNat []).getD 0
 (.int 0)).toInt=
 ((l_6.getD n_2.toNat []).getD 0
 (.int 0)).toInt) &&
 decide
 (((l_5.getD n_2.toNat []).getD 1
 (.int 0)).toInt=
 ((l_6.getD n_2.toNat []).getD 1
 (.int 0)).toInt) &&
 decide
 (((l_5.getD n_2.toNat []).getD 2
 (.int 0)).toInt=
 ((l_6.getD n_2.toNat []).getD 2
 (.int 0)).toInt))=
 true→
 n_2.toNat < l_5.length)∧
 ((b &&
 decide
 (((l_5.getD n_2.toNat []).getD 0
 (.int 0)).toInt=
 ((l_6.getD n_2.toNat []).getD 0
 (.int 0)).toInt) &&
 decide
 (((l_5.getD n_2.toNat []).getD 1
 (.int 0)).toInt=
 ((l_6.getD n_2.toNat []).getD 1
 (.int 0)).toInt) &&
 decide
 (((l_5.getD n_2.toNat []).getD 2
 (.int 0)).toInt=
 ((l_6.getD n_2.toNat []).getD 2
 (.int 0)).toInt))=
 true→
 0≤n_2∧n_2 < (↑l_6.length:Int))∧
 ((b &&
 decide
 (((l_5.getD n_2.toNat []).getD 0
 (.int 0)).toInt=
 ((l_6.getD n_2.toNat []).getD 0
 (.int 0)).toInt) &&
 decide
 (((l_5.getD n_2.toNat []).getD 1
 (.int 0)).toInt=
 ((l_6.getD n_2.toNat []).getD 1
 (.int 0)).toInt) &&
 decide
 (((l_5.getD n_2.toNat []).getD 2
 (.int 0)).toInt=
 ((l_6.getD n_2.toNat []).getD 2
 (.int 0)).toInt))=
 true→
 n_2.toNat < l_6.length)∧
 ((b &&
 decide
 (((l_5.getD n_2.toNat []).getD 0
 (.int 0)).toInt=
 ((l_6.getD n_2.toNat []).getD 0
 (.int 0)).toInt) &&
 decide
 (((l_5.getD n_2.toNat []).getD 1
 (.int 0)).toInt=
 ((l_6.getD n_2.toNat []).getD 1
 (.int 0)).toInt) &&
 decide
 (((l_5.getD n_2.toNat []).getD 2
 (.int 0)).toInt=
 ((l_6.getD n_2.toNat []).getD 2
 (.int 0)).toInt))=
 true→
 n_2.toNat < l_6.length)∧
 ((-9223372036854775808:Int)≤n_2+1∧
 n_2+1≤9223372036854775807)∧
 (l_5=l∧
 l_6=l_1∧
 l.length≤6∧
 l_1.length≤6∧
 dN l∧
 dN l_1∧
 n=(↑(min l.length l_1.length):Int)∧
 0≤n_2+1∧
 n_2+1≤n∧
 (b &&
 decide
 (((l_5.getD n_2.toNat []).getD 0
 (.int 0)).toInt=
 ((l_6.getD n_2.toNat []).getD 0
 (.int 0)).toInt) &&
 decide
 (((l_5.getD n_2.toNat []).getD 1
 (.int 0)).toInt=
 ((l_6.getD n_2.toNat []).getD 1
 (.int 0)).toInt) &&
 decide
 (((l_5.getD n_2.toNat []).getD 2
 (.int 0)).toInt=
 ((l_6.getD n_2.toNat []).getD 2
 (.int 0)).toInt) &&
 decide
 (aa
 ((l_5.getD n_2.toNat []).getD 3
 (.int 0)).toSl=
 aa
 ((l_6.getD n_2.toNat []).getD 3
 (.int 0)).toSl))=
 kD l l_1
 (n_2+1).toNat)∧
 (n - (n_2+1)).toNat < (n - n_2).toNat
 else
 CU l_5∧
 CU l_6∧
 ((bL l_5 l_5.length).length≤9223372036854775807→
 (bL l_6 l_6.length).length≤9223372036854775807→
 (bL l_5 l_5.length).length≤9223372036854775807→
 (bL l_6 l_6.length).length≤9223372036854775807→
 ((l.length≤6∧
 l_1.length≤6∧
 dN l∧
 dN l_1∧
 b=kD l l_1 (min l.length l_1.length)∧
 aa (dJ l_5 l_5.length)=
 aa (dJ l l.length)∧
 aa (dJ l_6 l_6.length)=
 aa (dJ l_1 l_1.length)∧
 bL l_5 l_5.length=
 bL l l.length∧
 bL l_6 l_6.length=
 bL l_1 l_1.length∧
 min (↑(bL l_5 l_5.length).length:Int)
 (↑(bL l_6 l_6.length).length:Int)=
 (↑(min (bL l_5 l_5.length).length
 (bL l_6 l_6.length).length):
 Int)∧
 (0:Int)≤0∧
 (0:Int)≤
 min (↑(bL l_5 l_5.length).length:Int)
 (↑(bL l_6 l_6.length).length:Int)∧
 decide
 ((↑(bL l_5 l_5.length).length:Int)=
 (↑(bL l_6 l_6.length).length:Int))=
 sR
 (bL l_5 l_5.length)
 (bL l_6 l_6.length) 0)∧
 True)∧
 ∀ (b:Bool) (l_7:List UInt8) (l_8:List (List CD)) (l_9:List UInt8)
 (l_10:List (List CD)) (b_1:Bool) (n n_3:Int),
 l_7.length≤9223372036854775807→
 l_8.length≤9223372036854775807→
 l_9.length≤9223372036854775807→
 l_10.length≤9223372036854775807→
 l.length≤6∧
 l_1.length≤6∧
 dN l∧
 dN l_1∧
 b=kD l l_1 (min l.length l_1.length)∧
 l_7=aa (dJ l l.length)∧
 l_9=aa (dJ l_1 l_1.length)∧
 l_8=bL l l.length∧
 l_10=bL l_1 l_1.length∧
 n=(↑(min l_8.length l_10.length):Int)∧
 0≤n_3∧
 n_3≤n∧b_1=sR l_8 l_10 n_3.toNat→
 bif decide (n_3 < n) then
 (b_1=true→0≤n_3∧n_3 < (↑l_8.length:Int))∧
 (b_1=true→n_3.toNat < l_8.length)∧
 (b_1=true→0≤n_3∧n_3 < (↑l_10.length:Int))∧
 (b_1=true→n_3.toNat < l_10.length)∧
 (b_1=true→True)∧
 ((-9223372036854775808:Int)≤n_3+1∧
 n_3+1≤9223372036854775807)∧
 (l.length≤6∧
 l_1.length≤6∧
 dN l∧
 dN l_1∧
 b=
 kD l l_1
 (min l.length l_1.length)∧
 l_7=
 aa
 (dJ l l.length)∧
 l_9=
 aa
 (dJ l_1 l_1.length)∧
 l_8=bL l l.length∧
 l_10=bL l_1 l_1.length∧
 n=(↑(min l_8.length l_10.length):Int)∧
 0≤n_3+1∧
 n_3+1≤n∧
 (b_1 &&
 decide
 ([((l_8.getD n_3.toNat []).getD 0
 (.int 0)).toInt,
 ((l_8.getD n_3.toNat []).getD 1
 (.int 0)).toInt,
 ((l_8.getD n_3.toNat []).getD 2
 (.int 0)).toInt,
 ((l_8.getD n_3.toNat []).getD 3
 (.int 0)).toInt] =
 [((l_10.getD n_3.toNat []).getD 0
 (.int 0)).toInt,
 ((l_10.getD n_3.toNat []).getD 1
 (.int 0)).toInt,
 ((l_10.getD n_3.toNat []).getD 2
 (.int 0)).toInt,
 ((l_10.getD n_3.toNat []).getD 3
 (.int 0)).toInt]))=
 sR l_8 l_10
 (n_3+1).toNat)∧
 (n - (n_3+1)).toNat < (n - n_3).toNat
 else (decide (l_7=l_9)==b && b_1==b)=true)))
theorem e7:av Fo Tryz.f7 SO afd=P7:=by kernel_rfl
end Go.Proofs.YteiecapbaeajdaaGreatDoor
namespace Go.Proofs.YteiecapbaeajdaaGreatDoor
open Go Go.Avc Go.Proofs
set_option linter.unusedVariables false
set_option linter.unusedSimpArgs false
set_option maxRecDepth 10000
theorem vM (b:List UInt8):cK (ah b)=b.map UInt8.toNat:=by
  unfold cK ah
  rw [List.map_map]
  apply List.map_congr_left
  intro x _
  show ((x.toNat:Nat):Int).toNat=x.toNat
  simp
theorem Cn:∀ (b c:List UInt8),b.length=c.length→kG (b.map UInt8.toNat)=kG (c.map UInt8.toNat)→b=c
  | [],[],_,_=>rfl
  | [],_::_,h,_=>by simp at h
  | _::_,[],h,_=>by simp at h
  | x::b,y::c,h,hv=>by
    simp only [List.map_cons,kG] at hv
    have h1:=x.toNat_lt
    have h2:=y.toNat_lt
    have e:x.toNat=y.toNat:=by omega
    have:=Cn b c (by simpa using h) (by omega)
    rw [this,UInt8.toNat_inj.1 e]
theorem O6 {l m:List (List CD)} (hl:cI l) (hm:cI m) (hlen:l.length=m.length) (h:bv l=bv m):l=m:=by
  obtain ⟨b,rfl⟩:=kc hl
  obtain ⟨c,rfl⟩:=kc hm
  rw [aZ,aZ] at hlen
  unfold bv at h
  rw [vM,vM] at h
  rw [Cn b c hlen h]
theorem Uv:ps (rv pR) pR.length=21888242871839275222246405745257275088548364400416034343698204186575808495617:=by
  show ps (rv (pW.map ac)) 4=_
  rw [kJ,← D4 (by rfl),TT]
theorem Iu {l:List (List CD)} (hb:ax l) (hl:l.length≤400):∃ W,d9 l=ck W∧W.length=4∧aq W∧vl W=(bv l:Int)%21888242871839275222246405745257275088548364400416034343698204186575808495617:=by
  have ha:=qc hl hb
  have ⟨r1,r2,r3⟩:=qI G0 ha (by decide) (by rw [Uv];decide)
  rw [Uv] at r3
  have hr4:(cw pR ((aL l l.length).map ac)).length=4:=r2
  refine ⟨(((cw pR ((aL l l.length).map ac)).drop 0).take 4).map fun r=>(r.getD 0 .d0).toInt,by rw [d9,aR],by rw [List.length_map,List.length_take,List.drop_zero,hr4];rfl,Jo (by rw [List.drop_zero];exact r1.2) 4,?_⟩
  rw [List.drop_zero,List.take_of_length_le (by omega)]
  rw [D4 (by rw [List.length_map,hr4])]
  have e:gI ((cw pR ((aL l l.length).map ac)).map fun r=>(r.getD 0 .d0).toInt)=rv (cw pR ((aL l l.length).map ac)):=by
    funext i
    unfold gI rv
    generalize cw pR ((aL l l.length).map ac)=R
    simp only [List.getD_eq_getElem?_getD,List.getElem?_map]
    cases R[i]? <;>rfl
  rw [e]
  have h2:=wY hb
  have hpl:pR.length=4:=rfl
  rw [hpl] at r3
  rw [r3,List.length_map,d8,h2]
theorem IN (l:List (List CD)):(d9 l).length=4:=by rw [d9,aR];exact nd _
theorem Ig {a b:List Int} (ha:a.length=4) (wa:aq a) (hb:b.length=4) (wb:aq b) (h1:vl a<21888242871839275222246405745257275088548364400416034343698204186575808495617) (h2:vl b<21888242871839275222246405745257275088548364400416034343698204186575808495617) (h:ck a=ck b):vl a=vl b:=by
  rw [← G7 ha wa h1,← G7 hb wb h2,h]
theorem Pc {l m:List (List CD)} (hl:cI l) (hm:cI m) (hlen:l.length=m.length) (hl4:l.length≤400) (h1:bv l<go) (h2:bv m<go) (h:d9 l=d9 m):l=m:=by
  obtain ⟨a,e1,a1,a2,a3⟩:=Iu (gq hl) hl4
  obtain ⟨b,e2,b1,b2,b3⟩:=Iu (gq hm) (by omega)
  have hp:(21888242871839275222246405745257275088548364400416034343698204186575808495617:Int)=(go:Int):=rfl
  rw [hp,Int.emod_eq_of_lt (by omega) (by omega)] at a3 b3
  rw [e1,e2] at h
  have:=Ig a1 a2 b1 b2 (by rw [a3,hp];omega) (by rw [b3,hp];omega) h
  rw [a3,b3] at this
  exact O6 hl hm hlen (by omega)
theorem Cy {a b:List Int} (ha:a.length=4) (hb:b.length=4) (h:bn a=bn b):a=b:=by
  obtain ⟨a0,a1,a2,a3,rfl⟩:=lU ha
  obtain ⟨b0,b1,b2,b3,rfl⟩:=lU hb
  unfold bn gI at h
  simp at h
  simp [h]
theorem Aj {l:List (List CD)} (h:cI l) (t:Int) (j:Nat):cI (eA t l j):=by
  unfold eA
  rw [List.take_drop]
  exact qv h _ _
theorem K8 (t:Int) (j:Nat):dC t (j+1)=dC t j+lM t j:=by
  by_cases h:cZ t
  · exact (Dr h j).1
  · unfold cZ at h
    unfold dC lM
    rw [if_neg (fun e=>h (.inl e)),if_neg (fun e=>h (.inr (.inl e))),if_neg (fun e=>h (.inr (.inr e))),if_neg (fun e=>h (.inl e)),if_neg (fun e=>h (.inr (.inl e))),if_neg (fun e=>h (.inr (.inr e))),
      if_neg (fun e=>h (.inl e)),if_neg (fun e=>h (.inr (.inl e))),if_neg (fun e=>h (.inr (.inr e)))]
    omega
theorem Nn {t:Int} {n:Nat} (h:cZ t→(n:Int)%az t=0):n≤dC t (dI t n):=by
  by_cases hc:cZ t
  · exact Nat.le_of_eq ((Me hc (h hc) (Nat.le_refl _)).2.2 rfl).symm
  · unfold cZ at hc
    unfold dC dI
    rw [if_neg (fun e=>hc (.inl e)),if_neg (fun e=>hc (.inr (.inl e))),if_neg (fun e=>hc (.inr (.inr e))),if_neg (fun e=>hc (.inl e)),if_neg (fun e=>hc (.inr (.inl e))),if_neg (fun e=>hc (.inr (.inr e)))]
    omega
theorem DF {t:Int} {l m:List (List CD)} :∀ n,(∀ j,j<n→eA t l j=eA t m j)→l.take (dC t n)=m.take (dC t n)
  | 0,_=>by
    have:dC t 0=0:=by unfold dC;simp
    rw [this];rfl
  | n+1,h=>by
    have ih:=DF n fun j hj=>h j (by omega)
    have hn:=h n (by omega)
    unfold eA at hn
    rw [K8,List.take_add,List.take_add,ih,hn]
theorem Om {t:Int} {l m:List (List CD)} (hlen:l.length=m.length) (h:cZ t→(l.length:Int)%az t=0) (hp:∀ j,j<dI t l.length→eA t l j=eA t m j):l=m:=by
  have h1:=DF (dI t l.length) hp
  have h2:=Nn h
  rwa [List.take_of_length_le h2,List.take_of_length_le (by omega)] at h1
abbrev oO:=Int×Int×Int×List (List CD)
def oY (x:oO):Prop:=cI x.2.2.2∧x.2.2.2.length≤200∧dL x.1 x.2.1 x.2.2.1 x.2.2.2=true
def v8 (x:oO):List (List CD):=io x.1 x.2.1 x.2.2.1 x.2.2.2
noncomputable def q9 (x:oO):List (List CD):=iy x.1 x.2.1 x.2.2.1 x.2.2.2
theorem Au {x y:oO} (hx:oY x) (hy:oY y) (h1:x.1=y.1) (h2:x.2.1=y.2.1) (h3:x.2.2.1=y.2.2.1):x.2.2.2.length=y.2.2.2.length:=by
  have ⟨_,_,_,a1,a2⟩:=gr hx.2.2
  have ⟨_,_,_,b1,b2⟩:=gr hy.2.2
  by_cases e:x.1=1
  · have:=(a1 e).1
    have:=(b1 (by omega)).1
    rw [h2,h3] at *
    omega
  · rw [a2 e,b2 (by omega)]
theorem N5 {x y:oO} {r s:List (List CD)} (hx:oY x) (hy:oY y) (h:v8 x++r=v8 y++s):x=y∧r=s:=by
  have ⟨k1,t1,n1,_,_⟩:=gr hx.2.2
  have ⟨k2,t2,n2,_,_⟩:=gr hy.2.2
  have hl:=Au hx hy
  obtain ⟨k,t,n,l⟩:=x
  obtain ⟨k',t',n',l'⟩:=y
  unfold v8 io at h
  rw [if_pos hx.2.2,if_pos hy.2.2] at h
  simp only [List.map_cons,List.map_nil,List.cons_append,List.nil_append,List.cons.injEq,ac,CD.int.injEq,and_true,List.append_assoc] at h
  dsimp only at *
  obtain ⟨e0,e1,e2,e3,e4,e5,e6⟩:=h
  have hk:k=k':=by omega
  have ht:t=t':=by omega
  have hn:n=n':=by omega
  have hll:=hl hk ht hn
  have:=List.append_inj e6 hll
  exact ⟨by rw [hk,ht,hn,this.1],this.2⟩
theorem RP {k t n:Int} (hk:0≤k∧k<256) (ht:0≤t∧t<256) (hn:0≤n∧n<4294967296):aq [rk k t n,0,0,0] ∧vl [rk k t n,0,0,0] =k+256*t+65536*n:=by
  have h:=NJ hk ht hn
  refine ⟨mA ⟨by omega,by omega⟩ bg bg bg,?_⟩
  rw [nk,h];omega
theorem Lv {l:List (List CD)} (h:cI l) (hl:l.length≤31):bv l<go:=by
  have h1:=LO (gq h)
  have h2:256 ^ l.length≤256 ^ 31:=Nat.pow_le_pow_right (by decide) hl
  exact Nat.lt_of_lt_of_le h1 (Nat.le_trans h2 (by decide+kernel))
theorem BH {x:oO} (hx:oY x) {j:Nat} (hj:j<dI x.2.1 x.2.2.2.length):bv (eA x.2.1 x.2.2.2 j)<go:=by
  obtain ⟨k,t,n,l⟩:=x
  dsimp only at *
  have ⟨k1,t1,n1,a1,a2⟩:=gr hx.2.2
  have hB:=Aj hx.1 t j
  by_cases h3:t=3
  · subst h3
    by_cases e:k=1
    · have ⟨h1,h2,h4⟩:=a1 e
      apply Classical.byContradiction
      intro hc
      have hcn:(bK 3 l).toNat=l.length / 32:=by
        unfold bK
        rw [if_pos h2]
        show ((l.length:Int) / 32).toNat=_
        omega
      have hj':j<l.length / 32:=hj
      have:=yC (t:=3) (l:=l) (i:=j) h2 (by rw [hcn];exact hj') (by
        show zP (jc 3 l j)=false
        have ev:jc 3 l j=eA 3 l j:=by
          show (l.take ((j+1)*32)).drop (j*32)=(l.drop (32*j)).take 32
          rw [List.take_drop,show (j+1)*32=32*j+32 from by omega,show j*32=32*j from by omega]
        rw [ev]
        unfold zP
        rw [decide_eq_false hc,Bool.and_false])
      rw [h4] at this
      cases this
    · rw [show l= [] from a2 e] at hj
      exact absurd hj (Nat.not_lt_zero _)
  · refine Lv hB ?_
    unfold eA
    rw [List.length_take]
    have:lM t j≤31:=by
      unfold lM
      rw [if_neg h3]
      split
      · omega
      · split
        · split <;>omega
        · omega
    omega
theorem NL {x y:oO} {r s:List (List CD)} (hx:oY x) (hy:oY y) (h:q9 x++r=q9 y++s):x=y∧r=s:=by
  have ⟨k1,t1,n1,_,_⟩:=gr hx.2.2
  have ⟨k2,t2,n2,_,_⟩:=gr hy.2.2
  have hl:=Au hx hy
  have sx:=fun j=>BH hx (j:=j)
  have sy:=fun j=>BH hy (j:=j)
  have cx:=fun hc=>Jn hx.2.2 hc
  obtain ⟨k,t,n,l⟩:=x
  obtain ⟨k',t',n',l'⟩:=y
  unfold q9 iy at h
  rw [if_pos hx.2.2,if_pos hy.2.2,List.cons_append,List.cons_append] at h
  dsimp only at *
  have h0:=(List.cons.injEq .. ▸ h:_∧_)
  obtain ⟨e0,e1⟩:=h0
  have e0:=Cy (nd _) (nd _) e0
  have ⟨a1,a2⟩:=RP (k:=k) (t:=t) (n:=n) (by omega) (by omega) (by omega)
  have ⟨b1,b2⟩:=RP (k:=k') (t:=t') (n:=n') (by omega) (by omega) (by omega)
  have hv:=Ig rfl a1 rfl b1 (by rw [a2];omega) (by rw [b2];omega) e0
  rw [a2,b2] at hv
  have hk:k=k':=by omega
  have ht:t=t':=by omega
  have hn:n=n':=by omega
  have hll:=hl hk ht hn
  subst hk ht hn
  have hcl:((bB t l).map lv).length=((bB t l').map lv).length:=by
    unfold bB
    rw [List.length_map,List.length_map,kU,kU,hll]
  have hi:=List.append_inj e1 hcl
  refine ⟨?_,hi.2⟩
  have hj:∀ j,j<dI t l.length→eA t l j=eA t l' j:=fun j hj=>by
    have q:((bB t l).map lv)[j]? =((bB t l').map lv)[j]? :=by rw [hi.1]
    have g:∀ l:List (List CD),j<dI t l.length→((bB t l).map lv)[j]? =some (bn (d9 (eA t l j))):=fun l hj=>by
      unfold bB df
      rw [List.getElem?_map,List.getElem?_map,List.getElem?_range hj]
      rfl
    have hj':j<dI t l'.length:=by rw [← hll];exact hj
    rw [g l hj,g l' hj'] at q
    have q:=Cy (IN _) (IN _) (Option.some.inj q)
    have hpl:(eA t l j).length=(eA t l' j).length:=by unfold eA;rw [List.length_take,List.length_take,List.length_drop,List.length_drop,hll]
    exact Pc (Aj hx.1 t j) (Aj hy.1 t j) hpl (Nat.le_trans (Dx t l j) (by decide)) (sx j hj) (sy j hj') q
  rw [Om hll cx hj]
theorem rN {α β:Type} (enc:α→List β) (ok:α→Prop) (hne:∀ x,ok x→enc x≠ []) (hpre:∀ x y r s,ok x→ok y→enc x++r=enc y++s→x=y∧r=s):∀ l m:List α,(∀ x∈l,ok x)→(∀ x∈m,ok x)→l.flatMap enc=m.flatMap enc→l=m
  | [],[],_,_,_=>rfl
  | [],y::m,_,hm,h=>by
    rw [List.flatMap_nil,List.flatMap_cons] at h
    exact absurd (List.append_eq_nil_iff.1 h.symm).1 (hne y (hm y (List.mem_cons_self ..)))
  | x::l,[],hl,_,h=>by
    rw [List.flatMap_nil,List.flatMap_cons] at h
    exact absurd (List.append_eq_nil_iff.1 h).1 (hne x (hl x (List.mem_cons_self ..)))
  | x::l,y::m,hl,hm,h=>by
    rw [List.flatMap_cons,List.flatMap_cons] at h
    obtain ⟨rfl,e⟩:=hpre x y _ _ (hl x (List.mem_cons_self ..)) (hm y (List.mem_cons_self ..)) h
    rw [rN enc ok hne hpre l m (fun x hx=>hl x (List.mem_cons_of_mem _ hx)) (fun x hx=>hm x (List.mem_cons_of_mem _ hx)) e]
def qD (l:List (List CD)) (i:Nat):oO:=(ca l i 0,ca l i 1,ca l i 2,eJ l i)
def gw (l:List (List CD)) (n:Nat):List oO:=(List.range n).map (qD l)
theorem p8 (l:List (List CD)):∀ n,dJ l n=(gw l n).flatMap v8
  | 0=>rfl
  | n+1=>by
    unfold gw
    rw [List.range_succ,List.map_append,List.flatMap_append,dJ,p8 l n]
    simp [gw,v8,qD]
theorem nl (l:List (List CD)):∀ n,bL l n=(gw l n).flatMap q9
  | 0=>rfl
  | n+1=>by
    unfold gw
    rw [List.range_succ,List.map_append,List.flatMap_append,bL,nl l n]
    simp [gw,q9,qD]
theorem qr {l:List (List CD)} (hb:fh l) (hr:dN l):∀ x∈gw l l.length,oY x:=fun x hx=>by
  obtain ⟨i,hi,rfl⟩:=List.mem_map.1 hx
  have hi:=List.mem_range.1 hi
  exact ⟨hb i hi,(hr i hi).1,(hr i hi).2⟩
theorem Up {x:oO} (hx:oY x):v8 x≠ [] :=by unfold v8 io;rw [if_pos hx.2.2];simp
theorem QZ {x:oO} (hx:oY x):q9 x≠ [] :=by unfold q9 iy;rw [if_pos hx.2.2];simp
theorem Ns {a b:List (List CD)} (ha:fh a) (hb:fh b) {i:Nat} (hi:i<a.length) (hj:i<b.length):Dy a b i=true↔qD a i=qD b i:=by
  unfold Dy qD
  rw [Bool.and_eq_true,Bool.and_eq_true,Bool.and_eq_true,decide_eq_true_eq,decide_eq_true_eq,decide_eq_true_eq,decide_eq_true_eq,Prod.mk.injEq,Prod.mk.injEq,Prod.mk.injEq]
  constructor
  · rintro ⟨h1,h2,h3,h4⟩
    refine ⟨h1,h2,h3,?_⟩
    rw [show eJ a i=ah (aa (eJ a i)) from ha i hi,h4,← show eJ b i=ah (aa (eJ b i)) from hb i hj]
  · rintro ⟨h1,h2,h3,h4⟩
    exact ⟨h1,h2,h3,by rw [h4]⟩
theorem Df {a b:List (List CD)} (ha:fh a) (hb:fh b):∀ n,n≤min a.length b.length→(kD a b n=true↔a.length=b.length∧gw a n=gw b n)
  | 0,_=>by
    unfold kD
    rw [decide_eq_true_eq]
    exact ⟨fun h=>⟨by omega,rfl⟩,fun h=>by omega⟩
  | n+1,h=>by
    rw [kD,Bool.and_eq_true,Df ha hb n (by omega),Ns ha hb (by omega) (by omega)]
    unfold gw
    rw [List.range_succ,List.map_append,List.map_append]
    constructor
    · rintro ⟨⟨h1,h2⟩,h3⟩
      exact ⟨h1,by rw [h2];simp [h3]⟩
    · rintro ⟨h1,h2⟩
      have:=List.append_inj h2 (by simp)
      exact ⟨⟨h1,this.1⟩,by simpa using this.2⟩
theorem M9 {a b:List (List CD)} (ha:fh a) (hb:fh b):kD a b (min a.length b.length)=true↔gw a a.length=gw b b.length:=by
  rw [Df ha hb _ (Nat.le_refl _)]
  constructor
  · rintro ⟨h1,h2⟩
    rw [h1,Nat.min_self] at h2
    rw [h1];exact h2
  · intro h
    have hl:a.length=b.length:=by
      have:=congrArg List.length h
      simpa [gw] using this
    refine ⟨hl,?_⟩
    rw [hl,Nat.min_self]
    rw [hl] at h
    exact h
theorem AG {l:List (List CD)} (hb:fh l):∀ n,n≤l.length→cI (dJ l n)
  | 0,_=>rfl
  | n+1,h=>by
    have ih:=AG hb n (by omega)
    have hn:=hb n (by omega)
    obtain ⟨x,hx⟩:=kc ih
    obtain ⟨y,hy⟩:=kc hn
    rw [dJ,hx]
    have hh:∃ z,io (ca l n 0) (ca l n 1) (ca l n 2) (eJ l n)=ah z:=by
      rw [hy]
      unfold io
      split
      · refine ⟨[UInt8.ofNat (ca l n 0%256).toNat,UInt8.ofNat (ca l n 1%256).toNat,UInt8.ofNat (ca l n 2%256).toNat,UInt8.ofNat (ca l n 2 / 256%256).toNat,UInt8.ofNat (ca l n 2 / 65536%256).toNat,UInt8.ofNat (ca l n 2 / 16777216%256).toNat] ++y,?_⟩
        rw [fg]
        congr 1
        have one:∀ v:Int,ac (v%256)= [CD.int ((UInt8.ofNat (v%256).toNat).toNat:Int)] :=fun v=>by
          unfold ac
          rw [UInt8.toNat_ofNat',Nat.mod_eq_of_lt (by omega)]
          congr 2
          omega
        unfold ah
        simp only [List.map_cons,List.map_nil,one]
      · exact ⟨[],rfl⟩
    obtain ⟨z,hz⟩:=hh
    rw [hz,← fg]
    exact gu _
theorem HJ {a b:List (List CD)} (ha:fh a) (hb:fh b) (ra:dN a) (rb':dN b):aa (dJ a a.length)=aa (dJ b b.length)↔gw a a.length=gw b b.length:=by
  constructor
  · intro h
    have h':dJ a a.length=dJ b b.length:=by
      rw [show dJ a a.length=ah (aa (dJ a a.length)) from AG ha _ (Nat.le_refl _),h,← show dJ b b.length=ah (aa (dJ b b.length)) from AG hb _ (Nat.le_refl _)]
    rw [p8,p8] at h'
    exact rN v8 oY (fun x hx=>Up hx) (fun x y r s hx hy h=>N5 hx hy h) _ _ (qr ha ra) (qr hb rb') h'
  · intro h
    rw [p8,p8,h]
def DE (l:List (List CD)):Prop:=∀ r∈l,∃ w,r=bn w
theorem Xs (x:oO):DE (q9 x):=by
  unfold q9 iy
  split
  · intro r hr
    rcases List.mem_cons.1 hr with rfl | hr
    · exact ⟨_,rfl⟩
    · obtain ⟨p,_,rfl⟩:=List.mem_map.1 hr
      exact ⟨_,rfl⟩
  · intro r hr;cases hr
theorem MN (l:List (List CD)) (n:Nat):DE (bL l n):=by
  rw [nl]
  intro r hr
  obtain ⟨x,_,hx⟩:=List.mem_flatMap.1 hr
  exact Xs x r hx
theorem NC {f g:List (List CD)} (hf:DE f) (hg:DE g) {i:Nat} (hi:i<f.length) (hj:i<g.length):Uw f g i=true↔f[i]? =g[i]? :=by
  obtain ⟨w,hw⟩:=hf f[i] (List.getElem_mem hi)
  obtain ⟨v,hv⟩:=hg g[i] (List.getElem_mem hj)
  have e1:f.getD i [] =bn w:=by rw [List.getD_eq_getElem?_getD,List.getElem?_eq_getElem hi,hw];rfl
  have e2:g.getD i [] =bn v:=by rw [List.getD_eq_getElem?_getD,List.getElem?_eq_getElem hj,hv];rfl
  rw [List.getElem?_eq_getElem hi,List.getElem?_eq_getElem hj,hw,hv]
  unfold Uw ca
  rw [e1,e2,decide_eq_true_eq]
  show [gI w 0,gI w 1,gI w 2,gI w 3] = [gI v 0,gI v 1,gI v 2,gI v 3] ↔some [CD.int (gI w 0),CD.int (gI w 1),CD.int (gI w 2),CD.int (gI w 3)] =some [CD.int (gI v 0),CD.int (gI v 1),CD.int (gI v 2),CD.int (gI v 3)]
  simp
theorem Dg {f g:List (List CD)} (hf:DE f) (hg:DE g):∀ n,n≤min f.length g.length→(sR f g n=true↔f.length=g.length∧∀ i,i<n→f[i]? =g[i]?)
  | 0,_=>by
    unfold sR
    rw [decide_eq_true_eq]
    exact ⟨fun h=>⟨by omega,fun i hi=>absurd hi (Nat.not_lt_zero _)⟩,fun h=>by omega⟩
  | n+1,h=>by
    rw [sR,Bool.and_eq_true,Dg hf hg n (by omega),NC hf hg (by omega) (by omega)]
    constructor
    · rintro ⟨⟨h1,h2⟩,h3⟩
      refine ⟨h1,fun i hi=> ?_⟩
      rcases Nat.lt_or_ge i n with h | h
      · exact h2 i h
      · have:i=n:=by omega
        rw [this];exact h3
    · rintro ⟨h1,h2⟩
      exact ⟨⟨h1,fun i hi=>h2 i (by omega)⟩,h2 n (by omega)⟩
theorem Gw {a b:List (List CD)} (ha:fh a) (hb:fh b) (ra:dN a) (rb':dN b):sR (bL a a.length) (bL b b.length) (min (bL a a.length).length (bL b b.length).length)=true↔gw a a.length=gw b b.length:=by
  rw [Dg (MN _ _) (MN _ _) _ (Nat.le_refl _)]
  constructor
  · rintro ⟨h1,h2⟩
    have h':bL a a.length=bL b b.length:=by
      apply List.ext_getElem?
      intro i
      rcases Nat.lt_or_ge i (bL a a.length).length with h | h
      · exact h2 i (by omega)
      · rw [List.getElem?_eq_none h,List.getElem?_eq_none (by omega)]
    rw [nl,nl] at h'
    exact rN q9 oY (fun x hx=>QZ hx) (fun x y r s hx hy h=>NL hx hy h) _ _ (qr ha ra) (qr hb rb') h'
  · intro h
    have h':bL a a.length=bL b b.length:=by rw [nl,nl,h]
    rw [h']
    exact ⟨rfl,fun _ _=>rfl⟩
theorem vN {p q:Bool} {r:Prop} (h1:p=true↔r) (h2:q=true↔r):p=q:=by
  cases p <;>cases q <;>simp_all
end Go.Proofs.YteiecapbaeajdaaGreatDoor
namespace Go.Proofs.YteiecapbaeajdaaGreatDoor
open Go Go.Avc Go.Proofs
set_option linter.unusedVariables false
set_option linter.unusedSimpArgs false
set_option maxRecDepth 100000
theorem H9 {a b:List (List CD)} {j:Nat} (h:j<a.length):(a++b).getD j [] =a.getD j [] :=by
  rw [List.getD_eq_getElem?_getD,List.getD_eq_getElem?_getD,List.getElem?_append_left h]
theorem HQ {a b:List (List CD)} {j:Nat} :(a++b).getD (a.length+j) [] =b.getD j [] :=by
  rw [List.getD_eq_getElem?_getD,List.getD_eq_getElem?_getD,List.getElem?_append_right (by omega),Nat.add_sub_cancel_left]
theorem Jp {a b:List (List CD)} (ha:fh a) (hb:fh b):fh (a++b):=fun j hj=>by
  unfold eJ
  rcases Nat.lt_or_ge j a.length with h | h
  · rw [H9 h];exact ha j h
  · obtain ⟨k,rfl⟩:=Nat.exists_eq_add_of_le h
    rw [HQ]
    exact hb k (by rw [List.length_append] at hj;omega)
theorem JO {a b:List (List CD)} (h:∀ j,j<(a++b).length→pi (a++b) j):dN a∧dN b:=by
  constructor
  · intro j hj
    have:=h j (by rw [List.length_append];omega)
    unfold pi eJ ca at this ⊢
    rwa [H9 hj] at this
  · intro j hj
    have:=h (a.length+j) (by rw [List.length_append];omega)
    unfold pi eJ ca at this ⊢
    rwa [HQ] at this
theorem HY {a:List (List CD)} (h:a.length≤6) (hb:fh a) (hr:dN a):CU a:=⟨h,fun i hi=>⟨hb i hi,(hr i hi).1⟩⟩
theorem vc7:P7:=by
  unfold P7
  rintro a b _ _ ⟨ha,hb⟩
  refine ⟨trivial,fun _ _=>ab (fun h=>⟨trivial,rfl⟩) fun h=> ?_⟩
  have la:a.length≤6:=by
    rw [Bool.or_eq_false_iff,Bool.or_eq_false_iff] at h
    have:=of_decide_eq_false h.1.2
    omega
  have lb:b.length≤6:=by
    rw [Bool.or_eq_false_iff,Bool.or_eq_false_iff] at h
    have:=of_decide_eq_false h.2
    omega
  have lab:([] ++a++b).length=a.length+b.length:=by simp
  have la':([] ++a).length=a.length:=rfl
  refine ⟨by omega,by omega,fun _=>⟨⟨⟨rfl,rfl,la,lb,rfl,rfl,by decide,by omega,fun j hj=>absurd hj (by omega)⟩,trivial⟩,?_⟩⟩
  rintro l2 l3 l4 n i _ _ _ ⟨rfl,rfl,_,_,rfl,rfl,i0,i1,hr⟩
  have hab:=Jp ha hb
  obtain ⟨k,rfl⟩:=aT i0
  refine ab (fun h=> ?_) fun h=> ?_
  · have h:(k:Int)<(l2++l3).length:=of_decide_eq_true h
    have hk:=hab k (by omega)
    rw [Int.toNat_natCast]
    refine ⟨by omega,by omega,fun _=>⟨fun e=>⟨hk,?_⟩,ab (fun _=>rfl) fun e=> ?_⟩⟩
    · simp only [Bool.not_eq_true',decide_eq_false_iff_not] at e
      omega
    · rw [Bool.or_eq_false_iff] at e
      have e1:=of_decide_eq_false e.1
      have e2:dL (ca (l2++l3) k 0) (ca (l2++l3) k 1) (ca (l2++l3) k 2) (eJ (l2++l3) k)=true:=(Bool.not_eq_false' _).mp e.2
      refine ⟨by omega,⟨rfl,rfl,la,lb,rfl,rfl,by omega,by omega,fun j hj=> ?_⟩,by omega⟩
      rcases Nat.lt_or_ge j k with h | h
      · exact hr j (by omega)
      · have:j=k:=by omega
        rw [this]
        exact ⟨by unfold eJ;omega,e2⟩
  have h:¬ (k:Int)<(l2++l3).length:=of_decide_eq_false h
  have ⟨ra,rb'⟩:=JO fun j hj=>hr j (by omega)
  have hmin:((min l2.length l3.length:Nat):Int)=min (l2.length:Int) (l3.length:Int):=by omega
  refine fun _ _ _ _=>⟨⟨⟨rfl,rfl,la,lb,ra,rb',hmin.symm,by decide,by omega,rfl⟩,trivial⟩,?_⟩
  rintro l5 l6 e n j _ _ ⟨rfl,rfl,_,_,_,_,rfl,j0,j1,rfl⟩
  obtain ⟨m,rfl⟩:=aT j0
  refine ab (fun h=> ?_) fun h=> ?_
  · have h:(m:Int)<((min l5.length l6.length:Nat):Int):=of_decide_eq_true h
    have m1:m<l5.length:=by omega
    have m2:m<l6.length:=by omega
    have hm:((m:Int)+1).toNat=m+1:=by omega
    rw [hm,Int.toNat_natCast]
    have q1:(0:Int)≤(m:Int)∧(m:Int)<(l5.length:Int):=by omega
    have q2:(0:Int)≤(m:Int)∧(m:Int)<(l6.length:Int):=by omega
    have hE:kD l5 l6 (m+1)=(kD l5 l6 m&&Dy l5 l6 m):=rfl
    rw [hE]
    repeat' first
      | exact fun _=>q1
      | exact fun _=>q2
      | exact fun _=>m1
      | exact fun _=>m2
      | exact ra
      | exact rb'
      | exact la
      | exact lb
      | (refine Eq.trans ?_ (show _=(_&&Dy _ _ _) from rfl);unfold Dy ca eJ;simp only [Bool.and_assoc])
      | apply And.intro
      | omega
      | rfl
  have h:¬ (m:Int)<((min l5.length l6.length:Nat):Int):=of_decide_eq_false h
  have hm:m=min l5.length l6.length:=by omega
  subst hm
  have okA:=HY la ha ra
  have okB':=HY lb hb rb'
  have hmin2:((min (bL l5 l5.length).length (bL l6 l6.length).length:Nat):Int)=min ((bL l5 l5.length).length:Int) ((bL l6 l6.length).length:Int):=by omega
  refine ⟨okA,okB',fun _ _ _ _=>⟨⟨⟨la,lb,ra,rb',rfl,rfl,rfl,rfl,rfl,hmin2.symm,by decide,by omega,rfl⟩,trivial⟩,?_⟩⟩
  rintro e s f s' f' g n j _ _ _ _ ⟨_,_,_,_,rfl,rfl,rfl,rfl,rfl,rfl,j0,j1,rfl⟩
  obtain ⟨m,rfl⟩:=aT j0
  have ⟨g1,g2⟩:=Ae okA _ (Nat.le_refl _)
  refine ab (fun h=> ?_) fun h=> ?_
  · have h:(m:Int)<((min (bL l5 l5.length).length (bL l6 l6.length).length:Nat):Int):=of_decide_eq_true h
    have hm:((m:Int)+1).toNat=m+1:=by omega
    rw [hm,Int.toNat_natCast]
    refine ⟨fun _=>⟨by omega,by omega⟩,fun _=>by omega,fun _=>⟨by omega,by omega⟩,fun _=>by omega,fun _=>trivial,⟨by omega,by omega⟩,⟨la,lb,ra,rb',rfl,rfl,rfl,rfl,rfl,rfl,by omega,by omega,rfl⟩,by omega⟩
  · have h:¬ (m:Int)<((min (bL l5 l5.length).length (bL l6 l6.length).length:Nat):Int):=of_decide_eq_false h
    have hm:m=min (bL l5 l5.length).length (bL l6 l6.length).length:=by omega
    subst hm
    have k1:=M9 ha hb
    have k2:=HJ ha hb ra rb'
    have k3:=Gw ha hb ra rb'
    rw [Int.toNat_natCast,vN k3 k1]
    have:decide (aa (dJ l5 l5.length)=aa (dJ l6 l6.length))=kD l5 l6 (min l5.length l6.length):=vN (by rw [decide_eq_true_eq];exact k2) k1
    rw [this]
    simp
theorem ok7:af (base.with Fo) 7 (ag SO):=am ad0 Tryz.func7 (by kernel_rfl) (by kernel_rfl) Tryz.call7 e7 vc7
end Go.Proofs.YteiecapbaeajdaaGreatDoor
namespace Go.Proofs.YteiecapbaeajdaaGreatDoor
open Go Go.Avc
set_option linter.unusedVariables false
theorem CX {Im:Nat→Prop} {w:World} {l:List (List CD)} {v:Value} (h:CRel Im w (.sl kp) (.sl l) v) (q:∀ row∈l,wfRow kp row):fh l:=fun i hi=>by
  obtain ⟨vs,hv⟩:=v5 h l[i] (List.getElem_mem hi)
  have hq:=q l[i] (List.getElem_mem hi)
  unfold eJ
  have e:l.getD i [] =l[i] :=by rw [List.getD_eq_getElem?_getD,List.getElem?_eq_getElem hi];rfl
  rw [e]
  clear e
  generalize l[i] =row at *
  cases hv with
  | cons _ c0 _ _ r0 _ h0 hv=>
    cases hv with
    | cons _ c1 _ _ r1 _ h1 hv=>
      cases hv with
      | cons _ c2 _ _ r2 _ h2 hv=>
        cases hv with
        | cons _ c3 _ _ r3 _ h3 hv=>
          cases hv
          cases h3 with
          | sl0 e a cap hc=>exact (rfl:cI [])
          | sl _ d ad cap xs a1 a2 a3 a4 a5=>exact UI (.sl _ d ad cap xs a1 a2 a3 a4 a5) hq.2.2.2.1
end Go.Proofs.YteiecapbaeajdaaGreatDoor
