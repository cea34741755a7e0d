/-
 Conditions of contracts, as the kernel reckons them (printed by a program of ours, checked by the kernel).
-/
import Derived.Test.YteiecapbaeajdaaGreatDoorJ7
import Derived.Test.YteiecapbaeajdaaGreatDoorJ6
import Derived.WalkKit
import Derived.KernelRfl
namespace Go.Proofs.YteiecapbaeajdaaGreatDoor
open Go Go.Avc Go.Proofs
set_option linter.unusedVariables false
set_option maxRecDepth 100000
def Rn:Prop:= ∀ (l:List Int) (l_1:List (List CD)) (n n_1 n_2 n_3:Int) (l_2:List (List CD)),
 l.length=32→True→True∧(0:Int)=0∧l=l∧l_1=l_1∧n=n∧n_1=n_1∧n_2=n_2∧n_3=n_3∧l_2=l_2
theorem adp:av uJ Tryz.f25 Fz au=Rn:=by kernel_rfl
def RL:Prop:= ∀ (l:List Int) (l_1:List (List CD)) (n n_1 n_2 n_3:Int) (l_2:List (List CD)) (n_4:Int),
 l.length=32→True→True∧n_4=n_4∧l=l∧l_1=l_1∧n=n∧n_1=n_1∧n_2=n_2∧n_3=n_3∧l_2=l_2∧n_4=n_4
theorem acL:av uJ Tryz.f25 Gm au=RL:=by kernel_rfl
noncomputable def uZ:ai:=al uJ 25 (oB Fz (ag Gm))
def Sr:Prop:= ∀ (n n_1 n_2:Int) (l:List (List CD)) (l_1:List Int) (l_2:List (List CD)) (n_3 n_4 n_5 n_6:Int) (l_3:List (List CD)),
 l.length≤9223372036854775807→
 l_1.length=32→
 cS l_2 n_3→
 cS l_2 n_3∧
 bif ie l_2 n_3 n n_1 n_2 then
 bif ie l_2 n_3 n n_1 n_2 then
 (0:Int)=0∧l_1=l_1∧l_2=l_2∧n_3+1=n_3+1∧n_4=n_4∧n_5=n_5∧n_6=n_6∧l_3=l_3
 else
 Miss (2:Nat)
 {n:=0,ov:= [],tm:= [SV.int IntKind.i64 (0:Int)],hp:= [Blk.cells (128:TypeId) [SV.ptr (1:Nat) (0:Nat),SV.arrI (32:Nat) IntKind.u8 l_1,SV.iface (133:TypeId) (SV.agg [SV.ptr (2:Nat) (0:Nat)])],Blk.cells (185:TypeId) [SV.rd [CSh.int IntKind.i64,CSh.int IntKind.i64,CSh.int IntKind.i64,CSh.str] l_2,SV.int IntKind.i64 (n_3+1),SV.nilp],Blk.cells (298:TypeId) [SV.iface (253:TypeId) (SV.agg []),SV.own (3:Nat),SV.int IntKind.i64 n_4,SV.int IntKind.i64 n_5,SV.int IntKind.i64 n_6],Blk.own (5:TypeId) [CSh.int IntKind.u8] l_3,Blk.cells (151:Nat) [SV.int IntKind.i64 n,SV.int IntKind.i64 n_1,SV.int IntKind.i64 n_2,SV.rd [CSh.int IntKind.u8] l]],G:= []}
 else
 bif ie l_2 n_3 n n_1 n_2 then
 Miss (2:Nat)
 {n:=0,ov:= [],tm:= [SV.int IntKind.i64 (10:Int)],hp:= [Blk.cells (128:TypeId) [SV.ptr (1:Nat) (0:Nat),SV.arrI (32:Nat) IntKind.u8 l_1,SV.iface (133:TypeId) (SV.agg [SV.ptr (2:Nat) (0:Nat)])],Blk.cells (185:TypeId) [SV.rd [CSh.int IntKind.i64,CSh.int IntKind.i64,CSh.int IntKind.i64,CSh.str] l_2,SV.int IntKind.i64 n_3,SV.ptr (5:Nat) (0:Nat)],Blk.cells (298:TypeId) [SV.iface (253:TypeId) (SV.agg []),SV.own (3:Nat),SV.int IntKind.i64 n_4,SV.int IntKind.i64 n_5,SV.int IntKind.i64 n_6],Blk.own (5:TypeId) [CSh.int IntKind.u8] l_3,Blk.cells (151:Nat) [SV.int IntKind.i64 n,SV.int IntKind.i64 n_1,SV.int IntKind.i64 n_2,SV.rd [CSh.int IntKind.u8] l],Blk.cells (204:TypeId) [SV.int IntKind.i64 (10:Int)]],G:= []}
 else (10:Int)=10∧l_1=l_1∧l_2=l_2∧n_3=n_3∧n_4=n_4∧n_5=n_5∧n_6=n_6∧l_3=l_3∧(10:Int)=10
theorem aes:av uZ Tryz.f92 G1 au=Sr:=by kernel_rfl
def Ue:Prop:= ∀ (n n n:Int) (l:List (List CD)) (l_1:List Int) (l_2:List (List CD)) (n n_1 n_2 n_3:Int) (l_3:List (List CD)) (n_4:Int),
 l.length≤9223372036854775807→
 l_1.length=32→
 cS l_2 n∧n_4≠0→
 (cS l_2 n∧n_4≠0)∧n_4=n_4∧l_1=l_1∧l_2=l_2∧n=n∧n_1=n_1∧n_2=n_2∧n_3=n_3∧l_3=l_3∧n_4=n_4
theorem aep:av uZ Tryz.f92 Ed au=Ue:=by kernel_rfl
noncomputable def EI:ai:=al uZ 92 (oB G1 (ag Ed))
def P51:Prop:= ∀ (n:Int) (l:List (List CD)) (l_1:List Int) (l_2:List (List CD)) (n_1 n_2 n_3 n_4:Int) (l_3:List (List CD)),
 l.length≤9223372036854775807→
 l_1.length=32→
 n=1∧
 ax l∧
 l.length≤900∧
 bq l=0∧
 cS l_2 n_1∧
 ie l_2 n_1 (1:Int) (1:Int) ↑l.length=true∧
 eV (800000000:Int) (n_2,n_3,n_4,l_3)→
 True∧
 n=1∧
 bif decide (bq l≠0) then
 True∧
 bif decide (bq l=0) then
 (0:Int)=0∧
 l_1=l_1∧
 l_2=l_2∧
 n_1=n_1+1∧
 n_2=(c5 (1:Int) (1:Int) ↑l.length l (n_2,n_3,n_4,l_3)).fst∧
 n_3=(c5 (1:Int) (1:Int) ↑l.length l (n_2,n_3,n_4,l_3)).snd.fst∧
 n_4=(c5 (1:Int) (1:Int) ↑l.length l (n_2,n_3,n_4,l_3)).snd.snd.fst∧
 l_3=(c5 (1:Int) (1:Int) ↑l.length l (n_2,n_3,n_4,l_3)).snd.snd.snd
 else
 Miss (2:Nat)
 {n:=0,ov:= [],tm:= [SV.int IntKind.i64 (bq l)],hp:= [Blk.cells (128:TypeId) [SV.ptr (1:Nat) (0:Nat),SV.arrI (32:Nat) IntKind.u8 l_1,SV.iface (133:TypeId) (SV.agg [SV.ptr (2:Nat) (0:Nat)])],Blk.cells (185:TypeId) [SV.rd [CSh.int IntKind.i64,CSh.int IntKind.i64,CSh.int IntKind.i64,CSh.str] l_2,SV.int IntKind.i64 n_1,SV.ptr (4:Nat) (0:Nat)],Blk.cells (298:TypeId) [SV.iface (253:TypeId) (SV.agg []),SV.own (3:Nat),SV.int IntKind.i64 n_2,SV.int IntKind.i64 n_3,SV.int IntKind.i64 n_4],Blk.own (5:TypeId) [CSh.int IntKind.u8] l_3,Blk.cells (204:TypeId) [SV.int IntKind.i64 (bq l)]],G:= []}
 else
 cS l_2 n_1∧
 bif
 ie l_2 n_1 (1:Int) n
 (if bq l=0 then ↑l.length else (0:Int)) then
 n=1∧
 bif decide (bq l≠0) then
 True∧
 bif decide (bq l=0) then
 (0:Int)=0∧
 l_1=l_1∧
 l_2=l_2∧
 n_1+1=n_1+1∧
 n_2=(c5 (1:Int) (1:Int) ↑l.length l (n_2,n_3,n_4,l_3)).fst∧
 n_3=(c5 (1:Int) (1:Int) ↑l.length l (n_2,n_3,n_4,l_3)).snd.fst∧
 n_4=(c5 (1:Int) (1:Int) ↑l.length l (n_2,n_3,n_4,l_3)).snd.snd.fst∧
 l_3=(c5 (1:Int) (1:Int) ↑l.length l (n_2,n_3,n_4,l_3)).snd.snd.snd
 else
 Miss (2:Nat)
 {n:=0,ov:= [],tm:= [SV.int IntKind.i64 (bq l)],hp:= [Blk.cells (128:TypeId) [SV.ptr (1:Nat) (0:Nat),SV.arrI (32:Nat) IntKind.u8 l_1,SV.iface (133:TypeId) (SV.agg [SV.ptr (2:Nat) (0:Nat)])],Blk.cells (185:TypeId) [SV.rd [CSh.int IntKind.i64,CSh.int IntKind.i64,CSh.int IntKind.i64,CSh.str] l_2,SV.int IntKind.i64 (n_1+1),SV.ptr (5:Nat) (0:Nat)],Blk.cells (298:TypeId) [SV.iface (253:TypeId) (SV.agg []),SV.own (3:Nat),SV.int IntKind.i64 n_2,SV.int IntKind.i64 n_3,SV.int IntKind.i64 n_4],Blk.own (5:TypeId) [CSh.int IntKind.u8] l_3,Blk.cells (151:Nat) [SV.int IntKind.i64 (1:Int),SV.int IntKind.i64 n,SV.int IntKind.i64 (if bq l=0 then ↑l.length else (0:Int)),SV.rd [CSh.int IntKind.u8] l],Blk.cells (204:TypeId) [SV.int IntKind.i64 (bq l)]],G:= []}
 else
 (j2 (1:Int) n (if bq l=0 then ↑l.length else (0:Int)) l∧
 l.length≤1000∧ax l∧jm (n_2,n_3,n_4,l_3))∧
 (0:Int)=0∧
 l_1=l_1∧
 l_2=l_2∧
 n_1+1=n_1+1∧
 (ay
 (ap (1:Int) n
 (if bq l=0 then ↑l.length else (0:Int)) l)
 (n_2,n_3,n_4,l_3)
 (ap (1:Int) n
 (if bq l=0 then ↑l.length else (0:Int)) l).length).fst=
 (c5 (1:Int) (1:Int) ↑l.length l (n_2,n_3,n_4,l_3)).fst∧
 (ay
 (ap (1:Int) n
 (if bq l=0 then ↑l.length else (0:Int)) l)
 (n_2,n_3,n_4,l_3)
 (ap (1:Int) n
 (if bq l=0 then ↑l.length else (0:Int)) l).length).snd.fst=
 (c5 (1:Int) (1:Int) ↑l.length l (n_2,n_3,n_4,l_3)).snd.fst∧
 (ay
 (ap (1:Int) n
 (if bq l=0 then ↑l.length else (0:Int)) l)
 (n_2,n_3,n_4,l_3)
 (ap (1:Int) n
 (if bq l=0 then ↑l.length else (0:Int)) l).length).snd.snd.fst=
 (c5 (1:Int) (1:Int) ↑l.length l (n_2,n_3,n_4,l_3)).snd.snd.fst∧
 (ay
 (ap (1:Int) n
 (if bq l=0 then ↑l.length else (0:Int)) l)
 (n_2,n_3,n_4,l_3)
 (ap (1:Int) n
 (if bq l=0 then ↑l.length else (0:Int)) l).length).snd.snd.snd=
 (c5 (1:Int) (1:Int) ↑l.length l (n_2,n_3,n_4,l_3)).snd.snd.snd
 else
 Miss (2:Nat)
 {n:=0,ov:= [],tm:= [SV.int IntKind.i64 (10:Int)],hp:= [Blk.cells (128:TypeId) [SV.ptr (1:Nat) (0:Nat),SV.arrI (32:Nat) IntKind.u8 l_1,SV.iface (133:TypeId) (SV.agg [SV.ptr (2:Nat) (0:Nat)])],Blk.cells (185:TypeId) [SV.rd [CSh.int IntKind.i64,CSh.int IntKind.i64,CSh.int IntKind.i64,CSh.str] l_2,SV.int IntKind.i64 n_1,SV.ptr (5:Nat) (0:Nat)],Blk.cells (298:TypeId) [SV.iface (253:TypeId) (SV.agg []),SV.own (3:Nat),SV.int IntKind.i64 n_2,SV.int IntKind.i64 n_3,SV.int IntKind.i64 n_4],Blk.own (5:TypeId) [CSh.int IntKind.u8] l_3,Blk.cells (151:Nat) [SV.int IntKind.i64 (1:Int),SV.int IntKind.i64 n,SV.int IntKind.i64 (if bq l=0 then ↑l.length else (0:Int)),SV.rd [CSh.int IntKind.u8] l],Blk.cells (204:TypeId) [SV.int IntKind.i64 (10:Int)]],G:= []}
theorem e51:av EI Tryz.f51 Jq au=P51:=by kernel_rfl
noncomputable def Fx:ai:=al EI 51 (ag Jq)
def P53:Prop:= ∀ (n:Int) (l:List Int) (l_1:List (List CD)) (n_1 n_2 n_3 n_4:Int) (l_2:List (List CD)),
 l.length=32→
 n=1∧
 cS l_1 n_1∧
 ie l_1 n_1 (2:Int) (3:Int) 1=true∧
 eV (800000000:Int) (n_2,n_3,n_4,l_2)∧
 (bJ (n_2,n_3,n_4,l_2)).snd.snd.fst=0→
 cS l_1 n_1∧
 bif ie l_1 n_1 (2:Int) (3:Int) n then
 (j2 (2:Int) (3:Int) n [] ∧
 (0:Nat)≤1000∧ax [] ∧jm (n_2,n_3,n_4,l_2))∧
 (n=1∧
 th
 ((ay (ap (2:Int) (3:Int) n []) (n_2,n_3,n_4,l_2)
 (ap (2:Int) (3:Int) n []).length).fst,
 (ay (ap (2:Int) (3:Int) n []) (n_2,n_3,n_4,l_2)
 (ap (2:Int) (3:Int) n []).length).snd.fst,
 (ay (ap (2:Int) (3:Int) n []) (n_2,n_3,n_4,l_2)
 (ap (2:Int) (3:Int) n []).length).snd.snd.fst,
 (ay (ap (2:Int) (3:Int) n []) (n_2,n_3,n_4,l_2)
 (ap (2:Int) (3:Int) n []).length).snd.snd.snd))∧
 bif
 decide
 ((ar
 ((ay (ap (2:Int) (3:Int) n []) (n_2,n_3,n_4,l_2)
 (ap (2:Int) (3:Int) n []).length).fst,
 (ay (ap (2:Int) (3:Int) n []) (n_2,n_3,n_4,l_2)
 (ap (2:Int) (3:Int) n []).length).snd.fst,
 (ay (ap (2:Int) (3:Int) n []) (n_2,n_3,n_4,l_2)
 (ap (2:Int) (3:Int) n []).length).snd.snd.fst,
 (ay (ap (2:Int) (3:Int) n []) (n_2,n_3,n_4,l_2)
 (ap (2:Int) (3:Int) n []).length).snd.snd.snd)).snd.snd.fst=
 (0:Int)) then
 (0:Int)=0∧
 l=l∧
 l_1=l_1∧
 n_1+1=n_1+1∧
 (ar
 ((ay (ap (2:Int) (3:Int) n []) (n_2,n_3,n_4,l_2)
 (ap (2:Int) (3:Int) n []).length).fst,
 (ay (ap (2:Int) (3:Int) n []) (n_2,n_3,n_4,l_2)
 (ap (2:Int) (3:Int) n []).length).snd.fst,
 (ay (ap (2:Int) (3:Int) n []) (n_2,n_3,n_4,l_2)
 (ap (2:Int) (3:Int) n []).length).snd.snd.fst,
 (ay (ap (2:Int) (3:Int) n []) (n_2,n_3,n_4,l_2)
 (ap (2:Int) (3:Int) n []).length).snd.snd.snd)).snd.snd.snd.fst=
 (bJ (n_2,n_3,n_4,l_2)).snd.snd.snd.fst∧
 (ar
 ((ay (ap (2:Int) (3:Int) n []) (n_2,n_3,n_4,l_2)
 (ap (2:Int) (3:Int) n []).length).fst,
 (ay (ap (2:Int) (3:Int) n []) (n_2,n_3,n_4,l_2)
 (ap (2:Int) (3:Int) n []).length).snd.fst,
 (ay (ap (2:Int) (3:Int) n []) (n_2,n_3,n_4,l_2)
 (ap (2:Int) (3:Int) n []).length).snd.snd.fst,
 (ay (ap (2:Int) (3:Int) n []) (n_2,n_3,n_4,l_2)
 (ap (2:Int) (3:Int) n []).length).snd.snd.snd)).snd.snd.snd.snd.fst=
 (bJ (n_2,n_3,n_4,l_2)).snd.snd.snd.snd.fst∧
 (ar
 ((ay (ap (2:Int) (3:Int) n []) (n_2,n_3,n_4,l_2)
 (ap (2:Int) (3:Int) n []).length).fst,
 (ay (ap (2:Int) (3:Int) n []) (n_2,n_3,n_4,l_2)
 (ap (2:Int) (3:Int) n []).length).snd.fst,
 (ay (ap (2:Int) (3:Int) n []) (n_2,n_3,n_4,l_2)
 (ap (2:Int) (3:Int) n []).length).snd.snd.fst,
 (ay (ap (2:Int) (3:Int) n []) (n_2,n_3,n_4,l_2)
 (ap (2:Int) (3:Int) n []).length).snd.snd.snd)).snd.snd.snd.snd.snd.fst=
 (bJ (n_2,n_3,n_4,l_2)).snd.snd.snd.snd.snd.fst∧
 (ar
 ((ay (ap (2:Int) (3:Int) n []) (n_2,n_3,n_4,l_2)
 (ap (2:Int) (3:Int) n []).length).fst,
 (ay (ap (2:Int) (3:Int) n []) (n_2,n_3,n_4,l_2)
 (ap (2:Int) (3:Int) n []).length).snd.fst,
 (ay (ap (2:Int) (3:Int) n []) (n_2,n_3,n_4,l_2)
 (ap (2:Int) (3:Int) n []).length).snd.snd.fst,
 (ay (ap (2:Int) (3:Int) n []) (n_2,n_3,n_4,l_2)
 (ap (2:Int) (3:Int) n []).length).snd.snd.snd)).snd.snd.snd.snd.snd.snd=
 (bJ (n_2,n_3,n_4,l_2)).snd.snd.snd.snd.snd.snd∧
 [bn
 (ar
 ((ay (ap (2:Int) (3:Int) n []) (n_2,n_3,n_4,l_2)
 (ap (2:Int) (3:Int) n []).length).fst,
 (ay (ap (2:Int) (3:Int) n []) (n_2,n_3,n_4,l_2)
 (ap (2:Int) (3:Int) n []).length).snd.fst,
 (ay (ap (2:Int) (3:Int) n []) (n_2,n_3,n_4,l_2)
 (ap (2:Int) (3:Int) n []).length).snd.snd.fst,
 (ay (ap (2:Int) (3:Int) n []) (n_2,n_3,n_4,l_2)
 (ap (2:Int) (3:Int) n []).length).snd.snd.snd)).fst] =
 [bn (bJ (n_2,n_3,n_4,l_2)).fst]
 else
 bif
 decide
 ((ar
 ((ay (ap (2:Int) (3:Int) n []) (n_2,n_3,n_4,l_2)
 (ap (2:Int) (3:Int) n []).length).fst,
 (ay (ap (2:Int) (3:Int) n []) (n_2,n_3,n_4,l_2)
 (ap (2:Int) (3:Int) n []).length).snd.fst,
 (ay (ap (2:Int) (3:Int) n []) (n_2,n_3,n_4,l_2)
 (ap (2:Int) (3:Int) n []).length).snd.snd.fst,
 (ay (ap (2:Int) (3:Int) n []) (n_2,n_3,n_4,l_2)
 (ap (2:Int) (3:Int) n []).length).snd.snd.snd)).snd.snd.fst≠
 (0:Int)) then
 True∧
 bif
 decide
 ((ar
 ((ay (ap (2:Int) (3:Int) n []) (n_2,n_3,n_4,l_2)
 (ap (2:Int) (3:Int) n []).length).fst,
 (ay (ap (2:Int) (3:Int) n []) (n_2,n_3,n_4,l_2)
 (ap (2:Int) (3:Int) n []).length).snd.fst,
 (ay (ap (2:Int) (3:Int) n []) (n_2,n_3,n_4,l_2)
 (ap (2:Int) (3:Int) n []).length).snd.snd.fst,
 (ay (ap (2:Int) (3:Int) n []) (n_2,n_3,n_4,l_2)
 (ap (2:Int) (3:Int) n []).length).snd.snd.snd)).snd.snd.fst=
 (0:Int)) then
 (0:Int)=0∧
 l=l∧
 l_1=l_1∧
 n_1+1=n_1+1∧
 (ar
 ((ay (ap (2:Int) (3:Int) n []) (n_2,n_3,n_4,l_2)
 (ap (2:Int) (3:Int) n []).length).fst,
 (ay (ap (2:Int) (3:Int) n []) (n_2,n_3,n_4,l_2)
 (ap (2:Int) (3:Int) n []).length).snd.fst,
 (ay (ap (2:Int) (3:Int) n []) (n_2,n_3,n_4,l_2)
 (ap (2:Int) (3:Int) n []).length).snd.snd.fst,
 (ay (ap (2:Int) (3:Int) n []) (n_2,n_3,n_4,l_2)
 (ap (2:Int) (3:Int) n []).length).snd.snd.snd)).snd.snd.snd.fst=
 (bJ (n_2,n_3,n_4,l_2)).snd.snd.snd.fst∧
 (ar
 ((ay (ap (2:Int) (3:Int) n []) (n_2,n_3,n_4,l_2)
 (ap (2:Int) (3:Int) n []).length).fst,
 (ay (ap (2:Int) (3:Int) n []) (n_2,n_3,n_4,l_2)
 (ap (2:Int) (3:Int) n []).length).snd.fst,
 (ay (ap (2:Int) (3:Int) n []) (n_2,n_3,n_4,l_2)
 (ap (2:Int) (3:Int) n []).length).snd.snd.fst,
 (ay (ap (2:Int) (3:Int) n []) (n_2,n_3,n_4,l_2)
 (ap (2:Int) (3:Int) n []).length).snd.snd.snd)).snd.snd.snd.snd.fst=
 (bJ (n_2,n_3,n_4,l_2)).snd.snd.snd.snd.fst∧
 (ar
 ((ay (ap (2:Int) (3:Int) n [])
 (n_2,n_3,n_4,l_2) (ap (2:Int) (3:Int) n []).length).fst,
 (ay (ap (2:Int) (3:Int) n [])
 (n_2,n_3,n_4,l_2) (ap (2:Int) (3:Int) n []).length).snd.fst,
 (ay (ap (2:Int) (3:Int) n [])
 (n_2,n_3,n_4,l_2) (ap (2:Int) (3:Int) n []).length).snd.snd.fst,
 (ay (ap (2:Int) (3:Int) n [])
 (n_2,n_3,n_4,l_2)
 (ap (2:Int) (3:Int) n []).length).snd.snd.snd)).snd.snd.snd.snd.snd.fst=
 (bJ (n_2,n_3,n_4,l_2)).snd.snd.snd.snd.snd.fst∧
 (ar
 ((ay (ap (2:Int) (3:Int) n [])
 (n_2,n_3,n_4,l_2) (ap (2:Int) (3:Int) n []).length).fst,
 (ay (ap (2:Int) (3:Int) n [])
 (n_2,n_3,n_4,l_2) (ap (2:Int) (3:Int) n []).length).snd.fst,
 (ay (ap (2:Int) (3:Int) n [])
 (n_2,n_3,n_4,l_2) (ap (2:Int) (3:Int) n []).length).snd.snd.fst,
 (ay (ap (2:Int) (3:Int) n [])
 (n_2,n_3,n_4,l_2)
 (ap (2:Int) (3:Int) n []).length).snd.snd.snd)).snd.snd.snd.snd.snd.snd=
 (bJ (n_2,n_3,n_4,l_2)).snd.snd.snd.snd.snd.snd∧
 [] = [bn (bJ (n_2,n_3,n_4,l_2)).fst]
 else
 Miss (2:Nat)
 {n:=0,ov:= [],tm:= [SV.tup [SV.nils,SV.int IntKind.i64 (ar ((ay (ap (2:Int) (3:Int) n []) (n_2,n_3,n_4,l_2) (ap (2:Int) (3:Int) n []).length).fst,(ay (ap (2:Int) (3:Int) n []) (n_2,n_3,n_4,l_2) (ap (2:Int) (3:Int) n []).length).snd.fst,(ay (ap (2:Int) (3:Int) n []) (n_2,n_3,n_4,l_2) (ap (2:Int) (3:Int) n []).length).snd.snd.fst,(ay (ap (2:Int) (3:Int) n []) (n_2,n_3,n_4,l_2) (ap (2:Int) (3:Int) n []).length).snd.snd.snd)).snd.snd.fst]],hp:= [Blk.cells (128:TypeId) [SV.ptr (1:Nat) (0:Nat),SV.arrI (32:Nat) IntKind.u8 l,SV.iface (133:TypeId) (SV.agg [SV.ptr (2:Nat) (0:Nat)])],Blk.cells (185:TypeId) [SV.rd [CSh.int IntKind.i64,CSh.int IntKind.i64,CSh.int IntKind.i64,CSh.str] l_1,SV.int IntKind.i64 (n_1+1),SV.ptr (5:Nat) (0:Nat)],Blk.cells (298:TypeId) [SV.iface (253:TypeId) (SV.agg []),SV.own (3:Nat),SV.int IntKind.i64 (ar ((ay (ap (2:Int) (3:Int) n []) (n_2,n_3,n_4,l_2) (ap (2:Int) (3:Int) n []).length).fst,(ay (ap (2:Int) (3:Int) n []) (n_2,n_3,n_4,l_2) (ap (2:Int) (3:Int) n []).length).snd.fst,(ay (ap (2:Int) (3:Int) n []) (n_2,n_3,n_4,l_2) (ap (2:Int) (3:Int) n []).length).snd.snd.fst,(ay (ap (2:Int) (3:Int) n []) (n_2,n_3,n_4,l_2) (ap (2:Int) (3:Int) n []).length).snd.snd.snd)).snd.snd.snd.fst,SV.int IntKind.i64 (ar ((ay (ap (2:Int) (3:Int) n []) (n_2,n_3,n_4,l_2) (ap (2:Int) (3:Int) n []).length).fst,(ay (ap (2:Int) (3:Int) n []) (n_2,n_3,n_4,l_2) (ap (2:Int) (3:Int) n []).length).snd.fst,(ay (ap (2:Int) (3:Int) n []) (n_2,n_3,n_4,l_2) (ap (2:Int) (3:Int) n []).length).snd.snd.fst,(ay (ap (2:Int) (3:Int) n []) (n_2,n_3,n_4,l_2) (ap (2:Int) (3:Int) n []).length).snd.snd.snd)).snd.snd.snd.snd.fst,SV.int IntKind.i64 (ar ((ay (ap (2:Int) (3:Int) n []) (n_2,n_3,n_4,l_2) (ap (2:Int) (3:Int) n []).length).fst,(ay (ap (2:Int) (3:Int) n []) (n_2,n_3,n_4,l_2) (ap (2:Int) (3:Int) n []).length).snd.fst,(ay (ap (2:Int) (3:Int) n []) (n_2,n_3,n_4,l_2) (ap (2:Int) (3:Int) n []).length).snd.snd.fst,(ay (ap (2:Int) (3:Int) n []) (n_2,n_3,n_4,l_2) (ap (2:Int) (3:Int) n []).length).snd.snd.snd)).snd.snd.snd.snd.snd.fst],Blk.own (5:TypeId) [CSh.int IntKind.u8] (ar ((ay (ap (2:Int) (3:Int) n []) (n_2,n_3,n_4,l_2) (ap (2:Int) (3:Int) n []).length).fst,(ay (ap (2:Int) (3:Int) n []) (n_2,n_3,n_4,l_2) (ap (2:Int) (3:Int) n []).length).snd.fst,(ay (ap (2:Int) (3:Int) n []) (n_2,n_3,n_4,l_2) (ap (2:Int) (3:Int) n []).length).snd.snd.fst,(ay (ap (2:Int) (3:Int) n []) (n_2,n_3,n_4,l_2) (ap (2:Int) (3:Int) n []).length).snd.snd.snd)).snd.snd.snd.snd.snd.snd,Blk.cells (151:Nat) [SV.int IntKind.i64 (2:Int),SV.int IntKind.i64 (3:Int),SV.int IntKind.i64 n,SV.nils],Blk.cells (204:TypeId) [SV.int IntKind.i64 (ar ((ay (ap (2:Int) (3:Int) n []) (n_2,n_3,n_4,l_2) (ap (2:Int) (3:Int) n []).length).fst,(ay (ap (2:Int) (3:Int) n []) (n_2,n_3,n_4,l_2) (ap (2:Int) (3:Int) n []).length).snd.fst,(ay (ap (2:Int) (3:Int) n []) (n_2,n_3,n_4,l_2) (ap (2:Int) (3:Int) n []).length).snd.snd.fst,(ay (ap (2:Int) (3:Int) n []) (n_2,n_3,n_4,l_2) (ap (2:Int) (3:Int) n []).length).snd.snd.snd)).snd.snd.fst]],G:= []}
 else
 (0:Int)=0∧
 l=l∧
 l_1=l_1∧
 n_1+1=n_1+1∧
 (ar
 ((ay (ap (2:Int) (3:Int) n []) (n_2,n_3,n_4,l_2)
 (ap (2:Int) (3:Int) n []).length).fst,
 (ay (ap (2:Int) (3:Int) n []) (n_2,n_3,n_4,l_2)
 (ap (2:Int) (3:Int) n []).length).snd.fst,
 (ay (ap (2:Int) (3:Int) n []) (n_2,n_3,n_4,l_2)
 (ap (2:Int) (3:Int) n []).length).snd.snd.fst,
 (ay (ap (2:Int) (3:Int) n []) (n_2,n_3,n_4,l_2)
 (ap (2:Int) (3:Int) n []).length).snd.snd.snd)).snd.snd.snd.fst=
 (bJ (n_2,n_3,n_4,l_2)).snd.snd.snd.fst∧
 (ar
 ((ay (ap (2:Int) (3:Int) n []) (n_2,n_3,n_4,l_2)
 (ap (2:Int) (3:Int) n []).length).fst,
 (ay (ap (2:Int) (3:Int) n []) (n_2,n_3,n_4,l_2)
 (ap (2:Int) (3:Int) n []).length).snd.fst,
 (ay (ap (2:Int) (3:Int) n []) (n_2,n_3,n_4,l_2)
 (ap (2:Int) (3:Int) n []).length).snd.snd.fst,
 (ay (ap (2:Int) (3:Int) n []) (n_2,n_3,n_4,l_2)
 (ap (2:Int) (3:Int) n []).length).snd.snd.snd)).snd.snd.snd.snd.fst=
 (bJ (n_2,n_3,n_4,l_2)).snd.snd.snd.snd.fst∧
 (ar
 ((ay (ap (2:Int) (3:Int) n []) (n_2,n_3,n_4,l_2)
 (ap (2:Int) (3:Int) n []).length).fst,
 (ay (ap (2:Int) (3:Int) n []) (n_2,n_3,n_4,l_2)
 (ap (2:Int) (3:Int) n []).length).snd.fst,
 (ay (ap (2:Int) (3:Int) n []) (n_2,n_3,n_4,l_2)
 (ap (2:Int) (3:Int) n []).length).snd.snd.fst,
 (ay (ap (2:Int) (3:Int) n []) (n_2,n_3,n_4,l_2)
 (ap (2:Int) (3:Int) n []).length).snd.snd.snd)).snd.snd.snd.snd.snd.fst=
 (bJ (n_2,n_3,n_4,l_2)).snd.snd.snd.snd.snd.fst∧
 (ar
 ((ay (ap (2:Int) (3:Int) n []) (n_2,n_3,n_4,l_2)
 (ap (2:Int) (3:Int) n []).length).fst,
 (ay (ap (2:Int) (3:Int) n []) (n_2,n_3,n_4,l_2)
 (ap (2:Int) (3:Int) n []).length).snd.fst,
 (ay (ap (2:Int) (3:Int) n []) (n_2,n_3,n_4,l_2)
 (ap (2:Int) (3:Int) n []).length).snd.snd.fst,
 (ay (ap (2:Int) (3:Int) n []) (n_2,n_3,n_4,l_2)
 (ap (2:Int) (3:Int) n []).length).snd.snd.snd)).snd.snd.snd.snd.snd.snd=
 (bJ (n_2,n_3,n_4,l_2)).snd.snd.snd.snd.snd.snd∧
 [] = [bn (bJ (n_2,n_3,n_4,l_2)).fst]
 else
 Miss (2:Nat)
 {n:=0,ov:= [],tm:= [SV.tup [SV.nils,SV.int IntKind.i64 (10:Int)]],hp:= [Blk.cells (128:TypeId) [SV.ptr (1:Nat) (0:Nat),SV.arrI (32:Nat) IntKind.u8 l,SV.iface (133:TypeId) (SV.agg [SV.ptr (2:Nat) (0:Nat)])],Blk.cells (185:TypeId) [SV.rd [CSh.int IntKind.i64,CSh.int IntKind.i64,CSh.int IntKind.i64,CSh.str] l_1,SV.int IntKind.i64 n_1,SV.ptr (5:Nat) (0:Nat)],Blk.cells (298:TypeId) [SV.iface (253:TypeId) (SV.agg []),SV.own (3:Nat),SV.int IntKind.i64 n_2,SV.int IntKind.i64 n_3,SV.int IntKind.i64 n_4],Blk.own (5:TypeId) [CSh.int IntKind.u8] l_2,Blk.cells (151:Nat) [SV.int IntKind.i64 (2:Int),SV.int IntKind.i64 (3:Int),SV.int IntKind.i64 n,SV.nils],Blk.cells (204:TypeId) [SV.int IntKind.i64 (10:Int)]],G:= []}
theorem e53:av Fx Tryz.f53 Kz au=P53:=by kernel_rfl
noncomputable def vB:ai:=al Fx 53 (ag Kz)
def Sm:Prop:= ∀ (l:List Int) (l_1:List (List CD)) (n n_1 n_2 n_3:Int) (l_2:List (List CD)),
 l.length=32→
 True→
 True∧
 bif decide (n=↑l_1.length) then
 bif decide (n=↑l_1.length) then 0=(0:Int)∧l=l∧l_1=l_1∧n=n∧n_1=n_1∧n_2=n_2∧n_3=n_3∧l_2=l_2
 else
 Miss 2
 {n:=0,ov:= [],tm:= [SV.int IntKind.i64 0],hp:= [Blk.cells (128:TypeId) [SV.ptr 1 0,SV.arrI 32 IntKind.u8 l,SV.iface (133:TypeId) (SV.agg [SV.ptr 2 0])],Blk.cells (185:TypeId) [SV.rd [CSh.int IntKind.i64,CSh.int IntKind.i64,CSh.int IntKind.i64,CSh.str] l_1,SV.int IntKind.i64 n,SV.nilp],Blk.cells (298:TypeId) [SV.iface (253:TypeId) (SV.agg []),SV.own 3,SV.int IntKind.i64 n_1,SV.int IntKind.i64 n_2,SV.int IntKind.i64 n_3],Blk.own (5:TypeId) [CSh.int IntKind.u8] l_2],G:= []}
 else
 bif decide (n=↑l_1.length) then
 Miss 2
 {n:=0,ov:= [],tm:= [SV.int IntKind.i64 12],hp:= [Blk.cells (128:TypeId) [SV.ptr 1 0,SV.arrI 32 IntKind.u8 l,SV.iface (133:TypeId) (SV.agg [SV.ptr 2 0])],Blk.cells (185:TypeId) [SV.rd [CSh.int IntKind.i64,CSh.int IntKind.i64,CSh.int IntKind.i64,CSh.str] l_1,SV.int IntKind.i64 n,SV.ptr 4 0],Blk.cells (298:TypeId) [SV.iface (253:TypeId) (SV.agg []),SV.own 3,SV.int IntKind.i64 n_1,SV.int IntKind.i64 n_2,SV.int IntKind.i64 n_3],Blk.own (5:TypeId) [CSh.int IntKind.u8] l_2,Blk.cells (204:TypeId) [SV.int IntKind.i64 12]],G:= []}
 else 12=(12:Int)∧l=l∧l_1=l_1∧n=n∧n_1=n_1∧n_2=n_2∧n_3=n_3∧l_2=l_2∧(12:Int)=(12:Int)
theorem afe:av vB Tryz.f27 FO au=Sm:=by kernel_rfl
def OU:Prop:= ∀ (l:List Int) (l_1:List (List CD)) (n n_1 n_2 n_3:Int) (l_2:List (List CD)) (n_4:Int),
 l.length=32→True→True∧n_4=n_4∧l=l∧l_1=l_1∧n=n∧n_1=n_1∧n_2=n_2∧n_3=n_3∧l_2=l_2∧n_4=n_4
theorem aeF:av vB Tryz.f27 GR au=OU:=by kernel_rfl
noncomputable def Hc:ai:=al vB 27 (oB FO (ag GR))
def P36:Prop:= ∀ (n n_1 n_2:Int) (l:List (List CD)) (l_1:List Int) (l_2:List (List CD)) (n_3 n_4 n_5 n_6:Int) (l_3:List (List CD)),
 l.length≤9223372036854775807→
 l_1.length=32→
 ql n n_1 n_2 l l_2 n_3 (n_4,n_5,n_6,l_3)→
 bif decide (n=0) then
 (n_1=1∧
 ax l∧
 l.length≤900∧
 bq l=0∧
 cS l_2 n_3∧
 ie l_2 n_3 (1:Int) (1:Int) ↑l.length=true∧
 eV (800000000:Int) (n_4,n_5,n_6,l_3))∧
 (0:Int)=0∧
 [] =sF n (n_4,n_5,n_6,l_3)∧
 l_1=l_1∧
 l_2=l_2∧
 n_3+1=(cP n l n_3 (n_4,n_5,n_6,l_3)).fst∧
 (c5 (1:Int) (1:Int) ↑l.length l (n_4,n_5,n_6,l_3)).fst=
 (cP n l n_3 (n_4,n_5,n_6,l_3)).snd.fst∧
 (c5 (1:Int) (1:Int) ↑l.length l (n_4,n_5,n_6,l_3)).snd.fst=
 (cP n l n_3 (n_4,n_5,n_6,l_3)).snd.snd.fst∧
 (c5 (1:Int) (1:Int) ↑l.length l (n_4,n_5,n_6,l_3)).snd.snd.fst=
 (cP n l n_3 (n_4,n_5,n_6,l_3)).snd.snd.snd.fst∧
 (c5 (1:Int) (1:Int) ↑l.length l (n_4,n_5,n_6,l_3)).snd.snd.snd=
 (cP n l n_3 (n_4,n_5,n_6,l_3)).snd.snd.snd.snd
 else
 bif decide (n=1) then False
 else
 bif decide (n=2) then
 (n_2=1∧
 cS l_2 n_3∧
 ie l_2 n_3 (2:Int) (3:Int) 1=true∧
 eV (800000000:Int) (n_4,n_5,n_6,l_3)∧
 (bJ (n_4,n_5,n_6,l_3)).snd.snd.fst=0)∧
 ((1:Nat)≤9223372036854775807→
 (([bn (bJ (n_4,n_5,n_6,l_3)).fst] =
 [bn (bJ (n_4,n_5,n_6,l_3)).fst] ∧
 (↑(1:Nat):Int)=1∧
 (0:Int)=0∧
 l_1=l_1∧
 l_2=l_2∧
 n_3+1=n_3+1∧
 ((bJ (n_4,n_5,n_6,l_3)).snd.snd.snd.fst,
 (bJ (n_4,n_5,n_6,l_3)).snd.snd.snd.snd.fst,
 (bJ (n_4,n_5,n_6,l_3)).snd.snd.snd.snd.snd.fst,
 (bJ (n_4,n_5,n_6,l_3)).snd.snd.snd.snd.snd.snd)=
 (bJ (n_4,n_5,n_6,l_3)).snd.snd.snd∧
 ((0:Int)=0∧([] :List (List CD))= [] ∨
 (0:Int)=1∧
 [] =
 List.map ac
 (kg (bJ (n_4,n_5,n_6,l_3)).fst)))∧
 True)∧
 ∀ (l_4:List (List CD)) (n_7 n_8:Int) (l_5:List Int) (l_6:List (List CD)) (n_9 n_10 n_11 n_12:Int) (l_7:List (List CD))
 (n_13 n_14:Int) (l_8:List (List CD)),
 l_4.length≤9223372036854775807→
 l_4= [bn (bJ (n_4,n_5,n_6,l_3)).fst] ∧
 n_7=1∧
 n_14=0∧
 l_5=l_1∧
 l_6=l_2∧
 n_9=n_3+1∧
 (n_10,n_11,n_12,l_7)=(bJ (n_4,n_5,n_6,l_3)).snd.snd.snd∧
 (n_8=0∧l_8= [] ∨
 n_8=1∧
 l_8=
 List.map ac
 (kg (bJ (n_4,n_5,n_6,l_3)).fst))→
 bif decide (n_8 < n_7) then
 (0≤n_8∧n_8 < ↑l_4.length)∧
 n_8.toNat < l_4.length∧
 aq
 [((l_4.getD n_8.toNat []).getD (0:Nat) (CD.int 0)).toInt,
 ((l_4.getD n_8.toNat []).getD (1:Nat) (CD.int 0)).toInt,
 ((l_4.getD n_8.toNat []).getD (2:Nat) (CD.int 0)).toInt,
 ((l_4.getD n_8.toNat []).getD (3:Nat) (CD.int 0)).toInt] ∧
 ((0:Int)≤0∧0≤(↑(32:Nat):Int)∧(↑(32:Nat):Int)≤(↑(32:Nat):Int)∧0 < (↑(32:Nat):Int))∧
 ((l_8.length+32)*1≤140737488355328∧l_8.length+32≤9223372036854775807)∧
 ((-9223372036854775808:Int)≤n_8+1∧n_8+1≤9223372036854775807)∧
 (l_4= [bn (bJ (n_4,n_5,n_6,l_3)).fst] ∧
 n_7=1∧
 n_14=0∧
 l_5=l_1∧
 l_6=l_2∧
 n_9=n_3+1∧
 (n_10,n_11,n_12,l_7)=(bJ (n_4,n_5,n_6,l_3)).snd.snd.snd∧
 (n_8+1=0∧
 l_8++
 List.map (fun x=> [CD.int x])
 (List.take (32:Nat)
 (List.drop (0:Nat)
 (kg
 [((l_4.getD n_8.toNat []).getD (0:Nat) (CD.int 0)).toInt,
 ((l_4.getD n_8.toNat []).getD (1:Nat) (CD.int 0)).toInt,
 ((l_4.getD n_8.toNat []).getD (2:Nat) (CD.int 0)).toInt,
 ((l_4.getD n_8.toNat []).getD (3:Nat) (CD.int 0)).toInt])))=
 [] ∨
 n_8+1=1∧
 l_8++
 List.map (fun x=> [CD.int x])
 (List.take (32:Nat)
 (List.drop (0:Nat)
 (kg
 [((l_4.getD n_8.toNat []).getD (0:Nat) (CD.int 0)).toInt,
 ((l_4.getD n_8.toNat []).getD (1:Nat) (CD.int 0)).toInt,
 ((l_4.getD n_8.toNat []).getD (2:Nat) (CD.int 0)).toInt,
 ((l_4.getD n_8.toNat []).getD (3:Nat) (CD.int 0)).toInt])))=
 List.map ac
 (kg (bJ (n_4,n_5,n_6,l_3)).fst)))∧
 (n_7 - (n_8+1)).toNat < (n_7 - n_8).toNat
 else
 n_14=0∧
 l_8=sF n (n_4,n_5,n_6,l_3)∧
 l_5=l_1∧
 l_6=l_2∧
 n_9=(cP n l n_3 (n_4,n_5,n_6,l_3)).fst∧
 n_10=(cP n l n_3 (n_4,n_5,n_6,l_3)).snd.fst∧
 n_11=(cP n l n_3 (n_4,n_5,n_6,l_3)).snd.snd.fst∧
 n_12=(cP n l n_3 (n_4,n_5,n_6,l_3)).snd.snd.snd.fst∧
 l_7=(cP n l n_3 (n_4,n_5,n_6,l_3)).snd.snd.snd.snd)
 else
 bif decide (n=3) then False
 else
 True∧
 bif decide (n_3=↑l_2.length) then
 (0:Int)=0∧
 [] =sF n (n_4,n_5,n_6,l_3)∧
 l_1=l_1∧
 l_2=l_2∧
 n_3=(cP n l n_3 (n_4,n_5,n_6,l_3)).fst∧
 n_4=(cP n l n_3 (n_4,n_5,n_6,l_3)).snd.fst∧
 n_5=(cP n l n_3 (n_4,n_5,n_6,l_3)).snd.snd.fst∧
 n_6=(cP n l n_3 (n_4,n_5,n_6,l_3)).snd.snd.snd.fst∧
 l_3=(cP n l n_3 (n_4,n_5,n_6,l_3)).snd.snd.snd.snd
 else
 Miss (2:Nat)
 {n:=0,ov:= [],tm:= [SV.agg [SV.int IntKind.i64 (12:Int),SV.nils]],hp:= [Blk.cells (128:TypeId) [SV.ptr (1:Nat) (0:Nat),SV.arrI (32:Nat) IntKind.u8 l_1,SV.iface (133:TypeId) (SV.agg [SV.ptr (2:Nat) (0:Nat)])],Blk.cells (185:TypeId) [SV.rd [CSh.int IntKind.i64,CSh.int IntKind.i64,CSh.int IntKind.i64,CSh.str] l_2,SV.int IntKind.i64 n_3,SV.ptr (6:Nat) (0:Nat)],Blk.cells (298:TypeId) [SV.iface (253:TypeId) (SV.agg []),SV.own (3:Nat),SV.int IntKind.i64 n_4,SV.int IntKind.i64 n_5,SV.int IntKind.i64 n_6],Blk.own (5:TypeId) [CSh.int IntKind.u8] l_3,Blk.cells (84:Nat) [SV.int IntKind.i64 n,SV.int IntKind.i64 n_1,SV.int IntKind.i64 n_2,SV.rd [CSh.int IntKind.u8] l],Blk.cells (86:Nat) [SV.int IntKind.i64 (12:Int),SV.nils],Blk.cells (204:TypeId) [SV.int IntKind.i64 (12:Int)]],G:= []}
theorem e36:av Hc Tryz.f36 J9 Zr=P36:=by kernel_rfl
noncomputable def G3:ai:=al Hc 36 (ag J9)
def P13:Prop:= ∀ (n:Int) (l l_1:List (List CD)),
 l.length≤9223372036854775807→
 l_1.length≤9223372036854775807→
 oA n l l_1→
 dY l∧
 bif decide (n≠1) && decide (n≠2) then
 (-1:Int)=(-1:Int)∧(15:Int)=0∧l_1=l_1∧ [] =bD l_1 l
 else
 bif decide ((aB (aa l)).snd.snd=0) then
 bif decide (n=2) then
 l_1.length≤9223372036854775807→
 Miss (0:Nat)
 {n:=39,ov:= [((27:Nat),SV.int IntKind.i64 (0:Int)),((26:Nat),SV.int IntKind.i64 (↑l_1.length:Int)),((25:Nat),SV.own (0:Nat)),((24:Nat),SV.ptr (1:Nat) (2:Nat)),((8:Nat),SV.nils),((21:Nat),SV.bool (decide ((0:Int)≠0))),((20:Nat),SV.int IntKind.i64 (0:Int)),((7:Nat),SV.int IntKind.i64 (0:Int)),((6:Nat),SV.int IntKind.i64 (-1:Int)),((5:Nat),SV.ptr (2:Nat) (0:Nat)),((19:Nat),SV.int IntKind.i64 (0:Int)),((18:Nat),SV.int IntKind.i64 (-1:Int)),((17:Nat),SV.ptr (2:Nat) (0:Nat)),((11:Nat),SV.tup [SV.ptr (2:Nat) (0:Nat),SV.int IntKind.i64 (-1:Int),SV.int IntKind.i64 (0:Int)]),((16:Nat),SV.tup [SV.ptr (2:Nat) (0:Nat),SV.int IntKind.i64 (-1:Int),SV.int IntKind.i64 (0:Int)]),((15:Nat),SV.rd [CSh.int IntKind.u8] l),((14:Nat),SV.ptr (1:Nat) (1:Nat)),((13:Nat),SV.int IntKind.i64 n),((12:Nat),SV.ptr (1:Nat) (0:Nat)),((4:Nat),SV.int IntKind.i64 (0:Int)),((3:Nat),SV.int IntKind.i64 (0:Int)),((2:Nat),SV.nils),((1:Nat),SV.ptr (1:Nat) (0:Nat))],tm:= [SV.agg [SV.int IntKind.i64 n,SV.rd [CSh.int IntKind.u8] l,SV.own (0:Nat)],SV.dead,SV.dead,SV.dead,SV.dead,SV.dead,SV.dead,SV.dead,SV.dead,SV.dead,SV.dead,SV.dead,SV.dead,SV.dead,SV.dead,SV.dead,SV.dead,SV.dead,SV.dead,SV.dead,SV.dead,SV.dead,SV.dead,SV.dead,SV.dead,SV.dead,SV.dead,SV.dead,SV.dead,SV.dead,SV.dead,SV.dead,SV.dead,SV.dead,SV.dead,SV.dead,SV.dead,SV.dead,SV.dead],hp:= [Blk.own (84:TypeId) [CSh.int IntKind.i64,CSh.int IntKind.i64,CSh.int IntKind.i64,CSh.sl [CSh.int IntKind.u8]] l_1,Blk.cells (26:Nat) [SV.int IntKind.i64 n,SV.rd [CSh.int IntKind.u8] l,SV.own (0:Nat)],Blk.cells (128:TypeId) [SV.ptr (3:Nat) (0:Nat),SV.arrI (32:Nat) IntKind.u8 (mB n l),SV.iface (137:TypeId) (SV.agg [SV.ptr (4:Nat) (0:Nat)])],Blk.cells (185:TypeId) [SV.rd [CSh.int IntKind.i64,CSh.int IntKind.i64,CSh.int IntKind.i64,CSh.str] (jy l),SV.int IntKind.i64 (0:Int),SV.nilp],Blk.cells (300:TypeId) [SV.iface (259:TypeId) (SV.agg [SV.ptr (5:Nat) (0:Nat)]),SV.own (6:Nat),SV.int IntKind.i64 (0:Int),SV.int IntKind.i64 (2:Int),SV.int IntKind.i64 (0:Int)],Blk.cells (318:TypeId) [SV.int IntKind.u32 (0:Int),SV.int IntKind.i32 (0:Int),SV.int IntKind.u32 (0:Int),SV.arrI (780:Nat) IntKind.u64 hU,SV.arrI (36:Nat) IntKind.u64 kx],Blk.own (76:TypeId) [CSh.int IntKind.u64,CSh.int IntKind.u64,CSh.int IntKind.u64,CSh.int IntKind.u64] (lL [bn (d9 (List.map ac (mB n l)))])],G:= []} ∧
 ∀ (n n_1:Int) (l_2:List (List CD)) (l_3:List Int) (l_4:List (List CD)) (n_2 n_3 n_4 n_5:Int) (l_5 l_6:List (List CD)),
 l_2.length≤9223372036854775807→
 l_3.length=32→
 l_6.length≤9223372036854775807→
 n=(↑l_1.length:Int)∧
 0≤n_1∧
 n_1≤n∧
 l_2=l_1∧
 l_4=jy l∧
 (n_2,n_3,n_4,n_5,l_5)=iH l_1 (dc l) n_1.toNat∧
 l_6=iU l_1 (dc l) n_1.toNat→
 bif decide (n_1 < n) then
 (0≤n_1∧n_1 < (↑l_2.length:Int))∧
 n_1.toNat < l_2.length∧
 ql ((l_2.getD n_1.toNat []).getD (0:Nat) (CD.int 0)).toInt
 ((l_2.getD n_1.toNat []).getD (1:Nat) (CD.int 0)).toInt
 ((l_2.getD n_1.toNat []).getD (2:Nat) (CD.int 0)).toInt
 ((l_2.getD n_1.toNat []).getD (3:Nat) (CD.int 0)).toSl l_4 n_2 (n_3,n_4,n_5,l_5)∧
 ((l_6.length+1)*32≤140737488355328∧l_6.length+1≤9223372036854775807)∧
 ((-9223372036854775808:Int)≤n_1+1∧n_1+1≤9223372036854775807)∧
 (n=(↑l_1.length:Int)∧
 0≤n_1+1∧
 n_1+1≤n∧
 l_2=l_1∧
 l_4=jy l∧
 ((cP ((l_2.getD n_1.toNat []).getD (0:Nat) (CD.int 0)).toInt
 ((l_2.getD n_1.toNat []).getD (3:Nat) (CD.int 0)).toSl n_2 (n_3,n_4,n_5,l_5)).fst,
 (cP ((l_2.getD n_1.toNat []).getD (0:Nat) (CD.int 0)).toInt
 ((l_2.getD n_1.toNat []).getD (3:Nat) (CD.int 0)).toSl n_2 (n_3,n_4,n_5,l_5)).snd.fst,
 (cP ((l_2.getD n_1.toNat []).getD (0:Nat) (CD.int 0)).toInt
 ((l_2.getD n_1.toNat []).getD (3:Nat) (CD.int 0)).toSl n_2 (n_3,n_4,n_5,l_5)).snd.snd.fst,
 (cP ((l_2.getD n_1.toNat []).getD (0:Nat) (CD.int 0)).toInt
 ((l_2.getD n_1.toNat []).getD (3:Nat) (CD.int 0)).toSl n_2
 (n_3,n_4,n_5,l_5)).snd.snd.snd.fst,
 (cP ((l_2.getD n_1.toNat []).getD (0:Nat) (CD.int 0)).toInt
 ((l_2.getD n_1.toNat []).getD (3:Nat) (CD.int 0)).toSl n_2
 (n_3,n_4,n_5,l_5)).snd.snd.snd.snd)=
 iH l_1 (dc l) (n_1+1).toNat∧
 l_6++
 [[CD.int 0,
 CD.sl
 (sF ((l_2.getD n_1.toNat []).getD (0:Nat) (CD.int 0)).toInt
 (n_3,n_4,n_5,l_5))]] =
 iU l_1 (dc l) (n_1+1).toNat)∧
 (n - (n_1+1)).toNat < (n - n_1).toNat
 else (-1:Int)=(-1:Int)∧(0:Int)=0∧l_2=l_1∧l_6=bD l_1 l
 else
 l_1.length≤9223372036854775807→
 (((↑l_1.length:Int)=(↑l_1.length:Int)∧
 (0:Int)≤0∧
 0≤(↑l_1.length:Int)∧
 l_1=l_1∧
 jy l=jy l∧
 ((0:Int),0,136,0,
 iB (List.map ac (mB n l)))=
 iH l_1 (dc l) (0:Nat)∧
 [] =iU l_1 (dc l) (0:Nat))∧
 True)∧
 ∀ (n n_1:Int) (l_2:List (List CD)) (l_3:List Int) (l_4:List (List CD)) (n_2 n_3 n_4 n_5:Int) (l_5 l_6:List (List CD)),
 l_2.length≤9223372036854775807→
 l_3.length=32→
 l_6.length≤9223372036854775807→
 n=(↑l_1.length:Int)∧
 0≤n_1∧
 n_1≤n∧
 l_2=l_1∧
 l_4=jy l∧
 (n_2,n_3,n_4,n_5,l_5)=iH l_1 (dc l) n_1.toNat∧
 l_6=iU l_1 (dc l) n_1.toNat→
 bif decide (n_1 < n) then
 (0≤n_1∧n_1 < (↑l_2.length:Int))∧
 n_1.toNat < l_2.length∧
 ql ((l_2.getD n_1.toNat []).getD (0:Nat) (CD.int 0)).toInt
 ((l_2.getD n_1.toNat []).getD (1:Nat) (CD.int 0)).toInt
 ((l_2.getD n_1.toNat []).getD (2:Nat) (CD.int 0)).toInt
 ((l_2.getD n_1.toNat []).getD (3:Nat) (CD.int 0)).toSl l_4 n_2 (n_3,n_4,n_5,l_5)∧
 ((l_6.length+1)*32≤140737488355328∧l_6.length+1≤9223372036854775807)∧
 ((-9223372036854775808:Int)≤n_1+1∧n_1+1≤9223372036854775807)∧
 (n=(↑l_1.length:Int)∧
 0≤n_1+1∧
 n_1+1≤n∧
 l_2=l_1∧
 l_4=jy l∧
 ((cP ((l_2.getD n_1.toNat []).getD (0:Nat) (CD.int 0)).toInt
 ((l_2.getD n_1.toNat []).getD (3:Nat) (CD.int 0)).toSl n_2 (n_3,n_4,n_5,l_5)).fst,
 (cP ((l_2.getD n_1.toNat []).getD (0:Nat) (CD.int 0)).toInt
 ((l_2.getD n_1.toNat []).getD (3:Nat) (CD.int 0)).toSl n_2 (n_3,n_4,n_5,l_5)).snd.fst,
 (cP ((l_2.getD n_1.toNat []).getD (0:Nat) (CD.int 0)).toInt
 ((l_2.getD n_1.toNat []).getD (3:Nat) (CD.int 0)).toSl n_2 (n_3,n_4,n_5,l_5)).snd.snd.fst,
 (cP ((l_2.getD n_1.toNat []).getD (0:Nat) (CD.int 0)).toInt
 ((l_2.getD n_1.toNat []).getD (3:Nat) (CD.int 0)).toSl n_2
 (n_3,n_4,n_5,l_5)).snd.snd.snd.fst,
 (cP ((l_2.getD n_1.toNat []).getD (0:Nat) (CD.int 0)).toInt
 ((l_2.getD n_1.toNat []).getD (3:Nat) (CD.int 0)).toSl n_2
 (n_3,n_4,n_5,l_5)).snd.snd.snd.snd)=
 iH l_1 (dc l) (n_1+1).toNat∧
 l_6++
 [[CD.int 0,
 CD.sl
 (sF ((l_2.getD n_1.toNat []).getD (0:Nat) (CD.int 0)).toInt
 (n_3,n_4,n_5,l_5))]] =
 iU l_1 (dc l) (n_1+1).toNat)∧
 (n - (n_1+1)).toNat < (n - n_1).toNat
 else (-1:Int)=(-1:Int)∧(0:Int)=0∧l_2=l_1∧l_6=bD l_1 l
 else
 bif decide ((aB (aa l)).snd.snd≠0) then
 (aB (aa l)).snd.fst=(-1:Int)∧
 (aB (aa l)).snd.snd=0∧l_1=l_1∧ [] =bD l_1 l
 else
 l_1.length≤9223372036854775807→
 Miss (0:Nat)
 {n:=39,ov:= [((27:Nat),SV.int IntKind.i64 (0:Int)),((26:Nat),SV.int IntKind.i64 (↑l_1.length:Int)),((25:Nat),SV.own (0:Nat)),((24:Nat),SV.ptr (1:Nat) (2:Nat)),((8:Nat),SV.nils),((21:Nat),SV.bool (decide ((aB (aa l)).snd.snd≠0))),((20:Nat),SV.int IntKind.i64 (aB (aa l)).snd.snd),((7:Nat),SV.int IntKind.i64 (aB (aa l)).snd.snd),((6:Nat),SV.int IntKind.i64 (aB (aa l)).snd.fst),((5:Nat),SV.nilp),((19:Nat),SV.int IntKind.i64 (aB (aa l)).snd.snd),((18:Nat),SV.int IntKind.i64 (aB (aa l)).snd.fst),((17:Nat),SV.nilp),((11:Nat),SV.tup [SV.nilp,SV.int IntKind.i64 (aB (aa l)).snd.fst,SV.int IntKind.i64 (aB (aa l)).snd.snd]),((16:Nat),SV.tup [SV.nilp,SV.int IntKind.i64 (aB (aa l)).snd.fst,SV.int IntKind.i64 (aB (aa l)).snd.snd]),((15:Nat),SV.rd [CSh.int IntKind.u8] l),((14:Nat),SV.ptr (1:Nat) (1:Nat)),((13:Nat),SV.int IntKind.i64 n),((12:Nat),SV.ptr (1:Nat) (0:Nat)),((4:Nat),SV.int IntKind.i64 (0:Int)),((3:Nat),SV.int IntKind.i64 (0:Int)),((2:Nat),SV.nils),((1:Nat),SV.ptr (1:Nat) (0:Nat))],tm:= [SV.agg [SV.int IntKind.i64 n,SV.rd [CSh.int IntKind.u8] l,SV.own (0:Nat)],SV.dead,SV.dead,SV.dead,SV.dead,SV.dead,SV.dead,SV.dead,SV.dead,SV.dead,SV.dead,SV.dead,SV.dead,SV.dead,SV.dead,SV.dead,SV.dead,SV.dead,SV.dead,SV.dead,SV.dead,SV.dead,SV.dead,SV.dead,SV.dead,SV.dead,SV.dead,SV.dead,SV.dead,SV.dead,SV.dead,SV.dead,SV.dead,SV.dead,SV.dead,SV.dead,SV.dead,SV.dead,SV.dead],hp:= [Blk.own (84:TypeId) [CSh.int IntKind.i64,CSh.int IntKind.i64,CSh.int IntKind.i64,CSh.sl [CSh.int IntKind.u8]] l_1,Blk.cells (26:Nat) [SV.int IntKind.i64 n,SV.rd [CSh.int IntKind.u8] l,SV.own (0:Nat)]],G:= []} ∧
 ∀ (n n_1:Int) (l_2:List (List CD)) (l_3:List Int) (l_4:List (List CD)) (n_2 n_3 n_4 n_5:Int) (l_5 l_6:List (List CD)),
 l_2.length≤9223372036854775807→
 l_3.length=32→
 l_6.length≤9223372036854775807→
 n=(↑l_1.length:Int)∧
 0≤n_1∧
 n_1≤n∧
 l_2=l_1∧
 l_4=jy l∧
 (n_2,n_3,n_4,n_5,l_5)=iH l_1 (dc l) n_1.toNat∧
 l_6=iU l_1 (dc l) n_1.toNat→
 bif decide (n_1 < n) then
 (0≤n_1∧n_1 < (↑l_2.length:Int))∧
 n_1.toNat < l_2.length∧
 ql ((l_2.getD n_1.toNat []).getD (0:Nat) (CD.int 0)).toInt
 ((l_2.getD n_1.toNat []).getD (1:Nat) (CD.int 0)).toInt
 ((l_2.getD n_1.toNat []).getD (2:Nat) (CD.int 0)).toInt
 ((l_2.getD n_1.toNat []).getD (3:Nat) (CD.int 0)).toSl l_4 n_2 (n_3,n_4,n_5,l_5)∧
 ((l_6.length+1)*32≤140737488355328∧l_6.length+1≤9223372036854775807)∧
 ((-9223372036854775808:Int)≤n_1+1∧n_1+1≤9223372036854775807)∧
 (n=(↑l_1.length:Int)∧
 0≤n_1+1∧
 n_1+1≤n∧
 l_2=l_1∧
 l_4=jy l∧
 ((cP ((l_2.getD n_1.toNat []).getD (0:Nat) (CD.int 0)).toInt
 ((l_2.getD n_1.toNat []).getD (3:Nat) (CD.int 0)).toSl n_2 (n_3,n_4,n_5,l_5)).fst,
 (cP ((l_2.getD n_1.toNat []).getD (0:Nat) (CD.int 0)).toInt
 ((l_2.getD n_1.toNat []).getD (3:Nat) (CD.int 0)).toSl n_2 (n_3,n_4,n_5,l_5)).snd.fst,
 (cP ((l_2.getD n_1.toNat []).getD (0:Nat) (CD.int 0)).toInt
 ((l_2.getD n_1.toNat []).getD (3:Nat) (CD.int 0)).toSl n_2 (n_3,n_4,n_5,l_5)).snd.snd.fst,
 (cP ((l_2.getD n_1.toNat []).getD (0:Nat) (CD.int 0)).toInt
 ((l_2.getD n_1.toNat []).getD (3:Nat) (CD.int 0)).toSl n_2
 (n_3,n_4,n_5,l_5)).snd.snd.snd.fst,
 (cP ((l_2.getD n_1.toNat []).getD (0:Nat) (CD.int 0)).toInt
 ((l_2.getD n_1.toNat []).getD (3:Nat) (CD.int 0)).toSl n_2
 (n_3,n_4,n_5,l_5)).snd.snd.snd.snd)=
 iH l_1 (dc l) (n_1+1).toNat∧
 l_6++
 [[CD.int 0,
 CD.sl
 (sF ((l_2.getD n_1.toNat []).getD (0:Nat) (CD.int 0)).toInt
 (n_3,n_4,n_5,l_5))]] =
 iU l_1 (dc l) (n_1+1).toNat)∧
 (n - (n_1+1)).toNat < (n - n_1).toNat
 else (-1:Int)=(-1:Int)∧(0:Int)=0∧l_2=l_1∧l_6=bD l_1 l
theorem LV:av G3 Tryz.f13 Kq Zb=P13:=by kernel_rfl
noncomputable def Hq:ai:=al G3 13 (ag Kq)
def P62:Prop:= ∀ (l:List (List CD)),
 l.length≤9223372036854775807→
 l.length≤1000000→
 ∀ (β:Bool),
 (β=true→l= [])→
 bif β then [] =l else (((0:Nat)+l.length)*1≤140737488355328∧(0:Nat)+l.length≤9223372036854775807)∧ [] ++l=l
theorem e62:av Hq Tryz.f62 JS au=P62:=by kernel_rfl
noncomputable def EO:ai:=al Hq 62 (ag JS)
def P34:Prop:= ∀ (n:Int) (l:List (List CD)),
 l.length≤9223372036854775807→
 0≤n∧n≤(↑l.length:Int)∧l.length≤1000000→
 l.length≤9223372036854775807→
 bif decide ((↑l.length:Int) < n) then False
 else
 ((0:Int)≤0∧0≤n∧n≤(↑l.length:Int))∧
 (List.drop 0 (List.take n.toNat l)).length≤1000000∧
 (0≤n∧n≤(↑l.length:Int)∧(↑l.length:Int)≤(↑l.length:Int))∧
 List.drop 0 (List.take n.toNat l)=List.take n.toNat l∧List.drop n.toNat (List.take (↑l.length:Int).toNat l)=List.drop n.toNat l
theorem e34:av EO Tryz.f34 Ju au=P34:=by kernel_rfl
noncomputable def GD:ai:=al EO 34 (ag Ju)
def P33:Prop:= ∀ (n:Int) (l:List (List CD)),
 l.length≤9223372036854775807→
 0≤n∧n≤2∧n≤↑l.length∧l.length≤1000000∧ax l→
 (0≤n∧n≤↑l.length∧l.length≤1000000)∧
 ((List.take n.toNat l).length≤9223372036854775807→
 ((List.take n.toNat l=List.take n.toNat l∧
 (↑(List.take n.toNat l).length:Int)=n∧
 (0:Int)≤0∧
 0≤(↑(List.take n.toNat l).length:Int)∧
 0=a9 (List.take n.toNat l) 0∧List.drop n.toNat l=List.drop n.toNat l)∧
 True)∧
 ∀ (n_1:Int) (l_1:List (List CD)) (n_2 n_3:Int) (l_2:List (List CD)),
 l_1.length≤9223372036854775807→
 l_1=List.take n.toNat l∧
 n_2=n∧0≤n_3∧n_3≤n_2∧n_1=a9 (List.take n.toNat l) n_3.toNat∧l_2=List.drop n.toNat l→
 bif decide (n_3 < n_2) then
 (0≤n_3∧n_3 < ↑l_1.length)∧
 n_3.toNat < l_1.length∧
 ((-9223372036854775808:Int)≤8*n_3∧(8:Int)*n_3≤9223372036854775807)∧
 (0:Int)≤8*n_3∧
 ((-9223372036854775808:Int)≤n_3+1∧n_3+1≤9223372036854775807)∧
 (l_1=List.take n.toNat l∧
 n_2=n∧
 0≤n_3+1∧
 n_3+1≤n_2∧
 dQ IntKind.i64 n_1
 (cn IntKind.i64 (IntKind.i64.wrap ((l_1.getD n_3.toNat []).getD 0 (CD.int 0)).toInt)
 ((8:Int)*n_3))=
 a9 (List.take n.toNat l) (n_3+1).toNat∧
 l_2=List.drop n.toNat l)∧
 (n_2 - (n_3+1)).toNat < (n_2 - n_3).toNat
 else n_1=a9 (List.take n.toNat l) n.toNat∧l_2=List.drop n.toNat l)
theorem e33:av GD Tryz.f33 Li Xb=P33:=by kernel_rfl
noncomputable def Ee:ai:=al GD 33 (ag Li)
end Go.Proofs.YteiecapbaeajdaaGreatDoor
namespace Go.Proofs.YteiecapbaeajdaaGreatDoor
open Go Go.Avc Go.Proofs
set_option linter.unusedVariables false
set_option linter.unusedSimpArgs false
set_option maxRecDepth 100000
theorem qQ {b:Bool} {p:Prop} (h1:b=true) (h2:b=false):p:=by rw [h1] at h2;cases h2
theorem n5 {p:Prop} [Decidable p] {q:Prop} (h:¬ p) (e:decide p=true):q:=absurd (of_decide_eq_true e) h
theorem zL {p:Prop} [Decidable p] {q:Prop} (h:p) (e:decide p=false):q:=absurd h (of_decide_eq_false e)
theorem YI:Rn:=fun l its n a b c s _ _=>⟨trivial,rfl,rfl,rfl,rfl,rfl,rfl,rfl,rfl⟩
theorem VD:RL:=fun l its n a b c s w _ _=>⟨trivial,rfl,rfl,rfl,rfl,rfl,rfl,rfl,rfl,rfl⟩
theorem ZI:af (base.with uJ) 25 (ag Fz):=am SF Tryz.func25 (by kernel_rfl) (by kernel_rfl) Tryz.call25 adp YI
theorem W7:af (base.with uJ) 25 (ag Gm):=am SF Tryz.func25 (by kernel_rfl) (by kernel_rfl) Tryz.call25 acL VD
theorem P8:(base.with uZ).Ok:=ae SF (lh ZI W7)
theorem WV:Sr:=fun k t n d tg its at' a b c s _ _ h=>⟨h,ab (fun e=>ab (fun _=>⟨rfl,rfl,rfl,rfl,rfl,rfl,rfl,rfl⟩) fun e'=>qQ e e') fun e=>ab (fun e'=>qQ e' e) fun _=>⟨rfl,rfl,rfl,rfl,rfl,rfl,rfl,rfl,rfl⟩⟩
theorem Zc:Ue:=fun _ _ _ _ _ _ _ _ _ _ _ _ _ _ h=>⟨h,rfl,rfl,rfl,rfl,rfl,rfl,rfl,rfl,rfl⟩
theorem WA:af (base.with uZ) 92 (ag G1):=am P8 Tryz.func92 (by kernel_rfl) (by kernel_rfl) Tryz.call92 aes WV
theorem Yx:af (base.with uZ) 92 (ag Ed):=am P8 Tryz.func92 (by kernel_rfl) (by kernel_rfl) Tryz.call92 aep Zc
theorem c92:(base.with EI).Ok:=ae P8 (lh WA Yx)
theorem acN:P51:=by
  rintro t d tg its at' a b c s _ _ ⟨rfl,hb,hd,hc,hp,hh,hs⟩
  refine ⟨trivial,rfl,ab (fun e=>n5 (fun h=>h hc) e) fun _=> ?_⟩
  rw [if_pos hc]
  exact ⟨hp,ab (fun _=>⟨rfl,ab (fun e=>n5 (fun h=>h hc) e) fun _=>⟨⟨fun _=>rfl,by omega,hb,fH (by omega) hs⟩,rfl,rfl,rfl,rfl,rfl,rfl,rfl,rfl⟩⟩) fun e=>qQ hh e⟩
theorem afm:af (base.with EI) 51 (ag Jq):=am c92 Tryz.func51 (by kernel_rfl) (by kernel_rfl) Tryz.call51 e51 acN
theorem c51:(base.with Fx).Ok:=ae c92 afm
theorem IW {k t n m:Int} {d:List (List CD)} (hd:ax d) {x:Sp} (h:eV m x):eV (m+(d.length+6:Nat)) (c5 k t n d x):=
  fH (by have:=C9 k t n d;omega) (Bg (M4 k t n hd) h _)
theorem My:ax [] :=fun i=>nj (Nat.zero_le i)
theorem afn:P53:=by
  rintro n tg its at' a b c s _ ⟨rfl,hp,hh,hs,hf⟩
  have ho:=IW (k:=2) (t:=3) (n:=1) My hs
  refine ⟨hp,ab (fun _=>⟨⟨fun h=>by omega,by omega,My,fH (by omega) hs⟩,⟨rfl,fH (by simp) ho⟩,ab (fun _=>⟨rfl,rfl,rfl,rfl,rfl,rfl,rfl,rfl,rfl⟩) fun e=>zL hf e⟩) fun e=>qQ hh e⟩
theorem adU:af (base.with Fx) 53 (ag Kz):=am c51 Tryz.func53 (by kernel_rfl) (by kernel_rfl) Tryz.call53 e53 afn
theorem Ut:(base.with vB).Ok:=ae c51 adU
theorem WC:Sm:=fun tg its n a b c s _ _=>⟨trivial,ab (fun e=>ab (fun _=>⟨rfl,rfl,rfl,rfl,rfl,rfl,rfl,rfl⟩) fun e'=>qQ e e') fun e=>ab (fun e'=>qQ e' e) fun _=>⟨rfl,rfl,rfl,rfl,rfl,rfl,rfl,rfl,rfl⟩⟩
theorem Yt:OU:=fun _ _ _ _ _ _ _ _ _ _=>⟨trivial,rfl,rfl,rfl,rfl,rfl,rfl,rfl,rfl,rfl⟩
theorem Xe:af (base.with vB) 27 (ag FO):=am Ut Tryz.func27 (by kernel_rfl) (by kernel_rfl) Tryz.call27 afe WC
theorem Xv:af (base.with vB) 27 (ag GR):=am Ut Tryz.func27 (by kernel_rfl) (by kernel_rfl) Tryz.call27 aeF Yt
theorem c27:(base.with Hc).Ok:=ae Ut (lh Xe Xv)
theorem Xp {w:List Int} (h:w.length=4): [gI w 0,gI w 1,gI w 2,gI w 3] =w:=by
  match w,h with
  | [a,b,c,d],_=>rfl
theorem nd (a:List Int):(ck a).length=4:=by unfold ck;exact u5 _ _
theorem GV {a:List Int} (h:aq a):aq (ck a):=by unfold ck;exact BD h (gy 512)
theorem AE:∀ (f i:Nat) (x:Sp),(kz x f i).1.length=4∧aq (kz x f i).1
  | 0,i,x=>⟨rfl,Bp⟩
  | f+1,i,x=>by
    have h1:=nd (mj x)
    have h2:aq (ck (mj x)):=GV (uS _ _)
    rw [kz]
    generalize ck (mj x)=Y at *
    split
    · exact AE f _ _
    · exact ⟨h1,h2⟩
theorem NQ (x:Sp):(ar x).1.length=4:=by rw [ar,aR];exact (AE _ _ _).1
theorem ZO (x:Sp):aq (ar x).1:=by rw [ar,aR];exact (AE _ _ _).2
theorem Ny (a:List Int):(kg a).length=32:=fX _ 4
theorem afl:P36:=by
  rintro k t n d tg its at' a b c s _ _ ⟨hp,hs,h | h | h⟩
  · obtain ⟨rfl,rfl,hb,hd,hc,hh⟩:=h
    exact ab (fun _=>⟨⟨rfl,hb,hd,hc,hp,hh,hs⟩,rfl,rfl,rfl,rfl,rfl,rfl,rfl,rfl,rfl⟩) fun e=>zL rfl e
  · obtain ⟨rfl,rfl,hh,hf⟩:=h
    have hx1:=NQ (c5 2 3 1 [] (a,b,c,s))
    have hx2:=ZO (c5 2 3 1 [] (a,b,c,s))
    refine ab (fun e=>n5 (by decide) e) fun _=>ab (fun e=>n5 (by decide) e) fun _=>ab (fun _=>⟨⟨rfl,hp,hh,hs,hf⟩,fun _=>⟨⟨⟨rfl,rfl,rfl,rfl,rfl,rfl,rfl,.inl ⟨rfl,rfl⟩⟩,trivial⟩,?_⟩⟩) fun e=>zL rfl e
    rintro l m i tg' its' at2 a' b' c' s' e0 e o _ ⟨rfl,rfl,rfl,rfl,rfl,rfl,hst,hio⟩
    refine ab (fun hlt=> ?_) fun hlt=> ?_
    · have hlt:=of_decide_eq_true hlt
      obtain ⟨rfl,rfl⟩:i=0∧o= [] :=hio.resolve_right fun h=>by omega
      have ew: [((([bn (bJ (a,b,c,s)).1].getD (0:Int).toNat []).getD 0 (CD.int 0))).toInt,((([bn (bJ (a,b,c,s)).1].getD (0:Int).toNat []).getD 1 (CD.int 0))).toInt,((([bn (bJ (a,b,c,s)).1].getD (0:Int).toNat []).getD 2 (CD.int 0))).toInt,((([bn (bJ (a,b,c,s)).1].getD (0:Int).toNat []).getD 3 (CD.int 0))).toInt] =(bJ (a,b,c,s)).1:=Xp hx1
      rw [ew]
      refine ⟨⟨by omega,Int.one_pos⟩,Nat.one_pos,hx2,⟨by decide,by decide,by decide,by decide⟩,⟨by decide,by decide⟩,⟨by decide,by decide⟩,⟨rfl,rfl,rfl,rfl,rfl,rfl,hst,.inr ⟨rfl,?_⟩⟩,by decide⟩
      rw [List.drop_zero,List.take_of_length_le (by rw [Ny];exact Nat.le_refl _),List.nil_append]
      rfl
    · have hlt:=of_decide_eq_false hlt
      obtain ⟨rfl,rfl⟩:i=1∧o=(kg (bJ (a,b,c,s)).1).map ac:=hio.resolve_left fun h=>by omega
      have hst':(a',b',c',s')=(cP 2 d at' (a,b,c,s)).2:=hst
      refine ⟨rfl,rfl,rfl,rfl,rfl,congrArg (·.1) hst',congrArg (·.2.1) hst',congrArg (·.2.2.1) hst',congrArg (·.2.2.2) hst'⟩
  · obtain ⟨rfl,hat⟩:=h
    exact ab (fun e=>n5 (by decide) e) fun _=>ab (fun e=>n5 (by decide) e) fun _=>ab (fun e=>n5 (by decide) e) fun _=>ab (fun e=>n5 (by decide) e) fun _=>⟨trivial,ab (fun _=>⟨rfl,rfl,rfl,rfl,rfl,rfl,rfl,rfl,rfl⟩) fun e=>zL hat e⟩
theorem ac5:af (base.with Hc) 36 (ag J9):=am c27 Tryz.func36 (by kernel_rfl) (by kernel_rfl) Tryz.call36 e36 afl
theorem c36:(base.with G3).Ok:=ae c27 ac5
theorem CP (l:List (List CD)) (x:Sp):∀ i,(iU l x i).length=i
  | 0=>rfl
  | i+1=>by rw [iU,List.length_append,CP l x i];rfl
theorem aeo:P13:=by
  rintro k p l _ _ ⟨rfl,hp,hok,hl,hpre⟩
  refine ⟨hp,ab (fun e=>by cases e) fun _=>ab (fun _=>ab (fun e=>n5 (by decide) e) fun _=>fun _=>⟨⟨⟨rfl,by omega,by omega,rfl,rfl,rfl,rfl⟩,trivial⟩,?_⟩) fun e=>zL hok e⟩
  rintro n i' l' tg its at' a b c s o _ _ _ ⟨rfl,h0,h1,rfl,rfl,hst,rfl⟩
  obtain ⟨i,rfl⟩:=Int.eq_ofNat_of_zero_le h0
  rw [Int.toNat_natCast] at hst ⊢
  refine ab (fun h=> ?_) fun h=> ?_
  · have h:=of_decide_eq_true h
    have hi:i<l'.length:=by omega
    have hpr:=hpre i hi
    rw [← hst] at hpr
    have hn:iH l' (dc p) (i+1)=cP (cC l' i 0) (cD l' i) at' (a,b,c,s):=by rw [iH,← hst]
    have hm:iU l' (dc p) (i+1)=iU l' (dc p) i++ [[.int 0,.sl (sF (cC l' i 0) (a,b,c,s))]] :=by rw [iU,← hst]
    rw [show ((i:Int)+1).toNat=i+1 from by omega,hn,hm,CP]
    exact ⟨⟨by omega,h⟩,hi,hpr,⟨by omega,by omega⟩,⟨by omega,by omega⟩,⟨rfl,by omega,by omega,rfl,rfl,rfl,rfl⟩,by omega⟩
  · have h:=of_decide_eq_false h
    rw [show i=l'.length from by omega]
    exact ⟨rfl,rfl,rfl,(by rw [bD,aR])⟩
theorem aec:af (base.with G3) 13 (ag Kq):=am c36 Tryz.func13 (by kernel_rfl) (by kernel_rfl) Tryz.call13 LV aeo
theorem c13:(base.with Hq).Ok:=ae c36 aec
theorem adF:P62:=by
  intro l _ h β hβ
  refine ab (fun e=>(hβ e).symm) fun _=>⟨⟨by omega,by omega⟩,rfl⟩
theorem adV:af (base.with Hq) 62 (ag JS):=am c13 Tryz.func62 (by kernel_rfl) (by kernel_rfl) Tryz.call62 e62 adF
theorem c62:(base.with EO).Ok:=ae c13 adV
theorem aej:P34:=by
  rintro n l _ ⟨h0,h1,h2⟩ _
  refine ab (fun e=> ?_) fun _=>⟨⟨by omega,h0,h1⟩,?_,⟨h0,h1,by omega⟩,by rw [List.drop_zero],?_⟩
  · have:=of_decide_eq_true e
    omega
  · rw [List.drop_zero,List.length_take];omega
  · rw [Int.toNat_natCast,List.take_length]
theorem acV:af (base.with EO) 34 (ag Ju):=am c62 Tryz.func34 (by kernel_rfl) (by kernel_rfl) Tryz.call34 e34 aej
theorem c34:(base.with GD).Ok:=ae c62 acV
theorem ad4:P33:=by
  rintro w l _ ⟨h0,h1,h2,h3,hb⟩
  obtain ⟨k,rfl⟩:=Int.eq_ofNat_of_zero_le h0
  rw [Int.toNat_natCast]
  have hk:(l.take k).length=k:=by rw [List.length_take];omega
  refine ⟨⟨h0,h2,h3⟩,fun _=>⟨⟨⟨rfl,by rw [hk],by omega,by omega,rfl,rfl⟩,trivial⟩,?_⟩⟩
  rintro x l' n i' rest _ ⟨rfl,rfl,g0,g1,rfl,rfl⟩
  obtain ⟨i,rfl⟩:=Int.eq_ofNat_of_zero_le g0
  rw [Int.toNat_natCast]
  refine ab (fun h=> ?_) fun h=> ?_
  · have h:=of_decide_eq_true h
    rw [show ((i:Int)+1).toNat=i+1 from by omega]
    exact ⟨⟨g0,by rw [hk];exact h⟩,by rw [hk];omega,⟨by omega,by omega⟩,by omega,⟨by omega,by omega⟩,⟨rfl,rfl,by omega,by omega,rfl,rfl⟩,by omega⟩
  · have h:=of_decide_eq_false h
    rw [show i=k from by omega]
    exact ⟨rfl,rfl⟩
theorem ae4:af (base.with GD) 33 (ag Li):=am c34 Tryz.func33 (by kernel_rfl) (by kernel_rfl) Tryz.call33 e33 ad4
theorem c33:(base.with Ee).Ok:=ae c34 ae4
end Go.Proofs.YteiecapbaeajdaaGreatDoor
namespace Go.Proofs.YteiecapbaeajdaaGreatDoor
open Go Go.Avc
set_option linter.unusedVariables false
def spR:List (List CD):=([1,16,0,1,1,1,0,0,0,0,0,2,3,1,0,0,0,0,0,0,1,1,0,7,2,1,0,4] :List Int).map ac
def aO:List (List CD):=([1,1,1,0,0,0,0,0,2,3,1,0,0,0,0,0] :List Int).map ac
def bi (b:Int):List (List CD):= [[.int 0,.int 1,.int 0,.sl [[.int b]]],[.int 2,.int 0,.int 1,.sl []],[.int 4,.int 0,.int 0,.sl []]]
def cO (j:Nat):List (List CD)×List (List CD):=(spR.drop ([19,24,27,28].getD j 28),(bi 7).take j)
noncomputable def x10:Code:=match Tryz.f10.body with | some (.seq x _)=>x | _=> .skip
noncomputable def z10:Code:=match Tryz.f10.body with | some (.seq _ (.seq _ z))=>z | _=> .skip
noncomputable def QB:Oper:=match Tryz.f10.body with | some (.seq _ (.seq (.region _ os _) _))=>(os[0]?).getD default | _=>default
noncomputable def OP:Oper:=match Tryz.f10.body with | some (.seq _ (.seq (.region _ os _) _))=>(os[1]?).getD default | _=>default
def vh:Ct:= {ps:= [rb],bs:= [],pre:=fun | [.r l] =>l=spR | _=>False,res:=fun | [.r l] => .ret (.tup [.agg [i64,rb,.own 0],i64]) [.own 84 uo] [.i 1,.r aO,.i 0,.r (bi 7)] | _=>aj}
def Mk:List Dat→Ann:=fun _=> {cut:= [],loop:= [(5,[la 48 [(2,.ptr 0 0),(3,.ptr 1 0),(4,.ptr 2 0)] [.cells 26 [i64,rb,.own 3],.cells 27 [i64],.cells 90 [rb],.own 84 uo] (fun
  | [.i k,.r p,.i e,.r rest,.r l] =>k=1∧p=aO∧e=0∧((rest,l)=cO 0∨(rest,l)=cO 1∨(rest,l)=cO 2∨(rest,l)=cO 3)
  | _=>False) (fun | [_,_,_,.r rest,_] =>rest.length | _=>0)])]}
end Go.Proofs.YteiecapbaeajdaaGreatDoor
namespace Go.Proofs.YteiecapbaeajdaaGreatDoor
open Go Go.Avc Go.Proofs
open Go.RowKit Go.Extern.Stop Go.Stop Go.Extern
set_option linter.unusedVariables false
set_option linter.unusedSimpArgs false
set_option maxRecDepth 100000
theorem QR:Ku Tryz.prog 32 2:=by
  intro vs w hvs
  refine ⟨Tryz.call32 vs w,?_⟩
  have hbin:∀ w:World,(binOp BinOp.neq 20 .nilIface .nilIface).run Tryz.prog w= .ok (.bool false) w:=fun _=>by kernel_rfl
  have hnt:Tryz.f32.ntmps=17:=by kernel_rfl
  obtain ⟨p,q,rfl⟩:∃ p q,vs= #[p,q] :=by
    rcases vs with ⟨l⟩
    match l,hvs with
    | [p,q],_=>exact ⟨p,q,rfl⟩
  refine callsD_of_wpS Tryz.func32 rfl fun c₀ cs hu=> ?_
  apply wpS_seq
  apply wpS_region
  simp [wpOpsS,go_sem,recoverD,hu,hnt,Exit.thenS]
  apply wpS_seq
  apply wpS_region
  simp [wpOpsS,go_sem,hbin,Exit.thenS]
  refine wpS_cond (t:=false) (by simp [Act.eval,Array.replicate]) ?_
  simp only [if_false,Bool.false_eq_true]
  refine wpS_of_wp (wp_skip ?_)
  have hres:Tryz.f32.results= #[] :=by kernel_rfl
  cases c₀
  simp_all [bodyPostS,results,Exit.thenS]
end Go.Proofs.YteiecapbaeajdaaGreatDoor
namespace Go.Proofs.YteiecapbaeajdaaGreatDoor
open Go Go.Avc Go.Proofs
set_option linter.unusedVariables false
set_option maxRecDepth 100000
def P10:Prop:= ∀ (l:List (List CD)),
 l.length≤9223372036854775807→
 l=
 [[CD.int 1],[CD.int 16],[CD.int 0],[CD.int 1],[CD.int 1],[CD.int 1],
 [CD.int 0],[CD.int 0],[CD.int 0],[CD.int 0],[CD.int 0],[CD.int 2],
 [CD.int 3],[CD.int 1],[CD.int 0],[CD.int 0],[CD.int 0],[CD.int 0],
 [CD.int 0],[CD.int 0],[CD.int 1],[CD.int 1],[CD.int 0],[CD.int 7],
 [CD.int 2],[CD.int 1],[CD.int 0],[CD.int 4]] →
 ((0:Int)≤1∧(1:Int)≤2∧1≤(↑l.length:Int)∧l.length≤1000000∧ax l)∧
 ((0:Int)≤2∧
 (2:Int)≤2∧
 2≤(↑(List.drop 1 l).length:Int)∧
 (List.drop 1 l).length≤1000000∧ax (List.drop 1 l))∧
 (0≤a9 (List.take 2 (List.drop 1 l)) 2∧
 a9 (List.take 2 (List.drop 1 l)) 2≤(↑(List.drop 2 (List.drop 1 l)).length:Int)∧
 (List.drop 2 (List.drop 1 l)).length≤1000000)∧
 ((a9 (List.take 1 l) 1=1∧
 List.take (a9 (List.take 2 (List.drop 1 l)) 2).toNat (List.drop 2 (List.drop 1 l))=
 [[CD.int 1],[CD.int 1],[CD.int 1],[CD.int 0],[CD.int 0],
 [CD.int 0],[CD.int 0],[CD.int 0],[CD.int 2],[CD.int 3],
 [CD.int 1],[CD.int 0],[CD.int 0],[CD.int 0],[CD.int 0],
 [CD.int 0]] ∧
 (0:Int)=0∧
 ((List.drop (a9 (List.take 2 (List.drop 1 l)) 2).toNat
 (List.drop 2 (List.drop 1 l)),
 [])=
 cO 0∨
 (List.drop (a9 (List.take 2 (List.drop 1 l)) 2).toNat
 (List.drop 2 (List.drop 1 l)),
 [])=
 cO 1∨
 (List.drop (a9 (List.take 2 (List.drop 1 l)) 2).toNat
 (List.drop 2 (List.drop 1 l)),
 [])=
 cO 2∨
 (List.drop (a9 (List.take 2 (List.drop 1 l)) 2).toNat
 (List.drop 2 (List.drop 1 l)),
 [])=
 cO 3))∧
 True)∧
 ∀ (n:Int) (l:List (List CD)) (n_1:Int) (l_1 l_2:List (List CD)),
 l.length≤9223372036854775807→
 l_1.length≤9223372036854775807→
 n=1∧
 l=
 [[CD.int 1],[CD.int 1],[CD.int 1],[CD.int 0],[CD.int 0],
 [CD.int 0],[CD.int 0],[CD.int 0],[CD.int 2],[CD.int 3],
 [CD.int 1],[CD.int 0],[CD.int 0],[CD.int 0],[CD.int 0],
 [CD.int 0]] ∧
 n_1=0∧
 ((l_1,l_2)=cO 0∨
 (l_1,l_2)=cO 1∨
 (l_1,l_2)=cO 2∨(l_1,l_2)=cO 3)→
 l_1.length≤9223372036854775807→
 bif decide (0 < (↑l_1.length:Int)) then
 ((0:Int)≤1∧
 (1:Int)≤2∧1≤(↑l_1.length:Int)∧l_1.length≤1000000∧ax l_1)∧
 (l_2.length≤9223372036854775807→
 bif decide ((↑l_2.length:Int)=200) then
 (0:Int)=1∧
 [] =
 [[CD.int 1],[CD.int 1],[CD.int 1],[CD.int 0],[CD.int 0],
 [CD.int 0],[CD.int 0],[CD.int 0],[CD.int 2],[CD.int 3],
 [CD.int 1],[CD.int 0],[CD.int 0],[CD.int 0],[CD.int 0],
 [CD.int 0]] ∧
 (9:Int)=0∧
 [] =
 [[CD.int 0,CD.int 1,CD.int 0,CD.sl [[CD.int 7]]],
 [CD.int 2,CD.int 0,CD.int 1,CD.sl []],
 [CD.int 4,CD.int 0,CD.int 0,CD.sl []]]
 else
 bif decide (a9 (List.take 1 l_1) 1=0) then
 ((0:Int)≤1∧
 (1:Int)≤2∧
 1≤(↑(List.drop 1 l_1).length:Int)∧
 (List.drop 1 l_1).length≤1000000∧ax (List.drop 1 l_1))∧
 ((0:Int)≤2∧
 (2:Int)≤2∧
 2≤(↑(List.drop 1 (List.drop 1 l_1)).length:Int)∧
 (List.drop 1 (List.drop 1 l_1)).length≤1000000∧
 ax (List.drop 1 (List.drop 1 l_1)))∧
 (0≤a9 (List.take 2 (List.drop 1 (List.drop 1 l_1))) 2∧
 a9 (List.take 2 (List.drop 1 (List.drop 1 l_1))) 2≤
 (↑(List.drop 2 (List.drop 1 (List.drop 1 l_1))).length:Int)∧
 (List.drop 2 (List.drop 1 (List.drop 1 l_1))).length≤1000000)∧
 ((l_2.length+1)*48≤140737488355328∧l_2.length+1≤9223372036854775807)∧
 (n=1∧
 l=
 [[CD.int 1],[CD.int 1],[CD.int 1],[CD.int 0],
 [CD.int 0],[CD.int 0],[CD.int 0],[CD.int 0],
 [CD.int 2],[CD.int 3],[CD.int 1],[CD.int 0],
 [CD.int 0],[CD.int 0],[CD.int 0],[CD.int 0]] ∧
 n_1=0∧
 ((List.drop
 (a9 (List.take 2 (List.drop 1 (List.drop 1 l_1)))
 (2:Nat)).toNat
 (List.drop 2 (List.drop 1 (List.drop 1 l_1))),
 l_2++
 [[CD.int (a9 (List.take 1 l_1) 1),
 CD.int (a9 (List.take 1 (List.drop 1 l_1)) 1),
 CD.int 0,
 CD.sl
 (List.take
 (a9 (List.take 2 (List.drop 1 (List.drop 1 l_1)))
 (2:Nat)).toNat
 (List.drop 2 (List.drop 1 (List.drop 1 l_1))))]])=
 cO 0∨
 (List.drop
 (a9 (List.take 2 (List.drop 1 (List.drop 1 l_1)))
 (2:Nat)).toNat
 (List.drop 2 (List.drop 1 (List.drop 1 l_1))),
 l_2++
 [[CD.int (a9 (List.take 1 l_1) 1),
 CD.int (a9 (List.take 1 (List.drop 1 l_1)) 1),
 CD.int 0,
 CD.sl
 (List.take
 (a9 (List.take 2 (List.drop 1 (List.drop 1 l_1)))
 (2:Nat)).toNat
 (List.drop 2 (List.drop 1 (List.drop 1 l_1))))]])=
 cO 1∨
 (List.drop
 (a9 (List.take 2 (List.drop 1 (List.drop 1 l_1)))
 (2:Nat)).toNat
 (List.drop 2 (List.drop 1 (List.drop 1 l_1))),
 l_2++
 [[CD.int (a9 (List.take 1 l_1) 1),
 CD.int (a9 (List.take 1 (List.drop 1 l_1)) 1),
 CD.int 0,
 CD.sl
 (List.take
 (a9 (List.take 2 (List.drop 1 (List.drop 1 l_1)))
 (2:Nat)).toNat
 (List.drop 2 (List.drop 1 (List.drop 1 l_1))))]])=
 cO 2∨
 (List.drop
 (a9 (List.take 2 (List.drop 1 (List.drop 1 l_1)))
 (2:Nat)).toNat
 (List.drop 2 (List.drop 1 (List.drop 1 l_1))),
 l_2++
 [[CD.int (a9 (List.take 1 l_1) 1),
 CD.int (a9 (List.take 1 (List.drop 1 l_1)) 1),
 CD.int 0,
 CD.sl
 (List.take
 (a9 (List.take 2 (List.drop 1 (List.drop 1 l_1)))
 (2:Nat)).toNat
 (List.drop 2 (List.drop 1 (List.drop 1 l_1))))]])=
 cO 3))∧
 (List.drop
 (a9 (List.take 2 (List.drop 1 (List.drop 1 l_1))) 2).toNat
 (List.drop 2 (List.drop 1 (List.drop 1 l_1)))).length <
 l_1.length
 else
 bif decide (a9 (List.take 1 l_1) 1=1) then
 bif decide (a9 (List.take 1 l_1) 1=1) then
 ((0:Int)≤2∧
 (2:Int)≤2∧
 2≤(↑(List.drop 1 l_1).length:Int)∧
 (List.drop 1 l_1).length≤1000000∧ax (List.drop 1 l_1))∧
 ((l_2.length+1)*48≤140737488355328∧l_2.length+1≤9223372036854775807)∧
 (n=1∧
 l=
 [[CD.int 1],[CD.int 1],[CD.int 1],[CD.int 0],
 [CD.int 0],[CD.int 0],[CD.int 0],[CD.int 0],
 [CD.int 2],[CD.int 3],[CD.int 1],[CD.int 0],
 [CD.int 0],[CD.int 0],[CD.int 0],[CD.int 0]] ∧
 n_1=0∧
 ((List.drop 2 (List.drop 1 l_1),
 l_2++
 [[CD.int (a9 (List.take 1 l_1) 1),CD.int 0,
 CD.int (a9 (List.take 2 (List.drop 1 l_1)) 2),
 CD.sl []]])=
 cO 0∨
 (List.drop 2 (List.drop 1 l_1),
 l_2++
 [[CD.int (a9 (List.take 1 l_1) 1),CD.int 0,
 CD.int (a9 (List.take 2 (List.drop 1 l_1)) 2),
 CD.sl []]])=
 cO 1∨
 (List.drop 2 (List.drop 1 l_1),
 l_2++
 [[CD.int (a9 (List.take 1 l_1) 1),
 CD.int 0,
 CD.int (a9 (List.take 2 (List.drop 1 l_1)) 2),
 CD.sl []]])=
 cO 2∨
 (List.drop 2 (List.drop 1 l_1),
 l_2++
 [[CD.int (a9 (List.take 1 l_1) 1),
 CD.int 0,
 CD.int (a9 (List.take 2 (List.drop 1 l_1)) 2),
 CD.sl []]])=
 cO 3))∧
 (List.drop 2 (List.drop 1 l_1)).length < l_1.length
 else
 bif decide (a9 (List.take 1 l_1) 1=3) then
 bif decide (a9 (List.take 1 l_1) 1=3) then
 ((l_2.length+1)*48≤140737488355328∧l_2.length+1≤9223372036854775807)∧
 (n=1∧
 l=
 [[CD.int 1],[CD.int 1],[CD.int 1],[CD.int 0],
 [CD.int 0],[CD.int 0],[CD.int 0],[CD.int 0],
 [CD.int 2],[CD.int 3],[CD.int 1],[CD.int 0],
 [CD.int 0],[CD.int 0],[CD.int 0],[CD.int 0]] ∧
 n_1=0∧
 ((List.drop 1 l_1,
 l_2++
 [[CD.int (a9 (List.take 1 l_1) 1),CD.int 0,
 CD.int 0,CD.sl []]])=
 cO 0∨
 (List.drop 1 l_1,
 l_2++
 [[CD.int (a9 (List.take 1 l_1) 1),
 CD.int 0,CD.int 0,CD.sl []]])=
 cO 1∨
 (List.drop 1 l_1,
 l_2++
 [[CD.int (a9 (List.take 1 l_1) 1),
 CD.int 0,CD.int 0,CD.sl []]])=
 cO 2∨
 (List.drop 1 l_1,
 l_2++
 [[CD.int (a9 (List.take 1 l_1) 1),
 CD.int 0,CD.int 0,CD.sl []]])=
 cO 3))∧
 (List.drop 1 l_1).length < l_1.length
 else
 (0:Int)=1∧
 [] =
 [[CD.int 1],[CD.int 1],[CD.int 1],[CD.int 0],
 [CD.int 0],[CD.int 0],[CD.int 0],[CD.int 0],
 [CD.int 2],[CD.int 3],[CD.int 1],[CD.int 0],
 [CD.int 0],[CD.int 0],[CD.int 0],[CD.int 0]] ∧
 (5:Int)=0∧
 [] =
 [[CD.int 0,CD.int 1,CD.int 0,CD.sl [[CD.int 7]]],
 [CD.int 2,CD.int 0,CD.int 1,CD.sl []],
 [CD.int 4,CD.int 0,CD.int 0,CD.sl []]]
 else
 bif decide (a9 (List.take 1 l_1) 1=4) then
 ((l_2.length+1)*48≤140737488355328∧l_2.length+1≤9223372036854775807)∧
 (n=1∧
 l=
 [[CD.int 1],[CD.int 1],[CD.int 1],[CD.int 0],
 [CD.int 0],[CD.int 0],[CD.int 0],[CD.int 0],
 [CD.int 2],[CD.int 3],[CD.int 1],[CD.int 0],
 [CD.int 0],[CD.int 0],[CD.int 0],[CD.int 0]] ∧
 n_1=0∧
 ((List.drop 1 l_1,
 l_2++
 [[CD.int (a9 (List.take 1 l_1) 1),CD.int 0,
 CD.int 0,CD.sl []]])=
 cO 0∨
 (List.drop 1 l_1,
 l_2++
 [[CD.int (a9 (List.take 1 l_1) 1),
 CD.int 0,CD.int 0,CD.sl []]])=
 cO 1∨
 (List.drop 1 l_1,
 l_2++
 [[CD.int (a9 (List.take 1 l_1) 1),
 CD.int 0,CD.int 0,CD.sl []]])=
 cO 2∨
 (List.drop 1 l_1,
 l_2++
 [[CD.int (a9 (List.take 1 l_1) 1),
 CD.int 0,CD.int 0,CD.sl []]])=
 cO 3))∧
 (List.drop 1 l_1).length < l_1.length
 else
 (0:Int)=1∧
 [] =
 [[CD.int 1],[CD.int 1],[CD.int 1],[CD.int 0],
 [CD.int 0],[CD.int 0],[CD.int 0],[CD.int 0],
 [CD.int 2],[CD.int 3],[CD.int 1],[CD.int 0],
 [CD.int 0],[CD.int 0],[CD.int 0],[CD.int 0]] ∧
 (5:Int)=0∧
 [] =
 [[CD.int 0,CD.int 1,CD.int 0,CD.sl [[CD.int 7]]],
 [CD.int 2,CD.int 0,CD.int 1,CD.sl []],
 [CD.int 4,CD.int 0,CD.int 0,CD.sl []]]
 else
 bif decide (a9 (List.take 1 l_1) 1=2) then
 ((0:Int)≤2∧
 (2:Int)≤2∧
 2≤(↑(List.drop 1 l_1).length:Int)∧
 (List.drop 1 l_1).length≤1000000∧ax (List.drop 1 l_1))∧
 ((l_2.length+1)*48≤140737488355328∧l_2.length+1≤9223372036854775807)∧
 (n=1∧
 l=
 [[CD.int 1],[CD.int 1],[CD.int 1],[CD.int 0],
 [CD.int 0],[CD.int 0],[CD.int 0],[CD.int 0],
 [CD.int 2],[CD.int 3],[CD.int 1],[CD.int 0],
 [CD.int 0],[CD.int 0],[CD.int 0],[CD.int 0]] ∧
 n_1=0∧
 ((List.drop 2 (List.drop 1 l_1),
 l_2++
 [[CD.int (a9 (List.take 1 l_1) 1),CD.int 0,
 CD.int (a9 (List.take 2 (List.drop 1 l_1)) 2),
 CD.sl []]])=
 cO 0∨
 (List.drop 2 (List.drop 1 l_1),
 l_2++
 [[CD.int (a9 (List.take 1 l_1) 1),CD.int 0,
 CD.int (a9 (List.take 2 (List.drop 1 l_1)) 2),
 CD.sl []]])=
 cO 1∨
 (List.drop 2 (List.drop 1 l_1),
 l_2++
 [[CD.int (a9 (List.take 1 l_1) 1),
 CD.int 0,
 CD.int (a9 (List.take 2 (List.drop 1 l_1)) 2),
 CD.sl []]])=
 cO 2∨
 (List.drop 2 (List.drop 1 l_1),
 l_2++
 [[CD.int (a9 (List.take 1 l_1) 1),
 CD.int 0,
 CD.int (a9 (List.take 2 (List.drop 1 l_1)) 2),
 CD.sl []]])=
 cO 3))∧
 (List.drop 2 (List.drop 1 l_1)).length < l_1.length
 else
 bif decide (a9 (List.take 1 l_1) 1=3) then
 bif decide (a9 (List.take 1 l_1) 1=3) then
 ((l_2.length+1)*48≤140737488355328∧l_2.length+1≤9223372036854775807)∧
 (n=1∧
 l=
 [[CD.int 1],[CD.int 1],[CD.int 1],[CD.int 0],
 [CD.int 0],[CD.int 0],[CD.int 0],[CD.int 0],
 [CD.int 2],[CD.int 3],[CD.int 1],[CD.int 0],
 [CD.int 0],[CD.int 0],[CD.int 0],[CD.int 0]] ∧
 n_1=0∧
 ((List.drop 1 l_1,
 l_2++
 [[CD.int (a9 (List.take 1 l_1) 1),CD.int 0,
 CD.int 0,CD.sl []]])=
 cO 0∨
 (List.drop 1 l_1,
 l_2++
 [[CD.int (a9 (List.take 1 l_1) 1),
 CD.int 0,CD.int 0,CD.sl []]])=
 cO 1∨
 (List.drop 1 l_1,
 l_2++
 [[CD.int (a9 (List.take 1 l_1) 1),
 CD.int 0,CD.int 0,CD.sl []]])=
 cO 2∨
 (List.drop 1 l_1,
 l_2++
 [[CD.int (a9 (List.take 1 l_1) 1),
 CD.int 0,CD.int 0,CD.sl []]])=
 cO 3))∧
 (List.drop 1 l_1).length < l_1.length
 else
 (0:Int)=1∧
 [] =
 [[CD.int 1],[CD.int 1],[CD.int 1],[CD.int 0],
 [CD.int 0],[CD.int 0],[CD.int 0],[CD.int 0],
 [CD.int 2],[CD.int 3],[CD.int 1],[CD.int 0],
 [CD.int 0],[CD.int 0],[CD.int 0],[CD.int 0]] ∧
 (5:Int)=0∧
 [] =
 [[CD.int 0,CD.int 1,CD.int 0,CD.sl [[CD.int 7]]],
 [CD.int 2,CD.int 0,CD.int 1,CD.sl []],
 [CD.int 4,CD.int 0,CD.int 0,CD.sl []]]
 else
 bif decide (a9 (List.take 1 l_1) 1=4) then
 ((l_2.length+1)*48≤140737488355328∧l_2.length+1≤9223372036854775807)∧
 (n=1∧
 l=
 [[CD.int 1],[CD.int 1],[CD.int 1],[CD.int 0],
 [CD.int 0],[CD.int 0],[CD.int 0],[CD.int 0],
 [CD.int 2],[CD.int 3],[CD.int 1],[CD.int 0],
 [CD.int 0],[CD.int 0],[CD.int 0],[CD.int 0]] ∧
 n_1=0∧
 ((List.drop 1 l_1,
 l_2++
 [[CD.int (a9 (List.take 1 l_1) 1),CD.int 0,
 CD.int 0,CD.sl []]])=
 cO 0∨
 (List.drop 1 l_1,
 l_2++
 [[CD.int (a9 (List.take 1 l_1) 1),
 CD.int 0,CD.int 0,CD.sl []]])=
 cO 1∨
 (List.drop 1 l_1,
 l_2++
 [[CD.int (a9 (List.take 1 l_1) 1),
 CD.int 0,CD.int 0,CD.sl []]])=
 cO 2∨
 (List.drop 1 l_1,
 l_2++
 [[CD.int (a9 (List.take 1 l_1) 1),
 CD.int 0,CD.int 0,CD.sl []]])=
 cO 3))∧
 (List.drop 1 l_1).length < l_1.length
 else
 (0:Int)=1∧
 [] =
 [[CD.int 1],[CD.int 1],[CD.int 1],[CD.int 0],
 [CD.int 0],[CD.int 0],[CD.int 0],[CD.int 0],
 [CD.int 2],[CD.int 3],[CD.int 1],[CD.int 0],
 [CD.int 0],[CD.int 0],[CD.int 0],[CD.int 0]] ∧
 (5:Int)=0∧
 [] =
 [[CD.int 0,CD.int 1,CD.int 0,CD.sl [[CD.int 7]]],
 [CD.int 2,CD.int 0,CD.int 1,CD.sl []],
 [CD.int 4,CD.int 0,CD.int 0,CD.sl []]])
 else
 n=1∧
 l=
 [[CD.int 1],[CD.int 1],[CD.int 1],[CD.int 0],[CD.int 0],
 [CD.int 0],[CD.int 0],[CD.int 0],[CD.int 2],[CD.int 3],
 [CD.int 1],[CD.int 0],[CD.int 0],[CD.int 0],[CD.int 0],
 [CD.int 0]] ∧
 (0:Int)=0∧
 l_2=
 [[CD.int 0,CD.int 1,CD.int 0,CD.sl [[CD.int 7]]],
 [CD.int 2,CD.int 0,CD.int 1,CD.sl []],
 [CD.int 4,CD.int 0,CD.int 0,CD.sl []]]
theorem LY:vh.VCD (base.with Ee) Tryz.f10.results.toList Tryz.f10.ntmps (Tryz.f10.ntmps-vh.ps.length) x10 QB OP 6 32 2 z10 Mk=P10:=by kernel_rfl
noncomputable def En:ai:=al Ee 10 (ag vh)
end Go.Proofs.YteiecapbaeajdaaGreatDoor
namespace Go.Proofs.YteiecapbaeajdaaGreatDoor
open Go Go.Avc Go.Proofs
set_option linter.unusedVariables false
set_option linter.unusedSimpArgs false
set_option maxRecDepth 100000
theorem nq {l:List (List CD)} (h:(l.all fun r=>decide (0≤(r.getD 0 .d0).toInt)&&decide ((r.getD 0 .d0).toInt<256))=true):ax l:=fun i=>by
  rcases Nat.lt_or_ge i l.length with hi | hi
  · have:=List.all_eq_true.1 h l[i] (List.getElem_mem hi)
    simp only [Bool.and_eq_true,decide_eq_true_eq] at this
    have e:l.getD i [] =l[i] :=by rw [List.getD_eq_getElem?_getD,List.getElem?_eq_getElem hi];rfl
    unfold rv
    rw [e]
    exact this
  · exact nj hi
theorem jt {b:Bool} {p q:Prop} (h:b=true) (hp:p):bif b then p else q:=by rw [h];exact hp
theorem cz {b:Bool} {p q:Prop} (h:b=false) (hq:q):bif b then p else q:=by rw [h];exact hq
theorem ab2:P10:=by
  rintro l _ rfl
  refine ⟨?_,?_,?_,?_,?_⟩
  rotate_left 4
  · rintro k p e rest l _ _ ⟨rfl,rfl,rfl,h⟩
    rcases h with h | h | h | h
    all_goals
      cases h
      repeat' first
        | exact trivial
        | exact nq (by decide+kernel)
        | refine jt (by decide+kernel) ?_
        | refine cz (by decide+kernel) ?_
        | exact .inl rfl
        | exact .inr (.inl rfl)
        | exact .inr (.inr (.inl rfl))
        | exact .inr (.inr (.inr rfl))
        | apply And.intro
        | rfl
        | decide+kernel
        | intro _
  all_goals
    repeat' first
      | exact trivial
      | exact nq (by decide+kernel)
      | exact .inl rfl
      | apply And.intro
      | rfl
      | decide+kernel
theorem acj:af (base.with Ee) 10 (ag vh):=LE (fn:=Tryz.f10) (x:=x10) (z:=z10) (i1:=1) (o1:=QB) (o2:=OP) (t:=6) (fc:=32) (nc:=2) (k:=Tryz.f10.ntmps-vh.ps.length) (ct:=vh) c33 Tryz.func10 (by kernel_rfl) (by kernel_rfl) (by kernel_rfl) (by kernel_rfl) QR Mk (by kernel_rfl) (fun vs w _=>Tryz.call10 vs w) (by rw [LY];exact ab2)
theorem c10:(base.with En).Ok:=ae c33 acj
end Go.Proofs.YteiecapbaeajdaaGreatDoor
namespace Go.Proofs.YteiecapbaeajdaaGreatDoor
open Go Go.Avc
set_option linter.unusedVariables false
def RF:Ct:= {ps:= [],bs:= [],pre:=fun _=>True,res:=fun _=> .ret .bool [] [.b true]}
end Go.Proofs.YteiecapbaeajdaaGreatDoor
namespace Go.Proofs.YteiecapbaeajdaaGreatDoor
open Go Go.Avc Go.Proofs
set_option linter.unusedVariables false
set_option maxRecDepth 100000
def P9:Prop:= True→
 [[CD.int 1],[CD.int 16],[CD.int 0],[CD.int 1],[CD.int 1],[CD.int 1],
 [CD.int 0],[CD.int 0],[CD.int 0],[CD.int 0],[CD.int 0],[CD.int 2],
 [CD.int 3],[CD.int 1],[CD.int 0],[CD.int 0],[CD.int 0],[CD.int 0],
 [CD.int 0],[CD.int 0],[CD.int 1],[CD.int 1],[CD.int 0],[CD.int 7],
 [CD.int 2],[CD.int 1],[CD.int 0],[CD.int 4]] =
 [[CD.int 1],[CD.int 16],[CD.int 0],[CD.int 1],[CD.int 1],[CD.int 1],
 [CD.int 0],[CD.int 0],[CD.int 0],[CD.int 0],[CD.int 0],[CD.int 2],
 [CD.int 3],[CD.int 1],[CD.int 0],[CD.int 0],[CD.int 0],[CD.int 0],
 [CD.int 0],[CD.int 0],[CD.int 1],[CD.int 1],[CD.int 0],[CD.int 7],
 [CD.int 2],[CD.int 1],[CD.int 0],[CD.int 4]] ∧
 ((bw false (decide ((0:Int)≠0))=true→(bi 7).length≤9223372036854775807)→
 oA 1
 [[CD.int 1],[CD.int 1],[CD.int 1],[CD.int 0],[CD.int 0],[CD.int 0],
 [CD.int 0],[CD.int 0],[CD.int 2],[CD.int 3],[CD.int 1],[CD.int 0],
 [CD.int 0],[CD.int 0],[CD.int 0],[CD.int 0]]
 [[CD.int 0,CD.int 1,CD.int 0,CD.sl [[CD.int 7]]],
 [CD.int 2,CD.int 0,CD.int 1,CD.sl []],
 [CD.int 4,CD.int 0,CD.int 0,CD.sl []]] ∧
 ((0:Int)≤0∧0 < (↑(3:Nat):Int))∧
 (0:Nat) < 3∧
 oA 1
 [[CD.int 1],[CD.int 1],[CD.int 1],[CD.int 0],[CD.int 0],[CD.int 0],
 [CD.int 0],[CD.int 0],[CD.int 2],[CD.int 3],[CD.int 1],[CD.int 0],
 [CD.int 0],[CD.int 0],[CD.int 0],[CD.int 0]]
 [[CD.int 0,CD.int 1,CD.int 0,CD.sl [[CD.int 8]]],
 [CD.int 2,CD.int 0,CD.int 1,CD.sl []],
 [CD.int 4,CD.int 0,CD.int 0,CD.sl []]] ∧
 ((bw false (decide ((0:Int)≠0) || decide ((0:Int)≠0))=true→
 (bD (bi 7) aO).length≤
 (9223372036854775807:Nat))→
 (bw false
 (decide ((0:Int)≠0) || decide ((0:Int)≠0) ||
 decide
 ((↑(bD (bi 7) aO).length:
 Int)≠
 (3:Int)))=
 true→
 (bD
 (bi 8)
 aO).length≤
 (9223372036854775807:Nat))→
 ((!(decide ((0:Int)≠0) || decide ((0:Int)≠0) ||
 decide
 ((↑(bD (bi 7) aO).length:
 Int)≠
 (3:Int)) ||
 decide
 ((↑(bD
 (bi 8)
 aO).length:
 Int)≠
 (3:Int))))=
 true→
 (0:Int)≤2∧
 (2:Int) <
 (↑(bD (bi 7) aO).length:Int))∧
 ((!(decide ((0:Int)≠0) || decide ((0:Int)≠0) ||
 decide
 ((↑(bD (bi 7)
 aO).length:
 Int)≠
 (3:Int)) ||
 decide
 ((↑(bD
 (bi 8)
 aO).length:
 Int)≠
 (3:Int))))=
 true→
 (2:Nat) <
 (bD (bi 7) aO).length)∧
 ((!(decide ((0:Int)≠0) || decide ((0:Int)≠0) ||
 decide
 ((↑(bD (bi 7)
 aO).length:
 Int)≠
 (3:Int)) ||
 decide
 ((↑(bD
 (bi 8)
 aO).length:
 Int)≠
 (3:Int)) ||
 decide
 ((((bD
 [[CD.int 0,CD.int 1,CD.int 0,CD.sl [[CD.int 7]]],
 [CD.int 2,CD.int 0,CD.int 1,CD.sl []],
 [CD.int 4,CD.int 0,CD.int 0,CD.sl []]]
 [[CD.int 1],[CD.int 1],[CD.int 1],[CD.int 0],
 [CD.int 0],[CD.int 0],[CD.int 0],[CD.int 0],
 [CD.int 2],[CD.int 3],[CD.int 1],[CD.int 0],
 [CD.int 0],[CD.int 0],[CD.int 0],[CD.int 0]]).getD
 2 []).getD
 0 (CD.int 0)).toInt≠
 (0:Int))))=
 true→
 (0:Int)≤1∧
 (1:Int) <
 (↑(bD (bi 7) aO).length:
 Int))∧
 ((!(decide ((0:Int)≠0) || decide ((0:Int)≠0) ||
 decide
 ((↑(bD (bi 7)
 aO).length:
 Int)≠
 (3:Int)) ||
 decide
 ((↑(bD
 (bi 8)
 aO).length:
 Int)≠
 (3:Int)) ||
 decide
 ((((bD
 [[CD.int 0,CD.int 1,CD.int 0,CD.sl [[CD.int 7]]],
 [CD.int 2,CD.int 0,CD.int 1,CD.sl []],
 [CD.int 4,CD.int 0,CD.int 0,CD.sl []]]
 [[CD.int 1],[CD.int 1],[CD.int 1],[CD.int 0],
 [CD.int 0],[CD.int 0],[CD.int 0],[CD.int 0],
 [CD.int 2],[CD.int 3],[CD.int 1],[CD.int 0],
 [CD.int 0],[CD.int 0],[CD.int 0],[CD.int 0]]).getD
 2 []).getD
 0 (CD.int 0)).toInt≠
 (0:Int))))=
 true→
 (1:Nat) <
 (bD (bi 7) aO).length)∧
 ((bw false
 (decide ((0:Int)≠0) || decide ((0:Int)≠0) ||
 decide
 ((↑(bD (bi 7)
 aO).length:
 Int)≠
 (3:Int)) ||
 decide
 ((↑(bD
 (bi 8)
 aO).length:
 Int)≠
 (3:Int)) ||
 decide
 ((((bD (bi 7)
 aO).getD
 (Int.toNat 2) []).getD
 0
 CD.d0).toInt≠
 (0:Int)))=
 true→
 (((bD (bi 7) aO).getD
 (Int.toNat 1) []).getD
 1
 CD.d0).toSl.length≤
 (9223372036854775807:Nat))→
 ((!(decide ((0:Int)≠0) || decide ((0:Int)≠0) ||
 decide
 ((↑(bD (bi 7)
 aO).length:
 Int)≠
 (3:Int)) ||
 decide
 ((↑(bD
 (bi 8)
 aO).length:
 Int)≠
 (3:Int)) ||
 decide
 ((((bD
 [[CD.int 0,CD.int 1,CD.int 0,CD.sl [[CD.int 7]]],
 [CD.int 2,CD.int 0,CD.int 1,CD.sl []],
 [CD.int 4,CD.int 0,CD.int 0,CD.sl []]]
 [[CD.int 1],[CD.int 1],[CD.int 1],[CD.int 0],
 [CD.int 0],[CD.int 0],[CD.int 0],[CD.int 0],
 [CD.int 2],[CD.int 3],[CD.int 1],[CD.int 0],
 [CD.int 0],[CD.int 0],[CD.int 0],[CD.int 0]]).getD
 2 []).getD
 0 (CD.int 0)).toInt≠
 (0:Int)) ||
 decide
 ((↑(((bD (bi 7)
 aO).getD
 (Int.toNat 1) []).getD
 1
 CD.d0).toSl.length:
 Int)≠
 (32:Int))))=
 true→
 (0:Int)≤1∧
 (1:Int) <
 (↑(bD
 (bi 8)
 aO).length:
 Int))∧
 ((!(decide ((0:Int)≠0) || decide ((0:Int)≠0) ||
 decide
 ((↑(bD (bi 7)
 aO).length:
 Int)≠
 (3:Int)) ||
 decide
 ((↑(bD
 (bi 8)
 aO).length:
 Int)≠
 (3:Int)) ||
 decide
 ((((bD
 [[CD.int 0,CD.int 1,CD.int 0,CD.sl [[CD.int 7]]],
 [CD.int 2,CD.int 0,CD.int 1,CD.sl []],
 [CD.int 4,CD.int 0,CD.int 0,CD.sl []]]
 [[CD.int 1],[CD.int 1],[CD.int 1],[CD.int 0],
 [CD.int 0],[CD.int 0],[CD.int 0],[CD.int 0],
 [CD.int 2],[CD.int 3],[CD.int 1],[CD.int 0],
 [CD.int 0],[CD.int 0],[CD.int 0],[CD.int 0]]).getD
 2 []).getD
 0 (CD.int 0)).toInt≠
 (0:Int)) ||
 decide
 ((↑(((bD (bi 7)
 aO).getD
 (Int.toNat 1) []).getD
 1
 CD.d0).toSl.length:
 Int)≠
 (32:Int))))=
 true→
 (1:Nat) <
 (bD
 (bi 8)
 aO).length)∧
 ((bw false
 (decide ((0:Int)≠0) || decide ((0:Int)≠0) ||
 decide
 ((↑(bD (bi 7)
 aO).length:
 Int)≠
 (3:Int)) ||
 decide
 ((↑(bD
 (bi 8)
 aO).length:
 Int)≠
 (3:Int)) ||
 decide
 ((((bD (bi 7)
 aO).getD
 (Int.toNat 2) []).getD
 0
 CD.d0).toInt≠
 (0:Int)) ||
 decide
 ((↑(((bD (bi 7)
 aO).getD
 (Int.toNat 1) []).getD
 1
 CD.d0).toSl.length:
 Int)≠
 (32:Int)))=
 true→
 (((bD
 (bi 8)
 aO).getD
 (Int.toNat 1) []).getD
 1
 CD.d0).toSl.length≤
 (9223372036854775807:Nat))→
 bif
 decide ((0:Int)≠0) || decide ((0:Int)≠0) ||
 decide
 ((↑(bD (bi 7)
 aO).length:
 Int)≠
 (3:Int)) ||
 decide
 ((↑(bD
 (bi 8)
 aO).length:
 Int)≠
 (3:Int)) ||
 decide
 ((((bD
 [[CD.int 0,CD.int 1,CD.int 0,CD.sl [[CD.int 7]]],
 [CD.int 2,CD.int 0,CD.int 1,CD.sl []],
 [CD.int 4,CD.int 0,CD.int 0,CD.sl []]]
 [[CD.int 1],[CD.int 1],[CD.int 1],[CD.int 0],
 [CD.int 0],[CD.int 0],[CD.int 0],[CD.int 0],
 [CD.int 2],[CD.int 3],[CD.int 1],[CD.int 0],
 [CD.int 0],[CD.int 0],[CD.int 0],[CD.int 0]]).getD
 2 []).getD
 0 (CD.int 0)).toInt≠
 (0:Int)) ||
 decide
 ((↑(((bD (bi 7)
 aO).getD
 (Int.toNat 1) []).getD
 1
 CD.d0).toSl.length:
 Int)≠
 (32:Int)) ||
 decide
 ((↑(((bD
 (bi 8)
 aO).getD
 (Int.toNat 1) []).getD
 1
 CD.d0).toSl.length:
 Int)≠
 (32:Int)) then
 false=true
 else
 ((0:Int)≤1∧
 (1:Int) <
 (↑(bD (bi 7)
 aO).length:
 Int))∧
 (1:Nat) <
 (bD (bi 7)
 aO).length∧
 ((0:Int)≤1∧
 (1:Int) <
 (↑(bD
 (bi 8)
 aO).length:
 Int))∧
 (1:Nat) <
 (bD
 (bi 8)
 aO).length∧
 decide
 (aa
 (((bD
 [[CD.int 0,CD.int 1,CD.int 0,
 CD.sl [[CD.int 7]]],
 [CD.int 2,CD.int 0,CD.int 1,CD.sl []],
 [CD.int 4,CD.int 0,CD.int 0,CD.sl []]]
 [[CD.int 1],[CD.int 1],[CD.int 1],[CD.int 0],
 [CD.int 0],[CD.int 0],[CD.int 0],[CD.int 0],
 [CD.int 2],[CD.int 3],[CD.int 1],[CD.int 0],
 [CD.int 0],[CD.int 0],[CD.int 0],[CD.int 0]]).getD
 1 []).getD
 1 (CD.int 0)).toSl≠
 aa
 (((bD
 [[CD.int 0,CD.int 1,CD.int 0,
 CD.sl [[CD.int 8]]],
 [CD.int 2,CD.int 0,CD.int 1,CD.sl []],
 [CD.int 4,CD.int 0,CD.int 0,CD.sl []]]
 [[CD.int 1],[CD.int 1],[CD.int 1],[CD.int 0],
 [CD.int 0],[CD.int 0],[CD.int 0],[CD.int 0],
 [CD.int 2],[CD.int 3],[CD.int 1],[CD.int 0],
 [CD.int 0],[CD.int 0],[CD.int 0],[CD.int 0]]).getD
 1 []).getD
 1 (CD.int 0)).toSl)=
 true))))
theorem e9:av En Tryz.f9 RF au=P9:=by kernel_rfl
noncomputable def M2:ai:=al En 9 (ag RF)
end Go.Proofs.YteiecapbaeajdaaGreatDoor
namespace Go.Proofs.YteiecapbaeajdaaGreatDoor
open Go Go.Avc Go.Proofs
set_option linter.unusedVariables false
set_option linter.unusedSimpArgs false
def vl:List Int→Int
  | [] =>0
  | a::l=>a+18446744073709551616*vl l
theorem TT:vl pW=21888242871839275222246405745257275088548364400416034343698204186575808495617:=by decide
theorem nk (a b c d:Int):vl [a,b,c,d] =a+18446744073709551616*b+18446744073709551616*18446744073709551616*c+18446744073709551616*18446744073709551616*18446744073709551616*d:=by simp only [vl];grind
theorem ST (a b c d e:Int):vl [a,b,c,d,e] =a+18446744073709551616*b+18446744073709551616*18446744073709551616*c+18446744073709551616*18446744073709551616*18446744073709551616*d+18446744073709551616*18446744073709551616*18446744073709551616*18446744073709551616*e:=by simp only [vl];grind
theorem lU {l:List Int} (h:l.length=4):∃ a b c d,l= [a,b,c,d] :=by
  match l,h with
  | [a,b,c,d],_=>exact ⟨a,b,c,d,rfl⟩
theorem Ox {l:List Int} (h:l.length=5):∃ a b c d e,l= [a,b,c,d,e] :=by
  match l,h with
  | [a,b,c,d,e],_=>exact ⟨a,b,c,d,e,rfl⟩
theorem i8 (a x y c:Int):cU a x y c+18446744073709551616*bS a x y c=a+x*y+c:=by unfold cU bS;omega
theorem nR (a x y c:Int):ak (cU a x y c):=by unfold ak cU;omega
theorem lV {a x y c:Int} (ha:ak a) (hx:ak x) (hy:ak y) (hc:ak c):ak (bS a x y c):=by
  have:=sD ha hx hy hc
  unfold ak bS
  omega
theorem Tt {x b0 b1 b2 b3 t0 t1 t2 t3 t4:Int} (hx:ak x) (h0:ak b0) (h1:ak b1) (h2:ak b2) (h3:ak b3) (k0:ak t0) (k1:ak t1) (k2:ak t2) (k3:ak t3):
    ∃ u0 u1 u2 u3 c,d7 x [b0,b1,b2,b3] [t0,t1,t2,t3,t4] 4=([u0,u1,u2,u3,t4],c)∧ak u0∧ak u1∧ak u2∧ak u3∧ak c∧
      vl [u0,u1,u2,u3] +18446744073709551616*18446744073709551616*18446744073709551616*18446744073709551616*c=vl [t0,t1,t2,t3] +x*vl [b0,b1,b2,b3] :=by
  have s1:d7 x [b0,b1,b2,b3] [t0,t1,t2,t3,t4] 1=([cU t0 x b0 0,t1,t2,t3,t4],bS t0 x b0 0):=rfl
  have e0:=i8 t0 x b0 0
  have w0:=nR t0 x b0 0
  have v0:=lV k0 hx h0 bg
  generalize cU t0 x b0 0=u0 at *
  generalize bS t0 x b0 0=c0 at *
  have s2:d7 x [b0,b1,b2,b3] [t0,t1,t2,t3,t4] 2=([u0,cU t1 x b1 c0,t2,t3,t4],bS t1 x b1 c0):=by rw [d7,s1];rfl
  have e1:=i8 t1 x b1 c0
  have w1:=nR t1 x b1 c0
  have v1:=lV k1 hx h1 v0
  generalize cU t1 x b1 c0=u1 at *
  generalize bS t1 x b1 c0=c1 at *
  have s3:d7 x [b0,b1,b2,b3] [t0,t1,t2,t3,t4] 3=([u0,u1,cU t2 x b2 c1,t3,t4],bS t2 x b2 c1):=by rw [d7,s2];rfl
  have e2:=i8 t2 x b2 c1
  have w2:=nR t2 x b2 c1
  have v2:=lV k2 hx h2 v1
  generalize cU t2 x b2 c1=u2 at *
  generalize bS t2 x b2 c1=c2 at *
  have s4:d7 x [b0,b1,b2,b3] [t0,t1,t2,t3,t4] 4=([u0,u1,u2,cU t3 x b3 c2,t4],bS t3 x b3 c2):=by rw [d7,s3];rfl
  have e3:=i8 t3 x b3 c2
  have w3:=nR t3 x b3 c2
  have v3:=lV k3 hx h3 v2
  generalize cU t3 x b3 c2=u3 at *
  generalize bS t3 x b3 c2=c3 at *
  refine ⟨u0,u1,u2,u3,c3,s4,w0,w1,w2,w3,v3,?_⟩
  rw [nk,nk,nk]
  clear s1 s2 s3 s4 w0 v0 w1 v1 w2 v2 w3 v3
  grind
theorem Qq {k u0 u1 u2 u3 u4 c0:Int} (hk:ak k) (h1:ak u1) (h2:ak u2) (h3:ak u3) (hc:ak c0):
    ∃ r0 r1 r2 c,fR k [u0,u1,u2,u3,u4] c0 3=([r0,r1,r2,u3,u4],c)∧ak r0∧ak r1∧ak r2∧ak c∧
      r0+18446744073709551616*r1+18446744073709551616*18446744073709551616*r2+18446744073709551616*18446744073709551616*18446744073709551616*c=u1+18446744073709551616*u2+18446744073709551616*18446744073709551616*u3+k*(2896914383306846353+18446744073709551616*13281191951274694749+18446744073709551616*18446744073709551616*3486998266802970665)+c0:=by
  have p1:ak 2896914383306846353:=⟨by decide,by decide⟩
  have p2:ak 13281191951274694749:=⟨by decide,by decide⟩
  have p3:ak 3486998266802970665:=⟨by decide,by decide⟩
  have s1:fR k [u0,u1,u2,u3,u4] c0 1=([cU u1 k 2896914383306846353 c0,u1,u2,u3,u4],bS u1 k 2896914383306846353 c0):=rfl
  have e0:=i8 u1 k 2896914383306846353 c0
  have w0:=nR u1 k 2896914383306846353 c0
  have v0:=lV h1 hk p1 hc
  generalize cU u1 k 2896914383306846353 c0=r0 at *
  generalize bS u1 k 2896914383306846353 c0=d0 at *
  have s2:fR k [u0,u1,u2,u3,u4] c0 2=([r0,cU u2 k 13281191951274694749 d0,u2,u3,u4],bS u2 k 13281191951274694749 d0):=by rw [fR,s1];rfl
  have e1:=i8 u2 k 13281191951274694749 d0
  have w1:=nR u2 k 13281191951274694749 d0
  have v1:=lV h2 hk p2 v0
  generalize cU u2 k 13281191951274694749 d0=r1 at *
  generalize bS u2 k 13281191951274694749 d0=d1 at *
  have s3:fR k [u0,u1,u2,u3,u4] c0 3=([r0,r1,cU u3 k 3486998266802970665 d1,u3,u4],bS u3 k 3486998266802970665 d1):=by rw [fR,s2];rfl
  have e2:=i8 u3 k 3486998266802970665 d1
  have w2:=nR u3 k 3486998266802970665 d1
  have v2:=lV h3 hk p3 v1
  generalize cU u3 k 3486998266802970665 d1=r2 at *
  generalize bS u3 k 3486998266802970665 d1=d2 at *
  refine ⟨r0,r1,r2,d2,s3,w0,w1,w2,v2,?_⟩
  clear s1 s2 s3 w0 v0 w1 v1 w2 v2 p1 p2 p3
  grind
theorem Zs {u0:Int} (h:ak u0):∃ m,u0+(u0*inv%18446744073709551616)*4891460686036598785=18446744073709551616*m:=by
  have h1:inv*4891460686036598785+1=18446744073709551616*3723675147829272286:=by decide
  have h2:=Int.mul_ediv_add_emod (u0*inv) 18446744073709551616
  refine ⟨u0*3723675147829272286-(u0*inv / 18446744073709551616)*4891460686036598785,?_⟩
  generalize u0*inv%18446744073709551616=r at *
  generalize u0*inv / 18446744073709551616=q at *
  grind
theorem ji:∀ {l:List Int},aq l→0≤vl l
  | [],_=>Int.le_refl 0
  | a::l,h=>by
    have h0:=(h 0).1
    have:=ji (l:=l) fun i=>h (i+1)
    have e: [a].getD 0 0=a:=rfl
    have h0:0≤a:=h0
    have:0≤18446744073709551616*vl l:=Int.mul_nonneg (by decide) this
    simp only [vl]
    omega
theorem Dd {l:List Int} (h:∀ x∈l,ak x):aq l:=fun i=>by
  rw [List.getD_eq_getElem?_getD]
  cases hi:l[i]? with
  | none=>exact bg
  | some x=>exact h x (List.mem_of_getElem? hi)
theorem Mj {a b c d e:Int} (ha:ak a) (hb:ak b) (hc:ak c) (hd:ak d) (he:ak e):aq [a,b,c,d,e] :=Dd fun x hx=>by
  simp only [List.mem_cons,List.not_mem_nil,or_false] at hx
  rcases hx with rfl | rfl | rfl | rfl | rfl <;>assumption
theorem mA {a b c d:Int} (ha:ak a) (hb:ak b) (hc:ak c) (hd:ak d):aq [a,b,c,d] :=Dd fun x hx=>by
  simp only [List.mem_cons,List.not_mem_nil,or_false] at hx
  rcases hx with rfl | rfl | rfl | rfl <;>assumption
theorem ua {x:Int} {b t:List Int} (hx:ak x) (hb:b.length=4) (wb:aq b) (hB:vl b<21888242871839275222246405745257275088548364400416034343698204186575808495617) (ht:t.length=5) (wt:aq t) (hT:vl t<vl b+21888242871839275222246405745257275088548364400416034343698204186575808495617):
    ∃ k,(sW x b t).length=5∧aq (sW x b t)∧18446744073709551616*vl (sW x b t)=vl t+x*vl b+k*21888242871839275222246405745257275088548364400416034343698204186575808495617∧vl (sW x b t)<vl b+21888242871839275222246405745257275088548364400416034343698204186575808495617:=by
  obtain ⟨b0,b1,b2,b3,rfl⟩:=lU hb
  obtain ⟨t0,t1,t2,t3,t4,rfl⟩:=Ox ht
  have hbn:=ji wb
  have htn:=ji wt
  have g0:ak t0:=wt 0
  have g1:ak t1:=wt 1
  have g2:ak t2:=wt 2
  have g3:ak t3:=wt 3
  have g4:ak t4:=wt 4
  obtain ⟨q0,q1,q2,q3,c,em,w0,w1,w2,w3,wc,ev⟩:=Tt (b0:=b0) (b1:=b1) (b2:=b2) (b3:=b3) (t4:=t4) hx (wb 0) (wb 1) (wb 2) (wb 3) g0 g1 g2 g3
  have eB:vl [b0,b1,b2,b3] =vl [b0,b1,b2,b3] :=rfl
  have eT:vl [t0,t1,t2,t3,t4] =vl [t0,t1,t2,t3] +18446744073709551616*18446744073709551616*18446744073709551616*18446744073709551616*t4:=by rw [ST,nk]
  have ev':vl [q0,q1,q2,q3] +18446744073709551616*18446744073709551616*18446744073709551616*18446744073709551616*c=vl [t0,t1,t2,t3] +x*vl [b0,b1,b2,b3] :=ev
  have hu:=ji (mA w0 w1 w2 w3)
  have hxB:0≤x*vl [b0,b1,b2,b3] :=Int.mul_nonneg hx.1 hbn
  have hxB2:x*vl [b0,b1,b2,b3] ≤(18446744073709551616-1)*21888242871839275222246405745257275088548364400416034343698204186575808495617:=Int.mul_le_mul (by have:=hx.2;omega) (by omega) hbn (by decide)
  have hu4:0≤t4+c∧t4+c<18446744073709551616:=by
    have:=g4.1
    have:=wc.1
    omega
  have eu:u1 x [b0,b1,b2,b3] [t0,t1,t2,t3,t4] = [q0,q1,q2,q3,t4+c] :=by
    unfold YteiecapbaeajdaaGreatDoor.u1
    rw [em]
    show [q0,q1,q2,q3,IntKind.u64.wrap (t4+c)] =_
    rw [ou,Int.emod_eq_of_lt hu4.1 hu4.2]
  have ek:kW [q0,q1,q2,q3,t4+c] =q0*inv%18446744073709551616:=ou _
  have wk:ak (q0*inv%18446744073709551616):=⟨Int.emod_nonneg _ (by decide),Int.emod_lt_of_pos _ (by decide)⟩
  obtain ⟨m,hm⟩:=Zs w0
  generalize q0*inv%18446744073709551616=k at *
  have p0:ak 4891460686036598785:=⟨by decide,by decide⟩
  have hc0:=lV w0 wk p0 bg
  have ec0:=i8 q0 k 4891460686036598785 0
  have ez:cU q0 k 4891460686036598785 0=0:=by
    unfold cU
    rw [Int.add_zero,hm]
    exact Int.mul_emod_right _ _
  rw [ez] at ec0
  generalize hcd:bS q0 k 4891460686036598785 0=c0 at *
  obtain ⟨r0,r1',r2,c',er,v0,v1,v2,vc,ew⟩:=Qq (u0:=q0) (u4:=t4+c) wk w1 w2 w3 hc0
  have er1:r1 [q0,q1,q2,q3,t4+c] =([r0,r1',r2,q3,t4+c],c'):=by
    unfold YteiecapbaeajdaaGreatDoor.r1
    rw [ek]
    show fR k [q0,q1,q2,q3,t4+c] (bS q0 k 4891460686036598785 0) 3=_
    rw [hcd,er]
  have es:sW x [b0,b1,b2,b3] [t0,t1,t2,t3,t4] = [r0,r1',r2,aX (t4+c) c' 0,bI (t4+c) c' 0] :=by
    unfold sW f5
    rw [eu,er1]
    rfl
  have wS:=nT (t4+c) c' 0
  have hC:ak (bI (t4+c) c' 0):=by
    have:=vc.1
    have:=vc.2
    unfold ak bI
    omega
  have esum:aX (t4+c) c' 0+18446744073709551616*bI (t4+c) c' 0=t4+c+c':=by unfold aX bI;omega
  have hval:18446744073709551616*vl (sW x [b0,b1,b2,b3] [t0,t1,t2,t3,t4])=vl [t0,t1,t2,t3,t4] +x*vl [b0,b1,b2,b3] +k*21888242871839275222246405745257275088548364400416034343698204186575808495617:=by
    rw [es,ST,eT]
    rw [nk q0] at ev'
    generalize aX (t4+c) c' 0=S at *
    generalize bI (t4+c) c' 0=C at *
    generalize vl [b0,b1,b2,b3] =B at *
    generalize vl [t0,t1,t2,t3] =T at *
    generalize x*B=xB at *
    clear em eu ek er er1 es hm
    grind
  refine ⟨k,by rw [es];rfl,by rw [es];exact Mj v0 v1 v2 wS hC,hval,?_⟩
  have hk:k*21888242871839275222246405745257275088548364400416034343698204186575808495617≤(18446744073709551616-1)*21888242871839275222246405745257275088548364400416034343698204186575808495617:=Int.mul_le_mul_of_nonneg_right (by have:=wk.2;omega) (by decide)
  have hxB3:x*vl [b0,b1,b2,b3] ≤(18446744073709551616-1)*vl [b0,b1,b2,b3] :=Int.mul_le_mul_of_nonneg_right (by have:=hx.2;omega) hbn
  generalize vl [b0,b1,b2,b3] =B at *
  generalize x*B=xB at *
  generalize k*21888242871839275222246405745257275088548364400416034343698204186575808495617=kP at *
  omega
theorem Od {a b:List Int} (ha:a.length=4) (wa:aq a) (hb:b.length=4) (wb:aq b) (hB:vl b<21888242871839275222246405745257275088548364400416034343698204186575808495617):
    ∃ q,(cT a b 4).length=5∧aq (cT a b 4)∧18446744073709551616*18446744073709551616*18446744073709551616*18446744073709551616*vl (cT a b 4)=vl a*vl b+q*21888242871839275222246405745257275088548364400416034343698204186575808495617∧vl (cT a b 4)<vl b+21888242871839275222246405745257275088548364400416034343698204186575808495617:=by
  obtain ⟨a0,a1,a2,a3,rfl⟩:=lU ha
  have hbn:=ji wb
  have z0:vl (cT [a0,a1,a2,a3] b 0)=0:=rfl
  obtain ⟨k0,l1,w1,e1,t1⟩:=ua (t:=cT [a0,a1,a2,a3] b 0) (wa 0) hb wb hB rfl (Mj bg bg bg bg bg) (by rw [z0];omega)
  obtain ⟨k1,l2,w2,e2,t2⟩:=ua (t:=cT [a0,a1,a2,a3] b 1) (wa 1) hb wb hB l1 w1 t1
  obtain ⟨k2,l3,w3,e3,t3⟩:=ua (t:=cT [a0,a1,a2,a3] b 2) (wa 2) hb wb hB l2 w2 t2
  obtain ⟨k3,l4,w4,e4,t4⟩:=ua (t:=cT [a0,a1,a2,a3] b 3) (wa 3) hb wb hB l3 w3 t3
  refine ⟨k0+18446744073709551616*k1+18446744073709551616*18446744073709551616*k2+18446744073709551616*18446744073709551616*18446744073709551616*k3,l4,w4,?_,t4⟩
  have d1:18446744073709551616*vl (cT [a0,a1,a2,a3] b 1)=vl (cT [a0,a1,a2,a3] b 0)+a0*vl b+k0*21888242871839275222246405745257275088548364400416034343698204186575808495617:=e1
  have d2:18446744073709551616*vl (cT [a0,a1,a2,a3] b 2)=vl (cT [a0,a1,a2,a3] b 1)+a1*vl b+k1*21888242871839275222246405745257275088548364400416034343698204186575808495617:=e2
  have d3:18446744073709551616*vl (cT [a0,a1,a2,a3] b 3)=vl (cT [a0,a1,a2,a3] b 2)+a2*vl b+k2*21888242871839275222246405745257275088548364400416034343698204186575808495617:=e3
  have d4:18446744073709551616*vl (cT [a0,a1,a2,a3] b 4)=vl (cT [a0,a1,a2,a3] b 3)+a3*vl b+k3*21888242871839275222246405745257275088548364400416034343698204186575808495617:=e4
  rw [z0] at d1
  rw [nk]
  generalize vl (cT [a0,a1,a2,a3] b 1)=T1 at *
  generalize vl (cT [a0,a1,a2,a3] b 2)=T2 at *
  generalize vl (cT [a0,a1,a2,a3] b 3)=T3 at *
  generalize vl (cT [a0,a1,a2,a3] b 4)=T4 at *
  generalize vl b=B at *
  clear e1 e2 e3 e4 t1 t2 t3 t4 l1 l2 l3 l4 w1 w2 w3 w4 hB hbn z0 wb hb wa ha
  grind
theorem tZ {x y c:Int} (hx:ak x) (hy:ak y) (hc:0≤c∧c≤1):ft x y c=x-y-c+18446744073709551616*bj x y c:=by
  unfold ak at hx hy
  unfold ft bj
  split <;>omega
theorem RI {a0 a1 a2 a3 b0 b1 b2 b3:Int} (ha:aq [a0,a1,a2,a3]) (hb:aq [b0,b1,b2,b3]):
    vl (bP [a0,a1,a2,a3] [b0,b1,b2,b3] 4).1=vl [a0,a1,a2,a3] - vl [b0,b1,b2,b3] +18446744073709551616*18446744073709551616*18446744073709551616*18446744073709551616*(bP [a0,a1,a2,a3] [b0,b1,b2,b3] 4).2:=by
  have s1:bP [a0,a1,a2,a3] [b0,b1,b2,b3] 1=([ft a0 b0 0,0,0,0],bj a0 b0 0):=rfl
  have e0:=tZ (ha 0) (hb 0) (c:=0) ⟨by decide,by decide⟩
  have c0:=uk a0 b0 0
  have s2:bP [a0,a1,a2,a3] [b0,b1,b2,b3] 2=([ft a0 b0 0,ft a1 b1 (bj a0 b0 0),0,0],bj a1 b1 (bj a0 b0 0)):=by rw [bP,s1];rfl
  have e1:=tZ (ha 1) (hb 1) c0
  have c1:=uk a1 b1 (bj a0 b0 0)
  have s3:bP [a0,a1,a2,a3] [b0,b1,b2,b3] 3=([ft a0 b0 0,ft a1 b1 (bj a0 b0 0),ft a2 b2 (bj a1 b1 (bj a0 b0 0)),0],bj a2 b2 (bj a1 b1 (bj a0 b0 0))):=by rw [bP,s2];rfl
  have e2:=tZ (ha 2) (hb 2) c1
  have c2:=uk a2 b2 (bj a1 b1 (bj a0 b0 0))
  have s4:bP [a0,a1,a2,a3] [b0,b1,b2,b3] 4=([ft a0 b0 0,ft a1 b1 (bj a0 b0 0),ft a2 b2 (bj a1 b1 (bj a0 b0 0)),ft a3 b3 (bj a2 b2 (bj a1 b1 (bj a0 b0 0)))],bj a3 b3 (bj a2 b2 (bj a1 b1 (bj a0 b0 0)))):=by rw [bP,s3];rfl
  have e3:=tZ (ha 3) (hb 3) c2
  have f0:ft a0 b0 0=a0-b0-0+18446744073709551616*bj a0 b0 0:=e0
  have f1:ft a1 b1 (bj a0 b0 0)=a1-b1-bj a0 b0 0+18446744073709551616*bj a1 b1 (bj a0 b0 0):=e1
  have f2:ft a2 b2 (bj a1 b1 (bj a0 b0 0))=a2-b2-bj a1 b1 (bj a0 b0 0)+18446744073709551616*bj a2 b2 (bj a1 b1 (bj a0 b0 0)):=e2
  have f3:ft a3 b3 (bj a2 b2 (bj a1 b1 (bj a0 b0 0)))=a3-b3-bj a2 b2 (bj a1 b1 (bj a0 b0 0))+18446744073709551616*bj a3 b3 (bj a2 b2 (bj a1 b1 (bj a0 b0 0))):=e3
  rw [s4]
  simp only [nk]
  rw [f0,f1,f2,f3]
  generalize bj a3 b3 (bj a2 b2 (bj a1 b1 (bj a0 b0 0)))=g3 at *
  generalize bj a2 b2 (bj a1 b1 (bj a0 b0 0))=g2 at *
  generalize bj a1 b1 (bj a0 b0 0)=g1 at *
  generalize bj a0 b0 0=g0 at *
  clear s1 s2 s3 s4 e0 e1 e2 e3 f0 f1 f2 f3 c0 c1 c2 ha hb
  grind
theorem H8 {l:List Int} (h:l.length=4) (hw:aq l):vl l<18446744073709551616*18446744073709551616*18446744073709551616*18446744073709551616:=by
  obtain ⟨a,b,c,d,rfl⟩:=lU h
  have h0:ak a:=hw 0
  have h1:ak b:=hw 1
  have h2:ak c:=hw 2
  have h3:ak d:=hw 3
  unfold ak at *
  rw [nk]
  omega
theorem GG {a:List Int} (h:a.length=4) (hw:aq a):((bP a pW 4).2=0↔21888242871839275222246405745257275088548364400416034343698204186575808495617≤vl a)∧(21888242871839275222246405745257275088548364400416034343698204186575808495617≤vl a→vl (bP a pW 4).1=vl a-21888242871839275222246405745257275088548364400416034343698204186575808495617):=by
  obtain ⟨a0,a1,a2,a3,rfl⟩:=lU h
  have e:=RI (b0:=4891460686036598785) (b1:=2896914383306846353) (b2:=13281191951274694749) (b3:=3486998266802970665) hw jj
  have e':vl (bP [a0,a1,a2,a3] pW 4).1=vl [a0,a1,a2,a3] - 21888242871839275222246405745257275088548364400416034343698204186575808495617+18446744073709551616*18446744073709551616*18446744073709551616*18446744073709551616*(bP [a0,a1,a2,a3] pW 4).2:=by
    rw [← TT];exact e
  obtain ⟨h1,h2,h3⟩:=t9 [a0,a1,a2,a3] pW 4
  have g1:=ji h1
  have g2:=H8 (vf _ _ _) h1
  have g3:=ji hw
  have g4:=H8 h hw
  generalize (bP [a0,a1,a2,a3] pW 4).2=c at *
  refine ⟨⟨fun hc=> ?_,fun hc=> ?_⟩,fun hc=> ?_⟩
  · omega
  · omega
  · omega
theorem Dn {a:List Int} (h:a.length=4) (hw:aq a) (h2:vl a<21888242871839275222246405745257275088548364400416034343698204186575808495617+21888242871839275222246405745257275088548364400416034343698204186575808495617):∃ q,vl (fM a)=vl a+q*21888242871839275222246405745257275088548364400416034343698204186575808495617∧0≤vl (fM a)∧vl (fM a)<21888242871839275222246405745257275088548364400416034343698204186575808495617:=by
  obtain ⟨h3,h4⟩:=GG h hw
  have:=ji hw
  unfold fM
  split
  · rename_i hc
    have:=h3.1 hc
    exact ⟨-1,by rw [h4 this];omega,by rw [h4 this];omega,by rw [h4 this];omega⟩
  · rename_i hc
    have:¬ 21888242871839275222246405745257275088548364400416034343698204186575808495617≤vl a:=fun k=>hc (h3.2 k)
    exact ⟨0,by omega,by omega,by omega⟩
theorem HN {a b:List Int} (ha:a.length=4) (wa:aq a) (hb:b.length=4) (wb:aq b) (hB:vl b<21888242871839275222246405745257275088548364400416034343698204186575808495617):
    ∃ q,18446744073709551616*18446744073709551616*18446744073709551616*18446744073709551616*vl (mW a b)=vl a*vl b+q*21888242871839275222246405745257275088548364400416034343698204186575808495617∧0≤vl (mW a b)∧vl (mW a b)<21888242871839275222246405745257275088548364400416034343698204186575808495617:=by
  obtain ⟨q,hl,hw,he,ht⟩:=Od ha wa hb wb hB
  unfold mW
  generalize cT a b 4=T at *
  obtain ⟨t0,t1,t2,t3,t4,rfl⟩:=Ox hl
  have g0:ak t0:=hw 0
  have g1:ak t1:=hw 1
  have g2:ak t2:=hw 2
  have g3:ak t3:=hw 3
  have g4:ak t4:=hw 4
  have hn:=ji (mA g0 g1 g2 g3)
  have e5:vl [t0,t1,t2,t3,t4] =vl [t0,t1,t2,t3] +18446744073709551616*18446744073709551616*18446744073709551616*18446744073709551616*t4:=by rw [ST,nk]
  have h4:=g4.1
  have htake: [t0,t1,t2,t3,t4].take 4= [t0,t1,t2,t3] :=rfl
  rw [htake]
  have hz:t4=0:=by omega
  obtain ⟨r,k1,k2,k3⟩:=Dn rfl (mA g0 g1 g2 g3) (by omega)
  refine ⟨q+18446744073709551616*18446744073709551616*18446744073709551616*18446744073709551616*r,?_,k2,k3⟩
  rw [e5,hz] at he
  rw [k1]
  generalize vl [t0,t1,t2,t3] =V at *
  clear e5 hn k1 k2 k3 ht hB
  grind
theorem qL {x y c:Int} :aX x y c+18446744073709551616*bI x y c=x+y+c:=by unfold aX bI;omega
theorem Q1 {a0 a1 a2 a3 b0 b1 b2 b3:Int} :
    vl (dq [a0,a1,a2,a3] [b0,b1,b2,b3] 4).1+18446744073709551616*18446744073709551616*18446744073709551616*18446744073709551616*(dq [a0,a1,a2,a3] [b0,b1,b2,b3] 4).2=vl [a0,a1,a2,a3] +vl [b0,b1,b2,b3] :=by
  have s1:dq [a0,a1,a2,a3] [b0,b1,b2,b3] 1=([aX a0 b0 0,0,0,0],bI a0 b0 0):=rfl
  have e0:=qL (x:=a0) (y:=b0) (c:=0)
  generalize aX a0 b0 0=r0 at *
  generalize bI a0 b0 0=c0 at *
  have s2:dq [a0,a1,a2,a3] [b0,b1,b2,b3] 2=([r0,aX a1 b1 c0,0,0],bI a1 b1 c0):=by rw [dq,s1];rfl
  have e1:=qL (x:=a1) (y:=b1) (c:=c0)
  generalize aX a1 b1 c0=r1 at *
  generalize bI a1 b1 c0=c1 at *
  have s3:dq [a0,a1,a2,a3] [b0,b1,b2,b3] 3=([r0,r1,aX a2 b2 c1,0],bI a2 b2 c1):=by rw [dq,s2];rfl
  have e2:=qL (x:=a2) (y:=b2) (c:=c1)
  generalize aX a2 b2 c1=r2 at *
  generalize bI a2 b2 c1=c2 at *
  have s4:dq [a0,a1,a2,a3] [b0,b1,b2,b3] 4=([r0,r1,r2,aX a3 b3 c2],bI a3 b3 c2):=by rw [dq,s3];rfl
  have e3:=qL (x:=a3) (y:=b3) (c:=c2)
  generalize aX a3 b3 c2=r3 at *
  generalize bI a3 b3 c2=c3 at *
  rw [s4]
  simp only [nk]
  clear s1 s2 s3 s4
  grind
theorem uE (a b:List Int):∀ i,(dq a b i).1.length=4
  | 0=>rfl
  | i+1=>by rw [dq,List.length_set,uE a b i]
theorem R5 {a b:List Int} (ha:a.length=4) (wa:aq a) (hb:b.length=4) (wb:aq b) (hA:vl a<21888242871839275222246405745257275088548364400416034343698204186575808495617) (hB:vl b<21888242871839275222246405745257275088548364400416034343698204186575808495617):
    ∃ q,vl (fM (dq a b 4).1)=vl a+vl b+q*21888242871839275222246405745257275088548364400416034343698204186575808495617∧0≤vl (fM (dq a b 4).1)∧vl (fM (dq a b 4).1)<21888242871839275222246405745257275088548364400416034343698204186575808495617:=by
  obtain ⟨a0,a1,a2,a3,rfl⟩:=lU ha
  obtain ⟨b0,b1,b2,b3,rfl⟩:=lU hb
  have e:=Q1 (a0:=a0) (a1:=a1) (a2:=a2) (a3:=a3) (b0:=b0) (b1:=b1) (b2:=b2) (b3:=b3)
  obtain ⟨h1,h2,h3⟩:=nL wa wb 4
  have hl:=uE [a0,a1,a2,a3] [b0,b1,b2,b3] 4
  have g1:=ji h1
  have hz:(dq [a0,a1,a2,a3] [b0,b1,b2,b3] 4).2=0:=by omega
  rw [hz] at e
  obtain ⟨q,k1,k2,k3⟩:=Dn hl h1 (by omega)
  exact ⟨q,by omega,k2,k3⟩
theorem uD:∀ i,(kt i).length=4
  | 0=>rfl
  | i+1=>by rw [kt];exact BQ (uE _ _ _)
theorem I5:∀ i:Nat,∃ q,vl (kt i)=2 ^ i+q*21888242871839275222246405745257275088548364400416034343698204186575808495617∧0≤vl (kt i)∧vl (kt i)<21888242871839275222246405745257275088548364400416034343698204186575808495617
  | 0=>⟨0,by decide,by decide,by decide⟩
  | i+1=>by
    obtain ⟨q,h1,h2,h3⟩:=I5 i
    obtain ⟨r,k1,k2,k3⟩:=R5 (uD i) (gy i) (uD i) (gy i) h3 h3
    have e:kt (i+1)=fM (dq (kt i) (kt i) 4).1:=rfl
    rw [e]
    refine ⟨2*q+r,?_,k2,k3⟩
    rw [k1,h1,Int.pow_succ]
    grind
theorem TF {a:List Int} (ha:a.length=4) (wa:aq a):∃ q,vl (ck a)=18446744073709551616*18446744073709551616*18446744073709551616*18446744073709551616*vl a+q*21888242871839275222246405745257275088548364400416034343698204186575808495617∧0≤vl (ck a)∧vl (ck a)<21888242871839275222246405745257275088548364400416034343698204186575808495617:=by
  obtain ⟨q,h1,h2,h3⟩:=I5 512
  obtain ⟨r,k1,k2,k3⟩:=HN ha wa (uD 512) (gy 512) h3
  unfold ck
  generalize vl (mW a (kt 512))=V at *
  generalize vl (kt 512)=S at *
  generalize vl a=A at *
  have hp:(2:Int) ^ 512=(18446744073709551616*18446744073709551616*18446744073709551616*18446744073709551616)*(18446744073709551616*18446744073709551616*18446744073709551616*18446744073709551616):=by
    have h256:(2:Int) ^ 256=18446744073709551616*18446744073709551616*18446744073709551616*18446744073709551616:=by decide
    rw [show (512:Nat)=256+256 from rfl,Int.pow_add,h256]
  have hi:∃ c:Int,18446744073709551616*18446744073709551616*18446744073709551616*18446744073709551616*9915499612839321149637521777990102151350674507940716049588462388200839649614=1+c*21888242871839275222246405745257275088548364400416034343698204186575808495617:=⟨52454480824480482120356829342366457550537710351690908576382634413609933864959,by decide⟩
  obtain ⟨c,hc⟩:=hi
  rw [hp] at h1
  refine ⟨9915499612839321149637521777990102151350674507940716049588462388200839649614*(A*q+r)+c*(18446744073709551616*18446744073709551616*18446744073709551616*18446744073709551616*A-V),?_,k2,k3⟩
  clear h2 h3 k2 k3 wa ha hp
  grind
theorem Pz {a:List Int} (ha:a.length=4) (wa:aq a):∃ q,18446744073709551616*18446744073709551616*18446744073709551616*18446744073709551616*vl (gW a)=vl a+q*21888242871839275222246405745257275088548364400416034343698204186575808495617∧0≤vl (gW a)∧vl (gW a)<21888242871839275222246405745257275088548364400416034343698204186575808495617:=by
  have h1:vl [1,0,0,0] =1:=by decide
  obtain ⟨r,k1,k2,k3⟩:=HN ha wa (b:= [1,0,0,0]) rfl (mA ⟨by decide,by decide⟩ bg bg bg) (by rw [h1];decide)
  rw [h1,Int.mul_one] at k1
  exact ⟨r,k1,k2,k3⟩
theorem JE {a b q:Int} (h:a=b+q*21888242871839275222246405745257275088548364400416034343698204186575808495617) (h1:0≤a) (h2:a<21888242871839275222246405745257275088548364400416034343698204186575808495617) (h3:0≤b) (h4:b<21888242871839275222246405745257275088548364400416034343698204186575808495617):a=b:=by omega
theorem G7 {a:List Int} (ha:a.length=4) (wa:aq a) (h:vl a<21888242871839275222246405745257275088548364400416034343698204186575808495617):vl (gW (ck a))=vl a:=by
  obtain ⟨q,h1,h2,h3⟩:=TF ha wa
  obtain ⟨r,k1,k2,k3⟩:=Pz (nd a) (GV wa)
  have hn:=ji wa
  rw [h1] at k1
  obtain ⟨c,hc⟩:∃ c:Int,18446744073709551616*18446744073709551616*18446744073709551616*18446744073709551616*9915499612839321149637521777990102151350674507940716049588462388200839649614=1+c*21888242871839275222246405745257275088548364400416034343698204186575808495617:=⟨52454480824480482120356829342366457550537710351690908576382634413609933864959,by decide⟩
  generalize vl (gW (ck a))=L at *
  generalize vl a=A at *
  refine JE (q:=9915499612839321149637521777990102151350674507940716049588462388200839649614*(q+r)+c*(A-L)) ?_ k2 k3 hn h
  clear h1 h2 h3 k2 k3 hn h wa ha
  grind
theorem Rv {a b:List Int} (ha:a.length=4) (hb:b.length=4) (wa:aq a) (wb:aq b) (h:vl a=vl b):a=b:=by
  obtain ⟨a0,a1,a2,a3,rfl⟩:=lU ha
  obtain ⟨b0,b1,b2,b3,rfl⟩:=lU hb
  have g0:ak a0:=wa 0
  have g1:ak a1:=wa 1
  have g2:ak a2:=wa 2
  have g3:ak a3:=wa 3
  have k0:ak b0:=wb 0
  have k1:ak b1:=wb 1
  have k2:ak b2:=wb 2
  have k3:ak b3:=wb 3
  unfold ak at *
  rw [nk,nk] at h
  have e0:a0=b0:=by omega
  subst e0
  have e1:a1=b1:=by omega
  subst e1
  have e2:a2=b2:=by omega
  subst e2
  have e3:a3=b3:=by omega
  subst e3
  rfl
end Go.Proofs.YteiecapbaeajdaaGreatDoor
namespace Go.Proofs.YteiecapbaeajdaaGreatDoor
open Go Go.Avc Go.Proofs
set_option linter.unusedVariables false
set_option linter.unusedSimpArgs false
set_option maxRecDepth 100000
def frN (n:Nat) (K:Nat→Bool):Bool:=Nat.rec (K 0) (fun m _=>K (m+1)) n
theorem QL (n:Nat) (K:Nat→Bool):frN n K=K n:=by cases n <;>rfl
def frZ (x:Int) (K:Int→Bool):Bool:=match x with
  | .ofNat n=>frN n fun n=>K (.ofNat n)
  | .negSucc n=>K (.negSucc n)
theorem QH (x:Int) (K:Int→Bool):frZ x K=K x:=by cases x with
  | ofNat n=>exact QL n fun n=>K (.ofNat n)
  | negSucc n=>rfl
def AI:List Int→(List Int→Bool)→Bool
  | [],K=>K []
  | x::l,K=>frZ x fun x=>AI l fun l=>K (x::l)
theorem pL:∀ (l:List Int) (K:List Int→Bool),AI l K=K l
  | [],K=>rfl
  | x::l,K=>by rw [AI,QH,pL l]
def thF (s:List Int):List Int:=(List.range 25).map fun j=>xr (s.getD j 0) (xr (Mm s ((j%5+4)%5)) (oL (Mm s ((j%5+1)%5)) 1))
def chF (s:List Int):List Int:=(List.range 25).map fun j=>xr (s.getD j 0) (jJ .u64 (s.getD (j-j%5+(j+2)%5) 0) (s.getD (j-j%5+(j+1)%5) 0))
def S3 (s:List Int) (r:Int) (K:List Int→Bool):Bool:=AI (thF s) fun s=>AI (i6 s) fun s=>AI (chF s) fun s=>AI (s.set 0 (xr (s.getD 0 0) (qj r))) K
theorem QP {s:List Int} (h:s.length=25) (r:Int) (K:List Int→Bool):S3 s r K=K (round s r):=by
  unfold S3
  rw [pL,pL,pL,pL]
  have e1:thF s=gc s:=(JG h).symm
  have e2:chF (i6 (gc s))=nh (i6 (gc s)):=(sX (mC _)).symm
  rw [e1,e2]
  rfl
def MA:Nat→Nat→List Int→(List Int→Bool)→Bool
  | 0,_,s,K=>K s
  | n+1,i,s,K=>S3 s (i:Int) fun s=>MA n (i+1) s K
theorem NG {s:List Int} (h:s.length=25):∀ i,(dk s i).length=25
  | 0=>h
  | i+1=>by
    have e:(nh (i6 (gc (dk s i)))).length=25:=by rw [sX (mC _)];simp
    rw [dk]
    unfold round
    rw [List.length_set,e]
theorem IF {s:List Int} (h:s.length=25) (K:List Int→Bool):∀ n i,MA n i (dk s i) K=K (dk s (i+n))
  | 0,i=>rfl
  | n+1,i=>by
    rw [MA,QP (NG h i),← N6,IF h K n (i+1),show i+1+n=i+(n+1) from by omega]
theorem vq {s z:List Int} (h:s.length=25) (k:MA 24 0 s (fun t=>decide (t=z))=true):eE s=z:=by
  rw [uy]
  have:=IF h (fun t=>decide (t=z)) 24 0
  rw [show dk s 0=s from rfl,k] at this
  exact of_decide_eq_true this.symm
def ke0:List Int:= [8372025008686331489,8100131176266490226,282578803306356,284782101528576,25769803776,0,0,0,0,0,0,0,0,0,0,0,9223372036854775808,0,0,0,0,0,0,0,0]
def ke1:List Int:= [17883697082401287854,4253325710419480824,11613133384083954445,4150652354307323921,5450703342257237111,3850305790896014819,2098129896617138482,3261985650114761404,14082931796852556143,8502102766655106628,17839499364438936170,13021195715379908664,15399973476708412778,5250098445452077603,2841967868550486175,6709708827652306979,15223099987002964623,9348929316260896462,96394114582478202,3855134325323266039,610184281064956661,17490923861226901500,985653902140203456,1505509844641713764,11031009988316786517]
theorem ke:eE ke0=ke1:=vq rfl (by kernel_rfl)
def Mi:List Int:= [174,238,55,155,190,167,47,248,248,208,150,211,50,217,6,59,13,219,141,167,72,35,42,161,17,120,160,60,83,20,154,57]
def ks7:List Int:= [146085512912896257,259,0,0,0,0,0,0,0,0,0,0,0,0,0,0,0,17883697082401287854,4253325710419480824,11613133384083954445,4150652354307323921,0,0,0,0]
def kz7:List Int:= [14052056302608695159,17578836594094856944,18314827469102199205,8093192738066234267,17508017827032677215,2886178562792874151,14793273547368993520,1383062114744888811,7168119107699457784,2163302939794814075,986248445006035889,5064298006269386921,8803759145140315383,17159037738295442138,14508567843353664383,14856863771369055405,991290347843542656,16095916574360114579,9909427587133103591,12918494340837085612,11151706324598239179,15394613505218226162,13192475577469199322,7244770877287454406,18313807249409089941]
theorem kp7:eE ks7=kz7:=vq rfl (by kernel_rfl)
def zT:List Int:= [14052056302608695159,17578836594094856944,18314827469102199205,3481506719638846363]
def ks8:List Int:= [146366987889606913,259,0,0,0,0,0,0,0,0,0,0,0,0,0,0,0,17883697082401287854,4253325710419480824,11613133384083954445,4150652354307323921,0,0,0,0]
def kz8:List Int:= [5991343304603806364,5545951138849680404,16782799169413629814,4653188081362363761,3259842054026930299,6721820371532259915,2555612426354464456,12981712720304069041,10908308515129413883,17663178918108430462,2540219414342171211,6618120495261238060,1010860472115011509,13259967290300216063,13779810973806611518,3972286236533893228,1720460063043334908,11287706456884518063,4108595074166285240,12501175042273369553,7097706341743713761,12950817525631413630,15312954729242174154,11859214295558485001,13141323501984080208]
theorem kp8:eE ks8=kz8:=vq rfl (by kernel_rfl)
def Bk:List Int:= [5991343304603806364,5545951138849680404,16782799169413629814,41502062934975857]
end Go.Proofs.YteiecapbaeajdaaGreatDoor
namespace Go.Proofs.YteiecapbaeajdaaGreatDoor
open Go Go.Avc Go.Proofs
set_option linter.unusedVariables false
set_option linter.unusedSimpArgs false
set_option maxRecDepth 100000
theorem Db:aB (aa aO)=([⟨1,1,1,[]⟩,⟨2,3,1,[]⟩],-1,0):=by kernel_rfl
def I0:List (List CD):= [[.int 1,.int 1,.int 1,.str []],[.int 2,.int 3,.int 1,.str []]]
theorem DA:jy aO=I0:=by
  unfold jy
  rw [Db]
  kernel_rfl
theorem H3:cm (aE I0)=(aa aO,-1,0):=by kernel_rfl
def Pv:List (List CD):= [[.sl A8],[.sl [[.int 1]]],[.sl aO]]
def TZ:List Int:= [8372025008686331489,8100131176266490226,282578803306356,284782101528576,0,0,0,0,0,0,0,0,0,0,0,0,0,0,0,0,0,0,0,0,0]
theorem XC:pS Pv 3=(TZ,36):=by kernel_rfl
theorem UF:mB 1 aO=Mi:=by
  unfold mB
  rw [DA]
  unfold cN
  rw [if_pos (by rw [H3])]
  unfold RD
  have e:([[.sl A8],[.sl [[.int (IntKind.u8.wrap 1)]]],[.sl (ah (cm (aE I0)).1)]] :List (List CD))=Pv:=by
    rw [H3]
    kernel_rfl
  have e2:eZ (eZ TZ 36 6) 135 128=ke0:=by decide+kernel
  rw [e,pp,aR,show Pv.length=3 from rfl,XC,fin,aR]
  show (fJ (eE (eZ (eZ TZ 36 6) 135 128))).take 32=Mi
  rw [e2,ke,jM]
  decide+kernel
def fi (l:List Int):List (List CD):=((l++List.replicate (136-l.length) 0)++(Mi++List.replicate 32 0)).map ac
theorem Gr:dc aO=(0,136,0,fi []):=by
  unfold dc
  rw [UF]
  have:iB (Mi.map ac)=fi [] :=by kernel_rfl
  rw [this]
theorem WO:c5 1 1 1 [[.int 7]] (0,136,0,fi [])=(7,136,0,fi [1,1,1,0,0,0,7]):=by kernel_rfl
theorem VJ:c5 1 1 1 [[.int 8]] (0,136,0,fi [])=(7,136,0,fi [1,1,1,0,0,0,8]):=by kernel_rfl
theorem Vm:c5 2 3 1 [] (7,136,0,fi [1,1,1,0,0,0,7])=(13,136,0,fi [1,1,1,0,0,0,7,2,3,1,0,0,0]):=by kernel_rfl
theorem ZT:c5 2 3 1 [] (7,136,0,fi [1,1,1,0,0,0,8])=(13,136,0,fi [1,1,1,0,0,0,8,2,3,1,0,0,0]):=by kernel_rfl
theorem wK {x:Sp} (h:x.2.1=136):∀ i:Nat,i<136→aU x (i+1)=(0,(i:Int)+1,x.2.2.1+1,fx x.2.2.2)
  | 0,_=>by
    rw [aU,aU,jA,if_pos h]
    rfl
  | i+1,hi=>by
    rw [aU,wK h i (by omega),jA,if_neg (by show ¬ ((i:Int)+1=136);omega)]
    rfl
theorem IX {x:Sp} (h:x.2.1=136):∀ i:Nat,i<136→jA (aU x i)=(0,(i:Int),x.2.2.1+1,fx x.2.2.2)
  | 0,_=>by
    rw [aU,jA,if_pos h]
    rfl
  | i+1,hi=>by
    rw [wK h i (by omega),jA,if_neg (by show ¬ ((i:Int)+1=136);omega)]
    rfl
theorem vS {x:Sp} (h:x.2.1=136):∀ i:Nat,i≤136→jb x i=(fx x.2.2.2).take i
  | 0,_=>rfl
  | i+1,hi=>by
    have hl:=jN x.2.2.2
    rw [jb,vS h i (by omega),IX h i (by omega)]
    show _++ [[CD.int (rv (fx x.2.2.2) (i:Int).toNat)]] =_
    rw [Int.toNat_natCast,List.take_add_one,List.getElem?_eq_getElem (by omega)]
    congr 1
    unfold fx
    rw [cA,List.getElem_map,List.getD_eq_getElem?_getD,List.getElem?_eq_getElem (by rw [lO];omega)]
    rfl
theorem vR {x:Sp} (h:x.2.1=136):iC x=(fJ (eE (aL x.2.2.2 200))).take 32:=by
  rw [iC,aR,vS h 32 (by omega)]
  unfold fx
  rw [← List.map_take,List.map_map]
  generalize (fJ (eE (aL x.2.2.2 200))).take 32=L
  have:((fun r:List CD=>(r.getD 0 .d0).toInt) ∘ ac)=id:=rfl
  rw [this,List.map_id]
abbrev Ux:Sp:=(13,136,0,fi [1,1,1,0,0,0,7,2,3,1,0,0,0])
abbrev Q9:Sp:=(13,136,0,fi [1,1,1,0,0,0,8,2,3,1,0,0,0])
theorem bl7:mj Ux=zT:=by
  unfold mj
  rw [vR rfl]
  have e:aL (fi [1,1,1,0,0,0,7,2,3,1,0,0,0]) 200=ks7:=by kernel_rfl
  show fS ((eg ((fJ (eE (aL (fi [1,1,1,0,0,0,7,2,3,1,0,0,0]) 200))).take 32)).map ac)=zT
  rw [e,kp7,jM]
  kernel_rfl
theorem bl8:mj Q9=Bk:=by
  unfold mj
  rw [vR rfl]
  have e:aL (fi [1,1,1,0,0,0,8,2,3,1,0,0,0]) 200=ks8:=by kernel_rfl
  show fS ((eg ((fJ (eE (aL (fi [1,1,1,0,0,0,8,2,3,1,0,0,0]) 200))).take 32)).map ac)=Bk
  rw [e,kp8,jM]
  kernel_rfl
theorem BR {x:Sp} {w:List Int} (h:mj x=w) (hw:(bP w pW 4).2≠0):ar x=(ck w,1,0,aU x 32):=by
  rw [ar,aR,show (64:Nat)=63+1 from rfl,kz,h,if_neg hw]
  rfl
theorem lt7:(bP zT pW 4).2≠0:=by decide+kernel
theorem lt8:(bP Bk pW 4).2≠0:=by decide+kernel
theorem ZB:aq zT:=mA ⟨by decide,by decide⟩ ⟨by decide,by decide⟩ ⟨by decide,by decide⟩ ⟨by decide,by decide⟩
theorem VA:aq Bk:=mA ⟨by decide,by decide⟩ ⟨by decide,by decide⟩ ⟨by decide,by decide⟩ ⟨by decide,by decide⟩
theorem IR {w:List Int} (h:w.length=4) (hw:aq w) (hl:(bP w pW 4).2≠0):kg (ck w)=co (fun i=>gI w i) 4:=by
  have hlt:vl w<21888242871839275222246405745257275088548364400416034343698204186575808495617:=by
    have:=(GG h hw).1
    omega
  have e:gW (ck w)=w:=Rv (by unfold gW;exact u5 _ _) h (by unfold gW;exact BD (GV hw) (mA ⟨by decide,by decide⟩ bg bg bg)) hw (G7 h hw hlt)
  unfold kg
  rw [e]
end Go.Proofs.YteiecapbaeajdaaGreatDoor
namespace Go.Proofs.YteiecapbaeajdaaGreatDoor
open Go Go.Avc Go.Proofs
set_option linter.unusedVariables false
set_option linter.unusedSimpArgs false
set_option maxRecDepth 100000
theorem I3:eV 0 (dc aO):=by
  rw [Gr]
  exact ⟨by decide,by decide,by decide,by decide,by decide,by decide,rfl,nq (by decide+kernel)⟩
noncomputable def If (b:Int):List Int:=(bJ (c5 1 1 1 [[.int b]] (dc aO))).1
theorem SW:bJ (c5 1 1 1 [[.int 7]] (dc aO))=(ck zT,1,0,aU Ux 32):=by
  unfold bJ
  rw [Gr,WO,Vm]
  exact BR bl7 lt7
theorem P4:bJ (c5 1 1 1 [[.int 8]] (dc aO))=(ck Bk,1,0,aU Q9 32):=by
  unfold bJ
  rw [Gr,VJ,ZT]
  exact BR bl8 lt8
theorem SZ (b:Int):iH (bi b) (dc aO) 1=(1,c5 1 1 1 [[.int b]] (dc aO)):=by
  rw [iH,iH]
  rfl
theorem pl2 (b:Int):iH (bi b) (dc aO) 2=(2,(bJ (c5 1 1 1 [[.int b]] (dc aO))).2.2.2):=by
  rw [iH,SZ]
  show cP 2 [] 1 (c5 1 1 1 [[.int b]] (dc aO))=_
  unfold cP
  rw [if_neg (by decide),if_pos rfl]
  rfl
theorem EW:dY aO:=⟨by show aO=ah (aa aO);kernel_rfl,by decide⟩
theorem vT (b:Int) (hb:0≤b∧b<256) (hd:(bJ (c5 1 1 1 [[.int b]] (dc aO))).2.2.1=0) (hz:eV 800000000 (bJ (c5 1 1 1 [[.int b]] (dc aO))).2.2.2):oA 1 aO (bi b):=by
  have h1:ax [[CD.int b]] :=Mb hb
  have hs:=IW (k:=1) (t:=1) (n:=1) h1 I3
  refine ⟨rfl,EW,by rw [Db],by show (3:Nat)≤200;decide,fun i hi=> ?_⟩
  have hi:i<3:=hi
  rw [DA]
  match i,hi with
  | 0,_=>exact ⟨⟨Int.le_refl 0,(by decide:(0:Int)≤1000000)⟩,fH (by decide) I3,.inl ⟨rfl,rfl,h1,by show (1:Nat)≤900;decide,rfl,by show ie I0 0 1 1 1=true;decide+kernel⟩⟩
  | 1,_=>
    rw [SZ]
    exact ⟨⟨(by decide:(0:Int)≤1),(by decide:(1:Int)≤1000000)⟩,fH (by simp) hs,.inr (.inl ⟨rfl,rfl,by show ie I0 1 2 3 1=true;decide+kernel,hd⟩)⟩
  | 2,_=>
    rw [pl2]
    exact ⟨⟨(by decide:(0:Int)≤2),(by decide:(2:Int)≤1000000)⟩,hz,.inr (.inr ⟨rfl,rfl⟩)⟩
theorem Jk {l:List Int} (h:fi l=fi l) (hb:(fi l).length=200∧ax (fi l)):eV 0 ((13:Int),(136:Int),(0:Int),fi l):=
  ⟨(by decide:(0:Int)≤13),(by decide:(13:Int)≤136),(by decide:(0:Int)≤136),Int.le_refl 136,Int.le_refl 0,Int.le_refl 0,hb.1,hb.2⟩
theorem ac6:oA 1 aO (bi 7):=by
  refine vT 7 ⟨by decide,by decide⟩ (by rw [SW]) ?_
  rw [SW]
  exact fH (by decide) (mS (Jk rfl ⟨rfl,nq (by decide+kernel)⟩) 32)
theorem adc:oA 1 aO (bi 8):=by
  refine vT 8 ⟨by decide,by decide⟩ (by rw [P4]) ?_
  rw [P4]
  exact fH (by decide) (mS (Jk rfl ⟨rfl,nq (by decide+kernel)⟩) 32)
theorem Ja (b:Int):bD (bi b) aO= [[.int 0,.sl []],[.int 0,.sl ((kg (If b)).map ac)],[.int 0,.sl []]] :=by
  rw [bD,aR]
  show iU (bi b) (dc aO) 3=_
  rw [iU,iU,iU,iU,SZ]
  rfl
theorem Vi:(kg (If 7)).map ac=(co (fun i=>gI zT i) 4).map ac:=by
  unfold If
  rw [SW,IR rfl ZB lt7]
theorem WD:(kg (If 8)).map ac=(co (fun i=>gI Bk i) 4).map ac:=by
  unfold If
  rw [P4,IR rfl VA lt8]
theorem an7:bD (bi 7) aO= [[.int 0,.sl []],[.int 0,.sl ((co (fun i=>gI zT i) 4).map ac)],[.int 0,.sl []]] :=by rw [Ja,Vi]
theorem an8:bD (bi 8) aO= [[.int 0,.sl []],[.int 0,.sl ((co (fun i=>gI Bk i) 4).map ac)],[.int 0,.sl []]] :=by rw [Ja,WD]
theorem vc9:P9:=by
  have a7:=an7
  have a8:=an8
  have a7':bD [[CD.int 0,CD.int 1,CD.int 0,CD.sl [[CD.int 7]]],[CD.int 2,CD.int 0,CD.int 1,CD.sl []],[CD.int 4,CD.int 0,CD.int 0,CD.sl []]] [[CD.int 1],[CD.int 1],[CD.int 1],[CD.int 0],[CD.int 0],[CD.int 0],[CD.int 0],[CD.int 0],[CD.int 2],[CD.int 3],[CD.int 1],[CD.int 0],[CD.int 0],[CD.int 0],[CD.int 0],[CD.int 0]] =_:=an7
  have a8':bD [[CD.int 0,CD.int 1,CD.int 0,CD.sl [[CD.int 8]]],[CD.int 2,CD.int 0,CD.int 1,CD.sl []],[CD.int 4,CD.int 0,CD.int 0,CD.sl []]] [[CD.int 1],[CD.int 1],[CD.int 1],[CD.int 0],[CD.int 0],[CD.int 0],[CD.int 0],[CD.int 0],[CD.int 2],[CD.int 3],[CD.int 1],[CD.int 0],[CD.int 0],[CD.int 0],[CD.int 0],[CD.int 0]] =_:=an8
  unfold P9
  rw [a7,a8,a7',a8']
  intro _
  refine ⟨rfl,fun _=>⟨ac6,⟨by decide,by decide⟩,by decide,adc,fun _ _=> ?_⟩⟩
  repeat' first
    | exact trivial
    | refine cz (by decide+kernel) ?_
    | apply And.intro
    | rfl
    | decide+kernel
    | intro _
theorem ok9:af (base.with En) 9 (ag RF):=am c10 Tryz.func9 (by kernel_rfl) (by kernel_rfl) Tryz.call9 e9 vc9
theorem c9:(base.with M2).Ok:=ae c10 ok9
end Go.Proofs.YteiecapbaeajdaaGreatDoor
namespace Go.Proofs.YteiecapbaeajdaaGreatDoor
open Go Go.Avc
set_option linter.unusedVariables false
def agC:List Dat→Ann
  | [.r a,.r b] => {cut:= [(7,[la 150 [(0,.rd gH),(1,.rd gH),(5,rb),(8,rb)] [] (fun
      | [.r a',.r b',.r p,.r q] =>a'=a∧b'=b∧a.length≤6∧b.length≤6∧(cm (aE a)).2.2=0∧(cm (aE b)).2.2=0∧p=ah (cm (aE a)).1∧q=ah (cm (aE b)).1
      | _=>False) jv])],loop:= []}
  | _=> {cut:= [],loop:= []}
def gP (hp:List Blk):List (Nat×Blk)→Prop
  | [] =>True
  | (b,x)::u=>hp.getD b .none=x∧gP hp u
def qy (F:List SV→List Blk→CR) (svs:List SV) (hp:List Blk):CR:=
  match F svs hp with
  | .need p (.ret sv upd [])=> .need (p∧gP hp upd) (.ret sv [] [])
  | r=>r
theorem By:∀ (hp:List Blk) (b:Nat),hp.set b (hp.getD b .none)=hp
  | [],_=>rfl
  | _::_,0=>rfl
  | x::hp,b+1=>by
    show x::hp.set b (hp.getD b .none)=x::hp
    rw [By hp b]
theorem ru {hp:List Blk} :∀ {u:List (Nat×Blk)},gP hp u→bc hp u=hp
  | [],_=>rfl
  | (b,x)::u,h=>by
    show bc (hp.set b x) u=hp
    rw [← h.1,By]
    exact ru h.2
theorem Cv {C:Ctx} {f:FuncId} {F:List SV→List Blk→CR} (h:af C f F):af C f (qy F):=by
  intro svs hp K R hw
  refine h svs hp K R ?_
  unfold qy at hw
  split at hw
  · rename_i p sv upd he
    rw [he]
    refine ⟨hw.1.1,?_⟩
    show _∧_
    rw [ru hw.1.2]
    exact hw.2
  · exact hw
end Go.Proofs.YteiecapbaeajdaaGreatDoor
namespace Go.Proofs.YteiecapbaeajdaaGreatDoor
open Go Go.Avc Go.Proofs
set_option linter.unusedVariables false
set_option maxRecDepth 100000
end Go.Proofs.YteiecapbaeajdaaGreatDoor
namespace Go.Proofs.YteiecapbaeajdaaGreatDoor
open Go Go.Avc Go.Proofs
set_option linter.unusedVariables false
set_option linter.unusedSimpArgs false
set_option maxRecDepth 100000
end Go.Proofs.YteiecapbaeajdaaGreatDoor
namespace Go.Proofs.YteiecapbaeajdaaGreatDoor
open Go Go.Avc
set_option linter.unusedVariables false
set_option linter.unusedSimpArgs false
def cj:List Nat→Nat
  | [] =>0
  | d::l=>d+4294967296*cj l
def pB:Nat→Nat→List Nat
  | 0,_=> []
  | f+1,n=>if n=0 then [] else n%4294967296::pB f (n / 4294967296)
def wG (n:Nat):List Nat:=pB n n
def mD (l:List Nat):Prop:=∀ d∈l,d<4294967296
def LF (l:List Nat):Prop:=∀ m d,l=m++ [d] →d≠0
theorem CA:∀ f n,n≤f→cj (pB f n)=n
  | 0,n,h=>by
    have:n=0:=by omega
    subst this;rfl
  | f+1,n,h=>by
    rw [pB]
    by_cases e:n=0
    · rw [if_pos e,e];rfl
    · rw [if_neg e,cj,CA f (n / 4294967296) (by omega)]
      omega
theorem Nx (n:Nat):cj (wG n)=n:=CA n n (Nat.le_refl n)
theorem DD:∀ f n,mD (pB f n)
  | 0,_=>fun d hd=>by cases hd
  | f+1,n=>by
    rw [pB]
    split
    · intro d hd;cases hd
    · intro d hd
      cases hd with
      | head=>exact Nat.mod_lt _ (by omega)
      | tail _ hd=>exact DD f _ d hd
theorem ND (n:Nat):mD (wG n):=DD n n
theorem BB:∀ {l:List Nat},cj l=0→LF l→l= []
  | [],_,_=>rfl
  | d::l,h,ht=>by
    rw [cj] at h
    have hl:cj l=0:=by omega
    have hd:d=0:=by omega
    have h2:=BB hl fun m x e=>ht (d::m) x (by rw [e];rfl)
    subst h2
    exact absurd hd (ht [] d rfl)
theorem Io:∀ {l:List Nat} {f:Nat},mD l→LF l→cj l≤f→pB f (cj l)=l
  | [],f,_,_,_=>by cases f <;>rfl
  | d::l,f,hd,ht,hf=>by
    have h0:cj (d::l)≠0:=fun e=>by cases BB e ht
    cases f with
    | zero=>omega
    | succ f=>
      rw [pB,if_neg h0]
      have h1:=hd d (List.mem_cons_self ..)
      have e1:cj (d::l)%4294967296=d:=by rw [cj];omega
      have e2:cj (d::l) / 4294967296=cj l:=by rw [cj];omega
      rw [e1,e2,Io (fun x hx=>hd x (List.mem_cons_of_mem _ hx)) (fun m x e=>ht (d::m) x (by rw [e];rfl)) (by rw [cj] at hf h0;omega)]
theorem H2 {l:List Nat} (hd:mD l) (ht:LF l):wG (cj l)=l:=Io hd ht (Nat.le_refl _)
theorem rO:∀ (l:List Nat) (t:Nat),(∀ j,t≤j→l.getD j 0=0)→cj (l.take t)=cj l
  | [],t,_=>by rw [List.take_nil]
  | d::l,0,h=>by
    rw [List.take_zero]
    have h0:d=0:=h 0 (by omega)
    have h1:=rO l 0 fun j _=>h (j+1) (by omega)
    rw [List.take_zero] at h1
    show 0=d+4294967296*cj l
    rw [← h1,h0];rfl
  | d::l,t+1,h=>by
    rw [List.take_succ_cons,cj,cj,rO l t fun j hj=>h (j+1) (by omega)]
theorem Ia {l:List Nat} {t:Nat} (hd:mD l) (hl:t≤l.length) (h0:∀ j,t≤j→l.getD j 0=0) (h1:t=0∨l.getD (t-1) 0≠0):l.take t=wG (cj l):=by
  rw [← rO l t h0]
  refine (H2 (fun d h=>hd d (List.mem_of_mem_take h)) fun m d e=> ?_).symm
  rcases h1 with rfl | h1
  · rw [List.take_zero] at e
    have:=congrArg List.length e
    simp at this
  · intro hd0
    apply h1
    have hlen:m.length+1=t:=by
      have:=congrArg List.length e
      rw [List.length_take,List.length_append] at this
      simp at this
      omega
    have h2:(l.take t).getD (t-1) 0=d:=by
      rw [e,List.getD_eq_getElem?_getD,List.getElem?_append_right (by omega)]
      rw [show t-1-m.length=0 from by omega];rfl
    rw [List.getD_eq_getElem?_getD,List.getElem?_take_of_lt (by omega)] at h2
    rw [List.getD_eq_getElem?_getD,h2,hd0]
theorem Bq:∀ {l:List Nat},mD l→cj l<4294967296 ^ l.length
  | [],_=>by decide
  | d::l,h=>by
    have h1:=Bq fun x hx=>h x (List.mem_cons_of_mem _ hx)
    have h2:=h d (List.mem_cons_self ..)
    rw [cj,List.length_cons,Nat.pow_succ]
    omega
theorem gz (l:List Nat):cj l=l.getD 0 0+4294967296*cj l.tail:=by
  cases l <;>rfl
theorem eX (l:List Nat) (i:Nat):l.tail.getD i 0=l.getD (i+1) 0:=by
  cases l <;>simp
theorem oq {l:List Nat} (h:mD l) (i:Nat):l.getD i 0<4294967296:=by
  rw [List.getD_eq_getElem?_getD]
  cases e:l[i]? with
  | none=>exact (by decide:0<4294967296)
  | some d=>exact h d (List.mem_of_getElem? e)
theorem rU {l:List Nat} (h:mD l):mD l.tail:=fun d hd=>h d (List.mem_of_mem_tail hd)
theorem uB:∀ (n:Nat) {a b:List Nat},a.length≤n→b.length≤n→(∀ i,a.getD i 0=b.getD i 0)→cj a=cj b
  | 0,a,b,ha,hb,h=>by
    have e1:a= [] :=List.length_eq_zero_iff.1 (by omega)
    have e2:b= [] :=List.length_eq_zero_iff.1 (by omega)
    rw [e1,e2]
  | n+1,a,b,ha,hb,h=>by
    rw [gz a,gz b,h 0,uB n (a:=a.tail) (b:=b.tail) (by simp;omega) (by simp;omega) fun i=>by rw [eX,eX];exact h (i+1)]
theorem DJ:∀ (i:Nat) {a b:List Nat},mD a→mD b→(∀ j,i<j→a.getD j 0=b.getD j 0)→a.getD i 0<b.getD i 0→cj a<cj b
  | 0,a,b,ha,hb,h,hl=>by
    rw [gz a,gz b,uB (max a.length b.length) (a:=a.tail) (b:=b.tail) (by simp;omega) (by simp;omega) fun j=>by rw [eX,eX];exact h (j+1) (by omega)]
    omega
  | i+1,a,b,ha,hb,h,hl=>by
    have ih:=DJ i (a:=a.tail) (b:=b.tail) (rU ha) (rU hb) (fun j hj=>by rw [eX,eX];exact h (j+1) (by omega)) (by rw [eX,eX];exact hl)
    have h1:=oq ha 0
    rw [gz a,gz b]
    omega
def lD (d:Nat):List CD:= [.int (d:Int)]
def bm (n:Nat):List (List CD):=(wG n).map lD
def cK (l:List (List CD)):List Nat:=l.map fun r=>((r.getD 0 .d0).toInt).toNat
def dv (l:List (List CD)):Nat:=cj (cK l)
def eP (l:List (List CD)):Prop:=l=(cK l).map lD∧mD (cK l)
def pN (l:List (List CD)):Prop:=l=bm (dv l)
theorem pc (l:List Nat):cK (l.map lD)=l:=by
  unfold cK
  rw [List.map_map]
  have:((fun r:List CD=>((r.getD 0 .d0).toInt).toNat) ∘ lD)=id:=by funext d;rfl
  rw [this,List.map_id]
theorem cr (n:Nat):dv (bm n)=n:=by unfold dv bm;rw [pc,Nx]
theorem m6 (n:Nat):pN (bm n):=by unfold pN;rw [cr]
theorem uL (n:Nat):eP (bm n):=by unfold eP bm;rw [pc];exact ⟨rfl,ND n⟩
theorem NP {l:List Nat} (h:mD l):eP (l.map lD):=by unfold eP;rw [pc];exact ⟨rfl,h⟩
theorem ip (l:List (List CD)):(cK l).length=l.length:=List.length_map ..
theorem KF (l:List Nat) (i:Nat):rv (l.map lD) i=((l.getD i 0:Nat):Int):=by
  unfold rv
  rw [List.getD_eq_getElem?_getD (l:=l.map lD),List.getElem?_map,List.getD_eq_getElem?_getD (l:=l)]
  cases l[i]? <;>rfl
theorem k9 {l:List (List CD)} (h:eP l) (i:Nat):rv l i=(((cK l).getD i 0:Nat):Int):=by
  have:=KF (cK l) i
  rwa [← h.1] at this
theorem iA {l:List (List CD)} (h:eP l) (i:Nat):0≤rv l i∧rv l i<4294967296:=by
  rw [k9 h]
  have:=oq h.2 i
  omega
theorem Ik {l:List (List CD)} {t:Nat} (h:eP l) (hl:t≤l.length) (h0:∀ j,t≤j→rv l j=0) (h1:t=0∨rv l (t-1)≠0):l.take t=bm (dv l):=by
  have e:l.take t=((cK l).take t).map lD:=by rw [List.map_take,← h.1]
  rw [e,Ia h.2 (by rw [ip];exact hl) (fun j hj=>by have:=h0 j hj;rw [k9 h] at this;omega) (h1.imp id fun h1=>by rw [k9 h] at h1;omega)]
  rfl
end Go.Proofs.YteiecapbaeajdaaGreatDoor
namespace Go.NT
set_option linter.unusedVariables false
def Pr (p:Nat):Prop:=2≤p∧∀ d,d∣p→d=1∨d=p
theorem Pr.coprime {p a:Nat} (h:Pr p) (ha:¬ p∣a):Nat.gcd p a=1:=by
  rcases h.2 _ (Nat.gcd_dvd_left p a) with e | e
  · exact e
  · exact absurd (e ▸ Nat.gcd_dvd_right p a) ha
theorem Pr.dvd_mul {p a b:Nat} (h:Pr p) (hd:p∣a*b):p∣a∨p∣b:=by
  by_cases ha:p∣a
  · exact .inl ha
  · exact .inr (Nat.Coprime.dvd_of_dvd_mul_left (h.coprime ha) hd)
theorem wu:∀ n:Nat,2≤n→∃ p,Pr p∧p∣n:=by
  intro n
  induction n using Nat.strongRecOn with
  | ind n ih=>
    intro h
    by_cases hp:∀ d,d∣n→d=1∨d=n
    · exact ⟨n,⟨h,hp⟩,Nat.dvd_refl n⟩
    · have ⟨d,hd⟩:=Classical.not_forall.1 hp
      have ⟨h1,h2⟩:=Classical.not_imp.1 hd
      have h3:d≠1:=fun e=>h2 (.inl e)
      have h4:d≠n:=fun e=>h2 (.inr e)
      have h5:=Nat.le_of_dvd (by omega) h1
      have h6:d≠0:=fun e=>by subst e;have:=Nat.eq_zero_of_zero_dvd h1;omega
      have ⟨p,k1,k2⟩:=ih d (by omega) (by omega)
      exact ⟨p,k1,Nat.dvd_trans k2 h1⟩
theorem L7 {n:Nat} (h2:2≤n) (h:∀ p,Pr p→p∣n→p*p≤n→False):Pr n:=by
  refine ⟨h2,fun d hd=> ?_⟩
  by_cases h1:d=1
  · exact .inl h1
  by_cases h3:d=n
  · exact .inr h3
  exfalso
  obtain ⟨e,he⟩:=hd
  have hd0:d≠0:=fun k=>by rw [k,Nat.zero_mul] at he;omega
  have he0:e≠0:=fun k=>by rw [k,Nat.mul_zero] at he;omega
  have he1:e≠1:=fun k=>by rw [k,Nat.mul_one] at he;omega
  rcases Nat.le_total d e with hl | hl
  · have ⟨p,k1,k2⟩:=wu d (by omega)
    have k3:=Nat.le_of_dvd (by omega) k2
    exact h p k1 (Nat.dvd_trans k2 ⟨e,he⟩) (by rw [he];exact Nat.mul_le_mul k3 (Nat.le_trans k3 hl))
  · have ⟨p,k1,k2⟩:=wu e (by omega)
    have k3:=Nat.le_of_dvd (by omega) k2
    exact h p k1 (Nat.dvd_trans k2 ⟨d,by rw [he,Nat.mul_comm]⟩) (by rw [he];exact Nat.mul_le_mul (Nat.le_trans k3 hl) k3)
def ch:Nat→Nat→Nat
  | _,0=>1
  | 0,_+1=>0
  | n+1,k+1=>ch n k+ch n (k+1)
theorem oz (n:Nat):ch n 0=1:=by cases n <;>rfl
theorem jU:∀ n k,n<k→ch n k=0
  | 0,k+1,_=>rfl
  | n+1,k+1,h=>by
    rw [ch,jU n k (by omega),jU n (k+1) (by omega)]
theorem tN:∀ n k,(k+1)*ch (n+1) (k+1)=(n+1)*ch n k
  | 0,0=>rfl
  | 0,k+1=>by rw [jU 1 (k+2) (by omega),jU 0 (k+1) (by omega)];omega
  | n+1,0=>by
    have:=tN n 0
    rw [oz] at this ⊢
    rw [ch,oz]
    omega
  | n+1,k+1=>by
    have h1:=tN n k
    have h2:=tN n (k+1)
    have e1:ch (n+2) (k+2)=ch (n+1) (k+1)+ch (n+1) (k+2):=rfl
    have e2:ch (n+1) (k+1)=ch n k+ch n (k+1):=rfl
    rw [e1]
    grind
theorem LU {p k:Nat} (hp:Pr p) (h0:0<k) (h1:k<p):p∣ch p k:=by
  obtain ⟨q,rfl⟩:∃ q,p=q+1:=⟨p-1,by have:=hp.1;omega⟩
  obtain ⟨j,rfl⟩:∃ j,k=j+1:=⟨k-1,by omega⟩
  rcases hp.dvd_mul (⟨ch q j,tN q j⟩:(q+1)∣(j+1)*ch (q+1) (j+1)) with h | h
  · have:=Nat.le_of_dvd (by omega) h;omega
  · exact h
def tm (a b:Int) (n k:Nat):Int:=(ch n k:Int)*a ^ (n-k)*b ^ k
theorem adb (a b:Int) (n:Nat):tm a b (n+1) 0=a*tm a b n 0:=by
  unfold tm
  rw [oz,oz,Nat.sub_zero,Nat.sub_zero,Int.pow_succ]
  grind
theorem Us (a b:Int) (n k:Nat):tm a b (n+1) (k+1)=a*tm a b n (k+1)+b*tm a b n k:=by
  unfold tm
  have e1:ch (n+1) (k+1)=ch n k+ch n (k+1):=rfl
  rw [e1,Nat.add_sub_add_right]
  by_cases h:k<n
  · rw [show n-k=(n-(k+1))+1 from by omega,Int.pow_succ,Int.pow_succ]
    grind
  · rw [jU n (k+1) (by omega),Int.pow_succ]
    grind
theorem GF (a b:Int) (n k:Nat) (h:n<k):tm a b n k=0:=by
  unfold tm;rw [jU n k h];simp
theorem Ih {p k:Nat} (hp:Pr p) (h0:0<k) (h1:k<p) (a b:Int):(p:Int)∣tm a b p k:=by
  have:(p:Int)∣(ch p k:Int):=Int.natCast_dvd_natCast.2 (LU hp h0 h1)
  unfold tm
  rw [Int.mul_assoc]
  exact Int.dvd_mul_of_dvd_left this
def sm (f:Nat→Int):Nat→Int
  | 0=>0
  | n+1=>sm f n+f n
theorem lH (f:Nat→Int):∀ n,sm f (n+1)=f 0+sm (fun j=>f (j+1)) n
  | 0=>by simp [sm]
  | n+1=>by
    rw [sm,lH f n,sm]
    omega
theorem BL (c d:Int) (f g:Nat→Int):∀ n,sm (fun j=>c*f j+d*g j) n=c*sm f n+d*sm g n
  | 0=>by simp [sm]
  | n+1=>by
    rw [sm,BL c d f g n,sm,sm]
    grind
theorem rI {f g:Nat→Int} :∀ {n},(∀ j,j<n→f j=g j)→sm f n=sm g n
  | 0,_=>rfl
  | n+1,h=>by rw [sm,sm,rI fun j hj=>h j (by omega),h n (by omega)]
theorem AQ {f:Nat→Int} {m:Int} :∀ {n},(∀ j,j<n→m∣f j)→m∣sm f n
  | 0,_=>⟨0,by simp [sm]⟩
  | n+1,h=>Int.dvd_add (AQ fun j hj=>h j (by omega)) (h n (by omega))
def ml (D:Int) (x y:Int×Int):Int×Int:=(x.1*y.1+D*(x.2*y.2),x.1*y.2+x.2*y.1)
def pw (D:Int) (x:Int×Int):Nat→Int×Int
  | 0=>(1,0)
  | n+1=>ml D x (pw D x n)
theorem LZ (D a b:Int):∀ n K,n<2*K→pw D (a,b) n=(sm (fun j=>tm a b n (2*j)*D ^ j) K,sm (fun j=>tm a b n (2*j+1)*D ^ j) K)
  | 0,K,h=>by
    obtain ⟨L,rfl⟩:∃ L,K=L+1:=⟨K-1,by omega⟩
    have z:∀ (f:Nat→Int) n,(∀ j,f j=0)→sm f n=0:=fun f n hf=>by
      induction n with
      | zero=>rfl
      | succ n ih=>rw [sm,ih,hf];rfl
    rw [lH,z _ L (fun j=>by rw [GF _ _ _ _ (by omega)];simp),z _ (L+1) (fun j=>by rw [GF _ _ _ _ (by omega)];simp)]
    simp [pw,tm,oz]
  | n+1,K,h=>by
    rw [pw,LZ D a b n K (by omega)]
    obtain ⟨L,rfl⟩:∃ L,K=L+1:=⟨K-1,by omega⟩
    unfold ml
    ext
    · show a*sm _ (L+1)+D*(b*sm _ (L+1))=sm _ (L+1)
      rw [lH (fun j=>tm a b n (2*j)*D ^ j),lH (fun j=>tm a b (n+1) (2*j)*D ^ j)]
      have e1:sm (fun j=>tm a b (n+1) (2*(j+1))*D ^ (j+1)) L=sm (fun j=>a*(tm a b n (2*(j+1))*D ^ (j+1))+(D*b)*(tm a b n (2*j+1)*D ^ j)) L:=by
        refine rI fun j _=> ?_
        rw [show 2*(j+1)=(2*j+1)+1 from by omega,Us,Int.pow_succ]
        grind
      rw [e1,BL a (D*b) (fun j=>tm a b n (2*(j+1))*D ^ (j+1)) (fun j=>tm a b n (2*j+1)*D ^ j)]
      rw [sm,GF a b n (2*L+1) (by omega)]
      simp only [Nat.mul_zero,adb]
      grind
    · show a*sm _ (L+1)+b*sm _ (L+1)=sm _ (L+1)
      have e1:sm (fun j=>tm a b (n+1) (2*j+1)*D ^ j) (L+1)=sm (fun j=>a*(tm a b n (2*j+1)*D ^ j)+b*(tm a b n (2*j)*D ^ j)) (L+1):=by
        refine rI fun j _=> ?_
        rw [Us]
        grind
      rw [e1,BL a b (fun j=>tm a b n (2*j+1)*D ^ j) (fun j=>tm a b n (2*j)*D ^ j)]
theorem abG {p K:Nat} (hp:Pr p) (hK:p=2*K+1) (D a b:Int):(p:Int)∣(pw D (a,b) p).1-a ^ p∧(p:Int)∣(pw D (a,b) p).2-b ^ p*D ^ K:=by
  rw [LZ D a b p (K+1) (by omega)]
  constructor
  · show (p:Int)∣sm _ (K+1)-a ^ p
    rw [lH]
    have h1:tm a b p (2*0)*D ^ 0=a ^ p:=by simp [tm,oz]
    rw [h1]
    have:(p:Int)∣sm (fun j=>tm a b p (2*(j+1))*D ^ (j+1)) K:=AQ fun j hj=>Int.dvd_mul_of_dvd_left (Ih hp (by omega) (by omega) a b)
    rw [show a ^ p+sm (fun j=>tm a b p (2*(j+1))*D ^ (j+1)) K-a ^ p=sm (fun j=>tm a b p (2*(j+1))*D ^ (j+1)) K from by omega]
    exact this
  · show (p:Int)∣sm _ (K+1)-_
    rw [sm]
    have h1:tm a b p (2*K+1)=b ^ p:=by
      rw [← hK]
      have:∀ n,ch n n=1:=fun n=>by
        induction n with
        | zero=>rfl
        | succ n ih=>rw [ch,ih,jU n (n+1) (by omega)]
      simp [tm,this]
    rw [h1]
    have:(p:Int)∣sm (fun j=>tm a b p (2*j+1)*D ^ j) K:=AQ fun j hj=>Int.dvd_mul_of_dvd_left (Ih hp (by omega) (by omega) a b)
    rw [show sm (fun j=>tm a b p (2*j+1)*D ^ j) K+b ^ p*D ^ K-b ^ p*D ^ K=sm (fun j=>tm a b p (2*j+1)*D ^ j) K from by omega]
    exact this
theorem H5 (a b:Int):∀ n,(pw 1 (a,b) n).1+(pw 1 (a,b) n).2=(a+b) ^ n
  | 0=>by rw [Int.pow_zero];rfl
  | n+1=>by
    have:=H5 a b n
    rw [pw,Int.pow_succ,← this]
    unfold ml
    grind
theorem Ln {p K:Nat} (hp:Pr p) (hK:p=2*K+1) (a:Int):(p:Int)∣(a+1) ^ p-a ^ p-1:=by
  obtain ⟨h1,h2⟩:=abG hp hK 1 a 1
  rw [← H5 a 1 p]
  have e:(1:Int) ^ p*1 ^ K=1:=by rw [Int.one_pow,Int.one_pow];rfl
  rw [e] at h2
  have:=Int.dvd_add h1 h2
  rw [show (pw 1 (a,1) p).1+(pw 1 (a,1) p).2-a ^ p-1=(pw 1 (a,1) p).1-a ^ p+((pw 1 (a,1) p).2-1) from by omega]
  exact this
theorem AM {p K:Nat} (hp:Pr p) (hK:p=2*K+1):∀ a:Nat,(p:Int)∣(a:Int) ^ p-a
  | 0=>by
    rw [hK,Int.pow_succ]
    simp
  | a+1=>by
    have h1:=Ln hp hK a
    have h2:=AM hp hK a
    have:=Int.dvd_add h1 h2
    rw [show ((a+1:Nat):Int)=(a:Int)+1 from rfl]
    rw [show ((a:Int)+1) ^ p-(↑a+1)=((a:Int)+1) ^ p-(a:Int) ^ p-1+((a:Int) ^ p-a) from by omega]
    exact this
theorem Ni {p K:Nat} (hp:Pr p) (hK:p=2*K+1) (a:Int):(p:Int)∣a ^ p-a:=by
  rcases Int.eq_nat_or_neg a with ⟨n,h | h⟩
  · rw [h];exact AM hp hK n
  · have h1:=AM hp hK n
    have e:(-(n:Int)) ^ p= -((n:Int) ^ p):=by
      rw [hK,Int.pow_succ,Int.pow_succ,Int.pow_mul,Int.pow_mul]
      rw [show (-(n:Int)) ^ 2=(n:Int) ^ 2 from by grind]
      grind
    rw [h,e,show -((n:Int) ^ p)- -(n:Int)= -((n:Int) ^ p-n) from by omega]
    exact Int.dvd_neg.2 h1
end Go.NT
namespace Go.NT
set_option linter.unusedVariables false
theorem Ep (e:Nat→Prop) (h:∀ a b,e a→e b→e (b%a)) (a b:Nat):e a→e b→e (Nat.gcd a b):=by
  refine Nat.gcd.induction (P:=fun a b=>e a→e b→e (Nat.gcd a b)) a b (fun n _ hn=>by rw [Nat.gcd_zero_left];exact hn) fun m n hm ih h1 h2=> ?_
  rw [Nat.gcd_rec]
  exact ih (h _ _ h1 h2) h1
theorem Do {e:Nat→Prop} (h:∀ a b,e a→e b→e (b%a)) (hk:∀ a k,e a→e (a*k)) {f k M t:Nat} (hf:Pr f) (hM:e M) (hd:f ^ k∣M) (ht:e t) (hn:¬ e (M / f)):f ^ k∣t:=by
  have hg:=Ep e h M t hM ht
  obtain ⟨c,hc⟩:=Nat.gcd_dvd_left M t
  have hgt:=Nat.gcd_dvd_right M t
  generalize Nat.gcd M t=g at *
  have hfc:¬ f∣c:=fun ⟨c',hc'⟩=>by
    apply hn
    have:M=f*(g*c'):=by rw [hc,hc'];grind
    rw [this,Nat.mul_div_cancel_left _ (by have:=hf.1;omega)]
    exact hk _ _ hg
  have hcop:Nat.Coprime (f ^ k) c:=Nat.Coprime.pow_left k (hf.coprime hfc)
  rw [hc] at hd
  exact Nat.dvd_trans (hcop.dvd_of_dvd_mul_right hd) hgt
end Go.NT
