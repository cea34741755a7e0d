/-
 AVC, part Y: patterns of states: what a state is like, but for its data; a state is told by a pattern with other names of blocks, and less of it.
-/
import Derived.Test.YteiecapbaeajdaaGreatDoorJ3
import Derived.Test.YteiecapbaeajdaaGreatDoorProg
import Derived.KernelRfl
namespace Go.Avc
set_option linter.unusedVariables false
set_option linter.unusedSimpArgs false
inductive Dat where
 | i (n:Int) | b (b:Bool) | s (l:List UInt8) | r (l:LD) | li (l:List Int) | lb (l:List Bool)
inductive Pat where
 | skip
 | int (k:IntKind)
 | bool
 | str
 | rd (e:List CSh)
 | own (i:Nat)
 | ptr (i c:Nat)
 | nilp
 | nilf
 | nils
 | agg (ps:List Pat)
 | arrI (n:Nat) (k:IntKind)
 | arrB (n:Nat)
 | tup (ps:List Pat)
 | fn (f:FuncId) (ps:List Pat)
 | fb (f:FuncId) (ps:List Pat)
 | nili
 | iface (t:TypeId) (p:Pat)
inductive BPat where
 | none
 | cells (T:TypeId) (ps:List Pat)
 | own (T:TypeId) (e:List CSh)
mutual
def RM:Pat→(SV→List Dat→Prop)→Prop
 | .skip,F=>F .dead []
 | .int k,F=>∀ n,F (.int k n) [.i n]
 | .bool,F=>∀ b,F (.bool b) [.b b]
 | .str,F=>∀ l,F (.str l) [.s l]
 | .rd e,F=>∀ l,F (.rd e l) [.r l]
 | .own i,F=>F (.own i) []
 | .ptr i c,F=>F (.ptr i c) []
 | .nilp,F=>F .nilp []
 | .nilf,F=>F .nilf []
 | .nils,F=>F .nils []
 | .agg ps,F=>allPs ps fun svs ds=>F (.agg svs) ds
 | .arrI n k,F=>∀ l,F (.arrI n k l) [.li l]
 | .arrB n,F=>∀ l,F (.arrB n l) [.lb l]
 | .tup ps,F=>allPs ps fun svs ds=>F (.tup svs) ds
 | .fn f ps,F=>allPs ps fun svs ds=>F (.fn f svs) ds
 | .fb f ps,F=>allPs ps fun svs ds=>F (.fb f svs) ds
 | .nili,F=>F .nili []
 | .iface t p,F=>RM p fun sv ds=>F (.iface t sv) ds
def allPs:List Pat→(List SV→List Dat→Prop)→Prop
 | [],F=>F [] []
 | p::ps,F=>RM p fun sv d=>allPs ps fun svs ds=>F (sv::svs) (d++ds)
end
def aaV:BPat→(Blk→List Dat→Prop)→Prop
 | .none,F=>F .none []
 | .cells T ps,F=>allPs ps fun svs ds=>F (.cells T svs) ds
 | .own T e,F=>∀ l,F (.own T e l) [.r l]
def Dg:List BPat→(List Blk→List Dat→Prop)→Prop
 | [],F=>F [] []
 | p::ps,F=>aaV p fun x d=>Dg ps fun xs ds=>F (x::xs) (d++ds)
mutual
def bS:Pat→List Dat→SV×List Dat
 | .skip,ds=>(.dead,ds)
 | .int k,.i n::ds=>(.int k n,ds)
 | .bool,.b b::ds=>(.bool b,ds)
 | .str,.s l::ds=>(.str l,ds)
 | .rd e,.r l::ds=>(.rd e l,ds)
 | .own i,ds=>(.own i,ds)
 | .ptr i c,ds=>(.ptr i c,ds)
 | .nilp,ds=>(.nilp,ds)
 | .nilf,ds=>(.nilf,ds)
 | .nils,ds=>(.nils,ds)
 | .agg ps,ds=>match instPs ps ds with | (svs,ds)=>(.agg svs,ds)
 | .arrI n k,.li l::ds=>(.arrI n k l,ds)
 | .arrB n,.lb l::ds=>(.arrB n l,ds)
 | .tup ps,ds=>match instPs ps ds with | (svs,ds)=>(.tup svs,ds)
 | .fn f ps,ds=>match instPs ps ds with | (svs,ds)=>(.fn f svs,ds)
 | .fb f ps,ds=>match instPs ps ds with | (svs,ds)=>(.fb f svs,ds)
 | .nili,ds=>(.nili,ds)
 | .iface t p,ds=>match bS p ds with | (sv,ds)=>(.iface t sv,ds)
 | _,ds=>(.dead,ds)
def instPs:List Pat→List Dat→List SV×List Dat
 | [],ds=>([],ds)
 | p::ps,ds=>match bS p ds with | (sv,ds)=>match instPs ps ds with | (svs,ds)=>(sv::svs,ds)
end
def qk:BPat→List Dat→Blk×List Dat
 | .none,ds=>(.none,ds)
 | .cells T ps,ds=>match instPs ps ds with | (svs,ds)=>(.cells T svs,ds)
 | .own T e,.r l::ds=>(.own T e l,ds)
 | _,ds=>(.none,ds)
def j6:List BPat→List Dat→List Blk×List Dat
 | [],ds=>([],ds)
 | p::ps,ds=>match qk p ds with | (x,ds)=>match j6 ps ds with | (xs,ds)=>(x::xs,ds)
mutual
def Na:Pat→List Dat→(List Dat→Prop)→Prop
 | .int _,.i _::ds,K=>K ds
 | .bool,.b _::ds,K=>K ds
 | .str,.s l::ds,K=>l.length≤9223372036854775807→K ds
 | .rd _,.r l::ds,K=>l.length≤9223372036854775807→K ds
 | .agg ps,ds,K=>impPs ps ds K
 | .arrI n _,.li l::ds,K=>l.length=n→K ds
 | .arrB n,.lb l::ds,K=>l.length=n→K ds
 | .tup ps,ds,K=>impPs ps ds K
 | .fn _ ps,ds,K=>impPs ps ds K
 | .fb _ ps,ds,K=>impPs ps ds K
 | .iface _ p,ds,K=>Na p ds K
 | _,ds,K=>K ds
def impPs:List Pat→List Dat→(List Dat→Prop)→Prop
 | [],ds,K=>K ds
 | p::ps,ds,K=>Na p ds fun ds=>impPs ps ds K
end
def abq:BPat→List Dat→(List Dat→Prop)→Prop
 | .none,ds,K=>K ds
 | .cells _ ps,ds,K=>impPs ps ds K
 | .own _ _,.r l::ds,K=>l.length≤9223372036854775807→K ds
 | .own _ _,ds,K=>K ds
def vL (hs:List Nat):Nat→List BPat→List Dat→(List Dat→Prop)→Prop
 | _,[],ds,K=>K ds
 | i,p::ps,ds,K=>bif hs.contains i then abq p ds fun ds=>vL hs (i+1) ps ds K else vL hs (i+1) ps (qk p ds).2 K
structure MS where
 ρ:List (Nat×Nat)
 β:List (Nat×Nat)
 fz:List Nat
 nw:List Nat
def bL:List Nat→Nat→Bool
 | [],_=>false
 | a::l,b=>bif Nat.beq a b then true else bL l b
def cX:List (Nat×Nat)→Nat→Option Nat
 | [],_=>none
 | (b,i)::l,j=>bif Nat.beq i j then some b else cX l j
def gJ:List (Nat×Nat)→Nat→Option Nat
 | [],_=>none
 | (b,i)::l,c=>bif Nat.beq b c then some i else gJ l c
def MS.bind (m:MS) (b i:Nat):Option MS:=
 match m with
 | ⟨ρ,β,fz,nw⟩=>match cX ρ i,gJ β b with
  | some b',some i'=>bif Nat.beq b b' then (bif Nat.beq i i' then some ⟨ρ,β,fz,nw⟩ else none) else none
  | none,none=>bif bL nw i then none else some ⟨(b,i)::ρ,(b,i)::β,fz,nw⟩
  | _,_=>none
def MS.freeze (m:MS) (b:Nat):MS:=match m with | ⟨ρ,β,fz,nw⟩=>bif bL fz b then ⟨ρ,β,fz,nw⟩ else ⟨ρ,β,b::fz,nw⟩
def MS.new (m:MS) (i:Nat):Option MS:=
 match m with
 | ⟨ρ,β,fz,nw⟩=>match cX ρ i with
  | none=>bif bL nw i then none else some ⟨ρ,β,fz,i::nw⟩
  | _=>none
section
variable (hp:List Blk)
def mz (e:List CSh) (m:MS):SV→Option (SV×List Dat×MS)
 | .rd e' l=>bif CSh.beqs e e' then some (.rd e l,[.r l],m) else none
 | .rdc e' l=>bif CSh.beqs e e' then some (.rd e l,[.r l],m) else none
 | .nils=>some (.rd e [],[.r []],m)
 | .e0=>some (.rd e [],[.r []],m)
 | .own b=>(match hp.getD b .none with
  | .own _ e' l=>bif CSh.beqs e e' then some (.rd e l,[.r l],m.freeze b) else none
  | _=>none)
 | .win b c N lo n=>(match hp.getD b .none with
  | .cells _ cs=>(match eA cs c with
   | some (_,.arrI N' k l::_)=>bif Nat.beq N' N then (bif CSh.beqs e [.int k] then some (.rd e (((l.drop lo).take n).map fun x=> [.int x]),[.r (((l.drop lo).take n).map fun x=> [.int x])],m.freeze b) else none) else none
   | _=>none)
  | _=>none)
 | _=>none
def mJ (e:List CSh):List SV→MS→Option (LD×MS)
 | [],m=>some ([],m)
 | sv::svs,m=>(match mz hp e m sv with
  | some (.rd _ l,_,m)=>(match mJ e svs m with | some (rows,m)=>some ([.sl l] ::rows,m) | none=>none)
  | _=>none)
def m6 (e:List CSh) (m:MS) (sv:SV):Option (SV×List Dat×MS):=
 match sv with
 | .sls svs=>(match e with
  | [.sl e1] =>(match mJ hp e1 svs m with | some (rows,m)=>some (.rd e rows,[.r rows],m) | none=>none)
  | _=>none)
 | sv=>mz hp e m sv
mutual
def conv:Pat→SV→MS→Option (SV×List Dat×MS)
 | .skip,sv,m=>(match sv with | .arrI .. =>none | .arrB .. =>none | _=>some (.dead,[],m))
 | .int k,sv,m=>(match sv with | .int k' n=>if k'=k then some (.int k n,[.i n],m) else none | _=>none)
 | .bool,sv,m=>(match sv with | .bool b=>some (.bool b,[.b b],m) | _=>none)
 | .str,sv,m=>(match sv with | .str l=>some (.str l,[.s l],m) | _=>none)
 | .rd e,sv,m=>m6 hp e m sv
 | .own i,sv,m=>(match sv with
  | .own b=>(match m.bind b i with | some m=>some (.own i,[],m) | none=>none)
  | .nils=>(match m.new i with | some m=>some (.own i,[],m) | none=>none)
  | _=>none)
 | .ptr i c,sv,m=>(match sv with
  | .ptr b c'=>bif Nat.beq c c' then (match m.bind b i with | some m=>some (.ptr i c,[],m) | none=>none) else none
  | _=>none)
 | .nilp,sv,m=>(match sv with | .nilp=>some (.nilp,[],m) | _=>none)
 | .nilf,sv,m=>(match sv with | .nilf=>some (.nilf,[],m) | _=>none)
 | .nils,sv,m=>(match sv with | .nils=>some (.nils,[],m) | _=>none)
 | .agg ps,sv,m=>(match sv with | .agg cs=>(match convs ps cs m with | some (svs,ds,m)=>some (.agg svs,ds,m) | none=>none) | _=>none)
 | .arrI n k,sv,m=>(match sv with | .arrI n' k' l=>if k'=k then (bif Nat.beq n n' then some (.arrI n k l,[.li l],m) else none) else none | _=>none)
 | .arrB n,sv,m=>(match sv with | .arrB n' l=>bif Nat.beq n n' then some (.arrB n l,[.lb l],m) else none | _=>none)
 | .tup ps,sv,m=>(match sv with | .tup cs=>(match convs ps cs m with | some (svs,ds,m)=>some (.tup svs,ds,m) | none=>none) | _=>none)
 | .fn f ps,sv,m=>(match sv with | .fn f' cs=>bif Nat.beq f f' then (match convs ps cs m with | some (svs,ds,m)=>some (.fn f svs,ds,m) | none=>none) else none | _=>none)
 | .fb f ps,sv,m=>(match sv with | .fb f' cs=>bif Nat.beq f f' then (match convs ps cs m with | some (svs,ds,m)=>some (.fb f svs,ds,m) | none=>none) else none | _=>none)
 | .nili,sv,m=>(match sv with | .nili=>some (.nili,[],m) | _=>none)
 | .iface t p,sv,m=>(match sv with | .iface t' v=>bif Nat.beq t t' then (match conv p v m with | some (sv,ds,m)=>some (.iface t sv,ds,m) | none=>none) else none | _=>none)
def convs:List Pat→List SV→MS→Option (List SV×List Dat×MS)
 | [],svs,m=>(match svs with | [] =>some ([],[],m) | _=>none)
 | p::ps,svs,m=>(match svs with
  | sv::svs=>(match conv p sv m with
   | some (sv,d,m)=>(match convs ps svs m with | some (svs,ds,m)=>some (sv::svs,d++ds,m) | none=>none)
   | none=>none)
  | [] =>none)
end
def iH (get:Nat→SV):List Pat→Nat→MS→Option (List SV×List Dat×MS)
 | [],_,m=>some ([],[],m)
 | .skip::ps,t,m=>(match iH get ps (t+1) m with | some (svs,ds,m)=>some (.dead::svs,ds,m) | none=>none)
 | p::ps,t,m=>(match conv hp p (get t) m with
  | some (sv,d,m)=>(match iH get ps (t+1) m with | some (svs,ds,m)=>some (sv::svs,d++ds,m) | none=>none)
  | none=>none)
def ti (i:Nat) (m:MS) (p:BPat):Option (Blk×List Dat×MS):=
 match cX m.ρ i with
 | some b=>(match p with
  | .none=>some (.none,[],m)
  | .cells T ps=>(match hp.getD b .none with
   | .cells T' cs=>bif Nat.beq T' T then (match convs hp ps cs m with | some (svs,ds,m)=>some (.cells T svs,ds,m) | none=>none) else none
   | _=>none)
  | .own T e=>(match hp.getD b .none with
   | .own T' e' l=>bif Nat.beq T' T then (bif CSh.beqs e e' then some (.own T e l,[.r l],m) else none) else none
   | _=>none))
 | none=>(match p with
  | .none=>some (.none,[],m)
  | .own T e=>bif bL m.nw i then some (.own T e [],[.r []],m) else none
  | _=>none)
def fu:List BPat→Nat→MS→Option (List Blk×List Dat×MS)
 | [],_,m=>some ([],[],m)
 | p::ps,i,m=>(match ti hp i m p with
  | some (x,d,m)=>(match fu ps (i+1) m with | some (xs,ds,m)=>some (x::xs,d++ds,m) | none=>none)
  | none=>none)
end
def kQ:Nat→List (Nat×Nat)
 | 0=> []
 | n+1=>(n,n)::kQ n
def apart:List Nat→List (Nat×Nat)→Bool
 | [],_=>true
 | b::l,ρ=>match gJ ρ b with | none=>apart l ρ | some _=>false
def Bx (n:Nat) (m:MS):List (Nat×Nat)→Bool
 | [] =>true
 | (b,i)::l=>Nat.blt i n&&Bx n m l
def oR (n:Nat):List Nat→Bool
 | [] =>true
 | b::l=>Nat.blt b n&&oR n l
def xu:Nat→Nat→List BPat→List (Nat×Nat)
 | _,0,_=> []
 | _,_,[] => []
 | i,k+1,p::ps=>match p with | .none=>xu (i+1) k ps | _=>(i,i)::xu (i+1) k ps
def MS.fine (n:Nat) (m:MS):Bool:=apart m.fz m.β&&(Bx n m m.ρ&&oR n m.nw)
def DR (n0:Nat) (hp:List Blk) (ps:List Pat) (svs:List SV) (bps:List BPat):Option (List SV×List Blk×List Dat×MS):=
 match convs hp ps svs ⟨kQ n0,xu 0 n0 bps,[],[]⟩ with
 | some (svs',ds,m)=>(match fu hp bps 0 m with
  | some (hp',ds',m)=>bif Nat.ble n0 bps.length&&m.fine bps.length then some (svs',hp',ds++ds',m) else none
  | none=>none)
 | none=>none
def NE (n0:Nat) (hp:List Blk) (get:Nat→SV) (ps:List Pat) (bps:List BPat):Option (List SV×List Blk×List Dat×MS):=
 match iH hp get ps 0 ⟨kQ n0,xu 0 n0 bps,[],[]⟩ with
 | some (svs',ds,m)=>(match fu hp bps 0 m with
  | some (hp',ds',m)=>bif Nat.ble n0 bps.length&&m.fine bps.length then some (svs',hp',ds++ds',m) else none
  | none=>none)
 | none=>none
theorem wR {hp:List Blk} {e:List CSh} {m m':MS} {sv sv':SV} {ds:List Dat} (h:mz hp e m sv=some (sv',ds,m')):∃ l,sv'= .rd e l∧ds= [.r l] :=by
 unfold mz at h
 split at h
 ·rename_i e' l
  cases hb:CSh.beqs e e' <;>rw [hb] at h <;>cases h
  exact ⟨_,rfl,rfl⟩
 ·rename_i e' l
  cases hb:CSh.beqs e e' <;>rw [hb] at h <;>cases h
  exact ⟨_,rfl,rfl⟩
 ·cases h;exact ⟨_,rfl,rfl⟩
 ·cases h;exact ⟨_,rfl,rfl⟩
 ·split at h
  ·rename_i e' l _
   cases hb:CSh.beqs e e' <;>rw [hb] at h <;>cases h
   exact ⟨_,rfl,rfl⟩
  ·cases h
 ·split at h
  ·split at h
   ·rename_i N _ _ _ N' k l _ _
    revert h
    cases hb:Nat.beq N' _ <;>intro h
    ·cases h
    ·simp only [cond_true] at h
     revert h
     cases hb2:CSh.beqs e [.int k] <;>intro h
     ·cases h
     ·cases h;exact ⟨_,rfl,rfl⟩
   ·cases h
  ·cases h
 ·cases h
theorem JW {hp:List Blk} {e:List CSh} {m m':MS} {sv sv':SV} {ds:List Dat} (h:m6 hp e m sv=some (sv',ds,m')):∃ l,sv'= .rd e l∧ds= [.r l] :=by
 unfold m6 at h
 split at h
 ·split at h
  ·split at h
   ·cases h;exact ⟨_,rfl,rfl⟩
   ·cases h
  ·cases h
 ·exact wR h
mutual
theorem vJ {hp:List Blk} :∀ {p:Pat} {sv sv':SV} {m m':MS} {ds:List Dat},conv hp p sv m=some (sv',ds,m')→(∀ F,RM p F→F sv' ds)∧∀ rest,bS p (ds++rest)=(sv',rest)
 | .skip,sv,sv',m,m',ds,h=>by
  simp only [conv] at h
  split at h
  ·cases h
  ·cases h
  ·cases h;exact ⟨fun F hF=>hF,fun rest=>rfl⟩
 | .int k,sv,sv',m,m',ds,h=>by
  simp only [conv] at h
  split at h
  ·split at h
   ·cases h;exact ⟨fun F hF=>hF _,fun rest=>rfl⟩
   ·cases h
  ·cases h
 | .bool,sv,sv',m,m',ds,h=>by
  simp only [conv] at h
  split at h
  ·cases h;exact ⟨fun F hF=>hF _,fun rest=>rfl⟩
  ·cases h
 | .str,sv,sv',m,m',ds,h=>by
  simp only [conv] at h
  split at h
  ·cases h;exact ⟨fun F hF=>hF _,fun rest=>rfl⟩
  ·cases h
 | .rd e,sv,sv',m,m',ds,h=>by
  simp only [conv] at h
  have:∃ l,sv'= .rd e l∧ds= [.r l] :=JW h
  obtain ⟨l,rfl,rfl⟩:=this
  exact ⟨fun F hF=>hF _,fun rest=>rfl⟩
 | .own i,sv,sv',m,m',ds,h=>by
  simp only [conv] at h
  split at h
  ·split at h
   ·cases h;exact ⟨fun F hF=>hF,fun rest=>rfl⟩
   ·cases h
  ·split at h
   ·cases h;exact ⟨fun F hF=>hF,fun rest=>rfl⟩
   ·cases h
  ·cases h
 | .ptr i c,sv,sv',m,m',ds,h=>by
  simp only [conv] at h
  split at h
  ·rename_i b c'
   cases hb:Nat.beq c c' <;>rw [hb] at h
   ·cases h
   ·simp only [cond_true] at h
    split at h
    ·cases h;exact ⟨fun F hF=>hF,fun rest=>rfl⟩
    ·cases h
  ·cases h
 | .nilp,sv,sv',m,m',ds,h=>by
  simp only [conv] at h
  split at h
  ·cases h;exact ⟨fun F hF=>hF,fun rest=>rfl⟩
  ·cases h
 | .nilf,sv,sv',m,m',ds,h=>by
  simp only [conv] at h
  split at h
  ·cases h;exact ⟨fun F hF=>hF,fun rest=>rfl⟩
  ·cases h
 | .nils,sv,sv',m,m',ds,h=>by
  simp only [conv] at h
  split at h
  ·cases h;exact ⟨fun F hF=>hF,fun rest=>rfl⟩
  ·cases h
 | .agg ps,sv,sv',m,m',ds,h=>by
  simp only [conv] at h
  split at h
  ·split at h
   ·rename_i svs ds' m1 hc
    cases h
    obtain ⟨h1,h2⟩:=convs_all hc
    exact ⟨fun F hF=>h1 _ hF,fun rest=>by simp only [bS,h2 rest]⟩
   ·cases h
  ·cases h
 | .arrI n k,sv,sv',m,m',ds,h=>by
  simp only [conv] at h
  split at h
  ·split at h
   ·rename_i n' k' l hk
    cases hb:Nat.beq n n' <;>rw [hb] at h <;>cases h
    exact ⟨fun F hF=>hF _,fun rest=>rfl⟩
   ·cases h
  ·cases h
 | .arrB n,sv,sv',m,m',ds,h=>by
  simp only [conv] at h
  split at h
  ·rename_i n' l
   cases hb:Nat.beq n n' <;>rw [hb] at h <;>cases h
   exact ⟨fun F hF=>hF _,fun rest=>rfl⟩
  ·cases h
 | .tup ps,sv,sv',m,m',ds,h=>by
  simp only [conv] at h
  split at h
  ·split at h
   ·rename_i svs ds' m1 hc
    cases h
    obtain ⟨h1,h2⟩:=convs_all hc
    exact ⟨fun F hF=>h1 _ hF,fun rest=>by simp only [bS,h2 rest]⟩
   ·cases h
  ·cases h
 | .fn f ps,sv,sv',m,m',ds,h=>by
  simp only [conv] at h
  split at h
  ·rename_i f' cs
   cases hb:Nat.beq f f' <;>rw [hb] at h
   ·cases h
   ·simp only [cond_true] at h
    split at h
    ·rename_i svs ds' m1 hc
     cases h
     obtain ⟨h1,h2⟩:=convs_all hc
     exact ⟨fun F hF=>h1 _ hF,fun rest=>by simp only [bS,h2 rest]⟩
    ·cases h
  ·cases h
 | .fb f ps,sv,sv',m,m',ds,h=>by
  simp only [conv] at h
  split at h
  ·rename_i f' cs
   cases hb:Nat.beq f f' <;>rw [hb] at h
   ·cases h
   ·simp only [cond_true] at h
    split at h
    ·rename_i svs ds' m1 hc
     cases h
     obtain ⟨h1,h2⟩:=convs_all hc
     exact ⟨fun F hF=>h1 _ hF,fun rest=>by simp only [bS,h2 rest]⟩
    ·cases h
  ·cases h
 | .nili,sv,sv',m,m',ds,h=>by
  simp only [conv] at h
  split at h
  ·cases h;exact ⟨fun F hF=>hF,fun rest=>rfl⟩
  ·cases h
 | .iface t p,sv,sv',m,m',ds,h=>by
  simp only [conv] at h
  split at h
  ·rename_i t' v
   cases hb:Nat.beq t t' <;>rw [hb] at h
   ·cases h
   ·simp only [cond_true] at h
    split at h
    ·rename_i sv1 ds' m1 hc
     cases h
     obtain ⟨h1,h2⟩:=vJ hc
     exact ⟨fun F hF=>h1 _ hF,fun rest=>by simp only [bS,h2 rest]⟩
    ·cases h
  ·cases h
theorem convs_all {hp:List Blk} :∀ {ps:List Pat} {svs svs':List SV} {m m':MS} {ds:List Dat},convs hp ps svs m=some (svs',ds,m')→(∀ F,allPs ps F→F svs' ds)∧∀ rest,instPs ps (ds++rest)=(svs',rest)
 | [],svs,svs',m,m',ds,h=>by
  simp only [convs] at h
  split at h
  ·cases h;exact ⟨fun F hF=>hF,fun rest=>rfl⟩
  ·cases h
 | p::ps,svs,svs',m,m',ds,h=>by
  simp only [convs] at h
  split at h
  ·split at h
   ·rename_i sv1 d m1 h1
    split at h
    ·rename_i svs2 ds2 m2 h2
     cases h
     obtain ⟨a1,a2⟩:=vJ h1
     obtain ⟨b1,b2⟩:=convs_all h2
     refine ⟨fun F hF=>b1 _ (a1 _ hF),fun rest=> ?_⟩
     simp only [instPs,dO,a2,b2]
    ·cases h
   ·cases h
  ·cases h
end
theorem tb {hp:List Blk} {get:Nat→SV} :∀ {ps:List Pat} {t:Nat} {svs':List SV} {m m':MS} {ds:List Dat},iH hp get ps t m=some (svs',ds,m')→(∀ F,allPs ps F→F svs' ds)∧∀ rest,instPs ps (ds++rest)=(svs',rest)
 | [],t,svs',m,m',ds,h=>by
  simp only [iH] at h
  cases h;exact ⟨fun F hF=>hF,fun rest=>rfl⟩
 | p::ps,t,svs',m,m',ds,h=>by
  have gen:(match conv hp p (get t) m with
    | some (sv,d,m)=>(match iH hp get ps (t+1) m with | some (svs,ds,m)=>some (sv::svs,d++ds,m) | none=>none)
    | none=>none)=some (svs',ds,m')→(∀ F,allPs (p::ps) F→F svs' ds)∧∀ rest,instPs (p::ps) (ds++rest)=(svs',rest):=fun h=>by
   split at h
   ·rename_i sv1 d m1 h1
    split at h
    ·rename_i svs2 ds2 m2 h2
     cases h
     obtain ⟨a1,a2⟩:=vJ h1
     obtain ⟨b1,b2⟩:=tb h2
     refine ⟨fun F hF=>b1 _ (a1 _ hF),fun rest=> ?_⟩
     simp only [instPs,dO,a2,b2]
    ·cases h
   ·cases h
  cases p with
  | skip=>
   simp only [iH] at h
   split at h
   ·rename_i svs2 ds2 m2 h2
    cases h
    obtain ⟨b1,b2⟩:=tb h2
    exact ⟨fun F hF=>b1 _ hF,fun rest=>by simp only [instPs,bS,b2]⟩
   ·cases h
  | _=>exact gen h
theorem OB {hp:List Blk} {i:Nat} {m m':MS} {p:BPat} {x:Blk} {ds:List Dat} (h:ti hp i m p=some (x,ds,m')):(∀ F,aaV p F→F x ds)∧∀ rest,qk p (ds++rest)=(x,rest):=by
 unfold ti at h
 split at h
 ·cases p with
  | none=>cases h;exact ⟨fun F hF=>hF,fun rest=>rfl⟩
  | cells T ps=>
   simp only at h
   split at h
   ·rename_i T' cs _
    cases hb:Nat.beq T' T <;>rw [hb] at h
    ·cases h
    ·simp only [cond_true] at h
     split at h
     ·rename_i svs ds' m1 hc
      cases h
      obtain ⟨h1,h2⟩:=convs_all hc
      exact ⟨fun F hF=>h1 _ hF,fun rest=>by simp only [qk,h2 rest]⟩
     ·cases h
   ·cases h
  | own T e=>
   simp only at h
   split at h
   ·rename_i T' e' l _
    cases hb:Nat.beq T' T <;>rw [hb] at h
    ·cases h
    ·simp only [cond_true] at h
     cases hb2:CSh.beqs e e' <;>rw [hb2] at h <;>cases h
     exact ⟨fun F hF=>hF _,fun rest=>rfl⟩
   ·cases h
 ·cases p with
  | none=>cases h;exact ⟨fun F hF=>hF,fun rest=>rfl⟩
  | cells T ps=>cases h
  | own T e=>
   simp only at h
   cases hb:bL m.nw i <;>rw [hb] at h <;>cases h
   exact ⟨fun F hF=>hF _,fun rest=>rfl⟩
theorem hH {hp:List Blk} :∀ {ps:List BPat} {i:Nat} {m m':MS} {xs:List Blk} {ds:List Dat},fu hp ps i m=some (xs,ds,m')→(∀ F,Dg ps F→F xs ds)∧(∀ rest,j6 ps (ds++rest)=(xs,rest))∧xs.length=ps.length
 | [],i,m,m',xs,ds,h=>by
  simp only [fu] at h
  cases h;exact ⟨fun F hF=>hF,fun rest=>rfl,rfl⟩
 | p::ps,i,m,m',xs,ds,h=>by
  simp only [fu] at h
  split at h
  ·rename_i x d m1 h1
   split at h
   ·rename_i xs2 ds2 m2 h2
    cases h
    obtain ⟨a1,a2⟩:=OB h1
    obtain ⟨b1,b2,b3⟩:=hH h2
    refine ⟨fun F hF=>b1 _ (a1 _ hF),fun rest=> ?_,by simp [b3]⟩
    simp only [j6,dO,a2,b2]
   ·cases h
  ·cases h
theorem FA {n0:Nat} {hp hp':List Blk} {ps:List Pat} {svs svs':List SV} {bps:List BPat} {ds:List Dat} {m:MS} (h:DR n0 hp ps svs bps=some (svs',hp',ds,m)):
  ∃ ds1 ds2 m1,ds=ds1++ds2∧convs hp ps svs ⟨kQ n0,xu 0 n0 bps,[],[]⟩=some (svs',ds1,m1)∧fu hp bps 0 m1=some (hp',ds2,m)∧n0≤bps.length∧m.fine bps.length=true:=by
 unfold DR at h
 split at h
 ·rename_i s1 d1 m1 h1
  split at h
  ·rename_i x2 d2 m2 h2
   cases hb:(Nat.ble n0 bps.length&&m2.fine bps.length) <;>rw [hb] at h <;>cases h
   simp only [cV,Nat.ble_eq] at hb
   exact ⟨d1,d2,m1,rfl,h1,h2,hb.1,hb.2⟩
  ·cases h
 ·cases h
theorem OF {n0:Nat} {hp hp':List Blk} {ps:List Pat} {get:Nat→SV} {svs':List SV} {bps:List BPat} {ds:List Dat} {m:MS} (h:NE n0 hp get ps bps=some (svs',hp',ds,m)):
  ∃ ds1 ds2 m1,ds=ds1++ds2∧iH hp get ps 0 ⟨kQ n0,xu 0 n0 bps,[],[]⟩=some (svs',ds1,m1)∧fu hp bps 0 m1=some (hp',ds2,m)∧n0≤bps.length∧m.fine bps.length=true:=by
 unfold NE at h
 split at h
 ·rename_i s1 d1 m1 h1
  split at h
  ·rename_i x2 d2 m2 h2
   cases hb:(Nat.ble n0 bps.length&&m2.fine bps.length) <;>rw [hb] at h <;>cases h
   simp only [cV,Nat.ble_eq] at hb
   exact ⟨d1,d2,m1,rfl,h1,h2,hb.1,hb.2⟩
  ·cases h
 ·cases h
section
variable (Im:Nat→Prop) (ι:Nat→Option Value) (hp:List Blk) (m:MS)
def jb:Nat→Prop:=fun r=>Im r∨∃ b v,bL m.fz b=true∧ι b=some v∧aP (hp.getD b .none)=true∧aH v=some r
def ιW:Nat→Option Value:=fun i=>match cX m.ρ i with | some b=>ι b | none=>if bL m.nw i=true then some (.slice none 0 0) else none
end
structure MS.le (m m':MS):Prop where
 rho:∀ b i,cX m.ρ i=some b→cX m'.ρ i=some b
 fz:∀ b,bL m.fz b=true→bL m'.fz b=true
 nw:∀ i,bL m.nw i=true→bL m'.nw i=true
structure MS.Ok (D:Nat→Prop) (m:MS):Prop where
 nw:∀ i,bL m.nw i=true→cX m.ρ i=none
 inj:∀ i b,cX m.ρ i=some b→D i∨gJ m.β b=some i
theorem MS.le.refl (m:MS):m.le m:=⟨fun _ _ h=>h,fun _ h=>h,fun _ h=>h⟩
theorem MS.le.trans {m m' m'':MS} (h:m.le m') (k:m'.le m''):m.le m'':=⟨fun b i e=>k.rho b i (h.rho b i e),fun b e=>k.fz b (h.fz b e),fun i e=>k.nw i (h.nw i e)⟩
theorem qx {D:Nat→Prop} {m m':MS} {b i:Nat} (h:m.bind b i=some m'):m.le m'∧cX m'.ρ i=some b∧(m.Ok D→m'.Ok D):=by
 obtain ⟨ρ,β,fz,nw⟩:=m
 simp only [MS.bind] at h
 split at h
 ·rename_i b' i' h1 h2
  cases hb:Nat.beq b b' <;>rw [hb] at h
  ·cases h
  ·simp only [cond_true] at h
   cases hi:Nat.beq i i' <;>rw [hi] at h <;>cases h
   refine ⟨.refl _,?_,id⟩
   cases aD.1 hb
   exact h1
 ·rename_i h1 h2
  cases hn:bL nw i <;>rw [hn] at h <;>cases h
  refine ⟨⟨fun b' j e=> ?_,fun _ h=>h,fun _ h=>h⟩,?_,fun hk=>⟨fun j hj=> ?_,fun j c hj=> ?_⟩⟩
  ·show (bif Nat.beq i j then some b else cX ρ j)=some b'
   cases hij:Nat.beq i j with
   | false=>exact e
   | true=>
    cases aD.1 hij
    rw [show cX ρ i=none from h1] at e
    cases e
  ·show (bif Nat.beq i i then some b else cX ρ i)=some b
   rw [Nat.beq_refl];rfl
  ·show (bif Nat.beq i j then some b else cX ρ j)=none
   cases hij:Nat.beq i j with
   | false=>exact hk.nw j hj
   | true=>cases aD.1 hij;rw [hn] at hj;cases hj
  ·have hj':(bif Nat.beq i j then some b else cX ρ j)=some c:=hj
   show D j∨(bif Nat.beq b c then some i else gJ β c)=some j
   cases hij:Nat.beq i j with
   | true=>
    rw [hij] at hj'
    cases hj'
    cases aD.1 hij
    rw [Nat.beq_refl];exact .inr rfl
   | false=>
    rw [hij] at hj'
    rcases hk.inj j c hj' with h | this
    ·exact .inl h
    ·right
     cases hbc:Nat.beq b c with
     | false=>exact this
     | true=>
      cases aD.1 hbc
      rw [show gJ β b=none from h2] at this
      cases this
 ·cases h
theorem HT {D:Nat→Prop} {m m':MS} {i:Nat} (h:m.new i=some m'):m.le m'∧bL m'.nw i=true∧(m.Ok D→m'.Ok D):=by
 obtain ⟨ρ,β,fz,nw⟩:=m
 simp only [MS.new] at h
 split at h
 ·rename_i h1
  cases hn:bL nw i <;>rw [hn] at h <;>cases h
  refine ⟨⟨fun _ _ h=>h,fun _ h=>h,fun j hj=> ?_⟩,?_,fun hk=>⟨fun j hj=> ?_,hk.inj⟩⟩
  ·show (bif Nat.beq i j then true else bL nw j)=true
   rw [show bL nw j=true from hj];cases Nat.beq i j <;>rfl
  ·show (bif Nat.beq i i then true else bL nw i)=true
   rw [Nat.beq_refl];rfl
  ·have hj':(bif Nat.beq i j then true else bL nw j)=true:=hj
   cases hij:Nat.beq i j with
   | true=>cases aD.1 hij;exact h1
   | false=>rw [hij] at hj';exact hk.nw j hj'
 ·cases h
theorem mH {D:Nat→Prop} (m:MS) (b:Nat):m.le (m.freeze b)∧bL (m.freeze b).fz b=true∧(m.Ok D→(m.freeze b).Ok D):=by
 obtain ⟨ρ,β,fz,nw⟩:=m
 simp only [MS.freeze]
 cases hn:bL fz b with
 | true=>exact ⟨.refl _,hn,id⟩
 | false=>
  refine ⟨⟨fun _ _ h=>h,fun c hc=> ?_,fun _ h=>h⟩,?_,fun hk=>⟨hk.nw,hk.inj⟩⟩
  ·show (bif Nat.beq b c then true else bL fz c)=true
   rw [show bL fz c=true from hc];cases Nat.beq b c <;>rfl
  ·show (bif Nat.beq b b then true else bL fz b)=true
   rw [Nat.beq_refl];rfl
theorem Dz {D:Nat→Prop} {hp:List Blk} {e:List CSh} {m m':MS} {sv sv':SV} {ds:List Dat} (h:mz hp e m sv=some (sv',ds,m')):m.le m'∧(m.Ok D→m'.Ok D):=by
 unfold mz at h
 split at h
 ·rename_i e' l
  cases hb:CSh.beqs e e' <;>rw [hb] at h <;>cases h
  exact ⟨.refl _,id⟩
 ·rename_i e' l
  cases hb:CSh.beqs e e' <;>rw [hb] at h <;>cases h
  exact ⟨.refl _,id⟩
 ·cases h;exact ⟨.refl _,id⟩
 ·cases h;exact ⟨.refl _,id⟩
 ·split at h
  ·rename_i e' l _
   cases hb:CSh.beqs e e' <;>rw [hb] at h <;>cases h
   exact ⟨(mH (D:=D) _ _).1,(mH (D:=D) _ _).2.2⟩
  ·cases h
 ·split at h
  ·split at h
   ·rename_i N _ _ _ N' k l _ _
    revert h
    cases hb:Nat.beq N' _ <;>intro h
    ·cases h
    ·simp only [cond_true] at h
     revert h
     cases hb2:CSh.beqs e [.int k] <;>intro h
     ·cases h
     ·cases h;exact ⟨(mH (D:=D) _ _).1,(mH (D:=D) _ _).2.2⟩
   ·cases h
  ·cases h
 ·cases h
theorem vo {D:Nat→Prop} {hp:List Blk} {e:List CSh} :∀ {svs:List SV} {m m':MS} {rows:LD},mJ hp e svs m=some (rows,m')→m.le m'∧(m.Ok D→m'.Ok D)
 | [],m,m',rows,h=>by
  simp only [mJ] at h
  cases h;exact ⟨.refl _,id⟩
 | sv::svs,m,m',rows,h=>by
  simp only [mJ] at h
  split at h
  ·rename_i m1 h1
   split at h
   ·rename_i rows' m2 h2
    cases h
    obtain ⟨a1,a2⟩:=Dz (D:=D) h1
    obtain ⟨b1,b2⟩:=vo (D:=D) h2
    exact ⟨a1.trans b1,fun k=>b2 (a2 k)⟩
   ·cases h
  ·cases h
theorem Or {D:Nat→Prop} {hp:List Blk} {e:List CSh} {m m':MS} {sv sv':SV} {ds:List Dat} (h:m6 hp e m sv=some (sv',ds,m')):m.le m'∧(m.Ok D→m'.Ok D):=by
 unfold m6 at h
 split at h
 ·split at h
  ·split at h
   ·rename_i h1
    cases h;exact vo h1
   ·cases h
  ·cases h
 ·exact Dz h
mutual
theorem tN {D:Nat→Prop} {hp:List Blk} :∀ {p:Pat} {sv sv':SV} {m m':MS} {ds:List Dat},conv hp p sv m=some (sv',ds,m')→m.le m'∧(m.Ok D→m'.Ok D)
 | .skip,sv,sv',m,m',ds,h=>by
  simp only [conv] at h
  split at h <;>cases h
  exact ⟨.refl _,id⟩
 | .int k,sv,sv',m,m',ds,h=>by
  simp only [conv] at h
  split at h
  ·split at h <;>cases h
   exact ⟨.refl _,id⟩
  ·cases h
 | .bool,sv,sv',m,m',ds,h=>by
  simp only [conv] at h
  split at h <;>cases h
  exact ⟨.refl _,id⟩
 | .str,sv,sv',m,m',ds,h=>by
  simp only [conv] at h
  split at h <;>cases h
  exact ⟨.refl _,id⟩
 | .rd e,sv,sv',m,m',ds,h=>by
  simp only [conv] at h
  exact Or h
 | .own i,sv,sv',m,m',ds,h=>by
  simp only [conv] at h
  split at h
  ·split at h
   ·rename_i hb;cases h;exact ⟨(qx (D:=D) hb).1,(qx (D:=D) hb).2.2⟩
   ·cases h
  ·split at h
   ·rename_i hb;cases h;exact ⟨(HT (D:=D) hb).1,(HT (D:=D) hb).2.2⟩
   ·cases h
  ·cases h
 | .ptr i c,sv,sv',m,m',ds,h=>by
  simp only [conv] at h
  split at h
  ·rename_i b c'
   cases hb:Nat.beq c c' <;>rw [hb] at h
   ·cases h
   ·simp only [cond_true] at h
    split at h
    ·rename_i hb;cases h;exact ⟨(qx (D:=D) hb).1,(qx (D:=D) hb).2.2⟩
    ·cases h
  ·cases h
 | .nilp,sv,sv',m,m',ds,h=>by
  simp only [conv] at h
  split at h <;>cases h
  exact ⟨.refl _,id⟩
 | .nilf,sv,sv',m,m',ds,h=>by
  simp only [conv] at h
  split at h <;>cases h
  exact ⟨.refl _,id⟩
 | .nils,sv,sv',m,m',ds,h=>by
  simp only [conv] at h
  split at h <;>cases h
  exact ⟨.refl _,id⟩
 | .agg ps,sv,sv',m,m',ds,h=>by
  simp only [conv] at h
  split at h
  ·split at h
   ·rename_i hc;cases h;exact convs_le hc
   ·cases h
  ·cases h
 | .arrI n k,sv,sv',m,m',ds,h=>by
  simp only [conv] at h
  split at h
  ·split at h
   ·rename_i n' k' l hk
    cases hb:Nat.beq n n' <;>rw [hb] at h <;>cases h
    exact ⟨.refl _,id⟩
   ·cases h
  ·cases h
 | .arrB n,sv,sv',m,m',ds,h=>by
  simp only [conv] at h
  split at h
  ·rename_i n' l
   cases hb:Nat.beq n n' <;>rw [hb] at h <;>cases h
   exact ⟨.refl _,id⟩
  ·cases h
 | .tup ps,sv,sv',m,m',ds,h=>by
  simp only [conv] at h
  split at h
  ·split at h
   ·rename_i hc;cases h;exact convs_le hc
   ·cases h
  ·cases h
 | .fn f ps,sv,sv',m,m',ds,h=>by
  simp only [conv] at h
  split at h
  ·rename_i f' cs
   cases hb:Nat.beq f f' <;>rw [hb] at h
   ·cases h
   ·simp only [cond_true] at h
    split at h
    ·rename_i hc;cases h;exact convs_le hc
    ·cases h
  ·cases h
 | .fb f ps,sv,sv',m,m',ds,h=>by
  simp only [conv] at h
  split at h
  ·rename_i f' cs
   cases hb:Nat.beq f f' <;>rw [hb] at h
   ·cases h
   ·simp only [cond_true] at h
    split at h
    ·rename_i hc;cases h;exact convs_le hc
    ·cases h
  ·cases h
 | .nili,sv,sv',m,m',ds,h=>by
  simp only [conv] at h
  split at h <;>cases h
  exact ⟨.refl _,id⟩
 | .iface t p,sv,sv',m,m',ds,h=>by
  simp only [conv] at h
  split at h
  ·rename_i t' v
   cases hb:Nat.beq t t' <;>rw [hb] at h
   ·cases h
   ·simp only [cond_true] at h
    split at h
    ·rename_i hc;cases h;exact tN hc
    ·cases h
  ·cases h
theorem convs_le {D:Nat→Prop} {hp:List Blk} :∀ {ps:List Pat} {svs svs':List SV} {m m':MS} {ds:List Dat},convs hp ps svs m=some (svs',ds,m')→m.le m'∧(m.Ok D→m'.Ok D)
 | [],svs,svs',m,m',ds,h=>by
  simp only [convs] at h
  split at h <;>cases h
  exact ⟨.refl _,id⟩
 | p::ps,svs,svs',m,m',ds,h=>by
  simp only [convs] at h
  split at h
  ·split at h
   ·rename_i h1
    split at h
    ·rename_i h2
     cases h
     exact ⟨(tN (D:=D) h1).1.trans (convs_le (D:=D) h2).1,fun hk=>(convs_le h2).2 ((tN h1).2 hk)⟩
    ·cases h
   ·cases h
  ·cases h
end
theorem qN {D:Nat→Prop} {hp:List Blk} {get:Nat→SV} :∀ {ps:List Pat} {t:Nat} {svs':List SV} {m m':MS} {ds:List Dat},iH hp get ps t m=some (svs',ds,m')→m.le m'∧(m.Ok D→m'.Ok D)
 | [],t,svs',m,m',ds,h=>by
  simp only [iH] at h
  cases h;exact ⟨.refl _,id⟩
 | p::ps,t,svs',m,m',ds,h=>by
  have gen:(match conv hp p (get t) m with
    | some (sv,d,m)=>(match iH hp get ps (t+1) m with | some (svs,ds,m)=>some (sv::svs,d++ds,m) | none=>none)
    | none=>none)=some (svs',ds,m')→m.le m'∧(m.Ok D→m'.Ok D):=fun h=>by
   split at h
   ·rename_i h1
    split at h
    ·rename_i h2
     cases h
     exact ⟨(tN (D:=D) h1).1.trans (qN (D:=D) h2).1,fun hk=>(qN h2).2 ((tN h1).2 hk)⟩
    ·cases h
   ·cases h
  cases p with
  | skip=>
   simp only [iH] at h
   split at h
   ·rename_i h2;cases h;exact qN h2
   ·cases h
  | _=>exact gen h
theorem Bu {D:Nat→Prop} {hp:List Blk} {i:Nat} {m m':MS} {p:BPat} {x:Blk} {ds:List Dat} (h:ti hp i m p=some (x,ds,m')):m.le m'∧(m.Ok D→m'.Ok D):=by
 unfold ti at h
 split at h
 ·cases p with
  | none=>cases h;exact ⟨.refl _,id⟩
  | cells T ps=>
   simp only at h
   split at h
   ·rename_i T' cs _
    cases hb:Nat.beq T' T <;>rw [hb] at h
    ·cases h
    ·simp only [cond_true] at h
     split at h
     ·rename_i hc;cases h;exact convs_le hc
     ·cases h
   ·cases h
  | own T e=>
   simp only at h
   split at h
   ·rename_i T' e' l _
    cases hb:Nat.beq T' T <;>rw [hb] at h
    ·cases h
    ·simp only [cond_true] at h
     cases hb2:CSh.beqs e e' <;>rw [hb2] at h <;>cases h
     exact ⟨.refl _,id⟩
   ·cases h
 ·cases p with
  | none=>cases h;exact ⟨.refl _,id⟩
  | cells T ps=>cases h
  | own T e=>
   simp only at h
   cases hb:bL m.nw i <;>rw [hb] at h <;>cases h
   exact ⟨.refl _,id⟩
theorem j4 {D:Nat→Prop} {hp:List Blk} :∀ {ps:List BPat} {i:Nat} {m m':MS} {xs:List Blk} {ds:List Dat},fu hp ps i m=some (xs,ds,m')→m.le m'∧(m.Ok D→m'.Ok D)
 | [],i,m,m',xs,ds,h=>by
  simp only [fu] at h
  cases h;exact ⟨.refl _,id⟩
 | p::ps,i,m,m',xs,ds,h=>by
  simp only [fu] at h
  split at h
  ·rename_i h1
   split at h
   ·rename_i h2
    cases h
    exact ⟨(Bu (D:=D) h1).1.trans (j4 (D:=D) h2).1,fun hk=>(j4 h2).2 ((Bu h1).2 hk)⟩
   ·cases h
  ·cases h
section
variable {Im:Nat→Prop} {ι:Nat→Option Value} {w:World} {hp:List Blk} {mf:MS} {D:Nat→Prop}
theorem RH {hp:List Blk} {b:Nat} {T e l} (h:hp.getD b .none= .own T e l):aP (hp.getD b .none)=true:=by rw [h];rfl
theorem Aw (hh:HV Im ι w hp) {e:List CSh} {m m':MS} {sv sv':SV} {ds:List Dat} {v:Value} (h:mz hp e m sv=some (sv',ds,m')) (hle:m'.le mf) (hv:VRel Im ι w sv v):VRel (jb Im ι hp mf) (ιW ι mf) w sv' v:=by
 have mono:∀ {sh cd v},CRel Im w sh cd v→CRel (jb Im ι hp mf) w sh cd v:=fun h=>h.mono (fun _=> .inl) fun _ _=>rfl
 have fmono:∀ {e l xs},FlatRel Im w e l xs→FlatRel (jb Im ι hp mf) w e l xs:=fun h=>h.mono (fun _=> .inl) fun _ _=>rfl
 unfold mz at h
 split at h
 ·rename_i e' l
  cases hb:CSh.beqs e e' <;>rw [hb] at h <;>cases h
  cases CSh.beqs_eq _ _ hb
  exact mono hv
 ·rename_i e' l
  cases hb:CSh.beqs e e' <;>rw [hb] at h <;>cases h
  cases CSh.beqs_eq _ _ hb
  exact mono hv.1
 ·cases h
  cases (show v= .slice none 0 0 from hv)
  exact CRel.sl0 _ _ _ (Nat.zero_le _)
 ·cases h
  obtain ⟨a,rfl⟩:=hv
  exact CRel.sl0 _ _ _ (Nat.zero_le _)
 ·rename_i b
  split at h
  ·rename_i T' e' l hblk
   cases hb:CSh.beqs e e' <;>rw [hb] at h <;>cases h
   cases CSh.beqs_eq _ _ hb
   have hfz:=hle.fz b (mH (D:=fun _=>True) m b).2.1
   obtain ⟨a,cap,h1,h2,h3,h4⟩:=rH (x:= .own b) (e:=e) (l:=l) hh (by unfold Bq;simp only [hblk]) hv
   rcases Nat.eq_zero_or_pos l.length with h0 | h0
   ·have:l= [] :=List.length_eq_zero_iff.1 h0
    subst this
    subst h1
    exact CRel.sl0 _ _ _ h3
   ·obtain ⟨ad,xs,rfl,h5,h6⟩:=h4 h0
    subst h1
    refine CRel.sl _ _ ad cap xs h2 h3 (.inr ⟨b,_,hfz,hv.1,RH hblk,?_⟩) (fmono h5) h6
    simp only [aH]
    rw [if_neg (by omega)]
  ·cases h
 ·rename_i b c N lo n
  split at h
  ·rename_i T' cs hblk
   split at h
   ·rename_i a N' k L d hsp
    revert h
    cases hb:Nat.beq N' N <;>intro h
    ·cases h
    ·simp only [cond_true] at h
     revert h
     cases hb2:CSh.beqs e [.int k] <;>intro h
     ·cases h
     ·cases h
      cases CSh.beqs_eq _ _ hb2
      have hN:=aD.1 hb
      have hfz:=hle.fz b (mH (D:=fun _=>True) m b).2.1
      obtain ⟨a,cap,h1,h2,h3,h4⟩:=rH (x:= .win b c N lo n) hh (by unfold Bq;simp only [hblk,hsp];rw [if_pos hN]) hv
      generalize hl:(((L.drop lo).take n).map fun x=> [CD.int x])=l at h1 h2 h4 ⊢
      rcases Nat.eq_zero_or_pos l.length with h0 | h0
      ·have:l= [] :=List.length_eq_zero_iff.1 h0
       subst this
       subst h1
       exact CRel.sl0 _ _ _ h3
      ·obtain ⟨ad,xs,rfl,h5,h6⟩:=h4 h0
       obtain ⟨r,cap',g1,g2,_⟩:=hv
       rw [h1] at g2
       injection g2 with g3 g4 g5
       injection g3 with g3
       subst g3
       subst h1
       refine CRel.sl _ _ _ cap xs h2 h3 (.inr ⟨b,_,hfz,g1,?_,rfl⟩) (fmono h5) h6
       rw [hblk];rfl
   ·cases h
  ·cases h
 ·cases h
theorem Av (hh:HV Im ι w hp) {e:List CSh} :∀ {svs:List SV} {m m':MS} {rows:LD} {vs:List Value},mJ hp e svs m=some (rows,m')→m'.le mf→VRels Im ι w svs vs→
  FlatRel (jb Im ι hp mf) w [.sl e] rows vs∧rows.length=svs.length
 | [],m,m',rows,vs,h,hle,hv=>by
  simp only [mJ] at h
  cases h
  cases (show vs= [] from hv)
  exact ⟨.nil _,rfl⟩
 | sv::svs,m,m',rows,vs,h,hle,hv=>by
  simp only [mJ] at h
  obtain ⟨v,vs',rfl,hv1,hv2⟩:=hv
  split at h
  ·rename_i e' l ds' m1 h1
   split at h
   ·rename_i rows' m2 h2
    cases h
    obtain ⟨l',hl,_⟩:=wR h1
    cases hl
    have hle1:=((vo (D:=fun _=>True) h2).1).trans hle
    have hc:=Aw hh h1 hle1 hv1
    obtain ⟨k1,k2⟩:=Av hh h2 hle hv2
    exact ⟨.cons _ _ [v] _ _ (.cons _ _ _ _ _ _ hc .nil) k1,by simp [k2]⟩
   ·cases h
  ·cases h
theorem NC (hh:HV Im ι w hp) {e:List CSh} {m m':MS} {sv sv':SV} {ds:List Dat} {v:Value} (h:m6 hp e m sv=some (sv',ds,m')) (hle:m'.le mf) (hv:VRel Im ι w sv v):VRel (jb Im ι hp mf) (ιW ι mf) w sv' v:=by
 unfold m6 at h
 split at h
 ·rename_i svs
  split at h
  ·split at h
   ·rename_i rows m1 h1
    cases h
    obtain ⟨ad,vs,rfl,g1,g2,g3,g4⟩:=hv
    obtain ⟨k1,k2⟩:=Av hh h1 hle g3
    show CRel (jb Im ι hp mf) w (.sl _) (.sl rows) _
    rcases Nat.eq_zero_or_pos svs.length with h0 | h0
    ·have:rows= [] :=List.length_eq_zero_iff.1 (k2.trans h0)
     subst this
     rw [h0]
     exact CRel.sl0 _ _ _ (Nat.zero_le _)
    ·have hc:=CRel.sl (Im:=jb Im ι hp mf) (w:=w) _ rows ad svs.length vs (by omega) g1 (.inl g2) k1 g4
     rw [k2] at hc
     exact hc
   ·cases h
  ·cases h
 ·exact Aw hh h hle hv
theorem ιW_bind {b i:Nat} {v:Value} (h:cX mf.ρ i=some b) (hb:ι b=some v):ιW ι mf i=some v:=by unfold ιW;rw [h];exact hb
theorem ιW_new (hk:mf.Ok D) {i:Nat} (h:bL mf.nw i=true):ιW ι mf i=some (.slice none 0 0):=by unfold ιW;rw [hk.nw i h];simp [h]
theorem OK {hp:List Blk} {p:Pat} {n:Nat} {k:IntKind} {l:List Int} {sv':SV} {m m':MS} {ds:List Dat} (h:conv hp p (.arrI n k l) m=some (sv',ds,m')):sv'= .arrI n k l:=by
 cases p <;>simp only [conv,m6] at h <;>try cases h
 split at h
 ·rename_i hk
  rename_i n0 k0
  revert h
  cases hb:Nat.beq n0 n <;>intro h <;>cases h
  cases aD.1 hb;subst hk;rfl
 ·cases h
theorem Ox {hp:List Blk} {p:Pat} {n:Nat} {l:List Bool} {sv':SV} {m m':MS} {ds:List Dat} (h:conv hp p (.arrB n l) m=some (sv',ds,m')):sv'= .arrB n l:=by
 cases p <;>simp only [conv,m6] at h <;>try cases h
 rename_i n0
 revert h
 cases hb:Nat.beq n0 n <;>intro h <;>cases h
 cases aD.1 hb;rfl
def SV.isArr:SV→Bool | .arrI .. =>true | .arrB .. =>true | _=>false
theorem Dj (p:Pat) (ds:List Dat) (h1:∀ n k,p≠ .arrI n k) (h2:∀ n,p≠ .arrB n):(bS p ds).1.isArr=false:=by
 cases p <;>first | exact absurd rfl (h1 _ _) | exact absurd rfl (h2 _) | rfl | (cases ds with | nil=>rfl | cons d ds=>cases d <;>rfl)
theorem Nm {hp:List Blk} {p:Pat} {sv sv':SV} {m m':MS} {ds:List Dat} (ha:sv.isArr=false) (h:conv hp p sv m=some (sv',ds,m')):sv'.isArr=false:=by
 have h2:=(vJ h).2 []
 have h3:sv'=(bS p (ds++ [])).1:=by rw [h2]
 rw [h3]
 refine Dj p _ (fun n k e=> ?_) (fun n e=> ?_)
 ·subst e
  cases sv <;>simp only [conv] at h <;>first | cases h | cases ha
 ·subst e
  cases sv <;>simp only [conv] at h <;>first | cases h | cases ha
theorem fZ {Im:Nat→Prop} {ι:Nat→Option Value} {w:World} {s:SV} {cs:List SV} {vs:List Value} (ha:s.isArr=false):CellsRel Im ι w (s::cs) vs↔∃ v vs',vs=v::vs'∧VRel Im ι w s v∧v.oneCell'=true∧CellsRel Im ι w cs vs':=by
 rw [CellsRel.eq_def]
 cases s <;>first | rfl | cases ha
mutual
theorem vF (hh:HV Im ι w hp) (hk:mf.Ok D):∀ {p:Pat} {sv sv':SV} {m m':MS} {ds:List Dat} {v:Value},conv hp p sv m=some (sv',ds,m')→m'.le mf→VRel Im ι w sv v→VRel (jb Im ι hp mf) (ιW ι mf) w sv' v
 | .skip,sv,sv',m,m',ds,v,h,hle,hv=>by
  simp only [conv] at h
  split at h <;>cases h
  trivial
 | .int k,sv,sv',m,m',ds,v,h,hle,hv=>by
  simp only [conv] at h
  split at h
  ·split at h
   ·rename_i hk;cases h;subst hk;exact hv
   ·cases h
  ·cases h
 | .bool,sv,sv',m,m',ds,v,h,hle,hv=>by
  simp only [conv] at h
  split at h <;>cases h
  exact hv
 | .str,sv,sv',m,m',ds,v,h,hle,hv=>by
  simp only [conv] at h
  split at h <;>cases h
  exact hv
 | .rd e,sv,sv',m,m',ds,v,h,hle,hv=>by
  simp only [conv] at h
  exact NC hh h hle hv
 | .own i,sv,sv',m,m',ds,v,h,hle,hv=>by
  simp only [conv] at h
  split at h
  ·split at h
   ·rename_i hb
    cases h
    exact ⟨ιW_bind (hle.rho _ _ (qx (D:=D) hb).2.1) hv.1,hv.2⟩
   ·cases h
  ·split at h
   ·rename_i hb
    cases h
    cases (show v= .slice none 0 0 from hv)
    exact ⟨ιW_new hk (hle.nw _ (HT (D:=D) hb).2.1),_,_,_,rfl⟩
   ·cases h
  ·cases h
 | .ptr i c,sv,sv',m,m',ds,v,h,hle,hv=>by
  simp only [conv] at h
  split at h
  ·rename_i b c'
   cases hb:Nat.beq c c' <;>rw [hb] at h
   ·cases h
   ·simp only [cond_true] at h
    split at h
    ·rename_i hbd
     cases h
     cases aD.1 hb
     obtain ⟨r,h1,h2⟩:=hv
     exact ⟨r,ιW_bind (hle.rho _ _ (qx (D:=D) hbd).2.1) h1,h2⟩
    ·cases h
  ·cases h
 | .nilp,sv,sv',m,m',ds,v,h,hle,hv=>by
  simp only [conv] at h
  split at h <;>cases h
  exact hv
 | .nilf,sv,sv',m,m',ds,v,h,hle,hv=>by
  simp only [conv] at h
  split at h <;>cases h
  exact hv
 | .nils,sv,sv',m,m',ds,v,h,hle,hv=>by
  simp only [conv] at h
  split at h <;>cases h
  exact hv
 | .agg ps,sv,sv',m,m',ds,v,h,hle,hv=>by
  simp only [conv] at h
  split at h
  ·split at h
   ·rename_i hc
    cases h
    obtain ⟨vs,h1,h2⟩:=hv
    exact ⟨vs,h1,convs_cells hh hk hc hle h2⟩
   ·cases h
  ·cases h
 | .arrI n k,sv,sv',m,m',ds,v,h,hle,hv=>by
  cases sv <;>simp only [conv] at h <;>first | cases h | exact hv.elim
 | .arrB n,sv,sv',m,m',ds,v,h,hle,hv=>by
  cases sv <;>simp only [conv] at h <;>first | cases h | exact hv.elim
 | .tup ps,sv,sv',m,m',ds,v,h,hle,hv=>by
  simp only [conv] at h
  split at h
  ·split at h
   ·rename_i hc
    cases h
    obtain ⟨vs,h1,h2⟩:=hv
    exact ⟨vs,h1,convs_rel hh hk hc hle h2⟩
   ·cases h
  ·cases h
 | .fn f ps,sv,sv',m,m',ds,v,h,hle,hv=>by
  simp only [conv] at h
  split at h
  ·rename_i f' cs
   cases hb:Nat.beq f f' <;>rw [hb] at h
   ·cases h
   ·simp only [cond_true] at h
    split at h
    ·rename_i hc
     cases h
     cases aD.1 hb
     obtain ⟨vs,h1,h2⟩:=hv
     exact ⟨vs,h1,convs_rel hh hk hc hle h2⟩
    ·cases h
  ·cases h
 | .fb f ps,sv,sv',m,m',ds,v,h,hle,hv=>by
  simp only [conv] at h
  split at h
  ·rename_i f' cs
   cases hb:Nat.beq f f' <;>rw [hb] at h
   ·cases h
   ·simp only [cond_true] at h
    split at h
    ·rename_i hc
     cases h
     cases aD.1 hb
     obtain ⟨vs,h1,h2⟩:=hv
     exact ⟨vs,h1,convs_rel hh hk hc hle h2⟩
    ·cases h
  ·cases h
 | .nili,sv,sv',m,m',ds,v,h,hle,hv=>by
  simp only [conv] at h
  split at h <;>cases h
  exact hv
 | .iface t p,sv,sv',m,m',ds,v,h,hle,hv=>by
  simp only [conv] at h
  split at h
  ·rename_i t' u
   cases hb:Nat.beq t t' <;>rw [hb] at h
   ·cases h
   ·simp only [cond_true] at h
    split at h
    ·rename_i hc
     cases h
     cases aD.1 hb
     obtain ⟨v',h1,h2⟩:=hv
     exact ⟨v',h1,vF hh hk hc hle h2⟩
    ·cases h
  ·cases h
theorem convs_rel (hh:HV Im ι w hp) (hk:mf.Ok D):∀ {ps:List Pat} {svs svs':List SV} {m m':MS} {ds:List Dat} {vs:List Value},convs hp ps svs m=some (svs',ds,m')→m'.le mf→VRels Im ι w svs vs→VRels (jb Im ι hp mf) (ιW ι mf) w svs' vs
 | [],svs,svs',m,m',ds,vs,h,hle,hv=>by
  simp only [convs] at h
  split at h <;>cases h
  exact hv
 | p::ps,svs,svs',m,m',ds,vs,h,hle,hv=>by
  simp only [convs] at h
  split at h
  ·split at h
   ·rename_i h1
    split at h
    ·rename_i h2
     cases h
     obtain ⟨v,vs',rfl,k1,k2⟩:=hv
     exact ⟨v,vs',rfl,vF hh hk h1 ((convs_le (D:=D) h2).1.trans hle) k1,convs_rel hh hk h2 hle k2⟩
    ·cases h
   ·cases h
  ·cases h
theorem convs_cells (hh:HV Im ι w hp) (hk:mf.Ok D):∀ {ps:List Pat} {svs svs':List SV} {m m':MS} {ds:List Dat} {vs:List Value},convs hp ps svs m=some (svs',ds,m')→m'.le mf→CellsRel Im ι w svs vs→CellsRel (jb Im ι hp mf) (ιW ι mf) w svs' vs
 | [],svs,svs',m,m',ds,vs,h,hle,hv=>by
  simp only [convs] at h
  split at h <;>cases h
  exact hv
 | p::ps,svs,svs',m,m',ds,vs,h,hle,hv=>by
  simp only [convs] at h
  split at h
  ·rename_i sv svs0
   split at h
   ·rename_i sv1 d m1 h1
    split at h
    ·rename_i svs2 ds2 m2 h2
     cases h
     have ih:=fun vs=>convs_cells (vs:=vs) hh hk h2 hle
     have ih1:=fun v=>vF (v:=v) hh hk h1 ((convs_le (D:=D) h2).1.trans hle)
     cases ha:sv.isArr with
     | false=>
      obtain ⟨v,vs',rfl,k1,k2,k3⟩:=(fZ ha).1 hv
      exact (fZ (Nm ha h1)).2 ⟨v,vs',rfl,ih1 v k1,k2,ih vs' k3⟩
     | true=>
      cases sv <;>first | cases ha | skip
      ·cases OK h1
       obtain ⟨k1,vs',rfl,k2⟩:=aU hv
       exact dM k1 (ih vs' k2)
      ·cases Ox h1
       obtain ⟨k1,vs',rfl,k2⟩:=dl hv
       exact gm k1 (ih vs' k2)
    ·cases h
   ·cases h
  ·cases h
end
theorem xx (hh:HV Im ι w hp) (hk:mf.Ok D) {get:Nat→SV} :∀ {ps:List Pat} {t:Nat} {svs':List SV} {m m':MS} {ds:List Dat},iH hp get ps t m=some (svs',ds,m')→m'.le mf→∀ {val:Nat→Value},(∀ j,t≤j→j<t+ps.length→VRel Im ι w (get j) (val j))→
  svs'.length=ps.length∧∀ j,VRel (jb Im ι hp mf) (ιW ι mf) w (aM svs' j) (val (t+j))
 | [],t,svs',m,m',ds,h,hle,val,hv=>by
  simp only [iH] at h
  cases h
  exact ⟨rfl,fun j=>trivial⟩
 | p::ps,t,svs',m,m',ds,h,hle,val,hv=>by
  have gen:(match conv hp p (get t) m with
    | some (sv,d,m)=>(match iH hp get ps (t+1) m with | some (svs,ds,m)=>some (sv::svs,d++ds,m) | none=>none)
    | none=>none)=some (svs',ds,m')→svs'.length=(p::ps).length∧∀ j,VRel (jb Im ι hp mf) (ιW ι mf) w (aM svs' j) (val (t+j)):=fun h=>by
   split at h
   ·rename_i h1
    split at h
    ·rename_i h2
     cases h
     obtain ⟨k1,k2⟩:=xx hh hk h2 hle (val:=val) fun j a b=>hv j (by omega) (by simp;omega)
     refine ⟨by simp [k1],fun j=> ?_⟩
     cases j with
     | zero=>exact vF hh hk h1 ((qN (D:=D) h2).1.trans hle) (hv t (Nat.le_refl _) (by simp))
     | succ j=>have:=k2 j;rw [show t+1+j=t+(j+1) from by omega] at this;exact this
    ·cases h
   ·cases h
  cases p with
  | skip=>
   simp only [iH] at h
   split at h
   ·rename_i h2
    cases h
    obtain ⟨k1,k2⟩:=xx hh hk h2 hle (val:=val) fun j a b=>hv j (by omega) (by simp;omega)
    refine ⟨by simp [k1],fun j=> ?_⟩
    cases j with
    | zero=>trivial
    | succ j=>have:=k2 j;rw [show t+1+j=t+(j+1) from by omega] at this;exact this
   ·cases h
  | _=>exact gen h
theorem Pt (hh:HV Im ι w hp) (hk:mf.Ok D) {i:Nat} {m m':MS} {p:BPat} {x:Blk} {ds:List Dat} (h:ti hp i m p=some (x,ds,m')) (hle:m'.le mf):∀ v,ιW ι mf i=some v→BRel (jb Im ι hp mf) (ιW ι mf) w x v∧(aP x=true→(∃ b,cX mf.ρ i=some b∧ι b=some v∧aP (hp.getD b .none)=true)∨v= .slice none 0 0):=by
 intro v hv
 have hm:=(Bu (D:=D) h).1.trans hle
 unfold ti at h
 split at h
 ·rename_i b hb
  have hρ:=hm.rho _ _ hb
  have hv':ι b=some v:=by unfold ιW at hv;rw [hρ] at hv;exact hv
  have hB:=hh b v hv'
  cases p with
  | none=>cases h;exact ⟨trivial,fun e=>by cases e⟩
  | cells T ps=>
   simp only at h
   split at h
   ·rename_i T' cs hblk
    cases hT:Nat.beq T' T <;>rw [hT] at h
    ·cases h
    ·simp only [cond_true] at h
     split at h
     ·rename_i hc
      cases h
      cases aD.1 hT
      rw [hblk] at hB
      obtain ⟨r,vs,rfl,h1,h2⟩:=hB
      exact ⟨⟨r,vs,rfl,h1,convs_cells hh hk hc hle h2⟩,fun _=> .inl ⟨b,hρ,hv',by rw [hblk];rfl⟩⟩
     ·cases h
   ·cases h
  | own T e=>
   simp only at h
   split at h
   ·rename_i T' e' l hblk
    cases hT:Nat.beq T' T <;>rw [hT] at h
    ·cases h
    ·simp only [cond_true] at h
     cases hb2:CSh.beqs e e' <;>rw [hb2] at h <;>cases h
     cases aD.1 hT
     cases CSh.beqs_eq _ _ hb2
     rw [hblk] at hB
     obtain ⟨xs,h1,h2⟩:=hB
     exact ⟨⟨xs,h1,h2.mono (fun _=> .inl) fun _ _=>rfl⟩,fun _=> .inl ⟨b,hρ,hv',by rw [hblk];rfl⟩⟩
   ·cases h
 ·cases p with
  | none=>cases h;exact ⟨trivial,fun e=>by cases e⟩
  | cells T ps=>cases h
  | own T e=>
   simp only at h
   cases hb:bL m.nw i <;>rw [hb] at h <;>cases h
   have:=ιW_new (ι:=ι) hk (hm.nw _ hb)
   rw [this] at hv
   cases hv
   exact ⟨⟨[],⟨by simp,.inl ⟨none,rfl,rfl⟩⟩,.nil _⟩,fun _=> .inr rfl⟩
theorem qj (hh:HV Im ι w hp) (hk:mf.Ok D):∀ {ps:List BPat} {i:Nat} {m m':MS} {xs:List Blk} {ds:List Dat},fu hp ps i m=some (xs,ds,m')→m'.le mf→∀ j v,ιW ι mf (i+j)=some v→BRel (jb Im ι hp mf) (ιW ι mf) w (xs.getD j .none) v∧(aP (xs.getD j .none)=true→(∃ b,cX mf.ρ (i+j)=some b∧ι b=some v∧aP (hp.getD b .none)=true)∨v= .slice none 0 0)
 | [],i,m,m',xs,ds,h,hle,j,v,hv=>by
  simp only [fu] at h
  cases h
  exact ⟨trivial,fun e=>by cases e⟩
 | p::ps,i,m,m',xs,ds,h,hle,j,v,hv=>by
  simp only [fu] at h
  split at h
  ·rename_i h1
   split at h
   ·rename_i h2
    cases h
    cases j with
    | zero=>exact Pt hh hk h1 ((j4 (D:=D) h2).1.trans hle) v hv
    | succ j=>
     rw [show i+(j+1)=i+1+j from by omega] at hv ⊢
     exact qj hh hk h2 hle j v hv
   ·cases h
  ·cases h
theorem uU:maxLen≤9223372036854775807:=by decide
theorem Q8 {Im:Nat→Prop} {w:World} {e:List CSh} {l:LD} {v:Value} (h:CRel Im w (.sl e) (.sl l) v):l.length≤9223372036854775807:=by
 obtain ⟨a,cap,_,h2,h3,_⟩:=CRel.slice h
 have:=uU
 omega
mutual
theorem AZ {Im:Nat→Prop} {ι:Nat→Option Value} {w:World} :∀ (p:Pat) (ds:List Dat) (v:Value) (K:List Dat→Prop),VRel Im ι w (bS p ds).1 v→Na p ds K→K (bS p ds).2
 | .skip,ds,v,K,hv,h=>by cases ds <;>exact h
 | .int k,ds,v,K,hv,h=>by
  cases ds with
  | nil=>exact h
  | cons d ds=>cases d <;>exact h
 | .bool,ds,v,K,hv,h=>by
  cases ds with
  | nil=>exact h
  | cons d ds=>cases d <;>exact h
 | .str,ds,v,K,hv,h=>by
  cases ds with
  | nil=>exact h
  | cons d ds=>
   cases d <;>first | exact h | skip
   exact h (Nat.le_trans hv.2 uU)
 | .rd e,ds,v,K,hv,h=>by
  cases ds with
  | nil=>exact h
  | cons d ds=>
   cases d <;>first | exact h | skip
   exact h (Q8 hv)
 | .own i,ds,v,K,hv,h=>by cases ds <;>exact h
 | .ptr i c,ds,v,K,hv,h=>by cases ds <;>exact h
 | .nilp,ds,v,K,hv,h=>by cases ds <;>exact h
 | .nilf,ds,v,K,hv,h=>by cases ds <;>exact h
 | .nils,ds,v,K,hv,h=>by cases ds <;>exact h
 | .agg ps,ds,v,K,hv,h=>by
  obtain ⟨vs,_,k⟩:=hv
  have h':impPs ps ds K:=by cases ds <;>exact h
  exact imps_cells ps ds vs K k h'
 | .arrI n k,ds,v,K,hv,h=>by
  cases ds with
  | nil=>exact h
  | cons d ds=>
   cases d <;>first | exact h | exact hv.elim
 | .arrB n,ds,v,K,hv,h=>by
  cases ds with
  | nil=>exact h
  | cons d ds=>
   cases d <;>first | exact h | exact hv.elim
 | .tup ps,ds,v,K,hv,h=>by
  obtain ⟨vs,_,k⟩:=hv
  have h':impPs ps ds K:=by cases ds <;>exact h
  exact imps_elim ps ds vs K k h'
 | .fn f ps,ds,v,K,hv,h=>by
  obtain ⟨vs,_,k⟩:=hv
  have h':impPs ps ds K:=by cases ds <;>exact h
  exact imps_elim ps ds vs K k h'
 | .fb f ps,ds,v,K,hv,h=>by
  obtain ⟨vs,_,k⟩:=hv
  have h':impPs ps ds K:=by cases ds <;>exact h
  exact imps_elim ps ds vs K k h'
 | .nili,ds,v,K,hv,h=>by cases ds <;>exact h
 | .iface t p,ds,v,K,hv,h=>by
  obtain ⟨v',_,k⟩:=hv
  have h':Na p ds K:=by cases ds <;>exact h
  exact AZ p ds v' K k h'
theorem imps_elim {Im:Nat→Prop} {ι:Nat→Option Value} {w:World} :∀ (ps:List Pat) (ds:List Dat) (vs:List Value) (K:List Dat→Prop),VRels Im ι w (instPs ps ds).1 vs→impPs ps ds K→K (instPs ps ds).2
 | [],ds,vs,K,hv,h=>h
 | p::ps,ds,vs,K,hv,h=>by
  obtain ⟨v,vs',rfl,k1,k2⟩:=hv
  exact imps_elim ps _ vs' K k2 (AZ p ds v _ k1 h)
theorem imps_cells {Im:Nat→Prop} {ι:Nat→Option Value} {w:World} :∀ (ps:List Pat) (ds:List Dat) (vs:List Value) (K:List Dat→Prop),CellsRel Im ι w (instPs ps ds).1 vs→impPs ps ds K→K (instPs ps ds).2
 | [],ds,vs,K,hv,h=>h
 | p::ps,ds,vs,K,hv,h=>by
  have hv':CellsRel Im ι w ((bS p ds).1::(instPs ps (bS p ds).2).1) vs:=hv
  have ih:=fun v=>AZ (Im:=Im) (ι:=ι) (w:=w) p ds v (fun ds=>impPs ps ds K)
  have ih2:=fun vs'=>imps_cells (Im:=Im) (ι:=ι) (w:=w) ps (bS p ds).2 vs' K
  show K (instPs ps (bS p ds).2).2
  cases ha:(bS p ds).1.isArr with
  | false=>
   obtain ⟨v,vs',rfl,k1,k2,k3⟩:=(fZ ha).1 hv'
   exact ih2 vs' k3 (ih v k1 h)
  | true=>
   have hk:impPs ps (bS p ds).2 K:=by
    cases p with
    | arrI n k=>
     cases ds with
     | nil=>exact h
     | cons d ds=>
      cases d <;>first | exact h | skip
      exact h (aU hv').1
    | arrB n=>
     cases ds with
     | nil=>exact h
     | cons d ds=>
      cases d <;>first | exact h | skip
      exact h (dl hv').1
    | _=>
     rw [Dj _ ds (by intro n k e;cases e) (by intro n e;cases e)] at ha
     cases ha
   obtain ⟨va,vb,rfl,_,_,k2⟩:=bm hv'
   exact ih2 vb k2 hk
end
theorem OH {Im:Nat→Prop} {ι:Nat→Option Value} {w:World} (p:BPat) (ds:List Dat) (v:Value) (K:List Dat→Prop) (hv:BRel Im ι w (qk p ds).1 v) (h:abq p ds K):K (qk p ds).2:=by
 cases p with
 | none=>cases ds <;>exact h
 | cells T ps=>
  obtain ⟨r,vs,_,_,k⟩:=hv
  have h':impPs ps ds K:=by cases ds <;>exact h
  exact imps_cells ps ds vs K k h'
 | own T e=>
  cases ds with
  | nil=>exact h
  | cons d ds=>
   cases d <;>first | exact h | skip
   rename_i l
   refine h ?_
   obtain ⟨xs,hO,_⟩:=hv
   obtain ⟨a,cap,_,h2,h3,_⟩:=OwnV.slice hO
   have:=uU
   omega
mutual
theorem EK {Im:Nat→Prop} {ι:Nat→Option Value} {w:World} :∀ (s:SV) (v:Value),VRel Im ι w s v→∀ b∈s.hs,∃ u,ι b=some u
 | .agg cs,v,h,b,hb=>by obtain ⟨vs,_,k⟩:=h;exact hs_cells cs vs k b hb
 | .fn f cs,v,h,b,hb=>by obtain ⟨vs,_,k⟩:=h;exact hs_vrels cs vs k b hb
 | .fb f cs,v,h,b,hb=>by obtain ⟨vs,_,k⟩:=h;exact hs_vrels cs vs k b hb
 | .tup cs,v,h,b,hb=>by obtain ⟨vs,_,k⟩:=h;exact hs_vrels cs vs k b hb
 | .sls cs,v,h,b,hb=>by obtain ⟨_,vs,_,_,_,k,_⟩:=h;exact hs_vrels cs vs k b hb
 | .iface t s,v,h,b,hb=>by obtain ⟨v',_,k⟩:=h;exact EK s v' k b hb
 | .ptr c _,v,h,b,hb=>by
  obtain ⟨r,k,_⟩:=h
  have hb':b∈ [c] :=hb
  simp only [List.mem_singleton] at hb'
  subst hb';exact ⟨_,k⟩
 | .aptr c _ _,v,h,b,hb=>by
  obtain ⟨r,k,_⟩:=h
  have hb':b∈ [c] :=hb
  simp only [List.mem_singleton] at hb'
  subst hb';exact ⟨_,k⟩
 | .own c,v,h,b,hb=>by
  have hb':b∈ [c] :=hb
  simp only [List.mem_singleton] at hb'
  subst hb';exact ⟨_,h.1⟩
 | .lit c,v,h,b,hb=>by
  have hb':b∈ [c] :=hb
  simp only [List.mem_singleton] at hb'
  subst hb';exact ⟨_,h.1⟩
 | .win c _ _ _ _,v,h,b,hb=>by
  obtain ⟨r,cap,k,_⟩:=h
  have hb':b∈ [c] :=hb
  simp only [List.mem_singleton] at hb'
  subst hb';exact ⟨_,k⟩
 | .optr c _ _ _,v,h,b,hb=>by
  obtain ⟨r,n,cap,k,_⟩:=h
  have hb':b∈ [c] :=hb
  simp only [List.mem_singleton] at hb'
  subst hb';exact ⟨_,k⟩
 | .ow c _ _ _,v,h,b,hb=>by
  obtain ⟨r,m,cap,cap',k,_⟩:=h
  have hb':b∈ [c] :=hb
  simp only [List.mem_singleton] at hb'
  subst hb';exact ⟨_,k⟩
 | .dead,_,_,b,hb | .int ..,_,_,b,hb | .bool _,_,_,b,hb | .str _,_,_,b,hb | .nilp,_,_,b,hb | .nilf,_,_,b,hb | .rd ..,_,_,b,hb | .rdc ..,_,_,b,hb | .e0,_,_,b,hb | .nils,_,_,b,hb | .eptr ..,_,_,b,hb | .nili,_,_,b,hb | .val _,_,_,b,hb=>by
  cases (show b∈ [] from hb)
 | .arrI ..,v,h,b,hb=>h.elim
 | .arrB ..,v,h,b,hb=>h.elim
theorem hs_vrels {Im:Nat→Prop} {ι:Nat→Option Value} {w:World} :∀ (cs:List SV) (vs:List Value),VRels Im ι w cs vs→∀ b∈hsL cs,∃ u,ι b=some u
 | [],vs,h,b,hb=>by cases hb
 | s::cs,vs,h,b,hb=>by
  obtain ⟨v,vs',rfl,k1,k2⟩:=h
  rcases List.mem_append.1 (show b∈s.hs++hsL cs from hb) with hb | hb
  ·exact EK s v k1 b hb
  ·exact hs_vrels cs vs' k2 b hb
theorem hs_cells {Im:Nat→Prop} {ι:Nat→Option Value} {w:World} :∀ (cs:List SV) (vs:List Value),CellsRel Im ι w cs vs→∀ b∈hsL cs,∃ u,ι b=some u
 | [],vs,h,b,hb=>by cases hb
 | s::cs,vs,h,b,hb=>by
  have ih:=fun v=>EK (Im:=Im) (ι:=ι) (w:=w) s v
  have ih2:=fun vs'=>hs_cells (Im:=Im) (ι:=ι) (w:=w) cs vs'
  rcases List.mem_append.1 (show b∈s.hs++hsL cs from hb) with hb | hb
  ·cases ha:s.isArr with
   | false=>
    obtain ⟨v,vs',rfl,k1,_,_⟩:=(fZ ha).1 h
    exact ih v k1 b hb
   | true=>
    cases s <;>first | cases ha | skip
    ·cases (show b∈ [] from hb)
    ·cases (show b∈ [] from hb)
  ·obtain ⟨va,vb,rfl,_,_,k⟩:=bm h
   exact ih2 vb k b hb
end
theorem vn {Im:Nat→Prop} {ι:Nat→Option Value} {w:World} {hs:List Nat} (hk:∀ b∈hs,∃ u,ι b=some u):∀ (ps:List BPat) (i:Nat) (ds:List Dat) (K:List Dat→Prop),(∀ j v,ι (i+j)=some v→BRel Im ι w ((j6 ps ds).1.getD j .none) v)→vL hs i ps ds K→K (j6 ps ds).2
 | [],i,ds,K,hB,h=>h
 | p::ps,i,ds,K,hB,h=>by
  have ih:=vn hk ps (i+1) (qk p ds).2 K fun j v hj=>hB (j+1) v (by rw [← hj];congr 1;omega)
  unfold vL at h
  cases hc:hs.contains i with
  | false=>rw [hc] at h;exact ih h
  | true=>
   rw [hc] at h
   obtain ⟨u,hu⟩:=hk i (by simpa using hc)
   exact ih (OH p ds u _ (hB 0 u hu) h)
theorem wP {Im:Nat→Prop} {ι:Nat→Option Value} {w:World} :∀ (svs:List SV) (val:Nat→Value),(∀ j,VRel Im ι w (aM svs j) (val j))→∃ vs,VRels Im ι w svs vs
 | [],val,h=>⟨[],rfl⟩
 | s::svs,val,h=>by
  obtain ⟨vs,k⟩:=wP svs (fun j=>val (j+1)) fun j=>h (j+1)
  exact ⟨val 0::vs,val 0,vs,rfl,h 0,k⟩
theorem Ib:∀ n i,cX (kQ n) i=if i<n then some i else none
 | 0,i=>by simp [kQ,cX]
 | n+1,i=>by
  show (bif Nat.beq n i then some n else cX (kQ n) i)=_
  cases h:Nat.beq n i with
  | true=>cases aD.1 h;simp
  | false=>
   rw [cond_false,Ib n i]
   have:=eI.1 h
   by_cases h2:i<n
   ·rw [if_pos h2,if_pos (by omega)]
   ·rw [if_neg h2,if_neg (by omega)]
def gd:List BPat→Nat→Prop
 | [],_=>True
 | p::_,0=>p= .none
 | _::ps,i+1=>gd ps i
theorem Hm:∀ (n i:Nat) (bps:List BPat) (j:Nat),j<n→gd bps j∨gJ (xu i n bps) (i+j)=some (i+j)
 | 0,i,bps,j,h=>by omega
 | n+1,i,[],j,h=> .inl (by cases j <;>trivial)
 | n+1,i,p::ps,0,h=>by
  cases p with
  | none=>exact .inl rfl
  | _=>
   right
   show (bif Nat.beq i (i+0) then some i else _)=some (i+0)
   rw [Nat.add_zero,Nat.beq_refl];rfl
 | n+1,i,p::ps,j+1,h=>by
  have ih:=Hm n (i+1) ps j (by omega)
  rcases ih with ih | ih
  ·exact .inl ih
  ·right
   have e:i+1+j=i+(j+1):=by omega
   rw [e] at ih
   cases p with
   | none=>exact ih
   | _=>
    show (bif Nat.beq i (i+(j+1)) then some i else gJ (xu (i+1) n ps) (i+(j+1)))=_
    rw [eI.2 (by omega:i≠i+(j+1))]
    exact ih
theorem Rm (n:Nat) (bps:List BPat):(⟨kQ n,xu 0 n bps,[],[]⟩:MS).Ok (gd bps):=by
 refine ⟨fun i h=>(by cases h),fun i b h=> ?_⟩
 have h':cX (kQ n) i=some b:=h
 rw [Ib] at h'
 split at h'
 ·rename_i hlt
  cases h'
  have:=Hm n 0 bps i hlt
  rwa [Nat.zero_add] at this
 ·cases h'
theorem oL {hp:List Blk} :∀ {ps:List BPat} {i:Nat} {m m':MS} {xs:List Blk} {ds:List Dat},fu hp ps i m=some (xs,ds,m')→∀ j,gd ps j→xs.getD j .none= .none
 | [],i,m,m',xs,ds,h,j,hj=>by simp only [fu] at h;cases h;rfl
 | p::ps,i,m,m',xs,ds,h,j,hj=>by
  simp only [fu] at h
  split at h
  ·rename_i x d m1 h1
   split at h
   ·rename_i h2
    cases h
    cases j with
    | zero=>
     cases (show p= .none from hj)
     unfold ti at h1
     split at h1 <;>cases h1 <;>rfl
    | succ j=>exact oL h2 j hj
   ·cases h
  ·cases h
theorem CN:∀ {l:List Nat} {ρ:List (Nat×Nat)},apart l ρ=true→∀ b,bL l b=true→gJ ρ b=none
 | [],_,_,b,h=>by cases h
 | a::l,ρ,h,b,hb=>by
  simp only [apart] at h
  split at h
  ·rename_i h1
   have hb':(bif Nat.beq a b then true else bL l b)=true:=hb
   cases hab:Nat.beq a b with
   | true=>cases aD.1 hab;exact h1
   | false=>rw [hab] at hb';exact CN h b hb'
  ·cases h
theorem Aj {n:Nat} {m:MS} :∀ {ρ:List (Nat×Nat)},Bx n m ρ=true→∀ i b,cX ρ i=some b→i<n
 | [],_,i,b,h=>by cases h
 | (b0,i0)::ρ,h,i,b,hi=>by
  simp only [Bx,cV] at h
  have hi':(bif Nat.beq i0 i then some b0 else cX ρ i)=some b:=hi
  cases hab:Nat.beq i0 i with
  | true=>cases aD.1 hab;exact l9.1 h.1
  | false=>rw [hab] at hi';exact Aj h.2 i b hi'
theorem DJ {n:Nat} :∀ {l:List Nat},oR n l=true→∀ i,bL l i=true→i<n
 | [],_,i,h=>by cases h
 | a::l,h,i,hi=>by
  simp only [oR,cV] at h
  have hi':(bif Nat.beq a i then true else bL l i)=true:=hi
  cases hab:Nat.beq a i with
  | true=>cases aD.1 hab;exact l9.1 h.1
  | false=>rw [hab] at hi';exact DJ h.2 i hi'
structure Fine (D:Nat→Prop) (n0 n:Nat) (m:MS):Prop where
 ok:m.Ok D
 id:∀ i,i<n0→cX m.ρ i=some i
 apart:∀ b,bL m.fz b=true→gJ m.β b=none
 last:∀ i b,cX m.ρ i=some b→i<n
 nw:∀ i,bL m.nw i=true→i<n
 le:n0≤n
theorem Fj {n0 n:Nat} {bps:List BPat} {m m1:MS} (h1:(⟨kQ n0,xu 0 n0 bps,[],[]⟩:MS).le m1∧((⟨kQ n0,xu 0 n0 bps,[],[]⟩:MS).Ok (gd bps)→m1.Ok (gd bps))) (h2:m1.le m∧(m1.Ok (gd bps)→m.Ok (gd bps))) (hn:n0≤n) (hf:m.fine n=true):Fine (gd bps) n0 n m:=by
 unfold MS.fine at hf
 simp only [cV] at hf
 exact ⟨h2.2 (h1.2 (Rm n0 bps)),fun i hi=>h2.1.rho _ _ (h1.1.rho _ _ (by show cX (kQ n0) i=_;rw [Ib,if_pos hi])),fun b hb=>CN hf.1 b hb,fun i b h=>Aj hf.2.1 i b h,fun i h=>DJ hf.2.2 i h,hn⟩
theorem ιW_lt {n0 n:Nat} {m:MS} (hf:Fine D n0 n m) {i:Nat} (h:n≤i):ιW ι m i=none:=by
 unfold ιW
 cases hr:cX m.ρ i with
 | some b=>have:=hf.last i b hr;omega
 | none=>
  cases hn:bL m.nw i with
  | true=>have:=hf.nw i hn;omega
  | false=>rfl
theorem ιW_id {n0 n:Nat} {m:MS} (hf:Fine D n0 n m) {i:Nat} (h:i<n0):ιW ι m i=ι i:=by
 unfold ιW
 rw [hf.id i h]
theorem Bt {C:Ctx} {E:Ent} {hp':List Blk} {n0 n:Nat} (hm:Mem C E hp Im ι w) (hf:Fine D n0 n mf) (hlen:hp'.length=n)
  (hB:∀ j v,ιW ι mf j=some v→BRel (jb Im ι hp mf) (ιW ι mf) w (hp'.getD j .none) v∧(aP (hp'.getD j .none)=true→(∃ b,cX mf.ρ j=some b∧ι b=some v∧aP (hp.getD b .none)=true)∨v= .slice none 0 0))
  (hD:∀ j,D j→hp'.getD j .none= .none) (hE:∀ b,n0≤b→E.ι b=none) (hg:∀ g sv,C.glob g=some sv→∃ e l i c,sv= .eptr e l i c):Mem C E hp' (jb Im ι hp mf) (ιW ι mf) w:=by
 have hlt:∀ b v r,aP (hp.getD b .none)=true→ι b=some v→aH v=some r→r<w.heap.size:=fun b v r h1 h2 h3=>by
  have hb:=hm.hv b v h2
  cases hblk:hp.getD b .none with
  | none=>rw [hblk] at h1;cases h1
  | ro e l=>rw [hblk] at h1;cases h1
  | cells T cs=>
   rw [hblk] at hb
   obtain ⟨r',vs,rfl,h4,_⟩:=hb
   cases h3
   exact (Array.getElem?_eq_some_iff.1 h4).1
  | own T e l=>
   rw [hblk] at hb
   obtain ⟨xs,⟨_,h2⟩,_⟩:=hb
   rcases h2 with ⟨a,rfl,_⟩ | ⟨g,cap,cur,rfl,h4,_,h6,_⟩
   ·exfalso
    revert h3
    cases a <;>simp [aH]
   ·simp [aH] at h3
    obtain ⟨_,rfl⟩:=h3
    exact (Array.getElem?_eq_some_iff.1 h4).1
 have hinj:∀ j b,aP (hp'.getD j .none)=true→cX mf.ρ j=some b→gJ mf.β b=some j:=fun j b h1 h2=>by
  rcases hf.ok.inj j b h2 with h | h
  ·rw [hD j h] at h1;cases h1
  ·exact h
 have hnil:aH (.slice none 0 0)=none:=rfl
 have hsrc:∀ j v r,aP (hp'.getD j .none)=true→ιW ι mf j=some v→aH v=some r→∃ b,cX mf.ρ j=some b∧ι b=some v∧aP (hp.getD b .none)=true:=fun j v r h1 h2 h3=>by
  rcases (hB j v h2).2 h1 with h | h
  ·exact h
  ·subst h;rw [hnil] at h3;cases h3
 refine ⟨fun j v hj=>(hB j v hj).1,⟨fun r hr=> ?_,fun j v r h1 h2 h3=> ?_,fun j j' v v' r h1 h2 h3 h4 h5 h6=> ?_,fun j v r h1 h2 h3=> ?_⟩,⟨hm.since.os,hm.since.tape,hm.since.output,hm.since.size,hm.since.block,fun b v hb=> ?_,fun i hi=> .inl (hm.since.im i hi),fun i hi=> ?_⟩,fun g sv hs=> ?_⟩
 ·rcases hr with hr | ⟨b,v,h1,h2,h3,h4⟩
  ·exact hm.mr.imlt r hr
  ·exact hlt b v r h3 h2 h4
 ·obtain ⟨b,g1,g2,g3⟩:=hsrc j v r h1 h2 h3
  rintro (hr | ⟨b',v',k1,k2,k3,k4⟩)
  ·exact hm.mr.imm b v r g3 g2 h3 hr
  ·have:=hm.mr.sep b b' v v' r g3 k3 g2 k2 h3 k4
   subst this
   have:=hinj j b h1 g1
   rw [hf.apart b k1] at this
   cases this
 ·obtain ⟨b,g1,g2,g3⟩:=hsrc j v r h1 h3 h5
  obtain ⟨b',k1,k2,k3⟩:=hsrc j' v' r h2 h4 h6
  have:=hm.mr.sep b b' v v' r g3 k3 g2 k2 h5 h6
  subst this
  have e1:=hinj j b h1 g1
  have e2:=hinj j' b h2 k1
  rw [e1] at e2
  cases e2;rfl
 ·obtain ⟨b,g1,g2,g3⟩:=hsrc j v r h1 h2 h3
  exact hm.mr.mine b v r g3 g2 h3
 ·rcases Nat.lt_or_ge b n0 with h | h
  ·rw [ιW_id hf h];exact hm.since.hd b v hb
  ·rw [hE b h] at hb;cases hb
 ·rcases hi with hi | ⟨b,v,h1,h2,h3,h4⟩
  ·exact hm.since.imnew i hi
  ·exact .inr (hm.mr.mine b v i h3 h2 h4)
 ·obtain ⟨e,l,i,c,rfl⟩:=hg g sv hs
  have:=hm.glob g _ hs
  obtain ⟨ad,xs,k1,k2,k3,k4⟩:=this
  exact ⟨ad,xs,k1,.inl k2,k3.mono (fun _=> .inl) fun _ _=>rfl,k4⟩
end
structure LA where
 n:Nat
 ps:List Pat
 bs:List BPat
 R:List Dat→Prop
 m:List Dat→Nat
structure Ann where
 cut:List (Nat×List LA)
 loop:List (Nat×List LA)
 nest:List (Nat×List LA×(List Dat→List LA)):= []
def JC:List (Nat×List LA)→Nat→Option (List LA)
 | [],_=>none
 | (k,A)::l,i=>bif Nat.beq k i then some A else JC l i
def HQ:List (Nat×List LA×(List Dat→List LA))→Nat→Option (List LA×(List Dat→List LA))
 | [],_=>none
 | (k,A)::l,i=>bif Nat.beq k i then some A else HQ l i
def n8:Code→Nat
 | .region id _ _=>id
 | .seq x _=>n8 x
 | .block _ c=>n8 c
 | .loop c=>n8 c
 | .cond _ x _=>n8 x
 | .scope c=>n8 c
 | _=>1000000
inductive Miss:Nat→ES→Prop
def eS:ES:=⟨0,[],[],[],[]⟩
def pl:Nat→Nat→List (Nat×Pat)→List Pat
 | 0,_,_=> []
 | k+1,t,l=>(match plAt l t with | some p=>p | none=> .skip)::pl k (t+1) l
where plAt:List (Nat×Pat)→Nat→Option Pat
 | [],_=>none
 | (d,p)::l,t=>bif Nat.beq d t then some p else plAt l t
def go (n0:Nat) (s:ES) (K:LA→List Dat→Prop):List LA→Prop
 | [] =>Miss 0 eS
 | A::l=>(match s with
  | ⟨n,ov,tm,hp,G⟩=>bif Nat.beq A.ps.length A.n&&Nat.beq n A.n then (match NE n0 hp (qB ov tm) A.ps A.bs with | some (_,_,ds,_)=>K A ds | none=>go n0 s K l) else go n0 s K l)
def Ax (A:LA) (K:ES→List Dat→Prop):Prop:=allPs A.ps fun tm ds=>Dg A.bs fun hp ds'=>impPs A.ps ds fun _=>vL (hsL tm) 0 A.bs ds' fun _=>K ⟨A.n,[],tm,hp,[]⟩ (ds++ds')
def tv (K:LA→ES→List Dat→Prop):List LA→Prop
 | [] =>True
 | [A] =>Ax A (K A)
 | A::l=>Ax A (K A)∧tv K l
def lR (K:ES→Prop) (Q:Exit→ES→Prop):Exit→ES→Prop
 | .normal,s=>K s
 | e,s=>Q e s
def wq (id:Nat) (Q:Exit→ES→Prop):Exit→ES→Prop
 | .exit id',s=>bif Nat.beq id' id then Q .normal s else Q (.exit id') s
 | e,s=>Q e s
def ES.clr (s:ES) (K:ES→Prop):Prop:=match s with | ⟨n,ov,tm,hp,_⟩=>K ⟨n,ov,tm,hp,[]⟩
section
variable (C:Ctx) (n0:Nat) (ann:Ann)
def kx:Code→ES→(Exit→ES→Prop)→Prop
 | .skip,s,Q=>Q .normal s
 | .label _,s,Q=>Q .normal s
 | .region _ ops draw,s,Q=>(match draw with | true=>Ny C ops s (fun s=>s.clr (Q .normal)) | false=>iS C ops ops.toList s (fun s=>s.clr (Q .normal)))
 | .seq x y,s,Q=>(match JC ann.cut (n8 y) with
  | none=>kx x s (lR (fun s=>kx y s Q) Q)
  | some l=>kx x s (lR (fun s=>go n0 s (fun A ds=>A.R ds∧True) l) Q)∧tv (fun A s ds=>A.R ds→kx y s Q) l)
 | .cond c x y,s,Q=>(match s.ev C.glob c with | .bool b=>bif b then kx x s Q else kx y s Q | _=>Miss 1 eS)
 | .block id c,s,Q=>kx c s (wq id Q)
 | .loop c,s,Q=>(match JC ann.loop (n8 c) with
  | some l=>go n0 s (fun A ds=>A.R ds∧True) l∧tv (fun A s ds=>A.R ds→kx c s (lR (fun s=>go n0 s (fun A' ds'=>A'.R ds'∧A'.m ds'<A.m ds) l) Q)) l
  | none=>(match HQ ann.nest (n8 c) with
   | some (l0,g)=>go n0 s (fun _ ds0=>go n0 s (fun A ds=>A.R ds∧True) (g ds0)∧tv (fun A s ds=>A.R ds→kx c s (lR (fun s=>go n0 s (fun A' ds'=>A'.R ds'∧A'.m ds'<A.m ds) (g ds0)) Q)) (g ds0)) l0
   | none=>Miss (n8 c) eS))
 | .exit id,s,Q=>Q (.exit id) s
 | .goto l,s,Q=>Q (.goto l) s
 | .ret,s,Q=>Q .ret s
 | _,_,_=>False
end
section
variable {C:Ctx} {E B:Ent} {n0:Nat}
theorem rG {s:ES} (hs:s.Ok) {K:ES→Prop} (h:s.clr K):∃ s':ES,s'.Ok∧s'.as=s.as∧K s':=by
 obtain ⟨n,ov,tm,hp,G⟩:=s
 exact ⟨⟨n,ov,tm,hp,[]⟩,⟨hs.len,hs.ov,(fun g hg=>by cases hg),fun g hg=>by cases hg⟩,rfl,h⟩
theorem qU {K:LA→ES→List Dat→Prop} :∀ {l:List LA},tv K l→∀ A∈l,Ax A (K A)
 | [],_,A,h=>by cases h
 | [A0],h,A,hA=>by
  simp only [List.mem_singleton] at hA
  subst hA;exact h
 | A0::A1::l,h,A,hA=>by
  rcases List.mem_cons.1 hA with rfl | hA
  ·exact h.1
  ·exact qU h.2 A hA
theorem io (hC:C.Ok) (hE:∀ b,n0≤b→E.ι b=none) (hB:∀ b,n0≤b→B.ι b=none) (hF:∀ b,B.F b→b<n0) {s:ES} {K:LA→List Dat→Prop} {a:Act} {w:World} (hs:s.Ok) (hR:dH C E B s.as a w):∀ l:List LA,go n0 s K l→
  ∃ A∈l,∃ (tm:List SV) (hp:List Blk) (ds:List Dat),dH C E B ⟨tm,hp⟩ a w∧K A ds∧tm.length=A.n∧∀ F,Ax A F→F ⟨A.n,[],tm,hp,[]⟩ ds
 | [],h=>by cases h
 | A::l,h=>by
  have other:go n0 s K l→∃ A'∈A::l,∃ (tm:List SV) (hp:List Blk) (ds:List Dat),dH C E B ⟨tm,hp⟩ a w∧K A' ds∧tm.length=A'.n∧∀ F,Ax A' F→F ⟨A'.n,[],tm,hp,[]⟩ ds:=fun h=>by
   obtain ⟨A',h1,h2⟩:=io hC hE hB hF (K:=K) hs hR l h
   exact ⟨A',List.mem_cons_of_mem _ h1,h2⟩
  obtain ⟨n,ov,tm,hp,G⟩:=s
  simp only [go] at h
  cases hn:(Nat.beq A.ps.length A.n&&Nat.beq n A.n) with
  | false=>rw [hn] at h;exact other h
  | true=>
   rw [hn] at h
   simp only [cond_true] at h
   simp only [cV] at hn
   have hn':=aD.1 hn.1
   have hn2:=aD.1 hn.2
   split at h
   ·rename_i svs' hp' ds m hw
    obtain ⟨ds1,ds2,m1,rfl,h1,h2,h3,h4⟩:=OF hw
    obtain ⟨Im,ι,hRel,hFr,hA⟩:=hR
    have f1:=qN (D:=gd A.bs) h1
    have f2:=j4 (D:=gd A.bs) h2
    have fine:=Fj f1 f2 h3 h4
    have hlenB:hp'.length=A.bs.length:=(hH h2).2.2
    have hmem:Mem C E hp' (jb Im ι hp m) (ιW ι m) w:=Bt hRel.mem fine hlenB (fun j v hj=>by
     have:=qj hRel.mem.hv fine.ok h2 (.refl _) j v (by rw [Nat.zero_add];exact hj)
     rwa [Nat.zero_add] at this) (fun j hj=>oL h2 j hj) hE hC.globE
    obtain ⟨k1,k2⟩:=xx hRel.mem.hv fine.ok h1 f2.1 (val:=fun t=>a.tmps.getD t undef) fun j _ _=>by
     rw [mg _ _ hs.ov];exact hRel.tm j
    have hlen:svs'.length=A.n:=by rw [k1,hn']
    refine ⟨A,List.mem_cons_self,svs',hp',ds1++ds2,⟨jb Im ι hp m,ιW ι m,⟨hRel.defers,?_,fun t=> ?_,hmem⟩,fun b hb=>ιW_lt fine (by rw [← hlenB];exact hb),⟨⟨fun i hi=> .inl (hA.later.im i hi),fun b v hb=> ?_,hA.later.mem⟩,fun b hb=> ?_⟩⟩,h,hlen,fun F hF=> ?_⟩
    ·rw [hRel.size]
     show (aN ov tm).length=svs'.length
     rw [eY,hlen,← hn2];exact hs.len.symm
    ·have:=k2 t
     rwa [Nat.zero_add] at this
    ·rcases Nat.lt_or_ge b n0 with hb0 | hb0
     ·rw [ιW_id fine hb0];exact hA.later.hd b v hb
     ·rw [hB b hb0] at hb;cases hb
    ·have hb0:=hF b hb
     exact ⟨by rw [hlenB];exact Nat.lt_of_lt_of_le hb0 h3,by rw [ιW_id fine hb0];exact (hA.keep b hb).2⟩
    ·have e1:=(hH h2).1 _ ((tb h1).1 _ hF)
     have i1:=(tb h1).2 []
     have i2:=(hH h2).2.1 []
     rw [List.append_nil] at i1 i2
     obtain ⟨vs,hvs⟩:=wP (Im:=jb Im ι hp m) (ι:=ιW ι m) (w:=w) svs' (fun t=>a.tmps.getD t undef) fun j=>by have:=k2 j;rwa [Nat.zero_add] at this
     have e2:=imps_elim A.ps ds1 vs _ (by rw [i1];exact hvs) e1
     exact vn (hs_vrels svs' vs hvs) A.bs 0 ds2 _ (fun j v hj=>by rw [i2];exact hmem.hv j v (by rw [← hj];congr 1;omega)) e2
   ·exact other h
theorem sK {n:Nat} {tm:List SV} {hp:List Blk} (h:tm.length=n):(⟨n,[],tm,hp,[]⟩:ES).Ok:=⟨h.symm,(fun p hp=>by cases hp),(fun g hg=>by cases hg),fun g hg=>by cases hg⟩
theorem eJ (hC:C.Ok) (ann:Ann) (hE:∀ b,n0≤b→E.ι b=none) (hB:∀ b,n0≤b→B.ι b=none) (hF:∀ b,B.F b→b<n0):∀ (c:Code) (s:ES) (Q':Exit→ES→Prop) (Q:Exit→Act→World→Prop) (a:Act) (w:World),s.Ok→dH C E B s.as a w→kx C n0 ann c s Q'→
  (∀ e s a w,Q' e s→s.Ok→dH C E B s.as a w→Q e a w)→c.wp C.P Q a w
 | .skip,s,Q',Q,a,w,hs,hR,h,hQ=>wp_skip (hQ _ _ _ _ h hs hR)
 | .label _,s,Q',Q,a,w,hs,hR,h,hQ=>wp_label (hQ _ _ _ _ h hs hR)
 | .region id ops draw,s,Q',Q,a,w,hs,hR,h,hQ=>by
  cases draw with
  | true=>
   refine Dl hC hC.mixed (K:=Next fun s=>s.clr (Q' .normal)) (fun s a w k r=> ?_) hR (Fx hs h)
   obtain ⟨s',h1,h2,h3⟩:=k
   obtain ⟨s'',k1,k2,k3⟩:=rG h1 h3
   exact hQ _ _ _ _ k3 k1 (by rw [k2,h2];exact r)
  | false=>
   refine HY hC (K:=Next fun s=>s.clr (Q' .normal)) (fun s a w k r=> ?_) hR (n5 _ _ hs h)
   obtain ⟨s',h1,h2,h3⟩:=k
   obtain ⟨s'',k1,k2,k3⟩:=rG h1 h3
   exact hQ _ _ _ _ k3 k1 (by rw [k2,h2];exact r)
 | .seq x y,s,Q',Q,a,w,hs,hR,h,hQ=>by
  simp only [kx] at h
  split at h
  ·refine wp_seq (eJ hC ann hE hB hF x s _ _ a w hs hR h fun e s a w k hs r=> ?_)
   cases e with
   | normal=>exact eJ hC ann hE hB hF y s Q' Q a w hs r k hQ
   | exit id=>exact hQ _ _ _ _ k hs r
   | goto l=>exact hQ _ _ _ _ k hs r
   | ret=>exact hQ _ _ _ _ k hs r
   | panic c=>exact hQ _ _ _ _ k hs r
   | outgrown=>exact hQ _ _ _ _ k hs r
  ·rename_i l hl
   refine wp_seq (eJ hC ann hE hB hF x s _ _ a w hs hR h.1 fun e s' a w k hs' r=> ?_)
   cases e with
   | normal=>
    obtain ⟨A,hA,tm,hp,ds,k1,k2,k3,k4⟩:=io hC hE hB hF hs' r l k
    exact eJ hC ann hE hB hF y ⟨A.n,[],tm,hp,[]⟩ Q' Q a w (sK k3) k1 (k4 (fun s ds=>A.R ds→kx C n0 ann y s Q') (qU h.2 A hA) k2.1) hQ
   | exit id=>exact hQ _ _ _ _ k hs' r
   | goto l=>exact hQ _ _ _ _ k hs' r
   | ret=>exact hQ _ _ _ _ k hs' r
   | panic c=>exact hQ _ _ _ _ k hs' r
   | outgrown=>exact hQ _ _ _ _ k hs' r
 | .cond c x y,s,Q',Q,a,w,hs,hR,h,hQ=>by
  simp only [kx] at h
  split at h
  ·rename_i b hb
   obtain ⟨Im,ι,hR',hFr,hA⟩:=hR
   have hv:=qL (hp:=s.as.hp) hR'.tm hR'.mem.glob c
   have e1:AS.ev C.glob ⟨s.as.tm,s.as.hp⟩ c=s.as.ev C.glob c:=rfl
   rw [e1,← s.ev_eq hs C.glob,hb] at hv
   have hv':a.eval c= .bool b:=hv
   refine wp_cond_split hv' (fun ht=> ?_) (fun hf=> ?_)
   ·subst ht;exact eJ hC ann hE hB hF x s Q' Q a w hs ⟨Im,ι,hR',hFr,hA⟩ h hQ
   ·subst hf;exact eJ hC ann hE hB hF y s Q' Q a w hs ⟨Im,ι,hR',hFr,hA⟩ h hQ
  ·cases h
 | .block id c,s,Q',Q,a,w,hs,hR,h,hQ=>by
  refine wp_block (eJ hC ann hE hB hF c s _ _ a w hs hR h fun e s a w k hs r=> ?_)
  cases e with
  | exit id'=>
   simp only [wq] at k
   simp only [Exit.inBlock]
   cases hid:Nat.beq id' id with
   | true=>rw [hid] at k;rw [if_pos (aD.1 hid)];exact hQ _ _ _ _ k hs r
   | false=>rw [hid] at k;rw [if_neg (eI.1 hid)];exact hQ _ _ _ _ k hs r
  | normal=>exact hQ _ _ _ _ k hs r
  | goto l=>exact hQ _ _ _ _ k hs r
  | ret=>exact hQ _ _ _ _ k hs r
  | panic c=>exact hQ _ _ _ _ k hs r
  | outgrown=>exact hQ _ _ _ _ k hs r
 | .loop c,s,Q',Q,a,w,hs,hR,h,hQ=>by
  simp only [kx] at h
  have key:∀ l:List LA,go n0 s (fun A ds=>A.R ds∧True) l→tv (fun A s ds=>A.R ds→kx C n0 ann c s (lR (fun s=>go n0 s (fun A' ds'=>A'.R ds'∧A'.m ds'<A.m ds) l) Q')) l→Code.wp C.P (.loop c) Q a w:=fun l h0 hround=>by
   let J:Nat→Act→World→Prop:=fun n a w=>∃ A∈l,∃ (tm:List SV) (hp:List Blk) (ds:List Dat),dH C E B ⟨tm,hp⟩ a w∧A.R ds∧tm.length=A.n∧(∀ F,Ax A F→F ⟨A.n,[],tm,hp,[]⟩ ds)∧A.m ds=n
   obtain ⟨A0,hA0,tm,hp,ds,k1,k2,k3,k4⟩:=io hC hE hB hF hs hR l h0
   refine wp_loop (fun a w=>∃ n,J n a w) (fun a w=>uN fun n=>J n a w) ⟨_,A0,hA0,tm,hp,ds,k1,k2.1,k3,k4,rfl⟩ fun a w hI=> ?_
   obtain ⟨n,hn⟩:=hI
   obtain ⟨⟨A,hA,tm,hp,ds,k1,k2,k3,k4,k5⟩,hmin⟩:=nD (p:=fun n=>J n a w) hn
   refine eJ hC ann hE hB hF c ⟨A.n,[],tm,hp,[]⟩ _ _ a w (sK k3) k1 (k4 (fun s ds=>A.R ds→kx C n0 ann c s (lR (fun s=>go n0 s (fun A' ds'=>A'.R ds'∧A'.m ds'<A.m ds) l) Q')) (qU hround A hA) k2) fun e s a' w' k hs' r=> ?_
   cases e with
   | normal=>
    obtain ⟨A',hA',tm',hp',ds',g1,g2,g3,g4⟩:=io hC hE hB hF hs' r l k
    have hJ:J (A'.m ds') a' w':=⟨A',hA',tm',hp',ds',g1,g2.1,g3,g4,rfl⟩
    refine ⟨⟨_,hJ⟩,Nat.lt_of_le_of_lt ((nD (p:=fun n=>J n a' w') hJ).2 _ hJ) ?_⟩
    rw [← k5];exact g2.2
   | exit id=>exact hQ _ _ _ _ k hs' r
   | goto l=>exact hQ _ _ _ _ k hs' r
   | ret=>exact hQ _ _ _ _ k hs' r
   | panic c=>exact hQ _ _ _ _ k hs' r
   | outgrown=>exact hQ _ _ _ _ k hs' r
  split at h
  ·rename_i l hl
   exact key l h.1 h.2
  ·split at h
   ·rename_i l0 g hg
    obtain ⟨_,_,_,_,ds0,_,k2,_,_⟩:=io hC hE hB hF hs hR l0 h
    exact key (g ds0) k2.1 k2.2
   ·cases h
 | .exit id,s,Q',Q,a,w,hs,hR,h,hQ=>wp_exit (hQ _ _ _ _ h hs hR)
 | .goto l,s,Q',Q,a,w,hs,hR,h,hQ=>wp_goto (hQ _ _ _ _ h hs hR)
 | .ret,s,Q',Q,a,w,hs,hR,h,hQ=>wp_ret (hQ _ _ _ _ h hs hR)
 | .rangeFunc ..,_,_,_,_,_,_,_,h,_=>h.elim
 | .scope _,_,_,_,_,_,_,_,h,_=>h.elim
def M2 (P:Program) (s:ES):ResultVar→Option SV
 | .tmp t=>some (qB s.ov s.tm t)
 | .cell a T=>(match qB s.ov s.tm a with
  | .ptr b c=>(match xq P s.hp T (.ptr b c) with | .val sv=>some sv | _=>none)
  | _=>none)
def GJ (P:Program) (s:ES):List ResultVar→Option (List SV)
 | [] =>some []
 | r::rs=>(match M2 P s r,GJ P s rs with | some x,some xs=>some (x::xs) | _,_=>none)
def pz (P:Program) (s:ES) (rs:List ResultVar):Option SV:=
 match GJ P s rs with | some [x] =>some x | some xs=>some (.tup xs) | none=>none
theorem X2 {P:Program} {s:ES} (hs:s.Ok) (r:ResultVar):M2 P s r=sI P s.as r:=by
 cases r with
 | tmp t=>simp only [M2,sI];rw [mg _ _ hs.ov];rfl
 | cell a T=>simp only [M2,sI];rw [mg _ _ hs.ov];rfl
theorem HL {P:Program} {s:ES} (hs:s.Ok):∀ rs:List ResultVar,GJ P s rs=lE P s.as rs
 | [] =>rfl
 | r::rs=>by
  simp only [GJ,lE,X2 hs,HL hs rs]
  cases sI P s.as r <;>cases lE P s.as rs <;>rfl
theorem te {P:Program} {s:ES} (hs:s.Ok) (rs:List ResultVar):pz P s rs=GH P s.as rs:=by
 unfold pz GH;rw [HL hs]
 cases lE P s.as rs with
 | none=>rfl
 | some l=>cases l with
  | nil=>rfl
  | cons a l=>cases l <;>rfl
def qR (P:Program) (rs:List ResultVar) (K:SV→List Blk→Prop):Exit→ES→Prop
 | .normal,s=>(match pz P s rs with | some sv=>bN sv fun sv=>K sv s.hp | none=>Miss 3 eS)
 | .ret,s=>(match pz P s rs with | some sv=>bN sv fun sv=>K sv s.hp | none=>Miss 3 eS)
 | _,_=>False
inductive Res where
 | ite (b:Bool) (r1 r2:Res)
 | ret (rp:Pat) (rb:List BPat) (ds:List Dat)
def T6:Dat→Dat→Prop
 | .i a,.i b=>a=b
 | .b a,.b b=>a=b
 | .s a,.s b=>a=b
 | .r a,.r b=>a=b
 | .li a,.li b=>a=b
 | .lb a,.lb b=>a=b
 | _,_=>False
def Eh:List Dat→List Dat→Prop
 | [],[] =>True
 | [a],[b] =>T6 a b
 | a::l,b::m=>T6 a b∧Eh l m
 | _,_=>False
theorem OC {a b:Dat} (h:T6 a b):a=b:=by
 cases a <;>cases b <;>simp only [T6] at h <;>first | (subst h;rfl) | exact h.elim
theorem Ls:∀ {l m:List Dat},Eh l m→l=m
 | [],[],_=>rfl
 | [a],[b],h=>by rw [OC h]
 | a::a'::l,b::b'::m,h=>by
  obtain ⟨h1,h2⟩:=h
  rw [OC h1,Ls h2]
 | [],_::_,h=>h.elim
 | _::_,[],h=>by simp [Eh] at h
 | [a],b::b'::m,h=>by
  obtain ⟨_,h2⟩:=h
  simp [Eh] at h2
 | a::a'::l,[b],h=>by
  obtain ⟨_,h2⟩:=h
  simp [Eh] at h2
def Res.ok (n0:Nat):Res→SV→List Blk→Prop
 | .ite b r1 r2,sv,hp=>bif b then r1.ok n0 sv hp else r2.ok n0 sv hp
 | .ret rp rb ds,sv,hp=>(match DR n0 hp [rp] [sv] rb with | some (_,_,ds',_)=>Eh ds' ds | none=>Miss 2 eS)
def Res.leaf:Res→Pat×List BPat×List Dat
 | .ite b r1 r2=>bif b then r1.leaf else r2.leaf
 | .ret rp rb ds=>(rp,rb,ds)
def cq (C:Ctx) (E:Ent) (Im:Nat→Prop) (ι:Nat→Option Value) (w:World) (n0:Nat) (r:Res):Ending→World→Prop:=fun e w'=>
 ∃ v Im' ι' hp' ds1,e= .returned v∧bS r.leaf.1 r.leaf.2.2=((bS r.leaf.1 r.leaf.2.2).1,ds1)∧hp'=(j6 r.leaf.2.1 ds1).1∧VRel Im' ι' w' (bS r.leaf.1 r.leaf.2.2).1 v∧Mem C E hp' Im' ι' w'∧hp'.length=r.leaf.2.1.length∧
  (∀ b,r.leaf.2.1.length≤b→ι' b=none)∧Later Im ι w Im' ι' w'∧n0≤r.leaf.2.1.length∧∀ b,b<n0→ι' b=ι b
theorem mw (hC:C.Ok) (hE:∀ b,n0≤b→E.ι b=none) {Im Im':Nat→Prop} {ι ι':Nat→Option Value} {w w':World} {hp:List Blk} {v:Value} {sv:SV} (hl:Later Im ι w Im' ι' w') (hι:∀ b,n0≤b→ι b=none) (hk:∀ b,b<n0→ι' b=ι b) (hm:Mem C E hp Im' ι' w') (hv:VRel Im' ι' w' sv v):
  ∀ r:Res,r.ok n0 sv hp→cq C E Im ι w n0 r (.returned v) w'
 | .ite true r1 r2,h=>mw hC hE hl hι hk hm hv r1 h
 | .ite false r1 r2,h=>mw hC hE hl hι hk hm hv r2 h
 | .ret rp rb ds,h=>by
  simp only [Res.ok] at h
  split at h
  ·rename_i svs' hp' ds' m hw
   cases Ls h
   obtain ⟨ds1,ds2,m1,rfl,h1,h2,h3,h4⟩:=FA hw
   have f1:=convs_le (D:=gd rb) h1
   have f2:=j4 (D:=gd rb) h2
   have fine:=Fj f1 f2 h3 h4
   have hB:=hH h2
   have hP:=(convs_all h1).2 ds2
   have hrel:=convs_rel (vs:= [v]) hm.hv fine.ok h1 f2.1 ⟨v,[],rfl,hv,rfl⟩
   have hP':instPs [rp] (ds1++ds2)=([(bS rp (ds1++ds2)).1],(bS rp (ds1++ds2)).2):=by simp [instPs]
   rw [hP'] at hP
   injection hP with hP1 hP2
   have hmem:Mem C E hp' (jb Im' ι' hp m) (ιW ι' m) w':=Bt hm fine hB.2.2 (fun j v hj=>by
    have:=qj hm.hv fine.ok h2 (.refl _) j v (by rw [Nat.zero_add];exact hj)
    rwa [Nat.zero_add] at this) (fun j hj=>oL h2 j hj) hE hC.globE
   refine ⟨v,jb Im' ι' hp m,ιW ι' m,hp',ds2,rfl,?_,?_,?_,hmem,hB.2.2,fun b hb=>ιW_lt fine hb,⟨fun i hi=> .inl (hl.im i hi),fun b u hb=> ?_,hl.mem⟩,h3,fun b hb=>(ιW_id fine hb).trans (hk b hb)⟩
   ·exact Prod.ext rfl hP2
   ·have:=hB.2.1 []
    rw [List.append_nil] at this
    show hp'=(j6 rb ds2).1
    rw [this]
   ·show VRel _ _ _ (bS rp (ds1++ds2)).1 v
    rw [← hP1] at hrel
    obtain ⟨v',vs',e,k1,_⟩:=hrel
    injection e with e1 e2
    subst e1
    exact k1
   ·rcases Nat.lt_or_ge b n0 with hb0 | hb0
    ·rw [ιW_id fine hb0];exact hl.hd b u hb
    ·rw [hι b hb0] at hb;cases hb
  ·cases h
theorem KP (hC:C.Ok) {f:FuncId} {fn:Func} {c:Code} (hf:C.P.funcs[f]? =some fn) (hb:fn.body=some c) (ann:Ann) {svs:List SV} {hp:List Blk} {r:Res} {k:Nat} (hn:fn.ntmps-svs.length=k) (hn2:svs.length+k=fn.ntmps)
  {Im:Nat→Prop} {ι:Nat→Option Value} {w:World} (hE:∀ b,hp.length≤b→E.ι b=none)
  (h:kx C hp.length ann c ⟨fn.ntmps,[],svs++List.replicate k .dead,hp,[]⟩ (qR C.P fn.results.toList fun sv hp'=>r.ok hp.length sv hp')) {vs:List Value} (hD:E.dfr= []) (hm:Mem C E hp Im ι w) (hF:oQ hp.length ι) (hv:VRels Im ι w svs vs):
  Calls C.P f vs.toArray w (cq C E Im ι w hp.length r):=by
 refine calls_of_wp hf hb ?_
 have hlen:=gj hv
 refine eJ (E:=E) (B:=⟨w,Im,ι,fun b=>b<hp.length,[]⟩) (n0:=hp.length) hC ann hE hF (fun b hb=>hb) c _ _ _ _ _ (sK (by simp [hn2])) ⟨Im,ι,⟨hD.symm,?_,fun t=> ?_,hm⟩,hF,⟨Later.refl _ _ _,fun b hb=>⟨hb,rfl⟩⟩⟩ h fun e s a w' kk hs rr=> ?_
 ·show _=(aN [] (svs++List.replicate k .dead)).length
  simp [hlen,hn,aN]
 ·show VRel Im ι w (aM (svs++List.replicate k .dead) t) _
  rw [lJ]
  split
  ·rename_i ht
   obtain ⟨v,h1,h2⟩:=nI hv t ht
   have:(vs.toArray++Array.replicate (fn.ntmps-vs.toArray.size) undef).getD t undef=v:=by
    rw [Array.getD_eq_getD_getElem?,Array.getElem?_append_left (by simp;omega)]
    simp [h1]
   rw [this]
   exact h2
  ·rw [kY]
   split <;>trivial
 ·obtain ⟨Im',ι',hR,hF',hA⟩:=rr
  have key:(match pz C.P s fn.results.toList with | some sv=>bN sv fun sv=>Res.ok hp.length r sv s.hp | none=>Miss 3 eS)→bodyPost C.P fn (cq C E Im ι w hp.length r) .normal a w':=fun kk=>by
   rw [te hs] at kk
   split at kk
   ·rename_i sv hsv
    rw [aX] at kk
    obtain ⟨v,h1,h2⟩:=sH hR hsv
    exact ⟨hR.defers.trans hD,v,h1,mw hC hE hA.later hF (fun b hb=>(hA.keep b hb).2) hR.mem h2 _ kk⟩
   ·cases kk
  cases e with
  | normal=>exact key kk
  | ret=>exact key kk
  | exit id=>exact kk.elim
  | goto l=>exact kk.elim
  | panic ch=>exact kk.elim
  | outgrown=>exact kk.elim
end
structure Ct where
 ps:List Pat
 bs:List BPat
 pre:List Dat→Prop
 res:List Dat→Res
def co (σ:List Nat) (n i:Nat):Nat:=bif Nat.blt i σ.length then σ.getD i 0 else n+(i-σ.length)
def zK (hp:List Blk) (ρ:List (Nat×Nat)):Nat→Nat→Option (List Nat)
 | 0,_=>some []
 | k+1,i=>(match cX ρ i with
  | some b=>bif aP (hp.getD b .none) then (match zK hp ρ k (i+1) with | some l=>some (b::l) | none=>none) else none
  | none=>none)
def cH (f:Nat→Nat):List Nat→List Blk→List (Nat×Blk)
 | b::σ,x::xs=>(b,x.ren f)::cH f σ xs
 | _,_=> []
def v9 (f:Nat→Nat):List Blk→List Blk
 | [] => []
 | x::xs=>x.ren f::v9 f xs
def gT (f:Nat→Nat):Nat→List Blk→List Blk
 | 0,xs=>v9 f xs
 | k+1,_::xs=>gT f k xs
 | _+1,[] => []
def YK:CSh→Bool
 | .sl _=>false
 | _=>true
def BU:List CSh→Bool
 | [] =>true
 | s::e=>YK s&&BU e
mutual
def sw:Pat→Bool
 | .rd _=>false
 | .agg ps=>flatPs ps
 | .tup ps=>flatPs ps
 | .fn _ ps=>flatPs ps
 | .fb _ ps=>flatPs ps
 | .iface _ p=>sw p
 | _=>true
def flatPs:List Pat→Bool
 | [] =>true
 | p::ps=>sw p&&flatPs ps
end
def Ut:BPat→Bool
 | .none=>true
 | .cells _ ps=>flatPs ps
 | .own _ e=>BU e
def m7:List BPat→Bool
 | [] =>true
 | p::ps=>Ut p&&m7 ps
def Lt:List Blk→List Nat
 | [] => []
 | x::xs=>x.hs++Lt xs
def zX:List Nat→Bool | [] =>true | _=>false
def gw:List Nat→List (Nat×Blk)
 | [] => []
 | b::l=>(b,.none)::gw l
def Ip (σ:List Nat) (n:Nat) (fz:List Nat):Res→CR
 | .ite b r1 r2=> .ite b (Ip σ n fz r1) (Ip σ n fz r2)
 | .ret rp rb ds=>(match bS rp ds with
  | (sv,ds1)=>(match j6 rb ds1 with
   | (xs,_)=>bif Nat.ble σ.length rb.length&&oR rb.length (sv.hs++Lt xs) then
     (bif zX fz||(sw rp&&m7 rb) then .ret (sv.ren (co σ n)) (cH (co σ n) σ xs) (gT (co σ n) σ.length xs)
     else .ret (sv.ren (co σ n)) (cH (co σ n) σ xs++gw fz) (gT (co σ n) σ.length xs)) else .bad))
def ap (ct:Ct) (svs:List SV) (hp:List Blk):CR:=
 match DR 0 hp ct.ps svs ct.bs with
 | some (_,_,ds,m)=>(match zK hp m.ρ ct.bs.length 0 with
  | some σ=> .need (ct.pre ds) (Ip σ hp.length m.fz (ct.res ds))
  | none=> .bad)
 | none=> .bad
def Ct.VC (C:Ctx) (ct:Ct) (rs:List ResultVar) (nt k:Nat) (c:Code) (ann:List Dat→Ann):Prop:=
 allPs ct.ps fun svs ds=>Dg ct.bs fun hp ds'=>impPs ct.ps ds fun _=>vL (hsL svs) 0 ct.bs ds' fun _=>ct.pre (ds++ds')→kx C ct.bs.length (ann (ds++ds')) c ⟨nt,[],svs++List.replicate k .dead,hp,[]⟩ (qR C.P rs fun sv hp'=>(ct.res (ds++ds')).ok ct.bs.length sv hp')
def Ct.VCG (ct:Ct) (G:List SV→List Blk→List Dat→Prop):Prop:=
 allPs ct.ps fun svs ds=>Dg ct.bs fun hp ds'=>impPs ct.ps ds fun _=>vL (hsL svs) 0 ct.bs ds' fun _=>ct.pre (ds++ds')→G svs hp (ds++ds')
def nF (ct:Ct) (F:List SV→List Blk→CR) (svs:List SV) (hp:List Blk):CR:=
 match DR 0 hp ct.ps svs ct.bs with
 | some _=>ap ct svs hp
 | none=>F svs hp
theorem ju {C:Ctx} {f:FuncId} {ct:Ct} {F:List SV→List Blk→CR} (h1:da C f (ap ct)) (h2:da C f F):da C f (nF ct F):=by
 intro svs hp K R h
 unfold nF at h
 split at h
 ·exact h1 svs hp K R h
 ·exact h2 svs hp K R h
theorem SC {Im Im':Nat→Prop} {w:World} :∀ {e:List CSh} {row:List CD} {vs:List Value},BU e=true→RowRel Im w e row vs→RowRel Im' w e row vs:=by
 intro e
 induction e with
 | nil=>intro row vs h hr;cases hr;exact .nil
 | cons sh e ih=>
  intro row vs h hr
  simp only [BU,cV] at h
  cases hr with
  | cons _ cd v _ row vs h1 h2=>
   refine .cons sh cd v e row vs ?_ (ih h.2 h2)
   cases h1 with
   | int k n=>exact .int k n
   | bool b=>exact .bool b
   | str l h'=>exact .str l h'
   | sl0=>cases h.1
   | sl=>cases h.1
theorem FD {Im Im':Nat→Prop} {w:World} {e:List CSh} (h:BU e=true):∀ {l:LD} {xs:List Value},FlatRel Im w e l xs→FlatRel Im' w e l xs
 | _,_,.nil _=> .nil _
 | _,_,.cons _ row vs l xs h1 h2=> .cons _ row vs l xs (SC h h1) (FD h h2)
mutual
theorem uS {Im Im':Nat→Prop} {ι:Nat→Option Value} {w:World} :∀ (p:Pat) (ds:List Dat) (v:Value),sw p=true→VRel Im ι w (bS p ds).1 v→VRel Im' ι w (bS p ds).1 v
 | .skip,ds,v,h,hv=>by cases ds <;>exact hv
 | .int k,ds,v,h,hv=>by
  cases ds with
  | nil=>exact hv
  | cons d ds=>cases d <;>exact hv
 | .bool,ds,v,h,hv=>by
  cases ds with
  | nil=>exact hv
  | cons d ds=>cases d <;>exact hv
 | .str,ds,v,h,hv=>by
  cases ds with
  | nil=>exact hv
  | cons d ds=>cases d <;>exact hv
 | .rd e,ds,v,h,hv=>by cases h
 | .own i,ds,v,h,hv=>by cases ds <;>exact hv
 | .ptr i c,ds,v,h,hv=>by cases ds <;>exact hv
 | .nilp,ds,v,h,hv=>by cases ds <;>exact hv
 | .nilf,ds,v,h,hv=>by cases ds <;>exact hv
 | .nils,ds,v,h,hv=>by cases ds <;>exact hv
 | .agg ps,ds,v,h,hv=>by
  obtain ⟨vs,h1,k⟩:=hv
  exact ⟨vs,h1,flat_cells ps ds vs h k⟩
 | .arrI n k,ds,v,h,hv=>by
  cases ds with
  | nil=>exact hv
  | cons d ds=>cases d <;>exact hv
 | .arrB n,ds,v,h,hv=>by
  cases ds with
  | nil=>exact hv
  | cons d ds=>cases d <;>exact hv
 | .tup ps,ds,v,h,hv=>by
  obtain ⟨vs,h1,k⟩:=hv
  exact ⟨vs,h1,flat_rels ps ds vs h k⟩
 | .fn f ps,ds,v,h,hv=>by
  obtain ⟨vs,h1,k⟩:=hv
  exact ⟨vs,h1,flat_rels ps ds vs h k⟩
 | .fb f ps,ds,v,h,hv=>by
  obtain ⟨vs,h1,k⟩:=hv
  exact ⟨vs,h1,flat_rels ps ds vs h k⟩
 | .nili,ds,v,h,hv=>by cases ds <;>exact hv
 | .iface t p,ds,v,h,hv=>by
  obtain ⟨v',h1,k⟩:=hv
  exact ⟨v',h1,uS p ds v' h k⟩
theorem flat_rels {Im Im':Nat→Prop} {ι:Nat→Option Value} {w:World} :∀ (ps:List Pat) (ds:List Dat) (vs:List Value),flatPs ps=true→VRels Im ι w (instPs ps ds).1 vs→VRels Im' ι w (instPs ps ds).1 vs
 | [],ds,vs,h,hv=>hv
 | p::ps,ds,vs,h,hv=>by
  simp only [flatPs,cV] at h
  obtain ⟨v,vs',rfl,k1,k2⟩:=hv
  exact ⟨v,vs',rfl,uS p ds v h.1 k1,flat_rels ps _ vs' h.2 k2⟩
theorem flat_cells {Im Im':Nat→Prop} {ι:Nat→Option Value} {w:World} :∀ (ps:List Pat) (ds:List Dat) (vs:List Value),flatPs ps=true→CellsRel Im ι w (instPs ps ds).1 vs→CellsRel Im' ι w (instPs ps ds).1 vs
 | [],ds,vs,h,hv=>hv
 | p::ps,ds,vs,h,hv=>by
  simp only [flatPs,cV] at h
  have hv':CellsRel Im ι w ((bS p ds).1::(instPs ps (bS p ds).2).1) vs:=hv
  show CellsRel Im' ι w ((bS p ds).1::(instPs ps (bS p ds).2).1) vs
  have ih:=fun v=>uS (Im:=Im) (Im':=Im') (ι:=ι) (w:=w) p ds v h.1
  have ih2:=fun vs'=>flat_cells (Im:=Im) (Im':=Im') (ι:=ι) (w:=w) ps (bS p ds).2 vs' h.2
  cases ha:(bS p ds).1.isArr with
  | false=>
   obtain ⟨v,vs',rfl,k1,k2,k3⟩:=(fZ ha).1 hv'
   exact (fZ ha).2 ⟨v,vs',rfl,ih v k1,k2,ih2 vs' k3⟩
  | true=>
   cases hs:(bS p ds).1 <;>rw [hs] at ha hv' <;>first | cases ha | skip
   ·obtain ⟨k1,vs',rfl,k2⟩:=aU hv'
    exact dM k1 (ih2 vs' k2)
   ·obtain ⟨k1,vs',rfl,k2⟩:=dl hv'
    exact gm k1 (ih2 vs' k2)
end
theorem RC {Im Im':Nat→Prop} {ι:Nat→Option Value} {w:World} (p:BPat) (ds:List Dat) (v:Value) (h:Ut p=true) (hv:BRel Im ι w (qk p ds).1 v):BRel Im' ι w (qk p ds).1 v:=by
 cases p with
 | none=>cases ds <;>trivial
 | cells T ps=>
  obtain ⟨r,vs,h1,h2,k⟩:=hv
  exact ⟨r,vs,h1,h2,flat_cells ps ds vs h k⟩
 | own T e=>
  cases ds with
  | nil=>trivial
  | cons d ds=>
   cases d <;>first | trivial | skip
   obtain ⟨xs,h1,h2⟩:=hv
   exact ⟨xs,h1,FD h h2⟩
theorem FV {Im Im':Nat→Prop} {ι:Nat→Option Value} {w:World} :∀ (ps:List BPat) (ds:List Dat) (j:Nat) (v:Value),m7 ps=true→BRel Im ι w ((j6 ps ds).1.getD j .none) v→BRel Im' ι w ((j6 ps ds).1.getD j .none) v
 | [],ds,j,v,h,hv=>trivial
 | p::ps,ds,0,v,h,hv=>by
  simp only [m7,cV] at h
  exact RC p ds v h.1 hv
 | p::ps,ds,j+1,v,h,hv=>by
  simp only [m7,cV] at h
  exact FV ps _ j v h.2 hv
theorem By {hp:List Blk} {ρ:List (Nat×Nat)} :∀ {k i:Nat} {σ:List Nat},zK hp ρ k i=some σ→σ.length=k∧∀ j,j<k→cX ρ (i+j)=some (σ.getD j 0)∧aP (hp.getD (σ.getD j 0) .none)=true
 | 0,i,σ,h=>by cases h;exact ⟨rfl,fun j hj=>by omega⟩
 | k+1,i,σ,h=>by
  simp only [zK] at h
  split at h
  ·rename_i b hb
   cases hl:aP (hp.getD b .none) with
   | false=>rw [hl] at h;cases h
   | true=>
    rw [hl] at h
    simp only [cond_true] at h
    split at h
    ·rename_i l hs
     cases h
     obtain ⟨h1,h2⟩:=By hs
     refine ⟨by simp [h1],fun j hj=> ?_⟩
     cases j with
     | zero=>exact ⟨hb,hl⟩
     | succ j=>
      have:=h2 j (by omega)
      rw [show i+(j+1)=i+1+j from by omega]
      exact this
    ·cases h
  ·cases h
theorem CM {f:Nat→Nat} :∀ {σ:List Nat} {xs:List Blk},σ.Nodup→σ.length≤xs.length→∀ j,j<σ.length→cW (cH f σ xs) (σ.getD j 0)=some ((xs.getD j .none).ren f)
 | [],xs,hn,hl,j,hj=>by simp at hj
 | b::σ,[],hn,hl,j,hj=>by simp at hl
 | b::σ,x::xs,hn,hl,j,hj=>by
  have hn':=List.nodup_cons.1 hn
  have ih:=CM (f:=f) (σ:=σ) (xs:=xs) hn'.2 (by simpa using hl)
  simp only [cH,cW]
  cases j with
  | zero=>
   have:cW (cH f σ xs) b=none:=by
    have:∀ {σ:List Nat} {xs:List Blk},b∉σ→cW (cH f σ xs) b=none:=by
     intro σ
     induction σ with
     | nil=>intro xs _;rfl
     | cons c σ ih=>
      intro xs hb
      cases xs with
      | nil=>rfl
      | cons x xs=>
       simp only [cH,cW,ih (fun h=>hb (List.mem_cons_of_mem _ h))]
       rw [if_neg (fun h=>hb (by rw [h];exact List.mem_cons_self))]
    exact this hn'.1
   simp [this]
  | succ j=>
   have:=ih j (by simpa using hj)
   simp only [List.getD_cons_succ]
   rw [this]
theorem FC {f:Nat→Nat} :∀ {σ:List Nat} {xs:List Blk} {b:Nat},b∉σ→cW (cH f σ xs) b=none
 | [],xs,b,_=>rfl
 | c::σ,[],b,_=>rfl
 | c::σ,x::xs,b,hb=>by
  simp only [cH,cW,FC (f:=f) (σ:=σ) (xs:=xs) fun h=>hb (List.mem_cons_of_mem _ h)]
  rw [if_neg (fun h=>hb (by rw [h];exact List.mem_cons_self))]
theorem wW {f:Nat→Nat} :∀ xs:List Blk,(v9 f xs).length=xs.length
 | [] =>rfl
 | x::xs=>by simp [v9,wW xs]
theorem Fm {f:Nat→Nat} :∀ (xs:List Blk) (j:Nat),(v9 f xs)[j]? =(xs[j]?).map (Blk.ren f)
 | [],j=>rfl
 | x::xs,0=>rfl
 | x::xs,j+1=>by simpa [v9] using Fm xs j
theorem Bk {f:Nat→Nat} :∀ (k:Nat) (xs:List Blk),gT f k xs=v9 f (xs.drop k)
 | 0,xs=>rfl
 | k+1,[] =>rfl
 | k+1,x::xs=>by simpa [gT] using Bk k xs
theorem L2:∀ (xs:List Blk) (j:Nat) (b:Nat),b∈(xs.getD j .none).hs→b∈Lt xs
 | [],j,b,h=>by cases h
 | x::xs,0,b,h=>List.mem_append_left _ h
 | x::xs,j+1,b,h=>List.mem_append_right _ (L2 xs j b h)
theorem FR {n:Nat} :∀ {l:List Nat},oR n l=true→∀ b∈l,b<n
 | [],_,b,h=>by cases h
 | a::l,h,b,hb=>by
  simp only [oR,cV] at h
  rcases List.mem_cons.1 hb with rfl | hb
  ·exact l9.1 h.1
  ·exact FR h.2 b hb
theorem Sd {l:List Nat} :zX l=true→∀ b,bL l b=false:=by
 intro h b
 cases l with
 | nil=>rfl
 | cons a l=>cases h
theorem vZ:∀ {l:List Nat} {b:Nat},bL l b=true↔b∈l
 | [],b=>by simp [bL]
 | a::l,b=>by
  simp only [bL,List.mem_cons]
  cases h:Nat.beq a b with
  | true=>simp [aD.1 h]
  | false=>
   have:=eI.1 h
   simp only [cond_false]
   rw [vZ]
   exact ⟨.inr,fun k=>k.resolve_left fun e=>this e.symm⟩
theorem Dp:∀ (g:List Nat) (b:Nat),cW (gw g) b=if b∈g then some .none else none
 | [],b=>by simp [gw,cW]
 | a::g,b=>by
  simp only [gw,cW,Dp g b]
  by_cases h:b∈g
  ·simp [h]
  ·by_cases e:a=b
   ·subst e;simp [h]
   ·simp [h,e,Ne.symm e]
theorem sn (g:List Nat) (b:Nat):∀ l:List (Nat×Blk),cW (l++gw g) b=if b∈g then some .none else cW l b
 | [] =>Dp g b
 | (c,x)::l=>by
  show (match cW (l++gw g) b with | some y=>some y | none=>if c=b then some x else none)=_
  rw [sn g b l]
  by_cases h:b∈g
  ·simp [h]
  ·simp only [h,if_false,cW]
   rfl
theorem xC {C:Ctx} (hC:C.Ok) {E:Ent} {hp:List Blk} {Im:Nat→Prop} {ι:Nat→Option Value} {w:World} {m:MS} {σ:List Nat} {n0:Nat} {K:SV→List Blk→Prop} {R:Nat→Prop} (hm:Mem C E hp Im ι w) (hok:∀ i b,i<n0→cX m.ρ i=some b→gJ m.β b=some i) (hap:∀ b,bL m.fz b=true→gJ m.β b=none)
  (hσ:∀ j,j<n0→cX m.ρ j=some (σ.getD j 0)∧aP (hp.getD (σ.getD j 0) .none)=true) (hσn:σ.length=n0) (hfine:∀ i,n0≤i→ιW ι m i=none) (hRn:∀ b,R b→ι b=none) {hpl:List Blk} {e:Ending} {w':World} :∀ r:Res,
  (Ip σ hp.length m.fz r).wp hp (fun sv hp'=>K sv hp'∧∀ b,hp.length≤b→b<hp'.length→R b)→
  cq C ⟨w,jb Im ι hp m,ιW ι m,fun r=>∃ i v,i<n0∧ιW ι m i=some v∧aP (hpl.getD i .none)=true∧aH v=some r,[]⟩ (jb Im ι hp m) (ιW ι m) w n0 r e w'→(∀ i v,ιW ι m i=some v→aP (hpl.getD i .none)=true→i<n0→aP (hp.getD (σ.getD i 0) .none)=true)→vk C E Im ι w hp.length K e w'
 | .ite true r1 r2,h,hp0,hl=>xC hC hm hok hap hσ hσn hfine hRn r1 h hp0 hl
 | .ite false r1 r2,h,hp0,hl=>xC hC hm hok hap hσ hσn hfine hRn r2 h hp0 hl
 | .ret rp rb ds,h,hp0,hl=>by
  obtain ⟨v,Iml,ιl,hp1,ds1,rfl,hi,rfl,hres,hml,hlen,hFl,hll,hnl,hkeep⟩:=hp0
  simp only [Res.leaf] at hi hres hml hlen hFl hnl
  have hi':bS rp ds=((bS rp ds).1,ds1):=hi
  simp only [Ip] at h
  generalize hsv:(bS rp ds).1=sv at hi hres hi'
  rw [hi'] at h
  simp only at h
  generalize hxs:(j6 rb ds1).1=xs at h hml hlen
  cases hc:(Nat.ble σ.length rb.length&&oR rb.length (sv.hs++Lt xs)) with
  | false=>
   have h':CR.wp hp (fun sv hp'=>K sv hp'∧∀ b,hp.length≤b→b<hp'.length→R b) (bif (Nat.ble σ.length rb.length&&oR rb.length (sv.hs++Lt xs)) then (bif zX m.fz||(sw rp&&m7 rb) then CR.ret (sv.ren (co σ hp.length)) (cH (co σ hp.length) σ xs) (gT (co σ hp.length) σ.length xs) else CR.ret (sv.ren (co σ hp.length)) (cH (co σ hp.length) σ xs++gw m.fz) (gT (co σ hp.length) σ.length xs)) else CR.bad):=h
   rw [hc] at h'
   exact h'.elim
  | true=>
   have h':CR.wp hp (fun sv hp'=>K sv hp'∧∀ b,hp.length≤b→b<hp'.length→R b) (bif (Nat.ble σ.length rb.length&&oR rb.length (sv.hs++Lt xs)) then (bif zX m.fz||(sw rp&&m7 rb) then CR.ret (sv.ren (co σ hp.length)) (cH (co σ hp.length) σ xs) (gT (co σ hp.length) σ.length xs) else CR.ret (sv.ren (co σ hp.length)) (cH (co σ hp.length) σ xs++gw m.fz) (gT (co σ hp.length) σ.length xs)) else CR.bad):=h
   rw [hc] at h'
   have hg:∃ g:List Nat,(∀ b∈g,bL m.fz b=true)∧((∀ b,bL m.fz b=true→b∈g)∨(sw rp=true∧m7 rb=true))∧
     (K (sv.ren (co σ hp.length)) (bq hp (cH (co σ hp.length) σ xs++gw g)++gT (co σ hp.length) σ.length xs)∧∀ b,hp.length≤b→b<(bq hp (cH (co σ hp.length) σ xs++gw g)++gT (co σ hp.length) σ.length xs).length→R b):=by
    cases hk:(zX m.fz||(sw rp&&m7 rb)) with
    | true=>
     rw [hk] at h'
     refine ⟨[],(fun b hb=>by cases hb),?_,?_⟩
     ·cases hn:zX m.fz with
      | true=>exact .inl fun b hb=>by rw [Sd hn] at hb;cases hb
      | false=>
       rw [hn] at hk
       simp only [Bool.false_or,cV] at hk
       exact .inr hk
     ·rw [show gw [] = [] from rfl,List.append_nil]
      exact h'
    | false=>
     rw [hk] at h'
     exact ⟨m.fz,fun b hb=>vZ.2 hb,.inl fun b hb=>vZ.1 hb,h'⟩
   obtain ⟨g,hgfz,hcase,hK,hR⟩:=hg
   simp only [cV,Nat.ble_eq] at hc
   obtain ⟨hc1,hc3⟩:=hc
   have hbelow:=FR hc3
   rw [hσn] at hc1
   let Bw:Nat→Prop:=fun r=>∃ b v,bL m.fz b=true∧b∉g∧ι b=some v∧aP (hp.getD b .none)=true∧aH v=some r
   have hBwIm:∀ r,Bw r→¬ Im r:=fun r ⟨b,v,h1,_,h2,h3,h4⟩=>hm.mr.imm b v r h3 h2 h4
   have hσmem:∀ j,j<n0→σ.getD j 0∈σ:=fun j hj=>by
    rw [aw,cJ (by omega)]
    exact List.getElem_mem _
   have hσget:∀ b,b∈σ→∃ j,j<n0∧σ.getD j 0=b:=fun b hb=>by
    obtain ⟨j,hj,e⟩:=List.getElem_of_mem hb
    exact ⟨j,by omega,by rw [aw,cJ hj];exact e⟩
   have hσinj:∀ i j,i<n0→j<n0→σ.getD i 0=σ.getD j 0→i=j:=fun i j hi hj e=>by
    have e1:=hok _ _ hi (hσ i hi).1
    have e2:=hok _ _ hj (hσ j hj).1
    rw [e,e2] at e1
    cases e1;rfl
   have hσnd:σ.Nodup:=by
    rw [List.nodup_iff_pairwise_ne,List.pairwise_iff_getElem]
    intro i j hi hj hij e
    have:=hσinj i j (by omega) (by omega) (by rw [aw,aw,cJ hi,cJ hj];exact e)
    omega
   have hσlt:∀ b∈σ,b<hp.length:=fun b hb=>by
    obtain ⟨j,hj,rfl⟩:=hσget b hb
    exact ol (hσ j hj).2
   have hιW:∀ j,j<n0→ιW ι m j=ι (σ.getD j 0):=fun j hj=>by unfold ιW;rw [(hσ j hj).1]
   have hσfz:∀ b∈σ,bL m.fz b=false:=fun b hb=>by
    obtain ⟨j,hj,rfl⟩:=hσget b hb
    cases hf:bL m.fz (σ.getD j 0) with
    | false=>rfl
    | true=>
     have:=hap _ hf
     rw [hok _ _ hj (hσ j hj).1] at this
     cases this
   have hσg:∀ b∈σ,b∉g:=fun b hb h=>by have:=hgfz b h;rw [hσfz b hb] at this;cases this
   have hxlen:xs.length=rb.length:=hlen
   let k2:=rb.length-n0
   have hrl:rb.length=n0+k2:=by show _=n0+(rb.length-n0);omega
   let Im':Nat→Prop:=fun r=>Iml r∧¬ Bw r
   let ι':Nat→Option Value:=fun b=>if hp.length≤b∧b<hp.length+k2 then ιl (n0+(b-hp.length)) else ι b
   have hι'old:∀ b,¬ (hp.length≤b∧b<hp.length+k2)→ι' b=ι b:=fun b h=>if_neg h
   have hι'new:∀ i,i<k2→ι' (hp.length+i)=ιl (n0+i):=fun i hi=>by
    show (if _ then _ else _)=_
    rw [if_pos ⟨Nat.le_add_right _ _,by omega⟩,Nat.add_sub_cancel_left]
   have hrm_lt:∀ i,i<n0→co σ hp.length i=σ.getD i 0:=fun i hi=>by
    unfold co
    rw [show Nat.blt i σ.length=true from l9.2 (by omega)];rfl
   have hrm_ge:∀ i,n0≤i→co σ hp.length i=hp.length+(i-n0):=fun i hi=>by
    unfold co
    cases hb:Nat.blt i σ.length with
    | true=>have:=l9.1 hb;omega
    | false=>rw [hσn];rfl
   have hagree:∀ i,i<rb.length→ι' (co σ hp.length i)=ιl i:=fun i hi=>by
    rcases Nat.lt_or_ge i n0 with h | h
    ·rw [hrm_lt i h,hι'old _ (by have:=hσlt _ (hσmem i h);omega),hkeep i h,hιW i h]
    ·rw [hrm_ge i h,hι'new _ (by omega)]
     congr 1;omega
   have hhp'len:(bq hp (cH (co σ hp.length) σ xs++gw g)++gT (co σ hp.length) σ.length xs).length=hp.length+k2:=by
    rw [cx,gM,Bk,wW,cj,hxlen,hσn]
   have hnone:∀ b,hp.length≤b→b<hp.length+k2→ι b=none:=fun b h1 h2=>hRn b (hR b h1 (by rw [hhp'len];exact h2))
   have hget_old:∀ j,j<n0→(bq hp (cH (co σ hp.length) σ xs++gw g)++gT (co σ hp.length) σ.length xs).getD (σ.getD j 0) .none=(xs.getD j .none).ren (co σ hp.length):=fun j hj=>by
    have:=hσlt _ (hσmem j hj)
    rw [ou,if_neg (by omega),sn,if_neg (hσg _ (hσmem j hj)),CM hσnd (by omega) j (by omega)]
    rfl
   have hget_new:∀ i,i<k2→(bq hp (cH (co σ hp.length) σ xs++gw g)++gT (co σ hp.length) σ.length xs).getD (hp.length+i) .none=(xs.getD (n0+i) .none).ren (co σ hp.length):=fun i hi=>by
    have hx:xs[n0+i]? =some xs[n0+i] :=cJ (by omega)
    rw [ou,if_pos (Nat.le_add_right _ _),Bk,Fm,Nat.add_sub_cancel_left,List.getElem?_drop,hσn,aw (l:=xs),hx]
    rfl
   have hget_g:∀ b,b<hp.length→b∈g→(bq hp (cH (co σ hp.length) σ xs++gw g)++gT (co σ hp.length) σ.length xs).getD b .none= .none:=fun b h1 h2=>by
    rw [ou,if_neg (by omega),sn,if_pos h2]
    rfl
   have hget_oth:∀ b,b<hp.length→b∉σ→b∉g→(bq hp (cH (co σ hp.length) σ xs++gw g)++gT (co σ hp.length) σ.length xs).getD b .none=hp.getD b .none:=fun b h1 h2 h3=>by
    rw [ou,if_neg (by omega),sn,if_neg h3,FC h2]
    rfl
   generalize hhp':bq hp (cH (co σ hp.length) σ xs++gw g)++gT (co σ hp.length) σ.length xs=hp' at hK hR hhp'len hget_old hget_new hget_oth hget_g
   have hlaterIm:∀ r,Im r→Im' r:=fun r hr=>⟨hll.im r (.inl hr),fun hB=>hBwIm r hB hr⟩
   have hsame:(∀ b,bL m.fz b=true→b∈g)→Later Iml ιl w' Im' ιl w':=fun hf=>⟨fun r hr=>⟨hr,fun ⟨b,v,h1,h2,_⟩=>h2 (hf b h1)⟩,fun b v h=>h,fun _ _=>rfl⟩
   have hresI:VRel Im' ιl w' sv v:=by
    rcases hcase with hf | ⟨hf,_⟩
    ·exact VRel.mono (hsame hf) sv v hres
    ·rw [← hsv] at hres ⊢;exact uS rp ds v hf hres
   have hblkI:∀ j u,ιl j=some u→BRel Im' ιl w' (xs.getD j .none) u:=fun j u hj=>by
    have hb:=hml.hv j u hj
    rcases hcase with hf | ⟨_,hf⟩
    ·exact BRel.later (hsame hf) (fun _ _ _=>rfl) hb
    ·rw [← hxs] at hb ⊢;exact FV rb ds1 j u hf hb
   let hpX:List Blk:=(List.range hp'.length).map fun b=>if σ.contains b=true∨hp.length≤b then hp'.getD b .none else .none
   have hpX_get:∀ b,hpX.getD b .none=if b<hp'.length then (if σ.contains b=true∨hp.length≤b then hp'.getD b .none else .none) else .none:=fun b=>tS
   have hsrc:∀ b u,ι' b=some u→hpX.getD b .none= .none∨∃ i,i<rb.length∧b=co σ hp.length i∧ιl i=some u∧hpX.getD b .none=(xs.getD i .none).ren (co σ hp.length):=fun b u hb=>by
    by_cases h1:hp.length≤b∧b<hp.length+k2
    ·right
     refine ⟨n0+(b-hp.length),by omega,?_,?_,?_⟩
     ·rw [hrm_ge _ (Nat.le_add_right _ _)];omega
     ·rw [← hι'new (b-hp.length) (by omega),show hp.length+(b-hp.length)=b from by omega];exact hb
     ·rw [hpX_get,if_pos (by rw [hhp'len];exact h1.2),if_pos (.inr h1.1),← hget_new _ (by omega),show hp.length+(b-hp.length)=b from by omega]
    ·by_cases h2:b∈σ
     ·obtain ⟨j,hj,rfl⟩:=hσget b h2
      have hlt':=hσlt _ h2
      right
      refine ⟨j,by omega,(hrm_lt j hj).symm,?_,?_⟩
      ·rw [← hagree j (by omega),hrm_lt j hj];exact hb
      ·rw [hpX_get,if_pos (by rw [hhp'len];omega),if_pos (.inl (by simpa using h2)),hget_old j hj]
     ·left
      rw [hpX_get]
      split
      ·rename_i h3
       rw [hhp'len] at h3
       rw [if_neg]
       rintro (h4 | h4)
       ·exact h2 (by simpa using h4)
       ·exact h1 ⟨h4,h3⟩
      ·rfl
   have hMg:∀ b,(bp (σ++g) 0 hp).getD b .none=if (σ++g).contains b then hp.getD b .none else .none:=fun b=>by
    rw [nK,Nat.zero_add]
   have hrminj:∀ i j,i<rb.length→j<rb.length→i=j→co σ hp.length i=co σ hp.length j:=fun i j _ _ h=>by rw [h]
   have hσc:∀ b∈σ,(σ++g).contains b=true:=fun b hb=>by simp [hb]
   have hX:Mem C (uv w Im ι (σ++g) (bp (σ++g) 0 hp)) hpX Im' ι' w':=by
    have hFF:∀ r,(∃ i v,i<n0∧ιW ι m i=some v∧aP (hpl.getD i .none)=true∧aH v=some r)→(uv w Im ι (σ++g) (bp (σ++g) 0 hp)).F r:=by
     rintro r ⟨i,u,h1,h2,h3,h4⟩
     refine ⟨σ.getD i 0,u,hσc _ (hσmem i h1),by rw [← hιW i h1];exact h2,?_,h4⟩
     rw [hMg,if_pos (hσc _ (hσmem i h1))]
     exact (hσ i h1).2
    have hll':Later Im ι w Im' ι' w':=⟨hlaterIm,fun b u hb=>by
     rw [hι'old b fun h=>by rw [hnone b h.1 h.2] at hb;cases hb]
     exact hb,fun i hi=>hll.mem i (.inl hi)⟩
    refine ⟨fun b u hb=> ?_,⟨fun r hr=>hml.mr.imlt r hr.1,fun b u r h1 h2 h3=> ?_,fun b b' u u' r h1 h2 h3 h4 h5 h6=> ?_,fun b u r h1 h2 h3=> ?_⟩,⟨hml.since.os,hml.since.tape,hml.since.output,hml.since.size,fun k h1 h2=>hml.since.block k h1 fun h=>h2 (hFF k h),hll'.hd,hlaterIm,fun i h=> ?_⟩,hm.glob.later hll'⟩
    ·rcases hsrc b u hb with h | ⟨i,h1,rfl,h2,h3⟩
     ·rw [h];trivial
     ·rw [h3]
      exact (BRel.ren fun c hc=>hagree c (hbelow c (List.mem_append_right _ (L2 xs i c hc)))).2 (hblkI i u h2)
    ·rcases hsrc b u h2 with h | ⟨i,g1,rfl,g2,g3⟩
     ·rw [h] at h1;cases h1
     ·rw [g3,vg] at h1
      exact fun hr=>hml.mr.imm i u r h1 g2 h3 hr.1
    ·rcases hsrc b u h3 with h | ⟨i,g1,rfl,g2,g3⟩
     ·rw [h] at h1;cases h1
     ·rcases hsrc b' u' h4 with h | ⟨j,k1,rfl,k2',k3⟩
      ·rw [h] at h2;cases h2
      ·rw [g3,vg] at h1
       rw [k3,vg] at h2
       exact hrminj i j g1 k1 (hml.mr.sep i j u u' r h1 h2 g2 k2' h5 h6)
    ·rcases hsrc b u h2 with h | ⟨i,g1,rfl,g2,g3⟩
     ·rw [h] at h1;cases h1
     ·rw [g3,vg] at h1
      exact (hml.mr.mine i u r h1 g2 h3).imp id (hFF r)
    ·rcases hml.since.imnew i h.1 with h1 | h1 | h1
     ·rcases h1 with h1 | ⟨b,v,k1,k2,k3,k4⟩
      ·exact .inl h1
      ·by_cases hbg:b∈g
       ·exact .inr (.inr ⟨b,v,by simp [hbg],k2,by rw [hMg,if_pos (by simp [hbg])];exact k3,k4⟩)
       ·exact absurd ⟨b,v,k1,hbg,k2,k3,k4⟩ h.2
     ·exact .inr (.inl h1)
     ·exact .inr (.inr (hFF i h1))
   have hF:Mem C E hp' Im' ι' w':=Mem.frame (hpM:=bp (σ++g) 0 hp) (n:=hp.length) (k:=k2) hm hMg hX hι'old (fun b h1 h2=>hnone b h1 h2)
    (fun b hb=>by
     rw [hpX_get]
     rcases hb with h | h
     ·rcases List.mem_append.1 (by simpa using h) with h | h
      ·rw [if_pos (by rw [hhp'len];have:=hσlt b h;omega),if_pos (.inl (by simpa using h))]
      ·by_cases h3:b<hp.length
       ·rw [if_pos (by rw [hhp'len];omega),if_neg (by rintro (h4 | h4);exact hσg b (by simpa using h4) h;omega),hget_g b h3 h]
       ·by_cases h4:b<hp'.length
        ·rw [if_pos h4,if_pos (.inr (by omega))]
        ·rw [if_neg h4,aw,fW (by omega)];rfl
     ·rw [if_pos (by rw [hhp'len];exact h.2),if_pos (.inr h.1)])
    (fun b h1 h2=>by
     have h1':b∉σ∧b∉g:=by
      have:¬ b∈σ++g:=by simpa using h1
      exact ⟨fun h=>this (List.mem_append_left _ h),fun h=>this (List.mem_append_right _ h)⟩
     by_cases h3:b<hp.length
     ·exact hget_oth b h3 h1'.1 h1'.2
     ·rw [aw,aw,fW (by rw [hhp'len];omega),fW (by omega)])
   refine ⟨v,_,hp',Im',ι',rfl,hK,(VRel.ren sv v fun b hb=>hagree b (hbelow b (List.mem_append_left _ hb))).2 hresI,hF,by rw [hhp'len];omega,fun b hb=>hι'old b (by rw [← hhp'len];exact hb),⟨hlaterIm,fun b u hb=> ?_,fun i hi=>hll.mem i (.inl hi)⟩⟩
   rw [hι'old b fun h=>by rw [hnone b h.1 h.2] at hb;cases hb]
   exact hb
theorem u6 {C:Ctx} (hC:C.Ok) {f:FuncId} {ct:Ct} (G:List SV→List Blk→List Dat→Prop)
  (hrun:∀ (svs:List SV) (hp:List Blk) (ds:List Dat) (E:Ent) (Im:Nat→Prop) (ι:Nat→Option Value) (w:World) (vs:List Value),G svs hp ds→svs.length=ct.ps.length→hp.length=ct.bs.length→E.dfr= [] →(∀ b,hp.length≤b→E.ι b=none)→Mem C E hp Im ι w→oQ hp.length ι→VRels Im ι w svs vs→Calls C.P f vs.toArray w (cq C E Im ι w hp.length (ct.res ds)))
  (hcall:∀ vs:Array Value,∀ w,vs.size=ct.ps.length→(callFunc f vs).run C.P w= .ok (.enter f vs) w) (hvc:ct.VCG G):da C f (ap ct):=by
 intro svs hp K R h E Im ι w vs hm hRn hv
 unfold ap at h
 split at h
 ·rename_i svs' hpl ds m hw
  split at h
  ·rename_i σ hσ
   obtain ⟨hpre,h⟩:=h
   obtain ⟨ds1,ds2,m1,rfl,h1,h2,h3,h4⟩:=FA hw
   have f1:=convs_le (D:=gd ct.bs) h1
   have f2:=j4 (D:=gd ct.bs) h2
   have fine:=Fj f1 f2 h3 h4
   have hlenB:hpl.length=ct.bs.length:=(hH h2).2.2
   obtain ⟨hσl,hσs⟩:=By hσ
   have hvl:=convs_rel hm.hv fine.ok h1 f2.1 hv
   have hm0:Mem C ⟨w,Im,fun _=>none,fun r=>∃ b v,ι b=some v∧aP (hp.getD b .none)=true∧aH v=some r,[]⟩ hp Im ι w:=
    ⟨hm.hv,⟨hm.mr.imlt,hm.mr.imm,hm.mr.sep,fun b v r a1 a2 a3=> .inr ⟨b,v,a2,a1,a3⟩⟩,⟨rfl,rfl,rfl,Nat.le_refl _,fun _ _ _=>rfl,(fun b v h=>by cases h),fun _ h=>h,fun _ h=> .inl h⟩,hm.glob⟩
   have hm1:=Bt hm0 fine hlenB (fun j v hj=>by
    have:=qj hm.hv fine.ok h2 (.refl _) j v (by rw [Nat.zero_add];exact hj)
    rwa [Nat.zero_add] at this) (fun j hj=>oL h2 j hj) (fun _ _=>rfl) hC.globE
   have hfine:∀ i,ct.bs.length≤i→ιW ι m i=none:=fun i hi=>ιW_lt fine hi
   have hml:Mem C ⟨w,jb Im ι hp m,ιW ι m,fun r=>∃ i v,i<ct.bs.length∧ιW ι m i=some v∧aP (hpl.getD i .none)=true∧aH v=some r,[]⟩ hpl (jb Im ι hp m) (ιW ι m) w:=by
    refine ⟨hm1.hv,⟨hm1.mr.imlt,hm1.mr.imm,hm1.mr.sep,fun b v r a1 a2 a3=> .inr ⟨b,v,?_,a2,a1,a3⟩⟩,⟨rfl,rfl,rfl,Nat.le_refl _,fun _ _ _=>rfl,fun _ _ h=>h,fun _ h=>h,fun _ h=> .inl h⟩,hm1.glob⟩
    rcases Nat.lt_or_ge b ct.bs.length with hlt | hge
    ·exact hlt
    ·rw [hfine b hge] at a2;cases a2
   have e1:=(hH h2).1 _ ((convs_all h1).1 _ hvc)
   have i1:=(convs_all h1).2 []
   have i2:=(hH h2).2.1 []
   rw [List.append_nil] at i1 i2
   have e2:=imps_elim ct.ps ds1 vs _ (by rw [i1];exact hvl) e1
   have e3:=vn (hs_vrels svs' vs hvl) ct.bs 0 ds2 _ (fun j v hj=>by rw [i2];exact hm1.hv j v (by rw [← hj];congr 1;omega)) e2
   have e4:=e3 hpre
   have hlsv:svs'.length=ct.ps.length:=by
    have:∀ (ps:List Pat) (ds:List Dat),(instPs ps ds).1.length=ps.length:=by
     intro ps
     induction ps with
     | nil=>intro ds;rfl
     | cons p ps ih=>intro ds;simp [instPs,ih]
    have:=this ct.ps ds1
    rwa [i1] at this
   have hbody:=hrun svs' hpl (ds1++ds2) ⟨w,jb Im ι hp m,ιW ι m,fun r=>∃ i v,i<ct.bs.length∧ιW ι m i=some v∧aP (hpl.getD i .none)=true∧aH v=some r,[]⟩ _ _ w vs e4 hlsv hlenB rfl (fun b hb=>hfine b (by rw [← hlenB];exact hb)) hml (fun b hb=>hfine b (by rw [← hlenB];exact hb)) hvl
   rw [hlenB] at hbody
   have ok0:m.Ok (fun _=>False):=(j4 h2).2 ((convs_le h1).2 ⟨fun i h=>(by cases h),fun i b h=>(by cases h)⟩)
   have hinj:∀ i b,i<ct.bs.length→cX m.ρ i=some b→gJ m.β b=some i:=fun i b _ hb=>(ok0.inj i b hb).resolve_left id
   refine .inl ⟨hcall _ _ ?_,Calls.mono hbody fun e w' hp0=> ?_⟩
   ·have:=gj hvl
    simp;omega
   ·exact xC hC hm hinj fine.apart (fun j hj=>by have:=hσs j hj;rwa [Nat.zero_add] at this) hσl hfine hRn _ h hp0 fun i v a1 a2 a3=>by
     have:=(hσs i a3).2
     exact this
  ·exact h.elim
 ·exact h.elim
theorem XU {C:Ctx} (hC:C.Ok) {f:FuncId} {fn:Func} {c:Code} (hf:C.P.funcs[f]? =some fn) (hb:fn.body=some c) (ann:List Dat→Ann) {ct:Ct} {k:Nat} (hlenps:ct.ps.length+k=fn.ntmps) (hcall:∀ vs:Array Value,∀ w,vs.size=ct.ps.length→(callFunc f vs).run C.P w= .ok (.enter f vs) w)
  (hvc:ct.VC C fn.results.toList fn.ntmps k c ann):da C f (ap ct):=by
 refine u6 hC (fun svs hp ds=>kx C ct.bs.length (ann ds) c ⟨fn.ntmps,[],svs++List.replicate k SV.dead,hp,[]⟩ (qR C.P fn.results.toList fun sv hp'=>(ct.res ds).ok ct.bs.length sv hp')) (fun svs hp ds E Im ι w vs h h1 h2 hD hE hm hF hv=> ?_) hcall hvc
 rw [← h2] at h
 exact KP hC hf hb (ann ds) (k:=k) (by omega) (by omega) hE h hD hm hF hv
def G2 (k:IntKind):List Int→List Value→Option (List Value)
 | [],vs=>some vs
 | n::l,.int k' n'::vs=>if k'=k then (if n'=n then G2 k l vs else none) else none
 | _,_=>none
def GW:List Bool→List Value→Option (List Value)
 | [],vs=>some vs
 | b::l,.bool b'::vs=>if b'=b then GW l vs else none
 | _,_=>none
def Ni:SV→Value→Bool
 | .int k n,.int k' n'=>decide (k'=k)&&decide (n'=n)
 | .bool b,.bool b'=>decide (b'=b)
 | .str [],.string s=>decide (s.data.toList= [])
 | .nilp,.pointer none=>true
 | .nilf,.nilFunc=>true
 | .nils,.slice none 0 0=>true
 | .nili,.nilIface=>true
 | _,_=>false
def yi:List SV→List Value→Bool
 | [],vs=>(match vs with | [] =>true | _=>false)
 | .arrI n k l::cs,vs=>decide (l.length=n)&&(match G2 k l vs with | some vs=>yi cs vs | none=>false)
 | .arrB n l::cs,vs=>decide (l.length=n)&&(match GW l vs with | some vs=>yi cs vs | none=>false)
 | s::cs,vs=>(match vs with | v::vs=>Ni s v&&yi cs vs | [] =>false)
theorem IP {k:IntKind} :∀ {l:List Int} {vs vs':List Value},G2 k l vs=some vs'→vs=l.map (Value.int k)++vs'
 | [],vs,vs',h=>by cases h;rfl
 | n::l,vs,vs',h=>by
  cases vs with
  | nil=>cases h
  | cons v vs=>
   cases v <;>simp only [G2] at h <;>try cases h
   split at h
   ·split at h
    ·rename_i h1 h2
     subst h1;subst h2
     rw [IP h];rfl
    ·cases h
   ·cases h
theorem JL:∀ {l:List Bool} {vs vs':List Value},GW l vs=some vs'→vs=l.map Value.bool++vs'
 | [],vs,vs',h=>by cases h;rfl
 | n::l,vs,vs',h=>by
  cases vs with
  | nil=>cases h
  | cons v vs=>
   cases v <;>simp only [GW] at h <;>try cases h
   split at h
   ·rename_i h1
    subst h1
    rw [JL h];rfl
   ·cases h
theorem St {s:SV} {v:Value} (h:Ni s v=true) (Im:Nat→Prop) (ι:Nat→Option Value) (w:World):CellsRel Im ι w [s] [v] :=by
 unfold Ni at h
 split at h
 ·simp only [cV,aK] at h
  obtain ⟨rfl,rfl⟩:=h
  exact dz rfl rfl
 ·simp only [aK] at h
  subst h
  exact dz rfl rfl
 ·rename_i s
  simp only [aK] at h
  obtain ⟨⟨l⟩⟩:=s
  have:l= [] :=h
  subst this
  exact dz rfl ⟨rfl,Nat.zero_le _⟩
 ·exact dz rfl rfl
 ·exact dz rfl rfl
 ·exact dz rfl rfl
 ·exact dz rfl rfl
 ·cases h
theorem uW:∀ {cs:List SV} {vs:List Value},yi cs vs=true→∀ (Im:Nat→Prop) (ι:Nat→Option Value) (w:World),CellsRel Im ι w cs vs
 | [],vs,h,Im,ι,w=>by
  cases vs with
  | nil=>rfl
  | cons=>cases h
 | s::cs,vs,h,Im,ι,w=>by
  have gen:∀ v vs',vs=v::vs'→(Ni s v&&yi cs vs')=true→CellsRel Im ι w (s::cs) vs:=fun v vs' e k=>by
   subst e
   rw [cV] at k
   exact eX (St k.1 Im ι w) (uW k.2 Im ι w)
  cases s with
  | arrI n k l=>
   simp only [yi,cV,aK] at h
   obtain ⟨h1,h2⟩:=h
   split at h2
   ·rename_i vs' ht
    rw [IP ht]
    exact dM h1 (uW h2 Im ι w)
   ·cases h2
  | arrB n l=>
   simp only [yi,cV,aK] at h
   obtain ⟨h1,h2⟩:=h
   split at h2
   ·rename_i vs' ht
    rw [JL ht]
    exact gm h1 (uW h2 Im ι w)
   ·cases h2
  | _=>
   cases vs with
   | nil=>cases h
   | cons v vs=>exact gen v vs rfl h
def G7:List (TypeId×List SV)→TypeId→Option (List SV)
 | [],_=>none
 | (t,cs)::l,T=>bif Nat.beq t T then some cs else G7 l T
def NX (P:Program):List (TypeId×List SV)→Bool
 | [] =>true
 | (t,cs)::l=>(match P.info? t with
  | some i=>(match i.zero with
   | some z=>decide (z.cells.size=i.size)&&yi cs z.cells.toList
   | none=>false)
  | none=>false)&&NX P l
theorem LU {P:Program} :∀ {l:List (TypeId×List SV)},NX P l=true→lI P (G7 l)
 | [],_=>fun T cs h=>by cases h
 | (t,cs)::l,h=>by
  simp only [NX,cV] at h
  intro T cs' hT
  simp only [G7] at hT
  cases hb:Nat.beq t T with
  | true=>
   rw [hb] at hT
   cases hT
   cases aD.1 hb
   have h1:=h.1
   split at h1
   ·rename_i i hi
    split at h1
    ·rename_i z hz
     simp only [cV,aK] at h1
     exact ⟨i,z,hi,hz,h1.1,fun Im ι w=>uW h1.2 Im ι w⟩
    ·cases h1
   ·cases h1
  | false=>rw [hb] at hT;exact LU h.2 T cs' hT
abbrev af:=FuncId→List SV→List Blk→CR
def G8:af:=fun _ _ _=> .bad
def aj (sp:af) (n:Nat) (F:List SV→List Blk→CR):af:=fun f svs hp=>bif Nat.beq n f then F svs hp else sp f svs hp
def Ctx.with (C:Ctx) (sp:af):Ctx:= {C with spec:=sp}
theorem Ir {C:Ctx} {sp sp':af} {E:Ent} {hp:List Blk} {Im:Nat→Prop} {ι:Nat→Option Value} {w:World} (h:Mem (C.with sp) E hp Im ι w):Mem (C.with sp') E hp Im ι w:=⟨h.hv,h.mr,h.since,h.glob⟩
theorem Af {C:Ctx} {sp sp':af} {f:FuncId} {F:List SV→List Blk→CR} (h:da (C.with sp) f F):da (C.with sp') f F:=fun svs hp K R hw E Im ι w vs hm hR hv=>
 CallSem.mono (h svs hp K R hw E Im ι w vs (Ir hm) hR hv) fun e w' ⟨v,sv,hp',Im',ι',h1,h2,h3,h4,h5,h6,h7⟩=>⟨v,sv,hp',Im',ι',h1,h2,h3,Ir h4,h5,h6,h7⟩
theorem RJ {C:Ctx} (f:FuncId):da C f (G8 f):=fun svs hp K R hw=>hw.elim
theorem ac {C:Ctx} {sp:af} (h:(C.with sp).Ok) {n:Nat} {F:List SV→List Blk→CR} (hn:da (C.with sp) n F):(C.with (aj sp n F)).Ok:=by
 refine ⟨h.zero,fun f=> ?_,h.mixed,h.globE⟩
 cases hb:Nat.beq n f with
 | true=>
  cases aD.1 hb
  have e:(C.with (aj sp n F)).spec n=F:=by
   funext svs hp
   show (bif Nat.beq n n then F svs hp else sp n svs hp)=_
   rw [hb];rfl
  rw [e]
  exact Af hn
 | false=>
  have e:(C.with (aj sp n F)).spec f=sp f:=by
   funext svs hp
   show (bif Nat.beq n f then F svs hp else sp f svs hp)=_
   rw [hb];rfl
  rw [e]
  exact Af (h.spec f)
end Go.Avc
namespace Go.Proofs.YteiecapbaeajdaaGreatDoor
open Go.Avc Go.Proofs
noncomputable section
abbrev sW (n:Nat):SV:= .arrI n .u64 (List.replicate n 0)
def zt:List (TypeId×List SV):= [(3,[.int .i64 0]),(4,[.bool false]),(5,[.int .u8 0]),(9,[.str []]),(22,[.nils]),(24,[.nils]),(26,[.int .i64 0,.nils,.nils]),(27,[.int .i64 0]),(32,[.int .i64 0,.nils,.nils]),(36,[.nils]),(62,[.int .i64 0,.int .i64 0,.int .i64 0,.nils]),
 (65,[.int .i64 0,.int .i64 0,.int .i64 0,.str []]),(66,[.nils]),(73,[.int .u64 0]),(74,[sW 4]),(76,[sW 4]),(79,[.arrI 32 .u8 (List.replicate 32 0)]),(84,[.int .i64 0,.int .i64 0,.int .i64 0,.nils]),(86,[.int .i64 0,.nils]),(90,[.nils]),(116,[.int .i64 0,.int .i64 0,.int .i64 0,.str []]),
 (128,[.nilp,.arrI 32 .u8 (List.replicate 32 0),.nili]),(133,[.nilp]),(137,[.nilp]),(151,[.int .i64 0,.int .i64 0,.int .i64 0,.nils]),(162,[.nils]),(185,[.nils,.int .i64 0,.nilp]),(204,[.int .i64 0]),(211,[sW 25]),(212,[sW 25]),(214,[sW 25,.int .i64 0]),
 (253,[]),(259,[.nilp]),(278,[.arrI 200 .u8 (List.replicate 200 0)]),(295,[.nils,.bool false]),(298,[.nili,.nils,.int .i64 0,.int .i64 0,.int .i64 0]),(300,[.nili,.nils,.int .i64 0,.int .i64 0,.int .i64 0]),
 (88,[]),(265,[.int .i64 0,.nilf,.nils]),(313,[sW 12]),(316,[sW 36]),(318,[.int .u32 0,.int .i32 0,.int .u32 0,sW 780,sW 36]),(332,[.nils,.int .u64 0,.nils]),(337,[sW 5]),(341,[.arrB 64 (List.replicate 64 false)]),(342,[.arrB 320 (List.replicate 320 false)]),(344,[.arrB 1600 (List.replicate 1600 false)]),
 (208,[.nils]),(324,[sW 12]),(326,[sW 12]),(364,[sW 9]),(376,[.nilp]),
 (94,[.int .i64 0,.int .i64 0,.int .i64 0,.nils]),(96,[.nils]),(98,[.nils]),(100,[.nils,.nils]),(103,[.nils,.int .i64 0,.int .i64 0]),(105,[.nils,.int .i64 0,.int .i64 0,.int .i64 0]),(107,[.nils,.nils,.nils,.int .i64 0,.int .i64 0,.int .i64 0]),(109,[.int .i64 0,.nils,.int .i64 0,.int .i64 0,.nils,.nils,.int .i64 0,.int .i64 0,.int .i64 0,.nils,.nils,.nils,.int .i64 0,.int .i64 0,.int .i64 0]),
 (113,[.int .i64 0,.nils]),(158,[.arrB 80 (List.replicate 80 false)]),(366,[sW 81]),(372,[.nils,.nils,.nils,.nils,.nils,.nils,.nils,.nils,.nils]),(421,[.nilp]),(429,[.arrB 80 (List.replicate 80 false),.int .i64 0])]
set_option maxRecDepth 100000 in
theorem amt:NX Tryz.prog zt=true:=by kernel_rfl
def FM:List Int:= [1,32898,9223372036854808714,9223372039002292224,32907,2147483649,9223372039002292353,9223372036854808585,138,136,2147516425,2147483658,2147516555,9223372036854775947,9223372036854808713,9223372036854808579,
 9223372036854808578,9223372036854775936,32778,9223372039002259466,9223372039002292353,9223372036854808704,2147483649,9223372039002292232]
def aaC:LD:=FM.map fun n=> [.int n]
def gl:Nat→Option SV:=fun g=>bif Nat.beq g 0 then some (.eptr [.int .u64] aaC 0 0) else none
def base:Ctx:=⟨Tryz.prog,G7 zt,gl,G8⟩
theorem LY:(base.with G8).Ok:=⟨LU amt,fun f=>RJ f,by kernel_rfl,fun g sv h=>by
 have h':gl g=some sv:=h
 unfold gl at h'
 cases hb:Nat.beq g 0 with
 | true=>rw [hb] at h';cases h';exact ⟨_,_,_,_,rfl⟩
 | false=>rw [hb] at h';cases h'⟩
abbrev lM {α:Type} (a:List α):Prop:=a.length≤9223372036854775807
abbrev iR (a:Int):Prop:= -9223372036854775808≤a∧a≤9223372036854775807
abbrev aR (a k:Nat):Prop:=a*k≤140737488355328∧a≤9223372036854775807
abbrev bR {α:Type} (a:Int) (l:List α):Prop:=0≤a∧a<(l.length:Int)
def uA (fn:Func):Code:=match fn.body with | some c=>c | none=> .skip
def am:List Dat→Ann:=fun _=> {cut:= [],loop:= []}
def IW (s:af) (f:Func) (c:Ct) (a:List Dat→Ann):Prop:=c.VC (base.with s) f.results.toList f.ntmps (f.ntmps-c.ps.length) (uA f) a
theorem ai {s:af} {n:FuncId} {f:Func} {c:Ct} (a:List Dat→Ann) {p:Prop} (hc:(base.with s).Ok) (hf:Tryz.prog.funcs[n]? =some f) (h:(match f.body with |some _=>Nat.beq (c.ps.length+(f.ntmps-c.ps.length)) f.ntmps |none=>false)=true) (hr:∀ (vs:Array Value) (w:World),(callFunc n vs).run Tryz.prog w=.ok (.enter n vs) w) (e:IW s f c a=p) (v:p):da (base.with s) n (ap c):=XU hc hf (show f.body=some (uA f) by unfold uA;cases q:f.body with |some _=>rfl |none=>rw [q] at h;cases h) a (by cases q:f.body with |some _=>rw [q] at h;exact Nat.eq_of_beq_eq_true h |none=>rw [q] at h;cases h) (fun vs w _=>hr vs w) (by rw [show c.VC _ _ _ _ _ _=p from e];exact v)
abbrev abK:LD:=[[.int 0],[.int 0],[.int 0],[.int 0],[.int 0],[.int 0],[.int 0],[.int 0],[.int 0],[.int 0],[.int 0],[.int 0],[.int 0],[.int 0],[.int 0],[.int 0],[.int 0],[.int 0],[.int 0],[.int 0],[.int 0],[.int 0],[.int 0],[.int 0],[.int 0],[.int 0],[.int 0],[.int 0],[.int 0],[.int 0],[.int 0],[.int 0]]
abbrev we:LD:=[[.int 0],[.int 0],[.int 0],[.int 0],[.int 0],[.int 0],[.int 0],[.int 0],[.int 0],[.int 0],[.int 0],[.int 0],[.int 0],[.int 0],[.int 0],[.int 0],[.int 0],[.int 0],[.int 0],[.int 0],[.int 0],[.int 0],[.int 0],[.int 0],[.int 0],[.int 0],[.int 0],[.int 0],[.int 0],[.int 0],[.int 0],[.int 0],[.int 0],[.int 0],[.int 0],[.int 0],[.int 0],[.int 0],[.int 0],[.int 0],[.int 0],[.int 0],[.int 0],[.int 0],[.int 0],[.int 0],[.int 0],[.int 0],[.int 0],[.int 0],[.int 0],[.int 0],[.int 0],[.int 0],[.int 0],[.int 0],[.int 0],[.int 0],[.int 0],[.int 0],[.int 0],[.int 0],[.int 0],[.int 0],[.int 0],[.int 0],[.int 0],[.int 0],[.int 0],[.int 0],[.int 0],[.int 0],[.int 0],[.int 0],[.int 0],[.int 0],[.int 0],[.int 0],[.int 0],[.int 0],[.int 0],[.int 0],[.int 0],[.int 0],[.int 0],[.int 0],[.int 0],[.int 0],[.int 0],[.int 0],[.int 0],[.int 0],[.int 0],[.int 0],[.int 0],[.int 0],[.int 0],[.int 0],[.int 0],[.int 0],[.int 0],[.int 0],[.int 0],[.int 0],[.int 0],[.int 0],[.int 0],[.int 0],[.int 0],[.int 0],[.int 0],[.int 0],[.int 0],[.int 0],[.int 0],[.int 0],[.int 0],[.int 0],[.int 0],[.int 0],[.int 0],[.int 0],[.int 0],[.int 0],[.int 0],[.int 0],[.int 0],[.int 0],[.int 0],[.int 0],[.int 0],[.int 0],[.int 0],[.int 0],[.int 0],[.int 0]]
end
end Go.Proofs.YteiecapbaeajdaaGreatDoor
