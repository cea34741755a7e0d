/-
  The conditions of the reference's steps on bits are met.
-/
import Derived.Test.YteiecapbaeajdaaGreatDoorJ5
import Derived.Test.YteiecapbaeajdaaGreatDoorJ4
import Derived.Recover
import Derived.Laws.Externs
import Derived.Laws.MathBits
namespace Go.Proofs.YteiecapbaeajdaaGreatDoor
open Go Go.Avc Go.Proofs
set_option linter.unusedVariables false
set_option linter.unusedSimpArgs false
set_option maxRecDepth 100000
theorem aT {n:Int} (h:0≤n):∃ i:Nat,n=i:=⟨n.toNat,by omega⟩
theorem bp (i:Nat):((i:Int)+1).toNat=i+1:=by omega
theorem m5 (x k:Nat):(((x:Int)+(k:Int))%5).toNat=(x+k)%5:=by omega
theorem Yi:QX:=by
  intro a ha _
  refine ⟨⟨⟨rfl,by omega,by omega,rfl⟩,trivial⟩,?_⟩
  rintro x' a1 _ t _ _ _ ⟨rfl,h0,h1,ht⟩
  obtain ⟨x,rfl⟩:=aT h0
  rw [Int.toNat_natCast] at ht
  refine ab (fun h=> ?_) fun h=> ?_
  · simp only [decide_eq_true_eq] at h
    refine ⟨⟨⟨rfl,rfl,by omega,by omega,rfl⟩,trivial⟩,?_⟩
    rintro x' y' a2 _ t1 _ _ _ ⟨rfl,rfl,h2,h3,ht1⟩
    obtain ⟨y,rfl⟩:=aT h2
    rw [Int.toNat_natCast,Int.toNat_natCast] at ht1
    refine ab (fun h4=> ?_) fun h4=> ?_
    · simp only [decide_eq_true_eq] at h4
      refine ⟨⟨⟨rfl,rfl,rfl,by omega,by omega,rfl⟩,trivial⟩,?_⟩
      rintro x' y' z' a3 _ t2 _ _ _ ⟨rfl,rfl,rfl,h5,h6,ht2⟩
      obtain ⟨z,rfl⟩:=aT h5
      simp only [Int.toNat_natCast] at ht2
      refine ab (fun h7=> ?_) fun h7=> ?_
      · simp only [decide_eq_true_eq] at h7
        have e1:(((x:Int)+1)%5).toNat=(x+1)%5:=m5 x 1
        have e2:(((x:Int)+2)%5).toNat=(x+2)%5:=m5 x 2
        simp only [Int.toNat_natCast,e1,e2,bp,Nat.mul_one]
        refine ⟨by omega,by omega,by omega,by omega,by omega,by omega,by omega,by omega,by omega,by omega,fun _=>by omega,fun _=>by omega,fun _=>by omega,fun _=>by omega,fun _=>by omega,fun _=>by omega,by omega,by omega,by omega,by omega,by omega,⟨by trivial,by trivial,by trivial,by omega,by omega,?_⟩,by omega⟩
        rw [ht2];rfl
      · simp only [decide_eq_false_iff_not] at h7
        have hz:z=64:=by omega
        subst hz
        refine ⟨by omega,⟨by trivial,by trivial,by omega,by omega,?_⟩,by omega⟩
        rw [bp,ht2,ht1];rfl
    · simp only [decide_eq_false_iff_not] at h4
      have hy:y=5:=by omega
      subst hy
      refine ⟨by omega,⟨by trivial,by omega,by omega,?_⟩,by omega⟩
      rw [bp,ht1,ht];rfl
  · simp only [decide_eq_false_iff_not] at h
    have hx:x=5:=by omega
    subst hx
    rw [ht];rfl
theorem Ve:af (base.with yu) 220 (ag FC):=am TJ Tryz.func220 (by kernel_rfl) (by kernel_rfl) Tryz.call220 aet Yi
theorem UU:(base.with xH).Ok:=ae TJ Ve
theorem xy5 (x y:Nat):((2*(x:Int)+3*(y:Int))%5).toNat=(2*x+3*y)%5:=by
  have:2*(x:Int)+3*(y:Int)=((2*x+3*y:Nat):Int):=by omega
  rw [this]
  generalize 2*x+3*y=m
  omega
theorem YP:T5:=by
  intro a ha _
  refine ⟨⟨⟨rfl,by omega,by omega,rfl⟩,trivial⟩,?_⟩
  rintro x' a1 _ t _ _ _ ⟨rfl,h0,h1,ht⟩
  obtain ⟨x,rfl⟩:=aT h0
  rw [Int.toNat_natCast] at ht
  refine ab (fun h=> ?_) fun h=> ?_
  · simp only [decide_eq_true_eq] at h
    refine ⟨⟨⟨rfl,rfl,by omega,by omega,rfl⟩,trivial⟩,?_⟩
    rintro x' y' a2 _ t1 _ _ _ ⟨rfl,rfl,h2,h3,ht1⟩
    obtain ⟨y,rfl⟩:=aT h2
    rw [Int.toNat_natCast,Int.toNat_natCast] at ht1
    refine ab (fun h4=> ?_) fun h4=> ?_
    · simp only [decide_eq_true_eq] at h4
      have e1:=xy5 x y
      have e2:(2*x+3*y)%5<5:=Nat.mod_lt _ (by decide)
      simp only [Int.toNat_natCast,e1,bp,Nat.mul_one]
      refine ⟨by omega,by omega,by omega,by omega,by omega,by omega,by omega,by omega,by omega,by omega,by omega,⟨by trivial,by trivial,by omega,by omega,?_⟩,by omega⟩
      rw [ht1];rfl
    · simp only [decide_eq_false_iff_not] at h4
      have hy:y=5:=by omega
      subst hy
      refine ⟨by omega,⟨by trivial,by omega,by omega,?_⟩,by omega⟩
      rw [bp,ht1,ht];rfl
  · simp only [decide_eq_false_iff_not] at h
    have hx:x=5:=by omega
    subst hx
    rw [ht];rfl
theorem Xf:af (base.with xH) 221 (ag Ev):=am UU Tryz.func221 (by kernel_rfl) (by kernel_rfl) Tryz.call221 adz YP
theorem St:(base.with xh).Ok:=ae UU Xf
theorem VQ:S1:=by
  intro a ha _
  refine ⟨by omega,by omega,by omega,by omega,by omega,by omega,⟨⟨rfl,by omega,by omega,rfl,rfl,rfl⟩,trivial⟩,?_⟩
  rintro x' y' t' a1 _ l1 _ _ _ ⟨rfl,h0,h1,rfl,rfl,hl⟩
  obtain ⟨t,rfl⟩:=aT h0
  rw [Int.toNat_natCast] at *
  refine ab (fun h=> ?_) fun h=> ?_
  · simp only [decide_eq_true_eq] at h
    refine ⟨⟨⟨rfl,rfl,rfl,rfl,by omega,by omega,rfl⟩,trivial⟩,?_⟩
    rintro x' y' t' z' a2 _ l2 _ _ _ ⟨rfl,rfl,rfl,rfl,h2,h3,hl2⟩
    obtain ⟨z,rfl⟩:=aT h2
    obtain ⟨hx,hy⟩:=MG t
    simp only [Int.toNat_natCast] at hl2
    refine ab (fun h4=> ?_) fun h4=> ?_
    · simp only [decide_eq_true_eq] at h4
      have hm:(t+1)*(t+2)≤24*25:=Nat.mul_le_mul (by omega) (by omega)
      have em:((t:Int)+1)*((t:Int)+2)=(((t+1)*(t+2):Nat):Int):=by simp
      have eq0:((z:Int)+(((t+1)*(t+2):Nat):Int) / 2)%64=(((z+(t+1)*(t+2) / 2)%64:Nat):Int):=by omega
      have emax:IntKind.max .i64=9223372036854775807:=by decide
      rw [em,eq0,emax]
      simp only [Int.toNat_natCast,bp,Nat.mul_one]
      have hlt:(z+(t+1)*(t+2) / 2)%64<64:=Nat.mod_lt _ (by decide)
      refine ⟨by omega,by omega,by omega,by omega,by omega,by omega,by omega,by omega,by omega,by omega,by omega,by omega,by omega,by omega,by omega,⟨by trivial,by trivial,by trivial,by trivial,by omega,by omega,?_⟩,by omega⟩
      rw [hl2];rfl
    · simp only [decide_eq_false_iff_not] at h4
      have hz:z=64:=by omega
      subst hz
      have e1:=xy5 (bR t).1 (bR t).2
      refine ⟨by omega,by omega,by omega,by omega,by omega,⟨by trivial,by omega,by omega,?_,?_,?_⟩,by omega⟩
      · rw [bp];rfl
      · rw [bp]
        show _=(((2*(bR t).1+3*(bR t).2)%5:Nat):Int)
        rw [← e1]
        omega
      · rw [bp,hl2,hl];rfl
  · simp only [decide_eq_false_iff_not] at h
    have ht:t=24:=by omega
    subst ht
    rw [hl];rfl
theorem WP:af (base.with xh) 222 (ag G9):=am St Tryz.func222 (by kernel_rfl) (by kernel_rfl) Tryz.call222 aeh VQ
theorem Se:(base.with yL).Ok:=ae St WP
theorem YT:OB:=by
  intro a ha _
  refine ⟨⟨⟨rfl,by omega,by omega,rfl⟩,trivial⟩,?_⟩
  rintro x' a1 _ p _ _ _ ⟨rfl,h0,h1,ht⟩
  obtain ⟨x,rfl⟩:=aT h0
  rw [Int.toNat_natCast] at ht
  refine ab (fun h=> ?_) fun h=> ?_
  · simp only [decide_eq_true_eq] at h
    refine ⟨⟨⟨rfl,rfl,by omega,by omega,rfl⟩,trivial⟩,?_⟩
    rintro x' z' a2 _ p1 _ _ _ ⟨rfl,rfl,h2,h3,ht1⟩
    obtain ⟨z,rfl⟩:=aT h2
    rw [Int.toNat_natCast,Int.toNat_natCast] at ht1
    refine ab (fun h4=> ?_) fun h4=> ?_
    · simp only [decide_eq_true_eq] at h4
      refine ⟨⟨⟨rfl,rfl,rfl,rfl,by omega,by omega,rfl,by omega,by omega⟩,trivial⟩,?_⟩
      rintro x' z' n' y' a3 _ p2 _ _ _ ⟨rfl,rfl,rfl,rfl,h5,h6,hn,h8,h9⟩
      obtain ⟨y,rfl⟩:=aT h5
      simp only [Int.toNat_natCast] at hn
      refine ab (fun h7=> ?_) fun h7=> ?_
      · simp only [decide_eq_true_eq] at h7
        simp only [Int.toNat_natCast,bp,Nat.mul_one]
        refine ⟨by omega,by omega,by omega,by omega,?_⟩
        refine ab (fun hb=> ?_) fun hb=> ?_
        · refine ⟨by omega,by omega,⟨by trivial,by trivial,by trivial,by trivial,by omega,by omega,?_,by omega,by omega⟩,by omega⟩
          rw [hn,fZ]
          exact (if_pos hb).symm
        · refine ⟨by omega,⟨by trivial,by trivial,by trivial,by trivial,by omega,by omega,?_,by omega,by omega⟩,by omega⟩
          rw [hn,fZ]
          exact (if_neg (by unfold gb cp;rw [hb];decide)).symm
      · simp only [decide_eq_false_iff_not] at h7
        have hy:y=5:=by omega
        subst hy
        simp only [Int.toNat_natCast,bp,Nat.mul_one]
        refine ⟨by omega,by omega,by omega,by omega,by omega,⟨by trivial,by trivial,by omega,by omega,?_⟩,by omega⟩
        rw [ht1,hn];rfl
    · simp only [decide_eq_false_iff_not] at h4
      have hz:z=64:=by omega
      subst hz
      refine ⟨by omega,⟨by trivial,by omega,by omega,?_⟩,by omega⟩
      rw [bp,ht1,ht];rfl
  · simp only [decide_eq_false_iff_not] at h
    have hx:x=5:=by omega
    subst hx
    refine ⟨⟨⟨by trivial,ht,by omega,by omega,rfl⟩,trivial⟩,?_⟩
    clear ht h h1 h0
    rintro x' a2 _ p2 t _ _ _ _ ⟨rfl,hp,h0,h1,ht⟩
    obtain ⟨x,rfl⟩:=aT h0
    rw [Int.toNat_natCast] at ht
    refine ab (fun h=> ?_) fun h=> ?_
    · simp only [decide_eq_true_eq] at h
      refine ⟨⟨⟨rfl,rfl,rfl,by omega,by omega,rfl⟩,trivial⟩,?_⟩
      rintro x' y' a2 _ p3 t1 _ _ _ _ ⟨rfl,rfl,rfl,h2,h3,ht1⟩
      obtain ⟨y,rfl⟩:=aT h2
      rw [Int.toNat_natCast,Int.toNat_natCast] at ht1
      refine ab (fun h4=> ?_) fun h4=> ?_
      · simp only [decide_eq_true_eq] at h4
        refine ⟨⟨⟨rfl,rfl,rfl,rfl,by omega,by omega,rfl⟩,trivial⟩,?_⟩
        rintro x' y' z' a3 _ p3 t2 _ _ _ _ ⟨rfl,rfl,rfl,rfl,h5,h6,ht2⟩
        obtain ⟨z,rfl⟩:=aT h5
        simp only [Int.toNat_natCast] at ht2
        refine ab (fun h7=> ?_) fun h7=> ?_
        · simp only [decide_eq_true_eq] at h7
          have e1:(((x:Int)+4)%5).toNat=(x+4)%5:=m5 x 4
          have e2:(((x:Int)+1)%5).toNat=(x+1)%5:=m5 x 1
          have e3:(((z:Int)+63)%64).toNat=(z+63)%64:=by omega
          simp only [Int.toNat_natCast,e1,e2,e3,bp,Nat.mul_one]
          refine ⟨by omega,by omega,by omega,by omega,by omega,by omega,by omega,by omega,by omega,by omega,by omega,by omega,by omega,by omega,by omega,by omega,by omega,by omega,by omega,by omega,by omega,⟨by trivial,by trivial,by trivial,by trivial,by omega,by omega,?_⟩,by omega⟩
          rw [ht2];rfl
        · simp only [decide_eq_false_iff_not] at h7
          have hz:z=64:=by omega
          subst hz
          refine ⟨by omega,⟨by trivial,by trivial,by trivial,by omega,by omega,?_⟩,by omega⟩
          rw [bp,ht2,ht1];rfl
      · simp only [decide_eq_false_iff_not] at h4
        have hy:y=5:=by omega
        subst hy
        refine ⟨by omega,⟨by trivial,hp,by omega,by omega,?_⟩,by omega⟩
        rw [bp,ht1,ht];rfl
    · simp only [decide_eq_false_iff_not] at h
      have hx:x=5:=by omega
      subst hx
      rw [ht,hp];rfl
theorem VK:af (base.with yL) 223 (ag D3):=am Se Tryz.func223 (by kernel_rfl) (by kernel_rfl) Tryz.call223 abK YT
theorem RY:(base.with x9).Ok:=ae Se VK
theorem Xo:Ug:=by
  intro a r ha _
  refine ⟨trivial,trivial,trivial,trivial,trivial,⟨⟨rfl,by omega,by omega,rfl⟩,trivial⟩,?_⟩
  rintro z' t _ c _ _ _ ⟨hc,h0,h1,ht⟩
  obtain ⟨z,rfl⟩:=aT h0
  rw [Int.toNat_natCast] at ht
  refine ab (fun h=> ?_) fun h=> ?_
  · simp only [decide_eq_true_eq] at h
    simp only [Int.toNat_natCast,bp,Nat.mul_one,Nat.zero_add]
    refine ⟨by omega,by omega,by omega,by omega,by omega,by omega,by omega,by omega,by omega,by omega,by omega,⟨hc,by omega,by omega,?_⟩,by omega⟩
    rw [ht,hc];rfl
  · simp only [decide_eq_false_iff_not] at h
    have hz:z=64:=by omega
    subst hz
    rw [ht];rfl
theorem ZU:af (base.with x9) 195 (ag Gq):=am RY Tryz.func195 (by kernel_rfl) (by kernel_rfl) Tryz.call195 ads Xo
theorem Sf:(base.with w6).Ok:=ae RY ZU
theorem KU (n:Nat) (v:Int):v / 2 ^ n / 2=v / 2 ^ (n+1):=by
  rw [Int.pow_succ,Int.ediv_ediv_of_nonneg (Int.le_of_lt (Int.pow_pos (by decide)))]
theorem PP {v:Int} (h:0≤v) (z:Nat):decide (v / 2 ^ z%2=1)=bt v z:=by
  obtain ⟨n,rfl⟩:=aT h
  unfold bt
  rw [Int.toNat_natCast,Nat.testBit_eq_decide_div_mod_eq,show (2:Int) ^ z=((2 ^ z:Nat):Int) from by rw [Int.natCast_pow];rfl]
  apply decide_eq_decide.2
  rw [← Int.natCast_ediv]
  omega
theorem ZS:Qt:=by
  intro s hs hw
  refine ⟨⟨⟨rfl,by omega,by omega,rfl⟩,trivial⟩,?_⟩
  rintro i' s1 _ t _ _ _ ⟨rfl,h0,h1,ht⟩
  obtain ⟨i,rfl⟩:=aT h0
  simp only [Int.toNat_natCast] at ht
  refine ab (fun h=> ?_) fun h=> ?_
  · simp only [decide_eq_true_eq] at h
    have hv:=hw i
    simp only [Int.toNat_natCast,Nat.mul_one]
    refine ⟨by omega,by omega,⟨⟨by trivial,by trivial,by omega,by omega,(Int.ediv_one _).symm,rfl⟩,trivial⟩,?_⟩
    generalize hV:s1.getD i 0=V at *
    rintro i' v z' s2 _ t1 _ _ _ ⟨rfl,rfl,h2,h3,rfl,ht1⟩
    obtain ⟨z,rfl⟩:=aT h2
    simp only [Int.toNat_natCast] at ht1 ⊢
    have hp:(0:Int)<2 ^ z:=Int.pow_pos (by decide)
    have hd:0≤V / 2 ^ z:=Int.ediv_nonneg hv.1 (Int.le_of_lt hp)
    have hd2:V / 2 ^ z≤V:=Int.ediv_le_self _ hv.1
    have hd3:=hv.2
    refine ab (fun h4=> ?_) fun h4=> ?_
    · simp only [decide_eq_true_eq] at h4
      have emax:IntKind.max .i64=9223372036854775807:=by decide
      have emax2:IntKind.max .u64=18446744073709551615:=by decide
      have e1:((i:Int)%5).toNat=i%5:=by omega
      have e2:((i:Int) / 5).toNat=i / 5:=by omega
      rw [emax,emax2,KU,PP hv.1]
      simp only [Int.toNat_natCast,e1,e2,bp,Nat.mul_one]
      refine ⟨by omega,by omega,by omega,by omega,by omega,by omega,by omega,by omega,by omega,⟨by trivial,by trivial,by omega,by omega,by trivial,?_⟩,by omega⟩
      rw [ht1];rfl
    · simp only [decide_eq_false_iff_not] at h4
      have hz:z=64:=by omega
      subst hz
      refine ⟨by omega,⟨by trivial,by omega,by omega,?_⟩,by omega⟩
      rw [bp,ht1,ht,← hV];rfl
  · simp only [decide_eq_false_iff_not] at h
    have hi:i=25:=by omega
    subst hi
    rw [ht];rfl
theorem Wy:af (base.with w6) 194 (ag Fy):=am Sf Tryz.func194 (by kernel_rfl) (by kernel_rfl) Tryz.call194 abI ZS
theorem Tj:(base.with yS).Ok:=ae Sf Wy
theorem MM (a:List Bool) (i:Nat):∀ n,wv a i n<2 ^ n
  | 0=>Nat.one_pos
  | n+1=>by
    have:=MM a i n
    rw [wv,Nat.pow_succ]
    split <;>omega
theorem Xy:S0:=by
  intro a ha _
  refine ⟨⟨⟨rfl,by omega,by omega,rfl⟩,trivial⟩,?_⟩
  rintro i' a1 _ t _ _ _ ⟨rfl,h0,h1,ht⟩
  obtain ⟨i,rfl⟩:=aT h0
  simp only [Int.toNat_natCast] at ht ⊢
  refine ab (fun h=> ?_) fun h=> ?_
  · simp only [decide_eq_true_eq] at h
    refine ⟨⟨⟨by trivial,by trivial,by trivial,by omega,by omega,by omega⟩,trivial⟩,?_⟩
    rintro i' v z' a2 _ t1 _ _ _ ⟨rfl,rfl,rfl,h2,h3,rfl⟩
    refine ab (fun h4=> ?_) fun h4=> ?_
    · simp only [decide_eq_true_eq] at h4
      obtain ⟨z,rfl⟩:=aT h4
      have emax:IntKind.max .i64=9223372036854775807:=by decide
      have e1:((i:Int)%5).toNat=i%5:=by omega
      have e2:((i:Int) / 5).toNat=i / 5:=by omega
      have e3:((63:Int)-(z:Int)).toNat=63-z:=by omega
      have e4:((63:Int)-((z:Int)-1)).toNat=63-z+1:=by omega
      have hw:=MM a2 i (63-z)
      have hpow:2 ^ (63-z)≤2 ^ 63:=Nat.pow_le_pow_right (by decide) (by omega)
      rw [emax]
      simp only [Int.toNat_natCast,e1,e2,e3,e4,Nat.mul_one]
      have hwu:∀ b:Nat,b≤1→IntKind.u64.wrap ((wv a2 i (63-z):Int)*2+b)=((2*wv a2 i (63-z)+b:Nat):Int):=fun b hb=>by rw [eY];omega
      refine ⟨by omega,by omega,by omega,by omega,by omega,by omega,?_⟩
      refine ab (fun hb=> ?_) fun hb=> ?_
      · refine ⟨by omega,⟨by trivial,by trivial,by trivial,by omega,by omega,?_⟩,by omega⟩
        have:=hwu 0 (by omega)
        rw [Int.natCast_zero,Int.add_zero,Nat.add_zero] at this
        rw [this,wv,if_pos (by rw [show 63-(63-z)=z from by omega];exact hb),eY]
        omega
      · refine ⟨by omega,⟨by trivial,by trivial,by trivial,by omega,by omega,?_⟩,by omega⟩
        have:=hwu 0 (by omega)
        rw [Int.natCast_zero,Int.add_zero,Nat.add_zero] at this
        rw [this,wv,if_neg (by rw [show 63-(63-z)=z from by omega];unfold gb cp;rw [hb];decide)]
        omega
    · simp only [decide_eq_false_iff_not] at h4
      have hz:z'= -1:=by omega
      subst hz
      refine ⟨by omega,by omega,by omega,⟨by trivial,by omega,by omega,?_⟩,by omega⟩
      rw [bp,ht,Int.toNat_natCast,Nat.mul_one];rfl
  · simp only [decide_eq_false_iff_not] at h
    have hi:i=25:=by omega
    subst hi
    rw [ht,IY,aR]
theorem Y4:af (base.with yS) 196 (ag Gk):=am Tj Tryz.func196 (by kernel_rfl) (by kernel_rfl) Tryz.call196 acW Xy
theorem OE:(base.with xf).Ok:=ae Tj Y4
theorem V2:Rd:=by
  intro s hs hw
  refine ⟨hw,⟨⟨by omega,by omega,rfl⟩,trivial⟩,?_⟩
  rintro n _ _ t _ _ _ ⟨h0,h1,ht⟩
  obtain ⟨i,rfl⟩:=aT h0
  rw [Int.toNat_natCast] at ht
  refine ab (fun h=> ?_) fun h=> ?_
  · simp only [decide_eq_true_eq] at h
    refine ⟨trivial,by omega,⟨by omega,by omega,?_⟩,by omega⟩
    rw [bp,ht];rfl
  · simp only [decide_eq_false_iff_not] at h
    have hi:i=24:=by omega
    subst hi
    exact ⟨trivial,by rw [ht,FB,aR]⟩
theorem Y5:af (base.with xf) 156 (ag Hk):=am OE Tryz.func156 (by kernel_rfl) (by kernel_rfl) Tryz.call156 adu V2
theorem PZ:(base.with zl).Ok:=ae OE Y5
end Go.Proofs.YteiecapbaeajdaaGreatDoor
namespace Go.Proofs.YteiecapbaeajdaaGreatDoor
open Go Go.Avc
set_option linter.unusedVariables false
abbrev rb:Pat:= .rd [.int .u8]
abbrev aI:Pat:= .rd [.int .u64]
abbrev ob:BPat:= .own 5 [.int .u8]
abbrev ow:BPat:= .own 73 [.int .u64]
def ac (n:Int):List CD:= [.int n]
def rv (l:List (List CD)) (i:Nat):Int:=((l.getD i []).getD 0 .d0).toInt
def ce (l:List (List CD)):Prop:=∀ i,ak (rv l i)
def ax (l:List (List CD)):Prop:=∀ i,0≤rv l i∧rv l i<256
def wb (w:Int) (k:Nat):Int:=w / 256 ^ k%256
def jB (w:Int):Nat→List Int
  | 0=> []
  | n+1=>jB w n++ [wb w n]
def co (f:Nat→Int):Nat→List Int
  | 0=> []
  | n+1=>co f n++jB (f n) 8
noncomputable def fJ (s:List Int):List Int:=hid (co (fun i=>s.getD i 0) 25)
theorem jM (s:List Int):fJ s=co (fun i=>s.getD i 0) 25:=aR _
def aL (l:List (List CD)):Nat→List Int
  | 0=>List.replicate ((l.length+7) / 8) 0
  | i+1=>(aL l i).set (i / 8) (dQ .u64 ((aL l i).getD (i / 8) 0) (cn .u64 (IntKind.u64.wrap (rv l i)) ((8*(i%8):Nat):Int)))
def tH (l:List (List CD)):Nat→List Int
  | 0=>List.replicate 25 0
  | n+1=>(tH l n).set ((l.length-1-n) / 8) (IntKind.u64.wrap (IntKind.u64.wrap ((tH l n).getD ((l.length-1-n) / 8) 0*256)+IntKind.u64.wrap (rv l (l.length-1-n))))
def wd (f:Nat→Int):Nat→Int
  | 0=>0
  | n+1=>wd f n+f n*256 ^ n
noncomputable def Mz:List Int:=hid (List.replicate 25 0)
theorem O2:Mz=List.replicate 25 0:=aR _
def Fu:Ct:= {ps:= [rb],bs:= [],pre:=fun | [.r l] =>l.length≤1000∧ax l | _=>False,res:=fun | [.r l] => .ret (.own 0) [ow] [.r ((aL l l.length).map ac)] | _=>aj}
def UA:List Dat→Ann
  | [.r l] =>⟨[],[(3,[la 33 [(3,.own 0),(11,rb),(12,i64),(13,i64)] [ow] (fun | [.r l',.i n,.i i,.r w] =>l'=l∧n=l.length∧0≤i∧i≤n∧w=(aL l i.toNat).map ac | _=>False) (fun | [_,.i n,.i i,_] =>(n-i).toNat | _=>0)])],[]⟩
  | _=> {cut:= [],loop:= []}
def Gg:Ct:= {ps:= [aI],bs:= [],pre:=fun | [.r l] =>l.length≤1000∧ce l | _=>False,res:=fun | [.r l] => .ret (.own 0) [ob] [.r ((co (rv l) l.length).map ac)] | _=>aj}
def Ha:List (Nat×Pat):= [(3,.own 0),(6,aI),(7,i64),(8,i64)]
def Ov:List Dat→Ann
  | [.r l] =>⟨[],[(3,[la 24 Ha [ob] (fun | [.r l',.i n,.i i,.r o] =>l'=l∧n=l.length∧0≤i∧i≤n∧o=(co (rv l) i.toNat).map ac | _=>False) (fun | [_,.i n,.i i,_] =>(n-i).toNat | _=>0)])],
    [(6,[la 24 (Ha++ [(5,u64),(12,i64)]) [ob] kw jv],fun | [.i x0,.r l0,.i n0,.i i0,.i _,.r o0] => [la 24 (Ha++ [(5,u64),(12,i64)]) [ob]
      (fun | [.i x,.r l',.i n,.i i,.i k,.r o] =>l'=l0∧n=n0∧i=i0∧0≤k∧k≤8∧x=x0 / 256 ^ k.toNat∧o=o0++(jB x0 k.toNat).map ac | _=>False) (fun | [_,_,_,_,.i k,_] =>(8-k).toNat | _=>0)] | _=> [])]⟩
  | _=> {cut:= [],loop:= []}
noncomputable def Ga:Ct:= {ps:= [rb],bs:= [],pre:=fun | [.r l] =>ax l | _=>False,res:=fun | [.r l] => .ite (decide (l.length≠200)) (.ret (.tup [st,i64]) [] [.li Mz,.i 1]) (.ret (.tup [st,i64]) [] [.li (aL l 200),.i 0]) | _=>aj}
noncomputable def FA:Ct:= {ps:= [st],bs:= [],pre:=fun | [.li s] =>aq s | _=>False,res:=fun | [.li s] => .ret (.agg [.arrI 200 .u8]) [] [.li (fJ s)] | _=>aj}
def F8:Ct:= {ps:= [rb],bs:= [],pre:=fun | [.r l] =>l.length≤200∧ax l | _=>False,res:=fun | [.r l] => .ret st [] [.li (tH l l.length)] | _=>aj}
def Qb:List Dat→Ann
  | [.r l] =>⟨[],[(3,[la 28 [(0,rb),(2,.ptr 0 0),(3,.ptr 1 0),(4,i64)] [kE,kE] (fun | [.r l',.i i,.li _,.li w] =>l'=l∧-1≤i∧i<l.length∧w=tH l (l.length-1-i).toNat | _=>False) (fun | [_,.i i,_,_] =>(i+1).toNat | _=>0)])],[]⟩
  | _=> {cut:= [],loop:= []}
noncomputable def Fl:Ct:= {ps:= [st],bs:= [],pre:=fun | [.li s] =>aq s | _=>False,res:=fun | [.li s] => .ret (.own 0) [ob] [.r ((fJ s).map ac)] | _=>aj}
def FL:List (Nat×Pat):= [(1,.ptr 0 0),(3,.own 1),(4,i64)]
def SB:List Dat→Ann
  | [.li s] =>⟨[],[(3,[la 28 FL [kE,ob] (fun | [.i i,.li s',.r o] =>s'=s∧0≤i∧i≤25∧o=(co (fun i=>s.getD i 0) i.toNat).map ac | _=>False) (fun | [.i i,_,_] =>(25-i).toNat | _=>0)])],
    [(7,[la 28 (FL++ [(5,u64),(6,i64)]) [kE,ob] kw jv],fun | [.i i0,.i x0,.i _,.li s0,.r o0] => [la 28 (FL++ [(5,u64),(6,i64)]) [kE,ob]
      (fun | [.i i,.i x,.i k,.li s,.r o] =>i=i0∧s=s0∧0≤k∧k≤8∧x=x0 / 256 ^ k.toNat∧o=o0++(jB x0 k.toNat).map ac | _=>False) (fun | [_,_,.i k,_,_] =>(8-k).toNat | _=>0)] | _=> [])]⟩
  | _=> {cut:= [],loop:= []}
end Go.Proofs.YteiecapbaeajdaaGreatDoor
namespace Go.Proofs.YteiecapbaeajdaaGreatDoor
open Go Go.Avc Go.Proofs
set_option linter.unusedVariables false
set_option maxRecDepth 100000
def UT:Prop:= ∀ (l:List (List CD)),
 l.length≤9223372036854775807→
 l.length≤1000∧ax l→
 l.length≤9223372036854775807→
 ((-9223372036854775808:Int)≤(↑l.length:Int)+7∧(↑l.length:Int)+7≤9223372036854775807)∧
 (0≤(↑l.length:Int)+7∧(0:Int) < 8∧(↑l.length:Int)+7≤IntKind.i64.max)∧
 (0≤((↑l.length:Int)+7) / 8∧
 ((↑l.length:Int)+7) / 8≤((↑l.length:Int)+7) / 8∧
 (↑(8:Nat):Int)*(((↑l.length:Int)+7) / 8)≤140737488355328∧
 ((↑l.length:Int)+7) / 8≤9223372036854775807)∧
 (l.length≤9223372036854775807→
 ((l=l∧
 (↑l.length:Int)=(↑l.length:Int)∧
 (0:Int)≤0∧
 0≤(↑l.length:Int)∧
 List.replicate (((↑l.length:Int)+7) / 8).toNat [.int 0] =
 List.map ac (aL l 0))∧
 True)∧
 ∀ (l_1:List (List CD)) (n n_1:Int) (l_2:List (List CD)),
 l_1.length≤9223372036854775807→
 l_2.length≤9223372036854775807→
 l_1=l∧
 n=(↑l.length:Int)∧
 0≤n_1∧n_1≤n∧l_2=List.map ac (aL l n_1.toNat)→
 bif decide (n_1 < n) then
 (0≤n_1∧n_1 < (↑l_1.length:Int))∧
 n_1.toNat < l_1.length∧
 (0≤n_1∧(0:Int) < 8∧n_1≤IntKind.i64.max)∧
 (0≤n_1 / 8∧n_1 / 8 < (↑l_2.length:Int))∧
 (n_1 / 8).toNat < l_2.length∧
 (0≤n_1∧(0:Int) < 8)∧
 ((-9223372036854775808:Int)≤8*(n_1 % 8)∧(8:Int)*(n_1 % 8)≤9223372036854775807)∧
 (0:Int)≤8*(n_1 % 8)∧
 (0≤n_1 / 8∧n_1 / 8 < (↑l_2.length:Int))∧
 (n_1 / 8).toNat < l_2.length∧
 ((-9223372036854775808:Int)≤n_1+1∧n_1+1≤9223372036854775807)∧
 (l_1=l∧
 n=(↑l.length:Int)∧
 0≤n_1+1∧
 n_1+1≤n∧
 l_2.set (n_1 / 8).toNat
 ((l_2.getD (n_1 / 8).toNat []).set 0
 (.int
 (dQ .u64
 ((l_2.getD (n_1 / 8).toNat []).getD 0 (.int 0)).toInt
 (cn .u64
 (IntKind.u64.wrap ((l_1.getD n_1.toNat []).getD 0 (.int 0)).toInt)
 ((8:Int)*(n_1 % 8))))))=
 List.map ac
 (aL l (n_1+1).toNat))∧
 (n - (n_1+1)).toNat < (n - n_1).toNat
 else l_2=List.map ac (aL l l.length))
theorem acn:av zl Tryz.f145 Fu UA=UT:=by kernel_rfl
noncomputable def ym:ai:=al zl 145 (ag Fu)
def Qi:Prop:= ∀ (l:List (List CD)),
 l.length≤9223372036854775807→
 l.length≤1000∧ce l→
 l.length≤9223372036854775807→
 ((l=l∧
 (↑l.length:Int)=(↑l.length:Int)∧
 (0:Int)≤0∧
 0≤(↑l.length:Int)∧
 [] =List.map ac (co (rv l) 0))∧
 True)∧
 ∀ (l_1:List (List CD)) (n n_1:Int) (l_2:List (List CD)),
 l_1.length≤9223372036854775807→
 l_2.length≤9223372036854775807→
 l_1=l∧
 n=(↑l.length:Int)∧
 0≤n_1∧
 n_1≤n∧
 l_2=List.map ac (co (rv l) n_1.toNat)→
 bif decide (n_1 < n) then
 (0≤n_1∧n_1 < (↑l_1.length:Int))∧
 n_1.toNat < l_1.length∧
 ((l_1=l_1∧
 n=n∧
 n_1=n_1∧
 (0:Int)≤0∧
 (0:Int)≤8∧
 ((l_1.getD n_1.toNat []).getD 0 (.int 0)).toInt=
 ((l_1.getD n_1.toNat []).getD 0 (.int 0)).toInt / 256 ^ 0∧
 l_2=
 l_2++
 List.map ac
 (jB ((l_1.getD n_1.toNat []).getD 0 (.int 0)).toInt 0))∧
 True)∧
 ∀ (n_2:Int) (l_3:List (List CD)) (n_3 n_4 n_5:Int) (l_4:List (List CD)),
 l_3.length≤9223372036854775807→
 l_4.length≤9223372036854775807→
 l_3=l_1∧
 n_3=n∧
 n_4=n_1∧
 0≤n_5∧
 n_5≤8∧
 n_2=((l_1.getD n_1.toNat []).getD 0 (.int 0)).toInt / 256 ^ n_5.toNat∧
 l_4=
 l_2++
 List.map ac
 (jB ((l_1.getD n_1.toNat []).getD 0 (.int 0)).toInt n_5.toNat)→
 bif decide (n_5 < 8) then
 ((l_4.length+1)*1≤140737488355328∧l_4.length+1≤9223372036854775807)∧
 (0:Int)≤8∧
 ((-9223372036854775808:Int)≤n_5+1∧n_5+1≤9223372036854775807)∧
 (l_3=l_1∧
 n_3=n∧
 n_4=n_1∧
 0≤n_5+1∧
 n_5+1≤8∧
 aw .u64 n_2 8=
 ((l_1.getD n_1.toNat []).getD 0 (.int 0)).toInt / 256 ^ (n_5+1).toNat∧
 l_4++ [[.int (IntKind.u8.wrap n_2)]] =
 l_2++
 List.map ac
 (jB ((l_1.getD n_1.toNat []).getD 0 (.int 0)).toInt
 (n_5+1).toNat))∧
 ((8:Int) - (n_5+1)).toNat < ((8:Int) - n_5).toNat
 else
 ((-9223372036854775808:Int)≤n_4+1∧n_4+1≤9223372036854775807)∧
 (l_3=l∧
 n_3=(↑l.length:Int)∧
 0≤n_4+1∧
 n_4+1≤n_3∧
 l_4=
 List.map ac
 (co (rv l) (n_4+1).toNat))∧
 (n_3 - (n_4+1)).toNat < (n - n_1).toNat
 else l_2=List.map ac (co (rv l) l.length)
theorem ace:av ym Tryz.f102 Gg Ov=Qi:=by kernel_rfl
noncomputable def xv:ai:=al ym 102 (ag Gg)
def Re:Prop:= ∀ (l:List (List CD)),
 l.length≤9223372036854775807→
 ax l→
 l.length≤9223372036854775807→
 bif decide ((↑l.length:Int)≠200) then
 bif decide (l.length≠200) then
 [0,0,0,0,0,0,0,0,0,0,0,0,0,0,0,
 (0:Int),0,0,0,0,0,0,0,0,0] =
 Mz∧
 (1:Int)=1
 else
 [0,0,0,0,0,0,0,0,0,0,0,0,0,0,0,
 (0:Int),0,0,0,0,0,0,0,0,0] =
 aL l 200∧
 (1:Int)=0
 else
 (l.length≤1000∧ax l)∧
 25≤(List.map ac (aL l l.length)).length∧
 25≤(List.map ac (aL l l.length)).length∧
 bif decide (l.length≠200) then
 List.map (fun r=>(r.getD 0 (.int 0)).toInt)
 (List.take 25 (List.drop 0 (List.map ac (aL l l.length))))=
 Mz∧
 (0:Int)=1
 else
 List.map (fun r=>(r.getD 0 (.int 0)).toInt)
 (List.take 25 (List.drop 0 (List.map ac (aL l l.length))))=
 aL l 200∧
 (0:Int)=0
theorem ae3:av xv Tryz.f296 Ga au=Re:=by kernel_rfl
noncomputable def xq:ai:=al xv 296 (ag Ga)
def PS:Prop:= ∀ (l:List Int),
 l.length=25→
 aq l→
 ((0:Int)≤0∧0≤(↑(25:Nat):Int)∧(↑(25:Nat):Int)≤(↑(25:Nat):Int)∧0 < (↑(25:Nat):Int))∧
 ((List.map (fun x=> [CD.int x]) (List.take 25 (List.drop 0 l))).length≤1000∧
 ce (List.map (fun x=> [CD.int x]) (List.take 25 (List.drop 0 l))))∧
 (200:Nat)≤
 (List.map ac
 (co
 (rv (List.map (fun x=> [CD.int x]) (List.take 25 (List.drop 0 l))))
 (List.map (fun x=> [CD.int x]) (List.take 25 (List.drop 0 l))).length)).length∧
 (200:Nat)≤
 (List.map ac
 (co
 (rv (List.map (fun x=> [CD.int x]) (List.take 25 (List.drop 0 l))))
 (List.map (fun x=> [CD.int x]) (List.take 25 (List.drop 0 l))).length)).length∧
 List.map (fun r=>(r.getD 0 (CD.int 0)).toInt)
 (List.take 200
 (List.drop 0
 (List.map ac
 (co
 (rv (List.map (fun x=> [CD.int x]) (List.take 25 (List.drop 0 l))))
 (List.map (fun x=> [CD.int x]) (List.take 25 (List.drop 0 l))).length))))=
 fJ l
theorem ac4:av xq Tryz.f148 FA au=PS:=by kernel_rfl
noncomputable def yt:ai:=al xq 148 (ag FA)
def TN:Prop:= ∀ (l:List (List CD)),
 l.length≤9223372036854775807→
 l.length≤200∧ax l→
 l.length≤9223372036854775807→
 ((-9223372036854775808:Int)≤(↑l.length:Int) - 1∧(↑l.length:Int) - 1≤9223372036854775807)∧
 ((l=l∧
 (-1:Int)≤(↑l.length:Int) - 1∧
 (↑l.length:Int) - 1 < (↑l.length:Int)∧
 [0,0,0,0,0,0,0,0,0,0,0,0,0,0,
 (0:Int),0,0,0,0,0,0,0,0,0,0] =
 tH l ((↑l.length:Int) - 1 - ((↑l.length:Int) - 1)).toNat)∧
 True)∧
 ∀ (l_1:List (List CD)) (n:Int) (l_2 l_3:List Int),
 l_1.length≤9223372036854775807→
 l_2.length=25→
 l_3.length=25→
 l_1=l∧(-1:Int)≤n∧n < (↑l.length:Int)∧l_3=tH l ((↑l.length:Int) - 1 - n).toNat→
 bif decide (0≤n) then
 (0≤n∧(0:Int) < 8∧n≤IntKind.i64.max)∧
 (0≤n∧(0:Int) < 8∧n≤IntKind.i64.max)∧
 (0≤n / 8∧n / 8 < (↑(25:Nat):Int))∧
 (n / 8).toNat*1 < 25∧
 (0≤n∧n < (↑l_1.length:Int))∧
 n.toNat < l_1.length∧
 (0≤n / 8∧n / 8 < (↑(25:Nat):Int))∧
 (n / 8).toNat*1 < 25∧
 ((-9223372036854775808:Int)≤n - 1∧n - 1≤9223372036854775807)∧
 (l_1=l∧
 (-1:Int)≤n - 1∧
 n - 1 < (↑l.length:Int)∧
 l_3.set ((n / 8).toNat*1)
 (IntKind.u64.wrap
 (IntKind.u64.wrap (l_3.getD ((n / 8).toNat*1) 0*256)+
 IntKind.u64.wrap ((l_1.getD n.toNat []).getD 0 (.int 0)).toInt))=
 tH l ((↑l.length:Int) - 1 - (n - 1)).toNat)∧
 (n - 1+1).toNat < (n+1).toNat
 else l_3=tH l l.length
theorem adB:av yt Tryz.f157 F8 Qb=TN:=by kernel_rfl
noncomputable def xV:ai:=al yt 157 (ag F8)
def R1:Prop:= ∀ (l:List Int),
 l.length=25→
 aq l→
 ((l=l∧
 (0:Int)≤0∧
 (0:Int)≤25∧ [] =List.map ac (co (fun i=>l.getD i 0) 0))∧
 True)∧
 ∀ (n:Int) (l_1:List Int) (l_2:List (List CD)),
 l_1.length=25→
 l_2.length≤9223372036854775807→
 l_1=l∧
 0≤n∧
 n≤25∧l_2=List.map ac (co (fun i=>l.getD i 0) n.toNat)→
 bif decide (n < 25) then
 (0≤n∧n < (↑(25:Nat):Int))∧
 n.toNat*1 < 25∧
 ((n=n∧
 l_1=l_1∧
 (0:Int)≤0∧
 (0:Int)≤8∧
 l_1.getD (n.toNat*1) 0=l_1.getD (n.toNat*1) 0 / 256 ^ (0:Nat)∧
 l_2=
 l_2++
 List.map ac
 (jB (l_1.getD (n.toNat*1) 0) 0))∧
 True)∧
 ∀ (n_1 n_2 n_3:Int) (l_3:List Int) (l_4:List (List CD)),
 l_3.length=25→
 l_4.length≤9223372036854775807→
 n_1=n∧
 l_3=l_1∧
 0≤n_3∧
 n_3≤8∧
 n_2=l_1.getD (n.toNat*1) 0 / 256 ^ n_3.toNat∧
 l_4=
 l_2++
 List.map ac
 (jB (l_1.getD (n.toNat*1) 0) n_3.toNat)→
 bif decide (n_3 < 8) then
 (0≤n_2∧(0:Int) < 256)∧
 ((l_4.length+1)*1≤140737488355328∧l_4.length+1≤9223372036854775807)∧
 (0≤n_2∧(0:Int) < 256∧n_2≤IntKind.u64.max)∧
 ((-9223372036854775808:Int)≤n_3+1∧n_3+1≤9223372036854775807)∧
 (n_1=n∧
 l_3=l_1∧
 0≤n_3+1∧
 n_3+1≤8∧
 n_2 / 256=l_1.getD (n.toNat*1) 0 / 256 ^ (n_3+1).toNat∧
 l_4++ [[.int (IntKind.u8.wrap (n_2 % 256))]] =
 l_2++
 List.map ac
 (jB (l_1.getD (n.toNat*1) 0) (n_3+1).toNat))∧
 ((8:Int) - (n_3+1)).toNat < ((8:Int) - n_3).toNat
 else
 ((-9223372036854775808:Int)≤n_1+1∧n_1+1≤9223372036854775807)∧
 (l_3=l∧
 0≤n_1+1∧
 n_1+1≤25∧
 l_4=
 List.map ac
 (co (fun i=>l.getD i 0) (n_1+1).toNat))∧
 ((25:Int) - (n_1+1)).toNat < ((25:Int) - n).toNat
 else l_2=List.map ac (fJ l)
theorem adQ:av xV Tryz.f155 Fl SB=R1:=by kernel_rfl
noncomputable def xm:ai:=al xV 155 (ag Fl)
end Go.Proofs.YteiecapbaeajdaaGreatDoor
namespace Go.Proofs.YteiecapbaeajdaaGreatDoor
open Go Go.Avc Go.Proofs
set_option linter.unusedVariables false
set_option linter.unusedSimpArgs false
set_option maxRecDepth 100000
theorem rL {L:List Int} {i:Nat} (h:i<L.length):(L.map ac).getD i [] = [.int (L.getD i 0)] :=by
  rw [List.getD_eq_getElem?_getD,List.getElem?_map,List.getD_eq_getElem?_getD,List.getElem?_eq_getElem h];rfl
theorem cA (L:List Int) (i:Nat):rv (L.map ac) i=L.getD i 0:=by
  unfold rv
  rcases Nat.lt_or_ge i L.length with h | h
  · rw [rL h];rfl
  · have e1:(L.map ac).getD i [] = [] :=by rw [List.getD_eq_getElem?_getD,List.getElem?_map,List.getElem?_eq_none h];rfl
    have e2:L.getD i 0=0:=by rw [List.getD_eq_getElem?_getD,List.getElem?_eq_none h];rfl
    rw [e1,e2];rfl
theorem JZ (L:List Int) (i:Nat) (x:Int):(L.map ac).set i [.int x] =(L.set i x).map ac:=by
  rw [List.map_set];rfl
theorem IC (L:List Int):(L.map ac).map (fun r=>(r.getD 0 (CD.int 0)).toInt)=L:=by
  rw [List.map_map]
  have:((fun r:List CD=>(r.getD 0 (CD.int 0)).toInt) ∘ ac)=id:=by funext x;rfl
  rw [this,List.map_id]
theorem kS {L:List Int} {n:Nat} (h:L.length=n):List.map (fun r=>(r.getD 0 (CD.int 0)).toInt) (List.take n (List.drop 0 (L.map ac)))=L:=by
  rw [List.drop_zero,List.take_of_length_le (by simp [h]),IC]
theorem d8 (l:List (List CD)):∀ n,(aL l n).length=(l.length+7) / 8
  | 0=>by rw [aL,List.length_replicate]
  | n+1=>by rw [aL,List.length_set,d8 l n]
theorem lE (w:Int):∀ n,(jB w n).length=n
  | 0=>rfl
  | n+1=>by rw [jB,List.length_append,lE w n];rfl
theorem fX (f:Nat→Int):∀ n,(co f n).length=8*n
  | 0=>rfl
  | n+1=>by rw [co,List.length_append,fX f n,lE];omega
theorem DH (n:Nat) (v:Int):v / 256 ^ n / 256=v / 256 ^ (n+1):=by
  rw [Int.pow_succ,Int.ediv_ediv_of_nonneg (Int.le_of_lt (Int.pow_pos (by decide)))]
theorem zD (n:Int):IntKind.u8.wrap n=n%256:=by
  simp [IntKind.wrap,IntKind.signed,IntKind.bits]
theorem acH (x:Int):aw .u64 x 8=x / 256:=by
  unfold aw
  rw [show (2:Int) ^ min (8:Int).toNat (IntKind.bits .u64)=256 from by decide,Int.fdiv_eq_ediv_of_nonneg _ (by decide)]
theorem M8 {v:Int} (h:0≤v) (n:Nat):0≤v / 256 ^ n∧v / 256 ^ n≤v:=
  ⟨Int.ediv_nonneg h (Int.le_of_lt (Int.pow_pos (by decide))),Int.ediv_le_self _ h⟩
theorem dH (l:List (List CD)) (i:Nat):((l.getD i []).getD 0 (CD.int 0)).toInt=rv l i:=rfl
theorem zG:IntKind.max .i64=9223372036854775807:=by decide
theorem Ph:IntKind.max .u64=18446744073709551615:=by decide
theorem XQ:UT:=by
  rintro l _ ⟨hl,hb⟩ _
  have e0:(((l.length:Int)+7) / 8).toNat=(l.length+7) / 8:=by omega
  rw [zG,e0]
  refine ⟨by omega,by omega,by omega,fun _=>⟨⟨⟨rfl,rfl,by omega,by omega,?_⟩,trivial⟩,?_⟩⟩
  · rw [aL,List.map_replicate];rfl
  rintro l1 n i' w _ _ ⟨rfl,rfl,h0,h1,hw⟩
  obtain ⟨i,rfl⟩:=aT h0
  rw [Int.toNat_natCast] at hw
  have hwl:w.length=(l1.length+7) / 8:=by rw [hw,List.length_map,d8]
  refine ab (fun h=> ?_) fun h=> ?_
  · simp only [decide_eq_true_eq] at h
    have e1:((i:Int) / 8).toNat=i / 8:=by omega
    simp only [Int.toNat_natCast,e1,bp]
    have hi:i / 8<(aL l1 i).length:=by rw [d8];omega
    refine ⟨by omega,by omega,by omega,by omega,by omega,by omega,by omega,by omega,by omega,by omega,by omega,⟨by trivial,by trivial,by omega,by omega,?_⟩,by omega⟩
    rw [hw,rL hi]
    show ((aL l1 i).map ac).set (i / 8) [CD.int _] =_
    rw [JZ,aL]
    have e2:(8:Int)*((i:Int)%8)=((8*(i%8):Nat):Int):=by omega
    rw [e2];rfl
  · simp only [decide_eq_false_iff_not] at h
    have hi:i=l1.length:=by omega
    subst hi
    exact hw
theorem Wb:af (base.with zl) 145 (ag Fu):=am PZ Tryz.func145 (by kernel_rfl) (by kernel_rfl) Tryz.call145 acn XQ
theorem SD:(base.with ym).Ok:=ae PZ Wb
theorem ZK:Qi:=by
  rintro l _ ⟨hl,hb⟩ _
  refine ⟨⟨⟨rfl,rfl,by omega,by omega,rfl⟩,trivial⟩,?_⟩
  rintro l1 n i' o _ _ ⟨rfl,rfl,h0,h1,ho⟩
  obtain ⟨i,rfl⟩:=aT h0
  simp only [Int.toNat_natCast] at ho ⊢
  rw [dH]
  have hol:o.length=8*i:=by rw [ho,List.length_map,fX]
  have hx:=hb i
  generalize hX:rv l1 i=X at *
  refine ab (fun h=> ?_) fun h=> ?_
  · simp only [decide_eq_true_eq] at h
    refine ⟨by omega,by omega,⟨⟨by trivial,by trivial,by trivial,by omega,by omega,(Int.ediv_one _).symm,by rw [jB];simp⟩,trivial⟩,?_⟩
    rintro x l2 n i' k' o2 _ _ ⟨rfl,rfl,rfl,h2,h3,rfl,ho2⟩
    obtain ⟨k,rfl⟩:=aT h2
    simp only [Int.toNat_natCast] at ho2 ⊢
    have ho2l:o2.length=8*i+k:=by rw [ho2,List.length_append,List.length_map,lE,hol]
    refine ab (fun h4=> ?_) fun h4=> ?_
    · simp only [decide_eq_true_eq] at h4
      rw [bp]
      refine ⟨by omega,by omega,by omega,⟨by trivial,by trivial,by trivial,by omega,by omega,by rw [acH,DH],?_⟩,by omega⟩
      rw [ho2,jB,List.map_append,← List.append_assoc,zD];rfl
    · simp only [decide_eq_false_iff_not] at h4
      have hk:k=8:=by omega
      subst hk
      refine ⟨by omega,⟨by trivial,by trivial,by omega,by omega,?_⟩,by omega⟩
      rw [bp,co,List.map_append,ho2,ho,hX]
  · simp only [decide_eq_false_iff_not] at h
    have hi:i=l1.length:=by omega
    subst hi
    exact ho
theorem Vu:af (base.with ym) 102 (ag Gg):=am SD Tryz.func102 (by kernel_rfl) (by kernel_rfl) Tryz.call102 ace ZK
theorem Rb:(base.with xv).Ok:=ae SD Vu
theorem W6:Re:=by
  rintro l _ hb _
  refine ab (fun h=> ?_) fun h=> ?_
  · simp only [decide_eq_true_eq] at h
    refine ab (fun _=>⟨O2.symm,rfl⟩) fun h2=> ?_
    simp only [decide_eq_false_iff_not] at h2
    omega
  · simp only [decide_eq_false_iff_not] at h
    have hl:l.length=200:=by omega
    have hw:(aL l l.length).length=25:=by rw [d8,hl]
    refine ⟨⟨by omega,hb⟩,by rw [List.length_map];omega,by rw [List.length_map];omega,?_⟩
    rw [kS hw]
    refine ab (fun h2=> ?_) fun _=>⟨by rw [hl],rfl⟩
    simp only [decide_eq_true_eq] at h2
    omega
theorem VM:af (base.with xv) 296 (ag Ga):=am Rb Tryz.func296 (by kernel_rfl) (by kernel_rfl) Tryz.call296 ae3 W6
theorem Qx:(base.with xq).Ok:=ae Rb VM
theorem I7 (s:List Int):rv (List.map (fun x=> [CD.int x]) s)=fun i=>s.getD i 0:=by
  funext i;exact cA s i
theorem Y6:PS:=by
  rintro s hs hw
  rw [List.drop_zero,List.take_of_length_le (by omega),I7,List.length_map,hs]
  have h8:(co (fun i=>s.getD i 0) 25).length=200:=fX _ 25
  refine ⟨by omega,⟨by omega,fun i=> ?_⟩,by rw [List.length_map];omega,by rw [List.length_map];omega,(kS h8).trans (jM s).symm⟩
  rw [I7];exact hw i
theorem Xk:af (base.with xq) 148 (ag FA):=am Qx Tryz.func148 (by kernel_rfl) (by kernel_rfl) Tryz.call148 ac4 Y6
theorem R7:(base.with yt).Ok:=ae Qx Xk
theorem Zd:TN:=by
  rintro l _ ⟨hl,hb⟩ _
  refine ⟨by omega,⟨⟨rfl,by omega,by omega,?_⟩,trivial⟩,?_⟩
  · rw [show ((l.length:Int)-1-((l.length:Int)-1)).toNat=0 from by omega];rfl
  rintro l1 n _ w _ _ hwl ⟨rfl,h0,h1,hw⟩
  refine ab (fun h=> ?_) fun h=> ?_
  · simp only [decide_eq_true_eq] at h
    obtain ⟨i,rfl⟩:=aT h
    have e1:((i:Int) / 8).toNat=i / 8:=by omega
    have e2:((l1.length:Int)-1-(i:Int)).toNat=l1.length-1-i:=by omega
    have e3:((l1.length:Int)-1-((i:Int)-1)).toNat=(l1.length-1-i)+1:=by omega
    rw [e2] at hw
    rw [zG]
    simp only [Int.toNat_natCast,e1,e3,Nat.mul_one]
    refine ⟨by omega,by omega,by omega,by omega,by omega,by omega,by omega,by omega,by omega,⟨by trivial,by omega,by omega,?_⟩,by omega⟩
    rw [dH,tH,show l1.length-1-(l1.length-1-i)=i from by omega,← hw]
  · simp only [decide_eq_false_iff_not] at h
    have hn:n= -1:=by omega
    subst hn
    rw [hw]
    congr 1
    omega
theorem U8:af (base.with yt) 157 (ag F8):=am R7 Tryz.func157 (by kernel_rfl) (by kernel_rfl) Tryz.call157 adB Zd
theorem P3:(base.with xV).Ok:=ae R7 U8
theorem Wh:R1:=by
  rintro s hs hw
  refine ⟨⟨⟨rfl,by omega,by omega,rfl⟩,trivial⟩,?_⟩
  rintro i' s1 o _ _ ⟨rfl,h0,h1,ho⟩
  obtain ⟨i,rfl⟩:=aT h0
  simp only [Int.toNat_natCast,Nat.mul_one] at ho ⊢
  have hol:o.length=8*i:=by rw [ho,List.length_map,fX]
  have hx:=hw i
  refine ab (fun h=> ?_) fun h=> ?_
  · simp only [decide_eq_true_eq] at h
    generalize hX:s1.getD i 0=X at *
    refine ⟨by omega,by omega,⟨⟨by trivial,by trivial,by omega,by omega,(Int.ediv_one _).symm,by rw [jB];simp⟩,trivial⟩,?_⟩
    rintro i' x k' s2 o2 _ _ ⟨rfl,rfl,h2,h3,rfl,ho2⟩
    obtain ⟨k,rfl⟩:=aT h2
    simp only [Int.toNat_natCast] at ho2 ⊢
    have ho2l:o2.length=8*i+k:=by rw [ho2,List.length_append,List.length_map,lE,hol]
    have hd:=M8 hx.1 k
    have hx2:=hx.2
    refine ab (fun h4=> ?_) fun h4=> ?_
    · simp only [decide_eq_true_eq] at h4
      rw [bp,Ph]
      refine ⟨by omega,by omega,by omega,by omega,⟨by trivial,by trivial,by omega,by omega,by rw [DH],?_⟩,by omega⟩
      rw [ho2,jB,List.map_append,← List.append_assoc,zD,Int.emod_emod_of_dvd _ (Int.dvd_refl _)];rfl
    · simp only [decide_eq_false_iff_not] at h4
      have hk:k=8:=by omega
      subst hk
      refine ⟨by omega,⟨by trivial,by omega,by omega,?_⟩,by omega⟩
      rw [bp,co,List.map_append,ho2,ho,hX]
  · simp only [decide_eq_false_iff_not] at h
    have hi:i=25:=by omega
    subst hi
    rw [jM];exact ho
theorem Wg:af (base.with xV) 155 (ag Fl):=am P3 Tryz.func155 (by kernel_rfl) (by kernel_rfl) Tryz.call155 adQ Wh
theorem PT:(base.with xm).Ok:=ae P3 Wg
end Go.Proofs.YteiecapbaeajdaaGreatDoor
namespace Go.Proofs.YteiecapbaeajdaaGreatDoor
open Go Go.Avc Go.Proofs
set_option linter.unusedVariables false
set_option linter.unusedSimpArgs false
set_option maxRecDepth 100000
theorem HK (f:Nat→Nat) (g:Nat→Bool) (l:List Bool):∀ n,(dg f g l n).length=l.length
  | 0=>rfl
  | n+1=>by rw [dg,List.length_set,HK f g l n]
theorem Bv (a b:Int):ak (xr a b):=I1 (BitVec.ofInt 64 a ^^^ BitVec.ofInt 64 b)
theorem bg:ak 0:=⟨by omega,by omega⟩
theorem NR {f:Nat→Int} {j:Nat} (h:j<25):((List.range 25).map f).getD j 0=f j:=by
  rw [List.getD_eq_getElem?_getD,List.getElem?_map,List.getElem?_range h];rfl
theorem Jc (s:List Int):∀ n,(tR s n).length=25
  | 0=>by rw [tR];simp
  | n+1=>by rw [tR,List.length_set,Jc s n]
theorem mC (s:List Int):(i6 s).length=25:=Jc s 24
theorem Oi {s:List Int} (h:s.length=25):(nh s).length=25:=by rw [sX h];simp
theorem YQ {s:List Int} (h:s.length=25):aq (nh s):=fun j=>by
  rw [sX h]
  rcases Nat.lt_or_ge j 25 with hj | hj
  · rw [NR hj];exact Bv _ _
  · rw [List.getD_eq_getElem?_getD,List.getElem?_eq_none (by simpa using hj)];exact bg
theorem Ii {s:List Int} (h:s.length=25) (r:Int):(round s r).length=25:=by
  unfold round
  rw [List.length_set,Oi (mC _)]
theorem Ms {s:List Int} (hs:aq s) {x:Int} (hx:ak x) (i:Nat):aq (s.set i x):=fun j=>by
  rcases Nat.lt_or_ge j s.length with hj | hj
  · rw [qB _ _ _ _ hj]
    split
    · exact hx
    · exact hs j
  · rw [List.getD_eq_getElem?_getD,List.getElem?_eq_none (by rw [List.length_set];exact hj)];exact bg
theorem Np {s:List Int} (h:s.length=25) (hs:aq s) (r:Int):aq (round s r):=Ms (YQ (mC _)) (Bv _ _) 0
theorem BK {s:List Int} (h:s.length=25) (hs:aq s):∀ n,(dk s n).length=25∧aq (dk s n)
  | 0=>⟨h,hs⟩
  | n+1=>by
    obtain ⟨h1,h2⟩:=BK h hs n
    exact ⟨Ii h1 _,Np h1 h2 _⟩
theorem vA {s:List Int} (h:s.length=25) (hs:aq s):(eE s).length=25∧aq (eE s):=by
  rw [uy];exact BK h hs 24
end Go.Proofs.YteiecapbaeajdaaGreatDoor
namespace Go.Proofs.YteiecapbaeajdaaGreatDoor
open Go Go.Avc Go.Proofs
set_option linter.unusedVariables false
set_option linter.unusedSimpArgs false
set_option maxRecDepth 100000
theorem N6 (s:List Int) (n:Nat):dk s (n+1)=round (dk s n) (n:Int):=by rw [dk]
end Go.Proofs.YteiecapbaeajdaaGreatDoor
namespace Go.Proofs.YteiecapbaeajdaaGreatDoor
open Go Go.Avc Go.Proofs
set_option linter.unusedVariables false
set_option linter.unusedSimpArgs false
set_option maxRecDepth 100000
theorem BI (f:Nat→Int):∀ n,wd f (n+1)=f 0+256*wd (fun k=>f (k+1)) n
  | 0=>by simp [wd]
  | n+1=>by
    rw [wd,BI f n,wd,Int.pow_succ]
    have:f (n+1)*(256 ^ n*256)=256*(f (n+1)*256 ^ n):=by rw [← Int.mul_assoc,Int.mul_comm]
    rw [this]
    omega
theorem FM {f:Nat→Int} (h:∀ k,0≤f k∧f k<256):∀ n,0≤wd f n∧wd f n<256 ^ n
  | 0=>⟨by simp [wd],by simp [wd]⟩
  | n+1=>by
    obtain ⟨h1,h2⟩:=FM h n
    obtain ⟨k1,k2⟩:=h n
    have hp:(0:Int)<256 ^ n:=Int.pow_pos (by decide)
    rw [wd,Int.pow_succ]
    constructor
    · have:=Int.mul_nonneg k1 (Int.le_of_lt hp);omega
    · have h3:f n*256 ^ n≤255*256 ^ n:=Int.mul_le_mul_of_nonneg_right (by omega) (Int.le_of_lt hp)
      omega
theorem VT {f:Nat→Int} (h:∀ k,0≤f k∧f k<256):∀ n k,k<n→wb (wd f n) k=f k
  | 0,k,hk=>by omega
  | n+1,0,_=>by
    have:=h 0
    unfold wb
    rw [BI,Int.pow_zero,Int.ediv_one]
    omega
  | n+1,k+1,hk=>by
    have ih:=VT (f:=fun k=>f (k+1)) (fun k=>h (k+1)) n k (by omega)
    have:=h 0
    unfold wb at ih ⊢
    rw [BI,Int.pow_succ,Int.mul_comm (256 ^ k) 256,← Int.ediv_ediv_of_nonneg (by decide),show (f 0+256*wd (fun k=>f (k+1)) n) / 256=wd (fun k=>f (k+1)) n from by omega]
    exact ih
theorem Ul (w:Int) (k:Nat):0≤wb w k∧wb w k<256:=by unfold wb;omega
theorem Di (w:Int):∀ n k,k<n→(jB w n).getD k 0=wb w k
  | 0,k,h=>by omega
  | n+1,k,h=>by
    rw [jB,List.getD_eq_getElem?_getD]
    rcases Nat.lt_or_ge k n with h2 | h2
    · rw [List.getElem?_append_left (by rw [lE];exact h2),← List.getD_eq_getElem?_getD,Di w n k h2]
    · have:k=n:=by omega
      subst this
      rw [List.getElem?_append_right (by rw [lE];exact Nat.le_refl _),lE,Nat.sub_self];rfl
theorem AR (f:Nat→Int):∀ n p,p<8*n→(co f n).getD p 0=wb (f (p / 8)) (p%8)
  | 0,p,h=>by omega
  | n+1,p,h=>by
    rw [co,List.getD_eq_getElem?_getD]
    rcases Nat.lt_or_ge p (8*n) with h2 | h2
    · rw [List.getElem?_append_left (by rw [fX];exact h2),← List.getD_eq_getElem?_getD,AR f n p h2]
    · rw [List.getElem?_append_right (by rw [fX];exact h2),fX,← List.getD_eq_getElem?_getD,Di _ _ _ (by omega),show p / 8=n from by omega,show p-8*n=p%8 from by omega]
theorem lO (s:List Int):(fJ s).length=200:=by rw [jM];exact fX _ 25
theorem KW (s:List Int) {p:Nat} (hp:p<200):(fJ s).getD p 0=wb (s.getD (p / 8) 0) (p%8):=by rw [jM];exact AR _ 25 p (by omega)
theorem Ao (s:List Int) (p:Nat):0≤(fJ s).getD p 0∧(fJ s).getD p 0<256:=by
  rcases Nat.lt_or_ge p 200 with h | h
  · rw [KW s h];exact Ul _ _
  · rw [List.getD_eq_getElem?_getD,List.getElem?_eq_none (by rw [lO];exact h)];exact ⟨by decide,by decide⟩
theorem HC (s:List Int):ax ((fJ s).map ac):=fun i=>by rw [cA];exact Ao s i
theorem cE {n:Int} (h:ak n):IntKind.u64.wrap n=n:=by rw [eY];have:=h.1;have:=h.2;omega
theorem Sy (k:Nat):(256:Int) ^ k=((2 ^ (8*k):Nat):Int):=by
  rw [Nat.pow_mul,Int.natCast_pow];rfl
theorem I9 {v b:Int} {k:Nat} (hk:k<8) (hv:0≤v∧v<256 ^ k) (hb:0≤b∧b<256):dQ .u64 v (cn .u64 b ((8*k:Nat):Int))=v+b*256 ^ k:=by
  obtain ⟨m,rfl⟩:=aT hv.1
  obtain ⟨c,rfl⟩:=aT hb.1
  have hm:m<2 ^ (8*k):=by have:=hv.2;rw [Sy] at this;exact Int.ofNat_lt.1 this
  have hc:c<256:=by have:=hb.2;omega
  have hpow:2 ^ (8*k)*256≤2 ^ 64:=by
    rw [show (256:Nat)=2 ^ 8 from by decide,← Nat.pow_add]
    exact Nat.pow_le_pow_right (by decide) (by omega)
  have hlt:m+c*2 ^ (8*k)<18446744073709551616:=by
    have h3:c*2 ^ (8*k)≤255*2 ^ (8*k):=Nat.mul_le_mul_right _ (by omega)
    rw [show (2:Nat) ^ 64=18446744073709551616 from by decide] at hpow
    omega
  rw [Fq c (8*k) (by omega),Nat.mod_eq_of_lt (show c*2 ^ (8*k)<18446744073709551616 from by omega),Sy]
  have w1:ak (m:Int):=⟨by omega,by omega⟩
  have w2:ak ((c*2 ^ (8*k):Nat):Int):=⟨Int.natCast_nonneg _,by
    have h9:c*2 ^ (8*k)<18446744073709551616:=by omega
    omega⟩
  have e1:(BitVec.ofInt 64 (m:Int) |||BitVec.ofInt 64 ((c*2 ^ (8*k):Nat):Int)).toNat=m |||(c*2 ^ (8*k)):=by
    rw [BitVec.toNat_or,qO w1,qO w2,Int.toNat_natCast,Int.toNat_natCast]
  show IntKind.u64.wrap ((BitVec.ofInt 64 (m:Int) |||BitVec.ofInt 64 ((c*2 ^ (8*k):Nat):Int)).toNat:Int)=_
  have e2:m |||(c*2 ^ (8*k))=m+c*2 ^ (8*k):=by
    rw [Nat.or_comm,Nat.mul_comm,← Nat.two_pow_add_eq_or_of_lt hm,Nat.add_comm]
  rw [e1,e2,cE ⟨Int.natCast_nonneg _,Int.ofNat_lt.2 hlt⟩,Int.natCast_add,Int.natCast_mul]
end Go.Proofs.YteiecapbaeajdaaGreatDoor
namespace Go.Proofs.YteiecapbaeajdaaGreatDoor
open Go Go.Avc
set_option linter.unusedVariables false
abbrev u8:Pat:= .int .u8
abbrev qh:BPat:= .cells 214 [L0,i64]
abbrev rz:Pat:= .agg [.arrI 32 .u8]
abbrev Hs:=List Int×Nat
def eZ (s:List Int) (p:Nat) (b:Int):List Int:=s.set (p / 8) (xr (s.getD (p / 8) 0) (cn .u64 (IntKind.u64.wrap b) ((8*(p%8):Nat):Int)))
noncomputable def kO (h:Hs) (b:Int):Hs:=if h.2+1=136 then (eE (eZ h.1 h.2 b),0) else (eZ h.1 h.2 b,h.2+1)
noncomputable def ib (h:Hs) (l:List (List CD)):Nat→Hs
  | 0=>h
  | n+1=>kO (ib h l n) (rv l n)
noncomputable def fin (h:Hs):List Int:=hid ((fJ (eE (eZ (eZ h.1 h.2 6) 135 128))).take 32)
def pt (l:List (List CD)) (i:Nat):List (List CD):=((l.getD i []).getD 0 .d0).toSl
def j7:Hs:=(List.replicate 25 0,0)
noncomputable def pS (l:List (List CD)):Nat→Hs
  | 0=>j7
  | n+1=>ib (pS l n) (pt l n) (pt l n).length
noncomputable def pp (l:List (List CD)):List Int:=hid (fin (pS l l.length))
def Fh (l:List (List CD)):Prop:=∀ i,ax (pt l i)
def Ft:Ct:= {ps:= [.ptr 0 0,i64,u8],bs:= [qh],pre:=fun | [.i p,.i b,.li s,.i a] =>0≤p∧p<200 | _=>False,res:=fun | [.i p,.i b,.li s,.i a] => .ret (.tup []) [qh] [.li (eZ s p.toNat b),.i a] | _=>aj}
noncomputable def JN:Ct:= {ps:= [.ptr 0 0,rb],bs:= [qh],pre:=fun | [.r l,.li s,.i a] =>0≤a∧a<136 | _=>False,res:=fun | [.r l,.li s,.i a] => .ret (.tup []) [qh] [.li (ib (s,a.toNat) l l.length).1,.i ((ib (s,a.toNat) l l.length).2:Nat)] | _=>aj}
noncomputable def Wp:List Dat→Ann
  | [.r l,.li s,.i a] =>⟨[],[(1,[la 43 [(0,.ptr 0 0),(6,rb),(7,i64),(8,i64)] [qh] (fun | [.r l',.i n,.i i,.li s',.i a'] =>l'=l∧n=l.length∧0≤i∧i≤n∧s'=(ib (s,a.toNat) l i.toNat).1∧a'=((ib (s,a.toNat) l i.toNat).2:Nat) | _=>False) (fun | [_,.i n,.i i,_,_] =>(n-i).toNat | _=>0)])],[]⟩
  | _=> {cut:= [],loop:= []}
noncomputable def D6:Ct:= {ps:= [.ptr 0 0],bs:= [qh],pre:=fun | [.li s,.i a] =>aq s∧0≤a∧a<136 | _=>False,res:=fun | [.li s,.i a] => .ret rz [qh] [.li (fin (s,a.toNat)),.li s,.i a] | _=>aj}
noncomputable def KA:Ct:= {ps:= [.rd [.sl [.int .u8]]],bs:= [],pre:=fun | [.r l] =>Fh l | _=>False,res:=fun | [.r l] => .ret rz [] [.li (pp l)] | _=>aj}
noncomputable def XK:List Dat→Ann
  | [.r l] =>⟨[],[(3,[la 16 [(2,.ptr 0 0),(3,.ptr 1 0),(6,.rd [.sl [.int .u8]]),(7,i64),(8,i64)] [.cells 79 [.arrI 32 .u8],qh] (fun | [.r l',.i n,.i i,.li _,.li s',.i a'] =>l'=l∧n=l.length∧0≤i∧i≤n∧s'=(pS l i.toNat).1∧a'=((pS l i.toNat).2:Nat) | _=>False) (fun | [_,.i n,.i i,_,_,_] =>(n-i).toNat | _=>0)])],[]⟩
  | _=> {cut:= [],loop:= []}
end Go.Proofs.YteiecapbaeajdaaGreatDoor
namespace Go.Proofs.YteiecapbaeajdaaGreatDoor
open Go Go.Avc Go.Proofs
set_option linter.unusedVariables false
set_option maxRecDepth 100000
def TA:Prop:= ∀ (n n_1:Int) (l:List Int) (n_2:Int),
 l.length=25→
 0≤n∧n < 200→
 (0≤n∧(0:Int) < 8∧n≤IntKind.i64.max)∧
 (0≤n / 8∧n / 8 < (↑(25:Nat):Int))∧
 (n / 8).toNat*1 < 25∧
 (0≤n∧(0:Int) < 8)∧
 ((-9223372036854775808:Int)≤8*(n % 8)∧(8:Int)*(n % 8)≤9223372036854775807)∧
 (0:Int)≤8*(n % 8)∧
 (0≤n / 8∧n / 8 < (↑(25:Nat):Int))∧
 (n / 8).toNat*1 < 25∧
 l.set ((n / 8).toNat*1)
 (oC .u64 (l.getD ((n / 8).toNat*1) 0)
 (cn .u64 (IntKind.u64.wrap n_1) ((8:Int)*(n % 8))))=
 eZ l n.toNat n_1∧
 n_2=n_2
theorem afi:av xm Tryz.f146 Ft au=TA:=by kernel_rfl
noncomputable def xP:ai:=al xm 146 (ag Ft)
def P99:Prop:= ∀ (l:List (List CD)) (l_1:List Int) (n:Int),
 l.length≤9223372036854775807→
 l_1.length=25→
 0≤n∧n < 136→
 l.length≤9223372036854775807→
 ((l=l∧
 (↑l.length:Int)=(↑l.length:Int)∧
 (0:Int)≤0∧
 0≤(↑l.length:Int)∧
 l_1=(ib (l_1,n.toNat) l 0).fst∧
 n=(↑(ib (l_1,n.toNat) l 0).snd:Int))∧
 True)∧
 ∀ (l_2:List (List CD)) (n_1 n_2:Int) (l_3:List Int) (n_3:Int),
 l_2.length≤9223372036854775807→
 l_3.length=25→
 l_2=l∧
 n_1=(↑l.length:Int)∧
 0≤n_2∧
 n_2≤n_1∧
 l_3=(ib (l_1,n.toNat) l n_2.toNat).fst∧
 n_3=(↑(ib (l_1,n.toNat) l n_2.toNat).snd:Int)→
 bif decide (n_2 < n_1) then
 (0≤n_2∧n_2 < (↑l_2.length:Int))∧
 n_2.toNat < l_2.length∧
 (0≤n_3∧n_3 < 200)∧
 ((-9223372036854775808:Int)≤n_3+1∧n_3+1≤9223372036854775807)∧
 bif decide (n_3+1=136) then
 True∧
 ((-9223372036854775808:Int)≤n_2+1∧n_2+1≤9223372036854775807)∧
 (l_2=l∧
 n_1=(↑l.length:Int)∧
 0≤n_2+1∧
 n_2+1≤n_1∧
 eE
 (eZ l_3 n_3.toNat
 ((l_2.getD n_2.toNat []).getD 0 (.int 0)).toInt)=
 (ib (l_1,n.toNat) l (n_2+1).toNat).fst∧
 0=(↑(ib (l_1,n.toNat) l (n_2+1).toNat).snd:Int))∧
 (n_1 - (n_2+1)).toNat < (n_1 - n_2).toNat
 else
 ((-9223372036854775808:Int)≤n_2+1∧n_2+1≤9223372036854775807)∧
 (l_2=l∧
 n_1=(↑l.length:Int)∧
 0≤n_2+1∧
 n_2+1≤n_1∧
 eZ l_3 n_3.toNat ((l_2.getD n_2.toNat []).getD 0 (.int 0)).toInt=
 (ib (l_1,n.toNat) l (n_2+1).toNat).fst∧
 n_3+1=(↑(ib (l_1,n.toNat) l (n_2+1).toNat).snd:Int))∧
 (n_1 - (n_2+1)).toNat < (n_1 - n_2).toNat
 else
 l_3=(ib (l_1,n.toNat) l l.length).fst∧
 n_3=(↑(ib (l_1,n.toNat) l l.length).snd:Int)
theorem e99:av xP Tryz.f99 JN Wp=P99:=by kernel_rfl
noncomputable def GC:ai:=al xP 99 (ag JN)
def Sg:Prop:= ∀ (l:List Int) (n:Int),
 l.length=25→
 aq l∧0≤n∧n < 136→
 (0≤n∧n < 200)∧
 ((0:Int)≤135∧(135:Int) < 200)∧
 True∧
 aq
 (eE
 (eZ (eZ l n.toNat 6) 135 128))∧
 ((0:Int)≤0∧(0:Int)≤32∧32≤(↑(200:Nat):Int)∧0 < (↑(200:Nat):Int))∧
 (32:Nat)≤32∧
 (32:Nat)≤200∧
 List.take 32
 (List.drop 0
 (fJ
 (eE
 (eZ (eZ l n.toNat 6) 135 128))))=
 fin (l,n.toNat)∧
 l=l∧n=n
theorem aek:av GC Tryz.f100 D6 au=Sg:=by kernel_rfl
noncomputable def y5:ai:=al GC 100 (ag D6)
def P61:Prop:= ∀ (l:List (List CD)),
 l.length≤9223372036854775807→
 Fh l→
 l.length≤9223372036854775807→
 ((l=l∧
 (↑l.length:Int)=(↑l.length:Int)∧
 (0:Int)≤0∧
 0≤(↑l.length:Int)∧
 [0,0,0,0,0,0,0,0,0,0,0,0,0,0,
 (0:Int),0,0,0,0,0,0,0,0,0,0] =
 (pS l 0).fst∧
 0=(↑(0:Nat):Int))∧
 True)∧
 ∀ (l_1:List (List CD)) (n n_1:Int) (l_2 l_3:List Int) (n_2:Int),
 l_1.length≤9223372036854775807→
 l_2.length=32→
 l_3.length=25→
 l_1=l∧
 n=(↑l.length:Int)∧
 0≤n_1∧
 n_1≤n∧l_3=(pS l n_1.toNat).fst∧n_2=(↑(pS l n_1.toNat).snd:Int)→
 bif decide (n_1 < n) then
 (0≤n_1∧n_1 < (↑l_1.length:Int))∧
 n_1.toNat < l_1.length∧
 (0≤n_2∧n_2 < 136)∧
 ((-9223372036854775808:Int)≤n_1+1∧n_1+1≤9223372036854775807)∧
 (l_1=l∧
 n=(↑l.length:Int)∧
 0≤n_1+1∧
 n_1+1≤n∧
 (ib (l_3,n_2.toNat) ((l_1.getD n_1.toNat []).getD 0 (.int 0)).toSl
 ((l_1.getD n_1.toNat []).getD 0 (.int 0)).toSl.length).fst=
 (pS l (n_1+1).toNat).fst∧
 (↑(ib (l_3,n_2.toNat) ((l_1.getD n_1.toNat []).getD 0 (.int 0)).toSl
 ((l_1.getD n_1.toNat []).getD 0 (.int 0)).toSl.length).snd:
 Int)=
 (↑(pS l (n_1+1).toNat).snd:Int))∧
 (n - (n_1+1)).toNat < (n - n_1).toNat
 else
 (aq l_3∧0≤n_2∧n_2 < 136)∧
 fin (l_3,n_2.toNat)=pp l
theorem e61:av y5 Tryz.f61 KA XK=P61:=by kernel_rfl
noncomputable def PX:ai:=al y5 61 (ag KA)
end Go.Proofs.YteiecapbaeajdaaGreatDoor
namespace Go.Proofs.YteiecapbaeajdaaGreatDoor
open Go Go.Avc Go.Proofs
set_option linter.unusedVariables false
set_option linter.unusedSimpArgs false
set_option maxRecDepth 100000
theorem U7:TA:=by
  rintro p' b s a hs ⟨h0,h1⟩
  obtain ⟨p,rfl⟩:=aT h0
  have e1:((p:Int) / 8).toNat=p / 8:=by omega
  have e2:(8:Int)*((p:Int)%8)=((8*(p%8):Nat):Int):=by omega
  rw [zG,e1,e2]
  simp only [Int.toNat_natCast,Nat.mul_one]
  exact ⟨by omega,by omega,by omega,by omega,by omega,by omega,by omega,by omega,rfl,by trivial⟩
theorem VI:af (base.with xm) 146 (ag Ft):=am PT Tryz.func146 (by kernel_rfl) (by kernel_rfl) Tryz.call146 afi U7
theorem Qh:(base.with xP).Ok:=ae PT VI
theorem nZ (s:List Int) (p:Nat) (b:Int):(eZ s p b).length=s.length:=List.length_set
theorem sQ {s:List Int} (h:aq s) (p:Nat) (b:Int):aq (eZ s p b):=Ms h (Bv _ _) _
def DN (h:Hs):Prop:=h.1.length=25∧aq h.1∧h.2<136
theorem NV {h:Hs} (k:DN h) (b:Int):DN (kO h b):=by
  obtain ⟨h1,h2,h3⟩:=k
  unfold kO
  split
  · obtain ⟨k1,k2⟩:=vA (s:=eZ h.1 h.2 b) (by rw [nZ];exact h1) (sQ h2 _ _)
    exact ⟨k1,k2,by show 0<136;decide⟩
  · exact ⟨by rw [nZ];exact h1,sQ h2 _ _,by show h.2+1<136;omega⟩
theorem LP {h:Hs} (k:DN h) (l:List (List CD)):∀ n,DN (ib h l n)
  | 0=>k
  | n+1=>NV (LP k l n) _
theorem M7 {h:Hs} (k:h.2<136) (b:Int):(kO h b).2<136:=by
  unfold kO
  split
  · show 0<136;decide
  · show h.2+1<136;omega
theorem Mt {h:Hs} (k:h.2<136) (l:List (List CD)):∀ n,(ib h l n).2<136
  | 0=>k
  | n+1=>M7 (Mt k l n) _
theorem acq:P99:=by
  rintro l s a' _ hs ⟨h0,h1⟩ _
  obtain ⟨a,rfl⟩:=aT h0
  rw [Int.toNat_natCast]
  refine ⟨⟨⟨rfl,rfl,by omega,by omega,rfl,rfl⟩,trivial⟩,?_⟩
  rintro l2 n i' s2 a2 _ _ ⟨rfl,rfl,h2,h3,hs2,ha2⟩
  obtain ⟨i,rfl⟩:=aT h2
  rw [Int.toNat_natCast] at hs2 ha2
  have hlt:=Mt (h:=(s,a)) (show a<136 by omega) l2 i
  refine ab (fun h=> ?_) fun h=> ?_
  · simp only [decide_eq_true_eq] at h
    refine ⟨by omega,by omega,by omega,by omega,?_⟩
    rw [dH,bp,ib,Int.toNat_natCast,ha2,Int.toNat_natCast,hs2]
    refine ab (fun h4=> ?_) fun h4=> ?_
    · simp only [decide_eq_true_eq] at h4
      refine ⟨trivial,by omega,⟨rfl,rfl,by omega,by omega,?_,?_⟩,by omega⟩
      · unfold kO;rw [if_pos (by omega)]
      · unfold kO;rw [if_pos (by omega)];rfl
    · simp only [decide_eq_false_iff_not] at h4
      refine ⟨by omega,⟨rfl,rfl,by omega,by omega,?_,?_⟩,by omega⟩
      · unfold kO;rw [if_neg (by omega)]
      · unfold kO;rw [if_neg (by omega)];rfl
  · simp only [decide_eq_false_iff_not] at h
    have hi:i=l2.length:=by omega
    subst hi
    exact ⟨hs2,ha2⟩
theorem aen:af (base.with xP) 99 (ag JN):=am Qh Tryz.func99 (by kernel_rfl) (by kernel_rfl) Tryz.call99 e99 acq
theorem c99:(base.with GC).Ok:=ae Qh aen
theorem WZ:Sg:=by
  rintro s a' hs ⟨hw,h0,h1⟩
  obtain ⟨a,rfl⟩:=aT h0
  rw [Int.toNat_natCast]
  have k:=vA (s:=eZ (eZ s a 6) 135 128) (by rw [nZ,nZ];exact hs) (sQ (sQ hw _ _) _ _)
  refine ⟨by omega,by omega,trivial,k.2,by omega,by omega,by omega,?_,rfl,rfl⟩
  rw [List.drop_zero,fin,aR]
theorem Zn:af (base.with GC) 100 (ag D6):=am c99 Tryz.func100 (by kernel_rfl) (by kernel_rfl) Tryz.call100 aek WZ
theorem Ow:(base.with y5).Ok:=ae c99 Zn
theorem Bz (n:Nat):aq (List.replicate n 0):=fun j=>by
  rw [List.getD_eq_getElem?_getD,List.getElem?_replicate]
  split <;>exact bg
theorem Sj:DN j7:=⟨rfl,Bz 25,by decide⟩
theorem IU (l:List (List CD)):∀ n,DN (pS l n)
  | 0=>Sj
  | n+1=>LP (IU l n) _ _
theorem acK:P61:=by
  intro l _ hp _
  refine ⟨⟨⟨rfl,rfl,by omega,by omega,rfl,rfl⟩,trivial⟩,?_⟩
  rintro l2 n i' _ s a _ _ _ ⟨rfl,rfl,h0,h1,hs,ha⟩
  obtain ⟨i,rfl⟩:=aT h0
  rw [Int.toNat_natCast] at hs ha
  obtain ⟨k1,k2,k3⟩:=IU l2 i
  refine ab (fun h=> ?_) fun h=> ?_
  · simp only [decide_eq_true_eq] at h
    rw [bp,ha,hs,Int.toNat_natCast,Int.toNat_natCast]
    exact ⟨by omega,by omega,by omega,by omega,⟨rfl,rfl,by omega,by omega,rfl,rfl⟩,by omega⟩
  · simp only [decide_eq_false_iff_not] at h
    have hi:i=l2.length:=by omega
    subst hi
    rw [ha,hs,Int.toNat_natCast,pp,aR]
    exact ⟨⟨k2,by omega,by omega⟩,rfl⟩
theorem abV:af (base.with y5) 61 (ag KA):=am Ow Tryz.func61 (by kernel_rfl) (by kernel_rfl) Tryz.call61 e61 acK
theorem c61:(base.with PX).Ok:=ae Ow abV
theorem jR (x:Int):ak (IntKind.u64.wrap x):=by rw [eY];exact ⟨by omega,by omega⟩
end Go.Proofs.YteiecapbaeajdaaGreatDoor
namespace Go.Avc
set_option linter.unusedVariables false
set_option linter.unusedSimpArgs false
def Ku (P:Program) (f:FuncId) (n:Nat):Prop:=∀ (vs:Array Value) (w:World),vs.size=n→(callFunc f vs).run P w= .ok (.enter f vs) w∧CallsD P f vs .returning w fun e u w'=>(∃ v,e= .returned v)∧u= .returning∧w'=w
section
variable (C:Ctx) (n0:Nat) (ann:Ann)
def OH (x:Code) (o1 o2:Oper) (t:Tmp) (fc nc:Nat) (z:Code) (s:ES) (Q:Exit→ES→Prop):Prop:=
  gY C n0 ann x s fun e s=>match e with
    | .normal=>jP C #[o1,o2] [o1] s fun s=>s.clr fun s=>(match s.ev C.glob (.tmp t) with
      | .fn f caps=>bif Nat.beq f fc&&Nat.beq caps.length nc then gY C n0 ann z s Q else Miss 5 s
      | _=>Miss 5 s)
    | _=>False
end
def Ct.VCD (C:Ctx) (ct:Ct) (rs:List ResultVar) (nt k:Nat) (x:Code) (o1 o2:Oper) (t:Tmp) (fc nc:Nat) (z:Code) (ann:List Dat→Ann):Prop:=
  ct.VCG fun svs hp ds=>OH C ct.bs.length (ann ds) x o1 o2 t fc nc z ⟨nt,[],svs++List.replicate k SV.dead,hp,[]⟩ (rZ C.P rs fun sv hp'=>(ct.res ds).ok ct.bs.length sv hp')
theorem Mem.ent {C:Ctx} {E:Ent} {hp:List Blk} {Im:Nat→Prop} {ι:Nat→Option Value} {w:World} (m:Mem C E hp Im ι w) (D:List Deferred):Mem C {E with dfr:=D} hp Im ι w:=
  ⟨m.hv,⟨m.mr.imlt,m.mr.imm,m.mr.sep,m.mr.mine⟩,⟨m.since.os,m.since.tape,m.since.output,m.since.size,m.since.block,m.since.hd,m.since.im,m.since.imnew⟩,m.glob⟩
theorem Mem.ent' {C:Ctx} {E:Ent} {hp:List Blk} {Im:Nat→Prop} {ι:Nat→Option Value} {w:World} {D:List Deferred} (m:Mem C {E with dfr:=D} hp Im ι w):Mem C E hp Im ι w:=
  ⟨m.hv,⟨m.mr.imlt,m.mr.imm,m.mr.sep,m.mr.mine⟩,⟨m.since.os,m.since.tape,m.since.output,m.since.size,m.since.block,m.since.hd,m.since.im,m.since.imnew⟩,m.glob⟩
theorem Ck {C:Ctx} (hC:C.Ok) {f:FuncId} {fn:Func} {x z:Code} {i1:Nat} {o1 o2:Oper} {t:Tmp} {fc nc:Nat} (hf:C.P.funcs[f]? =some fn) (hb:fn.body=some (.seq x (.seq (.region i1 #[o1,o2] false) z)))
    (ho2:o2.op= .defer ⟨.value (.tmp t),#[],#[]⟩) (hg2:o2.guard=none) (hd2:o2.dst=none) (hidle:Ku C.P fc nc) (ann:Ann) {svs:List SV} {hp:List Blk} {r:Res} {k:Nat} (hn:fn.ntmps-svs.length=k) (hn2:svs.length+k=fn.ntmps)
    {E:Ent} {Im:Nat→Prop} {ι:Nat→Option Value} {w:World} (hE:∀ b,hp.length≤b→E.ι b=none)
    (h:OH C hp.length ann x o1 o2 t fc nc z ⟨fn.ntmps,[],svs++List.replicate k SV.dead,hp,[]⟩ (rZ C.P fn.results.toList fun sv hp'=>r.ok hp.length sv hp')) {vs:List Value} (hD:E.dfr= []) (hm:Mem C E hp Im ι w) (hF:kH hp.length ι) (hv:VRels Im ι w svs vs):
    Calls C.P f vs.toArray w (dz C E Im ι w hp.length r):=by
  refine calls_of_wp_defers hf hb ?_
  have hlen:=gi hv
  refine wp_seq (dn (E:=E) (B:=⟨w,Im,ι,fun b=>b<hp.length,[]⟩) (n0:=hp.length) hC ann hE hF (fun b hb=>hb) x _ _ _ _ _ (xJ (by simp [hn2])) ⟨Im,ι,⟨hD.symm,?_,fun t=> ?_,hm⟩,hF,⟨Later.refl _ _ _,fun b hb=>⟨hb,rfl⟩⟩⟩ h fun e s a w' kk hs rr=> ?_)
  · show _=(aM [] (svs++List.replicate k SV.dead)).length
    simp [hlen,hn,aM]
  · show VRel Im ι w (aD (svs++List.replicate k SV.dead) t) _
    rw [mH]
    split
    · rename_i ht
      obtain ⟨v,h1,h2⟩:=nS hv t ht
      have:(vs.toArray++Array.replicate (fn.ntmps-vs.toArray.size) undef).getD t undef=v:=by
        rw [Array.getD_eq_getD_getElem?,Array.getElem?_append_left (by simp;omega)]
        simp [h1]
      rw [this]
      exact h2
    · rw [nJ]
      split <;>trivial
  · cases e with
    | normal=>
      have hops:=rM [o1] s hs kk
      refine wp_seq (wp_region ?_)
      show wpOps C.P #[o1,o2] _ [0,1] a w'
      have second:∀ s' a1 w1,Next (fun s=>s.clr fun s=>(match s.ev C.glob (.tmp t) with
          | .fn f caps=>bif Nat.beq f fc&&Nat.beq caps.length nc then gY C hp.length ann z s (rZ C.P fn.results.toList fun sv hp'=>r.ok hp.length sv hp') else Miss 5 s
          | _=>Miss 5 s)) s'→fF C E ⟨w,Im,ι,fun b=>b<hp.length,[]⟩ s' a1 w1→wpOps C.P #[o1,o2] (Exit.then (z.wp C.P (bodyPostD C.P fn (dz C E Im ι w hp.length r))) (bodyPostD C.P fn (dz C E Im ι w hp.length r))) [1] a1 w1:=by
        intro s' a1 w1 hnx hR1
        obtain ⟨s2,hs2,e2,k2⟩:=hnx
        obtain ⟨s3,hs3,e3,k3⟩:=Ax hs2 k2
        obtain ⟨Im1,ι1,hRel,hFr,hA⟩:=hR1
        have hv3:VRel Im1 ι1 w1 (s'.ev C.glob (.tmp t)) (a1.eval (.tmp t)):=sL hRel.tm hRel.mem.glob (.tmp t)
        have hev:s3.ev C.glob (.tmp t)=s'.ev C.glob (.tmp t):=by rw [s3.ev_eq hs3,e3,e2]
        split at k3
        · rename_i g caps hg
          cases hb2:(Nat.beq g fc&&Nat.beq caps.length nc) with
          | false=>rw [hb2] at k3;cases k3
          | true=>
            rw [hb2] at k3
            simp only [cond_true] at k3
            simp only [Bool.and_eq_true] at hb2
            cases aA.1 hb2.1
            have hcl:=aA.1 hb2.2
            rw [← hev,hg] at hv3
            obtain ⟨us,hu,hus⟩:=hv3
            have hul:us.toArray.size=nc:=by rw [List.size_toArray,gi hus];exact hcl
            show (if Region.wanted o2 (yielded #[o1,o2] a1.tmps)=true then _ else _)
            rw [if_pos (by simp [Region.wanted,hg2])]
            refine .inl ?_
            have hrun:(execOp a1.eval o2).run C.P w1= .ok (.defer ⟨.fn (.func fc) us.toArray,#[]⟩) w1:=by
              unfold execOp
              rw [ho2]
              simp [resolve,hu,Deferred.ofValue]
            show Oper.upon C.P o2 a1 _ _ ((execOp a1.eval o2).run C.P w1)
            rw [hrun,Oper.upon_defer,hd2]
            subst e2
            show z.wp C.P _ {a1 with defers:=⟨.fn (.func fc) us.toArray,#[]⟩::a1.defers} w1
            refine dn (E:= {E with dfr:= [⟨.fn (.func fc) us.toArray,#[]⟩]}) (B:=⟨w,Im,ι,fun b=>b<hp.length,[]⟩) (n0:=hp.length) hC ann hE hF (fun b hb=>hb) z s3 _ _ _ w1 hs3 ⟨Im1,ι1,⟨?_,?_,?_,?_⟩,by rw [e3];exact hFr,by rw [e3];exact hA⟩ k3 fun e s4 a4 w4 kk4 hs4 rr4=> ?_
            · show _::a1.defers=_
              rw [hRel.defers,hD]
            · rw [e3];exact hRel.size
            · rw [e3];exact hRel.tm
            · rw [e3];exact hRel.mem.ent _
            · obtain ⟨Im',ι',hR,hF',hA'⟩:=rr4
              have key:(match m8 C.P s4 fn.results.toList with | some sv=>bE sv fun sv=>Res.ok hp.length r sv s4.hp | none=>Miss 3 s4)→Leaves C.P fn a4.tmps (dz C E Im ι w hp.length r) a4.defers .returning w4:=fun kk=>by
                rw [wo hs4] at kk
                split at kk
                · rename_i sv hsv
                  rw [aS] at kk
                  obtain ⟨v,h1,h2⟩:=v9 hR hsv
                  have hres:dz C E Im ι w hp.length r (.returned v) w4:=ma hC hE hA'.later hF (fun b hb=>(hA'.keep b hb).2) hR.mem.ent' h2 _ kk
                  rw [hR.defers]
                  have hid:=hidle us.toArray w4 hul
                  refine leaves_cons (by simp) (f:=fc) (args:=us.toArray) ?_ (CallsD.mono hid.2 fun e u' w' h=> ?_)
                  · show (callFunc fc (#[] ++us.toArray)).run C.P w4=_
                    rw [Array.empty_append];exact hid.1
                  · obtain ⟨⟨v0,rfl⟩,rfl,rfl⟩:=h
                    exact ⟨v,h1,hres⟩
                · cases kk
              cases e with
              | normal=>exact key kk4
              | ret=>exact key kk4
              | exit id=>exact kk4.elim
              | goto l=>exact kk4.elim
              | panic ch=>exact kk4.elim
              | outgrown=>exact kk4.elim
        · cases k3
      show (if Region.wanted o1 (yielded #[o1,o2] a.tmps)=true then _ else _)
      rcases ub (Q:=Exit.then (z.wp C.P (bodyPostD C.P fn (dz C E Im ι w hp.length r))) (bodyPostD C.P fn (dz C E Im ι w hp.length r))) hC rr (oJ hops) with ⟨h1,h2⟩ | ⟨h1,s',h2,h3⟩
      · rw [if_pos h1]
        exact .inl (Oper.wp_mono (fun a w ⟨s',k,r⟩=>second s' a w k r) h2)
      · rw [if_neg (by simp [h1])]
        exact second s' _ w' h2 h3
    | exit id=>exact kk.elim
    | goto l=>exact kk.elim
    | ret=>exact kk.elim
    | panic ch=>exact kk.elim
    | outgrown=>exact kk.elim
theorem LE {C:Ctx} (hC:C.Ok) {f:FuncId} {fn:Func} {x z:Code} {i1:Nat} {o1 o2:Oper} {t:Tmp} {fc nc:Nat} (hf:C.P.funcs[f]? =some fn) (hb:fn.body=some (.seq x (.seq (.region i1 #[o1,o2] false) z)))
    (ho2:o2.op= .defer ⟨.value (.tmp t),#[],#[]⟩) (hg2:o2.guard=none) (hd2:o2.dst=none) (hidle:Ku C.P fc nc) (ann:List Dat→Ann) {ct:Ct} {k:Nat} (hlenps:ct.ps.length+k=fn.ntmps) (hcall:∀ vs:Array Value,∀ w,vs.size=ct.ps.length→(callFunc f vs).run C.P w= .ok (.enter f vs) w)
    (hvc:ct.VCD C fn.results.toList fn.ntmps k x o1 o2 t fc nc z ann):af C f (ag ct):=by
  refine r7 hC (fun svs hp ds=>OH C ct.bs.length (ann ds) x o1 o2 t fc nc z ⟨fn.ntmps,[],svs++List.replicate k SV.dead,hp,[]⟩ (rZ C.P fn.results.toList fun sv hp'=>(ct.res ds).ok ct.bs.length sv hp')) (fun svs hp ds E Im ι w vs h h1 h2 hD hE hm hF hv=> ?_) hcall hvc
  rw [← h2] at h
  exact Ck hC hf hb ho2 hg2 hd2 hidle (ann ds) (k:=k) (by omega) (by omega) hE h hD hm hF hv
end Go.Avc
namespace Go.Proofs.YteiecapbaeajdaaGreatDoor
open Go Go.Avc Go.Proofs
set_option linter.unusedVariables false
set_option maxRecDepth 100000
def aX (x y c:Int):Int:=(x+y+c)%18446744073709551616
def bI (x y c:Int):Int:=(x+y+c) / 18446744073709551616
def ft (x y c:Int):Int:=(x+18446744073709551616-y-c)%18446744073709551616
def bj (x y c:Int):Int:=if x<y+c then 1 else 0
def K9:List SV→List Blk→CR:=fun svs hp=>match svs with
  | [.int .u64 x,.int .u64 y,.int .u64 c] => .need (ak x∧ak y∧0≤c∧c≤1) (.ret (.tup [.int .u64 (aX x y c),.int .u64 (bI x y c)]) [] [])
  | _=> .bad
def Jr:List SV→List Blk→CR:=fun svs hp=>match svs with
  | [.int .u64 x,.int .u64 y,.int .u64 c] => .need (ak x∧ak y∧0≤c∧c≤1) (.ret (.tup [.int .u64 (ft x y c),.int .u64 (bj x y c)]) [] [])
  | _=> .bad
def Ay:Array Value→Sem Value:=fun args=>do
  let (x,y,b) ← Extern.MathBitsCarry.three "Sub64" args
  pure (Extern.MathBitsCarry.pair ((x+Extern.MathBitsCarry.m64-y-b)%Extern.MathBitsCarry.m64) (if x<y+b then 1 else 0))
theorem Ba {P:Program} (x y b:Nat) (hb:b≤1) (w:World):
    (Ay #[.int .u64 x,.int .u64 y,.int .u64 b]).run P w= .ok (.tuple #[.int .u64 (((x+18446744073709551616-y-b)%18446744073709551616:Nat):Int),.int .u64 ((if x<y+b then 1 else 0:Nat):Int)]) w:=by
  have:b=0∨b=1:=by omega
  rcases this with rfl | rfl <;>rfl
theorem XU {sp:ai} :af (base.with sp) 190 K9:=by
  intro svs hp K R h E Im ι w vs hm hRn hv
  unfold K9 at h
  split at h
  · rename_i x y c
    obtain ⟨⟨hx,hy,h0,h1⟩,hK,_⟩:=h
    obtain ⟨_,_,rfl,rfl,_,_,rfl,rfl,_,_,rfl,rfl,rfl⟩:=hv
    refine .inr ⟨.tuple #[.int .u64 (aX x y c),.int .u64 (bI x y c)],?_,_,SV.tup [.int .u64 (aX x y c),.int .u64 (bI x y c)],hp,Im,ι,rfl,by rw [List.append_nil] at hK;exact hK,⟨_,rfl,_,_,rfl,rfl,_,_,rfl,rfl,rfl⟩,hm,Nat.le_refl _,fun _ _=>rfl,Later.refl _ _ _⟩
    show (callFunc 190 #[.int .u64 x,.int .u64 y,.int .u64 c]).run Tryz.prog w=_
    rw [run_callFunc_extern Tryz.func190 (by kernel_rfl) (by kernel_rfl) (by kernel_rfl) (e:=add64Entry) (by kernel_rfl),run_add64 x y c hx.1 hy.1 h0 h1]
    rfl
  · exact h.elim
theorem ZJ {sp:ai} :af (base.with sp) 230 Jr:=by
  intro svs hp K R h E Im ι w vs hm hRn hv
  unfold Jr at h
  split at h
  · rename_i x y c
    obtain ⟨⟨hx,hy,h0,h1⟩,hK,_⟩:=h
    obtain ⟨_,_,rfl,rfl,_,_,rfl,rfl,_,_,rfl,rfl,rfl⟩:=hv
    refine .inr ⟨.tuple #[.int .u64 (ft x y c),.int .u64 (bj x y c)],?_,_,SV.tup [.int .u64 (ft x y c),.int .u64 (bj x y c)],hp,Im,ι,rfl,by rw [List.append_nil] at hK;exact hK,⟨_,rfl,_,_,rfl,rfl,_,_,rfl,rfl,rfl⟩,hm,Nat.le_refl _,fun _ _=>rfl,Later.refl _ _ _⟩
    show (callFunc 230 #[.int .u64 x,.int .u64 y,.int .u64 c]).run Tryz.prog w=_
    have hx':=hx;have hy':=hy
    unfold ak at hx' hy'
    obtain ⟨a,rfl⟩:=Int.eq_ofNat_of_zero_le hx'.1
    obtain ⟨b,rfl⟩:=Int.eq_ofNat_of_zero_le hy'.1
    obtain ⟨d,rfl⟩:=Int.eq_ofNat_of_zero_le h0
    rw [run_callFunc_extern Tryz.func230 (by kernel_rfl) (by kernel_rfl) (by kernel_rfl) (e:=Ay) (by kernel_rfl),Ba a b d (by omega)]
    have e1:(((a+18446744073709551616-b-d)%18446744073709551616:Nat):Int)=ft a b d:=by unfold ft;omega
    have e2:((if a<b+d then 1 else 0:Nat):Int)=bj a b d:=by
      unfold bj
      by_cases h:a<b+d
      · rw [if_pos h,if_pos (by omega)];rfl
      · rw [if_neg h,if_neg (by omega)];rfl
    rw [e1,e2]
    rfl
  · exact h.elim
noncomputable def Mf:ai:=al PX 190 K9
theorem aey:(base.with Mf).Ok:=ae c61 XU
noncomputable def y6:ai:=al Mf 230 Jr
theorem PD:(base.with y6).Ok:=ae aey ZJ
end Go.Proofs.YteiecapbaeajdaaGreatDoor
namespace Go.Proofs.YteiecapbaeajdaaGreatDoor
open Go.Avc
set_option linter.unusedVariables false
abbrev a4:Pat:= .arrI 4 .u64
abbrev w4:Pat:= .agg [a4]
abbrev q4:BPat:= .cells 74 [a4]
def pW:List Int:= [4891460686036598785,2896914383306846353,13281191951274694749,3486998266802970665]
def gI (l:List Int) (i:Nat):Int:=l.getD i 0
def bP (a b:List Int):Nat→List Int×Int
  | 0=>([0,0,0,0],0)
  | i+1=>((bP a b i).1.set i (ft (gI a i) (gI b i) (bP a b i).2),bj (gI a i) (gI b i) (bP a b i).2)
def dq (a b:List Int):Nat→List Int×Int
  | 0=>([0,0,0,0],0)
  | i+1=>((dq a b i).1.set i (aX (gI a i) (gI b i) (dq a b i).2),bI (gI a i) (gI b i) (dq a b i).2)
def fM (a:List Int):List Int:=if (bP a pW 4).2=0 then (bP a pW 4).1 else a
def cU (a x y c:Int):Int:=(a+x*y+c)%18446744073709551616
def bS (a x y c:Int):Int:=(a+x*y+c) / 18446744073709551616
def C3:Nat→Int
  | 0=>1
  | i+1=>IntKind.u64.wrap (C3 i*IntKind.u64.wrap (2-IntKind.u64.wrap (4891460686036598785*C3 i)))
def inv:Int:=14042775128853446655
def GU:Ct:= {ps:= [],bs:= [],pre:=fun _=>True,res:=fun _=> .ret w4 [] [.li pW]}
def EM:Ct:= {ps:= [w4,w4],bs:= [],pre:=fun | [.li a,.li b] =>aq a∧aq b | _=>False,res:=fun | [.li a,.li b] => .ret (.tup [w4,u64]) [] [.li (bP a b 4).1,.i (bP a b 4).2] | _=>aj}
def SX:List Dat→Ann
  | [.li a,.li b] => {cut:= [],loop:= [(2,[la 26 [(2,.ptr 0 0),(3,.ptr 1 0),(4,.ptr 2 0),(5,u64),(7,i64)] [q4,q4,q4] (fun | [.i c,.i i,.li a',.li b',.li o] =>a'=a∧b'=b∧0≤i∧i≤4∧o=(bP a b i.toNat).1∧c=(bP a b i.toNat).2 | _=>False) (fun | [_,.i i,_,_,_] =>(4-i).toNat | _=>0)])]}
  | _=> {cut:= [],loop:= []}
def GM:Ct:= {ps:= [w4,w4],bs:= [],pre:=fun | [.li a,.li b] =>aq a∧aq b | _=>False,res:=fun | [.li a,.li b] => .ret w4 [] [.li (dq a b 4).1] | _=>aj}
def QQ:List Dat→Ann
  | [.li a,.li b] => {cut:= [],loop:= [(3,[la 25 [(2,.ptr 0 0),(3,.ptr 1 0),(4,.ptr 2 0),(5,u64),(7,i64)] [q4,q4,q4] (fun | [.i c,.i i,.li a',.li b',.li o] =>a'=a∧b'=b∧0≤i∧i≤4∧o=(dq a b i.toNat).1∧c=(dq a b i.toNat).2 | _=>False) (fun | [_,.i i,_,_,_] =>(4-i).toNat | _=>0)])]}
  | _=> {cut:= [],loop:= []}
def EJ:Ct:= {ps:= [w4],bs:= [],pre:=fun | [.li a] =>aq a | _=>False,res:=fun | [.li a] => .ret w4 [] [.li (fM a)] | _=>aj}
def FN:Ct:= {ps:= [u64,u64],bs:= [],pre:=fun | [.i x,.i y] =>ak x∧ak y | _=>False,res:=fun | [.i x,.i y] => .ret (.tup [u64,u64]) [] [.i (x*y / 18446744073709551616),.i (x*y%18446744073709551616)] | _=>aj}
def Fv:Ct:= {ps:= [u64,u64,u64,u64],bs:= [],pre:=fun | [.i a,.i x,.i y,.i c] =>ak a∧ak x∧ak y∧ak c | _=>False,res:=fun | [.i a,.i x,.i y,.i c] => .ret (.tup [u64,u64]) [] [.i (cU a x y c),.i (bS a x y c)] | _=>aj}
def FD:Ct:= {ps:= [],bs:= [],pre:=fun _=>True,res:=fun _=> .ret u64 [] [.i inv]}
def Qr:List Dat→Ann:=fun _=> {cut:= [],loop:= [(3,[la 16 [(1,u64),(2,u64),(5,i64)] [] (fun | [.i p,.i x,.i i] =>p=4891460686036598785∧0≤i∧i≤6∧x=C3 i.toNat | _=>False) (fun | [_,_,.i i] =>(6-i).toNat | _=>0)])]}
end Go.Proofs.YteiecapbaeajdaaGreatDoor
namespace Go.Proofs.YteiecapbaeajdaaGreatDoor
open Go Go.Avc Go.Proofs
set_option linter.unusedVariables false
set_option maxRecDepth 100000
def UM:Prop:= True→
 [(4891460686036598785:Int),2896914383306846353,13281191951274694749,3486998266802970665] =
 [(4891460686036598785:Int),2896914383306846353,13281191951274694749,3486998266802970665]
theorem abZ:av y6 Tryz.f142 GU au=UM:=by kernel_rfl
noncomputable def zk:ai:=al y6 142 (ag GU)
def Sc:Prop:= ∀ (l l_1:List Int),
 l.length=4→
 l_1.length=4→
 aq l∧aq l_1→
 ((l=l∧
 l_1=l_1∧
 (0:Int)≤0∧
 (0:Int)≤4∧
 [0,0,0,0] =(bP l l_1 0).fst∧
 0=(bP l l_1 0).snd)∧
 True)∧
 ∀ (n n_1:Int) (l_2 l_3 l_4:List Int),
 l_2.length=4→
 l_3.length=4→
 l_4.length=4→
 l_2=l∧
 l_3=l_1∧
 0≤n_1∧
 n_1≤4∧
 l_4=(bP l l_1 n_1.toNat).fst∧n=(bP l l_1 n_1.toNat).snd→
 bif decide (n_1 < 4) then
 (0≤n_1∧n_1 < (↑(4:Nat):Int))∧
 n_1.toNat*1 < 4∧
 (0≤n_1∧n_1 < (↑(4:Nat):Int))∧
 n_1.toNat*1 < 4∧
 (ak (l_2.getD (n_1.toNat*1) 0)∧
 ak (l_3.getD (n_1.toNat*1) 0)∧0≤n∧n≤1)∧
 (0≤n_1∧n_1 < (↑(4:Nat):Int))∧
 n_1.toNat*1 < 4∧
 ((-9223372036854775808:Int)≤n_1+1∧n_1+1≤9223372036854775807)∧
 (l_2=l∧
 l_3=l_1∧
 0≤n_1+1∧
 n_1+1≤4∧
 l_4.set (n_1.toNat*1)
 (ft (l_2.getD (n_1.toNat*1) 0)
 (l_3.getD (n_1.toNat*1) 0) n)=
 (bP l l_1 (n_1+1).toNat).fst∧
 bj (l_2.getD (n_1.toNat*1) 0) (l_3.getD (n_1.toNat*1) 0)
 n=
 (bP l l_1 (n_1+1).toNat).snd)∧
 ((4:Int) - (n_1+1)).toNat < ((4:Int) - n_1).toNat
 else l_4=(bP l l_1 4).fst∧n=(bP l l_1 4).snd
theorem aef:av zk Tryz.f202 EM SX=Sc:=by kernel_rfl
noncomputable def yY:ai:=al zk 202 (ag EM)
def Sv:Prop:= ∀ (l l_1:List Int),
 l.length=4→
 l_1.length=4→
 aq l∧aq l_1→
 ((l=l∧
 l_1=l_1∧
 (0:Int)≤0∧
 (0:Int)≤4∧
 [0,0,0,0] =(dq l l_1 0).fst∧
 0=(dq l l_1 0).snd)∧
 True)∧
 ∀ (n n_1:Int) (l_2 l_3 l_4:List Int),
 l_2.length=4→
 l_3.length=4→
 l_4.length=4→
 l_2=l∧
 l_3=l_1∧
 0≤n_1∧
 n_1≤4∧
 l_4=(dq l l_1 n_1.toNat).fst∧n=(dq l l_1 n_1.toNat).snd→
 bif decide (n_1 < 4) then
 (0≤n_1∧n_1 < (↑(4:Nat):Int))∧
 n_1.toNat*1 < 4∧
 (0≤n_1∧n_1 < (↑(4:Nat):Int))∧
 n_1.toNat*1 < 4∧
 (ak (l_2.getD (n_1.toNat*1) 0)∧
 ak (l_3.getD (n_1.toNat*1) 0)∧0≤n∧n≤1)∧
 (0≤n_1∧n_1 < (↑(4:Nat):Int))∧
 n_1.toNat*1 < 4∧
 ((-9223372036854775808:Int)≤n_1+1∧n_1+1≤9223372036854775807)∧
 (l_2=l∧
 l_3=l_1∧
 0≤n_1+1∧
 n_1+1≤4∧
 l_4.set (n_1.toNat*1)
 (aX (l_2.getD (n_1.toNat*1) 0)
 (l_3.getD (n_1.toNat*1) 0) n)=
 (dq l l_1 (n_1+1).toNat).fst∧
 bI (l_2.getD (n_1.toNat*1) 0) (l_3.getD (n_1.toNat*1) 0)
 n=
 (dq l l_1 (n_1+1).toNat).snd)∧
 ((4:Int) - (n_1+1)).toNat < ((4:Int) - n_1).toNat
 else l_4=(dq l l_1 4).fst
theorem aeS:av yY Tryz.f181 GM QQ=Sv:=by kernel_rfl
noncomputable def w8:ai:=al yY 181 (ag GM)
def OW:Prop:= ∀ (l:List Int),
 l.length=4→
 aq l→
 True∧
 (aq l∧
 aq [4891460686036598785,2896914383306846353,13281191951274694749,3486998266802970665])∧
 bif
 decide
 ((bP l [4891460686036598785,2896914383306846353,13281191951274694749,3486998266802970665]
 4).snd=
 (0:Int)) then
 (bP l [4891460686036598785,2896914383306846353,13281191951274694749,3486998266802970665]
 4).fst=
 fM l
 else l=fM l
theorem aev:av w8 Tryz.f180 EJ au=OW:=by kernel_rfl
noncomputable def yK:ai:=al w8 180 (ag EJ)
def RU:Prop:= ∀ (n n_1:Int),
 ak n∧ak n_1→
 (0:Int)≤32∧
 (0:Int)≤32∧
 (0:Int)≤32∧
 (0:Int)≤32∧
 (0:Int)≤32∧
 IntKind.u64.wrap
 (IntKind.u64.wrap
 (IntKind.u64.wrap (aw .u64 n 32*aw .u64 n_1 32)+
 aw .u64
 (IntKind.u64.wrap
 (IntKind.u64.wrap (aw .u64 n 32*bU .u64 n_1 4294967295)+
 aw .u64
 (IntKind.u64.wrap (bU .u64 n 4294967295*bU .u64 n_1 4294967295)) 32))
 32)+
 aw .u64
 (IntKind.u64.wrap
 (bU .u64
 (IntKind.u64.wrap
 (IntKind.u64.wrap (aw .u64 n 32*bU .u64 n_1 4294967295)+
 aw .u64
 (IntKind.u64.wrap (bU .u64 n 4294967295*bU .u64 n_1 4294967295)) 32))
 4294967295+
 IntKind.u64.wrap (bU .u64 n 4294967295*aw .u64 n_1 32)))
 32)=
 n*n_1 / 18446744073709551616∧
 IntKind.u64.wrap (n*n_1)=n*n_1 % 18446744073709551616
theorem adN:av yK Tryz.f215 FN au=RU:=by kernel_rfl
noncomputable def yN:ai:=al yK 215 (ag FN)
def Q8:Prop:= ∀ (n n_1 n_2 n_3:Int),
 ak n∧
 ak n_1∧ak n_2∧ak n_3→
 (ak n_1∧ak n_2)∧
 (ak (n_1*n_2 % 18446744073709551616)∧
 ak n∧(0:Int)≤0∧(0:Int)≤1)∧
 (ak (aX (n_1*n_2 % 18446744073709551616) n 0)∧
 ak n_3∧(0:Int)≤0∧(0:Int)≤1)∧
 aX (aX (n_1*n_2 % 18446744073709551616) n 0) n_3 0=
 cU n n_1 n_2 n_3∧
 IntKind.u64.wrap
 (IntKind.u64.wrap (n_1*n_2 / 18446744073709551616+bI (n_1*n_2 % 18446744073709551616) n 0)+
 bI (aX (n_1*n_2 % 18446744073709551616) n 0) n_3 0)=
 bS n n_1 n_2 n_3
theorem aeW:av yN Tryz.f189 Fv au=Q8:=by kernel_rfl
noncomputable def yi:ai:=al yN 189 (ag Fv)
def PQ:Prop:= True→
 True∧
 ((0:Int)≤0∧0 < (↑(4:Nat):Int)∧(0:Nat) < 4)∧
 (([4891460686036598785,2896914383306846353,13281191951274694749,3486998266802970665].getD 0 0=
 (4891460686036598785:Int)∧
 (0:Int)≤0∧(0:Int)≤6∧1=C3 0)∧
 True)∧
 ∀ (n n_1 n_2:Int),
 n=4891460686036598785∧0≤n_2∧n_2≤6∧n_1=C3 n_2.toNat→
 bif decide (n_2 < 6) then
 ((-9223372036854775808:Int)≤n_2+1∧n_2+1≤9223372036854775807)∧
 (n=4891460686036598785∧
 0≤n_2+1∧
 n_2+1≤6∧
 IntKind.u64.wrap (n_1*IntKind.u64.wrap ((2:Int) - IntKind.u64.wrap (n*n_1)))=
 C3 (n_2+1).toNat)∧
 ((6:Int) - (n_2+1)).toNat < ((6:Int) - n_2).toNat
 else IntKind.u64.wrap ((0:Int) - n_1)=inv
theorem ad2:av yi Tryz.f188 FD Qr=PQ:=by kernel_rfl
noncomputable def w7:ai:=al yi 188 (ag FD)
end Go.Proofs.YteiecapbaeajdaaGreatDoor
namespace Go.Proofs.YteiecapbaeajdaaGreatDoor
open Go Go.Avc Go.Proofs
set_option linter.unusedVariables false
set_option linter.unusedSimpArgs false
set_option maxRecDepth 100000
theorem nT (x y c:Int):ak (aX x y c):=by unfold ak aX;omega
theorem MZ (x y c:Int):ak (ft x y c):=by unfold ak ft;omega
theorem xl {x y c:Int} (hx:ak x) (hy:ak y) (hc:0≤c∧c≤1):0≤bI x y c∧bI x y c≤1:=by unfold ak at hx hy;unfold bI;omega
theorem uk (x y c:Int):0≤bj x y c∧bj x y c≤1:=by unfold bj;split <;>omega
theorem dV {s:List Int} (h:aq s) {v:Int} (hv:ak v) (i:Nat):aq (s.set i v):=fun j=>by
  rw [List.getD_eq_getElem?_getD,List.getElem?_set]
  split
  · split
    · exact hv
    · exact bg
  · rw [← List.getD_eq_getElem?_getD];exact h j
theorem Bp:aq [0,0,0,0] :=fun j=>by
  match j with
  | 0=>exact bg
  | 1=>exact bg
  | 2=>exact bg
  | 3=>exact bg
  | _+4=>exact bg
theorem jj:aq pW:=fun j=>by
  match j with
  | 0=>exact ⟨by decide,by decide⟩
  | 1=>exact ⟨by decide,by decide⟩
  | 2=>exact ⟨by decide,by decide⟩
  | 3=>exact ⟨by decide,by decide⟩
  | _+4=>exact bg
theorem t9 (a b:List Int):∀ i,aq (bP a b i).1∧0≤(bP a b i).2∧(bP a b i).2≤1
  | 0=>⟨Bp,by show (0:Int)≤0;omega,by show (0:Int)≤1;omega⟩
  | i+1=>⟨dV (t9 a b i).1 (MZ _ _ _) i,uk _ _ _⟩
theorem nL {a b:List Int} (ha:aq a) (hb:aq b):∀ i,aq (dq a b i).1∧0≤(dq a b i).2∧(dq a b i).2≤1
  | 0=>⟨Bp,by show (0:Int)≤0;omega,by show (0:Int)≤1;omega⟩
  | i+1=>⟨dV (nL ha hb i).1 (nT _ _ _) i,xl (ha i) (hb i) (nL ha hb i).2⟩
theorem ou (n:Int):IntKind.u64.wrap n=n%18446744073709551616:=IntKind.wrap_u64 n
theorem WB:UM:=fun _=>rfl
theorem ZR:af (base.with y6) 142 (ag GU):=am PD Tryz.func142 (by kernel_rfl) (by kernel_rfl) Tryz.call142 abZ WB
theorem RZ:(base.with zk).Ok:=ae PD ZR
theorem V8:Sc:=by
  rintro a b ha hb ⟨wa,wb⟩
  refine ⟨⟨⟨rfl,rfl,by omega,by omega,rfl,rfl⟩,trivial⟩,?_⟩
  rintro c n a' b' o _ _ _ ⟨rfl,rfl,h0,h1,rfl,rfl⟩
  obtain ⟨i,rfl⟩:=Int.eq_ofNat_of_zero_le h0
  rw [Int.toNat_natCast,Nat.mul_one]
  refine ab (fun h=> ?_) fun h=> ?_
  · simp only [decide_eq_true_eq] at h
    have:=(t9 a' b' i).2
    refine ⟨⟨h0,h⟩,by omega,⟨h0,h⟩,by omega,⟨wa i,wb i,this⟩,⟨h0,h⟩,by omega,⟨by omega,by omega⟩,⟨rfl,rfl,by omega,by omega,?_,?_⟩,by omega⟩
    · rw [show ((i:Int)+1).toNat=i+1 from by omega];rfl
    · rw [show ((i:Int)+1).toNat=i+1 from by omega];rfl
  · simp only [decide_eq_false_iff_not] at h
    rw [show i=4 from by omega]
    exact ⟨rfl,rfl⟩
theorem Wf:af (base.with zk) 202 (ag EM):=am RZ Tryz.func202 (by kernel_rfl) (by kernel_rfl) Tryz.call202 aef V8
theorem RS:(base.with yY).Ok:=ae RZ Wf
theorem Zq:Sv:=by
  rintro a b ha hb ⟨wa,wb⟩
  refine ⟨⟨⟨rfl,rfl,by omega,by omega,rfl,rfl⟩,trivial⟩,?_⟩
  rintro c n a' b' o _ _ _ ⟨rfl,rfl,h0,h1,rfl,rfl⟩
  obtain ⟨i,rfl⟩:=Int.eq_ofNat_of_zero_le h0
  rw [Int.toNat_natCast,Nat.mul_one]
  refine ab (fun h=> ?_) fun h=> ?_
  · simp only [decide_eq_true_eq] at h
    have:=(nL wa wb i).2
    refine ⟨⟨h0,h⟩,by omega,⟨h0,h⟩,by omega,⟨wa i,wb i,this⟩,⟨h0,h⟩,by omega,⟨by omega,by omega⟩,⟨rfl,rfl,by omega,by omega,?_,?_⟩,by omega⟩
    · rw [show ((i:Int)+1).toNat=i+1 from by omega];rfl
    · rw [show ((i:Int)+1).toNat=i+1 from by omega];rfl
  · simp only [decide_eq_false_iff_not] at h
    rw [show i=4 from by omega]
theorem ZX:af (base.with yY) 181 (ag GM):=am RS Tryz.func181 (by kernel_rfl) (by kernel_rfl) Tryz.call181 aeS Zq
theorem OM:(base.with w8).Ok:=ae RS ZX
theorem Z8:OW:=by
  intro a ha wa
  refine ⟨trivial,⟨wa,jj⟩,ab (fun h=> ?_) fun h=> ?_⟩
  · exact (if_pos (of_decide_eq_true h)).symm
  · exact (if_neg (of_decide_eq_false h)).symm
theorem ZV:af (base.with w8) 180 (ag EJ):=am OM Tryz.func180 (by kernel_rfl) (by kernel_rfl) Tryz.call180 aev Z8
theorem PN:(base.with yK).Ok:=ae OM ZV
theorem WT:RU:=by
  rintro x y ⟨hx,hy⟩
  refine ⟨by omega,by omega,by omega,by omega,by omega,?_,ou _⟩
  have l32:∀ z,ak z→bU .u64 z 4294967295=z%4294967296:=fun z hz=>and_low32 z hz.1 hz.2
  have s32:∀ z,aw .u64 z 32=z / 4294967296:=fun z=>by
    unfold aw
    exact Int.fdiv_eq_ediv_of_nonneg _ (by decide)
  have iw:∀ z:Int,ak (z%18446744073709551616):=fun z=>by unfold ak;omega
  simp only [s32,ou,l32 _ hx,l32 _ hy,l32 _ (iw _)]
  exact mul64_arith x y hx.1 hx.2 hy.1 hy.2
theorem WR:af (base.with yK) 215 (ag FN):=am PN Tryz.func215 (by kernel_rfl) (by kernel_rfl) Tryz.call215 adN WT
theorem TY:(base.with yN).Ok:=ae PN WR
theorem sD {a x y c:Int} (ha:ak a) (hx:ak x) (hy:ak y) (hc:ak c):0≤a+x*y+c∧a+x*y+c<340282366920938463463374607431768211456:=by
  unfold ak at *
  have h1:=Int.mul_nonneg hx.1 hy.1
  have h2:x*y≤18446744073709551615*18446744073709551615:=Int.mul_le_mul (by omega) (by omega) hy.1 (by omega)
  omega
theorem Zh:Q8:=by
  rintro a x y c ⟨ha,hx,hy,hc⟩
  have iw:∀ z:Int,ak (z%18446744073709551616):=fun z=>by unfold ak;omega
  refine ⟨⟨hx,hy⟩,⟨iw _,ha,by omega,by omega⟩,⟨nT _ _ _,hc,by omega,by omega⟩,?_⟩
  have hb:=sD ha hx hy hc
  unfold ak at ha hc
  have h1:0≤x*y:=Int.mul_nonneg hx.1 hy.1
  simp only [ou]
  unfold cU bS aX bI
  generalize x*y=m at *
  refine ⟨by omega,by omega⟩
theorem Y2:af (base.with yN) 189 (ag Fv):=am TY Tryz.func189 (by kernel_rfl) (by kernel_rfl) Tryz.call189 aeW Zh
theorem Ot:(base.with yi).Ok:=ae TY Y2
theorem Z2:PQ:=by
  intro _
  refine ⟨trivial,⟨by decide,by decide,by decide⟩,⟨⟨rfl,by omega,by omega,rfl⟩,trivial⟩,?_⟩
  rintro p x n ⟨rfl,h0,h1,rfl⟩
  obtain ⟨i,rfl⟩:=Int.eq_ofNat_of_zero_le h0
  refine ab (fun h=> ?_) fun h=> ?_
  · simp only [decide_eq_true_eq] at h
    refine ⟨⟨by omega,by omega⟩,⟨rfl,by omega,by omega,?_⟩,by omega⟩
    rw [show ((i:Int)+1).toNat=i+1 from by omega]
    rfl
  · simp only [decide_eq_false_iff_not] at h
    rw [Int.toNat_natCast,show i=6 from by omega]
    decide
theorem VZ:af (base.with yi) 188 (ag FD):=am Ot Tryz.func188 (by kernel_rfl) (by kernel_rfl) Tryz.call188 ad2 Z2
theorem Qu:(base.with w7).Ok:=ae Ot VZ
end Go.Proofs.YteiecapbaeajdaaGreatDoor
namespace Go.Proofs.YteiecapbaeajdaaGreatDoor
open Go.Avc
set_option linter.unusedVariables false
abbrev q5:BPat:= .cells 337 [.arrI 5 .u64]
abbrev qe:BPat:= .cells 76 [a4]
def d7 (x:Int) (b t:List Int):Nat→List Int×Int
  | 0=>(t,0)
  | j+1=>((d7 x b t j).1.set j (cU (gI (d7 x b t j).1 j) x (gI b j) (d7 x b t j).2),bS (gI (d7 x b t j).1 j) x (gI b j) (d7 x b t j).2)
def fR (k:Int) (t:List Int) (c:Int):Nat→List Int×Int
  | 0=>(t,c)
  | n+1=>((fR k t c n).1.set n (cU (gI (fR k t c n).1 (n+1)) k (gI pW (n+1)) (fR k t c n).2),bS (gI (fR k t c n).1 (n+1)) k (gI pW (n+1)) (fR k t c n).2)
def u1 (x:Int) (b t:List Int):List Int:=(d7 x b t 4).1.set 4 (IntKind.u64.wrap (gI (d7 x b t 4).1 4+(d7 x b t 4).2))
def kW (t:List Int):Int:=IntKind.u64.wrap (gI t 0*inv)
def r1 (t:List Int):List Int×Int:=fR (kW t) t (bS (gI t 0) (kW t) (gI pW 0) 0) 3
def f5 (r:List Int×Int):List Int:=(r.1.set 3 (aX (gI r.1 4) r.2 0)).set 4 (bI (gI r.1 4) r.2 0)
def sW (x:Int) (b t:List Int):List Int:=f5 (r1 (u1 x b t))
def cT (a b:List Int):Nat→List Int
  | 0=> [0,0,0,0,0]
  | i+1=>sW (gI a i) b (cT a b i)
def mW (a b:List Int):List Int:=fM ((cT a b 4).take 4)
def kt:Nat→List Int
  | 0=> [1,0,0,0]
  | i+1=>fM (dq (kt i) (kt i) 4).1
def ck (a:List Int):List Int:=mW a (kt 512)
def gW (a:List Int):List Int:=mW a [1,0,0,0]
def kg (a:List Int):List Int:=co (fun i=>gI (gW a) i) 4
def fS (l:List (List CD)):List Int:=aL l 32
def Gz:Ct:= {ps:= [w4,w4],bs:= [],pre:=fun | [.li a,.li b] =>aq a∧aq b | _=>False,res:=fun | [.li a,.li b] => .ret w4 [] [.li (mW a b)] | _=>aj}
def ui:List (Nat×Pat):= [(2,.ptr 0 0),(3,.ptr 1 0),(4,.ptr 2 0),(5,.ptr 3 0),(6,u64),(7,.ptr 4 0),(17,w4),(18,i64)]
def Qd:List Dat→Ann
  | [.li a,.li b] =>⟨[],[(4,[la 91 ui [q4,q4,q4,q4,q5] (fun | [.i v,.li a',.i i,.li _,.li b',.li _,.li p,.li t] =>v=inv∧a'=a∧0≤i∧i≤4∧b'=b∧p=pW∧t=cT a b i.toNat | _=>False) (fun | [_,_,.i i,_,_,_,_,_] =>(4-i).toNat | _=>0)])],
      [
        (8,[la 91 (ui++ [(9,u64),(10,u64),(21,w4),(22,i64)]) [q4,q4,q4,q4,q5] (fun _=>True) (fun _=>0)],fun
          | [.i v0,.i x0,.i c0,.li a0,.i i0,.li b0,.i j0,.li e0,.li f0,.li o0,.li p0,.li t0] => [la 91 (ui++ [(9,u64),(10,u64),(21,w4),(22,i64)]) [q4,q4,q4,q4,q5]
            (fun | [.i v,.i x,.i c,.li a,.i i,.li b,.i j,.li e,.li f,.li _,.li p,.li t] =>v=v0∧x=x0∧a=a0∧i=i0∧b=b0∧0≤j∧j≤4∧f=f0∧p=p0∧t=(d7 x0 b0 t0 j.toNat).1∧c=(d7 x0 b0 t0 j.toNat).2 | _=>False)
            (fun | [_,_,_,_,_,_,.i j,_,_,_,_,_] =>(4-j).toNat | _=>0)]
          | _=> []),
        (16,[la 91 (ui++ [(10,u64),(13,u64),(14,i64)]) [q4,q4,q4,q4,q5] (fun _=>True) (fun _=>0)],fun
          | [.i v0,.i c0,.i k0,.i j0,.li a0,.i i0,.li e0,.li f0,.li o0,.li p0,.li t0] => [la 91 (ui++ [(10,u64),(13,u64),(14,i64)]) [q4,q4,q4,q4,q5]
            (fun | [.i v,.i c,.i k,.i j,.li a,.i i,.li e,.li f,.li _,.li p,.li t] =>v=v0∧k=k0∧a=a0∧i=i0∧1≤j∧j≤4∧f=f0∧p=p0∧t=(fR k0 t0 c0 (j.toNat-1)).1∧c=(fR k0 t0 c0 (j.toNat-1)).2 | _=>False)
            (fun | [_,_,_,.i j,_,_,_,_,_,_,_] =>(4-j).toNat | _=>0)]
          | _=> [])]⟩
  | _=> {cut:= [],loop:= []}
def Gf:Ct:= {ps:= [w4],bs:= [],pre:=fun | [.li a] =>aq a | _=>False,res:=fun | [.li a] => .ret w4 [] [.li (ck a)] | _=>aj}
def O9:List Dat→Ann
  | [.li a] => {cut:= [],loop:= [(3,[la 16 [(1,.ptr 0 0),(2,.ptr 1 0),(3,.ptr 2 0),(5,i64)] [q4,qe,q4] (fun | [.i i,.li a',.li _,.li s] =>0≤i∧i≤512∧a'=a∧s=kt i.toNat | _=>False) (fun | [.i i,_,_,_] =>(512-i).toNat | _=>0)])]}
  | _=> {cut:= [],loop:= []}
def Gb:Ct:= {ps:= [w4],bs:= [],pre:=fun | [.li a] =>aq a | _=>False,res:=fun | [.li a] => .ret w4 [] [.li (gW a)] | _=>aj}
def Kv:Ct:= {ps:= [w4],bs:= [],pre:=fun | [.li a] =>aq a | _=>False,res:=fun | [.li a] => .ret rz [] [.li (kg a)] | _=>aj}
def FF:Ct:= {ps:= [rb],bs:= [],pre:=fun | [.r l] =>ax l | _=>False,res:=fun
  | [.r l] => .ite (decide (l.length≠32)) (.ret (.tup [w4,i64]) [] [.li [0,0,0,0],.i 1]) (.ite (decide ((bP (fS l) pW 4).2=0)) (.ret (.tup [w4,i64]) [] [.li [0,0,0,0],.i 4]) (.ret (.tup [w4,i64]) [] [.li (ck (fS l)),.i 0]))
  | _=>aj}
def eg (b:List Int):List Int:=b.set 31 (bU .u8 (gI b 31) 63)
def FI:Ct:= {ps:= [rz],bs:= [],pre:=fun _=>True,res:=fun | [.li b] => .ret rz [] [.li (eg b)] | _=>aj}
end Go.Proofs.YteiecapbaeajdaaGreatDoor
namespace Go.Proofs.YteiecapbaeajdaaGreatDoor
open Go Go.Avc Go.Proofs
set_option linter.unusedVariables false
set_option maxRecDepth 100000
def Pl:Prop:= ∀ (l l_1:List Int),
 l.length=4→
 l_1.length=4→
 aq l∧aq l_1→
 True∧
 True∧
 ((inv=inv∧
 l=l∧
 (0:Int)≤0∧
 (0:Int)≤4∧
 l_1=l_1∧
 [(4891460686036598785:Int),2896914383306846353,13281191951274694749,3486998266802970665] =
 [(4891460686036598785:Int),2896914383306846353,13281191951274694749,3486998266802970665] ∧
 [(0:Int),0,0,0,0] =cT l l_1 0)∧
 True)∧
 ∀ (n:Int) (l_2:List Int) (n_1:Int) (l_3 l_4 l_5 l_6 l_7:List Int),
 l_2.length=4→
 l_3.length=4→
 l_4.length=4→
 l_5.length=4→
 l_6.length=4→
 l_7.length=5→
 n=inv∧
 l_2=l∧
 0≤n_1∧
 n_1≤4∧
 l_4=l_1∧
 l_6= [(4891460686036598785:Int),2896914383306846353,13281191951274694749,3486998266802970665] ∧
 l_7=cT l l_1 n_1.toNat→
 bif decide (n_1 < 4) then
 (0≤n_1∧n_1 < (↑(4:Nat):Int)∧n_1.toNat*1 < 4)∧
 ((n=n∧
 l_2.getD (n_1.toNat*1) 0=l_2.getD (n_1.toNat*1) 0∧
 l_2=l_2∧
 n_1=n_1∧
 l_4=l_4∧
 (0:Int)≤0∧
 (0:Int)≤4∧
 l_4=l_4∧
 l_6=l_6∧
 l_7=(d7 (l_2.getD (n_1.toNat*1) 0) l_4 l_7 0).fst∧
 (0:Int)=
 (d7 (l_2.getD (n_1.toNat*1) 0) l_4 l_7 0).snd)∧
 True)∧
 ∀ (n_2 n_3 n_4:Int) (l_8:List Int) (n_5:Int) (l_9:List Int) (n_6:Int) (l_10 l_11 l_12 l_13 l_14:List Int),
 l_8.length=4→
 l_9.length=4→
 l_10.length=4→
 l_11.length=4→
 l_12.length=4→
 l_13.length=4→
 l_14.length=5→
 n_2=n∧
 n_3=l_2.getD (n_1.toNat*1) 0∧
 l_8=l_2∧
 n_5=n_1∧
 l_9=l_4∧
 0≤n_6∧
 n_6≤4∧
 l_11=l_4∧
 l_13=l_6∧
 l_14=
 (d7 (l_2.getD (n_1.toNat*1) 0) l_4 l_7
 n_6.toNat).fst∧
 n_4=
 (d7 (l_2.getD (n_1.toNat*1) 0) l_4 l_7
 n_6.toNat).snd→
 bif decide (n_6 < 4) then
 (0≤n_6∧n_6 < (↑(4:Nat):Int)∧n_6.toNat*1 < 4)∧
 (0≤n_6∧n_6 < (↑(5:Nat):Int))∧
 n_6.toNat*1 < 5∧
 (ak (l_14.getD (n_6.toNat*1) 0)∧
 ak n_3∧
 ak (l_9.getD (n_6.toNat*1) 0)∧
 ak n_4)∧
 (0≤n_6∧n_6 < (↑(5:Nat):Int))∧
 n_6.toNat*1 < 5∧
 ((-9223372036854775808:Int)≤n_6+1∧n_6+1≤9223372036854775807)∧
 (n_2=n∧
 n_3=l_2.getD (n_1.toNat*1) 0∧
 l_8=l_2∧
 n_5=n_1∧
 l_9=l_4∧
 0≤n_6+1∧
 n_6+1≤4∧
 l_11=l_4∧
 l_13=l_6∧
 l_14.set (n_6.toNat*1)
 (cU
 (l_14.getD (n_6.toNat*1) 0) n_3
 (l_9.getD (n_6.toNat*1) 0) n_4)=
 (d7 (l_2.getD (n_1.toNat*1) 0)
 l_4 l_7 (n_6+1).toNat).fst∧
 bS (l_14.getD (n_6.toNat*1) 0)
 n_3 (l_9.getD (n_6.toNat*1) 0) n_4=
 (d7 (l_2.getD (n_1.toNat*1) 0)
 l_4 l_7 (n_6+1).toNat).snd)∧
 ((4:Int) - (n_6+1)).toNat < ((4:Int) - n_6).toNat
 else
 ((0:Int)≤4∧4 < (↑(5:Nat):Int))∧
 (4:Nat) < 5∧
 ((0:Int)≤4∧4 < (↑(5:Nat):Int))∧
 (4:Nat) < 5∧
 ((0:Int)≤0∧0 < (↑(5:Nat):Int))∧
 (0:Nat) < 5∧
 ((0:Int)≤0∧0 < (↑(5:Nat):Int))∧
 (0:Nat) < 5∧
 ((0:Int)≤0∧0 < (↑(4:Nat):Int))∧
 (0:Nat) < 4∧
 (ak
 ((l_14.set 4 (IntKind.u64.wrap (l_14.getD 4 0+n_4))).getD 0
 0)∧
 ak
 (IntKind.u64.wrap
 ((l_14.set 4 (IntKind.u64.wrap (l_14.getD 4 0+n_4))).getD
 0 0*
 n_2))∧
 ak (l_13.getD 0 0)∧
 ak 0)∧
 ((n_2=n_2∧
 IntKind.u64.wrap
 ((l_14.set 4 (IntKind.u64.wrap (l_14.getD 4 0+n_4))).getD
 0 0*
 n_2)=
 IntKind.u64.wrap
 ((l_14.set 4 (IntKind.u64.wrap (l_14.getD 4 0+n_4))).getD
 0 0*
 n_2)∧
 l_8=l_8∧
 n_5=n_5∧
 (1:Int)≤1∧
 (1:Int)≤4∧
 l_11=l_11∧
 l_13=l_13∧
 l_14.set 4 (IntKind.u64.wrap (l_14.getD 4 0+n_4))=
 (fR
 (IntKind.u64.wrap
 ((l_14.set 4
 (IntKind.u64.wrap
 (l_14.getD 4 0+n_4))).getD
 0 0*
 n_2))
 (l_14.set 4
 (IntKind.u64.wrap (l_14.getD 4 0+n_4)))
 (bS
 ((l_14.set 4
 (IntKind.u64.wrap (l_14.getD 4 0+n_4))).getD
 0 0)
 (IntKind.u64.wrap
 ((l_14.set 4
 (IntKind.u64.wrap
 (l_14.getD 4 0+n_4))).getD
 0 0*
 n_2))
 (l_13.getD 0 0) 0)
 0).fst∧
 bS
 ((l_14.set 4
 (IntKind.u64.wrap (l_14.getD 4 0+n_4))).getD
 0 0)
 (IntKind.u64.wrap
 ((l_14.set 4
 (IntKind.u64.wrap (l_14.getD 4 0+n_4))).getD
 0 0*
 n_2))
 (l_13.getD 0 0) 0=
 (fR
 (IntKind.u64.wrap
 ((l_14.set 4
 (IntKind.u64.wrap
 (l_14.getD 4 0+n_4))).getD
 0 0*
 n_2))
 (l_14.set 4
 (IntKind.u64.wrap (l_14.getD 4 0+n_4)))
 (bS
 ((l_14.set 4
 (IntKind.u64.wrap (l_14.getD 4 0+n_4))).getD
 0 0)
 (IntKind.u64.wrap
 ((l_14.set 4
 (IntKind.u64.wrap
 (l_14.getD 4 0+n_4))).getD
 0 0*
 n_2))
 (l_13.getD 0 0) 0)
 0).snd)∧
 True)∧
 ∀ (n n_7 n_8 n_9:Int) (l_15:List Int) (n_10:Int) (l_16 l_17 l_18 l_19 l_20:List Int),
 l_15.length=4→
 l_16.length=4→
 l_17.length=4→
 l_18.length=4→
 l_19.length=4→
 l_20.length=5→
 n=n_2∧
 n_8=
 IntKind.u64.wrap
 ((l_14.set 4
 (IntKind.u64.wrap (l_14.getD 4 0+n_4))).getD
 0 0*
 n_2)∧
 l_15=l_8∧
 n_10=n_5∧
 1≤n_9∧
 n_9≤4∧
 l_17=l_11∧
 l_19=l_13∧
 l_20=
 (fR
 (IntKind.u64.wrap
 ((l_14.set 4
 (IntKind.u64.wrap
 (l_14.getD 4 0+n_4))).getD
 0 0*
 n_2))
 (l_14.set 4
 (IntKind.u64.wrap
 (l_14.getD 4 0+n_4)))
 (bS
 ((l_14.set 4
 (IntKind.u64.wrap
 (l_14.getD 4 0+n_4))).getD
 0 0)
 (IntKind.u64.wrap
 ((l_14.set 4
 (IntKind.u64.wrap
 (l_14.getD 4 0+n_4))).getD
 0 0*
 n_2))
 (l_13.getD 0 0) 0)
 (n_9.toNat - 1)).fst∧
 n_7=
 (fR
 (IntKind.u64.wrap
 ((l_14.set 4
 (IntKind.u64.wrap
 (l_14.getD 4 0+n_4))).getD
 0 0*
 n_2))
 (l_14.set 4
 (IntKind.u64.wrap
 (l_14.getD 4 0+n_4)))
 (bS
 ((l_14.set 4
 (IntKind.u64.wrap
 (l_14.getD 4 0+n_4))).getD
 0 0)
 (IntKind.u64.wrap
 ((l_14.set 4
 (IntKind.u64.wrap
 (l_14.getD 4 0+n_4))).getD
 0 0*
 n_2))
 (l_13.getD 0 0) 0)
 (n_9.toNat - 1)).snd→
 bif decide (n_9 < 4) then
 ((-9223372036854775808:Int)≤n_9 - 1∧
 n_9 - 1≤9223372036854775807)∧
 (0≤n_9∧n_9 < (↑(5:Nat):Int))∧
 n_9.toNat*1 < 5∧
 (0≤n_9∧n_9 < (↑(4:Nat):Int))∧
 n_9.toNat*1 < 4∧
 (ak
 (l_20.getD (n_9.toNat*1) 0)∧
 ak n_8∧
 ak
 (l_19.getD (n_9.toNat*1) 0)∧
 ak n_7)∧
 (0≤n_9 - 1∧n_9 - 1 < (↑(5:Nat):Int))∧
 (n_9 - 1).toNat*1 < 5∧
 ((-9223372036854775808:Int)≤n_9+1∧
 n_9+1≤9223372036854775807)∧
 (n=n_2∧
 n_8=
 IntKind.u64.wrap
 ((l_14.set 4
 (IntKind.u64.wrap
 (l_14.getD 4 0+n_4))).getD
 0 0*
 n_2)∧
 l_15=l_8∧
 n_10=n_5∧
 1≤n_9+1∧
 n_9+1≤4∧
 l_17=l_11∧
 l_19=l_13∧
 l_20.set ((n_9 - 1).toNat*1)
 (cU
 (l_20.getD (n_9.toNat*1)
 0)
 n_8
 (l_19.getD (n_9.toNat*1)
 0)
 n_7)=
 (fR
 (IntKind.u64.wrap
 ((l_14.set 4
 (IntKind.u64.wrap
 (l_14.getD 4
 0+
 n_4))).getD
 0 0*
 n_2))
 (l_14.set 4
 (IntKind.u64.wrap
 (l_14.getD 4 0+
 n_4)))
 (bS
 ((l_14.set 4
 (IntKind.u64.wrap
 (l_14.getD 4
 0+
 n_4))).getD
 0 0)
 (IntKind.u64.wrap
 ((l_14.set 4
 (IntKind.u64.wrap
 (l_14.getD 4
 0+
 n_4))).getD
 0 0*
 n_2))
 (l_13.getD 0 0)
 0)
 ((n_9+1).toNat -
 (1:Nat))).fst∧
 bS
 (l_20.getD (n_9.toNat*1)
 0)
 n_8
 (l_19.getD (n_9.toNat*1)
 0)
 n_7=
 (fR
 (IntKind.u64.wrap
 ((l_14.set 4
 (IntKind.u64.wrap
 (l_14.getD 4
 0+
 n_4))).getD
 0 0*
 n_2))
 (l_14.set 4
 (IntKind.u64.wrap
 (l_14.getD 4 0+
 n_4)))
 (bS
 ((l_14.set 4
 (IntKind.u64.wrap
 (l_14.getD 4
 0+
 n_4))).getD
 0 0)
 (IntKind.u64.wrap
 ((l_14.set 4
 (IntKind.u64.wrap
 (l_14.getD 4
 0+
 n_4))).getD
 0 0*
 n_2))
 (l_13.getD 0 0)
 0)
 ((n_9+1).toNat -
 (1:Nat))).snd)∧
 ((4:Int) - (n_9+1)).toNat <
 ((4:Int) - n_9).toNat
 else
 ((0:Int)≤4∧4 < (↑(5:Nat):Int))∧
 (4:Nat) < 5∧
 (ak (l_20.getD 4 0)∧
 ak n_7∧
 (0:Int)≤0∧(0:Int)≤1)∧
 ((0:Int)≤3∧3 < (↑(5:Nat):Int))∧
 (3:Nat) < 5∧
 ((0:Int)≤4∧4 < (↑(5:Nat):Int))∧
 (4:Nat) < 5∧
 ((-9223372036854775808:Int)≤n_10+1∧
 n_10+1≤9223372036854775807)∧
 (n=inv∧
 l_15=l∧
 0≤n_10+1∧
 n_10+1≤4∧
 l_17=l_1∧
 l_19=
 [(4891460686036598785:Int),
 (2896914383306846353:Int),
 (13281191951274694749:Int),
 (3486998266802970665:Int)] ∧
 (l_20.set 3
 (aX
 (l_20.getD 4 0) n_7
 0)).set
 4
 (bI
 (l_20.getD 4 0) n_7
 0)=
 cT l l_1
 (n_10+1).toNat)∧
 ((4:Int) - (n_10+1)).toNat < ((4:Int) - n_1).toNat
 else
 ((0:Int)≤0∧(0:Int)≤4∧4≤(↑(5:Nat):Int)∧0 < (↑(5:Nat):Int))∧
 (4:Nat)≤4∧
 (4:Nat)≤5∧
 aq (List.take 4 (List.drop 0 l_7))∧
 fM (List.take 4 (List.drop 0 l_7))=mW l l_1
theorem ack:av w7 Tryz.f149 Gz Qd=Pl:=by kernel_rfl
noncomputable def xF:ai:=al w7 149 (ag Gz)
def TG:Prop:= ∀ (l:List Int),
 l.length=4→
 aq l→
 (((0:Int)≤0∧(0:Int)≤512∧l=l∧ [(1:Int),0,0,0] = [(1:Int),0,0,0])∧True)∧
 ∀ (n:Int) (l_1 l_2 l_3:List Int),
 l_1.length=4→
 l_2.length=4→
 l_3.length=4→
 0≤n∧n≤512∧l_1=l∧l_3=kt n.toNat→
 bif decide (n < 512) then
 (aq l_3∧aq l_3)∧
 aq (dq l_3 l_3 4).fst∧
 ((-9223372036854775808:Int)≤n+1∧n+1≤9223372036854775807)∧
 (0≤n+1∧
 n+1≤512∧
 l_1=l∧
 fM (dq l_3 l_3 4).fst=
 kt (n+1).toNat)∧
 ((512:Int) - (n+1)).toNat < ((512:Int) - n).toNat
 else
 (aq l_1∧aq l_3)∧
 mW l_1 l_3=ck l
theorem ac9:av xF Tryz.f139 Gf O9=TG:=by kernel_rfl
noncomputable def xI:ai:=al xF 139 (ag Gf)
def PR:Prop:= ∀ (l:List Int),
 l.length=4→
 aq l→
 (aq l∧aq [1,0,0,0])∧
 mW l [1,0,0,0] =gW l
theorem acU:av xI Tryz.f101 Gb au=PR:=by kernel_rfl
noncomputable def yA:ai:=al xI 101 (ag Gb)
def P63:Prop:= ∀ (l:List Int),
 l.length=4→
 aq l→
 aq l∧
 ((0:Int)≤0∧0≤(↑(4:Nat):Int)∧(↑(4:Nat):Int)≤(↑(4:Nat):Int)∧0 < (↑(4:Nat):Int))∧
 ((List.map (fun x=> [CD.int x]) (List.take 4 (List.drop 0 (gW l)))).length≤1000∧
 ce
 (List.map (fun x=> [CD.int x]) (List.take 4 (List.drop 0 (gW l)))))∧
 (32:Nat)≤
 (List.map ac
 (co
 (rv
 (List.map (fun x=> [CD.int x]) (List.take 4 (List.drop 0 (gW l)))))
 (List.map (fun x=> [CD.int x]) (List.take 4 (List.drop 0 (gW l)))).length)).length∧
 (32:Nat)≤
 (List.map ac
 (co
 (rv
 (List.map (fun x=> [CD.int x]) (List.take 4 (List.drop 0 (gW l)))))
 (List.map (fun x=> [CD.int x]) (List.take 4 (List.drop 0 (gW l)))).length)).length∧
 List.map (fun r=>(r.getD 0 (CD.int 0)).toInt)
 (List.take 32
 (List.drop 0
 (List.map ac
 (co
 (rv
 (List.map (fun x=> [CD.int x]) (List.take 4 (List.drop 0 (gW l)))))
 (List.map (fun x=> [CD.int x]) (List.take 4 (List.drop 0 (gW l)))).length))))=
 kg l
theorem e63:av yA Tryz.f63 Kv au=P63:=by kernel_rfl
noncomputable def Hu:ai:=al yA 63 (ag Kv)
def SC:Prop:= ∀ (l:List (List CD)),
 l.length≤9223372036854775807→
 ax l→
 l.length≤9223372036854775807→
 bif decide ((↑l.length:Int)≠32) then
 bif decide (l.length≠32) then [(0:Int),0,0,0] = [(0:Int),0,0,0] ∧(1:Int)=1
 else
 bif
 decide
 ((bP (fS l)
 [(4891460686036598785:Int),2896914383306846353,13281191951274694749,3486998266802970665] 4).snd=
 (0:Int)) then
 [(0:Int),0,0,0] = [(0:Int),0,0,0] ∧(1:Int)=4
 else [(0:Int),0,0,0] =ck (fS l)∧(1:Int)=0
 else
 (l.length≤1000∧ax l)∧
 4≤(List.map ac (aL l l.length)).length∧
 4≤(List.map ac (aL l l.length)).length∧
 True∧
 (aq
 (List.map (fun r=>(r.getD 0 (.int 0)).toInt)
 (List.take 4 (List.drop 0 (List.map ac (aL l l.length)))))∧
 aq
 [(4891460686036598785:Int),2896914383306846353,13281191951274694749,3486998266802970665])∧
 bif
 decide
 ((bP
 (List.map (fun r=>(r.getD 0 (.int 0)).toInt)
 (List.take 4
 (List.drop 0 (List.map ac (aL l l.length)))))
 [(4891460686036598785:Int),2896914383306846353,13281191951274694749,3486998266802970665] 4).snd=
 (0:Int)) then
 bif decide (l.length≠32) then [(0:Int),0,0,0] = [(0:Int),0,0,0] ∧(4:Int)=1
 else
 bif
 decide
 ((bP (fS l)
 [(4891460686036598785:Int),2896914383306846353,13281191951274694749,3486998266802970665] 4).snd=
 (0:Int)) then
 [(0:Int),0,0,0] = [(0:Int),0,0,0] ∧(4:Int)=4
 else
 [(0:Int),0,0,0] =ck (fS l)∧(4:Int)=0
 else
 aq
 (List.map (fun r=>(r.getD 0 (.int 0)).toInt)
 (List.take 4 (List.drop 0 (List.map ac (aL l l.length)))))∧
 bif decide (l.length≠32) then
 ck
 (List.map (fun r=>(r.getD 0 (.int 0)).toInt)
 (List.take 4
 (List.drop 0 (List.map ac (aL l l.length)))))=
 [(0:Int),0,0,0] ∧
 (0:Int)=1
 else
 bif
 decide
 ((bP (fS l)
 [(4891460686036598785:Int),2896914383306846353,13281191951274694749,3486998266802970665] 4).snd=
 (0:Int)) then
 ck
 (List.map (fun r=>(r.getD 0 (.int 0)).toInt)
 (List.take 4
 (List.drop 0 (List.map ac (aL l l.length)))))=
 [(0:Int),0,0,0] ∧
 (0:Int)=4
 else
 ck
 (List.map (fun r=>(r.getD 0 (.int 0)).toInt)
 (List.take 4
 (List.drop 0 (List.map ac (aL l l.length)))))=
 ck (fS l)∧
 (0:Int)=0
theorem ac1:av Hu Tryz.f177 FF au=SC:=by kernel_rfl
noncomputable def yP:ai:=al Hu 177 (ag FF)
def S4:Prop:= ∀ (l:List Int),
 l.length=32→
 True→
 ((0:Int)≤31∧31 < (↑(32:Nat):Int))∧
 (31:Nat) < 32∧
 ((0:Int)≤31∧31 < (↑(32:Nat):Int))∧
 (31:Nat) < 32∧l.set 31 (bU .u8 (l.getD 31 0) 63)=eg l
theorem aea:av yP Tryz.f280 FI au=S4:=by kernel_rfl
noncomputable def yw:ai:=al yP 280 (ag FI)
end Go.Proofs.YteiecapbaeajdaaGreatDoor
namespace Go.Proofs.YteiecapbaeajdaaGreatDoor
open Go Go.Avc Go.Proofs
set_option linter.unusedVariables false
set_option linter.unusedSimpArgs false
set_option maxRecDepth 100000
theorem MU (a x y c:Int):ak (cU a x y c):=by unfold ak cU;omega
theorem yo {a x y c:Int} (ha:ak a) (hx:ak x) (hy:ak y) (hc:ak c):ak (bS a x y c):=by
  have:=sD ha hx hy hc
  unfold ak bS;omega
theorem Gp (n:Int):ak (IntKind.u64.wrap n):=by rw [ou];unfold ak;omega
theorem pG {x:Int} {b t:List Int} (hx:ak x) (hb:aq b) (ht:aq t):∀ j,aq (d7 x b t j).1∧ak (d7 x b t j).2
  | 0=>⟨ht,bg⟩
  | j+1=>⟨dV (pG hx hb ht j).1 (MU _ _ _ _) j,yo ((pG hx hb ht j).1 j) hx (hb j) (pG hx hb ht j).2⟩
theorem pq {k c:Int} {t:List Int} (hk:ak k) (hc:ak c) (ht:aq t):∀ n,aq (fR k t c n).1∧ak (fR k t c n).2
  | 0=>⟨ht,hc⟩
  | n+1=>⟨dV (pq hk hc ht n).1 (MU _ _ _ _) n,yo ((pq hk hc ht n).1 (n+1)) hk (jj (n+1)) (pq hk hc ht n).2⟩
theorem L1 {x:Int} {b t:List Int} (hx:ak x) (hb:aq b) (ht:aq t):aq (u1 x b t):=dV (pG hx hb ht 4).1 (Gp _) 4
theorem Mu {x y c:Int} (hx:ak x) (hy:ak y) (hc:0≤c∧c≤1):ak (bI x y c):=by
  have:=xl hx hy hc
  unfold ak;omega
theorem Yj {t:List Int} (ht:aq t):aq (r1 t).1∧ak (r1 t).2:=pq (Gp _) (yo (ht 0) (Gp _) (jj 0) bg) ht 3
theorem RX {x:Int} {b t:List Int} (hx:ak x) (hb:aq b) (ht:aq t):aq (sW x b t):=by
  have h:=Yj (L1 hx hb ht)
  exact dV (dV h.1 (nT _ _ _) 3) (Mu (h.1 4) h.2 ⟨by omega,by omega⟩) 4
theorem Nj:aq [0,0,0,0,0] :=fun j=>by
  match j with
  | 0=>exact bg
  | 1=>exact bg
  | 2=>exact bg
  | 3=>exact bg
  | 4=>exact bg
  | _+5=>exact bg
theorem sB {a b:List Int} (ha:aq a) (hb:aq b):∀ i,aq (cT a b i)
  | 0=>Nj
  | i+1=>RX (ha i) hb (sB ha hb i)
theorem vQ {s:List Int} (h:aq s) (n:Nat):aq (s.take n):=fun j=>by
  rw [List.getD_eq_getElem?_getD,List.getElem?_take]
  split
  · rw [← List.getD_eq_getElem?_getD];exact h j
  · exact bg
theorem Cw {a:List Int} (ha:aq a):aq (fM a):=by
  unfold fM
  split
  · exact (t9 a pW 4).1
  · exact ha
theorem BD {a b:List Int} (ha:aq a) (hb:aq b):aq (mW a b):=Cw (vQ (sB ha hb 4) 4)
theorem A2:aq [1,0,0,0] :=fun j=>by
  match j with
  | 0=>exact ⟨by decide,by decide⟩
  | 1=>exact bg
  | 2=>exact bg
  | 3=>exact bg
  | _+4=>exact bg
theorem gy:∀ i,aq (kt i)
  | 0=>A2
  | i+1=>Cw (nL (gy i) (gy i) 4).1
theorem Za:Pl:=by
  rintro a b _ _ ⟨wa,wb⟩
  refine ⟨trivial,trivial,⟨⟨rfl,rfl,by omega,by omega,rfl,rfl,rfl⟩,trivial⟩,?_⟩
  rintro v a' n e b' o p t _ _ _ _ _ hlt ⟨rfl,rfl,h0,h1,rfl,hp,rfl⟩
  have hp:p=pW:=hp
  obtain ⟨i,rfl⟩:=Int.eq_ofNat_of_zero_le h0
  rw [Int.toNat_natCast,Nat.mul_one]
  refine ab (fun h=> ?_) fun h=> ?_
  · simp only [decide_eq_true_eq] at h
    have wt:=sB wa wb i
    refine ⟨⟨h0,h,by omega⟩,⟨⟨rfl,rfl,rfl,rfl,rfl,by omega,by omega,rfl,rfl,rfl,rfl⟩,trivial⟩,?_⟩
    rintro v2 x c a2 i2 b2 j e2 f2 o2 p2 t2 _ _ _ _ _ _ ht2 ⟨rfl,rfl,rfl,rfl,rfl,j0,j1,rfl,rfl,rfl,rfl⟩
    obtain ⟨j,rfl⟩:=Int.eq_ofNat_of_zero_le j0
    rw [Int.toNat_natCast,Nat.mul_one]
    have wm:=pG (wa i) wb wt
    refine ab (fun h2=> ?_) fun h2=> ?_
    · simp only [decide_eq_true_eq] at h2
      refine ⟨⟨j0,h2,by omega⟩,⟨j0,by omega⟩,by omega,⟨(wm j).1 j,wa i,wb j,(wm j).2⟩,⟨j0,by omega⟩,by omega,⟨by omega,by omega⟩,⟨rfl,rfl,rfl,rfl,rfl,by omega,by omega,rfl,rfl,?_,?_⟩,by omega⟩
      · rw [show ((j:Int)+1).toNat=j+1 from by omega];rfl
      · rw [show ((j:Int)+1).toNat=j+1 from by omega];rfl
    · simp only [decide_eq_false_iff_not] at h2
      have e4:j=4:=by omega
      subst e4
      have wU:aq (u1 (gI a2 i) f2 (cT a2 f2 i)):=L1 (wa i) wb wt
      have hst:cT a2 f2 (i+1)=f5 (r1 (u1 (gI a2 i) f2 (cT a2 f2 i))):=rfl
      rw [show (d7 (a2.getD i 0) f2 (cT a2 f2 i) 4).1.set 4 (IntKind.u64.wrap ((d7 (a2.getD i 0) f2 (cT a2 f2 i) 4).1.getD 4 0+(d7 (a2.getD i 0) f2 (cT a2 f2 i) 4).2))=u1 (gI a2 i) f2 (cT a2 f2 i) from rfl]
      generalize u1 (gI a2 i) f2 (cT a2 f2 i)=U at *
      rw [show IntKind.u64.wrap (U.getD 0 0*inv)=kW U from rfl]
      have wk:ak (kW U):=Gp _
      have wl:ak (bS (U.getD 0 0) (kW U) (p2.getD 0 0) 0):=by rw [hp];exact yo (wU 0) wk (jj 0) bg
      refine ⟨⟨by omega,by omega⟩,by omega,⟨by omega,by omega⟩,by omega,⟨by omega,by omega⟩,by omega,⟨by omega,by omega⟩,by omega,⟨by omega,by omega⟩,by omega,⟨wU 0,wk,by rw [hp];exact jj 0,bg⟩,⟨⟨rfl,rfl,rfl,rfl,by omega,by omega,rfl,rfl,rfl,rfl⟩,trivial⟩,?_⟩
      rintro v3 c3 k3 j3 a3 i3 e3 f3 o3 p3 t3 _ _ _ _ _ ht3 ⟨rfl,rfl,rfl,rfl,g0,g1,rfl,rfl,rfl,rfl⟩
      obtain ⟨m,rfl⟩:∃ m:Nat,j3=m+1:=⟨(j3-1).toNat,by omega⟩
      have wr:=pq wk wl wU
      rw [show ((m:Int)+1).toNat=m+1 from by omega,Nat.mul_one,Nat.add_sub_cancel]
      refine ab (fun h3=> ?_) fun h3=> ?_
      · simp only [decide_eq_true_eq] at h3
        have em:((m:Int)+1-1).toNat*1=m:=by omega
        refine ⟨⟨by omega,by omega⟩,⟨by omega,by omega⟩,by omega,⟨by omega,by omega⟩,by omega,⟨(wr m).1 (m+1),wk,by rw [hp];exact jj (m+1),(wr m).2⟩,⟨by omega,by omega⟩,by omega,⟨by omega,by omega⟩,⟨rfl,rfl,rfl,rfl,by omega,by omega,rfl,rfl,?_,?_⟩,by omega⟩
        · rw [em,show ((m:Int)+1+1).toNat-1=m+1 from by omega,hp];rfl
        · rw [show ((m:Int)+1+1).toNat-1=m+1 from by omega,hp];rfl
      · simp only [decide_eq_false_iff_not] at h3
        have e3:m=3:=by omega
        subst e3
        refine ⟨⟨by omega,by omega⟩,by omega,⟨(wr 3).1 4,(wr 3).2,by omega,by omega⟩,⟨by omega,by omega⟩,by omega,⟨by omega,by omega⟩,by omega,⟨by omega,by omega⟩,⟨rfl,rfl,by omega,by omega,rfl,hp,?_⟩,by omega⟩
        rw [show ((i:Int)+1).toNat=i+1 from by omega,hst,hp]
        rfl
  · simp only [decide_eq_false_iff_not] at h
    have e4:i=4:=by omega
    subst e4
    exact ⟨⟨by omega,by omega,by omega,by omega⟩,by omega,by omega,vQ (sB wa wb 4) 4,rfl⟩
theorem Zw:af (base.with w7) 149 (ag Gz):=am Qu Tryz.func149 (by kernel_rfl) (by kernel_rfl) Tryz.call149 ack Za
theorem Ps:(base.with xF).Ok:=ae Qu Zw
theorem Cq (x:Int) (b t:List Int):∀ j,(d7 x b t j).1.length=t.length
  | 0=>rfl
  | j+1=>by rw [d7,List.length_set,Cq x b t j]
theorem Cx (k:Int) (t:List Int) (c:Int):∀ n,(fR k t c n).1.length=t.length
  | 0=>rfl
  | n+1=>by rw [fR,List.length_set,Cx k t c n]
theorem De (a b:List Int):∀ i,(cT a b i).length=5
  | 0=>rfl
  | i+1=>by
    show (f5 (r1 (u1 (gI a i) b (cT a b i)))).length=5
    unfold f5 r1 u1
    rw [List.length_set,List.length_set,Cx,List.length_set,Cq,De a b i]
theorem vf (a b:List Int):∀ i,(bP a b i).1.length=4
  | 0=>rfl
  | i+1=>by rw [bP,List.length_set,vf a b i]
theorem BQ {a:List Int} (h:a.length=4):(fM a).length=4:=by
  unfold fM
  split
  · exact vf _ _ 4
  · exact h
theorem u5 (a b:List Int):(mW a b).length=4:=BQ (by rw [List.length_take,De];rfl)
theorem uS (l:List (List CD)):∀ n,aq (aL l n)
  | 0=>fun j=>by
    rw [aL,List.getD_eq_getElem?_getD,List.getElem?_replicate]
    split <;>exact bg
  | n+1=>dV (uS l n) (An _ _) _
theorem XR:TG:=by
  intro a _ wa
  refine ⟨⟨⟨by omega,by omega,rfl,rfl⟩,trivial⟩,?_⟩
  rintro n a' o s _ _ _ ⟨h0,h1,rfl,rfl⟩
  obtain ⟨i,rfl⟩:=Int.eq_ofNat_of_zero_le h0
  rw [Int.toNat_natCast]
  refine ab (fun h=> ?_) fun h=> ?_
  · simp only [decide_eq_true_eq] at h
    refine ⟨⟨gy i,gy i⟩,(nL (gy i) (gy i) 4).1,⟨by omega,by omega⟩,⟨by omega,by omega,rfl,?_⟩,by omega⟩
    rw [show ((i:Int)+1).toNat=i+1 from by omega]
    rfl
  · simp only [decide_eq_false_iff_not] at h
    rw [show i=512 from by omega]
    exact ⟨⟨wa,gy _⟩,rfl⟩
theorem YH:af (base.with xF) 139 (ag Gf):=am Ps Tryz.func139 (by kernel_rfl) (by kernel_rfl) Tryz.call139 ac9 XR
theorem UX:(base.with xI).Ok:=ae Ps YH
theorem Yv:PR:=fun a _ wa=>⟨⟨wa,A2⟩,rfl⟩
theorem ZH:af (base.with xI) 101 (ag Gb):=am UX Tryz.func101 (by kernel_rfl) (by kernel_rfl) Tryz.call101 acU Yv
theorem Rm:(base.with yA).Ok:=ae UX ZH
theorem NZ (a:List Int):(gW a).length=4:=u5 _ _
theorem OY {a:List Int} (h:aq a):aq (gW a):=BD h A2
theorem ac8:P63:=by
  intro a _ wa
  have hl:=NZ a
  have hw:=OY wa
  unfold kg
  rw [List.drop_zero,List.take_of_length_le (Nat.le_of_eq hl)]
  generalize gW a=L at *
  have e:L.map (fun x=> [CD.int x])=L.map ac:=rfl
  rw [e]
  have el:(L.map ac).length=4:=by rw [List.length_map,hl]
  have ef:rv (L.map ac)=fun i=>gI L i:=funext fun i=>cA L i
  rw [el,ef]
  have e32:(co (fun i=>gI L i) 4).length=32:=fX _ 4
  have e32':32≤((co (fun i=>gI L i) 4).map ac).length:=by rw [List.length_map,e32];exact Nat.le_refl _
  refine ⟨wa,⟨by omega,by omega,by omega,by omega⟩,⟨by omega,fun i=>by rw [cA];exact hw i⟩,e32',e32',?_⟩
  exact kS e32
theorem ae6:af (base.with yA) 63 (ag Kv):=am Rm Tryz.func63 (by kernel_rfl) (by kernel_rfl) Tryz.call63 e63 ac8
theorem c63:(base.with Hu).Ok:=ae Rm ae6
theorem YK:SC:=by
  intro l hl hb _
  refine ab (fun h=> ?_) fun h=> ?_
  · have h':l.length≠32:=fun e=>(of_decide_eq_true h) (by rw [e];rfl)
    rw [decide_eq_true h']
    exact ⟨rfl,rfl⟩
  · have h':l.length=32:=by
      have:=of_decide_eq_false h
      omega
    have hd:decide (l.length≠32)=false:=decide_eq_false fun h=>h h'
    rw [hd,h']
    have hw:(aL l 32).length=4:=by rw [d8,h']
    have ew:List.map (fun r=>(r.getD 0 (CD.int 0)).toInt) (List.take 4 (List.drop 0 ((aL l 32).map ac)))=fS l:=kS hw
    rw [ew]
    have h4:4≤((aL l 32).map ac).length:=by rw [List.length_map,hw];exact Nat.le_refl _
    have w1:aq (fS l):=by unfold fS;exact uS l 32
    generalize fS l=W at *
    refine ⟨⟨by omega,hb⟩,h4,h4,trivial,⟨w1,jj⟩,ab (fun h2=> ?_) fun h2=>⟨w1,?_⟩⟩
    · have h2':decide ((bP W pW 4).2=0)=true:=h2
      rw [h2]
      exact ⟨rfl,rfl⟩
    · have h2':decide ((bP W pW 4).2=0)=false:=h2
      rw [h2]
      exact ⟨rfl,rfl⟩
theorem VU:af (base.with Hu) 177 (ag FF):=am c63 Tryz.func177 (by kernel_rfl) (by kernel_rfl) Tryz.call177 ac1 YK
theorem Pg:(base.with yP).Ok:=ae c63 VU
theorem U0:S4:=fun l hl _=>⟨⟨by omega,by omega⟩,by omega,⟨by omega,by omega⟩,by omega,rfl⟩
theorem Z1:af (base.with yP) 280 (ag FI):=am Pg Tryz.func280 (by kernel_rfl) (by kernel_rfl) Tryz.call280 aea U0
theorem RT:(base.with yw).Ok:=ae Pg Z1
end Go.Proofs.YteiecapbaeajdaaGreatDoor
namespace Go.Proofs.YteiecapbaeajdaaGreatDoor
open Go.Avc
set_option linter.unusedVariables false
abbrev uN:Pat:= .iface 253 (.agg [])
abbrev fV:BPat:= .cells 298 [uN,.own 1,i64,i64,i64]
abbrev Mw:Pat:= .agg [.ptr 0 0]
noncomputable def fx (s:List (List CD)):List (List CD):=(fJ (eE (aL s 200))).map ac
abbrev Sp:=Int×Int×Int×List (List CD)
noncomputable def pmS (x:Sp):Sp:=(0,x.2.1,x.2.2.1+1,fx x.2.2.2)
noncomputable def Be (x:Sp):Sp:=if x.1=136 then pmS x else x
def Q0 (x:Sp) (u:Int):Sp:=(x.1+1,136,x.2.2.1,x.2.2.2.set x.1.toNat ((x.2.2.2.getD x.1.toNat []).set 0 (.int u)))
noncomputable def ay (l:List (List CD)) (x:Sp):Nat→Sp
  | 0=>x
  | i+1=>Q0 (Be (ay l x i)) (rv l i)
noncomputable def jA (x:Sp):Sp:=if x.2.1=136 then (0,0,x.2.2.1+1,fx x.2.2.2) else x
def sq1 (x:Sp):Sp:=(x.1,x.2.1+1,x.2.2.1,x.2.2.2)
noncomputable def aU (x:Sp):Nat→Sp
  | 0=>x
  | i+1=>sq1 (jA (aU x i))
noncomputable def jb (x:Sp):Nat→List (List CD)
  | 0=> []
  | i+1=>jb x i++ [[.int (rv (jA (aU x i)).2.2.2 (jA (aU x i)).2.1.toNat)]]
def iB (l:List (List CD)):List (List CD):=jx (List.replicate 200 [.int 0]) 136 64 l
def jm (x:Sp):Prop:=0≤x.1∧x.1≤136∧0≤x.2.1∧x.2.1≤136∧0≤x.2.2.1∧x.2.2.1≤1000000000∧x.2.2.2.length=200∧ax x.2.2.2
def DW:Ct:= {ps:= [.agg []],bs:= [],pre:=fun _=>True,res:=fun _=> .ret i64 [] [.i 136]}
def ED:Ct:= {ps:= [.agg []],bs:= [],pre:=fun _=>True,res:=fun _=> .ret i64 [] [.i 200]}
noncomputable def GT:Ct:= {ps:= [.agg [],.own 0],bs:= [ob],pre:=fun | [.r s] =>s.length=200∧ax s | _=>False,res:=fun | [.r s] => .ret (.tup []) [ob] [.r (fx s)] | _=>aj}
def JP:Ct:= {ps:= [],bs:= [],pre:=fun _=>True,res:=fun _=> .ret uN [] []}
def Fm:Ct:= {ps:= [uN,rb],bs:= [],pre:=fun | [.r l] =>l.length≤64 | _=>False,res:=fun | [.r l] => .ret (.tup [.ptr 0 0,i64]) [fV,ob] [.i 0,.i 0,.i 136,.i 0,.r (iB l)] | _=>aj}
def JH:Ct:= {ps:= [uN,rb],bs:= [],pre:=fun | [.r l] =>l.length≤64 | _=>False,res:=fun | [.r l] => .ret (.ptr 0 0) [fV,ob] [.i 0,.i 136,.i 0,.r (iB l)] | _=>aj}
def JJ:Ct:= {ps:= [rz],bs:= [],pre:=fun _=>True,res:=fun | [.li t] => .ret (.ptr 0 0) [fV,ob] [.i 0,.i 136,.i 0,.r (iB (t.map ac))] | _=>aj}
noncomputable def G6:Ct:= {ps:= [.ptr 0 0],bs:= [fV,ob],pre:=fun | [.i a,.i b,.i c,.r s] =>s.length=200∧ax s∧0≤c∧c≤2000000000 | _=>False,res:=fun | [.i a,.i b,.i c,.r s] => .ret (.tup []) [fV,ob] [.i 0,.i b,.i (c+1),.r (fx s)] | _=>aj}
noncomputable def F9:Ct:= {ps:= [.ptr 0 0,rb],bs:= [fV,ob],pre:=fun | [.r l,.i a,.i b,.i c,.r s] =>jm (a,b,c,s)∧ax l∧l.length≤1000000 | _=>False,res:=fun
  | [.r l,.i a,.i b,.i c,.r s] => .ret (.tup []) [fV,ob] [.i (ay l (a,b,c,s) l.length).1,.i (ay l (a,b,c,s) l.length).2.1,.i (ay l (a,b,c,s) l.length).2.2.1,.r (ay l (a,b,c,s) l.length).2.2.2]
  | _=>aj}
noncomputable def Sa:List Dat→Ann
  | [.r l,.i a,.i b,.i c,.r s] => {cut:= [],loop:= [(2,[la 48 [(0,.ptr 0 0),(4,i64),(12,rb),(13,i64),(14,i64)] [fV,ob] (fun
      | [.i q,.r l',.i n,.i i,.i a',.i b',.i c',.r s'] =>q=136∧l'=l∧n=l.length∧0≤i∧i≤n∧a'=(ay l (a,b,c,s) i.toNat).1∧b'=(ay l (a,b,c,s) i.toNat).2.1∧c'=(ay l (a,b,c,s) i.toNat).2.2.1∧s'=(ay l (a,b,c,s) i.toNat).2.2.2
      | _=>False) (fun | [_,_,.i n,.i i,_,_,_,_] =>(n-i).toNat | _=>0)])]}
  | _=> {cut:= [],loop:= []}
noncomputable def GA:Ct:= {ps:= [.ptr 0 0,i64],bs:= [fV,ob],pre:=fun | [.i n,.i a,.i b,.i c,.r s] =>jm (a,b,c,s)∧n≤1000000 | _=>False,res:=fun
  | [.i n,.i a,.i b,.i c,.r s] => .ret (.own 2) [fV,ob,ob] [.i (aU (a,b,c,s) n.toNat).1,.i (aU (a,b,c,s) n.toNat).2.1,.i (aU (a,b,c,s) n.toNat).2.2.1,.r (aU (a,b,c,s) n.toNat).2.2.2,.r (jb (a,b,c,s) n.toNat)]
  | _=>aj}
noncomputable def RC:List Dat→Ann
  | [.i n,.i a,.i b,.i c,.r s] => {cut:= [],loop:= [(3,[la 47 [(0,.ptr 0 0),(5,.own 2),(7,i64),(8,i64)] [fV,ob,ob] (fun
      | [.i m,.i i,.i a',.i b',.i c',.r s',.r o] =>m=max n 0∧0≤i∧i≤m∧a'=(aU (a,b,c,s) i.toNat).1∧b'=(aU (a,b,c,s) i.toNat).2.1∧c'=(aU (a,b,c,s) i.toNat).2.2.1∧s'=(aU (a,b,c,s) i.toNat).2.2.2∧o=jb (a,b,c,s) i.toNat
      | _=>False) (fun | [.i m,.i i,_,_,_,_,_] =>(m-i).toNat | _=>0)])]}
  | _=> {cut:= [],loop:= []}
noncomputable def iC (x:Sp):List Int:=hid ((jb x 32).map fun r=>(r.getD 0 .d0).toInt)
noncomputable def Hz:Ct:= {ps:= [Mw],bs:= [fV,ob],pre:=fun | [.i a,.i b,.i c,.r s] =>jm (a,b,c,s) | _=>False,res:=fun
  | [.i a,.i b,.i c,.r s] => .ret rz [fV,ob] [.li (iC (a,b,c,s)),.i (aU (a,b,c,s) 32).1,.i (aU (a,b,c,s) 32).2.1,.i (aU (a,b,c,s) 32).2.2.1,.r (aU (a,b,c,s) 32).2.2.2]
  | _=>aj}
end Go.Proofs.YteiecapbaeajdaaGreatDoor
namespace Go.Proofs.YteiecapbaeajdaaGreatDoor
open Go Go.Avc Go.Proofs
set_option linter.unusedVariables false
set_option maxRecDepth 100000
def TR:Prop:= True→(136:Int)=136
theorem ab7:av yw Tryz.f294 DW au=TR:=by kernel_rfl
noncomputable def yI:ai:=al yw 294 (ag DW)
def SM:Prop:= True→(200:Int)=200
theorem aeU:av yI Tryz.f295 ED au=SM:=by kernel_rfl
noncomputable def yB:ai:=al yI 295 (ag ED)
def RM:Prop:= ∀ (l:List (List CD)),
 l.length≤9223372036854775807→
 l.length=200∧ax l→
 ax l∧
 bif decide (l.length≠200) then l=fx l
 else
 True∧
 aq (eE (aL l 200))∧
 ((0:Int)≤0∧0≤(↑(200:Nat):Int)∧(↑(200:Nat):Int)≤(↑(200:Nat):Int)∧0 < (↑(200:Nat):Int))∧
 jx l 0 l.length
 (List.map (fun x=> [.int x])
 (List.take 200
 (List.drop 0
 (fJ (eE (aL l 200))))))=
 fx l
theorem afg:av yB Tryz.f293 GT au=RM:=by kernel_rfl
noncomputable def zh:ai:=al yB 293 (ag GT)
def P83:Prop:=
 True→True
theorem e83:av zh Tryz.f83 JP au=P83:=by kernel_rfl
noncomputable def Gj:ai:=al zh 83 (ag JP)
def Ti:Prop:= ∀ (l:List (List CD)),
 l.length≤9223372036854775807→
 l.length≤64→
 l.length≤9223372036854775807→
 True∧
 True∧
 ((-9223372036854775808:Int)≤200 - 136∧(200:Int) - 136≤9223372036854775807)∧
 bif decide ((200:Int) - 136 < ↑l.length) then
 Miss 2 {n:=0,ov:= [],tm:= [.tup [.nilp,.int .i64 1]],hp:= [],G:= []}
 else
 True∧
 ((0:Int)≤200∧(200:Int)≤200∧(↑(1:Nat):Int)*200≤140737488355328∧(200:Int)≤9223372036854775807)∧
 True∧
 True∧
 ((0:Int)≤136∧136≤(↑(200:Nat):Int)∧(↑(200:Nat):Int)≤(↑(200:Nat):Int)∧136 < (↑(200:Nat):Int))∧
 (0:Int)=0∧
 (0:Int)=0∧
 (136:Int)=136∧
 (0:Int)=0∧
 jx
 [[.int 0],[.int 0],[.int 0],[.int 0],[.int 0],
 [.int 0],[.int 0],[.int 0],[.int 0],[.int 0],
 [.int 0],[.int 0],[.int 0],[.int 0],[.int 0],
 [.int 0],[.int 0],[.int 0],[.int 0],[.int 0],
 [.int 0],[.int 0],[.int 0],[.int 0],[.int 0],
 [.int 0],[.int 0],[.int 0],[.int 0],[.int 0],
 [.int 0],[.int 0],[.int 0],[.int 0],[.int 0],
 [.int 0],[.int 0],[.int 0],[.int 0],[.int 0],
 [.int 0],[.int 0],[.int 0],[.int 0],[.int 0],
 [.int 0],[.int 0],[.int 0],[.int 0],[.int 0],
 [.int 0],[.int 0],[.int 0],[.int 0],[.int 0],
 [.int 0],[.int 0],[.int 0],[.int 0],[.int 0],
 [.int 0],[.int 0],[.int 0],[.int 0],[.int 0],
 [.int 0],[.int 0],[.int 0],[.int 0],[.int 0],
 [.int 0],[.int 0],[.int 0],[.int 0],[.int 0],
 [.int 0],[.int 0],[.int 0],[.int 0],[.int 0],
 [.int 0],[.int 0],[.int 0],[.int 0],[.int 0],
 [.int 0],[.int 0],[.int 0],[.int 0],[.int 0],
 [.int 0],[.int 0],[.int 0],[.int 0],[.int 0],
 [.int 0],[.int 0],[.int 0],[.int 0],[.int 0],
 [.int 0],[.int 0],[.int 0],[.int 0],[.int 0],
 [.int 0],[.int 0],[.int 0],[.int 0],[.int 0],
 [.int 0],[.int 0],[.int 0],[.int 0],[.int 0],
 [.int 0],[.int 0],[.int 0],[.int 0],[.int 0],
 [.int 0],[.int 0],[.int 0],[.int 0],[.int 0],
 [.int 0],[.int 0],[.int 0],[.int 0],[.int 0],
 [.int 0],[.int 0],[.int 0],[.int 0],[.int 0],
 [.int 0],[.int 0],[.int 0],[.int 0],[.int 0],
 [.int 0],[.int 0],[.int 0],[.int 0],[.int 0],
 [.int 0],[.int 0],[.int 0],[.int 0],[.int 0],
 [.int 0],[.int 0],[.int 0],[.int 0],[.int 0],
 [.int 0],[.int 0],[.int 0],[.int 0],[.int 0],
 [.int 0],[.int 0],[.int 0],[.int 0],[.int 0],
 [.int 0],[.int 0],[.int 0],[.int 0],[.int 0],
 [.int 0],[.int 0],[.int 0],[.int 0],[.int 0],
 [.int 0],[.int 0],[.int 0],[.int 0],[.int 0],
 [.int 0],[.int 0],[.int 0],[.int 0],[.int 0],
 [.int 0],[.int 0],[.int 0],[.int 0],[.int 0],
 [.int 0],[.int 0],[.int 0],[.int 0],[.int 0],
 [.int 0],[.int 0],[.int 0],[.int 0],[.int 0]]
 136 64 l=
 iB l
theorem adJ:av Gj Tryz.f130 Fm au=Ti:=by kernel_rfl
noncomputable def xC:ai:=al Gj 130 (ag Fm)
def P82:Prop:= ∀ (l:List (List CD)),
 l.length≤9223372036854775807→
 l.length≤64→
 l.length≤64∧
 (0:Int)=0∧(136:Int)=136∧(0:Int)=0∧iB l=iB l
theorem e82:av xC Tryz.f82 JH au=P82:=by kernel_rfl
noncomputable def Gv:ai:=al xC 82 (ag JH)
def P45:Prop:= ∀ (l:List Int),
 l.length=32→
 True→
 True∧
 ((0:Int)≤0∧0≤(↑(32:Nat):Int)∧(↑(32:Nat):Int)≤(↑(32:Nat):Int)∧0 < (↑(32:Nat):Int))∧
 (List.map (fun x=> [CD.int x]) (List.take 32 (List.drop 0 l))).length≤64∧
 (0:Int)=0∧
 (136:Int)=136∧
 (0:Int)=0∧
 iB (List.map (fun x=> [CD.int x]) (List.take 32 (List.drop 0 l)))=
 iB (List.map ac l)
theorem e45:av Gv Tryz.f45 JJ au=P45:=by kernel_rfl
noncomputable def D9:ai:=al Gv 45 (ag JJ)
def S2:Prop:= ∀ (n n n_1:Int) (l:List (List CD)),
 l.length=200∧ax l∧0≤n_1∧n_1≤2000000000→
 (l.length=200∧ax l)∧
 ((-9223372036854775808:Int)≤n_1+1∧n_1+1≤9223372036854775807)∧
 (0:Int)=0∧n=n∧n_1+1=n_1+1∧fx l=fx l
theorem adx:av D9 Tryz.f271 G6 au=S2:=by kernel_rfl
noncomputable def yW:ai:=al D9 271 (ag G6)
def R2:Prop:= ∀ (l:List (List CD)) (n n_1 n_2:Int) (l_1:List (List CD)),
 l.length≤9223372036854775807→
 jm (n,n_1,n_2,l_1)∧ax l∧l.length≤1000000→
 True∧
 (l.length≤9223372036854775807→
 (((136:Int)=136∧
 l=l∧
 (↑l.length:Int)=(↑l.length:Int)∧
 (0:Int)≤0∧
 0≤(↑l.length:Int)∧
 n=(ay l (n,n_1,n_2,l_1) 0).fst∧
 n_1=(ay l (n,n_1,n_2,l_1) 0).snd.fst∧
 n_2=(ay l (n,n_1,n_2,l_1) 0).snd.snd.fst∧
 l_1=(ay l (n,n_1,n_2,l_1) 0).snd.snd.snd)∧
 True)∧
 ∀ (n_3:Int) (l_2:List (List CD)) (n_4 n_5 n_6 n_7 n_8:Int) (l_3:List (List CD)),
 l_2.length≤9223372036854775807→
 n_3=136∧
 l_2=l∧
 n_4=(↑l.length:Int)∧
 0≤n_5∧
 n_5≤n_4∧
 n_6=(ay l (n,n_1,n_2,l_1) n_5.toNat).fst∧
 n_7=(ay l (n,n_1,n_2,l_1) n_5.toNat).snd.fst∧
 n_8=(ay l (n,n_1,n_2,l_1) n_5.toNat).snd.snd.fst∧
 l_3=(ay l (n,n_1,n_2,l_1) n_5.toNat).snd.snd.snd→
 bif decide (n_5 < n_4) then
 (0≤n_5∧n_5 < (↑l_2.length:Int))∧
 n_5.toNat < l_2.length∧
 bif decide (n_6=n_3) then
 (l_3.length=200∧ax l_3∧0≤n_8∧n_8≤2000000000)∧
 ((0:Int)≤0∧0 < (↑(fx l_3).length:Int))∧
 0 < (fx l_3).length∧
 ((-9223372036854775808:Int)≤0+1∧(0:Int)+1≤9223372036854775807)∧
 ((-9223372036854775808:Int)≤n_5+1∧n_5+1≤9223372036854775807)∧
 (n_3=136∧
 l_2=l∧
 n_4=(↑l.length:Int)∧
 0≤n_5+1∧
 n_5+1≤n_4∧
 (0:Int)+1=(ay l (n,n_1,n_2,l_1) (n_5+1).toNat).fst∧
 n_3=(ay l (n,n_1,n_2,l_1) (n_5+1).toNat).snd.fst∧
 n_8+1=(ay l (n,n_1,n_2,l_1) (n_5+1).toNat).snd.snd.fst∧
 (fx l_3).set 0
 (((fx l_3).getD 0 []).set 0
 (.int ((l_2.getD n_5.toNat []).getD 0 (.int 0)).toInt))=
 (ay l (n,n_1,n_2,l_1) (n_5+1).toNat).snd.snd.snd)∧
 (n_4 - (n_5+1)).toNat < (n_4 - n_5).toNat
 else
 (0≤n_6∧n_6 < (↑l_3.length:Int))∧
 n_6.toNat < l_3.length∧
 ((-9223372036854775808:Int)≤n_6+1∧n_6+1≤9223372036854775807)∧
 ((-9223372036854775808:Int)≤n_5+1∧n_5+1≤9223372036854775807)∧
 (n_3=136∧
 l_2=l∧
 n_4=(↑l.length:Int)∧
 0≤n_5+1∧
 n_5+1≤n_4∧
 n_6+1=(ay l (n,n_1,n_2,l_1) (n_5+1).toNat).fst∧
 n_3=(ay l (n,n_1,n_2,l_1) (n_5+1).toNat).snd.fst∧
 n_8=(ay l (n,n_1,n_2,l_1) (n_5+1).toNat).snd.snd.fst∧
 l_3.set n_6.toNat
 ((l_3.getD n_6.toNat []).set 0
 (.int ((l_2.getD n_5.toNat []).getD 0 (.int 0)).toInt))=
 (ay l (n,n_1,n_2,l_1) (n_5+1).toNat).snd.snd.snd)∧
 (n_4 - (n_5+1)).toNat < (n_4 - n_5).toNat
 else
 n_6=(ay l (n,n_1,n_2,l_1) l.length).fst∧
 n_7=(ay l (n,n_1,n_2,l_1) l.length).snd.fst∧
 n_8=(ay l (n,n_1,n_2,l_1) l.length).snd.snd.fst∧
 l_3=(ay l (n,n_1,n_2,l_1) l.length).snd.snd.snd)
theorem aeB:av yW Tryz.f278 F9 Sa=R2:=by kernel_rfl
noncomputable def zs:ai:=al yW 278 (ag F9)
def Uu:Prop:= ∀ (n n_1 n_2 n_3:Int) (l:List (List CD)),
 jm (n_1,n_2,n_3,l)∧n≤1000000→
 ((max n 0=max n 0∧
 (0:Int)≤0∧
 0≤max n 0∧
 n_1=(aU (n_1,n_2,n_3,l) 0).fst∧
 n_2=(aU (n_1,n_2,n_3,l) 0).snd.fst∧
 n_3=(aU (n_1,n_2,n_3,l) 0).snd.snd.fst∧
 l=(aU (n_1,n_2,n_3,l) 0).snd.snd.snd∧
 [] =jb (n_1,n_2,n_3,l) 0)∧
 True)∧
 ∀ (n_4 n_5 n_6 n_7 n_8:Int) (l_1 l_2:List (List CD)),
 l_2.length≤9223372036854775807→
 n_4=max n 0∧
 0≤n_5∧
 n_5≤n_4∧
 n_6=(aU (n_1,n_2,n_3,l) n_5.toNat).fst∧
 n_7=(aU (n_1,n_2,n_3,l) n_5.toNat).snd.fst∧
 n_8=(aU (n_1,n_2,n_3,l) n_5.toNat).snd.snd.fst∧
 l_1=(aU (n_1,n_2,n_3,l) n_5.toNat).snd.snd.snd∧
 l_2=jb (n_1,n_2,n_3,l) n_5.toNat→
 bif decide (n_5 < n_4) then
 True∧
 bif decide (n_7=136) then
 (l_1.length=200∧ax l_1∧0≤n_8∧n_8≤2000000000)∧
 ((0:Int)≤0∧0 < (↑(fx l_1).length:Int))∧
 0 < (fx l_1).length∧
 ((l_2.length+1)*1≤140737488355328∧l_2.length+1≤9223372036854775807)∧
 ((-9223372036854775808:Int)≤0+1∧(0:Int)+1≤9223372036854775807)∧
 ((-9223372036854775808:Int)≤n_5+1∧n_5+1≤9223372036854775807)∧
 (n_4=max n 0∧
 0≤n_5+1∧
 n_5+1≤n_4∧
 0=(aU (n_1,n_2,n_3,l) (n_5+1).toNat).fst∧
 (0:Int)+1=(aU (n_1,n_2,n_3,l) (n_5+1).toNat).snd.fst∧
 n_8+1=(aU (n_1,n_2,n_3,l) (n_5+1).toNat).snd.snd.fst∧
 fx l_1=
 (aU (n_1,n_2,n_3,l) (n_5+1).toNat).snd.snd.snd∧
 l_2++
 [[.int
 (((fx l_1).getD 0 []).getD 0 (.int 0)).toInt]] =
 jb (n_1,n_2,n_3,l) (n_5+1).toNat)∧
 (n_4 - (n_5+1)).toNat < (n_4 - n_5).toNat
 else
 (0≤n_7∧n_7 < ↑l_1.length)∧
 n_7.toNat < l_1.length∧
 ((l_2.length+1)*1≤140737488355328∧l_2.length+1≤9223372036854775807)∧
 ((-9223372036854775808:Int)≤n_7+1∧n_7+1≤9223372036854775807)∧
 ((-9223372036854775808:Int)≤n_5+1∧n_5+1≤9223372036854775807)∧
 (n_4=max n 0∧
 0≤n_5+1∧
 n_5+1≤n_4∧
 n_6=(aU (n_1,n_2,n_3,l) (n_5+1).toNat).fst∧
 n_7+1=(aU (n_1,n_2,n_3,l) (n_5+1).toNat).snd.fst∧
 n_8=(aU (n_1,n_2,n_3,l) (n_5+1).toNat).snd.snd.fst∧
 l_1=(aU (n_1,n_2,n_3,l) (n_5+1).toNat).snd.snd.snd∧
 l_2++ [[.int ((l_1.getD n_7.toNat []).getD 0 (.int 0)).toInt]] =
 jb (n_1,n_2,n_3,l) (n_5+1).toNat)∧
 (n_4 - (n_5+1)).toNat < (n_4 - n_5).toNat
 else
 n_6=(aU (n_1,n_2,n_3,l) n.toNat).fst∧
 n_7=(aU (n_1,n_2,n_3,l) n.toNat).snd.fst∧
 n_8=(aU (n_1,n_2,n_3,l) n.toNat).snd.snd.fst∧
 l_1=(aU (n_1,n_2,n_3,l) n.toNat).snd.snd.snd∧
 l_2=jb (n_1,n_2,n_3,l) n.toNat
theorem ae2:av zs Tryz.f275 GA RC=Uu:=by kernel_rfl
noncomputable def xe:ai:=al zs 275 (ag GA)
def SY:Prop:= ∀ (n n_1 n_2:Int) (l:List (List CD)),
 jm (n,n_1,n_2,l)→
 (jm (n,n_1,n_2,l)∧(32:Int)≤1000000)∧
 32≤32∧
 32≤32∧
 List.map (fun r=>(r.getD 0 (.int 0)).toInt)
 (List.take 32 (List.drop 0 (jb (n,n_1,n_2,l) 32)))=
 iC (n,n_1,n_2,l)∧
 (aU (n,n_1,n_2,l) 32).fst=(aU (n,n_1,n_2,l) 32).fst∧
 (aU (n,n_1,n_2,l) 32).snd.fst=(aU (n,n_1,n_2,l) 32).snd.fst∧
 (aU (n,n_1,n_2,l) 32).snd.snd.fst=
 (aU (n,n_1,n_2,l) 32).snd.snd.fst∧
 (aU (n,n_1,n_2,l) 32).snd.snd.snd=
 (aU (n,n_1,n_2,l) 32).snd.snd.snd
theorem aeG:av xe Tryz.f277 Hz au=SY:=by kernel_rfl
noncomputable def x8:ai:=al xe 277 (ag Hz)
end Go.Proofs.YteiecapbaeajdaaGreatDoor
namespace Go.Proofs.YteiecapbaeajdaaGreatDoor
open Go Go.Avc Go.Proofs
set_option linter.unusedVariables false
set_option linter.unusedSimpArgs false
set_option maxRecDepth 100000
theorem jN (s:List (List CD)):(fx s).length=200:=by unfold fx;rw [List.length_map,lO]
theorem L8 (s:List (List CD)):ax (fx s):=HC _
theorem NN {l m:List (List CD)} (h:l.length=m.length):jx l 0 l.length m=m:=by
  unfold jx
  rw [h,List.take_zero,List.nil_append,Nat.min_self,Nat.zero_add,List.take_length,List.drop_of_length_le (by omega),List.append_nil]
theorem KM {s:List (List CD)} (h:ax s) {u:Int} (hu:0≤u∧u<256) (k:Nat):ax (s.set k ((s.getD k []).set 0 (.int u))):=fun j=>by
  have key:(s.set k ((s.getD k []).set 0 (.int u))).getD j [] =if k=j then (if k<s.length then (s.getD k []).set 0 (.int u) else []) else s.getD j [] :=by
    rw [List.getD_eq_getElem?_getD,List.getElem?_set]
    split
    · split <;>rfl
    · rw [← List.getD_eq_getElem?_getD]
  show 0≤(((s.set k ((s.getD k []).set 0 (.int u))).getD j []).getD 0 .d0).toInt∧(((s.set k ((s.getD k []).set 0 (.int u))).getD j []).getD 0 .d0).toInt<256
  rw [key]
  split
  · split
    · cases s.getD k [] with
      | nil=>exact ⟨Int.le_refl 0,show (0:Int)<256 by decide⟩
      | cons a r=>exact hu
    · exact ⟨Int.le_refl 0,by decide⟩
  · exact h j
def eV (n:Int) (x:Sp):Prop:=0≤x.1∧x.1≤136∧0≤x.2.1∧x.2.1≤136∧0≤x.2.2.1∧x.2.2.1≤n∧x.2.2.2.length=200∧ax x.2.2.2
theorem Ru {n:Int} {x:Sp} (h:eV n x):eV (n+1) (Be x)∧(Be x).1<136:=by
  obtain ⟨h1,h2,h3,h4,h5,h6,h7,h8⟩:=h
  unfold Be
  split
  · exact ⟨⟨Int.le_refl 0,by show (0:Int)≤136;omega,h3,h4,by show 0≤x.2.2.1+1;omega,by show x.2.2.1+1≤n+1;omega,jN _,L8 _⟩,by show (0:Int)<136;omega⟩
  · exact ⟨⟨h1,h2,h3,h4,h5,by omega,h7,h8⟩,by omega⟩
theorem Oy {n:Int} {x:Sp} (h:eV n x) (h0:x.1<136) {u:Int} (hu:0≤u∧u<256):eV n (Q0 x u):=by
  obtain ⟨h1,h2,h3,h4,h5,h6,h7,h8⟩:=h
  exact ⟨by show 0≤x.1+1;omega,by show x.1+1≤136;omega,by show (0:Int)≤136;omega,Int.le_refl 136,h5,h6,by show (List.set _ _ _).length=200;rw [List.length_set];exact h7,KM h8 hu _⟩
theorem Bg {l:List (List CD)} (hl:ax l) {n:Int} {x:Sp} (h:eV n x):∀ i:Nat,eV (n+i) (ay l x i)
  | 0=>by rw [show n+((0:Nat):Int)=n from by omega];exact h
  | i+1=>by
    have h1:=Ru (Bg hl h i)
    have h2:=Oy h1.1 h1.2 (hl i)
    rw [show n+((i+1:Nat):Int)=n+i+1 from by omega]
    exact h2
theorem IA {n:Int} {x:Sp} (h:eV n x):eV (n+1) (jA x)∧(jA x).2.1<136:=by
  obtain ⟨h1,h2,h3,h4,h5,h6,h7,h8⟩:=h
  unfold jA
  split
  · exact ⟨⟨Int.le_refl 0,by show (0:Int)≤136;omega,Int.le_refl 0,by show (0:Int)≤136;omega,by show 0≤x.2.2.1+1;omega,by show x.2.2.1+1≤n+1;omega,jN _,L8 _⟩,by show (0:Int)<136;omega⟩
  · exact ⟨⟨h1,h2,h3,h4,h5,by omega,h7,h8⟩,by omega⟩
theorem mS {n:Int} {x:Sp} (h:eV n x):∀ i:Nat,eV (n+i) (aU x i)
  | 0=>by rw [show n+((0:Nat):Int)=n from by omega];exact h
  | i+1=>by
    obtain ⟨⟨h1,h2,h3,h4,h5,h6,h7,h8⟩,h9⟩:=IA (mS h i)
    rw [show n+((i+1:Nat):Int)=n+i+1 from by omega]
    exact ⟨h1,h2,by show 0≤(jA (aU x i)).2.1+1;omega,by show (jA (aU x i)).2.1+1≤136;omega,h5,h6,h7,h8⟩
theorem qm (x:Sp):∀ i,(jb x i).length=i
  | 0=>rfl
  | i+1=>by rw [jb,List.length_append,qm x i];rfl
theorem WL:TR:=fun _=>rfl
theorem Xw:af (base.with yw) 294 (ag DW):=am RT Tryz.func294 (by kernel_rfl) (by kernel_rfl) Tryz.call294 ab7 WL
theorem Qk:(base.with yI).Ok:=ae RT Xw
theorem VV:SM:=fun _=>rfl
theorem WK:af (base.with yI) 295 (ag ED):=am Qk Tryz.func295 (by kernel_rfl) (by kernel_rfl) Tryz.call295 aeU VV
theorem TH:(base.with yB).Ok:=ae Qk WK
theorem YU:RM:=by
  rintro s _ ⟨h1,h2⟩
  have hw:(aL s 200).length=25:=by rw [d8,h1]
  have hp:=vA hw (uS s 200)
  refine ⟨h2,ab (fun h=>absurd h1 (of_decide_eq_true h)) fun _=>⟨trivial,hp.2,⟨by omega,by omega,by omega,by omega⟩,?_⟩⟩
  rw [List.drop_zero,List.take_of_length_le (Nat.le_of_eq (lO _))]
  exact NN (by rw [h1,List.length_map,lO])
theorem Wn:af (base.with yB) 293 (ag GT):=am TH Tryz.func293 (by kernel_rfl) (by kernel_rfl) Tryz.call293 afg YU
theorem OJ:(base.with zh).Ok:=ae TH Wn
theorem acd:P83:=fun _=>trivial
theorem adM:af (base.with zh) 83 (ag JP):=am OJ Tryz.func83 (by kernel_rfl) (by kernel_rfl) Tryz.call83 e83 acd
theorem c83:(base.with Gj).Ok:=ae OJ adM
theorem X1:Ti:=by
  intro l _ hl _
  refine ⟨trivial,trivial,⟨by omega,by omega⟩,ab (fun h=> ?_) fun _=>⟨trivial,⟨by omega,by omega,by omega,by omega⟩,trivial,trivial,⟨by omega,by omega,by omega,by omega⟩,rfl,rfl,rfl,rfl,rfl⟩⟩
  have:=of_decide_eq_true h
  omega
theorem YR:af (base.with Gj) 130 (ag Fm):=am c83 Tryz.func130 (by kernel_rfl) (by kernel_rfl) Tryz.call130 adJ X1
theorem SU:(base.with xC).Ok:=ae c83 YR
theorem aeO:P82:=fun l _ h=>⟨h,rfl,rfl,rfl,rfl⟩
theorem adl:af (base.with xC) 82 (ag JH):=am SU Tryz.func82 (by kernel_rfl) (by kernel_rfl) Tryz.call82 e82 aeO
theorem c82:(base.with Gv).Ok:=ae SU adl
theorem ae7:P45:=by
  intro t ht _
  rw [List.drop_zero,List.take_of_length_le (Nat.le_of_eq ht)]
  exact ⟨trivial,⟨by omega,by omega,by omega,by omega⟩,by rw [List.length_map];omega,rfl,rfl,rfl,rfl⟩
theorem ab5:af (base.with Gv) 45 (ag JJ):=am c82 Tryz.func45 (by kernel_rfl) (by kernel_rfl) Tryz.call45 e45 ae7
theorem c45:(base.with D9).Ok:=ae c82 ab5
theorem YC:S2:=fun a b c s ⟨h1,h2,h3,h4⟩=>⟨⟨h1,h2⟩,⟨by omega,by omega⟩,rfl,rfl,rfl,rfl⟩
theorem Zu:af (base.with D9) 271 (ag G6):=am c45 Tryz.func271 (by kernel_rfl) (by kernel_rfl) Tryz.call271 adx YC
theorem PC:(base.with yW).Ok:=ae c45 Zu
theorem Y9:R2:=by
  rintro l a b c s hll ⟨hx,hl,hn⟩
  refine ⟨trivial,fun _=>⟨⟨⟨rfl,rfl,rfl,by omega,by omega,rfl,rfl,rfl,rfl⟩,trivial⟩,?_⟩⟩
  rintro q l' n i a' b' c' s' _ ⟨rfl,rfl,rfl,h0,h1,ea,eb,ec,es⟩
  obtain ⟨i,rfl⟩:=Int.eq_ofNat_of_zero_le h0
  rw [Int.toNat_natCast] at ea eb ec es ⊢
  have hN:=Bg hl hx i
  have e2:((i:Int)+1).toNat=i+1:=by omega
  have hs1:ay l' (a,b,c,s) (i+1)=Q0 (Be (ay l' (a,b,c,s) i)) (rv l' i):=rfl
  rw [e2,hs1]
  generalize hX:ay l' (a,b,c,s) i=X at *
  obtain ⟨x1,x2,x3,x4⟩:=X
  simp only at ea eb ec es
  subst ea eb ec es
  obtain ⟨k1,k2,k3,k4,k5,k6,k7,k8⟩:=hN
  simp only at k1 k2 k3 k4 k5 k6 k7 k8
  refine ab (fun h=> ?_) fun h=> ?_
  · have h:=of_decide_eq_true h
    refine ⟨⟨h0,h⟩,by omega,ab (fun h2=> ?_) fun h2=> ?_⟩
    · have h2:=of_decide_eq_true h2
      subst h2
      have hab:Be (136,b',c',s')=(0,b',c'+1,fx s'):=if_pos rfl
      rw [hab]
      refine ⟨⟨k7,k8,k5,by omega⟩,⟨by omega,by rw [jN];omega⟩,by rw [jN];omega,⟨by omega,by omega⟩,⟨by omega,by omega⟩,⟨rfl,rfl,rfl,by omega,by omega,rfl,rfl,rfl,rfl⟩,by omega⟩
    · have h2:=of_decide_eq_false h2
      have hab:Be (a',b',c',s')=(a',b',c',s'):=if_neg h2
      rw [hab]
      refine ⟨⟨k1,by omega⟩,by omega,⟨by omega,by omega⟩,⟨by omega,by omega⟩,⟨rfl,rfl,rfl,by omega,by omega,rfl,rfl,rfl,rfl⟩,by omega⟩
  · have h:=of_decide_eq_false h
    have ei:i=l'.length:=by omega
    rw [← ei,hX]
    exact ⟨rfl,rfl,rfl,rfl⟩
theorem Xt:af (base.with yW) 278 (ag F9):=am PC Tryz.func278 (by kernel_rfl) (by kernel_rfl) Tryz.call278 aeB Y9
theorem Rx:(base.with zs).Ok:=ae PC Xt
theorem Vg:Uu:=by
  rintro n a b c s ⟨hx,hn⟩
  refine ⟨⟨⟨rfl,by omega,by omega,rfl,rfl,rfl,rfl,rfl⟩,trivial⟩,?_⟩
  rintro m i a' b' c' s' o _ ⟨rfl,h0,h1,ea,eb,ec,es,eo⟩
  obtain ⟨i,rfl⟩:=Int.eq_ofNat_of_zero_le h0
  rw [Int.toNat_natCast] at ea eb ec es eo
  have hN:=mS hx i
  have e2:((i:Int)+1).toNat=i+1:=by omega
  have hs1:aU (a,b,c,s) (i+1)=sq1 (jA (aU (a,b,c,s) i)):=rfl
  have ho1:jb (a,b,c,s) (i+1)=jb (a,b,c,s) i++ [[.int (rv (jA (aU (a,b,c,s) i)).2.2.2 (jA (aU (a,b,c,s) i)).2.1.toNat)]] :=rfl
  have hol:=qm (a,b,c,s) i
  rw [e2,hs1,ho1]
  generalize hX:aU (a,b,c,s) i=X at *
  obtain ⟨x1,x2,x3,x4⟩:=X
  simp only at ea eb ec es
  subst ea eb ec es eo
  obtain ⟨k1,k2,k3,k4,k5,k6,k7,k8⟩:=hN
  simp only at k1 k2 k3 k4 k5 k6 k7 k8
  refine ab (fun h=> ?_) fun h=> ?_
  · have h:=of_decide_eq_true h
    refine ⟨trivial,ab (fun h2=> ?_) fun h2=> ?_⟩
    · have h2:=of_decide_eq_true h2
      subst h2
      have hab:jA (a',136,c',s')=(0,0,c'+1,fx s'):=if_pos rfl
      rw [hab]
      refine ⟨⟨k7,k8,k5,by omega⟩,⟨by omega,by rw [jN];omega⟩,by rw [jN];omega,⟨by omega,by omega⟩,⟨by omega,by omega⟩,⟨by omega,by omega⟩,⟨rfl,by omega,by omega,rfl,rfl,rfl,rfl,rfl⟩,by omega⟩
    · have h2:=of_decide_eq_false h2
      have hab:jA (a',b',c',s')=(a',b',c',s'):=if_neg h2
      rw [hab]
      refine ⟨⟨k3,by omega⟩,by omega,⟨by omega,by omega⟩,⟨by omega,by omega⟩,⟨by omega,by omega⟩,⟨rfl,by omega,by omega,rfl,rfl,rfl,rfl,rfl⟩,by omega⟩
  · have h:=of_decide_eq_false h
    have ei:n.toNat=i:=by omega
    rw [ei,hX]
    exact ⟨rfl,rfl,rfl,rfl,rfl⟩
theorem Y1:af (base.with zs) 275 (ag GA):=am Rx Tryz.func275 (by kernel_rfl) (by kernel_rfl) Tryz.call275 ae2 Vg
theorem Sb:(base.with xe).Ok:=ae Rx Y1
theorem Y8:SY:=by
  intro a b c s h
  have hl:=qm (a,b,c,s) 32
  rw [iC,aR]
  generalize jb (a,b,c,s) 32=O at *
  generalize aU (a,b,c,s) 32=X at *
  rw [List.drop_zero,List.take_of_length_le (Nat.le_of_eq hl)]
  exact ⟨⟨h,by omega⟩,by omega,by omega,rfl,rfl,rfl,rfl,rfl⟩
theorem WQ:af (base.with xe) 277 (ag Hz):=am Sb Tryz.func277 (by kernel_rfl) (by kernel_rfl) Tryz.call277 aeG Y8
theorem TK:(base.with x8).Ok:=ae Sb WQ
end Go.Proofs.YteiecapbaeajdaaGreatDoor
namespace Go.Proofs.YteiecapbaeajdaaGreatDoor
open Go.Avc
set_option linter.unusedVariables false
abbrev q7:Pat:= .agg [i64,i64,i64,rb]
def bq (l:List (List CD)):Int:=if l.length=0∨1048576<l.length then 7 else 0
def nU (k t n:Int) (l:List (List CD)):Bool:=bif decide (cH k t n [] ≠0) then false else (bif decide (k≠1) then decide (l.length=0) else decide (bq l=0)&&decide (n=l.length))
def ap (k t n:Int) (l:List (List CD)):List (List CD):=if nU k t n l=true then [k%256,t%256,n%256,n / 256%256,n / 65536%256,n / 16777216%256].map ac++l else []
def j2 (k t n:Int) (l:List (List CD)):Prop:=k=1→t=1
def HA:Ct:= {ps:= [i64],bs:= [],pre:=fun | [.i t] =>t=1 | _=>False,res:=fun _=> .ret (.agg [i64,.nilf,.nils]) [] [.i 1]}
def Eb:Ct:= {ps:= [i64],bs:= [],pre:=fun | [.i t] =>t=1 | _=>False,res:=fun _=> .ret i64 [] [.i 1]}
def Ke:Ct:= {ps:= [i64,rb],bs:= [],pre:=fun | [.i t,.r l] =>t=1 | _=>False,res:=fun | [.i t,.r l] => .ret (.tup [i64,i64]) [] [.i (if bq l=0 then l.length else 0),.i (bq l)] | _=>aj}
def Kc:Ct:= {ps:= [i64,rb],bs:= [],pre:=fun | [.i t,.r l] =>t=1 | _=>False,res:=fun | [.i t,.r l] => .ret i64 [] [.i (bq l)] | _=>aj}
def Xl:List Dat→Ann
  | [.i t,.r l] => {cut:= [],loop:= [(6,[la 44 [(1,rb),(7,.ptr 0 0),(8,i64)] [.cells 265 [i64,.nilf,.nils]] (fun | [.r l',.i i,.i s] =>i=0∧bq l=0 | _=>False) (fun _=>0)])]}
  | _=> {cut:= [],loop:= []}
def J5:Ct:= {ps:= [q7],bs:= [],pre:=fun | [.i k,.i t,.i n,.r l] =>j2 k t n l | _=>False,res:=fun | [.i k,.i t,.i n,.r l] => .ret .bool [] [.b (nU k t n l)] | _=>aj}
def LH:Ct:= {ps:= [q7],bs:= [],pre:=fun | [.i k,.i t,.i n,.r l] =>j2 k t n l∧l.length≤1000 | _=>False,res:=fun | [.i k,.i t,.i n,.r l] => .ret (.own 0) [ob] [.r (ap k t n l)] | _=>aj}
noncomputable def Hg:Ct:= {ps:= [Mw,q7],bs:= [fV,ob],pre:=fun | [.i k,.i t,.i n,.r l,.i a,.i b,.i c,.r s] =>j2 k t n l∧l.length≤1000∧ax l∧jm (a,b,c,s) | _=>False,res:=fun
  | [.i k,.i t,.i n,.r l,.i a,.i b,.i c,.r s] => .ret (.tup []) [fV,ob] [.i (ay (ap k t n l) (a,b,c,s) (ap k t n l).length).1,.i (ay (ap k t n l) (a,b,c,s) (ap k t n l).length).2.1,.i (ay (ap k t n l) (a,b,c,s) (ap k t n l).length).2.2.1,.r (ay (ap k t n l) (a,b,c,s) (ap k t n l).length).2.2.2]
  | _=>aj}
end Go.Proofs.YteiecapbaeajdaaGreatDoor
