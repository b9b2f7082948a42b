/-
  The ground of the walks of this seat, part JG.
-/
import Derived.Test.YtcogcbplmkcojaaGreatDoorKJf
namespace Go.Proofs.YtcogcbplmkcojaaGreatDoor
open Go.IntWalk
set_option maxRecDepth 100000
set_option linter.unusedVariables false
set_option linter.unusedSimpArgs false
set_option maxHeartbeats 1000000
theorem BJ{d:ο}(cd:gr d){i j:Nat}{f g:Ψ}(hf:d.forms[i]?=some f)(hg:d.forms[j]?=some g){b:List UInt8}(h1:lB d f b)(h2:lB d g b):i=j:=by
 have hF:=cd.forms f (List.mem_of_getElem? hf)
 have hG:=cd.forms g (List.mem_of_getElem? hg)
 rcases Nat.lt_trichotomy i j with h|h|h
 ·exact(BY hF hG (cd.apart i j f g h hf hg) h1 h2).elim
 ·exact h
 ·exact(BY hG hF (cd.apart j i g f h hg hf) h2 h1).elim
theorem Mg{B more:List UInt8}{q:Nat}(h:q<8*B.length):fy (B++more) q=fy B q:=by
 unfold fy;rw[List.getElem?_append_left (by omega)]
theorem Lq{d:ο}{c:Int}{k:cg}{v:Int}(hk:bQ d.classes c=some k):nB d c v=kP k v:=by rw[nB,hk]
theorem Q7{d:ο}{f:Ψ}(hG:bG d f){V:List Int}{B:List UInt8}{W:Nat→Bool}(hlen:8*B.length=(ψ d f).length)(hW:∀q,q<8*B.length→W q=qb d f V q)
 {i:Nat} {a:cP} {k:cg} {v:Int} (ha:f.args[i]?=some a) (hk:bQ d.classes a.aU=some k) (hv:V[i]?=some v):fA (ψ d f) i W (jT k v%2^k.bits.toNat):=fun m=>by
 have qu:=(List.getElem?_eq_some_iff.1 ha).1
 have Gi:Dk d f V i=jT k v:=Dj ha hk hv
 have hb:1≤k.bits∧k.bits≤64:=by
  obtain⟨k',fW,cd⟩:=hG.uZ a (List.mem_of_getElem? ha)
  rw[hk]at fW;cases fW
  rcases cd with h|h|h<;>omega
 rw[Nat.testBit_mod_two_pow,Bool.and_eq_true,decide_eq_true_iff]
 constructor
 ·rintro⟨h1,h2⟩
  obtain⟨p,y,hy,sg,xm⟩:=hG.pos ha hk (m:=m) (by omega)
  refine⟨p,y,hy,sg,xm,?_⟩
  rw[hW p (by rw[hlen];exact(List.getElem?_eq_some_iff.1 hy).1),Ao hG hy sg xm qu,Gi];exact h2
 ·rintro⟨p,y,hy,sg,xm,h⟩
  rw[hW p (by rw[hlen];exact(List.getElem?_eq_some_iff.1 hy).1),Ao hG hy sg xm qu,Gi]at h
  refine⟨?_,h⟩
  rcases hG.td hy with⟨e,_⟩|⟨_,j,a',k',n,e1,e2,e3,e4,e5,_⟩
  ·omega
  ·have:j=i:=by omega
   subst this
   rw[ha]at e2;cases e2
   rw[hk]at e3;cases e3
   omega
theorem EC{d:ο}{f:Ψ}(hG:bG d f){V:List Int}(hV:∀v∈V,aH v)(hl:V.length=f.args.length)(bZ:rQ d f V){B more:List UInt8}(hlen:8*B.length=(ψ d f).length)(hB:∀q,q<8*B.length→fy B q=qb d f V q):
 lB d f (B++more)∧∀V',AS d f (jz (B++more) (min (B++more).length 15)) V'→V'=V:=by
 have AB:=hG.rl
 have hW:∀q,q<8*B.length→fy (B++more) q=qb d f V q:=fun q hq=>by rw[Mg hq,hB q hq]
 have fE:∀(i:Nat) a k n,f.args[i]?=some a→bQ d.classes a.aU=some k→fA (ψ d f) i (fy (B++more)) n→∃v,V[i]?=some v∧bV k n=v∧v∉k.aY:=fun i a k n ha hk hn=>by
  have qu:=(List.getElem?_eq_some_iff.1 ha).1
  obtain⟨v,hv,K2⟩:=get_some (R:=V) (i:=i) (by omega)
  obtain⟨k',fW,cd⟩:=hG.uZ a (List.mem_of_getElem? ha)
  rw[hk]at fW;cases fW
  have hh:kP k v=true:=by rw[←Lq hk];exact bZ i a v ha hv
  rw[hn.p9 (Q7 hG hlen hW ha hk hv),Q_ cd (hV v K2) hh]
  exact⟨v,hv,rfl,x_ hh⟩
 refine⟨⟨by rw[List.length_append];omega,fun p x hx=> ?_,fun i a k n ha hk hn=> ?_⟩,fun V' Tu=> ?_⟩
 ·have hp:=(List.getElem?_eq_some_iff.1 hx).1
  rw[hW p (by omega)]
  rcases hG.td hx with⟨e,_,_⟩|⟨e,_⟩
  ·rw[Db hG hx (by omega)]
   exact⟨fun h=>by simp[h],fun h=>by simp[h]⟩
  ·exact⟨fun h=>by omega,fun h=>by omega⟩
 ·obtain⟨v,_,h1,h2⟩:=fE i a k n ha hk hn
  rw[h1];exact h2
 ·apply List.ext_getElem?
  intro i
  by_cases hi:i<f.args.length
  ·obtain⟨a,ha,uT⟩:=get_some (R:=f.args) (i:=i) hi
   obtain⟨k,hk,_⟩:=hG.uZ a uT
   obtain⟨v',kr,_⟩:=get_some (R:=V') (i:=i) (by rw[Tu.1];exact hi)
   obtain⟨n,_,h2,h3,_⟩:=Tu.2 i a k v' ha hk kr
   obtain⟨v,hv,h4,_⟩:=fE i a k n ha hk (h2.congr fun p x hx _=>by
    have hp:=(List.getElem?_eq_some_iff.1 hx).1
    unfold jz;rw[List.length_append];simp only[show p<8*min (B.length+more.length) 15 by omega,decide_true,Bool.true_and])
   rw[kr,hv,h3,h4]
  ·rw[List.getElem?_eq_none (by rw[Tu.1];omega),List.getElem?_eq_none (by omega)]
theorem Ra{d:ο}{f:Ψ}(hG:bG d f){W:Nat→Bool}{V:List Int}(hV:AS d f W V):(∀v∈V,aH v)∧rQ d f V:=by
 have key:∀(j:Nat) a k v,f.args[j]?=some a→bQ d.classes a.aU=some k→V[j]?=some v→aH v∧kP k v=true:=fun j a k v ha hk hv=>by
  obtain⟨n,h1,h2,h3,h4⟩:=hV.2 j a k v ha hk hv
  obtain⟨k',fW,cd⟩:=hG.uZ a (List.mem_of_getElem? ha)
  rw[hk]at fW;cases fW
  subst h3
  have:=GG cd h1 h4
  exact⟨this.1,this.2.1⟩
 constructor
 ·intro v hv
  obtain⟨j,hj⟩:=List.mem_iff_getElem?.1 hv
  have eQ:=(List.getElem?_eq_some_iff.1 hj).1
  obtain⟨a,ha,uT⟩:=get_some (R:=f.args) (i:=j) (by rw[←hV.1];exact eQ)
  obtain⟨k,hk,_⟩:=hG.uZ a uT
  exact(key j a k v ha hk hj).1
 ·intro j a v ha hv
  obtain⟨k,hk,_⟩:=hG.uZ a (List.mem_of_getElem? ha)
  rw[Lq hk];exact(key j a k v ha hk hv).2
theorem OL{x y:UInt8}(h:∀r,r<8→x.toNat.testBit r=y.toNat.testBit r):x=y:=by
 apply UInt8.toNat_inj.1
 refine Nat.eq_of_testBit_eq fun r=> ?_
 by_cases hr:r<8
 ·exact h r hr
 ·have qv:∀z:UInt8,z.toNat.testBit r=false:=fun z=>Nat.testBit_lt_two_pow (Nat.lt_of_lt_of_le (show z.toNat<2^8 from z.toNat_lt) (Nat.pow_le_pow_right (by decide) (by omega)))
  rw[qv,qv]
theorem BR{B b:List UInt8}(hl:B.length≤b.length)(h:∀q,q<8*B.length→fy B q=fy b q):B=b.take B.length:=by
 apply List.ext_getElem?
 intro i
 by_cases hi:i<B.length
 ·obtain⟨x,hx,_⟩:=get_some (R:=B) (i:=i) hi
  obtain⟨y,hy,_⟩:=get_some (R:=b) (i:=i) (by omega)
  rw[List.getElem?_take_of_lt hi,hx,hy]
  refine congrArg some (OL fun r hr=> ?_)
  have:=h (8*i+r) (by omega)
  unfold fy at this
  rw[show(8*i+r)/8=i by omega,show(8*i+r)%8=r by omega,hx,hy]at this
  exact this
 ·rw[List.getElem?_eq_none (by omega),List.getElem?_eq_none (by simp;omega)]
theorem Mi{d:ο}{f:Ψ}(hG:bG d f){b:List UInt8}(bx:lB d f b){V:List Int}(hV:AS d f (jz b (min b.length 15)) V){q:Nat}{y:Θ}(hy:(ψ d f)[q]?=some y)(hl:y.lit≠120):qb d f V q=fy b q:=by
 have AB:=hG.rl
 have hq:=(List.getElem?_eq_some_iff.1 hy).1
 have hlen:=bx.1
 have hb:jz b (min b.length 15) q=fy b q:=by unfold jz;simp only[show q<8*min b.length 15 by omega,decide_true,Bool.true_and]
 have h1:=bx.2.1 q y hy
 rcases hG.td hy with⟨e,_,vN⟩|⟨gX,j,a,k,m,e1,e2,e3,e4,e5,cd⟩
 ·rw[Db hG hy (by omega)]
  rcases vN with e|e|e
  ·rw[h1.1 e];simp[e]
  ·rw[h1.2 e];simp[e]
  ·exact absurd e hl
 ·have eQ:=(List.getElem?_eq_some_iff.1 e2).1
  obtain⟨v,hv,_⟩:=get_some (R:=V) (i:=j) (by rw[hV.1];exact eQ)
  obtain⟨n,n1,n2,n3,n4⟩:=hV.2 j a k v e2 e3 hv
  subst n3
  have XK:=(GG cd n1 n4).2.2
  rw[Ao hG hy e1 e4 eQ,Dj e2 e3 hv,←hb]
  have ht:(jT k (bV k n)).testBit m=n.testBit m:=by
   have:=congrArg (fun z=>Nat.testBit z m) XK
   simp only[Nat.testBit_mod_two_pow]at this
   rw[decide_eq_true (show m<k.bits.toNat by omega),Bool.true_and]at this
   exact this
  rw[ht,Bool.eq_iff_iff,n2 m]
  constructor
  ·rintro⟨p,z,h2,h3,h4,h5⟩
   by_cases y6:p=q
   ·subst y6;exact h5
   ·exact(hG.wq h2 hy y6 (by omega) ⟨by omega,by omega⟩).elim
  ·intro h;exact⟨q,y,hy,e1,e4,h⟩
end Go.Proofs.YtcogcbplmkcojaaGreatDoor
namespace Go.Proofs.YtcogcbplmkcojaaGreatDoor
open Go.IntWalk
set_option maxRecDepth 100000
set_option linter.unusedVariables false
set_option linter.unusedSimpArgs false
set_option maxHeartbeats 4000000
def Nk:Ord:=(.op 0 [] (.op 1 [] (.op 2 [1,0] (.op 3 [] (.op 4 [] (.op 5 [4,3,2,1,0] (.op 6 [4,3,2,1,0] (.op 7 [6,5,4,3,2,1,0] (.op 8 [4,3,2,1,0] (.op 9 [4,3,2,1,0] (.op 10 [] .nil)))))))))))
theorem HT(fm:Int)(V:List Int)(hV:V.length≤9223372036854775806):φ Tryz.prog 38 [yY fm V,yY fm V] (.t (.bool true)):=by
 have Tr:(V.map (T.int .i64)).length=V.length:=List.length_map _
 refine φ.Γ ?_ rfl
 refine γ.ξ ζ η Tryz.func38 rfl rfl ?_
 refine U (fun c=>absurd c (by simp)) (fun _=> ?_)
 refine U (fun c=>absurd c (by simp)) (fun _=> ?_)
 refine ao (fun j:Nat=>j≤V.length) (fun j=>⟨[(2,.ptr 0 0 0 0),(3,.ptr 1 0 0 0),(22,.t (.int .i64 (((V.map (T.int .i64)).length:Nat):Int))),(23,.t (.int .i64 ((j:Nat):Int)))],[.box [.t (.int .i64 fm),.t (.θ 1 (V.map (T.int .i64)))],.box [.t (.int .i64 fm),.t (.θ 1 (V.map (T.int .i64)))]]⟩) (fun j=>V.length - j) 0 (Nat.zero_le _) ?_ (fun j hj=> ?_)
 ·exact aM ⟨rfl,rfl,rfl,rfl,trivial⟩ rfl
 refine U (fun c=> ?_) (fun c=> ?_)
 rotate_left 1
 ·exact And.intro rfl rfl
 have c:j<V.length:=by have:=de c;omega
 obtain⟨v,hv,_⟩:=get_some (R:=V) (i:=j) c
 have gv:(V.map (T.int .i64))[((j:Nat):Int).toNat]?=some (.int .i64 v):=by rw[Int.toNat_natCast,List.getElem?_map,hv];rfl
 refine υ Nk (by decide+kernel) ?_
 refine ν gv ?_
 refine ν gv ?_
 refine U (fun c=>absurd c (by simp)) (fun _=> ?_)
 refine δ (n:=((j+1:Nat):Int)) (aj (n:=j+1) (by omega)) ?_
 conv=>whnf
 exact⟨⟨j+1,c⟩,aM ⟨rfl,rfl,rfl,rfl,trivial⟩ rfl,by show V.length - (j+1)<V.length - j;omega⟩
theorem zx(B:List UInt8):φ Tryz.prog 33 [.θ 1 (bc B),.θ 1 (bc B)] (.t (.bool true)):=by
 refine φ.Γ ?_ rfl
 refine γ.ξ ζ η Tryz.func33 rfl rfl ?_
 refine⟨B,rfl,?_⟩
 refine⟨B,rfl,?_⟩
 exact And.intro (congrArg (fun b=>some (T.bool b)) (show(B==B)=true by simp)) rfl
theorem IB(d:ο)(P:List cE)(root:T){i:Nat}{p:cE}(hp:P[i]?=some p):φ Tryz.prog 39 [fU d P root,.int .i64 i] (.t (.bool (!p.lz))):=by
 have qu:=(List.getElem?_eq_some_iff.1 hp).1
 have xx:(P.map cE.t).length=P.length:=List.length_map _
 have gp:(P.map cE.t)[((i:Nat):Int).toNat]?=some p.t:=by rw[Int.toNat_natCast,List.getElem?_map,hp];rfl
 refine φ.Γ ?_ rfl
 refine γ.ξ ζ η Tryz.func39 rfl rfl ?_
 refine U (fun _=> ?_) (fun c=> ?_)
 rotate_left 1
 ·exact absurd (of_decide_eq_false c) (by omega)
 refine ν gp ?_
 exact And.intro rfl rfl
end Go.Proofs.YtcogcbplmkcojaaGreatDoor
namespace Go.Proofs.YtcogcbplmkcojaaGreatDoor
open Go.IntWalk
set_option maxRecDepth 100000
set_option linter.unusedVariables false
set_option linter.unusedSimpArgs false
set_option maxHeartbeats 4000000
theorem TP{n:Nat}(h:n≤140737488355328):cI n 1=true:=by simp[cI];omega
theorem L_{b:List UInt8}{n:Nat}(h:n=b.length):((([]:List T)++bc b).drop 0).take n=bc b:=by
 rw[List.nil_append,List.drop_zero,List.take_of_length_le (by unfold bc;rw[List.length_map];omega)]
theorem Iq(d:ο)(hd:d.ok)(bn:d.classes.length≤2000000)(gn:∀k∈d.classes,k.aY.length≤2000000)(P:List cE)(root:dF)(hC:oP d P root)(b:List UInt8)(uR:b.length≤140737488355328):
 φ Tryz.prog 16 [fU d P root.t,.θ 1 (bc b)] (.t (.bool true)):=by
 have PB:(bc b).length=b.length:=List.length_map _
 refine φ.Γ ?_ rfl
 refine γ.ξ ζ η Tryz.func16 rfl rfl ?_
 refine Or.inl (And.intro rfl (ε (TP (n:=0+(bc b).length) (by omega)) ?_))
 refine γ.cH (sN d hd bn gn P root hC b (by omega)) rfl ⟨.refl _,?_,trivial⟩ ?_
 ·rw[L_ (n:=0+(Sq.ts (bc b)).length) (show 0+(bc b).length=b.length by omega)];exact .vec 1 _
 rintro _ (⟨i,f,V,hf,bx,hV,rfl⟩|⟨kt,rfl⟩)
 rotate_left 1
 ·exact And.intro rfl rfl
 have kv:=List.mem_of_getElem? hf
 have hG:=hC.ok.forms f kv
 have AB:=hG.rl
 have h8:(ψ d f).length%8=0∧8≤(ψ d f).length:=by rw[ez];exact⟨hG.m8,hG.ge⟩
 obtain⟨p,hp,_,_,j2⟩:=hC.s_ hf
 obtain⟨Ts,bZ⟩:=Ra hG hV
 obtain⟨N,hN⟩:∃N,N=(ψ d f).length/8:=⟨_,rfl⟩
 have ZK:N≤b.length:=by have:=bx.1;omega
 have BE:=hC.ok.parts.fl
 have qu:=(List.getElem?_eq_some_iff.1 hf).1
 rw[←hN]
 refine U (fun c=> ?_) (fun _=> ?_)
 ·have c:=of_decide_eq_true c;omega
 refine U (fun c=> ?_) (fun _=> ?_)
 ·have c:=of_decide_eq_true c;omega
 refine U (fun c=> ?_) (fun _=> ?_)
 ·have c:=of_decide_eq_true c;omega
 refine γ.cH (xA d hd bn gn P root hC i (show aH (i:Int) by unfold aH;omega) V Ts) rfl ⟨.refl _,.refl _,trivial⟩ ?_
 rintro _ (⟨hn,rfl⟩|⟨i',f',e1,e2,_,hn,rfl⟩|⟨i',f',B,e1,e2,_,_,Gq,hB,rfl⟩)
 ·exact absurd hV.1 (hn i f rfl hf)
 ·have:i'=i:=by omega
  subst this
  rw[hf]at e2;cases e2
  exact absurd bZ hn
 have:i'=i:=by omega
 subst this
 rw[hf]at e2;cases e2
 have VG:B.length=N:=by omega
 have Yf:(bc B).length=B.length:=List.length_map _
 refine U (fun c=> ?_) (fun _=> ?_)
 ·rw[Yf,VG]at c;simp at c
 have sn:=EC hG Ts hV.1 bZ (more:=[]) Gq hB
 rw[List.append_nil]at sn
 refine γ.cH (sN d hd bn gn P root hC B (by omega)) rfl ⟨.refl _,.refl _,trivial⟩ ?_
 rintro _ (⟨i2,f2,V2,Ea,za,Tt,rfl⟩|⟨kt,rfl⟩)
 rotate_left 1
 ·exact absurd sn.1 (kt _ f hf)
 obtain rfl:=BJ hC.ok hf Ea sn.1 za
 rw[hf]at Ea;cases Ea
 obtain rfl:=sn.2 V2 Tt
 rw[←hN]
 refine U (fun _=> ?_) (fun c=> ?_)
 rotate_left 1
 ·simp at c
 refine γ.a8 (HT (i':Int) V2 (by rw[hV.1];have:=hG.args;omega)) rfl ⟨.refl _,.refl _,trivial⟩ ?_
 refine γ.pure (IB d P root.t hp) rfl ?_
 obtain⟨lz,Vg⟩:∃lz,lz=p.lz:=⟨_,rfl⟩
 rw[←Vg]
 cases Wc:lz
 ·have kt:∀(q:Nat) (y:Θ),(ψ d f)[q]?=some y→y.lit≠120:=fun q y hy e=>by
   have:=j2.loose.2 ⟨q,y,hy,e⟩
   rw[←Vg,Wc]at this;cases this
  have Yg:B=b.take N:=by
   rw[←VG]
   refine BR (by omega) fun q hq=> ?_
   obtain⟨y,hy,_⟩:=get_some (R:=ψ d f) (i:=q) (by omega)
   rw[hB q hq,Mi hG bx hV hy (kt q y hy)]
  have j3:(decide (0≤((N:Nat):Int))&&decide (((N:Nat):Int)≤(((bc b).length:Nat):Int)))=true:=by rw[PB];simp;omega
  refine ε j3 ?_
  refine γ.a8 (zx B) rfl ⟨.refl _,?_,trivial⟩ ?_
  ·rw[Yg]
   unfold bc
   rw[List.map_take]
   exact .refl _
  exact And.intro rfl rfl
 ·exact And.intro rfl rfl
end Go.Proofs.YtcogcbplmkcojaaGreatDoor
