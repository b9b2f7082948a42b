/-
  The values of a form's operands in a word (codec.fits: walk).
-/
import Derived.Test.YtcogcbplmkcojaaGreatDoorKJd
namespace Go.Proofs.YtcogcbplmkcojaaGreatDoor
open Go.IntWalk
set_option maxRecDepth 100000
set_option linter.unusedVariables false
set_option linter.unusedSimpArgs false
set_option maxHeartbeats 8000000
def J9:Ord:=(.op 0 [] (.op 1 [] (.op 2 [] (.op 3 [] (.op 4 [3,2,1,0] (.op 5 [3,2,1,0] (.op 6 [] (.op 7 [] (.op 8 [7,6,5,4,3,2,1,0] (.op 9 [] (.op 10 [] .nil)))))))))))
def J8:Ord:=(.op 0 [] (.op 1 [] (.op 2 [] (.op 3 [] (.op 4 [3,2,1,0] (.op 5 [3,2,1,0] (.op 6 [] (.op 7 [] (.op 8 [] (.op 9 [8,7,6,5,4,3,2,1,0] (.op 10 [] .nil)))))))))))
def ld(A:List Θ)(j:Nat)(W:Nat→Bool)(m n:Nat):Prop:=∀t:Nat,n.testBit t=true↔t<m∧∃(p:Nat) (y:Θ),A[p]?=some y∧y.arg=(j:Int)∧y.num=(t:Int)∧W p=true
theorem ld.zero(A:List Θ)(j:Nat)(W:Nat→Bool):ld A j W 0 0:=fun t=>⟨fun h=>by simp at h,fun h=>absurd h.1 (Nat.not_lt_zero _)⟩
theorem ld.step{d:ο}{f:Ψ}(hG:bG d f){j m n p:Nat}{W:Nat→Bool}{y:Θ}(h:ld (ψ d f) j W m n)(hy:(ψ d f)[p]?=some y)(ha:y.arg=(j:Int))(hn:y.num=(m:Int)):
 ld (ψ d f) j W (m+1) (n|||(if W p then 2^m else 0)):=fun t=>by
 have e:(n|||(if W p then 2^m else 0)).testBit t=(n.testBit t||(W p&&decide (m=t))):=by
  cases hW:W p with
  |false=>simp
  |true=>rw[if_pos rfl,ot];simp
 rw[e,Bool.or_eq_true,h t,Bool.and_eq_true,decide_eq_true_iff]
 constructor
 ·rintro(⟨h1,h2⟩|⟨h1,rfl⟩)
  ·exact⟨by omega,h2⟩
  ·exact⟨Nat.lt_succ_self _,p,y,hy,ha,hn,h1⟩
 ·rintro⟨h1,p',y',h2,h3,h4,h5⟩
  by_cases ht:m=t
  ·subst ht
   right
   refine⟨?_,rfl⟩
   by_cases Vd:p'=p
   ·subst Vd;exact h5
   ·exact(hG.wq h2 hy Vd (by omega) ⟨by omega,by omega⟩).elim
  ·left;exact⟨by omega,p',y',h2,h3,h4,h5⟩
theorem ld.all{d:ο}{f:Ψ}(hG:bG d f){j m n:Nat}{W:Nat→Bool}{a:cP}{k:cg}(h:ld (ψ d f) j W m n)(ha:f.args[j]?=some a)(hk:bQ d.classes a.aU=some k)(hm:(m:Int)=k.bits):
 fA (ψ d f) j W n∧n<2^m:=by
 have key:fA (ψ d f) j W n:=fun t=>by
  rw[h t]
  constructor
  ·rintro⟨_,p,y,h1,h2,h3,h4⟩;exact⟨p,y,h1,h2,h3,h4⟩
  ·rintro⟨p,y,h1,h2,h3,h4⟩
   refine⟨?_,p,y,h1,h2,h3,h4⟩
   rcases hG.td h1 with⟨e,_⟩|⟨_,i,a',k',q,e1,e2,e3,e4,e5,_⟩
   ·omega
   ·have:i=j:=by omega
    subst this
    rw[ha]at e2;cases e2
    rw[hk]at e3;cases e3
    omega
 refine⟨key,Nat.lt_pow_two_of_testBit n fun t ht=> ?_⟩
 cases e:n.testBit t
 ·rfl
 ·have:=((h t).1 e).1;omega
def IR(d:ο)(f:Ψ)(W:Nat→Bool)(hv:Nat)(r:AV):Prop:=
 (¬IQ d f W hv∧r= .aq [.t (.θ 1 []),.t (.bool false)])∨(∃V:List Int,IQ d f W hv∧AS d f W V∧r= .aq [.t (.θ 1 (V.map (T.int .i64))),.t (.bool true)])
theorem IR.aJ{d:ο}{f:Ψ}{W:Nat→Bool}{hv:Nat}:∀r,IR d f W hv r→aJ r=true:=by
 rintro r (⟨_,rfl⟩|⟨_,_,_,rfl⟩)<;>rfl
abbrev Er(p:cE)(w0 w1:Nat)(R:List Int)(zm:AH):AH:=
 .box [.t (.int .u64 ((w0:Nat):Int)),.t (.int .u64 ((w1:Nat):Int))]:: .box [.t (.int .i64 p.sz),.t (.int .u64 p.m0),.t (.int .u64 p.m1),.t (.int .u64 p.w0),.t (.int .u64 p.w1),.t (.θ 1 (p.rows.map fun c=> .θ 1 (c.map (T.int .i64)))),.t (.bool p.lz)]:: .arr tI 1 true 0 (.ts (R.map (T.int .i64)))::zm
abbrev Gx(d:ο)(P:List cE)(root:T)(f:Ψ)(fm i:Nat)(R:List Int)(back:List (Nat×AV)):List (Nat×AV):=
 (0,.t (fU d P root))::(1,.t (.int .i64 ((fm:Nat):Int)))::(6,.ptr 0 0 0 0)::(10,.ptr 1 0 0 0)::(11,.sl 2 0 0 R.length)::(59,.t (.θ 2 (f.args.map Λ)))::(60,.t (.int .i64 ((f.args.map Λ).length:Int)))::(61,.t (.int .i64 ((i:Nat):Int)))::back
theorem zr(d:ο)(hd:d.ok)(bn:d.classes.length≤2000000)(gn:∀k∈d.classes,k.aY.length≤2000000)(P:List cE)(root:dF)(hC:oP d P root)(i:Nat)(f:Ψ)(hf:d.forms[i]?=some f)(w0 w1:Nat)(W:Nat→Bool)(hW:cF w0 w1 W)(hv:Nat)(Lj:hv≤15):
 ab Tryz.prog 93 [fU d P root.t,.int .i64 i,tD w0 w1,.int .i64 hv] (IR d f W hv):=by
 have uk:f∈d.forms:=List.mem_of_getElem? hf
 have hG:bG d f:=hC.ok.forms f uk
 have h6:=hG.args
 have ie:f.ok:=hd.2.2.2.2.2.2.2.2.2.2.2.1 f uk
 have mS:(f.args.map Λ).length=f.args.length:=List.length_map _
 have AB:=hG.rl
 have ga:(d.forms.map fun f=>T.θ 2 (f.args.map Λ))[((i:Nat):Int).toNat]?=some (.θ 2 (f.args.map Λ)):=by rw[Int.toNat_natCast,List.getElem?_map,hf];rfl
 obtain⟨p,hp,K5,DX,j2⟩:=hC.s_ hf
 have gp:(P.map cE.t)[((i:Nat):Int).toNat]?=some p.t:=by rw[Int.toNat_natCast,List.getElem?_map,hp];rfl
 have Sw:8*p.sz=(ψ d f).length:=by rw[DX,ez];have:=hG.m8;omega
 have iD:=NI hG j2.s_ hW
 obtain⟨x0,eO⟩:∃x0,x0=w0&&& p.m0:=⟨_,rfl⟩
 obtain⟨x1,kJ⟩:∃x1,x1=w1&&& p.m1:=⟨_,rfl⟩
 rw[←eO,←kJ]at iD
 refine ab.Γ ?_ IR.aJ
 refine γ.ξ ζ η Tryz.func93 rfl rfl ?_
 refine ν gp ?_
 refine U (fun c=> ?_) (fun c=> ?_)
 ·have c:=of_decide_eq_true c
  exact⟨_,.inl ⟨fun h=>by have:=h.1;omega,rfl⟩,⟨⟨_,_,rfl,.refl _⟩,⟨_,_,rfl,.refl _⟩,trivial⟩,rfl⟩
 have c:=of_decide_eq_false c
 refine δ (n:=((x0:Nat):Int)) (by rw[eO];exact mZ hW.1 K5.1) ?_
 refine U (fun c1=> ?_) (fun c1=> ?_)
 ·have c1:x0≠p.w0:=by
   intro e;rw[e]at c1;simp at c1
  exact⟨_,.inl ⟨fun h=>c1 (iD.2 h.2.1).1,rfl⟩,⟨⟨_,_,rfl,.refl _⟩,⟨_,_,rfl,.refl _⟩,trivial⟩,rfl⟩
 have c1:x0=p.w0:=by simp at c1;omega
 refine δ (n:=((x1:Nat):Int)) (by rw[kJ];exact mZ hW.2.1 K5.2.1) ?_
 refine U (fun c2=> ?_) (fun c2=> ?_)
 ·have c2:x1≠p.w1:=by
   intro e;rw[e]at c2;simp at c2
  exact⟨_,.inl ⟨fun h=>c2 (iD.2 h.2.1).2,rfl⟩,⟨⟨_,_,rfl,.refl _⟩,⟨_,_,rfl,.refl _⟩,trivial⟩,rfl⟩
 have c2:x1=p.w1:=by simp at c2;omega
 have UA:=iD.1 ⟨c1,c2⟩
 refine ν ga ?_
 refine b_ (fun e s'=>(e= .exit 0∧∃(b0:AV) (R:List Int),AS d f W R∧s'=⟨(62,b0)::Gx d P root.t f i f.args.length R [],Er p w0 w1 R []⟩)∨(e= .ret∧¬IQ d f W hv∧∃env R X,s'=⟨(9,.t (.bool false))::(8,.sl 4 0 0 0)::env,Er p w0 w1 R [X,.arr tI 1 true 0 (.ts [])]⟩)) (fun zL HQ=> ?_) ?_
 ·refine ao (fun s:Nat×List Int=>s.1≤f.args.length∧s.2.length=s.1∧∀(j:Nat) a k v,f.args[j]?=some a→bQ d.classes a.aU=some k→s.2[j]?=some v→∃n,n<2^k.bits.toNat∧fA (ψ d f) j W n∧v=bV k n∧v∉k.aY) (fun s=>⟨Gx d P root.t f i s.1 s.2 [],Er p w0 w1 s.2 []⟩)
   (fun s=>f.args.length - s.1) (0,[]) ⟨Nat.zero_le _,rfl,fun j a k v _ _ h=>by simp at h⟩ ?_ (fun⟨j,R⟩ ⟨hj,Lu,hR⟩=> ?_)
  ·exact τ [0,2,3] rfl ⟨rfl,rfl,rfl,rfl,rfl,rfl,rfl,rfl,trivial⟩ ⟨rfl,rfl,rfl,trivial⟩
  have hj:j≤f.args.length:=hj
  have Lu:R.length=j:=Lu
  have hR:∀(j':Nat) a k v,f.args[j']?=some a→bQ d.classes a.aU=some k→R[j']?=some v→∃n,n<2^k.bits.toNat∧fA (ψ d f) j' W n∧v=bV k n∧v∉k.aY:=hR
  refine U (fun c4=> ?_) (fun c4=> ?_)
  rotate_left 1
  ·have c4:j=f.args.length:=by have:=dm c4;omega
   subst c4
   exact HQ _ _ (.inl ⟨rfl,_,R,⟨Lu,hR⟩,rfl⟩)
  have c4:j<f.args.length:=by have:=de c4;omega
  obtain⟨a,ha,uT⟩:=get_some (R:=f.args) (i:=j) c4
  obtain⟨k,hk,cd⟩:=hG.uZ a uT
  have Az:=mc hk
  obtain⟨x,hx,dk,lF⟩:=cQ Az
  obtain rfl:k=x:=by rw[hk]at hx;exact Option.some.inj hx
  have hb:1≤k.bits∧k.bits≤64:=by rcases cd with h|h|h<;>omega
  obtain⟨cc,ig,_⟩:=get_some (R:=p.rows) (i:=j) (by rw[j2.len];exact c4)
  have qg:=j2.rows j a k cc ha hk ig
  have Ij:(cc.map (T.int .i64)).length=cc.length:=List.length_map _
  refine ν (show(f.args.map Λ)[((j:Nat):Int).toNat]?=some (Λ a)from by rw[Int.toNat_natCast,List.getElem?_map,ha];rfl) ?_
  refine ν (show(p.rows.map fun c=>T.θ 1 (c.map (T.int .i64)))[((j:Nat):Int).toNat]?=some (T.θ 1 (cc.map (T.int .i64)))from by rw[Int.toNat_natCast,List.getElem?_map,ig];rfl) ?_
  refine b_ (fun e' s'=>e'= .exit 2∧∃(b0:AV) (n kk:Nat),ld (ψ d f) j W cc.length n∧s'=⟨(73,b0)::Gx d P root.t f i j R ((13,.ptr 3 0 0 0)::(14,.t (.int .u64 ((n:Nat):Int)))::(70,.t (.θ 1 (cc.map (T.int .i64))))::(71,.t (.int .i64 ((cc.map (T.int .i64)).length:Int)))::(72,.t (.int .i64 ((kk:Nat):Int)))::[]),Er p w0 w1 R [.box [.t (.str a.name),.t (.int .i64 a.aU)]]⟩) (fun uH nQ=> ?_) ?_
  ·refine ao (fun s:Nat×Nat=>s.1≤cc.length∧ld (ψ d f) j W s.1 s.2∧s.2<18446744073709551616) (fun s=>⟨Gx d P root.t f i j R ((13,.ptr 3 0 0 0)::(14,.t (.int .u64 ((s.2:Nat):Int)))::(70,.t (.θ 1 (cc.map (T.int .i64))))::(71,.t (.int .i64 ((cc.map (T.int .i64)).length:Int)))::(72,.t (.int .i64 ((s.1:Nat):Int)))::[]),Er p w0 w1 R [.box [.t (.str a.name),.t (.int .i64 a.aU)]]⟩)
    (fun s=>cc.length - s.1) (0,0) ⟨Nat.zero_le _,ld.zero _ _ _,by decide⟩ ?_ (fun⟨kk,n⟩ ⟨lE,hN,sK⟩=> ?_)
   ·exact aM ⟨rfl,rfl,rfl,rfl,rfl,rfl,rfl,rfl,rfl,rfl,rfl,rfl,rfl,trivial⟩ rfl
   have lE:kk≤cc.length:=lE
   have hN:ld (ψ d f) j W kk n:=hN
   have sK:n<18446744073709551616:=sK
   refine U (fun c6=> ?_) (fun c6=> ?_)
   rotate_left 1
   ·have c6:kk=cc.length:=by have:=dm c6;omega
    exact nQ _ _ ⟨rfl,_,n,kk,by rw[←c6];exact hN,rfl⟩
   have c6:kk<cc.length:=by have:=de c6;omega
   obtain⟨p0,y,hy,sg,xm⟩:=hG.pos ha hk (m:=kk) (by rw[qg.1]at c6;omega)
   have SF:=qg.2 p0 y kk hy sg xm
   have V_:=(List.getElem?_eq_some_iff.1 hy).1
   have b9:=hN.step hG hy sg xm
   have gZ:dA w0 w1 p0=W p0:=tu hW (by omega)
   have eX:=ya w0 w1 hW.1 hW.2.1 p0 (by omega)
   rw[gZ]at eX
   obtain⟨tb,Gd⟩:∃tb,tb=W p0:=⟨_,rfl⟩
   rw[←Gd]at eX b9
   have SV:kk<64:=by rw[qg.1]at c6;omega
   refine ν (show(cc.map (T.int .i64))[((kk:Nat):Int).toNat]?=some (.int .i64 ((p0:Nat):Int))from by rw[Int.toNat_natCast,List.getElem?_map,SF];rfl) ?_
   refine γ.a8 eX rfl ⟨.refl _,.refl _,trivial⟩ ?_
   refine ε (decide_eq_true (show(0:Int)≤((kk:Nat):Int) by omega)) ?_
   obtain⟨sh,fo⟩:∃sh:Nat,sh=if tb then 2^kk else 0:=⟨_,rfl⟩
   have qE:sh<18446744073709551616:=by rw[fo];split;exact iw SV;decide
   obtain⟨n2,K9⟩:∃n2,n2=n|||sh:=⟨_,rfl⟩
   have Uz:n2<18446744073709551616:=by rw[K9];exact Nat.or_lt_two_pow (n:=64) sK qE
   rw[←fo,←K9]at b9
   refine δ (n:=((sh:Nat):Int)) (by
    rw[fo]
    cases tb with
    |false=>show IntKind.u64.wrap (0*_)=_;rw[Int.zero_mul];rfl
    |true=>exact gE rfl SV) ?_
   refine δ (n:=((n2:Nat):Int)) (by rw[K9];exact iq sK qE) ?_
   refine δ (n:=((kk+1:Nat):Int)) (aj (n:=kk+1) (by omega)) ?_
   conv=>whnf
   exact⟨⟨(kk+1,n2),c6,b9,Uz⟩,aM ⟨rfl,rfl,rfl,rfl,rfl,rfl,rfl,rfl,rfl,rfl,rfl,rfl,rfl,trivial⟩ rfl,by show cc.length - (kk+1)<cc.length - kk;omega⟩
  rintro _ _ ⟨rfl,b0,n,kk,hN,rfl⟩
  obtain⟨iC,N3⟩:=hN.all hG ha hk (by rw[qg.1];omega)
  rw[qg.1]at N3
  obtain⟨vv,xn⟩:∃vv,vv=bV k n:=⟨_,rfl⟩
  have qi:=EH d k cd n N3
  rw[←xn]at qi
  refine bJ (fun _=>[]) J9 (by decide+kernel) ?_
  refine ε (gW rfl Az.1) ?_
  refine ν (cu lF) ?_
  refine γ.a8 qi rfl ⟨.refl _,.refl _,trivial⟩ ?_
  refine And.intro (fun j hj=>by first|(cases hj;done)|exact χ.append _ _ _|exact χ.refl _ _) ?_
  refine And.intro (fun j hj=>by first|(cases hj;done)|exact χ.append _ _ _|exact χ.refl _ _) ?_
  have S_:=gn k dk
  refine bJ (fun _=>[]) J8 (by decide+kernel) ?_
  refine ε (gW rfl Az.1) ?_
  refine ν (cu lF) ?_
  refine γ.a8 (qk k.aY vv (by omega)) rfl ⟨.refl _,.refl _,trivial⟩ ?_
  refine And.intro (fun j hj=>by first|(cases hj;done)|exact χ.append _ _ _|exact χ.refl _ _) ?_
  refine U (fun ce=> ?_) (fun ce=> ?_)
  ·have ce:vv∈k.aY:=of_decide_eq_true ce
   exact HQ _ _ (.inr ⟨rfl,(fun h=>h.2.2 j a k n ha hk iC (by rw[←xn];exact ce)),_,R,_,rfl⟩)
  have ce:vv∉k.aY:=of_decide_eq_false ce
  refine Or.inl (And.intro (by simp[Sq.length]) (ε (ur (n:=R.length+1) (by omega)) ?_))
  refine δ (n:=((j+1:Nat):Int)) (aj (n:=j+1) (by omega)) ?_
  have eL:R.length+1=(R++[vv]).length:=by simp
  have eA:R.map (T.int .i64)++[.int .i64 vv]=(R++[vv]).map (T.int .i64):=by simp
  conv=>whnf
  refine⟨⟨(j+1,R++[vv]),(show j+1≤f.args.length∧(R++[vv]).length=j+1∧∀(j':Nat) a k v,f.args[j']?=some a→bQ d.classes a.aU=some k→(R++[vv])[j']?=some v→∃n,n<2^k.bits.toNat∧fA (ψ d f) j' W n∧v=bV k n∧v∉k.aY from⟨c4,by simp[Lu],fun j' a' k' v' oc fW kr=> ?_⟩)⟩,?_,by show f.args.length - (j+1)<f.args.length - j;omega⟩
  ·by_cases XA:j'<R.length
   ·rw[List.getElem?_append_left XA]at kr
    exact hR j' a' k' v' oc fW kr
   ·rw[List.getElem?_append_right (by omega)]at kr
    have h0:j' - R.length=0:=by
     have:=κ kr
     simp at this
     omega
    rw[h0]at kr
    cases kr
    have Wh:j'=j:=by omega
    subst Wh
    rw[ha]at oc;cases oc
    rw[hk]at fW;cases fW
    exact⟨n,N3,iC,xn,ce⟩
  show aB _ _ ⟨Gx d P root.t f i (j+1) (R++[vv]) [],Er p w0 w1 (R++[vv]) []⟩
  unfold Gx Er
  rw[←eL,←eA]
  exact τ [0,1,2] rfl ⟨rfl,rfl,rfl,rfl,rfl,rfl,rfl,rfl,trivial⟩ ⟨rfl,rfl,rfl,trivial⟩
 rintro _ _ (⟨rfl,b0,R,hR,rfl⟩|⟨rfl,kt,env,R,X,rfl⟩)
 ·refine⟨_,.inr ⟨R,⟨by omega,UA,fun j a k n ha hk hn=> ?_⟩,hR,rfl⟩,⟨⟨_,_,rfl,?_⟩,⟨_,_,rfl,.refl _⟩,trivial⟩,rfl⟩
  ·have hj:=(List.getElem?_eq_some_iff.1 ha).1
   obtain⟨v,Xf,_⟩:=get_some (R:=R) (i:=j) (by rw[hR.1];exact hj)
   obtain⟨n',_,h2,h3,h4⟩:=hR.2 j a k v ha hk Xf
   rw[hn.p9 h2,←h3];exact h4
  ·rw[oN (by simp)];exact .refl _
 ·exact⟨_,.inl ⟨kt,rfl⟩,⟨⟨_,_,rfl,.refl _⟩,⟨_,_,rfl,.refl _⟩,trivial⟩,rfl⟩
end Go.Proofs.YtcogcbplmkcojaaGreatDoor
