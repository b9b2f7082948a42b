/-
  Encode: an instruction's bytes (walk).
-/
import Derived.Test.YtcogcbplmkcojaaGreatDoorKJA
import Derived.Test.YtcogcbplmkcojaaGreatDoorKHu
namespace Go.Proofs.YtcogcbplmkcojaaGreatDoor
open Go.IntWalk
set_option maxRecDepth 100000
set_option linter.unusedVariables false
set_option linter.unusedSimpArgs false
set_option maxHeartbeats 8000000
def Np:Ord:=(.op 0 [] (.op 1 [] (.op 2 [] (.op 3 [] (.op 4 [] (.op 5 [] (.op 6 [5,4] (.op 7 [5,4] (.op 8 [5,4] (.op 9 [5,4] (.op 10 [5,4] (.op 11 [] (.op 12 [] (.op 13 [] (.op 14 [] (.op 15 [] (.op 16 [] (.op 17 [16,15,14] (.op 18 [16,15,14] (.op 19 [16,15,14] (.op 20 [16,15,14] (.op 21 [20,19,18,17,16,15,14] (.op 22 [20,19,18,17,16,15,14] (.op 23 [16,15,14] (.op 24 [16,15,14] (.op 25 [16,15,14] (.op 26 [] (.op 27 [] .nil))))))))))))))))))))))))))))
def No:Ord:=(.op 0 [] (.op 1 [] (.op 2 [] (.op 3 [] (.op 4 [3,2,1,0] (.op 5 [3,2,1,0] (.op 6 [] (.op 7 [] (.op 8 [7,6,5,4,3,2,1,0] (.op 9 [] .nil))))))))))
def Nn:Ord:=(.op 0 [] (.op 1 [] (.op 2 [] (.op 3 [] (.op 4 [3,2,1,0] (.op 5 [3,2,1,0] (.op 6 [] (.op 7 [] (.op 8 [] (.op 9 [8,7,6,5,4,3,2,1,0] .nil))))))))))
def Nm:Ord:=(.op 0 [] (.op 1 [0] (.op 2 [0] (.op 3 [2,1,0] (.op 4 [2,1,0] (.op 5 [4,3,2,1,0] (.op 6 [2,1,0] (.op 7 [2,1,0] (.op 8 [] (.op 9 [] .nil))))))))))
def Kp:Ord:=(.op 0 [] (.op 1 [] (.op 2 [] (.op 3 [] (.op 4 [3,2,1,0] (.op 5 [3,2,1,0] (.op 6 [] (.op 7 [] (.op 8 [7,6,5,4,3,2,1,0] (.op 9 [7,6,5,4,3,2,1,0] (.op 10 [9,8,7,6,5,4,3,2,1,0] (.op 11 [7,6,5,4,3,2,1,0] (.op 12 [7,6,5,4,3,2,1,0] (.op 13 [] (.op 14 [] .nil)))))))))))))))
abbrev FP:Nat:= 5
def yY(fm:Int)(V:List Int):T:= .agg [.int .i64 fm,.θ 1 (V.map (T.int .i64))]
def rQ(d:ο)(f:Ψ)(V:List Int):Prop:=∀(j:Nat) a v,f.args[j]?=some a→V[j]?=some v→nB d a.aU v=true
def IT(d:ο)(fm:Int)(V:List Int)(r:AV):Prop:=
 ((∀(i:Nat) f,fm=(i:Int)→d.forms[i]?=some f→V.length≠f.args.length)∧r= .aq [.t (.θ 1 []),.t (.int .i64 61)])∨
 (∃(i:Nat) (f:Ψ),fm=(i:Int)∧d.forms[i]?=some f∧V.length=f.args.length∧¬rQ d f V∧r= .aq [.t (.θ 1 []),.t (.int .i64 64)])∨
 (∃(i:Nat) (f:Ψ) (B:List UInt8),fm=(i:Int)∧d.forms[i]?=some f∧V.length=f.args.length∧rQ d f V∧8*B.length=(ψ d f).length∧(∀q,q<8*B.length→fy B q=qb d f V q)∧r= .aq [.t (.θ 1 (bc B)),.t (.int .i64 0)])
theorem IT.aJ{d:ο}{fm:Int}{V:List Int}:∀r,IT d fm V r→aJ r=true:=by
 rintro r (⟨_,rfl⟩|⟨_,_,_,_,_,_,rfl⟩|⟨_,_,_,_,_,_,_,_,_,rfl⟩)<;>rfl
structure oP(d:ο)(P:List cE)(root:dF):Prop where
 ok:gr d
 len:P.length=d.forms.length
 VX:∀(i:Nat) f p,d.forms[i]?=some f→P[i]?=some p→p.wf∧nP d f (.t p.t)
 finds:mg P (List.range d.forms.length) root
theorem oP.s_{d:ο}{P:List cE}{root:dF}(h:oP d P root){i:Nat}{f:Ψ}(hf:d.forms[i]?=some f):∃p,P[i]?=some p∧p.wf∧p.sz=(bf f.pieces).length/8∧zK d f p.m0 p.m1 p.w0 p.w1 p.lz p.rows:=by
 have hl:=(List.getElem?_eq_some_iff.1 hf).1
 obtain⟨p,hp,_⟩:=get_some (R:=P) (i:=i) (by rw[h.len];exact hl)
 obtain⟨hw,m0,m1,w0,w1,lz,C,e,hm⟩:=h.VX i f p hf hp
 refine⟨p,hp,hw,?_⟩
 unfold cE.t ng at e
 injection e with e
 injection e with e
 simp only[List.cons.injEq,T.int.injEq,T.bool.injEq,T.θ.injEq,true_and,and_true]at e
 obtain⟨e1,e2,e3,e4,e5,e6,e7⟩:=e
 have Uw:p.rows=C:=by
  have inj:∀(A B:List (List Int)),(A.map fun c=>T.θ 1 (c.map (T.int .i64)))=(B.map fun c=>T.θ 1 (c.map (T.int .i64)))→A=B:=by
   intro A
   induction A with
   |nil=>intro B h;cases B with|nil=>rfl|cons=>simp at h
   |cons a A ih=>
    intro B h
    cases B with
    |nil=>simp at h
    |cons b B=>
     simp only[List.map_cons,List.cons.injEq,T.θ.injEq,true_and]at h
     rw[ih B h.2]
     congr 1
     have V3:∀(x y:List Int),x.map (T.int .i64)=y.map (T.int .i64)→x=y:=by
      intro x
      induction x with
      |nil=>intro y h;cases y with|nil=>rfl|cons=>simp at h
      |cons u x WZ=>
       intro y h
       cases y with
       |nil=>simp at h
       |cons v y=>
        simp only[List.map_cons,List.cons.injEq,T.int.injEq,true_and]at h
        rw[h.1,WZ y h.2]
     exact V3 a b h.1
  exact inj _ _ e6
 have e2:p.m0=m0:=by omega
 have e3:p.m1=m1:=by omega
 have e4:p.w0=w0:=by omega
 have e5:p.w1=w1:=by omega
 exact⟨by omega,by rw[e2,e3,e4,e5,e7,Uw];exact hm⟩
abbrev EE(d:ο)(fm:Int)(V:List Int)(p:cE)(w0 w1:Nat)(zm:AH):AH:=
 .box [.t (.int .i64 fm),.t (.θ 1 (V.map (T.int .i64)))]:: .box [.t (.int .i64 p.sz),.t (.int .u64 p.m0),.t (.int .u64 p.m1),.t (.int .u64 p.w0),.t (.int .u64 p.w1),.t (.θ 1 (p.rows.map fun c=> .θ 1 (c.map (T.int .i64)))),.t (.bool p.lz)]:: .box [.t (.int .u64 ((w0:Nat):Int)),.t (.int .u64 ((w1:Nat):Int))]::zm
abbrev PW(d:ο)(P:List cE)(root:T)(f:Ψ)(i:Nat)(back:List (Nat×AV)):List (Nat×AV):=
 (0,.t (fU d P root))::(3,.ptr 0 0 0 0)::(6,.ptr 1 0 0 0)::(7,.ptr 2 0 0 0)::(60,.t (.θ 2 (f.args.map Λ)))::(61,.t (.int .i64 ((f.args.map Λ).length:Int)))::(62,.t (.int .i64 ((i:Nat):Int)))::back
theorem VZ{b:Int}(h:0≤b)(h2:b≤64):(decide (0≤b)&&decide (b≤b)&&decide (b*1≤140737488355328)&&decide (b≤9223372036854775807)&&true&&true&&true)=true:=by simp;omega
def kh(w0 w1 n i:Nat):List UInt8:=gx w0 w1 i++List.replicate (n - i) 0
theorem xQ{w0 w1 n i:Nat}(h:i≤n):(kh w0 w1 n i).length=n:=by simp[kh,m_];omega
theorem CU{w0 w1 n i:Nat}(h:i<n):(bc (kh w0 w1 n i)).set i (T.int .u8 (fN w0 w1 i:Nat))=bc (kh w0 w1 n (i+1)):=by
 unfold kh bc
 have e1:gx w0 w1 (i+1)=gx w0 w1 i++[UInt8.ofNat (fN w0 w1 i)]:=by unfold gx;rw[List.range_succ,List.map_append];rfl
 have e2:List.replicate (n - i) (0:UInt8)=0::List.replicate (n - (i+1)) 0:=by rw[show n - i=(n - (i+1))+1 by omega];rfl
 rw[e1,e2,List.map_append,List.map_append,List.map_append,List.set_append_right _ _ (by simp[m_]),List.append_assoc]
 congr 1
 rw[List.length_map,m_,Nat.sub_self]
 simp only[List.map_cons,List.set_cons_zero,List.map_nil,List.cons_append,List.nil_append]
 rw[Jr (xe _ _ _)]
theorem xA(d:ο)(hd:d.ok)(bn:d.classes.length≤2000000)(gn:∀k∈d.classes,k.aY.length≤2000000)(P:List cE)(root:dF)(hC:oP d P root)(fm:Int)(kv:aH fm)(V:List Int)(hV:∀v∈V,aH v):
 ab Tryz.prog 31 [fU d P root.t,yY fm V] (IT d fm V):=by
 have xx:(P.map cE.t).length=d.forms.length:=by rw[List.length_map,hC.len]
 have Tr:(V.map (T.int .i64)).length=V.length:=List.length_map _
 refine ab.Γ ?_ IT.aJ
 refine γ.ξ ζ η Tryz.func31 rfl rfl ?_
 refine bJ (fun _=>[]) Np (by decide+kernel) ?_
 refine U (fun c=> ?_) (fun c=> ?_)
 ·have c:=of_decide_eq_true c
  exact⟨_,.inl ⟨fun i f e=>by omega,rfl⟩,⟨⟨_,_,rfl,.refl _⟩,⟨_,_,rfl,.refl _⟩,trivial⟩,rfl⟩
 have c:=of_decide_eq_false c
 obtain⟨i,rfl⟩:=Int.eq_ofNat_of_zero_le (show 0≤fm by omega)
 refine U (fun c2=> ?_) (fun c2=> ?_)
 ·have c2:=of_decide_eq_true c2
  exact⟨_,.inl ⟨fun i' f e hf=>by
   have:=(List.getElem?_eq_some_iff.1 hf).1
   omega,rfl⟩,⟨⟨_,_,rfl,.refl _⟩,⟨_,_,rfl,.refl _⟩,trivial⟩,rfl⟩
 have c2:i<d.forms.length:=by have:=of_decide_eq_false c2;omega
 obtain⟨f,hf,uk⟩:=get_some (R:=d.forms) (i:=i) c2
 have h6:f.args.length≤6:=(hC.ok.forms f uk).args
 have mS:(f.args.map Λ).length=f.args.length:=List.length_map _
 have ie:f.ok:=hd.2.2.2.2.2.2.2.2.2.2.2.1 f uk
 have hG:bG d f:=hC.ok.forms f uk
 have ga:(d.forms.map fun f=>T.θ 2 (f.args.map Λ))[((i:Nat):Int).toNat]?=some (.θ 2 (f.args.map Λ)):=by rw[Int.toNat_natCast,List.getElem?_map,hf];rfl
 obtain⟨p,hp,K5,DX,j2⟩:=hC.s_ hf
 have gp:(P.map cE.t)[((i:Nat):Int).toNat]?=some p.t:=by rw[Int.toNat_natCast,List.getElem?_map,hp];rfl
 refine ν ga ?_
 refine U (fun c3=> ?_) (fun c3=> ?_)
 ·have c3:V.length≠f.args.length:=by
   intro e
   rw[Tr,mS,e]at c3
   simp at c3
  exact⟨_,.inl ⟨fun i' f' e rD=>by
   have:i'=i:=by omega
   subst this
   rw[hf]at rD;cases rD
   exact c3,rfl⟩,⟨⟨_,_,rfl,.refl _⟩,⟨_,_,rfl,.refl _⟩,trivial⟩,rfl⟩
 have c3:V.length=f.args.length:=by rw[Tr,mS]at c3;simp at c3;omega
 refine bJ (fun _=>[]) No (by decide+kernel) ?_
 refine ν gp ?_
 refine And.intro (fun j hj=>by first|(cases hj;done)|exact χ.append _ _ _|exact χ.refl _ _) ?_
 refine bJ (fun _=>[]) Nn (by decide+kernel) ?_
 refine ν ga ?_
 have AB:=hG.rl
 have Sw:8*p.sz=(ψ d f).length:=by rw[DX,ez];have:=hG.m8;omega
 refine b_ (fun e s'=>(e= .exit 0∧rQ d f V∧∃(b0:AV) (w0 w1:Nat),cF w0 w1 (qb d f V)∧s'=⟨(63,b0)::PW d P root.t f f.args.length [],EE d i V p w0 w1 []⟩)∨(e= .ret∧¬rQ d f V∧∃env w0 w1 X,s'=⟨(5,.t (.int .i64 64))::(4,.sl 4 0 0 0)::env,EE d i V p w0 w1 [X,.arr FP 1 true 0 (.ts [])]⟩)) (fun zL HQ=> ?_) ?_
 ·refine ao (fun s:Nat×Nat×Nat=>s.1≤f.args.length∧cF s.2.1 s.2.2 (jU d f V s.1 0)∧∀(j:Nat) a v,j<s.1→f.args[j]?=some a→V[j]?=some v→nB d a.aU v=true) (fun s=>⟨PW d P root.t f s.1 [],EE d i V p s.2.1 s.2.2 []⟩)
   (fun s=>f.args.length - s.1) (0,p.w0,p.w1) ⟨Nat.zero_le _,j2.s_.want.congr fun q _=>(LR hG q).symm,fun j a v h=>absurd h (Nat.not_lt_zero _)⟩ ?_ (fun⟨j,w0,w1⟩ ⟨hj,hB,hH⟩=> ?_)
  ·exact τ [0,2,3] rfl ⟨rfl,rfl,rfl,rfl,rfl,rfl,rfl,trivial⟩ ⟨rfl,rfl,rfl,trivial⟩
  have hj:j≤f.args.length:=hj
  have hB:cF w0 w1 (jU d f V j 0):=hB
  have hH:∀(j':Nat) a v,j'<j→f.args[j']?=some a→V[j']?=some v→nB d a.aU v=true:=hH
  refine U (fun c4=> ?_) (fun c4=> ?_)
  rotate_left 1
  ·have c4:j=f.args.length:=by have:=dm c4;omega
   subst c4
   exact HQ _ _ (.inl ⟨rfl,fun j a v ha hv=>hH j a v (List.getElem?_eq_some_iff.1 ha).1 ha hv,_,w0,w1,hB,rfl⟩)
  have c4:j<f.args.length:=by have:=de c4;omega
  obtain⟨a,ha,uT⟩:=get_some (R:=f.args) (i:=j) c4
  obtain⟨v,hv,K2⟩:=get_some (R:=V) (i:=j) (by omega)
  obtain⟨k,hk,cd⟩:=hG.uZ a uT
  have Az:=mc hk
  obtain⟨x,hx,_,lF⟩:=cQ Az
  obtain rfl:k=x:=by rw[hk]at hx;exact Option.some.inj hx
  have hb:1≤k.bits∧k.bits≤64:=by rcases cd with h|h|h<;>omega
  have gv:(V.map (T.int .i64))[((j:Nat):Int).toNat]?=some (.int .i64 v):=by rw[Int.toNat_natCast,List.getElem?_map,hv];rfl
  refine ν (show(f.args.map Λ)[((j:Nat):Int).toNat]?=some (Λ a)from by rw[Int.toNat_natCast,List.getElem?_map,ha];rfl) ?_
  refine bJ (fun _=>[]) Nm (by decide+kernel) ?_
  refine ν gv ?_
  refine γ.a8 (Oe d bn gn hC.ok.parts.classes P root.t a.aU v (ie.2.2.2.1 a uT).2 (hV v K2)) rfl ⟨.refl _,.refl _,.refl _,trivial⟩ ?_
  have D8:nB d a.aU v=kP k v:=by rw[nB,hk]
  rw[D8]
  refine And.intro (fun j hj=>by first|(cases hj;done)|exact χ.append _ _ _|exact χ.refl _ _) ?_
  refine U (fun c5=> ?_) (fun c5=> ?_)
  ·have c5:kP k v=false:=by simpa using c5
   exact HQ _ _ (.inr ⟨rfl,(fun h=>by have:=h j a v ha hv;rw[D8,c5]at this;cases this),_,w0,w1,_,rfl⟩)
  have c5:kP k v=true:=by simpa using c5
  obtain⟨cc,ig,_⟩:=get_some (R:=p.rows) (i:=j) (by rw[j2.len];exact c4)
  have qg:=j2.rows j a k cc ha hk ig
  have Gi:Dk d f V j=jT k v:=Dj ha hk hv
  obtain⟨e,he⟩:∃e,e=jT k v:=⟨_,rfl⟩
  have Zc:e<18446744073709551616:=by rw[he];exact Q8 k v
  have Xe: -9223372036854775808≤v - k.plus:=by
   rw[kP,if_neg (x_ c5)]at c5
   have NW:=hV v K2
   unfold aH at NW
   rcases cd with h|h|h
   ·rw[if_pos h.1]at c5
    simp only[Bool.and_eq_true,decide_eq_true_iff]at c5
    omega
   ·omega
   ·omega
  have Ij:(cc.map (T.int .i64)).length=cc.length:=List.length_map _
  refine bJ (fun _=>[]) Kp (by decide+kernel) ?_
  refine ε (gW rfl Az.1) ?_
  refine ν (cu lF) ?_
  refine ν gv ?_
  have Gk:=EB d k cd v (hV v K2) Xe
  rw[←he]at Gk
  refine γ.a8 Gk rfl ⟨.refl _,.refl _,trivial⟩ ?_
  refine And.intro (fun j hj=>by first|(cases hj;done)|exact χ.append _ _ _|exact χ.refl _ _) ?_
  refine And.intro (fun j hj=>by first|(cases hj;done)|exact χ.append _ _ _|exact χ.refl _ _) ?_
  refine ν (show(p.rows.map fun c=>T.θ 1 (c.map (T.int .i64)))[((j:Nat):Int).toNat]?=some (T.θ 1 (cc.map (T.int .i64)))from by rw[Int.toNat_natCast,List.getElem?_map,ig];rfl) ?_
  refine b_ (fun e' s'=>e'= .exit 2∧∃(b0:AV) (w0 w1 kk:Nat),cF w0 w1 (jU d f V (j+1) 0)∧s'=⟨(98,b0)::PW d P root.t f j ((9,.ptr 3 0 0 0)::(10,.t (.int .u64 ((e:Nat):Int)))::(95,.t (.θ 1 (cc.map (T.int .i64))))::(96,.t (.int .i64 ((cc.map (T.int .i64)).length:Int)))::(97,.t (.int .i64 ((kk:Nat):Int)))::[]),EE d i V p w0 w1 [.box [.t (.str a.name),.t (.int .i64 a.aU)]]⟩) (fun uH nQ=> ?_) ?_
  ·refine ao (fun s:Nat×Nat×Nat=>s.1≤cc.length∧cF s.2.1 s.2.2 (jU d f V j s.1)) (fun s=>⟨PW d P root.t f j ((9,.ptr 3 0 0 0)::(10,.t (.int .u64 ((e:Nat):Int)))::(95,.t (.θ 1 (cc.map (T.int .i64))))::(96,.t (.int .i64 ((cc.map (T.int .i64)).length:Int)))::(97,.t (.int .i64 ((s.1:Nat):Int)))::[]),EE d i V p s.2.1 s.2.2 [.box [.t (.str a.name),.t (.int .i64 a.aU)]]⟩)
    (fun s=>cc.length - s.1) (0,w0,w1) ⟨Nat.zero_le _,hB⟩ ?_ (fun⟨kk,u0,u1⟩ ⟨lE,uW⟩=> ?_)
   ·exact aM ⟨rfl,rfl,rfl,rfl,rfl,rfl,rfl,rfl,rfl,rfl,rfl,rfl,trivial⟩ rfl
   have lE:kk≤cc.length:=lE
   have uW:cF u0 u1 (jU d f V j kk):=uW
   refine U (fun c6=> ?_) (fun c6=> ?_)
   rotate_left 1
   ·have c6:kk=cc.length:=by have:=dm c6;omega
    exact nQ _ _ ⟨rfl,_,u0,u1,kk,uW.congr fun q _=>LU hG ha hk (by rw[c6,qg.1];omega) q,rfl⟩
   have c6:kk<cc.length:=by have:=de c6;omega
   obtain⟨p0,y,hy,sg,xm⟩:=hG.pos ha hk (m:=kk) (by rw[qg.1]at c6;omega)
   have SF:=qg.2 p0 y kk hy sg xm
   have V_:=(List.getElem?_eq_some_iff.1 hy).1
   have b9:=LS (V:=V) hG hy sg xm
   refine ν (show(cc.map (T.int .i64))[((kk:Nat):Int).toNat]?=some (.int .i64 ((p0:Nat):Int))from by rw[Int.toNat_natCast,List.getElem?_map,SF];rfl) ?_
   obtain⟨q,hq⟩:∃q,q=e/2^kk:=⟨_,rfl⟩
   have Gg:q≤e:=by rw[hq];exact Nat.div_le_self _ _
   obtain⟨tb,Gd⟩:∃tb,tb=e.testBit kk:=⟨_,rfl⟩
   have K4:q%2=if tb then 1 else 0:=by rw[hq,nat_bit,Gd]
   refine ε (decide_eq_true (show(0:Int)≤((kk:Nat):Int) by omega)) ?_
   refine δ (n:=((q:Nat):Int)) (show((e:Nat):Int).fdiv (2^(min ((kk:Nat):Int).toNat IntKind.u64.bits))=_ from by
    rw[Int.toNat_natCast,Nat.min_eq_left (show kk≤IntKind.u64.bits by show _≤64;omega),←cU,Int.fdiv_eq_ediv_of_nonneg _ (Int.natCast_nonneg _),←Int.natCast_ediv,hq]) ?_
   refine δ (n:=EU tb) (show ed .and .u64 ((q:Nat):Int) ((1:Nat):Int)=_ from by
    rw[mZ (by omega) (by decide),Nat.and_one_is_mod,K4];unfold EU;cases tb<;>rfl) ?_
   cases NX:tb
   ·have Lz:cF u0 u1 (jU d f V j (kk+1)):=uW.congr fun q _=>by rw[b9 q,Gi,←he,←Gd,NX];simp
    refine δ (n:=((kk+1:Nat):Int)) (aj (n:=kk+1) (by omega)) ?_
    conv=>whnf
    exact⟨⟨(kk+1,u0,u1),c6,Lz⟩,aM ⟨rfl,rfl,rfl,rfl,rfl,rfl,rfl,rfl,rfl,rfl,rfl,rfl,trivial⟩ rfl,by show cc.length - (kk+1)<cc.length - kk;omega⟩
   ·by_cases HY:p0<64
    ·have Lz:cF (u0|||2^p0) u1 (jU d f V j (kk+1)):=(uW.CP HY).congr fun q _=>by rw[b9 q,Gi,←he,←Gd,NX];simp
     refine γ.ξ ζ η Tryz.func91 rfl rfl ?_
     refine υ jd (by decide+kernel) ?_
     refine ε rfl ?_
     refine δ (n:=0) (show IntKind.i64.wrap (((p0:Nat):Int).tdiv 64)=0 from by rw[Int.tdiv_eq_ediv_of_nonneg (by omega),IntKind.wrap_i64];omega) ?_
     refine ε rfl ?_
     refine δ (n:=((p0:Nat):Int)) (show((p0:Nat):Int).tmod 64=_ from by rw[Int.tmod_eq_emod_of_nonneg (by omega)];omega) ?_
     refine ε (decide_eq_true (show(0:Int)≤((p0:Nat):Int) by omega)) ?_
     refine δ (n:=((2^p0:Nat):Int)) (gE rfl (by omega)) ?_
     refine δ (n:=((u0|||2^p0:Nat):Int)) (iq uW.1 (iw (by omega))) ?_
     refine And.intro (fun j hj=>by cases hj) ?_
     refine δ (n:=((kk+1:Nat):Int)) (aj (n:=kk+1) (by omega)) ?_
     conv=>whnf
     exact⟨⟨(kk+1,u0|||2^p0,u1),c6,Lz⟩,τ [0,1,2,3] rfl ⟨rfl,rfl,rfl,rfl,rfl,rfl,rfl,rfl,rfl,rfl,rfl,rfl,trivial⟩ ⟨rfl,rfl,rfl,rfl,trivial⟩,by show cc.length - (kk+1)<cc.length - kk;omega⟩
    ·obtain⟨kq,Lc⟩:∃kq,p0=64+kq:=⟨p0 - 64,by omega⟩
     have Lz:cF u0 (u1|||2^kq) (jU d f V j (kk+1)):=(uW.CO (i:=kq) (by omega)).congr fun q _=>by rw[b9 q,Gi,←he,←Gd,NX,Lc];simp
     refine γ.ξ ζ η Tryz.func91 rfl rfl ?_
     refine υ jd (by decide+kernel) ?_
     refine ε rfl ?_
     refine δ (n:=1) (show IntKind.i64.wrap (((p0:Nat):Int).tdiv 64)=1 from by rw[Int.tdiv_eq_ediv_of_nonneg (by omega),IntKind.wrap_i64];omega) ?_
     refine ε rfl ?_
     refine δ (n:=((kq:Nat):Int)) (show((p0:Nat):Int).tmod 64=_ from by rw[Int.tmod_eq_emod_of_nonneg (by omega)];omega) ?_
     refine ε (decide_eq_true (show(0:Int)≤((kq:Nat):Int) by omega)) ?_
     refine δ (n:=((2^kq:Nat):Int)) (gE rfl (by omega)) ?_
     refine δ (n:=((u1|||2^kq:Nat):Int)) (iq uW.2.1 (iw (by omega))) ?_
     refine And.intro (fun j hj=>by cases hj) ?_
     refine δ (n:=((kk+1:Nat):Int)) (aj (n:=kk+1) (by omega)) ?_
     conv=>whnf
     exact⟨⟨(kk+1,u0,u1|||2^kq),c6,Lz⟩,τ [0,1,2,3] rfl ⟨rfl,rfl,rfl,rfl,rfl,rfl,rfl,rfl,rfl,rfl,rfl,rfl,trivial⟩ ⟨rfl,rfl,rfl,rfl,trivial⟩,by show cc.length - (kk+1)<cc.length - kk;omega⟩
  rintro _ _ ⟨rfl,b0,u0,u1,kk,uW,rfl⟩
  refine δ (n:=((j+1:Nat):Int)) (aj (n:=j+1) (by omega)) ?_
  conv=>whnf
  exact⟨⟨(j+1,u0,u1),c4,uW,fun j' a' v' pP oc kr=>by
   by_cases h:j'=j
   ·subst h
    rw[ha]at oc;cases oc
    rw[hv]at kr;cases kr
    rw[D8];exact c5
   ·exact hH j' a' v' (by omega) oc kr⟩,τ [0,1,2] rfl ⟨rfl,rfl,rfl,rfl,rfl,rfl,rfl,trivial⟩ ⟨rfl,rfl,rfl,trivial⟩,by show f.args.length - (j+1)<f.args.length - j;omega⟩
 rintro _ _ (⟨rfl,bZ,b0,w0,w1,hB,rfl⟩|⟨rfl,kt,env,w0,w1,X,rfl⟩)
 rotate_left 1
 ·exact⟨_,.inr (.inl ⟨i,f,rfl,hf,c3,kt,rfl⟩),⟨⟨_,_,rfl,.refl _⟩,⟨_,_,rfl,.refl _⟩,trivial⟩,rfl⟩
 have bE:p.sz≤15:=by omega
 refine ε (VZ (b:=((p.sz:Nat):Int)) (by omega) (by omega)) ?_
 refine U (fun c=>absurd (of_decide_eq_true c) (by omega)) (fun _=> ?_)
 have hz:List.replicate ((p.sz:Nat):Int).toNat (T.int .u8 0)=bc (kh w0 w1 p.sz 0):=by rw[Int.toNat_natCast];unfold kh gx bc;simp
 refine b_ (fun e s'=>e= .exit 4∧∃(b0:AV),s'=⟨[(117,b0),(7,.ptr 2 0 0 0),(13,.sl 3 0 0 p.sz),(115,.t (.int .i64 ((p.sz:Nat):Int))),(116,.t (.int .i64 ((p.sz:Nat):Int)))],EE d i V p w0 w1 [.arr FP 1 false 0 (.ts (bc (kh w0 w1 p.sz p.sz)))]⟩) (fun zL HQ=> ?_) ?_
 ·refine ao (fun jb:Nat=>jb≤p.sz) (fun jb=>⟨[(7,.ptr 2 0 0 0),(13,.sl 3 0 0 p.sz),(115,.t (.int .i64 ((p.sz:Nat):Int))),(116,.t (.int .i64 ((jb:Nat):Int)))],EE d i V p w0 w1 [.arr FP 1 false 0 (.ts (bc (kh w0 w1 p.sz jb)))]⟩)
   (fun jb=>p.sz - jb) 0 (Nat.zero_le _) ?_ (fun jb xu=> ?_)
  ·exact τ [0,1,2,3] rfl ⟨rfl,congrArg (fun n:Nat=>some (AV.sl 3 0 0 n)) (Int.toNat_natCast p.sz),congrArg (fun n:Nat=>some (AV.t (T.int .i64 (n:Int)))) (Int.toNat_natCast p.sz),rfl,trivial⟩ ⟨rfl,rfl,rfl,congrArg (fun l=>some (Ω.arr FP 1 false 0 (.ts l))) hz,trivial⟩
  have xu:jb≤p.sz:=xu
  have uR:(bc (kh w0 w1 p.sz jb)).length=p.sz:=by unfold bc;rw[List.length_map,xQ xu]
  refine U (fun c7=> ?_) (fun c7=> ?_)
  rotate_left 1
  ·have c7:jb=p.sz:=by have:=of_decide_eq_false c7;omega
   subst c7
   exact HQ _ _ ⟨rfl,_,rfl⟩
  have xu:jb<p.sz:=by have:=of_decide_eq_true c7;omega
  by_cases h8:jb<8
  ·have pM:fN w0 w1 jb=w0/2^(8*jb)%256:=by unfold fN;rw[if_pos h8]
   obtain⟨q,hq⟩:∃q,q=w0/2^(8*jb):=⟨_,rfl⟩
   obtain⟨wb,DP⟩:∃wb,wb=fN w0 w1 jb:=⟨_,rfl⟩
   rw[←hq,←DP]at pM
   have oH:=CU (w0:=w0) (w1:=w1) xu
   rw[←DP]at oH
   have oH:(bc (kh w0 w1 p.sz jb)).set (0+((jb:Nat):Int).toNat) (T.int .u8 ((wb:Nat):Int))=bc (kh w0 w1 p.sz (jb+1)):=by rw[Int.toNat_natCast,Nat.zero_add];exact oH
   refine ε rfl ?_
   refine δ (n:=0) (show IntKind.i64.wrap (((jb:Nat):Int).tdiv 8)=0 from by rw[Int.tdiv_eq_ediv_of_nonneg (by omega),IntKind.wrap_i64];omega) ?_
   refine ε rfl ?_
   refine δ (n:=((jb:Nat):Int)) (show((jb:Nat):Int).tmod 8=_ from by rw[Int.tmod_eq_emod_of_nonneg (by omega)];omega) ?_
   obtain⟨j8,D3⟩:∃j8,j8=8*jb:=⟨_,rfl⟩
   refine δ (n:=((j8:Nat):Int)) (show IntKind.i64.wrap (((jb:Nat):Int)*8)=_ from by rw[IntKind.wrap_i64];omega) ?_
   refine ε (decide_eq_true (show(0:Int)≤((j8:Nat):Int) by omega)) ?_
   refine δ (n:=((q:Nat):Int)) (show((w0:Nat):Int).fdiv (2^(min ((j8:Nat):Int).toNat IntKind.u64.bits))=_ from by
    rw[Int.toNat_natCast,Nat.min_eq_left (show j8≤IntKind.u64.bits by show _≤64;omega),←cU,Int.fdiv_eq_ediv_of_nonneg _ (Int.natCast_nonneg _),←Int.natCast_ediv,hq,D3]) ?_
   refine δ (n:=((wb:Nat):Int)) (show IntKind.u8.wrap ((q:Nat):Int)=_ from by rw[IntKind.wrap_u8];omega) ?_
   refine ε (fu rfl (by omega) (by omega)) ?_
   obtain⟨x,hx,_⟩:=get_some (R:=kh w0 w1 p.sz jb) (i:=jb) (by rw[xQ (by omega)];exact xu)
   refine ν (gz (f:=fun c:UInt8=>T.int .u8 c.toNat) (i:=((jb:Nat):Int)) rfl hx) ?_
   refine δ (n:=((jb+1:Nat):Int)) (aj (n:=jb+1) (by omega)) ?_
   conv=>whnf
   exact⟨⟨jb+1,xu⟩,τ [0,1,2,3] rfl ⟨rfl,rfl,rfl,rfl,trivial⟩ ⟨rfl,rfl,rfl,congrArg (fun l=>some (Ω.arr FP 1 false 0 (.ts l))) oH,trivial⟩,by show p.sz - (jb+1)<p.sz - jb;omega⟩
  ·obtain⟨kb,lQ⟩:∃kb,jb=8+kb:=⟨jb - 8,by omega⟩
   have pM:fN w0 w1 jb=w1/2^(8*kb)%256:=by unfold fN;rw[if_neg h8,show jb - 8=kb by omega]
   obtain⟨q,hq⟩:∃q,q=w1/2^(8*kb):=⟨_,rfl⟩
   obtain⟨wb,DP⟩:∃wb,wb=fN w0 w1 jb:=⟨_,rfl⟩
   rw[←hq,←DP]at pM
   have oH:=CU (w0:=w0) (w1:=w1) xu
   rw[←DP]at oH
   have oH:(bc (kh w0 w1 p.sz jb)).set (0+((jb:Nat):Int).toNat) (T.int .u8 ((wb:Nat):Int))=bc (kh w0 w1 p.sz (jb+1)):=by rw[Int.toNat_natCast,Nat.zero_add];exact oH
   refine ε rfl ?_
   refine δ (n:=1) (show IntKind.i64.wrap (((jb:Nat):Int).tdiv 8)=1 from by rw[Int.tdiv_eq_ediv_of_nonneg (by omega),IntKind.wrap_i64];omega) ?_
   refine ε rfl ?_
   refine δ (n:=((kb:Nat):Int)) (show((jb:Nat):Int).tmod 8=_ from by rw[Int.tmod_eq_emod_of_nonneg (by omega)];omega) ?_
   obtain⟨j8,D3⟩:∃j8,j8=8*kb:=⟨_,rfl⟩
   refine δ (n:=((j8:Nat):Int)) (show IntKind.i64.wrap (((kb:Nat):Int)*8)=_ from by rw[IntKind.wrap_i64];omega) ?_
   refine ε (decide_eq_true (show(0:Int)≤((j8:Nat):Int) by omega)) ?_
   refine δ (n:=((q:Nat):Int)) (show((w1:Nat):Int).fdiv (2^(min ((j8:Nat):Int).toNat IntKind.u64.bits))=_ from by
    rw[Int.toNat_natCast,Nat.min_eq_left (show j8≤IntKind.u64.bits by show _≤64;omega),←cU,Int.fdiv_eq_ediv_of_nonneg _ (Int.natCast_nonneg _),←Int.natCast_ediv,hq,D3]) ?_
   refine δ (n:=((wb:Nat):Int)) (show IntKind.u8.wrap ((q:Nat):Int)=_ from by rw[IntKind.wrap_u8];omega) ?_
   refine ε (fu rfl (by omega) (by omega)) ?_
   obtain⟨x,hx,_⟩:=get_some (R:=kh w0 w1 p.sz jb) (i:=jb) (by rw[xQ (by omega)];exact xu)
   refine ν (gz (f:=fun c:UInt8=>T.int .u8 c.toNat) (i:=((jb:Nat):Int)) rfl hx) ?_
   refine δ (n:=((jb+1:Nat):Int)) (aj (n:=jb+1) (by omega)) ?_
   conv=>whnf
   exact⟨⟨jb+1,xu⟩,τ [0,1,2,3] rfl ⟨rfl,rfl,rfl,rfl,trivial⟩ ⟨rfl,rfl,rfl,congrArg (fun l=>some (Ω.arr FP 1 false 0 (.ts l))) oH,trivial⟩,by show p.sz - (jb+1)<p.sz - jb;omega⟩
 rintro _ _ ⟨rfl,b1,rfl⟩
 have hlen:(gx w0 w1 p.sz).length=p.sz:=m_ _ _ _
 have qg:kh w0 w1 p.sz p.sz=gx w0 w1 p.sz:=by unfold kh;simp
 refine⟨_,.inr (.inr ⟨i,f,gx w0 w1 p.sz,rfl,hf,c3,bZ,by rw[hlen];exact Sw,fun q hq=>by rw[hlen]at hq;rw[Mf hq (by omega)];exact tu hB (by omega),rfl⟩),⟨⟨_,_,rfl,?_⟩,⟨_,_,rfl,.refl _⟩,trivial⟩,rfl⟩
 rw[qg,oN (by unfold bc;rw[List.length_map,hlen])]
 exact .vec 1 _
end Go.Proofs.YtcogcbplmkcojaaGreatDoor
