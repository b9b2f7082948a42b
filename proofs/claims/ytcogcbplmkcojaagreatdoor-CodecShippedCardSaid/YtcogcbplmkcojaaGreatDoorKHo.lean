/-
  Check: what a description is that it lets pass (walk).
-/
import Derived.Test.YtcogcbplmkcojaaGreatDoorKHn
namespace Go.Proofs.YtcogcbplmkcojaaGreatDoor
open Go.IntWalk
set_option maxRecDepth 100000
set_option linter.unusedVariables false
set_option linter.unusedSimpArgs false
set_option maxHeartbeats 1000000
def M8:Ord:=(.op 0 [] (.op 1 [0] (.op 2 [0] (.op 3 [2,1,0] (.op 4 [0] (.op 5 [0] (.op 6 [5,4,3,2,1,0] (.op 7 [6,5,4,3,2,1,0] (.op 8 [7,6,5,4,3,2,1,0] (.op 9 [6,5,4,3,2,1,0] (.op 10 [6,5,4,3,2,1,0] (.op 11 [10,9,8,7,6,5,4,3,2,1,0] (.op 12 [11,10,9,8,7,6,5,4,3,2,1,0] (.op 13 [10,9,8,7,6,5,4,3,2,1,0] (.op 14 [10,9,8,7,6,5,4,3,2,1,0] (.op 15 [] (.op 16 [] .nil)))))))))))))))))
structure gr(d:ο):Prop where
 parts:mW d
 forms:∀f∈d.forms,bG d f
 apart:∀(i j:Nat) f g,i<j→d.forms[i]?=some f→d.forms[j]?=some g→j6 d f g
 PX:∀f∈d.forms,∀t∈f.h_,e_ d f t
 rest:zH d
def nR(d:ο)(f:Ψ):Prop:=bG d f∧∀t∈f.h_,e_ d f t
inductive fC(d:ο):Int→Int→Prop
 |parts (h:¬mW d):fC d (-1) 51
 |pattern (i:Nat) (f) (hp:mW d) (hf:d.forms[i]?=some f) (hb:∀(k:Nat) g,k<i→d.forms[k]?=some g→nR d g) (h:¬bG d f):fC d i 52
 |UX (i:Nat) (f) (hp:mW d) (hf:d.forms[i]?=some f) (hb:∀(k:Nat) g,k<i→d.forms[k]?=some g→nR d g) (hG:bG d f) (h:¬∀t∈f.h_,e_ d f t):fC d i 53
 |P0 (i j:Nat) (f g) (hp:mW d) (ha:∀(k:Nat) g,d.forms[k]?=some g→nR d g) (hi:i<j) (hf:d.forms[i]?=some f) (hg:d.forms[j]?=some g)
  (hb:∀(i' j':Nat) f g,i'<j'→j'<j→d.forms[i']?=some f→d.forms[j']?=some g→j6 d f g) (h:¬j6 d f g):fC d j 54
 |rest (hp:mW d) (ha:∀(k:Nat) g,d.forms[k]?=some g→nR d g) (hA:∀(i j:Nat) f g,i<j→d.forms[i]?=some f→d.forms[j]?=some g→j6 d f g) (h:¬zH d):fC d (-1) 51
 |ok (h:gr d):fC d 0 0
theorem fC.WL{d:ο}{n e:Int}(h:fC d n e)(he:e=0):gr d:=by
 cases h<;>first|assumption|omega
theorem gr.form{d:ο}(h:gr d){k:Nat}{g:Ψ}(hg:d.forms[k]?=some g):nR d g:=⟨h.forms g (List.mem_of_getElem? hg),h.PX g (List.mem_of_getElem? hg)⟩
theorem fC.O0{d:ο}{n e:Int}(h:fC d n e)(k:gr d):n=0∧e=0:=by
 cases h with
 |parts h=>exact absurd k.parts h
 |pattern i f hp hf hb h=>exact absurd (k.form hf).1 h
 |UX i f hp hf hb hG h=>exact absurd (k.form hf).2 h
 |P0 i j f g hp ha hi hf hg hb h=>exact absurd (k.apart i j f g hi hf hg) h
 |rest hp ha hA h=>exact absurd k.rest h
 |ok h=>exact⟨rfl,rfl⟩
def wA(d:ο)(r:AV):Prop:=∃n e:Int,r= .aq [.t (.int .i64 n),.t (.int .i64 e)]∧fC d n e
theorem wA.aJ{d:ο}:∀r,wA d r→aJ r=true:=by rintro r ⟨_,_,rfl,_⟩;rfl
def Ms(d:ο)(r:AV):Prop:=∃n e:Int,r= .aq [.t (.int .i64 n),.t (.int .i64 e)]∧(e=0→gr d)
theorem Ms.aJ{d:ο}:∀r,Ms d r→aJ r=true:=by rintro r ⟨_,_,rfl,_⟩;rfl
theorem pY{d:ο}{n e:Int}{H:AH}(h:fC d n e):∃r,wA d r∧qI r (.aq [.t (.int .i64 n),.t (.int .i64 e)]) H:=
 ⟨_,⟨n,e,rfl,h⟩,⟨⟨_,_,rfl,.refl _⟩,⟨_,_,rfl,.refl _⟩,trivial⟩,rfl⟩
abbrev vb:Nat:= 77
theorem TQ{n:Nat}(h:n≤100000):cI n 56=true:=by simp[cI];omega
def E3(d:ο)(l:List T):Prop:=l.length≤d.forms.length∧∀k f,k<l.length→d.forms[k]?=some f→bG d f∧∃m0 m1 w0 w1:Nat,l[k]?=some (tQ (.vec 3 ((ψ d f).map bF)) m0 m1 w0 w1)∧dV (ψ d f) (ψ d f).length m0 m1 w0 w1
theorem E3.snoc{d:ο}{l:List T}{f:Ψ}{m0 m1 w0 w1:Nat}(h:E3 d l)(hf:d.forms[l.length]?=some f)(hG:bG d f)(hp:dV (ψ d f) (ψ d f).length m0 m1 w0 w1):E3 d (l++[tQ (.vec 3 ((ψ d f).map bF)) m0 m1 w0 w1]):=by
 have hl:=(List.getElem?_eq_some_iff.1 hf).1
 refine⟨by simp;omega,fun k g hk hg=> ?_⟩
 by_cases e:k<l.length
 ·rw[List.getElem?_append_left e];exact h.2 k g e hg
 ·have e2:k=l.length:=by simp at hk;omega
  subst e2
  rw[hf]at hg
  obtain rfl:=Option.some.inj hg
  exact⟨hG,m0,m1,w0,w1,by simp,hp⟩
theorem FC(d:ο)(hd:d.ok)(hs:∀f∈d.forms,fP f.pieces≤2000000000000):ab Tryz.prog 10 [ax d] (wA d):=by
 have S9:∀f∈d.forms,f.ok:=hd.2.2.2.2.2.2.2.2.2.2.2.1
 have Xn:=JX d hd
 have pN:=MZ d hd
 have Xu:(d.forms.map ah).length=d.forms.length:=by simp
 refine ab.Γ ?_ wA.aJ
 refine γ.ξ ζ η Tryz.func10 rfl rfl ?_
 refine γ.cH Xn rfl ⟨.refl _,trivial⟩ ?_
 rintro _ ⟨bp,rfl,hp⟩
 refine U (fun c1=> ?_) (fun c1=> ?_)
 ·exact pY (.parts fun h=>absurd (hp.2 h) (by simpa using c1))
 have hp:=hp.1 (by simpa using c1)
 have BE:d.forms.length≤512:=hp.fl
 refine b_ (fun e s'=>(e= .exit 0∧∃(P:List T),E3 d P∧(∀(k:Nat) g,k<P.length→d.forms[k]?=some g→nR d g)∧P.length=d.forms.length∧s'=⟨[(21,.t (.bool (decide ((P.length:Int)<((d.forms.map ah).length:Int))))),(1,.ptr 0 0 0 0),(4,.ptr 1 0 0 0),(5,.sl 2 0 0 P.length),(18,.t (.θ 5 (d.forms.map ah))),(19,.t (.int .i64 ((d.forms.map ah).length:Int))),(20,.t (.int .i64 P.length))],[.box (dn d),.box (dn d),.arr vb 5 true 0 (.ts P)]⟩)∨
  (e= .ret∧∃env H n k,s'=⟨(3,.t (.int .i64 k))::(2,.t (.int .i64 n))::env,H⟩∧fC d n k)) (fun Q' hq=> ?_) ?_
 ·refine ao (fun P:List T=>E3 d P∧∀(k:Nat) g,k<P.length→d.forms[k]?=some g→nR d g) (fun P=>⟨[(1,.ptr 0 0 0 0),(4,.ptr 1 0 0 0),(5,.sl 2 0 0 P.length),(18,.t (.θ 5 (d.forms.map ah))),(19,.t (.int .i64 ((d.forms.map ah).length:Int))),(20,.t (.int .i64 P.length))],[.box (dn d),.box (dn d),.arr vb 5 true 0 (.ts P)]⟩)
   (fun P=>d.forms.length - P.length) [] ⟨⟨Nat.zero_le _,fun k f h=>absurd h (Nat.not_lt_zero _)⟩,fun k f h=>absurd h (Nat.not_lt_zero _)⟩ ?_ (fun P ⟨hP,Gp⟩=> ?_)
  ·exact aM ⟨rfl,rfl,rfl,rfl,rfl,rfl,trivial⟩ rfl
  refine U (fun c=> ?_) (fun c=> ?_)
  ·have c:P.length<d.forms.length:=by have:=de c;omega
   obtain⟨f,hf,kv⟩:=get_some (R:=d.forms) (i:=P.length) c
   have ie:=S9 f kv
   refine ν (show(d.forms.map ah)[((P.length:Nat):Int).toNat]?=some (ah f)from by rw[Int.toNat_natCast,List.getElem?_map,hf];rfl) ?_
   refine γ.cH (C6 d f hd ie (hs f kv)) rfl ⟨.refl _,.refl _,trivial⟩ ?_
   rintro _ (⟨rfl,Xq⟩|⟨m0,m1,w0,w1,rfl,hG,hO⟩)
   ·exact hq _ _ (.inr ⟨rfl,_,_,_,_,rfl,.pattern P.length f hp hf Gp Xq⟩)
   have bZ:ab Tryz.prog 24 [.θ 5 f.h_,.fn (.func 25) [] [nM d,Gv f]] (aR (∀x∈f.h_,e_ d f x)):=
    xD _ (nM d) (Gv f) f.h_ (e_ d f) (dY ie.2.2.2.2.2.2.1) (ie.2.2.2.2.2.2.2) fun x hx=>Fx d f (ie.2.2.2.2.2.2.2 x hx)
   refine Or.inl (And.intro (by simp[Sq.length]) (ε (TQ (n:=P.length+1) (by omega)) ?_))
   refine γ.wG bZ rfl ⟨.refl _,.refl _,trivial⟩ aR.flat ?_
   rintro _ ⟨ba,rfl,pE⟩
   refine U (fun c2=> ?_) (fun c2=> ?_)
   ·exact hq _ _ (.inr ⟨rfl,_,_,_,_,rfl,.UX P.length f hp hf Gp hG fun h=>absurd (pE.2 h) (by simpa using c2)⟩)
   have hE:=pE.1 (by simpa using c2)
   obtain⟨z,hz⟩:∃z,z=tQ (.vec 3 ((ψ d f).map bF)) m0 m1 w0 w1:=⟨_,rfl⟩
   have eN:P.length+1=(P++[z]).length:=by simp
   refine δ (n:=((P.length+1:Nat):Int)) (aj (n:=P.length+1) (by omega)) ?_
   conv=>whnf
   exact⟨⟨P++[z],by rw[hz];exact hP.snoc hf hG hO,fun k g hk hg=>by
    by_cases e:k<P.length
    ·exact Gp k g e hg
    ·have e2:k=P.length:=by rw[←eN]at hk;omega
     subst e2
     rw[hf]at hg;cases hg
     exact⟨hG,hE⟩⟩,τ [0,1,2] rfl ⟨rfl,rfl,(show some (AV.sl 2 0 0 (P.length+1))=some (AV.sl 2 0 0 (P++[z]).length)from by rw[eN]),rfl,rfl,(show some (AV.t (.int .i64 ((P.length+1:Nat):Int)))=some (AV.t (.int .i64 (((P++[z]).length:Nat):Int)))from by rw[eN]),trivial⟩ ⟨rfl,rfl,(show some (Ω.arr vb 5 true 0 (.ts (P++[tQ (.vec 3 ((ψ d f).map bF)) m0 m1 w0 w1])))=some (Ω.arr vb 5 true 0 (.ts (P++[z])))from by rw[hz]),trivial⟩,by show d.forms.length - (P++[z]).length<d.forms.length - P.length;rw[←eN];omega⟩
  ·have c:P.length=d.forms.length:=by have:=dm c;have:=hP.1;omega
   exact hq _ _ (.inl ⟨rfl,P,hP,Gp,c,rfl⟩)
 rintro _ _ (⟨rfl,P,hP,Gp,xx,rfl⟩|⟨rfl,env,H,n,k,rfl,hk⟩)
 rotate_left 1
 ·exact pY hk
 have Tx:∀(k:Nat) g,d.forms[k]?=some g→nR d g:=fun k g hg=>Gp k g (by have:=(List.getElem?_eq_some_iff.1 hg).1;omega) hg
 refine b_ (fun e s'=>(e= .exit 2∧(∀(i j:Nat) f g,i<j→d.forms[i]?=some f→d.forms[j]?=some g→j6 d f g)∧∃b env,s'=⟨(47,b)::(4,.ptr 1 0 0 0)::env,[.box (dn d),.box (dn d),.arr vb 5 true 0 (.ts P)]⟩)∨
  (e= .ret∧∃env H n k,s'=⟨(3,.t (.int .i64 k))::(2,.t (.int .i64 n))::env,H⟩∧fC d n k)) (fun Q' hq=> ?_) ?_
 ·refine ao (fun j:Nat=>j≤d.forms.length∧∀(i' j':Nat) f g,i'<j'→j'<j→d.forms[i']?=some f→d.forms[j']?=some g→j6 d f g) (fun j=>⟨[(4,.ptr 1 0 0 0),(1,.ptr 0 0 0 0),(5,.sl 2 0 0 P.length),(44,.t (.θ 5 (d.forms.map ah))),(45,.t (.int .i64 ((d.forms.map ah).length:Int))),(46,.t (.int .i64 j))],[.box (dn d),.box (dn d),.arr vb 5 true 0 (.ts P)]⟩)
   (fun j=>d.forms.length - j) 0 ⟨Nat.zero_le _,fun _ _ _ _ _ h=>absurd h (Nat.not_lt_zero _)⟩ ?_ (fun j ⟨hj,hA⟩=> ?_)
  ·exact aM ⟨rfl,rfl,rfl,rfl,rfl,rfl,trivial⟩ rfl
  refine U (fun c=> ?_) (fun c=> ?_)
  ·have c:j<d.forms.length:=by have:=de c;omega
   obtain⟨g,hg,Vl⟩:=get_some (R:=d.forms) (i:=j) c
   obtain⟨XF,b0,b1,v0,v1,XD,XE⟩:=hP.2 j g (by omega) hg
   refine ν (show(d.forms.map ah)[((j:Nat):Int).toNat]?=some (ah g)from by rw[Int.toNat_natCast,List.getElem?_map,hg];rfl) ?_
   refine b_ (fun e s'=>(e= .exit 4∧(∀(i':Nat) f,i'<j→d.forms[i']?=some f→j6 d f g)∧∃i:Nat,s'=⟨[(53,.t (.bool (decide ((i:Int)<(j:Int))))),(4,.ptr 1 0 0 0),(1,.ptr 0 0 0 0),(5,.sl 2 0 0 P.length),(44,.t (.θ 5 (d.forms.map ah))),(45,.t (.int .i64 ((d.forms.map ah).length:Int))),(46,.t (.int .i64 j)),(9,.t (.int .i64 j)),(10,.ptr 3 0 0 0),(51,.t (.int .i64 j)),(52,.t (.int .i64 i))],[.box (dn d),.box (dn d),.arr vb 5 true 0 (.ts P),.box (iX g)]⟩)∨
    (e= .ret∧∃env H n k,s'=⟨(3,.t (.int .i64 k))::(2,.t (.int .i64 n))::env,H⟩∧fC d n k)) (fun Q2 K4=> ?_) ?_
   ·refine ao (fun i:Nat=>i≤j∧∀(i':Nat) f,i'<i→d.forms[i']?=some f→j6 d f g) (fun i=>⟨[(4,.ptr 1 0 0 0),(1,.ptr 0 0 0 0),(5,.sl 2 0 0 P.length),(44,.t (.θ 5 (d.forms.map ah))),(45,.t (.int .i64 ((d.forms.map ah).length:Int))),(46,.t (.int .i64 j)),(9,.t (.int .i64 j)),(10,.ptr 3 0 0 0),(51,.t (.int .i64 j)),(52,.t (.int .i64 i))],[.box (dn d),.box (dn d),.arr vb 5 true 0 (.ts P),.box (iX g)]⟩)
     (fun i=>j - i) 0 ⟨Nat.zero_le _,fun _ _ h=>absurd h (Nat.not_lt_zero _)⟩ ?_ (fun i ⟨hi,hI⟩=> ?_)
    ·exact aM ⟨rfl,rfl,rfl,rfl,rfl,rfl,rfl,rfl,rfl,rfl,trivial⟩ rfl
    refine U (fun c3=> ?_) (fun c3=> ?_)
    ·have c3:i<j:=by have:=of_decide_eq_true c3;omega
     obtain⟨f,hf,kv⟩:=get_some (R:=d.forms) (i:=i) (by omega)
     obtain⟨XJ,a0,a1,u0,u1,XH,XI⟩:=hP.2 i f (by omega) hf
     refine υ M8 (by decide+kernel) ?_
     refine ν (show(d.forms.map ah)[((i:Nat):Int).toNat]?=some (ah f)from by rw[Int.toNat_natCast,List.getElem?_map,hf];rfl) ?_
     refine ε (Ax rfl (by omega)) ?_
     refine ν (show P[0+i]?=_ from by rw[Nat.zero_add];exact XH) ?_
     refine ε (Ax rfl (by omega)) ?_
     refine ν (show P[0+j]?=_ from by rw[Nat.zero_add];exact XD) ?_
     refine γ.cH (Mo d f g hd XJ XF XI XE) rfl ⟨.refl _,.refl _,.refl _,.refl _,.refl _,trivial⟩ ?_
     rintro _ ⟨ba,rfl,pa⟩
     refine And.intro (fun j hj=>by first|(cases hj;done)|exact χ.append _ _ _|exact χ.refl _ _) ?_
     refine U (fun c4=> ?_) (fun c4=> ?_)
     ·exact K4 _ _ (.inr ⟨rfl,_,_,_,_,rfl,.P0 i j f g hp Tx c3 hf hg hA fun h=>absurd (pa.2 h) (by simpa using c4)⟩)
     have pa:=pa.1 (by simpa using c4)
     refine δ (n:=((i+1:Nat):Int)) (aj (n:=i+1) (by omega)) ?_
     conv=>whnf
     exact⟨⟨i+1,c3,fun i' f' h' rD=>by
      by_cases e:i'=i
      ·subst e
       rw[hf]at rD
       obtain rfl:=Option.some.inj rD
       exact pa
      ·exact hI i' f' (by omega) rD⟩,τ [0,1,2,3] rfl ⟨rfl,rfl,rfl,rfl,rfl,rfl,rfl,rfl,rfl,rfl,trivial⟩ ⟨rfl,rfl,rfl,rfl,trivial⟩,by show j - (i+1)<j - i;omega⟩
    ·have c3:i=j:=by have:=of_decide_eq_false c3;omega
     exact K4 _ _ (.inl ⟨rfl,fun i' f' h'=>hI i' f' (by omega),i,rfl⟩)
   rintro _ _ (⟨rfl,hI,i,rfl⟩|⟨rfl,env,H,n,k,rfl,hk⟩)
   ·refine δ (n:=((j+1:Nat):Int)) (aj (n:=j+1) (by omega)) ?_
    conv=>whnf
    exact⟨⟨j+1,c,fun i' j' f' g' h1 h2 rD dZ=>by
     by_cases e:j'=j
     ·subst e
      rw[hg]at dZ
      obtain rfl:=Option.some.inj dZ
      exact hI i' f' h1 rD
     ·exact hA i' j' f' g' h1 (by omega) rD dZ⟩,τ [0,1,2] rfl ⟨rfl,rfl,rfl,rfl,rfl,rfl,trivial⟩ ⟨rfl,rfl,rfl,trivial⟩,by show d.forms.length - (j+1)<d.forms.length - j;omega⟩
   ·exact hq _ _ (.inr ⟨rfl,_,_,_,_,rfl,hk⟩)
  ·have c:j=d.forms.length:=by have:=dm c;omega
   exact hq _ _ (.inl ⟨rfl,fun i' j' f' g' h1 rD dZ=>hA i' j' f' g' h1 (by have:=(List.getElem?_eq_some_iff.1 dZ).1;omega) rD dZ,_,_,rfl⟩)
 rintro _ _ (⟨rfl,hA,b0,env,rfl⟩|⟨rfl,env,H,n,k,rfl,hk⟩)
 rotate_left 1
 ·exact pY hk
 refine γ.cH pN rfl ⟨.refl _,trivial⟩ ?_
 rintro _ ⟨br,rfl,pr⟩
 refine U (fun c5=> ?_) (fun c5=> ?_)
 ·exact pY (.rest hp Tx hA fun h=>absurd (pr.2 h) (by simpa using c5))
 ·have hm:∀f∈d.forms,nR d f:=fun f hf=>by
   obtain⟨k,hk⟩:=List.getElem?_of_mem hf
   exact Tx k f hk
  exact pY (.ok ⟨hp,fun f hf=>(hm f hf).1,hA,fun f hf=>(hm f hf).2,pr.1 (by simpa using c5)⟩)
end Go.Proofs.YtcogcbplmkcojaaGreatDoor
