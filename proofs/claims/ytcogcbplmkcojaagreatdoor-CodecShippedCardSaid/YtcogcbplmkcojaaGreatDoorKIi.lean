/-
  codec.New (walk).
-/
import Derived.Test.YtcogcbplmkcojaaGreatDoorKIG
import Derived.Test.YtcogcbplmkcojaaGreatDoorKIe
namespace Go.Proofs.YtcogcbplmkcojaaGreatDoor
open Go.IntWalk
set_option maxRecDepth 100000
set_option linter.unusedVariables false
set_option linter.unusedSimpArgs false
set_option maxHeartbeats 4000000
def Nq:Ord:=(.op 0 [] (.op 1 [0] (.op 2 [0] (.op 3 [0] (.op 4 [0] (.op 5 [4,3,2,1,0] (.op 6 [4,3,2,1,0] (.op 7 [0] (.op 8 [] (.op 9 [] (.op 10 [] .nil)))))))))))
def Kr:Ord:=(.op 0 [] (.op 1 [0] (.op 2 [0] (.op 3 [0] (.op 4 [0] (.op 5 [4,3,2,1,0] (.op 6 [4,3,2,1,0] (.op 7 [4,3,2,1,0] (.op 8 [4,3,2,1,0] (.op 9 [0] (.op 10 [] (.op 11 [] (.op 12 [] .nil)))))))))))))
def Kq:Ord:=(.op 0 [] (.op 1 [0] (.op 2 [0] (.op 3 [0] (.op 4 [0] (.op 5 [4,3,2,1,0] (.op 6 [5,4,3,2,1,0] (.op 7 [4,3,2,1,0] (.op 8 [4,3,2,1,0] (.op 9 [0] (.op 10 [] (.op 11 [] (.op 12 [] .nil)))))))))))))
def T3(b:Nat)(j:Nat):List Nat:=match j with|0=>[b]|_=>[]
def IM(d:ο)(r:AV):Prop:=(∃n e:Int,e≠0∧fC d n e∧r= .aq [.t .dj,.t (.int .i64 e)])∨
 (∃(P:List cE) (root:dF),gr d∧P.length=d.forms.length∧(∀(i:Nat) f p,d.forms[i]?=some f→P[i]?=some p→p.wf∧nP d f (.t p.t))∧mg P (List.range d.forms.length) root∧r= .aq [.t (fU d P root.t),.t (.int .i64 0)])
theorem IM.aJ{d:ο}:∀r,IM d r→aJ r=true:=by
 rintro r (⟨n,e,_,_,rfl⟩|⟨P,root,_,_,_,_,rfl⟩)
 ·rfl
 ·rfl
def nH(d:ο)(K:List cg)(A:List Ψ)(P:List cE):AH:=[.box (dn d),.box [.sl 2 0 0 K.length,.sl 3 0 0 A.length,.sl 4 0 0 P.length,.t .dj],.arr 95 7 true 0 (.ts (K.map aF)),.arr 41 1 true 0 (.ts (A.map fun f=> .θ 2 (f.args.map Λ))),.arr 122 7 true 0 (.ts (P.map cE.t))]
def nE(d:ο)(a:AV)(i:Nat):List (Nat×AV):=[(1,.ptr 0 0 0 0),(6,.ptr 1 0 0 0),(9,a),(45,.t (.θ 5 (d.forms.map ah))),(46,.t (.int .i64 ((d.forms.map ah).length:Int))),(47,.t (.int .i64 ((i:Nat):Int)))]
def nZ(d:ο)(A:List Ψ)(P:List cE):AH:=[.box (dn d),.box [.t (.θ 7 (d.classes.map aF)),.t (.θ 1 (A.map fun f=> .θ 2 (f.args.map Λ))),.t (.θ 7 (P.map cE.t)),.t .dj],.dead,.dead,.dead,.dead]
def nS(d:ο)(b:Bool)(i:Nat)(A:List Ψ)(P:List cE)(R:List Nat):St:=
 match b with
 |false=>⟨nE d (.sl 5 0 0 R.length) i,nH d d.classes A P++[.arr tI 1 true 0 (.ts (aG R))]⟩
 |true=>⟨nE d (.t (.θ 1 (aG R))) i,nZ d A P⟩
theorem Uo(d:ο)(a b:AV)(i t:Nat)(h:t≠9):lk (nE d a i) t=lk (nE d b i) t:=by
 have:Nat.beq 9 t=false:=by
  cases h9:Nat.beq 9 t with
  |false=>rfl
  |true=>exact absurd (Nat.eq_of_beq_eq_true h9).symm h
 simp only[nE,lk,this]
theorem oN{l:List T}{n:Nat}(h:n=l.length):(l.drop 0).take n=l:=by rw[List.drop_zero,List.take_of_length_le (by omega)]
theorem Wp{k0:Nat}(d:ο)(i:Nat)(A:List Ψ)(P:List cE)(R:List Nat):aB k0 (nS d false i A P R) (nS d true i A P R):=by
 refine ja [2,3,4,5] rfl (fun b aA hb=> ?_) (fun t=> .inr ?_)
 ·match b,hb with
  |0,hb=>cases hb;exact .inr ⟨by simp,_,rfl,.same _⟩
  |1,hb=>
   cases hb
   refine .inr ⟨by simp,_,rfl,.box _ _ rfl fun j x x' hx aC=> ?_⟩
   match j,hx,aC with
   |0,hx,aC=>cases hx;cases aC;exact .eU _ _ _ [2] 2 rfl (.of_eq (congrArg (T.θ 7) (oN (by simp)))) (by simp)
   |1,hx,aC=>cases hx;cases aC;exact .eU _ _ _ [3] 2 rfl (.of_eq (congrArg (T.θ 1) (oN (by simp)))) (by simp)
   |2,hx,aC=>cases hx;cases aC;exact .eU _ _ _ [4] 2 rfl (.of_eq (congrArg (T.θ 7) (oN (by simp)))) (by simp)
   |3,hx,aC=>cases hx;cases aC;exact .same _
   |j+4,hx,aC=>cases hx
  |2,hb=>cases hb;exact .inl rfl
  |3,hb=>cases hb;exact .inl rfl
  |4,hb=>cases hb;exact .inl rfl
  |5,hb=>cases hb;exact .inl rfl
  |b+6,hb=>cases hb
 ·by_cases h9:t=9
  ·subst h9
   exact .eU _ _ _ [5] 2 rfl (.of_eq (congrArg (T.θ 1) (oN (by simp[aG])))) (by simp)
  ·show eM _ _ _ (lk (nE d _ i) t) (lk (nE d _ i) t)
   rw[Uo d _ (.t (.θ 1 (aG R))) i t h9]
   exact .same _
theorem OX{k0:Nat}{s:St}{d:ο}{i:Nat}{A:List Ψ}{P:List cE}{R:List Nat}(b:Bool)(h:aB k0 s (nS d false i A P R)):aB k0 s (nS d b i A P R):=by
 cases b with
 |false=>exact h
 |true=>exact h.trans (Wp d i A P R)
theorem Dp(d:ο)(hd:d.ok)(hs:∀f∈d.forms,fP f.pieces≤2000000000000)(DU:d.classes.length≤2000000)(gn:∀k∈d.classes,k.aY.length≤2000000):ab Tryz.prog 15 [ax d] (IM d):=by
 refine ab.Γ ?_ IM.aJ
 refine γ.ξ ζ η Tryz.func15 rfl rfl ?_
 refine γ.wG (FC d hd hs) rfl ⟨.refl _,trivial⟩ (by rintro r ⟨n,e,rfl,_⟩;exact⟨rfl,rfl,trivial⟩) ?_
 rintro _ ⟨n,e,rfl,he⟩
 refine U (fun c=> ?_) (fun c=> ?_)
 ·have c:e≠0:=by simpa using c
  exact⟨_,.inl ⟨n,e,c,he,rfl⟩,⟨⟨_,_,rfl,.refl _⟩,⟨_,_,rfl,.refl _⟩,trivial⟩,rfl⟩
 have cd:gr d:=he.WL (by simpa using c)
 clear he c
 have sj:(d.classes.map aF).length=d.classes.length:=by simp
 have nv:d.classes.length≤maxLen:=hd.2.2.2.2.2.2.2.2.1
 refine b_ (fun e s'=>e= .exit 0∧∃(b0:AV) (i:Nat),s'=⟨(26,b0)::[(1,.ptr 0 0 0 0),(6,.ptr 1 0 0 0),(23,.t (.θ 7 (d.classes.map aF))),(24,.t (.int .i64 ((d.classes.map aF).length:Int))),(25,.t (.int .i64 ((i:Nat):Int)))],nH d d.classes [] []⟩) (fun zL HQ=> ?_) ?_
 ·refine ao (fun s:Nat×List cg=>s.1≤d.classes.length∧s.2=d.classes.take s.1) (fun s=>⟨[(1,.ptr 0 0 0 0),(6,.ptr 1 0 0 0),(23,.t (.θ 7 (d.classes.map aF))),(24,.t (.int .i64 ((d.classes.map aF).length:Int))),(25,.t (.int .i64 ((s.1:Nat):Int)))],nH d s.2 [] []⟩)
   (fun s=>d.classes.length - s.1) (0,[]) ⟨Nat.zero_le _,rfl⟩ ?_ (fun⟨i,K⟩ ⟨hi,hK⟩=> ?_)
  ·refine aB.trans (aM (s':=⟨[(1,.ptr 0 0 0 0),(6,.ptr 1 0 0 0),(23,.t (.θ 7 (d.classes.map aF))),(24,.t (.int .i64 ((d.classes.map aF).length:Int))),(25,.t (.int .i64 ((0:Nat):Int)))],[.box (dn d),.box [.t .af,.t .af,.t .af,.t .dj]]⟩) ⟨rfl,rfl,rfl,rfl,rfl,trivial⟩ rfl) ?_
   refine aB.trans (om (.arr 95 7 true 0 (.ts []))) ?_
   refine aB.trans (om (.arr 41 1 true 0 (.ts []))) ?_
   refine aB.trans (om (.arr 122 7 true 0 (.ts []))) ?_
   refine ja [] rfl (fun b aA hb=> .inr ⟨by simp,?_⟩) (B0 ⟨rfl,rfl,rfl,rfl,rfl,trivial⟩)
   match b,hb with
   |0,hb=>cases hb;exact⟨_,rfl,.same _⟩
   |1,hb=>
    cases hb
    refine⟨_,rfl,.box _ _ rfl fun j x x' hx aC=> ?_⟩
    match j,hx,aC with
    |0,hx,aC=>cases hx;cases aC;exact .nil 2 _ _ rfl
    |1,hx,aC=>cases hx;cases aC;exact .nil 3 _ _ rfl
    |2,hx,aC=>cases hx;cases aC;exact .nil 4 _ _ rfl
    |3,hx,aC=>cases hx;cases aC;exact .same _
    |j+4,hx,aC=>cases hx
   |2,hb=>cases hb;exact⟨_,rfl,.same _⟩
   |3,hb=>cases hb;exact⟨_,rfl,.same _⟩
   |4,hb=>cases hb;exact⟨_,rfl,.same _⟩
   |b+5,hb=>cases hb
  have hi:i≤d.classes.length:=hi
  have hK:K=d.classes.take i:=hK
  have X7:K.length≤d.classes.length:=by rw[hK];simp;omega
  refine U (fun c=> ?_) (fun c=> ?_)
  rotate_left 1
  ·have c:i=d.classes.length:=by have:=dm c;omega
   exact HQ _ _ ⟨rfl,_,i,by rw[hK,c,List.take_length]⟩
  have ci:i<d.classes.length:=by have:=de c;omega
  obtain⟨k,hk,BC⟩:=get_some (R:=d.classes) (i:=i) ci
  refine ν (show(d.classes.map aF)[((i:Nat):Int).toNat]?=some (aF k)from by rw[Int.toNat_natCast,List.getElem?_map,hk];rfl) ?_
  refine γ.iP (FA _ (by have:=gn k BC;simp;omega)) rfl ?_
  rintro _ rfl
  refine bJ (T3 2) Nq (by decide+kernel) ?_
  refine Or.inl (And.intro (by simp[Sq.length]) (ε (show cI (K.length+1) 80=true by simp[cI];omega) ?_))
  refine And.intro (fun j hj=>by
   simp only[List.mem_cons,List.not_mem_nil,or_false]at hj
   rcases hj with rfl
   exact χ.set _ (List.mem_singleton.2 rfl)) ?_
  refine And.intro (fun j hj=>by cases hj) ?_
  refine δ (n:=((i+1:Nat):Int)) (aj (n:=i+1) (by omega)) ?_
  have eL:K.length+1=(K++[k]).length:=by simp
  have eA:K.map aF++[aF k]=(K++[k]).map aF:=by simp
  refine⟨⟨(i+1,K++[k]),(show i+1≤d.classes.length∧K++[k]=d.classes.take (i+1)from⟨by omega,by rw[List.take_add_one,hk,hK];rfl⟩)⟩,?_,by show d.classes.length - (i+1)<d.classes.length - i;omega⟩
  show aB _ _ ⟨[(1,.ptr 0 0 0 0),(6,.ptr 1 0 0 0),(23,.t (.θ 7 (d.classes.map aF))),(24,.t (.int .i64 ((d.classes.map aF).length:Int))),(25,.t (.int .i64 ((i+1:Nat):Int)))],nH d (K++[k]) [] []⟩
  unfold nH
  rw[←eL,←eA]
  exact τ [0,1,2,3,4] rfl ⟨rfl,rfl,rfl,rfl,rfl,trivial⟩ ⟨rfl,rfl,rfl,rfl,rfl,trivial⟩
 rintro _ _ ⟨rfl,b0,i0,rfl⟩
 have ku:(d.forms.map ah).length=d.forms.length:=by simp
 have La:d.forms.length≤512:=cd.parts.fl
 refine b_ (fun e s'=>e= .exit 2∧∃(b0:AV) (i:Nat) (P:List cE),(P.length=d.forms.length∧∀(i:Nat) f p,d.forms[i]?=some f→P[i]?=some p→p.wf∧nP d f (.t p.t))∧s'=⟨(48,b0)::nE d (.t (.θ 1 (aG (List.range d.forms.length)))) i,nZ d d.forms P⟩) (fun zL HQ=> ?_) ?_
 ·refine ao (fun s:Bool×Nat×List Ψ×List cE×List Nat=>s.1=decide (s.2.1=d.forms.length)∧s.2.1≤d.forms.length∧s.2.2.1=d.forms.take s.2.1∧(s.2.2.2.1.length=s.2.1∧∀(i:Nat) f p,d.forms[i]?=some f→s.2.2.2.1[i]?=some p→p.wf∧nP d f (.t p.t))∧s.2.2.2.2=List.range s.2.1) (fun s=>nS d s.1 s.2.1 s.2.2.1 s.2.2.2.1 s.2.2.2.2)
   (fun s=>d.forms.length - s.2.1) (decide (0=d.forms.length),0,[],[],[]) ⟨rfl,Nat.zero_le _,rfl,⟨rfl,fun i f p _ h=>by simp at h⟩,rfl⟩ ?_ (fun⟨b,i,A,P,R⟩ ⟨aD,eH,Yl,⟨Wm,X4⟩,X3⟩=> ?_)
  ·exact OX _ (aM ⟨rfl,rfl,rfl,rfl,rfl,rfl,trivial⟩ rfl)
  have hb:b=decide (i=d.forms.length):=aD
  have hi:i≤d.forms.length:=eH
  have hA:A=d.forms.take i:=Yl
  have xx:P.length=i:=Wm
  have hP:∀(i:Nat) f p,d.forms[i]?=some f→P[i]?=some p→p.wf∧nP d f (.t p.t):=X4
  have hR:R=List.range i:=X3
  have Yk:A.length=i:=by rw[hA];simp;omega
  have Lu:R.length=i:=by rw[hR];simp
  by_cases aL:i=d.forms.length
  ·have hb:b=true:=by rw[hb];simp[aL]
   subst hb
   refine U (fun c=> ?_) (fun c=> ?_)
   ·have c':i<(d.forms.map ah).length:=de c
    omega
   ·exact HQ _ _ ⟨rfl,_,i,P,⟨by omega,hP⟩,by rw[hA,hR,aL,List.take_length]⟩
  have hb:b=false:=by rw[hb];simp[aL]
  subst hb
  refine U (fun c=> ?_) (fun c=> ?_)
  rotate_left 1
  ·have c':(d.forms.map ah).length≤i:=dm c
   omega
  have ci:i<d.forms.length:=by omega
  obtain⟨f,hf,kv⟩:=get_some (R:=d.forms) (i:=i) ci
  refine ν (show(d.forms.map ah)[((i:Nat):Int).toNat]?=some (ah f)from by rw[Int.toNat_natCast,List.getElem?_map,hf];rfl) ?_
  refine bJ (T3 3) Kr (by decide+kernel) ?_
  refine γ.iP (FB f.args (by have:=(cd.forms f kv).args;omega)) rfl ?_
  rintro _ rfl
  conv=>whnf
  refine And.intro (fun j hj=>by first|exact χ.refl _ _|exact χ.append _ _ _) ?_
  refine Or.inl (And.intro (by simp[Sq.length]) (ε (show cI (A.length+1) 24=true by simp[cI];omega) ?_))
  refine And.intro (fun j hj=>by
   simp only[List.mem_cons,List.not_mem_nil,or_false]at hj
   rcases hj with rfl
   exact χ.set _ (List.mem_singleton.2 rfl)) ?_
  refine And.intro (fun j hj=>by cases hj) ?_
  refine bJ (T3 4) Kq (by decide+kernel) ?_
  refine γ.cH (KF d hd i f hf (hs f kv) (cd.forms f kv)) rfl ⟨.refl _,.refl _,trivial⟩ ?_
  rintro _ ⟨m0,m1,w0,w1,lz,C,rfl,y_⟩
  obtain⟨p,hp⟩:∃p:cE,p=⟨(bf f.pieces).length/8,m0,m1,w0,w1,lz,C⟩:=⟨_,rfl⟩
  have Gh:ng ((bf f.pieces).length/8) m0 m1 w0 w1 lz C=p.t:=by rw[hp];rfl
  conv=>whnf
  refine And.intro (fun j hj=>by first|exact χ.refl _ _|exact χ.append _ _ _) ?_
  refine Or.inl (And.intro (by simp[Sq.length]) (ε (show cI (P.length+1) 72=true by simp[cI];omega) ?_))
  refine And.intro (fun j hj=>by
   simp only[List.mem_cons,List.not_mem_nil,or_false]at hj
   rcases hj with rfl
   exact χ.set _ (List.mem_singleton.2 rfl)) ?_
  refine And.intro (fun j hj=>by cases hj) ?_
  refine Or.inl (And.intro (by simp[Sq.length,aG]) (ε (ur (n:=R.length+1) (by omega)) ?_))
  refine δ (n:=((i+1:Nat):Int)) (aj (n:=i+1) (by omega)) ?_
  have YJ:A.length+1=(A++[f]).length:=by simp
  have YM:(A.map fun f=>T.θ 2 (f.args.map Λ))++[.θ 2 (f.args.map Λ)]=(A++[f]).map fun f=>T.θ 2 (f.args.map Λ):=by simp
  have YI:P.length+1=(P++[p]).length:=by simp
  have YL:P.map cE.t++[p.t]=(P++[p]).map cE.t:=by simp
  have YH:R.length+1=(R++[i]).length:=by simp
  have YK:aG R++[.int .i64 i]=aG (R++[i]):=by simp[aG]
  have SO:p.wf∧nP d f (.t p.t):=by
   rw[hp]
   exact⟨⟨y_.s_.mask.1,y_.s_.mask.2.1,y_.s_.want.1,y_.s_.want.2.1⟩,⟨m0,m1,w0,w1,lz,C,rfl,y_⟩⟩
  refine⟨⟨(decide (i+1=d.forms.length),i+1,A++[f],P++[p],R++[i]),(show decide (i+1=d.forms.length)=decide (i+1=d.forms.length)∧i+1≤d.forms.length∧A++[f]=d.forms.take (i+1)∧((P++[p]).length=i+1∧∀(j:Nat) g q,d.forms[j]?=some g→(P++[p])[j]?=some q→q.wf∧nP d g (.t q.t))∧R++[i]=List.range (i+1)from⟨rfl,by omega,by rw[List.take_add_one,hf,hA];rfl,⟨by simp[xx],fun j g q hj hq=> ?_⟩,by rw[hR,List.range_succ]⟩)⟩,?_,by show d.forms.length - (i+1)<d.forms.length - i;omega⟩
  ·by_cases n_:j<P.length
   ·rw[List.getElem?_append_left n_]at hq
    exact hP j g q hj hq
   ·rw[List.getElem?_append_right (by omega)]at hq
    have S3:j - P.length=0:=by
     have:=κ hq
     simp at this
     omega
    rw[S3]at hq
    cases hq
    have n_:j=i:=by omega
    rw[n_,hf]at hj
    cases hj
    exact SO
  refine OX _ ?_
  show aB _ _ ⟨[(1,.ptr 0 0 0 0),(6,.ptr 1 0 0 0),(9,.sl 5 0 0 (R++[i]).length),(45,.t (.θ 5 (d.forms.map ah))),(46,.t (.int .i64 ((d.forms.map ah).length:Int))),(47,.t (.int .i64 ((i+1:Nat):Int)))],nH d d.classes (A++[f]) (P++[p])++[.arr tI 1 true 0 (.ts (aG (R++[i])))]⟩
  unfold nH
  rw[←YJ,←YM,←YI,←YL,←YH,←YK,←Gh]
  exact τ [0,1,2,3,4,5] rfl ⟨rfl,rfl,rfl,rfl,rfl,rfl,trivial⟩ ⟨rfl,rfl,rfl,rfl,rfl,rfl,trivial⟩
 rintro _ _ ⟨rfl,b1,i1,P,⟨xx,hP⟩,rfl⟩
 have W8:∀p∈P,p.wf:=fun p hp=>by
  obtain⟨j,hj,Xz⟩:=List.getElem_of_mem hp
  exact(hP j (d.forms[j]'(by omega)) p (List.getElem?_eq_getElem _) (by rw[List.getElem?_eq_getElem hj,Xz])).1
 refine γ.MS (zh d P W8 (mJ 0 0+1) (List.range d.forms.length) 0 0 (by omega) (by decide) (by decide) (fun f hf=>by have:=List.mem_range.1 hf;omega) (by rw[List.length_range];exact La)) rfl ⟨.refl _,.refl _,.refl _,trivial⟩ ?_ ?_ ?_
 ·rintro r ⟨cs,t,rfl,ht,_⟩
  exact⟨t,by rw[ht]⟩
 ·intro b hb
  simp only[List.mem_cons,List.not_mem_nil,or_false,List.mem_append,List.append_nil,List.nil_append]at hb
  subst hb
  exact⟨_,rfl,rfl⟩
 rintro _ ⟨cs,t,rfl,ht,nz⟩
 exact⟨_,.inr ⟨P,t,cd,xx,hP,nz,rfl⟩,⟨⟨_,_,rfl,.of_eq (by rw[←ht];rfl)⟩,⟨_,_,rfl,.refl _⟩,trivial⟩,rfl⟩
end Go.Proofs.YtcogcbplmkcojaaGreatDoor
