/-
  The tree that finds forms (walk).
-/
import Derived.Test.YtcogcbplmkcojaaGreatDoorKId
namespace Go.Proofs.YtcogcbplmkcojaaGreatDoor
open Go.IntWalk
set_option maxRecDepth 100000
set_option linter.unusedVariables false
set_option linter.unusedSimpArgs false
set_option maxHeartbeats 4000000
def J_:Ord:=(.op 0 [] (.op 1 [0] (.op 2 [1,0] (.op 3 [1,0] (.op 4 [3,2,1,0] (.op 6 [4,3,2,1,0] (.op 7 [6,4,3,2,1,0] (.op 8 [6,4,3,2,1,0] (.op 9 [8,7,6,4,3,2,1,0] (.op 5 [9,8,7,6,0] (.op 10 [0] (.op 11 [0] (.op 12 [] (.op 13 [] (.op 14 [] .nil)))))))))))))))
def fU(d:ο)(P:List cE)(root:T):T:= .bg [.θ 7 (d.classes.map aF),.θ 1 (d.forms.map fun f=> .θ 2 (f.args.map Λ)),.θ 7 (P.map cE.t),root]
def w_(P:List cE)(F:List Nat)(r:AV):Prop:=∃(cs:List T) (t:dF),r= .t (.bg cs)∧T.bg cs=t.t∧mg P F t
theorem w_.aJ{P:List cE}{F:List Nat}:∀r,w_ P F r→aJ r=true:=by rintro r ⟨cs,t,rfl,_⟩;rfl
def mJ(a0 a1:Nat):Nat:=((List.range 120).filter fun q=> !dA a0 a1 q).length
theorem vB{F:List Nat}{i f:Nat}(h:F[i]?=some f):(aG F)[i]?=some (T.int .i64 f):=by unfold aG;rw[List.getElem?_map,h];rfl
theorem B9{q:Nat}{l r:T}:a9 (.bg [.int .i64 q,l,r,.af]) (.bg [.int .i64 q,l,r,.θ 1 []]):=
 .bg _ _ rfl fun i c e h1 h2=>by
  match i,h1,h2 with
  |0,h1,h2=>cases h1;cases h2;exact .refl _
  |1,h1,h2=>cases h1;cases h2;exact .refl _
  |2,h1,h2=>cases h1;cases h2;exact .refl _
  |3,h1,h2=>cases h1;cases h2;exact .af 1
  |i+4,h1,h2=>simp at h1
def E8(a0 a1:Nat)(b m:Int):Prop:=(b= -1∧m=0)∨∃q:Nat,b=q∧q<120∧dA a0 a1 q=false∧1≤m
theorem χ.d_{D ids:List Nat}{H X:AH}(h:∀b∈ids,b∈D):χ D H (Go.Proofs.YtcogcbplmkcojaaGreatDoor.d_ ids H++X):=fun i bk hb=>by
 rcases gY D hb with e|⟨hn,h1⟩
 ·exact .inl e
 ·refine .inr ?_
  have h2:=uj ids h1
  rw[if_neg fun e=>hn (h i e)]at h2
  rw[List.getElem?_append_left (κ h2)]
  exact h2
def wI(a0 q:Nat):Nat:=if q<64 then a0|||2^q else a0
def wH(a1 q:Nat):Nat:=if q<64 then a1 else a1|||2^(q - 64)
theorem Qu{a0 a1 q:Nat}(h0:a0<18446744073709551616)(h1:a1<18446744073709551616)(hq:q<128):wI a0 q<18446744073709551616∧wH a1 q<18446744073709551616∧∀r,r<128→dA (wI a0 q) (wH a1 q) r=(dA a0 a1 r||decide (q=r)):=by
 unfold wI wH dA
 by_cases h:q<64
 ·rw[if_pos h,if_pos h]
  refine⟨yJ h0 h,h1,fun r hr=> ?_⟩
  by_cases y4:r<64
  ·rw[if_pos y4,if_pos y4,ot]
  ·rw[if_neg y4,if_neg y4]
   have:¬q=r:=by omega
   simp[this]
 ·rw[if_neg h,if_neg h]
  refine⟨h0,yJ h1 (by omega),fun r hr=> ?_⟩
  by_cases y4:r<64
  ·rw[if_pos y4,if_pos y4]
   have:¬q=r:=by omega
   simp[this]
  ·rw[if_neg y4,if_neg y4,ot]
   have:(q - 64=r - 64)↔q=r:=by omega
   simp[this]
theorem filter_lt{l:List Nat}{p p':Nat→Bool}(hs:∀x∈l,p' x=true→p x=true){y:Nat}(hy:y∈l)(h1:p y=true)(h2:p' y=false):(l.filter p').length<(l.filter p).length:=by
 have le:∀l:List Nat,(∀x∈l,p' x=true→p x=true)→(l.filter p').length≤(l.filter p).length:=by
  intro l
  induction l with
  |nil=>intro _;exact Nat.le_refl _
  |cons x r ih=>
   intro hs
   have h:=ih fun z hz=>hs z (List.mem_cons_of_mem _ hz)
   have hx:=hs x List.mem_cons_self
   cases e':p' x with
   |false=>cases e:p x<;>simp[List.filter_cons,e',e]<;>omega
   |true=>simp[List.filter_cons,e',hx e'];exact h
 induction l with
 |nil=>cases hy
 |cons x r ih=>
  have hr:=le r fun z hz=>hs z (List.mem_cons_of_mem _ hz)
  rcases List.mem_cons.1 hy with e|hy
  ·subst e
   simp[List.filter_cons,h1,h2];omega
  ·have h:=ih (fun z hz=>hs z (List.mem_cons_of_mem _ hz)) hy
   have hx:=hs x List.mem_cons_self
   cases e':p' x with
   |false=>cases e:p x<;>simp[List.filter_cons,e',e]<;>omega
   |true=>simp[List.filter_cons,e',hx e'];exact h
theorem G1{a0 a1 e0 e1 q:Nat}(hq:q<120)(SC:dA a0 a1 q=false)(h:∀r,r<120→dA e0 e1 r=(dA a0 a1 r||decide (q=r))):mJ e0 e1<mJ a0 a1:=by
 refine filter_lt (y:=q) (fun x hx hp=> ?_) (List.mem_range.2 hq) (by simp[SC]) (by simp[h q hq])
 have:=h x (List.mem_range.1 hx)
 rw[this]at hp
 simp at hp⊢
 exact hp.1
theorem vd(P:List cE)(q:Nat)(b:Bool)(F:List Nat)(i:Nat):(dR P q b (F.take i)).length≤F.length:=Nat.le_trans (List.length_filter_le _ _) (by simp;omega)
theorem Fj(P:List cE)(q:Nat)(b:Bool){F:List Nat}{i f:Nat}{p:cE}(hf:F[i]?=some f)(hp:P[f]?=some p):dR P q b (F.take (i+1))=dR P q b (F.take i)++(if !dA p.m0 p.m1 q||dA p.w0 p.w1 q==b then[f]else[]):=by
 unfold dR
 rw[List.take_add_one,hf,List.filter_append]
 congr 1
 simp[List.filter_cons,hp]
theorem ur{n:Nat}(h:n≤100000000000):cI n 8=true:=by simp[cI];omega
theorem Il(d:ο)(P:List cE)(hP:∀p∈P,p.wf)(F:List Nat)(a0 a1:Nat)(vX:a0<18446744073709551616)(PD:a1<18446744073709551616)(hF:∀f∈F,f<P.length)(X_:F.length≤512)
 (IH:∀(F':List Nat) (e0 e1:Nat),e0<18446744073709551616→e1<18446744073709551616→mJ e0 e1<mJ a0 a1→(∀f∈F',f<P.length)→F'.length≤512→ab Tryz.prog 44 [fU d P .dj,.θ 1 (aG F'),tD e0 e1] (w_ P F')):
 ab Tryz.prog 44 [fU d P .dj,.θ 1 (aG F),tD a0 a1] (w_ P F):=by
 have fS:(aG F).length=F.length:=by simp[aG]
 refine ab.Γ ?_ w_.aJ
 refine γ.ξ ζ η Tryz.func44 rfl rfl ?_
 refine U (fun c2=> ?_) (fun c2=> ?_)
 rotate_left 1
 ·exact⟨_,⟨_,.leaf F,rfl,rfl,mg.leaf P F⟩,_,_,rfl,.refl _⟩
 refine b_ (fun e s'=>e= .exit 0∧∃(b0:AV) (at_:Nat) (b m:Int),E8 a0 a1 b m∧s'=⟨(24,b0)::[(0,.t (fU d P .dj)),(1,.t (.θ 1 (aG F))),(5,.ptr 0 0 0 0),(7,.t (.int .i64 b)),(8,.t (.int .i64 m)),(23,.t (.int .i64 ((at_:Nat):Int)))],[.box [.t (.int .u64 a0),.t (.int .u64 a1)]]⟩) (fun zL HQ=> ?_) ?_
 ·refine ao (fun s:Nat×Int×Int=>s.1≤120∧E8 a0 a1 s.2.1 s.2.2) (fun s=>⟨[(0,.t (fU d P .dj)),(1,.t (.θ 1 (aG F))),(5,.ptr 0 0 0 0),(7,.t (.int .i64 s.2.1)),(8,.t (.int .i64 s.2.2)),(23,.t (.int .i64 ((s.1:Nat):Int)))],[.box [.t (.int .u64 a0),.t (.int .u64 a1)]]⟩)
   (fun s=>120 - s.1) (0, -1,0) ⟨Nat.zero_le _,.inl ⟨rfl,rfl⟩⟩ ?_ (fun⟨at_,b,m⟩ ⟨xw,hb⟩=> ?_)
  ·exact aM ⟨rfl,rfl,rfl,rfl,rfl,rfl,trivial⟩ rfl
  have xw:at_≤120:=xw
  have hb:E8 a0 a1 b m:=hb
  refine U (fun ca=> ?_) (fun ca=> ?_)
  rotate_left 1
  ·exact HQ _ _ ⟨rfl,_,at_,b,m,hb,rfl⟩
  have ca:at_<120:=by have:=of_decide_eq_true ca;omega
  refine b_ (fun e s'=>e= .exit 2∧∃(b0:AV) (i:Nat) (n0 n1:Nat),((n0=0∧n1=0)∨dA a0 a1 at_=false)∧s'=⟨(30,b0)::[(0,.t (fU d P .dj)),(1,.t (.θ 1 (aG F))),(5,.ptr 0 0 0 0),(7,.t (.int .i64 b)),(8,.t (.int .i64 m)),(23,.t (.int .i64 (at_:Int))),(9,.t (.int .i64 (at_:Int))),(10,.ptr 1 0 0 0),(27,.t (.θ 1 (aG F))),(28,.t (.int .i64 ((aG F).length:Int))),(29,.t (.int .i64 ((i:Nat):Int)))],[.box [.t (.int .u64 a0),.t (.int .u64 a1)],.box [.t (.int .i64 n0),.t (.int .i64 n1)]]⟩) (fun uH nQ=> ?_) ?_
  ·refine ao (fun s:Nat×Nat×Nat=>s.1≤F.length∧((s.2.1=0∧s.2.2=0)∨dA a0 a1 at_=false)∧s.2.1≤s.1∧s.2.2≤s.1) (fun s=>⟨[(0,.t (fU d P .dj)),(1,.t (.θ 1 (aG F))),(5,.ptr 0 0 0 0),(7,.t (.int .i64 b)),(8,.t (.int .i64 m)),(23,.t (.int .i64 (at_:Int))),(9,.t (.int .i64 (at_:Int))),(10,.ptr 1 0 0 0),(27,.t (.θ 1 (aG F))),(28,.t (.int .i64 ((aG F).length:Int))),(29,.t (.int .i64 ((s.1:Nat):Int)))],[.box [.t (.int .u64 a0),.t (.int .u64 a1)],.box [.t (.int .i64 s.2.1),.t (.int .i64 s.2.2)]]⟩)
    (fun s=>F.length - s.1) (0,0,0) ⟨Nat.zero_le _,.inl ⟨rfl,rfl⟩,Nat.le_refl _,Nat.le_refl _⟩ ?_ (fun⟨i,n0,n1⟩ ⟨hi,hn,h0,h1⟩=> ?_)
   ·exact aM ⟨rfl,rfl,rfl,rfl,rfl,rfl,rfl,rfl,rfl,rfl,rfl,trivial⟩ rfl
   have hi:i≤F.length:=hi
   have hn:(n0=0∧n1=0)∨dA a0 a1 at_=false:=hn
   have h0:n0≤i:=h0
   have h1:n1≤i:=h1
   refine U (fun c=> ?_) (fun c=> ?_)
   rotate_left 1
   ·exact nQ _ _ ⟨rfl,_,i,n0,n1,hn,rfl⟩
   have ci:i<F.length:=by have:=de c;omega
   obtain⟨f,hf,kv⟩:=get_some (R:=F) (i:=i) ci
   obtain⟨p,hp,j2⟩:=get_some (R:=P) (i:=f) (hF f kv)
   obtain⟨w1,w2,w3,w4⟩:=hP p j2
   refine ν (show(aG F)[((i:Nat):Int).toNat]?=some (T.int .i64 f)from by rw[Int.toNat_natCast];exact vB hf) ?_
   refine ν (show(P.map cE.t)[((f:Nat):Int).toNat]?=some p.t from by rw[Int.toNat_natCast,List.getElem?_map,hp];rfl) ?_
   rcases(show dA a0 a1 at_=true∨dA a0 a1 at_=false by cases dA a0 a1 at_<;>simp)with AA|AA
   ·refine γ.a8 (lr vX PD (by omega) AA) rfl ⟨.refl _,.refl _,trivial⟩ ?_
    refine δ (n:=((i+1:Nat):Int)) (aj (n:=i+1) (by omega)) ?_
    conv=>whnf
    exact⟨⟨(i+1,n0,n1),by omega,hn,(show n0≤i+1 by omega),(show n1≤i+1 by omega)⟩,τ [0,1] rfl ⟨rfl,rfl,rfl,rfl,rfl,rfl,rfl,rfl,rfl,rfl,rfl,trivial⟩ ⟨rfl,rfl,trivial⟩,by show F.length - (i+1)<F.length - i;omega⟩
   ·refine γ.a8 (kQ vX PD (by omega) AA) rfl ⟨.refl _,.refl _,trivial⟩ ?_
    cases si:dA p.m0 p.m1 at_ with
    |false=>
     refine γ.a8 (kQ w1 w2 (by omega) si) rfl ⟨.refl _,.refl _,trivial⟩ ?_
     refine δ (n:=((i+1:Nat):Int)) (aj (n:=i+1) (by omega)) ?_
     conv=>whnf
     exact⟨⟨(i+1,n0,n1),by omega,.inr AA,(show n0≤i+1 by omega),(show n1≤i+1 by omega)⟩,τ [0,1] rfl ⟨rfl,rfl,rfl,rfl,rfl,rfl,rfl,rfl,rfl,rfl,rfl,trivial⟩ ⟨rfl,rfl,trivial⟩,by show F.length - (i+1)<F.length - i;omega⟩
    |true=>
     refine γ.a8 (lr w1 w2 (by omega) si) rfl ⟨.refl _,.refl _,trivial⟩ ?_
     cases pM:dA p.w0 p.w1 at_ with
     |false=>
      refine γ.a8 (kQ w3 w4 (by omega) pM) rfl ⟨.refl _,.refl _,trivial⟩ ?_
      refine δ (n:=((n0+1:Nat):Int)) (aj (n:=n0+1) (by omega)) ?_
      refine δ (n:=((i+1:Nat):Int)) (aj (n:=i+1) (by omega)) ?_
      conv=>whnf
      exact⟨⟨(i+1,n0+1,n1),by omega,.inr AA,(show n0+1≤i+1 by omega),(show n1≤i+1 by omega)⟩,τ [0,1] rfl ⟨rfl,rfl,rfl,rfl,rfl,rfl,rfl,rfl,rfl,rfl,rfl,trivial⟩ ⟨rfl,rfl,trivial⟩,by show F.length - (i+1)<F.length - i;omega⟩
     |true=>
      refine γ.a8 (lr w3 w4 (by omega) pM) rfl ⟨.refl _,.refl _,trivial⟩ ?_
      refine δ (n:=((n1+1:Nat):Int)) (aj (n:=n1+1) (by omega)) ?_
      refine δ (n:=((i+1:Nat):Int)) (aj (n:=i+1) (by omega)) ?_
      conv=>whnf
      exact⟨⟨(i+1,n0,n1+1),by omega,.inr AA,(show n0≤i+1 by omega),(show n1+1≤i+1 by omega)⟩,τ [0,1] rfl ⟨rfl,rfl,rfl,rfl,rfl,rfl,rfl,rfl,rfl,rfl,rfl,trivial⟩ ⟨rfl,rfl,trivial⟩,by show F.length - (i+1)<F.length - i;omega⟩
  rintro _ _ ⟨rfl,b0,i,n0,n1,hn,rfl⟩
  refine U (fun cm=> ?_) (fun cm=> ?_)
  ·refine δ (n:=((at_+1:Nat):Int)) (aj (n:=at_+1) (by omega)) ?_
   conv=>whnf
   exact⟨⟨(at_+1,(at_:Int),min (n0:Int) (n1:Int)),by omega,.inr ⟨at_,rfl,ca,by
    have cm:min (n0:Int) (n1:Int)>m:=of_decide_eq_true cm
    have uP:0≤m:=by rcases hb with⟨_,h⟩|⟨_,_,_,_,h⟩<;>omega
    rcases hn with⟨h,_⟩|h
    ·omega
    ·exact h,by
    have cm:min (n0:Int) (n1:Int)>m:=of_decide_eq_true cm
    have uP:0≤m:=by rcases hb with⟨_,h⟩|⟨_,_,_,_,h⟩<;>omega
    show 1≤min (n0:Int) (n1:Int);omega⟩⟩,τ [0] rfl ⟨rfl,rfl,rfl,rfl,rfl,rfl,trivial⟩ ⟨rfl,trivial⟩,by show 120 - (at_+1)<120 - at_;omega⟩
  ·refine δ (n:=((at_+1:Nat):Int)) (aj (n:=at_+1) (by omega)) ?_
   conv=>whnf
   exact⟨⟨(at_+1,b,m),by omega,hb⟩,τ [0] rfl ⟨rfl,rfl,rfl,rfl,rfl,rfl,trivial⟩ ⟨rfl,trivial⟩,by show 120 - (at_+1)<120 - at_;omega⟩
 rintro _ _ ⟨rfl,b0,at_,b,m,hb,rfl⟩
 rcases hb with⟨rfl,rfl⟩|⟨q,rfl,hq,SC,_⟩
 ·exact⟨_,⟨_,.leaf F,rfl,rfl,mg.leaf P F⟩,_,_,rfl,.refl _⟩
 obtain⟨e0,Te⟩:∃e0,e0=wI a0 q:=⟨_,rfl⟩
 obtain⟨e1,Td⟩:∃e1,e1=wH a1 q:=⟨_,rfl⟩
 obtain⟨ze,j4,oH⟩:=Qu vX PD (show q<128 by omega)
 rw[←Te]at ze oH
 rw[←Td]at j4 oH
 have Po:mJ e0 e1<mJ a0 a1:=G1 hq SC fun r hr=>oH r (by omega)
 refine γ.mono (Q:=fun v H'=>v= .aq []∧H'=[.box [.t (.int .u64 (e0:Int)),.t (.int .u64 (e1:Int))]]) ?_ ?_
 ·by_cases PN:q<64
  ·have g0:e0=a0|||2^q:=by rw[Te,wI,if_pos PN]
   have g1:e1=a1:=by rw[Td,wH,if_pos PN]
   refine γ.ξ ζ η Tryz.func91 rfl rfl ?_
   refine υ jd (by decide+kernel) ?_
   refine ε rfl ?_
   refine δ (n:=0) (show IntKind.i64.wrap (((q:Nat):Int).tdiv 64)=0 from by rw[Int.tdiv_eq_ediv_of_nonneg (by omega),IntKind.wrap_i64];omega) ?_
   refine ε rfl ?_
   refine δ (n:=((q:Nat):Int)) (show((q:Nat):Int).tmod 64=_ from by rw[Int.tmod_eq_emod_of_nonneg (by omega)];omega) ?_
   refine ε (decide_eq_true (show(0:Int)≤((q:Nat):Int) by omega)) ?_
   refine δ (n:=((2^q:Nat):Int)) (gE rfl (by omega)) ?_
   refine δ (n:=((a0|||2^q:Nat):Int)) (iq vX (iw (by omega))) ?_
   refine And.intro (fun j hj=>by cases hj) ?_
   exact⟨rfl,by rw[g0,g1]⟩
  ·obtain⟨kq,Lc⟩:∃kq,q=64+kq:=⟨q - 64,by omega⟩
   have g0:e0=a0:=by rw[Te,wI,if_neg PN]
   have g1:e1=a1|||2^kq:=by rw[Td,wH,if_neg PN,show q - 64=kq by omega]
   refine γ.ξ ζ η Tryz.func91 rfl rfl ?_
   refine υ jd (by decide+kernel) ?_
   refine ε rfl ?_
   refine δ (n:=1) (show IntKind.i64.wrap (((q:Nat):Int).tdiv 64)=1 from by rw[Int.tdiv_eq_ediv_of_nonneg (by omega),IntKind.wrap_i64];omega) ?_
   refine ε rfl ?_
   refine δ (n:=((kq:Nat):Int)) (show((q:Nat):Int).tmod 64=_ from by rw[Int.tmod_eq_emod_of_nonneg (by omega)];omega) ?_
   refine ε (decide_eq_true (show(0:Int)≤((kq:Nat):Int) by omega)) ?_
   refine δ (n:=((2^kq:Nat):Int)) (gE rfl (by omega)) ?_
   refine δ (n:=((a1|||2^kq:Nat):Int)) (iq PD (iw (by omega))) ?_
   refine And.intro (fun j hj=>by cases hj) ?_
   exact⟨rfl,by rw[g0,g1]⟩
 rintro _ _ ⟨rfl,rfl⟩
 refine b_ (fun e s'=>e= .exit 4∧∃(b0:AV) (i:Nat),s'=⟨(81,b0)::[(0,.t (fU d P .dj)),(1,.t (.θ 1 (aG F))),(5,.ptr 0 0 0 0),(7,.t (.int .i64 (q:Int))),(15,.ptr 1 0 0 0),(78,.t (.θ 1 (aG F))),(79,.t (.int .i64 ((aG F).length:Int))),(80,.t (.int .i64 ((i:Nat):Int)))],[.box [.t (.int .u64 (e0:Int)),.t (.int .u64 (e1:Int))],.box [.sl 2 0 0 (dR P q false F).length,.sl 3 0 0 (dR P q true F).length],.arr tI 1 true 0 (.ts (aG (dR P q false F))),.arr tI 1 true 0 (.ts (aG (dR P q true F)))]⟩) (fun zL HQ=> ?_) ?_
 ·refine ao (fun s:Nat×List Nat×List Nat=>s.1≤F.length∧s.2.1=dR P q false (F.take s.1)∧s.2.2=dR P q true (F.take s.1)) (fun s=>⟨[(0,.t (fU d P .dj)),(1,.t (.θ 1 (aG F))),(5,.ptr 0 0 0 0),(7,.t (.int .i64 (q:Int))),(15,.ptr 1 0 0 0),(78,.t (.θ 1 (aG F))),(79,.t (.int .i64 ((aG F).length:Int))),(80,.t (.int .i64 (s.1:Int)))],[.box [.t (.int .u64 (e0:Int)),.t (.int .u64 (e1:Int))],.box [.sl 2 0 0 (s.2.1).length,.sl 3 0 0 (s.2.2).length],.arr tI 1 true 0 (.ts (aG (s.2.1))),.arr tI 1 true 0 (.ts (aG (s.2.2)))]⟩)
   (fun s=>F.length - s.1) (0,[],[]) ⟨Nat.zero_le _,rfl,rfl⟩ ?_ (fun⟨i,S0,S1⟩ ⟨hi,uV,Ef⟩=> ?_)
  ·refine aB.trans (aM (s':=⟨[(0,.t (fU d P .dj)),(1,.t (.θ 1 (aG F))),(5,.ptr 0 0 0 0),(7,.t (.int .i64 (q:Int))),(15,.ptr 1 0 0 0),(78,.t (.θ 1 (aG F))),(79,.t (.int .i64 ((aG F).length:Int))),(80,.t (.int .i64 ((0:Nat):Int)))],[.box [.t (.int .u64 (e0:Int)),.t (.int .u64 (e1:Int))],.box [.t .af,.t .af]]⟩) ⟨rfl,rfl,rfl,rfl,rfl,rfl,rfl,rfl,trivial⟩ rfl) ?_
   refine aB.trans (om (.arr tI 1 true 0 (.ts []))) ?_
   refine aB.trans (om (.arr tI 1 true 0 (.ts []))) ?_
   refine ja [] rfl (fun b aA hb=> .inr ⟨by simp,?_⟩) (B0 ⟨rfl,rfl,rfl,rfl,rfl,rfl,rfl,rfl,trivial⟩)
   match b,hb with
   |0,hb=>cases hb;exact⟨_,rfl,.same _⟩
   |1,hb=>
    cases hb
    refine⟨_,rfl,.box _ _ rfl fun j x x' hx aC=> ?_⟩
    match j,hx,aC with
    |0,hx,aC=>cases hx;cases aC;exact .nil 2 _ _ rfl
    |1,hx,aC=>cases hx;cases aC;exact .nil 3 _ _ rfl
    |j+2,hx,aC=>cases hx
   |2,hb=>cases hb;exact⟨_,rfl,.same _⟩
   |3,hb=>cases hb;exact⟨_,rfl,.same _⟩
   |b+4,hb=>cases hb
  have hi:i≤F.length:=hi
  have uV:S0=dR P q false (F.take i):=uV
  have Ef:S1=dR P q true (F.take i):=Ef
  have gX:S0.length≤F.length:=by rw[uV];exact vd P q false F i
  have nv:S1.length≤F.length:=by rw[Ef];exact vd P q true F i
  refine U (fun c=> ?_) (fun c=> ?_)
  rotate_left 1
  ·have c:i=F.length:=by have:=dm c;omega
   have g0:S0=dR P q false F:=by rw[uV,c,List.take_length]
   have g1:S1=dR P q true F:=by rw[Ef,c,List.take_length]
   exact HQ _ _ ⟨rfl,_,i,by rw[←g0,←g1]⟩
  have ci:i<F.length:=by have:=de c;omega
  obtain⟨f,hf,kv⟩:=get_some (R:=F) (i:=i) ci
  obtain⟨p,hp,j2⟩:=get_some (R:=P) (i:=f) (hF f kv)
  obtain⟨w1,w2,w3,w4⟩:=hP p j2
  have iT:=fun b=>Fj P q b hf hp
  have Gh:(P.map cE.t)[((f:Nat):Int).toNat]?=some p.t:=by rw[Int.toNat_natCast,List.getElem?_map,hp];rfl
  refine ν (show(aG F)[((i:Nat):Int).toNat]?=some (T.int .i64 f)from by rw[Int.toNat_natCast];exact vB hf) ?_
  refine bh 3 ?_
  refine ν Gh ?_
  cases si:dA p.m0 p.m1 q with
  |false=>
   refine γ.a8 (kQ w1 w2 (by omega) si) rfl ⟨.refl _,.refl _,trivial⟩ ?_
   refine Or.inl (And.intro (by simp[Sq.length,aG]) (ε (ur (n:=S0.length+1) (by omega)) ?_))
   refine ν Gh ?_
   refine γ.a8 (kQ w1 w2 (by omega) si) rfl ⟨.refl _,.refl _,trivial⟩ ?_
   refine Or.inl (And.intro (by simp[Sq.length,aG]) (ε (ur (n:=S1.length+1) (by omega)) ?_))
   refine δ (n:=((i+1:Nat):Int)) (aj (n:=i+1) (by omega)) ?_
   have LQ:aG (S0++[f])=aG S0++[T.int .i64 f]:=by simp[aG]
   have zo:aG (S1++[f])=aG S1++[T.int .i64 f]:=by simp[aG]
   have LX:(S0++[f]).length=S0.length+1:=by simp
   have LW:(S1++[f]).length=S1.length+1:=by simp
   refine⟨⟨(i+1,S0++[f],S1++[f]),by omega,by rw[iT,si,←uV];rfl,by rw[iT,si,←Ef];rfl⟩,?_,by show F.length - (i+1)<F.length - i;omega⟩
   show aB _ _ ⟨[(0,.t (fU d P .dj)),(1,.t (.θ 1 (aG F))),(5,.ptr 0 0 0 0),(7,.t (.int .i64 (q:Int))),(15,.ptr 1 0 0 0),(78,.t (.θ 1 (aG F))),(79,.t (.int .i64 ((aG F).length:Int))),(80,.t (.int .i64 ((i+1:Nat):Int)))],[.box [.t (.int .u64 (e0:Int)),.t (.int .u64 (e1:Int))],.box [.sl 2 0 0 (S0++[f]).length,.sl 3 0 0 (S1++[f]).length],.arr tI 1 true 0 (.ts (aG (S0++[f]))),.arr tI 1 true 0 (.ts (aG (S1++[f])))]⟩
   rw[LQ,zo,LX,LW]
   exact τ [0,1,2,3] rfl ⟨rfl,rfl,rfl,rfl,rfl,rfl,rfl,rfl,trivial⟩ ⟨rfl,rfl,rfl,rfl,trivial⟩
  |true=>
   refine γ.a8 (lr w1 w2 (by omega) si) rfl ⟨.refl _,.refl _,trivial⟩ ?_
   cases pM:dA p.w0 p.w1 q with
   |false=>
    refine γ.a8 (kQ w3 w4 (by omega) pM) rfl ⟨.refl _,.refl _,trivial⟩ ?_
    refine Or.inl (And.intro (by simp[Sq.length,aG]) (ε (ur (n:=S0.length+1) (by omega)) ?_))
    refine ν Gh ?_
    refine γ.a8 (lr w1 w2 (by omega) si) rfl ⟨.refl _,.refl _,trivial⟩ ?_
    refine γ.a8 (kQ w3 w4 (by omega) pM) rfl ⟨.refl _,.refl _,trivial⟩ ?_
    refine δ (n:=((i+1:Nat):Int)) (aj (n:=i+1) (by omega)) ?_
    have LQ:aG (S0++[f])=aG S0++[T.int .i64 f]:=by simp[aG]
    have zo:aG (S1)=aG S1:=by rfl
    have LX:(S0++[f]).length=S0.length+1:=by simp
    have LW:(S1).length=S1.length:=by rfl
    refine⟨⟨(i+1,S0++[f],S1),by omega,by rw[iT,si,pM,←uV];rfl,by rw[iT,si,pM,←Ef];simp⟩,?_,by show F.length - (i+1)<F.length - i;omega⟩
    show aB _ _ ⟨[(0,.t (fU d P .dj)),(1,.t (.θ 1 (aG F))),(5,.ptr 0 0 0 0),(7,.t (.int .i64 (q:Int))),(15,.ptr 1 0 0 0),(78,.t (.θ 1 (aG F))),(79,.t (.int .i64 ((aG F).length:Int))),(80,.t (.int .i64 ((i+1:Nat):Int)))],[.box [.t (.int .u64 (e0:Int)),.t (.int .u64 (e1:Int))],.box [.sl 2 0 0 (S0++[f]).length,.sl 3 0 0 (S1).length],.arr tI 1 true 0 (.ts (aG (S0++[f]))),.arr tI 1 true 0 (.ts (aG (S1)))]⟩
    rw[LQ,zo,LX,LW]
    exact τ [0,1,2,3] rfl ⟨rfl,rfl,rfl,rfl,rfl,rfl,rfl,rfl,trivial⟩ ⟨rfl,rfl,rfl,rfl,trivial⟩
   |true=>
    refine γ.a8 (lr w3 w4 (by omega) pM) rfl ⟨.refl _,.refl _,trivial⟩ ?_
    refine ν Gh ?_
    refine γ.a8 (lr w1 w2 (by omega) si) rfl ⟨.refl _,.refl _,trivial⟩ ?_
    refine γ.a8 (lr w3 w4 (by omega) pM) rfl ⟨.refl _,.refl _,trivial⟩ ?_
    refine Or.inl (And.intro (by simp[Sq.length,aG]) (ε (ur (n:=S1.length+1) (by omega)) ?_))
    refine δ (n:=((i+1:Nat):Int)) (aj (n:=i+1) (by omega)) ?_
    have LQ:aG (S0)=aG S0:=by rfl
    have zo:aG (S1++[f])=aG S1++[T.int .i64 f]:=by simp[aG]
    have LX:(S0).length=S0.length:=by rfl
    have LW:(S1++[f]).length=S1.length+1:=by simp
    refine⟨⟨(i+1,S0,S1++[f]),by omega,by rw[iT,si,pM,←uV];simp,by rw[iT,si,pM,←Ef];rfl⟩,?_,by show F.length - (i+1)<F.length - i;omega⟩
    show aB _ _ ⟨[(0,.t (fU d P .dj)),(1,.t (.θ 1 (aG F))),(5,.ptr 0 0 0 0),(7,.t (.int .i64 (q:Int))),(15,.ptr 1 0 0 0),(78,.t (.θ 1 (aG F))),(79,.t (.int .i64 ((aG F).length:Int))),(80,.t (.int .i64 ((i+1:Nat):Int)))],[.box [.t (.int .u64 (e0:Int)),.t (.int .u64 (e1:Int))],.box [.sl 2 0 0 (S0).length,.sl 3 0 0 (S1++[f]).length],.arr tI 1 true 0 (.ts (aG (S0))),.arr tI 1 true 0 (.ts (aG (S1++[f])))]⟩
    rw[LQ,zo,LX,LW]
    exact τ [0,1,2,3] rfl ⟨rfl,rfl,rfl,rfl,rfl,rfl,rfl,rfl,trivial⟩ ⟨rfl,rfl,rfl,rfl,trivial⟩
 rintro _ _ ⟨rfl,b1,i2,rfl⟩
 have uN:∀b,(dR P q b F).length≤F.length:=fun b=>by have:=vd P q b F F.length;rwa [List.take_length]at this
 have kK:∀b,∀f∈dR P q b F,f<P.length:=fun b f hf=>hF f (List.mem_filter.1 hf).1
 have qf:∀b,a9 (.θ 1 (((aG (dR P q b F)).drop 0).take (dR P q b F).length)) (.θ 1 (aG (dR P q b F))):=fun b=> .of_eq (congrArg (T.θ 1) (by rw[List.drop_zero,List.take_of_length_le (by simp[aG])]))
 refine bJ (fun _=>[2,3]) J_ (by decide+kernel) ?_
 refine γ.cH (IH (dR P q false F) e0 e1 ze j4 Po (kK false) (by have:=uN false;omega)) rfl ⟨.refl _,qf false,.refl _,trivial⟩ ?_
 rintro _ ⟨lc,l,rfl,SR,hl⟩
 conv=>whnf
 refine And.intro ?_ ?_
 ·exact fun j _=>χ.set (b:=2) _ (List.mem_cons_self)
 refine γ.cH (IH (dR P q true F) e0 e1 ze j4 Po (kK true) (by have:=uN true;omega)) rfl ⟨.refl _,qf true,.refl _,trivial⟩ ?_
 rintro _ ⟨rc,r,rfl,Pe,hr⟩
 conv=>whnf
 refine And.intro ?_ ?_
 ·exact fun j _=>χ.set (b:=3) _ (List.mem_cons_of_mem _ List.mem_cons_self)
 refine And.intro (fun j hj=>by cases hj) ?_
 refine⟨_,⟨[.int .i64 q,.bg lc,.bg rc,.θ 1 []],.fork q l r,rfl,(by rw[SR,Pe];rfl),mg.fork hq hl hr⟩,_,_,rfl,B9⟩
theorem zh(d:ο)(P:List cE)(hP:∀p∈P,p.wf):∀(N:Nat) (F:List Nat) (a0 a1:Nat),mJ a0 a1<N→a0<18446744073709551616→a1<18446744073709551616→(∀f∈F,f<P.length)→F.length≤512→ab Tryz.prog 44 [fU d P .dj,.θ 1 (aG F),tD a0 a1] (w_ P F)
 |0,F,a0,a1,h,_,_,_,_=>absurd h (by omega)
 |N+1,F,a0,a1,h,h0,h1,hF,hl=>Il d P hP F a0 a1 h0 h1 hF hl fun F' e0 e1 LD VL ω Ya tj=>zh d P hP N F' e0 e1 (by omega) LD VL Ya tj
end Go.Proofs.YtcogcbplmkcojaaGreatDoor
