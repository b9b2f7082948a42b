/-
  Is a form's operand excepted by the other's literals? Are two forms apart? (walks)
-/
import Derived.Test.YtcogcbplmkcojaaGreatDoorKHm
namespace Go.Proofs.YtcogcbplmkcojaaGreatDoor
open Go.IntWalk
set_option maxRecDepth 100000
set_option linter.unusedVariables false
set_option linter.unusedSimpArgs false
set_option maxHeartbeats 1000000
def Bd:Ord:=(.op 0 [] (.op 1 [] (.op 2 [] (.op 3 [] (.op 4 [3,2] (.op 5 [4,3,2] (.op 6 [3,2] (.op 7 [] (.op 8 [] .nil)))))))))
def Dd:Ord:=(.op 0 [] (.op 1 [0] (.op 2 [] (.op 3 [] (.op 4 [3,2,1,0] (.op 5 [4,3,2,1,0] (.op 6 [3,2,1,0] (.op 7 [3,2,1,0] (.op 8 [] (.op 9 [8,7,6,5,4,3,2,1,0] (.op 10 [9,8,7,6,5,4,3,2,1,0] (.op 11 [8,7,6,5,4,3,2,1,0] (.op 12 [8,7,6,5,4,3,2,1,0] (.op 13 [12,11,10,9,8,7,6,5,4,3,2,1,0] (.op 14 [13,12,11,10,9,8,7,6,5,4,3,2,1,0] (.op 15 [12,11,10,9,8,7,6,5,4,3,2,1,0] (.op 16 [12,11,10,9,8,7,6,5,4,3,2,1,0] (.op 17 [8,7,6,5,4,3,2,1,0] (.op 18 [] (.op 19 [] .nil))))))))))))))))))))
theorem qk(l:List Int)(v:Int)(hl:l.length≤9223372036854775807):φ Tryz.prog 127 [.θ 1 (l.map (T.int .i64)),.int .i64 v] (.t (.bool (decide (v∈l)))):=by
 have fS:(l.map (T.int .i64)).length=l.length:=by simp
 refine φ.Γ ?_ rfl
 refine γ.ξ ζ η Tryz.func127 rfl rfl ?_
 refine γ.ξ ζ η Tryz.func170 rfl rfl ?_
 refine ao (fun i:Nat=>i≤l.length∧∀x∈l.take i,¬x=v) (fun i=>⟨[(0,.t (.θ 1 (l.map (T.int .i64)))),(1,.t (.int .i64 v)),(7,.t (.int .i64 ((l.map (T.int .i64)).length:Int))),(8,.t (.int .i64 i))],[]⟩)
  (fun i=>l.length - i) 0 ⟨Nat.zero_le _,by simp⟩ ?_ (fun i hi=> ?_)
 ·exact aM ⟨rfl,rfl,rfl,rfl,trivial⟩ rfl
 obtain⟨hi,hP⟩:=hi
 refine U (fun c=> ?_) (fun c=> ?_)
 ·have c:i<l.length:=by have:=de c;omega
  obtain⟨x,hx,dk⟩:=get_some (R:=l) (i:=i) c
  refine ν (show(l.map (T.int .i64))[((i:Nat):Int).toNat]?=some (T.int .i64 x)from by rw[Int.toNat_natCast,List.getElem?_map,hx];rfl) ?_
  refine U (fun c2=> ?_) (fun c2=> ?_)
  ·have c2:v=x:=by simpa using c2
   exact And.intro (congrArg (fun b=>some (T.bool b)) (by rw[show decide (v∈l)=true from decide_eq_true (by rw[c2];exact dk)];exact decide_eq_true (by omega))) rfl
  ·have c2:¬v=x:=by simpa using c2
   refine δ (n:=((i+1:Nat):Int)) (aj (n:=i+1) (by omega)) ?_
   conv=>whnf
   exact⟨⟨i+1,c,fc hx hP fun e=>c2 e.symm⟩,τ [] rfl ⟨rfl,rfl,rfl,rfl,trivial⟩ trivial,by show l.length - (i+1)<l.length - i;omega⟩
 ·have c:i=l.length:=by have:=dm c;omega
  rw[c,List.take_length]at hP
  exact And.intro (congrArg (fun b=>some (T.bool b)) (show decide ((-1:Int)≥0)=decide (v∈l)from by rw[decide_eq_false (fun h=>hP v h rfl)];rfl)) rfl
def mh(d:ο)(A B:List Θ)(i:Nat)(p:Nat)(wh:Bool)(n:Nat):Prop:=
 p≤A.length∧n<18446744073709551616∧(wh=true→(∀(q:Nat) (x:Θ),q<p→A[q]?=some x→x.arg=(i:Int)→∃y:Θ,B[q]?=some y∧gQ y)∧gq A i (ic B) p n)∧
 (wh=false→∃(q:Nat) (x:Θ),A[q]?=some x∧x.arg=(i:Int)∧¬∃y:Θ,B[q]?=some y∧gQ y)
theorem Oa{d:ο}(hd:d.ok)(k:cg)(hm:k∈d.classes):k.aY.length≤maxLen:=(hd.2.2.2.2.2.2.2.2.2.1 k hm).2.2.2.2.2.2.1
def T6(k:cg):List AV:=[.t (.str k.name),.t (.int .i64 k.kind),.t (.int .i64 k.file),.t (.int .i64 k.bits),.t (.int .i64 k.shift),.t (.int .i64 k.plus),.t (.θ 1 (k.aY.map (T.int .i64)))]
def VO(d:ο)(f:Ψ)(A B:List Θ)(i p:Nat)(wh:Bool)(n:Nat):List (Nat×AV):=[(2,.t (.θ 3 (A.map bF))),(3,.t (.θ 3 (B.map bF))),(4,.ptr 0 0 0 0),(17,.t (.θ 2 (f.args.map Λ))),(18,.t (.int .i64 ((f.args.map Λ).length:Int))),(19,.t (.int .i64 i)),(9,.t (.int .i64 i)),(11,.ptr 1 0 0 0),(12,.t (.int .u64 n)),(13,.t (.bool wh)),(31,.t (.θ 3 (A.map bF))),(32,.t (.int .i64 ((A.map bF).length:Int))),(33,.t (.int .i64 p))]
theorem QQ{b:Θ}(h:gQ b):φ Tryz.prog 68 [bF b] (.t (.bool true)):=by
 have:=rk b
 rwa [show decide (b.arg<0∧b.lit≠120)=true from decide_eq_true h]at this
theorem R9{b:Θ}(h:¬gQ b):φ Tryz.prog 68 [bF b] (.t (.bool false)):=by
 have:=rk b
 rwa [show decide (b.arg<0∧b.lit≠120)=false from decide_eq_false h]at this
theorem qJ.op{d:ο}{f:Ψ}{x:Θ}{i:Nat}{a:cP}{k:cg}(h:qJ d f x)(hx:x.arg=(i:Int))(ha:f.args[i]?=some a)(hk:bQ d.classes a.aU=some k):∃m:Nat,x.num=(m:Int)∧(m:Int)<k.bits∧x.lit=0:=by
 rcases h with⟨h,_⟩|⟨h0,j,a',k',m,h1,h2,h3,h4,h5,_⟩
 ·omega
 ·obtain rfl:i=j:=by omega
  rw[ha]at h2
  obtain rfl:=Option.some.inj h2
  rw[hk]at h3
  obtain rfl:=Option.some.inj h3
  exact⟨m,h4,h5,h0⟩
theorem mh.off{d:ο}{A B:List Θ}{i p n:Nat}{wh:Bool}(h:mh d A B i p wh n)(hp:p<A.length)(hw:∃(q:Nat) (x:Θ),A[q]?=some x∧x.arg=(i:Int)∧¬∃y:Θ,B[q]?=some y∧gQ y):mh d A B i (p+1) false n:=⟨hp,h.2.1,fun e=>(by cases e),fun _=>hw⟩
theorem mh.skip{d:ο}{A B:List Θ}{i p n:Nat}{wh:Bool}{x:Θ}(h:mh d A B i p wh n)(hx:A[p]?=some x)(hp:p<A.length)(hs:x.arg=(i:Int)→(∃y:Θ,B[p]?=some y∧gQ y)∧ic B p=false):mh d A B i (p+1) wh n:=
 ⟨hp,h.2.1,fun e=>⟨fun q z hq hz O6=>by
  by_cases e2:q=p
  ·subst e2
   obtain rfl:x=z:=by rw[hx]at hz;exact Option.some.inj hz
   exact(hs O6).1
  ·exact(h.2.2.1 e).1 q z (by omega) hz O6,(h.2.2.1 e).2.skip hx fun hi=>(hs hi).2⟩,h.2.2.2⟩
theorem mh.set{d:ο}{A B:List Θ}{i p n m:Nat}{wh:Bool}{x:Θ}(h:mh d A B i p wh n)(hx:A[p]?=some x)(hp:p<A.length)(hi:x.arg=(i:Int))(hm:x.num=(m:Int))(D2:m<64)(hy:∃y:Θ,B[p]?=some y∧gQ y)(ho:ic B p=true):mh d A B i (p+1) wh (n|||2^m):=
 ⟨hp,yJ h.2.1 D2,fun e=>⟨fun q z hq hz O6=>by
  by_cases e2:q=p
  ·subst e2;exact hy
  ·exact(h.2.2.1 e).1 q z (by omega) hz O6,(h.2.2.1 e).2.set hx hi hm ho⟩,h.2.2.2⟩
def IS(d:ο)(f:Ψ)(A B:List Θ)(i:Nat):Prop:=
 ∃(a:cP) (k:cg) (n:Nat),f.args[i]?=some a∧bQ d.classes a.aU=some k∧(∀(p:Nat) (x:Θ),A[p]?=some x→x.arg=(i:Int)→∃y:Θ,B[p]?=some y∧gQ y)∧fA A i (ic B) n∧bV k n∈k.aY
theorem v_(d:ο)(f:Ψ)(hd:d.ok)(hG:bG d f)(A B:List Θ)(hA:A=ψ d f)(Gq:B.length≤120):ab Tryz.prog 75 [ax d,ah f,.θ 3 (A.map bF),.θ 3 (B.map bF)] (aR (Mr d f A B)):=by
 have Yk:A.length≤120:=by rw[hA,ez];exact hG.le
 have VH:∀(p:Nat) (x:Θ),A[p]?=some x→qJ d f x:=fun p x h=>hG.td (by rw[←hA];exact h)
 have Zz:(A.map bF).length=A.length:=by simp
 have Zy:(B.map bF).length=B.length:=by simp
 have Xu:(f.args.map Λ).length=f.args.length:=by simp
 have ZI:=hG.args
 refine ab.Γ ?_ aR.aJ
 refine γ.ξ ζ η Tryz.func75 rfl rfl ?_
 refine ao (fun i:Nat=>i≤f.args.length∧∀j,j<i→¬IS d f A B j) (fun i=>⟨[(2,.t (.θ 3 (A.map bF))),(3,.t (.θ 3 (B.map bF))),(4,.ptr 0 0 0 0),(17,.t (.θ 2 (f.args.map Λ))),(18,.t (.int .i64 ((f.args.map Λ).length:Int))),(19,.t (.int .i64 i))],[.box (dn d)]⟩)
  (fun i=>f.args.length - i) 0 ⟨Nat.zero_le _,fun j h=>absurd h (Nat.not_lt_zero _)⟩ ?_ (fun i ⟨hi,hN⟩=> ?_)
 ·exact τ [0] rfl ⟨rfl,rfl,rfl,rfl,rfl,rfl,trivial⟩ ⟨rfl,trivial⟩
 have hi:i≤f.args.length:=hi
 refine U (fun c=> ?_) (fun c=> ?_)
 rotate_left 1
 ·have c:i=f.args.length:=by have:=dm c;omega
  exact ak fun h=>by
   obtain⟨j,a,h1⟩:=h
   have:=h1
   obtain⟨k,n,h2,h3⟩:=this
   exact hN j (by have:=(List.getElem?_eq_some_iff.1 h2).1;omega) ⟨a,h1⟩
 have c:i<f.args.length:=by have:=de c;omega
 obtain⟨a,ha,uT⟩:=get_some (R:=f.args) (i:=i) c
 obtain⟨k,hk,cd⟩:=hG.uZ a uT
 have bn:=mc hk
 obtain⟨k2,et,BC,lF⟩:=cQ bn
 obtain rfl:k=k2:=by rw[hk]at et;exact Option.some.inj et
 have S_:k.aY.length≤9223372036854775807:=dY (Oa hd k BC)
 refine ν (show(f.args.map Λ)[((i:Nat):Int).toNat]?=some (Λ a)from by rw[Int.toNat_natCast,List.getElem?_map,ha];rfl) ?_
 refine ε (gW rfl bn.1) ?_
 refine ν (cu lF) ?_
 refine b_ (fun e s'=>e= .exit 2∧∃(p:Nat) (wh:Bool) (n:Nat),mh d A B i p wh n∧p=A.length∧s'=⟨(34,.t (.bool (decide ((p:Int)<((A.map bF).length:Int)))))::VO d f A B i p wh n,[.box (dn d),.box (T6 k)]⟩) (fun Q' hq=> ?_) ?_
 ·refine ao (fun s:Nat×Bool×Nat=>mh d A B i s.1 s.2.1 s.2.2) (fun s=>⟨VO d f A B i s.1 s.2.1 s.2.2,[.box (dn d),.box (T6 k)]⟩)
   (fun s=>A.length - s.1) (0,true,0) ⟨Nat.zero_le _,by decide,fun _=>⟨fun q x h=>absurd h (Nat.not_lt_zero _),gq.zero _ _ _⟩,fun h=>by cases h⟩ ?_ (fun⟨p,wh,n⟩ hp=> ?_)
  ·exact τ [0,2] rfl ⟨rfl,rfl,rfl,rfl,rfl,rfl,rfl,rfl,rfl,rfl,rfl,rfl,rfl,trivial⟩ ⟨rfl,rfl,trivial⟩
  have hp:mh d A B i p wh n:=hp
  refine U (fun cp=> ?_) (fun cp=> ?_)
  ·have cq:p<A.length:=by have:=de cp;omega
   obtain⟨x,hx,dk⟩:=get_some (R:=A) (i:=p) cq
   refine ν (show(A.map bF)[((p:Nat):Int).toNat]?=some (bF x)from by rw[Int.toNat_natCast,List.getElem?_map,hx];rfl) ?_
   refine U (fun ce=> ?_) (fun ce=> ?_)
   ·have ce:x.arg=(i:Int):=by simpa using ce
    obtain⟨m,hm,lP,_⟩:=(VH p x hx).op ce ha hk
    have D2:m<64:=by rcases cd with h|h|h<;>omega
    cases wh with
    |false=>
     refine δ (n:=((p+1:Nat):Int)) (aj (n:=p+1) (by omega)) ?_
     conv=>whnf
     exact⟨⟨(p+1,false,n),hp.off cq (hp.2.2.2 rfl)⟩,τ [0,1] rfl ⟨rfl,rfl,rfl,rfl,rfl,rfl,rfl,rfl,rfl,rfl,rfl,rfl,rfl,trivial⟩ ⟨rfl,rfl,trivial⟩,by show A.length - (p+1)<A.length - p;omega⟩
    |true=>
     refine U (fun cb=> ?_) (fun cb=> ?_)
     ·have cb:p<B.length:=by have:=de cb;omega
      obtain⟨y,hy,O7⟩:=get_some (R:=B) (i:=p) cb
      refine ν (show(B.map bF)[((p:Nat):Int).toNat]?=some (bF y)from by rw[Int.toNat_natCast,List.getElem?_map,hy];rfl) ?_
      by_cases hl:gQ y
      ·refine γ.a8 (QQ hl) rfl ⟨.refl _,trivial⟩ ?_
       refine ν (show(B.map bF)[((p:Nat):Int).toNat]?=some (bF y)from by rw[Int.toNat_natCast,List.getElem?_map,hy];rfl) ?_
       refine U (fun jF=> ?_) (fun jF=> ?_)
       ·have jF:y.lit=49:=wE.1 jF
        refine ε (decide_eq_true (show(0:Int)≤x.num by omega)) ?_
        refine δ (n:=((2^m:Nat):Int)) (gE hm D2) ?_
        refine δ (n:=((n|||2^m:Nat):Int)) (iq hp.2.1 (iw D2)) ?_
        refine δ (n:=((p+1:Nat):Int)) (aj (n:=p+1) (by omega)) ?_
        conv=>whnf
        exact⟨⟨(p+1,true,n|||2^m),hp.set hx cq ce hm D2 ⟨y,hy,hl⟩ (by unfold ic;rw[hy];exact decide_eq_true jF)⟩,τ [0,1] rfl ⟨rfl,rfl,rfl,rfl,rfl,rfl,rfl,rfl,rfl,rfl,rfl,rfl,rfl,trivial⟩ ⟨rfl,rfl,trivial⟩,by show A.length - (p+1)<A.length - p;omega⟩
       ·have jF:¬y.lit=49:=fun e=>by rw[wE.2 e]at jF;cases jF
        refine δ (n:=((p+1:Nat):Int)) (aj (n:=p+1) (by omega)) ?_
        conv=>whnf
        exact⟨⟨(p+1,true,n),hp.skip hx cq fun _=>⟨⟨y,hy,hl⟩,by unfold ic;rw[hy];exact decide_eq_false jF⟩⟩,τ [0,1] rfl ⟨rfl,rfl,rfl,rfl,rfl,rfl,rfl,rfl,rfl,rfl,rfl,rfl,rfl,trivial⟩ ⟨rfl,rfl,trivial⟩,by show A.length - (p+1)<A.length - p;omega⟩
      ·refine γ.a8 (R9 hl) rfl ⟨.refl _,trivial⟩ ?_
       refine δ (n:=((p+1:Nat):Int)) (aj (n:=p+1) (by omega)) ?_
       conv=>whnf
       exact⟨⟨(p+1,false,n),hp.off cq ⟨p,x,hx,ce,fun⟨y2,h1,h2⟩=>by rw[hy]at h1;cases h1;exact hl h2⟩⟩,τ [0,1] rfl ⟨rfl,rfl,rfl,rfl,rfl,rfl,rfl,rfl,rfl,rfl,rfl,rfl,rfl,trivial⟩ ⟨rfl,rfl,trivial⟩,by show A.length - (p+1)<A.length - p;omega⟩
     ·have cb:¬p<B.length:=by have:=dm cb;omega
      refine δ (n:=((p+1:Nat):Int)) (aj (n:=p+1) (by omega)) ?_
      conv=>whnf
      exact⟨⟨(p+1,false,n),hp.off cq ⟨p,x,hx,ce,fun⟨y2,h1,h2⟩=>cb (List.getElem?_eq_some_iff.1 h1).1⟩⟩,τ [0,1] rfl ⟨rfl,rfl,rfl,rfl,rfl,rfl,rfl,rfl,rfl,rfl,rfl,rfl,rfl,trivial⟩ ⟨rfl,rfl,trivial⟩,by show A.length - (p+1)<A.length - p;omega⟩
   ·have ce:¬x.arg=(i:Int):=by simpa using ce
    refine δ (n:=((p+1:Nat):Int)) (aj (n:=p+1) (by omega)) ?_
    conv=>whnf
    exact⟨⟨(p+1,wh,n),hp.skip hx cq fun e=>absurd e ce⟩,τ [0,1] rfl ⟨rfl,rfl,rfl,rfl,rfl,rfl,rfl,rfl,rfl,rfl,rfl,rfl,rfl,trivial⟩ ⟨rfl,rfl,trivial⟩,by show A.length - (p+1)<A.length - p;omega⟩
  ·have cp:p=A.length:=by have:=dm cp;have:=hp.1;omega
   exact hq _ _ ⟨rfl,p,wh,n,hp,cp,rfl⟩
 rintro _ _ ⟨rfl,p,wh,n,hp,rfl,rfl⟩
 have Pl:¬IS d f A B i→i+1≤f.args.length∧∀j,j<i+1→¬IS d f A B j:=fun h=>⟨c,fun j hj=>by
  by_cases e:j=i
  ·rw[e];exact h
  ·exact hN j (by omega)⟩
 cases wh with
 |false=>
  have SH:=Pl fun⟨_,_,_,_,_,h,_⟩=>by
   obtain⟨q,x,h1,h2,h3⟩:=hp.2.2.2 rfl
   exact h3 (h q x h1 h2)
  refine υ Bd (by decide+kernel) ?_
  refine And.intro (fun j hj=>by first|(cases hj;done)|exact χ.append _ _ _|exact χ.refl _ _) ?_
  refine And.intro (fun j hj=>by first|(cases hj;done)|exact χ.append _ _ _|exact χ.refl _ _) ?_
  refine δ (n:=((i+1:Nat):Int)) (aj (n:=i+1) (by omega)) ?_
  conv=>whnf
  exact⟨⟨i+1,SH⟩,τ [0] rfl ⟨rfl,rfl,rfl,rfl,rfl,rfl,trivial⟩ ⟨rfl,trivial⟩,by show f.args.length - (i+1)<f.args.length - i;omega⟩
 |true=>
  obtain⟨h1,h2⟩:=hp.2.2.1 rfl
  have hn:=h2.lt (k:=k.bits.toNat) fun q x hq hx=>by
   obtain⟨m,hm,lP,_⟩:=(VH q x hq).op hx ha hk
   omega
  refine υ Bd (by decide+kernel) ?_
  refine γ.a8 (G0 d k cd n hn) rfl ⟨.refl _,.refl _,trivial⟩ ?_
  refine And.intro (fun j hj=>by first|(cases hj;done)|exact χ.append _ _ _|exact χ.refl _ _) ?_
  refine γ.a8 (qk k.aY (bV k n) S_) rfl ⟨.refl _,.refl _,trivial⟩ ?_
  refine And.intro (fun j hj=>by first|(cases hj;done)|exact χ.append _ _ _|exact χ.refl _ _) ?_
  refine U (fun ce=> ?_) (fun ce=> ?_)
  ·have ce:bV k n∈k.aY:=of_decide_eq_true ce
   exact aZ ⟨fun _=>⟨i,a,k,n,ha,hk,fun q x hq hx=>h1 q x (List.getElem?_eq_some_iff.1 hq).1 hq hx,h2.all,ce⟩,fun _=>rfl⟩
  have ce:¬bV k n∈k.aY:=of_decide_eq_false ce
  have SH:=Pl fun⟨a',k',n',h3,h4,_,h5,h6⟩=>by
   rw[ha]at h3;cases h3
   cases uD hk h4
   cases h5.p9 h2.all
   exact ce h6
  refine δ (n:=((i+1:Nat):Int)) (aj (n:=i+1) (by omega)) ?_
  conv=>whnf
  exact⟨⟨i+1,SH⟩,τ [0] rfl ⟨rfl,rfl,rfl,rfl,rfl,rfl,trivial⟩ ⟨rfl,trivial⟩,by show f.args.length - (i+1)<f.args.length - i;omega⟩
theorem Mo(d:ο)(f g:Ψ)(hd:d.ok)(hf:bG d f)(hg:bG d g){a0 a1 u0 u1 b0 b1 v0 v1:Nat}(Lw:dV (ψ d f) (ψ d f).length a0 a1 u0 u1)(Lv:dV (ψ d g) (ψ d g).length b0 b1 v0 v1):
 ab Tryz.prog 27 [ax d,ah f,ah g,tQ (.vec 3 ((ψ d f).map bF)) a0 a1 u0 u1,tQ (.vec 3 ((ψ d g).map bF)) b0 b1 v0 v1] (aR (j6 d f g)):=by
 have BE:(ψ d f).length≤120:=by rw[ez];exact hf.le
 have S5:(ψ d g).length≤120:=by rw[ez];exact hg.le
 obtain⟨LA,VI,_⟩:=Lw.mask
 obtain⟨Vy,Vx,_⟩:=Lw.want
 obtain⟨Yj,Yi,_⟩:=Lv.mask
 obtain⟨Vw,Vv,_⟩:=Lv.want
 have Yc:=v_ d f hd hf (ψ d f) (ψ d g) rfl S5
 have Yb:=v_ d g hd hg (ψ d g) (ψ d f) rfl BE
 refine ab.Γ ?_ aR.aJ
 refine γ.ξ ζ η Tryz.func27 rfl rfl ?_
 refine bh 3 ?_
 refine υ Dd (by decide+kernel) ?_
 refine δ (n:=((a0&&& b0:Nat):Int)) (mZ LA Yj) ?_
 refine δ (n:=((u0^^^v0:Nat):Int)) (Js Vy Vw) ?_
 refine δ (n:=((a0&&& b0&&& (u0^^^v0):Nat):Int)) (mZ (Nat.lt_of_le_of_lt Nat.and_le_left LA) (Nat.xor_lt_two_pow (n:=64) Vy Vw)) ?_
 refine U (fun c=> ?_) (fun c0=> ?_)
 ·exact aZ ⟨fun _=> .inl (Ox Lw Lv (by intro e;rw[e]at c;cases c)),fun _=>rfl⟩
 have c0:a0&&& b0&&& (u0^^^v0)=0:=by have:(((a0&&& b0&&& (u0^^^v0):Nat):Int)!=0)=false:=c0
                                     simp at this;omega
 refine υ Dd (by decide+kernel) ?_
 refine δ (n:=((a1&&& b1:Nat):Int)) (mZ VI Yi) ?_
 refine δ (n:=((u1^^^v1:Nat):Int)) (Js Vx Vv) ?_
 refine δ (n:=((a1&&& b1&&& (u1^^^v1):Nat):Int)) (mZ (Nat.lt_of_le_of_lt Nat.and_le_left VI) (Nat.xor_lt_two_pow (n:=64) Vx Vv)) ?_
 refine U (fun c=> ?_) (fun c1=> ?_)
 ·exact aZ ⟨fun _=> .inl (L2 Lw Lv (by intro e;rw[e]at c;cases c)),fun _=>rfl⟩
 have c1:a1&&& b1&&& (u1^^^v1)=0:=by have:(((a1&&& b1&&& (u1^^^v1):Nat):Int)!=0)=false:=c1
                                     simp at this;omega
 have vM:=L1 Lw Lv (by omega) c0 c1
 refine γ.cH Yc rfl ⟨.refl _,.refl _,.vec 3 _,.vec 3 _,trivial⟩ ?_
 rintro _ ⟨e1,rfl,p1⟩
 cases e1 with
 |true=>exact aZ ⟨fun _=> .inr (.inl (p1.1 rfl)),fun _=>rfl⟩
 |false=>
  refine γ.cH Yb rfl ⟨.refl _,.refl _,.vec 3 _,.vec 3 _,trivial⟩ ?_
  rintro _ ⟨e2,rfl,p2⟩
  exact aZ ⟨fun h=> .inr (.inr (p2.1 h)),fun h=>by
   rcases h with h|h|h
   ·exact absurd h vM
   ·exact absurd (p1.2 h) (by decide)
   ·exact p2.2 h⟩
end Go.Proofs.YtcogcbplmkcojaaGreatDoor
