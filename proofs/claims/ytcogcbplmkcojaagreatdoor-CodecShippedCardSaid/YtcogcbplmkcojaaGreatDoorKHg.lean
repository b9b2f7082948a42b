/-
  The bits of a pattern by their places (walk).
-/
import Derived.Test.YtcogcbplmkcojaaGreatDoorKHf
import Derived.Test.YtcogcbplmkcojaaGreatDoorKHe
namespace Go.Proofs.YtcogcbplmkcojaaGreatDoor
open Go.IntWalk
set_option maxRecDepth 100000
set_option linter.unusedVariables false
set_option linter.unusedSimpArgs false
set_option maxHeartbeats 1000000
theorem At{a b c:Nat}(h:a+b=c)(hc:c≤9223372036854775807):IntKind.i64.wrap ((c:Int) - (b:Int))=a:=by rw[IntKind.wrap_i64];omega
theorem Ax{i n:Nat}{b:Bool}(hb:b=true)(h:i<n):(b&&rq (i:Int) n)=true:=by rw[hb];simp[rq];omega
theorem ud{α β:Type}{f:α→β}{l:List α}{i:Nat}{a:α}(h:l[i]?=some a):(l.map f)[0+i]?=some (f a):=by rw[Nat.zero_add,List.getElem?_map,h];rfl
theorem Ur{n:Nat}(h:n≤1000000):(decide (0≤(n:Int))&&decide ((n:Int)≤n)&&decide ((n:Int)*24≤140737488355328)&&decide ((n:Int)≤9223372036854775807)&&true&&true&&true)=true:=by simp;omega
abbrev m7:Nat:= 159
def zT:Θ:=⟨0,0,0⟩
def bo(o:Int)(n s:Nat):Nat:=if o=1 then n - 1 - s else s/8*8+7 - s%8
theorem iG{o:Int}{n s:Nat}(h:s<n)(h8:n%8=0):bo o n s<n:=by unfold bo;split<;>omega
theorem C4{o:Int}{n s s':Nat}(h:s<n)(h':s'<n)(he:bo o n s=bo o n s'):s=s':=by
 unfold bo at he;split at he<;>omega
theorem mK{o:Int}{n s:Nat}(h:s<n):bo o n (bo o n s)=s:=by
 unfold bo;split<;>omega
theorem vq{o:Int}(h:o=1)(n s:Nat):bo o n s=n - 1 - s:=by unfold bo;rw[if_pos h]
theorem tP{o:Int}(h:¬o=1)(n s:Nat):bo o n s=s/8*8+7 - s%8:=by unfold bo;rw[if_neg h]
def la(o:Int)(bs R:List Θ):Prop:=R.length=bs.length∧∀s,s<bs.length→R[bo o bs.length s]?=bs[s]?
theorem la.at_{o:Int}{bs R:List Θ}(h:la o bs R)(h8:bs.length%8=0){p:Nat}(hp:p<bs.length):R[p]?=bs[bo o bs.length p]?:=by
 have:=h.2 (bo o bs.length p) (iG hp h8)
 rwa [mK hp]at this
theorem la.mem{o:Int}{bs R:List Θ}(h:la o bs R)(h8:bs.length%8=0){b:Θ}(hb:b∈R):b∈bs:=by
 obtain⟨p,hp,e⟩:=List.getElem_of_mem hb
 have h1:=h.at_ h8 (p:=p) (by rw[←h.1];exact hp)
 rw[List.getElem?_eq_getElem hp,e]at h1
 exact List.mem_of_getElem? h1.symm
def w8(d:ο)(bs:List Θ)(r:AV):Prop:=∃R:List Θ,r= .own m7 3 false (R.map bF)∧la d.order bs R
theorem w8.aJ{d:ο}{bs:List Θ}:∀r,w8 d bs r→aJ r=true:=by rintro r ⟨R,rfl,_⟩;rfl
theorem Fo(d:ο)(bs:List Θ)(hn:bs.length≤1000000)(h8:bs.length%8=0):ab Tryz.prog 106 [ax d,.θ 3 (bs.map bF)] (w8 d bs):=by
 have fS:(bs.map bF).length=bs.length:=by simp
 obtain⟨n,SJ⟩:∃n,n=bs.length:=⟨_,rfl⟩
 refine ab.Γ ?_ w8.aJ
 refine γ.ξ ζ η Tryz.func106 rfl rfl ?_
 refine ε (Ur (n:=(bs.map bF).length) (by omega)) ?_
 refine U (fun c=>absurd (of_decide_eq_true c) (by omega)) (fun _=> ?_)
 have hz:(List.replicate (((bs.map bF).length:Nat):Int).toNat (bF zT))=(List.replicate n zT).map bF:=by rw[Int.toNat_natCast,fS,List.map_replicate,SJ]
 refine ao (fun s:Nat×List Θ=>s.1≤n∧s.2.length=n∧∀t,t<s.1→s.2[bo d.order n t]?=bs[t]?) (fun s=>⟨[(1,.t (.θ 3 (bs.map bF))),(2,.ptr 0 0 0 0),(5,.sl 1 0 0 n),(11,.t (.θ 3 (bs.map bF))),(12,.t (.int .i64 ((bs.map bF).length:Int))),(13,.t (.int .i64 s.1))],[.box (dn d),.arr m7 3 false 0 (.ts (s.2.map bF))]⟩)
  (fun s=>n - s.1) (0,List.replicate n zT) ⟨Nat.zero_le _,List.length_replicate,fun t ht=>absurd ht (Nat.not_lt_zero _)⟩ ?_ (fun⟨i,R⟩ hi=> ?_)
 ·exact τ [0,2] rfl ⟨rfl,rfl,congrArg (fun k:Nat=>some (AV.sl 1 0 0 k)) (show(((bs.map bF).length:Nat):Int).toNat=n by rw[Int.toNat_natCast,fS,SJ]),rfl,rfl,rfl,trivial⟩ ⟨rfl,congrArg (fun l=>some (Ω.arr m7 3 false 0 (.ts l))) hz,trivial⟩
 have hi:i≤n∧R.length=n∧∀t,t<i→R[bo d.order n t]?=bs[t]?:=hi
 obtain⟨hi,X1,hR⟩:=hi
 refine U (fun c=> ?_) (fun c=> ?_)
 ·have c:i<n:=by have:=de c;omega
  obtain⟨x,hx,dk⟩:=get_some (R:=bs) (i:=i) (by omega)
  refine ν (show(bs.map bF)[((i:Nat):Int).toNat]?=some (bF x)from by rw[Int.toNat_natCast,List.getElem?_map,hx];rfl) ?_
  have fin:∀j,j=bo d.order n i→i+1≤n∧(R.set j x).length=n∧∀t,t<i+1→(R.set j x)[bo d.order n t]?=bs[t]?:=fun j hj=>⟨c,by simp[X1],fun t ht=>by
   have ZB:j<n:=by rw[hj];exact iG c (by omega)
   by_cases rA:t=i
   ·subst rA
    rw[←hj,List.getElem?_set_self (by omega),hx]
   ·have:bo d.order n t≠j:=fun e=>rA (C4 (n:=n) (o:=d.order) (by omega) c (by rw[e,hj]))
    rw[List.getElem?_set_ne (fun e=>this e.symm)]
    exact hR t (by omega)⟩
  refine U (fun co=> ?_) (fun co=> ?_)
  ·refine δ (n:=((n - 1:Nat):Int)) (show IntKind.i64.wrap (((bs.map bF).length:Int) - 1)=((n - 1:Nat):Int)from by rw[fS,IntKind.wrap_i64];omega) ?_
   refine δ (n:=((n - 1 - i:Nat):Int)) (At (a:=n - 1 - i) (b:=i) (c:=n - 1) (by omega) (by omega)) ?_
   obtain⟨y,hy,_⟩:=get_some (R:=R) (i:=n - 1 - i) (by omega)
   refine ε (Ax rfl (by omega)) ?_
   refine ν (ud hy) ?_
   refine δ (n:=((i+1:Nat):Int)) (aj (n:=i+1) (by omega)) ?_
   conv=>whnf
   exact⟨⟨(i+1,R.set (n - 1 - i) x),fin _ (vq (by simpa using co) _ _).symm⟩,τ [0,1] rfl ⟨rfl,rfl,rfl,rfl,rfl,rfl,trivial⟩ ⟨rfl,congrArg (fun l=>some (Ω.arr m7 3 false 0 (.ts l))) (show(R.map bF).set (0+(n - 1 - i)) (bF x)=(R.set (n - 1 - i) x).map bF by rw[Nat.zero_add,List.map_set]),trivial⟩,by show n - (i+1)<n - i;omega⟩
  ·obtain⟨q,hq⟩:∃q,q=i/8:=⟨_,rfl⟩
   obtain⟨m,hm⟩:∃m,m=i%8:=⟨_,rfl⟩
   obtain⟨p,hp⟩:∃p,p=q*8+7 - m:=⟨_,rfl⟩
   have y7:p<n:=by omega
   refine ε rfl ?_
   obtain⟨q8,Va⟩:∃z,z=q*8:=⟨_,rfl⟩
   obtain⟨q7,Vb⟩:∃z,z=q8+7:=⟨_,rfl⟩
   refine δ (n:=((q:Nat):Int)) (show IntKind.i64.wrap (((i:Nat):Int).tdiv 8)=_ from by rw[Int.tdiv_eq_ediv_of_nonneg (by omega),IntKind.wrap_i64];omega) ?_
   refine δ (n:=((q8:Nat):Int)) (show IntKind.i64.wrap (((q:Nat):Int)*8)=_ from by rw[IntKind.wrap_i64];omega) ?_
   refine δ (n:=((q7:Nat):Int)) (show IntKind.i64.wrap (((q8:Nat):Int)+7)=_ from by rw[IntKind.wrap_i64];omega) ?_
   refine ε rfl ?_
   refine δ (n:=((m:Nat):Int)) (show((i:Nat):Int).tmod 8=_ from by rw[Int.tmod_eq_emod_of_nonneg (by omega)];omega) ?_
   refine δ (n:=((p:Nat):Int)) (show IntKind.i64.wrap (((q7:Nat):Int) - ((m:Nat):Int))=_ from by rw[IntKind.wrap_i64];omega) ?_
   obtain⟨y,hy,_⟩:=get_some (R:=R) (i:=p) (by omega)
   refine ε (Ax rfl (by omega)) ?_
   refine ν (ud hy) ?_
   refine δ (n:=((i+1:Nat):Int)) (aj (n:=i+1) (by omega)) ?_
   conv=>whnf
   exact⟨⟨(i+1,R.set p x),fin _ (by rw[tP (by simpa using co)];omega)⟩,τ [0,1] rfl ⟨rfl,rfl,rfl,rfl,rfl,rfl,trivial⟩ ⟨rfl,congrArg (fun l=>some (Ω.arr m7 3 false 0 (.ts l))) (show(R.map bF).set (0+p) (bF x)=(R.set p x).map bF by rw[Nat.zero_add,List.map_set]),trivial⟩,by show n - (i+1)<n - i;omega⟩
 ·have c:i=n:=by have:=dm c;omega
  exact⟨_,⟨R,rfl,by omega,fun t ht=>by rw[←SJ];exact hR t (by omega)⟩,_,rfl,rfl,by simp;omega,.refl _⟩
end Go.Proofs.YtcogcbplmkcojaaGreatDoor
