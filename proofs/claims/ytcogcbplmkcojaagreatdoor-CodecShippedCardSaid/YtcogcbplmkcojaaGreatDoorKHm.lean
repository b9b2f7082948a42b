/-
  A form's pattern (walk).
-/
import Derived.Test.YtcogcbplmkcojaaGreatDoorKHl
import Derived.Test.YtcogcbplmkcojaaGreatDoorKHk
namespace Go.Proofs.YtcogcbplmkcojaaGreatDoor
open Go.IntWalk
set_option maxRecDepth 100000
set_option linter.unusedVariables false
set_option linter.unusedSimpArgs false
set_option maxHeartbeats 1000000
def Df:Ord:=(.op 0 [] (.op 1 [] (.op 2 [1,0] (.op 3 [] (.op 4 [] (.op 5 [4,3,2,1,0] (.op 6 [4,3,2,1,0] (.op 7 [4,3,2,1,0] (.op 8 [] (.op 9 [8,7,6,5,4,3,2,1,0] (.op 10 [] (.op 11 [] .nil))))))))))))
def De:Ord:=(.op 0 [] (.op 1 [] (.op 2 [1,0] (.op 3 [] (.op 4 [] (.op 5 [4,3,2,1,0] (.op 6 [4,3,2,1,0] (.op 7 [4,3,2,1,0] (.op 8 [] (.op 9 [8,7,6,5,4,3,2,1,0] (.op 10 [] (.op 11 [] .nil))))))))))))
def tQ(l:T)(m0 m1 w0 w1:Nat):T:= .agg [l,.int .u64 m0,.int .u64 m1,.int .u64 w0,.int .u64 w1]
def IL(d:ο)(f:Ψ)(r:AV):Prop:=(r= .t (tQ .af 0 0 0 0)∧¬bG d f)∨
 ∃m0 m1 w0 w1:Nat,r= .t (tQ (.vec 3 ((ψ d f).map bF)) m0 m1 w0 w1)∧bG d f∧dV (ψ d f) (ψ d f).length m0 m1 w0 w1
theorem IL.aJ{d:ο}{f:Ψ}:∀r,IL d f r→aJ r=true:=by rintro r (⟨rfl,_⟩|⟨_,_,_,_,rfl,_⟩)<;>rfl
theorem wE{x:Θ}:(((x.lit:Nat):Int)==49)=true↔x.lit=49:=by simp;omega
def VY(R:List Θ)(m0 m1 w0 w1:Nat):AH:=[.box [.t .af,.t (.int .u64 0),.t (.int .u64 0),.t (.int .u64 0),.t (.int .u64 0)],.arr m7 3 false 0 (.ts (R.map bF)),.box [.sl 1 0 0 R.length,.t (.int .u64 m0),.t (.int .u64 m1),.t (.int .u64 w0),.t (.int .u64 w1)]]
theorem C6(d:ο)(f:Ψ)(hd:d.ok)(hf:f.ok)(hs:fP f.pieces≤2000000000000):ab Tryz.prog 23 [ax d,ah f] (IL d f):=by
 have hB:=BV d f hd hf hs
 refine ab.Nt ?_ IL.aJ
 refine γ.ξ ζ η Tryz.func23 rfl rfl ?_
 refine γ.cH hB rfl ⟨.refl _,.refl _,trivial⟩ ?_
 rintro _ (⟨rfl,hn⟩|⟨R0,rfl,hG,hP⟩)
 ·refine bh 1 ?_
  exact⟨_,.inl ⟨rfl,hn⟩,And.intro rfl rfl⟩
 have X2:=hP.eq hG.m8
 subst X2
 obtain⟨R,hR⟩:∃R,R=ψ d f:=⟨_,rfl⟩
 have hlen:R.length≤120:=by rw[hR,ez];exact hG.le
 have fS:(R.map bF).length=R.length:=by simp
 have e0:ka d.order (bf f.pieces)=R:=hR.symm
 refine ao (fun s:Nat×Nat×Nat×Nat×Nat=>s.1≤R.length∧dV R s.1 s.2.1 s.2.2.1 s.2.2.2.1 s.2.2.2.2) (fun s=>⟨[(4,.ptr 0 0 0 0),(5,.ptr 2 0 0 0),(13,.sl 1 0 0 R.length),(14,.t (.int .i64 (R.length:Int))),(15,.t (.int .i64 s.1))],VY R s.2.1 s.2.2.1 s.2.2.2.1 s.2.2.2.2⟩)
  (fun s=>R.length - s.1) (0,0,0,0,0) ⟨Nat.zero_le _,dV.zero R⟩ ?_ (fun⟨n,m0,m1,w0,w1⟩ hn=> ?_)
 ·have eA:(ka d.order (bf f.pieces)).map bF=R.map bF:=by rw[e0]
  have eL:((ka d.order (bf f.pieces)).map bF).length=R.length:=by rw[e0,fS]
  exact τ [2,3,4] rfl ⟨rfl,rfl,congrArg (fun k:Nat=>some (AV.sl 1 0 0 k)) eL,congrArg (fun k:Nat=>some (AV.t (.int .i64 (k:Int)))) eL,rfl,trivial⟩ ⟨rfl,congrArg (fun l=>some (Ω.arr m7 3 false 0 (.ts l))) eA,congrArg (fun k:Nat=>some (Ω.box [.sl 1 0 0 k,.t (.int .u64 0),.t (.int .u64 0),.t (.int .u64 0),.t (.int .u64 0)])) eL,trivial⟩
 obtain⟨hn,hO⟩:n≤R.length∧dV R n m0 m1 w0 w1:=hn
 refine U (fun c=> ?_) (fun c=> ?_)
 ·have c:n<R.length:=by have:=de c;omega
  obtain⟨x,hx,dk⟩:=get_some (R:=R) (i:=n) c
  refine ε (Ax rfl (by omega)) ?_
  refine ν (ud hx) ?_
  refine γ.a8 (rk x) rfl ⟨.refl _,trivial⟩ ?_
  refine U (fun cl=> ?_) (fun cl=> ?_)
  ·have iD:x.arg<0∧x.lit≠120:=of_decide_eq_true cl
   obtain⟨mT,sr,_⟩:=hO.mask
   obtain⟨XY,Tq,_⟩:=hO.want
   by_cases sK:n<64
   ·refine υ Df (by decide+kernel) ?_
    refine ε rfl ?_
    refine δ (n:=0) (show IntKind.i64.wrap (((n:Nat):Int).tdiv 64)=0 from by rw[Int.tdiv_eq_ediv_of_nonneg (by omega),IntKind.wrap_i64];omega) ?_
    refine ε rfl ?_
    refine δ (n:=((n:Nat):Int)) (show((n:Nat):Int).tmod 64=_ from by rw[Int.tmod_eq_emod_of_nonneg (by omega)];omega) ?_
    refine ε (decide_eq_true (show(0:Int)≤((n:Nat):Int) by omega)) ?_
    refine δ (n:=((2^n:Nat):Int)) (gE rfl (by omega)) ?_
    refine δ (n:=((m0|||2^n:Nat):Int)) (iq mT (iw (by omega))) ?_
    refine And.intro (fun j hj=>by cases hj) ?_
    refine U (fun jF=> ?_) (fun jF=> ?_)
    ·have jF:x.lit=49:=wE.1 jF
     refine υ De (by decide+kernel) ?_
     refine ε rfl ?_
     refine δ (n:=0) (show IntKind.i64.wrap (((n:Nat):Int).tdiv 64)=0 from by rw[Int.tdiv_eq_ediv_of_nonneg (by omega),IntKind.wrap_i64];omega) ?_
     refine ε rfl ?_
     refine δ (n:=((n:Nat):Int)) (show((n:Nat):Int).tmod 64=_ from by rw[Int.tmod_eq_emod_of_nonneg (by omega)];omega) ?_
     refine ε (decide_eq_true (show(0:Int)≤((n:Nat):Int) by omega)) ?_
     refine δ (n:=((2^n:Nat):Int)) (gE rfl (by omega)) ?_
     refine δ (n:=((w0|||2^n:Nat):Int)) (iq XY (iw (by omega))) ?_
     refine And.intro (fun j hj=>by cases hj) ?_
     refine δ (n:=((n+1:Nat):Int)) (aj (n:=n+1) (by omega)) ?_
     conv=>whnf
     exact⟨⟨(n+1,m0|||2^n,m1,w0|||2^n,w1),c,(hO.low hx iD sK).1 jF⟩,τ [0,1,2] rfl ⟨rfl,rfl,rfl,rfl,rfl,trivial⟩ ⟨rfl,rfl,rfl,trivial⟩,by show R.length - (n+1)<R.length - n;omega⟩
    ·have jF:¬x.lit=49:=fun e=>by rw[wE.2 e]at jF;cases jF
     refine δ (n:=((n+1:Nat):Int)) (aj (n:=n+1) (by omega)) ?_
     conv=>whnf
     exact⟨⟨(n+1,m0|||2^n,m1,w0,w1),c,(hO.low hx iD sK).2 jF⟩,τ [0,1,2] rfl ⟨rfl,rfl,rfl,rfl,rfl,trivial⟩ ⟨rfl,rfl,rfl,trivial⟩,by show R.length - (n+1)<R.length - n;omega⟩
   obtain⟨k,hk⟩:∃k,n=64+k:=⟨n - 64,by omega⟩
   refine υ Df (by decide+kernel) ?_
   refine ε rfl ?_
   refine δ (n:=1) (show IntKind.i64.wrap (((n:Nat):Int).tdiv 64)=1 from by rw[Int.tdiv_eq_ediv_of_nonneg (by omega),IntKind.wrap_i64];omega) ?_
   refine ε rfl ?_
   refine δ (n:=((k:Nat):Int)) (show((n:Nat):Int).tmod 64=_ from by rw[Int.tmod_eq_emod_of_nonneg (by omega)];omega) ?_
   refine ε (decide_eq_true (show(0:Int)≤((k:Nat):Int) by omega)) ?_
   refine δ (n:=((2^k:Nat):Int)) (gE rfl (by omega)) ?_
   refine δ (n:=((m1|||2^k:Nat):Int)) (iq sr (iw (by omega))) ?_
   refine And.intro (fun j hj=>by cases hj) ?_
   refine U (fun jF=> ?_) (fun jF=> ?_)
   ·have jF:x.lit=49:=wE.1 jF
    refine υ De (by decide+kernel) ?_
    refine ε rfl ?_
    refine δ (n:=1) (show IntKind.i64.wrap (((n:Nat):Int).tdiv 64)=1 from by rw[Int.tdiv_eq_ediv_of_nonneg (by omega),IntKind.wrap_i64];omega) ?_
    refine ε rfl ?_
    refine δ (n:=((k:Nat):Int)) (show((n:Nat):Int).tmod 64=_ from by rw[Int.tmod_eq_emod_of_nonneg (by omega)];omega) ?_
    refine ε (decide_eq_true (show(0:Int)≤((k:Nat):Int) by omega)) ?_
    refine δ (n:=((2^k:Nat):Int)) (gE rfl (by omega)) ?_
    refine δ (n:=((w1|||2^k:Nat):Int)) (iq Tq (iw (by omega))) ?_
    refine And.intro (fun j hj=>by cases hj) ?_
    refine δ (n:=((n+1:Nat):Int)) (aj (n:=n+1) (by omega)) ?_
    conv=>whnf
    exact⟨⟨(n+1,m0,m1|||2^k,w0,w1|||2^k),c,(hO.high hx iD hk (by omega)).1 jF⟩,τ [0,1,2] rfl ⟨rfl,rfl,rfl,rfl,rfl,trivial⟩ ⟨rfl,rfl,rfl,trivial⟩,by show R.length - (n+1)<R.length - n;omega⟩
   ·have jF:¬x.lit=49:=fun e=>by rw[wE.2 e]at jF;cases jF
    refine δ (n:=((n+1:Nat):Int)) (aj (n:=n+1) (by omega)) ?_
    conv=>whnf
    exact⟨⟨(n+1,m0,m1|||2^k,w0,w1),c,(hO.high hx iD hk (by omega)).2 jF⟩,τ [0,1,2] rfl ⟨rfl,rfl,rfl,rfl,rfl,trivial⟩ ⟨rfl,rfl,rfl,trivial⟩,by show R.length - (n+1)<R.length - n;omega⟩
  ·refine δ (n:=((n+1:Nat):Int)) (aj (n:=n+1) (by omega)) ?_
   conv=>whnf
   exact⟨⟨(n+1,m0,m1,w0,w1),c,hO.skip hx (of_decide_eq_false cl)⟩,τ [0,1,2] rfl ⟨rfl,rfl,rfl,rfl,rfl,trivial⟩ ⟨rfl,rfl,rfl,trivial⟩,by show R.length - (n+1)<R.length - n;omega⟩
 ·have c:n=R.length:=by have:=dm c;omega
  subst c
  have eP:((R.map bF).drop 0).take R.length=(ψ d f).map bF:=by rw[←hR,List.drop_zero,List.take_of_length_le (by simp)]
  exact⟨_,.inr ⟨m0,m1,w0,w1,rfl,hG,by rw[←hR];exact hO⟩,And.intro (congrArg (fun l=>some (tQ (.vec 3 l) m0 m1 w0 w1)) eP) rfl⟩
end Go.Proofs.YtcogcbplmkcojaaGreatDoor
