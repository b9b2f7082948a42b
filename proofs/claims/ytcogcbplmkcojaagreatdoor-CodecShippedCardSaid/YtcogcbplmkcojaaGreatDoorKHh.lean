/-
  Operands of a form; the value of an operand; the effects that Check asks for.
-/
import Derived.Test.YtcogcbplmkcojaaGreatDoorKHg
namespace Go.Proofs.YtcogcbplmkcojaaGreatDoor
open Go.IntWalk
set_option maxRecDepth 100000
set_option linter.unusedVariables false
set_option linter.unusedSimpArgs false
set_option maxHeartbeats 1000000
def M_:Ord:=(.op 0 [] (.op 1 [] (.op 2 [1,0] (.op 3 [1,0] (.op 4 [1,0] (.op 5 [1,0] (.op 6 [] (.op 7 [] (.op 8 [] (.op 9 [8] (.op 10 [8] (.op 11 [8] (.op 12 [11,10,9,8] (.op 13 [11,10,9,8] (.op 14 [8] (.op 15 [8] (.op 16 [] (.op 17 [] (.op 18 [] .nil)))))))))))))))))))
def M9:Ord:=(.op 0 [] (.op 1 [0] (.op 2 [0] (.op 3 [0] (.op 4 [] (.op 5 [] (.op 6 [5,4,3,2,1,0] (.op 7 [5,4,3,2,1,0] (.op 8 [5,4,3,2,1,0] (.op 9 [] (.op 10 [9,8,7,6,5,4,3,2,1,0] (.op 11 [9,8,7,6,5,4,3,2,1,0] (.op 12 [] (.op 13 [] .nil))))))))))))))
def xd(d:ο)(a:cP):Prop:=∃k,bQ d.classes a.aU=some k∧hZ d k
theorem Rp(d:ο)(a:cP):ab Tryz.prog 104 [Λ a,nM d] (aR (xd d a)):=by
 refine ab.Γ ?_ aR.aJ
 refine γ.ξ ζ η Tryz.func104 rfl rfl ?_
 refine υ M_ (by decide+kernel) ?_
 refine γ.pure (cJ _ _) rfl ?_
 refine And.intro (fun j hj=>by first|(cases hj;done)|exact χ.append _ _ _|exact χ.refl _ _) ?_
 refine U (fun c=> ?_) (fun c=> ?_)
 ·have h:=qw c
  obtain⟨k,hk,_,hg⟩:=cQ h
  refine ε (gW rfl h.1) ?_
  refine ν (cu hg) ?_
  refine γ.cH (BP d k) rfl ⟨.refl _,.refl _,trivial⟩ ?_
  rintro _ ⟨b,rfl,hb⟩
  refine And.intro (fun j hj=>by first|(cases hj;done)|exact χ.append _ _ _|exact χ.refl _ _) ?_
  refine And.intro (fun j hj=>by first|(cases hj;done)|exact χ.append _ _ _|exact χ.refl _ _) ?_
  exact aZ ⟨fun h=>⟨k,hk,hb.1 (by simpa using h)⟩,fun⟨k2,h1,h2⟩=>by
   rw[hk]at h1
   obtain rfl:=Option.some.inj h1
   simpa using hb.2 h2⟩
 ·refine And.intro (fun j hj=>by first|(cases hj;done)|exact χ.append _ _ _|exact χ.refl _ _) ?_
  refine And.intro (fun j hj=>by first|(cases hj;done)|exact χ.append _ _ _|exact χ.refl _ _) ?_
  exact ak fun⟨k,h1,_⟩=>p6 c (rO h1)
theorem Fx(d:ο)(f:Ψ){t:T}(h:aX t):ab Tryz.prog 25 [t,nM d,Gv f] (aR (e_ d f t)):=by
 have hE:=It d f h
 obtain⟨P,hP⟩:∃P,P=e_ d f t:=⟨_,rfl⟩
 rw[←hP]at hE⊢
 cases h with|mk op wd a b kk _ _ _ _ _ _=>
 refine ab.Γ ?_ aR.aJ
 refine γ.ξ ζ η Tryz.func25 rfl rfl ?_
 refine γ.cH hE rfl ⟨.refl _,.refl _,.refl _,trivial⟩ ?_
 rintro _ ⟨bS,rfl,pS⟩
 exact aZ pS
def bV(k:cg)(n:Nat):Int:=
 if k.kind=1 then n+k.plus else if k.kind=2 then(n:Int)*2^k.shift.toNat else(if 2^(k.bits.toNat - 1)≤n then(n:Int) - 2^k.bits.toNat else n)*2^k.shift.toNat
theorem iQ{a b:Nat}(h:a≤b):2^a≤2^b:=Nat.pow_le_pow_right (by decide) h
theorem ua{s:Int}{n:Nat}(h:s.toNat≤n):min s.toNat n=s.toNat:=Nat.min_eq_left h
theorem cU(n:Nat):((2^n:Nat):Int)=2^n:=by rw[Int.natCast_pow];rfl
theorem G0(d:ο)(k:cg)(hk:hZ d k)(n:Nat)(hn:n<2^k.bits.toNat):φ Tryz.prog 128 [aF k,.int .u64 n] (.t (.int .i64 (bV k n))):=by
 have fo:0≤k.shift:=by rcases hk with h|h|h<;>omega
 have qE:k.shift≤64:=by rcases hk with h|h|h<;>omega
 have hb:1≤k.bits∧k.bits≤64:=by rcases hk with h|h|h<;>omega
 have ze:k.bits.toNat≤64:=by omega
 refine φ.Γ ?_ rfl
 refine γ.ξ ζ η Tryz.func128 rfl rfl ?_
 refine U (fun c=> ?_) (fun c=> ?_)
 ·have c:k.kind=1:=by simpa using c
  have hp:0≤k.plus∧k.plus<64∧k.bits≤6:=by rcases hk with h|h|h<;>omega
  have:2^k.bits.toNat≤2^6:=iQ (by omega)
  refine δ (n:=(n:Int)) (by rw[IntKind.wrap_i64];omega) ?_
  refine δ (n:=(n:Int)+k.plus) (by rw[IntKind.wrap_i64];omega) ?_
  exact And.intro (congrArg (fun x=>some (T.int .i64 x)) (by rw[bV,if_pos c])) rfl
 have c1:¬k.kind=1:=by simpa using c
 refine U (fun c=> ?_) (fun c=> ?_)
 ·have c:k.kind=2:=by simpa using c
  have hp:k.bits+k.shift≤62:=by rcases hk with h|h|h<;>omega
  have h1:2^k.bits.toNat≤2^62:=iQ (by omega)
  have h2:n*2^k.shift.toNat<2^62:=by
   have:n*2^k.shift.toNat<2^k.bits.toNat*2^k.shift.toNat:=Nat.mul_lt_mul_of_pos_right hn (Nat.two_pow_pos _)
   rw[←Nat.pow_add]at this
   exact Nat.lt_of_lt_of_le this (iQ (by omega))
  refine δ (n:=(n:Int)) (by rw[IntKind.wrap_i64];omega) ?_
  refine ε (decide_eq_true fo) ?_
  refine δ (n:=((n*2^k.shift.toNat:Nat):Int)) (show IntKind.i64.wrap ((n:Int)*2^(min (Int.toNat k.shift) IntKind.i64.bits))=_ from by
   rw[ua (by show k.shift.toNat≤64;omega),←cU,←Int.natCast_mul,IntKind.wrap_i64];omega) ?_
  exact And.intro (congrArg (fun x=>some (T.int .i64 x)) (by rw[bV,if_neg c1,if_pos c,Int.natCast_mul,cU])) rfl
 have c2:¬k.kind=2:=by simpa using c
 have hp:k.bits+k.shift≤64:=by rcases hk with h|h|h<;>omega
 refine υ M9 (by decide+kernel) ?_
 obtain⟨m,hm⟩:∃m,m=64 - k.bits:=⟨_,rfl⟩
 have uP:m.toNat+k.bits.toNat=64:=by omega
 have hP:2^k.bits.toNat*2^m.toNat=18446744073709551616:=by rw[←Nat.pow_add,Nat.add_comm,uP]
 have hH:2^(k.bits.toNat - 1)*2=2^k.bits.toNat:=by rw[←Nat.pow_succ];congr 1;omega
 obtain⟨M,hM⟩:∃M,M=2^m.toNat:=⟨_,rfl⟩
 have mT:0<M:=by rw[hM];exact Nat.two_pow_pos _
 obtain⟨B,hB⟩:∃B,B=2^k.bits.toNat:=⟨_,rfl⟩
 obtain⟨S,hS⟩:∃S,S=2^k.shift.toNat:=⟨_,rfl⟩
 have uV:0<S:=by rw[hS];exact Nat.two_pow_pos _
 obtain⟨H,og⟩:∃H,H=2^(k.bits.toNat - 1):=⟨_,rfl⟩
 rw[←hB,←hM]at hP
 rw[←og,←hB]at hH
 rw[←hB]at hn
 have Zw:n*M<18446744073709551616:=by rw[←hP];exact Nat.mul_lt_mul_of_pos_right hn mT
 obtain⟨v,hv⟩:∃v:Int,v=if H≤n then(n:Int) - B else n:=⟨_,rfl⟩
 have ZL:H*M=9223372036854775808:=by
  have:H*2*M=18446744073709551616:=by rw[hH];exact hP
  have:H*2*M=H*M*2:=by rw[Nat.mul_assoc,Nat.mul_comm 2 M,←Nat.mul_assoc]
  omega
 have Yh:(B:Int)*(M:Int)=18446744073709551616:=by rw[←Int.natCast_mul,hP];rfl
 have YD:IntKind.i64.wrap ((n*M:Nat):Int)=v*(M:Int):=by
  rw[hv]
  split
  ·next h=>
   have h1:H*M≤n*M:=Nat.mul_le_mul_right _ h
   rw[Int.sub_mul,Yh,←Int.natCast_mul,IntKind.wrap_i64];omega
  ·next h=>
   have h1:n*M<H*M:=Nat.mul_lt_mul_of_pos_right (by omega) mT
   rw[←Int.natCast_mul,IntKind.wrap_i64];omega
 have Gc: -(H:Int)≤v∧v<H:=by rw[hv];split<;>omega
 have VE:H*S≤9223372036854775808:=by
  rw[og,hS,←Nat.pow_add]
  exact iQ (b:=63) (by omega)
 have Sv: -9223372036854775808≤v*(S:Int)∧v*(S:Int)≤9223372036854775807:=by
  have e:((H*S:Nat):Int)=(H:Int)*S:=Int.natCast_mul _ _
  have h1: -(H:Int)*S≤v*S:=Int.mul_le_mul_of_nonneg_right Gc.1 (by omega)
  have h2:v*S≤((H:Int) - 1)*S:=Int.mul_le_mul_of_nonneg_right (by omega) (by omega)
  rw[Int.neg_mul]at h1
  rw[Int.sub_mul]at h2
  omega
 refine δ (n:=m) (show IntKind.i64.wrap (64 - k.bits)=m from by rw[hm];exact g7 (by omega) (by omega)) ?_
 refine ε (decide_eq_true (show(0:Int)≤m by omega)) ?_
 refine δ (n:=((n*M:Nat):Int)) (show IntKind.u64.wrap ((n:Int)*2^(min (Int.toNat m) IntKind.u64.bits))=_ from by
  rw[ua (by show m.toNat≤64;omega),←cU,←hM,←Int.natCast_mul,IntKind.wrap_u64];omega) ?_
 refine δ (n:=v*(M:Int)) YD ?_
 refine δ (n:=m) (show IntKind.i64.wrap (64 - k.bits)=m from by rw[hm];exact g7 (by omega) (by omega)) ?_
 refine ε (decide_eq_true (show(0:Int)≤m by omega)) ?_
 refine δ (n:=v) (show(v*(M:Int)).fdiv (2^min (Int.toNat m) IntKind.i64.bits)=v from by
  rw[ua (by show m.toNat≤64;omega),←cU,←hM,Int.fdiv_eq_ediv_of_nonneg _ (by omega)]
  exact Int.mul_ediv_cancel _ (by omega)) ?_
 refine ε (decide_eq_true fo) ?_
 refine δ (n:=v*(S:Int)) (show IntKind.i64.wrap (v*2^(min (Int.toNat k.shift) IntKind.i64.bits))=_ from by
  rw[ua (by show k.shift.toNat≤64;omega),←cU,←hS,IntKind.wrap_i64];omega) ?_
 refine And.intro (fun j hj=>by first|(cases hj;done)|exact χ.append _ _ _|exact χ.refl _ _) ?_
 exact And.intro (congrArg (fun x=>some (T.int .i64 x)) (by rw[bV,if_neg c1,if_neg c2,hv,←cU,←hB,←og,←cU,←hS])) rfl
end Go.Proofs.YtcogcbplmkcojaaGreatDoor
