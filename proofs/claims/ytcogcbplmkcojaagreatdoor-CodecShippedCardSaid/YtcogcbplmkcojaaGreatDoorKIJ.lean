/-
  The ground of the walks of this seat, part IJ.
-/
import Derived.Test.YtcogcbplmkcojaaGreatDoorKIi
namespace Go.Proofs.YtcogcbplmkcojaaGreatDoor
open Go.IntWalk
set_option maxRecDepth 100000
set_option linter.unusedVariables false
set_option linter.unusedSimpArgs false
set_option maxHeartbeats 4000000
theorem i64_in(n:Int)(h: -9223372036854775808≤n∧n≤9223372036854775807):IntKind.i64.wrap n=n:=by rw[IntKind.wrap_i64];omega
def lZ(n w:Int):Bool:=decide (1≤w∧0≤n∧(63≤w∨n.toNat/2^w.toNat=0))
def qF(n w:Int):Bool:=decide (1≤w∧(64≤w∨n.fdiv (2^(w - 1).toNat)=n.fdiv 9223372036854775808))
theorem zk(n w:Int):φ Tryz.prog 141 [.int .i64 n,.int .i64 w] (.t (.bool (lZ n w))):=by
 refine φ.Γ ?_ rfl
 refine γ.ξ ζ η Tryz.func141 rfl rfl ?_
 refine U (fun h=> ?_) (fun h=> ?_)
 ·have h:=of_decide_eq_true h
  refine U (fun h2=> ?_) (fun h2=> ?_)
  ·have h2:=of_decide_eq_true h2
   refine U (fun h3=> ?_) (fun h3=> ?_)
   ·have h3:=of_decide_eq_true h3
    rw[show lZ n w=true from decide_eq_true ⟨by omega,by omega,.inl (by omega)⟩]
    exact And.intro rfl rfl
   ·have h3:=of_decide_eq_false h3
    refine ε (by simp;omega) ?_
    obtain⟨k,rfl⟩:=Int.eq_ofNat_of_zero_le h2
    obtain⟨q,hq⟩:∃q,q=k/2^w.toNat:=⟨_,rfl⟩
    refine δ (n:=((q:Nat):Int)) (by
     rw[show IntKind.i64.bits=64 from rfl,Nat.min_eq_left (by omega),Int.fdiv_eq_ediv_of_nonneg _ (by exact Int.le_of_lt (Int.pow_pos (by omega))),hq]
     simp) ?_
    refine And.intro (congrArg (fun b=>some (T.bool b)) ?_) rfl
    rw[lZ,Int.toNat_natCast,←hq]
    by_cases hz:q=0
    ·rw[hz];simp;omega
    ·rw[decide_eq_false (fun hh=>by omega)]
     simp
     omega
  ·have h2:=of_decide_eq_false h2
   rw[show lZ n w=false from decide_eq_false (fun hh=>by omega)]
   exact And.intro rfl rfl
 ·have h:=of_decide_eq_false h
  rw[show lZ n w=false from decide_eq_false (fun hh=>by omega)]
  exact And.intro rfl rfl
theorem Ir(n w:Int)(hn: -9223372036854775808≤n∧n≤9223372036854775807):φ Tryz.prog 142 [.int .i64 n,.int .i64 w] (.t (.bool (qF n w))):=by
 refine φ.Γ ?_ rfl
 refine γ.ξ ζ η Tryz.func142 rfl rfl ?_
 refine U (fun h=> ?_) (fun h=> ?_)
 ·have h:=of_decide_eq_true h
  refine U (fun h3=> ?_) (fun h3=> ?_)
  ·have h3:=of_decide_eq_true h3
   rw[show qF n w=true from decide_eq_true ⟨by omega,.inl (by omega)⟩]
   exact And.intro rfl rfl
  ·have h3:=of_decide_eq_false h3
   refine δ (n:=w - 1) (i64_in _ (by omega)) ?_
   refine ε (by simp;omega) ?_
   obtain⟨q,hq⟩:∃q,q=n.fdiv (2^(w - 1).toNat):=⟨_,rfl⟩
   obtain⟨g,hg⟩:∃g,g=n.fdiv 9223372036854775808:=⟨_,rfl⟩
   refine δ (n:=q) (by rw[show IntKind.i64.bits=64 from rfl,Nat.min_eq_left (by omega),hq]) ?_
   refine δ (n:=g) hg.symm ?_
   refine And.intro (congrArg (fun b=>some (T.bool b)) ?_) rfl
   rw[qF,←hq,←hg]
   by_cases hz:q=g
   ·rw[decide_eq_true ⟨h,.inr hz⟩]
    exact beq_iff_eq.2 hz
   ·rw[decide_eq_false (fun hh=>by obtain⟨_,k|k⟩:=hh<;>first|omega|exact hz k)]
    exact beq_eq_false_iff_ne.2 hz
 ·have h:=of_decide_eq_false h
  rw[show qF n w=false from decide_eq_false (fun hh=>by omega)]
  exact And.intro rfl rfl
end Go.Proofs.YtcogcbplmkcojaaGreatDoor
namespace Go.Proofs.YtcogcbplmkcojaaGreatDoor
open Go.IntWalk
set_option maxRecDepth 100000
set_option linter.unusedVariables false
set_option linter.unusedSimpArgs false
set_option maxHeartbeats 4000000
def Ko:Ord:=(.op 0 [] (.op 1 [0] (.op 2 [0] (.op 3 [] (.op 4 [3,2,1,0] (.op 5 [3,2,1,0] (.op 6 [] (.op 7 [] .nil))))))))
def Kn:Ord:=(.op 0 [] (.op 1 [0] (.op 2 [0] (.op 3 [] (.op 4 [3,2,1,0] (.op 5 [3,2,1,0] (.op 6 [] (.op 7 [] .nil))))))))
def kP(k:cg)(v:Int):Bool:=
 if v∈k.aY then false
 else if k.kind=1 then decide (v≥k.plus)&&lZ (v - k.plus) k.bits
 else if v%2^k.shift.toNat≠0 then false
 else if k.kind=2 then lZ (v/2^k.shift.toNat) k.bits
 else qF (v/2^k.shift.toNat) k.bits
def nB(d:ο)(c v:Int):Bool:=match bQ d.classes c with|some k=>kP k v|none=>false
theorem Rr(v:Int)(s:Nat)(hs:s≤63):ed .and .i64 v (2^s - 1)=v%2^s:=by
 have hp:(0:Int)<2^s:=Int.pow_pos (by omega)
 have iV:(2:Int)^s≤9223372036854775808:=by
  have:(2:Nat)^s≤2^63:=Nat.pow_le_pow_right (by omega) hs
  have h2:((2^s:Nat):Int)≤((2^63:Nat):Int):=by exact_mod_cast this
  simpa using h2
 have hd:(2:Int)^s ∣ 18446744073709551616:=by
  have:(2:Nat)^s ∣ 2^64:=Nat.pow_dvd_pow 2 (by omega)
  have h2:((2^s:Nat):Int) ∣ ((2^64:Nat):Int):=Int.natCast_dvd_natCast.2 this
  simpa using h2
 have e:(BitVec.ofInt 64 v&&& BitVec.ofInt 64 (2^s - 1)).toNat=(v%2^s).toNat:=by
  rw[BitVec.toNat_and,BitVec.toNat_ofInt,BitVec.toNat_ofInt]
  have h1:((2^s - 1:Int)%((2^64:Nat):Int)).toNat=2^s - 1:=by
   have:((2^64:Nat):Int)=18446744073709551616:=by decide
   rw[this,Int.emod_eq_of_lt (by omega) (by omega)]
   have:((2^s:Nat):Int)=2^s:=by simp
   omega
  rw[h1,Nat.and_two_pow_sub_one_eq_mod]
  have h3:0≤v%((2^64:Nat):Int):=Int.emod_nonneg _ (by decide)
  have h4:0≤v%2^s:=Int.emod_nonneg _ (by omega)
  apply Int.ofNat.inj
  show((_:Nat):Int)=((_:Nat):Int)
  rw[Int.natCast_emod,Int.toNat_of_nonneg h3,Int.toNat_of_nonneg h4]
  have:((2^s:Nat):Int)=2^s:=by simp
  rw[this,Int.emod_emod_of_dvd _ (by simpa using hd)]
 show IntKind.i64.wrap (((BitVec.ofInt 64 v&&& BitVec.ofInt 64 (2^s - 1)).toNat:Nat):Int)=_
 have h4:0≤v%2^s:=Int.emod_nonneg _ (by omega)
 have h5:v%2^s<2^s:=Int.emod_lt_of_pos _ hp
 rw[e,Int.toNat_of_nonneg h4,IntKind.wrap_i64]
 omega
theorem VW{sh a:Int}{s:Nat}(h:sh=(s:Int))(hs:s≤63)(ha:a=IntKind.i64.wrap (2^s)):IntKind.i64.wrap (1*2^(min sh.toNat IntKind.i64.bits))=a:=by
 rw[show IntKind.i64.bits=64 from rfl,show sh.toNat=s by omega,Nat.min_eq_left (by omega),ha,Int.one_mul]
theorem Us{a mk:Int}{s:Nat}(hs:s≤63)(ha:a=IntKind.i64.wrap (2^s))(lP:mk=2^s - 1):IntKind.i64.wrap (a - 1)=mk:=by
 have hp:(0:Int)<2^s:=Int.pow_pos (by omega)
 have iV:(2:Int)^s≤9223372036854775808:=by
  have:(2:Nat)^s≤2^63:=Nat.pow_le_pow_right (by omega) hs
  have h2:((2^s:Nat):Int)≤((2^63:Nat):Int):=by exact_mod_cast this
  simpa using h2
 rw[ha,lP]
 simp only[IntKind.wrap_i64]
 omega
theorem V1{v mk r:Int}{s:Nat}(hs:s≤63)(lP:mk=2^s - 1)(hr:r=v%2^s):ed .and .i64 v mk=r:=by
 rw[lP,hr];exact Rr v s hs
theorem MT{v sh q:Int}{s:Nat}(h:sh=(s:Int))(hs:s≤63)(hq:q=v/2^s):v.fdiv (2^(min sh.toNat IntKind.i64.bits))=q:=by
 have hp:(0:Int)<2^s:=Int.pow_pos (by omega)
 rw[show IntKind.i64.bits=64 from rfl,show sh.toNat=s by omega,Nat.min_eq_left (by omega),hq,Int.fdiv_eq_ediv_of_nonneg _ (by omega)]
theorem EG{v q:Int}{s:Nat}(hv: -9223372036854775808≤v∧v≤9223372036854775807)(hq:q=v/2^s): -9223372036854775808≤q∧q≤9223372036854775807:=by
 have hp:(0:Int)<2^s:=Int.pow_pos (by omega)
 rw[hq]
 by_cases h:0≤v
 ·have h1:=Int.ediv_nonneg h (Int.le_of_lt hp)
  have h2:=Int.ediv_le_self (2^s) h
  omega
 ·have h1:v/2^s<0:=Int.ediv_neg_of_neg_of_pos (by omega) hp
  have h2:v≤v/2^s:=by
   rw[Int.le_ediv_iff_mul_le hp]
   have h3:0≤(-v)*((2:Int)^s - 1):=Int.mul_nonneg (by omega) (by omega)
   rw[Int.mul_sub,Int.mul_one,Int.neg_mul]at h3
   omega
  omega
theorem Oe(d:ο)(bn:d.classes.length≤2000000)(gn:∀k∈d.classes,k.aY.length≤2000000)(cd:∀k∈d.classes,hZ d k)(P:List cE)(root:T)(c v:Int)(hc:aH c)(hv:aH v):φ Tryz.prog 89 [fU d P root,.int .i64 c,.int .i64 v] (.t (.bool (nB d c v))):=by
 have sj:(d.classes.map aF).length=d.classes.length:=by simp
 refine φ.Γ ?_ rfl
 refine γ.ξ ζ η Tryz.func89 rfl rfl ?_
 have hI:aH c:=hc
 refine U (fun c1=> ?_) (fun c1=> ?_)
 ·have c1:=of_decide_eq_true c1
  rw[nB,g_ (by omega)]
  exact And.intro rfl rfl
 have c1:=of_decide_eq_false c1
 obtain⟨m,rfl⟩:=Int.eq_ofNat_of_zero_le (show 0≤c by omega)
 refine U (fun c2=> ?_) (fun c2=> ?_)
 ·have c2:=of_decide_eq_true c2
  rw[nB,g_ (by rw[sj]at c2;omega)]
  exact And.intro rfl rfl
 have c2:m<d.classes.length:=by have:=of_decide_eq_false c2;rw[sj]at this;omega
 obtain⟨k,hk,BC⟩:=get_some (R:=d.classes) (i:=m) c2
 have j3:=cd k BC
 have hC:nB d m v=kP k v:=by rw[nB,bQ,if_pos (by omega),Int.toNat_natCast,hk]
 rw[hC]
 refine ν (show(d.classes.map aF)[((m:Nat):Int).toNat]?=some (aF k)from by rw[Int.toNat_natCast,List.getElem?_map,hk];rfl) ?_
 refine γ.a8 (qk k.aY v (by have:=gn k BC;omega)) rfl ⟨.refl _,.refl _,trivial⟩ ?_
 refine U (fun c3=> ?_) (fun c3=> ?_)
 ·have c3:v∈k.aY:=of_decide_eq_true c3
  rw[kP,if_pos c3]
  exact And.intro rfl rfl
 have c3:v∉k.aY:=of_decide_eq_false c3
 rw[kP,if_neg c3]
 refine U (fun c4=> ?_) (fun c4=> ?_)
 ·have c4:k.kind=1:=by simpa using c4
  rw[if_pos c4]
  refine U (fun c5=> ?_) (fun c5=> ?_)
  ·have T7:k.plus≤v:=of_decide_eq_true c5
   rw[decide_eq_true (show v≥k.plus from T7),Bool.true_and]
   refine δ (n:=v - k.plus) (i64_in _ (by have Zr: -9223372036854775808≤v∧v≤9223372036854775807:=hv;rcases j3 with⟨_,_,_,h,_⟩|⟨h,_⟩|⟨h,_⟩<;>omega)) ?_
   refine γ.pure (zk _ _) rfl ?_
   exact And.intro rfl rfl
  ·have T7:¬v≥k.plus:=of_decide_eq_false c5
   rw[decide_eq_false T7,Bool.false_and]
   exact And.intro rfl rfl
 have c4:k.kind≠1:=by simpa using c4
 rw[if_neg c4]
 have fo:0≤k.shift∧k.shift≤63:=by
  rcases j3 with⟨h,_⟩|⟨_,h1,h2,_⟩|⟨_,h1,h2,_⟩<;>omega
 obtain⟨s,hs⟩:=Int.eq_ofNat_of_zero_le fo.1
 have DV:s≤63:=by omega
 rw[show k.shift.toNat=s by omega]
 obtain⟨a,ha⟩:∃a:Int,a=IntKind.i64.wrap (2^s):=⟨_,rfl⟩
 obtain⟨mk,lP⟩:∃mk:Int,mk=2^s - 1:=⟨_,rfl⟩
 obtain⟨r,hr⟩:∃r:Int,r=v%2^s:=⟨_,rfl⟩
 obtain⟨q,hq⟩:∃q:Int,q=v/2^s:=⟨_,rfl⟩
 refine ε (decide_eq_true fo.1) ?_
 refine δ (n:=a) (VW hs DV ha) ?_
 refine δ (n:=mk) (Us DV ha lP) ?_
 refine δ (n:=r) (V1 DV lP hr) ?_
 rw[←hr,←hq]
 refine U (fun c5=> ?_) (fun c5=> ?_)
 ·have c5:r≠0:=by simpa using c5
  rw[if_pos c5]
  exact And.intro rfl rfl
 have c5:r=0:=by simpa using c5
 rw[if_neg (by omega)]
 refine U (fun c6=> ?_) (fun c6=> ?_)
 ·have c6:k.kind=2:=by simpa using c6
  rw[if_pos c6]
  refine bJ (fun _=>[]) Ko (by decide+kernel) ?_
  refine ε (decide_eq_true fo.1) ?_
  refine δ (n:=q) (MT hs DV hq) ?_
  refine γ.pure (zk _ _) rfl ?_
  conv=>whnf
  exact And.intro (fun j hj=>by cases hj) (And.intro (fun j hj=>by cases hj) (And.intro rfl rfl))
 have c6:k.kind≠2:=by simpa using c6
 rw[if_neg c6]
 refine bJ (fun _=>[]) Kn (by decide+kernel) ?_
 refine ε (decide_eq_true fo.1) ?_
 refine δ (n:=q) (MT hs DV hq) ?_
 refine γ.pure (Ir _ _ (EG hv hq)) rfl ?_
 conv=>whnf
 exact And.intro (fun j hj=>by cases hj) (And.intro (fun j hj=>by cases hj) (And.intro rfl rfl))
end Go.Proofs.YtcogcbplmkcojaaGreatDoor
namespace Go.Proofs.YtcogcbplmkcojaaGreatDoor
open Go.IntWalk
set_option maxRecDepth 100000
set_option linter.unusedVariables false
set_option linter.unusedSimpArgs false
set_option maxHeartbeats 4000000
theorem QA{b n:Nat}(h:b≤n):(2:Int)^b≤2^n:=by
 have:(2:Nat)^b≤2^n:=Nat.pow_le_pow_right (by omega) h
 have h2:((2^b:Nat):Int)≤((2^n:Nat):Int):=by exact_mod_cast this
 simpa using h2
theorem On{n:Int}{b:Nat}(h1:1≤b)(h2:b≤62)(h0:0≤n):lZ n b=decide (n<2^b):=by
 obtain⟨m,rfl⟩:=Int.eq_ofNat_of_zero_le h0
 have hp:0<2^b:=Nat.pow_pos (by omega)
 have e:(((2:Nat)^b:Nat):Int)=2^b:=by simp
 rw[lZ,decide_eq_decide,Int.toNat_natCast,Int.toNat_natCast,Nat.div_eq_zero_iff,←e]
 omega
theorem Oo{w b a:Int}{q:Nat}(hw: -9223372036854775808≤w∧w≤9223372036854775807)(h1:b - 1=(q:Int))(h2:q≤62)(ha:a=2^q):qF w b=decide (-a≤w∧w≤a - 1):=by
 have hp:(0:Int)<2^q:=Int.pow_pos (by omega)
 have iV:=QA h2
 have iV:(2:Int)^q≤4611686018427387904:=iV
 rw[qF,show(b - 1).toNat=q by omega,Int.fdiv_eq_ediv_of_nonneg _ (by omega),Int.fdiv_eq_ediv_of_nonneg _ (by decide),←ha,decide_eq_decide]
 rw[←ha]at hp iV
 have e0:w/a=0↔0≤w∧w<a:=by
  constructor
  ·intro h
   have k1:=Int.emod_nonneg w (show a≠0 by omega)
   have k2:=Int.emod_lt_of_pos w hp
   have k3:=Int.emod_add_mul_ediv w a
   rw[h,Int.mul_zero]at k3
   omega
  ·rintro⟨k1,k2⟩
   exact Int.ediv_eq_zero_of_lt k1 k2
 have e1:w/a= -1↔w<0∧ -a≤w:=by
  constructor
  ·intro h
   have k1:=Int.emod_nonneg w (show a≠0 by omega)
   have k2:=Int.emod_lt_of_pos w hp
   have k3:=Int.emod_add_mul_ediv w a
   rw[h]at k3
   omega
  ·rintro⟨k1,k2⟩
   have k3:(w+a)/a=0:=Int.ediv_eq_zero_of_lt (by omega) (by omega)
   have k4:(w+a)/a=w/a+1:=by
    have:=Int.add_mul_ediv_right w 1 (show a≠0 by omega)
    rwa [Int.one_mul]at this
   omega
 by_cases h0:0≤w
 ·have:w/9223372036854775808=0:=by omega
  rw[this,e0]
  omega
 ·have:w/9223372036854775808= -1:=by omega
  rw[this,e1]
  omega
end Go.Proofs.YtcogcbplmkcojaaGreatDoor
