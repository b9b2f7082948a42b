/-
  Numbers as bits: what the walks of patterns want.
-/
import Derived.Test.YtcogcbplmkcojaaGreatDoorKHj
namespace Go.Proofs.YtcogcbplmkcojaaGreatDoor
open Go.IntWalk
set_option maxRecDepth 100000
set_option linter.unusedVariables false
set_option linter.unusedSimpArgs false
set_option maxHeartbeats 1000000
theorem G2{n:Nat}(h:n<18446744073709551616):IntKind.u64.wrap (n:Int)=n:=by rw[IntKind.wrap_u64];omega
theorem tc(w n:Nat):BitVec.ofInt w (n:Int)=BitVec.ofNat w n:=by
 apply BitVec.eq_of_toNat_eq
 rw[BitVec.toNat_ofInt,BitVec.toNat_ofNat]
 omega
theorem mZ{a b:Nat}(ha:a<18446744073709551616)(hb:b<18446744073709551616):ed .and .u64 (a:Int) (b:Int)=((a&&& b:Nat):Int):=by
 have Ph:a&&& b≤a:=Nat.and_le_left
 show IntKind.u64.wrap ((BitVec.ofInt 64 (a:Int)&&& BitVec.ofInt 64 (b:Int)).toNat:Int)=_
 rw[tc,tc,BitVec.toNat_and,BitVec.toNat_ofNat,BitVec.toNat_ofNat,Nat.mod_eq_of_lt (by omega),Nat.mod_eq_of_lt (by omega)]
 exact G2 (by omega)
theorem iq{a b:Nat}(ha:a<18446744073709551616)(hb:b<18446744073709551616):ed .or .u64 (a:Int) (b:Int)=((a|||b:Nat):Int):=by
 have Ph:a|||b<2^64:=Nat.or_lt_two_pow (by omega) (by omega)
 show IntKind.u64.wrap ((BitVec.ofInt 64 (a:Int)|||BitVec.ofInt 64 (b:Int)).toNat:Int)=_
 rw[tc,tc,BitVec.toNat_or,BitVec.toNat_ofNat,BitVec.toNat_ofNat,Nat.mod_eq_of_lt (by omega),Nat.mod_eq_of_lt (by omega)]
 exact G2 (by omega)
theorem Js{a b:Nat}(ha:a<18446744073709551616)(hb:b<18446744073709551616):ed .xor .u64 (a:Int) (b:Int)=((a^^^b:Nat):Int):=by
 have Ph:a^^^b<2^64:=Nat.xor_lt_two_pow (by omega) (by omega)
 show IntKind.u64.wrap ((BitVec.ofInt 64 (a:Int)^^^BitVec.ofInt 64 (b:Int)).toNat:Int)=_
 rw[tc,tc,BitVec.toNat_xor,BitVec.toNat_ofNat,BitVec.toNat_ofNat,Nat.mod_eq_of_lt (by omega),Nat.mod_eq_of_lt (by omega)]
 exact G2 (by omega)
theorem iw{k:Nat}(h:k<64):2^k<18446744073709551616:=Nat.lt_of_lt_of_le (Nat.pow_lt_pow_right (by decide) h) (by decide)
theorem gE{k:Int}{n:Nat}(h:k=(n:Int))(hn:n<64):IntKind.u64.wrap (1*2^(min k.toNat IntKind.u64.bits))=((2^n:Nat):Int):=by
 have:=iw hn
 rw[h,Int.toNat_natCast,Nat.min_eq_left (show n≤IntKind.u64.bits by show _≤64;omega),Int.one_mul,←cU,G2 (by omega)]
theorem yJ{m n:Nat}(hm:m<18446744073709551616)(hn:n<64):m|||2^n<18446744073709551616:=Nat.or_lt_two_pow (n:=64) (by omega) (iw hn)
theorem ot(m n j:Nat):(m|||2^n).testBit j=(m.testBit j||decide (n=j)):=by
 rw[Nat.testBit_or,Nat.testBit_two_pow]
def cF(m0 m1:Nat)(P:Nat→Bool):Prop:=m0<18446744073709551616∧m1<18446744073709551616∧∀j,j<64→m0.testBit j=P j∧m1.testBit j=P (64+j)
theorem cF.zero:cF 0 0 (fun _=>false):=⟨by decide,by decide,fun j _=>by simp⟩
theorem cF.congr{m0 m1:Nat}{P Q:Nat→Bool}(h:cF m0 m1 P)(e:∀p,p<128→P p=Q p):cF m0 m1 Q:=
 ⟨h.1,h.2.1,fun j hj=>by rw[(h.2.2 j hj).1,(h.2.2 j hj).2];exact⟨e j (by omega),e (64+j) (by omega)⟩⟩
theorem cF.CP{m0 m1 i:Nat}{P:Nat→Bool}(h:cF m0 m1 P)(hi:i<64):cF (m0|||2^i) m1 (fun p=>P p||decide (i=p)):=
 ⟨yJ h.1 hi,h.2.1,fun j hj=>by
  rw[ot,(h.2.2 j hj).1,(h.2.2 j hj).2]
  refine⟨rfl,?_⟩
  have:¬i=64+j:=by omega
  simp[this]⟩
theorem cF.CO{m0 m1 i:Nat}{P:Nat→Bool}(h:cF m0 m1 P)(hi:i<64):cF m0 (m1|||2^i) (fun p=>P p||decide (64+i=p)):=
 ⟨h.1,yJ h.2.1 hi,fun j hj=>by
  rw[ot,(h.2.2 j hj).1,(h.2.2 j hj).2]
  refine⟨?_,?_⟩
  ·have:¬64+i=j:=by omega
   simp[this]
  ·by_cases e:i=j
   ·simp[e]
   ·have:¬64+i=64+j:=by omega
    simp[e,this]⟩
def iy(B:List Θ)(n p:Nat):Bool:=match B[p]?with|some y=>decide (p<n)&&decide (y.arg<0∧y.lit≠120)|none=>false
def gl(B:List Θ)(n p:Nat):Bool:=match B[p]?with|some y=>decide (p<n)&&(decide (y.arg<0∧y.lit≠120)&&decide (y.lit=49))|none=>false
theorem HI(B:List Θ)(p:Nat):iy B 0 p=false:=by unfold iy;cases B[p]?<;>simp
theorem HF(B:List Θ)(p:Nat):gl B 0 p=false:=by unfold gl;cases B[p]?<;>simp
theorem nh{B:List Θ}{n:Nat}{x:Θ}(hx:B[n]?=some x)(p:Nat):iy B (n+1) p=(iy B n p||(decide (x.arg<0∧x.lit≠120)&&decide (n=p))):=by
 unfold iy
 by_cases e:n=p
 ·subst e;rw[hx];simp
 ·cases B[p]?with
  |none=>simp[e]
  |some y=>
   have:(p<n+1)↔p<n:=by omega
   simp[e,this]
theorem na{B:List Θ}{n:Nat}{x:Θ}(hx:B[n]?=some x)(p:Nat):gl B (n+1) p=(gl B n p||((decide (x.arg<0∧x.lit≠120)&&decide (x.lit=49))&&decide (n=p))):=by
 unfold gl
 by_cases e:n=p
 ·subst e;rw[hx];simp
 ·cases B[p]?with
  |none=>simp[e]
  |some y=>
   have:(p<n+1)↔p<n:=by omega
   simp[e,this]
structure dV(B:List Θ)(n m0 m1 w0 w1:Nat):Prop where
 mask:cF m0 m1 (iy B n)
 want:cF w0 w1 (gl B n)
theorem dV.zero(B:List Θ):dV B 0 0 0 0 0:=⟨cF.zero.congr fun p _=>(HI B p).symm,cF.zero.congr fun p _=>(HF B p).symm⟩
theorem dV.skip{B:List Θ}{n m0 m1 w0 w1:Nat}{x:Θ}(h:dV B n m0 m1 w0 w1)(hx:B[n]?=some x)(hl:¬(x.arg<0∧x.lit≠120)):dV B (n+1) m0 m1 w0 w1:=
 ⟨h.mask.congr fun p _=>by rw[nh hx,decide_eq_false hl];simp,h.want.congr fun p _=>by rw[na hx,decide_eq_false hl];simp⟩
theorem dV.low{B:List Θ}{n m0 m1 w0 w1:Nat}{x:Θ}(h:dV B n m0 m1 w0 w1)(hx:B[n]?=some x)(hl:x.arg<0∧x.lit≠120)(hn:n<64):
 (x.lit=49→dV B (n+1) (m0|||2^n) m1 (w0|||2^n) w1)∧(¬x.lit=49→dV B (n+1) (m0|||2^n) m1 w0 w1):=
 ⟨fun h1=>⟨(h.mask.CP hn).congr fun p _=>by rw[nh hx,decide_eq_true hl];simp,(h.want.CP hn).congr fun p _=>by rw[na hx,decide_eq_true hl,decide_eq_true h1];simp⟩,
  fun h1=>⟨(h.mask.CP hn).congr fun p _=>by rw[nh hx,decide_eq_true hl];simp,h.want.congr fun p _=>by rw[na hx,decide_eq_true hl,decide_eq_false h1];simp⟩⟩
theorem dV.high{B:List Θ}{n k m0 m1 w0 w1:Nat}{x:Θ}(h:dV B n m0 m1 w0 w1)(hx:B[n]?=some x)(hl:x.arg<0∧x.lit≠120)(hk:n=64+k)(hn:k<64):
 (x.lit=49→dV B (n+1) m0 (m1|||2^k) w0 (w1|||2^k))∧(¬x.lit=49→dV B (n+1) m0 (m1|||2^k) w0 w1):=by
 subst hk
 exact⟨fun h1=>⟨(h.mask.CO hn).congr fun p _=>by rw[nh hx,decide_eq_true hl];simp,(h.want.CO hn).congr fun p _=>by rw[na hx,decide_eq_true hl,decide_eq_true h1];simp⟩,
  fun h1=>⟨(h.mask.CO hn).congr fun p _=>by rw[nh hx,decide_eq_true hl];simp,h.want.congr fun p _=>by rw[na hx,decide_eq_true hl,decide_eq_false h1];simp⟩⟩
theorem TR{n:Nat}(h:n≠0):∃j,n.testBit j=true:=Nat.exists_testBit_of_ne_zero h
theorem BO{a b u v:Nat}(h:a&&& b&&& (u^^^v)≠0)(ha:a<18446744073709551616):∃j,j<64∧a.testBit j=true∧b.testBit j=true∧u.testBit j≠v.testBit j:=by
 obtain⟨j,hj⟩:=TR h
 rw[Nat.testBit_and,Nat.testBit_and,Nat.testBit_xor]at hj
 have h1:a.testBit j=true:=by simp at hj;exact hj.1.1
 have h2:b.testBit j=true:=by simp at hj;exact hj.1.2
 have h3:u.testBit j≠v.testBit j:=by simp at hj;exact hj.2
 refine⟨j,?_,h1,h2,h3⟩
 rcases Nat.lt_or_ge j 64 with h|h
 ·exact h
 ·have:=Nat.testBit_lt_two_pow (Nat.lt_of_lt_of_le ha (show 18446744073709551616≤2^j from Nat.le_trans (by decide) (Nat.pow_le_pow_right (by decide) h)))
  rw[this]at h1;cases h1
theorem ue{B:List Θ}{n p:Nat}(h:iy B n p=true):∃x,B[p]?=some x∧gQ x:=by
 unfold iy at h
 cases e:B[p]?with
 |none=>rw[e]at h;cases h
 |some y=>rw[e]at h;simp at h;exact⟨y,rfl,h.2⟩
theorem pF{B:List Θ}{p:Nat}{x:Θ}(h:B[p]?=some x)(hl:gQ x):gl B B.length p=decide (x.lit=49):=by
 unfold gl
 rw[h]
 have:=(List.getElem?_eq_some_iff.1 h).1
 have h2:=hl.1;have h3:=hl.2
 simp[this,h2,h3]
theorem GI{A B:List Θ}{p:Nat}(ha:iy A A.length p=true)(hb:iy B B.length p=true)(au:gl A A.length p≠gl B B.length p):xc A B:=by
 obtain⟨x,hx,lx⟩:=ue ha
 obtain⟨y,hy,ly⟩:=ue hb
 rw[pF hx lx,pF hy ly]at au
 refine⟨p,x,y,hx,hy,lx,ly,?_⟩
 by_cases e1:x.lit=49<;>by_cases e2:y.lit=49<;>simp[e1,e2]at au⊢
theorem Ox{A B:List Θ}{a0 a1 u0 u1 b0 b1 v0 v1:Nat}(ha:dV A A.length a0 a1 u0 u1)(hb:dV B B.length b0 b1 v0 v1)(h:a0&&& b0&&& (u0^^^v0)≠0):xc A B:=by
 obtain⟨j,hj,h1,h2,h3⟩:=BO h ha.mask.1
 rw[(ha.mask.2.2 j hj).1]at h1
 rw[(hb.mask.2.2 j hj).1]at h2
 rw[(ha.want.2.2 j hj).1,(hb.want.2.2 j hj).1]at h3
 exact GI h1 h2 h3
theorem L2{A B:List Θ}{a0 a1 u0 u1 b0 b1 v0 v1:Nat}(ha:dV A A.length a0 a1 u0 u1)(hb:dV B B.length b0 b1 v0 v1)(h:a1&&& b1&&& (u1^^^v1)≠0):xc A B:=by
 obtain⟨j,hj,h1,h2,h3⟩:=BO h ha.mask.2.1
 rw[(ha.mask.2.2 j hj).2]at h1
 rw[(hb.mask.2.2 j hj).2]at h2
 rw[(ha.want.2.2 j hj).2,(hb.want.2.2 j hj).2]at h3
 exact GI h1 h2 h3
theorem Bq{B:List Θ}{p:Nat}{x:Θ}(hx:B[p]?=some x)(hl:gQ x):iy B B.length p=true:=by
 unfold iy
 rw[hx]
 have:=(List.getElem?_eq_some_iff.1 hx).1
 have h2:=hl.1;have h3:=hl.2
 simp[this,h2,h3]
theorem L1{A B:List Θ}{a0 a1 u0 u1 b0 b1 v0 v1:Nat}(ha:dV A A.length a0 a1 u0 u1)(hb:dV B B.length b0 b1 v0 v1)(hl:A.length≤128)
 (h0:a0&&& b0&&& (u0^^^v0)=0) (h1:a1&&& b1&&& (u1^^^v1)=0):¬xc A B:=by
 rintro⟨p,x,y,hx,hy,lx,ly,he⟩
 have hp:=(List.getElem?_eq_some_iff.1 hx).1
 have e1:=Bq hx lx
 have e2:=Bq hy ly
 have e3:=pF hx lx
 have e4:=pF hy ly
 have ne:gl A A.length p≠gl B B.length p:=by
  rw[e3,e4]
  intro e
  by_cases q1:x.lit=49<;>by_cases q2:y.lit=49<;>simp[q1,q2]at e he
 by_cases nu:p<64
 ·have t:=congrArg (fun n=>n.testBit p) h0
  simp only[Nat.testBit_and,Nat.testBit_xor,Nat.zero_testBit,(ha.mask.2.2 p nu).1,(hb.mask.2.2 p nu).1,(ha.want.2.2 p nu).1,(hb.want.2.2 p nu).1,e1,e2]at t
  simp at t
  exact ne t
 ·obtain⟨j,hj⟩:∃j,p=64+j:=⟨p - 64,by omega⟩
  have H7:j<64:=by omega
  subst hj
  have t:=congrArg (fun n=>n.testBit j) h1
  simp only[Nat.testBit_and,Nat.testBit_xor,Nat.zero_testBit,(ha.mask.2.2 j H7).2,(hb.mask.2.2 j H7).2,(ha.want.2.2 j H7).2,(hb.want.2.2 j H7).2,e1,e2]at t
  simp at t
  exact ne t
def gq(A:List Θ)(i:Int)(one:Nat→Bool)(t n:Nat):Prop:=∀m:Nat,n.testBit m=true↔∃(p:Nat) (x:Θ),p<t∧A[p]?=some x∧x.arg=i∧x.num=(m:Int)∧one p=true
theorem gq.zero(A:List Θ)(i:Int)(one:Nat→Bool):gq A i one 0 0:=fun m=>⟨fun h=>by simp at h,fun⟨p,x,h,_⟩=>absurd h (Nat.not_lt_zero _)⟩
theorem gq.skip{A:List Θ}{i:Int}{one:Nat→Bool}{t n:Nat}{x:Θ}(h:gq A i one t n)(hx:A[t]?=some x)(hs:x.arg=i→one t=false):gq A i one (t+1) n:=fun m=>by
 rw[h m]
 constructor
 ·rintro⟨p,y,h1,h2⟩;exact⟨p,y,by omega,h2⟩
 ·rintro⟨p,y,h1,h2,h3,h4,h5⟩
  by_cases e:p=t
  ·subst e
   obtain rfl:x=y:=by rw[hx]at h2;exact Option.some.inj h2
   rw[hs h3]at h5;cases h5
  ·exact⟨p,y,by omega,h2,h3,h4,h5⟩
theorem gq.set{A:List Θ}{i:Int}{one:Nat→Bool}{t n k:Nat}{x:Θ}(h:gq A i one t n)(hx:A[t]?=some x)(ha:x.arg=i)(hk:x.num=(k:Int))(ho:one t=true):gq A i one (t+1) (n|||2^k):=fun m=>by
 rw[ot]
 by_cases e:k=m
 ·subst e
  simp only[decide_true,Bool.or_true,true_iff]
  exact⟨t,x,by omega,hx,ha,hk,ho⟩
 ·simp only[decide_eq_false e,Bool.or_false,h m]
  constructor
  ·rintro⟨p,y,h1,h2⟩;exact⟨p,y,by omega,h2⟩
  ·rintro⟨p,y,h1,h2,h3,h4,h5⟩
   by_cases e2:p=t
   ·subst e2
    obtain rfl:x=y:=by rw[hx]at h2;exact Option.some.inj h2
    omega
   ·exact⟨p,y,by omega,h2,h3,h4,h5⟩
theorem gq.all{A:List Θ}{i:Int}{one:Nat→Bool}{n:Nat}(h:gq A i one A.length n):fA A i one n:=fun m=>by
 rw[h m]
 constructor
 ·rintro⟨p,y,h1,h2⟩;exact⟨p,y,h2⟩
 ·rintro⟨p,y,h2⟩;exact⟨p,y,(List.getElem?_eq_some_iff.1 h2.1).1,h2⟩
theorem gq.lt{A:List Θ}{i:Int}{one:Nat→Bool}{t n k:Nat}(h:gq A i one t n)(hb:∀(p:Nat) (x:Θ),A[p]?=some x→x.arg=i→x.num<(k:Int)):n<2^k:=by
 refine Nat.lt_pow_two_of_testBit n fun j hj=> ?_
 cases e:n.testBit j
 ·rfl
 ·obtain⟨p,x,_,a,b,c,_⟩:=(h j).1 e
  have:=hb p x a b
  omega
end Go.Proofs.YtcogcbplmkcojaaGreatDoor
