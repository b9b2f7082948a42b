/-
  The ground of the walks of this seat, part JA.
-/
import Derived.Test.YtcogcbplmkcojaaGreatDoorKJv
namespace Go.Proofs.YtcogcbplmkcojaaGreatDoor
open Go.IntWalk
set_option maxRecDepth 100000
set_option linter.unusedVariables false
set_option linter.unusedSimpArgs false
set_option maxHeartbeats 2000000
def Dc:Ord:=(.op 0 [] (.op 1 [] (.op 2 [1,0] (.op 3 [1,0] (.op 4 [] (.op 5 [4,3,2,1,0] (.op 6 [4,3,2,1,0] (.op 7 [] (.op 8 [] .nil)))))))))
def jT(k:cg)(v:Int):Nat:=((v - k.plus)/2^k.shift.toNat%18446744073709551616).toNat
theorem Q8(k:cg)(v:Int):jT k v<18446744073709551616:=by unfold jT;omega
theorem EB(d:ο)(k:cg)(hk:hZ d k)(v:Int)(hv:aH v)(hp: -9223372036854775808≤v - k.plus):φ Tryz.prog 90 [aF k,.int .i64 v] (.t (.int .u64 (jT k v))):=by
 have fo:0≤k.shift∧k.shift≤63:=by rcases hk with h|h|h<;>omega
 have kM:0≤k.plus∧k.plus<64:=by rcases hk with h|h|h<;>omega
 obtain⟨s,hs⟩:∃s:Nat,k.shift=s:=⟨k.shift.toNat,by omega⟩
 have aK:k.shift.toNat=s:=by omega
 obtain⟨u,hu⟩:∃u,u=v - k.plus:=⟨_,rfl⟩
 obtain⟨q,hq⟩:∃q,q=u/2^s:=⟨_,rfl⟩
 have hv:=hv
 unfold aH at hv
 have Vc:=EG (by omega) hq
 have he:jT k v=(q%18446744073709551616).toNat:=by rw[jT,←hu,aK,hq]
 obtain⟨e,Tc⟩:∃e,e=jT k v:=⟨_,rfl⟩
 rw[←Tc]
 refine φ.Γ ?_ rfl
 refine γ.ξ ζ η Tryz.func90 rfl rfl ?_
 refine δ (n:=u) (by rw[IntKind.wrap_i64];omega) ?_
 refine ε (decide_eq_true fo.1) ?_
 refine δ (n:=q) (MT hs (by omega) hq) ?_
 refine δ (n:=(e:Int)) (by rw[IntKind.wrap_u64];omega) ?_
 exact And.intro rfl rfl
theorem EH(d:ο)(k:cg)(hk:hZ d k)(n:Nat)(hn:n<2^k.bits.toNat):φ Tryz.prog 143 [aF k,.int .u64 n] (.t (.int .i64 (bV k n))):=by
 have fo:0≤k.shift∧k.shift≤63:=by rcases hk with h|h|h<;>omega
 have hb:1≤k.bits∧k.bits≤64:=by rcases hk with h|h|h<;>omega
 have kM:0≤k.plus∧k.plus<64:=by rcases hk with h|h|h<;>omega
 have sK:n<18446744073709551616:=Nat.lt_of_lt_of_le hn (iQ (b:=64) (by omega))
 by_cases Z9:k.kind=1∨k.kind=2
 ·have fE:bV k n=((n*2^k.shift.toNat:Nat):Int)+k.plus:=by
   rw[bV]
   rcases hk with h|h|h
   ·rw[if_pos h.1,h.2.2.1];simp
   ·rw[if_neg (by omega),if_pos h.1,h.2.2.2,Int.natCast_mul,cU];simp
   ·omega
  have h2:n*2^k.shift.toNat<2^62:=by
   have h3:n*2^k.shift.toNat<2^k.bits.toNat*2^k.shift.toNat:=Nat.mul_lt_mul_of_pos_right hn (Nat.two_pow_pos _)
   rw[←Nat.pow_add]at h3
   exact Nat.lt_of_lt_of_le h3 (iQ (by rcases hk with h|h|h<;>omega))
  have h4:n≤n*2^k.shift.toNat:=Nat.le_mul_of_pos_right _ (Nat.two_pow_pos _)
  obtain⟨m,hm⟩:∃m,m=n*2^k.shift.toNat:=⟨_,rfl⟩
  obtain⟨vv,xn⟩:∃vv,vv=bV k n:=⟨_,rfl⟩
  rw[←hm]at fE h2 h4
  rw[←xn]at fE⊢
  refine φ.Γ ?_ rfl
  refine γ.ξ ζ η Tryz.func143 rfl rfl ?_
  have tail:∀{Q:St→Prop} {s:St},Q s→Q s:=fun h=>h
  refine U (fun c=> ?_) (fun c=> ?_)
  ·refine υ Dc (by decide+kernel) ?_
   refine δ (n:=(n:Int)) (by rw[IntKind.wrap_i64];omega) ?_
   refine ε (decide_eq_true fo.1) ?_
   refine δ (n:=(m:Int)) (show IntKind.i64.wrap ((n:Int)*2^(min (Int.toNat k.shift) IntKind.i64.bits))=_ from by
    rw[ua (by show k.shift.toNat≤64;omega),←cU,←Int.natCast_mul,←hm,IntKind.wrap_i64];omega) ?_
   refine δ (n:=vv) (by rw[IntKind.wrap_i64];omega) ?_
   refine And.intro (fun j hj=>by first|(cases hj;done)|exact χ.append _ _ _|exact χ.refl _ _) ?_
   exact And.intro rfl rfl
  ·have c:¬k.kind=1:=by simpa using c
   refine U (fun c2=> ?_) (fun c2=>absurd c2 (by rw[show k.kind=2 by omega];decide))
   refine υ Dc (by decide+kernel) ?_
   refine δ (n:=(n:Int)) (by rw[IntKind.wrap_i64];omega) ?_
   refine ε (decide_eq_true fo.1) ?_
   refine δ (n:=(m:Int)) (show IntKind.i64.wrap ((n:Int)*2^(min (Int.toNat k.shift) IntKind.i64.bits))=_ from by
    rw[ua (by show k.shift.toNat≤64;omega),←cU,←Int.natCast_mul,←hm,IntKind.wrap_i64];omega) ?_
   refine δ (n:=vv) (by rw[IntKind.wrap_i64];omega) ?_
   refine And.intro (fun j hj=>by first|(cases hj;done)|exact χ.append _ _ _|exact χ.refl _ _) ?_
   exact And.intro rfl rfl
 ·obtain⟨B,hB⟩:∃B,B=2^k.bits.toNat:=⟨_,rfl⟩
  obtain⟨S,hS⟩:∃S,S=2^k.shift.toNat:=⟨_,rfl⟩
  obtain⟨H,og⟩:∃H,H=2^(k.bits.toNat - 1):=⟨_,rfl⟩
  have hH:H*2=B:=by rw[og,hB,←Nat.pow_succ];congr 1;omega
  have hN:ni k.bits n:=⟨by omega,hn⟩
  obtain⟨v,hv⟩:∃v:Int,v=if H≤n then(n:Int) - B else n:=⟨_,rfl⟩
  have U8:mn k.bits n=v:=by
   rw[mn,hv,og,hB,show(k.bits - 1).toNat=k.bits.toNat - 1 by omega,cU]
  rw[←hB]at hn
  have Gc: -(H:Int)≤v∧v<H:=by rw[hv];split<;>omega
  have VE:H*S≤9223372036854775808:=by
   rw[og,hS,←Nat.pow_add]
   exact iQ (b:=63) (by rcases hk with h|h|h<;>omega)
  have Zg:H≤9223372036854775808:=by rw[og];exact iQ (b:=63) (by omega)
  have Sv: -9223372036854775808≤v*(S:Int)∧v*(S:Int)≤9223372036854775807:=by
   have e:((H*S:Nat):Int)=(H:Int)*S:=Int.natCast_mul _ _
   have h1: -(H:Int)*S≤v*S:=Int.mul_le_mul_of_nonneg_right Gc.1 (by omega)
   have h2:v*S≤((H:Int) - 1)*S:=Int.mul_le_mul_of_nonneg_right (by omega) (by omega)
   have uV:0<S:=by rw[hS];exact Nat.two_pow_pos _
   rw[Int.neg_mul]at h1
   rw[Int.sub_mul]at h2
   omega
  have lP:=KE k.bits n (by omega)
  rw[Nat.div_eq_of_lt sK,Nat.mod_eq_of_lt sK,Ch,if_pos (by omega),EX,Nat.min_eq_left (by omega),Nat.mod_eq_of_lt (by rw[←hB];exact hn)]at lP
  have qt:=NS k.bits n (by omega)
  rw[Aw,if_pos ⟨hN,by rw[U8];omega⟩,U8]at qt
  obtain⟨vv,xn⟩:∃vv,vv=bV k n:=⟨_,rfl⟩
  have fE:vv=v*(S:Int):=by rw[xn,bV,if_neg (by omega),if_neg (by omega),hv,hS,cU,←og,←cU,←hB]
  rw[←xn]
  refine φ.Γ ?_ rfl
  refine γ.ξ ζ η Tryz.func143 rfl rfl ?_
  have k1:(k.kind==1)=false:=by simp;omega
  refine U (fun c=>absurd c (by rw[k1];decide)) (fun c=> ?_)
  have k2:(k.kind==2)=false:=by simp;omega
  refine U (fun c=>absurd c (by rw[k2];decide)) (fun c=> ?_)
  refine γ.pure lP rfl ?_
  refine γ.a8 qt rfl ⟨.refl _,trivial⟩ ?_
  refine ε (decide_eq_true fo.1) ?_
  refine δ (n:=vv) (show IntKind.i64.wrap (v*2^(min (Int.toNat k.shift) IntKind.i64.bits))=_ from by
   rw[ua (by show k.shift.toNat≤64;omega),←cU,←hS,IntKind.wrap_i64,fE];omega) ?_
  exact And.intro rfl rfl
end Go.Proofs.YtcogcbplmkcojaaGreatDoor
namespace Go.Proofs.YtcogcbplmkcojaaGreatDoor
open Go.IntWalk
set_option maxRecDepth 100000
set_option linter.unusedVariables false
set_option linter.unusedSimpArgs false
set_option maxHeartbeats 1000000
theorem Ft{a:Int}{b:Nat}(hb:b≤64):a%18446744073709551616%((2^b:Nat):Int)=a%((2^b:Nat):Int):=by
 have e:(18446744073709551616:Int)=((2^b:Nat):Int)*((2^(64 - b):Nat):Int):=by
  rw[←Int.natCast_mul,←Nat.pow_add,show b+(64 - b)=64 by omega];rfl
 rw[e]
 exact Int.emod_emod_of_dvd _ ⟨_,rfl⟩
theorem ED(k:cg)(v:Int){b:Nat}(hb:b≤64):((jT k v%2^b:Nat):Int)=(v - k.plus)/2^k.shift.toNat%((2^b:Nat):Int):=by
 unfold jT
 rw[Int.natCast_emod,Int.toNat_of_nonneg (Int.emod_nonneg _ (by decide)),Ft hb]
theorem x_{k:cg}{v:Int}(h:kP k v=true):v∉k.aY:=by
 intro hm;rw[kP,if_pos hm]at h;cases h
theorem EF{v:Int}{s:Nat}(h:v%2^s=0):v/2^s*2^s=v:=Int.ediv_mul_cancel (Int.dvd_of_emod_eq_zero h)
theorem Eo{q:Int}{b:Int}(hq:aH q)(h1:1≤b)(h2:b≤64):qF q b=true↔ -((2^(b.toNat - 1):Nat):Int)≤q∧q<((2^(b.toNat - 1):Nat):Int):=by
 unfold aH at hq
 by_cases h:b=64
 ·subst h
  have:((2^(Int.toNat 64 - 1):Nat):Int)=9223372036854775808:=by decide
  rw[this]
  refine⟨fun _=>by omega,fun _=> ?_⟩
  unfold qF;exact decide_eq_true ⟨by omega,.inl (by omega)⟩
 ·obtain⟨p,hp⟩:∃p:Nat,b - 1=p:=⟨(b - 1).toNat,by omega⟩
  rw[Oo (by omega) hp (by omega) rfl,show b.toNat - 1=p by omega,cU]
  simp only[decide_eq_true_iff]
  omega
theorem uq{q:Int}{b:Int}(h1:1≤b)(h2:b≤62):lZ q b=true↔0≤q∧q<((2^b.toNat:Nat):Int):=by
 by_cases h0:0≤q
 ·have e:lZ q b=decide (q<2^b.toNat):=by
   have:=On (n:=q) (b:=b.toNat) (by omega) (by omega) h0
   rwa [Int.toNat_of_nonneg (by omega)]at this
  rw[e,cU];simp[h0]
 ·unfold lZ;simp[h0]
theorem Q_{d:ο}{k:cg}(hk:hZ d k){v:Int}(hv:aH v)(h:kP k v=true):bV k (jT k v%2^k.bits.toNat)=v:=by
 have hb:1≤k.bits∧k.bits≤64:=by rcases hk with h|h|h<;>omega
 have hm:=ED k v (b:=k.bits.toNat) (by omega)
 rw[kP,if_neg (x_ h)]at h
 obtain⟨n,hn⟩:∃n,n=jT k v%2^k.bits.toNat:=⟨_,rfl⟩
 rw[←hn]at hm⊢
 obtain⟨B,hB⟩:∃B:Nat,B=2^k.bits.toNat:=⟨_,rfl⟩
 unfold aH at hv
 rcases hk with c|c|c
 ·rw[if_pos c.1]at h
  simp only[Bool.and_eq_true,decide_eq_true_iff]at h
  have h2:=(uq (by omega) (by omega)).1 h.2
  rw[bV,if_pos c.1]
  rw[c.2.2.1,←hB]at hm
  rw[←hB]at h2
  rw[show(v - k.plus)/2^Int.toNat 0=v - k.plus by simp,Int.emod_eq_of_lt (by omega) (by omega)]at hm
  omega
 ·have h0:v%2^k.shift.toNat=0:=by
   by_cases h0:v%2^k.shift.toNat=0
   ·exact h0
   ·rw[if_neg (by omega),if_pos h0]at h;cases h
  rw[if_neg (by omega),if_neg (by omega),if_pos c.1]at h
  have h2:=(uq (by omega) (by omega)).1 h
  rw[bV,if_neg (by omega),if_pos c.1]
  rw[c.2.2.2,←hB,Int.sub_zero]at hm
  rw[←hB]at h2
  rw[Int.emod_eq_of_lt h2.1 h2.2]at hm
  rw[hm];exact EF h0
 ·have h0:v%2^k.shift.toNat=0:=by
   by_cases h0:v%2^k.shift.toNat=0
   ·exact h0
   ·rw[if_neg (by omega),if_pos h0]at h;cases h
  rw[if_neg (by omega),if_neg (by omega),if_neg (by omega)]at h
  obtain⟨q,hq⟩:∃q,q=v/2^k.shift.toNat:=⟨_,rfl⟩
  have Vc:=EG hv hq
  rw[←hq]at h
  have h2:=(Eo Vc hb.1 hb.2).1 h
  have hH:2^(k.bits.toNat - 1)*2=B:=by rw[hB,←Nat.pow_succ];congr 1;omega
  obtain⟨H,og⟩:∃H:Nat,H=2^(k.bits.toNat - 1):=⟨_,rfl⟩
  rw[←og]at hH h2
  rw[c.2.2.2,←hB,Int.sub_zero,←hq]at hm
  rw[bV,if_neg (by omega),if_neg (by omega),←cU,←hB,←og]
  have e:(if H≤n then(n:Int) - B else n)=q:=by
   by_cases SD:0≤q
   ·rw[Int.emod_eq_of_lt SD (by omega)]at hm
    rw[if_neg (by omega)];exact hm
   ·have:q%(B:Int)=q+B:=by
     rw[←Int.add_emod_right,Int.emod_eq_of_lt (by omega) (by omega)]
    rw[this]at hm
    rw[if_pos (by omega)];omega
  rw[e,hq];exact EF h0
theorem GG{d:ο}{k:cg}(hk:hZ d k){n:Nat}(hn:n<2^k.bits.toNat)(hx:bV k n∉k.aY):aH (bV k n)∧kP k (bV k n)=true∧jT k (bV k n)%2^k.bits.toNat=n:=by
 have hb:1≤k.bits∧k.bits≤64:=by rcases hk with h|h|h<;>omega
 have hm:=ED k (bV k n) (b:=k.bits.toNat) (by omega)
 rw[kP,if_neg hx]
 clear hx
 obtain⟨e,he⟩:∃e,e=jT k (bV k n)%2^k.bits.toNat:=⟨_,rfl⟩
 rw[←he]at hm⊢
 obtain⟨B,hB⟩:∃B:Nat,B=2^k.bits.toNat:=⟨_,rfl⟩
 obtain⟨S,hS⟩:∃S:Nat,S=2^k.shift.toNat:=⟨_,rfl⟩
 have uV:0<S:=by rw[hS];exact Nat.two_pow_pos _
 have PG:(2:Int)^k.shift.toNat=(S:Int):=by rw[hS,cU]
 unfold aH
 rcases hk with c|c|c
 ·have ZO:B≤64:=by rw[hB];exact iQ (b:=6) (by omega)
  rw[bV,if_pos c.1]at hm⊢
  rw[←hB]at hn
  rw[c.2.2.1,←hB,show((n:Int)+k.plus - k.plus)/2^Int.toNat 0=n by simp,Int.emod_eq_of_lt (by omega) (by omega)]at hm
  rw[if_pos c.1]
  refine⟨by omega,?_,by omega⟩
  simp only[Bool.and_eq_true,decide_eq_true_iff]
  refine⟨by omega,(uq (by omega) (by omega)).2 ?_⟩
  rw[←hB];omega
 ·have ZN:B*S≤4611686018427387904:=by rw[hB,hS,←Nat.pow_add];exact iQ (b:=62) (by omega)
  have Zv:n*S<B*S:=Nat.mul_lt_mul_of_pos_right (by rw[hB];exact hn) uV
  have Zh:B≤B*S:=Nat.le_mul_of_pos_right _ uV
  rw[bV,if_neg (by omega),if_pos c.1,PG]at hm⊢
  rw[←hB]at hn
  rw[c.2.2.2,Int.sub_zero,Int.mul_ediv_cancel _ (by omega),←hB,Int.emod_eq_of_lt (by omega) (by omega)]at hm
  rw[if_neg (by omega),if_pos c.1,Int.mul_ediv_cancel _ (by omega),if_neg (by rw[Int.mul_emod_left];simp)]
  have e1:(n:Int)*S=((n*S:Nat):Int):=(Int.natCast_mul _ _).symm
  refine⟨by rw[e1];omega,(uq (by omega) (by omega)).2 ?_,by omega⟩
  rw[←hB];omega
 ·obtain⟨H,og⟩:∃H:Nat,H=2^(k.bits.toNat - 1):=⟨_,rfl⟩
  have hH:H*2=B:=by rw[og,hB,←Nat.pow_succ];congr 1;omega
  have VE:H*S≤9223372036854775808:=by rw[og,hS,←Nat.pow_add];exact iQ (b:=63) (by omega)
  rw[←hB]at hn
  obtain⟨v,hv⟩:∃v:Int,v=if H≤n then(n:Int) - B else n:=⟨_,rfl⟩
  have Gc: -(H:Int)≤v∧v<H:=by rw[hv];split<;>omega
  have Sv: -9223372036854775808≤v*(S:Int)∧v*(S:Int)≤9223372036854775807:=by
   have e:((H*S:Nat):Int)=(H:Int)*S:=Int.natCast_mul _ _
   have h1: -(H:Int)*S≤v*S:=Int.mul_le_mul_of_nonneg_right Gc.1 (by omega)
   have h2:v*S≤((H:Int) - 1)*S:=Int.mul_le_mul_of_nonneg_right (by omega) (by omega)
   rw[Int.neg_mul]at h1
   rw[Int.sub_mul]at h2
   omega
  have fE:bV k n=v*(S:Int):=by rw[bV,if_neg (by omega),if_neg (by omega),←cU,←hB,←og,←hv,PG]
  rw[fE]at hm⊢
  rw[c.2.2.2,Int.sub_zero,PG,Int.mul_ediv_cancel _ (by omega),←hB]at hm
  rw[if_neg (show¬k.kind=1 by omega),if_neg (show¬k.kind=2 by omega),PG,Int.mul_ediv_cancel _ (by omega),if_neg (by rw[Int.mul_emod_left];simp)]
  have NW: -9223372036854775808≤v∧v≤9223372036854775807:=by
   have VJ:H≤9223372036854775808:=by rw[og];exact iQ (b:=63) (by omega)
   omega
  refine⟨Sv,(Eo NW hb.1 hb.2).2 (by rw[←og];exact Gc),?_⟩
  have e2:v%(B:Int)=n:=by
   rw[hv]
   split
   ·next h=>rw[←Int.add_emod_right,show(n:Int) - B+B=n by omega,Int.emod_eq_of_lt (by omega) (by omega)]
   ·next h=>rw[Int.emod_eq_of_lt (by omega) (by omega)]
  omega
theorem Bj:∀(n:Nat) (l:List Nat),l.Nodup→(∀x∈l,x<n)→l.length≤n
 |0,l,_,h=>by
  cases l with
  |nil=>simp
  |cons x r=>exact absurd (h x List.mem_cons_self) (Nat.not_lt_zero _)
 |n+1,l,hd,h=>by
  have h1:=Bj n (l.erase n) (hd.erase n) fun x hx=>by
   have h2:=h x (List.mem_of_mem_erase hx)
   have h3:x≠n:=fun e=>by subst e;exact(List.Nodup.mem_erase_iff hd).1 hx |>.1 rfl
   omega
  by_cases hm:n∈l
  ·rw[List.length_erase_of_mem hm]at h1;omega
  ·rw[List.erase_of_not_mem hm]at h1;omega
theorem RU{n:Nat}{l:List Nat}(hd:l.Nodup)(h:∀x∈l,x<n)(hl:l.length=n){m:Nat}(hm:m<n):m∈l:=by
 by_cases mR:m∈l
 ·exact mR
 ·have:=Bj n (m::l) (List.nodup_cons.2 ⟨mR,hd⟩) fun x hx=>by
   rcases List.mem_cons.1 hx with rfl|hx
   ·exact hm
   ·exact h x hx
  simp at this;omega
theorem bG.pos{d:ο}{f:Ψ}(h:bG d f){j m:Nat}{a:cP}{k:cg}(ha:f.args[j]?=some a)(hk:bQ d.classes a.aU=some k)(hm:(m:Int)<k.bits):
 ∃(p:Nat) (y:Θ),(ψ d f)[p]?=some y∧y.arg=(j:Int)∧y.num=(m:Int):=by
 obtain⟨l,hl⟩:∃l,l=(bf f.pieces).filter fun b=>decide (b.arg=(j:Int)):=⟨_,rfl⟩
 have Tg:=h.VQ j a k ha hk
 unfold oL at Tg
 rw[List.countP_eq_length_filter,←hl]at Tg
 have aL:∀b∈l,b∈bf f.pieces∧b.arg=(j:Int)∧∃q:Nat,b.num=q∧(q:Int)<k.bits:=fun b hb=>by
  rw[hl]at hb
  obtain⟨h1,h2⟩:=List.mem_filter.1 hb
  have h2:b.arg=(j:Int):=of_decide_eq_true h2
  refine⟨h1,h2,?_⟩
  rcases h.O5 b h1 with⟨e,_⟩|⟨_,i,a',k',q,e1,e2,e3,e4,e5,_⟩
  ·omega
  ·have:i=j:=by omega
   subst this
   rw[ha]at e2;cases e2
   rw[hk]at e3;cases e3
   exact⟨q,e4,e5⟩
 have hd:(l.map fun b=>b.num.toNat).Nodup:=by
  rw[List.Nodup,List.pairwise_map]
  have hp:l.Pairwise fun x y=>0≤x.arg→¬(x.arg=y.arg∧x.num=y.num):=by rw[hl];exact List.Pairwise.filter _ h.ux
  refine List.Pairwise.imp_of_mem (fun{x y} hx hy W6 e=> ?_) hp
  obtain⟨_,a1,q1,b1,_⟩:=aL x hx
  obtain⟨_,a2,q2,b2,_⟩:=aL y hy
  exact W6 (by omega) ⟨by omega,by omega⟩
 have H6:m∈l.map fun b=>b.num.toNat:=RU (n:=k.bits.toNat) hd (fun x hx=>by
  obtain⟨b,hb,rfl⟩:=List.mem_map.1 hx
  obtain⟨_,_,q,e,h2⟩:=aL b hb
  show b.num.toNat<_
  omega) (by rw[List.length_map];omega) (by omega)
 obtain⟨b,hb,e⟩:=List.mem_map.1 H6
 obtain⟨h1,h2,q,e1,_⟩:=aL b hb
 have e:b.num.toNat=m:=e
 obtain⟨s,hs⟩:=List.mem_iff_getElem?.1 h1
 have uN:=(List.getElem?_eq_some_iff.1 hs).1
 refine⟨bo d.order (bf f.pieces).length s,b,?_,h2,by omega⟩
 rw[ψ,j_ h.m8 (iG uN h.m8),mK uN];exact hs
end Go.Proofs.YtcogcbplmkcojaaGreatDoor
namespace Go.Proofs.YtcogcbplmkcojaaGreatDoor
open Go.IntWalk
set_option maxRecDepth 100000
set_option linter.unusedVariables false
set_option linter.unusedSimpArgs false
set_option maxHeartbeats 1000000
def Dk(d:ο)(f:Ψ)(V:List Int)(j:Nat):Nat:=match f.args[j]?,V[j]?with
 |some a,some v=>(match bQ d.classes a.aU with|some k=>jT k v|none=>0)
 |_,_=>0
theorem Dj{d:ο}{f:Ψ}{V:List Int}{j:Nat}{a:cP}{k:cg}{v:Int}(ha:f.args[j]?=some a)(hk:bQ d.classes a.aU=some k)(hv:V[j]?=some v):Dk d f V j=jT k v:=by
 unfold Dk;simp only[ha,hv,hk]
def jU(d:ο)(f:Ψ)(V:List Int)(i m:Nat)(q:Nat):Bool:=match(ψ d f)[q]?with
 |none=>false
 |some y=>if y.arg<0 then decide (y.lit=49)else(decide (y.arg<(i:Int))||(decide (y.arg=(i:Int))&&decide (y.num<(m:Int))))&&(Dk d f V y.arg.toNat).testBit y.num.toNat
def qb(d:ο)(f:Ψ)(V:List Int)(q:Nat):Bool:=jU d f V f.args.length 0 q
section
variable {d : ο} {f : Ψ} {V : List Int} {i m : Nat}
theorem LR(hG:bG d f)(q:Nat):jU d f V 0 0 q=gl (ψ d f) (ψ d f).length q:=by
 unfold jU gl
 cases hy:(ψ d f)[q]?with
 |none=>rfl
 |some y=>
  have hq:=(List.getElem?_eq_some_iff.1 hy).1
  simp only
  rcases hG.td hy with⟨e,_,hl⟩|⟨hl,j,a,k,n,e1,e2,e3,e4,e5,_⟩
  ·rw[if_pos (by omega)]
   by_cases Gs:y.lit=49
   ·simp[Gs,hq,e]
   ·simp[Gs]
  ·rw[if_neg (by omega)]
   have:¬y.arg<0:=by omega
   have h2:¬y.num<0:=by omega
   simp[this,h2]
theorem LS(hG:bG d f){p:Nat}{y:Θ}(hp:(ψ d f)[p]?=some y)(ha:y.arg=(i:Int))(hn:y.num=(m:Int))(q:Nat):
 jU d f V i (m+1) q=(jU d f V i m q||(decide (p=q)&&(Dk d f V i).testBit m)):=by
 unfold jU
 by_cases y6:p=q
 ·subst y6
  rw[hp]
  simp only
  rw[if_neg (by omega),if_neg (by omega),ha,hn,Int.toNat_natCast,Int.toNat_natCast]
  have h1:(m:Int)<(m:Int)+1:=by omega
  have h2:¬(m:Int)<(m:Int):=by omega
  simp[h1,h2]
 ·cases hz:(ψ d f)[q]?with
  |none=>simp[y6]
  |some z=>
   simp only
   have au:=hG.wq hp hz y6 (by omega)
   rw[ha,hn]at au
   by_cases h0:z.arg<0
   ·rw[if_pos h0,if_pos h0];simp[y6]
   ·rw[if_neg h0,if_neg h0]
    by_cases h1:z.arg=(i:Int)
    ·have h2:¬(m:Int)=z.num:=fun e=>au ⟨h1.symm,e⟩
     have h3:(z.num<(m:Int)+1)↔(z.num<(m:Int)):=by omega
     simp[y6,h1,h3]
    ·simp[y6,h1]
theorem LU(hG:bG d f){a:cP}{k:cg}(ha:f.args[i]?=some a)(hk:bQ d.classes a.aU=some k)(hm:(m:Int)=k.bits)(q:Nat):jU d f V i m q=jU d f V (i+1) 0 q:=by
 unfold jU
 cases hz:(ψ d f)[q]?with
 |none=>rfl
 |some z=>
  simp only
  by_cases h0:z.arg<0
  ·rw[if_pos h0,if_pos h0]
  ·rw[if_neg h0,if_neg h0]
   congr 1
   rcases hG.td hz with⟨e,_⟩|⟨_,j,a',k',n,e1,e2,e3,e4,e5,_⟩
   ·omega
   ·have h1:¬z.num<(0:Int):=by omega
    by_cases hj:z.arg=(i:Int)
    ·have n_:j=i:=by omega
     subst n_
     rw[ha]at e2;cases e2
     rw[hk]at e3;cases e3
     have h2:z.num<(m:Int):=by omega
     have h3:(j:Int)<(j:Int)+1:=by omega
     simp[hj,h2,h3]
    ·have h3:z.arg<(i:Int)+1↔z.arg<(i:Int):=by omega
     simp[hj,h1,h3]
theorem Db(hG:bG d f){q:Nat}{y:Θ}(hy:(ψ d f)[q]?=some y)(h:y.arg<0):qb d f V q=decide (y.lit=49):=by
 unfold qb jU;rw[hy];simp only;rw[if_pos h]
theorem Ao(hG:bG d f){q j n:Nat}{y:Θ}(hy:(ψ d f)[q]?=some y)(h:y.arg=(j:Int))(hn:y.num=(n:Int))(hj:j<f.args.length):qb d f V q=(Dk d f V j).testBit n:=by
 unfold qb jU;rw[hy];simp only
 rw[if_neg (by omega),h,hn,Int.toNat_natCast,Int.toNat_natCast]
 have:(j:Int)<(f.args.length:Int):=by omega
 simp[this]
end
def fN(w0 w1 i:Nat):Nat:=if i<8 then w0/2^(8*i)%256 else w1/2^(8*(i - 8))%256
theorem xe(w0 w1 i:Nat):fN w0 w1 i<256:=by unfold fN;split<;>omega
def gx(w0 w1 n:Nat):List UInt8:=(List.range n).map fun i=>UInt8.ofNat (fN w0 w1 i)
theorem m_(w0 w1 n:Nat):(gx w0 w1 n).length=n:=by simp[gx]
theorem Jr{x:Nat}(h:x<256):(UInt8.ofNat x).toNat=x:=by rw[UInt8.toNat_ofNat'];exact Nat.mod_eq_of_lt h
theorem Mf{w0 w1 n q:Nat}(hq:q<8*n)(hn:n≤16):fy (gx w0 w1 n) q=dA w0 w1 q:=by
 unfold fy gx
 have h1:q/8<n:=by omega
 rw[List.getElem?_map,List.getElem?_range h1]
 show(UInt8.ofNat (fN w0 w1 (q/8))).toNat.testBit (q%8)=_
 rw[Jr (xe _ _ _)]
 unfold fN dA
 have h8:q%8<8:=Nat.mod_lt _ (by decide)
 by_cases h:q<64
 ·rw[if_pos (show q/8<8 by omega),if_pos h,show(256:Nat)=2^8 from rfl,Nat.testBit_mod_two_pow,yy,show 8*(q/8)+q%8=q by omega]
  simp[h8]
 ·rw[if_neg (show¬q/8<8 by omega),if_neg h,show(256:Nat)=2^8 from rfl,Nat.testBit_mod_two_pow,yy,show 8*(q/8 - 8)+q%8=q - 64 by omega]
  simp[h8]
theorem tu{m0 m1:Nat}{P:Nat→Bool}(h:cF m0 m1 P){q:Nat}(hq:q<128):dA m0 m1 q=P q:=by
 unfold dA
 by_cases h1:q<64
 ·rw[if_pos h1];exact(h.2.2 q h1).1
 ·rw[if_neg h1]
  have:=(h.2.2 (q - 64) (by omega)).2
  rwa [show 64+(q - 64)=q by omega]at this
def jz(b:List UInt8)(n q:Nat):Bool:=decide (q<8*n)&&fy b q
theorem sw{b:List UInt8}{n:Nat}{x:UInt8}(hx:b[n]?=some x)(q:Nat):jz b (n+1) q=(jz b n q||(decide (8*n≤q)&&x.toNat.testBit (q - 8*n))):=by
 unfold jz
 by_cases h1:q<8*n
 ·have:¬8*n≤q:=by omega
  simp[h1,this,show q<8*(n+1) by omega]
 ·by_cases h2:q<8*(n+1)
  ·have e:fy b q=x.toNat.testBit (q - 8*n):=by
    unfold fy
    rw[show q/8=n by omega,hx,show q%8=q - 8*n by omega];rfl
   simp[h1,h2,e,show 8*n≤q by omega]
  ·have ω:=x.toNat_lt
   have e:x.toNat.testBit (q - 8*n)=false:=Nat.testBit_lt_two_pow (Nat.lt_of_lt_of_le (show x.toNat<2^8 from ω) (Nat.pow_le_pow_right (by decide) (by omega)))
   simp[h1,h2,e]
theorem uC{x:UInt8}{s:Nat}(h:s≤56):x.toNat*2^s<18446744073709551616:=by
 have h1:x.toNat<2^8:=x.toNat_lt
 have h2:x.toNat*2^s<2^8*2^s:=Nat.mul_lt_mul_of_pos_right h1 (Nat.two_pow_pos _)
 rw[←Nat.pow_add]at h2
 exact Nat.lt_of_lt_of_le h2 (iQ (b:=64) (by omega))
theorem cF.byte{b:List UInt8}{n m0 m1:Nat}{x:UInt8}(h:cF m0 m1 (jz b n))(hx:b[n]?=some x)(hn:n<16):
 (n<8→cF (m0|||x.toNat*2^(8*n)) m1 (jz b (n+1)))∧(∀k,n=8+k→cF m0 (m1|||x.toNat*2^(8*k)) (jz b (n+1))):=by
 have ω:x.toNat<2^8:=x.toNat_lt
 constructor
 ·intro h8
  refine⟨Nat.or_lt_two_pow (n:=64) h.1 (uC (by omega)),h.2.1,fun j hj=>⟨?_,?_⟩⟩
  ·rw[Nat.testBit_or,yx,(h.2.2 j hj).1,sw hx]
  ·rw[(h.2.2 j hj).2,sw hx]
   have e:x.toNat.testBit (64+j - 8*n)=false:=Nat.testBit_lt_two_pow (Nat.lt_of_lt_of_le ω (Nat.pow_le_pow_right (by decide) (by omega)))
   simp[e]
 ·rintro k rfl
  refine⟨h.1,Nat.or_lt_two_pow (n:=64) h.2.1 (uC (by omega)),fun j hj=>⟨?_,?_⟩⟩
  ·rw[(h.2.2 j hj).1,sw hx]
   simp[show¬8*(8+k)≤j by omega]
  ·rw[Nat.testBit_or,yx,(h.2.2 j hj).2,sw hx]
   have e:(8*(8+k)≤64+j)↔8*k≤j:=by omega
   rw[show 64+j - 8*(8+k)=j - 8*k by omega]
   simp[e]
def OR(d:ο)(f:Ψ)(W:Nat→Bool):Prop:=∀(p:Nat) (x:Θ),(ψ d f)[p]?=some x→(x.lit=48→W p=false)∧(x.lit=49→W p=true)
def IQ(d:ο)(f:Ψ)(W:Nat→Bool)(UF:Nat):Prop:=
 (ψ d f).length≤8*UF∧OR d f W∧∀(i:Nat) a k n,f.args[i]?=some a→bQ d.classes a.aU=some k→fA (ψ d f) i W n→bV k n∉k.aY
def AS(d:ο)(f:Ψ)(W:Nat→Bool)(V:List Int):Prop:=
 V.length=f.args.length∧∀(i:Nat) a k v,f.args[i]?=some a→bQ d.classes a.aU=some k→V[i]?=some v→∃n,n<2^k.bits.toNat∧fA (ψ d f) i W n∧v=bV k n∧v∉k.aY
theorem bG.rl{d:ο}{f:Ψ}(h:bG d f):(ψ d f).length≤120:=by rw[ez];exact h.le
theorem yf{d:ο}{f:Ψ}(hG:bG d f){b:List UInt8}{n:Nat}(hn:n=min b.length 15):IQ d f (jz b n) n↔lB d f b:=by
 have AB:=hG.rl
 have hb:(ψ d f).length≤8*n↔(ψ d f).length≤8*b.length:=by omega
 have he:(ψ d f).length≤8*n→∀(p:Nat) (x:Θ),(ψ d f)[p]?=some x→jz b n p=fy b p:=fun h p x hx=>by
  have:=(List.getElem?_eq_some_iff.1 hx).1
  unfold jz;simp[show p<8*n by omega]
 constructor
 ·rintro⟨h1,h2,h3⟩
  refine⟨hb.1 h1,fun p x hx=>by rw[←he h1 p x hx];exact h2 p x hx,fun i a k m ha hk hm=>h3 i a k m ha hk (hm.congr fun p x hx _=>(he h1 p x hx).symm)⟩
 ·rintro⟨h1,h2,h3⟩
  have h1:=hb.2 h1
  refine⟨h1,fun p x hx=>by rw[he h1 p x hx];exact h2 p x hx,fun i a k m ha hk hm=>h3 i a k m ha hk (hm.congr fun p x hx _=>he h1 p x hx)⟩
theorem NI{d:ο}{f:Ψ}(hG:bG d f){m0 m1 v0 v1 w0 w1:Nat}{W:Nat→Bool}(hp:dV (ψ d f) (ψ d f).length m0 m1 v0 v1)(hw:cF w0 w1 W):(w0&&& m0=v0∧w1&&& m1=v1)↔OR d f W:=by
 have AB:=hG.rl
 have key:∀(p:Nat) (x:Θ),(ψ d f)[p]?=some x→iy (ψ d f) (ψ d f).length p=decide (x.arg<0∧x.lit≠120)∧gl (ψ d f) (ψ d f).length p=(decide (x.arg<0∧x.lit≠120)&&decide (x.lit=49)):=fun p x hx=>by
  have:=(List.getElem?_eq_some_iff.1 hx).1
  unfold iy gl;rw[hx];simp[this]
 have Pk:∀p,(ψ d f)[p]?=none→iy (ψ d f) (ψ d f).length p=false∧gl (ψ d f) (ψ d f).length p=false:=fun p hx=>by
  unfold iy gl;rw[hx];exact⟨rfl,rfl⟩
 have fx:(w0&&& m0=v0∧w1&&& m1=v1)↔∀q,q<128→(W q&&iy (ψ d f) (ψ d f).length q)=gl (ψ d f) (ψ d f).length q:=by
  constructor
  ·rintro⟨e0,e1⟩ q hq
   by_cases h:q<64
   ·rw[←(hw.2.2 q h).1,←(hp.mask.2.2 q h).1,←(hp.want.2.2 q h).1,←e0,Nat.testBit_and]
   ·obtain⟨j,rfl⟩:∃j,q=64+j:=⟨q - 64,by omega⟩
    rw[←(hw.2.2 j (by omega)).2,←(hp.mask.2.2 j (by omega)).2,←(hp.want.2.2 j (by omega)).2,←e1,Nat.testBit_and]
  ·intro h
   have qv:∀(x j:Nat),x<18446744073709551616→64≤j→x.testBit j=false:=fun x j hx hj=>Nat.testBit_lt_two_pow (Nat.lt_of_lt_of_le hx (iQ (a:=64) hj))
   constructor<;>refine Nat.eq_of_testBit_eq fun j=> ?_<;>rw[Nat.testBit_and]<;>by_cases hj:j<64
   ·rw[(hw.2.2 j hj).1,(hp.mask.2.2 j hj).1,(hp.want.2.2 j hj).1];exact h j (by omega)
   ·rw[qv w0 j hw.1 (by omega),qv v0 j hp.want.1 (by omega)];rfl
   ·rw[(hw.2.2 j hj).2,(hp.mask.2.2 j hj).2,(hp.want.2.2 j hj).2];exact h (64+j) (by omega)
   ·rw[qv w1 j hw.2.1 (by omega),qv v1 j hp.want.2.1 (by omega)];rfl
 rw[fx]
 constructor
 ·intro h p x hx
  have kM:=(List.getElem?_eq_some_iff.1 hx).1
  have h1:=h p (by omega)
  obtain⟨k1,k2⟩:=key p x hx
  rw[k1,k2]at h1
  rcases hG.td hx with⟨e,_,hl⟩|⟨hl,j,_,_,_,e1,_⟩
  ·constructor
   ·intro Yn;simp[e,Yn]at h1;exact h1
   ·intro Gs;simp[e,Gs]at h1;exact h1
  ·exact⟨fun h=>by omega,fun h=>by omega⟩
 ·intro h q hq
  cases hx:(ψ d f)[q]?with
  |none=>rw[(Pk q hx).1,(Pk q hx).2];simp
  |some x=>
   obtain⟨k1,k2⟩:=key q x hx
   rw[k1,k2]
   have h1:=h q x hx
   rcases hG.td hx with⟨e,_,hl⟩|⟨hl,j,_,_,_,e1,_⟩
   ·rcases hl with hl|hl|hl
    ·rw[h1.1 hl];simp[hl]
    ·rw[h1.2 hl];simp[hl,e]
    ·simp[hl]
   ·simp[show¬x.arg<0 by omega]
end Go.Proofs.YtcogcbplmkcojaaGreatDoor
