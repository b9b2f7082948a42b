/-
  A codec's patterns as data; a word's bits; the tree that finds forms (plain law and the walk of a word's bit).
-/
import Derived.Test.YtcogcbplmkcojaaGreatDoorKIb
namespace Go.Proofs.YtcogcbplmkcojaaGreatDoor
open Go.IntWalk
set_option maxRecDepth 100000
set_option linter.unusedVariables false
set_option linter.unusedSimpArgs false
set_option maxHeartbeats 1000000
def dA(w0 w1 p:Nat):Bool:=if p<64 then w0.testBit p else w1.testBit (p - 64)
theorem nat_bit{w k:Nat}:w/2^k%2=if w.testBit k then 1 else 0:=by
 rw[←Nat.shiftRight_eq_div_pow]
 have:w.testBit k=(1&&& (w>>>k)!=0):=rfl
 rw[this,Nat.and_comm,Nat.and_one_is_mod]
 have:=Nat.mod_lt (w>>>k) (show 2>0 by decide)
 rcases Nat.lt_or_ge (w>>>k%2) 1 with h|h
 ·have e:w>>>k%2=0:=by omega
  rw[e];rfl
 ·have e:w>>>k%2=1:=by omega
  rw[e];rfl
def tD(w0 w1:Nat):T:= .agg [.int .u64 w0,.int .u64 w1]
def EU(b:Bool):Int:=if b then 1 else 0
theorem ya(w0 w1:Nat)(h0:w0<18446744073709551616)(h1:w1<18446744073709551616)(p:Nat)(hp:p<128):φ Tryz.prog 92 [tD w0 w1,.int .i64 p] (.t (.int .u64 (EU (dA w0 w1 p)))):=by
 refine φ.Γ ?_ rfl
 refine γ.ξ ζ η Tryz.func92 rfl rfl ?_
 by_cases h:p<64
 ·obtain⟨q,hq⟩:∃q,q=w0/2^p:=⟨_,rfl⟩
  have Gg:q≤w0:=by rw[hq];exact Nat.div_le_self _ _
  have e:q%2=if dA w0 w1 p then 1 else 0:=by rw[hq,nat_bit,dA,if_pos h]
  refine ε rfl ?_
  refine δ (n:=0) (show IntKind.i64.wrap (((p:Nat):Int).tdiv 64)=0 from by rw[Int.tdiv_eq_ediv_of_nonneg (by omega),IntKind.wrap_i64];omega) ?_
  refine ε rfl ?_
  refine δ (n:=((p:Nat):Int)) (show((p:Nat):Int).tmod 64=_ from by rw[Int.tmod_eq_emod_of_nonneg (by omega)];omega) ?_
  refine ε (decide_eq_true (show(0:Int)≤((p:Nat):Int) by omega)) ?_
  refine δ (n:=((q:Nat):Int)) (show((w0:Nat):Int).fdiv (2^(min ((p:Nat):Int).toNat IntKind.u64.bits))=_ from by
   rw[Int.toNat_natCast,Nat.min_eq_left (show p≤IntKind.u64.bits by show _≤64;omega),←cU,Int.fdiv_eq_ediv_of_nonneg _ (Int.natCast_nonneg _),←Int.natCast_ediv,hq]) ?_
  refine δ (n:=EU (dA w0 w1 p)) (show ed .and .u64 ((q:Nat):Int) ((1:Nat):Int)=_ from by
   rw[mZ (by omega) (by decide),Nat.and_one_is_mod,e];unfold EU;cases dA w0 w1 p<;>rfl) ?_
  exact And.intro rfl rfl
 ·obtain⟨k,hk⟩:∃k,p=64+k:=⟨p - 64,by omega⟩
  obtain⟨q,hq⟩:∃q,q=w1/2^k:=⟨_,rfl⟩
  have Gg:q≤w1:=by rw[hq];exact Nat.div_le_self _ _
  have e:q%2=if dA w0 w1 p then 1 else 0:=by rw[hq,nat_bit,dA,if_neg h,show p - 64=k by omega]
  refine ε rfl ?_
  refine δ (n:=1) (show IntKind.i64.wrap (((p:Nat):Int).tdiv 64)=1 from by rw[Int.tdiv_eq_ediv_of_nonneg (by omega),IntKind.wrap_i64];omega) ?_
  refine ε rfl ?_
  refine δ (n:=((k:Nat):Int)) (show((p:Nat):Int).tmod 64=_ from by rw[Int.tmod_eq_emod_of_nonneg (by omega)];omega) ?_
  refine ε (decide_eq_true (show(0:Int)≤((k:Nat):Int) by omega)) ?_
  refine δ (n:=((q:Nat):Int)) (show((w1:Nat):Int).fdiv (2^(min ((k:Nat):Int).toNat IntKind.u64.bits))=_ from by
   rw[Int.toNat_natCast,Nat.min_eq_left (show k≤IntKind.u64.bits by show _≤64;omega),←cU,Int.fdiv_eq_ediv_of_nonneg _ (Int.natCast_nonneg _),←Int.natCast_ediv,hq]) ?_
  refine δ (n:=EU (dA w0 w1 p)) (show ed .and .u64 ((q:Nat):Int) ((1:Nat):Int)=_ from by
   rw[mZ (by omega) (by decide),Nat.and_one_is_mod,e];unfold EU;cases dA w0 w1 p<;>rfl) ?_
  exact And.intro rfl rfl
theorem lr{w0 w1:Nat}(h0:w0<18446744073709551616)(h1:w1<18446744073709551616){p:Nat}(hp:p<128)(h:dA w0 w1 p=true):φ Tryz.prog 92 [tD w0 w1,.int .i64 p] (.t (.int .u64 1)):=by
 have:=ya w0 w1 h0 h1 p hp
 rwa [h]at this
theorem kQ{w0 w1:Nat}(h0:w0<18446744073709551616)(h1:w1<18446744073709551616){p:Nat}(hp:p<128)(h:dA w0 w1 p=false):φ Tryz.prog 92 [tD w0 w1,.int .i64 p] (.t (.int .u64 0)):=by
 have:=ya w0 w1 h0 h1 p hp
 rwa [h]at this
structure cE where
 sz:Nat
 m0:Nat
 m1:Nat
 w0:Nat
 w1:Nat
 lz:Bool
 rows:List (List Int)
def cE.t(p:cE):T:=ng p.sz p.m0 p.m1 p.w0 p.w1 p.lz p.rows
def cE.wf(p:cE):Prop:=p.m0<18446744073709551616∧p.m1<18446744073709551616∧p.w0<18446744073709551616∧p.w1<18446744073709551616
def cE.fits(p:cE)(W:Nat→Bool):Prop:=∀q,q<120→dA p.m0 p.m1 q=true→W q=dA p.w0 p.w1 q
inductive dF where
 |leaf (F:List Nat)
 |fork (p:Nat) (l r:dF)
def aG(F:List Nat):List T:=F.map fun n:Nat=>T.int .i64 n
def dF.t:dF→T
 | .leaf F=> .bg [.int .i64 (-1),.dj,.dj,.θ 1 (aG F)]
 | .fork p l r=> .bg [.int .i64 p,l.t,r.t,.θ 1 []]
def dF.find:dF→(Nat→Bool)→List Nat
 | .leaf F,_=>F
 | .fork p l r,W=>if W p then r.find W else l.find W
def dF.ok:dF→Prop
 | .leaf _=>True
 | .fork p l r=>p<120∧l.ok∧r.ok
structure mg(P:List cE)(F:List Nat)(t:dF):Prop where
 ok:t.ok
 all:∀W f p,f∈F→P[f]?=some p→p.fits W→f∈t.find W
 only:∀W f,f∈t.find W→f∈F
 short:∀W,(t.find W).length≤F.length
theorem mg.leaf(P:List cE)(F:List Nat):mg P F (.leaf F):=⟨trivial,fun W f p h _ _=>h,fun W f h=>h,fun W=>Nat.le_refl _⟩
def dR(P:List cE)(q:Nat)(b:Bool)(F:List Nat):List Nat:=F.filter fun f=>match P[f]?with|some p=> !dA p.m0 p.m1 q||dA p.w0 p.w1 q==b|none=>false
theorem mg.fork{P:List cE}{F:List Nat}{q:Nat}{l r:dF}(hq:q<120)(hl:mg P (dR P q false F) l)(hr:mg P (dR P q true F) r):mg P F (.fork q l r):=by
 refine⟨⟨hq,hl.ok,hr.ok⟩,fun W f p hf hp hw=> ?_,fun W f hf=> ?_,fun W=> ?_⟩
 ·have key:∀b,W q=b→f∈dR P q b F:=fun b hb=>by
   unfold dR
   rw[List.mem_filter]
   refine⟨hf,?_⟩
   rw[hp]
   cases hm:dA p.m0 p.m1 q with
   |false=>simp[hm]
   |true=>have:=hw q hq hm;simp[hm,←this,hb]
  unfold dF.find
  cases hb:W q with
  |false=>rw[if_neg (by simp)];exact hl.all W f p (key false hb) hp hw
  |true=>rw[if_pos rfl];exact hr.all W f p (key true hb) hp hw
 ·unfold dF.find at hf
  split at hf
  ·exact(List.mem_filter.1 (hr.only W f hf)).1
  ·exact(List.mem_filter.1 (hl.only W f hf)).1
 ·unfold dF.find
  split
  ·exact Nat.le_trans (hr.short W) (List.length_filter_le _ _)
  ·exact Nat.le_trans (hl.short W) (List.length_filter_le _ _)
end Go.Proofs.YtcogcbplmkcojaaGreatDoor
