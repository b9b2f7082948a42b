/-
  strings.Trim with the letters of literal bits: it ends; bits that are literals.
-/
import Derived.Test.YtcogcbplmkcojaaGreatDoorKHb
namespace Go.Proofs.YtcogcbplmkcojaaGreatDoor
open Go.IntWalk
set_option maxRecDepth 100000
set_option linter.unusedVariables false
set_option linter.unusedSimpArgs false
set_option maxHeartbeats 1000000
def me(D:UInt8→Bool)(s:List UInt8)(r:AV):Prop:=∃q:List UInt8,r= .t (.str q)∧q.length≤s.length∧(∀c∈s,c∈q∨D c=true)∧(∀c∈q,c∈s)∧(q≠[]→∃c∈s,D c=false)
theorem me.aJ{D:UInt8→Bool}{s:List UInt8}:∀r,me D s r→aJ r=true:=by rintro r ⟨s,rfl,_⟩;rfl
theorem me.flat{D:UInt8→Bool}{s:List UInt8}:∀r,me D s r→Flat r:=by rintro r ⟨s,rfl,_⟩;exact(show iY (.str s)=true from rfl)
def zG(ls:List T)(D:UInt8→Bool):Prop:=∀c:UInt8,ls[c.toNat]?=some (T.bool (D c))
theorem uY{D:UInt8→Bool}(ls:List T)(ha:zG ls D)(c:UInt8):φ Tryz.prog 179 [.bg ls,.int .u8 c.toNat] (.t (.bool (D c))):=by
 refine φ.Γ ?_ rfl
 refine γ.ξ ζ η Tryz.func179 rfl rfl ?_
 have hb:=ha c
 refine ε (show rq ((c.toNat:Nat):Int) 256=true from by have:=c.toNat_lt;simp[rq];omega) ?_
 refine ν (show(ls.drop (((c.toNat:Nat):Int).toNat*1))[0]?=some (T.bool (D c))from by rw[Int.toNat_natCast,Nat.mul_one,List.getElem?_drop,Nat.add_zero];exact hb) ?_
 exact And.intro rfl rfl
theorem zZ{D:UInt8→Bool}(ls:List T)(ha:zG ls D)(s:List UInt8)(hs:s.length≤reachBytes):ab Tryz.prog 157 [.str s,.bg ls] (me D s):=by
 refine ab.Γ ?_ me.aJ
 refine γ.ξ ζ η Tryz.func157 rfl rfl ?_
 refine ao (fun q:List UInt8=>q.length≤s.length∧(∀c∈s,c∈q∨D c=true)∧∀c∈q,c∈s) (fun q=>⟨[(0,.t (.str q)),(1,.t (.bg ls))],[]⟩) (fun q=>q.length) s ⟨Nat.le_refl _,fun c hc=> .inl hc,fun c hc=>hc⟩ ?_ (fun q hq=> ?_)
 ·exact aM ⟨rfl,rfl,trivial⟩ rfl
 obtain⟨hq,hD,hM⟩:=hq
 refine U (fun c=> ?_) (fun c=> ?_)
 ·have c:0<q.length:=by have:=of_decide_eq_true c;simp at this;omega
  obtain⟨m,hm⟩:∃m,m=q.length - 1:=⟨_,rfl⟩
  have hr:reachBytes≤9223372036854775806:=by decide
  refine δ (n:=((m:Nat):Int)) (by rw[IntKind.wrap_i64];omega) ?_
  obtain⟨z,hz,KV⟩:=get_some (R:=q) (i:=m) (by omega)
  refine ν (show q[((m:Nat):Int).toNat]?=some z from by rw[Int.toNat_natCast];exact hz) ?_
  refine γ.pure (uY ls ha z) rfl ?_
  refine U (fun cy=> ?_) (fun cz=> ?_)
  ·exact⟨_,⟨q,rfl,hq,hD,hM,fun _=>⟨z,hM z KV,by simpa using cy⟩⟩,_,_,rfl,.refl _⟩
  have cz:D z=true:=by simpa using cz
  refine δ (n:=((m:Nat):Int)) (by rw[IntKind.wrap_i64];omega) ?_
  refine ε (show(decide ((0:Int)≤((m:Nat):Int))&&decide (((m:Nat):Int)≤(q.length:Int)))=true from by simp;omega) ?_
  conv=>whnf
  have e0:(q.drop 0).take (((m:Nat):Int).toNat - 0)=q.take m:=by rw[Int.toNat_natCast];simp
  have e:((q.drop 0).take (((m:Nat):Int).toNat - 0)).length=m:=by rw[e0];simp;omega
  have YG:q=q.take m++[z]:=by
   have h1:q.take (m+1)=q.take m++[z]:=by rw[List.take_add_one,hz];rfl
   rw[←h1,List.take_of_length_le (by omega)]
  exact⟨⟨(q.drop 0).take (((m:Nat):Int).toNat - 0),by rw[e];omega,fun c hc=>by
   rw[e0]
   rcases hD c hc with h|h
   ·rw[YG]at h
    rcases List.mem_append.1 h with h|h
    ·exact .inl h
    ·rw[List.mem_singleton.1 h];exact .inr cz
   ·exact .inr h,fun c hc=>hM c (by rw[e0]at hc;exact List.mem_of_mem_take hc)⟩,aM ⟨rfl,rfl,trivial⟩ rfl,by show((q.drop 0).take (((m:Nat):Int).toNat - 0)).length<q.length;rw[e];omega⟩
 ·exact⟨_,⟨q,rfl,hq,hD,hM,fun h=>absurd (List.length_pos_iff.2 h) (by have:=of_decide_eq_false c;simp at this;rw[this];simp)⟩,_,_,rfl,.refl _⟩
theorem B8{D:UInt8→Bool}(ls:List T)(ha:zG ls D)(s:List UInt8)(hs:s.length≤reachBytes):ab Tryz.prog 156 [.str s,.bg ls] (me D s):=by
 refine ab.Γ ?_ me.aJ
 refine γ.ξ ζ η Tryz.func156 rfl rfl ?_
 refine ao (fun q:List UInt8=>q.length≤s.length∧(∀c∈s,c∈q∨D c=true)∧∀c∈q,c∈s) (fun q=>⟨[(0,.t (.str q)),(1,.t (.bg ls))],[]⟩) (fun q=>q.length) s ⟨Nat.le_refl _,fun c hc=> .inl hc,fun c hc=>hc⟩ ?_ (fun q hq=> ?_)
 ·exact aM ⟨rfl,rfl,trivial⟩ rfl
 obtain⟨hq,hD,hM⟩:=hq
 refine U (fun c=> ?_) (fun c=> ?_)
 ·have c:0<q.length:=by have:=of_decide_eq_true c;simp at this;omega
  obtain⟨z,hz,KV⟩:=get_some (R:=q) (i:=0) c
  refine ν hz ?_
  refine γ.pure (uY ls ha z) rfl ?_
  refine U (fun cy=> ?_) (fun cz=> ?_)
  ·exact⟨_,⟨q,rfl,hq,hD,hM,fun _=>⟨z,hM z KV,by simpa using cy⟩⟩,_,_,rfl,.refl _⟩
  have cz:D z=true:=by simpa using cz
  refine ε (show(decide ((0:Int)≤1)&&decide ((1:Int)≤(q.length:Int)))=true from by simp;omega) ?_
  conv=>whnf
  have e:((q.drop 1).take (q.length - 1)).length=q.length - 1:=by simp
  have e0:(q.drop 1).take (q.length - 1)=q.drop 1:=List.take_of_length_le (by simp)
  exact⟨⟨(q.drop 1).take (q.length - 1),by rw[e];omega,fun c hc=>by
   rw[e0]
   rcases hD c hc with h|h
   ·cases q with
    |nil=>cases h
    |cons y r=>
     cases hz
     rcases List.mem_cons.1 h with h|h
     ·rw[h];exact .inr cz
     ·exact .inl h
   ·exact .inr h,fun c hc=>hM c (by rw[e0]at hc;exact List.mem_of_mem_drop hc)⟩,aM ⟨rfl,rfl,trivial⟩ rfl,by show((q.drop 1).take (q.length - 1)).length<q.length;rw[e];omega⟩
 ·exact⟨_,⟨q,rfl,hq,hD,hM,fun h=>absurd (List.length_pos_iff.2 h) (by have:=of_decide_eq_false c;simp at this;rw[this];simp)⟩,_,_,rfl,.refl _⟩
def pe(c:UInt8):Bool:=c.toNat==48||c.toNat==49||c.toNat==120
def pX:List T:=(List.range 256).map fun i=>T.bool (i==48||i==49||i==120)
theorem BN:zG pX pe:=fun c=>by rw[pX,List.getElem?_map,List.getElem?_range c.toNat_lt];rfl
theorem Dt:φ Tryz.prog 155 [.str [48,49,120]] (.aq [.t (.agg pX),.t (.bool true)]):=by
 refine φ.Γ ?_ rfl
 refine γ.ξ ζ η Tryz.func155 rfl rfl ?_
 refine bh 4 ?_
 exact And.intro ⟨rfl,rfl,trivial⟩ rfl
theorem Jt(s:List UInt8)(hs:s.length≤reachBytes):ab Tryz.prog 105 [.str s,.str [48,49,120]] (me pe s):=by
 have hR:=zZ pX BN s hs
 refine ab.Γ ?_ me.aJ
 refine γ.ξ ζ η Tryz.func105 rfl rfl ?_
 refine U (fun c=> ?_) (fun c=> ?_)
 ·exact⟨_,⟨s,rfl,Nat.le_refl _,fun c hc=> .inl hc,fun c hc=>hc,fun h=>absurd (by simpa using c) h⟩,_,_,rfl,.refl _⟩
 refine γ.pure Dt rfl ?_
 refine γ.JI 600 hR rfl ⟨.refl _,.refl _,trivial⟩ me.flat ?_
 rintro _ ⟨q,rfl,hq,hD,hM,hN⟩
 refine γ.JI 600 (B8 pX BN q (by omega)) rfl ⟨.refl _,.refl _,trivial⟩ me.flat ?_
 rintro _ ⟨q2,rfl,K4,PL,pU,X5⟩
 exact⟨_,⟨q2,rfl,by omega,fun c hc=>(hD c hc).elim (fun h=>PL c h) .inr,fun c hc=>hM c (pU c hc),fun h=>by obtain⟨z,h1,h2⟩:=X5 h;exact⟨z,hM z h1,h2⟩⟩,_,_,rfl,.refl _⟩
structure Θ where
 lit:Nat
 arg:Int
 num:Int
def bF(b:Θ):T:= .agg [.int .u8 b.lit,.int .i64 b.arg,.int .i64 b.num]
theorem rk(b:Θ):φ Tryz.prog 68 [bF b] (.t (.bool (decide (b.arg<0∧b.lit≠120)))):=by
 refine φ.Γ ?_ rfl
 refine γ.ξ ζ η Tryz.func68 rfl rfl ?_
 refine U (fun c=> ?_) (fun c=> ?_)
 ·exact And.intro (congrArg (fun b=>some (T.bool b)) (by
   have c:b.arg<0:=of_decide_eq_true c
   show((b.lit:Int)!=120)=_
   by_cases h:b.lit=120
   ·simp[h]
   ·have:((b.lit:Int)!=120)=true:=by simp;omega
    rw[this];simp[h,c])) rfl
 ·exact And.intro (BS fun h=>df c h.1) rfl
end Go.Proofs.YtcogcbplmkcojaaGreatDoor
