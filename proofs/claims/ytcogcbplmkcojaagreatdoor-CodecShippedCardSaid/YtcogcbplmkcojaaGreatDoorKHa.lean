/-
  Do all of a list hold?
-/
import Derived.Test.YtcogcbplmkcojaaGreatDoorKWB
import Derived.Test.YtcogcbplmkcojaaGreatDoorKFg
namespace Go.Proofs.YtcogcbplmkcojaaGreatDoor
open Go.IntWalk
set_option maxRecDepth 100000
set_option linter.unusedVariables false
set_option linter.unusedSimpArgs false
set_option maxHeartbeats 1000000
theorem b_{k0:Nat}{body:(Ex→St→Prop)→St→Prop}{Q:Ex→St→Prop}{s:St}(J:Ex→St→Prop)(h:∀Q',(∀e s',J e s'→Q' e s')→xb k0 body Q' s)(hJ:∀e s',J e s'→Q e s'):xb k0 body Q s:=h Q hJ
theorem get_some{α:Type}{R:List α}{i:Nat}(h:i<R.length):∃x,R[i]?=some x∧x∈R:=⟨R[i],List.getElem?_eq_getElem h,List.getElem_mem h⟩
theorem aj{n:Nat}(h:n≤9223372036854775807):IntKind.i64.wrap (n:Int)=n:=by rw[IntKind.wrap_i64];omega
theorem de{a b:Nat}(c:decide ((a:Int)<(b:Int))=true):a<b:=by have:=of_decide_eq_true c;omega
theorem dm{a b:Nat}(c:decide ((a:Int)<(b:Int))=false):b≤a:=by have:=of_decide_eq_false c;omega
theorem fc{α:Type}{l:List α}{i:Nat}{x:α}{P:α→Prop}(hx:l[i]?=some x)(h:∀y∈l.take i,P y)(hp:P x):∀y∈l.take (i+1),P y:=fun y hy=>by
 have hi:i<l.length:=by
  rcases Nat.lt_or_ge i l.length with h|h
  ·exact h
  ·rw[List.getElem?_eq_none h]at hx;cases hx
 rw[List.take_succ_eq_append_getElem hi]at hy
 rcases List.mem_append.1 hy with hy|hy
 ·exact h y hy
 ·rw[List.mem_singleton.1 hy];rw[List.getElem?_eq_getElem hi]at hx;cases hx;exact hp
def wv(P:Prop)(r:AV):Prop:=∃b:Bool,r= .t (.bool b)∧(b=true→P)
theorem wv.aJ{P:Prop}:∀r,wv P r→aJ r=true:=by rintro r ⟨b,rfl,_⟩;rfl
theorem wv.flat{P:Prop}:∀r,wv P r→Flat r:=by rintro r ⟨b,rfl,_⟩;exact(show iY (.bool b)=true from rfl)
theorem φ.yes{P:Program}{f:FuncId}{ts:List T}{b:Bool}{p:Prop}(h:φ P f ts (.t (.bool b)))(hp:b=true→p):ab P f ts (wv p):=
 ⟨wv.aJ,fun n F w vs hF hl hr=>(h.2 n F w vs hF hl hr).mono fun e w' ⟨v,G,h1⟩=>⟨_,v,G,⟨b,rfl,hp⟩,h1⟩⟩
def aR(P:Prop)(r:AV):Prop:=∃b:Bool,r= .t (.bool b)∧(b=true↔P)
theorem aR.aJ{P:Prop}:∀r,aR P r→aJ r=true:=by rintro r ⟨b,rfl,_⟩;rfl
theorem aR.flat{P:Prop}:∀r,aR P r→Flat r:=by rintro r ⟨b,rfl,_⟩;exact(show iY (.bool b)=true from rfl)
theorem ak{P:Prop}{H:AH}(h:¬P):∃r,aR P r∧qI r (.t (.bool false)) H:=⟨_,⟨false,rfl,⟨fun e=>(by cases e),fun e=>absurd e h⟩⟩,_,_,rfl,.refl _⟩
theorem aZ{P:Prop}{H:AH}{b:Bool}(h:b=true↔P):∃r,aR P r∧qI r (.t (.bool b)) H:=⟨_,⟨b,rfl,h⟩,_,_,rfl,.refl _⟩
theorem φ.iff{P:Program}{f:FuncId}{ts:List T}{b:Bool}{p:Prop}(h:φ P f ts (.t (.bool b)))(hp:b=true↔p):ab P f ts (aR p):=
 ⟨aR.aJ,fun n F w vs hF hl hr=>(h.2 n F w vs hF hl hr).mono fun e w' ⟨v,G,h1⟩=>⟨_,v,G,⟨b,rfl,hp⟩,h1⟩⟩
theorem FG(G:FuncId)(l:List jW)(P:jW→Prop)(hl:l.length≤9223372036854775807)
 (hh:∀x∈l,ab Tryz.prog G [ec x] (aR (P x))):ab Tryz.prog 62 [.θ 4 (l.map ec),.fn (.func G) [] []] (aR (∀x∈l,P x)):=by
 have fS:(l.map ec).length=l.length:=by simp
 refine ab.Γ ?_ aR.aJ
 refine γ.ξ ζ η Tryz.func62 rfl rfl ?_
 refine γ.ξ ζ η Tryz.func119 rfl rfl ?_
 refine γ.ξ ζ η Tryz.func164 rfl rfl ?_
 refine ao (fun i:Nat=>i≤l.length∧∀x∈l.take i,P x) (fun i=>⟨[(0,.t (.θ 4 (l.map ec))),(1,.fn (.func 120) [] [.ptr 0 0 0 0]),(7,.t (.int .i64 ((l.map ec).length:Int))),(8,.t (.int .i64 i))],[.box [.t (.fn (.func G) [] [])]]⟩)
  (fun i=>l.length - i) 0 ⟨Nat.zero_le _,by simp⟩ ?_ (fun i hi=> ?_)
 ·exact aM ⟨rfl,rfl,rfl,rfl,trivial⟩ rfl
 obtain⟨hi,hP⟩:=hi
 refine U (fun c=> ?_) (fun c=> ?_)
 ·have c:i<l.length:=by have:=de c;omega
  obtain⟨x,hx,dk⟩:=get_some (R:=l) (i:=i) c
  have hh:=hh x dk
  refine ν (show(l.map ec)[((i:Nat):Int).toNat]?=some (ec x)from by rw[Int.toNat_natCast,List.getElem?_map,hx];rfl) ?_
  refine γ.ξ ζ η Tryz.func120 rfl rfl ?_
  refine γ.cH hh rfl ⟨.refl _,trivial⟩ ?_
  rintro r ⟨b,rfl,hb⟩
  refine U (fun c2=> ?_) (fun c2=> ?_)
  ·have c2:b=false:=by simpa using c2
   refine⟨_,⟨false,rfl,⟨fun h=>(by cases h),fun h=>absurd (hb.2 (h _ dk)) (by rw[c2];decide)⟩⟩,_,_,rfl,.of_eq ?_⟩
   exact congrArg T.bool (by simp)
  ·have hb:=hb.1 (by simpa using c2)
   refine δ (n:=((i+1:Nat):Int)) (aj (n:=i+1) (by omega)) ?_
   conv=>whnf
   exact⟨⟨i+1,⟨c,fc hx hP hb⟩⟩,τ [0] rfl ⟨rfl,rfl,rfl,rfl,trivial⟩ ⟨rfl,trivial⟩,by show l.length - (i+1)<l.length - i;omega⟩
 ·have c:i=l.length:=by have:=dm c;omega
  refine⟨_,⟨true,rfl,⟨fun _=>by rw[c,List.take_length]at hP;exact hP,fun _=>rfl⟩⟩,_,_,rfl,.of_eq ?_⟩
  exact congrArg T.bool (by simp)
theorem E0(G:FuncId)(C:T)(l:List dO)(P:dO→Prop)(hl:l.length≤9223372036854775807)
 (hh:∀x∈l,ab Tryz.prog G [C,bz x] (aR (P x))):ab Tryz.prog 64 [.θ 3 (l.map bz),.fn (.func G) [C] []] (aR (∀x∈l,P x)):=by
 have fS:(l.map bz).length=l.length:=by simp
 refine ab.Γ ?_ aR.aJ
 refine γ.ξ ζ η Tryz.func64 rfl rfl ?_
 refine γ.ξ ζ η Tryz.func121 rfl rfl ?_
 refine γ.ξ ζ η Tryz.func165 rfl rfl ?_
 refine ao (fun i:Nat=>i≤l.length∧∀x∈l.take i,P x) (fun i=>⟨[(0,.t (.θ 3 (l.map bz))),(1,.fn (.func 122) [] [.ptr 0 0 0 0]),(7,.t (.int .i64 ((l.map bz).length:Int))),(8,.t (.int .i64 i))],[.box [.t (.fn (.func G) [C] [])]]⟩)
  (fun i=>l.length - i) 0 ⟨Nat.zero_le _,by simp⟩ ?_ (fun i hi=> ?_)
 ·exact aM ⟨rfl,rfl,rfl,rfl,trivial⟩ rfl
 obtain⟨hi,hP⟩:=hi
 refine U (fun c=> ?_) (fun c=> ?_)
 ·have c:i<l.length:=by have:=de c;omega
  obtain⟨x,hx,dk⟩:=get_some (R:=l) (i:=i) c
  have hh:=hh x dk
  refine ν (show(l.map bz)[((i:Nat):Int).toNat]?=some (bz x)from by rw[Int.toNat_natCast,List.getElem?_map,hx];rfl) ?_
  refine γ.ξ ζ η Tryz.func122 rfl rfl ?_
  refine γ.cH hh rfl ⟨.refl _,.refl _,trivial⟩ ?_
  rintro r ⟨b,rfl,hb⟩
  refine U (fun c2=> ?_) (fun c2=> ?_)
  ·have c2:b=false:=by simpa using c2
   refine⟨_,⟨false,rfl,⟨fun h=>(by cases h),fun h=>absurd (hb.2 (h _ dk)) (by rw[c2];decide)⟩⟩,_,_,rfl,.of_eq ?_⟩
   exact congrArg T.bool (by simp)
  ·have hb:=hb.1 (by simpa using c2)
   refine δ (n:=((i+1:Nat):Int)) (aj (n:=i+1) (by omega)) ?_
   conv=>whnf
   exact⟨⟨i+1,⟨c,fc hx hP hb⟩⟩,τ [0] rfl ⟨rfl,rfl,rfl,rfl,trivial⟩ ⟨rfl,trivial⟩,by show l.length - (i+1)<l.length - i;omega⟩
 ·have c:i=l.length:=by have:=dm c;omega
  refine⟨_,⟨true,rfl,⟨fun _=>by rw[c,List.take_length]at hP;exact hP,fun _=>rfl⟩⟩,_,_,rfl,.of_eq ?_⟩
  exact congrArg T.bool (by simp)
theorem EZ(G:FuncId)(C:T)(l:List cg)(P:cg→Prop)(hl:l.length≤9223372036854775807)
 (hh:∀x∈l,ab Tryz.prog G [C,aF x] (aR (P x))):ab Tryz.prog 66 [.θ 7 (l.map aF),.fn (.func G) [C] []] (aR (∀x∈l,P x)):=by
 have fS:(l.map aF).length=l.length:=by simp
 refine ab.Γ ?_ aR.aJ
 refine γ.ξ ζ η Tryz.func66 rfl rfl ?_
 refine γ.ξ ζ η Tryz.func123 rfl rfl ?_
 refine γ.ξ ζ η Tryz.func166 rfl rfl ?_
 refine ao (fun i:Nat=>i≤l.length∧∀x∈l.take i,P x) (fun i=>⟨[(0,.t (.θ 7 (l.map aF))),(1,.fn (.func 124) [] [.ptr 0 0 0 0]),(7,.t (.int .i64 ((l.map aF).length:Int))),(8,.t (.int .i64 i))],[.box [.t (.fn (.func G) [C] [])]]⟩)
  (fun i=>l.length - i) 0 ⟨Nat.zero_le _,by simp⟩ ?_ (fun i hi=> ?_)
 ·exact aM ⟨rfl,rfl,rfl,rfl,trivial⟩ rfl
 obtain⟨hi,hP⟩:=hi
 refine U (fun c=> ?_) (fun c=> ?_)
 ·have c:i<l.length:=by have:=de c;omega
  obtain⟨x,hx,dk⟩:=get_some (R:=l) (i:=i) c
  have hh:=hh x dk
  refine ν (show(l.map aF)[((i:Nat):Int).toNat]?=some (aF x)from by rw[Int.toNat_natCast,List.getElem?_map,hx];rfl) ?_
  refine γ.ξ ζ η Tryz.func124 rfl rfl ?_
  refine γ.cH hh rfl ⟨.refl _,.refl _,trivial⟩ ?_
  rintro r ⟨b,rfl,hb⟩
  refine U (fun c2=> ?_) (fun c2=> ?_)
  ·have c2:b=false:=by simpa using c2
   refine⟨_,⟨false,rfl,⟨fun h=>(by cases h),fun h=>absurd (hb.2 (h _ dk)) (by rw[c2];decide)⟩⟩,_,_,rfl,.of_eq ?_⟩
   exact congrArg T.bool (by simp)
  ·have hb:=hb.1 (by simpa using c2)
   refine δ (n:=((i+1:Nat):Int)) (aj (n:=i+1) (by omega)) ?_
   conv=>whnf
   exact⟨⟨i+1,⟨c,fc hx hP hb⟩⟩,τ [0] rfl ⟨rfl,rfl,rfl,rfl,trivial⟩ ⟨rfl,trivial⟩,by show l.length - (i+1)<l.length - i;omega⟩
 ·have c:i=l.length:=by have:=dm c;omega
  refine⟨_,⟨true,rfl,⟨fun _=>by rw[c,List.take_length]at hP;exact hP,fun _=>rfl⟩⟩,_,_,rfl,.of_eq ?_⟩
  exact congrArg T.bool (by simp)
theorem IK(G:FuncId)(D0:T)(l:List cP)(P:cP→Prop)(hl:l.length≤9223372036854775807)
 (hh:∀x∈l,ab Tryz.prog G [Λ x,D0] (aR (P x))):ab Tryz.prog 103 [.θ 2 (l.map Λ),.fn (.func G) [] [D0]] (aR (∀x∈l,P x)):=by
 have fS:(l.map Λ).length=l.length:=by simp
 refine ab.Γ ?_ aR.aJ
 refine γ.ξ ζ η Tryz.func103 rfl rfl ?_
 refine γ.ξ ζ η Tryz.func79 rfl rfl ?_
 refine γ.ξ ζ η Tryz.func129 rfl rfl ?_
 refine ao (fun i:Nat=>i≤l.length∧∀x∈l.take i,P x) (fun i=>⟨[(0,.t (.θ 2 (l.map Λ))),(1,.fn (.func 152) [] [.ptr 0 0 0 0]),(7,.t (.int .i64 ((l.map Λ).length:Int))),(8,.t (.int .i64 i))],[.box [.t (.fn (.func G) [] [D0])]]⟩)
  (fun i=>l.length - i) 0 ⟨Nat.zero_le _,by simp⟩ ?_ (fun i hi=> ?_)
 ·exact aM ⟨rfl,rfl,rfl,rfl,trivial⟩ rfl
 obtain⟨hi,hP⟩:=hi
 refine U (fun c=> ?_) (fun c=> ?_)
 ·have c:i<l.length:=by have:=de c;omega
  obtain⟨x,hx,dk⟩:=get_some (R:=l) (i:=i) c
  have hh:=hh x dk
  refine ν (show(l.map Λ)[((i:Nat):Int).toNat]?=some (Λ x)from by rw[Int.toNat_natCast,List.getElem?_map,hx];rfl) ?_
  refine γ.ξ ζ η Tryz.func152 rfl rfl ?_
  refine γ.cH hh rfl ⟨.refl _,.refl _,trivial⟩ ?_
  rintro r ⟨b,rfl,hb⟩
  refine U (fun c2=> ?_) (fun c2=> ?_)
  ·have c2:b=false:=by simpa using c2
   refine⟨_,⟨false,rfl,⟨fun h=>(by cases h),fun h=>absurd (hb.2 (h _ dk)) (by rw[c2];decide)⟩⟩,_,_,rfl,.of_eq ?_⟩
   exact congrArg T.bool (by simp)
  ·have hb:=hb.1 (by simpa using c2)
   refine δ (n:=((i+1:Nat):Int)) (aj (n:=i+1) (by omega)) ?_
   conv=>whnf
   exact⟨⟨i+1,⟨c,fc hx hP hb⟩⟩,τ [0] rfl ⟨rfl,rfl,rfl,rfl,trivial⟩ ⟨rfl,trivial⟩,by show l.length - (i+1)<l.length - i;omega⟩
 ·have c:i=l.length:=by have:=dm c;omega
  refine⟨_,⟨true,rfl,⟨fun _=>by rw[c,List.take_length]at hP;exact hP,fun _=>rfl⟩⟩,_,_,rfl,.of_eq ?_⟩
  exact congrArg T.bool (by simp)
theorem II(G:FuncId)(C:T)(l:List jg)(P:jg→Prop)(hl:l.length≤9223372036854775807)
 (hh:∀x∈l,ab Tryz.prog G [C,eT x] (aR (P x))):ab Tryz.prog 82 [.θ 17 (l.map eT),.fn (.func G) [C] []] (aR (∀x∈l,P x)):=by
 have fS:(l.map eT).length=l.length:=by simp
 refine ab.Γ ?_ aR.aJ
 refine γ.ξ ζ η Tryz.func82 rfl rfl ?_
 refine γ.ξ ζ η Tryz.func130 rfl rfl ?_
 refine γ.ξ ζ η Tryz.func171 rfl rfl ?_
 refine ao (fun i:Nat=>i≤l.length∧∀x∈l.take i,P x) (fun i=>⟨[(0,.t (.θ 17 (l.map eT))),(1,.fn (.func 131) [] [.ptr 0 0 0 0]),(7,.t (.int .i64 ((l.map eT).length:Int))),(8,.t (.int .i64 i))],[.box [.t (.fn (.func G) [C] [])]]⟩)
  (fun i=>l.length - i) 0 ⟨Nat.zero_le _,by simp⟩ ?_ (fun i hi=> ?_)
 ·exact aM ⟨rfl,rfl,rfl,rfl,trivial⟩ rfl
 obtain⟨hi,hP⟩:=hi
 refine U (fun c=> ?_) (fun c=> ?_)
 ·have c:i<l.length:=by have:=de c;omega
  obtain⟨x,hx,dk⟩:=get_some (R:=l) (i:=i) c
  have hh:=hh x dk
  refine ν (show(l.map eT)[((i:Nat):Int).toNat]?=some (eT x)from by rw[Int.toNat_natCast,List.getElem?_map,hx];rfl) ?_
  refine γ.ξ ζ η Tryz.func131 rfl rfl ?_
  refine γ.cH hh rfl ⟨.refl _,.refl _,trivial⟩ ?_
  rintro r ⟨b,rfl,hb⟩
  refine U (fun c2=> ?_) (fun c2=> ?_)
  ·have c2:b=false:=by simpa using c2
   refine⟨_,⟨false,rfl,⟨fun h=>(by cases h),fun h=>absurd (hb.2 (h _ dk)) (by rw[c2];decide)⟩⟩,_,_,rfl,.of_eq ?_⟩
   exact congrArg T.bool (by simp)
  ·have hb:=hb.1 (by simpa using c2)
   refine δ (n:=((i+1:Nat):Int)) (aj (n:=i+1) (by omega)) ?_
   conv=>whnf
   exact⟨⟨i+1,⟨c,fc hx hP hb⟩⟩,τ [0] rfl ⟨rfl,rfl,rfl,rfl,trivial⟩ ⟨rfl,trivial⟩,by show l.length - (i+1)<l.length - i;omega⟩
 ·have c:i=l.length:=by have:=dm c;omega
  refine⟨_,⟨true,rfl,⟨fun _=>by rw[c,List.take_length]at hP;exact hP,fun _=>rfl⟩⟩,_,_,rfl,.of_eq ?_⟩
  exact congrArg T.bool (by simp)
theorem IF(G:FuncId)(D0:T)(l:List qm)(P:qm→Prop)(hl:l.length≤9223372036854775807)
 (hh:∀x∈l,ab Tryz.prog G [gf x,D0] (aR (P x))):ab Tryz.prog 84 [.θ 4 (l.map gf),.fn (.func G) [] [D0]] (aR (∀x∈l,P x)):=by
 have fS:(l.map gf).length=l.length:=by simp
 refine ab.Γ ?_ aR.aJ
 refine γ.ξ ζ η Tryz.func84 rfl rfl ?_
 refine γ.ξ ζ η Tryz.func134 rfl rfl ?_
 refine γ.ξ ζ η Tryz.func172 rfl rfl ?_
 refine ao (fun i:Nat=>i≤l.length∧∀x∈l.take i,P x) (fun i=>⟨[(0,.t (.θ 4 (l.map gf))),(1,.fn (.func 135) [] [.ptr 0 0 0 0]),(7,.t (.int .i64 ((l.map gf).length:Int))),(8,.t (.int .i64 i))],[.box [.t (.fn (.func G) [] [D0])]]⟩)
  (fun i=>l.length - i) 0 ⟨Nat.zero_le _,by simp⟩ ?_ (fun i hi=> ?_)
 ·exact aM ⟨rfl,rfl,rfl,rfl,trivial⟩ rfl
 obtain⟨hi,hP⟩:=hi
 refine U (fun c=> ?_) (fun c=> ?_)
 ·have c:i<l.length:=by have:=de c;omega
  obtain⟨x,hx,dk⟩:=get_some (R:=l) (i:=i) c
  have hh:=hh x dk
  refine ν (show(l.map gf)[((i:Nat):Int).toNat]?=some (gf x)from by rw[Int.toNat_natCast,List.getElem?_map,hx];rfl) ?_
  refine γ.ξ ζ η Tryz.func135 rfl rfl ?_
  refine γ.cH hh rfl ⟨.refl _,.refl _,trivial⟩ ?_
  rintro r ⟨b,rfl,hb⟩
  refine U (fun c2=> ?_) (fun c2=> ?_)
  ·have c2:b=false:=by simpa using c2
   refine⟨_,⟨false,rfl,⟨fun h=>(by cases h),fun h=>absurd (hb.2 (h _ dk)) (by rw[c2];decide)⟩⟩,_,_,rfl,.of_eq ?_⟩
   exact congrArg T.bool (by simp)
  ·have hb:=hb.1 (by simpa using c2)
   refine δ (n:=((i+1:Nat):Int)) (aj (n:=i+1) (by omega)) ?_
   conv=>whnf
   exact⟨⟨i+1,⟨c,fc hx hP hb⟩⟩,τ [0] rfl ⟨rfl,rfl,rfl,rfl,trivial⟩ ⟨rfl,trivial⟩,by show l.length - (i+1)<l.length - i;omega⟩
 ·have c:i=l.length:=by have:=dm c;omega
  refine⟨_,⟨true,rfl,⟨fun _=>by rw[c,List.take_length]at hP;exact hP,fun _=>rfl⟩⟩,_,_,rfl,.of_eq ?_⟩
  exact congrArg T.bool (by simp)
theorem AN(G:FuncId)(D0:T)(l:List eD)(P:eD→Prop)(hl:l.length≤9223372036854775807)
 (hh:∀x∈l,ab Tryz.prog G [cX x,D0] (aR (P x))):ab Tryz.prog 85 [.θ 3 (l.map cX),.fn (.func G) [] [D0]] (aR (∀x∈l,P x)):=by
 have fS:(l.map cX).length=l.length:=by simp
 refine ab.Γ ?_ aR.aJ
 refine γ.ξ ζ η Tryz.func85 rfl rfl ?_
 refine γ.ξ ζ η Tryz.func136 rfl rfl ?_
 refine γ.ξ ζ η Tryz.func173 rfl rfl ?_
 refine ao (fun i:Nat=>i≤l.length∧∀x∈l.take i,P x) (fun i=>⟨[(0,.t (.θ 3 (l.map cX))),(1,.fn (.func 137) [] [.ptr 0 0 0 0]),(7,.t (.int .i64 ((l.map cX).length:Int))),(8,.t (.int .i64 i))],[.box [.t (.fn (.func G) [] [D0])]]⟩)
  (fun i=>l.length - i) 0 ⟨Nat.zero_le _,by simp⟩ ?_ (fun i hi=> ?_)
 ·exact aM ⟨rfl,rfl,rfl,rfl,trivial⟩ rfl
 obtain⟨hi,hP⟩:=hi
 refine U (fun c=> ?_) (fun c=> ?_)
 ·have c:i<l.length:=by have:=de c;omega
  obtain⟨x,hx,dk⟩:=get_some (R:=l) (i:=i) c
  have hh:=hh x dk
  refine ν (show(l.map cX)[((i:Nat):Int).toNat]?=some (cX x)from by rw[Int.toNat_natCast,List.getElem?_map,hx];rfl) ?_
  refine γ.ξ ζ η Tryz.func137 rfl rfl ?_
  refine γ.cH hh rfl ⟨.refl _,.refl _,trivial⟩ ?_
  rintro r ⟨b,rfl,hb⟩
  refine U (fun c2=> ?_) (fun c2=> ?_)
  ·have c2:b=false:=by simpa using c2
   refine⟨_,⟨false,rfl,⟨fun h=>(by cases h),fun h=>absurd (hb.2 (h _ dk)) (by rw[c2];decide)⟩⟩,_,_,rfl,.of_eq ?_⟩
   exact congrArg T.bool (by simp)
  ·have hb:=hb.1 (by simpa using c2)
   refine δ (n:=((i+1:Nat):Int)) (aj (n:=i+1) (by omega)) ?_
   conv=>whnf
   exact⟨⟨i+1,⟨c,fc hx hP hb⟩⟩,τ [0] rfl ⟨rfl,rfl,rfl,rfl,trivial⟩ ⟨rfl,trivial⟩,by show l.length - (i+1)<l.length - i;omega⟩
 ·have c:i=l.length:=by have:=dm c;omega
  refine⟨_,⟨true,rfl,⟨fun _=>by rw[c,List.take_length]at hP;exact hP,fun _=>rfl⟩⟩,_,_,rfl,.of_eq ?_⟩
  exact congrArg T.bool (by simp)
theorem EY(G:FuncId)(D0:T)(l:List kZ)(P:kZ→Prop)(hl:l.length≤9223372036854775807)
 (hh:∀x∈l,ab Tryz.prog G [dv x,D0] (aR (P x))):ab Tryz.prog 86 [.θ 3 (l.map dv),.fn (.func G) [] [D0]] (aR (∀x∈l,P x)):=by
 have fS:(l.map dv).length=l.length:=by simp
 refine ab.Γ ?_ aR.aJ
 refine γ.ξ ζ η Tryz.func86 rfl rfl ?_
 refine γ.ξ ζ η Tryz.func138 rfl rfl ?_
 refine γ.ξ ζ η Tryz.func174 rfl rfl ?_
 refine ao (fun i:Nat=>i≤l.length∧∀x∈l.take i,P x) (fun i=>⟨[(0,.t (.θ 3 (l.map dv))),(1,.fn (.func 139) [] [.ptr 0 0 0 0]),(7,.t (.int .i64 ((l.map dv).length:Int))),(8,.t (.int .i64 i))],[.box [.t (.fn (.func G) [] [D0])]]⟩)
  (fun i=>l.length - i) 0 ⟨Nat.zero_le _,by simp⟩ ?_ (fun i hi=> ?_)
 ·exact aM ⟨rfl,rfl,rfl,rfl,trivial⟩ rfl
 obtain⟨hi,hP⟩:=hi
 refine U (fun c=> ?_) (fun c=> ?_)
 ·have c:i<l.length:=by have:=de c;omega
  obtain⟨x,hx,dk⟩:=get_some (R:=l) (i:=i) c
  have hh:=hh x dk
  refine ν (show(l.map dv)[((i:Nat):Int).toNat]?=some (dv x)from by rw[Int.toNat_natCast,List.getElem?_map,hx];rfl) ?_
  refine γ.ξ ζ η Tryz.func139 rfl rfl ?_
  refine γ.cH hh rfl ⟨.refl _,.refl _,trivial⟩ ?_
  rintro r ⟨b,rfl,hb⟩
  refine U (fun c2=> ?_) (fun c2=> ?_)
  ·have c2:b=false:=by simpa using c2
   refine⟨_,⟨false,rfl,⟨fun h=>(by cases h),fun h=>absurd (hb.2 (h _ dk)) (by rw[c2];decide)⟩⟩,_,_,rfl,.of_eq ?_⟩
   exact congrArg T.bool (by simp)
  ·have hb:=hb.1 (by simpa using c2)
   refine δ (n:=((i+1:Nat):Int)) (aj (n:=i+1) (by omega)) ?_
   conv=>whnf
   exact⟨⟨i+1,⟨c,fc hx hP hb⟩⟩,τ [0] rfl ⟨rfl,rfl,rfl,rfl,trivial⟩ ⟨rfl,trivial⟩,by show l.length - (i+1)<l.length - i;omega⟩
 ·have c:i=l.length:=by have:=dm c;omega
  refine⟨_,⟨true,rfl,⟨fun _=>by rw[c,List.take_length]at hP;exact hP,fun _=>rfl⟩⟩,_,_,rfl,.of_eq ?_⟩
  exact congrArg T.bool (by simp)
theorem xD(G:FuncId)(D0:T)(D1:T)(l:List T)(P:T→Prop)(hl:l.length≤9223372036854775807)(ht:∀x∈l,aX x)
 (hh:∀x∈l,ab Tryz.prog G [x,D0,D1] (aR (P x))):ab Tryz.prog 24 [.θ 5 l,.fn (.func G) [] [D0,D1]] (aR (∀x∈l,P x)):=by
 have fS:l.length=l.length:=by simp
 refine ab.Γ ?_ aR.aJ
 refine γ.ξ ζ η Tryz.func24 rfl rfl ?_
 refine γ.ξ ζ η Tryz.func69 rfl rfl ?_
 refine γ.ξ ζ η Tryz.func125 rfl rfl ?_
 refine ao (fun i:Nat=>i≤l.length∧∀x∈l.take i,P x) (fun i=>⟨[(0,.t (.θ 5 l)),(1,.fn (.func 70) [] [.ptr 0 0 0 0]),(7,.t (.int .i64 (l.length:Int))),(8,.t (.int .i64 i))],[.box [.t (.fn (.func G) [] [D0,D1])]]⟩)
  (fun i=>l.length - i) 0 ⟨Nat.zero_le _,by simp⟩ ?_ (fun i hi=> ?_)
 ·exact aM ⟨rfl,rfl,rfl,rfl,trivial⟩ rfl
 obtain⟨hi,hP⟩:=hi
 refine U (fun c=> ?_) (fun c=> ?_)
 ·have c:i<l.length:=by have:=de c;omega
  obtain⟨x,hx,dk⟩:=get_some (R:=l) (i:=i) c
  have hh:=hh x dk
  have rA:=ht x dk
  cases rA with|mk op wd a b ks _ _ _ _ _ _=>
  refine ν (show l[((i:Nat):Int).toNat]?=some (.agg [.int .i64 op,.int .i64 wd,.int .i64 a,.int .i64 b,.θ 5 ks])from by rw[Int.toNat_natCast,hx]) ?_
  refine γ.ξ ζ η Tryz.func70 rfl rfl ?_
  refine γ.cH hh rfl ⟨.refl _,.refl _,.refl _,trivial⟩ ?_
  rintro r ⟨b,rfl,hb⟩
  refine U (fun c2=> ?_) (fun c2=> ?_)
  ·have c2:b=false:=by simpa using c2
   refine⟨_,⟨false,rfl,⟨fun h=>(by cases h),fun h=>absurd (hb.2 (h _ dk)) (by rw[c2];decide)⟩⟩,_,_,rfl,.of_eq ?_⟩
   exact congrArg T.bool (by simp)
  ·have hb:=hb.1 (by simpa using c2)
   refine δ (n:=((i+1:Nat):Int)) (aj (n:=i+1) (by omega)) ?_
   conv=>whnf
   exact⟨⟨i+1,⟨c,fc hx hP hb⟩⟩,τ [0] rfl ⟨rfl,rfl,rfl,rfl,trivial⟩ ⟨rfl,trivial⟩,by show l.length - (i+1)<l.length - i;omega⟩
 ·have c:i=l.length:=by have:=dm c;omega
  refine⟨_,⟨true,rfl,⟨fun _=>by rw[c,List.take_length]at hP;exact hP,fun _=>rfl⟩⟩,_,_,rfl,.of_eq ?_⟩
  exact congrArg T.bool (by simp)
theorem FF(G:FuncId)(l:List T)(P:T→Prop)(hl:l.length≤9223372036854775807)(ht:∀x∈l,aX x)
 (hh:∀x∈l,ab Tryz.prog G [x] (aR (P x))):ab Tryz.prog 24 [.θ 5 l,.fn (.func G) [] []] (aR (∀x∈l,P x)):=by
 have fS:l.length=l.length:=by simp
 refine ab.Γ ?_ aR.aJ
 refine γ.ξ ζ η Tryz.func24 rfl rfl ?_
 refine γ.ξ ζ η Tryz.func69 rfl rfl ?_
 refine γ.ξ ζ η Tryz.func125 rfl rfl ?_
 refine ao (fun i:Nat=>i≤l.length∧∀x∈l.take i,P x) (fun i=>⟨[(0,.t (.θ 5 l)),(1,.fn (.func 70) [] [.ptr 0 0 0 0]),(7,.t (.int .i64 (l.length:Int))),(8,.t (.int .i64 i))],[.box [.t (.fn (.func G) [] [])]]⟩)
  (fun i=>l.length - i) 0 ⟨Nat.zero_le _,by simp⟩ ?_ (fun i hi=> ?_)
 ·exact aM ⟨rfl,rfl,rfl,rfl,trivial⟩ rfl
 obtain⟨hi,hP⟩:=hi
 refine U (fun c=> ?_) (fun c=> ?_)
 ·have c:i<l.length:=by have:=de c;omega
  obtain⟨x,hx,dk⟩:=get_some (R:=l) (i:=i) c
  have hh:=hh x dk
  have rA:=ht x dk
  cases rA with|mk op wd a b ks _ _ _ _ _ _=>
  refine ν (show l[((i:Nat):Int).toNat]?=some (.agg [.int .i64 op,.int .i64 wd,.int .i64 a,.int .i64 b,.θ 5 ks])from by rw[Int.toNat_natCast,hx]) ?_
  refine γ.ξ ζ η Tryz.func70 rfl rfl ?_
  refine γ.cH hh rfl ⟨.refl _,trivial⟩ ?_
  rintro r ⟨b,rfl,hb⟩
  refine U (fun c2=> ?_) (fun c2=> ?_)
  ·have c2:b=false:=by simpa using c2
   refine⟨_,⟨false,rfl,⟨fun h=>(by cases h),fun h=>absurd (hb.2 (h _ dk)) (by rw[c2];decide)⟩⟩,_,_,rfl,.of_eq ?_⟩
   exact congrArg T.bool (by simp)
  ·have hb:=hb.1 (by simpa using c2)
   refine δ (n:=((i+1:Nat):Int)) (aj (n:=i+1) (by omega)) ?_
   conv=>whnf
   exact⟨⟨i+1,⟨c,fc hx hP hb⟩⟩,τ [0] rfl ⟨rfl,rfl,rfl,rfl,trivial⟩ ⟨rfl,trivial⟩,by show l.length - (i+1)<l.length - i;omega⟩
 ·have c:i=l.length:=by have:=dm c;omega
  refine⟨_,⟨true,rfl,⟨fun _=>by rw[c,List.take_length]at hP;exact hP,fun _=>rfl⟩⟩,_,_,rfl,.of_eq ?_⟩
  exact congrArg T.bool (by simp)
end Go.Proofs.YtcogcbplmkcojaaGreatDoor
