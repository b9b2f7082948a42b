/-
  Decode: the instruction with which bytes begin (walk).
-/
import Derived.Test.YtcogcbplmkcojaaGreatDoorKJe
namespace Go.Proofs.YtcogcbplmkcojaaGreatDoor
open Go.IntWalk
set_option maxRecDepth 100000
set_option linter.unusedVariables false
set_option linter.unusedSimpArgs false
set_option maxHeartbeats 8000000
def Nl:Ord:=(.op 0 [] (.op 1 [] (.op 2 [] (.op 3 [] (.op 4 [3,2,1,0] (.op 5 [3,2,1,0] (.op 6 [5,4,3,2,1,0] (.op 7 [5,4,3,2,1,0] (.op 8 [5,4,3,2,1,0] (.op 9 [3,2,1,0] (.op 10 [] (.op 11 [] (.op 12 [] .nil)))))))))))))
def Km:Ord:=(.op 0 [] (.op 1 [0] (.op 2 [1,0] (.op 3 [1,0] (.op 4 [1,0] (.op 5 [1,0] (.op 7 [5,4,3,2,1] (.op 8 [5,4,3,2,1] (.op 6 [8,7,0] (.op 9 [] (.op 10 [] (.op 11 [] .nil))))))))))))
def Kl:Ord:=(.op 0 [] (.op 1 [0] (.op 2 [] (.op 3 [2,1,0] (.op 4 [2,1,0] (.op 5 [2,1,0] (.op 6 [2,1,0] (.op 7 [6,5,4,3,2,1,0] (.op 8 [2,1,0] (.op 9 [2,1,0] (.op 10 [2,1,0] (.op 11 [10,9,8,7,6,5,4,3] (.op 12 [] (.op 13 [] .nil))))))))))))))
def IU(d:ο)(b:List UInt8)(r:AV):Prop:=
 (∃(i:Nat) (f:Ψ) (V:List Int),d.forms[i]?=some f∧lB d f b∧AS d f (jz b (min b.length 15)) V∧r= .aq [.t (yY i V),.t (.int .i64 (((ψ d f).length/8:Nat):Int)),.t (.int .i64 0)])∨
 ((∀(i:Nat) f,d.forms[i]?=some f→¬lB d f b)∧r= .aq [.t (yY 0 []),.t (.int .i64 0),.t (.int .i64 62)])
theorem IU.aJ{d:ο}{b:List UInt8}:∀r,IU d b r→aJ r=true:=by
 rintro r (⟨_,_,_,_,_,_,rfl⟩|⟨_,rfl⟩)<;>rfl
abbrev L3(w0 w1:Nat):AH:=[.box [.t (.int .i64 0),.t .af],.box [.t (.int .u64 ((w0:Nat):Int)),.t (.int .u64 ((w1:Nat):Int))]]
def YY(l:List Nat)(j:Nat):List Nat:=if l.contains j then[0]else[]
def dF.high:dF→Nat
 | .leaf _=>0
 | .fork _ l r=>l.high+r.high+1
theorem Fw{d:ο}{f:Ψ}(hG:bG d f){p:cE}{W:Nat→Bool}(hp:dV (ψ d f) (ψ d f).length p.m0 p.m1 p.w0 p.w1)(h:OR d f W):p.fits W:=fun q hq hm=>by
 rw[tu hp.mask (by omega)]at hm
 rw[tu hp.want (by omega)]
 obtain⟨x,hx,hl⟩:=ue hm
 rw[pF hx hl]
 have h1:=h q x hx
 rcases(hG.td hx).lit hl with e|e
 ·rw[h1.1 e];simp[e]
 ·rw[h1.2 e];simp[e]
theorem sN(d:ο)(hd:d.ok)(bn:d.classes.length≤2000000)(gn:∀k∈d.classes,k.aY.length≤2000000)(P:List cE)(root:dF)(hC:oP d P root)(b:List UInt8)(uR:b.length≤140737488355328):
 ab Tryz.prog 32 [fU d P root.t,.θ 1 (bc b)] (IU d b):=by
 have PB:(bc b).length=b.length:=List.length_map _
 obtain⟨hv,Lj⟩:∃hv,hv=min b.length 15:=⟨_,rfl⟩
 have UB:hv≤15∧hv≤b.length:=by omega
 obtain⟨cs,lS⟩:∃cs,root.t=T.bg cs:=by cases root<;>exact⟨_,rfl⟩
 rw[lS]
 refine ab.Γ ?_ IU.aJ
 refine γ.ξ ζ η Tryz.func32 rfl rfl ?_
 have hmin:(min (((bc b).length:Nat):Int) 15)=(hv:Int):=by rw[PB];omega
 obtain⟨bb,uS⟩:∃bb,bb=b.take hv:=⟨_,rfl⟩
 have Tl:(bc bb).length=hv:=by rw[uS];unfold bc;rw[List.length_map,List.length_take];omega
 have PY:((bc b).drop 0).take ((min (((bc b).length:Nat):Int) 15).toNat - 0)=bc bb:=by
  rw[hmin,Int.toNat_natCast,Nat.sub_zero,List.drop_zero,uS];unfold bc;rw[List.map_take]
 have TV:(((((bc b).drop 0).take ((min (((bc b).length:Nat):Int) 15).toNat - 0)).length:Nat):Int)=(((bc bb).length:Nat):Int):=by rw[PY]
 refine ε (show(decide (0≤min (((bc b).length:Nat):Int) 15)&&decide (min (((bc b).length:Nat):Int) 15≤(((bc b).length:Nat):Int)))=true from by rw[hmin,PB];simp;omega) ?_
 refine b_ (fun e s'=>e= .exit 0∧∃(b0:AV) (w0 w1:Nat),cF w0 w1 (jz b hv)∧s'=⟨(24,b0)::[(0,.t (fU d P (.bg cs))),(4,.ptr 0 0 0 0),(5,.t (.int .i64 0)),(6,.t (.int .i64 0)),(7,.ptr 1 0 0 0),(8,.t (.int .i64 ((hv:Nat):Int))),(21,.t (.θ 1 (bc bb))),(22,.t (.int .i64 (((bc bb).length:Nat):Int))),(23,.t (.int .i64 ((hv:Nat):Int)))],L3 w0 w1⟩) (fun zL HQ=> ?_) ?_
 ·refine ao (fun s:Nat×Nat×Nat=>s.1≤hv∧cF s.2.1 s.2.2 (jz b s.1)) (fun s=>⟨[(0,.t (fU d P (.bg cs))),(4,.ptr 0 0 0 0),(5,.t (.int .i64 0)),(6,.t (.int .i64 0)),(7,.ptr 1 0 0 0),(8,.t (.int .i64 ((hv:Nat):Int))),(21,.t (.θ 1 (bc bb))),(22,.t (.int .i64 (((bc bb).length:Nat):Int))),(23,.t (.int .i64 ((s.1:Nat):Int)))],L3 s.2.1 s.2.2⟩)
   (fun s=>hv - s.1) (0,0,0) ⟨Nat.zero_le _,cF.zero.congr fun q _=>by unfold jz;simp⟩ ?_ (fun⟨n,w0,w1⟩ ⟨hn,hB⟩=> ?_)
  ·exact τ [0,1] rfl ⟨rfl,rfl,rfl,rfl,rfl,congrArg (fun n=>some (AV.t (T.int .i64 n))) hmin,congrArg (fun l=>some (AV.t (T.θ 1 l))) PY,congrArg (fun n=>some (AV.t (T.int .i64 n))) TV,rfl,trivial⟩ ⟨rfl,rfl,trivial⟩
  have hn:n≤hv:=hn
  have hB:cF w0 w1 (jz b n):=hB
  refine U (fun c=> ?_) (fun c=> ?_)
  rotate_left 1
  ·have c:n=hv:=by have:=of_decide_eq_false c;rw[Tl]at this;have:¬(n:Int)<(hv:Int):=this;omega
   subst c
   exact HQ _ _ ⟨rfl,_,w0,w1,hB,rfl⟩
  have SI:n<hv:=by have:=of_decide_eq_true c;rw[Tl]at this;have:(n:Int)<(hv:Int):=this;omega
  obtain⟨x,hx,_⟩:=get_some (R:=b) (i:=n) (by omega)
  have Zp:x.toNat<256:=x.toNat_lt
  refine ν (show(bc bb)[((n:Nat):Int).toNat]?=some (T.int .u8 ((x.toNat:Nat):Int))from by rw[Int.toNat_natCast,uS];unfold bc;rw[List.getElem?_map,List.getElem?_take_of_lt SI,hx];rfl) ?_
  refine υ Nl (by decide+kernel) ?_
  by_cases h8:n<8
  ·skip
   obtain⟨sh,fo⟩:∃sh,sh=x.toNat*2^(8*n):=⟨_,rfl⟩
   have qE:sh<18446744073709551616:=by rw[fo];exact uC (by omega)
   have b9:=(hB.byte hx (by omega)).1 h8
   rw[←fo]at b9
   obtain⟨u,hu⟩:∃u,u=w0|||sh:=⟨_,rfl⟩
   have V7:u<18446744073709551616:=by rw[hu];exact Nat.or_lt_two_pow (n:=64) hB.1 qE
   rw[←hu]at b9
   refine ε rfl ?_
   refine δ (n:=0) (show IntKind.i64.wrap (((n:Nat):Int).tdiv 8)=0 from by rw[Int.tdiv_eq_ediv_of_nonneg (by omega),IntKind.wrap_i64];omega) ?_
   refine δ (n:=((x.toNat:Nat):Int)) (show IntKind.u64.wrap ((x.toNat:Nat):Int)=_ from by rw[IntKind.wrap_u64];omega) ?_
   refine ε rfl ?_
   refine δ (n:=((n:Nat):Int)) (show((n:Nat):Int).tmod 8=_ from by rw[Int.tmod_eq_emod_of_nonneg (by omega)];omega) ?_
   obtain⟨j8,D3⟩:∃j8,j8=8*n:=⟨_,rfl⟩
   refine δ (n:=((j8:Nat):Int)) (show IntKind.i64.wrap (((n:Nat):Int)*8)=_ from by rw[IntKind.wrap_i64];omega) ?_
   refine ε (decide_eq_true (show(0:Int)≤((j8:Nat):Int) by omega)) ?_
   refine δ (n:=((sh:Nat):Int)) (show IntKind.u64.wrap (((x.toNat:Nat):Int)*2^(min ((j8:Nat):Int).toNat IntKind.u64.bits))=_ from by
    rw[Int.toNat_natCast,Nat.min_eq_left (show j8≤IntKind.u64.bits by show _≤64;omega),←cU,←Int.natCast_mul,D3,←fo,IntKind.wrap_u64];omega) ?_
   refine δ (n:=((u:Nat):Int)) (by rw[hu];exact iq hB.1 qE) ?_
   refine And.intro (fun j hj=>by first|(cases hj;done)|exact χ.append _ _ _|exact χ.refl _ _) ?_
   refine δ (n:=((n+1:Nat):Int)) (aj (n:=n+1) (by omega)) ?_
   conv=>whnf
   exact⟨⟨(n+1,u,w1),SI,b9⟩,τ [0,1] rfl ⟨rfl,rfl,rfl,rfl,rfl,rfl,rfl,rfl,rfl,trivial⟩ ⟨rfl,rfl,trivial⟩,by show hv - (n+1)<hv - n;omega⟩
  ·obtain⟨kb,lQ⟩:∃kb,n=8+kb:=⟨n - 8,by omega⟩
   obtain⟨sh,fo⟩:∃sh,sh=x.toNat*2^(8*kb):=⟨_,rfl⟩
   have qE:sh<18446744073709551616:=by rw[fo];exact uC (by omega)
   have b9:=(hB.byte hx (by omega)).2 kb lQ
   rw[←fo]at b9
   obtain⟨u,hu⟩:∃u,u=w1|||sh:=⟨_,rfl⟩
   have V7:u<18446744073709551616:=by rw[hu];exact Nat.or_lt_two_pow (n:=64) hB.2.1 qE
   rw[←hu]at b9
   refine ε rfl ?_
   refine δ (n:=1) (show IntKind.i64.wrap (((n:Nat):Int).tdiv 8)=1 from by rw[Int.tdiv_eq_ediv_of_nonneg (by omega),IntKind.wrap_i64];omega) ?_
   refine δ (n:=((x.toNat:Nat):Int)) (show IntKind.u64.wrap ((x.toNat:Nat):Int)=_ from by rw[IntKind.wrap_u64];omega) ?_
   refine ε rfl ?_
   refine δ (n:=((kb:Nat):Int)) (show((n:Nat):Int).tmod 8=_ from by rw[Int.tmod_eq_emod_of_nonneg (by omega)];omega) ?_
   obtain⟨j8,D3⟩:∃j8,j8=8*kb:=⟨_,rfl⟩
   refine δ (n:=((j8:Nat):Int)) (show IntKind.i64.wrap (((kb:Nat):Int)*8)=_ from by rw[IntKind.wrap_i64];omega) ?_
   refine ε (decide_eq_true (show(0:Int)≤((j8:Nat):Int) by omega)) ?_
   refine δ (n:=((sh:Nat):Int)) (show IntKind.u64.wrap (((x.toNat:Nat):Int)*2^(min ((j8:Nat):Int).toNat IntKind.u64.bits))=_ from by
    rw[Int.toNat_natCast,Nat.min_eq_left (show j8≤IntKind.u64.bits by show _≤64;omega),←cU,←Int.natCast_mul,D3,←fo,IntKind.wrap_u64];omega) ?_
   refine δ (n:=((u:Nat):Int)) (by rw[hu];exact iq hB.2.1 qE) ?_
   refine And.intro (fun j hj=>by first|(cases hj;done)|exact χ.append _ _ _|exact χ.refl _ _) ?_
   refine δ (n:=((n+1:Nat):Int)) (aj (n:=n+1) (by omega)) ?_
   conv=>whnf
   exact⟨⟨(n+1,w0,u),SI,b9⟩,τ [0,1] rfl ⟨rfl,rfl,rfl,rfl,rfl,rfl,rfl,rfl,rfl,trivial⟩ ⟨rfl,rfl,trivial⟩,by show hv - (n+1)<hv - n;omega⟩
 rintro _ _ ⟨rfl,b0,w0,w1,hB,rfl⟩
 obtain⟨W,Ls⟩:∃W,W=jz b hv:=⟨_,rfl⟩
 rw[←Ls]at hB
 refine b_ (fun e s'=>e= .exit 2∧∃(b0 b1 b2 b3 b4:AV) (F:List Nat),F=root.find W∧s'=⟨(49,b0)::(48,b1)::(47,b2)::(46,b3)::(45,b4)::[(0,.t (fU d P (.bg cs))),(4,.ptr 0 0 0 0),(5,.t (.int .i64 0)),(6,.t (.int .i64 0)),(7,.ptr 1 0 0 0),(8,.t (.int .i64 ((hv:Nat):Int))),(11,.t (.bg [.int .i64 (-1),.dj,.dj,.θ 1 (aG F)]))],L3 w0 w1⟩) (fun zL HQ=> ?_) ?_
 ·refine ao (fun s:dF×List T=>s.1.ok∧s.1.find W=root.find W∧s.1.t= .bg s.2) (fun s=>⟨[(0,.t (fU d P (.bg cs))),(4,.ptr 0 0 0 0),(5,.t (.int .i64 0)),(6,.t (.int .i64 0)),(7,.ptr 1 0 0 0),(8,.t (.int .i64 ((hv:Nat):Int))),(11,.t (.bg s.2))],L3 w0 w1⟩) (fun s=>s.1.high) (root,cs) ⟨hC.finds.ok,rfl,lS⟩ ?_ (fun⟨t,ct⟩ ⟨cd,nz,Pw⟩=> ?_)
  ·exact aM ⟨rfl,rfl,rfl,rfl,rfl,rfl,rfl,trivial⟩ rfl
  have cd:t.ok:=cd
  have nz:t.find W=root.find W:=nz
  have Pw:t.t= .bg ct:=Pw
  cases t with
  |leaf F=>
   have e:ct=[.int .i64 (-1),.dj,.dj,.θ 1 (aG F)]:=by injection Pw with h;exact h.symm
   subst e
   exact HQ _ _ ⟨rfl,_,_,_,_,_,F,nz,rfl⟩
  |fork p l r=>
   obtain⟨cl,Ij⟩:∃cs,l.t=T.bg cs:=by cases l<;>exact⟨_,rfl⟩
   obtain⟨cr,Tf⟩:∃cs,r.t=T.bg cs:=by cases r<;>exact⟨_,rfl⟩
   have e:ct=[.int .i64 p,.bg cl,.bg cr,.θ 1 []]:=by injection Pw with h;rw[←h,Ij,Tf]
   subst e
   have hp:p<120:=cd.1
   have gZ:dA w0 w1 p=W p:=tu hB (by omega)
   refine bJ (fun _=>[]) Km (by decide+kernel) ?_
   cases PF:W p
   ·skip
    have eX:=kQ hB.1 hB.2.1 (show p<128 by omega) (by rw[gZ];exact PF)
    refine γ.a8 eX rfl ⟨.refl _,.refl _,trivial⟩ ?_
    refine And.intro (fun j hj=>by first|(cases hj;done)|exact χ.append _ _ _|exact χ.refl _ _) ?_
    refine And.intro (fun j hj=>by first|(cases hj;done)|exact χ.append _ _ _|exact χ.refl _ _) ?_
    conv=>whnf
    exact⟨⟨(l,cl),cd.2.1,by rw[←nz];simp[dF.find,PF],Ij⟩,aM ⟨rfl,rfl,rfl,rfl,rfl,rfl,rfl,trivial⟩ rfl,by show(l).high<(dF.fork p l r).high;simp only[dF.high];omega⟩
   ·skip
    have eX:=lr hB.1 hB.2.1 (show p<128 by omega) (by rw[gZ];exact PF)
    refine γ.a8 eX rfl ⟨.refl _,.refl _,trivial⟩ ?_
    refine And.intro (fun j hj=>by first|(cases hj;done)|exact χ.append _ _ _|exact χ.refl _ _) ?_
    refine And.intro (fun j hj=>by first|(cases hj;done)|exact χ.append _ _ _|exact χ.refl _ _) ?_
    conv=>whnf
    exact⟨⟨(r,cr),cd.2.2,by rw[←nz];simp[dF.find,PF],Tf⟩,aM ⟨rfl,rfl,rfl,rfl,rfl,rfl,rfl,trivial⟩ rfl,by show(r).high<(dF.fork p l r).high;simp only[dF.high];omega⟩
 rintro _ _ ⟨rfl,_,_,_,_,_,F,hF,rfl⟩
 have X_:(aG F).length=F.length:=by unfold aG;exact List.length_map _
 have bZ:∀(i:Nat) f,d.forms[i]?=some f→lB d f b→i∈F:=fun i f hf bx=>by
  have hG:=hC.ok.forms f (List.mem_of_getElem? hf)
  obtain⟨p,hp,_,_,j2⟩:=hC.s_ hf
  have hl:=((yf hG Lj).2 bx).2.1
  rw[←Ls]at hl
  rw[hF]
  exact hC.finds.all W i p (List.mem_range.2 (List.getElem?_eq_some_iff.1 hf).1) hp (Fw hG j2.s_ hl)
 have Y4:F.length≤9223372036854775806:=by
  have h1:=hC.finds.short W
  rw[←hF,List.length_range]at h1
  have h2:=hC.ok.parts.fl
  omega
 refine ao (fun j:Nat=>j≤F.length∧∀i∈F.take j,∀f,d.forms[i]?=some f→¬lB d f b) (fun j=>⟨[(0,.t (fU d P (.bg cs))),(4,.ptr 0 0 0 0),(5,.t (.int .i64 0)),(6,.t (.int .i64 0)),(7,.ptr 1 0 0 0),(8,.t (.int .i64 ((hv:Nat):Int))),(64,.t (.θ 1 (aG F))),(65,.t (.int .i64 (((aG F).length:Nat):Int))),(66,.t (.int .i64 ((j:Nat):Int)))],L3 w0 w1⟩)
  (fun j=>F.length - j) 0 ⟨Nat.zero_le _,fun i h=>by simp at h⟩ ?_ (fun j ⟨hj,kt⟩=> ?_)
 ·exact aM ⟨rfl,rfl,rfl,rfl,rfl,rfl,rfl,rfl,rfl,trivial⟩ rfl
 refine U (fun c=> ?_) (fun c=> ?_)
 rotate_left 1
 ·have c:j=F.length:=by have:=dm c;omega
  subst c
  refine⟨_,.inr ⟨fun i f hf bx=> ?_,rfl⟩,⟨⟨_,_,rfl,?_⟩,⟨_,_,rfl,.refl _⟩,⟨_,_,rfl,.refl _⟩,trivial⟩,rfl⟩
  ·exact kt i (by rw[List.take_length];exact bZ i f hf bx) f hf bx
  ·exact a9.sO ⟨.refl _,.af 1,trivial⟩
 have c:j<F.length:=by have:=de c;omega
 obtain⟨i,hi,XB⟩:=get_some (R:=F) (i:=j) c
 have qu:i<d.forms.length:=List.mem_range.1 (hC.finds.only W i (by rw[←hF];exact XB))
 obtain⟨f,hf,kv⟩:=get_some (R:=d.forms) (i:=i) qu
 have hG:=hC.ok.forms f kv
 obtain⟨p,hp,_,DX,j2⟩:=hC.s_ hf
 have gp:(P.map cE.t)[((i:Nat):Int).toNat]?=some p.t:=by rw[Int.toNat_natCast,List.getElem?_map,hp];rfl
 refine ν (show(aG F)[((j:Nat):Int).toNat]?=some (T.int .i64 ((i:Nat):Int))from by rw[Int.toNat_natCast];exact vB hi) ?_
 have Gj:=zr d hd bn gn P root hC i f hf w0 w1 W hB hv UB.1
 rw[lS]at Gj
 refine γ.cH Gj rfl ⟨.refl _,.refl _,.refl _,.refl _,trivial⟩ ?_
 rintro _ (⟨hn,rfl⟩|⟨V,hy,hV,rfl⟩)
 ·refine δ (n:=((j+1:Nat):Int)) (aj (n:=j+1) (by omega)) ?_
  conv=>whnf
  refine⟨⟨j+1,c,fun i' eH f' rD bx=> ?_⟩,τ [0,1] rfl ⟨rfl,rfl,rfl,rfl,rfl,rfl,rfl,rfl,rfl,trivial⟩ ⟨rfl,rfl,trivial⟩,by show F.length - (j+1)<F.length - j;omega⟩
  rw[List.take_add_one,hi]at eH
  rcases List.mem_append.1 eH with h|h
  ·exact kt i' h f' rD bx
  ·have:i'=i:=by simpa using h
   subst this
   rw[hf]at rD;cases rD
   have:=(yf hG Lj).2 bx
   rw[←Ls]at this
   exact hn this
 ·refine bJ (YY [3,4,5,6,7,8,9,10]) Kl (by decide+kernel) ?_
  refine ν gp ?_
  refine And.intro (fun j hj=>by
   simp only[List.mem_cons,List.not_mem_nil,or_false]at hj
   rcases hj with rfl|rfl|rfl|rfl|rfl|rfl|rfl|rfl<;>exact χ.set _ (List.mem_singleton.2 rfl)) ?_
  refine And.intro (fun j hj=>by first|(cases hj;done)|exact χ.append _ _ _|exact χ.refl _ _) ?_
  refine And.intro (fun j hj=>by first|(cases hj;done)|exact χ.append _ _ _|exact χ.refl _ _) ?_
  have bE:p.sz=(ψ d f).length/8:=by rw[DX,ez]
  exact⟨_,.inl ⟨i,f,V,hf,(yf hG Lj).1 (by rw[←Ls];exact hy),by rw[←Lj,←Ls];exact hV,rfl⟩,⟨⟨_,_,rfl,.refl _⟩,⟨_,_,rfl,by rw[bE];exact .refl _⟩,⟨_,_,rfl,.refl _⟩,trivial⟩,rfl⟩
end Go.Proofs.YtcogcbplmkcojaaGreatDoor
