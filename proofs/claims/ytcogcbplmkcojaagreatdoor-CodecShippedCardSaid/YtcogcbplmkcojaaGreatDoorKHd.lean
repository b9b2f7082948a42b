/-
  The rest of a description: relocations, uses, relaxings, macros.
-/
import Derived.Test.YtcogcbplmkcojaaGreatDoorKHc
namespace Go.Proofs.YtcogcbplmkcojaaGreatDoor
open Go.IntWalk
set_option maxRecDepth 100000
set_option linter.unusedVariables false
set_option linter.unusedSimpArgs false
set_option maxHeartbeats 1000000
def nM(d:ο):T:= .bg [.str d.name,.int .i64 d.order,.θ 4 (d.files.map ec),.θ 3 (d.ag.map bz),.θ 1 (d.flags.map T.str),.θ 7 (d.classes.map aF),.θ 5 (d.forms.map ah),.θ 17 (d.aw.map eT),.θ 4 (d.uses.map gf),.θ 3 (d.av.map cX),.θ 3 (d.macros.map dv),.θ 2 (d.aT.map fK),.θ 3 (d.aQ.map bz)]
def w5(d:ο)(x:qm):Prop:=(0≤x.aU∧x.aU<d.classes.length)∧1<gP d x.rel∧(gP d x.rel=3→∃y,bQ d.aw x.rel=some y∧y.aU=x.aU)
def xa(d:ο)(x:kZ):Prop:=x.rel= -1∨1<gP d x.rel
def kW(d:ο)(x:eD):Prop:=gP d x.rel=4∧gP d x.to=3∧∃fm,bQ d.forms x.form=some fm∧∃y,bQ d.aw x.to=some y∧∃a∈fm.args,a.aU=y.aU
structure zH(d:ο):Prop where
 aw:∀x∈d.aw,fZ d x
 uses:∀x∈d.uses,w5 d x
 av:∀x∈d.av,kW d x
 macros:∀x∈d.macros,xa d x
theorem Qm(d:ο)(x:qm):ab Tryz.prog 76 [gf x,nM d] (aR (w5 d x)):=by
 have hk:=se d x.rel
 obtain⟨k,Lb⟩:∃k,k=gP d x.rel:=⟨_,rfl⟩
 have hU:w5 d x↔(0≤x.aU∧x.aU<d.classes.length)∧1<k∧(k=3→∃y,bQ d.aw x.rel=some y∧y.aU=x.aU):=by rw[Lb];exact Iff.rfl
 rw[←Lb]at hk
 refine ab.Γ ?_ aR.aJ
 refine γ.ξ ζ η Tryz.func76 rfl rfl ?_
 refine γ.pure hk rfl ?_
 refine υ Nb (by decide+kernel) ?_
 refine γ.pure (cJ _ _) rfl ?_
 refine And.intro (fun j hj=>by first|(cases hj;done)|exact χ.append _ _ _|exact χ.refl _ _) ?_
 refine U (fun c1=> ?_) (fun c1=> ?_)
 rotate_left 1
 ·refine And.intro (fun j hj=>by first|(cases hj;done)|exact χ.append _ _ _|exact χ.refl _ _) ?_
  exact ak fun h=>p6 (show decide _=false from c1) (hU.1 h).1
 have c1:=qw (show decide _=true from c1)
 refine U (fun c2=> ?_) (fun c2=> ?_)
 rotate_left 1
 ·refine And.intro (fun j hj=>by first|(cases hj;done)|exact χ.append _ _ _|exact χ.refl _ _) ?_
  exact ak fun h=>by have:=(hU.1 h).2.1;have:=of_decide_eq_false c2;omega
 have c2:k>1:=by simpa using c2
 have hr:0≤x.rel∧x.rel<d.aw.length:=DD (by omega)
 obtain⟨y,vJ,_,hy⟩:=cQ hr
 refine U (fun c3=> ?_) (fun c3=> ?_)
 ·refine And.intro (fun j hj=>by first|(cases hj;done)|exact χ.append _ _ _|exact χ.refl _ _) ?_
  have c3:¬k=3:=by simpa using c3
  exact aZ ⟨fun _=>hU.2 ⟨c1,c2,fun h=>absurd h c3⟩,fun _=>rfl⟩
 ·have c3:k=3:=by simpa using c3
  refine ε (gW rfl hr.1) ?_
  refine ν (cu hy) ?_
  refine And.intro (fun j hj=>by first|(cases hj;done)|exact χ.append _ _ _|exact χ.refl _ _) ?_
  exact aZ ⟨fun h=>hU.2 ⟨c1,c2,fun _=>⟨y,vJ,by simpa using h⟩⟩,fun h=>by
   obtain⟨z,hz,e⟩:=(hU.1 h).2.2 c3
   cases uD vJ hz
   simpa using e⟩
theorem KH(d:ο)(x:kZ):ab Tryz.prog 81 [dv x,nM d] (aR (xa d x)):=by
 refine ab.Γ ?_ aR.aJ
 refine γ.ξ ζ η Tryz.func81 rfl rfl ?_
 refine U (fun c=> ?_) (fun c=> ?_)
 ·exact aZ ⟨fun _=> .inl (by simpa using c),fun _=>rfl⟩
 have c:¬x.rel= -1:=by simpa using c
 refine γ.pure (se d x.rel) rfl ?_
 exact aZ ⟨fun h=> .inr (by have:=of_decide_eq_true h;omega),fun h=>by
  rcases h with h|h
  ·exact absurd h c
  ·exact decide_eq_true (by omega)⟩
theorem Fm(d:ο)(x:eD)(BE:∀fm∈d.forms,fm.args.length≤9223372036854775807):ab Tryz.prog 78 [cX x,nM d] (aR (kW d x)):=by
 have cZ:=se d x.rel
 have et:=se d x.to
 obtain⟨k,Lb⟩:∃k,k=gP d x.to:=⟨_,rfl⟩
 obtain⟨k1,SU⟩:∃k,k=gP d x.rel:=⟨_,rfl⟩
 have hU:kW d x↔k1=4∧k=3∧∃fm,bQ d.forms x.form=some fm∧∃y,bQ d.aw x.to=some y∧∃a∈fm.args,a.aU=y.aU:=by rw[Lb,SU];exact Iff.rfl
 rw[←Lb]at et
 rw[←SU]at cZ
 refine ab.Γ ?_ aR.aJ
 refine γ.ξ ζ η Tryz.func78 rfl rfl ?_
 refine γ.pure cZ rfl ?_
 refine U (fun c0=> ?_) (fun c0=> ?_)
 ·exact ak fun h=>by have c0:¬k1=4:=by simpa using c0
                     exact c0 (hU.1 h).1
 have c0:k1=4:=by simpa using c0
 refine γ.pure et rfl ?_
 refine U (fun c2=> ?_) (fun c2=> ?_)
 ·exact ak fun h=>by have c2:¬k=3:=by simpa using c2
                     exact c2 (hU.1 h).2.1
 have c2:k=3:=by simpa using c2
 have hr:0≤x.to∧x.to<d.aw.length:=DD (by omega)
 obtain⟨y,vJ,_,hy⟩:=cQ hr
 refine γ.pure (cJ _ _) rfl ?_
 refine U (fun c3=> ?_) (fun c3=> ?_)
 ·exact ak fun h=>by obtain⟨_,_,fm,kv,_⟩:=hU.1 h;exact p6 (vA (show(!decide _)=true from c3)) (rO kv)
 have c3:=qw (nf (show(!decide _)=false from c3))
 obtain⟨fm,uk,Wj,kv⟩:=cQ c3
 have BE:=BE fm Wj
 have hV:kW d x↔∃a∈fm.args,a.aU=y.aU:=by
  rw[hU]
  constructor
  ·rintro⟨_,_,ZQ,h1,y2,h2,h3⟩
   cases uD uk h1
   cases uD vJ h2
   exact h3
  ·exact fun h=>⟨c0,c2,fm,uk,y,vJ,h⟩
 refine ε (gW rfl c3.1) ?_
 refine ν (cu kv) ?_
 refine γ.ξ ζ η Tryz.func79 rfl rfl ?_
 refine γ.ξ ζ η Tryz.func129 rfl rfl ?_
 refine ao (fun i:Nat=>i≤fm.args.length∧∀a∈fm.args.take i,¬a.aU=y.aU) (fun i=>⟨[(0,.t (.θ 2 (fm.args.map Λ))),(1,.fn (.func 80) [] [.t (nM d),.ptr 0 0 0 0]),(7,.t (.int .i64 ((fm.args.map Λ).length:Int))),(8,.t (.int .i64 i))],[.box [.t (.int .i64 x.rel),.t (.int .i64 x.form),.t (.int .i64 x.to)]]⟩)
  (fun i=>fm.args.length - i) 0 ⟨Nat.zero_le _,by simp⟩ ?_ (fun i ⟨hi,hP⟩=> ?_)
 ·exact aM ⟨rfl,rfl,rfl,rfl,trivial⟩ rfl
 have fS:(fm.args.map Λ).length=fm.args.length:=by simp
 refine U (fun c=> ?_) (fun c=> ?_)
 ·have c:i<fm.args.length:=by have:=de c;omega
  obtain⟨z,hz,KV⟩:=get_some (R:=fm.args) (i:=i) c
  refine ν (show(fm.args.map Λ)[((i:Nat):Int).toNat]?=some (Λ z)from by rw[Int.toNat_natCast,List.getElem?_map,hz];rfl) ?_
  refine γ.ξ ζ η Tryz.func80 rfl rfl ?_
  refine υ Na (by decide+kernel) ?_
  refine ε (gW rfl hr.1) ?_
  refine ν (cu hy) ?_
  refine And.intro (fun j hj=>by first|(cases hj;done)|exact χ.append _ _ _|exact χ.refl _ _) ?_
  refine U (fun c4=> ?_) (fun c4=> ?_)
  ·exact aZ ⟨fun _=>hV.2 ⟨z,KV,by simpa using c4⟩,fun _=>decide_eq_true (by omega)⟩
  ·have c4:¬z.aU=y.aU:=by simpa using c4
   refine δ (n:=((i+1:Nat):Int)) (aj (n:=i+1) (by omega)) ?_
   conv=>whnf
   exact⟨⟨i+1,c,fc hz hP c4⟩,τ [0] rfl ⟨rfl,rfl,rfl,rfl,trivial⟩ ⟨rfl,trivial⟩,by show fm.args.length - (i+1)<fm.args.length - i;omega⟩
 ·have c:i=fm.args.length:=by have:=dm c;omega
  rw[c,List.take_length]at hP
  exact ak fun h=>by obtain⟨a,h1,h2⟩:=hV.1 h;exact hP a h1 h2
theorem MZ(d:ο)(hd:d.ok):ab Tryz.prog 28 [ax d] (aR (zH d)):=by
 have ZH:=hd
 obtain⟨_,_,l1,o1,l2,o2,l3,o3,l4,o4,l5,o5,l6,o6,l7,o7,l8,o8,l9,o9,WO,WN,R_,WM⟩:=hd
 have hA:ab Tryz.prog 82 [.θ 17 (d.aw.map eT),.fn (.func 83) [ax d] []] (aR (∀x∈d.aw,fZ d x)):=
  II _ (ax d) d.aw (fZ d) (dY l6) fun x hx=>Qw d x (o6 x hx)
 have hB:ab Tryz.prog 84 [.θ 4 (d.uses.map gf),.fn (.func 76) [] [nM d]] (aR (∀x∈d.uses,w5 d x)):=
  IF _ (nM d) d.uses (w5 d) (dY l7) fun x hx=>Qm d x
 have hC:ab Tryz.prog 85 [.θ 3 (d.av.map cX),.fn (.func 78) [] [nM d]] (aR (∀x∈d.av,kW d x)):=
  AN _ (nM d) d.av (kW d) (dY l8) fun x hx=>Fm d x (fun fm kv=>dY (o5 fm kv).2.2.1)
 have hD:ab Tryz.prog 86 [.θ 3 (d.macros.map dv),.fn (.func 81) [] [nM d]] (aR (∀x∈d.macros,xa d x)):=
  EY _ (nM d) d.macros (xa d) (dY l9) fun x hx=>KH d x
 refine ab.Γ ?_ aR.aJ
 refine γ.ξ ζ η Tryz.func28 rfl rfl ?_
 refine γ.cH hA rfl ⟨.refl _,.refl _,trivial⟩ ?_
 rintro _ ⟨bA,rfl,pA⟩
 refine U (fun cA=> ?_) (fun cA=> ?_)
 rotate_left 1
 ·exact ak fun h=>absurd (pA.2 h.aw) (by simpa using cA)
 refine γ.wG hB rfl ⟨.refl _,.refl _,trivial⟩ aR.flat ?_
 rintro _ ⟨bB,rfl,pB⟩
 refine U (fun cB=> ?_) (fun cB=> ?_)
 rotate_left 1
 ·exact ak fun h=>absurd (pB.2 h.uses) (by simpa using cB)
 refine γ.wG hC rfl ⟨.refl _,.refl _,trivial⟩ aR.flat ?_
 rintro _ ⟨bC,rfl,pC⟩
 refine U (fun cC=> ?_) (fun cC=> ?_)
 rotate_left 1
 ·exact ak fun h=>absurd (pC.2 h.av) (by simpa using cC)
 refine γ.wG hD rfl ⟨.refl _,.refl _,trivial⟩ aR.flat ?_
 rintro _ ⟨bD,rfl,pD⟩
 exact aZ ⟨fun h=>⟨pA.1 cA,pB.1 cB,pC.1 cC,pD.1 h⟩,fun h=>pD.2 h.macros⟩
end Go.Proofs.YtcogcbplmkcojaaGreatDoor
