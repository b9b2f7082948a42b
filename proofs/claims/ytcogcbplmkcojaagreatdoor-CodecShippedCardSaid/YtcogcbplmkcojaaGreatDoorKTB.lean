/-
  The ground of the walks of this seat, part TB.
-/
import Derived.Test.YtcogcbplmkcojaaGreatDoorKTa
import Derived.Test.YtcogcbplmkcojaaGreatDoorKSA
import Derived.Test.YtcogcbplmkcojaaGreatDoorKIi
import Derived.Test.YtcogcbplmkcojaaGreatDoorKJG
import Derived.Test.YtcogcbplmkcojaaGreatDoorKFb
namespace Go.Proofs.YtcogcbplmkcojaaGreatDoor
open Go.IntWalk
set_option maxRecDepth 100000
set_option linter.unusedVariables false
set_option linter.unusedSimpArgs false
set_option maxHeartbeats 1000000
theorem Ns{d:ο}(h:okB d=true):∀k∈d.classes,k.aY.length≤2000000:=by
 unfold okB at h
 simp only[Bool.and_eq_true,decide_eq_true_eq,List.all_eq_true]at h
 obtain⟨_,_,_,_,_,_,_,_,_,Ei,_⟩:=h
 intro a ha
 have k:=Ei a ha
 unfold EQ at k
 simp only[Bool.and_eq_true]at k
 obtain⟨_,_,_,_,_,_,k7,_⟩:=k
 have:=Nat.le_of_ble_eq_true k7
 omega
theorem tZ{t:List UInt8}(h:vx t=true):∃d,m9 t=some d∧d.ok∧gr d∧(∀f∈d.forms,fP f.pieces≤2000000000000)∧∀k∈d.classes,k.aY.length≤2000000:=by
 unfold vx at h
 split at h
 ·rename_i d hd
  obtain⟨h1,h2,h3,_⟩:=GK h
  unfold IA at h
  rw[Bool.and_eq_true]at h
  exact⟨d,hd,h1,h2,h3,Ns h.1⟩
 ·cases h
theorem Fh(n:Int)(hn:0≤n):∃d:ο,d.ok∧gr d∧(∀f∈d.forms,fP f.pieces≤2000000000000)∧(∀k∈d.classes,k.aY.length≤2000000)∧φ Tryz.prog 14 [.int .i64 n] (.t (ax d)):=by
 obtain⟨m,hm⟩:∃m,m=n.tmod 3:=⟨_,rfl⟩
 by_cases h0:m=0
 ·obtain⟨d,hp,hd,j3,hs,gn⟩:=tZ Qr
  refine⟨d,hd,j3,hs,gn,?_⟩
  refine φ.Γ ?_ rfl
  refine γ.ξ ζ η Tryz.func14 rfl rfl ?_
  refine ε rfl ?_
  refine δ hm.symm ?_
  refine U (fun _=> ?_) (fun c=>absurd (beq_iff_eq.2 h0) (by rw[c];decide))
  refine ε rfl ?_
  refine δ hm.symm ?_
  refine U (fun c=>absurd (eq_of_beq c) (by omega)) (fun _=> ?_)
  refine γ.pure (pb hp) rfl ?_
  exact And.intro rfl rfl
 by_cases h1:m=1
 ·obtain⟨d,hp,hd,j3,hs,gn⟩:=tZ Qq
  refine⟨d,hd,j3,hs,gn,?_⟩
  refine φ.Γ ?_ rfl
  refine γ.ξ ζ η Tryz.func14 rfl rfl ?_
  refine ε rfl ?_
  refine δ hm.symm ?_
  refine U (fun c=>absurd (eq_of_beq c) (by omega)) (fun _=> ?_)
  refine ε rfl ?_
  refine δ hm.symm ?_
  refine U (fun _=> ?_) (fun c=>absurd (beq_iff_eq.2 h1) (by rw[c];decide))
  refine γ.pure (pb hp) rfl ?_
  exact And.intro rfl rfl
 ·obtain⟨d,hp,hd,j3,hs,gn⟩:=tZ Qs
  refine⟨d,hd,j3,hs,gn,?_⟩
  refine φ.Γ ?_ rfl
  refine γ.ξ ζ η Tryz.func14 rfl rfl ?_
  refine ε rfl ?_
  refine δ hm.symm ?_
  refine U (fun c=>absurd (eq_of_beq c) (by omega)) (fun _=> ?_)
  refine ε rfl ?_
  refine δ hm.symm ?_
  refine U (fun c=>absurd (eq_of_beq c) (by omega)) (fun _=> ?_)
  refine γ.pure (pb hp) rfl ?_
  exact And.intro rfl rfl
end Go.Proofs.YtcogcbplmkcojaaGreatDoor
namespace Go.Proofs.YtcogcbplmkcojaaGreatDoor
open Go.IntWalk
set_option maxRecDepth 100000
set_option linter.unusedVariables false
set_option linter.unusedSimpArgs false
set_option maxHeartbeats 1000000
noncomputable def wW:List UInt8:=(OY Tryz.f12).headD []
noncomputable def fY:ο:=match m9 wW with|some d=>d|none=>⟨[],0,[],[],[],[],[],[],[],[],[],[],[]⟩
theorem Iz:m9 wW=some fY:=by
 have h:(match m9 wW with|some _=>true|none=>false)=true:=by decide+kernel
 unfold fY
 cases e:m9 wW with
 |some d=>rfl
 |none=>rw[e]at h;cases h
theorem Ri:fY.ok∧gr fY∧(∀f∈fY.forms,fP f.pieces≤2000000000000)∧1≤fY.forms.length:=GK (by decide+kernel)
theorem L8:fY.forms.length=1∧fY.classes.length=1∧(∀k∈fY.classes,k.aY.length=0)∧∀f,fY.forms[0]?=some f→f.args.length=1∧(ψ fY f).length=8∧(∀a,f.args[0]?=some a→nB fY a.aU 3=true)∧∀q,q<8→qb fY f [3] q=fy [23] q:=by
 have h:(Nat.beq fY.forms.length 1&&(Nat.beq fY.classes.length 1&&(fY.classes.all (fun k=>Nat.beq k.aY.length 0)&&(match fY.forms[0]?with
  |some f=>Nat.beq f.args.length 1&&(Nat.beq (ψ fY f).length 8&&((match f.args[0]?with|some a=>nB fY a.aU 3|none=>false)&&(List.range 8).all fun q=>qb fY f [3] q==fy [23] q))
  |none=>false))))=true:=by decide+kernel
 simp only[Bool.and_eq_true,List.all_eq_true]at h
 obtain⟨h1,h2,h3,h4⟩:=h
 refine⟨Nat.eq_of_beq_eq_true h1,Nat.eq_of_beq_eq_true h2,fun k hk=>Nat.eq_of_beq_eq_true (h3 k hk),fun f hf=> ?_⟩
 rw[hf]at h4
 simp only[Bool.and_eq_true,List.all_eq_true]at h4
 obtain⟨a1,a2,a3,a4⟩:=h4
 refine⟨Nat.eq_of_beq_eq_true a1,Nat.eq_of_beq_eq_true a2,fun a ha=> ?_,fun q hq=>eq_of_beq (a4 q (List.mem_range.2 hq))⟩
 rw[ha]at a3
 exact a3
theorem zt:φ Tryz.prog 12 [] (.t (.bool true)):=by
 obtain⟨hd,cd,hs,_⟩:=Ri
 obtain⟨hn,XO,Vp,hF⟩:=L8
 have hp:=pb Iz
 generalize fY=d at hd cd hs hn XO Vp hF hp
 obtain⟨f,hf,kv⟩:=get_some (R:=d.forms) (i:=0) (by omega)
 obtain⟨mS,uR,D8,N1⟩:=hF f hf
 have hG:=cd.forms f kv
 have hV:∀v∈[(3:Int)],aH v:=fun v hv=>by rw[List.mem_singleton.1 hv];exact⟨by decide,by decide⟩
 have bZ:rQ d f [3]:=fun j a v ha hv=>by
  match j,hv with
  |0,hv=>cases hv;exact D8 a ha
  |j+1,hv=>cases hv
 have DU:d.classes.length≤2000000:=by omega
 have gn:∀k∈d.classes,k.aY.length≤2000000:=fun k hk=>by have:=Vp k hk;omega
 refine φ.Γ ?_ rfl
 refine γ.ξ ζ η Tryz.func12 rfl rfl ?_
 refine γ.pure hp rfl ?_
 refine γ.cH (Dp d hd hs DU gn) rfl ⟨.refl _,trivial⟩ ?_
 rintro _ (⟨n,e,au,hv,rfl⟩|⟨P,root,_,xx,hP,nz,rfl⟩)
 ·exact absurd (hv.O0 cd).2 au
 have hC:oP d P root:=⟨cd,xx,hP,nz⟩
 refine γ.cH (xA d hd DU gn P root hC 0 ⟨by decide,by decide⟩ [3] hV) rfl ⟨.refl _,a9.sO ⟨.refl _,.vec 1 _,trivial⟩,trivial⟩ ?_
 rintro _ (⟨h1,rfl⟩|⟨i,f',e1,e2,_,K9,rfl⟩|⟨i,f',B,e1,e2,_,_,Gq,hB,rfl⟩)
 ·exact absurd mS.symm (h1 0 f rfl hf)
 ·have:i=0:=by omega
  subst this
  rw[hf]at e2;cases e2
  exact absurd bZ K9
 have:i=0:=by omega
 subst this
 rw[hf]at e2;cases e2
 obtain rfl:B=[23]:=by
  have h:=BR (B:=B) (b:=[23]) (by show B.length≤1;omega) (fun q hq=>by rw[hB q hq];exact N1 q (by omega))
  rw[h,List.take_of_length_le (by show 1≤B.length;omega)]
 have sn:=EC hG hV mS.symm bZ (more:=[9]) Gq hB
 refine γ.cH (sN d hd DU gn P root hC [23,9] (by decide)) rfl ⟨.refl _,.vec 1 _,trivial⟩ ?_
 rintro _ (⟨i2,f2,V2,Ea,za,Tt,rfl⟩|⟨kt,rfl⟩)
 rotate_left 1
 ·exact absurd sn.1 (kt _ f hf)
 obtain rfl:=BJ cd hf Ea sn.1 za
 rw[hf]at Ea;cases Ea
 obtain rfl:=sn.2 V2 Tt
 rw[uR]
 refine γ.a8 (zx [23]) rfl ⟨.refl _,.vec 1 _,trivial⟩ ?_
 exact And.intro rfl rfl
end Go.Proofs.YtcogcbplmkcojaaGreatDoor
namespace Go.Proofs.YtcogcbplmkcojaaGreatDoor
open Go.IntWalk
set_option maxRecDepth 100000
set_option linter.unusedVariables false
set_option linter.unusedSimpArgs false
set_option maxHeartbeats 1000000
theorem L9(n:Int)(hn:aH n)(b:List UInt8)(uR:b.length≤140737488355328):φ Tryz.prog 7 [.int .i64 n,.θ 1 (bc b)] (.t (.bool true)):=by
 refine φ.Γ ?_ rfl
 refine γ.ξ ζ η Tryz.func7 rfl rfl ?_
 refine γ.pure zt rfl ?_
 refine U (fun c=> ?_) (fun c=> ?_)
 ·exact And.intro rfl rfl
 have c:=of_decide_eq_false c
 obtain⟨d,hd,cd,hs,gn,ht⟩:=Fh n (by omega)
 have DU:d.classes.length≤2000000:=Nat.le_trans cd.parts.cl (by decide)
 refine γ.pure ht rfl ?_
 refine γ.iP (Dp d hd hs DU gn) rfl ?_
 rintro _ (⟨n,e,au,hv,rfl⟩|⟨P,root,_,xx,hP,nz,rfl⟩)
 ·exact absurd (hv.O0 cd).2 au
 refine γ.pure (Iq d hd DU gn P root ⟨cd,xx,hP,nz⟩ b uR) rfl ?_
 exact And.intro rfl rfl
end Go.Proofs.YtcogcbplmkcojaaGreatDoor
namespace Go.Proofs.YtcogcbplmkcojaaGreatDoor
open Go.IntWalk
set_option maxRecDepth 100000
set_option linter.unusedVariables false
set_option linter.unusedSimpArgs false
set_option maxHeartbeats 1000000
theorem OB(c0:List T)(h0:fG Tryz.prog 3 c0)(c1:List T)(h1:fG Tryz.prog 40 c1):φ Tryz.prog 7 [sx Tryz.prog 3 c0,sx Tryz.prog 40 c1] (.t (.bool true)):=by
 have e1:sx Tryz.prog 40 c1=c1.headD .dj:=by unfold sx;rw[Tryz.underlying40]
 obtain⟨n,e0,hn⟩:=QZ h0
 obtain⟨b,hb,dC⟩:∃b:List UInt8,b.length≤reachBytes∧a9 (sx Tryz.prog 40 c1) (.θ 1 (bc b)):=by
  rw[e1]
  rcases h1.T8 Tryz.underlying40 Tryz.underlying5 (by kernel_rfl) (by kernel_rfl)with rfl|⟨bs,hl,rfl⟩
  ·exact⟨[],Nat.zero_le _,.af 1⟩
  ·exact⟨bs,hl,.vec 1 _⟩
 rw[e0]
 exact(L9 n hn b (Nat.le_trans hb (by decide))).sub ⟨.refl _,dC,trivial⟩
end Go.Proofs.YtcogcbplmkcojaaGreatDoor
