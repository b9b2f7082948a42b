/-
  The bits of a form's pattern (walk).
-/
import Derived.Test.YtcogcbplmkcojaaGreatDoorKHi
namespace Go.Proofs.YtcogcbplmkcojaaGreatDoor
open Go.IntWalk
set_option maxRecDepth 100000
set_option linter.unusedVariables false
set_option linter.unusedSimpArgs false
set_option maxHeartbeats 1000000
def J7:Ord:=(.op 0 [] (.op 1 [] (.op 2 [1,0] (.op 3 [1,0] (.op 4 [1,0] (.op 5 [] (.op 6 [] (.op 7 [] (.op 8 [] (.op 9 [] (.op 10 [] (.op 11 [] (.op 12 [] (.op 13 [] (.op 14 [] (.op 15 [14,13] (.op 16 [14,13] (.op 17 [] (.op 18 [] (.op 19 [] (.op 20 [] (.op 21 [] (.op 22 [21,20] (.op 23 [21,20] (.op 24 [21,20] (.op 25 [24,23,22,21,20] (.op 26 [24,23,22,21,20] (.op 27 [26,25,24,23,22,21,20] (.op 28 [26,25,24,23,22,21,20] (.op 29 [24,23,22,21,20] (.op 30 [24,23,22,21,20] (.op 31 [24,23,22,21,20] (.op 32 [21,20] (.op 33 [21,20] (.op 34 [21,20] (.op 35 [] (.op 36 [] .nil)))))))))))))))))))))))))))))))))))))
def J6:Ord:=(.op 0 [] (.op 1 [0] (.op 2 [] (.op 3 [] (.op 4 [3,2,1,0] (.op 5 [3,2,1,0] (.op 6 [3,2,1,0] (.op 7 [6,5,4,3,2,1,0] (.op 8 [6,5,4,3,2,1,0] (.op 9 [3,2,1,0] (.op 10 [3,2,1,0] (.op 11 [3,2,1,0] (.op 12 [] .nil)))))))))))))
theorem BV(d:ο)(f:Ψ)(hd:d.ok)(hf:f.ok)(hs:fP f.pieces≤2000000000000):ab Tryz.prog 46 [ax d,ah f] (zQ d f):=by
 have hA:ab Tryz.prog 103 [.θ 2 (f.args.map Λ),.fn (.func 104) [] [nM d]] (aR (∀x∈f.args,xd d x)):=
  IK _ (nM d) f.args (xd d) (dY hf.2.2.1) fun x _=>Rp d x
 refine ab.Γ ?_ zQ.aJ
 refine γ.ξ ζ η Tryz.func46 rfl rfl ?_
 refine U (fun c1=> ?_) (fun c1=> ?_)
 ·exact mA rfl fun h=>by have:=h.args;have:=of_decide_eq_true c1;rw[List.length_map]at this;omega
 have c1:f.args.length≤6:=by have:=df c1;rw[List.length_map]at this;omega
 refine γ.wG hA rfl ⟨.refl _,.refl _,trivial⟩ aR.flat ?_
 rintro _ ⟨bA,rfl,pA⟩
 refine U (fun c2=> ?_) (fun c2=> ?_)
 ·have c2:bA=false:=by simpa using c2
  exact mA rfl fun h=>absurd (pA.2 h.uZ) (by rw[c2];decide)
 have gS:=pA.1 (by simpa using c2)
 have fS:(f.args.map Λ).length=f.args.length:=by simp
 refine ε (HH (n:=(f.args.map Λ).length) (z:=64) (by omega) (by omega)) ?_
 refine U (fun c=>absurd (of_decide_eq_true c) (by omega)) (fun _=> ?_)
 refine ε (HH (n:=(f.args.map Λ).length) (z:=8) (by omega) (by omega)) ?_
 refine U (fun c=>absurd (of_decide_eq_true c) (by omega)) (fun _=> ?_)
 have j2:(f.pieces.map eb).length=f.pieces.length:=by simp
 have kM:f.pieces.length≤9223372036854775807:=dY hf.2.2.2.2.1
 have H4:(((f.args.map Λ).length:Nat):Int).toNat=f.args.length:=by rw[Int.toNat_natCast,fS]
 have qp:List.replicate (((f.args.map Λ).length:Nat):Int).toNat (pZ (List.replicate 64 false))=(List.replicate f.args.length (List.replicate 64 false)).map pZ:=by rw[H4,List.map_replicate]
 have Sp:List.replicate (((f.args.map Λ).length:Nat):Int).toNat (T.int .i64 0)=(List.replicate f.args.length (0:Int)).map (T.int .i64):=by rw[H4,List.map_replicate]
 refine b_ (fun e s'=>(e= .exit 0∧∃(i:Nat) (B:List Θ) (S:List (List Bool)) (C:List Int),OS d f i B S C∧i=f.pieces.length∧s'=⟨[(37,.t (.bool (decide ((i:Int)<((f.pieces.map eb).length:Int))))),(2,.ptr 0 0 0 0),(3,.ptr 1 0 0 0),(5,.sl 2 0 0 B.length),(6,.sl 3 0 0 f.args.length),(7,.sl 4 0 0 f.args.length),(34,.t (.θ 4 (f.pieces.map eb))),(35,.t (.int .i64 ((f.pieces.map eb).length:Int))),(36,.t (.int .i64 i))],zy d f B S C⟩)∨
  (e= .ret∧¬bG d f∧∃env H b,s'=⟨(4,.sl b 0 0 0)::env,H⟩∧H[b]?=some (.arr m7 3 true 0 (.ts [])))) (fun Q' hq=> ?_) ?_
 ·refine ao (fun s:Nat×List Θ×List (List Bool)×List Int=>match s with|(i,B,S,C)=>OS d f i B S C) (fun s=>⟨[(2,.ptr 0 0 0 0),(3,.ptr 1 0 0 0),(5,.sl 2 0 0 s.2.1.length),(6,.sl 3 0 0 f.args.length),(7,.sl 4 0 0 f.args.length),(34,.t (.θ 4 (f.pieces.map eb))),(35,.t (.int .i64 ((f.pieces.map eb).length:Int))),(36,.t (.int .i64 s.1))],zy d f s.2.1 s.2.2.1 s.2.2.2⟩)
   (fun s=>f.pieces.length - s.1) (0,[],List.replicate f.args.length (List.replicate 64 false),List.replicate f.args.length 0)
   ⟨Nat.zero_le _,by simp,rfl,Uf,Wv,List.Pairwise.nil⟩ ?_ (fun⟨i,B,S,C⟩ hi=> ?_)
  ·exact τ [0,1,3,4,5] rfl ⟨rfl,rfl,rfl,congrArg (fun k:Nat=>some (AV.sl 3 0 0 k)) H4,congrArg (fun k:Nat=>some (AV.sl 4 0 0 k)) H4,rfl,rfl,rfl,trivial⟩ ⟨rfl,rfl,rfl,congrArg (fun l=>some (Ω.arr MP 64 false 0 (.ts l))) qp,congrArg (fun l=>some (Ω.arr tI 1 false 0 (.ts l))) Sp,trivial⟩
  have hi:OS d f i B S C:=hi
  obtain⟨hi,DY,hB,hS,hC,hD⟩:=hi
  have Gq:B.length≤fP (f.pieces.take i):=by rw[hB];exact C1 gS DY
  refine U (fun c=> ?_) (fun c=> ?_)
  ·have c:i<f.pieces.length:=by have:=de c;omega
   obtain⟨p,hp,vK⟩:=get_some (R:=f.pieces) (i:=i) c
   have iD:p.lit.length≤reachBytes:=(hf.2.2.2.2.2.1 p vK).1
   have Zt:fP (f.pieces.take (i+1))=fP (f.pieces.take i)+oz p:=Jz hp
   have Ge:bf (f.pieces.take (i+1))=B++gM p:=by rw[hB];exact A6 hp
   have Y2:oz p=p.lit.length+64:=rfl
   have hle:=Jy f.pieces (i+1)
   refine ν (show(f.pieces.map eb)[((i:Nat):Int).toNat]?=some (eb p)from by rw[Int.toNat_natCast,List.getElem?_map,hp];rfl) ?_
   refine U (fun ca=> ?_) (fun ca=> ?_)
   ·have ca:p.arg= -1:=by simpa using ca
    have qq:gM p=p.lit.map dw:=by rw[gM,if_pos ca]
    refine U (fun ce=> ?_) (fun ce=> ?_)
    ·exact hq _ _ (.inr ⟨rfl,fun h=>by
      rcases h.A8 p vK with⟨_,h2,_⟩|⟨h2,_⟩
      ·exact h2 (by simpa using ce)
      ·exact h2 ca,_,_,_,rfl,rfl⟩)
    have ce:p.lit≠[]:=by intro e;rw[e]at ce;cases ce
    refine γ.iP (Jt p.lit iD) rfl ?_
    rintro _ ⟨q,rfl,Gg,Xm,_,Xl⟩
    refine U (fun cq=> ?_) (fun cq=> ?_)
    ·exact hq _ _ (.inr ⟨rfl,fun h=>by
      obtain⟨z,hz,U5⟩:=Xl (by simpa using cq)
      rcases h.A8 p vK with⟨_,_,h2⟩|⟨h2,_⟩
      ·rw[h2 z hz]at U5;cases U5
      ·exact h2 ca,_,_,_,rfl,rfl⟩)
    have cq:q=[]:=by simpa using cq
    have fx:∀x∈p.lit,pe x=true:=fun x hx=>(Xm x hx).elim (fun h=>by rw[cq]at h;cases h) id
    refine ao (fun s:Nat×List Θ=>s.1≤p.lit.length∧s.2=B++(p.lit.take s.1).map dw) (fun s=>⟨[(9,.ptr 5 0 0 0),(54,.ptr 6 0 0 0),(2,.ptr 0 0 0 0),(3,.ptr 1 0 0 0),(5,.sl 2 0 0 s.2.length),(6,.sl 3 0 0 f.args.length),(7,.sl 4 0 0 f.args.length),(34,.t (.θ 4 (f.pieces.map eb))),(35,.t (.int .i64 ((f.pieces.map eb).length:Int))),(36,.t (.int .i64 i))],zy d f s.2 S C++[.box [.t (.str p.lit),.t (.int .i64 p.arg),.t (.int .i64 p.hi),.t (.int .i64 p.lo)],.iter p.lit s.1]⟩)
     (fun s=>p.lit.length - s.1) (0,B) ⟨Nat.zero_le _,by simp⟩ ?_ (fun⟨j,B2⟩ hj=> ?_)
    ·exact aM ⟨rfl,rfl,rfl,rfl,rfl,rfl,rfl,rfl,rfl,rfl,trivial⟩ rfl
    have hj:j≤p.lit.length∧B2=B++(p.lit.take j).map dw:=hj
    obtain⟨hj,rG⟩:=hj
    have uW:B2.length=B.length+j:=by rw[rG];simp;omega
    by_cases eQ:j<p.lit.length
    ·obtain⟨x,hx,dk⟩:=get_some (R:=p.lit) (i:=j) eQ
     have U7:=fx x dk
     have HV:x.toNat<128:=by unfold pe at U7;simp at U7;omega
     conv=>whnf
     have aC:p.lit[((j,B2):Nat×List Θ).fst]?=some x:=hx
     rw[aC]
     refine ε (show Nat.blt x.toNat 128=true from by simpa[Nat.blt_eq]using HV) ?_
     refine ν (show p.lit[((j:Nat):Int).toNat]?=some x from by rw[Int.toNat_natCast];exact hx) ?_
     refine Or.inl (And.intro (by simp[Sq.length]) (ε (LL (n:=B2.length+1) (by omega)) ?_))
     conv=>whnf
     have eR:B2.map bF++[bF (dw x)]=(B2++[dw x]).map bF:=by simp
     have eN:B2.length+1=(B2++[dw x]).length:=by simp
     exact⟨⟨(j+1,B2++[dw x]),⟨eQ,by show B2++[dw x]=B++(p.lit.take (j+1)).map dw;rw[rG,List.take_add_one,hx];simp⟩⟩,
      τ [0,1,2,3,4,5,6] rfl ⟨rfl,rfl,rfl,rfl,(show some (AV.sl 2 0 0 (B2.length+1))=some (AV.sl 2 0 0 (B2++[dw x]).length)from by rw[eN]),rfl,rfl,rfl,rfl,rfl,trivial⟩ ⟨rfl,rfl,congrArg (fun l=>some (Ω.arr m7 3 true 0 (.ts l))) eR,rfl,rfl,rfl,rfl,trivial⟩,by show p.lit.length - (j+1)<p.lit.length - j;omega⟩
    ·have eQ:j=p.lit.length:=by omega
     conv=>whnf
     have aC:p.lit[((j,B2):Nat×List Θ).fst]?=none:=List.getElem?_eq_none (by show p.lit.length≤j;omega)
     rw[aC]
     refine δ (n:=((i+1:Nat):Int)) (aj (n:=i+1) (by omega)) ?_
     conv=>whnf
     exact⟨⟨(i+1,B2,S,C),⟨c,fc hp DY (.inl ⟨ca,ce,fx⟩),by show B2=bf (f.pieces.take (i+1));rw[Ge,qq,rG,eQ,List.take_length],by rw[rG];exact hS.lit _,by rw[rG];exact hC.lit _,by rw[rG];exact hD.lit _⟩⟩,
      τ [0,1,2,3,4] rfl ⟨rfl,rfl,rfl,rfl,rfl,rfl,rfl,rfl,trivial⟩ ⟨rfl,rfl,rfl,rfl,rfl,trivial⟩,by show f.pieces.length - (i+1)<f.pieces.length - i;omega⟩
   ·have ca:¬p.arg= -1:=by simpa using ca
    refine υ J7 (by decide+kernel) ?_
    refine γ.pure (cJ _ _) rfl ?_
    refine And.intro (fun j hj=>by first|(cases hj;done)|exact χ.append _ _ _|exact χ.refl _ _) ?_
    refine U (fun c3=> ?_) (fun c3=> ?_)
    ·exact hq _ _ (.inr ⟨rfl,fun h=>by
      rcases h.A8 p vK with⟨h2,_⟩|⟨_,g,k,hg,_⟩
      ·exact ca h2
      ·exact p6 (vA c3) (mc hg),_,_,_,rfl,rfl⟩)
    have h3:=qw (nf c3)
    obtain⟨g,hg,Vl,gh⟩:=cQ h3
    obtain⟨k,hk,Wf⟩:=gS g Vl
    have bn:0≤g.aU∧g.aU<d.classes.length:=by
     by_cases h:0≤g.aU∧g.aU<d.classes.length
     ·exact h
     ·rw[g_ h]at hk;cases hk
    obtain⟨k2,et,_,lF⟩:=cQ bn
    obtain rfl:k=k2:=by rw[hk]at et;cases et;rfl
    have fx:k.bits≤64:=by rcases Wf with h|h|h<;>omega
    refine U (fun c4=> ?_) (fun c4=> ?_)
    ·exact hq _ _ (.inr ⟨rfl,fun h=>by
      have c4:p.lo<0:=by simpa using c4
      rcases h.A8 p vK with⟨h2,_⟩|⟨_,g,k,_,_,h2,h3,h4⟩
      ·exact ca h2
      ·omega,_,_,_,rfl,rfl⟩)
    have c4:¬p.lo<0:=by simpa using c4
    refine U (fun c5=> ?_) (fun c5=> ?_)
    ·exact hq _ _ (.inr ⟨rfl,fun h=>by
      have c5:p.lo>p.hi:=by simpa using c5
      rcases h.A8 p vK with⟨h2,_⟩|⟨_,g,k,_,_,h2,h3,h4⟩
      ·exact ca h2
      ·omega,_,_,_,rfl,rfl⟩)
    have c5:¬p.lo>p.hi:=by simpa using c5
    refine ε (gW rfl h3.1) ?_
    refine ν (cu gh) ?_
    refine ε (gW rfl bn.1) ?_
    refine ν (cu lF) ?_
    refine U (fun c6=> ?_) (fun c6=> ?_)
    ·exact hq _ _ (.inr ⟨rfl,fun h=>by
      have c6:p.hi≥k.bits:=by simpa using c6
      rcases h.A8 p vK with⟨h2,_⟩|⟨_,g',k',dZ,fW,h2,h3,h4⟩
      ·exact ca h2
      ·rw[hg]at dZ;cases dZ
       rw[hk]at fW;cases fW
       omega,_,_,_,rfl,rfl⟩)
    have c6:¬p.hi≥k.bits:=by simpa using c6
    have V9:oO d f p:= .inr ⟨ca,g,k,hg,hk,by omega,by omega,by omega⟩
    obtain⟨T0,Lt⟩:∃T0,T0=sZ p:=⟨_,rfl⟩
    have X0:T0=(p.hi - p.lo+1).toNat:=Lt
    have qq:gM p=dM p.arg p.hi T0:=by rw[gM,if_neg ca,Lt]
    obtain⟨ai,lH⟩:∃ai:Nat,p.arg=ai:=⟨p.arg.toNat,by omega⟩
    refine ao (fun s:Nat×List Θ×List (List Bool)×List Int=>match s with|(m,B2,S2,C2)=>(m≤T0∧B2=B++dM p.arg p.hi m∧lU S2 B2 f.args.length∧pq C2 B2 f.args.length∧nT B2)) (fun s=>⟨[(9,.ptr 5 0 0 0),(11,.t (.int .i64 (p.hi - s.1))),(2,.ptr 0 0 0 0),(3,.ptr 1 0 0 0),(5,.sl 2 0 0 s.2.1.length),(6,.sl 3 0 0 f.args.length),(7,.sl 4 0 0 f.args.length),(34,.t (.θ 4 (f.pieces.map eb))),(35,.t (.int .i64 ((f.pieces.map eb).length:Int))),(36,.t (.int .i64 i))],zy d f s.2.1 s.2.2.1 s.2.2.2++[.box [.t (.str p.lit),.t (.int .i64 p.arg),.t (.int .i64 p.hi),.t (.int .i64 p.lo)]]⟩)
     (fun s=>T0 - s.1) (0,B,S,C) ⟨Nat.zero_le _,by simp[dM],hS,hC,hD⟩ ?_ (fun⟨m,B2,S2,C2⟩ hm=> ?_)
    ·exact aM ⟨rfl,by show AV.t (T.int .i64 p.hi)=AV.t (T.int .i64 (p.hi - ((0:Nat):Int)));simp,rfl,rfl,rfl,rfl,rfl,rfl,rfl,rfl,trivial⟩ rfl
    have hm:(m≤T0∧B2=B++dM p.arg p.hi m∧lU S2 B2 f.args.length∧pq C2 B2 f.args.length∧nT B2):=hm
    obtain⟨hm,rG,Gl,PM,PL⟩:=hm
    have uW:B2.length=B.length+m:=by rw[rG,List.length_append,tY]
    have ZJ:=Gl.1
    have Ye:=PM.1
    refine U (fun c7=> ?_) (fun c7=> ?_)
    ·have c7:p.hi - (m:Int)≥p.lo:=of_decide_eq_true c7
     obtain⟨o,ho⟩:∃o:Nat,p.hi - (m:Int)=o:=⟨(p.hi - m).toNat,by omega⟩
     obtain⟨r,hr,U_⟩:=get_some (R:=S2) (i:=ai) (by omega)
     have Y8:=(Gl.2 ai r hr).1
     obtain⟨v,hv,_⟩:=get_some (R:=r) (i:=o) (by omega)
     refine ε (fu rfl h3.1 (by omega)) ?_
     refine ε (Sk (by omega) (by omega)) ?_
     conv=>whnf
     refine PR (by rfl) ?_
     refine ν (gz lH hr) ?_
     refine ν (OF ho hv) ?_
     refine U (fun c8=> ?_) (fun c8=> ?_)
     ·have c8:v=true:=by simpa using c8
      have K8:¬bG d f:=fun h=>by
       have th:=(Gl.2 ai r hr).2 o v hv
       have e1:bf f.pieces=bf (f.pieces.take (i+1))++bf (f.pieces.drop (i+1)):=by rw[←tN,List.take_append_drop]
       have e2:dM p.arg p.hi T0=dM p.arg p.hi m++([⟨0,p.arg,p.hi - (m:Int)⟩]++(dM p.arg p.hi T0).drop (m+1)):=by
        have e3:(dM p.arg p.hi T0).take (m+1)=dM p.arg p.hi (m+1):=by
         unfold dM;rw[←List.map_take,List.take_range,Nat.min_eq_left (by omega)]
        rw[←List.append_assoc,←xh,←e3,List.take_append_drop]
       obtain⟨D0,Yd⟩:∃D0,D0=(dM p.arg p.hi T0).drop (m+1):=⟨_,rfl⟩
       rw[←Yd]at e2
       have e4:bf f.pieces=(B2++[⟨0,p.arg,p.hi - (m:Int)⟩])++(D0++bf (f.pieces.drop (i+1))):=by
        rw[e1,Ge,qq,rG,e2];simp
       rw[h.ux.fresh e4 ⟨lH,ho⟩]at th
       rw[th]at c8;cases c8
      exact hq _ _ (.inr ⟨rfl,K8,_,_,_,rfl,rfl⟩)
     refine ε (fu rfl h3.1 (by omega)) ?_
     refine ε (Sk (by omega) (by omega)) ?_
     conv=>whnf
     refine PR (by rfl) ?_
     refine ν (gz lH hr) ?_
     refine ε (show(true&&Nat.ble ((0+(p.hi - (m:Int)).toNat*1)+1) (r.map T.bool).length&&true)=true from Ro ho (by omega)) ?_
     obtain⟨cv,Pv,_⟩:=get_some (R:=C2) (i:=ai) (by omega)
     have Ze:=PM.2 ai cv Pv
     have Zd:=Rk B2 ai
     refine ε (fu rfl h3.1 (by omega)) ?_
     refine ν (gz lH Pv) ?_
     refine δ (n:=cv+1) (by rw[IntKind.wrap_i64];omega) ?_
     refine ε (fu rfl h3.1 (by omega)) ?_
     refine ν (gz lH Pv) ?_
     refine Or.inl (And.intro (by simp[Sq.length]) (ε (LL (n:=B2.length+1) (by omega)) ?_))
     refine δ (n:=p.hi - ((m+1:Nat):Int)) (show IntKind.i64.wrap (p.hi - (m:Int) - 1)=_ from by have:=hf.2.2.2.2.2.1 p vK;have h1:=this.2.2.1.1;have h2:=this.2.2.1.2;rw[IntKind.wrap_i64];omega) ?_
     obtain⟨nb,SN⟩:∃nb:Θ,nb=⟨0,p.arg,p.hi - (m:Int)⟩:=⟨_,rfl⟩
     have N5:nb.arg=(ai:Int)∧nb.num=(o:Int):=by rw[SN];exact⟨lH,ho⟩
     have eR:B2.map bF++[.agg [.int .u8 0,.int .i64 p.arg,.int .i64 (p.hi - (m:Int))]]=(B2++[nb]).map bF:=by rw[SN,List.map_append];rfl
     have eN:B2.length+1=(B2++[nb]).length:=by simp
     have eS:=MV (S:=S2) (r:=r) lH ho
     have eC:=ov (C:=C2) (v:=cv+1) lH
     conv=>whnf
     exact⟨⟨(m+1,B2++[nb],S2.set ai (r.set o true),C2.set ai (cv+1)),⟨by omega,by show B2++[nb]=B++dM p.arg p.hi (m+1);rw[rG,xh,List.append_assoc,SN],Gl.op hr (by omega) N5,PM.op Pv N5.1,PL.op N5 (by rw[←(Gl.2 ai r hr).2 o v hv];simpa using c8)⟩⟩,
      τ [0,1,2,3,4,5] rfl ⟨rfl,rfl,rfl,rfl,(show some (AV.sl 2 0 0 (B2.length+1))=some (AV.sl 2 0 0 (B2++[nb]).length)from by rw[eN]),rfl,rfl,rfl,rfl,rfl,trivial⟩ ⟨rfl,rfl,congrArg (fun l=>some (Ω.arr m7 3 true 0 (.ts l))) eR,congrArg (fun l=>some (Ω.arr MP 64 false 0 (.ts l))) eS,congrArg (fun l=>some (Ω.arr tI 1 false 0 (.ts l))) eC,rfl,trivial⟩,by show T0 - (m+1)<T0 - m;omega⟩
    ·have c7:¬p.hi - (m:Int)≥p.lo:=of_decide_eq_false c7
     refine δ (n:=((i+1:Nat):Int)) (aj (n:=i+1) (by omega)) ?_
     conv=>whnf
     exact⟨⟨(i+1,B2,S2,C2),⟨c,fc hp DY V9,by show B2=bf (f.pieces.take (i+1));rw[Ge,qq,rG,show m=T0 by omega],Gl,PM,PL⟩⟩,
      τ [0,1,2,3,4] rfl ⟨rfl,rfl,rfl,rfl,rfl,rfl,rfl,rfl,trivial⟩ ⟨rfl,rfl,rfl,rfl,rfl,trivial⟩,by show f.pieces.length - (i+1)<f.pieces.length - i;omega⟩
  ·have c:i=f.pieces.length:=by have:=dm c;omega
   exact hq _ _ (.inl ⟨rfl,i,B,S,C,⟨hi,DY,hB,hS,hC,hD⟩,c,rfl⟩)
 rintro _ _ (⟨rfl,i,B,S,C,⟨hi,DY,hB,hS,hC,hD⟩,Li,rfl⟩|⟨rfl,K8,env,H,b,rfl,hb⟩)
 ·have Ye:=hC.1
  refine ao (fun j:Nat=>j≤f.args.length∧∀i a k,i<j→f.args[i]?=some a→bQ d.classes a.aU=some k→(oL B i:Int)=k.bits) (fun j=>⟨[(2,.ptr 0 0 0 0),(3,.ptr 1 0 0 0),(5,.sl 2 0 0 B.length),(7,.sl 4 0 0 f.args.length),(140,.t (.θ 2 (f.args.map Λ))),(141,.t (.int .i64 ((f.args.map Λ).length:Int))),(142,.t (.int .i64 j))],zy d f B S C⟩)
   (fun j=>f.args.length - j) 0 ⟨Nat.zero_le _,fun i _ _ h=>absurd h (Nat.not_lt_zero _)⟩ ?_ (fun j ⟨hj,SY⟩=> ?_)
  ·exact aM ⟨rfl,rfl,rfl,rfl,rfl,rfl,rfl,trivial⟩ rfl
  refine U (fun c=> ?_) (fun c=> ?_)
  ·have c:j<f.args.length:=by have:=de c;omega
   obtain⟨a,ha,uT⟩:=get_some (R:=f.args) (i:=j) c
   obtain⟨k,hk,_⟩:=gS a uT
   have bn:0≤a.aU∧a.aU<d.classes.length:=by
    by_cases h:0≤a.aU∧a.aU<d.classes.length
    ·exact h
    ·rw[g_ h]at hk;cases hk
   obtain⟨k2,et,_,lF⟩:=cQ bn
   obtain rfl:k=k2:=by rw[hk]at et;exact Option.some.inj et
   obtain⟨v,hv,_⟩:=get_some (R:=C) (i:=j) (by omega)
   refine ν (show(f.args.map Λ)[((j:Nat):Int).toNat]?=some (Λ a)from by rw[Int.toNat_natCast,List.getElem?_map,ha];rfl) ?_
   refine υ J6 (by decide+kernel) ?_
   refine ε (Ax rfl (by omega)) ?_
   refine ν (ud hv) ?_
   refine ε (gW rfl bn.1) ?_
   refine ν (cu lF) ?_
   refine U (fun cv=> ?_) (fun cv=> ?_)
   ·exact mA rfl fun h=>by
     have h1:=h.VQ j a k ha hk
     have h2:=hC.2 j v hv
     rw[hB,Li,List.take_length]at h2
     have h3:¬v=k.bits:=by simpa using cv
     exact h3 (by rw[h2,h1])
   have cv:v=k.bits:=by simpa using cv
   refine δ (n:=((j+1:Nat):Int)) (aj (n:=j+1) (by omega)) ?_
   conv=>whnf
   exact⟨⟨j+1,c,fun i a' k' Pr oc fW=>by
    by_cases e:i=j
    ·subst e
     obtain rfl:a=a':=by rw[ha]at oc;exact Option.some.inj oc
     obtain rfl:k=k':=by rw[hk]at fW;exact Option.some.inj fW
     rw[←cv];exact(hC.2 i v hv).symm
    ·exact SY i a' k' (by omega) oc fW⟩,τ [0,1,2,3,4] rfl ⟨rfl,rfl,rfl,rfl,rfl,rfl,rfl,trivial⟩ ⟨rfl,rfl,rfl,rfl,rfl,trivial⟩,by show f.args.length - (j+1)<f.args.length - j;omega⟩
  ·obtain⟨N,hN⟩:∃N,N=B.length:=⟨_,rfl⟩
   obtain⟨m,hm⟩:∃m,m=B.length%8:=⟨_,rfl⟩
   refine ε rfl ?_
   refine δ (n:=((m:Nat):Int)) (show((B.length:Nat):Int).tmod 8=_ from by rw[Int.tmod_eq_emod_of_nonneg (by omega)];omega) ?_
   refine U (fun e1=> ?_) (fun e1=> ?_)
   ·exact mA rfl (fun h=>by
     have h1:=h.m8
     rw[hB,Li,List.take_length]at hm
     have e1:((m:Int)!=0)=true:=e1
     simp at e1
     omega)
   refine U (fun e2=> ?_) (fun e2=> ?_)
   ·exact mA rfl (fun h=>by
     have h1:=h.ge
     have e2:=of_decide_eq_true (show decide ((B.length:Int)<8)=true from e2)
     rw[hB,Li,List.take_length]at e2
     omega)
   refine U (fun e3=> ?_) (fun e3=> ?_)
   ·exact mA rfl (fun h=>by
     have h1:=h.le
     have e3:=of_decide_eq_true (show decide ((B.length:Int)>120)=true from e3)
     rw[hB,Li,List.take_length]at e3
     omega)
   have e1:m=0:=by have:((m:Int)!=0)=false:=e1
                   simp at this;omega
   have e2:8≤B.length:=by have:=df (show decide ((B.length:Int)<8)=false from e2);omega
   have e3:B.length≤120:=by have:=df (show decide ((B.length:Int)>120)=false from e3);omega
   refine γ.cH (Fo d B (by omega) (by omega)) rfl ⟨.refl _,.of_eq (congrArg (T.θ 3) (show((B.map bF).drop 0).take B.length=B.map bF by rw[List.drop_zero,List.take_of_length_le (by simp)])),trivial⟩ ?_
   rintro _ ⟨R,rfl,hR⟩
   have hj:j=f.args.length:=by have:=dm c;omega
   rw[Li,List.take_length]at DY hB
   rw[hB]at hR e2 e3 hD SY hm
   exact⟨_,.inr ⟨R,rfl,⟨c1,gS,DY,hD,fun i a k ha=>SY i a k (by have:=(List.getElem?_eq_some_iff.1 ha).1;omega) ha,by omega,e2,e3⟩,hR⟩,R.map bF,rfl,rfl,rfl,.refl _⟩
 ·exact mA hb K8
end Go.Proofs.YtcogcbplmkcojaaGreatDoor
