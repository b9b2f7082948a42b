/-
  The ground of the walks of this seat, part PQ.
-/
import Derived.Test.YtcogcbplmkcojaaGreatDoorKPO
namespace Go.Proofs.YtcogcbplmkcojaaGreatDoor
open Go.IntWalk
set_option maxRecDepth 100000
set_option linter.unusedVariables false
set_option linter.unusedSimpArgs false
set_option maxHeartbeats 4000000
def HE:Ord:=(.op 0 [] (.op 1 [0] (.op 2 [0] (.op 4 [2,1,0] (.op 5 [2,1,0] (.op 3 [5,4] (.op 6 [] (.op 7 [] (.op 8 [] .nil)))))))))
theorem γ.UR{P:Program}{f:FuncId}{args args':List AV}{H:AH}{Q:AV→AH→Prop}(h:γ P f args' H Q)(ha:args'.length=args.length)(gS:∀(i:Nat) a a',args[i]?=some a→args'[i]?=some a'→eM [] H H a a'):γ P f args H Q:=
 γ.OU [] h rfl (fun b aA hb=> .inr ⟨by simp,aA,hb,.same _⟩) ha gS
def WD(d:ο)(r:List T):List AV:=[.t (.str d.name),.t (.int .i64 d.order),.sl 0 0 0 d.files.length,.sl 1 0 0 d.ag.length,.sl 2 0 0 d.flags.length,.sl 3 0 0 d.classes.length,.sl 4 0 0 d.forms.length,.sl 5 0 0 d.aw.length,.sl 6 0 0 d.uses.length,.sl 7 0 0 d.av.length,.sl 8 0 0 d.macros.length,.sl 9 0 0 d.aT.length,.sl 10 0 0 d.aQ.length,.t (.θ 4 r),.t .af,.t (.int .i64 0)]
theorem UI{f:FuncId}{d:ο}{r:List T}{more:List AV}{X:AV}{H:AH}{Q:AV→AH→Prop}(h:γ Tryz.prog f (.agg (eG d r [])::more) (dH d) (fun r H'=>r=X∧H'=dH d))(e:H.take 11=dH d)(ha:more.all (vF 11)=true)(k:Q X H):γ Tryz.prog f (.agg (WD d r)::more) H Q:=by
 refine γ.UR (args':= .agg (eG d r [])::more) (ι h e (by rw[List.all_cons,ha];rfl) k) rfl fun i a a' hi eH=> ?_
 cases i with
 |zero=>
  cases hi
  cases eH
  refine .agg _ _ rfl fun j x x' hx aC=> ?_
  match j,hx,aC with
  |0,hx,aC=>cases hx;cases aC;exact .same _
  |1,hx,aC=>cases hx;cases aC;exact .same _
  |2,hx,aC=>cases hx;cases aC;exact .same _
  |3,hx,aC=>cases hx;cases aC;exact .same _
  |4,hx,aC=>cases hx;cases aC;exact .same _
  |5,hx,aC=>cases hx;cases aC;exact .same _
  |6,hx,aC=>cases hx;cases aC;exact .same _
  |7,hx,aC=>cases hx;cases aC;exact .same _
  |8,hx,aC=>cases hx;cases aC;exact .same _
  |9,hx,aC=>cases hx;cases aC;exact .same _
  |10,hx,aC=>cases hx;cases aC;exact .same _
  |11,hx,aC=>cases hx;cases aC;exact .same _
  |12,hx,aC=>cases hx;cases aC;exact .same _
  |13,hx,aC=>cases hx;cases aC;exact .same _
  |14,hx,aC=>cases hx;cases aC;exact .sub _ _ (.af 2)
  |15,hx,aC=>cases hx;cases aC;exact .same _
  |j+16,hx,aC=>cases hx
 |succ i=>
  have hi:more[i]?=some a:=hi
  have eH:more[i]?=some a':=eH
  rw[hi]at eH
  cases eH
  exact .same _
theorem u7{k0:Nat}{env:List (Nat×AV)}{H:AH}(b i:Nat)(ids:List Nat){cs:List AV}{x:AV}(t:T)(hb:H[b]?=some (.box cs))(S4:ids.any (Nat.beq b)=false)(hi:cs[i]?=some x)(h:eM ids H (iz b (.box (cs.set i (.t t))) ids 0 H) x (.t t)):aB k0 ⟨env,H⟩ ⟨env,iz b (.box (cs.set i (.t t))) ids 0 H⟩:=by
 have N4:b∉ids:=fun hm=>by
  have:=List.any_eq_false.1 S4 b hm
  simp at this
 refine ja ids (pK _ _ _ _ _) (fun b' aA aD=> ?_) (fun t=> .inr (.same _))
 replace aD:(iz b (.box (cs.set i (.t t))) ids 0 H)[b']?=some aA:=aD
 rw[pL,Nat.zero_add,Option.map_eq_some_iff]at aD
 obtain⟨y,hy,vJ⟩:=aD
 split at vJ
 ·rename_i e1
  obtain rfl:=Nat.eq_of_beq_eq_true e1
  subst vJ
  refine .inr ⟨N4,_,hb,.box _ _ (by simp) fun j u u' hu DQ=> ?_⟩
  rw[List.getElem?_set]at DQ
  split at DQ
  ·rename_i e2
   subst e2
   split at DQ
   ·obtain rfl:=Option.some.inj DQ
    rw[hi]at hu
    obtain rfl:=Option.some.inj hu
    exact h
   ·cases DQ
  ·rw[hu]at DQ
   obtain rfl:=Option.some.inj DQ
   exact .same _
 ·split at vJ
  ·exact .inl vJ.symm
  ·rename_i e2
   subst vJ
   refine .inr ⟨fun hm=> ?_,y,hy,.same _⟩
   have:=List.any_eq_false.1 e2 b' hm
   simp at this
theorem Mm(G:List cP)(a:cP):a9 (.vec 2 (((([]++G.map Λ)++[Λ a]).drop 0).take (0+(G.map Λ).length+1))) (.θ 2 ((G++[a]).map Λ)):=by
 rw[List.drop_zero,List.take_of_length_le (by simp),List.map_append,List.nil_append];exact .vec 2 _
theorem AK:∀(n:Nat) (s:PS) {s':PS},qH n s=some s'→s'.d=s.d
 |0,s,s',h=>by cases h
 |n+1,s,s',h=>by
  unfold qH at h
  split at h
  ·cases h;rfl
  ·split at h
   ·cases h
   rename_i u inner hu
   split at h
   ·cases h
   rename_i u2 name hf
   split at h
   ·cases h
   rename_i u3 c hk
   split at h
   ·obtain⟨l,_,rfl⟩:=aN hu
    have:=AK n _ h
    rw[this]
    exact(aa.trans (bU hf) (cn hk)).1
   ·cases h
theorem xT:∀(n:Nat) (s:PS) (l:List bK) {s':PS} {l':List bK},qW n s l=some (s',l')→aa s s'
 |0,s,l,s',l',h=>by cases h
 |n+1,s,l,s',l',h=>by
  unfold qW at h
  split at h
  ·cases h;exact⟨rfl,rfl⟩
  ·split at h
   ·cases h
   rename_i u w hw
   split at h
   ·cases h
   split at h
   ·exact aa.trans (aS hw) (xT n u _ h)
   ·cases h
theorem Q5{s s':PS}(hs:cV s)(hb:∀c∈s.d.classes,0≤c.bits∧c.bits≤1000000000000000000)(h:um s=some s'):dp 56 4 s s':=by
 unfold um at h
 split at h
 ·cases h
 rename_i s1 name hf
 split at h
 ·cases h
 rename_i s2 eE DR
 split at h
 ·cases h
 rename_i s3 oV lG
 split at h
 ·cases h
 rename_i s4 gS
 split at h
 ·cases h
 rename_i s5 yC vQ
 split at h
 ·cases h
 rename_i s6 ps Pf
 split at h
 ·cases h
 rename_i s7 tL Ps
 split at h
 ·cases h
 rename_i s8 h_ NZ
 cases h
 obtain⟨d,r0,g0⟩:=s
 have kL:cV ⟨d,r0,[]⟩:=⟨hs.1,hs.2.1,hs.2.2.1,hs.2.2.2.1,hs.2.2.2.2.1,hs.2.2.2.2.2.1,hs.2.2.2.2.2.2.1,hs.2.2.2.2.2.2.2.1,Nat.zero_le _⟩
 have f1:aa ⟨d,r0,[]⟩ s1:=bU hf
 have h1:=fT kL (by decide) hf
 have ω:d.forms.length+1≤100000:=by
  have:=(dg hf).2.2
  have:s1.d.forms.length<512:=by simpa[bO,en]using this
  rw[f1.1]at this
  have:d.forms.length<512:=this
  omega
 obtain⟨q2,e2,rfl⟩:=m6 DR
 have Tw:=cD lG
 obtain⟨q3,e3,rfl⟩:=aN lG
 have e4:=AK _ _ gS
 have PH:=cD vQ
 obtain⟨q5,e5,rfl⟩:=aN vQ
 have e6:=xT _ _ _ Pf
 have X9:=cD Ps
 obtain⟨q7,e7,rfl⟩:=aN Ps
 obtain⟨d1,r1,g1⟩:=s1
 obtain rfl:d=d1:=f1.1.symm
 obtain rfl:[]=g1:=f1.2.symm
 obtain⟨d4,r4,G4⟩:=s4
 obtain rfl:d=d4:=e4.symm
 obtain rfl:oV=_:=e5
 obtain⟨d6,r6,G6⟩:=s6
 obtain rfl:d=d6:=e6.1.symm
 obtain rfl:G4=G6:=e6.2.symm
 obtain rfl:yC=_:=e7
 obtain rfl:r1=_:=e2
 obtain rfl:q2=_:=e3
 unfold dp
 refine aW ?_
 refine γ.ξ ζ η Tryz.func56 rfl rfl ?_
 refine UI h1 (by rfl) (by rfl) ?_
 refine ι (dG d 3 eE 0 [] _ ([].map Λ) (.inr rfl)) (by rfl) (by rfl) ?_
 refine ι Tw (by rfl) (by rfl) ?_
 refine ao (fun x:Nat×List ay×List cP=>qH x.1 ⟨d,x.2.1,x.2.2⟩=some ⟨d,r4,G4⟩∧x.2.2.length≤100000) (fun x:Nat×List ay×List cP=>⟨[(1,.ptr 11 0 0 0),(2,.ptr 12 0 0 0),(3,.ptr 13 0 0 0),(5,.t (.θ 4 (Δ (.list q5:: .list q7::tL))))],rL d [.box (eG d (Δ x.2.1) (x.2.2.map Λ)),.box dh,.box [.t (.str name),.t (.str eE),.t .af,.t .af,.t .af]]⟩) (fun x=>x.1) (65,q3,[]) ⟨gS,Nat.zero_le _⟩ ?_ (fun⟨n,R,G⟩ ⟨hx,hG⟩=> ?_)
 ·exact τ [0,1,2,3,4,5,6,7,8,9,10,11,12,13] rfl ⟨rfl,rfl,rfl,rfl,trivial⟩ ⟨rfl,rfl,rfl,rfl,rfl,rfl,rfl,rfl,rfl,rfl,rfl,rfl,rfl,rfl,trivial⟩
 have hx:qH n ⟨d,R,G⟩=some ⟨d,r4,G4⟩:=hx
 have hG:G.length≤100000:=hG
 have Pd:∀r,cV ⟨d,r,G⟩:=fun r=>⟨hs.1,hs.2.1,hs.2.2.1,hs.2.2.2.1,hs.2.2.2.2.1,hs.2.2.2.2.2.1,hs.2.2.2.2.2.2.1,hs.2.2.2.2.2.2.2.1,hG⟩
 cases n with
 |zero=>cases hx
 |succ n=>
  unfold qH at hx
  cases R with
  |cons t0 R0=>
   rw[show aP (⟨d,t0::R0,G⟩:PS)=false from rfl]at hx
   dsimp only at hx
   split at hx
   ·cases hx
   rename_i u1 inner aL
   split at hx
   ·cases hx
   rename_i u2 nm Gj
   split at hx
   ·cases hx
   rename_i u3 c xt
   split at hx
   rotate_left 1
   ·cases hx
   rename_i he
   have k1:=cD aL
   obtain⟨l0,e0,rfl⟩:=aN aL
   obtain⟨rfl,rfl⟩:=List.cons.inj e0
   have p2:aa ⟨d,l0,G⟩ u2:=bU Gj
   have p3:aa ⟨d,l0,G⟩ u3:=p2.trans (cn xt)
   have k2:=fT (Pd _) (by decide) Gj
   have k3:=er ((Pd l0).same p2) (by decide) xt
   have k4:=c_ he
   have ZM:G.length<6:=by
    have:=(dg Gj).2.2
    have:u2.args.length<6:=by simpa[bO,en]using this
    rw[p2.2]at this
    exact this
   obtain⟨EM,RS,Ek⟩:=u2
   obtain rfl:d=EM:=p2.1.symm
   obtain rfl:G=Ek:=p2.2.symm
   obtain⟨EL,jt,Ej⟩:=u3
   obtain rfl:d=EL:=p3.1.symm
   obtain rfl:G=Ej:=p3.2.symm
   refine U (fun _=> ?_) (fun c=>absurd (fh.symm.trans c) (by decide))
   refine ι k1 (by rfl) (by rfl) ?_
   refine ι k2 (by rfl) (by rfl) ?_
   refine ι k3 (by rfl) (by rfl) ?_
   refine ι k4 (by rfl) (by rfl) ?_
   refine aE (dB 16 [5,4]) HE (by decide+kernel) ?_
   refine Or.inl (And.intro rfl (ε (cL (n:=0+(Sq.ts (G.map Λ)).length) (by simp[Sq.length];omega) rfl) ?_))
   refine And.intro (fun j hj=>by simp only[List.mem_cons,List.not_mem_nil,or_false]at hj;rcases hj with rfl|rfl<;>exact χ.set (b:=16) _ (List.mem_singleton.2 rfl)) ?_
   refine Or.inl (And.intro (by rw[Sq.e9];rfl) (ε (cL (n:=0+(Sq.ts (G.map Λ)).length+1) (by simp[Sq.length];omega) rfl) ?_))
   refine And.intro (fun j hj=>by cases hj) ?_
   refine And.intro (fun j hj=>by cases hj) ?_
   conv=>whnf
   exact⟨⟨(n,R0,G++[⟨nm,(c:Int)⟩]),hx,by show(G++[_]).length≤100000;simp;omega⟩,aB.trans (u7 11 14 [16] (T.θ 2 (List.map Λ (List.append G [cP.mk nm (c:Int)]))) rfl rfl rfl (.eU _ _ _ [16] 32 rfl (Mm G (cP.mk nm (c:Int))) (fun b hb=>hb))) (τ [0,1,2,3,4,5,6,7,8,9,10,11,12,13] rfl ⟨rfl,rfl,rfl,rfl,trivial⟩ ⟨rfl,rfl,rfl,rfl,rfl,rfl,rfl,rfl,rfl,rfl,rfl,rfl,rfl,rfl,trivial⟩),Nat.lt_succ_self n⟩
  |nil=>
   cases hx
   refine ι PH (by rfl) (by rfl) ?_
   refine ao (fun x:Nat×List ay×List bK=>qW x.1 ⟨d,x.2.1,G4⟩ x.2.2=some (⟨d,r6,G4⟩,ps)) (fun x:Nat×List ay×List bK=>⟨[(1,.ptr 11 0 0 0),(2,.ptr 12 0 0 0),(3,.ptr 13 0 0 0),(5,.t (.θ 4 (Δ (.list q7::tL))))],rL d [.box (eG d (Δ x.2.1) (G4.map Λ)),.box dh,.box [.t (.str name),.t (.str eE),.t (.θ 2 (G4.map Λ)),.sl 14 0 0 x.2.2.length,.t .af],.arr 198 4 true 0 (.ts (x.2.2.map eb))]⟩) (fun x=>x.1) (66,q5,[]) Pf ?_ (fun⟨n2,R2,P⟩ fV=> ?_)
   ·refine aB.trans (τ (s':=⟨[(1,.ptr 11 0 0 0),(2,.ptr 12 0 0 0),(3,.ptr 13 0 0 0),(5,.t (.θ 4 (Δ (.list q7::tL))))],rL d [.box (eG d (Δ q5) (G4.map Λ)),.box dh,.box [.t (.str name),.t (.str eE),.t (.θ 2 (G4.map Λ)),.t .af,.t .af]]⟩) [0,1,2,3,4,5,6,7,8,9,10,11,12,13] rfl ⟨rfl,rfl,rfl,rfl,trivial⟩ ⟨rfl,rfl,rfl,rfl,rfl,rfl,rfl,rfl,rfl,rfl,rfl,rfl,rfl,rfl,trivial⟩) ?_
    exact jJ (cs:=[.t (.str name),.t (.str eE),.t (.θ 2 (G4.map Λ)),.t .af,.t .af]) 13 3 _ _ rfl rfl
   have fV:qW n2 ⟨d,R2,G4⟩ P=some (⟨d,r6,G4⟩,ps):=fV
   cases n2 with
   |zero=>cases fV
   |succ n2=>
    unfold qW at fV
    cases R2 with
    |cons t0 R0=>
     rw[show aP (⟨d,t0::R0,G4⟩:PS)=false from rfl]at fV
     dsimp only at fV
     split at fV
     ·cases fV
     rename_i u1 w hw
     split at fV
     ·cases fV
     rename_i p hp
     split at fV
     rotate_left 1
     ·cases fV
     rename_i rB
     rw[Nat.blt_eq]at rB
     have k1:=bH hw
     obtain⟨l0,e0,rfl⟩:=jI hw
     obtain⟨rfl,rfl⟩:=List.cons.inj e0
     have k2:=QB (s:=⟨d,R0,G4⟩) (Pd R0) hb hp
     unfold po at k2
     have rE:decide (((P.length:Nat):Int)≥64)=false:=decide_eq_false (by omega)
     refine U (fun c=> ?_) (fun c=>absurd (fh.symm.trans c) (by decide))
     refine ι k1 (by rfl) (by rfl) ?_
     refine ι k2 (by rfl) (by rfl) ?_
     refine ι (Φ d _ _ rE 43) (by rfl) (by rfl) ?_
     refine Or.inl (And.intro (List.length_map _).symm (ε (cL (n:=P.length+1) (by omega) rfl) ?_))
     conv=>whnf
     exact⟨⟨(n2,R0,P++[p]),fV⟩,τ [0,1,2,3,4,5,6,7,8,9,10,11,12,13,14] rfl ⟨rfl,rfl,rfl,rfl,trivial⟩ ⟨rfl,rfl,rfl,rfl,rfl,rfl,rfl,rfl,rfl,rfl,rfl,rfl,rfl,congrArg (fun m:Nat=>some (Ω.box [.t (.str name),.t (.str eE),.t (.θ 2 (G4.map Λ)),.sl 14 0 0 m,.t .af])) (bW P p),b8 eb P p,trivial⟩,Nat.lt_succ_self n2⟩
    |nil=>
     cases fV
     refine ι X9 (by rfl) (by rfl) ?_
     refine ao (fun x:Nat×List ay×List T=>xN x.1 ⟨d,x.2.1,G4⟩ x.2.2=some (s8,h_)) (fun x:Nat×List ay×List T=>⟨[(1,.ptr 11 0 0 0),(2,.ptr 12 0 0 0),(3,.ptr 13 0 0 0),(5,.t (.θ 4 (Δ tL)))],rL d [.box (eG d (Δ x.2.1) (G4.map Λ)),.box dh,.box [.t (.str name),.t (.str eE),.t (.θ 2 (G4.map Λ)),.sl 14 0 0 ps.length,.sl 15 0 0 x.2.2.length],.arr 198 4 true 0 (.ts (ps.map eb)),.arr 81 5 true 0 (.ts x.2.2)]⟩) (fun x=>x.1) (66,q7,[]) NZ ?_ (fun⟨n3,R3,K⟩ uM=> ?_)
     ·refine aB.trans (τ (s':=⟨[(1,.ptr 11 0 0 0),(2,.ptr 12 0 0 0),(3,.ptr 13 0 0 0),(5,.t (.θ 4 (Δ tL)))],rL d [.box (eG d (Δ q7) (G4.map Λ)),.box dh,.box [.t (.str name),.t (.str eE),.t (.θ 2 (G4.map Λ)),.sl 14 0 0 ps.length,.t .af],.arr 198 4 true 0 (.ts (ps.map eb))]⟩) [0,1,2,3,4,5,6,7,8,9,10,11,12,13,14] rfl ⟨rfl,rfl,rfl,rfl,trivial⟩ ⟨rfl,rfl,rfl,rfl,rfl,rfl,rfl,rfl,rfl,rfl,rfl,rfl,rfl,rfl,rfl,trivial⟩) ?_
      exact jJ (cs:=[.t (.str name),.t (.str eE),.t (.θ 2 (G4.map Λ)),.sl 14 0 0 ps.length,.t .af]) 13 4 _ _ rfl rfl
     have uM:xN n3 ⟨d,R3,G4⟩ K=some (s8,h_):=uM
     cases n3 with
     |zero=>cases uM
     |succ n3=>
      unfold xN at uM
      cases R3 with
      |cons t0 R0=>
       rw[show aP (⟨d,t0::R0,G4⟩:PS)=false from rfl]at uM
       dsimp only at uM
       split at uM
       rotate_left 1
       ·cases uM
       rename_i u1 k hk
       split at uM
       rotate_left 1
       ·cases uM
       rename_i rB
       rw[Nat.blt_eq]at rB
       obtain⟨p1,o1,w1,a1,b1,l1,rfl,k1⟩:=BM 40 _ _ _ (Pd (t0::R0)) hk
       unfold bN at k1
       obtain⟨T5,WI,YE⟩:=u1
       obtain rfl:d=T5:=p1.1.symm
       obtain rfl:G4=YE:=p1.2.symm
       have rE:decide (((K.length:Nat):Int)≥64)=false:=decide_eq_false (by omega)
       refine U (fun c=> ?_) (fun c=>absurd (fh.symm.trans c) (by decide))
       refine ι k1 (by rfl) (by rfl) ?_
       refine ι (Φ d _ _ rE 43) (by rfl) (by rfl) ?_
       refine Or.inl (And.intro rfl (ε (cL (n:=K.length+1) (by omega) rfl) ?_))
       conv=>whnf
       exact⟨⟨(n3,WI,K++[eh o1 w1 a1 b1 l1]),uM⟩,τ [0,1,2,3,4,5,6,7,8,9,10,11,12,13,14,15] rfl ⟨rfl,rfl,rfl,rfl,trivial⟩ ⟨rfl,rfl,rfl,rfl,rfl,rfl,rfl,rfl,rfl,rfl,rfl,rfl,rfl,congrArg (fun m:Nat=>some (Ω.box [.t (.str name),.t (.str eE),.t (.θ 2 (G4.map Λ)),.sl 14 0 0 ps.length,.sl 15 0 0 m])) (bW K (eh o1 w1 a1 b1 l1)),rfl,rfl,trivial⟩,Nat.lt_succ_self n3⟩
      |nil=>
       cases uM
       refine Or.inl (And.intro (List.length_map _).symm (ε (cL ω rfl) ?_))
       refine aB.trans (iL 4 [14,15] (A:=d.forms.map ah) (i_ (ah ⟨name,eE,G4,ps,h_⟩)) rfl rfl rfl (fun j y t hy ht=>by
        match j,hy,ht with
        |0,hy,ht=>cases hy;cases ht;exact .same _
        |1,hy,ht=>cases hy;cases ht;exact .same _
        |2,hy,ht=>cases hy;cases ht;exact .same _
        |3,hy,ht=>cases hy;cases ht;exact .eU _ _ _ [14] 32 rfl (.of_eq (congrArg (T.θ _) (by rw[List.drop_zero];exact List.take_of_length_le (by simp)))) (fun b hb=>by simp at hb;simp[hb])
        |4,hy,ht=>cases hy;cases ht;exact .eU _ _ _ [15] 32 rfl (.of_eq (congrArg (T.θ _) (by rw[List.drop_zero];exact List.take_of_length_le (by simp)))) (fun b hb=>by simp at hb;simp[hb])
        |j+5,hy,ht=>cases hy)) ?_
       refine ae ?_ ?_
       ·exact⟨congrArg (fun n:Nat=>some (AV.agg [.t (.str d.name),.t (.int .i64 d.order),.sl 0 0 0 d.files.length,.sl 1 0 0 d.ag.length,.sl 2 0 0 d.flags.length,.sl 3 0 0 d.classes.length,.sl 4 2 0 n,.sl 5 0 0 d.aw.length,.sl 6 0 0 d.uses.length,.sl 7 0 0 d.av.length,.sl 8 0 0 d.macros.length,.sl 9 0 0 d.aT.length,.sl 10 0 0 d.aQ.length,.t (.θ 4 (Δ tL)),.t (.θ 2 (G4.map Λ)),.t (.int .i64 0)])) (bW d.forms ⟨name,eE,G4,ps,h_⟩),trivial⟩
       ·exact⟨rfl,rfl,rfl,rfl,b8 ah d.forms ⟨name,eE,G4,ps,h_⟩,rfl,rfl,rfl,rfl,rfl,rfl,trivial⟩
end Go.Proofs.YtcogcbplmkcojaaGreatDoor
namespace Go.Proofs.YtcogcbplmkcojaaGreatDoor
open Go.IntWalk
set_option maxRecDepth 100000
set_option linter.unusedVariables false
set_option linter.unusedSimpArgs false
set_option maxHeartbeats 4000000
def eK(s:PS)(first:Bool)(k:Nat)(s':PS):Prop:=γ Tryz.prog 21 [eg s,.t (.bool first)] (dH s.d) (fun v H=>v=sB k s'∧H=we k s'.d)
theorem KQ{s s1 s2 s3:PS}{x:List ay}(aL:dl s=some (s1,x))(hw:bL s1=some (s2,[102,105,108,101]))(hf:dp 51 0 s2 s3)(he:aP s3=true):eK s false 0 s3:=by
 have k1:=cD aL
 have k2:=bH hw
 have p2:aa s1 s2:=aS hw
 obtain⟨l0,e0,rfl⟩:=aN aL
 obtain⟨d,r0,g⟩:=s
 obtain⟨d2,r2,g2⟩:=s2
 obtain rfl:d=d2:=p2.1.symm
 obtain rfl:g=g2:=p2.2.symm
 unfold eK
 refine aW ?_
 refine γ.ξ ζ η Tryz.func21 rfl rfl ?_
 refine ι k1 (by rfl) (by rfl) ?_
 refine ι k2 (by rfl) (by rfl) ?_
 refine ι (Φ d _ _ rfl 41) (by rfl) (by rfl) ?_
 refine wS hf (by rfl) ?_
 refine fI (k:=0) (nI 0 (by decide) he) (by rfl) (by rfl) ?_
 refine ae ?_ ?_
 ·exact⟨rfl,trivial⟩
 ·exact⟨rfl,rfl,rfl,rfl,rfl,rfl,rfl,rfl,rfl,rfl,rfl,trivial⟩
theorem HP{s s1 s2 s3:PS}{x:List ay}(aL:dl s=some (s1,x))(hw:bL s1=some (s2,[99,108,97,115,115]))(hf:dp 55 3 s2 s3)(he:aP s3=true):eK s false 3 s3:=by
 have k1:=cD aL
 have k2:=bH hw
 have p2:aa s1 s2:=aS hw
 obtain⟨l0,e0,rfl⟩:=aN aL
 obtain⟨d,r0,g⟩:=s
 obtain⟨d2,r2,g2⟩:=s2
 obtain rfl:d=d2:=p2.1.symm
 obtain rfl:g=g2:=p2.2.symm
 unfold eK
 refine aW ?_
 refine γ.ξ ζ η Tryz.func21 rfl rfl ?_
 refine ι k1 (by rfl) (by rfl) ?_
 refine ι k2 (by rfl) (by rfl) ?_
 refine ι (Φ d _ _ rfl 41) (by rfl) (by rfl) ?_
 refine wS hf (by rfl) ?_
 refine fI (k:=3) (nI 3 (by decide) he) (by rfl) (by rfl) ?_
 refine ae ?_ ?_
 ·exact⟨rfl,trivial⟩
 ·exact⟨rfl,rfl,rfl,rfl,rfl,rfl,rfl,rfl,rfl,rfl,rfl,trivial⟩
theorem KO{s s1 s2 s3:PS}{x:List ay}(aL:dl s=some (s1,x))(hw:bL s1=some (s2,[102,111,114,109]))(hf:dp 56 4 s2 s3)(he:aP s3=true):eK s false 4 s3:=by
 have k1:=cD aL
 have k2:=bH hw
 have p2:aa s1 s2:=aS hw
 obtain⟨l0,e0,rfl⟩:=aN aL
 obtain⟨d,r0,g⟩:=s
 obtain⟨d2,r2,g2⟩:=s2
 obtain rfl:d=d2:=p2.1.symm
 obtain rfl:g=g2:=p2.2.symm
 unfold eK
 refine aW ?_
 refine γ.ξ ζ η Tryz.func21 rfl rfl ?_
 refine ι k1 (by rfl) (by rfl) ?_
 refine ι k2 (by rfl) (by rfl) ?_
 refine ι (Φ d _ _ rfl 41) (by rfl) (by rfl) ?_
 refine wS hf (by rfl) ?_
 refine fI (k:=4) (nI 4 (by decide) he) (by rfl) (by rfl) ?_
 refine ae ?_ ?_
 ·exact⟨rfl,trivial⟩
 ·exact⟨rfl,rfl,rfl,rfl,rfl,rfl,rfl,rfl,rfl,rfl,rfl,trivial⟩
theorem HO{s s1 s2 s3:PS}{x:List ay}(aL:dl s=some (s1,x))(hw:bL s1=some (s2,[109,97,99,114,111]))(hf:dp 57 8 s2 s3)(he:aP s3=true):eK s false 8 s3:=by
 have k1:=cD aL
 have k2:=bH hw
 have p2:aa s1 s2:=aS hw
 obtain⟨l0,e0,rfl⟩:=aN aL
 obtain⟨d,r0,g⟩:=s
 obtain⟨d2,r2,g2⟩:=s2
 obtain rfl:d=d2:=p2.1.symm
 obtain rfl:g=g2:=p2.2.symm
 unfold eK
 refine aW ?_
 refine γ.ξ ζ η Tryz.func21 rfl rfl ?_
 refine ι k1 (by rfl) (by rfl) ?_
 refine ι k2 (by rfl) (by rfl) ?_
 refine ι (Φ d _ _ rfl 41) (by rfl) (by rfl) ?_
 refine wS hf (by rfl) ?_
 refine fI (k:=8) (nI 8 (by decide) he) (by rfl) (by rfl) ?_
 refine ae ?_ ?_
 ·exact⟨rfl,trivial⟩
 ·exact⟨rfl,rfl,rfl,rfl,rfl,rfl,rfl,rfl,rfl,rfl,rfl,trivial⟩
theorem NO{s s1 s2 s3:PS}{x:List ay}(aL:dl s=some (s1,x))(hw:bL s1=some (s2,[114,101,108]))(hf:dp 58 5 s2 s3)(he:aP s3=true):eK s false 5 s3:=by
 have k1:=cD aL
 have k2:=bH hw
 have p2:aa s1 s2:=aS hw
 obtain⟨l0,e0,rfl⟩:=aN aL
 obtain⟨d,r0,g⟩:=s
 obtain⟨d2,r2,g2⟩:=s2
 obtain rfl:d=d2:=p2.1.symm
 obtain rfl:g=g2:=p2.2.symm
 unfold eK
 refine aW ?_
 refine γ.ξ ζ η Tryz.func21 rfl rfl ?_
 refine ι k1 (by rfl) (by rfl) ?_
 refine ι k2 (by rfl) (by rfl) ?_
 refine ι (Φ d _ _ rfl 41) (by rfl) (by rfl) ?_
 refine wS hf (by rfl) ?_
 refine fI (k:=5) (nI 5 (by decide) he) (by rfl) (by rfl) ?_
 refine ae ?_ ?_
 ·exact⟨rfl,trivial⟩
 ·exact⟨rfl,rfl,rfl,rfl,rfl,rfl,rfl,rfl,rfl,rfl,rfl,trivial⟩
theorem NN{s s1 s2 s3:PS}{x:List ay}(aL:dl s=some (s1,x))(hw:bL s1=some (s2,[117,115,101]))(hf:dp 59 6 s2 s3)(he:aP s3=true):eK s false 6 s3:=by
 have k1:=cD aL
 have k2:=bH hw
 have p2:aa s1 s2:=aS hw
 obtain⟨l0,e0,rfl⟩:=aN aL
 obtain⟨d,r0,g⟩:=s
 obtain⟨d2,r2,g2⟩:=s2
 obtain rfl:d=d2:=p2.1.symm
 obtain rfl:g=g2:=p2.2.symm
 unfold eK
 refine aW ?_
 refine γ.ξ ζ η Tryz.func21 rfl rfl ?_
 refine ι k1 (by rfl) (by rfl) ?_
 refine ι k2 (by rfl) (by rfl) ?_
 refine ι (Φ d _ _ rfl 41) (by rfl) (by rfl) ?_
 refine wS hf (by rfl) ?_
 refine fI (k:=6) (nI 6 (by decide) he) (by rfl) (by rfl) ?_
 refine ae ?_ ?_
 ·exact⟨rfl,trivial⟩
 ·exact⟨rfl,rfl,rfl,rfl,rfl,rfl,rfl,rfl,rfl,rfl,rfl,trivial⟩
theorem KN{s s1 s2 s3 s4:PS}{x:List ay}{nm:List UInt8}(aL:dl s=some (s1,x))(hw:bL s1=some (s2,[105,115,97]))(h3:bL s2=some (s3,nm))(h4:bL s3=some (s4,[119,111,114,100]))(he:aP s4=true):eK s true 11 ⟨{s.d with name:=nm,order:=1},s4.rest,s.args⟩:=by
 have k1:=cD aL
 have k2:=bH hw
 have p2:aa s1 s2:=aS hw
 obtain⟨l0,e0,rfl⟩:=aN aL
 obtain⟨d,r0,g⟩:=s
 obtain⟨d2,r2,g2⟩:=s2
 obtain rfl:d=d2:=p2.1.symm
 obtain rfl:g=g2:=p2.2.symm
 have k3:=bH h3
 have p3:aa ⟨d,r2,g⟩ s3:=aS h3
 have k4:=bH h4
 have p4:aa ⟨d,r2,g⟩ s4:=p3.trans (aS h4)
 obtain⟨d3,r3,g3⟩:=s3
 obtain rfl:d=d3:=p3.1.symm
 obtain rfl:g=g3:=p3.2.symm
 obtain⟨d4,r4,g4⟩:=s4
 obtain rfl:d=d4:=p4.1.symm
 obtain rfl:g=g4:=p4.2.symm
 unfold eK
 refine aW ?_
 refine γ.ξ ζ η Tryz.func21 rfl rfl ?_
 refine ι k1 (by rfl) (by rfl) ?_
 refine ι k2 (by rfl) (by rfl) ?_
 refine ι (Φ d _ _ rfl 41) (by rfl) (by rfl) ?_
 refine ι k3 (by rfl) (by rfl) ?_
 refine ι k4 (by rfl) (by rfl) ?_
 refine ι (Φ d _ _ rfl 41) (by rfl) (by rfl) ?_
 refine ι (c_ (s:=⟨{d with name:=nm,order:=1},r4,g⟩) he) (by rfl) (by rfl) ?_
 refine ae ?_ ?_
 ·exact⟨rfl,trivial⟩
 ·exact⟨rfl,rfl,rfl,rfl,rfl,rfl,rfl,rfl,rfl,rfl,rfl,trivial⟩
theorem KM{s s1 s2 s3 s4:PS}{x:List ay}{nm:List UInt8}(aL:dl s=some (s1,x))(hw:bL s1=some (s2,[105,115,97]))(h3:bL s2=some (s3,nm))(h4:bL s3=some (s4,[98,121,116,101,115]))(he:aP s4=true):eK s true 11 ⟨{s.d with name:=nm,order:=2},s4.rest,s.args⟩:=by
 have k1:=cD aL
 have k2:=bH hw
 have p2:aa s1 s2:=aS hw
 obtain⟨l0,e0,rfl⟩:=aN aL
 obtain⟨d,r0,g⟩:=s
 obtain⟨d2,r2,g2⟩:=s2
 obtain rfl:d=d2:=p2.1.symm
 obtain rfl:g=g2:=p2.2.symm
 have k3:=bH h3
 have p3:aa ⟨d,r2,g⟩ s3:=aS h3
 have k4:=bH h4
 have p4:aa ⟨d,r2,g⟩ s4:=p3.trans (aS h4)
 obtain⟨d3,r3,g3⟩:=s3
 obtain rfl:d=d3:=p3.1.symm
 obtain rfl:g=g3:=p3.2.symm
 obtain⟨d4,r4,g4⟩:=s4
 obtain rfl:d=d4:=p4.1.symm
 obtain rfl:g=g4:=p4.2.symm
 unfold eK
 refine aW ?_
 refine γ.ξ ζ η Tryz.func21 rfl rfl ?_
 refine ι k1 (by rfl) (by rfl) ?_
 refine ι k2 (by rfl) (by rfl) ?_
 refine ι (Φ d _ _ rfl 41) (by rfl) (by rfl) ?_
 refine ι k3 (by rfl) (by rfl) ?_
 refine ι k4 (by rfl) (by rfl) ?_
 refine ι (Φ d _ _ rfl 41) (by rfl) (by rfl) ?_
 refine ι (c_ (s:=⟨{d with name:=nm,order:=2},r4,g⟩) he) (by rfl) (by rfl) ?_
 refine ae ?_ ?_
 ·exact⟨rfl,trivial⟩
 ·exact⟨rfl,rfl,rfl,rfl,rfl,rfl,rfl,rfl,rfl,rfl,rfl,trivial⟩
theorem HR{s s1 s2 s3 s4 s5:PS}{x:List ay}{nm:List UInt8}{i:Nat}{n:Int}(hs:cV s)(aL:dl s=some (s1,x))(hw:bL s1=some (s2,[97,108,105,97,115]))(h3:dJ s2 2=some (s3,nm))(h4:bY s3 1=some (s4,i))(h5:cK s4=some (s5,n))(he:aP s5=true):eK s false 1 ⟨{s.d with ag:=s.d.ag++[⟨nm,(i:Int),n⟩]},s5.rest,s.args⟩:=by
 have k1:=cD aL
 have k2:=bH hw
 have p2:aa s1 s2:=aS hw
 obtain⟨l0,e0,rfl⟩:=aN aL
 obtain⟨d,r0,g⟩:=s
 obtain⟨d2,r2,g2⟩:=s2
 obtain rfl:d=d2:=p2.1.symm
 obtain rfl:g=g2:=p2.2.symm
 have k3:=fT (hs.same ⟨p2.1,p2.2⟩) (by decide) h3
 have p3:aa ⟨d,r2,g⟩ s3:=bU h3
 have k4:=er (hs.same ⟨p3.1,p3.2⟩) (by decide) h4
 have p4:aa ⟨d,r2,g⟩ s4:=p3.trans (cn h4)
 have k5:=di h5
 have p5:aa ⟨d,r2,g⟩ s5:=p4.trans (cO h5)
 have ω:d.ag.length+1≤100000:=by
  have:=(dg h3).2.2
  have:s3.d.ag.length<256:=by simpa[bO,en]using this
  rw[p3.1]at this
  have:d.ag.length<256:=this
  omega
 obtain⟨d3,r3,g3⟩:=s3
 obtain rfl:d=d3:=p3.1.symm
 obtain rfl:g=g3:=p3.2.symm
 obtain⟨d4,r4,g4⟩:=s4
 obtain rfl:d=d4:=p4.1.symm
 obtain rfl:g=g4:=p4.2.symm
 obtain⟨d5,r5,g5⟩:=s5
 obtain rfl:d=d5:=p5.1.symm
 obtain rfl:g=g5:=p5.2.symm
 unfold eK
 refine aW ?_
 refine γ.ξ ζ η Tryz.func21 rfl rfl ?_
 refine ι k1 (by rfl) (by rfl) ?_
 refine ι k2 (by rfl) (by rfl) ?_
 refine ι (Φ d _ _ rfl 41) (by rfl) (by rfl) ?_
 refine ι k3 (by rfl) (by rfl) ?_
 refine ι k4 (by rfl) (by rfl) ?_
 refine ι k5 (by rfl) (by rfl) ?_
 refine Or.inl (And.intro (List.length_map _).symm (ε (cL ω rfl) ?_))
 refine γ.LP (args':=[sB 1 ⟨{d with ag:=d.ag++[(⟨nm,(i:Int),n⟩:dO)]},r5,g⟩]) (congrArg (fun n:Nat=>[AV.agg [.t (.str d.name),.t (.int .i64 d.order),.sl 0 0 0 d.files.length,.sl 1 2 0 n,.sl 2 0 0 d.flags.length,.sl 3 0 0 d.classes.length,.sl 4 0 0 d.forms.length,.sl 5 0 0 d.aw.length,.sl 6 0 0 d.uses.length,.sl 7 0 0 d.av.length,.sl 8 0 0 d.macros.length,.sl 9 0 0 d.aT.length,.sl 10 0 0 d.aQ.length,.t (.θ 4 (Δ r5)),.t (.θ 2 (g.map Λ)),.t (.int .i64 0)]]) (bW d.ag (⟨nm,(i:Int),n⟩:dO))) ?_
 refine fI (k:=1) (nI 1 (by decide) (s:=⟨{d with ag:=d.ag++[(⟨nm,(i:Int),n⟩:dO)]},r5,g⟩) he) (congrArg (fun l:List T=>[Ω.arr 152 4 true 0 (.ts (d.files.map ec)),Ω.arr 139 3 true 2 (.ts l),Ω.arr 9 1 true 0 (.ts (d.flags.map T.str)),Ω.arr 95 7 true 0 (.ts (d.classes.map aF)),Ω.arr 45 5 true 0 (.ts (d.forms.map ah)),Ω.arr 167 17 true 0 (.ts (d.aw.map eT)),Ω.arr 164 4 true 0 (.ts (d.uses.map gf)),Ω.arr 145 3 true 0 (.ts (d.av.map cX)),Ω.arr 173 3 true 0 (.ts (d.macros.map dv)),Ω.arr 147 2 true 0 (.ts (d.aT.map fK)),Ω.arr 139 3 true 0 (.ts (d.aQ.map bz))]) (List.map_append (f:=bz) (l₁:=d.ag) (l₂:=[(⟨nm,(i:Int),n⟩:dO)])).symm) rfl ?_
 refine ae ?_ ?_
 ·exact⟨rfl,trivial⟩
 ·exact⟨rfl,b8 bz d.ag (⟨nm,(i:Int),n⟩:dO),rfl,rfl,rfl,rfl,rfl,rfl,rfl,rfl,rfl,trivial⟩
theorem NP{s s1 s2 s3 s4 s5:PS}{x:List ay}{nm:List UInt8}{i:Nat}{n:Int}(hs:cV s)(aL:dl s=some (s1,x))(hw:bL s1=some (s2,[114,101,103]))(h3:dJ s2 9=some (s3,nm))(h4:bY s3 1=some (s4,i))(h5:cK s4=some (s5,n))(he:aP s5=true):eK s false 10 ⟨{s.d with aQ:=s.d.aQ++[⟨nm,(i:Int),n⟩]},s5.rest,s.args⟩:=by
 have k1:=cD aL
 have k2:=bH hw
 have p2:aa s1 s2:=aS hw
 obtain⟨l0,e0,rfl⟩:=aN aL
 obtain⟨d,r0,g⟩:=s
 obtain⟨d2,r2,g2⟩:=s2
 obtain rfl:d=d2:=p2.1.symm
 obtain rfl:g=g2:=p2.2.symm
 have k3:=fT (hs.same ⟨p2.1,p2.2⟩) (by decide) h3
 have p3:aa ⟨d,r2,g⟩ s3:=bU h3
 have k4:=er (hs.same ⟨p3.1,p3.2⟩) (by decide) h4
 have p4:aa ⟨d,r2,g⟩ s4:=p3.trans (cn h4)
 have k5:=di h5
 have p5:aa ⟨d,r2,g⟩ s5:=p4.trans (cO h5)
 have ω:d.aQ.length+1≤100000:=by
  have:=(dg h3).2.2
  have:s3.d.aQ.length<64:=by simpa[bO,en]using this
  rw[p3.1]at this
  have:d.aQ.length<64:=this
  omega
 obtain⟨d3,r3,g3⟩:=s3
 obtain rfl:d=d3:=p3.1.symm
 obtain rfl:g=g3:=p3.2.symm
 obtain⟨d4,r4,g4⟩:=s4
 obtain rfl:d=d4:=p4.1.symm
 obtain rfl:g=g4:=p4.2.symm
 obtain⟨d5,r5,g5⟩:=s5
 obtain rfl:d=d5:=p5.1.symm
 obtain rfl:g=g5:=p5.2.symm
 unfold eK
 refine aW ?_
 refine γ.ξ ζ η Tryz.func21 rfl rfl ?_
 refine ι k1 (by rfl) (by rfl) ?_
 refine ι k2 (by rfl) (by rfl) ?_
 refine ι (Φ d _ _ rfl 41) (by rfl) (by rfl) ?_
 refine ι k3 (by rfl) (by rfl) ?_
 refine ι k4 (by rfl) (by rfl) ?_
 refine ι k5 (by rfl) (by rfl) ?_
 refine Or.inl (And.intro (List.length_map _).symm (ε (cL ω rfl) ?_))
 refine γ.LP (args':=[sB 10 ⟨{d with aQ:=d.aQ++[(⟨nm,(i:Int),n⟩:dO)]},r5,g⟩]) (congrArg (fun n:Nat=>[AV.agg [.t (.str d.name),.t (.int .i64 d.order),.sl 0 0 0 d.files.length,.sl 1 0 0 d.ag.length,.sl 2 0 0 d.flags.length,.sl 3 0 0 d.classes.length,.sl 4 0 0 d.forms.length,.sl 5 0 0 d.aw.length,.sl 6 0 0 d.uses.length,.sl 7 0 0 d.av.length,.sl 8 0 0 d.macros.length,.sl 9 0 0 d.aT.length,.sl 10 2 0 n,.t (.θ 4 (Δ r5)),.t (.θ 2 (g.map Λ)),.t (.int .i64 0)]]) (bW d.aQ (⟨nm,(i:Int),n⟩:dO))) ?_
 refine fI (k:=10) (nI 10 (by decide) (s:=⟨{d with aQ:=d.aQ++[(⟨nm,(i:Int),n⟩:dO)]},r5,g⟩) he) (congrArg (fun l:List T=>[Ω.arr 152 4 true 0 (.ts (d.files.map ec)),Ω.arr 139 3 true 0 (.ts (d.ag.map bz)),Ω.arr 9 1 true 0 (.ts (d.flags.map T.str)),Ω.arr 95 7 true 0 (.ts (d.classes.map aF)),Ω.arr 45 5 true 0 (.ts (d.forms.map ah)),Ω.arr 167 17 true 0 (.ts (d.aw.map eT)),Ω.arr 164 4 true 0 (.ts (d.uses.map gf)),Ω.arr 145 3 true 0 (.ts (d.av.map cX)),Ω.arr 173 3 true 0 (.ts (d.macros.map dv)),Ω.arr 147 2 true 0 (.ts (d.aT.map fK)),Ω.arr 139 3 true 2 (.ts l)]) (List.map_append (f:=bz) (l₁:=d.aQ) (l₂:=[(⟨nm,(i:Int),n⟩:dO)])).symm) rfl ?_
 refine ae ?_ ?_
 ·exact⟨rfl,trivial⟩
 ·exact⟨rfl,rfl,rfl,rfl,rfl,rfl,rfl,rfl,rfl,rfl,b8 bz d.aQ (⟨nm,(i:Int),n⟩:dO),trivial⟩
theorem KP{s s1 s2 s3:PS}{x:List ay}{nm:List UInt8}(hs:cV s)(aL:dl s=some (s1,x))(hw:bL s1=some (s2,[102,108,97,103]))(h3:dJ s2 3=some (s3,nm))(he:aP s3=true):eK s false 2 ⟨{s.d with flags:=s.d.flags++[nm]},s3.rest,s.args⟩:=by
 have k1:=cD aL
 have k2:=bH hw
 have p2:aa s1 s2:=aS hw
 obtain⟨l0,e0,rfl⟩:=aN aL
 obtain⟨d,r0,g⟩:=s
 obtain⟨d2,r2,g2⟩:=s2
 obtain rfl:d=d2:=p2.1.symm
 obtain rfl:g=g2:=p2.2.symm
 have k3:=fT (hs.same ⟨p2.1,p2.2⟩) (by decide) h3
 have p3:aa ⟨d,r2,g⟩ s3:=bU h3
 have ω:d.flags.length+1≤100000:=by
  have:=(dg h3).2.2
  have:s3.d.flags.length<16:=by simpa[bO,en]using this
  rw[p3.1]at this
  have:d.flags.length<16:=this
  omega
 obtain⟨d3,r3,g3⟩:=s3
 obtain rfl:d=d3:=p3.1.symm
 obtain rfl:g=g3:=p3.2.symm
 unfold eK
 refine aW ?_
 refine γ.ξ ζ η Tryz.func21 rfl rfl ?_
 refine ι k1 (by rfl) (by rfl) ?_
 refine ι k2 (by rfl) (by rfl) ?_
 refine ι (Φ d _ _ rfl 41) (by rfl) (by rfl) ?_
 refine ι k3 (by rfl) (by rfl) ?_
 refine Or.inl (And.intro (List.length_map _).symm (ε (cL ω rfl) ?_))
 refine γ.LP (args':=[sB 2 ⟨{d with flags:=d.flags++[nm]},r3,g⟩]) (congrArg (fun n:Nat=>[AV.agg [.t (.str d.name),.t (.int .i64 d.order),.sl 0 0 0 d.files.length,.sl 1 0 0 d.ag.length,.sl 2 2 0 n,.sl 3 0 0 d.classes.length,.sl 4 0 0 d.forms.length,.sl 5 0 0 d.aw.length,.sl 6 0 0 d.uses.length,.sl 7 0 0 d.av.length,.sl 8 0 0 d.macros.length,.sl 9 0 0 d.aT.length,.sl 10 0 0 d.aQ.length,.t (.θ 4 (Δ r3)),.t (.θ 2 (g.map Λ)),.t (.int .i64 0)]]) (bW d.flags nm)) ?_
 refine fI (k:=2) (nI 2 (by decide) (s:=⟨{d with flags:=d.flags++[nm]},r3,g⟩) he) (congrArg (fun l:List T=>[Ω.arr 152 4 true 0 (.ts (d.files.map ec)),Ω.arr 139 3 true 0 (.ts (d.ag.map bz)),Ω.arr 9 1 true 2 (.ts l),Ω.arr 95 7 true 0 (.ts (d.classes.map aF)),Ω.arr 45 5 true 0 (.ts (d.forms.map ah)),Ω.arr 167 17 true 0 (.ts (d.aw.map eT)),Ω.arr 164 4 true 0 (.ts (d.uses.map gf)),Ω.arr 145 3 true 0 (.ts (d.av.map cX)),Ω.arr 173 3 true 0 (.ts (d.macros.map dv)),Ω.arr 147 2 true 0 (.ts (d.aT.map fK)),Ω.arr 139 3 true 0 (.ts (d.aQ.map bz))]) (List.map_append (f:=T.str) (l₁:=d.flags) (l₂:=[nm])).symm) rfl ?_
 refine ae ?_ ?_
 ·exact⟨rfl,trivial⟩
 ·exact⟨rfl,rfl,b8 T.str d.flags nm,rfl,rfl,rfl,rfl,rfl,rfl,rfl,rfl,trivial⟩
theorem HN{s s1 s2 s3 s4 s5:PS}{x:List ay}{a b c:Nat}(hs:cV s)(aL:dl s=some (s1,x))(hw:bL s1=some (s2,[114,101,108,97,120]))(hl:s2.d.av.length<16)(h3:bY s2 6=some (s3,a))(h4:bY s3 5=some (s4,b))(h5:bY s4 6=some (s5,c))(he:aP s5=true):eK s false 7 ⟨{s.d with av:=s.d.av++[⟨(a:Int),(b:Int),(c:Int)⟩]},s5.rest,s.args⟩:=by
 have k1:=cD aL
 have k2:=bH hw
 have p2:aa s1 s2:=aS hw
 obtain⟨l0,e0,rfl⟩:=aN aL
 obtain⟨d,r0,g⟩:=s
 obtain⟨d2,r2,g2⟩:=s2
 obtain rfl:d=d2:=p2.1.symm
 obtain rfl:g=g2:=p2.2.symm
 have k3:=er (hs.same ⟨p2.1,p2.2⟩) (by decide) h3
 have p3:aa ⟨d,r2,g⟩ s3:=cn h3
 have k4:=er (hs.same ⟨p3.1,p3.2⟩) (by decide) h4
 have p4:aa ⟨d,r2,g⟩ s4:=p3.trans (cn h4)
 have k5:=er (hs.same ⟨p4.1,p4.2⟩) (by decide) h5
 have p5:aa ⟨d,r2,g⟩ s5:=p4.trans (cn h5)
 have hl:d.av.length<16:=hl
 have qi:decide (((d.av.length:Nat):Int)≥16)=false:=decide_eq_false (by omega)
 have ω:d.av.length+1≤100000:=by omega
 obtain⟨d3,r3,g3⟩:=s3
 obtain rfl:d=d3:=p3.1.symm
 obtain rfl:g=g3:=p3.2.symm
 obtain⟨d4,r4,g4⟩:=s4
 obtain rfl:d=d4:=p4.1.symm
 obtain rfl:g=g4:=p4.2.symm
 obtain⟨d5,r5,g5⟩:=s5
 obtain rfl:d=d5:=p5.1.symm
 obtain rfl:g=g5:=p5.2.symm
 unfold eK
 refine aW ?_
 refine γ.ξ ζ η Tryz.func21 rfl rfl ?_
 refine ι k1 (by rfl) (by rfl) ?_
 refine ι k2 (by rfl) (by rfl) ?_
 refine ι (Φ d _ _ rfl 41) (by rfl) (by rfl) ?_
 refine ι (Φ d _ _ qi 43) (by rfl) (by rfl) ?_
 refine ι k3 (by rfl) (by rfl) ?_
 refine ι k4 (by rfl) (by rfl) ?_
 refine ι k5 (by rfl) (by rfl) ?_
 refine Or.inl (And.intro (List.length_map _).symm (ε (cL ω rfl) ?_))
 refine γ.LP (args':=[sB 7 ⟨{d with av:=d.av++[(⟨(a:Int),(b:Int),(c:Int)⟩:eD)]},r5,g⟩]) (congrArg (fun n:Nat=>[AV.agg [.t (.str d.name),.t (.int .i64 d.order),.sl 0 0 0 d.files.length,.sl 1 0 0 d.ag.length,.sl 2 0 0 d.flags.length,.sl 3 0 0 d.classes.length,.sl 4 0 0 d.forms.length,.sl 5 0 0 d.aw.length,.sl 6 0 0 d.uses.length,.sl 7 2 0 n,.sl 8 0 0 d.macros.length,.sl 9 0 0 d.aT.length,.sl 10 0 0 d.aQ.length,.t (.θ 4 (Δ r5)),.t (.θ 2 (g.map Λ)),.t (.int .i64 0)]]) (bW d.av (⟨(a:Int),(b:Int),(c:Int)⟩:eD))) ?_
 refine fI (k:=7) (nI 7 (by decide) (s:=⟨{d with av:=d.av++[(⟨(a:Int),(b:Int),(c:Int)⟩:eD)]},r5,g⟩) he) (congrArg (fun l:List T=>[Ω.arr 152 4 true 0 (.ts (d.files.map ec)),Ω.arr 139 3 true 0 (.ts (d.ag.map bz)),Ω.arr 9 1 true 0 (.ts (d.flags.map T.str)),Ω.arr 95 7 true 0 (.ts (d.classes.map aF)),Ω.arr 45 5 true 0 (.ts (d.forms.map ah)),Ω.arr 167 17 true 0 (.ts (d.aw.map eT)),Ω.arr 164 4 true 0 (.ts (d.uses.map gf)),Ω.arr 145 3 true 2 (.ts l),Ω.arr 173 3 true 0 (.ts (d.macros.map dv)),Ω.arr 147 2 true 0 (.ts (d.aT.map fK)),Ω.arr 139 3 true 0 (.ts (d.aQ.map bz))]) (List.map_append (f:=cX) (l₁:=d.av) (l₂:=[(⟨(a:Int),(b:Int),(c:Int)⟩:eD)])).symm) rfl ?_
 refine ae ?_ ?_
 ·exact⟨rfl,trivial⟩
 ·exact⟨rfl,rfl,rfl,rfl,rfl,rfl,rfl,b8 cX d.av (⟨(a:Int),(b:Int),(c:Int)⟩:eD),rfl,rfl,rfl,trivial⟩
theorem NQ{s s1 s2 s3 s4:PS}{x:List ay}{nm:List UInt8}{n:Int}(hs:cV s)(aL:dl s=some (s1,x))(hw:bL s1=some (s2,[110,117,109]))(h3:dJ s2 8=some (s3,nm))(h4:mC s3=some (s4,n))(he:aP s4=true):eK s false 9 ⟨{s.d with aT:=s.d.aT++[⟨nm,n⟩]},s4.rest,s.args⟩:=by
 have k1:=cD aL
 have k2:=bH hw
 have p2:aa s1 s2:=aS hw
 obtain⟨l0,e0,rfl⟩:=aN aL
 obtain⟨d,r0,g⟩:=s
 obtain⟨d2,r2,g2⟩:=s2
 obtain rfl:d=d2:=p2.1.symm
 obtain rfl:g=g2:=p2.2.symm
 have k3:=fT (hs.same ⟨p2.1,p2.2⟩) (by decide) h3
 have p3:aa ⟨d,r2,g⟩ s3:=bU h3
 have ω:d.aT.length+1≤100000:=by
  have:=(dg h3).2.2
  have:s3.d.aT.length<64:=by simpa[bO,en]using this
  rw[p3.1]at this
  have:d.aT.length<64:=this
  omega
 obtain⟨r4,e4,rfl⟩:=jD h4
 obtain⟨d3,r3,g3⟩:=s3
 obtain rfl:d=d3:=p3.1.symm
 obtain rfl:g=g3:=p3.2.symm
 obtain rfl:r3=_:=e4
 unfold eK
 refine aW ?_
 refine γ.ξ ζ η Tryz.func21 rfl rfl ?_
 refine ι k1 (by rfl) (by rfl) ?_
 refine ι k2 (by rfl) (by rfl) ?_
 refine ι (Φ d _ _ rfl 41) (by rfl) (by rfl) ?_
 refine ι k3 (by rfl) (by rfl) ?_
 refine ι (dG d 2 [] n [] (Δ r4) (g.map Λ) (.inr rfl)) (by rfl) (by rfl) ?_
 refine Or.inl (And.intro (List.length_map _).symm (ε (cL ω rfl) ?_))
 refine γ.LP (args':=[sB 9 ⟨{d with aT:=d.aT++[(⟨nm,n⟩:kY)]},r4,g⟩]) (congrArg (fun n:Nat=>[AV.agg [.t (.str d.name),.t (.int .i64 d.order),.sl 0 0 0 d.files.length,.sl 1 0 0 d.ag.length,.sl 2 0 0 d.flags.length,.sl 3 0 0 d.classes.length,.sl 4 0 0 d.forms.length,.sl 5 0 0 d.aw.length,.sl 6 0 0 d.uses.length,.sl 7 0 0 d.av.length,.sl 8 0 0 d.macros.length,.sl 9 2 0 n,.sl 10 0 0 d.aQ.length,.t (.θ 4 (Δ r4)),.t (.θ 2 (g.map Λ)),.t (.int .i64 0)]]) (bW d.aT (⟨nm,n⟩:kY))) ?_
 refine fI (k:=9) (nI 9 (by decide) (s:=⟨{d with aT:=d.aT++[(⟨nm,n⟩:kY)]},r4,g⟩) he) (congrArg (fun l:List T=>[Ω.arr 152 4 true 0 (.ts (d.files.map ec)),Ω.arr 139 3 true 0 (.ts (d.ag.map bz)),Ω.arr 9 1 true 0 (.ts (d.flags.map T.str)),Ω.arr 95 7 true 0 (.ts (d.classes.map aF)),Ω.arr 45 5 true 0 (.ts (d.forms.map ah)),Ω.arr 167 17 true 0 (.ts (d.aw.map eT)),Ω.arr 164 4 true 0 (.ts (d.uses.map gf)),Ω.arr 145 3 true 0 (.ts (d.av.map cX)),Ω.arr 173 3 true 0 (.ts (d.macros.map dv)),Ω.arr 147 2 true 2 (.ts l),Ω.arr 139 3 true 0 (.ts (d.aQ.map bz))]) (List.map_append (f:=fK) (l₁:=d.aT) (l₂:=[(⟨nm,n⟩:kY)])).symm) rfl ?_
 refine ae ?_ ?_
 ·exact⟨rfl,trivial⟩
 ·exact⟨rfl,rfl,rfl,rfl,rfl,rfl,rfl,rfl,rfl,b8 fK d.aT (⟨nm,n⟩:kY),rfl,trivial⟩
end Go.Proofs.YtcogcbplmkcojaaGreatDoor
namespace Go.Proofs.YtcogcbplmkcojaaGreatDoor
open Go.IntWalk
set_option maxRecDepth 100000
set_option linter.unusedVariables false
set_option linter.unusedSimpArgs false
set_option maxHeartbeats 4000000
theorem wX:∀(n:Nat) (s:PS) (c:lf) {s':PS} {c':lf},cN n s c=some (s',c')→aa s s'
 |0,s,c,s',c',h=>by cases h
 |n+1,s,c,s',c',h=>by
  unfold cN at h
  split at h
  ·cases h;exact⟨rfl,rfl⟩
  split at h
  ·cases h
  rename_i t rest aL
  split at h
  ·cases h
  rename_i t2 head hw
  split at h
  ·cases h
  rename_i i hi
  dsimp only at h
  split at h
  ·cases h
  split at h
  ·cases h
  rename_i t3 m hm
  split at h
  ·cases h
  rename_i t4 c4 h4
  split at h
  rotate_left 1
  ·cases h
  obtain⟨l,e,rfl⟩:=aN aL
  have p3:aa s t3:=aa.trans (s:=s) (t:=⟨s.d,l,s.args⟩) ⟨rfl,rfl⟩ (aa.trans (aS hw) (cO hm))
  have p4:aa t3 t4:=by
   split at h4
   ·cases h4;exact⟨rfl,rfl⟩
   ·cases h4;exact⟨rfl,rfl⟩
   ·split at h4
    ·rename_i t5 lo nu
     cases h4
     exact cO nu
    ·cases h4
   ·cases h4;exact⟨rfl,rfl⟩
  have p:=p3.trans p4
  have:=wX n _ _ h
  exact⟨this.1.trans p.1,this.2.trans p.2⟩
theorem JN:∀(n:Nat) (s:PS) (l:List T) {s':PS} {l':List T},cV s→xN n s l=some (s',l')→aa s s'
 |0,s,l,s',l',_,h=>by cases h
 |n+1,s,l,s',l',hs,h=>by
  unfold xN at h
  split at h
  ·cases h;exact⟨rfl,rfl⟩
  ·split at h
   rotate_left 1
   ·cases h
   rename_i u k hk
   split at h
   ·have p:=(BM 40 _ _ _ hs hk).1
    exact p.trans (JN n u _ (hs.same p) h)
   ·cases h
theorem DA:∀(n:Nat) (s:PS) (l:List (List UInt8)) {s':PS} {l':List (List UInt8)},jZ n s l=some (s',l')→aa s s'
 |0,s,l,s',l',h=>by cases h
 |n+1,s,l,s',l',h=>by
  unfold jZ at h
  split at h
  ·cases h;exact⟨rfl,rfl⟩
  ·split at h
   rotate_left 1
   ·cases h
   rename_i u w hw
   split at h
   ·exact(z9 hw).trans (DA n u _ h)
   ·cases h
def iE(s:PS):Prop:=cV s∧∀c∈s.d.classes,0≤c.bits∧c.bits≤1000000000000000000
theorem iE.same{s s':PS}(h:iE s)(e:aa s s'):iE s':=⟨h.1.same e,by rw[e.1];exact h.2⟩
theorem jS{s s':PS}{k:Nat}{w:List UInt8}(h:dJ s k=some (s',w)):(bO s' k).length<en k:=(dg h).2.2
theorem BX:∀(n:Nat) (s:PS) {s':PS},qH n s=some s'→s.args.length≤100000→s'.args.length≤100000
 |0,s,s',h,_=>by cases h
 |n+1,s,s',h,hl=>by
  unfold qH at h
  split at h
  ·cases h;exact hl
  ·split at h
   ·cases h
   rename_i u inner hu
   split at h
   ·cases h
   rename_i u2 name hf
   split at h
   ·cases h
   rename_i u3 c hk
   split at h
   ·refine BX n _ h ?_
    have h1:=jS hf
    have:u2.args.length<6:=by simpa[bO,en]using h1
    show(u3.args++[_]).length≤100000
    rw[(cn hk).2]
    simp;omega
   ·cases h
theorem JR{s s':PS}(hs:iE s)(h:CZ s=some s'):dp 58 5 s s'∧iE s':=by
 unfold CZ at h
 split at h
 ·cases h
 rename_i s1 name hf
 split at h
 ·cases h
 rename_i s2 num iC
 split at h
 ·cases h
 rename_i s3 kw iW
 split at h
 ·cases h
 rename_i kind fH
 split at h
 ·cases h
 rename_i s4 bytes oa
 split at h
 ·cases h
 rename_i s5 aU bn
 split at h
 ·cases h
 rename_i s6 nL kO
 have f3:aa s s3:=((bU hf).trans (cO iC)).trans (aS iW)
 have hk:=sX fH
 have ω:s.d.aw.length+1≤100000:=by
  have:=jS hf
  have:s1.d.aw.length<128:=by simpa[bO,en]using this
  rw[(bU hf).1]at this
  omega
 have hI:∀(x:jg) (r:List ay),iE ⟨{s.d with aw:=s.d.aw++[x]},r,s.args⟩:=fun x r=>⟨⟨hs.1.1,hs.1.2.1,hs.1.2.2.1,hs.1.2.2.2.1,hs.1.2.2.2.2.1,by show(s.d.aw++[x]).length≤100000;simp;omega,hs.1.2.2.2.2.2.2.1,hs.1.2.2.2.2.2.2.2.1,hs.1.2.2.2.2.2.2.2.2⟩,hs.2⟩
 have:kind=1∨kind=2∨kind=3∨kind=4:=by omega
 rcases this with rfl|rfl|rfl|rfl
 ·have oa:some (s3,(0:Int))=some (s4,bytes):=oa
  cases oa
  have bn:some (s3,(0:Int))=some (s5,aU):=bn
  cases bn
  have kO:some (s3,(0:Int))=some (s6,nL):=kO
  cases kO
  cases h
  rw[f3.1,f3.2]
  exact⟨Uj hs.1 hf iC iW fH,hI _ _⟩
 ·have oa:cK s3=some (s4,bytes):=oa
  have bn:some (s4,(0:Int))=some (s5,aU):=bn
  cases bn
  have kO:some (s4,(0:Int))=some (s6,nL):=kO
  cases kO
  have h:(match mb 40 s4 with|none=>none|some (s,(op,w,a,b),ks)=>match cN 10 s ⟨0,0,0,0, -1,0,[]⟩with|none=>none|some (s,c)=>some (⟨{s.d with aw:=s.d.aw++[⟨name,num,((2:Nat):Int),bytes,0,0,op,w,a,b,ks,c.sign,c.width,c.align,c.round,c.hi,c.lo⟩]},s.rest,s.args⟩:PS))=some s':=h
  split at h
  ·cases h
  rename_i s8 op w a b ks kx
  split at h
  ·cases h
  rename_i s9 c9 j3
  cases h
  have p:=((f3.trans (cO oa)).trans (qO 40 _ _ _ _ _ _ _ kx).1).trans (wX _ _ _ j3)
  rw[p.1,p.2]
  exact⟨Ui hs.1 hf iC iW fH oa kx j3,hI _ _⟩
 ·have oa:some (s3,(0:Int))=some (s4,bytes):=oa
  cases oa
  have bn:(match bY s3 4 with|some (s,c)=>some (s,(c:Int))|none=>none)=some (s5,aU):=bn
  split at bn
  rotate_left 1
  ·cases bn
  rename_i RQ cl Lo
  cases bn
  have kO:some (s5,(0:Int))=some (s6,nL):=kO
  cases kO
  have h:(match mb 40 s5 with|none=>none|some (s,(op,w,a,b),ks)=>match cN 10 s ⟨0,0,0,0, -1,0,[]⟩with|none=>none|some (s,c)=>some (⟨{s.d with aw:=s.d.aw++[⟨name,num,((3:Nat):Int),0,(cl:Int),0,op,w,a,b,ks,c.sign,c.width,c.align,c.round,c.hi,c.lo⟩]},s.rest,s.args⟩:PS))=some s':=h
  split at h
  ·cases h
  rename_i s8 op w a b ks kx
  split at h
  ·cases h
  rename_i s9 c9 j3
  cases h
  have p:=((f3.trans (cn Lo)).trans (qO 40 _ _ _ _ _ _ _ kx).1).trans (wX _ _ _ j3)
  rw[p.1,p.2]
  exact⟨Uh hs.1 hf iC iW fH Lo kx j3,hI _ _⟩
 ·have oa:some (s3,(0:Int))=some (s4,bytes):=oa
  cases oa
  have bn:(match bY s3 4 with|some (s,c)=>some (s,(c:Int))|none=>none)=some (s5,aU):=bn
  split at bn
  rotate_left 1
  ·cases bn
  rename_i RQ cl Lo
  cases bn
  have kO:(match bY s5 4 with|some (s,c)=>some (s,(c:Int))|none=>none)=some (s6,nL):=kO
  split at kO
  rotate_left 1
  ·cases kO
  rename_i Zl ER Vq
  cases kO
  have h:(match mb 40 s6 with|none=>none|some (s,(op,w,a,b),ks)=>match cN 10 s ⟨0,0,0,0, -1,0,[]⟩with|none=>none|some (s,c)=>some (⟨{s.d with aw:=s.d.aw++[⟨name,num,((4:Nat):Int),0,(cl:Int),(ER:Int),op,w,a,b,ks,c.sign,c.width,c.align,c.round,c.hi,c.lo⟩]},s.rest,s.args⟩:PS))=some s':=h
  split at h
  ·cases h
  rename_i s8 op w a b ks kx
  split at h
  ·cases h
  rename_i s9 c9 j3
  cases h
  have p:=(((f3.trans (cn Lo)).trans (cn Vq)).trans (qO 40 _ _ _ _ _ _ _ kx).1).trans (wX _ _ _ j3)
  rw[p.1,p.2]
  exact⟨Ug hs.1 hf iC iW fH Lo Vq kx j3,hI _ _⟩
theorem Ot{s s':PS}(hs:iE s)(h:uv s=some s'):iE s':=by
 unfold uv at h
 split at h
 ·cases h
 rename_i s0 name hn
 split at h
 ·cases h
 split at h
 ·cases h
 split at h
 ·cases h
 rename_i s1 nm hf
 split at h
 ·cases h
 rename_i s2 count hc
 split at h
 ·cases h
 rename_i s3 width hw
 have p:aa s s3:=((bU hf).trans (cO hc)).trans (cO hw)
 have ω:s.d.files.length+1≤100000:=by
  have:=jS hf
  have:s1.d.files.length<8:=by simpa[bO,en]using this
  rw[(bU hf).1]at this
  omega
 have hI:∀(x:jW) (r:List ay),iE ⟨{s.d with files:=s.d.files++[x]},r,s.args⟩:=fun x r=>⟨⟨by show(s.d.files++[x]).length≤100000;simp;omega,hs.1.2.1,hs.1.2.2.1,hs.1.2.2.2.1,hs.1.2.2.2.2.1,hs.1.2.2.2.2.2.1,hs.1.2.2.2.2.2.2.1,hs.1.2.2.2.2.2.2.2.1,hs.1.2.2.2.2.2.2.2.2⟩,hs.2⟩
 split at h
 ·split at h
  rotate_left 1
  ·cases h
  rename_i s5 z hz
  cases h
  have jx:aa s3 s5:=cO (s:=ji s3) hz
  have p:=p.trans jx
  rw[p.1,p.2]
  exact hI _ _
 ·cases h
  rw[p.1,p.2]
  exact hI _ _
theorem Ma{s s':PS}(hs:iE s)(h:rM s=some s'):iE s':=by
 unfold rM at h
 split at h
 ·cases h
 rename_i s1 name hf
 split at h
 ·cases h
 rename_i s2 kw iW
 split at h
 ·cases h
 rename_i kind fH
 split at h
 ·cases h
 rename_i s3 file fX
 split at h
 ·cases h
 rename_i s4 bits fx
 split at h
 ·cases h
 rename_i s5 plus pf
 split at h
 ·cases h
 rename_i s6 shift lO
 split at h
 ·cases h
 rename_i s7 aY hex
 cases h
 have f2:aa s s2:=(bU hf).trans (aS iW)
 have f3:aa s2 s3:=by
  split at fX
  ·split at fX
   ·rename_i hk
    cases fX
    exact cn hk
   ·cases fX
  ·cases fX;exact⟨rfl,rfl⟩
 have f67:aa s6 s7:=by
  cases hp:ej s6 [101,120,99,101,112,116]with
  |true=>rw[hp]at hex;exact(wa _ (ji s6) _ hex)
  |false=>rw[hp]at hex;cases hex;exact⟨rfl,rfl⟩
 have p:aa s s7:=((((f2.trans f3).trans (cO fx)).trans (tV pf)).trans (tV lO)).trans f67
 have ω:s.d.classes.length+1≤100000:=by
  have:=jS hf
  have:s1.d.classes.length<64:=by simpa[bO,en]using this
  rw[(bU hf).1]at this
  omega
 obtain⟨_,_,_,ze,j4⟩:=sc fx
 rw[p.1,p.2]
 refine⟨⟨hs.1.1,hs.1.2.1,hs.1.2.2.1,by show(s.d.classes++[_]).length≤100000;simp;omega,hs.1.2.2.2.2.1,hs.1.2.2.2.2.2.1,hs.1.2.2.2.2.2.2.1,hs.1.2.2.2.2.2.2.2.1,hs.1.2.2.2.2.2.2.2.2⟩,fun c hc=> ?_⟩
 have hc:c∈s.d.classes++[_]:=hc
 rcases List.mem_append.1 hc with hc|hc
 ·exact hs.2 c hc
 ·rw[List.mem_singleton.1 hc]
  exact⟨ze,j4⟩
theorem Ol{s s':PS}(hs:iE s)(h:um s=some s'):iE s':=by
 unfold um at h
 split at h
 ·cases h
 rename_i s1 name hf
 split at h
 ·cases h
 rename_i s2 eE DR
 split at h
 ·cases h
 rename_i s3 oV lG
 split at h
 ·cases h
 rename_i s4 gS
 split at h
 ·cases h
 rename_i s5 yC vQ
 split at h
 ·cases h
 rename_i s6 ps Pf
 split at h
 ·cases h
 rename_i s7 tL Ps
 split at h
 ·cases h
 rename_i s8 h_ NZ
 cases h
 have f1:aa ⟨s.d,s.rest,[]⟩ s1:=bU hf
 have ω:s.d.forms.length+1≤100000:=by
  have:=jS hf
  have:s1.d.forms.length<512:=by simpa[bO,en]using this
  rw[f1.1]at this
  have:s.d.forms.length<512:=this
  omega
 have f2:aa ⟨s.d,s.rest,[]⟩ s2:=f1.trans (z9 DR)
 obtain⟨l3,e3,rfl⟩:=aN lG
 have e4:=AK _ _ gS
 have hG:s4.args.length≤100000:=BX _ _ gS (by show s2.args.length≤100000;rw[f2.2];exact Nat.zero_le _)
 obtain⟨l5,e5,rfl⟩:=aN vQ
 have e6:=xT _ _ _ Pf
 obtain⟨l7,e7,rfl⟩:=aN Ps
 have e8:aa s6 s8:=JN _ ⟨s6.d,l7,s6.args⟩ _ (by
  have bE:cV ⟨s6.d,l7,s6.args⟩:=by
   have hd:s6.d=s.d:=e6.1.trans (e4.trans f2.1)
   have hg:s6.args=s4.args:=e6.2
   rw[hd,hg]
   exact⟨hs.1.1,hs.1.2.1,hs.1.2.2.1,hs.1.2.2.2.1,hs.1.2.2.2.2.1,hs.1.2.2.2.2.2.1,hs.1.2.2.2.2.2.2.1,hs.1.2.2.2.2.2.2.2.1,hG⟩
  exact bE) NZ
 have hd:s8.d=s.d:=e8.1.trans (e6.1.trans (e4.trans f2.1))
 have hg:s8.args=s4.args:=e8.2.trans e6.2
 rw[hd,hg]
 exact⟨⟨hs.1.1,hs.1.2.1,hs.1.2.2.1,hs.1.2.2.2.1,by show(s.d.forms++[_]).length≤100000;simp;omega,hs.1.2.2.2.2.2.1,hs.1.2.2.2.2.2.2.1,hs.1.2.2.2.2.2.2.2.1,hG⟩,hs.2⟩
theorem KG{s s':PS}(hs:iE s)(h:ri s=some s'):iE s':=by
 unfold ri at h
 split at h
 ·cases h
 split at h
 ·cases h
 rename_i s1 eE DR
 split at h
 ·cases h
 rename_i s2 rel oI
 split at h
 ·cases h
 rename_i s3 rest aL
 split at h
 ·cases h
 rename_i s4 lines uQ
 cases h
 have f2:aa s1 s2:=by
  cases hp:ej s1 [110,111,110,101]with
  |true=>rw[hp]at oI;cases oI;exact⟨rfl,rfl⟩
  |false=>
   rw[hp]at oI
   dsimp only at oI
   split at oI
   ·rename_i hk
    cases oI
    exact cn hk
   ·cases oI
 obtain⟨l3,e3,rfl⟩:=aN aL
 have f4:aa s2 s4:=DA _ ⟨s2.d,l3,s2.args⟩ _ uQ
 have p:aa s s4:=((z9 DR).trans f2).trans f4
 rw[p.1,p.2]
 exact⟨hs.1,hs.2⟩
theorem Ql{s s':PS}(hs:iE s)(h:xF s=some s'):iE s':=by
 unfold xF at h
 split at h
 ·cases h
 split at h
 ·cases h
 rename_i s1 m hm
 split at h
 ·cases h
 rename_i s2 c hc
 split at h
 ·cases h
 rename_i s3 r hr
 have p0:aa s s1:=aS hm
 have p:aa s s3:=(p0.trans (cn hc)).trans (cn hr)
 dsimp only at h
 split at h
 ·cases h
  rw[p.1,p.2]
  exact⟨hs.1,hs.2⟩
 ·cases h
  rw[p.1,p.2]
  exact⟨hs.1,hs.2⟩
theorem QY{s s':PS}{first:Bool}(hs:iE s)(h:yU s first=some s'):∃k,k≤11∧eK s first k s'∧iE s':=by
 unfold yU at h
 split at h
 ·cases h
 rename_i s1 x aL
 split at h
 ·cases h
 rename_i s2 head hw
 have p2:aa s s2:=by
  obtain⟨l,e,rfl⟩:=aN aL
  exact aS (s:=⟨s.d,l,s.args⟩) hw
 have fp:iE s2:=hs.same p2
 cases N7:cY head 0 [[105,115,97],[102,105,108,101],[97,108,105,97,115],[114,101,103],[102,108,97,103],[99,108,97,115,115],[102,111,114,109],[109,97,99,114,111],[114,101,108],[117,115,101],[114,101,108,97,120],[110,117,109]]with
 |none=>rw[N7]at h;cases h
 |some j=>
 rw[N7]at h
 obtain⟨i,v,e1,q2,q3⟩:=a_ _ _ _ _ N7
 match i,q2 with
 |0,q2=>
  cases q2
  subst q3
  obtain rfl:j=0:=by omega
  cases first with
  |false=>cases h
  |true=>
  have h:(match(match bL s2 with|none=>none|some (s,name)=>match bL s with|none=>none|some (s,order)=>match ky order [119,111,114,100]with|true=>some (⟨{s.d with name:=name,order:=1},s.rest,s.args⟩:PS)|false=>match ky order [98,121,116,101,115]with|true=>some ⟨{s.d with name:=name,order:=2},s.rest,s.args⟩|false=>none)with|none=>none|some s=>match aP s with|true=>some s|false=>none)=some s':=h
  cases h3:bL s2 with
  |none=>rw[h3]at h;cases h
  |some y=>
  obtain⟨s3,nm⟩:=y
  rw[h3]at h
  dsimp only at h
  cases h4:bL s3 with
  |none=>rw[h4]at h;cases h
  |some y=>
  obtain⟨s4,order⟩:=y
  rw[h4]at h
  dsimp only at h
  have p4:aa s s4:=(p2.trans (aS h3)).trans (aS h4)
  cases ho:ky order [119,111,114,100]with
  |true=>
   obtain rfl:=lu _ _ ho
   rw[ho]at h
   dsimp only at h
   split at h
   rotate_left 1
   ·cases h
   rename_i he
   cases h
   rw[p4.1,p4.2]
   exact⟨11,Nat.le_refl _,KN aL hw h3 h4 he,⟨hs.1,hs.2⟩⟩
  |false=>
   rw[ho]at h
   dsimp only at h
   cases SG:ky order [98,121,116,101,115]with
   |false=>rw[SG]at h;cases h
   |true=>
    obtain rfl:=lu _ _ SG
    rw[SG]at h
    dsimp only at h
    split at h
    rotate_left 1
    ·cases h
    rename_i he
    cases h
    rw[p4.1,p4.2]
    exact⟨11,Nat.le_refl _,KM aL hw h3 h4 he,⟨hs.1,hs.2⟩⟩
 |1,q2=>
  cases q2
  subst q3
  obtain rfl:j=1:=by omega
  cases first with
  |true=>cases h
  |false=>
  have h:(match(uv s2)with|none=>none|some s=>match aP s with|true=>some s|false=>none)=some s':=h
  cases hf:uv s2 with
  |none=>rw[hf]at h;cases h
  |some s3=>
  rw[hf]at h
  dsimp only at h
  split at h
  rotate_left 1
  ·cases h
  rename_i he
  cases h
  exact⟨0,by decide,KQ aL hw (Q6 fp.1 hf) he,Ot fp hf⟩
 |2,q2=>
  cases q2
  subst q3
  obtain rfl:j=2:=by omega
  cases first with
  |true=>cases h
  |false=>
  have h:(match(match p7 s2 2 with|some (s,x)=>some ⟨{s.d with ag:=s.d.ag++[x]},s.rest,s.args⟩|none=>none)with|none=>none|some s=>match aP s with|true=>some s|false=>none)=some s':=h
  cases ha:p7 s2 2 with
  |none=>rw[ha]at h;cases h
  |some y=>
  obtain⟨s5,al⟩:=y
  rw[ha]at h
  dsimp only at h
  split at h
  rotate_left 1
  ·cases h
  rename_i he
  cases h
  unfold p7 at ha
  split at ha
  ·cases ha
  rename_i s3 nm h3
  split at ha
  ·cases ha
  rename_i s4 f h4
  split at ha
  rotate_left 1
  ·cases ha
  rename_i RQ n h5
  cases ha
  have ω:s.d.ag.length+1≤100000:=by
   have:=jS h3
   have:s3.d.ag.length<256:=by simpa[bO,en]using this
   rw[(bU h3).1,p2.1]at this
   omega
  have p5:aa s s5:=((p2.trans (bU h3)).trans (cn h4)).trans (cO h5)
  rw[p5.1,p5.2]
  exact⟨1,by decide,HR hs.1 aL hw h3 h4 h5 he,⟨⟨hs.1.1,(by show(s.d.ag++[_]).length≤100000;simp;omega),hs.1.2.2.1,hs.1.2.2.2.1,hs.1.2.2.2.2.1,hs.1.2.2.2.2.2.1,hs.1.2.2.2.2.2.2.1,hs.1.2.2.2.2.2.2.2.1,hs.1.2.2.2.2.2.2.2.2⟩,hs.2⟩⟩
 |3,q2=>
  cases q2
  subst q3
  obtain rfl:j=3:=by omega
  cases first with
  |true=>cases h
  |false=>
  have h:(match(match p7 s2 9 with|some (s,x)=>some ⟨{s.d with aQ:=s.d.aQ++[x]},s.rest,s.args⟩|none=>none)with|none=>none|some s=>match aP s with|true=>some s|false=>none)=some s':=h
  cases ha:p7 s2 9 with
  |none=>rw[ha]at h;cases h
  |some y=>
  obtain⟨s5,al⟩:=y
  rw[ha]at h
  dsimp only at h
  split at h
  rotate_left 1
  ·cases h
  rename_i he
  cases h
  unfold p7 at ha
  split at ha
  ·cases ha
  rename_i s3 nm h3
  split at ha
  ·cases ha
  rename_i s4 f h4
  split at ha
  rotate_left 1
  ·cases ha
  rename_i RQ n h5
  cases ha
  have ω:s.d.aQ.length+1≤100000:=by
   have:=jS h3
   have:s3.d.aQ.length<64:=by simpa[bO,en]using this
   rw[(bU h3).1,p2.1]at this
   omega
  have p5:aa s s5:=((p2.trans (bU h3)).trans (cn h4)).trans (cO h5)
  rw[p5.1,p5.2]
  exact⟨10,by decide,NP hs.1 aL hw h3 h4 h5 he,⟨⟨hs.1.1,hs.1.2.1,hs.1.2.2.1,hs.1.2.2.2.1,hs.1.2.2.2.2.1,hs.1.2.2.2.2.2.1,hs.1.2.2.2.2.2.2.1,(by show(s.d.aQ++[_]).length≤100000;simp;omega),hs.1.2.2.2.2.2.2.2.2⟩,hs.2⟩⟩
 |4,q2=>
  cases q2
  subst q3
  obtain rfl:j=4:=by omega
  cases first with
  |true=>cases h
  |false=>
  have h:(match(match dJ s2 3 with|some (s,w)=>some ⟨{s.d with flags:=s.d.flags++[w]},s.rest,s.args⟩|none=>none)with|none=>none|some s=>match aP s with|true=>some s|false=>none)=some s':=h
  cases h3:dJ s2 3 with
  |none=>rw[h3]at h;cases h
  |some y=>
  obtain⟨s3,w⟩:=y
  rw[h3]at h
  dsimp only at h
  split at h
  rotate_left 1
  ·cases h
  rename_i he
  cases h
  have ω:s.d.flags.length+1≤100000:=by
   have:=jS h3
   have:s3.d.flags.length<16:=by simpa[bO,en]using this
   rw[(bU h3).1,p2.1]at this
   omega
  have p3:aa s s3:=p2.trans (bU h3)
  rw[p3.1,p3.2]
  exact⟨2,by decide,KP hs.1 aL hw h3 he,⟨⟨hs.1.1,hs.1.2.1,(by show(s.d.flags++[_]).length≤100000;simp;omega),hs.1.2.2.2.1,hs.1.2.2.2.2.1,hs.1.2.2.2.2.2.1,hs.1.2.2.2.2.2.2.1,hs.1.2.2.2.2.2.2.2.1,hs.1.2.2.2.2.2.2.2.2⟩,hs.2⟩⟩
 |5,q2=>
  cases q2
  subst q3
  obtain rfl:j=5:=by omega
  cases first with
  |true=>cases h
  |false=>
  have h:(match(rM s2)with|none=>none|some s=>match aP s with|true=>some s|false=>none)=some s':=h
  cases hf:rM s2 with
  |none=>rw[hf]at h;cases h
  |some s3=>
  rw[hf]at h
  dsimp only at h
  split at h
  rotate_left 1
  ·cases h
  rename_i he
  cases h
  exact⟨3,by decide,HP aL hw (OD fp.1 hf) he,Ma fp hf⟩
 |6,q2=>
  cases q2
  subst q3
  obtain rfl:j=6:=by omega
  cases first with
  |true=>cases h
  |false=>
  have h:(match(um s2)with|none=>none|some s=>match aP s with|true=>some s|false=>none)=some s':=h
  cases hf:um s2 with
  |none=>rw[hf]at h;cases h
  |some s3=>
  rw[hf]at h
  dsimp only at h
  split at h
  rotate_left 1
  ·cases h
  rename_i he
  cases h
  exact⟨4,by decide,KO aL hw (Q5 fp.1 fp.2 hf) he,Ol fp hf⟩
 |7,q2=>
  cases q2
  subst q3
  obtain rfl:j=7:=by omega
  cases first with
  |true=>cases h
  |false=>
  have h:(match(ri s2)with|none=>none|some s=>match aP s with|true=>some s|false=>none)=some s':=h
  cases hf:ri s2 with
  |none=>rw[hf]at h;cases h
  |some s3=>
  rw[hf]at h
  dsimp only at h
  split at h
  rotate_left 1
  ·cases h
  rename_i he
  cases h
  exact⟨8,by decide,HO aL hw (NG fp.1 hf) he,KG fp hf⟩
 |8,q2=>
  cases q2
  subst q3
  obtain rfl:j=8:=by omega
  cases first with
  |true=>cases h
  |false=>
  have h:(match(CZ s2)with|none=>none|some s=>match aP s with|true=>some s|false=>none)=some s':=h
  cases hf:CZ s2 with
  |none=>rw[hf]at h;cases h
  |some s3=>
  rw[hf]at h
  dsimp only at h
  split at h
  rotate_left 1
  ·cases h
  rename_i he
  cases h
  exact⟨5,by decide,NO aL hw ((JR fp hf).1) he,(JR fp hf).2⟩
 |9,q2=>
  cases q2
  subst q3
  obtain rfl:j=9:=by omega
  cases first with
  |true=>cases h
  |false=>
  have h:(match(xF s2)with|none=>none|some s=>match aP s with|true=>some s|false=>none)=some s':=h
  cases hf:xF s2 with
  |none=>rw[hf]at h;cases h
  |some s3=>
  rw[hf]at h
  dsimp only at h
  split at h
  rotate_left 1
  ·cases h
  rename_i he
  cases h
  exact⟨6,by decide,NN aL hw (RD fp.1 hf) he,Ql fp hf⟩
 |10,q2=>
  cases q2
  subst q3
  obtain rfl:j=10:=by omega
  cases first with
  |true=>cases h
  |false=>
  have h:(match(match Nat.blt s2.d.av.length 16 with|false=>none|true=>match bY s2 6 with|none=>none|some (s,r)=>match bY s 5 with|none=>none|some (s,f)=>match bY s 6 with|some (s,t)=>some ⟨{s.d with av:=s.d.av++[⟨(r:Int),(f:Int),(t:Int)⟩]},s.rest,s.args⟩|none=>none)with|none=>none|some s=>match aP s with|true=>some s|false=>none)=some s':=h
  cases hl:Nat.blt s2.d.av.length 16 with
  |false=>rw[hl]at h;cases h
  |true=>
  rw[hl]at h
  rw[Nat.blt_eq]at hl
  dsimp only at h
  cases h3:bY s2 6 with
  |none=>rw[h3]at h;cases h
  |some y=>
  obtain⟨s3,a⟩:=y
  rw[h3]at h
  dsimp only at h
  cases h4:bY s3 5 with
  |none=>rw[h4]at h;cases h
  |some y=>
  obtain⟨s4,b⟩:=y
  rw[h4]at h
  dsimp only at h
  cases h5:bY s4 6 with
  |none=>rw[h5]at h;cases h
  |some y=>
  obtain⟨s5,c⟩:=y
  rw[h5]at h
  dsimp only at h
  split at h
  rotate_left 1
  ·cases h
  rename_i he
  cases h
  have p5:aa s s5:=((p2.trans (cn h3)).trans (cn h4)).trans (cn h5)
  rw[p5.1,p5.2]
  exact⟨7,by decide,HN hs.1 aL hw hl h3 h4 h5 he,hs.1,hs.2⟩
 |11,q2=>
  cases q2
  subst q3
  obtain rfl:j=11:=by omega
  cases first with
  |true=>cases h
  |false=>
  have h:(match(match dJ s2 8 with|some (s,w)=>(match mC s with|some (s,n)=>some ⟨{s.d with aT:=s.d.aT++[⟨w,n⟩]},s.rest,s.args⟩|none=>none)|none=>none)with|none=>none|some s=>match aP s with|true=>some s|false=>none)=some s':=h
  cases h3:dJ s2 8 with
  |none=>rw[h3]at h;cases h
  |some y=>
  obtain⟨s3,w⟩:=y
  rw[h3]at h
  dsimp only at h
  cases h4:mC s3 with
  |none=>rw[h4]at h;cases h
  |some y=>
  obtain⟨s4,n⟩:=y
  rw[h4]at h
  dsimp only at h
  split at h
  rotate_left 1
  ·cases h
  rename_i he
  cases h
  have ω:s.d.aT.length+1≤100000:=by
   have:=jS h3
   have:s3.d.aT.length<64:=by simpa[bO,en]using this
   rw[(bU h3).1,p2.1]at this
   omega
  have p4:aa s s4:=(p2.trans (bU h3)).trans (KS h4)
  rw[p4.1,p4.2]
  exact⟨9,by decide,NQ hs.1 aL hw h3 h4 he,⟨⟨hs.1.1,hs.1.2.1,hs.1.2.2.1,hs.1.2.2.2.1,hs.1.2.2.2.2.1,hs.1.2.2.2.2.2.1,(by show(s.d.aT++[_]).length≤100000;simp;omega),hs.1.2.2.2.2.2.2.2.1,hs.1.2.2.2.2.2.2.2.2⟩,hs.2⟩⟩
 |i+12,q2=>cases q2
end Go.Proofs.YtcogcbplmkcojaaGreatDoor
