/-
  The ground of the walks of this seat, part PO.
-/
import Derived.Test.YtcogcbplmkcojaaGreatDoorKPJ
namespace Go.Proofs.YtcogcbplmkcojaaGreatDoor
open Go.IntWalk
set_option maxRecDepth 100000
set_option linter.unusedVariables false
set_option linter.unusedSimpArgs false
set_option maxHeartbeats 4000000
theorem mY{k0:Nat}{env:List (Nat×AV)}{H:AH}(b:Nat){e s:Nat}{z:Bool}{g:Nat}{A:List T}{us:List T}(ts:List T)(hb:H[b]?=some (.arr e s z g (.ts (A++[.agg us]))))(hl:ts.length=us.length)
 (h:∀(j:Nat) y t,us[j]?=some y→ts[j]?=some t→a9 y t):aB k0 ⟨env,H⟩ ⟨env,iz b (.arr e s z g (.ts (A++[.agg ts]))) [] 0 H⟩:=by
 refine ja [] (pK _ _ _ _ _) (fun b' aA aD=> ?_) (fun t=> .inr (.same _))
 replace aD:(iz b (.arr e s z g (.ts (A++[.agg ts]))) [] 0 H)[b']?=some aA:=aD
 rw[pL,Nat.zero_add,Option.map_eq_some_iff]at aD
 obtain⟨x,hx,aC⟩:=aD
 split at aC
 ·rename_i e1
  obtain rfl:=Nat.eq_of_beq_eq_true e1
  subst aC
  refine .inr ⟨by simp,_,hb,.arr e s z g _ _ (by simp[Sq.length]) fun i x' hi=> ?_⟩
  simp only[Sq.get,Option.map_eq_some_iff]at hi⊢
  obtain⟨t,hi,rfl⟩:=hi
  by_cases ω:i<A.length
  ·rw[List.getElem?_append_left ω]at hi
   exact⟨.t t,⟨t,by rw[List.getElem?_append_left ω];exact hi,rfl⟩,rfl,fun j y' hj=>⟨y',hj,.same _⟩⟩
  ·rw[List.getElem?_append_right (by omega)]at hi
   have vR:i - A.length=0:=by have:=κ hi;simp at this;omega
   rw[vR]at hi
   simp at hi
   subst hi
   refine⟨.t (.agg us),⟨_,by rw[List.getElem?_append_right (by omega),vR];rfl,rfl⟩,by simp[AV.cells,hl],fun j y' hj=> ?_⟩
   simp only[AV.cells,List.getElem?_map,Option.map_eq_some_iff]at hj
   obtain⟨t,ht,rfl⟩:=hj
   have eQ:j<us.length:=by have:=κ ht;omega
   exact⟨.t us[j],by simp[AV.cells,List.getElem?_eq_getElem eQ],.sub _ _ (h j _ t (List.getElem?_eq_getElem eQ) ht)⟩
 ·subst aC
  exact .inr ⟨by simp,x,hx,.same _⟩
def EP:List (List UInt8):=[[],[114,101,103],[117,110,115],[115,103,110],[112,99],[110,120]]
theorem wj{kw:List UInt8}{kind:Nat}(h:cY kw 1 [[114,101,103],[117,110,115],[115,103,110],[112,99],[110,120]]=some kind):gB kw EP=(kind:Int)∧1≤kind∧kind≤5:=by
 obtain⟨i,x,rfl,hx,rfl⟩:=a_ _ _ _ _ h
 match i,hx with
 |0,hx=>cases hx;exact⟨by decide,by decide,by decide⟩
 |1,hx=>cases hx;exact⟨by decide,by decide,by decide⟩
 |2,hx=>cases hx;exact⟨by decide,by decide,by decide⟩
 |3,hx=>cases hx;exact⟨by decide,by decide,by decide⟩
 |4,hx=>cases hx;exact⟨by decide,by decide,by decide⟩
 |i+5,hx=>cases hx
theorem Rm{d:ο}{g:List cP}{r0:List ay}{s1 s2 s3 s4 s5 s6:PS}{name kw:List UInt8}{bits plus:Int}{aY:List Int}(hs:cV ⟨d,r0,g⟩)(hf:dJ ⟨d,r0,g⟩ 4=some (s1,name))(iW:bL s1=some (s2,kw))(fH:cY kw 1 [[114,101,103],[117,110,115],[115,103,110],[112,99],[110,120]]=some 1)
 {file:Nat} (fX:bY s2 1=some (s3,file))
 (fx:cK s3=some (s4,bits)) (mD:(match ej s4 [112,108,117,115]with|true=>cK (ji s4)|false=>some (s4,(0:Int)))=some (s5,plus))
 (hex:(match ej s5 [101,120,99,101,112,116]with|true=>dd 10 (ji s5) []|false=>some (s5,([]:List Int)))=some (s6,aY)):
 dp 55 3 ⟨d,r0,g⟩ ⟨{d with classes:=d.classes++[⟨name,1,(file:Int),bits,0,plus,aY⟩]},s6.rest,g⟩:=by
 have f1:aa ⟨d,r0,g⟩ s1:=bU hf
 have f2:aa ⟨d,r0,g⟩ s2:=f1.trans (aS iW)
 have ω:d.classes.length+1≤100000:=by
  have:=(dg hf).2.2
  have:s1.d.classes.length<64:=by simpa[bO,en]using this
  rw[f1.1]at this
  have:d.classes.length<64:=this
  omega
 have h1:=fT hs (by decide) hf
 have h2:=bH iW
 obtain⟨fw,cZ,Xx⟩:=wj fH
 have hX:=cT EP kw (by decide)
 rw[fw]at hX
 have f3:aa ⟨d,r0,g⟩ s3:=f2.trans (cn fX)
 have h3:=er (hs.same f2) (by decide) fX
 have f4:aa ⟨d,r0,g⟩ s4:=f3.trans (cO fx)
 have h4:=di fx
 have hP:=lm s4 [112,108,117,115] _ rfl
 obtain⟨d1,r1,g1⟩:=s1
 obtain rfl:d=d1:=f1.1.symm
 obtain rfl:g=g1:=f1.2.symm
 obtain⟨d2,r2,g2⟩:=s2
 obtain rfl:d=d2:=f2.1.symm
 obtain rfl:g=g2:=f2.2.symm
 obtain⟨d3,r3,g3⟩:=s3
 obtain rfl:d=d3:=f3.1.symm
 obtain rfl:g=g3:=f3.2.symm
 obtain⟨d4,r4,g4⟩:=s4
 obtain rfl:d=d4:=f4.1.symm
 obtain rfl:g=g4:=f4.2.symm
 cases hp:ej ⟨d,r4,g⟩ [112,108,117,115]with
 |true=>
  rw[hp]at mD
  rw[show List.map (fun x=>UInt8.toNat x) [112,108,117,115]=[112,108,117,115]from rfl,hp]at hP
  obtain⟨t7,r7,Ow⟩:=gO hp
  obtain rfl:r4=_:=Ow
  have mD:cK ⟨d,r7,g⟩=some (s5,plus):=mD
  have h5:=di mD
  have f5:aa ⟨d,r7,g⟩ s5:=cO mD
  obtain⟨d5,r5,g5⟩:=s5
  obtain rfl:d=d5:=f5.1.symm
  obtain rfl:g=g5:=f5.2.symm
  have hQ:=lm ⟨d,r5,g⟩ [101,120,99,101,112,116] _ rfl
  cases iV:ej ⟨d,r5,g⟩ [101,120,99,101,112,116]with
  |true=>
   rw[iV]at hex
   rw[show List.map (fun x=>UInt8.toNat x) [101,120,99,101,112,116]=[101,120,99,101,112,116]from rfl,iV]at hQ
   obtain⟨te,re,yh⟩:=gO iV
   obtain rfl:r5=_:=yh
   have hex:dd 10 ⟨d,re,g⟩ []=some (s6,aY):=hex
   unfold dp
   refine aW ?_
   refine γ.ξ ζ η Tryz.func55 rfl rfl ?_
   refine ι h1 (by rfl) (by rfl) ?_
   refine ι h2 (by rfl) (by rfl) ?_
   refine γ.cx hX rfl ⟨.vec 1 _,.refl _,trivial⟩ rfl ?_
   refine ι (Φ d _ _ rfl 41) (by rfl) (by rfl) ?_
   refine ι h3 (by rfl) (by rfl) ?_
   refine ι h4 (by rfl) (by rfl) ?_
   refine ι hP (by rfl) (by rfl) ?_
   refine ε (fO _ _) ?_
   refine wR h5 (by rfl) rfl ?_
   refine ι hQ (by rfl) (by rfl) ?_
   refine ε (fO _ _) ?_
   refine ao (fun x:Nat×List ay×List Int=>dd x.1 ⟨d,x.2.1,g⟩ x.2.2=some (s6,aY)) (fun x:Nat×List ay×List Int=>⟨[(1,.ptr 11 0 0 0),(2,.ptr 12 0 0 0),(3,.ptr 13 0 0 0)],dH d++[.box (eG d (Δ x.2.1) (g.map Λ)),.box dh,.box [.t (.str name),.t (.int .i64 1),.t (.int .i64 (file:Int)),.t (.int .i64 bits),.t (.int .i64 0),.t (.int .i64 plus),.sl 14 0 0 x.2.2.length],.arr 3 1 true 0 (.ts (x.2.2.map (T.int .i64)))]⟩) (fun x=>x.1) (10,re,[]) hex ?_ (fun⟨n,R,L⟩ hx=> ?_)
   ·refine aB.trans (τ (s':=⟨[(1,.ptr 11 0 0 0),(2,.ptr 12 0 0 0),(3,.ptr 13 0 0 0)],rL d [.box (eG d (Δ re) (g.map Λ)),.box dh,.box [.t (.str name),.t (.int .i64 1),.t (.int .i64 (file:Int)),.t (.int .i64 bits),.t (.int .i64 0),.t (.int .i64 plus),.t .af]]⟩) [0,1,2,3,4,5,6,7,8,9,10,11,12,13] rfl ⟨rfl,rfl,rfl,trivial⟩ ⟨rfl,rfl,rfl,rfl,rfl,rfl,rfl,rfl,rfl,rfl,rfl,congrArg (fun l=>some (Ω.box (eG d l (g.map Λ)))) (j7 (lX te) (Δ re)),rfl,rfl,trivial⟩) ?_
    exact jJ (cs:=[.t (.str name),.t (.int .i64 1),.t (.int .i64 (file:Int)),.t (.int .i64 bits),.t (.int .i64 0),.t (.int .i64 plus),.t .af]) 13 6 _ _ rfl rfl
   have hx:dd n ⟨d,R,g⟩ L=some (s6,aY):=hx
   cases n with
   |zero=>cases hx
   |succ n=>
    unfold dd at hx
    cases R with
    |nil=>
     cases hx
     refine Or.inl (And.intro (List.length_map _).symm (ε (cL ω rfl) ?_))
     refine aB.trans (iL 3 [14] (A:=d.classes.map aF) (i_ (aF ⟨name,1,(file:Int),bits,0,plus,aY⟩)) rfl rfl rfl (fun j y t hy ht=>by
      match j,hy,ht with
      |0,hy,ht=>cases hy;cases ht;exact .same _
      |1,hy,ht=>cases hy;cases ht;exact .same _
      |2,hy,ht=>cases hy;cases ht;exact .same _
      |3,hy,ht=>cases hy;cases ht;exact .same _
      |4,hy,ht=>cases hy;cases ht;exact .same _
      |5,hy,ht=>cases hy;cases ht;exact .same _
      |6,hy,ht=>cases hy;cases ht;exact .eU _ _ _ [14] 32 rfl (.of_eq (congrArg (T.θ _) (by rw[List.drop_zero];exact List.take_of_length_le (by simp)))) (fun b hb=>hb)
      |j+7,hy,ht=>cases hy)) ?_
     refine ae ?_ ?_
     ·exact⟨congrArg (fun n:Nat=>some (AV.agg [.t (.str d.name),.t (.int .i64 d.order),.sl 0 0 0 d.files.length,.sl 1 0 0 d.ag.length,.sl 2 0 0 d.flags.length,.sl 3 2 0 n,.sl 4 0 0 d.forms.length,.sl 5 0 0 d.aw.length,.sl 6 0 0 d.uses.length,.sl 7 0 0 d.av.length,.sl 8 0 0 d.macros.length,.sl 9 0 0 d.aT.length,.sl 10 0 0 d.aQ.length,.t (.θ 4 (Δ [])),.t (.θ 2 (g.map Λ)),.t (.int .i64 0)])) (bW d.classes ⟨name,1,(file:Int),bits,0,plus,aY⟩),trivial⟩
     ·exact⟨rfl,rfl,rfl,b8 aF d.classes ⟨name,1,(file:Int),bits,0,plus,aY⟩,rfl,rfl,rfl,rfl,rfl,rfl,rfl,trivial⟩
    |cons t0 R0=>
     have hx:(match mC ⟨d,t0::R0,g⟩with|some (s,n')=>(match Nat.blt L.length 8 with|true=>dd n s (L++[n'])|false=>none)|none=>none)=some (s6,aY):=hx
     split at hx
     rotate_left 1
     ·cases hx
     rename_i s5 w hw
     split at hx
     rotate_left 1
     ·cases hx
     rename_i rB
     rw[Nat.blt_eq]at rB
     obtain⟨q5,e5,rfl⟩:=jD hw
     obtain⟨rfl,rfl⟩:=List.cons.inj e5
     have rE:decide (((L.length:Nat):Int)≥8)=false:=decide_eq_false (by omega)
     refine U (fun c=> ?_) (fun c=>absurd (fh.symm.trans c) (by decide))
     refine ι (dG d 2 [] w [] (Δ R0) (g.map Λ) (.inr rfl)) (by rfl) (by rfl) ?_
     refine ι (Φ d _ _ rE 43) (by rfl) (by rfl) ?_
     refine Or.inl (And.intro (List.length_map _).symm (ε (cL (n:=L.length+1) (by omega) rfl) ?_))
     conv=>whnf
     exact⟨⟨(n,R0,L++[w]),hx⟩,τ [0,1,2,3,4,5,6,7,8,9,10,11,12,13,14] rfl ⟨rfl,rfl,rfl,trivial⟩ ⟨rfl,rfl,rfl,rfl,rfl,rfl,rfl,rfl,rfl,rfl,rfl,rfl,rfl,congrArg (fun m:Nat=>some (Ω.box [.t (.str name),.t (.int .i64 1),.t (.int .i64 (file:Int)),.t (.int .i64 bits),.t (.int .i64 0),.t (.int .i64 plus),.sl 14 0 0 m])) (bW L w),b8 (T.int .i64) L w,trivial⟩,Nat.lt_succ_self n⟩
  |false=>
   rw[iV]at hex
   rw[show List.map (fun x=>UInt8.toNat x) [101,120,99,101,112,116]=[101,120,99,101,112,116]from rfl,iV]at hQ
   cases hex
   unfold dp
   refine aW ?_
   refine γ.ξ ζ η Tryz.func55 rfl rfl ?_
   refine ι h1 (by rfl) (by rfl) ?_
   refine ι h2 (by rfl) (by rfl) ?_
   refine γ.cx hX rfl ⟨.vec 1 _,.refl _,trivial⟩ rfl ?_
   refine ι (Φ d _ _ rfl 41) (by rfl) (by rfl) ?_
   refine ι h3 (by rfl) (by rfl) ?_
   refine ι h4 (by rfl) (by rfl) ?_
   refine ι hP (by rfl) (by rfl) ?_
   refine ε (fO _ _) ?_
   refine wR h5 (by rfl) rfl ?_
   refine ι hQ (by rfl) (by rfl) ?_
   refine Or.inl (And.intro (List.length_map _).symm (ε (cL ω rfl) ?_))
   refine aB.trans (mY 3 (A:=d.classes.map aF) (i_ (aF ⟨name,1,(file:Int),bits,0,plus,[]⟩)) rfl rfl (fun j y t hy ht=>by
    match j,hy,ht with
    |0,hy,ht=>cases hy;cases ht;exact .refl _
    |1,hy,ht=>cases hy;cases ht;exact .refl _
    |2,hy,ht=>cases hy;cases ht;exact .refl _
    |3,hy,ht=>cases hy;cases ht;exact .refl _
    |4,hy,ht=>cases hy;cases ht;exact .refl _
    |5,hy,ht=>cases hy;cases ht;exact .refl _
    |6,hy,ht=>cases hy;cases ht;exact(.af 1)
    |j+7,hy,ht=>cases hy)) ?_
   refine ae ?_ ?_
   ·exact⟨congrArg (fun n:Nat=>some (AV.agg [.t (.str d.name),.t (.int .i64 d.order),.sl 0 0 0 d.files.length,.sl 1 0 0 d.ag.length,.sl 2 0 0 d.flags.length,.sl 3 2 0 n,.sl 4 0 0 d.forms.length,.sl 5 0 0 d.aw.length,.sl 6 0 0 d.uses.length,.sl 7 0 0 d.av.length,.sl 8 0 0 d.macros.length,.sl 9 0 0 d.aT.length,.sl 10 0 0 d.aQ.length,.t (.θ 4 (Δ r5)),.t (.θ 2 (g.map Λ)),.t (.int .i64 0)])) (bW d.classes ⟨name,1,(file:Int),bits,0,plus,[]⟩),trivial⟩
   ·exact⟨rfl,rfl,rfl,b8 aF d.classes ⟨name,1,(file:Int),bits,0,plus,[]⟩,rfl,rfl,rfl,rfl,rfl,rfl,rfl,trivial⟩
 |false=>
  rw[hp]at mD
  rw[show List.map (fun x=>UInt8.toNat x) [112,108,117,115]=[112,108,117,115]from rfl,hp]at hP
  cases mD
  have hQ:=lm ⟨d,r4,g⟩ [101,120,99,101,112,116] _ rfl
  cases iV:ej ⟨d,r4,g⟩ [101,120,99,101,112,116]with
  |true=>
   rw[iV]at hex
   rw[show List.map (fun x=>UInt8.toNat x) [101,120,99,101,112,116]=[101,120,99,101,112,116]from rfl,iV]at hQ
   obtain⟨te,re,yh⟩:=gO iV
   obtain rfl:r4=_:=yh
   have hex:dd 10 ⟨d,re,g⟩ []=some (s6,aY):=hex
   unfold dp
   refine aW ?_
   refine γ.ξ ζ η Tryz.func55 rfl rfl ?_
   refine ι h1 (by rfl) (by rfl) ?_
   refine ι h2 (by rfl) (by rfl) ?_
   refine γ.cx hX rfl ⟨.vec 1 _,.refl _,trivial⟩ rfl ?_
   refine ι (Φ d _ _ rfl 41) (by rfl) (by rfl) ?_
   refine ι h3 (by rfl) (by rfl) ?_
   refine ι h4 (by rfl) (by rfl) ?_
   refine ι hP (by rfl) (by rfl) ?_
   refine ι hQ (by rfl) (by rfl) ?_
   refine ε (fO _ _) ?_
   refine ao (fun x:Nat×List ay×List Int=>dd x.1 ⟨d,x.2.1,g⟩ x.2.2=some (s6,aY)) (fun x:Nat×List ay×List Int=>⟨[(1,.ptr 11 0 0 0),(2,.ptr 12 0 0 0),(3,.ptr 13 0 0 0)],dH d++[.box (eG d (Δ x.2.1) (g.map Λ)),.box dh,.box [.t (.str name),.t (.int .i64 1),.t (.int .i64 (file:Int)),.t (.int .i64 bits),.t (.int .i64 0),.t (.int .i64 0),.sl 14 0 0 x.2.2.length],.arr 3 1 true 0 (.ts (x.2.2.map (T.int .i64)))]⟩) (fun x=>x.1) (10,re,[]) hex ?_ (fun⟨n,R,L⟩ hx=> ?_)
   ·refine aB.trans (τ (s':=⟨[(1,.ptr 11 0 0 0),(2,.ptr 12 0 0 0),(3,.ptr 13 0 0 0)],rL d [.box (eG d (Δ re) (g.map Λ)),.box dh,.box [.t (.str name),.t (.int .i64 1),.t (.int .i64 (file:Int)),.t (.int .i64 bits),.t (.int .i64 0),.t (.int .i64 0),.t .af]]⟩) [0,1,2,3,4,5,6,7,8,9,10,11,12,13] rfl ⟨rfl,rfl,rfl,trivial⟩ ⟨rfl,rfl,rfl,rfl,rfl,rfl,rfl,rfl,rfl,rfl,rfl,congrArg (fun l=>some (Ω.box (eG d l (g.map Λ)))) (j7 (lX te) (Δ re)),rfl,rfl,trivial⟩) ?_
    exact jJ (cs:=[.t (.str name),.t (.int .i64 1),.t (.int .i64 (file:Int)),.t (.int .i64 bits),.t (.int .i64 0),.t (.int .i64 0),.t .af]) 13 6 _ _ rfl rfl
   have hx:dd n ⟨d,R,g⟩ L=some (s6,aY):=hx
   cases n with
   |zero=>cases hx
   |succ n=>
    unfold dd at hx
    cases R with
    |nil=>
     cases hx
     refine Or.inl (And.intro (List.length_map _).symm (ε (cL ω rfl) ?_))
     refine aB.trans (iL 3 [14] (A:=d.classes.map aF) (i_ (aF ⟨name,1,(file:Int),bits,0,0,aY⟩)) rfl rfl rfl (fun j y t hy ht=>by
      match j,hy,ht with
      |0,hy,ht=>cases hy;cases ht;exact .same _
      |1,hy,ht=>cases hy;cases ht;exact .same _
      |2,hy,ht=>cases hy;cases ht;exact .same _
      |3,hy,ht=>cases hy;cases ht;exact .same _
      |4,hy,ht=>cases hy;cases ht;exact .same _
      |5,hy,ht=>cases hy;cases ht;exact .same _
      |6,hy,ht=>cases hy;cases ht;exact .eU _ _ _ [14] 32 rfl (.of_eq (congrArg (T.θ _) (by rw[List.drop_zero];exact List.take_of_length_le (by simp)))) (fun b hb=>hb)
      |j+7,hy,ht=>cases hy)) ?_
     refine ae ?_ ?_
     ·exact⟨congrArg (fun n:Nat=>some (AV.agg [.t (.str d.name),.t (.int .i64 d.order),.sl 0 0 0 d.files.length,.sl 1 0 0 d.ag.length,.sl 2 0 0 d.flags.length,.sl 3 2 0 n,.sl 4 0 0 d.forms.length,.sl 5 0 0 d.aw.length,.sl 6 0 0 d.uses.length,.sl 7 0 0 d.av.length,.sl 8 0 0 d.macros.length,.sl 9 0 0 d.aT.length,.sl 10 0 0 d.aQ.length,.t (.θ 4 (Δ [])),.t (.θ 2 (g.map Λ)),.t (.int .i64 0)])) (bW d.classes ⟨name,1,(file:Int),bits,0,0,aY⟩),trivial⟩
     ·exact⟨rfl,rfl,rfl,b8 aF d.classes ⟨name,1,(file:Int),bits,0,0,aY⟩,rfl,rfl,rfl,rfl,rfl,rfl,rfl,trivial⟩
    |cons t0 R0=>
     have hx:(match mC ⟨d,t0::R0,g⟩with|some (s,n')=>(match Nat.blt L.length 8 with|true=>dd n s (L++[n'])|false=>none)|none=>none)=some (s6,aY):=hx
     split at hx
     rotate_left 1
     ·cases hx
     rename_i s5 w hw
     split at hx
     rotate_left 1
     ·cases hx
     rename_i rB
     rw[Nat.blt_eq]at rB
     obtain⟨q5,e5,rfl⟩:=jD hw
     obtain⟨rfl,rfl⟩:=List.cons.inj e5
     have rE:decide (((L.length:Nat):Int)≥8)=false:=decide_eq_false (by omega)
     refine U (fun c=> ?_) (fun c=>absurd (fh.symm.trans c) (by decide))
     refine ι (dG d 2 [] w [] (Δ R0) (g.map Λ) (.inr rfl)) (by rfl) (by rfl) ?_
     refine ι (Φ d _ _ rE 43) (by rfl) (by rfl) ?_
     refine Or.inl (And.intro (List.length_map _).symm (ε (cL (n:=L.length+1) (by omega) rfl) ?_))
     conv=>whnf
     exact⟨⟨(n,R0,L++[w]),hx⟩,τ [0,1,2,3,4,5,6,7,8,9,10,11,12,13,14] rfl ⟨rfl,rfl,rfl,trivial⟩ ⟨rfl,rfl,rfl,rfl,rfl,rfl,rfl,rfl,rfl,rfl,rfl,rfl,rfl,congrArg (fun m:Nat=>some (Ω.box [.t (.str name),.t (.int .i64 1),.t (.int .i64 (file:Int)),.t (.int .i64 bits),.t (.int .i64 0),.t (.int .i64 0),.sl 14 0 0 m])) (bW L w),b8 (T.int .i64) L w,trivial⟩,Nat.lt_succ_self n⟩
  |false=>
   rw[iV]at hex
   rw[show List.map (fun x=>UInt8.toNat x) [101,120,99,101,112,116]=[101,120,99,101,112,116]from rfl,iV]at hQ
   cases hex
   unfold dp
   refine aW ?_
   refine γ.ξ ζ η Tryz.func55 rfl rfl ?_
   refine ι h1 (by rfl) (by rfl) ?_
   refine ι h2 (by rfl) (by rfl) ?_
   refine γ.cx hX rfl ⟨.vec 1 _,.refl _,trivial⟩ rfl ?_
   refine ι (Φ d _ _ rfl 41) (by rfl) (by rfl) ?_
   refine ι h3 (by rfl) (by rfl) ?_
   refine ι h4 (by rfl) (by rfl) ?_
   refine ι hP (by rfl) (by rfl) ?_
   refine ι hQ (by rfl) (by rfl) ?_
   refine Or.inl (And.intro (List.length_map _).symm (ε (cL ω rfl) ?_))
   refine aB.trans (mY 3 (A:=d.classes.map aF) (i_ (aF ⟨name,1,(file:Int),bits,0,0,[]⟩)) rfl rfl (fun j y t hy ht=>by
    match j,hy,ht with
    |0,hy,ht=>cases hy;cases ht;exact .refl _
    |1,hy,ht=>cases hy;cases ht;exact .refl _
    |2,hy,ht=>cases hy;cases ht;exact .refl _
    |3,hy,ht=>cases hy;cases ht;exact .refl _
    |4,hy,ht=>cases hy;cases ht;exact .refl _
    |5,hy,ht=>cases hy;cases ht;exact .refl _
    |6,hy,ht=>cases hy;cases ht;exact(.af 1)
    |j+7,hy,ht=>cases hy)) ?_
   refine ae ?_ ?_
   ·exact⟨congrArg (fun n:Nat=>some (AV.agg [.t (.str d.name),.t (.int .i64 d.order),.sl 0 0 0 d.files.length,.sl 1 0 0 d.ag.length,.sl 2 0 0 d.flags.length,.sl 3 2 0 n,.sl 4 0 0 d.forms.length,.sl 5 0 0 d.aw.length,.sl 6 0 0 d.uses.length,.sl 7 0 0 d.av.length,.sl 8 0 0 d.macros.length,.sl 9 0 0 d.aT.length,.sl 10 0 0 d.aQ.length,.t (.θ 4 (Δ r4)),.t (.θ 2 (g.map Λ)),.t (.int .i64 0)])) (bW d.classes ⟨name,1,(file:Int),bits,0,0,[]⟩),trivial⟩
   ·exact⟨rfl,rfl,rfl,b8 aF d.classes ⟨name,1,(file:Int),bits,0,0,[]⟩,rfl,rfl,rfl,rfl,rfl,rfl,rfl,trivial⟩
theorem Rl{d:ο}{g:List cP}{r0:List ay}{s1 s2 s4 s5 s6:PS}{name kw:List UInt8}{kind:Nat}{bits shift:Int}{aY:List Int}(hs:cV ⟨d,r0,g⟩)(hf:dJ ⟨d,r0,g⟩ 4=some (s1,name))(iW:bL s1=some (s2,kw))(fH:cY kw 1 [[114,101,103],[117,110,115],[115,103,110],[112,99],[110,120]]=some kind)
 (ZP:2≤kind)
 (fx:cK s2=some (s4,bits)) (mD:(match ej s4 [115,104,105,102,116]with|true=>cK (ji s4)|false=>some (s4,(0:Int)))=some (s5,shift))
 (hex:(match ej s5 [101,120,99,101,112,116]with|true=>dd 10 (ji s5) []|false=>some (s5,([]:List Int)))=some (s6,aY)):
 dp 55 3 ⟨d,r0,g⟩ ⟨{d with classes:=d.classes++[⟨name,(kind:Int),0,bits,shift,0,aY⟩]},s6.rest,g⟩:=by
 have f1:aa ⟨d,r0,g⟩ s1:=bU hf
 have f2:aa ⟨d,r0,g⟩ s2:=f1.trans (aS iW)
 have ω:d.classes.length+1≤100000:=by
  have:=(dg hf).2.2
  have:s1.d.classes.length<64:=by simpa[bO,en]using this
  rw[f1.1]at this
  have:d.classes.length<64:=this
  omega
 have h1:=fT hs (by decide) hf
 have h2:=bH iW
 obtain⟨fw,cZ,Xx⟩:=wj fH
 have hX:=cT EP kw (by decide)
 rw[fw]at hX
 have f3:=f2
 have f4:aa ⟨d,r0,g⟩ s4:=f3.trans (cO fx)
 have h4:=di fx
 have hP:=lm s4 [115,104,105,102,116] _ rfl
 obtain⟨d1,r1,g1⟩:=s1
 obtain rfl:d=d1:=f1.1.symm
 obtain rfl:g=g1:=f1.2.symm
 obtain⟨d2,r2,g2⟩:=s2
 obtain rfl:d=d2:=f2.1.symm
 obtain rfl:g=g2:=f2.2.symm
 obtain⟨d4,r4,g4⟩:=s4
 obtain rfl:d=d4:=f4.1.symm
 obtain rfl:g=g4:=f4.2.symm
 cases hp:ej ⟨d,r4,g⟩ [115,104,105,102,116]with
 |true=>
  rw[hp]at mD
  rw[show List.map (fun x=>UInt8.toNat x) [115,104,105,102,116]=[115,104,105,102,116]from rfl,hp]at hP
  obtain⟨t7,r7,Ow⟩:=gO hp
  obtain rfl:r4=_:=Ow
  have mD:cK ⟨d,r7,g⟩=some (s5,shift):=mD
  have h5:=di mD
  have f5:aa ⟨d,r7,g⟩ s5:=cO mD
  obtain⟨d5,r5,g5⟩:=s5
  obtain rfl:d=d5:=f5.1.symm
  obtain rfl:g=g5:=f5.2.symm
  have hQ:=lm ⟨d,r5,g⟩ [101,120,99,101,112,116] _ rfl
  cases iV:ej ⟨d,r5,g⟩ [101,120,99,101,112,116]with
  |true=>
   rw[iV]at hex
   rw[show List.map (fun x=>UInt8.toNat x) [101,120,99,101,112,116]=[101,120,99,101,112,116]from rfl,iV]at hQ
   obtain⟨te,re,yh⟩:=gO iV
   obtain rfl:r5=_:=yh
   have hex:dd 10 ⟨d,re,g⟩ []=some (s6,aY):=hex
   unfold dp
   refine aW ?_
   refine γ.ξ ζ η Tryz.func55 rfl rfl ?_
   refine ι h1 (by rfl) (by rfl) ?_
   refine ι h2 (by rfl) (by rfl) ?_
   refine γ.cx hX rfl ⟨.vec 1 _,.refl _,trivial⟩ rfl ?_
   have k1:decide ((kind:Int)<1)=false:=decide_eq_false (by omega)
   refine ι (Φ d _ _ k1 41) (by rfl) (by rfl) ?_
   refine U (fun c=>absurd (of_decide_eq_true c) (by omega)) (fun _=> ?_)
   refine ι h4 (by rfl) (by rfl) ?_
   refine U (fun c=>absurd (of_decide_eq_true c) (by omega)) (fun _=> ?_)
   refine U (fun _=> ?_) (fun c=>absurd (of_decide_eq_false c) (by omega))
   refine ι hP (by rfl) (by rfl) ?_
   refine ε (fO _ _) ?_
   refine wR h5 (by rfl) rfl ?_
   refine ι hQ (by rfl) (by rfl) ?_
   refine ε (fO _ _) ?_
   refine ao (fun x:Nat×List ay×List Int=>dd x.1 ⟨d,x.2.1,g⟩ x.2.2=some (s6,aY)) (fun x:Nat×List ay×List Int=>⟨[(1,.ptr 11 0 0 0),(2,.ptr 12 0 0 0),(3,.ptr 13 0 0 0)],dH d++[.box (eG d (Δ x.2.1) (g.map Λ)),.box dh,.box [.t (.str name),.t (.int .i64 (kind:Int)),.t (.int .i64 0),.t (.int .i64 bits),.t (.int .i64 shift),.t (.int .i64 0),.sl 14 0 0 x.2.2.length],.arr 3 1 true 0 (.ts (x.2.2.map (T.int .i64)))]⟩) (fun x=>x.1) (10,re,[]) hex ?_ (fun⟨n,R,L⟩ hx=> ?_)
   ·refine aB.trans (τ (s':=⟨[(1,.ptr 11 0 0 0),(2,.ptr 12 0 0 0),(3,.ptr 13 0 0 0)],rL d [.box (eG d (Δ re) (g.map Λ)),.box dh,.box [.t (.str name),.t (.int .i64 (kind:Int)),.t (.int .i64 0),.t (.int .i64 bits),.t (.int .i64 shift),.t (.int .i64 0),.t .af]]⟩) [0,1,2,3,4,5,6,7,8,9,10,11,12,13] rfl ⟨rfl,rfl,rfl,trivial⟩ ⟨rfl,rfl,rfl,rfl,rfl,rfl,rfl,rfl,rfl,rfl,rfl,congrArg (fun l=>some (Ω.box (eG d l (g.map Λ)))) (j7 (lX te) (Δ re)),rfl,rfl,trivial⟩) ?_
    exact jJ (cs:=[.t (.str name),.t (.int .i64 (kind:Int)),.t (.int .i64 0),.t (.int .i64 bits),.t (.int .i64 shift),.t (.int .i64 0),.t .af]) 13 6 _ _ rfl rfl
   have hx:dd n ⟨d,R,g⟩ L=some (s6,aY):=hx
   cases n with
   |zero=>cases hx
   |succ n=>
    unfold dd at hx
    cases R with
    |nil=>
     cases hx
     refine Or.inl (And.intro (List.length_map _).symm (ε (cL ω rfl) ?_))
     refine aB.trans (iL 3 [14] (A:=d.classes.map aF) (i_ (aF ⟨name,(kind:Int),0,bits,shift,0,aY⟩)) rfl rfl rfl (fun j y t hy ht=>by
      match j,hy,ht with
      |0,hy,ht=>cases hy;cases ht;exact .same _
      |1,hy,ht=>cases hy;cases ht;exact .same _
      |2,hy,ht=>cases hy;cases ht;exact .same _
      |3,hy,ht=>cases hy;cases ht;exact .same _
      |4,hy,ht=>cases hy;cases ht;exact .same _
      |5,hy,ht=>cases hy;cases ht;exact .same _
      |6,hy,ht=>cases hy;cases ht;exact .eU _ _ _ [14] 32 rfl (.of_eq (congrArg (T.θ _) (by rw[List.drop_zero];exact List.take_of_length_le (by simp)))) (fun b hb=>hb)
      |j+7,hy,ht=>cases hy)) ?_
     refine ae ?_ ?_
     ·exact⟨congrArg (fun n:Nat=>some (AV.agg [.t (.str d.name),.t (.int .i64 d.order),.sl 0 0 0 d.files.length,.sl 1 0 0 d.ag.length,.sl 2 0 0 d.flags.length,.sl 3 2 0 n,.sl 4 0 0 d.forms.length,.sl 5 0 0 d.aw.length,.sl 6 0 0 d.uses.length,.sl 7 0 0 d.av.length,.sl 8 0 0 d.macros.length,.sl 9 0 0 d.aT.length,.sl 10 0 0 d.aQ.length,.t (.θ 4 (Δ [])),.t (.θ 2 (g.map Λ)),.t (.int .i64 0)])) (bW d.classes ⟨name,(kind:Int),0,bits,shift,0,aY⟩),trivial⟩
     ·exact⟨rfl,rfl,rfl,b8 aF d.classes ⟨name,(kind:Int),0,bits,shift,0,aY⟩,rfl,rfl,rfl,rfl,rfl,rfl,rfl,trivial⟩
    |cons t0 R0=>
     have hx:(match mC ⟨d,t0::R0,g⟩with|some (s,n')=>(match Nat.blt L.length 8 with|true=>dd n s (L++[n'])|false=>none)|none=>none)=some (s6,aY):=hx
     split at hx
     rotate_left 1
     ·cases hx
     rename_i s5 w hw
     split at hx
     rotate_left 1
     ·cases hx
     rename_i rB
     rw[Nat.blt_eq]at rB
     obtain⟨q5,e5,rfl⟩:=jD hw
     obtain⟨rfl,rfl⟩:=List.cons.inj e5
     have rE:decide (((L.length:Nat):Int)≥8)=false:=decide_eq_false (by omega)
     refine U (fun c=> ?_) (fun c=>absurd (fh.symm.trans c) (by decide))
     refine ι (dG d 2 [] w [] (Δ R0) (g.map Λ) (.inr rfl)) (by rfl) (by rfl) ?_
     refine ι (Φ d _ _ rE 43) (by rfl) (by rfl) ?_
     refine Or.inl (And.intro (List.length_map _).symm (ε (cL (n:=L.length+1) (by omega) rfl) ?_))
     conv=>whnf
     exact⟨⟨(n,R0,L++[w]),hx⟩,τ [0,1,2,3,4,5,6,7,8,9,10,11,12,13,14] rfl ⟨rfl,rfl,rfl,trivial⟩ ⟨rfl,rfl,rfl,rfl,rfl,rfl,rfl,rfl,rfl,rfl,rfl,rfl,rfl,congrArg (fun m:Nat=>some (Ω.box [.t (.str name),.t (.int .i64 (kind:Int)),.t (.int .i64 0),.t (.int .i64 bits),.t (.int .i64 shift),.t (.int .i64 0),.sl 14 0 0 m])) (bW L w),b8 (T.int .i64) L w,trivial⟩,Nat.lt_succ_self n⟩
  |false=>
   rw[iV]at hex
   rw[show List.map (fun x=>UInt8.toNat x) [101,120,99,101,112,116]=[101,120,99,101,112,116]from rfl,iV]at hQ
   cases hex
   unfold dp
   refine aW ?_
   refine γ.ξ ζ η Tryz.func55 rfl rfl ?_
   refine ι h1 (by rfl) (by rfl) ?_
   refine ι h2 (by rfl) (by rfl) ?_
   refine γ.cx hX rfl ⟨.vec 1 _,.refl _,trivial⟩ rfl ?_
   have k1:decide ((kind:Int)<1)=false:=decide_eq_false (by omega)
   refine ι (Φ d _ _ k1 41) (by rfl) (by rfl) ?_
   refine U (fun c=>absurd (of_decide_eq_true c) (by omega)) (fun _=> ?_)
   refine ι h4 (by rfl) (by rfl) ?_
   refine U (fun c=>absurd (of_decide_eq_true c) (by omega)) (fun _=> ?_)
   refine U (fun _=> ?_) (fun c=>absurd (of_decide_eq_false c) (by omega))
   refine ι hP (by rfl) (by rfl) ?_
   refine ε (fO _ _) ?_
   refine wR h5 (by rfl) rfl ?_
   refine ι hQ (by rfl) (by rfl) ?_
   refine Or.inl (And.intro (List.length_map _).symm (ε (cL ω rfl) ?_))
   refine aB.trans (mY 3 (A:=d.classes.map aF) (i_ (aF ⟨name,(kind:Int),0,bits,shift,0,[]⟩)) rfl rfl (fun j y t hy ht=>by
    match j,hy,ht with
    |0,hy,ht=>cases hy;cases ht;exact .refl _
    |1,hy,ht=>cases hy;cases ht;exact .refl _
    |2,hy,ht=>cases hy;cases ht;exact .refl _
    |3,hy,ht=>cases hy;cases ht;exact .refl _
    |4,hy,ht=>cases hy;cases ht;exact .refl _
    |5,hy,ht=>cases hy;cases ht;exact .refl _
    |6,hy,ht=>cases hy;cases ht;exact(.af 1)
    |j+7,hy,ht=>cases hy)) ?_
   refine ae ?_ ?_
   ·exact⟨congrArg (fun n:Nat=>some (AV.agg [.t (.str d.name),.t (.int .i64 d.order),.sl 0 0 0 d.files.length,.sl 1 0 0 d.ag.length,.sl 2 0 0 d.flags.length,.sl 3 2 0 n,.sl 4 0 0 d.forms.length,.sl 5 0 0 d.aw.length,.sl 6 0 0 d.uses.length,.sl 7 0 0 d.av.length,.sl 8 0 0 d.macros.length,.sl 9 0 0 d.aT.length,.sl 10 0 0 d.aQ.length,.t (.θ 4 (Δ r5)),.t (.θ 2 (g.map Λ)),.t (.int .i64 0)])) (bW d.classes ⟨name,(kind:Int),0,bits,shift,0,[]⟩),trivial⟩
   ·exact⟨rfl,rfl,rfl,b8 aF d.classes ⟨name,(kind:Int),0,bits,shift,0,[]⟩,rfl,rfl,rfl,rfl,rfl,rfl,rfl,trivial⟩
 |false=>
  rw[hp]at mD
  rw[show List.map (fun x=>UInt8.toNat x) [115,104,105,102,116]=[115,104,105,102,116]from rfl,hp]at hP
  cases mD
  have hQ:=lm ⟨d,r4,g⟩ [101,120,99,101,112,116] _ rfl
  cases iV:ej ⟨d,r4,g⟩ [101,120,99,101,112,116]with
  |true=>
   rw[iV]at hex
   rw[show List.map (fun x=>UInt8.toNat x) [101,120,99,101,112,116]=[101,120,99,101,112,116]from rfl,iV]at hQ
   obtain⟨te,re,yh⟩:=gO iV
   obtain rfl:r4=_:=yh
   have hex:dd 10 ⟨d,re,g⟩ []=some (s6,aY):=hex
   unfold dp
   refine aW ?_
   refine γ.ξ ζ η Tryz.func55 rfl rfl ?_
   refine ι h1 (by rfl) (by rfl) ?_
   refine ι h2 (by rfl) (by rfl) ?_
   refine γ.cx hX rfl ⟨.vec 1 _,.refl _,trivial⟩ rfl ?_
   have k1:decide ((kind:Int)<1)=false:=decide_eq_false (by omega)
   refine ι (Φ d _ _ k1 41) (by rfl) (by rfl) ?_
   refine U (fun c=>absurd (of_decide_eq_true c) (by omega)) (fun _=> ?_)
   refine ι h4 (by rfl) (by rfl) ?_
   refine U (fun c=>absurd (of_decide_eq_true c) (by omega)) (fun _=> ?_)
   refine U (fun _=> ?_) (fun c=>absurd (of_decide_eq_false c) (by omega))
   refine ι hP (by rfl) (by rfl) ?_
   refine ι hQ (by rfl) (by rfl) ?_
   refine ε (fO _ _) ?_
   refine ao (fun x:Nat×List ay×List Int=>dd x.1 ⟨d,x.2.1,g⟩ x.2.2=some (s6,aY)) (fun x:Nat×List ay×List Int=>⟨[(1,.ptr 11 0 0 0),(2,.ptr 12 0 0 0),(3,.ptr 13 0 0 0)],dH d++[.box (eG d (Δ x.2.1) (g.map Λ)),.box dh,.box [.t (.str name),.t (.int .i64 (kind:Int)),.t (.int .i64 0),.t (.int .i64 bits),.t (.int .i64 0),.t (.int .i64 0),.sl 14 0 0 x.2.2.length],.arr 3 1 true 0 (.ts (x.2.2.map (T.int .i64)))]⟩) (fun x=>x.1) (10,re,[]) hex ?_ (fun⟨n,R,L⟩ hx=> ?_)
   ·refine aB.trans (τ (s':=⟨[(1,.ptr 11 0 0 0),(2,.ptr 12 0 0 0),(3,.ptr 13 0 0 0)],rL d [.box (eG d (Δ re) (g.map Λ)),.box dh,.box [.t (.str name),.t (.int .i64 (kind:Int)),.t (.int .i64 0),.t (.int .i64 bits),.t (.int .i64 0),.t (.int .i64 0),.t .af]]⟩) [0,1,2,3,4,5,6,7,8,9,10,11,12,13] rfl ⟨rfl,rfl,rfl,trivial⟩ ⟨rfl,rfl,rfl,rfl,rfl,rfl,rfl,rfl,rfl,rfl,rfl,congrArg (fun l=>some (Ω.box (eG d l (g.map Λ)))) (j7 (lX te) (Δ re)),rfl,rfl,trivial⟩) ?_
    exact jJ (cs:=[.t (.str name),.t (.int .i64 (kind:Int)),.t (.int .i64 0),.t (.int .i64 bits),.t (.int .i64 0),.t (.int .i64 0),.t .af]) 13 6 _ _ rfl rfl
   have hx:dd n ⟨d,R,g⟩ L=some (s6,aY):=hx
   cases n with
   |zero=>cases hx
   |succ n=>
    unfold dd at hx
    cases R with
    |nil=>
     cases hx
     refine Or.inl (And.intro (List.length_map _).symm (ε (cL ω rfl) ?_))
     refine aB.trans (iL 3 [14] (A:=d.classes.map aF) (i_ (aF ⟨name,(kind:Int),0,bits,0,0,aY⟩)) rfl rfl rfl (fun j y t hy ht=>by
      match j,hy,ht with
      |0,hy,ht=>cases hy;cases ht;exact .same _
      |1,hy,ht=>cases hy;cases ht;exact .same _
      |2,hy,ht=>cases hy;cases ht;exact .same _
      |3,hy,ht=>cases hy;cases ht;exact .same _
      |4,hy,ht=>cases hy;cases ht;exact .same _
      |5,hy,ht=>cases hy;cases ht;exact .same _
      |6,hy,ht=>cases hy;cases ht;exact .eU _ _ _ [14] 32 rfl (.of_eq (congrArg (T.θ _) (by rw[List.drop_zero];exact List.take_of_length_le (by simp)))) (fun b hb=>hb)
      |j+7,hy,ht=>cases hy)) ?_
     refine ae ?_ ?_
     ·exact⟨congrArg (fun n:Nat=>some (AV.agg [.t (.str d.name),.t (.int .i64 d.order),.sl 0 0 0 d.files.length,.sl 1 0 0 d.ag.length,.sl 2 0 0 d.flags.length,.sl 3 2 0 n,.sl 4 0 0 d.forms.length,.sl 5 0 0 d.aw.length,.sl 6 0 0 d.uses.length,.sl 7 0 0 d.av.length,.sl 8 0 0 d.macros.length,.sl 9 0 0 d.aT.length,.sl 10 0 0 d.aQ.length,.t (.θ 4 (Δ [])),.t (.θ 2 (g.map Λ)),.t (.int .i64 0)])) (bW d.classes ⟨name,(kind:Int),0,bits,0,0,aY⟩),trivial⟩
     ·exact⟨rfl,rfl,rfl,b8 aF d.classes ⟨name,(kind:Int),0,bits,0,0,aY⟩,rfl,rfl,rfl,rfl,rfl,rfl,rfl,trivial⟩
    |cons t0 R0=>
     have hx:(match mC ⟨d,t0::R0,g⟩with|some (s,n')=>(match Nat.blt L.length 8 with|true=>dd n s (L++[n'])|false=>none)|none=>none)=some (s6,aY):=hx
     split at hx
     rotate_left 1
     ·cases hx
     rename_i s5 w hw
     split at hx
     rotate_left 1
     ·cases hx
     rename_i rB
     rw[Nat.blt_eq]at rB
     obtain⟨q5,e5,rfl⟩:=jD hw
     obtain⟨rfl,rfl⟩:=List.cons.inj e5
     have rE:decide (((L.length:Nat):Int)≥8)=false:=decide_eq_false (by omega)
     refine U (fun c=> ?_) (fun c=>absurd (fh.symm.trans c) (by decide))
     refine ι (dG d 2 [] w [] (Δ R0) (g.map Λ) (.inr rfl)) (by rfl) (by rfl) ?_
     refine ι (Φ d _ _ rE 43) (by rfl) (by rfl) ?_
     refine Or.inl (And.intro (List.length_map _).symm (ε (cL (n:=L.length+1) (by omega) rfl) ?_))
     conv=>whnf
     exact⟨⟨(n,R0,L++[w]),hx⟩,τ [0,1,2,3,4,5,6,7,8,9,10,11,12,13,14] rfl ⟨rfl,rfl,rfl,trivial⟩ ⟨rfl,rfl,rfl,rfl,rfl,rfl,rfl,rfl,rfl,rfl,rfl,rfl,rfl,congrArg (fun m:Nat=>some (Ω.box [.t (.str name),.t (.int .i64 (kind:Int)),.t (.int .i64 0),.t (.int .i64 bits),.t (.int .i64 0),.t (.int .i64 0),.sl 14 0 0 m])) (bW L w),b8 (T.int .i64) L w,trivial⟩,Nat.lt_succ_self n⟩
  |false=>
   rw[iV]at hex
   rw[show List.map (fun x=>UInt8.toNat x) [101,120,99,101,112,116]=[101,120,99,101,112,116]from rfl,iV]at hQ
   cases hex
   unfold dp
   refine aW ?_
   refine γ.ξ ζ η Tryz.func55 rfl rfl ?_
   refine ι h1 (by rfl) (by rfl) ?_
   refine ι h2 (by rfl) (by rfl) ?_
   refine γ.cx hX rfl ⟨.vec 1 _,.refl _,trivial⟩ rfl ?_
   have k1:decide ((kind:Int)<1)=false:=decide_eq_false (by omega)
   refine ι (Φ d _ _ k1 41) (by rfl) (by rfl) ?_
   refine U (fun c=>absurd (of_decide_eq_true c) (by omega)) (fun _=> ?_)
   refine ι h4 (by rfl) (by rfl) ?_
   refine U (fun c=>absurd (of_decide_eq_true c) (by omega)) (fun _=> ?_)
   refine U (fun _=> ?_) (fun c=>absurd (of_decide_eq_false c) (by omega))
   refine ι hP (by rfl) (by rfl) ?_
   refine ι hQ (by rfl) (by rfl) ?_
   refine Or.inl (And.intro (List.length_map _).symm (ε (cL ω rfl) ?_))
   refine aB.trans (mY 3 (A:=d.classes.map aF) (i_ (aF ⟨name,(kind:Int),0,bits,0,0,[]⟩)) rfl rfl (fun j y t hy ht=>by
    match j,hy,ht with
    |0,hy,ht=>cases hy;cases ht;exact .refl _
    |1,hy,ht=>cases hy;cases ht;exact .refl _
    |2,hy,ht=>cases hy;cases ht;exact .refl _
    |3,hy,ht=>cases hy;cases ht;exact .refl _
    |4,hy,ht=>cases hy;cases ht;exact .refl _
    |5,hy,ht=>cases hy;cases ht;exact .refl _
    |6,hy,ht=>cases hy;cases ht;exact(.af 1)
    |j+7,hy,ht=>cases hy)) ?_
   refine ae ?_ ?_
   ·exact⟨congrArg (fun n:Nat=>some (AV.agg [.t (.str d.name),.t (.int .i64 d.order),.sl 0 0 0 d.files.length,.sl 1 0 0 d.ag.length,.sl 2 0 0 d.flags.length,.sl 3 2 0 n,.sl 4 0 0 d.forms.length,.sl 5 0 0 d.aw.length,.sl 6 0 0 d.uses.length,.sl 7 0 0 d.av.length,.sl 8 0 0 d.macros.length,.sl 9 0 0 d.aT.length,.sl 10 0 0 d.aQ.length,.t (.θ 4 (Δ r4)),.t (.θ 2 (g.map Λ)),.t (.int .i64 0)])) (bW d.classes ⟨name,(kind:Int),0,bits,0,0,[]⟩),trivial⟩
   ·exact⟨rfl,rfl,rfl,b8 aF d.classes ⟨name,(kind:Int),0,bits,0,0,[]⟩,rfl,rfl,rfl,rfl,rfl,rfl,rfl,trivial⟩
theorem wa:∀(n:Nat) (s:PS) (l:List Int) {s':PS} {l':List Int},dd n s l=some (s',l')→aa s s'
 |0,s,l,s',l',h=>by cases h
 |n+1,s,l,s',l',h=>by
  unfold dd at h
  split at h
  ·cases h;exact⟨rfl,rfl⟩
  ·split at h
   ·rename_i t m ht
    split at h
    ·exact(KS ht).trans (wa n t _ h)
    ·cases h
   ·cases h
theorem tV{s s':PS}{b:Bool}{n:Int}(h:(match b with|true=>cK (ji s)|false=>some (s,(0:Int)))=some (s',n)):aa s s':=by
 cases b with
 |true=>exact cO (s:=ji s) h
 |false=>cases h;exact⟨rfl,rfl⟩
theorem OD{s s':PS}(hs:cV s)(h:rM s=some s'):dp 55 3 s s':=by
 unfold rM at h
 split at h
 ·cases h
 rename_i s1 name hf
 split at h
 ·cases h
 rename_i s2 kw iW
 split at h
 ·cases h
 rename_i kind fH
 split at h
 ·cases h
 rename_i s3 file fX
 split at h
 ·cases h
 rename_i s4 bits fx
 split at h
 ·cases h
 rename_i s5 plus pf
 split at h
 ·cases h
 rename_i s6 shift lO
 split at h
 ·cases h
 rename_i s7 aY hex
 cases h
 have f2:aa s s2:=(bU hf).trans (aS iW)
 have lE:=wj fH
 obtain⟨d,r0,g⟩:=s
 have f67:aa s6 s7:=by
  cases hp:ej s6 [101,120,99,101,112,116]with
  |true=>rw[hp]at hex;exact(wa _ (ji s6) _ hex)
  |false=>rw[hp]at hex;cases hex;exact⟨rfl,rfl⟩
 by_cases h1:kind=1
 ·subst h1
  have fX:(match bY s2 1 with|some (s,f)=>some (s,(f:Int))|none=>none)=some (s3,file):=fX
  split at fX
  rotate_left 1
  ·cases fX
  rename_i Zm f D_
  cases fX
  have pf:(match ej s4 [112,108,117,115]with|true=>cK (ji s4)|false=>some (s4,(0:Int)))=some (s5,plus):=pf
  have lO:some (s5,(0:Int))=some (s6,shift):=lO
  cases lO
  have e:=((((f2.trans (cn D_)).trans (cO fx)).trans (tV pf)).trans f67)
  have hd:s7.d=d:=e.1
  have hg:s7.args=g:=e.2
  rw[hd,hg]
  exact Rm hs hf iW fH D_ fx pf hex
 ·have h2:2≤kind:=by omega
  have fX:some (s2,(0:Int))=some (s3,file):=by
   match kind,h1,fX with
   |0,_,fX=>exact fX
   |1,h1,_=>exact absurd rfl h1
   |k+2,_,fX=>exact fX
  cases fX
  have j4:Nat.beq kind 1=false:=by
   cases hb:Nat.beq kind 1
   ·rfl
   ·exact absurd (Nat.eq_of_beq_eq_true hb) h1
  have gZ:Nat.blt 1 kind=true:=by rw[Nat.blt_eq];omega
  rw[j4]at pf
  have pf:some (s4,(0:Int))=some (s5,plus):=pf
  cases pf
  rw[gZ]at lO
  have lO:(match ej s4 [115,104,105,102,116]with|true=>cK (ji s4)|false=>some (s4,(0:Int)))=some (s6,shift):=lO
  have e:=(((f2.trans (cO fx)).trans (tV lO)).trans f67)
  have hd:s7.d=d:=e.1
  have hg:s7.args=g:=e.2
  rw[hd,hg]
  exact Rl hs hf iW fH h2 fx lO hex
end Go.Proofs.YtcogcbplmkcojaaGreatDoor
namespace Go.Proofs.YtcogcbplmkcojaaGreatDoor
open Go.IntWalk
set_option maxRecDepth 100000
set_option linter.unusedVariables false
set_option linter.unusedSimpArgs false
set_option maxHeartbeats 4000000
def da:Ord:=(.op 0 [] (.op 1 [0] (.op 2 [0] (.op 3 [0] (.op 4 [] (.op 5 [] .nil))))))
def CY:List (List UInt8):=[[],[110,111,110,101],[100,97,116,97],[105,110,115,110],[112,97,105,114]]
theorem sX{kw:List UInt8}{kind:Nat}(h:cY kw 1 [[110,111,110,101],[100,97,116,97],[105,110,115,110],[112,97,105,114]]=some kind):gB kw CY=(kind:Int)∧1≤kind∧kind≤4:=by
 obtain⟨i,x,rfl,hx,rfl⟩:=a_ _ _ _ _ h
 match i,hx with
 |0,hx=>cases hx;exact⟨by decide,by decide,by decide⟩
 |1,hx=>cases hx;exact⟨by decide,by decide,by decide⟩
 |2,hx=>cases hx;exact⟨by decide,by decide,by decide⟩
 |3,hx=>cases hx;exact⟨by decide,by decide,by decide⟩
 |i+4,hx=>cases hx
def OE:List (List UInt8):=[[115,105,103,110,101,100],[117,110,115,105,103,110,101,100],[101,105,116,104,101,114],[97,108,105,103,110],[114,111,117,110,100],[115,108,105,99,101]]
theorem Uj{d:ο}{g:List cP}{r0:List ay}{s1 s2 s3:PS}{name kw:List UInt8}{num:Int}(hs:cV ⟨d,r0,g⟩)(hf:dJ ⟨d,r0,g⟩ 6=some (s1,name))(iC:cK s1=some (s2,num))(iW:bL s2=some (s3,kw))(fH:cY kw 1 [[110,111,110,101],[100,97,116,97],[105,110,115,110],[112,97,105,114]]=some 1)
 :dp 58 5 ⟨d,r0,g⟩ ⟨{d with aw:=d.aw++[⟨name,num,1,0,0,0,0,0,0,0,[],0,0,0,0, -1,0⟩]},s3.rest,g⟩:=by
 have f1:aa ⟨d,r0,g⟩ s1:=bU hf
 have f2:aa ⟨d,r0,g⟩ s2:=f1.trans (cO iC)
 have f3:aa ⟨d,r0,g⟩ s3:=f2.trans (aS iW)
 have ω:d.aw.length+1≤100000:=by
  have:=(dg hf).2.2
  have:s1.d.aw.length<128:=by simpa[bO,en]using this
  rw[f1.1]at this
  have:d.aw.length<128:=this
  omega
 have h1:=fT hs (by decide) hf
 have h2:=di iC
 have h3:=bH iW
 obtain⟨fw,_,_⟩:=sX fH
 have hX:=cT CY kw (by decide)
 rw[fw]at hX
 obtain⟨d1,r1,g1⟩:=s1
 obtain rfl:d=d1:=f1.1.symm
 obtain rfl:g=g1:=f1.2.symm
 obtain⟨d2,r2,g2⟩:=s2
 obtain rfl:d=d2:=f2.1.symm
 obtain rfl:g=g2:=f2.2.symm
 obtain⟨d3,r3,g3⟩:=s3
 obtain rfl:d=d3:=f3.1.symm
 obtain rfl:g=g3:=f3.2.symm
 unfold dp
 refine aW ?_
 refine γ.ξ ζ η Tryz.func58 rfl rfl ?_
 refine ι h1 (by rfl) (by rfl) ?_
 refine ι h2 (by rfl) (by rfl) ?_
 refine ι h3 (by rfl) (by rfl) ?_
 refine γ.cx hX rfl ⟨.vec 1 _,.refl _,trivial⟩ rfl ?_
 refine ι (Φ d _ _ rfl 41) (by rfl) (by rfl) ?_
 refine Or.inl (And.intro (List.length_map _).symm (ε (cL ω rfl) ?_))
 refine aB.trans (mY 5 (A:=d.aw.map eT) (i_ (eT ⟨name,num,1,0,0,0,0,0,0,0,[],0,0,0,0, -1,0⟩)) rfl rfl (fun j y t hy ht=>by
  match j,hy,ht with
  |0,hy,ht=>cases hy;cases ht;exact .refl _
  |1,hy,ht=>cases hy;cases ht;exact .refl _
  |2,hy,ht=>cases hy;cases ht;exact .refl _
  |3,hy,ht=>cases hy;cases ht;exact .refl _
  |4,hy,ht=>cases hy;cases ht;exact .refl _
  |5,hy,ht=>cases hy;cases ht;exact .refl _
  |6,hy,ht=>cases hy;cases ht;exact .refl _
  |7,hy,ht=>cases hy;cases ht;exact .refl _
  |8,hy,ht=>cases hy;cases ht;exact .refl _
  |9,hy,ht=>cases hy;cases ht;exact .refl _
  |10,hy,ht=>cases hy;cases ht;exact(.af 5)
  |11,hy,ht=>cases hy;cases ht;exact .refl _
  |12,hy,ht=>cases hy;cases ht;exact .refl _
  |13,hy,ht=>cases hy;cases ht;exact .refl _
  |14,hy,ht=>cases hy;cases ht;exact .refl _
  |15,hy,ht=>cases hy;cases ht;exact .refl _
  |16,hy,ht=>cases hy;cases ht;exact .refl _
  |j+17,hy,ht=>cases hy)) ?_
 refine ae ?_ ?_
 ·exact⟨congrArg (fun n:Nat=>some (AV.agg [.t (.str d.name),.t (.int .i64 d.order),.sl 0 0 0 d.files.length,.sl 1 0 0 d.ag.length,.sl 2 0 0 d.flags.length,.sl 3 0 0 d.classes.length,.sl 4 0 0 d.forms.length,.sl 5 2 0 n,.sl 6 0 0 d.uses.length,.sl 7 0 0 d.av.length,.sl 8 0 0 d.macros.length,.sl 9 0 0 d.aT.length,.sl 10 0 0 d.aQ.length,.t (.θ 4 (Δ r3)),.t (.θ 2 (g.map Λ)),.t (.int .i64 0)])) (bW d.aw ⟨name,num,1,0,0,0,0,0,0,0,[],0,0,0,0, -1,0⟩),trivial⟩
 ·exact⟨rfl,rfl,rfl,rfl,rfl,b8 eT d.aw ⟨name,num,1,0,0,0,0,0,0,0,[],0,0,0,0, -1,0⟩,rfl,rfl,rfl,rfl,rfl,trivial⟩
theorem Ui{d:ο}{g:List cP}{r0:List ay}{s1 s2 s3 s4 s8 s9:PS}{name kw:List UInt8}{num:Int}(hs:cV ⟨d,r0,g⟩)(hf:dJ ⟨d,r0,g⟩ 6=some (s1,name))(iC:cK s1=some (s2,num))(iW:bL s2=some (s3,kw))(fH:cY kw 1 [[110,111,110,101],[100,97,116,97],[105,110,115,110],[112,97,105,114]]=some 2)
 {Me:Int} (oa:cK s3=some (s4,Me))
 {op w a b:Int} {ks:List T} (kx:mb 40 s4=some (s8,(op,w,a,b),ks)) {c9:lf} (j3:cN 10 s8 ⟨0,0,0,0, -1,0,[]⟩=some (s9,c9))
 :dp 58 5 ⟨d,r0,g⟩ ⟨{d with aw:=d.aw++[⟨name,num,2,Me,0,0,op,w,a,b,ks,c9.sign,c9.width,c9.align,c9.round,c9.hi,c9.lo⟩]},s9.rest,g⟩:=by
 have f1:aa ⟨d,r0,g⟩ s1:=bU hf
 have f2:aa ⟨d,r0,g⟩ s2:=f1.trans (cO iC)
 have f3:aa ⟨d,r0,g⟩ s3:=f2.trans (aS iW)
 have ω:d.aw.length+1≤100000:=by
  have:=(dg hf).2.2
  have:s1.d.aw.length<128:=by simpa[bO,en]using this
  rw[f1.1]at this
  have:d.aw.length<128:=this
  omega
 have h1:=fT hs (by decide) hf
 have h2:=di iC
 have h3:=bH iW
 obtain⟨fw,_,_⟩:=sX fH
 have hX:=cT CY kw (by decide)
 rw[fw]at hX
 have f4:aa ⟨d,r0,g⟩ s4:=f3.trans (cO oa)
 have h4:=di oa
 obtain⟨LM,h8⟩:=qO 40 _ _ _ _ _ _ _ kx
 have f8:aa ⟨d,r0,g⟩ s8:=f4.trans LM
 unfold bN at h8
 obtain⟨d1,r1,g1⟩:=s1
 obtain rfl:d=d1:=f1.1.symm
 obtain rfl:g=g1:=f1.2.symm
 obtain⟨d2,r2,g2⟩:=s2
 obtain rfl:d=d2:=f2.1.symm
 obtain rfl:g=g2:=f2.2.symm
 obtain⟨d3,r3,g3⟩:=s3
 obtain rfl:d=d3:=f3.1.symm
 obtain rfl:g=g3:=f3.2.symm
 obtain⟨d4,r4,g4⟩:=s4
 obtain rfl:d=d4:=f4.1.symm
 obtain rfl:g=g4:=f4.2.symm
 obtain⟨d8,r8,g8⟩:=s8
 obtain rfl:d=d8:=f8.1.symm
 obtain rfl:g=g8:=f8.2.symm
 unfold dp
 refine aW ?_
 refine γ.ξ ζ η Tryz.func58 rfl rfl ?_
 refine ι h1 (by rfl) (by rfl) ?_
 refine ι h2 (by rfl) (by rfl) ?_
 refine ι h3 (by rfl) (by rfl) ?_
 refine γ.cx hX rfl ⟨.vec 1 _,.refl _,trivial⟩ rfl ?_
 refine ι (Φ d _ _ rfl 41) (by rfl) (by rfl) ?_
 refine ι h4 (by rfl) (by rfl) ?_
 refine ι h8 (by rfl) (by rfl) ?_
 refine ao (fun x:Nat×List ay×lf=>cN x.1 ⟨d,x.2.1,g⟩ x.2.2=some (s9,c9)) (fun x:Nat×List ay×lf=>⟨[(1,.ptr 11 0 0 0),(2,.ptr 12 0 0 0),(3,.ptr 13 0 0 0),(5,.ptr 14 0 0 0)],rL d [.box (eG d (Δ x.2.1) (g.map Λ)),.box dh,.box [.t (.str name),.t (.int .i64 num),.t (.int .i64 2),.t (.int .i64 Me),.t (.int .i64 0),.t (.int .i64 0),.t (.int .i64 op),.t (.int .i64 w),.t (.int .i64 a),.t (.int .i64 b),.t (.θ 5 ks),.t (.int .i64 x.2.2.sign),.t (.int .i64 x.2.2.width),.t (.int .i64 x.2.2.align),.t (.int .i64 x.2.2.round),.t (.int .i64 x.2.2.hi),.t (.int .i64 x.2.2.lo)],.box [.t (.bool (x.2.2.seen.contains 0)),.t (.bool (x.2.2.seen.contains 1)),.t (.bool (x.2.2.seen.contains 2)),.t (.bool (x.2.2.seen.contains 3)),.t (.bool (x.2.2.seen.contains 4))]]⟩) (fun x=>x.1) (10,r8,⟨0,0,0,0, -1,0,[]⟩) j3 ?_ (fun⟨n,R,c⟩ hx=> ?_)
 ·exact τ [0,1,2,3,4,5,6,7,8,9,10,11,12,13,15] rfl ⟨rfl,rfl,rfl,rfl,trivial⟩ ⟨rfl,rfl,rfl,rfl,rfl,rfl,rfl,rfl,rfl,rfl,rfl,rfl,rfl,rfl,rfl,trivial⟩
 have hx:cN n ⟨d,R,g⟩ c=some (s9,c9):=hx
 cases n with
 |zero=>cases hx
 |succ n=>
  unfold cN at hx
  cases R with
  |nil=>
   cases hx
   refine Or.inl (And.intro (List.length_map _).symm (ε (cL ω rfl) ?_))
   refine ae ?_ ?_
   ·exact⟨congrArg (fun n:Nat=>some (AV.agg [.t (.str d.name),.t (.int .i64 d.order),.sl 0 0 0 d.files.length,.sl 1 0 0 d.ag.length,.sl 2 0 0 d.flags.length,.sl 3 0 0 d.classes.length,.sl 4 0 0 d.forms.length,.sl 5 2 0 n,.sl 6 0 0 d.uses.length,.sl 7 0 0 d.av.length,.sl 8 0 0 d.macros.length,.sl 9 0 0 d.aT.length,.sl 10 0 0 d.aQ.length,.t (.θ 4 (Δ [])),.t (.θ 2 (g.map Λ)),.t (.int .i64 0)])) (bW d.aw ⟨name,num,2,Me,0,0,op,w,a,b,ks,c9.sign,c9.width,c9.align,c9.round,c9.hi,c9.lo⟩),trivial⟩
   ·exact⟨rfl,rfl,rfl,rfl,rfl,b8 eT d.aw ⟨name,num,2,Me,0,0,op,w,a,b,ks,c9.sign,c9.width,c9.align,c9.round,c9.hi,c9.lo⟩,rfl,rfl,rfl,rfl,rfl,trivial⟩
  |cons t0 R0=>
   rw[show aP (⟨d,t0::R0,g⟩:PS)=false from rfl]at hx
   dsimp only at hx
   split at hx
   ·cases hx
   rename_i u1 inner aL
   split at hx
   ·cases hx
   rename_i u2 head Bw
   split at hx
   ·cases hx
   rename_i i hi
   split at hx
   ·cases hx
   rename_i hc
   split at hx
   ·cases hx
   rename_i u3 m hm
   have k1:=cD aL
   have k2:=bH Bw
   have k3:=di hm
   have p2:aa u1 u2:=aS Bw
   have p3:aa u2 u3:=cO hm
   obtain⟨l0,e0,rfl⟩:=aN aL
   obtain⟨rfl,rfl⟩:=List.cons.inj e0
   obtain⟨EM,RS,Ek⟩:=u2
   obtain rfl:d=EM:=p2.1.symm
   obtain rfl:g=Ek:=p2.2.symm
   obtain⟨EL,jt,Ej⟩:=u3
   obtain rfl:d=EL:=p3.1.symm
   obtain rfl:g=Ej:=p3.2.symm
   have hX:=cT OE head (by decide)
   obtain⟨i',x',e1,q2,q3⟩:=a_ _ _ _ _ hi
   refine U (fun _=> ?_) (fun c=>absurd (fh.symm.trans c) (by decide))
   match i',q2 with
   |0,q2=>
    cases q2
    obtain rfl:i=0:=by omega
    subst q3
    have hc:c.seen.contains 0=false:=hc
    have hx:(match aP ⟨d,jt,g⟩with|true=>cN n ⟨d,R0,g⟩ {c with sign:=1,width:=m,seen:=0::c.seen}|false=>none)=some (s9,c9):=hx
    split at hx
    rotate_left 1
    ·cases hx
    rename_i he
    have k5:=c_ he
    refine ι k1 (by rfl) (by rfl) ?_
    refine ι k2 (by rfl) (by rfl) ?_
    refine γ.cx hX rfl ⟨.vec 1 _,.refl _,trivial⟩ rfl ?_
    refine ι (Φ d _ _ rfl 41) (by rfl) (by rfl) ?_
    refine υ da (by decide+kernel) ?_
    refine ι (Φ d _ _ hc 41) (by rfl) (by rfl) ?_
    refine And.intro (fun j hj=>by cases hj) ?_
    refine And.intro (fun j hj=>by cases hj) ?_
    refine ι k3 (by rfl) (by rfl) ?_
    refine ι k5 (by rfl) (by rfl) ?_
    conv=>whnf
    exact⟨⟨(n,R0,{c with sign:=1,width:=m,seen:=0::c.seen}),hx⟩,τ [0,1,2,3,4,5,6,7,8,9,10,11,12,13,14] rfl ⟨rfl,rfl,rfl,rfl,trivial⟩ ⟨rfl,rfl,rfl,rfl,rfl,rfl,rfl,rfl,rfl,rfl,rfl,rfl,rfl,rfl,rfl,trivial⟩,Nat.lt_succ_self n⟩
   |1,q2=>
    cases q2
    obtain rfl:i=1:=by omega
    subst q3
    have hc:c.seen.contains 0=false:=hc
    have hx:(match aP ⟨d,jt,g⟩with|true=>cN n ⟨d,R0,g⟩ {c with sign:=2,width:=m,seen:=0::c.seen}|false=>none)=some (s9,c9):=hx
    split at hx
    rotate_left 1
    ·cases hx
    rename_i he
    have k5:=c_ he
    refine ι k1 (by rfl) (by rfl) ?_
    refine ι k2 (by rfl) (by rfl) ?_
    refine γ.cx hX rfl ⟨.vec 1 _,.refl _,trivial⟩ rfl ?_
    refine ι (Φ d _ _ rfl 41) (by rfl) (by rfl) ?_
    refine υ da (by decide+kernel) ?_
    refine ι (Φ d _ _ hc 41) (by rfl) (by rfl) ?_
    refine And.intro (fun j hj=>by cases hj) ?_
    refine And.intro (fun j hj=>by cases hj) ?_
    refine ι k3 (by rfl) (by rfl) ?_
    refine ι k5 (by rfl) (by rfl) ?_
    conv=>whnf
    exact⟨⟨(n,R0,{c with sign:=2,width:=m,seen:=0::c.seen}),hx⟩,τ [0,1,2,3,4,5,6,7,8,9,10,11,12,13,14] rfl ⟨rfl,rfl,rfl,rfl,trivial⟩ ⟨rfl,rfl,rfl,rfl,rfl,rfl,rfl,rfl,rfl,rfl,rfl,rfl,rfl,rfl,rfl,trivial⟩,Nat.lt_succ_self n⟩
   |2,q2=>
    cases q2
    obtain rfl:i=2:=by omega
    subst q3
    have hc:c.seen.contains 0=false:=hc
    have hx:(match aP ⟨d,jt,g⟩with|true=>cN n ⟨d,R0,g⟩ {c with sign:=3,width:=m,seen:=0::c.seen}|false=>none)=some (s9,c9):=hx
    split at hx
    rotate_left 1
    ·cases hx
    rename_i he
    have k5:=c_ he
    refine ι k1 (by rfl) (by rfl) ?_
    refine ι k2 (by rfl) (by rfl) ?_
    refine γ.cx hX rfl ⟨.vec 1 _,.refl _,trivial⟩ rfl ?_
    refine ι (Φ d _ _ rfl 41) (by rfl) (by rfl) ?_
    refine υ da (by decide+kernel) ?_
    refine ι (Φ d _ _ hc 41) (by rfl) (by rfl) ?_
    refine And.intro (fun j hj=>by cases hj) ?_
    refine And.intro (fun j hj=>by cases hj) ?_
    refine ι k3 (by rfl) (by rfl) ?_
    refine ι k5 (by rfl) (by rfl) ?_
    conv=>whnf
    exact⟨⟨(n,R0,{c with sign:=3,width:=m,seen:=0::c.seen}),hx⟩,τ [0,1,2,3,4,5,6,7,8,9,10,11,12,13,14] rfl ⟨rfl,rfl,rfl,rfl,trivial⟩ ⟨rfl,rfl,rfl,rfl,rfl,rfl,rfl,rfl,rfl,rfl,rfl,rfl,rfl,rfl,rfl,trivial⟩,Nat.lt_succ_self n⟩
   |3,q2=>
    cases q2
    obtain rfl:i=3:=by omega
    subst q3
    have hc:c.seen.contains 1=false:=hc
    have hx:(match aP ⟨d,jt,g⟩with|true=>cN n ⟨d,R0,g⟩ {c with align:=m,seen:=1::c.seen}|false=>none)=some (s9,c9):=hx
    split at hx
    rotate_left 1
    ·cases hx
    rename_i he
    have k5:=c_ he
    refine ι k1 (by rfl) (by rfl) ?_
    refine ι k2 (by rfl) (by rfl) ?_
    refine γ.cx hX rfl ⟨.vec 1 _,.refl _,trivial⟩ rfl ?_
    refine ι (Φ d _ _ rfl 41) (by rfl) (by rfl) ?_
    refine υ da (by decide+kernel) ?_
    refine ι (Φ d _ _ hc 41) (by rfl) (by rfl) ?_
    refine And.intro (fun j hj=>by cases hj) ?_
    refine And.intro (fun j hj=>by cases hj) ?_
    refine ι k3 (by rfl) (by rfl) ?_
    refine ι k5 (by rfl) (by rfl) ?_
    conv=>whnf
    exact⟨⟨(n,R0,{c with align:=m,seen:=1::c.seen}),hx⟩,τ [0,1,2,3,4,5,6,7,8,9,10,11,12,13,14] rfl ⟨rfl,rfl,rfl,rfl,trivial⟩ ⟨rfl,rfl,rfl,rfl,rfl,rfl,rfl,rfl,rfl,rfl,rfl,rfl,rfl,rfl,rfl,trivial⟩,Nat.lt_succ_self n⟩
   |4,q2=>
    cases q2
    obtain rfl:i=4:=by omega
    subst q3
    have hc:c.seen.contains 2=false:=hc
    have hx:(match aP ⟨d,jt,g⟩with|true=>cN n ⟨d,R0,g⟩ {c with round:=m,seen:=2::c.seen}|false=>none)=some (s9,c9):=hx
    split at hx
    rotate_left 1
    ·cases hx
    rename_i he
    have k5:=c_ he
    refine ι k1 (by rfl) (by rfl) ?_
    refine ι k2 (by rfl) (by rfl) ?_
    refine γ.cx hX rfl ⟨.vec 1 _,.refl _,trivial⟩ rfl ?_
    refine ι (Φ d _ _ rfl 41) (by rfl) (by rfl) ?_
    refine υ da (by decide+kernel) ?_
    refine ι (Φ d _ _ hc 41) (by rfl) (by rfl) ?_
    refine And.intro (fun j hj=>by cases hj) ?_
    refine And.intro (fun j hj=>by cases hj) ?_
    refine ι k3 (by rfl) (by rfl) ?_
    refine ι k5 (by rfl) (by rfl) ?_
    conv=>whnf
    exact⟨⟨(n,R0,{c with round:=m,seen:=2::c.seen}),hx⟩,τ [0,1,2,3,4,5,6,7,8,9,10,11,12,13,14] rfl ⟨rfl,rfl,rfl,rfl,trivial⟩ ⟨rfl,rfl,rfl,rfl,rfl,rfl,rfl,rfl,rfl,rfl,rfl,rfl,rfl,rfl,rfl,trivial⟩,Nat.lt_succ_self n⟩
   |5,q2=>
    cases q2
    obtain rfl:i=5:=by omega
    subst q3
    have hc:c.seen.contains 3=false:=hc
    have hx:(match(match cK ⟨d,jt,g⟩with|some (t,lo)=>some (t,({c with hi:=m,lo:=lo,seen:=3::c.seen}:lf))|none=>none)with|none=>none|some (t,c)=>match aP t with|true=>cN n ⟨t.d,R0,t.args⟩ c|false=>none)=some (s9,c9):=hx
    cases ku:cK ⟨d,jt,g⟩with
    |none=>rw[ku]at hx;cases hx
    |some y=>
    obtain⟨u4,Bp⟩:=y
    rw[ku]at hx
    have k4:=di ku
    have p4:aa ⟨d,jt,g⟩ u4:=cO ku
    obtain⟨L7,JU,LH⟩:=u4
    obtain rfl:d=L7:=p4.1.symm
    obtain rfl:g=LH:=p4.2.symm
    have hx:(match aP ⟨d,JU,g⟩with|true=>cN n ⟨d,R0,g⟩ {c with hi:=m,lo:=Bp,seen:=3::c.seen}|false=>none)=some (s9,c9):=hx
    split at hx
    rotate_left 1
    ·cases hx
    rename_i he
    have k5:=c_ he
    refine ι k1 (by rfl) (by rfl) ?_
    refine ι k2 (by rfl) (by rfl) ?_
    refine γ.cx hX rfl ⟨.vec 1 _,.refl _,trivial⟩ rfl ?_
    refine ι (Φ d _ _ rfl 41) (by rfl) (by rfl) ?_
    refine υ da (by decide+kernel) ?_
    refine ι (Φ d _ _ hc 41) (by rfl) (by rfl) ?_
    refine And.intro (fun j hj=>by cases hj) ?_
    refine And.intro (fun j hj=>by cases hj) ?_
    refine ι k3 (by rfl) (by rfl) ?_
    refine ι k4 (by rfl) (by rfl) ?_
    refine ι k5 (by rfl) (by rfl) ?_
    conv=>whnf
    exact⟨⟨(n,R0,{c with hi:=m,lo:=Bp,seen:=3::c.seen}),hx⟩,τ [0,1,2,3,4,5,6,7,8,9,10,11,12,13,14] rfl ⟨rfl,rfl,rfl,rfl,trivial⟩ ⟨rfl,rfl,rfl,rfl,rfl,rfl,rfl,rfl,rfl,rfl,rfl,rfl,rfl,rfl,rfl,trivial⟩,Nat.lt_succ_self n⟩
   |i'+6,q2=>cases q2
end Go.Proofs.YtcogcbplmkcojaaGreatDoor
namespace Go.Proofs.YtcogcbplmkcojaaGreatDoor
open Go.IntWalk
set_option maxRecDepth 100000
set_option linter.unusedVariables false
set_option linter.unusedSimpArgs false
set_option maxHeartbeats 4000000
theorem Uh{d:ο}{g:List cP}{r0:List ay}{s1 s2 s3 s4 s8 s9:PS}{name kw:List UInt8}{num:Int}(hs:cV ⟨d,r0,g⟩)(hf:dJ ⟨d,r0,g⟩ 6=some (s1,name))(iC:cK s1=some (s2,num))(iW:bL s2=some (s3,kw))(fH:cY kw 1 [[110,111,110,101],[100,97,116,97],[105,110,115,110],[112,97,105,114]]=some 3)
 {cl:Nat} (bn:bY s3 4=some (s4,cl))
 {op w a b:Int} {ks:List T} (kx:mb 40 s4=some (s8,(op,w,a,b),ks)) {c9:lf} (j3:cN 10 s8 ⟨0,0,0,0, -1,0,[]⟩=some (s9,c9))
 :dp 58 5 ⟨d,r0,g⟩ ⟨{d with aw:=d.aw++[⟨name,num,3,0,(cl:Int),0,op,w,a,b,ks,c9.sign,c9.width,c9.align,c9.round,c9.hi,c9.lo⟩]},s9.rest,g⟩:=by
 have f1:aa ⟨d,r0,g⟩ s1:=bU hf
 have f2:aa ⟨d,r0,g⟩ s2:=f1.trans (cO iC)
 have f3:aa ⟨d,r0,g⟩ s3:=f2.trans (aS iW)
 have ω:d.aw.length+1≤100000:=by
  have:=(dg hf).2.2
  have:s1.d.aw.length<128:=by simpa[bO,en]using this
  rw[f1.1]at this
  have:d.aw.length<128:=this
  omega
 have h1:=fT hs (by decide) hf
 have h2:=di iC
 have h3:=bH iW
 obtain⟨fw,_,_⟩:=sX fH
 have hX:=cT CY kw (by decide)
 rw[fw]at hX
 have f4:aa ⟨d,r0,g⟩ s4:=f3.trans (cn bn)
 have h4:=er (hs.same f3) (by decide) bn
 obtain⟨LM,h8⟩:=qO 40 _ _ _ _ _ _ _ kx
 have f8:aa ⟨d,r0,g⟩ s8:=f4.trans LM
 unfold bN at h8
 obtain⟨d1,r1,g1⟩:=s1
 obtain rfl:d=d1:=f1.1.symm
 obtain rfl:g=g1:=f1.2.symm
 obtain⟨d2,r2,g2⟩:=s2
 obtain rfl:d=d2:=f2.1.symm
 obtain rfl:g=g2:=f2.2.symm
 obtain⟨d3,r3,g3⟩:=s3
 obtain rfl:d=d3:=f3.1.symm
 obtain rfl:g=g3:=f3.2.symm
 obtain⟨d4,r4,g4⟩:=s4
 obtain rfl:d=d4:=f4.1.symm
 obtain rfl:g=g4:=f4.2.symm
 obtain⟨d8,r8,g8⟩:=s8
 obtain rfl:d=d8:=f8.1.symm
 obtain rfl:g=g8:=f8.2.symm
 unfold dp
 refine aW ?_
 refine γ.ξ ζ η Tryz.func58 rfl rfl ?_
 refine ι h1 (by rfl) (by rfl) ?_
 refine ι h2 (by rfl) (by rfl) ?_
 refine ι h3 (by rfl) (by rfl) ?_
 refine γ.cx hX rfl ⟨.vec 1 _,.refl _,trivial⟩ rfl ?_
 refine ι (Φ d _ _ rfl 41) (by rfl) (by rfl) ?_
 refine ι h4 (by rfl) (by rfl) ?_
 refine ι h8 (by rfl) (by rfl) ?_
 refine ao (fun x:Nat×List ay×lf=>cN x.1 ⟨d,x.2.1,g⟩ x.2.2=some (s9,c9)) (fun x:Nat×List ay×lf=>⟨[(1,.ptr 11 0 0 0),(2,.ptr 12 0 0 0),(3,.ptr 13 0 0 0),(5,.ptr 14 0 0 0)],rL d [.box (eG d (Δ x.2.1) (g.map Λ)),.box dh,.box [.t (.str name),.t (.int .i64 num),.t (.int .i64 3),.t (.int .i64 0),.t (.int .i64 (cl:Int)),.t (.int .i64 0),.t (.int .i64 op),.t (.int .i64 w),.t (.int .i64 a),.t (.int .i64 b),.t (.θ 5 ks),.t (.int .i64 x.2.2.sign),.t (.int .i64 x.2.2.width),.t (.int .i64 x.2.2.align),.t (.int .i64 x.2.2.round),.t (.int .i64 x.2.2.hi),.t (.int .i64 x.2.2.lo)],.box [.t (.bool (x.2.2.seen.contains 0)),.t (.bool (x.2.2.seen.contains 1)),.t (.bool (x.2.2.seen.contains 2)),.t (.bool (x.2.2.seen.contains 3)),.t (.bool (x.2.2.seen.contains 4))]]⟩) (fun x=>x.1) (10,r8,⟨0,0,0,0, -1,0,[]⟩) j3 ?_ (fun⟨n,R,c⟩ hx=> ?_)
 ·exact τ [0,1,2,3,4,5,6,7,8,9,10,11,12,13,15] rfl ⟨rfl,rfl,rfl,rfl,trivial⟩ ⟨rfl,rfl,rfl,rfl,rfl,rfl,rfl,rfl,rfl,rfl,rfl,rfl,rfl,rfl,rfl,trivial⟩
 have hx:cN n ⟨d,R,g⟩ c=some (s9,c9):=hx
 cases n with
 |zero=>cases hx
 |succ n=>
  unfold cN at hx
  cases R with
  |nil=>
   cases hx
   refine Or.inl (And.intro (List.length_map _).symm (ε (cL ω rfl) ?_))
   refine ae ?_ ?_
   ·exact⟨congrArg (fun n:Nat=>some (AV.agg [.t (.str d.name),.t (.int .i64 d.order),.sl 0 0 0 d.files.length,.sl 1 0 0 d.ag.length,.sl 2 0 0 d.flags.length,.sl 3 0 0 d.classes.length,.sl 4 0 0 d.forms.length,.sl 5 2 0 n,.sl 6 0 0 d.uses.length,.sl 7 0 0 d.av.length,.sl 8 0 0 d.macros.length,.sl 9 0 0 d.aT.length,.sl 10 0 0 d.aQ.length,.t (.θ 4 (Δ [])),.t (.θ 2 (g.map Λ)),.t (.int .i64 0)])) (bW d.aw ⟨name,num,3,0,(cl:Int),0,op,w,a,b,ks,c9.sign,c9.width,c9.align,c9.round,c9.hi,c9.lo⟩),trivial⟩
   ·exact⟨rfl,rfl,rfl,rfl,rfl,b8 eT d.aw ⟨name,num,3,0,(cl:Int),0,op,w,a,b,ks,c9.sign,c9.width,c9.align,c9.round,c9.hi,c9.lo⟩,rfl,rfl,rfl,rfl,rfl,trivial⟩
  |cons t0 R0=>
   rw[show aP (⟨d,t0::R0,g⟩:PS)=false from rfl]at hx
   dsimp only at hx
   split at hx
   ·cases hx
   rename_i u1 inner aL
   split at hx
   ·cases hx
   rename_i u2 head Bw
   split at hx
   ·cases hx
   rename_i i hi
   split at hx
   ·cases hx
   rename_i hc
   split at hx
   ·cases hx
   rename_i u3 m hm
   have k1:=cD aL
   have k2:=bH Bw
   have k3:=di hm
   have p2:aa u1 u2:=aS Bw
   have p3:aa u2 u3:=cO hm
   obtain⟨l0,e0,rfl⟩:=aN aL
   obtain⟨rfl,rfl⟩:=List.cons.inj e0
   obtain⟨EM,RS,Ek⟩:=u2
   obtain rfl:d=EM:=p2.1.symm
   obtain rfl:g=Ek:=p2.2.symm
   obtain⟨EL,jt,Ej⟩:=u3
   obtain rfl:d=EL:=p3.1.symm
   obtain rfl:g=Ej:=p3.2.symm
   have hX:=cT OE head (by decide)
   obtain⟨i',x',e1,q2,q3⟩:=a_ _ _ _ _ hi
   refine U (fun _=> ?_) (fun c=>absurd (fh.symm.trans c) (by decide))
   match i',q2 with
   |0,q2=>
    cases q2
    obtain rfl:i=0:=by omega
    subst q3
    have hc:c.seen.contains 0=false:=hc
    have hx:(match aP ⟨d,jt,g⟩with|true=>cN n ⟨d,R0,g⟩ {c with sign:=1,width:=m,seen:=0::c.seen}|false=>none)=some (s9,c9):=hx
    split at hx
    rotate_left 1
    ·cases hx
    rename_i he
    have k5:=c_ he
    refine ι k1 (by rfl) (by rfl) ?_
    refine ι k2 (by rfl) (by rfl) ?_
    refine γ.cx hX rfl ⟨.vec 1 _,.refl _,trivial⟩ rfl ?_
    refine ι (Φ d _ _ rfl 41) (by rfl) (by rfl) ?_
    refine υ da (by decide+kernel) ?_
    refine ι (Φ d _ _ hc 41) (by rfl) (by rfl) ?_
    refine And.intro (fun j hj=>by cases hj) ?_
    refine And.intro (fun j hj=>by cases hj) ?_
    refine ι k3 (by rfl) (by rfl) ?_
    refine ι k5 (by rfl) (by rfl) ?_
    conv=>whnf
    exact⟨⟨(n,R0,{c with sign:=1,width:=m,seen:=0::c.seen}),hx⟩,τ [0,1,2,3,4,5,6,7,8,9,10,11,12,13,14] rfl ⟨rfl,rfl,rfl,rfl,trivial⟩ ⟨rfl,rfl,rfl,rfl,rfl,rfl,rfl,rfl,rfl,rfl,rfl,rfl,rfl,rfl,rfl,trivial⟩,Nat.lt_succ_self n⟩
   |1,q2=>
    cases q2
    obtain rfl:i=1:=by omega
    subst q3
    have hc:c.seen.contains 0=false:=hc
    have hx:(match aP ⟨d,jt,g⟩with|true=>cN n ⟨d,R0,g⟩ {c with sign:=2,width:=m,seen:=0::c.seen}|false=>none)=some (s9,c9):=hx
    split at hx
    rotate_left 1
    ·cases hx
    rename_i he
    have k5:=c_ he
    refine ι k1 (by rfl) (by rfl) ?_
    refine ι k2 (by rfl) (by rfl) ?_
    refine γ.cx hX rfl ⟨.vec 1 _,.refl _,trivial⟩ rfl ?_
    refine ι (Φ d _ _ rfl 41) (by rfl) (by rfl) ?_
    refine υ da (by decide+kernel) ?_
    refine ι (Φ d _ _ hc 41) (by rfl) (by rfl) ?_
    refine And.intro (fun j hj=>by cases hj) ?_
    refine And.intro (fun j hj=>by cases hj) ?_
    refine ι k3 (by rfl) (by rfl) ?_
    refine ι k5 (by rfl) (by rfl) ?_
    conv=>whnf
    exact⟨⟨(n,R0,{c with sign:=2,width:=m,seen:=0::c.seen}),hx⟩,τ [0,1,2,3,4,5,6,7,8,9,10,11,12,13,14] rfl ⟨rfl,rfl,rfl,rfl,trivial⟩ ⟨rfl,rfl,rfl,rfl,rfl,rfl,rfl,rfl,rfl,rfl,rfl,rfl,rfl,rfl,rfl,trivial⟩,Nat.lt_succ_self n⟩
   |2,q2=>
    cases q2
    obtain rfl:i=2:=by omega
    subst q3
    have hc:c.seen.contains 0=false:=hc
    have hx:(match aP ⟨d,jt,g⟩with|true=>cN n ⟨d,R0,g⟩ {c with sign:=3,width:=m,seen:=0::c.seen}|false=>none)=some (s9,c9):=hx
    split at hx
    rotate_left 1
    ·cases hx
    rename_i he
    have k5:=c_ he
    refine ι k1 (by rfl) (by rfl) ?_
    refine ι k2 (by rfl) (by rfl) ?_
    refine γ.cx hX rfl ⟨.vec 1 _,.refl _,trivial⟩ rfl ?_
    refine ι (Φ d _ _ rfl 41) (by rfl) (by rfl) ?_
    refine υ da (by decide+kernel) ?_
    refine ι (Φ d _ _ hc 41) (by rfl) (by rfl) ?_
    refine And.intro (fun j hj=>by cases hj) ?_
    refine And.intro (fun j hj=>by cases hj) ?_
    refine ι k3 (by rfl) (by rfl) ?_
    refine ι k5 (by rfl) (by rfl) ?_
    conv=>whnf
    exact⟨⟨(n,R0,{c with sign:=3,width:=m,seen:=0::c.seen}),hx⟩,τ [0,1,2,3,4,5,6,7,8,9,10,11,12,13,14] rfl ⟨rfl,rfl,rfl,rfl,trivial⟩ ⟨rfl,rfl,rfl,rfl,rfl,rfl,rfl,rfl,rfl,rfl,rfl,rfl,rfl,rfl,rfl,trivial⟩,Nat.lt_succ_self n⟩
   |3,q2=>
    cases q2
    obtain rfl:i=3:=by omega
    subst q3
    have hc:c.seen.contains 1=false:=hc
    have hx:(match aP ⟨d,jt,g⟩with|true=>cN n ⟨d,R0,g⟩ {c with align:=m,seen:=1::c.seen}|false=>none)=some (s9,c9):=hx
    split at hx
    rotate_left 1
    ·cases hx
    rename_i he
    have k5:=c_ he
    refine ι k1 (by rfl) (by rfl) ?_
    refine ι k2 (by rfl) (by rfl) ?_
    refine γ.cx hX rfl ⟨.vec 1 _,.refl _,trivial⟩ rfl ?_
    refine ι (Φ d _ _ rfl 41) (by rfl) (by rfl) ?_
    refine υ da (by decide+kernel) ?_
    refine ι (Φ d _ _ hc 41) (by rfl) (by rfl) ?_
    refine And.intro (fun j hj=>by cases hj) ?_
    refine And.intro (fun j hj=>by cases hj) ?_
    refine ι k3 (by rfl) (by rfl) ?_
    refine ι k5 (by rfl) (by rfl) ?_
    conv=>whnf
    exact⟨⟨(n,R0,{c with align:=m,seen:=1::c.seen}),hx⟩,τ [0,1,2,3,4,5,6,7,8,9,10,11,12,13,14] rfl ⟨rfl,rfl,rfl,rfl,trivial⟩ ⟨rfl,rfl,rfl,rfl,rfl,rfl,rfl,rfl,rfl,rfl,rfl,rfl,rfl,rfl,rfl,trivial⟩,Nat.lt_succ_self n⟩
   |4,q2=>
    cases q2
    obtain rfl:i=4:=by omega
    subst q3
    have hc:c.seen.contains 2=false:=hc
    have hx:(match aP ⟨d,jt,g⟩with|true=>cN n ⟨d,R0,g⟩ {c with round:=m,seen:=2::c.seen}|false=>none)=some (s9,c9):=hx
    split at hx
    rotate_left 1
    ·cases hx
    rename_i he
    have k5:=c_ he
    refine ι k1 (by rfl) (by rfl) ?_
    refine ι k2 (by rfl) (by rfl) ?_
    refine γ.cx hX rfl ⟨.vec 1 _,.refl _,trivial⟩ rfl ?_
    refine ι (Φ d _ _ rfl 41) (by rfl) (by rfl) ?_
    refine υ da (by decide+kernel) ?_
    refine ι (Φ d _ _ hc 41) (by rfl) (by rfl) ?_
    refine And.intro (fun j hj=>by cases hj) ?_
    refine And.intro (fun j hj=>by cases hj) ?_
    refine ι k3 (by rfl) (by rfl) ?_
    refine ι k5 (by rfl) (by rfl) ?_
    conv=>whnf
    exact⟨⟨(n,R0,{c with round:=m,seen:=2::c.seen}),hx⟩,τ [0,1,2,3,4,5,6,7,8,9,10,11,12,13,14] rfl ⟨rfl,rfl,rfl,rfl,trivial⟩ ⟨rfl,rfl,rfl,rfl,rfl,rfl,rfl,rfl,rfl,rfl,rfl,rfl,rfl,rfl,rfl,trivial⟩,Nat.lt_succ_self n⟩
   |5,q2=>
    cases q2
    obtain rfl:i=5:=by omega
    subst q3
    have hc:c.seen.contains 3=false:=hc
    have hx:(match(match cK ⟨d,jt,g⟩with|some (t,lo)=>some (t,({c with hi:=m,lo:=lo,seen:=3::c.seen}:lf))|none=>none)with|none=>none|some (t,c)=>match aP t with|true=>cN n ⟨t.d,R0,t.args⟩ c|false=>none)=some (s9,c9):=hx
    cases ku:cK ⟨d,jt,g⟩with
    |none=>rw[ku]at hx;cases hx
    |some y=>
    obtain⟨u4,Bp⟩:=y
    rw[ku]at hx
    have k4:=di ku
    have p4:aa ⟨d,jt,g⟩ u4:=cO ku
    obtain⟨L7,JU,LH⟩:=u4
    obtain rfl:d=L7:=p4.1.symm
    obtain rfl:g=LH:=p4.2.symm
    have hx:(match aP ⟨d,JU,g⟩with|true=>cN n ⟨d,R0,g⟩ {c with hi:=m,lo:=Bp,seen:=3::c.seen}|false=>none)=some (s9,c9):=hx
    split at hx
    rotate_left 1
    ·cases hx
    rename_i he
    have k5:=c_ he
    refine ι k1 (by rfl) (by rfl) ?_
    refine ι k2 (by rfl) (by rfl) ?_
    refine γ.cx hX rfl ⟨.vec 1 _,.refl _,trivial⟩ rfl ?_
    refine ι (Φ d _ _ rfl 41) (by rfl) (by rfl) ?_
    refine υ da (by decide+kernel) ?_
    refine ι (Φ d _ _ hc 41) (by rfl) (by rfl) ?_
    refine And.intro (fun j hj=>by cases hj) ?_
    refine And.intro (fun j hj=>by cases hj) ?_
    refine ι k3 (by rfl) (by rfl) ?_
    refine ι k4 (by rfl) (by rfl) ?_
    refine ι k5 (by rfl) (by rfl) ?_
    conv=>whnf
    exact⟨⟨(n,R0,{c with hi:=m,lo:=Bp,seen:=3::c.seen}),hx⟩,τ [0,1,2,3,4,5,6,7,8,9,10,11,12,13,14] rfl ⟨rfl,rfl,rfl,rfl,trivial⟩ ⟨rfl,rfl,rfl,rfl,rfl,rfl,rfl,rfl,rfl,rfl,rfl,rfl,rfl,rfl,rfl,trivial⟩,Nat.lt_succ_self n⟩
   |i'+6,q2=>cases q2
end Go.Proofs.YtcogcbplmkcojaaGreatDoor
namespace Go.Proofs.YtcogcbplmkcojaaGreatDoor
open Go.IntWalk
set_option maxRecDepth 100000
set_option linter.unusedVariables false
set_option linter.unusedSimpArgs false
set_option maxHeartbeats 4000000
theorem Ug{d:ο}{g:List cP}{r0:List ay}{s1 s2 s3 s4 s5 s8 s9:PS}{name kw:List UInt8}{num:Int}(hs:cV ⟨d,r0,g⟩)(hf:dJ ⟨d,r0,g⟩ 6=some (s1,name))(iC:cK s1=some (s2,num))(iW:bL s2=some (s3,kw))(fH:cY kw 1 [[110,111,110,101],[100,97,116,97],[105,110,115,110],[112,97,105,114]]=some 4)
 {cl:Nat} (bn:bY s3 4=some (s4,cl))
 {ER:Nat} (kO:bY s4 4=some (s5,ER))
 {op w a b:Int} {ks:List T} (kx:mb 40 s5=some (s8,(op,w,a,b),ks)) {c9:lf} (j3:cN 10 s8 ⟨0,0,0,0, -1,0,[]⟩=some (s9,c9))
 :dp 58 5 ⟨d,r0,g⟩ ⟨{d with aw:=d.aw++[⟨name,num,4,0,(cl:Int),(ER:Int),op,w,a,b,ks,c9.sign,c9.width,c9.align,c9.round,c9.hi,c9.lo⟩]},s9.rest,g⟩:=by
 have f1:aa ⟨d,r0,g⟩ s1:=bU hf
 have f2:aa ⟨d,r0,g⟩ s2:=f1.trans (cO iC)
 have f3:aa ⟨d,r0,g⟩ s3:=f2.trans (aS iW)
 have ω:d.aw.length+1≤100000:=by
  have:=(dg hf).2.2
  have:s1.d.aw.length<128:=by simpa[bO,en]using this
  rw[f1.1]at this
  have:d.aw.length<128:=this
  omega
 have h1:=fT hs (by decide) hf
 have h2:=di iC
 have h3:=bH iW
 obtain⟨fw,_,_⟩:=sX fH
 have hX:=cT CY kw (by decide)
 rw[fw]at hX
 have f4:aa ⟨d,r0,g⟩ s4:=f3.trans (cn bn)
 have h4:=er (hs.same f3) (by decide) bn
 have f5:aa ⟨d,r0,g⟩ s5:=f4.trans (cn kO)
 have h5:=er (hs.same f4) (by decide) kO
 obtain⟨LM,h8⟩:=qO 40 _ _ _ _ _ _ _ kx
 have f8:aa ⟨d,r0,g⟩ s8:=f5.trans LM
 unfold bN at h8
 obtain⟨d1,r1,g1⟩:=s1
 obtain rfl:d=d1:=f1.1.symm
 obtain rfl:g=g1:=f1.2.symm
 obtain⟨d2,r2,g2⟩:=s2
 obtain rfl:d=d2:=f2.1.symm
 obtain rfl:g=g2:=f2.2.symm
 obtain⟨d3,r3,g3⟩:=s3
 obtain rfl:d=d3:=f3.1.symm
 obtain rfl:g=g3:=f3.2.symm
 obtain⟨d4,r4,g4⟩:=s4
 obtain rfl:d=d4:=f4.1.symm
 obtain rfl:g=g4:=f4.2.symm
 obtain⟨d5,r5,g5⟩:=s5
 obtain rfl:d=d5:=f5.1.symm
 obtain rfl:g=g5:=f5.2.symm
 obtain⟨d8,r8,g8⟩:=s8
 obtain rfl:d=d8:=f8.1.symm
 obtain rfl:g=g8:=f8.2.symm
 unfold dp
 refine aW ?_
 refine γ.ξ ζ η Tryz.func58 rfl rfl ?_
 refine ι h1 (by rfl) (by rfl) ?_
 refine ι h2 (by rfl) (by rfl) ?_
 refine ι h3 (by rfl) (by rfl) ?_
 refine γ.cx hX rfl ⟨.vec 1 _,.refl _,trivial⟩ rfl ?_
 refine ι (Φ d _ _ rfl 41) (by rfl) (by rfl) ?_
 refine ι h4 (by rfl) (by rfl) ?_
 refine ι h5 (by rfl) (by rfl) ?_
 refine ι h8 (by rfl) (by rfl) ?_
 refine ao (fun x:Nat×List ay×lf=>cN x.1 ⟨d,x.2.1,g⟩ x.2.2=some (s9,c9)) (fun x:Nat×List ay×lf=>⟨[(1,.ptr 11 0 0 0),(2,.ptr 12 0 0 0),(3,.ptr 13 0 0 0),(5,.ptr 14 0 0 0)],rL d [.box (eG d (Δ x.2.1) (g.map Λ)),.box dh,.box [.t (.str name),.t (.int .i64 num),.t (.int .i64 4),.t (.int .i64 0),.t (.int .i64 (cl:Int)),.t (.int .i64 (ER:Int)),.t (.int .i64 op),.t (.int .i64 w),.t (.int .i64 a),.t (.int .i64 b),.t (.θ 5 ks),.t (.int .i64 x.2.2.sign),.t (.int .i64 x.2.2.width),.t (.int .i64 x.2.2.align),.t (.int .i64 x.2.2.round),.t (.int .i64 x.2.2.hi),.t (.int .i64 x.2.2.lo)],.box [.t (.bool (x.2.2.seen.contains 0)),.t (.bool (x.2.2.seen.contains 1)),.t (.bool (x.2.2.seen.contains 2)),.t (.bool (x.2.2.seen.contains 3)),.t (.bool (x.2.2.seen.contains 4))]]⟩) (fun x=>x.1) (10,r8,⟨0,0,0,0, -1,0,[]⟩) j3 ?_ (fun⟨n,R,c⟩ hx=> ?_)
 ·exact τ [0,1,2,3,4,5,6,7,8,9,10,11,12,13,15] rfl ⟨rfl,rfl,rfl,rfl,trivial⟩ ⟨rfl,rfl,rfl,rfl,rfl,rfl,rfl,rfl,rfl,rfl,rfl,rfl,rfl,rfl,rfl,trivial⟩
 have hx:cN n ⟨d,R,g⟩ c=some (s9,c9):=hx
 cases n with
 |zero=>cases hx
 |succ n=>
  unfold cN at hx
  cases R with
  |nil=>
   cases hx
   refine Or.inl (And.intro (List.length_map _).symm (ε (cL ω rfl) ?_))
   refine ae ?_ ?_
   ·exact⟨congrArg (fun n:Nat=>some (AV.agg [.t (.str d.name),.t (.int .i64 d.order),.sl 0 0 0 d.files.length,.sl 1 0 0 d.ag.length,.sl 2 0 0 d.flags.length,.sl 3 0 0 d.classes.length,.sl 4 0 0 d.forms.length,.sl 5 2 0 n,.sl 6 0 0 d.uses.length,.sl 7 0 0 d.av.length,.sl 8 0 0 d.macros.length,.sl 9 0 0 d.aT.length,.sl 10 0 0 d.aQ.length,.t (.θ 4 (Δ [])),.t (.θ 2 (g.map Λ)),.t (.int .i64 0)])) (bW d.aw ⟨name,num,4,0,(cl:Int),(ER:Int),op,w,a,b,ks,c9.sign,c9.width,c9.align,c9.round,c9.hi,c9.lo⟩),trivial⟩
   ·exact⟨rfl,rfl,rfl,rfl,rfl,b8 eT d.aw ⟨name,num,4,0,(cl:Int),(ER:Int),op,w,a,b,ks,c9.sign,c9.width,c9.align,c9.round,c9.hi,c9.lo⟩,rfl,rfl,rfl,rfl,rfl,trivial⟩
  |cons t0 R0=>
   rw[show aP (⟨d,t0::R0,g⟩:PS)=false from rfl]at hx
   dsimp only at hx
   split at hx
   ·cases hx
   rename_i u1 inner aL
   split at hx
   ·cases hx
   rename_i u2 head Bw
   split at hx
   ·cases hx
   rename_i i hi
   split at hx
   ·cases hx
   rename_i hc
   split at hx
   ·cases hx
   rename_i u3 m hm
   have k1:=cD aL
   have k2:=bH Bw
   have k3:=di hm
   have p2:aa u1 u2:=aS Bw
   have p3:aa u2 u3:=cO hm
   obtain⟨l0,e0,rfl⟩:=aN aL
   obtain⟨rfl,rfl⟩:=List.cons.inj e0
   obtain⟨EM,RS,Ek⟩:=u2
   obtain rfl:d=EM:=p2.1.symm
   obtain rfl:g=Ek:=p2.2.symm
   obtain⟨EL,jt,Ej⟩:=u3
   obtain rfl:d=EL:=p3.1.symm
   obtain rfl:g=Ej:=p3.2.symm
   have hX:=cT OE head (by decide)
   obtain⟨i',x',e1,q2,q3⟩:=a_ _ _ _ _ hi
   refine U (fun _=> ?_) (fun c=>absurd (fh.symm.trans c) (by decide))
   match i',q2 with
   |0,q2=>
    cases q2
    obtain rfl:i=0:=by omega
    subst q3
    have hc:c.seen.contains 0=false:=hc
    have hx:(match aP ⟨d,jt,g⟩with|true=>cN n ⟨d,R0,g⟩ {c with sign:=1,width:=m,seen:=0::c.seen}|false=>none)=some (s9,c9):=hx
    split at hx
    rotate_left 1
    ·cases hx
    rename_i he
    have k5:=c_ he
    refine ι k1 (by rfl) (by rfl) ?_
    refine ι k2 (by rfl) (by rfl) ?_
    refine γ.cx hX rfl ⟨.vec 1 _,.refl _,trivial⟩ rfl ?_
    refine ι (Φ d _ _ rfl 41) (by rfl) (by rfl) ?_
    refine υ da (by decide+kernel) ?_
    refine ι (Φ d _ _ hc 41) (by rfl) (by rfl) ?_
    refine And.intro (fun j hj=>by cases hj) ?_
    refine And.intro (fun j hj=>by cases hj) ?_
    refine ι k3 (by rfl) (by rfl) ?_
    refine ι k5 (by rfl) (by rfl) ?_
    conv=>whnf
    exact⟨⟨(n,R0,{c with sign:=1,width:=m,seen:=0::c.seen}),hx⟩,τ [0,1,2,3,4,5,6,7,8,9,10,11,12,13,14] rfl ⟨rfl,rfl,rfl,rfl,trivial⟩ ⟨rfl,rfl,rfl,rfl,rfl,rfl,rfl,rfl,rfl,rfl,rfl,rfl,rfl,rfl,rfl,trivial⟩,Nat.lt_succ_self n⟩
   |1,q2=>
    cases q2
    obtain rfl:i=1:=by omega
    subst q3
    have hc:c.seen.contains 0=false:=hc
    have hx:(match aP ⟨d,jt,g⟩with|true=>cN n ⟨d,R0,g⟩ {c with sign:=2,width:=m,seen:=0::c.seen}|false=>none)=some (s9,c9):=hx
    split at hx
    rotate_left 1
    ·cases hx
    rename_i he
    have k5:=c_ he
    refine ι k1 (by rfl) (by rfl) ?_
    refine ι k2 (by rfl) (by rfl) ?_
    refine γ.cx hX rfl ⟨.vec 1 _,.refl _,trivial⟩ rfl ?_
    refine ι (Φ d _ _ rfl 41) (by rfl) (by rfl) ?_
    refine υ da (by decide+kernel) ?_
    refine ι (Φ d _ _ hc 41) (by rfl) (by rfl) ?_
    refine And.intro (fun j hj=>by cases hj) ?_
    refine And.intro (fun j hj=>by cases hj) ?_
    refine ι k3 (by rfl) (by rfl) ?_
    refine ι k5 (by rfl) (by rfl) ?_
    conv=>whnf
    exact⟨⟨(n,R0,{c with sign:=2,width:=m,seen:=0::c.seen}),hx⟩,τ [0,1,2,3,4,5,6,7,8,9,10,11,12,13,14] rfl ⟨rfl,rfl,rfl,rfl,trivial⟩ ⟨rfl,rfl,rfl,rfl,rfl,rfl,rfl,rfl,rfl,rfl,rfl,rfl,rfl,rfl,rfl,trivial⟩,Nat.lt_succ_self n⟩
   |2,q2=>
    cases q2
    obtain rfl:i=2:=by omega
    subst q3
    have hc:c.seen.contains 0=false:=hc
    have hx:(match aP ⟨d,jt,g⟩with|true=>cN n ⟨d,R0,g⟩ {c with sign:=3,width:=m,seen:=0::c.seen}|false=>none)=some (s9,c9):=hx
    split at hx
    rotate_left 1
    ·cases hx
    rename_i he
    have k5:=c_ he
    refine ι k1 (by rfl) (by rfl) ?_
    refine ι k2 (by rfl) (by rfl) ?_
    refine γ.cx hX rfl ⟨.vec 1 _,.refl _,trivial⟩ rfl ?_
    refine ι (Φ d _ _ rfl 41) (by rfl) (by rfl) ?_
    refine υ da (by decide+kernel) ?_
    refine ι (Φ d _ _ hc 41) (by rfl) (by rfl) ?_
    refine And.intro (fun j hj=>by cases hj) ?_
    refine And.intro (fun j hj=>by cases hj) ?_
    refine ι k3 (by rfl) (by rfl) ?_
    refine ι k5 (by rfl) (by rfl) ?_
    conv=>whnf
    exact⟨⟨(n,R0,{c with sign:=3,width:=m,seen:=0::c.seen}),hx⟩,τ [0,1,2,3,4,5,6,7,8,9,10,11,12,13,14] rfl ⟨rfl,rfl,rfl,rfl,trivial⟩ ⟨rfl,rfl,rfl,rfl,rfl,rfl,rfl,rfl,rfl,rfl,rfl,rfl,rfl,rfl,rfl,trivial⟩,Nat.lt_succ_self n⟩
   |3,q2=>
    cases q2
    obtain rfl:i=3:=by omega
    subst q3
    have hc:c.seen.contains 1=false:=hc
    have hx:(match aP ⟨d,jt,g⟩with|true=>cN n ⟨d,R0,g⟩ {c with align:=m,seen:=1::c.seen}|false=>none)=some (s9,c9):=hx
    split at hx
    rotate_left 1
    ·cases hx
    rename_i he
    have k5:=c_ he
    refine ι k1 (by rfl) (by rfl) ?_
    refine ι k2 (by rfl) (by rfl) ?_
    refine γ.cx hX rfl ⟨.vec 1 _,.refl _,trivial⟩ rfl ?_
    refine ι (Φ d _ _ rfl 41) (by rfl) (by rfl) ?_
    refine υ da (by decide+kernel) ?_
    refine ι (Φ d _ _ hc 41) (by rfl) (by rfl) ?_
    refine And.intro (fun j hj=>by cases hj) ?_
    refine And.intro (fun j hj=>by cases hj) ?_
    refine ι k3 (by rfl) (by rfl) ?_
    refine ι k5 (by rfl) (by rfl) ?_
    conv=>whnf
    exact⟨⟨(n,R0,{c with align:=m,seen:=1::c.seen}),hx⟩,τ [0,1,2,3,4,5,6,7,8,9,10,11,12,13,14] rfl ⟨rfl,rfl,rfl,rfl,trivial⟩ ⟨rfl,rfl,rfl,rfl,rfl,rfl,rfl,rfl,rfl,rfl,rfl,rfl,rfl,rfl,rfl,trivial⟩,Nat.lt_succ_self n⟩
   |4,q2=>
    cases q2
    obtain rfl:i=4:=by omega
    subst q3
    have hc:c.seen.contains 2=false:=hc
    have hx:(match aP ⟨d,jt,g⟩with|true=>cN n ⟨d,R0,g⟩ {c with round:=m,seen:=2::c.seen}|false=>none)=some (s9,c9):=hx
    split at hx
    rotate_left 1
    ·cases hx
    rename_i he
    have k5:=c_ he
    refine ι k1 (by rfl) (by rfl) ?_
    refine ι k2 (by rfl) (by rfl) ?_
    refine γ.cx hX rfl ⟨.vec 1 _,.refl _,trivial⟩ rfl ?_
    refine ι (Φ d _ _ rfl 41) (by rfl) (by rfl) ?_
    refine υ da (by decide+kernel) ?_
    refine ι (Φ d _ _ hc 41) (by rfl) (by rfl) ?_
    refine And.intro (fun j hj=>by cases hj) ?_
    refine And.intro (fun j hj=>by cases hj) ?_
    refine ι k3 (by rfl) (by rfl) ?_
    refine ι k5 (by rfl) (by rfl) ?_
    conv=>whnf
    exact⟨⟨(n,R0,{c with round:=m,seen:=2::c.seen}),hx⟩,τ [0,1,2,3,4,5,6,7,8,9,10,11,12,13,14] rfl ⟨rfl,rfl,rfl,rfl,trivial⟩ ⟨rfl,rfl,rfl,rfl,rfl,rfl,rfl,rfl,rfl,rfl,rfl,rfl,rfl,rfl,rfl,trivial⟩,Nat.lt_succ_self n⟩
   |5,q2=>
    cases q2
    obtain rfl:i=5:=by omega
    subst q3
    have hc:c.seen.contains 3=false:=hc
    have hx:(match(match cK ⟨d,jt,g⟩with|some (t,lo)=>some (t,({c with hi:=m,lo:=lo,seen:=3::c.seen}:lf))|none=>none)with|none=>none|some (t,c)=>match aP t with|true=>cN n ⟨t.d,R0,t.args⟩ c|false=>none)=some (s9,c9):=hx
    cases ku:cK ⟨d,jt,g⟩with
    |none=>rw[ku]at hx;cases hx
    |some y=>
    obtain⟨u4,Bp⟩:=y
    rw[ku]at hx
    have k4:=di ku
    have p4:aa ⟨d,jt,g⟩ u4:=cO ku
    obtain⟨L7,JU,LH⟩:=u4
    obtain rfl:d=L7:=p4.1.symm
    obtain rfl:g=LH:=p4.2.symm
    have hx:(match aP ⟨d,JU,g⟩with|true=>cN n ⟨d,R0,g⟩ {c with hi:=m,lo:=Bp,seen:=3::c.seen}|false=>none)=some (s9,c9):=hx
    split at hx
    rotate_left 1
    ·cases hx
    rename_i he
    have k5:=c_ he
    refine ι k1 (by rfl) (by rfl) ?_
    refine ι k2 (by rfl) (by rfl) ?_
    refine γ.cx hX rfl ⟨.vec 1 _,.refl _,trivial⟩ rfl ?_
    refine ι (Φ d _ _ rfl 41) (by rfl) (by rfl) ?_
    refine υ da (by decide+kernel) ?_
    refine ι (Φ d _ _ hc 41) (by rfl) (by rfl) ?_
    refine And.intro (fun j hj=>by cases hj) ?_
    refine And.intro (fun j hj=>by cases hj) ?_
    refine ι k3 (by rfl) (by rfl) ?_
    refine ι k4 (by rfl) (by rfl) ?_
    refine ι k5 (by rfl) (by rfl) ?_
    conv=>whnf
    exact⟨⟨(n,R0,{c with hi:=m,lo:=Bp,seen:=3::c.seen}),hx⟩,τ [0,1,2,3,4,5,6,7,8,9,10,11,12,13,14] rfl ⟨rfl,rfl,rfl,rfl,trivial⟩ ⟨rfl,rfl,rfl,rfl,rfl,rfl,rfl,rfl,rfl,rfl,rfl,rfl,rfl,rfl,rfl,trivial⟩,Nat.lt_succ_self n⟩
   |i'+6,q2=>cases q2
end Go.Proofs.YtcogcbplmkcojaaGreatDoor
