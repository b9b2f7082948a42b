/-
  The ground of the walks of this seat, part Fb.
-/
import Derived.Test.YtcogcbplmkcojaaGreatDoorKFa
import Derived.Tactics
import Derived.Orders
import Derived.Laws.Externs
import Derived.WalkKit
import Derived.ProofKit
import Derived.OpenShut
import Derived.ShutString
import Derived.Below
import Derived.Carry
import Derived.ChangeArms
import Derived.ChangeBears
import Derived.ChangeSlices
import Derived.Handed
namespace Go.Proofs.YtcogcbplmkcojaaGreatDoor
open Go.RowKit
set_option linter.unusedVariables false
set_option linter.unusedSimpArgs false
def gA(n:Nat):AV→AV×List Ω
 | .own e s z l=>(.sl n 0 0 l.length,[.arr e s z 0 (.ts l)])
 |x=>(x,[])
def gR(n:Nat):List AV→List AV×List Ω
 |[]=>([],[])
 |x::r=>((gA n x).1::(gR (n+(gA n x).2.length) r).1,(gA n x).2++(gR (n+(gA n x).2.length) r).2)
def eI(n:Nat):AV→AV×List Ω
 | .agg cs=>(.agg (gR n cs).1,(gR n cs).2)
 |x=>gA n x
def dD(n:Nat):List AV→List AV×List Ω
 |[]=>([],[])
 |x::r=>((eI n x).1::(dD (n+(eI n x).2.length) r).1,(eI n x).2++(dD (n+(eI n x).2.length) r).2)
def imp(n:Nat):AV→AV×List Ω
 | .aq vs=>(.aq (dD n vs).1,(dD n vs).2)
 |x=>eI n x
def vy:AV→Bool
 | .t _=>true
 | .own _ _ _ _=>true
 | .dx=>true
 | .bq=>true
 |_=>false
def qY:AV→Bool
 | .agg cs=>cs.all vy
 |x=>vy x
def aJ:AV→Bool
 | .aq vs=>vs.all qY
 |x=>qY x
inductive GE(n:Nat):AV→Prop
 |t (x):GE n (.t x)
 |ptr (b g i o) (h:n≤b):GE n (.ptr b g i o)
 |sl (b g i l) (h:n≤b):GE n (.sl b g i l)
 |agg (cs) (h:∀(i:Nat) x,cs[i]?=some x→GE n x):GE n (.agg cs)
 |aq (cs) (h:∀(i:Nat) x,cs[i]?=some x→GE n x):GE n (.aq cs)
 |fn (f a b) (ha:∀(i:Nat) x,a[i]?=some x→GE n x) (hb:∀(i:Nat) x,b[i]?=some x→GE n x):GE n (.fn f a b)
 |cG (t x) (h:GE n x):GE n (.cG t x)
 |dx:GE n .dx
 |bq:GE n .bq
theorem GE.le{n m:Nat}(K7:m≤n){x:AV}(h:GE n x):GE m x:=by
 induction h with
 |t x=>exact .t x
 |ptr b g i o h=>exact .ptr b g i o (by omega)
 |sl b g i l h=>exact .sl b g i l (by omega)
 |agg cs _ ih=>exact .agg cs ih
 |aq cs _ ih=>exact .aq cs ih
 |fn f a b _ _ nk nj=>exact .fn f a b nk nj
 |cG t x _ ih=>exact .cG t x ih
 |dx=>exact .dx
 |bq=>exact .bq
theorem F_{n:Nat}{x:AV}(h:vy x=true):GE n (gA n x).1:=by
 cases x<;>simp[vy]at h
 ·exact .t _
 ·exact .sl _ _ _ _ (Nat.le_refl _)
 ·exact .dx
 ·exact .bq
theorem F6{n:Nat}:∀{l:List AV} {n:Nat},l.all vy=true→∀(i:Nat) x,(gR n l).1[i]?=some x→GE n x
 |[],n,_,i,x,hi=>by simp[gR]at hi
 |a::r,n,h,i,x,hi=>by
  simp only[List.all_cons,Bool.and_eq_true]at h
  simp only[gR]at hi
  cases i with
  |zero=>simp at hi;subst hi;exact F_ h.1
  |succ i=>simp at hi;exact(F6 (n:=n) h.2 i x hi).le (Nat.le_add_right _ _)
theorem F8{n:Nat}{x:AV}(h:qY x=true):GE n (eI n x).1:=by
 unfold qY at h
 split at h
 ·exact .agg _ (F6 (n:=n) h)
 ·rename_i au
  have:eI n x=gA n x:=by cases x<;>first|rfl|(exact(au _ rfl).elim)
  rw[this];exact F_ h
theorem DK{n:Nat}:∀{l:List AV} {n:Nat},l.all qY=true→∀(i:Nat) x,(dD n l).1[i]?=some x→GE n x
 |[],n,_,i,x,hi=>by simp[dD]at hi
 |a::r,n,h,i,x,hi=>by
  simp only[List.all_cons,Bool.and_eq_true]at h
  simp only[dD]at hi
  cases i with
  |zero=>simp at hi;subst hi;exact F8 h.1
  |succ i=>simp at hi;exact(DK (n:=n) h.2 i x hi).le (Nat.le_add_right _ _)
theorem KT{n:Nat}{x:AV}(h:aJ x=true):GE n (imp n x).1:=by
 unfold aJ at h
 split at h
 ·exact .aq _ (DK (n:=n) h)
 ·rename_i au
  have:imp n x=eI n x:=by cases x<;>first|rfl|(exact(au _ rfl).elim)
  rw[this];exact F8 h
def Ω.qe:Ω→Bool
 | .arr _ _ _ _ (.ts _)=>true
 |_=>false
theorem DM(n:Nat)(x:AV):(gA n x).2.all Ω.qe=true:=by cases x<;>rfl
theorem DI:∀(l:List AV) (n:Nat),(gR n l).2.all Ω.qe=true
 |[],n=>rfl
 |a::r,n=>by simp only[gR,List.all_append,DM,DI r,Bool.and_self]
theorem DL(n:Nat)(x:AV):(eI n x).2.all Ω.qe=true:=by
 cases x<;>first|exact DI _ _|exact DM _ _
theorem Bu:∀(l:List AV) (n:Nat),(dD n l).2.all Ω.qe=true
 |[],n=>rfl
 |a::r,n=>by simp only[dD,List.all_append,DL,Bu r,Bool.and_self]
theorem mP(n:Nat)(x:AV):(imp n x).2.all Ω.qe=true:=by
 cases x<;>first|exact Bu _ _|exact DL _ _
theorem RA.shift{w:World}{c1 c2:Cx}{H1 H2:AH}{n:Nat}(hM:∀cb,¬c1.M H1 cb→¬c2.M H2 cb)(hH:∀b,n≤b→H1[b]?=H2[b]?)(hG:∀b,n≤b→c1.G b=c2.G b)
 {x:AV} {v:Value} (h:RA w c1 H1 x v) (hx:GE n x):RA w c2 H2 x v:=by
 induction h with
 |t x v h=>exact .t x v (h.mono fun b _ hb=>⟨rfl,hM b hb⟩)
 |ptr b g i o v π hb hm hv=>
  cases hx with|ptr _ _ _ _ hn=>
  refine .ptr b g i o v π (by rw[←hH b hn];exact hb) ?_ hv
  cases π with
  |dead=>trivial
  |box=>rw[←hG b hn];exact hm
  |iter=>rw[←hG b hn];exact hm
  |arr=>rw[←hG b hn];exact hm
 |sl b g i len v π hb hm hv=>
  cases hx with|sl _ _ _ _ hn=>
  refine .sl b g i len v π (by rw[←hH b hn];exact hb) ?_ hv
  cases π with
  |dead=>trivial
  |box=>exact hm
  |iter=>exact hm
  |arr=>rw[←hG b hn];exact hm
 |agg cs vs hl h1 _ ih=>cases hx with|agg _ hx=>exact .agg cs vs hl h1 fun i x v hi hv=>ih i x v hi hv (hx i x hi)
 |aq cs vs hl _ ih=>cases hx with|aq _ hx=>exact .aq cs vs hl fun i x v hi hv=>ih i x v hi hv (hx i x hi)
 |fn f a b p q ha hb _ _ nk nj=>cases hx with|fn _ _ _ h1 h2=>exact .fn f a b p q ha hb (fun i x v hi hv=>nk i x v hi hv (h1 i x hi)) (fun i x v hi hv=>nj i x v hi hv (h2 i x hi))
 |cG t x v _ ih=>cases hx with|cG _ _ hx=>exact .cG t x v (ih hx)
 |dx ad=>exact .dx ad
 |bq v=>exact .bq v
def nD:T→Bool
 | .bool _=>true
 | .int _ _=>true
 | .str _=>true
 | .dj=>true
 | .af=>true
 | .mz=>true
 | .my=>true
 |_=>false
def iY:T→Bool
 | .agg cs=>cs.all nD
 |x=>nD x
theorem uo{w w':World}{M M':Nat→Prop}{x:T}{v:Value}(h:RT w M x v)(hf:nD x=true):RT w' M' x v:=by
 cases h<;>first|(simp[nD]at hf;done)|constructor
theorem Om{w w':World}{M M':Nat→Prop}{x:T}{v:Value}(h:RT w M x v)(hf:iY x=true):RT w' M' x v:=by
 cases h with
 |agg cs vs hl h1 hr=>
  simp only[iY,List.all_eq_true]at hf
  exact .agg cs vs hl h1 fun i c v hi hv=>uo (hr i c v hi hv) (hf c (List.mem_of_getElem? hi))
 |bool=>exact .bool _
 |int=>exact .int _ _
 |str=>exact .str _
 |dj=>exact .dj
 |af=>exact .af
 |mz=>exact .mz
 |my=>exact .my
 |bg=>simp[iY,nD]at hf
 |vec=>simp[iY,nD]at hf
 |fn=>simp[iY,nD]at hf
 |cG=>simp[iY,nD]at hf
 |km=>simp[iY,nD]at hf
 |θ=>simp[iY,nD]at hf
theorem sM{x:T}(hf:iY x=true):∀(j:Nat) y,x.cells[j]?=some y→nD y=true:=by
 intro j y hj
 cases x with
 |agg cs=>simp only[iY,List.all_eq_true]at hf;exact hf y (List.mem_of_getElem? hj)
 |_=>cases j<;>simp[T.cells]at hj<;>subst hj<;>exact hf
def IP:AV→Prop
 | .t x=>iY x=true
 | .own _ _ _ l=>∀x∈l,iY x=true
 | .bq=>True
 |_=>False
def Cn:List AV→Prop
 |[]=>True
 |x::r=>IP x∧Cn r
def IN:AV→Prop
 | .agg cs=>Cn cs
 |x=>IP x
def zM:List AV→Prop
 |[]=>True
 |x::r=>IN x∧zM r
def Flat:AV→Prop
 | .aq vs=>zM vs
 |x=>IN x
def E6(P:Program)(f:FuncId):Prop:=∃fn,P.funcs[f]?=some fn∧fn.body.isSome=true∧(fn.name== "runtime.NumGoroutine")=false
def AR(P:Program)(f:FuncId)(vs:Array Value)(w:World)(Q:Ending→World→Prop):Prop:=
 (E6 P f∧Calls P f vs w Q)∨∃v w',(callFunc f vs).run P w= .ok (.value v) w'∧Q (.returned v) w'
theorem AR.mono{P:Program}{f:FuncId}{vs:Array Value}{w:World}{Q Q':Ending→World→Prop}(h:AR P f vs w Q)(hq:∀e w',Q e w'→Q' e w'):AR P f vs w Q':=
 h.imp (fun h=>⟨h.1,h.2.mono hq⟩) fun⟨v,w',h1,h2⟩=>⟨v,w',h1,hq _ _ h2⟩
def φ(P:Program)(f:FuncId)(ts:List T)(r:AV):Prop:=
 aJ r=true∧∀(n:Nat) (F:Nat→Prop) (w:World) (vs:Array Value),(∀cb,F cb→cb<w.heap.size)→vs.size=ts.length→
  (∀(i:Nat) t v,ts[i]?=some t→vs[i]?=some v→RT w F t v)→
  AR P f vs w fun e w'=>∃v G,e= .returned v∧Below w.heap.size w w'∧(∀b cb,G b=some cb→n≤b)∧
   RA w' ⟨F,G⟩ (List.replicate n .dead++(imp n r).2) (imp n r).1 v∧HS w' ⟨F,G⟩ (List.replicate n .dead++(imp n r).2) w.heap.size
def γ(P:Program):kB:=fun f args H Q=>
 ∀(B:Nat) (c:Cx) (w:World) (vs:Array Value),HS w c H B→vs.size=args.length→(∀(i:Nat) a v,args[i]?=some a→vs[i]?=some v→RA w c H a v)→
  AR P f vs w fun e w'=>∃v c' r H',e= .returned v∧RA w' c' H' r v∧HS w' c' H' B∧Ev w c H w' c' H'∧Below B w w'∧Q r H'
theorem γ.mono{P:Program}{f:FuncId}{args:List AV}{H:AH}{Q Q':AV→AH→Prop}(h:γ P f args H Q)(hq:∀r H',Q r H'→Q' r H'):γ P f args H Q':=
 fun B c w vs a b d=>(h B c w vs a b d).mono fun e w' ⟨v,c',r,H',h1,h2,h3,h4,h5,h6⟩=>⟨v,c',r,H',h1,h2,h3,h4,h5,hq _ _ h6⟩
theorem mF{n:Nat}{Hb:List Ω}{b:Nat}{H:AH}(hn:H.length=n)(h:n≤b):(List.replicate n Ω.dead++Hb)[b]?=(H++Hb)[b]?:=by
 rw[List.getElem?_append_right (by simpa using h),List.getElem?_append_right (by omega)]
 simp[hn]
theorem Rb{n:Nat}{Hb:List Ω}{b:Nat}{π:Ω}(h:b<n)(hb:(List.replicate n Ω.dead++Hb)[b]?=some π):π= .dead:=by
 rw[List.getElem?_append_left (by simpa using h)]at hb
 simp[h]at hb
 exact hb.symm
theorem join{w w':World}{c:Cx}{H Hb:AH}{B:Nat}{F:Nat→Prop}{G:Nat→Option Nat}(hs:HS w c H B)(dz:Below w.heap.size w w')(hG:∀b cb,G b=some cb→H.length≤b)
 (aK:HS w' ⟨F,G⟩ (List.replicate H.length .dead++Hb) w.heap.size) (fF:Hb.all Ω.qe=true)
 (iU:∀(b e s:Nat) (z:Bool) (g:Nat) (l:List T) (i:Nat) (x:T) (j:Nat) (y:T) (v:Value),Hb[b]?=some (Ω.arr e s z g (.ts l))→l[i]?=some x→x.cells[j]?=some y→
  RT w' ((Cx.mk F G).M (List.replicate H.length .dead++Hb)) y v→RT w' ((Cx.mk c.F fun b=>if b<H.length then c.G b else G b).M (H++Hb)) y v):
 Ev w c H w' ⟨c.F,fun b=>if b<H.length then c.G b else G b⟩ (H++Hb)∧HS w' ⟨c.F,fun b=>if b<H.length then c.G b else G b⟩ (H++Hb) B:=by
 have ev:Ev w c H w' ⟨c.F,fun b=>if b<H.length then c.G b else G b⟩ (H++Hb):=by
  refine⟨rfl,dz.size,fun b π hb=>⟨π,by rw[List.getElem?_append_left (κ hb)];exact hb,?_⟩,fun cb hm=> ?_,fun cb ω _=>dz.block cb ω,
   fun b bk hb _ hg=>by simp only[if_pos (κ hb)];exact hg⟩
  ·have ω:=κ hb
   cases π with
   |dead=>trivial
   |box cs=>exact⟨rfl,fun cb hc=>by simp only[if_pos ω];exact hc⟩
   |iter s p=>exact⟨rfl,fun cb hc=>by simp only[if_pos ω];exact hc⟩
   |arr e s z g l=>
    refine⟨rfl,rfl,rfl,Nat.le_refl _,Nat.le_refl _,fun _=>⟨rfl,fun cb hc=>⟨by simp only[if_pos ω];exact hc,?_⟩⟩⟩
    unfold dX
    rw[dz.block cb (hs.base b cb hc).2]
  ·rcases hm with⟨b,π,hb,hl,hg⟩
   ·simp only at hg
    split at hg
    ·rename_i ω
     rw[List.getElem?_append_left ω]at hb
     exact .inl ⟨b,π,hb,hl,hg⟩
    ·exact .inr (aK.base b cb hg).1
 have hB:B≤w.heap.size:=hs.hB
 refine⟨ev,hs.az ev (fun b b' cb h h'=> ?_) (fun b cb h=> ?_) (fun b cb h=> ?_) (fun b cb cs hb hg=> ?_) (fun b cb e s z g l hb hg=> ?_) (fun b cb s p hb hg=> ?_) (fun b cb h=>by
  simp only at h
  split at h
  ·exact .inl ⟨b,h⟩
  ·exact .inr (aK.base b cb h).1)⟩
 ·simp only at h h'
  split at h<;>split at h'
  ·exact hs.inj b b' cb h h'
  ·have:=(hs.base b cb h).2;have:=(aK.base b' cb h').1;omega
  ·have:=(hs.base b' cb h').2;have:=(aK.base b cb h).1;omega
  ·exact aK.inj b b' cb h h'
 ·simp only at h
  split at h
  ·have:=hs.base b cb h;exact⟨this.1,by have:=dz.size;omega⟩
  ·have:=aK.base b cb h;exact⟨by omega,this.2⟩
 ·simp only at h
  split at h
  ·simp;omega
  ·have:=aK.kz b cb h;simp at this⊢;omega
 ·simp only at hg
  split at hg
  ·rename_i ω
   rw[List.getElem?_append_left ω]at hb
   exact .inl ⟨hb,hg,dz.block cb (hs.base b cb hg).2⟩
  ·rename_i fa
   rw[List.getElem?_append_right (by omega)]at hb
   rw[List.all_eq_true]at fF
   have:=fF _ (List.mem_of_getElem? hb)
   simp[Ω.qe]at this
 ·simp only at hg
  split at hg
  ·rename_i ω
   rw[List.getElem?_append_left ω]at hb
   exact .inl ⟨hb,hg,dz.block cb (hs.base b cb hg).2⟩
  ·rename_i fa
   have aD:=hb
   rw[List.getElem?_append_right (by omega)]at aD
   rw[←mF (H:=H) rfl (by omega)]at hb
   obtain⟨arr,cap,h1,h2,h3,h4,h5⟩:=aK.arr b cb e s z g l hb hg
   rw[List.all_eq_true]at fF
   have ru:=fF _ (List.mem_of_getElem? aD)
   cases l with
   |vs l=>simp[Ω.qe]at ru
   |ts l=>
    refine .inr ⟨arr,cap,h1,h2,h3,h4,dE.ts.2 fun i x hi=>⟨(dE.ts.1 h5 i x hi).1,fun j y hj=> ?_⟩⟩
    obtain⟨v,k1,k2,k3,k4⟩:=(dE.ts.1 h5 i x hi).2 j y hj
    exact⟨v,k1,k2,iU _ e s z g l i x j y v aD hi hj k3,k4⟩
 ·simp only at hg
  split at hg
  ·rename_i ω
   rw[List.getElem?_append_left ω]at hb
   exact .inl ⟨hb,hg,dz.block cb (hs.base b cb hg).2⟩
  ·rename_i fa
   rw[List.getElem?_append_right (by omega)]at hb
   rw[List.all_eq_true]at fF
   have:=fF _ (List.mem_of_getElem? hb)
   simp[Ω.qe]at this
theorem yT{c:Cx}{H Hb:AH}{F:Nat→Prop}{G:Nat→Option Nat}{cb:Nat}(hF:∀cb,c.M H cb→F cb)(h:¬(Cx.mk F G).M (List.replicate H.length .dead++Hb) cb):
 ¬(Cx.mk c.F fun b=>if b<H.length then c.G b else G b).M (H++Hb) cb:=by
 rintro(hf|⟨b,π,hb,hl,hg⟩)
 ·exact h (.inl (hF cb (.inl hf)))
 ·simp only at hg
  split at hg
  ·rename_i ω
   rw[List.getElem?_append_left ω]at hb
   exact h (.inl (hF cb (.inr ⟨b,π,hb,hl,hg⟩)))
  ·exact h (.inr ⟨b,π,by rw[mF (H:=H) rfl (by omega)];exact hb,hl,hg⟩)
theorem OQ{w c H B}(hs:HS w c H B){cb:Nat}(h:c.M H cb):cb<w.heap.size:=by
 rcases h with hf|⟨b,π,_,_,hg⟩
 ·exact(hs.fb cb hf).1
 ·exact(hs.base b cb hg).2
theorem γ.pure{P:Program}{f:FuncId}{args:List AV}{ts:List T}{r:AV}{H:AH}{Q:AV→AH→Prop}(h:φ P f ts r)(ha:jm args=some ts)(k:Q (imp H.length r).1 (H++(imp H.length r).2)):
 γ P f args H Q:=by
 intro B c w vs hs hl hr
 have ru:=kE ha
 refine(h.2 H.length (c.M H) w vs (fun cb tn=>OQ hs tn) (by rw[hl,ru];simp) (fun i t v hi hv=> ?_)).mono fun e w' ⟨v,G,he,dz,hG,db,aK⟩=> ?_
 ·have:=hr i (.t t) v (by rw[ru];simp[hi]) hv
  cases this with|t _ _ h=>exact h
 ·obtain⟨ev,fp⟩:=join (Hb:=(imp H.length r).2) hs dz hG aK (mP _ _) (fun b e s z g l i x j y v hb hi hj iU=>iU.mono fun cb _ tn=>⟨rfl,yT (fun _ h=>h) tn⟩)
  refine⟨v,_,_,_,he,?_,fp,ev,?_,k⟩
  ·exact db.shift (n:=H.length) (fun cb tn=>yT (fun _ h=>h) tn) (fun b hb=>mF rfl hb) (fun b hb=>by simp only[if_neg (Nat.not_lt.2 hb)]) (KT h.1)
  ·exact dz.mono hs.hB
end Go.Proofs.YtcogcbplmkcojaaGreatDoor
namespace Go.Proofs.YtcogcbplmkcojaaGreatDoor
open Go.RowKit
set_option linter.unusedVariables false
set_option linter.unusedSimpArgs false
theorem RA.rt{w:World}{c:Cx}{H:AH}{x:T}{v:Value}(h:RA w c H (.t x) v):RT w (c.M H) x v:=by cases h with|t _ _ h=>exact h
section
variable {P : Program} {tab : bi}
theorem bm{w:World}{c:Cx}{H:AH}{env:List (Nat×AV)}{a:Act}(he:∀t,RA w c H (lk env t) (a.tmps.getD t undef))(x:Operand):RA w c H (aO env x) (a.eval x):=by
 cases x with
 |tmp t=>exact he t
 |const v=>exact Nu v
 |global g=>exact .bq _
 |func f=>exact .t _ _ (.fn (.func f) [] [] #[] #[] rfl rfl (by simp) (by simp))
theorem Ap{w:World}{c:Cx}{H:AH}{env:List (Nat×AV)}{a:Act}(he:∀t,RA w c H (lk env t) (a.tmps.getD t undef))(l:List Operand):
 ∀(i:Nat) x v,(l.map (aO env))[i]?=some x→(l.map a.eval)[i]?=some v→RA w c H x v:=by
 intro i x v hi hv
 simp only[List.getElem?_map,Option.map_eq_some_iff]at hi hv
 obtain⟨o,ho,rfl⟩:=hi
 obtain⟨o',jE,rfl⟩:=hv
 rw[ho]at jE;cases jE
 exact bm he o
theorem xS{w:World}{c:Cx}{H:AH}{env:List (Nat×AV)}{a:Act}(he:∀t,RA w c H (lk env t) (a.tmps.getD t undef))(l:List (Nat×Operand)):
 kX w c H (l.map fun p=>(p.1,aO env p.2)) (l.map fun p=>(p.1,a.eval p.2)):=by
 induction l with
 |nil=>exact .nil
 |cons p r ih=>exact .cons _ _ _ _ _ (bm he p.2) ih
def E2(P:Program)(o:Oper)(a:Act)(w:World)(c:Cx)(H:AH)(B:Nat)(K:AV→AH→Prop)(next:Act→World→Prop):Prop:=
 ∀v val w' c' H',RA w' c' H' v val→HS w' c' H' B→Ev w c H w' c' H'→Below B w w'→K v H'→next (a.put o.dst val) w'
theorem gu{o:Oper}{a:Act}{w:World}{c:Cx}{H:AH}{B:Nat}{K:AV→AH→Prop}{next:Act→World→Prop}{Q:Exit→Act→World→Prop}(hK:E2 P o a w c H B K next){m:Sem Value}
 (gC:execOp a.eval o=(do pure (.value (←m)))) (h:jB P m w c H B K):o.wp P a w next Q:=by
 obtain⟨v,val,w',c',H',h1,h2,h3,h4,h5,h6⟩:=h
 unfold Oper.wp
 rw[gC]
 simp only[Sem.run_bind,h1,Result.andThen_ok,Sem.run_pure,Oper.upon_value]
 exact hK v val w' c' H' h2 h3 h4 h5 h6
theorem dW{o:Oper}{a:Act}{w:World}{c:Cx}{H:AH}{B:Nat}{K:AV→AH→Prop}{next:Act→World→Prop}{Q:Exit→Act→World→Prop}(hK:E2 P o a w c H B K next)(hs:HS w c H B){m:Sem Value}
 (gC:execOp a.eval o=(do pure (.value (←m)))) {x:AV} {val:Value} (h1:m.run P w= .ok val w) (h2:RA w c H x val) (h3:K x H):o.wp P a w next Q:=
 gu hK gC (.here hs h1 h2 h3)
theorem Qf(hT:bl P tab){op:BinOp}{ty:TypeId}{w c H x y u v}{K:T→Prop}{xo yo:Operand}(h:tB tab op ty H x y (isConst yo) K)(hx:RA w c H x u)(hy:RA w c H y v):
 ∃z val,(do eqGuard op ty xo yo u v;binOp op ty u v).run P w= .ok val w∧(∀w M,RT w M z val)∧K z:=by
 unfold tB at h
 split at h
 ·obtain rfl:=hx.int
  obtain rfl:=hy.int
  obtain⟨z,val,h1,h2,h3⟩:=Qc (P:=P) (w:=w) h ty
  exact⟨z,val,by rw[eqGuard_at_int];simpa using h1,h2,h3⟩
 ·obtain⟨s,rfl,hs⟩:=hx.str
  obtain⟨s',rfl,aK⟩:=hy.str
  obtain⟨z,val,h1,h2,h3⟩:=P9 (P:=P) (w:=w) h ty s s' hs aK
  exact⟨z,val,by rw[eqGuard_at_string];simpa using h1,h2,h3⟩
 ·split at h
  ·obtain⟨p,h1,h2,h3,h4⟩:=I4 (P:=P) hT h hx.jL hy.jL xo yo rfl
   exact⟨_,_,by simp only[Sem.run_bind,h1,Result.andThen_ok,h2],fun _ _=> .bool _,h4⟩
  ·obtain⟨p,h1,h2,h3,h4⟩:=I4 (P:=P) hT h hx.jL hy.jL xo yo rfl
   exact⟨_,_,by simp only[Sem.run_bind,h1,Result.andThen_ok,h3],fun _ _=> .bool _,h4⟩
  ·exact h.elim
theorem vi{f:FuncId}(h:E6 P f)(args:Array Value)(w:World):(callFunc f args).run P w= .ok (.enter f args) w:=by
 obtain⟨fn,h1,h2,h3⟩:=h
 simp only[callFunc,Sem.run_bind,run_program,Result.andThen_ok,h1]
 have hb:fn.body.isNone=false:=by cases hb:fn.body<;>simp[hb]at h2⊢
 simp[h3,hb]
theorem CB{o:Oper}{a:Act}{w:World}{c:Cx}{H:AH}{B:Nat}{K:AV→AH→Prop}{next:Act→World→Prop}{Q:Exit→Act→World→Prop}(hK:E2 P o a w c H B K next)(hs:HS w c H B)
 {f:FuncId} {vs:Array Value} (gC:(execOp a.eval o).run P w=(callFunc f vs).run P w) {args:List AV} (h:γ P f args H K) (hl:vs.size=args.length)
 (hr:∀(i:Nat) x v,args[i]?=some x→vs[i]?=some v→RA w c H x v):o.wp P a w next Q:=by
 unfold Oper.wp
 rw[gC]
 rcases h B c w vs hs hl hr with⟨Gk,h⟩|⟨v,w',h,v',c',r,H',he,h1,h2,h3,h4,h5⟩
 ·rw[vi Gk,Oper.upon_enter]
  refine h.mono fun e w' ⟨v,c',r,H',he,h1,h2,h3,h4,h5⟩=> ?_
  subst he
  exact hK r v w' c' H' h1 h2 h3 h4 h5
 ·rw[h,Oper.upon_value]
  cases he
  exact hK r v w' c' H' h1 h2 h3 h4 h5
theorem Bs{w c H}{A1 A2 A3:List AV}{v1 v2 v3:Array Value}(l1:A1.length=v1.size)(l2:A2.length=v2.size)(l3:A3.length=v3.size)
 (h1:∀(i:Nat) x v,A1[i]?=some x→v1[i]?=some v→RA w c H x v) (h2:∀(i:Nat) x v,A2[i]?=some x→v2[i]?=some v→RA w c H x v) (h3:∀(i:Nat) x v,A3[i]?=some x→v3[i]?=some v→RA w c H x v):
 (v1++v2++v3).size=(A1++(A2++A3)).length∧∀(i:Nat) x v,(A1++(A2++A3))[i]?=some x→(v1++v2++v3)[i]?=some v→RA w c H x v:=by
 refine⟨by simp;omega,fun i x v hi hv=> ?_⟩
 by_cases a1:i<A1.length
 ·rw[List.getElem?_append_left a1]at hi
  rw[Array.getElem?_append_left (by simp;omega),Array.getElem?_append_left (by omega)]at hv
  exact h1 i x v hi hv
 ·rw[List.getElem?_append_right (by omega)]at hi
  by_cases a2:i - A1.length<A2.length
  ·rw[List.getElem?_append_left a2]at hi
   rw[Array.getElem?_append_left (by simp;omega),Array.getElem?_append_right (by omega)]at hv
   exact h2 _ x v hi (by rw[←l1]at hv;exact hv)
  ·rw[List.getElem?_append_right (by omega)]at hi
   rw[Array.getElem?_append_right (by simp;omega)]at hv
   refine h3 _ x v hi ?_
   rw[Array.size_append,←l1,←l2]at hv
   rw[show i - A1.length - A2.length=i - (A1.length+A2.length) by omega]
   exact hv
theorem qC{w c H}{l:List T}{vs:Array Value}(hr:∀(i:Nat) x v,l[i]?=some x→vs[i]?=some v→RT w (c.M H) x v):∀(i:Nat) x v,(l.map AV.t)[i]?=some x→vs[i]?=some v→RA w c H x v:=by
 intro i x v hi hv
 simp only[List.getElem?_map,Option.map_eq_some_iff]at hi
 obtain⟨y,hy,rfl⟩:=hi
 exact .t _ _ (hr i y v hy hv)
theorem MC(hT:bl P tab){o:Oper}{cl:Call}(ho:o.op= .call cl){env:List (Nat×AV)}{H:AH}{K:AV→AH→Prop}(h:yp tab (γ P) cl o.type env H K){a:Act}{w:World}{c:Cx}{B:Nat}(hs:HS w c H B)
 (he:∀t,RA w c H (lk env t) (a.tmps.getD t undef)) {next:Act→World→Prop} {Q:Exit→Act→World→Prop} (hK:E2 P o a w c H B K next):o.wp P a w next Q:=by
 have hx:execOp a.eval o=(do let d ←resolve a.eval cl o.type;invoke d.target d.args):=by unfold execOp;rw[ho]
 unfold yp at h
 split at h
 ·rename_i b tn
  obtain⟨cs,fV⟩:∃cs,execOp a.eval o=builtin b cl.argTypes o.type cs (cl.args.map a.eval):=by
   rw[hx];simp only[resolve,tn,pure_bind,invoke]
   exact⟨_,rfl⟩
  split at h
  ·rename_i t x h1 h2
   have e1:cl.argTypes= #[t]:=by rw[←Array.toArray_toList (xs:=cl.argTypes),h1]
   have e2:cl.args.map a.eval= #[a.eval x]:=by rw[←Array.toArray_toList (xs:=cl.args),h2];simp
   rw[e1,e2]at fV
   obtain⟨y,val,r,ra,k⟩:=Qa (P:=P) hT h (bm he x) o.type
   exact dW hK hs (m:=Builtin.len_ #[t] o.type #[a.eval x]) (by rw[fV];rfl) r ra k
  ·rename_i t u x y h1 h2
   have e1:cl.argTypes= #[t,u]:=by rw[←Array.toArray_toList (xs:=cl.argTypes),h1]
   have e2:cl.args.map a.eval= #[a.eval x,a.eval y]:=by rw[←Array.toArray_toList (xs:=cl.args),h2];simp
   rw[e1,e2]at fV
   rw[Ξ]at h
   obtain⟨z,hz,h⟩:=h
   split at h
   ·rename_i hc
    have hu:∃k,P.underlying u=some (.int k):=by
     have hd:=(hT u z hz).d
     cases W3:z.d<;>rw[W3]at hc hd<;>first|exact⟨_,hd⟩|(simp[DF]at hc)
    obtain⟨k,hu⟩:=hu
    exact gu hK (m:=Builtin.append_ #[t,u] o.type #[a.eval x,a.eval y]) (by rw[fV];rfl) (Fe hT hs (bm he x) (bm he y) hu h o.type)
   ·rename_i hc
    have hu:∃d,P.underlying u=some d∧∀k,d≠.int k:=⟨z.d,(hT u z hz).d,fun k hk=>by rw[hk]at hc;simp[DF]at hc⟩
    exact gu hK (m:=Builtin.append_ #[t,u] o.type #[a.eval x,a.eval y]) (by rw[fV];rfl) (GU hT hs (bm he x) (bm he y) hu h o.type)
  ·rename_i t x h1 h2
   have e1:cl.argTypes= #[t]:=by rw[←Array.toArray_toList (xs:=cl.argTypes),h1]
   have e2:cl.args.map a.eval= #[a.eval x]:=by rw[←Array.toArray_toList (xs:=cl.args),h2];simp
   rw[e1,e2]at fV
   obtain⟨y,val,r,ra,k⟩:=Qd (P:=P) hT hs h (bm he x) o.type
   exact dW hK hs (m:=Builtin.cap_ #[t] o.type #[a.eval x]) (by rw[fV];rfl) r ra k
  ·rename_i t u x y h1 h2
   have e1:cl.argTypes= #[t,u]:=by rw[←Array.toArray_toList (xs:=cl.argTypes),h1]
   have e2:cl.args.map a.eval= #[a.eval x,a.eval y]:=by rw[←Array.toArray_toList (xs:=cl.args),h2];simp
   rw[e1,e2]at fV
   exact gu hK (m:=Builtin.copy_ #[t,u] o.type #[a.eval x,a.eval y]) (by rw[fV];rfl) (Mz hT hs (bm he x) (bm he y) h o.type)
  ·rename_i x y h2
   have e2:cl.args.map a.eval= #[a.eval x,a.eval y]:=by rw[←Array.toArray_toList (xs:=cl.args),h2];simp
   rw[e2]at fV
   obtain⟨z,val,r,ra,k⟩:=yn (P:=P) h (bm he x) (bm he y) cl.argTypes o.type
   exact dW hK hs (m:=Builtin.min_ cl.argTypes o.type #[a.eval x,a.eval y]) (by rw[fV];rfl) r ra k
  ·rename_i x y h2
   have e2:cl.args.map a.eval= #[a.eval x,a.eval y]:=by rw[←Array.toArray_toList (xs:=cl.args),h2];simp
   rw[e2]at fV
   obtain⟨z,val,r,ra,k⟩:=yn (P:=P) h (bm he x) (bm he y) cl.argTypes o.type
   exact dW hK hs (m:=Builtin.max_ cl.argTypes o.type #[a.eval x,a.eval y]) (by rw[fV];rfl) r ra k
  ·exact h.elim
 ·rename_i f XQ
  have gS:=Ap he cl.args.toList
  have Lr:∀(i:Nat) x v,(cl.args.toList.map (aO env))[i]?=some x→(cl.args.map a.eval)[i]?=some v→RA w c H x v:=fun i x v hi hv=>gS i x v hi (by
   rw[←Array.getElem?_toList,Array.toList_map]at hv;exact hv)
  have hf:=bm he f
  have run:∀(g:FuncId) (first captured:Array Value),a.eval f= .func (.func g) first captured→
   (execOp a.eval o).run P w=(callFunc g (first++cl.args.map a.eval++captured)).run P w:=by
   intro g first captured Ll
   rw[hx]
   simp only[resolve,XQ,Ll,Deferred.ofValue,pure_bind,invoke]
  split at h
  ·rename_i g first captured S8
   rw[S8]at hf
   generalize Ll:a.eval f=fv at hf
   cases hf with|t _ _ hf=>cases hf with|fn _ _ _ p q ha hb db Bz=>
   obtain⟨l,r⟩:=Bs (A1:=first.map .t) (A2:=cl.args.toList.map (aO env)) (A3:=captured.map .t) (v1:=p) (v2:=cl.args.map a.eval) (v3:=q) (by simpa using ha) (by simp) (by simpa using hb) (qC db) Lr (qC Bz)
   exact CB hK hs (run g p q Ll) h l r
  ·rename_i g first captured S8
   rw[S8]at hf
   generalize Ll:a.eval f=fv at hf
   cases hf with|fn _ _ _ p q ha hb db Bz=>
   obtain⟨l,r⟩:=Bs (A1:=first) (A2:=cl.args.toList.map (aO env)) (A3:=captured) (v1:=p) (v2:=cl.args.map a.eval) (v3:=q) ha (by simp) hb db Lr Bz
   exact CB hK hs (run g p q Ll) h l r
  ·exact h.elim
 ·exact h.elim
theorem CV{w c H}{env:List (Nat×AV)}{a:Act}(he:∀t,RA w c H (lk env t) (a.tmps.getD t undef))(x:Option Operand):RO w c H (x.map (aO env)) (x.map a.eval):=by
 cases x with
 |none=>exact .no
 |some x=>exact .yes _ _ (bm he x)
theorem Cs(hT:bl P tab){o:Oper}{env:List (Nat×AV)}{H:AH}{K:AV→AH→Prop}(h:rR tab (γ P) o env H K){a:Act}{w:World}{c:Cx}{B:Nat}(hs:HS w c H B)
 (he:∀t,RA w c H (lk env t) (a.tmps.getD t undef)) {next:Act→World→Prop} {Q:Exit→Act→World→Prop} (hK:E2 P o a w c H B K next):o.wp P a w next Q:=by
 unfold rR at h
 split at h
 ·rename_i x ho
  exact dW hK hs (m:=pure (a.eval x)) (by unfold execOp;rw[ho];rfl) rfl (bm he x) h
 ·rename_i x ho
  exact gu hK (m:=pure (a.eval x)) (by unfold execOp;rw[ho];rfl) (GS hs h (bm he x))
 ·rename_i x y z ho
  obtain⟨b,v,val,e1,e2,ra,k⟩:=Mu h (bm he x) (bm he y) (bm he z) (.inr (.inr trivial))
  refine dW hK hs (m:=pure val) ?_ rfl ra k
  unfold execOp;rw[ho]
  simp only[e1,asBool,pure_bind,e2]
 ·rename_i e ho
  rw[Ξ]at h
  obtain⟨y,hy,h⟩:=h
  rw[Ξ]at h
  obtain⟨zs,hz,h⟩:=h
  rw[ar]at h
  obtain⟨hc,h⟩:=h
  simp only[Bool.and_eq_true]at hc
  split at h
  ·exact gu hK (m:=Instr.alloc e true (.tuple #[])) (by unfold execOp;rw[ho]) (Cz hT hy hz hc.1 (Nat.eq_of_beq_eq_true hc.2) hs h _)
  ·exact gu hK (m:=Instr.alloc e true (.tuple #[])) (by unfold execOp;rw[ho]) (I8 hT hy hz hc.1 hs h _)
 ·rename_i e x ho
  rw[ar]at h
  exact gu hK (m:=Instr.box e (a.eval x)) (by unfold execOp;rw[ho]) (Qe hs e (bm he x) h.1 h.2)
 ·rename_i t parts ho
  obtain⟨x,val,r,ra,k⟩:=I7 (P:=P) hT (vs:=parts.map fun(i,x)=>(i,a.eval x)) (by rw[Array.toList_map];exact xS he parts.toList) h
  exact dW hK hs (m:=Instr.build t (parts.map fun(i,x)=>(i,a.eval x))) (by unfold execOp;rw[ho]) r ra k
 ·rename_i t n parts ho
  exact gu hK (m:=Instr.buildSlice t n (parts.map fun(i,x)=>(i,a.eval x))) (by unfold execOp;rw[ho]) (zW hT hs (by rw[Array.toList_map];exact xS he parts.toList) h)
 ·rename_i t x ho
  obtain⟨y,val,r,ra,k⟩:=Cv (P:=P) hT hs h (bm he x)
  exact dW hK hs (m:=Instr.loadAt t (a.eval x)) (by unfold execOp;rw[ho]) r ra k
 ·rename_i t x y ho
  obtain⟨w',H',r,h1,h2,h3,k⟩:=IX (P:=P) hT hs h (bm he x) (bm he y)
  have hx:execOp a.eval o=(do Instr.storeAt t (a.eval x) (a.eval y);pure .skip):=by unfold execOp;rw[ho]
  unfold Oper.wp
  rw[hx]
  simp only[Sem.run_bind,r,Result.andThen_ok,Sem.run_pure,Oper.upon_skip]
  exact hK _ _ w' c H' (.aq [] #[] rfl (by simp)) h1 h2 h3 k
 ·rename_i x ho
  obtain⟨hv,k⟩:=Ct h (bm he x)
  exact dW hK hs (m:=pure (a.eval x)) (by rw[Ca ho hv,pure_bind]) rfl (bm he x) k
 ·rename_i op t x y t2 ho
  obtain⟨z,val,r,ra,k⟩:=Qf (P:=P) hT (xo:=x) (yo:=y) h (bm he x) (bm he y)
  exact dW hK hs (m:=do eqGuard op t x y (a.eval x) (a.eval y);binOp op t (a.eval x) (a.eval y)) (by unfold execOp;rw[ho]) r (.t _ _ (ra w _)) k
 ·rename_i op t x ho
  obtain⟨z,val,r,ra,k⟩:=Rw (P:=P) h (bm he x)
  exact dW hK hs (m:=Op.unary op (a.eval x)) (by unfold execOp;rw[ho]) r (.t _ _ (ra w _)) k
 ·rename_i t u x ho
  obtain⟨z,val,r,ra,k⟩:=E_ (P:=P) hT hs h (bm he x)
  exact dW hK hs (m:=convert t u (a.eval x)) (by unfold execOp;rw[ho]) r ra k
 ·rename_i t x ho
  rw[Ξ]at h
  obtain⟨y,hy,h⟩:=h
  rw[ar]at h
  obtain⟨hc,h⟩:=h
  have hd:=(hT t y hy).d
  have run:(Instr.makeInterface t (a.eval x)).run P w= .ok (.iface t (a.eval x)) w:=by
   simp only[Instr.makeInterface,Sem.run_bind,run_underlying hd,Result.andThen_ok]
   cases j0:y.d<;>rw[j0]at hc<;>first|rfl|(simp at hc)
  have db:=bm he x
  split at h
  ·rename_i v hv
   rw[hv]at db
   exact dW hK hs (m:=Instr.makeInterface t (a.eval x)) (by unfold execOp;rw[ho]) run (.t _ _ (.cG _ _ _ db.rt)) h
  ·exact dW hK hs (m:=Instr.makeInterface t (a.eval x)) (by unfold execOp;rw[ho]) run (.cG _ _ _ db) h
 ·rename_i f first captured ho
  refine dW hK hs (m:=Instr.makeFunc f (first.map a.eval) (captured.map a.eval)) (by unfold execOp;rw[ho]) rfl (.fn _ _ _ _ _ (by simp) (by simp) (fun i x v hi hv=> ?_) (fun i x v hi hv=> ?_)) h
  ·exact Ap he first.toList i x v hi (by rw[←Array.getElem?_toList,Array.toList_map]at hv;exact hv)
  ·exact Ap he captured.toList i x v hi (by rw[←Array.getElem?_toList,Array.toList_map]at hv;exact hv)
 ·rename_i t l cp ho
  exact gu hK (m:=Instr.makeSlice t (a.eval l) (a.eval cp)) (by unfold execOp;rw[ho]) (B3 hT hs (bm he l) (bm he cp) h)
 ·rename_i t x lo hi mx ho
  obtain⟨z,val,r,ra,k⟩:=IY (P:=P) hT hs h (bm he x) (CV he lo) (CV he hi) (CV he mx)
  exact dW hK hs (m:=Instr.sliceAt t (a.eval x) (lo.map a.eval) (hi.map a.eval) (mx.map a.eval)) (by unfold execOp;rw[ho]) r ra k
 ·rename_i t x k0 ho
  obtain⟨z,val,r,ra,k⟩:=B6 (P:=P) hT h (bm he x)
  exact dW hK hs (m:=Instr.fieldAt t (a.eval x) k0) (by unfold execOp;rw[ho]) r ra k
 ·rename_i t x k0 ho
  obtain⟨z,val,r,ra,k⟩:=I3 (P:=P) hT h (bm he x)
  exact dW hK hs (m:=Instr.field t (a.eval x) k0) (by unfold execOp;rw[ho]) r ra k
 ·rename_i t x i ho
  obtain⟨z,val,r,ra,k⟩:=B4 (P:=P) hT h (bm he x) (bm he i)
  exact dW hK hs (m:=Instr.indexAt t (a.eval x) (a.eval i)) (by unfold execOp;rw[ho]) r ra k
 ·rename_i t x i ho
  obtain⟨z,val,r,ra,k⟩:=I1 (P:=P) hT h (bm he x) (bm he i)
  exact dW hK hs (m:=Instr.index t (a.eval x) (a.eval i)) (by unfold execOp;rw[ho]) r ra k
 ·rename_i x i ho
  obtain⟨z,val,r,ra,k⟩:=E9 (P:=P) h (bm he x)
  exact dW hK hs (m:=Instr.extract (a.eval x) i) (by unfold execOp;rw[ho]) r ra k
 ·rename_i cl ho
  exact MC hT ho h hs he hK
 ·rename_i t x ho
  exact gu hK (m:=Instr.range t (a.eval x)) (by unfold execOp;rw[ho]) (I0 hT hs h (bm he x))
 ·rename_i x st ho
  exact gu hK (m:=Instr.next (a.eval x) st o.type) (by unfold execOp;rw[ho]) (Mw hs h (bm he x) _)
 ·exact h.elim
end
end Go.Proofs.YtcogcbplmkcojaaGreatDoor
namespace Go.Proofs.YtcogcbplmkcojaaGreatDoor
open Go.RowKit
set_option linter.unusedVariables false
set_option linter.unusedSimpArgs false
structure lV where
 N:Nat
 B:Nat
 w0:World
 c0:Cx
 H0:AH
 ds:List Deferred
structure Sat(O:lV)(c:Cx)(s:St)(a:Act)(w:World):Prop where
 env:∀t,RA w c s.H (lk s.env t) (a.tmps.getD t undef)
 hs:HS w c s.H O.B
 size:a.tmps.size=O.N
 defers:a.defers=O.ds
 ev:Ev O.w0 O.c0 O.H0 w c s.H
 below:Below O.B O.w0 w
theorem Sat.go{O c s a w c' H' w'}(h:Sat O c s a w)(ev:Ev w c s.H w' c' H')(hs:HS w' c' H' O.B)(hb:Below O.B w w'):Sat O c' ⟨s.env,H'⟩ a w':=
 ⟨fun t=>(h.env t).ev ev,hs,h.size,h.defers,h.ev.trans ev,h.below.trans hb⟩
theorem fB(d:Nat)(v:AV)(env:List (Nat×AV))(t:Nat):lk ((d,v)::env) t=if d=t then v else lk env t:=by
 simp only[lk]
 by_cases h:d=t
 ·subst h;simp
 ·have:Nat.beq d t=false:=by
   cases hb:Nat.beq d t with
   |false=>rfl
   |true=>exact(h (Nat.eq_of_beq_eq_true hb)).elim
  rw[this,if_neg h]
theorem Sat.tell{O c s a w}(h:Sat O c s a w){d:Nat}{v:AV}(hv:RA w c s.H v (a.tmps.getD d undef)):Sat O c ⟨(d,v)::s.env,s.H⟩ a w:=by
 refine⟨fun t=> ?_,h.hs,h.size,h.defers,h.ev,h.below⟩
 rw[fB]
 split
 ·rename_i e;rw[←e];exact hv
 ·exact h.env t
theorem Sat.put{O c env H a w}(h:Sat O c ⟨env,H⟩ a w)(d:Option Tmp)(hd:∀k,d=some k→k<O.N){v:AV}{val:Value}(hv:RA w c H v val)(s0:St)(kL:s0.env=env):Sat O c (s0.put d v H) (a.put d val) w:=by
 subst kL
 cases d with
 |none=>exact h
 |some k=>
  have hk:=hd k rfl
  refine⟨fun t=> ?_,h.hs,by simp[Act.put,h.size],h.defers,h.ev,h.below⟩
  simp only[St.put,Act.put]
  rw[fB]
  have tk:k<a.tmps.size:=by rw[h.size];exact hk
  by_cases e:k=t
  ·subst e
   rw[if_pos rfl]
   simp[Array.getD_eq_getD_getElem?,Array.getElem?_setIfInBounds_self_of_lt tk]
   exact hv
  ·rw[if_neg e]
   simp only[Array.getD_eq_getD_getElem?,Array.getElem?_setIfInBounds_ne e]
   have:=h.env t
   rwa [Array.getD_eq_getD_getElem?]at this
def l_(N:Nat)(o:Oper):Bool:=
 match o.dst with
 |some d=>Nat.blt d N
 |none=>true
theorem qG{N:Nat}{o:Oper}(h:l_ N o=true):∀k,o.dst=some k→k<N:=by
 intro k hk
 simp only[l_,hk]at h
 simpa[Nat.blt_eq]using h
section
variable {P : Program} {tab : bi}
def Good(O:lV)(K:St→Prop)(Q:Act→World→Prop):Prop:=∀s c a w,Sat O c s a w→K s→Q a w
theorem xL{a:Act}{d:Nat}{b:Bool}(h:a.tmps.getD d undef= .bool b):a.tmps[d]?=some (.bool b):=by
 rw[Array.getD_eq_getD_getElem?]at h
 cases hd:a.tmps[d]?with
 |none=>simp[hd,undef]at h
 |some v=>simpa[hd]using h
theorem I2(hT:bl P tab){O:lV}{ops:Array Oper}{o:Oper}{s:St}{K:St→Prop}(h:lJ tab (γ P) ops o s K)(hd:l_ O.N o=true){c:Cx}{a:Act}{w:World}(hs:Sat O c s a w)
 {next:Act→World→Prop} {Q:Exit→Act→World→Prop} (hK:Good O K next):
 if Region.wanted o (yielded ops a.tmps)then o.wp P a w next Q else next (a.put o.dst undef) w:=by
 have hd:=qG hd
 have run:∀{s:St},Sat O c s a w→rR tab (γ P) o s.env s.H (fun v H=>K (s.put o.dst v H))→o.wp P a w next Q:=fun{s} hs h=>
  Cs hT h hs.hs hs.env (fun v val w' c' H' h1 h2 h3 h4 h5=>hK _ c' _ _ ((hs.go h3 h2 h4).put o.dst hd h1 s rfl) h5)
 have skip:∀{s:St},Sat O c s a w→K (s.put o.dst (.aq []) s.H)→next (a.put o.dst undef) w:=fun{s} hs h=>
  hK _ c _ _ (Sat.put (env:=s.env) (H:=s.H) hs o.dst hd (v:= .aq []) (.aq [] #[] rfl (by simp)) s rfl) h
 obtain⟨env,H⟩:=s
 simp only[lJ,yz,z_]at h
 split at h
 ·rename_i hg
  rw[if_pos (by simp[Region.wanted,hg])]
  exact run hs h
 ·rename_i j want hg
  rw[Ξ]at h
  obtain⟨d,Pt,h⟩:=h
  have Pt:(ops[j]?).bind (·.dst)=some d:=Pt
  have db:=hs.env d
  split at h
  ·rename_i b hl
   rw[hl]at db
   have yZ:=xL db.bool
   have nX:yielded ops a.tmps j=some b:=by simp only[yielded,Pt,Option.bind_some,yZ]
   have tell:∀b',b=b'→Sat O c ⟨(d,.t (.bool b'))::env,H⟩ a w:=fun b' e=>by
    subst e;exact hs.tell db
   split at h
   ·rw[lT]at h
    rcases h with⟨rfl,h⟩|⟨rfl,h⟩
    ·rw[if_pos (by simp[Region.wanted,hg,nX])]
     exact run (tell true rfl) h
    ·rw[if_neg (by simp[Region.wanted,hg,nX])]
     exact skip (tell false rfl) h
   ·rw[lT]at h
    rcases h with⟨rfl,h⟩|⟨rfl,h⟩
    ·rw[if_neg (by simp[Region.wanted,hg,nX])]
     exact skip (tell true rfl) h
    ·rw[if_pos (by simp[Region.wanted,hg,nX])]
     exact run (tell false rfl) h
  ·rename_i hl
   rw[hl]at db
   have hu:a.tmps.getD d undef= .tuple #[]:=by
    generalize a.tmps.getD d undef=q at db
    cases db with|aq _ vs tj _=>
    have:vs= #[]:=Array.eq_empty_of_size_eq_zero (by simpa using tj.symm)
    rw[this]
   have nX:yielded ops a.tmps j=none:=by
    rw[Array.getD_eq_getD_getElem?]at hu
    simp only[yielded,Pt,Option.bind_some]
    cases hq:a.tmps[d]?with
    |none=>rfl
    |some v=>simp[hq]at hu;subst hu;rfl
   rw[if_neg (by simp[Region.wanted,hg,nX])]
   exact skip hs h
  ·exact h.elim
theorem FI(hT:bl P tab){O:lV}{ops:Array Oper}{Q:Exit→Act→World→Prop}:∀{l:List Oper} {s:St} {K:St→Prop},Rx tab (γ P) ops l s K→l.all (l_ O.N)=true→∀{c:Cx} {a:Act} {w:World},Sat O c s a w→
 Good O K (Q .normal)→wpList P ops Q l a w
 |[],s,K,h,hd,c,a,w,hs,hK=>hK s c a w hs h
 |o::r,s,K,h,hd,c,a,w,hs,hK=>by
  simp only[List.all_cons,Bool.and_eq_true]at hd
  have:=I2 (Q:=Q) (next:=wpList P ops Q r) hT h hd.1 hs (fun s' c' a' w' h1 h4=>FI hT h4 hd.2 h1 hK)
  unfold wpList
  split
  ·rename_i hw;rw[if_pos hw]at this;exact .inl this
  ·rename_i hw;rw[if_neg hw]at this;exact this
def aB(k0:Nat)(s s':St):Prop:=∀O c a w,O.H0.length=k0→Sat O c s a w→∃c',Sat O c' s' a w
def mf(k0:Nat)(body:(Ex→St→Prop)→St→Prop)(Q:Ex→St→Prop)(s:St):Prop:=
 ∃(I:Type) (S:I→St) (μ:I→Nat) (i:I),aB k0 s (S i)∧∀i,body (fun e s'=>match e with| .normal=>∃j,aB k0 s' (S j)∧μ j<μ i|e=>Q e s') (S i)
noncomputable def P7(k0:Nat)(n:Nat):((Ex→St→Prop)→St→Prop)→(Ex→St→Prop)→St→Prop:=
 @Nat.rec (fun _=>((Ex→St→Prop)→St→Prop)→(Ex→St→Prop)→St→Prop) (fun body Q s=>mf k0 body Q s)
  (fun _ ih body Q s=>body (fun e s'=>match e with| .normal=>ih body Q s'|e=>Q e s') s) n
def xb(k0:Nat)(body:(Ex→St→Prop)→St→Prop)(Q:Ex→St→Prop)(s:St):Prop:=∃n,P7 k0 n body Q s
theorem bh{k0:Nat}{body:(Ex→St→Prop)→St→Prop}{Q:Ex→St→Prop}{s:St}(n:Nat)(h:P7 k0 n body Q s):xb k0 body Q s:=⟨n,h⟩
def k_(P:Program)(c:Code)(Q:Exit→Act→World→Prop)(a:Act)(w:World):Prop:=
 ∀(b:Frame) (k:List Item) (cs:List Frame),∃e a' w',Q e a' w'∧Arrives P (lone (b.at a (.code c:: .inLoop c::k)) cs w) b k cs e a' w'
theorem k_.wp{P:Program}{c:Code}{Q:Exit→Act→World→Prop}{a:Act}{w:World}(h:k_ P c Q a w):(Code.loop c).wp P Q a w:=fun b k cs=>by
 obtain⟨e,a',w',hq,fF⟩:=h b k cs
 exact⟨e,a',w',hq,.of_steps (.one step_loop) fF⟩
theorem k_.round{P:Program}{c:Code}{Q:Exit→Act→World→Prop}{a:Act}{w:World}(h:c.wp P (Exit.then (k_ P c Q) Q) a w):k_ P c Q a w:=fun b k cs=>by
 obtain⟨e,T_,Rz,hq,fF⟩:=h b (.inLoop c::k) cs
 cases e with
 |normal=>
  obtain⟨Zi,Zj,Y5,Xk,UG⟩:=hq b k cs
  exact⟨Zi,Zj,Y5,Xk,.of_steps (Steps.trans fF (.one step_inLoop)) UG⟩
 |exit id=>exact⟨_,T_,Rz,hq,.pass (x:= .inLoop c) rfl (fun _ _=> .inl (by simp)) fF⟩
 |goto l=>exact⟨_,T_,Rz,hq,.pass (x:= .inLoop c) rfl (fun _ _=> .inl (by simp)) fF⟩
 |ret=>exact⟨_,T_,Rz,hq,.pass (x:= .inLoop c) rfl (fun _ _=> .inl (by simp)) fF⟩
 |panic ch=>exact⟨_,T_,Rz,hq,.pass (x:= .inLoop c) rfl (fun _ _=> .inl (by simp)) fF⟩
 |outgrown=>exact⟨_,T_,Rz,hq,.pass (x:= .inLoop c) rfl (fun _ _=> .inl (by simp)) fF⟩
theorem k_.inv{P:Program}{c:Code}{Q:Exit→Act→World→Prop}(I:Act→World→Prop)(μ:Act→World→Nat)
 (round:∀a w,I a w→c.wp P (Exit.then (fun a' w'=>I a' w'∧μ a' w'<μ a w) Q) a w):∀(n:Nat) (a:Act) (w:World),μ a w=n→I a w→k_ P c Q a w:=by
 intro n
 induction n using Nat.strongRecOn with
 |_ n ih=>
  intro a w hn hI
  refine k_.round (wp_mono (round a w hI) fun e a' w' hq=> ?_)
  cases e with
  |normal=>exact ih (μ a' w') (hn▸hq.2) a' w' rfl hq.1
  |_=>exact hq
abbrev uG:=Array Oper→St→(St→Prop)→Prop
noncomputable def wD(tab:bi)(call:kB)(nW:uG)(k0:Nat)(x:Code):(Ex→St→Prop)→St→Prop:=
 @Code.rec (fun _=>(Ex→St→Prop)→St→Prop)
  (fun Q s=>Q .normal s)
  (fun _ ops draw Q s=>match draw with
   |false=>Rx tab call ops ops.toList s fun s'=>Q .normal s'
   |true=>nW ops s fun s'=>Q .normal s')
  (fun _ _ nk nj Q s=>nk (fun e s'=>match e with| .normal=>nj Q s'|e=>Q e s') s)
  (fun c _ _ nk nj Q s=>match aO s.env c with
   | .t (.bool t)=>Br t (nk Q s) (nj Q s)
   |_=>False)
  (fun id _ ih Q s=>ih (fun e s'=>match e with| .exit i=>(match Nat.beq i id with|true=>Q .normal s'|false=>Q (.exit i) s')|e=>Q e s') s)
  (fun _ ih Q s=>xb k0 ih Q s)
  (fun _ _ _ _ _ _ _ _=>False) (fun id Q s=>Q (.exit id) s) (fun _ _ _ _=>False) (fun _ _ _=>False) (fun _ _ _=>False) (fun Q s=>Q .ret s) (fun _ _ _=>False) x
theorem GR{tab:bi}{call:kB}{nW:uG}{k0:Nat}{c:Operand}{x y:Code}{Q:Ex→St→Prop}{s:St}:wD tab call nW k0 (.cond c x y) Q s=match aO s.env c with
 | .t (.bool t)=>Br t (wD tab call nW k0 x Q s) (wD tab call nW k0 y Q s)
 |_=>False:=rfl
def j9(N:Nat):Code→Bool
 | .seq x y=>j9 N x&&j9 N y
 | .cond _ x y=>j9 N x&&j9 N y
 | .block _ x=>j9 N x
 | .loop x=>j9 N x
 | .region _ ops _=>ops.toList.all (l_ N)
 |_=>true
def Ex.out:Ex→Exit
 | .normal=> .normal
 | .exit id=> .exit id
 | .ret=> .ret
def Ends(O:lV)(Q:Ex→St→Prop)(R:Exit→Act→World→Prop):Prop:=∀e s c a w,Sat O c s a w→Q e s→R e.out a w
def zI(P:Program)(tab:bi)(nW:uG):Prop:=
 ∀{O:lV} {id:Nat} {ops:Array Oper} {s:St} {K:St→Prop},nW ops s K→ops.toList.all (l_ O.N)=true→∀{c:Cx} {a:Act} {w:World} {R:Exit→Act→World→Prop},Sat O c s a w→Good O K (R .normal)→
  (Code.region id ops true).wp P R a w
theorem MA(hT:bl P tab){nW:uG}(N0:zI P tab nW){O:lV}:∀{x:Code} {Q:Ex→St→Prop} {s:St},wD tab (γ P) nW O.H0.length x Q s→j9 O.N x=true→∀{c:Cx} {a:Act} {w:World} {R:Exit→Act→World→Prop},
 Sat O c s a w→Ends O Q R→x.wp P R a w:=by
 intro x
 induction x with
 |skip=>intro Q s h hd c a w R hs hR;exact wp_skip (hR .normal s c a w hs h)
 |seq x y Sm Sl=>
  intro Q s h hd c a w R hs hR
  simp only[j9,Bool.and_eq_true]at hd
  refine wp_seq (Sm h hd.1 hs fun e s' c' a' w' aK hq=> ?_)
  cases e with
  |normal=>exact Sl hq hd.2 aK hR
  |exit id=>exact hR (.exit id) s' c' a' w' aK hq
  |ret=>exact hR .ret s' c' a' w' aK hq
 |cond o x y Sm Sl=>
  intro Q s h hd c a w R hs hR
  simp only[j9,Bool.and_eq_true]at hd
  rw[GR]at h
  have db:=bm hs.env o
  split at h
  ·rename_i t ht
   rw[ht]at db
   refine wp_cond db.bool ?_
   rw[lT]at h
   rcases h with⟨rfl,h⟩|⟨rfl,h⟩
   ·exact Sm h hd.1 hs hR
   ·exact Sl h hd.2 hs hR
  ·exact h.elim
 |block id x ih=>
  intro Q s h hd c a w R hs hR
  refine wp_block (ih h hd hs fun e s' c' a' w' aK hq=> ?_)
  cases e with
  |normal=>exact hR .normal s' c' a' w' aK hq
  |ret=>exact hR .ret s' c' a' w' aK hq
  |exit i=>
   simp only at hq
   simp only[Ex.out,Exit.inBlock]
   split at hq
   ·rename_i hb
    rw[if_pos (Nat.eq_of_beq_eq_true hb)]
    exact hR .normal s' c' a' w' aK hq
   ·rename_i hb
    rw[if_neg (fun e=>by subst e;simp at hb)]
    exact hR (.exit i) s' c' a' w' aK hq
 |loop x ih=>
  intro Q s h hd c a w R hs hR
  obtain⟨n,h⟩:=h
  refine k_.wp ?_
  induction n generalizing s c a w with
  |succ n KU=>
   refine k_.round (ih h hd hs fun e s' c' a' w' aK hq=> ?_)
   cases e with
   |normal=>exact KU aK hq
   |exit id=>exact hR (.exit id) s' c' a' w' aK hq
   |ret=>exact hR .ret s' c' a' w' aK hq
  |zero=>
  obtain⟨I,S,μ,i0,h0,Sz⟩:=h
  have hmin:∀a w,(∃i c,Sat O c (S i) a w)→∃i c,Sat O c (S i) a w∧∀j c',Sat O c' (S j) a w→μ i≤μ j:=by
   intro a w ⟨i,c,hi⟩
   have key:∀n i c,μ i=n→Sat O c (S i) a w→∃i c,Sat O c (S i) a w∧∀j c',Sat O c' (S j) a w→μ i≤μ j:=by
    intro n
    induction n using Nat.strongRecOn with
    |_ n KU=>
     intro i c aL hi
     by_cases hex:∃j c',Sat O c' (S j) a w∧μ j<μ i
     ·obtain⟨j,c',hj,ω⟩:=hex
      exact KU (μ j) (by omega) j c' rfl hj
     ·exact⟨i,c,hi,fun j c' hj=>Nat.le_of_not_lt fun ω=>hex ⟨j,c',hj,ω⟩⟩
   exact key _ i c rfl hi
  let Rs:Act→World→Nat:=fun a w=>open Classical in if hh:∃i c,Sat O c (S i) a w then μ (Classical.choose (hmin a w hh))else 0
  have W1:∀a w j c',Sat O c' (S j) a w→Rs a w≤μ j:=fun a w j c' hj=>by
   have hh:∃i c,Sat O c (S i) a w:=⟨j,c',hj⟩
   simp only[Rs,dif_pos hh]
   obtain⟨c2,_,hle⟩:=Classical.choose_spec (hmin a w hh)
   exact hle j c' hj
  obtain⟨c1,dC⟩:=h0 O c a w rfl hs
  refine k_.inv (fun a w=>∃i c,Sat O c (S i) a w) Rs (fun a w hh=> ?_) _ a w rfl ⟨i0,c1,dC⟩
  obtain⟨c2,fp,_⟩:=Classical.choose_spec (hmin a w hh)
  have fE:Rs a w=μ (Classical.choose (hmin a w hh)):=by simp only[Rs,dif_pos hh]
  refine ih (Sz (Classical.choose (hmin a w hh))) hd fp fun e s' c' a' w' aK hq=> ?_
  cases e with
  |normal=>
   obtain⟨j,hw,ω⟩:=hq
   obtain⟨c3,U9⟩:=hw O c' a' w' rfl aK
   exact⟨⟨j,c3,U9⟩,by have:=W1 a' w' j c3 U9;omega⟩
  |exit id=>exact hR (.exit id) s' c' a' w' aK hq
  |ret=>exact hR .ret s' c' a' w' aK hq
 |exit id=>intro Q s h hd c a w R hs hR;exact wp_exit (hR (.exit id) s c a w hs h)
 |ret=>intro Q s h hd c a w R hs hR;exact wp_ret (hR .ret s c a w hs h)
 |region id ops draw=>
  intro Q s h hd c a w R hs hR
  cases draw with
  |false=>exact wp_region_list (FI hT h hd hs fun s' c' a' w' aK hq=>hR .normal s' c' a' w' aK hq)
  |true=>exact N0 h hd hs fun s' c' a' w' aK hq=>hR .normal s' c' a' w' aK hq
 |_=>intro Q s h;exact h.elim
def zV(tab:bi)(s:St):List ResultVar→(List AV→Prop)→Prop
 |[],K=>K []
 | .tmp t::r,K=>zV tab s r fun l=>K (lk s.env t::l)
 | .cell a ty::r,K=>oR tab ty s.H (lk s.env a) fun v=>zV tab s r fun l=>K (v::l)
def OW:List AV→AV
 |[v]=>v
 |l=> .aq l
def wY:Nat→List AV→List (Nat×AV)
 |_,[]=>[]
 |n,a::r=>(n,a)::wY (n+1) r
def UT(tab:bi)(call:kB)(nW:uG)(k0:Nat)(fn:Func)(x:Code)(args:List AV)(H:AH)(Q:AV→AH→Prop):Prop:=
 Ck (Nat.ble args.length fn.ntmps&&j9 fn.ntmps x)
  (wD tab call nW k0 x (fun e s=>match e with| .exit _=>False|_=>zV tab s fn.results.toList fun l=>Q (OW l) s.H) ⟨wY 0 args,H⟩)
theorem EW:∀(args:List AV) (n t:Nat),lk (wY n args) t=if n≤t then args.getD (t - n) .bq else .bq
 |[],n,t=>by simp[wY,lk]
 |a::r,n,t=>by
  simp only[wY]
  rw[fB,EW r (n+1) t]
  by_cases h:n=t
  ·subst h;simp
  ·by_cases h2:n+1≤t
   ·rw[if_neg h,if_pos h2,if_pos (by omega),show t - n=(t - (n+1))+1 by omega];rfl
   ·rw[if_neg h,if_neg h2,if_neg (by omega)]
def yD(tmps:Array Value):ResultVar→Sem Value
 | .tmp t=>pure (tmps.getD t undef)
 | .cell a t=>do loadVar t (←asAddr (tmps.getD a undef))
theorem G9(fn:Func)(tmps:Array Value):results fn tmps=(do
 let vs ←fn.results.mapM (yD tmps)
 pure (if h:vs.size=1 then vs[0]else .tuple vs)):=by
 unfold results
 congr
theorem zU(hT:bl P tab){O:lV}{c:Cx}{s:St}{a:Act}{w:World}(hs:Sat O c s a w):∀{l:List ResultVar} {K:List AV→Prop},zV tab s l K→
 ∃vs:List AV,∃us:List Value,(l.mapM (yD a.tmps)).run P w= .ok us w∧vs.length=us.length∧
  (∀(i:Nat) x v,vs[i]?=some x→us[i]?=some v→RA w c s.H x v)∧K vs
 |[],K,h=>⟨[],[],by simp,rfl,by simp,h⟩
 | .tmp t::r,K,h=>by
  obtain⟨vs,us,h1,h2,h3,h4⟩:=zU hT hs (l:=r) h
  refine⟨_,a.tmps.getD t undef::us,?_,by simp[h2],fun i x v hi hv=> ?_,h4⟩
  ·simp only[List.mapM_cons,yD,Sem.run_bind,Sem.run_pure,Result.andThen_ok,h1]
  ·cases i with
   |zero=>simp only[List.getElem?_cons_zero,Option.some.injEq]at hi hv;subst hi hv;exact hs.env t
   |succ i=>simp only[List.getElem?_cons_succ]at hi hv;exact h3 i x v hi hv
 | .cell p ty::r,K,h=>by
  simp only[zV]at h
  obtain⟨y,val,r1,r2,k⟩:=Cv (P:=P) hT hs.hs h (hs.env p)
  obtain⟨vs,us,h1,h2,h3,h4⟩:=zU hT hs (l:=r) k
  refine⟨_,val::us,?_,by simp[h2],fun i x v hi hv=> ?_,h4⟩
  ·have ha:∃ad,a.tmps.getD p undef= .pointer (some ad):=by
    simp only[Instr.loadAt,Sem.run_bind]at r1
    generalize a.tmps.getD p undef=q at r1
    cases q with
    |pointer x=>cases x with
     |none=>simp[Instr.sureAddr]at r1
     |some ad=>exact⟨ad,rfl⟩
    |_=>simp[Instr.sureAddr]at r1
   obtain⟨ad,Vs⟩:=ha
   rw[Vs]at r1
   simp only[Instr.loadAt,Instr.sureAddr,pure_bind]at r1
   simp only[List.mapM_cons,yD,Sem.run_bind,Vs,asAddr,Sem.run_pure,Result.andThen_ok,r1,h1]
  ·cases i with
   |zero=>simp only[List.getElem?_cons_zero,Option.some.injEq]at hi hv;subst hi hv;exact r2
   |succ i=>simp only[List.getElem?_cons_succ]at hi hv;exact h3 i x v hi hv
theorem yB(hT:bl P tab){O:lV}{c:Cx}{s:St}{a:Act}{w:World}(hs:Sat O c s a w){fn:Func}{K:List AV→Prop}(h:zV tab s fn.results.toList K):
 ∃vs val,(results fn a.tmps).run P w= .ok val w∧RA w c s.H (OW vs) val∧K vs:=by
 obtain⟨vs,us,h1,h2,h3,h4⟩:=zU hT hs h
 refine⟨vs,if h:us.length=1 then us[0]else .tuple us.toArray,?_,?_,h4⟩
 ·rw[G9,Array.mapM_eq_mapM_toList]
  simp only[Sem.run_bind,Sem.run_map,h1,Result.andThen_ok,Sem.run_pure,List.size_toArray,List.getElem_toArray]
 ·match vs,us,h2,h3 with
  |[x],[u],_,h3=>exact h3 0 x u rfl rfl
  |[],[],_,h3=>exact .aq [] #[] rfl (by simp)
  |x::y::r,u::v::q,h2,h3=>
   have:¬(u::v::q).length=1:=by simp
   rw[dif_neg this]
   exact .aq _ _ (by simpa using h2) (fun i x v hi hv=>h3 i x v hi (by simpa using hv))
theorem γ.ξ(hT:bl P tab){nW:uG}(N0:zI P tab nW){f:FuncId}{fn:Func}{x:Code}(hf:P.funcs[f]?=some fn)(hb:fn.body=some x)(hn:(fn.name== "runtime.NumGoroutine")=false)
 {args:List AV} {H:AH} {Q:AV→AH→Prop} (h:UT tab (γ P) nW H.length fn x args H Q):γ P f args H Q:=by
 unfold UT at h
 rw[ar]at h
 obtain⟨hc,h⟩:=h
 simp only[Bool.and_eq_true]at hc
 have hle:=Nat.le_of_ble_eq_true hc.1
 refine fun B c w vs hs hl hr=> .inl ⟨⟨fn,hf,by rw[hb];rfl,hn⟩,calls_of_wp hf hb ?_⟩
 let O:lV:=⟨fn.ntmps,B,w,c,H,[]⟩
 have kL:Sat O c ⟨wY 0 args,H⟩ {tmps:=vs++Array.replicate (fn.ntmps - vs.size) undef,defers:=[]} w:=by
  refine⟨fun t=> ?_,hs,by simp[O];omega,rfl,Ev.refl _ _ _,Below.refl _ _⟩
  rw[EW,if_pos (Nat.zero_le _),Nat.sub_zero]
  simp only[Array.getD_eq_getD_getElem?,List.getD_eq_getElem?_getD]
  by_cases ht:t<args.length
  ·rw[Array.getElem?_append_left (by omega)]
   obtain⟨v,hv⟩:=iI (a:=vs) (i:=t) (by omega)
   have ha:args[t]?=some args[t]:=List.getElem?_eq_getElem ht
   rw[hv,ha]
   exact hr t _ v ha hv
  ·rw[List.getElem?_eq_none (by omega)]
   exact .bq _
 refine MA hT N0 (O:=O) h hc.2 kL fun e s' c' a' w' aK hq=> ?_
 cases e with
 |exit id=>exact hq.elim
 |normal=>
  obtain⟨l,val,r1,r2,k⟩:=yB hT aK hq
  exact⟨aK.defers,val,r1,val,c',_,s'.H,rfl,r2,aK.hs,aK.ev,aK.below,k⟩
 |ret=>
  obtain⟨l,val,r1,r2,k⟩:=yB hT aK hq
  exact⟨aK.defers,val,r1,val,c',_,s'.H,rfl,r2,aK.hs,aK.ev,aK.below,k⟩
end
end Go.Proofs.YtcogcbplmkcojaaGreatDoor
namespace Go.Proofs.YtcogcbplmkcojaaGreatDoor
open Go.RowKit
set_option linter.unusedVariables false
set_option linter.unusedSimpArgs false
mutual
def ea:Nat→AH→AV→Option (T×List Nat)
 |0,_,_=>none
 |k+1,H,v=>
  match v with
  | .t x=>some (x,[])
  | .sl b g i m=>
   match H[b]?with
   |some (.arr _ s z gen l)=>
    match Nat.beq g gen with
    |true=>match z&&Nat.beq l.length 0 with
     |true=>some (.af,[])
     |false=>match l.part i m with
      | .ts q=>some (.vec s q,[b])
      | .vs q=>match iu k H q with|some (q,ids)=>some (.vec s q,b::ids)|none=>none
    |false=>none
   |_=>none
  | .dx=>some (.vec 0 [],[])
  | .ptr b _ _ o=>
   match H[b]?with
   |some (.box cells)=>match iu k H (cells.drop o)with|some (l,ids)=>some (.bg l,b::ids)|none=>none
   |_=>none
  | .agg cs=>match cs.all AV.one,iu k H cs with|true,some (l,ids)=>some (.agg l,ids)|_,_=>none
  | .fn f a b=>match iu k H a,iu k H b with|some (x,i),some (y,j)=>some (.fn f x y,i++j)|_,_=>none
  | .cG t v=>match ea k H v with|some (x,i)=>some (.cG t x,i)|none=>none
  |_=>none
def iu:Nat→AH→List AV→Option (List T×List Nat)
 |0,_,_=>none
 |_+1,_,[]=>some ([],[])
 |k+1,H,v::r=>match ea k H v,iu k H r with|some (x,i),some (l,j)=>some (x::l,i++j)|_,_=>none
end
theorem rV:∀(k:Nat) {H:AH} {v:AV} {x:T} {ids:List Nat},ea k H v=some (x,ids)→v.one=true→x.one=true
 |0,H,v,x,ids,h,_=>by simp[ea]at h
 |k+1,H,v,x,ids,h,h1=>by
  simp only[ea]at h
  split at h
  ·cases h;exact h1
  ·split at h
   ·split at h
    ·split at h
     ·cases h;rfl
     ·split at h
      ·cases h;rfl
      ·split at h
       ·cases h;rfl
       ·cases h
    ·cases h
   ·cases h
  ·cases h;rfl
  ·split at h
   ·split at h
    ·cases h;rfl
    ·cases h
   ·cases h
  ·simp[AV.one]at h1
  ·split at h
   ·cases h;rfl
   ·cases h
  ·split at h
   ·cases h;rfl
   ·cases h
  ·cases h
theorem pv:∀(k:Nat) {H:AH} {cs:List AV} {l:List T} {ids:List Nat},iu k H cs=some (l,ids)→l.length=cs.length∧
 ∀(i:Nat) y,l[i]?=some y→∃x m js,cs[i]?=some x∧m<k∧ea m H x=some (y,js)∧∀b∈js,b∈ids
 |0,H,cs,l,ids,h=>by simp[iu]at h
 |k+1,H,[],l,ids,h=>by
  simp[iu]at h
  obtain⟨rfl,rfl⟩:=h
  simp
 |k+1,H,a::r,l,ids,h=>by
  simp only[iu]at h
  split at h
  ·rename_i x i1 l1 j1 hx nv
   cases h
   obtain⟨h1,h2⟩:=pv k nv
   refine⟨by simp[h1],fun i y hi=> ?_⟩
   cases i with
   |zero=>simp at hi;subst hi;exact⟨a,k,i1,rfl,Nat.lt_succ_self k,hx,fun b hb=>by simp[hb]⟩
   |succ i=>
    simp at hi
    obtain⟨x',m,js,a1,a2,a3,a4⟩:=h2 i y hi
    exact⟨x',m,js,a1,by omega,a3,fun b hb=>by simp[a4 b hb]⟩
  ·cases h
theorem tH{w:World}{c:Cx}{H:AH}{B:Nat}(hs:HS w c H B){M':Nat→Prop}(sr:∀cb,M' cb→c.M H cb)(k:Nat):∀{v:AV} {u:Value} {x:T} {ids:List Nat},
 ea k H v=some (x,ids)→RA w c H v u→(∀b∈ids,∀cb,c.G b=some cb→¬M' cb)→RT w M' x u:=by
 induction k using Nat.strongRecOn with
 |_ k ih=>
 intro v u x ids h hr pU
 cases k with
 |zero=>simp[ea]at h
 |succ k=>
  have mono:∀{x:T} {u:Value},RT w (c.M H) x u→RT w M' x u:=fun h=>h.mono fun b _ hb=>⟨rfl,fun hm=>hb (sr b hm)⟩
  have list:∀{m:Nat} {cs:List AV} {l:List T} {js:List Nat},m≤k→iu m H cs=some (l,js)→(∀b∈js,∀cb,c.G b=some cb→¬M' cb)→
   l.length=cs.length∧∀(i:Nat) y,l[i]?=some y→∃x,cs[i]?=some x∧(x.one=true→y.one=true)∧∀v,RA w c H x v→RT w M' y v:=by
   intro m cs l js hm hl hj
   obtain⟨h1,h2⟩:=pv m hl
   refine⟨h1,fun i y hi=> ?_⟩
   obtain⟨x,m',WU,a1,a2,a3,a4⟩:=h2 i y hi
   exact⟨x,a1,rV m' a3,fun v hv=>ih m' (by omega) a3 hv fun b hb=>hj b (a4 b hb)⟩
  have cells:∀{m:Nat} {x:AV} {y:T} {js:List Nat},m≤k→ea m H x=some (y,js)→(∀b∈js,∀cb,c.G b=some cb→¬M' cb)→
   y.cells.length=x.cells.length∧∀(j:Nat) z,y.cells[j]?=some z→∃x',x.cells[j]?=some x'∧(x'.one=true→z.one=true)∧∀v,RA w c H x' v→RT w M' z v:=by
   intro m x y js hm hx hj
   have single:x.one=true→x.cells=[x]→y.cells.length=x.cells.length∧∀(j:Nat) z,y.cells[j]?=some z→∃x',x.cells[j]?=some x'∧(x'.one=true→z.one=true)∧∀v,RA w c H x' v→RT w M' z v:=by
    intro h1 hc
    have tg:=rV m hx h1
    rw[hc,T.iZ tg]
    refine⟨rfl,fun j z hz=> ?_⟩
    cases j with
    |zero=>simp at hz;subst hz;exact⟨x,rfl,fun _=>tg,fun v hv=>ih m (by omega) hx hv hj⟩
    |succ j=>simp at hz
   cases m with
   |zero=>simp[ea]at hx
   |succ m=>
    cases x with
    |t x=>
     simp only[ea]at hx
     cases hx
     rw[T.dK]
     refine⟨by simp,fun j z hz=>⟨.t z,by simp[hz],fun h=>h,fun v hv=> ?_⟩⟩
     exact mono hv.rt
    |agg cs=>
     simp only[ea]at hx
     split at hx
     ·rename_i bZ hl
      cases hx
      obtain⟨h1,h2⟩:=list (by omega) hl hj
      exact⟨h1,h2⟩
     ·cases hx
    |ptr b g i o=>exact single rfl rfl
    |sl b g i n=>exact single rfl rfl
    |fn f a b=>exact single rfl rfl
    |cG t v=>exact single rfl rfl
    |dx=>exact single rfl rfl
    |aq=>simp[ea]at hx
    |own=>simp[ea]at hx
    |bq=>simp[ea]at hx
  simp only[ea]at h
  split at h
  ·cases h;exact mono hr.rt
  ·rename_i b g i m
   cases hr with|sl _ _ _ _ _ π hb hm hv=>
   rw[hb]at h
   cases π with
   |dead=>cases h
   |box=>cases h
   |iter=>cases h
   |arr e s z gen l=>
    simp only at h
    split at h
    ·rename_i hg
     obtain⟨hlen,hm⟩:=hm.2 (Nat.eq_of_beq_eq_true hg)
     split at h
     ·rename_i hz
      cases h
      simp at hz
      rcases hm with⟨_,_,rfl⟩|⟨z1,_⟩|⟨au,_⟩
      ·exact .af
      ·rw[hz.1]at z1;cases z1
      ·exact(au hz).elim
     ·rename_i hz
      have DZ:¬(z=true∧l.length=0):=fun⟨a,b⟩=>by rw[a,b]at hz;cases hz
      have elem:∃q,x= .vec s q∧b∈ids∧q.length=(l.part i m).length∧∀(k:Nat) y,q[k]?=some y→∃x0,(l.part i m).get k=some x0∧y.cells.length=x0.cells.length∧
       ∀(j:Nat) z,y.cells[j]?=some z→∃x',x0.cells[j]?=some x'∧(x'.one=true→z.one=true)∧∀v,RA w c H x' v→RT w M' z v:=by
       split at h
       ·rename_i q hq
        cases h
        rw[hq]
        refine⟨q,rfl,by simp,rfl,fun k y hk=>⟨.t y,by simp[Sq.get,hk],by rw[T.dK];simp,fun j z hz=> ?_⟩⟩
        rw[T.dK]
        exact⟨.t z,by simp[hz],fun h=>h,fun v hv=>mono hv.rt⟩
       ·rename_i q hq
        split at h
        ·rename_i q' js hl
         cases h
         rw[hq]
         obtain⟨h1,h2⟩:=pv k hl
         refine⟨q',rfl,by simp,h1,fun k' y hk=> ?_⟩
         obtain⟨x0,m',WU,a1,a2,a3,a4⟩:=h2 k' y hk
         obtain⟨c1,c2⟩:=cells (by omega) a3 fun b' aD=>pU b' (by simp[a4 b' aD])
         exact⟨x0,a1,c1,c2⟩
        ·cases h
      obtain⟨q,rfl,zd,Gg,xp⟩:=elem
      rw[Sq.ke]at Gg
      rcases hm with⟨h1,h2,_⟩|⟨z1,l1,ad,rfl⟩|⟨au,cb,cap,off,hg,rfl,bE,eu,ti,nt,ns⟩
      ·exact(DZ ⟨h1,h2⟩).elim
      ·have SD:q=[]:=List.eq_nil_of_length_eq_zero (by omega)
       subst SD
       obtain⟨cb,off,sp⟩:=ad
       exact .vec s [] cb off 0 sp (fun _ _=>undef) (by simp) (by simp) (by simp) (by simp) (by simp) (by simp)
      ·obtain⟨arr,mG,h1,h2,h3,h4,h5⟩:=hs.arr b cb e s z gen l hb hg
       have hn:q.length=m:=by rw[Gg,Nat.min_eq_left (Nat.le_sub_of_add_le (by rw[Nat.add_comm];exact hlen))]
       have hM:¬M' cb:=pU b zd cb hg
       have cellOf:∀(k:Nat) e' (j:Nat) y,q[k]?=some e'→e'.cells[j]?=some y→∃u,arr[(i+k)*s+j]?=some u∧y.one=true∧RT w M' y u:=by
        intro k e' j y hk hj
        obtain⟨x0,a1,a2,a3⟩:=xp k e' hk
        obtain⟨x',b1,b2,b3⟩:=a3 j y hj
        rw[Sq.qX]at a1
        split at a1
        ·obtain⟨u,hu,c1,c2,c3⟩:=(h5 _ _ a1).2 j x' b1
         exact⟨u,hu,b2 c1,b3 u c2⟩
        ·cases a1
       have:=RT.vec (w:=w) (M:=M') s q cb off cap none (fun k j=>arr.getD ((i+k)*s+j) undef) (fun _ _=>hM) (by omega) (fun _=>rfl)
        (fun k e' hk=>by
         obtain⟨x0,a1,a2,a3⟩:=xp k e' hk
         rw[Sq.qX]at a1
         split at a1
         ·rw[a2];exact(h5 _ _ a1).1
         ·cases a1)
        (fun k e' j y hk hj=>by
         obtain⟨u,hu,h6,h7⟩:=cellOf k e' j y hk hj
         have ω:=κ hk
         have wQ:off=i*s:=nt.resolve_left (by omega)
         rw[kT h1,show off+k*s+j=(i+k)*s+j by rw[wQ,Nat.add_mul],hu]
         exact⟨by simp[Array.getD_eq_getD_getElem?,hu],h6⟩)
        (fun k e' j y hk hj=>by
         obtain⟨u,hu,h6,h7⟩:=cellOf k e' j y hk hj
         simp only[Array.getD_eq_getD_getElem?,hu,Option.getD_some]
         exact h7)
       rw[hn]at this
       exact this
    ·cases h
  ·cases h
   cases hr
   exact .vec 0 [] _ _ 0 _ (fun _ _=>undef) (by simp) (by simp) (by simp) (by simp) (by simp) (by simp)
  ·rename_i b g i o
   cases hr with|ptr _ _ _ _ _ π hb hm hv=>
   rw[hb]at h
   cases π with
   |dead=>cases h
   |arr=>cases h
   |iter=>cases h
   |box cells=>
    simp only at h
    obtain⟨cb,hg,rfl⟩:=hm
    split at h
    ·rename_i l j hl
     cases h
     obtain⟨arr,e,h1,h2,h3⟩:=hs.box b cb cells hb hg
     obtain⟨k1,k2⟩:=list (Nat.le_refl k) hl fun b' aD=>pU b' (by simp[aD])
     have Pz:∀(i:Nat) y,l[i]?=some y→∃v,arr[o+i]?=some v∧y.one=true∧RT w M' y v:=by
      intro i y hi
      obtain⟨x',b1,b2,b3⟩:=k2 i y hi
      rw[List.getElem?_drop]at b1
      obtain⟨v,hv⟩:=iI (a:=arr) (i:=o+i) (by have:=κ b1;omega)
      obtain⟨c1,c2,_⟩:=h3 _ x' v b1 hv
      exact⟨v,hv,b2 c1,b3 v c2⟩
     refine .bg l cb o (fun i=>arr.getD (o+i) undef) (fun _=>pU b (by simp) cb hg) (fun i y hi=> ?_) (fun i y hi=> ?_)
     ·obtain⟨q,hq,vL,_⟩:=Pz i y hi
      exact⟨by rw[kT h1,hq];simp[Array.getD_eq_getD_getElem?,hq],vL⟩
     ·obtain⟨q,hq,vL,iU⟩:=Pz i y hi
      simp only[Array.getD_eq_getD_getElem?,hq,Option.getD_some]
      exact iU
    ·cases h
  ·rename_i cs
   split at h
   ·rename_i bZ hl
    rename_i l j
    cases h
    cases hr with|agg _ vs hlen h1 pN=>
    obtain⟨k1,k2⟩:=list (Nat.le_refl k) hl pU
    refine .agg l vs (by omega) (fun i y hi=> ?_) (fun i y v hi hv=> ?_)
    ·obtain⟨x',b1,b2,_⟩:=k2 i y hi
     exact b2 (h1 i x' b1)
    ·obtain⟨x',b1,_,b3⟩:=k2 i y hi
     exact b3 v (pN i x' v b1 hv)
   ·cases h
  ·rename_i f a b
   split at h
   ·rename_i x1 i1 y1 j1 ha hb
    cases h
    cases hr with|fn _ _ _ p q ZA SS db Bz=>
    obtain⟨k1,k2⟩:=list (Nat.le_refl k) ha fun b' aD=>pU b' (by simp[aD])
    obtain⟨k3,k4⟩:=list (Nat.le_refl k) hb fun b' aD=>pU b' (by simp[aD])
    refine .fn f x1 y1 p q (by omega) (by omega) (fun i y v hi hv=> ?_) (fun i y v hi hv=> ?_)
    ·obtain⟨x',b1,_,b3⟩:=k2 i y hi
     exact b3 v (db i x' v b1 hv)
    ·obtain⟨x',b1,_,b3⟩:=k4 i y hi
     exact b3 v (Bz i x' v b1 hv)
   ·cases h
  ·split at h
   ·rename_i x1 i1 hx
    cases h
    cases hr with|cG _ _ v hr=>
    exact .cG _ _ _ (ih k (Nat.lt_succ_self k) hx hr pU)
   ·cases h
  ·cases h
theorem mo{w:World}{c:Cx}{H:AH}{B:Nat}(hs:HS w c H B){M':Nat→Prop}(sr:∀cb,M' cb→c.M H cb)(k:Nat){cs:List AV}{vs:List Value}{l:List T}{ids:List Nat}
 (h:iu k H cs=some (l,ids)) (hl:cs.length=vs.length) (hr:∀(i:Nat) x v,cs[i]?=some x→vs[i]?=some v→RA w c H x v) (pU:∀b∈ids,∀cb,c.G b=some cb→¬M' cb):
 l.length=cs.length∧∀(i:Nat) x v,l[i]?=some x→vs[i]?=some v→RT w M' x v:=by
 obtain⟨h1,h2⟩:=pv k h
 refine⟨h1,fun i y v hi hv=> ?_⟩
 obtain⟨x,m,js,a1,a2,a3,a4⟩:=h2 i y hi
 exact tH hs sr m a3 (hr i x v a1 hv) fun b hb=>pU b (a4 b hb)
def lM(H:AH):AV→AV→Prop
 | .own e s z l,.sl b g i m=>H[b]?=some (.arr e s z g (.ts l))∧i=0∧m=l.length
 | .t x,v=>(ea 5000 H v).map Prod.fst=some x
 |_,_=>False
def kj:AV→AV→List Nat
 | .own _ _ _ _,.sl b _ _ _=>[b]
 |_,_=>[]
def rH(H:AH):AV→AV→List Nat
 | .t _,v=>match ea 5000 H v with|some (_,ids)=>ids|none=>[]
 |_,_=>[]
def C_(H:AH):List AV→List AV→Prop
 |[],[]=>True
 |r::rs,v::vs=>lM H r v∧C_ H rs vs
 |_,_=>False
def sD:List AV→List AV→List Nat
 |r::rs,v::vs=>kj r v++sD rs vs
 |_,_=>[]
def Em(H:AH):List AV→List AV→List Nat
 |r::rs,v::vs=>rH H r v++Em H rs vs
 |_,_=>[]
def ta(H:AH):AV→AV→Prop
 | .agg rs,.agg vs=>C_ H rs vs∧rs.all AV.one=true
 |r,v=>lM H r v
def sE:AV→AV→List Nat
 | .agg rs,.agg vs=>sD rs vs
 |r,v=>kj r v
def ye(H:AH):AV→AV→List Nat
 | .agg rs,.agg vs=>Em H rs vs
 |r,v=>rH H r v
def wJ(H:AH):List AV→List AV→Prop
 |[],[]=>True
 |r::rs,v::vs=>ta H r v∧wJ H rs vs
 |_,_=>False
def qB:List AV→List AV→List Nat
 |r::rs,v::vs=>sE r v++qB rs vs
 |_,_=>[]
def ss(H:AH):List AV→List AV→List Nat
 |r::rs,v::vs=>ye H r v++ss H rs vs
 |_,_=>[]
def Cf(H:AH):AV→AV→Prop
 | .aq rs,.aq vs=>wJ H rs vs
 |r,v=>ta H r v
def owns:AV→AV→List Nat
 | .aq rs,.aq vs=>qB rs vs
 |r,v=>sE r v
def yd(H:AH):AV→AV→List Nat
 | .aq rs,.aq vs=>ss H rs vs
 |r,v=>ye H r v
def rP(own YF:List Nat):Bool:=decide (own.Nodup)&&own.all fun b=> !YF.contains b
def Pack(r:AV)(v:AV)(H:AH):Prop:=Cf H r v∧rP (owns r v) (yd H r v)=true
def Ω.re:Ω→Ω
 | .arr e s z _ l=> .arr e s z 0 l
 |b=>b
theorem Ω.Qy{b:Ω}(h:b.re.live=true):b.live=true:=by cases b<;>first|rfl|exact h
structure GO(w:World)(c:Cx)(H:AH)(n:Nat)(I:List Nat)(c':Cx)(H':AH):Prop where
 sr:∀cb,c'.M H' cb→c.M H cb
 pU:∀b,b∉I→∀cb,c.G b=some cb→¬c'.M H' cb
 at_:∀(k:Nat) b π,I[k]?=some b→H[b]?=some π→H'[n+k]?=some π.re∧c'.G (n+k)=c.G b
theorem Ba{w:World}{c:Cx}{H:AH}{B n k:Nat}{I:List Nat}{c':Cx}{H':AH}(hs:HS w c H B)(lC:GO w c H n I c' H'){r v:AV}{u:Value}(h:lM H r v)(hr:RA w c H v u)
 (hI:∀(j:Nat) b,(kj r v)[j]?=some b→I[k+j]?=some b) (hF:∀b∈rH H r v,b∉I):
 RA w c' H' (gA (n+k) r).1 u∧(gA (n+k) r).2=(kj r v).map (fun b=>(H.getD b .dead).re):=by
 unfold lM at h
 split at h
 ·rename_i e s z l b g i m
  obtain⟨hb,rfl,rfl⟩:=h
  have hk:=hI 0 b rfl
  obtain⟨h1,h2⟩:=lC.at_ _ b _ hk hb
  cases hr with|sl _ _ _ _ _ π aD hm hv=>
  rw[hb]at aD
  cases aD
  rw[Nat.add_zero]at h1 h2
  refine⟨.sl _ _ _ _ _ (.arr e s z 0 (.ts l)) h1 ⟨Nat.le_refl _,fun _=> ?_⟩ hv,by simp[gA,kj,List.getD,hb,Ω.re]⟩
  obtain⟨h3,h4⟩:=hm.2 rfl
  refine⟨h3,?_⟩
  rcases h4 with h4|h4|⟨a1,cb,cap,off,a2,a3⟩
  ·exact .inl h4
  ·exact .inr (.inl h4)
  ·exact .inr <| .inr ⟨a1,cb,cap,off,by rw[h2];exact a2,a3⟩
 ·rename_i x _
  rw[Option.map_eq_some_iff]at h
  obtain⟨⟨y,ids⟩,dC,rfl⟩:=h
  refine⟨.t _ _ (tH hs lC.sr 5000 dC hr fun b hb=>lC.pU b (hF b ?_)),by simp[gA,kj]⟩
  simp only[rH,dC]
  exact hb
 ·exact h.elim
theorem NV{H:AH}{r v:AV}{n:Nat}(h:(gA n r).2=(kj r v).map (fun b=>(H.getD b .dead).re)):(gA n r).2.length=(kj r v).length:=by rw[h];simp
theorem A9{w:World}{c:Cx}{H:AH}{B n:Nat}{I:List Nat}{c':Cx}{H':AH}(hs:HS w c H B)(lC:GO w c H n I c' H'):∀{rs vs:List AV} {us:List Value} {k:Nat},C_ H rs vs→vs.length=us.length→(∀(i:Nat) x u,vs[i]?=some x→us[i]?=some u→RA w c H x u)→
 (∀(j:Nat) b,(sD rs vs)[j]?=some b→I[k+j]?=some b)→(∀b∈Em H rs vs,b∉I)→
 (gR (n+k) rs).1.length=us.length∧(∀(i:Nat) x u,(gR (n+k) rs).1[i]?=some x→us[i]?=some u→RA w c' H' x u)∧(gR (n+k) rs).2=(sD rs vs).map (fun b=>(H.getD b .dead).re)
 |[],[],us,k,h,hl,hr,hI,hF=>⟨by simpa[gR]using hl,by simp[gR],rfl⟩
 |r::rs,v::vs,[],k,h,hl,hr,hI,hF=>by simp at hl
 |r::rs,v::vs,u::us,k,h,hl,hr,hI,hF=>by
  obtain⟨h1,h2⟩:=Ba (k:=k) hs lC h.1 (hr 0 v u rfl rfl) (fun j b hj=>hI j b (by rw[sD,List.getElem?_append_left (κ hj)];exact hj)) (fun b hb=>hF b (by simp[Em,hb]))
  have hlen:=NV h2
  obtain⟨h3,h4,h5⟩:=A9 (k:=k+(gA (n+k) r).2.length) hs lC h.2 (us:=us) (by simpa using hl) (fun i x q hi hq=>hr (i+1) x q hi hq) (fun j b hj=>by
   have:=hI ((kj r v).length+j) b (by rw[sD,List.getElem?_append_right (by omega)];simpa using hj)
   rw[hlen,Nat.add_assoc];exact this) (fun b hb=>hF b (by simp[Em,hb]))
  refine⟨?_,fun i x q hi hq=> ?_,?_⟩
  ·simp only[gR,List.length_cons];rw[Nat.add_assoc];omega
  ·simp only[gR]at hi
   cases i with
   |zero=>simp at hi hq;subst hi hq;exact h1
   |succ i=>simp at hi hq;rw[Nat.add_assoc]at hi;exact h4 i x q hi hq
  ·simp only[gR,sD,List.map_append]
   rw[Nat.add_assoc,h5,h2]
theorem RA.Wz{w c H}{rs:List AV}{vs:Array Value}(hl:rs.length=vs.toList.length)(h1:rs.all AV.one=true)(hr:∀(i:Nat) x u,rs[i]?=some x→vs.toList[i]?=some u→RA w c H x u):RA w c H (.agg rs) (.agg vs):=by
 rw[List.all_eq_true]at h1
 exact .agg rs vs (by simpa using hl) (fun i x hi=>h1 x (List.mem_of_getElem? hi)) (fun i x v hi hv=>hr i x v hi (by simpa using hv))
theorem NU{n:Nat}{r:AV}(h:r.one=true):(gA n r).1.one=true:=by cases r<;>first|exact h|rfl|(simp[AV.one]at h)
theorem DH:∀{rs:List AV} {n:Nat},rs.all AV.one=true→(gR n rs).1.all AV.one=true
 |[],n,_=>rfl
 |r::rs,n,h=>by
  simp only[List.all_cons,Bool.and_eq_true]at h
  simp only[gR,List.all_cons,NU h.1,DH h.2,Bool.and_self]
theorem A_{w:World}{c:Cx}{H:AH}{B n k:Nat}{I:List Nat}{c':Cx}{H':AH}(hs:HS w c H B)(lC:GO w c H n I c' H'){r v:AV}{u:Value}(h:ta H r v)(hr:RA w c H v u)
 (hI:∀(j:Nat) b,(sE r v)[j]?=some b→I[k+j]?=some b) (hF:∀b∈ye H r v,b∉I):
 RA w c' H' (eI (n+k) r).1 u∧(eI (n+k) r).2=(sE r v).map (fun b=>(H.getD b .dead).re):=by
 unfold ta at h
 split at h
 ·rename_i rs vs
  cases hr with|agg _ us hl h1 pN=>
  obtain⟨a1,a2,a3⟩:=A9 (k:=k) hs lC h.1 (us:=us.toList) (by simpa using hl) (fun i x q hi hq=>pN i x q hi (by simpa using hq)) hI hF
  exact⟨RA.Wz a1 (DH h.2) a2,a3⟩
 ·rename_i au
  have e1:sE r v=kj r v:=by unfold sE;split<;>first|rfl|exact(au _ _ rfl rfl).elim
  have e2:ye H r v=rH H r v:=by unfold ye;split<;>first|rfl|exact(au _ _ rfl rfl).elim
  have e3:∀m,eI m r=gA m r:=by
   intro m
   cases r<;>first|rfl|skip
   simp only[lM]at h
  rw[e1]at hI⊢
  rw[e2]at hF
  rw[e3]
  exact Ba hs lC h hr hI hF
theorem yE{w:World}{c:Cx}{H:AH}{B n:Nat}{I:List Nat}{c':Cx}{H':AH}(hs:HS w c H B)(lC:GO w c H n I c' H'):∀{rs vs:List AV} {us:List Value} {k:Nat},wJ H rs vs→vs.length=us.length→(∀(i:Nat) x u,vs[i]?=some x→us[i]?=some u→RA w c H x u)→
 (∀(j:Nat) b,(qB rs vs)[j]?=some b→I[k+j]?=some b)→(∀b∈ss H rs vs,b∉I)→
 (dD (n+k) rs).1.length=us.length∧(∀(i:Nat) x u,(dD (n+k) rs).1[i]?=some x→us[i]?=some u→RA w c' H' x u)∧(dD (n+k) rs).2=(qB rs vs).map (fun b=>(H.getD b .dead).re)
 |[],[],us,k,h,hl,hr,hI,hF=>⟨by simpa[dD]using hl,by simp[dD],rfl⟩
 |r::rs,v::vs,[],k,h,hl,hr,hI,hF=>by simp at hl
 |r::rs,v::vs,u::us,k,h,hl,hr,hI,hF=>by
  obtain⟨h1,h2⟩:=A_ (k:=k) hs lC h.1 (hr 0 v u rfl rfl) (fun j b hj=>hI j b (by rw[qB,List.getElem?_append_left (κ hj)];exact hj)) (fun b hb=>hF b (by simp[ss,hb]))
  have hlen:(eI (n+k) r).2.length=(sE r v).length:=by rw[h2];simp
  obtain⟨h3,h4,h5⟩:=yE (k:=k+(eI (n+k) r).2.length) hs lC h.2 (us:=us) (by simpa using hl) (fun i x q hi hq=>hr (i+1) x q hi hq) (fun j b hj=>by
   have:=hI ((sE r v).length+j) b (by rw[qB,List.getElem?_append_right (by omega)];simpa using hj)
   rw[hlen,Nat.add_assoc];exact this) (fun b hb=>hF b (by simp[ss,hb]))
  refine⟨?_,fun i x q hi hq=> ?_,?_⟩
  ·simp only[dD,List.length_cons];rw[Nat.add_assoc];omega
  ·simp only[dD]at hi
   cases i with
   |zero=>simp at hi hq;subst hi hq;exact h1
   |succ i=>simp at hi hq;rw[Nat.add_assoc]at hi;exact h4 i x q hi hq
  ·simp only[dD,qB,List.map_append]
   rw[Nat.add_assoc,h5,h2]
theorem M7{w:World}{c:Cx}{H:AH}{B n:Nat}{I:List Nat}{c':Cx}{H':AH}(hs:HS w c H B)(lC:GO w c H n I c' H'){r v:AV}{u:Value}(h:Cf H r v)(hr:RA w c H v u)
 (hI:owns r v=I) (hF:∀b∈yd H r v,b∉I):
 RA w c' H' (imp n r).1 u∧(imp n r).2=I.map (fun b=>(H.getD b .dead).re):=by
 unfold Cf at h
 split at h
 ·rename_i rs vs
  cases hr with|aq _ us hl pN=>
  obtain⟨a1,a2,a3⟩:=yE (k:=0) hs lC h (us:=us.toList) (by simpa using hl) (fun i x q hi hq=>pN i x q hi (by simpa using hq)) (fun j b hj=>by rw[←hI,Nat.zero_add];exact hj) hF
  rw[←hI]
  exact⟨.aq _ _ (by simpa using a1) (fun i x v hi hv=>a2 i x v hi (by simpa using hv)),a3⟩
 ·rename_i au
  have e1:owns r v=sE r v:=by unfold owns;split<;>first|rfl|exact(au _ _ rfl rfl).elim
  have e2:yd H r v=ye H r v:=by unfold yd;split<;>first|rfl|exact(au _ _ rfl rfl).elim
  have e3:∀m,imp m r=eI m r:=by
   intro m
   cases r<;>first|rfl|skip
   simp only[ta,lM]at h
  rw[e1]at hI
  rw[e2]at hF
  rw[e3,←hI]
  exact A_ (k:=0) hs lC h hr (fun j b hj=>by rw[←hI,Nat.zero_add];exact hj) hF
theorem tR{w w':World}{F:Nat→Prop}{c':Cx}{r r':AV}{H':AH}{v:Value}(n:Nat)(hF:∀cb,F cb→cb<w.heap.size)(db:RA w' c' H' r' v)(hs:HS w' c' H' w.heap.size)(ev:Ev w ⟨F,fun _=>none⟩ [] w' c' H')(dz:Below w.heap.size w w')(h:Pack r r' H'):
 ∃v' G,Ending.returned v= .returned v'∧Below w.heap.size w w'∧(∀b cb,G b=some cb→n≤b)∧
  RA w' ⟨F,G⟩ (List.replicate n .dead++(imp n r).2) (imp n r).1 v'∧HS w' ⟨F,G⟩ (List.replicate n .dead++(imp n r).2) w.heap.size:=by
 obtain⟨hp,Vr⟩:=h
 simp only[rP,Bool.and_eq_true,decide_eq_true_eq,List.all_eq_true]at Vr
 obtain⟨vM,Wl⟩:=Vr
 let I:=owns r r'
 let G:Nat→Option Nat:=fun b=>if b<n then none else I[b - n]?.bind c'.G
 let Hn:AH:=List.replicate n .dead++I.map (fun b=>(H'.getD b .dead).re)
 have xy:∀b cb,G b=some cb→n≤b∧∃b',I[b - n]?=some b'∧c'.G b'=some cb:=by
  intro b cb hg
  simp only[G]at hg
  split at hg
  ·cases hg
  ·rename_i fa
   rw[Option.bind_eq_some_iff]at hg
   obtain⟨b',h1,h2⟩:=hg
   exact⟨by omega,b',h1,h2⟩
 have eX:∀(k:Nat) b,I[k]?=some b→Hn[n+k]?=some (H'.getD b .dead).re:=by
  intro k b hk
  simp only[Hn]
  rw[List.getElem?_append_right (by simp)]
  simp[hk]
 have Ik:∀b cb π,G b=some cb→Hn[b]?=some π→∃b' bk,I[b - n]?=some b'∧c'.G b'=some cb∧H'[b']?=some bk∧π=bk.re:=by
  intro b cb π hg hb
  obtain⟨h1,b',h2,h3⟩:=xy b cb hg
  have:=eX _ b' h2
  rw[show n+(b - n)=b by omega,hb]at this
  cases this
  have ω:=hs.kz b' cb h3
  exact⟨b',H'[b'],h2,h3,List.getElem?_eq_getElem ω,by simp[List.getD,ω]⟩
 have lC:GO w' c' H' n I ⟨F,G⟩ Hn:=by
  refine⟨?_,?_,?_⟩
  ·rintro cb (hf|⟨b,π,hb,iB,hg⟩)
   ·exact .inl (by rw[ev.F];exact hf)
   ·obtain⟨b',bk,h2,h3,h4,rfl⟩:=Ik b cb π hg hb
    exact .inr ⟨b',bk,h4,Ω.Qy iB,h3⟩
  ·rintro b Tn cb hg (hf|⟨b2,π,hb,iB,ny⟩)
   ·have:=hF cb hf;have:=(hs.base b cb hg).1;omega
   ·obtain⟨b',bk,h2,h3,h4,_⟩:=Ik b2 cb π ny hb
    have:=hs.inj b b' cb hg h3
    subst this
    exact Tn (List.mem_of_getElem? h2)
  ·intro k b π hk hb
   refine⟨by rw[eX k b hk];simp[List.getD,hb],?_⟩
   simp only[G]
   rw[if_neg (by omega),show n+k - n=k by omega,hk]
   rfl
 have UD:∀b∈yd H' r r',b∉I:=fun b hb Tn=>by
  have:=Wl b Tn
  simp at this
  exact this hb
 obtain⟨ra,himp⟩:=M7 hs lC hp db rfl UD
 have Ly:Hn=List.replicate n .dead++(imp n r).2:=by rw[himp]
 have PC:Below w.heap.size w w':=dz
 refine⟨v,G,rfl,PC,fun b cb hg=>(xy b cb hg).1,by rw[←Ly];exact ra,?_⟩
 rw[←Ly]
 refine⟨fun b b' cb h h'=> ?_,fun b cb h=> ?_,fun cb hf=>⟨Nat.lt_of_lt_of_le (hF cb hf) PC.size,fun b hg=>by obtain⟨h1,b1,h2,h3⟩:=xy b cb hg;have:=(hs.base b1 cb h3).1;have:=hF cb hf;omega⟩,hs.hB,fun b cb h=> ?_,fun b cb cells hb hg=> ?_,fun b cb e s z g l hb hg=> ?_,fun b cb s p hb hg=> ?_⟩
 ·obtain⟨h1,b1,h2,h3⟩:=xy b cb h
  obtain⟨h4,b2,h5,h6⟩:=xy b' cb h'
  have:=hs.inj b1 b2 cb h3 h6
  subst this
  have:=(List.getElem?_inj (i:=b - n) (j:=b' - n) (κ h2) vM).1 (h2.trans h5.symm)
  omega
 ·obtain⟨h1,b1,h2,h3⟩:=xy b cb h
  exact hs.base b1 cb h3
 ·obtain⟨h1,b1,h2,h3⟩:=xy b cb h
  have:=κ h2
  simp[Hn];omega
 ·have fF:=mP n r
  rw[List.all_eq_true]at fF
  obtain⟨h1,b1,h2,h3⟩:=xy b cb hg
  rw[Ly,List.getElem?_append_right (by simpa using h1)]at hb
  have:=fF _ (List.mem_of_getElem? hb)
  simp[Ω.qe]at this
 ·have fF:=mP n r
  rw[List.all_eq_true]at fF
  obtain⟨h1,b1,h2,h3⟩:=xy b cb hg
  have aD:=hb
  rw[Ly,List.getElem?_append_right (by simpa using h1)]at aD
  have ru:=fF _ (List.mem_of_getElem? aD)
  obtain⟨b',bk,h2,h3,h4,K3⟩:=Ik b cb _ hg hb
  have:∃g',bk= .arr e s z g' l∧g=0:=by
   cases bk with
   |arr e1 s1 z1 g1 l1=>simp[Ω.re]at K3;obtain⟨rfl,rfl,rfl,vT,rfl⟩:=K3;exact⟨_,rfl,vT⟩
   |box=>simp[Ω.re]at K3
   |dead=>simp[Ω.re]at K3
   |iter=>simp[Ω.re]at K3
  obtain⟨g',rfl,vT⟩:=this
  obtain⟨arr,cap,a1,a2,a3,a4,a5⟩:=hs.arr b' cb e s z g' l h4 h3
  cases l with
  |vs l=>simp[Ω.qe]at ru
  |ts l=>
   refine⟨arr,cap,a1,a2,⟨a3.1,by omega⟩,a4,dE.ts.2 fun i x hi=>⟨(dE.ts.1 a5 i x hi).1,fun j y hj=> ?_⟩⟩
   obtain⟨q,q1,q2,q3,q4⟩:=(dE.ts.1 a5 i x hi).2 j y hj
   exact⟨q,q1,q2,q3.mono fun b _ hb=>⟨rfl,fun hm=>hb (lC.sr b hm)⟩,q4⟩
 ·have fF:=mP n r
  rw[List.all_eq_true]at fF
  obtain⟨h1,b1,h2,h3⟩:=xy b cb hg
  rw[Ly,List.getElem?_append_right (by simpa using h1)]at hb
  have:=fF _ (List.mem_of_getElem? hb)
  simp[Ω.qe]at this
theorem φ.Γ{P:Program}{f:FuncId}{ts:List T}{r:AV}(h:γ P f (ts.map .t) [] (Pack r))(hn:aJ r=true):φ P f ts r:=by
 refine⟨hn,fun n F w vs hF hl hr=> ?_⟩
 have kL:HS w ⟨F,fun _=>none⟩ [] w.heap.size:=⟨by simp,by simp,fun cb hf=>⟨hF cb hf,fun b hb=>by cases hb⟩,Nat.le_refl _,by simp,by simp,by simp,by simp⟩
 have mT:∀cb,(Cx.mk F fun _=>none).M [] cb→F cb:=by
  rintro cb (h|⟨b,π,hb,_⟩)
  ·exact h
  ·simp at hb
 refine(h w.heap.size ⟨F,fun _=>none⟩ w vs kL (by simpa using hl) (qC fun i x v hi hv=>(hr i x v hi hv).mono fun b _ hb=>⟨rfl,fun hm=>hb (mT b hm)⟩)).mono ?_
 rintro e w' ⟨v,c',r',H',rfl,db,hs,ev,dz,hp⟩
 exact tR n hF db hs ev dz hp
end Go.Proofs.YtcogcbplmkcojaaGreatDoor
namespace Go.Proofs.YtcogcbplmkcojaaGreatDoor
set_option linter.unusedVariables false
def zS(env:List (Nat×AV)):List (Nat×AV)→Prop
 |[]=>True
 |(t,v)::r=>lk env t=v∧zS env r
theorem yl{env:List (Nat×AV)}:∀{env':List (Nat×AV)},zS env env'→∀t,lk env' t= .bq∨lk env' t=lk env t
 |[],_,t=> .inl rfl
 |(d,v)::r,h,t=>by
  rw[fB]
  by_cases e:d=t
  ·rw[if_pos e,←e,h.1];exact .inr rfl
  ·rw[if_neg e];exact yl h.2 t
theorem aM{k0:Nat}{s s':St}(h:zS s.env s'.env)(hH:s.H=s'.H):aB k0 s s':=by
 intro O c a w _ hs
 refine⟨c,fun t=> ?_,hH▸hs.hs,hs.size,hs.defers,hH▸hs.ev,hs.below⟩
 rw[←hH]
 rcases yl h t with e|e
 ·rw[e];exact .bq _
 ·rw[e];exact hs.env t
theorem aB.refl{k0:Nat}(s:St):aB k0 s s:=fun O c a w _ hs=>⟨c,hs⟩
theorem aB.trans{k0:Nat}{s1 s2 s3:St}(h:aB k0 s1 s2)(h2:aB k0 s2 s3):aB k0 s1 s3:=fun O c a w hk hs=>by
 obtain⟨c',aK⟩:=h O c a w hk hs
 exact h2 O c' a w hk aK
theorem ao{k0:Nat}{body:(Ex→St→Prop)→St→Prop}{Q:Ex→St→Prop}{s:St}{A:Type}(I:A→Prop)(S:A→St)(μ:A→Nat)(i:A)(hi:I i)
 (h0:aB k0 s (S i)) (h:∀i,I i→body (fun e s'=>match e with| .normal=>∃j:{a//I a},aB k0 s' (S j.1)∧μ j.1<μ i|e=>Q e s') (S i)):xb k0 body Q s:=
 ⟨0,{a:A//I a},fun a=>S a.1,fun a=>μ a.1,⟨i,hi⟩,h0,fun⟨i,hi⟩=>h i hi⟩
end Go.Proofs.YtcogcbplmkcojaaGreatDoor
namespace Go.Proofs.YtcogcbplmkcojaaGreatDoor
open Go.RowKit
set_option linter.unusedVariables false
inductive GF(n:Nat):AV→Prop
 |t (x) (h:iY x=true):GF n (.t x)
 |sl (b g i l) (h:n≤b):GF n (.sl b g i l)
 |agg (cs) (h:∀(i:Nat) x,cs[i]?=some x→GF n x):GF n (.agg cs)
 |aq (cs) (h:∀(i:Nat) x,cs[i]?=some x→GF n x):GF n (.aq cs)
 |bq:GF n .bq
theorem GF.le{n m:Nat}(K7:m≤n){x:AV}(h:GF n x):GF m x:=by
 induction h with
 |t x h=>exact .t x h
 |sl b g i l h=>exact .sl b g i l (by omega)
 |agg cs _ ih=>exact .agg cs ih
 |aq cs _ ih=>exact .aq cs ih
 |bq=>exact .bq
def zN:Ω→Prop
 | .arr _ _ _ _ (.ts l)=>∀x∈l,iY x=true
 |_=>False
theorem F9{n:Nat}{x:AV}(h:IP x):GF n (gA n x).1∧∀b∈(gA n x).2,zN b:=by
 cases x with
 |t x=>exact⟨.t _ h,by simp[gA]⟩
 |own e s z l=>exact⟨.sl _ _ _ _ (Nat.le_refl _),by simp only[gA,List.mem_singleton];rintro b rfl;exact h⟩
 |bq=>exact⟨.bq,by simp[gA]⟩
 |_=>exact h.elim
theorem F5:∀{l:List AV} {n:Nat},Cn l→(∀(i:Nat) x,(gR n l).1[i]?=some x→GF n x)∧∀b∈(gR n l).2,zN b
 |[],n,_=>by simp[gR]
 |a::r,n,h=>by
  obtain⟨h1,h2⟩:=F9 (n:=n) h.1
  obtain⟨h3,h4⟩:=F5 (l:=r) (n:=n+(gA n a).2.length) h.2
  refine⟨fun i x hi=> ?_,fun b hb=> ?_⟩
  ·simp only[gR]at hi
   cases i with
   |zero=>simp at hi;subst hi;exact h1
   |succ i=>simp at hi;exact(h3 i x hi).le (Nat.le_add_right _ _)
  ·simp only[gR,List.mem_append]at hb
   exact hb.elim (h2 b) (h4 b)
theorem F7{n:Nat}{x:AV}(h:IN x):GF n (eI n x).1∧∀b∈(eI n x).2,zN b:=by
 cases x with
 |agg cs=>obtain⟨h1,h2⟩:=F5 (n:=n) (show Cn cs from h);exact⟨.agg _ h1,h2⟩
 |_=>exact F9 h
theorem DJ:∀{l:List AV} {n:Nat},zM l→(∀(i:Nat) x,(dD n l).1[i]?=some x→GF n x)∧∀b∈(dD n l).2,zN b
 |[],n,_=>by simp[dD]
 |a::r,n,h=>by
  obtain⟨h1,h2⟩:=F7 (n:=n) h.1
  obtain⟨h3,h4⟩:=DJ (l:=r) (n:=n+(eI n a).2.length) h.2
  refine⟨fun i x hi=> ?_,fun b hb=> ?_⟩
  ·simp only[dD]at hi
   cases i with
   |zero=>simp at hi;subst hi;exact h1
   |succ i=>simp at hi;exact(h3 i x hi).le (Nat.le_add_right _ _)
  ·simp only[dD,List.mem_append]at hb
   exact hb.elim (h2 b) (h4 b)
theorem DG{n:Nat}{x:AV}(h:Flat x):GF n (imp n x).1∧∀b∈(imp n x).2,zN b:=by
 cases x with
 |aq cs=>obtain⟨h1,h2⟩:=DJ (n:=n) (show zM cs from h);exact⟨.aq _ h1,h2⟩
 |_=>exact F7 h
theorem RA.CL{w:World}{c1 c2:Cx}{H1 H2:AH}{n:Nat}(hH:∀b,n≤b→H1[b]?=H2[b]?)(hG:∀b,n≤b→c1.G b=c2.G b)
 {x:AV} {v:Value} (h:RA w c1 H1 x v) (hx:GF n x):RA w c2 H2 x v:=by
 induction h with
 |t x v h=>cases hx with|t _ hx=>exact .t x v (Om h hx)
 |sl b g i len v π hb hm hv=>
  cases hx with|sl _ _ _ _ hn=>
  refine .sl b g i len v π (by rw[←hH b hn];exact hb) ?_ hv
  cases π with
  |dead=>trivial
  |box=>exact hm
  |iter=>exact hm
  |arr=>rw[←hG b hn];exact hm
 |agg cs vs hl h1 _ ih=>cases hx with|agg _ hx=>exact .agg cs vs hl h1 fun i x v hi hv=>ih i x v hi hv (hx i x hi)
 |aq cs vs hl _ ih=>cases hx with|aq _ hx=>exact .aq cs vs hl fun i x v hi hv=>ih i x v hi hv (hx i x hi)
 |bq v=>exact .bq v
 |_=>cases hx
def IE(H:AH)(args:List AV):Option (List T):=(iu 32 H args).map Prod.fst
theorem γ.jo{P:Program}{f:FuncId}{args:List AV}{ts:List T}{r:AV}{H:AH}{Q:AV→AH→Prop}(h:φ P f ts r)(ha:IE H args=some ts)(hf:Flat r)(k:Q (imp H.length r).1 (H++(imp H.length r).2)):
 γ P f args H Q:=by
 intro B c w vs hs hl hr
 simp only[IE,Option.map_eq_some_iff]at ha
 obtain⟨⟨l,ids⟩,DT,rfl⟩:=ha
 obtain⟨hlen,iU⟩:=mo hs (M':=fun _=>False) (fun _ h=>h.elim) 32 DT (vs:=vs.toList) (by simpa using hl.symm) (fun i x v hi hv=>hr i x v hi (by simpa using hv)) (fun _ _ _ _ h=>h)
 refine(h.2 H.length (fun _=>False) w vs (fun cb h=>h.elim) (by simp only;omega) (fun i t v hi hv=>iU i t v hi (by simpa using hv))).mono fun e w' ⟨v,G,he,dz,hG,db,aK⟩=> ?_
 obtain⟨g1,g2⟩:=DG (n:=H.length) hf
 obtain⟨ev,fp⟩:=join (Hb:=(imp H.length r).2) hs dz hG aK (mP _ _) (fun b e s z g l i x j y v hb hi hj iU=>by
  have:=g2 _ (List.mem_of_getElem? hb) x (List.mem_of_getElem? hi)
  exact uo iU (sM this j y hj))
 refine⟨v,_,_,_,he,?_,fp,ev,dz.mono hs.hB,k⟩
 exact db.CL (n:=H.length) (fun b hb=>mF rfl hb) (fun b hb=>by simp only[if_neg (Nat.not_lt.2 hb)]) g1
theorem φ.calls{P:Program}{f:FuncId}{ts:List T}{b:Bool}(h:φ P f ts (.t (.bool b)))(Gk:E6 P f){w:World}{vs:Array Value}(hl:vs.size=ts.length)
 (hr:∀(i:Nat) t v,ts[i]?=some t→vs[i]?=some v→RT w (fun _=>False) t v):Calls P f vs w fun e w'=>e= .returned (.bool b)∧Below w.heap.size w w':=by
 have key:=h.2 0 (fun _=>False) w vs (fun _ h=>h.elim) hl hr
 have key:=key.mono (Q':=fun e w'=>e= .returned (.bool b)∧Below w.heap.size w w') fun e w' ⟨v,G,he,dz,hG,db,hs⟩=>by
  obtain rfl:=db.bool
  exact⟨he,dz⟩
 rcases key with key|⟨v,w',h1,_⟩
 ·exact key.2
 ·rw[vi Gk]at h1
  cases h1
end Go.Proofs.YtcogcbplmkcojaaGreatDoor
namespace Go.Proofs.YtcogcbplmkcojaaGreatDoor
set_option linter.unusedVariables false
set_option linter.unusedSimpArgs false
def Le(H H':AH):Prop:=∀(b:Nat) π,H[b]?=some π→π= .dead∨H'[b]?=some π
theorem Le.refl(H:AH):Le H H:=fun _ _ h=> .inr h
theorem Le.trans{H H' E5:AH}(h:Le H H')(k:Le H' E5):Le H E5:=fun b π hb=>(h b π hb).elim .inl fun h=>k b π h
theorem Le.append(H X:AH):Le H (H++X):=fun b π hb=> .inr (by rw[List.getElem?_append_left (κ hb)];exact hb)
def d_:List Nat→AH→AH
 |[],H=>H
 |b::r,H=>d_ r (H.set b .dead)
theorem CN{H:AH}{b i:Nat}{π:Ω}(h:H[i]?=some π):(H.set b .dead)[i]?=some (if i=b then .dead else π):=by
 have:=κ h
 by_cases e:b=i
 ·subst e;simp[this]
 ·rw[List.getElem?_set_ne e,h,if_neg (fun h=>e h.symm)]
theorem uK{H:AH}{b i:Nat}{π:Ω}(h:(H.set b .dead)[i]?=some π):π= .dead∨(i≠b∧H[i]?=some π):=by
 by_cases e:b=i
 ·subst e
  have hl:=κ h
  simp only[List.length_set]at hl
  simp[hl]at h
  exact .inl h.symm
 ·rw[List.getElem?_set_ne e]at h
  exact .inr ⟨fun h=>e h.symm,h⟩
theorem Le.N8(H:AH)(b:Nat):Le (H.set b .dead) H:=fun _ _ h=>(uK h).imp id (·.2)
theorem Le.d_:∀(D:List Nat) (H:AH),Le (d_ D H) H
 |[],H=> .refl H
 |b::r,H=>(Le.d_ r (H.set b .dead)).trans (.N8 H b)
def χ(D:List Nat)(H H':AH):Prop:=Le (Go.Proofs.YtcogcbplmkcojaaGreatDoor.d_ D H) H'
theorem uj:∀(D:List Nat) {H:AH} {i:Nat} {π:Ω},H[i]?=some π→(d_ D H)[i]?=some (if i∈D then .dead else π)
 |[],H,i,π,h=>by simpa[d_]using h
 |b::r,H,i,π,h=>by
  simp only[d_]
  rw[uj r (CN h)]
  by_cases e:i=b
  ·subst e;simp
  ·simp[e]
theorem gY:∀(D:List Nat) {H:AH} {i:Nat} {π:Ω},(d_ D H)[i]?=some π→π= .dead∨(i∉D∧H[i]?=some π)
 |[],H,i,π,h=> .inr ⟨by simp,h⟩
 |b::r,H,i,π,h=>by
  simp only[d_]at h
  rcases gY r h with h|⟨h1,h2⟩
  ·exact .inl h
  ·rcases uK h2 with h3|⟨h3,h4⟩
   ·exact .inl h3
   ·exact .inr ⟨by simp[h1,h3],h4⟩
theorem χ.le{D:List Nat}{H H':AH}(h:χ D H H'):Le (Go.Proofs.YtcogcbplmkcojaaGreatDoor.d_ D H) (Go.Proofs.YtcogcbplmkcojaaGreatDoor.d_ D H'):=fun b π hb=>by
 rcases gY D hb with e|⟨hn,_⟩
 ·exact .inl e
 ·rcases h b π hb with e|e
  ·exact .inl e
  ·have:=uj D e
   rw[if_neg hn]at this
   exact .inr this
theorem χ.refl(D:List Nat)(H:AH):χ D H H:= .d_ D H
theorem χ.of{D:List Nat}{H H':AH}(h:Le H H'):χ D H H':=(Le.d_ D H).trans h
theorem χ.append(D:List Nat)(H X:AH):χ D H (H++X):= .of (.append H X)
theorem χ.set{D:List Nat}{H:AH}{b:Nat}(π:Ω)(hb:b∈D):χ D H (H.set b π):=fun i bk h=>by
 rcases gY D h with e|⟨hn,h⟩
 ·exact .inl e
 ·exact .inr (by rw[List.getElem?_set_ne (fun e=>hn (by rw[←e];exact hb))];exact h)
def My(tab:bi)(t:TypeId)(x:AV)(K:AV→Prop):Prop:=
 a7 (tab t) fun y=>Ck (match y.d with| .interface _=>false|_=>true)
  (match x with| .t v=>K (.t (.cG t v))|v=>K (.cG t v))
def lW(tab:bi)(o:Oper)(env:List (Nat×AV))(H:AH)(K:AV→Prop):Prop:=
 match o.op with
 | .move x=>K (aO env x)
 | .pick c a b=>wB (aO env c) (aO env a) (aO env b) K
 | .build t parts=>sS tab t (parts.toList.map fun p=>(p.1,aO env p.2)) K
 | .load t a=>oR tab t H (aO env a) K
 | .nilCheck x=>iJ H (aO env x) K
 | .binOp op t x y _=>tB tab op t H (aO env x) (aO env y) (isConst y) fun v=>K (.t v)
 | .unOp op _ x=>FH tab.stop op (aO env x) fun v=>K (.t v)
 | .convert s d x=>jH tab s d (aO env x) H K
 | .slice t x lo hi mx=>mX tab t H (aO env x) (lo.map (aO env)) (hi.map (aO env)) (mx.map (aO env)) K
 | .fieldAddr t x k=>gL tab t H (aO env x) k K
 | .field t x k=>sR tab t (aO env x) k K
 | .indexAddr t x i=>gJ tab t H (aO env x) (aO env i) K
 | .index t x i=>sQ tab t (aO env x) (aO env i) K
 | .extract x i=>oh (aO env x) i K
 | .makeInterface t x=>My tab t (aO env x) K
 | .makeFunc f first captured=>K (.fn f (first.toList.map (aO env)) (captured.toList.map (aO env)))
 | .call c=>
  (match c.callee with
  | .builtin b=>
   (match b,c.argTypes.toList,c.args.toList with
   | .len,[t],[x]=>tA tab t H (aO env x) K
   | .min,_,[x,y]=>mI false (aO env x) (aO env y) K
   | .max,_,[x,y]=>mI true (aO env x) (aO env y) K
   |_,_,_=>False)
  |_=>False)
 |_=>False
theorem Mt{tab:bi}{call:kB}{o:Oper}{env:List (Nat×AV)}{H:AH}{K:AV→AH→Prop}(h:lW tab o env H fun v=>K v H):rR tab call o env H K:=by
 unfold lW at h
 unfold rR
 generalize o.op=p at h⊢
 cases p<;>first|exact h|exact h.elim|skip
 rename_i c
 simp only at h⊢
 unfold yp
 generalize c.callee=cc at h⊢
 cases cc<;>first|exact h.elim|skip
 rename_i b
 simp only at h⊢
 split at h
 ·rename_i h1 h2;simp only[h1,h2];exact h
 ·rename_i h2;simp only[h2];exact h
 ·rename_i h2;simp only[h2];exact h
 ·exact h.elim
section
variable {tab : bi} {H H' : AH}
theorem QR(hl:Le H H'){x:AV}{n:Nat}(h:uf H x=some n):uf H' x=some n:=by
 cases x<;>first|exact h|skip
 ·rename_i m;cases m<;>exact h
 rename_i b g i m
 cases hb:H[b]?with
 |none=>simp[uf,hb]at h
 |some π=>
  rcases hl b π hb with e|this
  ·subst e;simp[uf,hb,ar]at h
  ·simp only[uf,hb,this]at h⊢;exact h
theorem NR(hl:Le H H'){x:AV}{n:Bool}(h:isNil H x=some n):isNil H' x=some n:=by
 cases x<;>first|exact h|skip
 ·rename_i m;cases m<;>exact h
 all_goals
  rename_i b g i m
  cases hb:H[b]?with
  |none=>simp[isNil,hb]at h
  |some π=>
   rcases hl b π hb with e|this
   ·subst e;simp[isNil,hb,ar]at h
   ·simp only[isNil,hb,this]at h⊢;exact h
theorem Mx(hl:Le H H'){ty:TypeId}{a:AV}{K:AV→Prop}(h:oR tab ty H a K):oR tab ty H' a K:=by
 unfold oR at h⊢
 rw[Ξ]at h⊢
 obtain⟨y,hy,h⟩:=h
 refine⟨y,hy,?_⟩
 cases a<;>first|exact h|exact h.elim|skip
 ·rename_i m;cases m<;>first|exact h|exact h.elim
 rename_i b g i m
 cases hb:H[b]?with
 |none=>simp[hb]at h
 |some π=>
  rcases hl b π hb with e|this
  ·subst e;simp[hb,ar]at h
  ·simp only[hb,this]at h⊢;exact h
theorem Cu(hl:Le H H'){a:AV}{K:AV→Prop}(h:iJ H a K):iJ H' a K:=by
 cases a<;>first|exact h|exact h.elim|skip
 ·rename_i m;cases m<;>first|exact h|exact h.elim|skip
  rename_i f _ _;cases f<;>first|exact h|exact h.elim
 ·rename_i b g i m
  unfold iJ at h⊢
  cases hb:H[b]?with
  |none=>simp[hb]at h
  |some π=>
   rcases hl b π hb with e|this
   ·subst e;simp[hb,ar]at h
   ·simp only[hb,this]at h⊢;exact h
 ·rename_i f _ _;cases f<;>first|exact h|exact h.elim
theorem Qb(hl:Le H H'){ty:TypeId}{a:AV}{K:AV→Prop}(h:tA tab ty H a K):tA tab ty H' a K:=by
 unfold tA at h⊢
 rw[Ξ]at h⊢
 obtain⟨y,hy,h⟩:=h
 refine⟨y,hy,?_⟩
 split at h
 ·exact h
 ·rw[ar,Ξ]at h⊢
  obtain⟨h1,n,h2,h3⟩:=h
  exact⟨h1,n,QR hl h2,h3⟩
theorem B7(hl:Le H H'){ty:TypeId}{a:AV}{k:Nat}{K:AV→Prop}(h:gL tab ty H a k K):gL tab ty H' a k K:=by
 unfold gL at h⊢
 simp only[Ξ,ar]at h⊢
 obtain⟨y,hy,f,hf,z,hz,hk,h⟩:=h
 refine⟨y,hy,f,hf,z,hz,hk,?_⟩
 cases a<;>first|exact h|exact h.elim|skip
 ·rename_i m;cases m<;>first|exact h|exact h.elim
 rename_i b g i m
 cases hb:H[b]?with
 |none=>simp[hb]at h
 |some π=>
  rcases hl b π hb with e|this
  ·subst e;simp[hb,ar]at h
  ·simp only[hb,this]at h⊢;exact h
theorem B5(hl:Le H H'){ty:TypeId}{a ix:AV}{K:AV→Prop}(h:gJ tab ty H a ix K):gJ tab ty H' a ix K:=by
 unfold gJ at h⊢
 rw[Ξ]at h⊢
 obtain⟨y,hy,h⟩:=h
 refine⟨y,hy,?_⟩
 split at h
 ·rename_i k i
  cases hd:y.d<;>rw[hd]at h<;>first|exact h.elim|skip
  all_goals cases a<;>first|exact h|exact h.elim|skip
  all_goals try (rename_i m;cases m<;>first|exact h|exact h.elim;done)
  all_goals
   rename_i b g i m
   simp only[Ξ]at h⊢
   obtain⟨z,hz,h⟩:=h
   refine⟨z,hz,?_⟩
   cases hb:H[b]?with
   |none=>simp[hb,ar]at h
   |some π=>
    rcases hl b π hb with e|this
    ·subst e;simp[hb,ar]at h
    ·simp only[hb,this]at h⊢;exact h
 ·exact h.elim
theorem IZ(hl:Le H H'){ty:TypeId}{a:AV}{lo hi mx:Option AV}{K:AV→Prop}(h:mX tab ty H a lo hi mx K):mX tab ty H' a lo hi mx K:=by
 unfold mX at h⊢
 rw[Ξ]at h⊢
 obtain⟨y,hy,h⟩:=h
 refine⟨y,hy,?_⟩
 split at h
 ·split at h
  ·rw[Ξ]at h⊢
   obtain⟨z,hz,h⟩:=h
   refine⟨z,hz,?_⟩
   cases a<;>first|exact h|exact h.elim|skip
   ·rename_i m;cases m<;>first|exact h|exact h.elim
   rename_i b g i m
   cases hb:H[b]?with
   |none=>simp[hb]at h
   |some π=>
    rcases hl b π hb with e|this
    ·subst e;simp[hb,ar]at h
    ·simp only[hb,this]at h⊢;exact h
  ·exact h.elim
 ·split at h<;>first|exact h|exact h.elim|skip
  rename_i b g i m _
  simp only[Ξ]at h⊢
  obtain⟨z,hz,h⟩:=h
  refine⟨z,hz,?_⟩
  cases hb:H[b]?with
  |none=>simp[hb]at h
  |some π=>
   rcases hl b π hb with e|this
   ·subst e;simp[hb,ar]at h
   ·simp only[hb,this]at h⊢;exact h
theorem I5(hl:Le H H'){ty:TypeId}{x y:AV}{yc:Bool}{K:Bool→Prop}(h:u6 tab ty H x y yc K):u6 tab ty H' x y yc K:=by
 unfold u6 at h⊢
 rw[Ξ]at h⊢
 obtain⟨i,hi,h⟩:=h
 refine⟨i,hi,?_⟩
 split at h
 ·exact h
 ·exact h
 ·simp only[ar,Ξ]at h⊢
  obtain⟨h1,n,h2,h3⟩:=h
  exact⟨h1,n,NR hl h2,h3⟩
theorem Qg(hl:Le H H'){op:BinOp}{ty:TypeId}{x y:AV}{yc:Bool}{K:T→Prop}(h:tB tab op ty H x y yc K):tB tab op ty H' x y yc K:=by
 unfold tB at h⊢
 split at h
 ·exact h
 ·exact h
 ·split at h
  ·exact I5 hl h
  ·exact I5 hl h
  ·exact h.elim
theorem Fc(hl:Le H H'){s d:TypeId}{x:AV}{K:AV→Prop}(h:jH tab s d x H K):jH tab s d x H' K:=by
 unfold jH at h⊢
 simp only[Ξ]at h⊢
 obtain⟨y,hy,z,hz,h⟩:=h
 refine⟨y,hy,z,hz,?_⟩
 split at h<;>first|exact h|exact h.elim|skip
 rename_i b g i n _
 split at h<;>first|exact h.elim|skip
 obtain⟨q,hq,h⟩:=h
 refine⟨q,hq,?_⟩
 split at h<;>first|exact h.elim|skip
 cases hb:H[b]?with
 |none=>simp[hb]at h
 |some π=>
  rcases hl b π hb with e|this
  ·subst e;simp[hb,ar]at h
  ·simp only[hb,this]at h⊢;exact h
theorem pz{env env':List (Nat×AV)}:∀{ps:List (Nat×Operand)},(∀x∈ps.map (·.2),aO env x=aO env' x)→ps.map (fun p=>(p.1,aO env p.2))=ps.map fun p=>(p.1,aO env' p.2)
 |[],_=>rfl
 |p::r,h=>by
  simp only[List.map_cons,List.mem_cons,forall_eq_or_imp]at h⊢
  rw[h.1,pz h.2]
theorem qN{env env':List (Nat×AV)}{o:Option Operand}(h:∀x∈o.toList,aO env x=aO env' x):o.map (aO env)=o.map (aO env'):=by
 cases o with
 |none=>rfl
 |some x=>simp at h;simp[h]
theorem tz(hl:Le H H'){o:Oper}{env env':List (Nat×AV)}{K:AV→Prop}(he:∀x∈o.op.operands.toList,aO env x=aO env' x)(h:lW tab o env H K):lW tab o env' H' K:=by
 unfold lW at h⊢
 generalize o.op=p at h he⊢
 cases p<;>simp only at h⊢<;>first|exact h.elim|skip
 case move x=>rw[←he x (by simp[Op.operands])];exact h
 case pick c a b=>rw[←he c (by simp[Op.operands]),←he a (by simp[Op.operands]),←he b (by simp[Op.operands])];exact h
 case build t ps=>rw[←pz (env:=env) (fun x hx=>he x (by simpa[Op.operands]using hx))];exact h
 case load t a=>rw[←he a (by simp[Op.operands])];exact Mx hl h
 case nilCheck x=>rw[←he x (by simp[Op.operands])];exact Cu hl h
 case binOp op t x y t2=>rw[←he x (by simp[Op.operands]),←he y (by simp[Op.operands])];exact Qg hl h
 case unOp op t x=>rw[←he x (by simp[Op.operands])];exact h
 case convert t u x=>rw[←he x (by simp[Op.operands])];exact Fc hl h
 case slice t x lo hi mx=>
  rw[←he x (by simp[Op.operands]),←qN (env:=env) (o:=lo) (fun x hx=>he x (by simp[Op.operands]at hx⊢;simp[hx])),←qN (env:=env) (o:=hi) (fun x hx=>he x (by simp[Op.operands]at hx⊢;simp[hx])),
   ←qN (env:=env) (o:=mx) (fun x hx=>he x (by simp[Op.operands]at hx⊢;simp[hx]))]
  exact IZ hl h
 case fieldAddr t x k=>rw[←he x (by simp[Op.operands])];exact B7 hl h
 case field t x k=>rw[←he x (by simp[Op.operands])];exact h
 case indexAddr t x i=>rw[←he x (by simp[Op.operands]),←he i (by simp[Op.operands])];exact B5 hl h
 case index t x i=>rw[←he x (by simp[Op.operands]),←he i (by simp[Op.operands])];exact h
 case extract x i=>rw[←he x (by simp[Op.operands])];exact h
 case makeInterface t x=>rw[←he x (by simp[Op.operands])];exact h
 case makeFunc f a b=>
  have e1:a.toList.map (aO env)=a.toList.map (aO env'):=List.map_congr_left fun x hx=>he x (by simp[Op.operands]at hx⊢;simp[hx])
  have e2:b.toList.map (aO env)=b.toList.map (aO env'):=List.map_congr_left fun x hx=>he x (by simp[Op.operands]at hx⊢;simp[hx])
  rw[←e1,←e2];exact h
 case call c=>
  generalize hc:c.callee=cc at h⊢
  cases cc<;>simp only at h⊢<;>first|exact h.elim|skip
  rename_i b
  have ha:∀x∈c.args.toList,aO env x=aO env' x:=fun x hx=>he x (by simp[Op.operands,Call.operands,hc]at hx⊢;simp[hx])
  split at h
  ·rename_i h1 h2
   try simp only[h1,h2]
   rw[←ha _ (by rw[h2];simp)]
   exact Qb hl h
  ·rename_i h2
   try simp only[h2]
   rw[←ha _ (by rw[h2];simp),←ha _ (by rw[h2];simp)]
   exact h
  ·rename_i h2
   try simp only[h2]
   rw[←ha _ (by rw[h2];simp),←ha _ (by rw[h2];simp)]
   exact h
  ·exact h.elim
end
end Go.Proofs.YtcogcbplmkcojaaGreatDoor
namespace Go.Proofs.YtcogcbplmkcojaaGreatDoor
set_option linter.unusedVariables false
set_option linter.unusedSimpArgs false
structure eV{α:Type}(f:(α→Prop)→Prop):Prop where
 mono:∀{K K':α→Prop},(∀a,K a→K' a)→f K→f K'
 ex:∀{K:α→Prop},f K→∃a,f (fun x=>x=a)∧K a
section
variable {α β : Type}
theorem bP(x:α):eV fun K=>K x:=⟨fun h k=>h _ k,fun h=>⟨x,rfl,h⟩⟩
theorem ap:eV fun K:α→Prop=>False:=⟨fun _ h=>h,fun h=>h.elim⟩
theorem eB{c:Bool}{f:(α→Prop)→Prop}(h:eV f):eV fun K=>Ck c (f K):=by
 cases c
 ·exact ap
 ·exact h
theorem T2{c:Bool}{f g:(α→Prop)→Prop}(h:eV f)(k:eV g):eV fun K=>Br c (f K) (g K):=by
 cases c
 ·exact k
 ·exact h
theorem b7{o:Option β}{f:β→(α→Prop)→Prop}(h:∀a,eV (f a)):eV fun K=>a7 o fun a=>f a K:=by
 cases o
 ·exact ap
 ·exact h _
theorem UP{p:Prop}{f:(α→Prop)→Prop}(h:eV f):eV fun K=>p∧f K:=
 ⟨fun hk k=>⟨k.1,h.mono hk k.2⟩,fun k=>by obtain⟨a,h1,h2⟩:=h.ex k.2;exact⟨a,⟨k.1,h1⟩,h2⟩⟩
theorem tr{f:(β→Prop)→Prop}{g:β→(α→Prop)→Prop}(h:eV f)(k:∀b,eV (g b)):eV fun K=>f fun b=>g b K:=
 ⟨fun hk q=>h.mono (fun b r=>(k b).mono hk r) q,fun q=>by
  obtain⟨b,h1,h2⟩:=h.ex q
  obtain⟨a,h3,h4⟩:=(k b).ex h2
  exact⟨a,h.mono (fun x e=>by subst e;exact h3) h1,h4⟩⟩
theorem pj{f:(β→Prop)→Prop}(g:β→α)(h:eV f):eV fun K=>f fun b=>K (g b):=tr h fun b=>bP (g b)
theorem AG{l:List T}{g:List UInt8→α}:eV fun K=>∃bs:List UInt8,l=bs.map (fun b=>T.int .u8 (b.toNat:Int))∧K (g bs):=
 ⟨fun hk ⟨bs,h1,h2⟩=>⟨bs,h1,hk _ h2⟩,fun⟨bs,h1,h2⟩=>⟨g bs,⟨bs,h1,rfl⟩,h2⟩⟩
end
section
variable {tab : bi} {H : AH}
theorem wU{y:il}{cells:List T}{o:Nat}:eV (oZ y cells o):=by
 unfold oZ
 cases y.isAgg
 ·exact b7 fun a=>bP a
 ·exact eB (bP _)
theorem wV{y:il}{cells:List AV}{o:Nat}:eV (o_ y cells o):=by
 unfold o_
 cases y.isAgg
 ·exact b7 fun a=>bP a
 ·exact eB (bP _)
theorem T1{ty:TypeId}{a:AV}:eV (oR tab ty H a):=by
 unfold oR
 refine b7 fun y=> ?_
 cases a<;>first|exact ap|skip
 ·rename_i m;cases m<;>first|exact ap|exact pj _ wU
 ·rename_i b g i o
  simp only
  cases H[b]?with
  |none=>exact ap
  |some π=>
   cases π
   ·exact ap
   ·exact wV
   ·rename_i l
    cases l
    ·exact eB (b7 fun e=>pj _ wU)
    ·exact eB (b7 fun e=>wV)
   ·exact ap
theorem TZ{c a b:AV}:eV (wB c a b):=by
 unfold wB
 cases c<;>first|exact ap|skip
 rename_i m;cases m<;>first|exact ap|skip
 rename_i c
 simp only
 split
 ·exact bP _
 ·exact T2 (bP _) (bP _)
theorem EJ{place:Nat→Option (Nat×Nat)}:∀{parts:List (Nat×AV)} {cells:List AV},eV (wC place cells parts)
 |[],cells=>bP _
 |(k,v)::r,cells=>b7 fun p=>eB (EJ (parts:=r))
theorem Rf{ty:TypeId}{parts:List (Nat×AV)}:eV (sS tab ty parts):=by
 unfold sS
 refine b7 fun y=>b7 fun zs=>eB ?_
 cases y.d<;>first|exact ap|skip
 ·exact b7 fun z=>EJ
 ·exact eB EJ
theorem Iy{x:AV}:eV (iJ H x):=by
 unfold iJ
 cases x<;>first|exact ap|skip
 ·rename_i m;cases m<;>first|exact ap|exact bP _|skip
  rename_i f _ _;cases f<;>first|exact ap|exact bP _
 ·rename_i b g i o
  simp only
  cases H[b]?with
  |none=>exact ap
  |some π=>
   cases π
   ·exact ap
   ·exact bP _
   ·exact eB (bP _)
   ·exact ap
 ·rename_i f _ _;cases f<;>first|exact ap|exact bP _
theorem UM{st:Bool}{op:BinOp}{k k':IntKind}{a b:Int}:eV (Cw st op k a k' b):=by
 unfold Cw
 cases op<;>first|exact eB (bP _)|exact eB (b7 fun n=>bP _)|exact eB (eB (b7 fun n=>bP _))
theorem UK{op:BinOp}{a b:List UInt8}:eV (Cp op a b):=by
 unfold Cp
 cases op<;>first|exact ap|exact bP _|exact eB (bP _)
theorem Ws{ty:TypeId}{x y:AV}{yc:Bool}:eV (u6 tab ty H x y yc):=by
 unfold u6
 refine b7 fun i=> ?_
 have other:∀c o,eV fun K:Bool→Prop=>Ck c (a7 o K):=fun c o=>eB (b7 fun a=>bP a)
 cases x<;>first|exact other _ _|skip
 rename_i x
 cases x<;>first|exact other _ _|skip
 ·cases y<;>first|exact other _ _|skip
  rename_i y;cases y<;>first|exact other _ _|exact eB (bP _)
 ·cases y<;>first|exact other _ _|skip
  rename_i y;cases y<;>first|exact other _ _|skip
  simp only
  cases i.d<;>first|exact ap|exact UP (b7 fun a=>bP a)
theorem UO{op:BinOp}{ty:TypeId}{x y:AV}{yc:Bool}:eV (tB tab op ty H x y yc):=by
 unfold tB
 have other:eV fun K:T→Prop=>(match op with
  | .eql=>u6 tab ty H (jL x) (jL y) yc fun b=>K (.bool b)
  | .neq=>u6 tab ty H (jL x) (jL y) yc fun b=>K (.bool (!b))
  |_=>False):=by
  cases op<;>first|exact ap|exact pj _ Ws
 cases x<;>first|exact other|skip
 rename_i x
 cases x<;>first|exact other|skip
 ·cases y<;>first|exact other|skip
  rename_i y;cases y<;>first|exact other|exact UM
 ·cases y<;>first|exact other|skip
  rename_i y;cases y<;>first|exact other|exact UK
theorem Wr{st:Bool}{op:UnOp}{x:AV}:eV (FH st op x):=by
 unfold FH
 cases op<;>cases x<;>first|exact ap|skip
 all_goals rename_i x;cases x<;>first|exact ap|exact bP _|exact b7 fun n=>bP _
theorem Re{ty:TypeId}{a:AV}{k:Nat}:eV (sR tab ty a k):=by
 unfold sR
 refine b7 fun y=>b7 fun f=>b7 fun z=> ?_
 cases a<;>first|exact ap|exact wV|skip
 rename_i m;cases m<;>first|exact ap|exact pj _ wU
theorem Fz{ty:TypeId}{a:AV}{k:Nat}:eV (gL tab ty H a k):=by
 unfold gL
 refine b7 fun y=>b7 fun f=>b7 fun z=>eB ?_
 cases a<;>first|exact ap|skip
 ·rename_i m;cases m<;>first|exact ap|exact bP _
 ·rename_i b g i o
  simp only
  cases H[b]?with
  |none=>exact ap
  |some π=>
   cases π
   ·exact ap
   ·exact bP _
   ·exact eB (bP _)
   ·exact ap
theorem Fy{ty:TypeId}{a ix:AV}:eV (gJ tab ty H a ix):=by
 unfold gJ
 refine b7 fun y=> ?_
 cases ix<;>first|exact ap|skip
 rename_i ix;cases ix<;>first|exact ap|skip
 simp only
 cases y.d<;>cases a<;>first|exact ap|skip
 ·rename_i m;cases m<;>first|exact ap|exact b7 fun z=>eB (b7 fun x=>bP _)
 ·rename_i b g i o
  refine b7 fun z=> ?_
  cases H[b]?with
  |none=>exact ap
  |some π=>cases π<;>first|exact ap|exact eB (bP _)
 ·rename_i m;cases m<;>first|exact ap|exact b7 fun z=>eB (bP _)
 ·rename_i b g i o
  refine b7 fun z=>eB ?_
  cases H[b]?with
  |none=>exact ap
  |some π=>cases π<;>first|exact ap|exact bP _|exact eB (bP _)
theorem Rd{ty:TypeId}{a ix:AV}:eV (sQ tab ty a ix):=by
 unfold sQ
 refine b7 fun y=> ?_
 cases ix<;>first|exact ap|skip
 rename_i ix;cases ix<;>first|exact ap|skip
 simp only
 cases y.d<;>cases a<;>first|exact ap|exact b7 fun z=>eB wV|skip
 all_goals rename_i m;cases m<;>first|exact ap|exact eB (b7 fun x=>bP _)|exact b7 fun z=>eB (pj _ wU)
theorem mU{v:Option AV}{Oy oD:Nat}:eV (f_ v Oy oD):=by
 unfold f_
 cases v with
 |none=>exact bP _
 |some v=>
  cases v<;>first|exact ap|skip
  rename_i m;cases m<;>first|exact ap|exact eB (bP _)
theorem Rc{ty:TypeId}{a:AV}{lo hi mx:Option AV}:eV (mX tab ty H a lo hi mx):=by
 unfold mX
 refine b7 fun y=> ?_
 cases mx with
 |none=>
  simp only
  cases y.d<;>cases a<;>first|exact ap|skip
  ·rename_i m;cases m<;>first|exact ap|exact tr mU fun h=>pj _ mU
  ·rename_i m;cases m<;>first|exact ap|exact b7 fun z=>eB (tr mU fun h=>pj _ mU)|exact b7 fun z=>tr mU fun h=>tr mU fun _=>bP _
  ·rename_i b g i o
   refine b7 fun z=> ?_
   cases H[b]?with
   |none=>exact ap
   |some π=>cases π<;>first|exact ap|exact eB (tr mU fun h=>pj _ mU)
 |some m=>
  simp only
  split
  ·refine b7 fun z=> ?_
   cases a<;>first|exact ap|exact bP _|skip
   ·rename_i m;cases m<;>first|exact ap|exact bP _
   ·rename_i b g i o
    simp only
    cases H[b]?with
    |none=>exact ap
    |some π=>cases π<;>first|exact ap|exact eB (T2 (bP _) (bP _))
  ·exact ap
theorem L6{s d:TypeId}{x:AV}:eV (jH tab s d x H):=by
 unfold jH
 refine b7 fun y=>b7 fun w=> ?_
 cases y.d<;>cases x<;>first|exact ap|skip
 ·rename_i m;cases m<;>first|exact ap|exact b7 fun n=>bP _
 ·rename_i m;cases m<;>first|exact ap|exact bP _|skip
  ·simp only
   cases w.d<;>first|exact ap|skip
   refine b7 fun z=> ?_
   cases z.d<;>first|exact ap|skip
   rename_i k;cases k<;>first|exact ap|exact bP _
  ·simp only
   cases w.d<;>first|exact ap|skip
   refine b7 fun z=> ?_
   cases z.d<;>first|exact ap|skip
   rename_i k;cases k<;>first|exact ap|exact eB AG
  ·simp only
   cases w.d<;>first|exact ap|skip
   refine b7 fun z=> ?_
   cases z.d<;>first|exact ap|skip
   rename_i k;cases k<;>first|exact ap|exact eB AG
 ·rename_i b g i o
  simp only
  cases w.d<;>first|exact ap|skip
  refine b7 fun z=> ?_
  cases z.d<;>first|exact ap|skip
  rename_i k;cases k<;>first|exact ap|skip
  simp only
  cases H[b]?with
  |none=>exact ap
  |some π=>
   cases π<;>first|exact ap|skip
   rename_i l;cases l<;>first|exact ap|exact eB AG
theorem UL{ty:TypeId}{x:AV}:eV (tA tab ty H x):=by
 unfold tA
 refine b7 fun y=> ?_
 have other:∀c o,eV fun K:AV→Prop=>Ck c (a7 o fun n:Nat=>K (.t (.int .i64 n))):=fun c o=>eB (b7 fun a=>bP _)
 cases hd:y.d<;>first|exact bP _|exact other _ _
theorem EI{mx:Bool}{x y:AV}:eV (mI mx x y):=by
 unfold mI
 cases x<;>first|exact ap|skip
 rename_i x;cases x<;>first|exact ap|skip
 cases y<;>first|exact ap|skip
 rename_i y;cases y<;>first|exact ap|exact eB (bP _)
theorem L5{x:AV}{i:Nat}:eV (oh x i):=by
 unfold oh
 cases x<;>first|exact ap|exact b7 fun a=>bP a
theorem UN{t:TypeId}{x:AV}:eV (My tab t x):=by
 unfold My
 refine b7 fun y=>eB ?_
 cases x<;>exact bP _
theorem L4{o:Oper}{env:List (Nat×AV)}:eV (lW tab o env H):=by
 unfold lW
 cases o.op<;>first|exact ap|exact bP _|exact TZ|exact Rf|exact T1|exact Iy|exact pj _ UO|exact pj _ Wr|exact L6|exact Rc|exact Fz|exact Re|exact Fy|exact Rd|exact L5|exact UN|skip
 rename_i c
 simp only
 cases c.callee<;>first|exact ap|skip
 simp only
 split
 ·exact UL
 ·exact EI
 ·exact EI
 ·exact ap
end
end Go.Proofs.YtcogcbplmkcojaaGreatDoor
namespace Go.Proofs.YtcogcbplmkcojaaGreatDoor
open Go.RowKit
set_option linter.unusedVariables false
set_option linter.unusedSimpArgs false
def CQ:Operand→Operand→Bool
 | .tmp a,.tmp b=>Nat.beq a b
 |_,_=>false
def je(o:Oper):Bool:=
 match o.op with
 | .alloc _=>true
 | .box _ _=>true
 | .buildSlice _ _ _=>true
 | .makeSlice _ l c=>CQ l c
 |_=>false
def oQ(tab:bi)(o:Oper)(env:List (Nat×AV))(K:(Nat→AV)→Ω→Prop):Prop:=
 match o.op with
 | .alloc e=>a7 (tab e) fun y=>a7 y.zero fun zs=>Ck (zs.all T.one&&Nat.beq zs.length y.size)
  (match Nat.ble 300 y.size with|true=>K (fun n=> .ptr n 0 0 0) (.arr e y.size false 0 (.ts [.agg zs]))|false=>K (fun n=> .ptr n 0 0 0) (.box (zs.map .t)))
 | .box e x=>Ck ((aO env x).cells.all AV.one) (K (fun n=> .ptr n 0 0 0) (.box (aO env x).cells))
 | .buildSlice t len parts=>a7 (tab t) fun y=>
  match y.d with
  | .slice e=>a7 (tab e) fun z=>a7 (ph z.size 0 (parts.toList.map fun p=>(p.1,aO env p.2))) fun l=>
   Ck (Nat.beq l.length len&&Nat.ble 1 z.size&&Nat.ble (len*z.size) 16777216&&z.zero.isSome) (K (fun n=> .sl n 0 0 len) (.arr e z.size false 0 (oT l)))
  |_=>False
 | .makeSlice t l c=>a7 (tab t) fun y=>
  match y.d,aO env l,aO env c with
  | .slice e,.t (.int _ n),.t (.int _ cc)=>a7 (tab e) fun z=>a7 z.zero fun zs=>
   Ck (decide (0≤n)&&decide (n≤cc)&&decide (cc*(z.bytes:Int)≤140737488355328)&&decide (cc≤9223372036854775807)&&Nat.ble 1 z.size&&Nat.beq zs.length z.size&&zs.all T.one)
    (Ck (decide (n=cc)) (K (fun m=> .sl m 0 0 n.toNat) (.arr e z.size false 0 (.ts (List.replicate n.toNat (ep z.size zs))))))
  |_,_,_=>False
 |_=>False
theorem Mv{tab:bi}{call:kB}{o:Oper}{env:List (Nat×AV)}{H:AH}{K:AV→AH→Prop}(hm:je o=true)(h:rR tab call o env H K):
 ∃mk π,oQ tab o env (fun m b=>m=mk∧b=π)∧K (mk H.length) (H++[π]):=by
 unfold rR at h
 unfold oQ
 unfold je at hm
 generalize o.op=p at h hm⊢
 cases p<;>simp only at hm h⊢<;>first|(cases hm;done)|skip
 ·simp only[Ξ,ar]at h⊢
  obtain⟨y,hy,zs,hz,hc,k⟩:=h
  split at k
  ·next hb=>exact⟨_,_,⟨y,hy,zs,hz,hc,by rw[hb];exact⟨rfl,rfl⟩⟩,k⟩
  ·next hb=>exact⟨_,_,⟨y,hy,zs,hz,hc,by rw[hb];exact⟨rfl,rfl⟩⟩,k⟩
 ·simp only[ar]at h⊢
  exact⟨_,_,⟨h.1,rfl,rfl⟩,h.2⟩
 ·unfold oS at h
  rw[Ξ]at h
  obtain⟨y,hy,h⟩:=h
  split at h
  ·rename_i e he
   simp only[Ξ,ar]at h⊢
   obtain⟨z,hz,l,hl,hc,k⟩:=h
   refine⟨fun n=> .sl n 0 0 _,_,⟨y,hy,?_⟩,k⟩
   rw[he]
   simp only[Ξ,ar]
   exact⟨z,hz,l,hl,hc,trivial,rfl⟩
  ·exact h.elim
 ·rename_i t l cp
  unfold qx at h
  have SR:aO env cp=aO env l:=by
   cases l<;>cases cp<;>simp only[CQ]at hm<;>first|(cases hm;done)|skip
   rw[Nat.eq_of_beq_eq_true hm]
  rw[SR]at h⊢
  rw[Ξ]at h
  obtain⟨y,hy,h⟩:=h
  generalize hv:aO env l=v at h⊢
  split at h
  ·rename_i e k1 n k2 c2 he h2
   cases h2
   simp only[Ξ,ar]at h
   obtain⟨z,hz,zs,qo,hc,k⟩:=h
   rw[lT]at k
   rcases k with⟨k0,_⟩|⟨_,k⟩
   ·simp at k0
   refine⟨fun m=> .sl m 0 0 n.toNat,_,Ξ.2 ⟨y,hy,?_⟩,k⟩
   rw[he]
   simp only[Ξ,ar]
   exact⟨z,hz,zs,qo,hc,by simp,trivial,rfl⟩
  ·exact h.elim
theorem u5{tab:bi}{o:Oper}{env env':List (Nat×AV)}{K:(Nat→AV)→Ω→Prop}(he:∀x∈o.op.operands.toList,aO env x=aO env' x)(h:oQ tab o env K):oQ tab o env' K:=by
 unfold oQ at h⊢
 generalize o.op=p at h he⊢
 cases p<;>simp only at h⊢<;>first|exact h|skip
 case box t x=>rw[←he x (by simp[Op.operands])];exact h
 case buildSlice t n ps=>rw[←pz (env:=env) (fun x hx=>he x (by simpa[Op.operands]using hx))];exact h
 case makeSlice t a b=>rw[←he a (by simp[Op.operands]),←he b (by simp[Op.operands])];exact h
inductive zO(w:World)(c:Cx)(H:AH):(Nat→AV)→Ω→Value→Obj→Prop
 |box (cells:List AV) (arr:Array Value) (e:TypeId) (hl:arr.size=cells.length)
  (hc:∀(j:Nat) x v,cells[j]?=some x→arr[j]?=some v→x.one=true∧RA w c H x v∧v.oneCell'=true):
  zO w c H (fun n=> .ptr n 0 0 0) (.box cells) (.pointer (some ⟨w.heap.size,0,none⟩)) (.cells arr e (0,0))
 |arr (e s len:Nat) (l:Sq) (arr:Array Value) (hl:arr.size=len*s) (hn:l.length=len) (hm:len≤maxLen) (hc:dE w c H s l arr):
  zO w c H (fun n=> .sl n 0 0 len) (.arr e s false 0 l) (.slice (some ⟨w.heap.size,0,none⟩) len len) (.cells arr e (0,0))
 |qv (e s:Nat) (x:T) (arr:Array Value) (hl:arr.size=s) (hc:dE w c H s (.ts [x]) arr):
  zO w c H (fun n=> .ptr n 0 0 0) (.arr e s false 0 (.ts [x])) (.pointer (some ⟨w.heap.size,0,none⟩)) (.cells arr e (0,0))
section
variable {P : Program} {tab : bi}
theorem Uq(hT:bl P tab){o:Oper}{env:List (Nat×AV)}{K:(Nat→AV)→Ω→Prop}(h:oQ tab o env K){w:World}{c:Cx}{H:AH}{a:Act}(he:∀t,RA w c H (lk env t) (a.tmps.getD t undef)):
 ∃mk π val obj,(execOp a.eval o).run P w= .ok (.value val) (w.alloc obj)∧zO w c H mk π val obj∧K mk π:=by
 unfold oQ at h
 split at h
 ·rename_i e ho
  simp only[Ξ,ar]at h
  obtain⟨y,hy,zs,hz,hc,k⟩:=h
  simp only[Bool.and_eq_true]at hc
  obtain⟨z,r,jx,_⟩:=jN (w:=w) hT hy hz
  have ha:=pn (w:=w) (c:=c) (H:=H) jx hc.1
  have bZ:(AV.agg (zs.map .t)).cells.all AV.one=true:=by simp only[AV.cells,List.all_map];exact hc.1
  obtain⟨cl,cr⟩:=ha.cells bZ
  split at k
  ·obtain⟨bE,hR⟩:=BW (w:=w) (c:=c) (H:=H) jx hc.1 (Nat.eq_of_beq_eq_true hc.2)
   refine⟨_,_,_,_,?_,.qv e y.size (.agg zs) z.cells bE hR,k⟩
   unfold execOp
   rw[ho]
   simp[Instr.alloc,r,newVar,newRow]
  ·refine⟨_,_,_,_,?_,.box (zs.map .t) z.cells e cl.symm cr,k⟩
   unfold execOp
   rw[ho]
   simp[Instr.alloc,r,newVar,newRow]
 ·rename_i e x ho
  rw[ar]at h
  obtain⟨cl,cr⟩:=(bm he x).cells h.1
  refine⟨_,_,_,_,?_,.box _ (a.eval x).cells e cl.symm cr,h.2⟩
  unfold execOp
  rw[ho]
  simp[Instr.box,newVar,newRow]
 ·rename_i t len parts ho
  rw[Ξ]at h
  obtain⟨y,hy,h⟩:=h
  have hd:=(hT t y hy).d
  split at h
  ·rename_i e Sr
   rw[Sr]at hd
   simp only[Ξ,ar]at h
   obtain⟨z,hz,l,vV,hc,k⟩:=h
   simp only[Bool.and_eq_true]at hc
   have c1:=Nat.eq_of_beq_eq_true hc.1.1.1
   have c2:=Nat.le_of_ble_eq_true hc.1.1.2
   have c3:=Nat.le_of_ble_eq_true hc.1.2
   obtain⟨zs,qo⟩:=Option.isSome_iff_exists.1 hc.2
   have hp:=xS he parts.toList
   obtain⟨wo,vX,gC⟩:=sV (P:=P) (w:=w) hT hd hz qo c3 (parts.map fun p=>(p.1,a.eval p.2))
   obtain⟨q,q1,q2,q3,q4⟩:=yg c2 (arr:=wo) hp vV (by rw[vX,c1,Nat.zero_add];exact Nat.le_refl _)
   have N6:len≤maxLen:=by
    have:len*1≤len*z.size:=Nat.mul_le_mul_left _ c2
    simp[maxLen];omega
   refine⟨_,_,_,_,?_,.arr e z.size len (oT l) q (by rw[q2,vX]) (by rw[ve];exact c1) N6 (fun i x hi=>by rw[AZ]at hi;have:=q4 i x hi;rw[Nat.zero_add]at this;exact this),k⟩
   have:=gC q (by rw[Array.toList_map];exact q1)
   unfold execOp
   rw[ho]
   simp only[Sem.run_bind,this,Result.andThen_ok,Sem.run_pure]
  ·exact h.elim
 ·rename_i t l cp ho
  rw[Ξ]at h
  obtain⟨y,hy,h⟩:=h
  have hd:=(hT t y hy).d
  have hl:=bm he l
  have Px:=bm he cp
  split at h
  ·rename_i e k1 n k2 cc Sr h1 h2
   rw[Sr]at hd
   rw[h1]at hl
   rw[h2]at Px
   simp only[Ξ,ar]at h
   obtain⟨z,hz,zs,qo,hc,hn,k⟩:=h
   obtain rfl:=of_decide_eq_true hn
   simp only[Bool.and_eq_true,decide_eq_true_eq]at hc
   obtain⟨⟨⟨⟨⟨⟨h0,SM⟩,oa⟩,ti⟩,dC⟩,nl⟩,qp⟩:=hc
   have dC:=Nat.le_of_ble_eq_true dC
   have nl:=Nat.eq_of_beq_eq_true nl
   have hl:=hl.int
   have Px:=Px.int
   obtain⟨zv,r,jx,i,hi,D4,pQ,nx⟩:=jN (w:=w) hT hz qo
   obtain⟨IW,IV⟩:=oB (w:=w) (M:=c.M H) jx
   have run:=run_make (P:=P) w t e i zv hd hi D4 k1 k2 n n h0 SM (by rw[nx,Int.mul_comm];omega) (by omega)
   rw[pQ]at run
   have vH:zv.cells.size=z.size:=by simpa[nl]using IW.symm
   have vV:=nd nl qp dC
   refine⟨_,_,_,_,?_,.arr e z.size n.toNat (.ts (List.replicate n.toNat (ep z.size zs))) (madeCells zv.cells (n.toNat*z.size)) (by rw[size_madeCells]) (by simp[Sq.length]) (by simp[maxLen];omega) (dE.ts.2 fun k x hk=> ?_),k⟩
   ·unfold execOp
    rw[ho]
    simp only[Sem.run_bind,hl,Px,run,Result.andThen_ok,Sem.run_pure]
   ·have BD:=κ hk
    simp at BD
    have:x=ep z.size zs:=by simp[BD]at hk;exact hk.symm
    subst this
    rw[vV]
    refine⟨nl,fun j y' hj=> ?_⟩
    have eQ:=κ hj
    have ω:k*z.size+j<n.toNat*z.size:=by
     have:(k+1)*z.size≤n.toNat*z.size:=Nat.mul_le_mul_right _ (by omega)
     rw[Nat.succ_mul]at this;omega
    obtain⟨q,hq⟩:=iI (a:=zv.cells) (i:=j) (by omega)
    have tg:y'.one=true:=by rw[List.all_eq_true]at qp;exact qp y' (List.mem_of_getElem? hj)
    have rt:=IV j y' q hj (by simpa using hq)
    refine⟨q,?_,tg,rt,(rt.kf tg).1⟩
    rw[Du _ _ _ ω (by omega),vH,Nat.mul_comm k,Nat.mul_add_mod,Nat.mod_eq_of_lt (by omega)]
    exact hq
  ·exact h.elim
 ·exact h.elim
theorem QS{w:World}{c:Cx}{H:AH}{B:Nat}(hs:HS w c H B){n:Nat}{mk:Nat→AV}{π:Ω}{val:Value}{obj:Obj}(hb:H[n]?=some π)(hg:π.fix=true→c.G n=none)(hf:zO w c H mk π val obj):
 ∃c',Ew w c H (w.alloc obj) c' H∧HS (w.alloc obj) c' H B∧RA (w.alloc obj) c' H (mk n) val∧(∀b,b≠n→c.G b=none→c'.G b=none):=by
 have ω:=κ hb
 by_cases sL:π.fix=true
 ·have hg:=hg sL
  let c':Cx:=⟨c.F,fun b=>if b=n then some w.heap.size else c.G b⟩
  have ew:Ew w c H (w.alloc obj) c' H:=by
   refine⟨rfl,by simp,fun b bk aD=>⟨bk,aD,?_⟩,fun cb hm=> ?_,fun cb ω _=>dI w _ cb ω⟩
   ·have az:∀cb,c.G b=some cb→c'.G b=some cb:=fun cb hc=>by
     have au:b≠n:=fun e=>by subst e;rw[hg]at hc;cases hc
     simp only[c',if_neg au];exact hc
    cases bk with
    |dead=>trivial
    |box cs=>exact⟨rfl,az⟩
    |iter s p=>exact⟨rfl,az⟩
    |arr e s z g l=>
     refine⟨rfl,rfl,rfl,Nat.le_refl _,Nat.le_refl _,fun _=>⟨rfl,fun cb hc=>⟨az cb hc,?_⟩⟩⟩
     unfold dX
     rw[dI w _ cb (hs.base b cb hc).2]
   ·rcases hm with⟨b,bk,aD,hl,dZ⟩
    ·simp only[c']at dZ
     split at dZ
     ·exact .inr (by simp at dZ;omega)
     ·exact .inl ⟨b,bk,aD,hl,dZ⟩
  have x8:∀b b' cb,c'.G b=some cb→c'.G b'=some cb→b=b':=by
   intro b b' cb h h'
   simp only[c']at h h'
   split at h<;>split at h'
   ·omega
   ·have:=(hs.base b' cb h').2;simp at h;omega
   ·have:=(hs.base b cb h).2;simp at h';omega
   ·exact hs.inj b b' cb h h'
  have pg:∀b cb,c'.G b=some cb→B≤cb∧cb<(w.alloc obj).heap.size:=by
   intro b cb h
   simp only[c']at h
   split at h
   ·simp at h;subst h;exact⟨hs.hB,by simp⟩
   ·have:=hs.base b cb h;exact⟨this.1,by simp;omega⟩
  have vW:∀b cb,c'.G b=some cb→b<H.length:=by
   intro b cb h
   simp only[c']at h
   split at h
   ·omega
   ·exact hs.kz b cb h
  have hold:∀b cb,b≠n→c'.G b=some cb→c.G b=some cb∧(w.alloc obj).heap[cb]?=w.heap[cb]?:=by
   intro b cb au h
   simp only[c',if_neg au]at h
   exact⟨h,dI w _ cb (hs.base b cb h).2⟩
  have H9:∀cb,c'.G n=some cb→cb=w.heap.size:=by
   intro cb h
   simp only[c',if_true]at h
   simp at h;omega
  have uh:c'.G n=some w.heap.size:=by simp[c']
  have BB:∀b cb,c'.G b=some cb→(∃b',c.G b'=some cb)∨w.heap.size≤cb:=by
   intro b cb h
   simp only[c']at h
   split at h
   ·exact .inr (by simp at h;omega)
   ·exact .inl ⟨b,h⟩
  refine⟨c',ew,?_,?_,fun b au h=>by simp only[c',if_neg au];exact h⟩
  ·cases hf with
   |box cells arr e hl hc=>
    refine hs.yS ew x8 pg vW (fun b cb cs aD dZ=> ?_) (fun b cb e1 s1 z1 g1 l1 aD dZ=> ?_) (fun b cb s1 p1 aD dZ=> ?_) BB
    ·by_cases au:b=n
     ·subst au
      rw[hb]at aD;cases aD
      rw[H9 cb dZ]
      exact .inr ⟨arr,e,heap_alloc_new w _,hl,fun j x v hj hv=>⟨(hc j x v hj hv).1,(hc j x v hj hv).2.1.ew ew,(hc j x v hj hv).2.2⟩⟩
     ·exact .inl ⟨aD,hold b cb au dZ⟩
    ·by_cases au:b=n
     ·subst au;rw[hb]at aD;cases aD
     ·exact .inl ⟨aD,hold b cb au dZ⟩
    ·by_cases au:b=n
     ·subst au;rw[hb]at aD;cases aD
     ·exact .inl ⟨aD,hold b cb au dZ⟩
   |arr e s len l arr hl hn hm hc=>
    refine hs.yS ew x8 pg vW (fun b cb cs aD dZ=> ?_) (fun b cb e1 s1 z1 g1 l1 aD dZ=> ?_) (fun b cb s1 p1 aD dZ=> ?_) BB
    ·by_cases au:b=n
     ·subst au;rw[hb]at aD;cases aD
     ·exact .inl ⟨aD,hold b cb au dZ⟩
    ·by_cases au:b=n
     ·subst au
      rw[hb]at aD;cases aD
      rw[H9 cb dZ]
      exact .inr ⟨arr,len,heap_alloc_new w _,hl,by omega,hm,hc.ew ew⟩
     ·exact .inl ⟨aD,hold b cb au dZ⟩
    ·by_cases au:b=n
     ·subst au;rw[hb]at aD;cases aD
     ·exact .inl ⟨aD,hold b cb au dZ⟩
   |qv e s x arr hl hc=>
    refine hs.yS ew x8 pg vW (fun b cb cs aD dZ=> ?_) (fun b cb e1 s1 z1 g1 l1 aD dZ=> ?_) (fun b cb s1 p1 aD dZ=> ?_) BB
    ·by_cases au:b=n
     ·subst au;rw[hb]at aD;cases aD
     ·exact .inl ⟨aD,hold b cb au dZ⟩
    ·by_cases au:b=n
     ·subst au
      rw[hb]at aD;cases aD
      rw[H9 cb dZ]
      exact .inr ⟨arr,1,heap_alloc_new w _,by rw[Nat.one_mul];exact hl,⟨Nat.le_refl _,fun h=>by cases h⟩,by decide,hc.ew ew⟩
     ·exact .inl ⟨aD,hold b cb au dZ⟩
    ·by_cases au:b=n
     ·subst au;rw[hb]at aD;cases aD
     ·exact .inl ⟨aD,hold b cb au dZ⟩
  ·cases hf with
   |box cells arr e hl hc=>exact .ptr _ _ _ _ _ _ hb ⟨_,uh,rfl⟩
   |qv e s x arr hl hc=>exact .ptr _ _ _ _ _ _ hb ⟨Nat.le_refl _,fun _=>⟨_,uh,by rw[Nat.zero_mul]⟩⟩
   |arr e s len l arr hl hn hm hc=>
    refine .sl _ _ _ _ _ _ hb ⟨Nat.le_refl _,fun _=>⟨by omega,.inr <| .inr ⟨by simp,w.heap.size,len,0,uh,rfl,?_,Nat.le_refl _,by omega,.inr (by simp),fun _=>rfl⟩⟩⟩
    rw[jY,hl,Nat.zero_add]
 ·cases hf with
  |box=>simp[Ω.fix]at sL
  |qv e s x arr hl hc=>simp[Ω.fix,Sq.length]at sL
  |arr e s len l arr hl hn hm hc=>
   simp only[Ω.fix,Bool.not_false,Bool.true_and,decide_eq_true_eq]at sL
   have gX:l.length=0:=by omega
   have hlen:len=0:=by omega
   subst hlen
   have ew:Ew w c H (w.alloc (.cells arr e (0,0))) c H:=by
    refine⟨rfl,by simp,fun b bk aD=>⟨bk,aD,?_⟩,fun cb hm=> .inl hm,fun cb ω _=>dI w _ cb ω⟩
    cases bk with
    |dead=>trivial
    |box cs=>exact⟨rfl,fun _ h=>h⟩
    |iter s p=>exact⟨rfl,fun _ h=>h⟩
    |arr e s z g l=>
     refine⟨rfl,rfl,rfl,Nat.le_refl _,Nat.le_refl _,fun _=>⟨rfl,fun cb hc=>⟨hc,?_⟩⟩⟩
     unfold dX
     rw[dI w _ cb (hs.base b cb hc).2]
   refine⟨c,ew,hs.yS ew hs.inj (fun b cb h=>by have:=hs.base b cb h;exact⟨this.1,by simp;omega⟩) hs.kz (fun b cb cs aD dZ=> .inl ⟨aD,dZ,dI w _ cb (hs.base b cb dZ).2⟩) (fun b cb e1 s1 z1 g1 l1 aD dZ=> .inl ⟨aD,dZ,dI w _ cb (hs.base b cb dZ).2⟩) (fun b cb s1 p1 aD dZ=> .inl ⟨aD,dZ,dI w _ cb (hs.base b cb dZ).2⟩),?_,fun _ _ h=>h⟩
   exact .sl _ _ _ _ _ _ hb ⟨Nat.le_refl _,fun _=>⟨by omega,.inr (.inl ⟨rfl,gX,_,rfl⟩)⟩⟩
end
end Go.Proofs.YtcogcbplmkcojaaGreatDoor
namespace Go.Proofs.YtcogcbplmkcojaaGreatDoor
open Go.RowKit
set_option linter.unusedVariables false
set_option linter.unusedSimpArgs false
def oF(o:Oper):Bool:=
 match o.op with
 | .move _=>true
 | .pick _ _ _=>true
 | .build _ _=>true
 | .load _ _=>true
 | .nilCheck _=>true
 | .binOp _ _ _ _ _=>true
 | .unOp _ _ _=>true
 | .convert _ _ _=>true
 | .slice _ _ _ _ _=>true
 | .fieldAddr _ _ _=>true
 | .field _ _ _=>true
 | .indexAddr _ _ _=>true
 | .index _ _ _=>true
 | .extract _ _=>true
 | .makeInterface _ _=>true
 | .makeFunc _ _ _=>true
 | .call c=>(match c.callee with| .builtin .len=>true| .builtin .min=>true| .builtin .max=>true|_=>false)
 |_=>false
def OT(tab:bi)(ops:Array Oper)(D:List Nat)(o:Oper)(s:St)(K:St→Prop):Prop:=
 match s with
 |⟨env,H⟩=>
 match o.guard with
 |none=>lW tab o env (d_ D H) fun v=>nV ⟨env,H⟩ o.dst v H K
 |some (j,want)=>
  a7 (dc ops j) fun d=>
  match lk env d with
  | .t (.bool c)=>
   (match want with
   |true=>Br c (lW tab o ((d,.t (.bool true))::env) (d_ D H) fun v=>nV ⟨(d,.t (.bool true))::env,H⟩ o.dst v H K) (nV ⟨(d,.t (.bool false))::env,H⟩ o.dst (.aq []) H K)
   |false=>Br c (nV ⟨(d,.t (.bool true))::env,H⟩ o.dst (.aq []) H K) (lW tab o ((d,.t (.bool false))::env) (d_ D H) fun v=>nV ⟨(d,.t (.bool false))::env,H⟩ o.dst v H K))
  | .aq []=>nV ⟨env,H⟩ o.dst (.aq []) H K
  |_=>False
def jA(o:Oper):List Nat:=(o.after.toList.filter fun e=>Region.binds .any e).map (·.on)
def bits(ms:List Nat):List Nat→Nat
 |[]=>0
 |j::r=>(1<<<j)|||(ms.getD j 0|||bits ms r)
def ub:List Oper→List Nat→List Nat
 |[],ms=>ms
 |o::r,ms=>ub r (ms++[bits ms (jA o)])
def uc(ops:Array Oper):List Nat:=ub ops.toList []
inductive Ord where
 |nil
 |op (i:Nat) (un:List Nat) (r:Ord)
 |race (a b:Ord)
noncomputable def uJ(tab:bi)(call:kB)(ops:Array Oper)(D:Nat→List Nat)(σ:Ord):St→(St→Prop)→Prop:=
 @Ord.rec (fun _=>St→(St→Prop)→Prop)
  (fun s K=>K s)
  (fun i un _ ih s K=>a7 ops[i]? fun o=>
   match oF o with
   |true=>OT tab ops (D i) o s fun s'=>ih s' K
   |false=>
    match je o with
    |true=>Ck (!(D i).contains s.H.length) (lJ tab call ops o s fun s'=>ih s' K)
    |false=>lJ tab call ops o s fun s'=>(∀j∈un,χ (D j) s.H s'.H)∧ih s' K)
  (fun _ _ nk nj s K=>nk s K∧nj s K) σ
theorem I6(tab:bi)(call:kB)(ops:Array Oper)(D:Nat→List Nat)(i:Nat)(un:List Nat)(r:Ord)(s:St)(K:St→Prop):uJ tab call ops D (.op i un r) s K=a7 ops[i]? fun o=>
 match oF o with
 |true=>OT tab ops (D i) o s fun s'=>uJ tab call ops D r s' K
 |false=>
  match je o with
  |true=>Ck (!(D i).contains s.H.length) (lJ tab call ops o s fun s'=>uJ tab call ops D r s' K)
  |false=>lJ tab call ops o s fun s'=>(∀j∈un,χ (D j) s.H s'.H)∧uJ tab call ops D r s' K:=rfl
def oM(ops:Array Oper)(oj oi:Oper):Bool:=
 (oF oj||je oj)&&(match oj.dst with|some d=> !(oi.looksAt ops).contains d|none=>true)&&(match oi.dst with|some d=> !(oj.looksAt ops).contains d&&(match oj.dst with|some d'=> !Nat.beq d d'|none=>true)|none=>true)
def gF(ops:Array Oper)(j:Nat):Bool:=
 match ops[j]?with
 |some o=> !oF o&& !je o
 |none=>false
def Ord.head:Ord→Option Nat
 | .op i _ _=>some i
 |_=>none
def dy(ops:Array Oper)(ms:List Nat):Ord→List (Nat×Nat)→List Nat→Bool
 | .nil,_,done=>(List.range ops.size).all fun i=>done.contains i
 | .race a b,R,done=>
  (match a.head,b.head with
  |some j,some i=>gF ops j&&gF ops i&&dy ops ms a ((j,i)::R) done&&dy ops ms b ((i,j)::R) done
  |_,_=>false)
 | .op i un r,R,done=>
  (match ops[i]?with
  |some oi=>
   (jA oi).all (fun j=>done.contains j)&&
   done.all (fun j=> !Nat.beq i j&&((ms.getD i 0).testBit j||(match ops[j]?with|some oj=>oM ops oj oi|none=>false)||(R.contains (j,i)&&gF ops j)))&&
   (!gF ops i||done.all fun j=>(ms.getD i 0).testBit j||gF ops j||un.contains j)
  |none=>false)&&dy ops ms r R (i::done)
def zP(ops:Array Oper)(L:Nat→Bool):Prop:=∀i o,ops[i]?=some o→L i=true→∀j∈jA o,L j=true
theorem BU{ms:List Nat}{j:Nat}:∀{l:List Nat},(bits ms l).testBit j=true→∃k∈l,k=j∨(ms.getD k 0).testBit j=true
 |[],h=>by simp[bits]at h
 |k::r,h=>by
  simp only[bits,Nat.testBit_or,Bool.or_eq_true,Nat.one_shiftLeft,Nat.testBit_two_pow,decide_eq_true_eq]at h
  rcases h with h|h|h
  ·exact⟨k,by simp,.inl h⟩
  ·exact⟨k,by simp,.inr h⟩
  ·obtain⟨k',h1,h2⟩:=BU h
   exact⟨k',by simp[h1],h2⟩
def AQ(ops:Array Oper)(ms:List Nat):Prop:=∀i j,(ms.getD i 0).testBit j=true→∀L,zP ops L→(∀o,ops[i]?=some o→∀k∈jA o,L k=true)→L j=true
theorem xk{ops:Array Oper}:∀{l pre:List Oper} {ms:List Nat},ops.toList=pre++l→ms.length=pre.length→AQ ops ms→AQ ops (ub l ms)
 |[],pre,ms,h,hl,hm=>hm
 |o::r,pre,ms,h,hl,hm=>by
  simp only[ub]
  refine xk (pre:=pre++[o]) (by simp[h]) (by simp[hl]) fun i j hb L hL hk=> ?_
  by_cases hi:i<ms.length
  ·rw[List.getD_eq_getElem?_getD,List.getElem?_append_left hi,←List.getD_eq_getElem?_getD]at hb
   exact hm i j hb L hL hk
  ·by_cases he:i=ms.length
   ·subst he
    rw[List.getD_eq_getElem?_getD,List.getElem?_append_right (Nat.le_refl _)]at hb
    simp only[Nat.sub_self,List.getElem?_cons_zero,Option.getD_some]at hb
    have ho:ops[ms.length]?=some o:=by
     rw[←Array.getElem?_toList,h,List.getElem?_append_right (by omega),hl];simp
    obtain⟨k,k1,k2⟩:=BU hb
    have BG:=hk o ho k k1
    rcases k2 with rfl|k2
    ·exact BG
    ·exact hm k j k2 L hL fun o' jE k' fW=>hL k o' jE BG k' fW
   ·rw[List.getD_eq_getElem?_getD,List.getElem?_eq_none (by simp;omega)]at hb
    simp at hb
theorem ND(ops:Array Oper):AQ ops (uc ops):=xk (pre:=[]) (by simp) rfl fun i j h=>by simp at h
end Go.Proofs.YtcogcbplmkcojaaGreatDoor
namespace Go.Proofs.YtcogcbplmkcojaaGreatDoor
open Go.RowKit
set_option linter.unusedVariables false
set_option linter.unusedSimpArgs false
def gi(e e':List (Nat×AV)):Prop:=∀t,lk e t=lk e' t
theorem gi.refl(e:List (Nat×AV)):gi e e:=fun _=>rfl
theorem gi.symm{e e':List (Nat×AV)}(h:gi e e'):gi e' e:=fun t=>(h t).symm
theorem gi.trans{e e' VP:List (Nat×AV)}(h:gi e e')(k:gi e' VP):gi e VP:=fun t=>(h t).trans (k t)
def fr(d:Option Nat)(v:AV)(env:List (Nat×AV)):List (Nat×AV):=match d with|some d=>(d,v)::env|none=>env
theorem oE(d:Option Nat)(v:AV)(env:List (Nat×AV))(t:Nat):lk (fr d v env) t=if d=some t then v else lk env t:=by
 cases d with
 |none=>simp[fr]
 |some d=>simp only[fr,fB,Option.some.injEq]
theorem gi.fr{e e':List (Nat×AV)}(h:gi e e')(d:Option Nat)(v:AV):gi (fr d v e) (fr d v e'):=fun t=>by
 rw[oE,oE,h t]
theorem put_eq(e:List (Nat×AV))(H H':AH)(d:Option Tmp)(v:AV):St.put ⟨e,H⟩ d v H'=⟨fr d v e,H'⟩:=by cases d<;>rfl
theorem gi.told{env:List (Nat×AV)}{d:Nat}{c b:Bool}(h:lk env d= .t (.bool c))(hc:c=b):gi ((d,.t (.bool b))::env) env:=fun t=>by
 rw[fB]
 split
 ·rename_i e;rw[←e,h,hc]
 ·rfl
theorem vw{e e':List (Nat×AV)}(h:gi e e')(x:Operand):aO e x=aO e' x:=by
 cases x<;>first|rfl|exact h _
section
variable {P : Program} {tab : bi}
theorem Sat.R8{O c env env' H a w}(h:Sat O c ⟨env,H⟩ a w)(e:gi env' env):Sat O c ⟨env',H⟩ a w:=
 ⟨fun t=>by rw[show lk env' t=lk env t from e t];exact h.env t,h.hs,h.size,h.defers,h.ev,h.below⟩
theorem Sat.fr{O c env H a w}(h:Sat O c ⟨env,H⟩ a w)(d:Option Tmp)(hd:∀k,d=some k→k<O.N){v:AV}{val:Value}(hv:RA w c H v val):Sat O c ⟨fr d v env,H⟩ (a.put d val) w:=by
 have:=Sat.put h d hd hv ⟨env,H⟩ rfl
 rwa [put_eq]at this
def zE(ops:Array Oper)(o:Oper)(env:List (Nat×AV)):Prop:=
 o.guard=none∨∃j want d,o.guard=some (j,want)∧dc ops j=some d∧lk env d= .t (.bool want)
def zF(ops:Array Oper)(o:Oper)(env:List (Nat×AV)):Prop:=
 ∃j want d,o.guard=some (j,want)∧dc ops j=some d∧(lk env d= .t (.bool (!want))∨lk env d= .aq [])
def gd(ops:Array Oper)(o:Oper)(run:List (Nat×AV)→(AV→AH→Prop)→Prop)(s:St)(K:St→Prop):Prop:=
 match s with
 |⟨env,H⟩=>
 match o.guard with
 |none=>run env fun v H'=>nV ⟨env,H⟩ o.dst v H' K
 |some (j,want)=>
  a7 (dc ops j) fun d=>
  match lk env d with
  | .t (.bool c)=>
   (match want with
   |true=>Br c (run ((d,.t (.bool true))::env) fun v H'=>nV ⟨(d,.t (.bool true))::env,H⟩ o.dst v H' K) (nV ⟨(d,.t (.bool false))::env,H⟩ o.dst (.aq []) H K)
   |false=>Br c (nV ⟨(d,.t (.bool true))::env,H⟩ o.dst (.aq []) H K) (run ((d,.t (.bool false))::env) fun v H'=>nV ⟨(d,.t (.bool false))::env,H⟩ o.dst v H' K))
  | .aq []=>nV ⟨env,H⟩ o.dst (.aq []) H K
  |_=>False
theorem AT{call:kB}{ops:Array Oper}{o:Oper}{env:List (Nat×AV)}{H:AH}{K:St→Prop}(h:lJ tab call ops o ⟨env,H⟩ K):gd ops o (fun e K=>rR tab call o e H K) ⟨env,H⟩ K:=by
 simp only[lJ,gd,yz,z_,put_eq]at h⊢
 exact h
theorem Ry{ops:Array Oper}{D:List Nat}{o:Oper}{env:List (Nat×AV)}{H:AH}{K:St→Prop}(h:OT tab ops D o ⟨env,H⟩ K):gd ops o (fun e K=>lW tab o e (d_ D H) fun v=>K v H) ⟨env,H⟩ K:=h
theorem yb{ops:Array Oper}{o:Oper}{run:List (Nat×AV)→(AV→AH→Prop)→Prop}{env:List (Nat×AV)}{H:AH}{K:St→Prop}(h:gd ops o run ⟨env,H⟩ K):
 (zE ops o env∧∃e,gi e env∧run e fun v H'=>K ⟨Go.Proofs.YtcogcbplmkcojaaGreatDoor.fr o.dst v e,H'⟩)∨(zF ops o env∧∃e,gi e env∧K ⟨Go.Proofs.YtcogcbplmkcojaaGreatDoor.fr o.dst (.aq []) e,H⟩):=by
 simp only[gd,yz,z_,put_eq]at h
 split at h
 ·rename_i hg
  exact .inl ⟨.inl hg,env,.refl _,h⟩
 ·rename_i j want hg
  rw[Ξ]at h
  obtain⟨d,hd,h⟩:=h
  split at h
  ·rename_i c hl
   split at h
   ·rw[lT]at h
    rcases h with⟨rfl,h⟩|⟨rfl,h⟩
    ·exact .inl ⟨.inr ⟨j,true,d,hg,hd,hl⟩,_,.told hl rfl,h⟩
    ·exact .inr ⟨⟨j,true,d,hg,hd,.inl hl⟩,_,.told hl rfl,h⟩
   ·rw[lT]at h
    rcases h with⟨rfl,h⟩|⟨rfl,h⟩
    ·exact .inr ⟨⟨j,false,d,hg,hd,.inl hl⟩,_,.told hl rfl,h⟩
    ·exact .inl ⟨.inr ⟨j,false,d,hg,hd,hl⟩,_,.told hl rfl,h⟩
  ·rename_i hl
   exact .inr ⟨⟨j,want,d,hg,hd,.inr hl⟩,env,.refl _,h⟩
  ·exact h.elim
structure Same(ops:Array Oper)(o:Oper)(env env':List (Nat×AV)):Prop where
 op:∀x∈o.op.operands.toList,aO env x=aO env' x
 guard:∀j want d,o.guard=some (j,want)→dc ops j=some d→lk env d=lk env' d
theorem zE.h_{ops:Array Oper}{o:Oper}{env jy:List (Nat×AV)}(h:zE ops o env)(kK:Same ops o env jy){O c H a w}(hs:Sat O c ⟨jy,H⟩ a w):Region.wanted o (yielded ops a.tmps)=true:=by
 rcases h with h|⟨j,want,d,hg,hd,hl⟩
 ·simp[Region.wanted,h]
 ·rw[kK.guard j want d hg hd]at hl
  have db:=hs.env d
  rw[show lk jy d=_ from hl]at db
  have yZ:=xL db.bool
  have Pu:(ops[j]?).bind (·.dst)=some d:=hd
  simp[Region.wanted,hg,yielded,Pu,yZ]
theorem zF.h_{ops:Array Oper}{o:Oper}{env jy:List (Nat×AV)}(h:zF ops o env)(kK:Same ops o env jy){O c H a w}(hs:Sat O c ⟨jy,H⟩ a w):Region.wanted o (yielded ops a.tmps)=false:=by
 obtain⟨j,want,d,hg,hd,hl⟩:=h
 rw[kK.guard j want d hg hd]at hl
 have db:=hs.env d
 have Pu:(ops[j]?).bind (·.dst)=some d:=hd
 rcases hl with hl|hl
 ·rw[show lk jy d=_ from hl]at db
  have yZ:=xL db.bool
  simp[Region.wanted,hg,yielded,Pu,yZ]
 ·rw[show lk jy d=_ from hl]at db
  have hu:a.tmps.getD d undef= .tuple #[]:=by
   generalize a.tmps.getD d undef=q at db
   cases db with|aq _ vs tj _=>
   have:vs= #[]:=Array.eq_empty_of_size_eq_zero (by simpa using tj.symm)
   rw[this]
  have nX:yielded ops a.tmps j=none:=by
   rw[Array.getD_eq_getD_getElem?]at hu
   simp only[yielded,Pu,Option.bind_some]
   cases hq:a.tmps[d]?with
   |none=>rfl
   |some v=>simp[hq]at hu;subst hu;rfl
  simp[Region.wanted,hg,nX]
def Ob(tab:bi)(ops:Array Oper)(o:Oper)(env:List (Nat×AV))(H:AH)(v:AV):Prop:=
 (zE ops o env∧lW tab o env H fun u=>u=v)∨(zF ops o env∧v= .aq [])
theorem Um{ops:Array Oper}{D:List Nat}{o:Oper}{env:List (Nat×AV)}{H:AH}{K:St→Prop}(h:OT tab ops D o ⟨env,H⟩ K):∃v e,gi e env∧Ob tab ops o env (d_ D H) v∧K ⟨Go.Proofs.YtcogcbplmkcojaaGreatDoor.fr o.dst v e,H⟩:=by
 rcases yb (Ry h)with⟨hw,e,he,h⟩|⟨hw,e,he,h⟩
 ·obtain⟨v,h1,h2⟩:=L4.ex h
  exact⟨v,e,he,.inl ⟨hw,tz (.refl _) (fun x _=>vw he x) h1⟩,h2⟩
 ·exact⟨_,e,he,.inr ⟨hw,rfl⟩,h⟩
theorem O1{ops:Array Oper}{o:Oper}{env:List (Nat×AV)}{H H':AH}{v:AV}(hl:Le H H')(h:Ob tab ops o env H v):Ob tab ops o env H' v:=
 h.imp (fun h=>⟨h.1,tz hl (fun _ _=>rfl) h.2⟩) id
def P5(c c':Cx)(H:AH):Prop:=∀b π,H[b]?=some π→π.fix=true→c.G b=none→c'.G b=none
theorem QG(hT:bl P tab){O:lV}{ops:Array Oper}{D:List Nat}{o:Oper}{env jy:List (Nat×AV)}{H:AH}{v:AV}(h:Ob tab ops o env (d_ D H) v)(kK:Same ops o env jy)(hd:l_ O.N o=true){c:Cx}{a:Act}{w:World}
 (hs:Sat O c ⟨jy,H⟩ a w) {next:Act→World→Prop} {Q:Exit→Act→World→Prop} (hn:∀c' a' w',Sat O c' ⟨Go.Proofs.YtcogcbplmkcojaaGreatDoor.fr o.dst v jy,H⟩ a' w'→P5 c c' H→next a' w'):
 if Region.wanted o (yielded ops a.tmps)then o.wp P a w next Q else next (a.put o.dst undef) w:=by
 have hd:=qG hd
 rcases h with⟨hw,h⟩|⟨hw,rfl⟩
 ·rw[if_pos (hw.h_ kK hs)]
  refine Cs (K:=fun u H'=>u=v∧H'=H) hT (Mt (L4.mono (fun u e=>⟨e,rfl⟩) (tz (.d_ D H) kK.op h))) hs.hs hs.env fun u val w' c' H' h1 h2 h3 h4 h5=> ?_
  obtain⟨rfl,rfl⟩:=h5
  exact hn c' _ _ ((hs.go h3 h2 h4).fr o.dst hd h1) h3.late
 ·rw[if_neg (by simp[hw.h_ kK hs])]
  exact hn c _ _ (hs.fr o.dst hd (v:= .aq []) (.aq [] #[] rfl (by simp))) fun _ _ _ _ h=>h
def zJ(tab:bi)(ops:Array Oper)(O:lV)(D:List Nat)(o:Oper)(env:List (Nat×AV))(H:AH)(c:Cx)(v:AV):Prop:=
 (zE ops o env∧∃n mk π,v=mk n∧oQ tab o env (fun m b=>m=mk∧b=π)∧H[n]?=some π∧π≠.dead∧(π.fix=true→c.G n=none)∧O.H0.length≤n)∨(zF ops o env∧v= .aq [])
def nameOf:AV→Option Nat
 | .ptr b _ _ _=>some b
 | .sl b _ _ _=>some b
 |_=>none
theorem rh{o:Oper}{env:List (Nat×AV)}{mk:Nat→AV}{π:Ω}(h:oQ tab o env (fun m b=>m=mk∧b=π)):π≠.dead∧∀n,nameOf (mk n)=some n:=by
 unfold oQ at h
 split at h
 ·simp only[Ξ,ar]at h
  obtain⟨y,hy,zs,hz,hc,h⟩:=h
  split at h
  ·obtain⟨rfl,rfl⟩:=h;exact⟨by simp,fun n=>rfl⟩
  ·obtain⟨rfl,rfl⟩:=h;exact⟨by simp,fun n=>rfl⟩
 ·rw[ar]at h
  obtain⟨_,rfl,rfl⟩:=h
  exact⟨by simp,fun n=>rfl⟩
 ·rw[Ξ]at h
  obtain⟨y,hy,h⟩:=h
  split at h
  ·simp only[Ξ,ar]at h
   obtain⟨z,hz,l,hl,hc,rfl,rfl⟩:=h
   exact⟨by simp,fun n=>rfl⟩
  ·exact h.elim
 ·rw[Ξ]at h
  obtain⟨y,hy,h⟩:=h
  split at h
  ·simp only[Ξ,ar]at h
   obtain⟨z,hz,zs,qo,hc,hn,rfl,rfl⟩:=h
   exact⟨by simp,fun n=>rfl⟩
  ·exact h.elim
 ·exact h.elim
theorem Nv(hT:bl P tab){O:lV}{ops:Array Oper}{D:List Nat}{o:Oper}{env jy:List (Nat×AV)}{H:AH}{v:AV}{c:Cx}(h:zJ tab ops O D o env H c v)(kK:Same ops o env jy)(hd:l_ O.N o=true){a:Act}{w:World}
 (hs:Sat O c ⟨jy,H⟩ a w) {next:Act→World→Prop} {Q:Exit→Act→World→Prop}
 (hn:∀c' a' w',Sat O c' ⟨Go.Proofs.YtcogcbplmkcojaaGreatDoor.fr o.dst v jy,H⟩ a' w'→(∀b,nameOf v≠some b→c.G b=none→c'.G b=none)→next a' w'):
 if Region.wanted o (yielded ops a.tmps)then o.wp P a w next Q else next (a.put o.dst undef) w:=by
 have hd:=qG hd
 rcases h with⟨hw,n,mk,π,rfl,lP,hb,vM,hg,hO⟩|⟨hw,rfl⟩
 ·rw[if_pos (hw.h_ kK hs)]
  obtain⟨_,y8⟩:=rh lP
  obtain⟨mk',aA,val,obj,gC,hf,rfl,rfl⟩:=Uq hT (u5 kK.op lP) hs.env
  obtain⟨c',ew,aK,db,iT⟩:=QS hs.hs hb hg hf
  unfold Oper.wp
  rw[gC,Oper.upon_value]
  refine hn c' _ _ (Sat.fr ⟨fun t=>(hs.env t).ew ew,aK,hs.size,hs.defers,hs.ev.RF ew fun b ω hb=>iT b (by omega) hb,hs.below.trans (jG hs.hs.hB _)⟩ o.dst hd db) fun b au hb=>iT b (fun e=>au (by rw[e];exact y8 n)) hb
 ·rw[if_neg (by simp[hw.h_ kK hs])]
  exact hn c _ _ (hs.fr o.dst hd (v:= .aq []) (.aq [] #[] rfl (by simp))) fun _ _ h=>h
theorem P_{call:kB}{o:Oper}{env env':List (Nat×AV)}{H:AH}{K:AV→AH→Prop}(he:∀x∈o.op.operands.toList,aO env x=aO env' x)(h:rR tab call o env H K):rR tab call o env' H K:=by
 unfold rR at h⊢
 generalize o.op=p at h he⊢
 cases p<;>simp only at h⊢<;>first|exact h|skip
 case move x=>rw[←he x (by simp[Op.operands])];exact h
 case assign x=>rw[←he x (by simp[Op.operands])];exact h
 case pick c a b=>rw[←he c (by simp[Op.operands]),←he a (by simp[Op.operands]),←he b (by simp[Op.operands])];exact h
 case box t x=>rw[←he x (by simp[Op.operands])];exact h
 case build t ps=>rw[←pz (env:=env) (fun x hx=>he x (by simpa[Op.operands]using hx))];exact h
 case buildSlice t n ps=>rw[←pz (env:=env) (fun x hx=>he x (by simpa[Op.operands]using hx))];exact h
 case load t a=>rw[←he a (by simp[Op.operands])];exact h
 case store t a v=>rw[←he a (by simp[Op.operands]),←he v (by simp[Op.operands])];exact h
 case nilCheck x=>rw[←he x (by simp[Op.operands])];exact h
 case binOp op t x y t2=>rw[←he x (by simp[Op.operands]),←he y (by simp[Op.operands])];exact h
 case unOp op t x=>rw[←he x (by simp[Op.operands])];exact h
 case convert t u x=>rw[←he x (by simp[Op.operands])];exact h
 case makeInterface t x=>rw[←he x (by simp[Op.operands])];exact h
 case makeFunc f a b=>
  have e1:a.toList.map (aO env)=a.toList.map (aO env'):=List.map_congr_left fun x hx=>he x (by simp[Op.operands]at hx⊢;simp[hx])
  have e2:b.toList.map (aO env)=b.toList.map (aO env'):=List.map_congr_left fun x hx=>he x (by simp[Op.operands]at hx⊢;simp[hx])
  rw[←e1,←e2];exact h
 case makeSlice t a b=>rw[←he a (by simp[Op.operands]),←he b (by simp[Op.operands])];exact h
 case slice t x lo hi mx=>
  rw[←he x (by simp[Op.operands]),←qN (env:=env) (o:=lo) (fun x hx=>he x (by simp[Op.operands]at hx⊢;simp[hx])),←qN (env:=env) (o:=hi) (fun x hx=>he x (by simp[Op.operands]at hx⊢;simp[hx])),
   ←qN (env:=env) (o:=mx) (fun x hx=>he x (by simp[Op.operands]at hx⊢;simp[hx]))]
  exact h
 case fieldAddr t x k=>rw[←he x (by simp[Op.operands])];exact h
 case field t x k=>rw[←he x (by simp[Op.operands])];exact h
 case indexAddr t x i=>rw[←he x (by simp[Op.operands]),←he i (by simp[Op.operands])];exact h
 case index t x i=>rw[←he x (by simp[Op.operands]),←he i (by simp[Op.operands])];exact h
 case extract x i=>rw[←he x (by simp[Op.operands])];exact h
 case range t x=>rw[←he x (by simp[Op.operands])];exact h
 case next x st=>rw[←he x (by simp[Op.operands])];exact h
 case call c=>
  unfold yp at h⊢
  have ha:∀x∈c.args.toList,aO env x=aO env' x:=fun x hx=>he x (by simp[Op.operands,Call.operands]at hx⊢;simp[hx])
  have hm:c.args.toList.map (aO env)=c.args.toList.map (aO env'):=List.map_congr_left ha
  generalize hc:c.callee=cc at h⊢
  cases cc<;>simp only at h⊢<;>first|exact h.elim|skip
  ·rename_i f
   rw[←he f (by simp[Op.operands,Call.operands,hc]),←hm]
   exact h
  ·rename_i b
   split at h
   ·rename_i h1 h2
    try simp only[h1,h2]
    rw[←ha _ (by rw[h2];simp)]
    exact h
   ·rename_i h1 h2
    try simp only[h1,h2]
    rw[←ha _ (by rw[h2];simp),←ha _ (by rw[h2];simp)]
    exact h
   ·rename_i h1 h2
    try simp only[h1,h2]
    rw[←ha _ (by rw[h2];simp)]
    exact h
   ·rename_i h1 h2
    try simp only[h1,h2]
    rw[←ha _ (by rw[h2];simp),←ha _ (by rw[h2];simp)]
    exact h
   ·rename_i h2
    try simp only[h2]
    rw[←ha _ (by rw[h2];simp),←ha _ (by rw[h2];simp)]
    exact h
   ·rename_i h2
    try simp only[h2]
    rw[←ha _ (by rw[h2];simp),←ha _ (by rw[h2];simp)]
    exact h
   ·exact h.elim
theorem Rn(hT:bl P tab){O:lV}{ops:Array Oper}{o:Oper}{env jy:List (Nat×AV)}{H:AH}{K:St→Prop}(h:lJ tab (γ P) ops o ⟨env,H⟩ K)(kK:Same ops o env jy)(hd:l_ O.N o=true){c:Cx}{a:Act}{w:World}
 (hs:Sat O c ⟨jy,H⟩ a w) {next:Act→World→Prop} {Q:Exit→Act→World→Prop}
 (hn:∀v c' H' a' w' e,Sat O c' ⟨Go.Proofs.YtcogcbplmkcojaaGreatDoor.fr o.dst v jy,H'⟩ a' w'→P5 c c' H→gi e env→K ⟨Go.Proofs.YtcogcbplmkcojaaGreatDoor.fr o.dst v e,H'⟩→next a' w'):
 if Region.wanted o (yielded ops a.tmps)then o.wp P a w next Q else next (a.put o.dst undef) w:=by
 have hd:=qG hd
 rcases yb (AT h)with⟨hw,e,he,h⟩|⟨hw,e,he,h⟩
 ·rw[if_pos (hw.h_ kK hs)]
  refine Cs hT (P_ (fun x hx=>(vw he x).trans (kK.op x hx)) h) hs.hs hs.env fun u val w' c' H' h1 h2 h3 h4 h5=> ?_
  exact hn u c' H' _ _ e ((hs.go h3 h2 h4).fr o.dst hd h1) h3.late he h5
 ·rw[if_neg (by simp[hw.h_ kK hs])]
  exact hn (.aq []) c H _ _ e (hs.fr o.dst hd (v:= .aq []) (.aq [] #[] rfl (by simp))) (fun _ _ _ _ h=>h) he h
end
end Go.Proofs.YtcogcbplmkcojaaGreatDoor
namespace Go.Proofs.YtcogcbplmkcojaaGreatDoor
open Go.RowKit
set_option linter.unusedVariables false
set_option linter.unusedSimpArgs false
def fD(ops:Array Oper)(env0:List (Nat×AV)):List (Nat×AV)→List (Nat×AV)
 |[]=>env0
 |(i,v)::r=>fr (dc ops i) v (fD ops env0 r)
theorem vD{ops:Array Oper}{env0:List (Nat×AV)}{L:Nat→Bool}{t:Nat}{Z:List (Nat×AV)}:∀{X:List (Nat×AV)},(∀e∈X,dc ops e.1=some t→L e.1=false)→
 lk (fD ops env0 ((X++Z).filter fun e=>L e.1)) t=lk (fD ops env0 (Z.filter fun e=>L e.1)) t
 |[],_=>rfl
 |(j,v)::r,h=>by
  have ih:=vD (env0:=env0) (Z:=Z) (X:=r) fun e he=>h e (by simp[he])
  rw[List.cons_append,List.filter_cons]
  cases hL:L j with
  |false=>simpa using ih
  |true=>
   simp only[if_true,fD,oE]
   rw[if_neg (fun hs=>by have:=h (j,v) (by simp) hs;simp only at this;rw[hL]at this;cases this)]
   exact ih
theorem sH{ops:Array Oper}{env0:List (Nat×AV)}{L:Nat→Bool}{t:Nat}:∀{Y:List (Nat×AV)},(∀e∈Y,dc ops e.1=some t→L e.1=true)→
 lk (fD ops env0 (Y.filter fun e=>L e.1)) t=lk (fD ops env0 Y) t
 |[],_=>rfl
 |(j,v)::r,h=>by
  have ih:=sH (env0:=env0) (Y:=r) fun e he=>h e (by simp[he])
  rw[List.filter_cons]
  cases hL:L j with
  |true=>simp only[if_true,fD,oE,ih]
  |false=>
   simp only[Bool.false_eq_true,if_false,fD,oE]
   rw[if_neg (fun hs=>by have:=h (j,v) (by simp) hs;simp only at this;rw[hL]at this;cases this)]
   exact ih
theorem xl{ops:Array Oper}{env0:List (Nat×AV)}{L L':Nat→Bool}{i:Nat}{v:AV}(hi:L i=false)(eH:L' i=true)(ho:∀j,j≠i→L' j=L j){Y:List (Nat×AV)}(hY:∀e∈Y,e.1≠i):∀{X:List (Nat×AV)},(∀e∈X,e.1≠i)→
 (∀e∈X,∀t,dc ops e.1=some t→dc ops i=some t→L e.1=false)→
 gi (fD ops env0 ((X++(i,v)::Y).filter fun e=>L' e.1)) (fr (dc ops i) v (fD ops env0 ((X++(i,v)::Y).filter fun e=>L e.1)))
 |[],_,_=>by
  have:Y.filter (fun e=>L' e.1)=Y.filter fun e=>L e.1:=List.filter_congr fun e he=>ho e.1 (hY e he)
  simp only[List.nil_append,List.filter_cons,hi,eH,if_true,fD,this]
  simp[gi.refl]
 |(j,u)::r,hX,hs=>by
  have ih:=xl (v:=v) (env0:=env0) hi eH ho hY (X:=r) (fun e he=>hX e (by simp[he])) (fun e he=>hs e (by simp[he]))
  have hj:j≠i:=hX (j,u) (by simp)
  intro t
  simp only[List.cons_append,List.filter_cons,ho j hj]
  cases hL:L j with
  |false=>simpa using ih t
  |true=>
   have au:∀t,dc ops j=some t→dc ops i≠some t:=fun t h1 h2=>by
    have:=hs (j,u) (by simp) t h1 h2;simp only at this;rw[hL]at this;cases this
   simp only[if_true,fD,oE]
   rw[ih t,oE]
   by_cases h1:dc ops j=some t
   ·rw[if_pos h1,if_neg (au t h1),if_pos h1]
   ·rw[if_neg h1,if_neg h1]
def tx(ops:Array Oper)(ms:List Nat):List Nat→Prop
 |[]=>True
 |i::r=>(∃oi,ops[i]?=some oi∧(∀j∈jA oi,j∈r)∧∀j∈r,i≠j∧((ms.getD i 0).testBit j=true∨(∃oj,ops[j]?=some oj∧oM ops oj oi=true)∨gF ops j=true))∧tx ops ms r
theorem pi{ops:Array Oper}{ms:List Nat}{i:Nat}{un:List Nat}{r:Ord}{R:List (Nat×Nat)}{done:List Nat}(h:dy ops ms (.op i un r) R done=true)(hd:tx ops ms done):
 tx ops ms (i::done)∧(gF ops i=true→∀j∈done,(ms.getD i 0).testBit j=true∨gF ops j=true∨j∈un)∧dy ops ms r R (i::done)=true:=by
 simp only[dy,Bool.and_eq_true]at h
 obtain⟨h1,h2⟩:=h
 cases ho:ops[i]?with
 |none=>rw[ho]at h1;cases h1
 |some oi=>
  rw[ho]at h1
  simp only[Bool.and_eq_true,List.all_eq_true,Bool.or_eq_true,Bool.not_eq_true']at h1
  obtain⟨⟨b1,b2⟩,b3⟩:=h1
  refine⟨⟨⟨oi,ho,fun j hj=>by simpa using b1 j hj,fun j hj=>⟨fun e=> ?_,?_⟩⟩,hd⟩,fun hf j hj=> ?_,h2⟩
  ·have:=(b2 j hj).1;subst e;simp at this
  ·rcases(b2 j hj).2 with(h|h)|h
   ·exact .inl h
   ·refine .inr (.inl ?_)
    split at h
    ·rename_i oj fM;exact⟨oj,fM,h⟩
    ·cases h
   ·exact .inr (.inr h.2)
  ·rcases b3 with h|h
   ·rw[hf]at h;cases h
   ·rcases h j hj with(h|h)|h
    ·exact .inl h
    ·exact .inr (.inl h)
    ·exact .inr (.inr (by simpa using h))
theorem rJ{ops:Array Oper}{ms:List Nat}{i:Nat}{Y:List Nat}:∀{X:List Nat},tx ops ms (X++i::Y)→tx ops ms (i::Y)∧
 ∀k∈X,k≠i∧((ms.getD k 0).testBit i=true∨(∃oi ok,ops[i]?=some oi∧ops[k]?=some ok∧oM ops oi ok=true)∨gF ops i=true)
 |[],h=>⟨h,by simp⟩
 |k::r,h=>by
  obtain⟨⟨ok,cd,h1,h2⟩,h3⟩:=h
  obtain⟨h4,h5⟩:=rJ (X:=r) h3
  refine⟨h4,fun q hq=> ?_⟩
  rcases List.mem_cons.1 hq with rfl|hq
  ·obtain⟨b1,b2⟩:=h2 i (by simp)
   refine⟨b1,b2.imp id (Or.imp (fun⟨oi,a,b⟩=>⟨oi,ok,a,cd,b⟩) id)⟩
  ·exact h5 q hq
theorem apart_spec{ops:Array Oper}{oj oi:Oper}(h:oM ops oj oi=true):(oF oj||je oj)=true∧(∀d,oj.dst=some d→d∉oi.looksAt ops)∧(∀d,oi.dst=some d→d∉oj.looksAt ops∧oj.dst≠some d):=by
 simp only[oM,Bool.and_eq_true]at h
 obtain⟨⟨h1,h2⟩,h3⟩:=h
 refine⟨h1,fun d hd=> ?_,fun d hd=> ?_⟩
 ·rw[hd]at h2;simpa using h2
 ·rw[hd]at h3
  simp only[Bool.and_eq_true,Bool.not_eq_true']at h3
  refine⟨by simpa using h3.1,fun e=> ?_⟩
  rw[e]at h3
  simp at h3
theorem jc{ops:Array Oper}{i:Nat}{o:Oper}(h:ops[i]?=some o):dc ops i=o.dst:=by simp[dc,h]
theorem KC{ops:Array Oper}{o:Oper}{t:Nat}(h: .tmp t∈o.op.operands.toList):t∈o.looksAt ops:=by
 simp only[Oper.looksAt,List.mem_append,List.mem_filterMap]
 exact .inl ⟨_,h,rfl⟩
theorem Fu{ops:Array Oper}{o:Oper}{j:Nat}{want:Bool}{d:Nat}(h:o.guard=some (j,want))(hd:dc ops j=some d):d∈o.looksAt ops:=by
 simp only[Oper.looksAt,List.mem_append,h]
 refine .inr ?_
 rw[show ops[j]?.bind (·.dst)=some d from hd]
 simp
theorem FR{ops:Array Oper}{o:Oper}{env env':List (Nat×AV)}(h:∀t∈o.looksAt ops,lk env t=lk env' t):Same ops o env env':=
 ⟨fun x hx=>by cases x<;>first|rfl|exact h _ (KC hx),fun j want d hg hd=>h d (Fu hg hd)⟩
theorem zq{p p':Nat→Bool}{i:Nat}(hp:p i=true)(Ve:p' i=false)(he:∀j,j≠i→p' j=p j):∀{l:List Nat},l.Nodup→i∈l→l.countP p=l.countP p'+1
 |[],_,h=>by cases h
 |k::r,hn,h=>by
  rw[List.nodup_cons]at hn
  rw[List.countP_cons,List.countP_cons]
  rcases List.mem_cons.1 h with rfl|h
  ·have:r.countP p=r.countP p':=List.countP_congr fun j hj=>by rw[he j (fun e=>hn.1 (e▸hj))]
   simp[hp,Ve,this]
  ·have ih:=zq hp Ve he hn.2 h
   have:p' k=p k:=he k fun e=>hn.1 (e▸h)
   rw[ih,this]
   omega
section
variable {P : Program} {tab : bi}
theorem MX{ops:Array Oper}{o:Oper}{e e':List (Nat×AV)}(h:gi e e'){H:AH}{v:AV}(k:Ob tab ops o e H v):Ob tab ops o e' H v:=by
 refine k.imp (fun k=>⟨?_,tz (.refl _) (fun x _=>vw h x) k.2⟩) fun k=>⟨?_,k.2⟩
 ·rcases k.1 with k|⟨j,want,d,a,b,c⟩
  ·exact .inl k
  ·exact .inr ⟨j,want,d,a,b,by rw[←h d];exact c⟩
 ·obtain⟨j,want,d,a,b,c⟩:=k.1
  exact⟨j,want,d,a,b,by rw[←h d];exact c⟩
theorem A0{O:lV}{D:List Nat}{ops:Array Oper}{o:Oper}{e e':List (Nat×AV)}(h:gi e e'){H:AH}{c:Cx}{v:AV}(k:zJ tab ops O D o e H c v):zJ tab ops O D o e' H c v:=by
 rcases k with⟨k1,n,mk,π,a1,a2,a3⟩|k
 ·refine .inl ⟨?_,n,mk,π,a1,u5 (fun x _=>vw h x) a2,a3⟩
  rcases k1 with k|⟨j,want,d,a,b,c⟩
  ·exact .inl k
  ·exact .inr ⟨j,want,d,a,b,by rw[←h d];exact c⟩
 ·obtain⟨j,want,d,a,b,c⟩:=k.1
  exact .inr ⟨⟨j,want,d,a,b,by rw[←h d];exact c⟩,k.2⟩
theorem yM{O:lV}{D:List Nat}{ops:Array Oper}{o:Oper}{e:List (Nat×AV)}{H H':AH}{c c':Cx}{v:AV}(k:zJ tab ops O D o e H c v)(hl:∀n π,nameOf v=some n→H[n]?=some π→π≠.dead→H'[n]?=some π)
 (iT:∀n π,nameOf v=some n→H[n]?=some π→π.fix=true→c.G n=none→c'.G n=none):zJ tab ops O D o e H' c' v:=by
 rcases k with⟨k1,n,mk,π,a1,a2,a3,a4,a5,a6⟩|k
 case inr=>exact .inr k
 refine .inl ⟨k1,n,mk,π,a1,a2,?_,a4,fun hf=> ?_,a6⟩
 ·exact hl n π (by rw[a1];exact(rh a2).2 n) a3 a4
 ·exact iT n π (by rw[a1];exact(rh a2).2 n) a3 hf (a5 hf)
structure Inv(P:Program)(tab:bi)(ops:Array Oper)(ms:List Nat)(D:Nat→List Nat)(env0:List (Nat×AV))(O:lV)(K:St→Prop)(L:Nat→Bool)(W:List (Nat×AV))(rest:Ord)(R:List (Nat×Nat))(H:AH)(c:Cx)(a:Act)(w:World):Prop where
 sat:Sat O c ⟨fD ops env0 (W.filter fun e=>L e.1),H⟩ a w
 closed:zP ops L
 sub:∀i,L i=true→i∈W.map Prod.fst
 Bi:∀X i v Y o,W=X++(i,v)::Y→L i=false→ops[i]?=some o→(oF o=true∧Ob tab ops o (fD ops env0 Y) (d_ (D i) H) v)∨(je o=true∧zJ tab ops O (D i) o (fD ops env0 Y) H c v)
 p9:∀i j v u n oi oj,(i,v)∈W→(j,u)∈W→i≠j→L i=false→L j=false→ops[i]?=some oi→ops[j]?=some oj→je oi=true→je oj=true→nameOf v=some n→nameOf u≠some n
 walk:∃e,gi e (fD ops env0 W)∧uJ tab (γ P) ops D rest ⟨e,H⟩ K
 done:tx ops ms (W.map Prod.fst)
 more:dy ops ms rest R (W.map Prod.fst)=true
 qA:∀p∈R,p.1∈W.map Prod.fst
 early:∀i v o n,(i,v)∈W→ops[i]?=some o→je o=true→nameOf v=some n→n∉D i
theorem xW{o:Oper}(h:je o=true):oF o=false:=by
 unfold je at h
 unfold oF
 cases ho:o.op<;>rw[ho]at h<;>simp at h<;>rfl
theorem Nw{O:lV}{D:List Nat}{ops:Array Oper}{o:Oper}{e:List (Nat×AV)}{H:AH}{c:Cx}{v:AV}{n:Nat}(k:zJ tab ops O D o e H c v)(hn:nameOf v=some n):∃π,H[n]?=some π:=by
 rcases k with⟨_,m,mk,π,rfl,a2,a3,_⟩|⟨_,rfl⟩
 ·rw[(rh a2).2 m]at hn
  cases hn
  exact⟨π,a3⟩
 ·simp[nameOf]at hn
theorem Ev.len{w c H w' c' H'}(h:Ev w c H w' c' H'):H.length≤H'.length:=by
 rcases Nat.lt_or_ge H'.length H.length with ω|fa
 ·obtain⟨aA,hb,_⟩:=h.π H'.length _ (List.getElem?_eq_getElem ω)
  have:=κ hb
  omega
 ·exact fa
theorem Inv.advance{ops:Array Oper}{ms:List Nat}{D:Nat→List Nat}{env0:List (Nat×AV)}{O:lV}{K:St→Prop}{L:Nat→Bool}{R:List (Nat×Nat)}{c:Cx}{a:Act}{w:World}:∀{rest:Ord} {W:List (Nat×AV)} {H:AH},
 Inv P tab ops ms D env0 O K L W rest R H c a w→∃W' Cd H',Inv P tab ops ms D env0 O K L W' Cd R H' c a w∧(Cd= .nil∨(∃q un r oq,Cd= .op q un r∧ops[q]?=some oq∧oF oq=false∧je oq=false)∨∃a b,Cd= .race a b)
 | .nil,W,H,h=>⟨W,.nil,H,h,.inl rfl⟩
 | .race a b,W,H,h=>⟨W,.race a b,H,h,.inr (.inr ⟨a,b,rfl⟩)⟩
 | .op i un r,W,H,h=>by
  obtain⟨e,he,hw⟩:=h.walk
  simp only[I6]at hw
  rw[Ξ]at hw
  obtain⟨o,ho,hw⟩:=hw
  obtain⟨d1,d2,d3⟩:=pi h.more h.done
  have Pm:∀u,(i,u)∉W:=fun u hu=>by
   obtain⟨_,_,_,d4⟩:=d1.1
   exact(d4 i (List.mem_map.2 ⟨_,hu,rfl⟩)).1 rfl
  have SK:L i=false:=by
   cases hL:L i with
   |false=>rfl
   |true=>
    have:=h.sub i hL
    simp only[List.mem_map]at this
    obtain⟨⟨j,u⟩,hu,rfl⟩:=this
    exact(Pm u hu).elim
  cases hr:oF o with
  |true=>
   rw[hr]at hw
   obtain⟨v,e',h1,h2,h3⟩:=Um hw
   refine Inv.advance (rest:=r) (W:=(i,v)::W) (H:=H) ⟨?_,h.closed,fun j hj=> ?_,fun X j u Y oj hW hj fM=> ?_,fun j k u u' n oj ok hj hk au lj lk fM cd mj mk hn=> ?_,⟨_,?_,h3⟩,by simpa using d1,by simpa using d3,fun p hp=>List.mem_cons_of_mem _ (h.qA p hp),fun q x oq n hq pO mq hn=>(by
    rcases List.mem_cons.1 hq with e|hq
    ·cases e;rw[ho]at pO;cases pO;rw[xW mq]at hr;cases hr
    ·exact h.early q x oq n hq pO mq hn)⟩
   ·rw[List.filter_cons,SK]
    simpa using h.sat
   ·simp only[List.map_cons,List.mem_cons];exact .inr (h.sub j hj)
   ·cases X with
    |nil=>
     simp only[List.nil_append,List.cons.injEq,Prod.mk.injEq]at hW
     obtain⟨⟨rfl,rfl⟩,rfl⟩:=hW
     rw[ho]at fM;cases fM
     exact .inl ⟨hr,MX he h2⟩
    |cons x X=>
     simp only[List.cons_append,List.cons.injEq]at hW
     exact h.Bi X j u Y oj hW.2 hj fM
   ·have R4:∀{q ok x},ops[q]?=some ok→je ok=true→(q,x)∈(i,v)::W→(q,x)∈W:=fun{q ok x} h1 h2 h3=>by
     rcases List.mem_cons.1 h3 with e|h3
     ·cases e
      rw[ho]at h1;cases h1
      rw[xW h2]at hr;cases hr
     ·exact h3
    exact h.p9 j k u u' n oj ok (R4 fM mj hj) (R4 cd mk hk) au lj lk fM cd mj mk hn
   ·simp only[fD,jc ho]
    exact(h1.trans he).fr _ _
  |false=>
   rw[hr]at hw
   simp only at hw
   cases hm:je o with
   |false=>exact⟨W,.op i un r,H,h,.inr (.inl ⟨i,un,r,o,rfl,ho,hr,hm⟩)⟩
   |true=>
    rw[hm]at hw
    simp only at hw
    rw[ar]at hw
    obtain⟨hD,hw⟩:=hw
    have hD:H.length∉D i:=by simpa using hD
    rcases yb (AT hw)with⟨np,e',h1,h2⟩|⟨np,e',h1,h3⟩
    ·obtain⟨mk,π,lP,h3⟩:=Mv hm h2
     obtain⟨ev,aK⟩:=q_ h.sat.hs π
     obtain⟨vM,y8⟩:=rh lP
     refine Inv.advance (rest:=r) (W:=(i,mk H.length)::W) (H:=H++[π]) ⟨?_,h.closed,fun j hj=> ?_,fun X j u Y oj hW hj fM=> ?_,fun j k u u' n oj ok hj hk au lj lk fM cd mj mk' hn=> ?_,⟨_,?_,h3⟩,by simpa using d1,by simpa using d3,fun p hp=>List.mem_cons_of_mem _ (h.qA p hp),fun q x oq n hq pO mq hn=>(by
      rcases List.mem_cons.1 hq with e|hq
      ·cases e;rw[y8]at hn;cases hn;exact hD
      ·exact h.early q x oq n hq pO mq hn)⟩
     ·rw[List.filter_cons,SK]
      exact h.sat.go ev aK (Below.refl _ _)
     ·simp only[List.map_cons,List.mem_cons];exact .inr (h.sub j hj)
     ·cases X with
      |nil=>
       simp only[List.nil_append,List.cons.injEq,Prod.mk.injEq]at hW
       obtain⟨⟨rfl,rfl⟩,rfl⟩:=hW
       rw[ho]at fM;cases fM
       refine .inr ⟨hm,A0 he (.inl ⟨np,H.length,mk,π,rfl,u5 (fun x _=>vw h1 x) lP,ij,vM,fun _=>h.sat.hs.TX,h.sat.ev.len⟩)⟩
      |cons x X=>
       simp only[List.cons_append,List.cons.injEq]at hW
       refine(h.Bi X j u Y oj hW.2 hj fM).imp (fun h=>⟨h.1,O1 (χ.append _ H [π]).le h.2⟩) fun h=>⟨h.1,yM h.2 (fun n b _ hb _=>by rw[bw (κ hb)];exact hb) fun _ _ _ _ _ h=>h⟩
     ·have yK:∀{q oq x m},(q,x)∈W→L q=false→ops[q]?=some oq→je oq=true→nameOf x=some m→m<H.length:=fun{q oq x m} hq lq pO mq hn=>by
       obtain⟨X,Y,hW⟩:=List.append_of_mem hq
       rcases h.Bi X q x Y oq hW lq pO with h|h
       ·rw[xW mq]at h;cases h.1
       ·obtain⟨π,hb⟩:=Nw h.2 hn
        exact κ hb
      rcases List.mem_cons.1 hj with e1|hj<;>rcases List.mem_cons.1 hk with e2|hk
      ·cases e1;cases e2;exact(au rfl).elim
      ·cases e1
       rw[y8]at hn;cases hn
       exact fun hh=>by have:=yK hk lk cd mk' hh;omega
      ·cases e2
       rw[y8]
       exact fun hh=>by have:=yK hj lj fM mj hn;cases hh;omega
      ·exact h.p9 j k u u' n oj ok hj hk au lj lk fM cd mj mk' hn
     ·simp only[fD,jc ho]
      exact(h1.trans he).fr _ _
    ·refine Inv.advance (rest:=r) (W:=(i,.aq [])::W) (H:=H) ⟨?_,h.closed,fun j hj=> ?_,fun X j u Y oj hW hj fM=> ?_,fun j k u u' n oj ok hj hk au lj lk fM cd mj mk' hn=> ?_,⟨_,?_,h3⟩,by simpa using d1,by simpa using d3,fun p hp=>List.mem_cons_of_mem _ (h.qA p hp),fun q x oq n hq pO mq hn=>(by
      rcases List.mem_cons.1 hq with e|hq
      ·cases e;simp[nameOf]at hn
      ·exact h.early q x oq n hq pO mq hn)⟩
     ·rw[List.filter_cons,SK]
      simpa using h.sat
     ·simp only[List.map_cons,List.mem_cons];exact .inr (h.sub j hj)
     ·cases X with
      |nil=>
       simp only[List.nil_append,List.cons.injEq,Prod.mk.injEq]at hW
       obtain⟨⟨rfl,rfl⟩,rfl⟩:=hW
       rw[ho]at fM;cases fM
       exact .inr ⟨hm,A0 he (.inr ⟨np,rfl⟩)⟩
      |cons x X=>
       simp only[List.cons_append,List.cons.injEq]at hW
       exact h.Bi X j u Y oj hW.2 hj fM
     ·rcases List.mem_cons.1 hj with e1|hj<;>rcases List.mem_cons.1 hk with e2|hk
      ·cases e1;cases e2;exact(au rfl).elim
      ·cases e1;simp[nameOf]at hn
      ·cases e2;simp[nameOf]
      ·exact h.p9 j k u u' n oj ok hj hk au lj lk fM cd mj mk' hn
     ·simp only[fD,jc ho]
      exact(h1.trans he).fr _ _
end
end Go.Proofs.YtcogcbplmkcojaaGreatDoor
namespace Go.Proofs.YtcogcbplmkcojaaGreatDoor
open Go.RowKit
set_option linter.unusedVariables false
set_option linter.unusedSimpArgs false
section
variable {P : Program} {tab : bi} {ops : Array Oper} {ms : List Nat} {D : Nat → List Nat}
theorem C0{listed:Array Bool}(bE:listed.size=ops.size){i:Nat}{o:Oper}(ho:ops[i]?=some o)(hl:listed.getD i false=false)(hb:∀j∈jA o,listed.getD j false=true):i∈Region.ready .any ops listed:=by
 have ω:i<listed.size:=by rw[bE];exact(Array.getElem?_eq_some_iff.1 ho).1
 rw[mem_ready]
 refine⟨?_,o,ho,fun e he XV=>hb e.on ?_⟩
 ·simp only[Array.getD_eq_getD_getElem?,Array.getElem?_eq_getElem ω,Option.getD_some]at hl⊢;exact hl
 ·simp only[jA,List.mem_map,List.mem_filter]
  exact⟨e,⟨by simpa using he,XV⟩,rfl⟩
theorem Dl{listed:Array Bool}(bE:listed.size=ops.size){i:Nat}(h:i∈Region.ready .any ops listed):∃o,ops[i]?=some o∧listed.getD i false=false∧∀j∈jA o,listed.getD j false=true:=by
 rw[mem_ready]at h
 obtain⟨h0,o,ho,bZ⟩:=h
 have ω:i<listed.size:=by rw[bE];exact(Array.getElem?_eq_some_iff.1 ho).1
 refine⟨o,ho,?_,fun j hj=> ?_⟩
 ·simp only[Array.getD_eq_getD_getElem?,Array.getElem?_eq_getElem ω,Option.getD_some]at h0⊢;exact h0
 ·simp only[jA,List.mem_map,List.mem_filter]at hj
  obtain⟨e,⟨h1,h2⟩,rfl⟩:=hj
  exact bZ e (by simpa using h1) h2
theorem Ep{L:Nat→Bool}:∀{W:List (Nat×AV)},(∃e∈W,L e.1=false)→∃X i v Y,W=X++(i,v)::Y∧L i=false∧∀e∈Y,L e.1=true
 |[],h=>by simp at h
 |(j,u)::r,h=>by
  by_cases hr:∃e∈r,L e.1=false
  ·obtain⟨X,i,v,Y,h1,h2,h3⟩:=Ep hr
   exact⟨(j,u)::X,i,v,Y,by rw[h1];rfl,h2,h3⟩
  ·obtain⟨e,he,hl⟩:=h
   rcases List.mem_cons.1 he with rfl|he
   ·exact⟨[],j,u,r,rfl,hl,fun e he=>by
     cases hL:L e.1 with
     |true=>rfl
     |false=>exact(hr ⟨e,he,hL⟩).elim⟩
   ·exact(hr ⟨e,he,hl⟩).elim
theorem JT{x:Ord}{R:List (Nat×Nat)}{done:List Nat}{i:Nat}(h:dy ops ms x R done=true)(hx:x.head=some i):i∉done:=by
 cases x with
 |op k fl r=>
  cases hx
  simp only[dy,Bool.and_eq_true]at h
  obtain⟨h,_⟩:=h
  split at h
  ·simp only[Bool.and_eq_true,List.all_eq_true]at h
   intro hi
   have:=(h.1.2 _ hi).1
   simp at this
  ·cases h
 |nil=>cases hx
 |race=>cases hx
theorem qD{i q:Nat}(hi:i<ops.size):∀{r:Ord} {R:List (Nat×Nat)} {done:List Nat},dy ops ms r R done=true→q∈done→i∉done→
 (ms.getD i 0).testBit q=true∨(∃oq oi,ops[q]?=some oq∧ops[i]?=some oi∧oM ops oq oi=true)∨(q,i)∈R
 | .race a b,R,done,h,hq,hn=>by
  simp only[dy]at h
  split at h
  ·rename_i j i2 hj vQ
   simp only[Bool.and_eq_true]at h
   by_cases e:(q,i)=(j,i2)
   ·rcases qD hi h.2 hq hn with h1|h1|h1
    ·exact .inl h1
    ·exact .inr (.inl h1)
    ·rcases List.mem_cons.1 h1 with e2|h1
     ·cases e;cases e2;exact absurd hq (JT h.2 vQ)
     ·exact .inr (.inr h1)
   ·rcases qD hi h.1.2 hq hn with h1|h1|h1
    ·exact .inl h1
    ·exact .inr (.inl h1)
    ·rcases List.mem_cons.1 h1 with e2|h1
     ·exact(e e2).elim
     ·exact .inr (.inr h1)
  ·cases h
 | .nil,R,done,h,hq,hn=>by
  simp only[dy,List.all_eq_true,List.mem_range]at h
  exact(hn (by simpa using h i hi)).elim
 | .op k fl r,R,done,h,hq,hn=>by
  by_cases hk:k=i
  ·subst hk
   simp only[dy,Bool.and_eq_true]at h
   cases ho:ops[k]?with
   |none=>rw[ho]at h;simp at h
   |some oi=>
    rw[ho]at h
    simp only[Bool.and_eq_true,List.all_eq_true,Bool.or_eq_true]at h
    rcases(h.1.1.2 q hq).2 with(h|h)|h
    ·exact .inl h
    ·refine .inr (.inl ?_)
     split at h
     ·rename_i oq pO;exact⟨oq,oi,pO,rfl,h⟩
     ·cases h
    ·exact .inr (.inr (by simpa using h.1))
  ·simp only[dy,Bool.and_eq_true]at h
   exact qD hi h.2 (by simp[hq]) (by simp[hn];exact fun e=>hk e.symm)
variable {env0 : List (Nat × AV)} {O : lV} {K : St → Prop}
theorem FX{x:Ord}{i:Nat}(hx:x.head=some i):∃fl r,x= .op i fl r:=by
 cases x with
 |op k fl r=>cases hx;exact⟨fl,r,rfl⟩
 |nil=>cases hx
 |race=>cases hx
theorem A7{a b:Ord}{R:List (Nat×Nat)}{done:List Nat}(h:dy ops ms (.race a b) R done=true):
 ∃j fl r i Gw r',a= .op j fl r∧b= .op i Gw r'∧gF ops j=true∧gF ops i=true∧dy ops ms (.op j fl r) ((j,i)::R) done=true∧dy ops ms (.op i Gw r') ((i,j)::R) done=true:=by
 simp only[dy]at h
 split at h
 ·rename_i j i hj hi
  simp only[Bool.and_eq_true]at h
  obtain⟨fl,r,rfl⟩:=FX hj
  obtain⟨Gw,r',rfl⟩:=FX hi
  exact⟨j,fl,r,i,Gw,r',rfl,rfl,h.1.1.1,h.1.1.2,h.1.2,h.2⟩
 ·cases h
theorem uz{j:Nat}(h:gF ops j=true):∃o,ops[j]?=some o∧oF o=false∧je o=false:=by
 unfold gF at h
 split at h
 ·rename_i o ho
  simp only[Bool.and_eq_true,Bool.not_eq_true']at h
  exact⟨o,ho,h.1,h.2⟩
 ·cases h
theorem Inv.uA{L:Nat→Bool}{W:List (Nat×AV)}{rest:Ord}{R:List (Nat×Nat)}{H:AH}{c:Cx}{a:Act}{w:World}(h:Inv P tab ops ms D env0 O K L W rest R H c a w){j:Nat}(hj:j∈W.map Prod.fst)(hc:gF ops j=true):L j=true:=by
 cases hL:L j with
 |true=>rfl
 |false=>
  simp only[List.mem_map]at hj
  obtain⟨⟨j',v⟩,hm,rfl⟩:=hj
  obtain⟨X,Y,hW⟩:=List.append_of_mem hm
  obtain⟨o,ho,h1,h2⟩:=uz hc
  rcases h.Bi X j' v Y o hW hL ho with h3|h3
  ·rw[h1]at h3;cases h3.1
  ·rw[h2]at h3;cases h3.1
theorem Inv.over{Q:Exit→Act→World→Prop}(hK:Good O K (Q .normal)){listed:Array Bool}(bE:listed.size=ops.size){W:List (Nat×AV)}{rest:Ord}{R:List (Nat×Nat)}{H:AH}{c:Cx}{a:Act}{w:World}
 (h:Inv P tab ops ms D env0 O K (fun i=>listed.getD i false) W rest R H c a w) (hr:Region.ready .any ops listed=[]):Q .normal a w:=by
 obtain⟨W,rest,H,h,HX⟩:=h.advance
 have bZ:∀e∈W,listed.getD e.1 false=true:=by
  intro e he
  cases hL:listed.getD e.1 false with
  |true=>rfl
  |false=>
   obtain⟨X,i,v,Y,hW,hi,hY⟩:=Ep (L:=fun i=>listed.getD i false) ⟨e,he,hL⟩
   have hd:=h.done
   rw[hW,List.map_append,List.map_cons]at hd
   obtain⟨⟨oi,ho,hb,_⟩,_⟩:=(rJ hd).1
   have:=C0 bE ho hi fun j hj=>by
    have:=hb j hj
    simp only[List.mem_map]at this
    obtain⟨e',h1,rfl⟩:=this
    exact hY e' h1
   rw[hr]at this
   cases this
 have stuck:∀{q fl r R'},dy ops ms (.op q fl r) R' (W.map Prod.fst)=true→False:=by
  intro q fl r R' y9
  obtain⟨d1,d2,d3⟩:=pi y9 h.done
  obtain⟨⟨Ku,jE,hb,au⟩,_⟩:=d1
  have xr:listed.getD q false=false:=by
   cases hL:listed.getD q false with
   |false=>rfl
   |true=>exact((au q (h.sub q hL)).1 rfl).elim
  have:=C0 bE jE xr fun j hj=>by
   have:=hb j hj
   simp only[List.mem_map]at this
   obtain⟨e',h1,rfl⟩:=this
   exact bZ e' h1
  rw[hr]at this
  cases this
 rcases HX with rfl|⟨q,fl,r,oq,rfl,ho,hq,y5⟩|⟨ra,rb,rfl⟩
 ·obtain⟨e,he,hw⟩:=h.walk
  have hf:W.filter (fun e=>listed.getD e.1 false)=W:=List.filter_eq_self.2 bZ
  have hs:=h.sat
  rw[hf]at hs
  exact hK _ c a w (hs.R8 he) hw
 ·exact(stuck h.more).elim
 ·obtain⟨j,fl,r,i,Gw,r',rfl,rfl,_,_,h1,_⟩:=A7 h.more
  exact(stuck h1).elim
theorem Inv.Oq(hT:bl P tab)(uO:AQ ops ms)(qh:∀(i:Nat) o,ops[i]?=some o→l_ O.N o=true){L L':Nat→Bool}{W:List (Nat×AV)}{rest:Ord}{R0 R:List (Nat×Nat)}{H:AH}{c:Cx}{a:Act}{w:World}
 (h:Inv P tab ops ms D env0 O K L W rest R0 H c a w) {i:Nat} {o:Oper} {un:List Nat} {r:Ord} (ho:ops[i]?=some o) (hl:L i=false) (hb:∀j∈jA o,L j=true) (eH:L' i=true) (nr:∀j,j≠i→L' j=L j)
 (hq:oF o=false) (y5:je o=false) (hW:i∉W.map Prod.fst) (Uv:∃e,gi e (fD ops env0 W)∧uJ tab (γ P) ops D (.op i un r) ⟨e,H⟩ K) (y9:dy ops ms (.op i un r) R (W.map Prod.fst)=true) (Ux:∀p∈R,p.1=i∨p.1∈W.map Prod.fst)
 {next:Act→World→Prop} {Q:Exit→Act→World→Prop} (hn:∀W rest R H c a w,Inv P tab ops ms D env0 O K L' W rest R H c a w→next a w):
 if Region.wanted o (yielded ops a.tmps)then o.wp P a w next Q else next (a.put o.dst undef) w:=by
 have GM:∀j,(ms.getD i 0).testBit j=true→L j=true:=fun j hj=>uO i j hj L h.closed fun o' jE k hk=>by rw[ho]at jE;cases jE;exact hb k hk
 have Ub:∀k j,L k=true→(ms.getD k 0).testBit j=true→L j=true:=fun k j hk hj=>uO k j hj L h.closed fun o' jE q hq=>h.closed k o' jE hk q hq
 have up:∀j,L j=true→L' j=true:=fun j hj=>by
  by_cases e:j=i
  ·subst e;exact eH
  ·rw[nr j e];exact hj
 have bn:zP ops L':=fun k ok hk BG j hj=>by
  by_cases e:k=i
  ·subst e;rw[ho]at hk;cases hk;exact up j (hb j hj)
  ·rw[nr k e]at BG;exact up j (h.closed k ok hk BG j hj)
 have ω:i<ops.size:=(Array.getElem?_eq_some_iff.1 ho).1
 obtain⟨d1,d2,d3⟩:=pi y9 h.done
 have T5:=d1
 obtain⟨⟨Ku,jE,XT,au⟩,_⟩:=d1
 rw[ho]at jE;cases jE
 obtain⟨e,he,hw⟩:=Uv
 simp only[I6]at hw
 rw[Ξ]at hw
 obtain⟨o',jE,hw⟩:=hw
 rw[ho]at jE;cases jE
 rw[hq,y5]at hw
 simp only at hw
 have kK:Same ops o e (fD ops env0 (W.filter fun e=>L e.1)):=FR fun t ht=>by
  rw[he t,sH fun e' lR hs=> ?_]
  rcases(au e'.1 (List.mem_map.2 ⟨e',lR,rfl⟩)).2 with gZ|⟨oj,a2,a3⟩|so
  ·exact GM _ gZ
  ·rw[jc a2]at hs
   exact((apart_spec a3).2.1 t hs ht).elim
  ·exact h.uA (List.mem_map.2 ⟨e',lR,rfl⟩) so
 refine Rn hT hw kK (qh i o ho) h.sat fun v c' H' a' w' e' aK iT lR hk=> ?_
 obtain⟨hle,fW⟩:=hk
 have so:gF ops i=true:=by unfold gF;rw[ho];simp only[hq,y5];rfl
 have Pm:∀e∈W,e.1≠i:=fun e he e'=>hW (List.mem_map.2 ⟨e,he,e'⟩)
 refine hn ((i,v)::W) r R H' c' a' w' ⟨?_,bn,fun j hj=> ?_,fun X' j u Y' oj uU hj fM=> ?_,fun j k u u' n oj ok hj hk au lj lk fM cd mj mk' K7=> ?_,⟨_,?_,fW⟩,by simpa using T5,by simpa using d3,fun p hp=>(Ux p hp).elim (fun e=>(by simp[e])) (fun e=>List.mem_cons_of_mem _ e),fun q' x Ku n DW N2 R5 Xs=>(by
  rcases List.mem_cons.1 DW with e|DW
  ·cases e;rw[ho]at N2;cases N2;rw[y5]at R5;cases R5
  ·exact h.early q' x Ku n DW N2 R5 Xs)⟩
 ·have hf:W.filter (fun e=>L' e.1)=W.filter fun e=>L e.1:=List.filter_congr fun e he=>nr e.1 (Pm e he)
  rw[List.filter_cons,eH,if_pos rfl,hf]
  simp only[fD,jc ho]
  exact aK
 ·simp only[List.map_cons,List.mem_cons]
  by_cases e:j=i
  ·exact .inl e
  ·rw[nr j e]at hj;exact .inr (h.sub j hj)
 ·cases X' with
  |nil=>
   simp only[List.nil_append,List.cons.injEq,Prod.mk.injEq]at uU
   obtain⟨⟨rfl,rfl⟩,rfl⟩:=uU
   rw[eH]at hj;cases hj
  |cons x X'=>
   simp only[List.cons_append,List.cons.injEq]at uU
   have SZ:(j,u)∈W:=by rw[uU.2];simp
   have e:j≠i:=Pm _ SZ
   rw[nr j e]at hj
   have Vi:j∈W.map Prod.fst:=List.mem_map.2 ⟨_,SZ,rfl⟩
   have Xg:j∈un:=by
    rcases d2 so j Vi with h1|h1|h1
    ·have:=GM _ h1;rw[hj]at this;cases this
    ·have:=h.uA Vi h1;rw[hj]at this;cases this
    ·exact h1
   have hle:=hle j Xg
   exact(h.Bi X' j u Y' oj uU.2 hj fM).imp (fun o=>⟨o.1,O1 hle.le o.2⟩) fun o=>⟨o.1,yM o.2 (fun n b hn hb vM=>by
    have hD:=h.early j u oj n SZ fM o.1 hn
    have h1:=uj (D j) hb
    rw[if_neg hD]at h1
    exact(hle n b h1).resolve_left vM) fun n π _ hb hf hg=>iT n π hb hf hg⟩
 ·have e1:j≠i:=fun e=>by rw[e,eH]at lj;cases lj
  have e2:k≠i:=fun e=>by rw[e,eH]at lk;cases lk
  rw[nr j e1]at lj
  rw[nr k e2]at lk
  have U2:∀{q x},q≠i→(q,x)∈(i,v)::W→(q,x)∈W:=fun{q x} hq hx=>by
   rcases List.mem_cons.1 hx with e|hx
   ·cases e;exact(hq rfl).elim
   ·exact hx
  exact h.p9 j k u u' n oj ok (U2 e1 hj) (U2 e2 hk) au lj lk fM cd mj mk' K7
 ·simp only[fD,jc ho]
  exact(lR.trans he).fr _ _
theorem Inv.step(hT:bl P tab)(uO:AQ ops ms)(qh:∀(i:Nat) o,ops[i]?=some o→l_ O.N o=true){L L':Nat→Bool}{W:List (Nat×AV)}{rest:Ord}{R:List (Nat×Nat)}{H:AH}{c:Cx}{a:Act}{w:World}
 (h:Inv P tab ops ms D env0 O K L W rest R H c a w) {i:Nat} {o:Oper} (ho:ops[i]?=some o) (hl:L i=false) (hb:∀j∈jA o,L j=true) (eH:L' i=true) (nr:∀j,j≠i→L' j=L j)
 {next:Act→World→Prop} {Q:Exit→Act→World→Prop} (hn:∀W rest R H c a w,Inv P tab ops ms D env0 O K L' W rest R H c a w→next a w):
 if Region.wanted o (yielded ops a.tmps)then o.wp P a w next Q else next (a.put o.dst undef) w:=by
 obtain⟨W,rest,H,h,HX⟩:=h.advance
 have GM:∀j,(ms.getD i 0).testBit j=true→L j=true:=fun j hj=>uO i j hj L h.closed fun o' jE k hk=>by rw[ho]at jE;cases jE;exact hb k hk
 have Ub:∀k j,L k=true→(ms.getD k 0).testBit j=true→L j=true:=fun k j hk hj=>uO k j hj L h.closed fun o' jE q hq=>h.closed k o' jE hk q hq
 have up:∀j,L j=true→L' j=true:=fun j hj=>by
  by_cases e:j=i
  ·subst e;exact eH
  ·rw[nr j e];exact hj
 have bn:zP ops L':=fun k ok hk BG j hj=>by
  by_cases e:k=i
  ·subst e;rw[ho]at hk;cases hk;exact up j (hb j hj)
  ·rw[nr k e]at BG;exact up j (h.closed k ok hk BG j hj)
 by_cases hW:i∈W.map Prod.fst
 ·simp only[List.mem_map]at hW
  obtain⟨⟨i',v⟩,hm,rfl⟩:=hW
  obtain⟨X,Y,rfl⟩:=List.append_of_mem hm
  simp only at ho hl hb eH nr GM
  have ob:=h.Bi X i' v Y o rfl hl ho
  have hd:=h.done
  rw[List.map_append,List.map_cons]at hd
  obtain⟨⟨⟨oi,jE,aD,hY⟩,_⟩,hX⟩:=rJ hd
  rw[ho]at jE;cases jE
  have Vt:∀e∈X,∀t,dc ops e.1=some t→(t∈o.looksAt ops∨o.dst=some t)→L e.1=false:=fun e he t hs ht=>by
   cases hL:L e.1 with
   |false=>rfl
   |true=>
    rcases(hX e.1 (List.mem_map.2 ⟨e,he,rfl⟩)).2 with gZ|⟨oi,ok,a1,a2,a3⟩|so
    ·have:=Ub _ _ hL gZ
     rw[hl]at this;cases this
    ·rw[ho]at a1;cases a1
     rw[jc a2]at hs
     obtain⟨_,_,b3⟩:=apart_spec a3
     rcases ht with ht|ht
     ·exact((b3 t hs).1 ht).elim
     ·exact((b3 t hs).2 ht).elim
    ·have:=h.uA (j:=i') (by simp) so
     rw[hl]at this;cases this
  have XX:∀e∈Y,∀t,dc ops e.1=some t→t∈o.looksAt ops→L e.1=true:=fun e he t hs ht=>by
   rcases(hY e.1 (List.mem_map.2 ⟨e,he,rfl⟩)).2 with gZ|⟨oj,a2,a3⟩|so
   ·exact GM _ gZ
   ·rw[jc a2]at hs
    exact((apart_spec a3).2.1 t hs ht).elim
   ·exact h.uA (List.mem_map.2 ⟨e,by simp[he],rfl⟩) so
  have kK:Same ops o (fD ops env0 Y) (fD ops env0 ((X++(i',v)::Y).filter fun e=>L e.1)):=FR fun t ht=>by
   rw[vD fun e he hs=>Vt e he t hs (.inl ht),List.filter_cons,hl]
   simp only[Bool.false_eq_true,if_false]
   rw[sH fun e he hs=>XX e he t hs ht]
  have go:∀c' a' w',Sat O c' ⟨fr o.dst v (fD ops env0 ((X++(i',v)::Y).filter fun e=>L e.1)),H⟩ a' w'→
   (∀X' j u Y' oj,X++(i',v)::Y=X'++(j,u)::Y'→j≠i'→L j=false→ops[j]?=some oj→je oj=true→zJ tab ops O (D j) oj (fD ops env0 Y') H c u→zJ tab ops O (D j) oj (fD ops env0 Y') H c' u)→next a' w':=by
   intro c' a' w' aK hM
   refine hn (X++(i',v)::Y) rest R H c' a' w' ⟨?_,bn,fun j hj=> ?_,fun X' j u Y' oj uU hj fM=> ?_,fun j k u u' n oj ok hj hk au lj lk fM cd mj mk' K7=> ?_,h.walk,h.done,h.more,h.qA,h.early⟩
   ·refine aK.R8 ?_
    have:=xl (ops:=ops) (env0:=env0) (v:=v) hl eH nr (Y:=Y) (fun e he=>fun e'=>(hY e.1 (List.mem_map.2 ⟨e,he,rfl⟩)).1 e'.symm) (X:=X) (fun e he=>(hX e.1 (List.mem_map.2 ⟨e,he,rfl⟩)).1)
     (fun e he t h1 h2=>Vt e he t h1 (.inr (by rw[←jc ho];exact h2)))
    rw[jc ho]at this
    exact this
   ·by_cases e:j=i'
    ·subst e;simp
    ·rw[nr j e]at hj;exact h.sub j hj
   ·have e:j≠i':=fun e=>by rw[e,eH]at hj;cases hj
    rw[nr j e]at hj
    exact(h.Bi X' j u Y' oj uU hj fM).imp id fun k=>⟨k.1,hM X' j u Y' oj uU e hj fM k.1 k.2⟩
   ·have e1:j≠i':=fun e=>by rw[e,eH]at lj;cases lj
    have e2:k≠i':=fun e=>by rw[e,eH]at lk;cases lk
    rw[nr j e1]at lj
    rw[nr k e2]at lk
    exact h.p9 j k u u' n oj ok hj hk au lj lk fM cd mj mk' K7
  rcases ob with⟨Zu,ob⟩|⟨lP,ob⟩
  ·exact QG hT ob kK (qh i' o ho) h.sat fun c' a' w' aK iT=>go c' a' w' aK fun X' j u Y' oj _ _ _ _ _ k=>yM k (fun _ _ _ hb _=>hb) fun n π _ hb hf hg=>iT n π hb hf hg
  ·refine Nv hT ob kK (qh i' o ho) h.sat fun c' a' w' aK iT=>go c' a' w' aK fun X' j u Y' oj uU hj lj fM mj k=>yM k (fun _ _ _ hb _=>hb) fun n π hn hb hf hg=>iT n (fun hv=> ?_) hg
   exact h.p9 i' j v u n o oj (by simp) (by rw[uU];simp) (Ne.symm hj) hl lj ho fM lP mj hv hn
 ·have ω:i<ops.size:=(Array.getElem?_eq_some_iff.1 ho).1
  have other:∀{q fl r R' oq},dy ops ms (.op q fl r) R' (W.map Prod.fst)=true→ops[q]?=some oq→oF oq=false→je oq=false→i≠q→((q,i)∈R'→q∈W.map Prod.fst)→False:=by
   intro q fl r R' oq y9 pO hq y5 Pq hR
   obtain⟨d1,d2,d3⟩:=pi y9 h.done
   obtain⟨⟨Ku,jE,XT,au⟩,_⟩:=d1
   rcases qD (q:=q) ω d3 (by simp) (by simp only[List.mem_cons,not_or];exact⟨Pq,hW⟩)with h1|⟨Ku,oi,a1,a2,a3⟩|h1
   ·exact(au q (h.sub q (GM _ h1))).1 rfl
   ·rw[pO]at a1;cases a1
    have:=(apart_spec a3).1
    rw[hq,y5]at this;cases this
   ·exact(au q (hR h1)).1 rfl
  rcases HX with rfl|⟨q,fl,r,oq,rfl,pO,hq,y5⟩|⟨ra,rb,rfl⟩
  ·have:=h.more
   simp only[dy,List.all_eq_true,List.mem_range]at this
   exact(hW (by simpa using this i ω)).elim
  ·by_cases Pq:i=q
   ·subst Pq
    rw[ho]at pO;cases pO
    exact h.Oq hT uO qh ho hl hb eH nr hq y5 hW h.walk h.more (fun p hp=> .inr (h.qA p hp)) hn
   ·exact(other h.more pO hq y5 Pq (fun hR=>h.qA _ hR)).elim
  ·obtain⟨j,fl,r,k,Gw,r',rfl,rfl,c1,c2,h1,h2⟩:=A7 h.more
   obtain⟨oj,fM,rC,sk⟩:=uz c1
   obtain⟨ok,cd,cZ,et⟩:=uz c2
   obtain⟨e,he,W9,pM⟩:=h.walk
   by_cases Pr:i=j
   ·subst Pr
    rw[ho]at fM;cases fM
    exact h.Oq hT uO qh ho hl hb eH nr rC sk hW ⟨e,he,W9⟩ h1 (fun p hp=>by
     rcases List.mem_cons.1 hp with e|hp
     ·exact .inl (by rw[e])
     ·exact .inr (h.qA p hp)) hn
   ·by_cases Vk:i=k
    ·subst Vk
     rw[ho]at cd;cases cd
     exact h.Oq hT uO qh ho hl hb eH nr cZ et hW ⟨e,he,pM⟩ h2 (fun p hp=>by
      rcases List.mem_cons.1 hp with e|hp
      ·exact .inl (by rw[e])
      ·exact .inr (h.qA p hp)) hn
    ·refine(other h1 fM rC sk Pr fun hR=> ?_).elim
     rcases List.mem_cons.1 hR with e|hR
     ·cases e;exact(Vk rfl).elim
     ·exact h.qA _ hR
end
end Go.Proofs.YtcogcbplmkcojaaGreatDoor
namespace Go.Proofs.YtcogcbplmkcojaaGreatDoor
open Go.RowKit
set_option linter.unusedVariables false
set_option linter.unusedSimpArgs false
section
variable {P : Program} {tab : bi} {ops : Array Oper} {ms : List Nat} {D : Nat → List Nat} {env0 : List (Nat × AV)} {O : lV} {K : St → Prop}
theorem Inv.main(hT:bl P tab)(uO:AQ ops ms)(qh:∀(i:Nat) o,ops[i]?=some o→l_ O.N o=true){Q:Exit→Act→World→Prop}(hK:Good O K (Q .normal)):
 ∀(kl:Nat) (listed:Array Bool) (W:List (Nat×AV)) (rest:Ord) (R:List (Nat×Nat)) (H:AH) (c:Cx) (a:Act) (w:World),listed.size=ops.size→(List.range ops.size).countP (fun i=> !listed.getD i false)≤kl→
  Inv P tab ops ms D env0 O K (fun i=>listed.getD i false) W rest R H c a w→wpAny P .any ops Q kl listed a w:=by
 intro kl
 induction kl with
 |zero=>
  intro listed W rest R H c a w bE hc h
  have hr:Region.ready .any ops listed=[]:=by
   refine List.eq_nil_iff_forall_not_mem.2 fun i hi=> ?_
   obtain⟨o,ho,hl,_⟩:=Dl bE hi
   have ω:i<ops.size:=(Array.getElem?_eq_some_iff.1 ho).1
   have:0<(List.range ops.size).countP fun i=> !listed.getD i false:=List.countP_pos_iff.2 ⟨i,by simpa using ω,by rw[hl];rfl⟩
   omega
  exact⟨hr,h.over hK bE hr⟩
 |succ kl ih=>
  intro listed W rest R H c a w bE hc h
  refine⟨fun hr=>h.over hK bE hr,fun i hi=> ?_⟩
  obtain⟨o,ho,hl,hb⟩:=Dl bE hi
  have ω:i<ops.size:=(Array.getElem?_eq_some_iff.1 ho).1
  have Ay:i<listed.size:=by omega
  have Pc:(listed.setIfInBounds i true).getD i false=true:=by
   simp[Array.getD_eq_getD_getElem?,Array.getElem?_setIfInBounds_self_of_lt Ay]
  have K6:∀j,j≠i→(listed.setIfInBounds i true).getD j false=listed.getD j false:=fun j hj=>getD_set_ne false (Ne.symm hj)
  have XN:(List.range ops.size).countP (fun i=> !listed.getD i false)=(List.range ops.size).countP (fun j=> !(listed.setIfInBounds i true).getD j false)+1:=
   zq (i:=i) (by simp only[hl];rfl) (by simp only[Pc];rfl) (fun j hj=>by simp only[K6 j hj]) List.nodup_range (by simpa using ω)
  have:=h.step hT uO qh ho hl hb (L':=fun j=>(listed.setIfInBounds i true).getD j false) Pc K6 (Q:=Q) (next:=wpAny P .any ops Q kl (listed.setIfInBounds i true))
   fun W rest R H c a w hinv=>ih _ W rest R H c a w (by simpa using bE) (by omega) hinv
  unfold wpOp
  rw[ho]
  simp only
  split
  ·rename_i hw;rw[if_pos hw]at this;exact .inl this
  ·rename_i hw;rw[if_neg hw]at this;exact this
end
section
variable {P : Program} {tab : bi}
theorem Sat.drawn{O c s a w}(h:Sat O c s a w)(n:Nat):Sat O c s a {w with drawn:=n}:=by
 have ev:Ev w c s.H {w with drawn:=n} c s.H:=by
  refine⟨rfl,Nat.le_refl _,fun b π hb=>⟨π,hb,?_⟩,fun cb hm=> .inl hm,fun _ _ _=>rfl,fun _ _ _ _ h=>h⟩
  cases π with
  |dead=>trivial
  |box cs=>exact⟨rfl,fun _ h=>h⟩
  |iter s p=>exact⟨rfl,fun _ h=>h⟩
  |arr e s z g l=>exact⟨rfl,rfl,rfl,Nat.le_refl _,Nat.le_refl _,fun _=>⟨rfl,fun _ h=>⟨h,rfl⟩⟩⟩
 have hs:HS {w with drawn:=n} c s.H O.B:=h.hs.az ev h.hs.inj h.hs.base h.hs.kz (fun b cb cells hb hg=> .inl ⟨hb,hg,rfl⟩) (fun b cb e s z g l hb hg=> .inl ⟨hb,hg,rfl⟩) (fun b cb s p hb hg=> .inl ⟨hb,hg,rfl⟩)
 exact h.go ev hs ⟨rfl,rfl,rfl,Nat.le_refl _,fun _ _=>rfl⟩
def M4(P:Program)(tab:bi):uG:=fun ops s K=>∃D σ,dy ops (uc ops) σ [] []=true∧uJ tab (γ P) ops D σ s K
theorem FW(hT:bl P tab)(hm:P.follows .mixedOrders=true):zI P tab (M4 P tab):=by
 intro O id ops s K h qh c a w R hs hK
 obtain⟨D,σ,Y6,hw⟩:=h
 obtain⟨env0,H⟩:=s
 refine wp_region_any hm ?_
 have SB:∀i,(Array.replicate ops.size false).getD i false=false:=fun i=>by
  simp only[Array.getD_eq_getD_getElem?,Array.getElem?_replicate]
  split<;>rfl
 refine Inv.main (env0:=env0) (O:=O) (K:=K) hT (ND ops) (fun i o ho=> ?_) hK ops.size _ [] σ [] H c a _ (by simp) ?_ ⟨?_,fun i o _ hl=> ?_,fun i hl=> ?_,fun X i v Y o hW=> ?_,fun i j v u n oi oj hi=>(by cases hi),⟨env0,.refl _,hw⟩,trivial,Y6,fun p hp=>(by cases hp),fun i v o n hi=>(by cases hi)⟩
 ·rw[List.all_eq_true]at qh
  exact qh o (List.mem_of_getElem? (by rw[Array.getElem?_toList];exact ho))
 ·refine Nat.le_trans List.countP_le_length (by simp)
 ·exact hs.drawn _
 ·simp only[SB]at hl;cases hl
 ·simp only[SB]at hl;cases hl
 ·cases X<;>cases hW
end
end Go.Proofs.YtcogcbplmkcojaaGreatDoor
namespace Go.Proofs.YtcogcbplmkcojaaGreatDoor
open Go.RowKit
set_option linter.unusedVariables false
end Go.Proofs.YtcogcbplmkcojaaGreatDoor
namespace Go.Proofs.YtcogcbplmkcojaaGreatDoor
open Go.RowKit
set_option linter.unusedVariables false
set_option linter.unusedSimpArgs false
def nF:List Nat→Nat→Nat→Option Nat
 |[],_,_=>none
 |k::r,b,i=>match Nat.beq k b with|true=>some i|false=>nF r b (i+1)
theorem uu:∀{az:List Nat} {b i j:Nat},nF az b i=some j→i≤j∧az[j - i]?=some b
 |[],b,i,j,h=>by simp[nF]at h
 |k::r,b,i,j,h=>by
  simp only[nF]at h
  split at h
  ·rename_i hb
   cases h
   rw[Nat.eq_of_beq_eq_true hb]
   exact⟨Nat.le_refl _,by simp⟩
  ·obtain⟨h1,h2⟩:=uu h
   refine⟨by omega,?_⟩
   rw[show j - i=(j - (i+1))+1 by omega]
   simpa using h2
def qd(k0 b g:Nat):Nat:=match Nat.blt b k0 with|true=>g|false=>0
theorem Dq(k0 b g:Nat)(h:qd k0 b g%2=1):g%2=1:=by
 unfold qd at h
 split at h
 ·exact h
 ·simp at h
mutual
def dq(k0:Nat):Nat→List Nat→AH→AV→Option AV
 |0,_,_,_=>none
 |k+1,az,H,v=>
  match v with
  | .t x=>some (.t x)
  | .ptr b g i o=>
   match nF az b 0 with
   |some b'=>
    (match H[b]?with
    |some (.arr _ _ _ gen _)=>(match Nat.beq g gen with|true=>some (.ptr b' (qd k0 b' g) i o)|false=>none)
    |some (.box _)=>some (.ptr b' g i o)
    |some (.iter _ _)=>some (.ptr b' g i o)
    |_=>none)
   |none=>none
  | .sl b g i n=>
   match nF az b 0 with
   |some b'=>
    (match H[b]?with
    |some (.arr _ _ _ gen _)=>(match Nat.beq g gen with|true=>some (.sl b' (qd k0 b' g) i n)|false=>none)
    |_=>none)
   |none=>none
  | .agg cs=>match ib k0 k az H cs with|some cs=>some (.agg cs)|none=>none
  | .aq cs=>match ib k0 k az H cs with|some cs=>some (.aq cs)|none=>none
  | .fn f a b=>match ib k0 k az H a,ib k0 k az H b with|some a,some b=>some (.fn f a b)|_,_=>none
  | .cG t v=>match dq k0 k az H v with|some v=>some (.cG t v)|none=>none
  | .dx=>some .dx
  | .bq=>some .bq
  | .own _ _ _ _=>none
def ib(k0:Nat):Nat→List Nat→AH→List AV→Option (List AV)
 |0,_,_,_=>none
 |_+1,_,_,[]=>some []
 |k+1,az,H,v::r=>match dq k0 k az H v,ib k0 k az H r with|some v,some r=>some (v::r)|_,_=>none
end
def ff(k0:Nat)(az:List Nat)(H:AH)(i:Nat):Ω→Option Ω
 | .dead=>some .dead
 | .box cells=>(ib k0 64 az H cells).map .box
 | .iter s p=>some (.iter s p)
 | .arr e s z g (.ts l)=>some (.arr e s z (qd k0 i g) (.ts l))
 | .arr e s z g (.vs l)=>(ib k0 64 az H l).map fun l=> .arr e s z (qd k0 i g) (.vs l)
theorem jP{k0:Nat}:∀(k:Nat) {az:List Nat} {H:AH} {l l':List AV},ib k0 k az H l=some l'→l'.length=l.length∧∀(i:Nat) x',l'[i]?=some x'→∃x m,l[i]?=some x∧m<k∧dq k0 m az H x=some x'
 |0,az,H,l,l',h=>by simp[ib]at h
 |k+1,az,H,[],l',h=>by simp[ib]at h;subst h;simp
 |k+1,az,H,v::r,l',h=>by
  simp only[ib]at h
  split at h
  ·rename_i v' r' hv hr
   cases h
   obtain⟨h1,h2⟩:=jP k hr
   refine⟨by simp[h1],fun i x hi=> ?_⟩
   cases i with
   |zero=>simp at hi;subst hi;exact⟨v,k,rfl,Nat.lt_succ_self k,hv⟩
   |succ i=>
    simp at hi
    obtain⟨x0,m,a1,a2,a3⟩:=h2 i x hi
    exact⟨x0,m,a1,by omega,a3⟩
  ·cases h
theorem tM{k0 k:Nat}{az:List Nat}{H:AH}{v v':AV}(h:dq k0 k az H v=some v')(h1:v.one=true):v'.one=true:=by
 cases k with
 |zero=>simp[dq]at h
 |succ k=>
  cases v<;>simp only[dq]at h
  ·cases h;exact h1
  ·split at h
   ·split at h
    ·split at h<;>first|(cases h;rfl)|cases h
    ·cases h;rfl
    ·cases h;rfl
    ·cases h
   ·cases h
  ·split at h
   ·split at h
    ·split at h<;>first|(cases h;rfl)|cases h
    ·cases h
   ·cases h
  ·simp[AV.one]at h1
  ·simp[AV.one]at h1
  ·split at h<;>first|(cases h;rfl)|cases h
  ·split at h<;>first|(cases h;rfl)|cases h
  ·cases h
  ·cases h;rfl
  ·simp[AV.one]at h1
structure Kept(k0:Nat)(c:Cx)(H:AH)(az:List Nat)(c':Cx)(H':AH):Prop where
 M:∀cb,c'.M H' cb→c.M H cb
 at_:∀(i:Nat) b,az[i]?=some b→c'.G i=c.G b∧∃π aA,H[b]?=some π∧H'[i]?=some aA∧ff k0 az H i π=some aA
theorem RA.lC{k0:Nat}{w:World}{c:Cx}{H:AH}{az:List Nat}{c':Cx}{H':AH}(hk:Kept k0 c H az c' H'){x:AV}{v:Value}(h:RA w c H x v):∀{k:Nat} {x':AV},dq k0 k az H x=some x'→RA w c' H' x' v:=by
 have list:∀{l l':List AV} {vs:Nat→Option Value} {k:Nat},(∀(i:Nat) x v,l[i]?=some x→vs i=some v→∀{k:Nat} {x':AV},dq k0 k az H x=some x'→RA w c' H' x' v)→ib k0 k az H l=some l'→
  l'.length=l.length∧(∀(i:Nat) x v,l'[i]?=some x→vs i=some v→RA w c' H' x v):=by
  intro l l' vs k ih h
  obtain⟨h1,h2⟩:=jP k h
  refine⟨h1,fun i x v hi hv=> ?_⟩
  obtain⟨x0,m,a1,a2,a3⟩:=h2 i x hi
  exact ih i x0 v a1 hv a3
 induction h with
 |t x v h=>
  intro k x' hx
  cases k with
  |zero=>simp[dq]at hx
  |succ k=>simp only[dq]at hx;cases hx;exact .t x v (h.mono fun b _ hb=>⟨rfl,fun hm=>hb (hk.M b hm)⟩)
 |ptr b g i o v π hb hm hv=>
  intro k x' hx
  cases k with
  |zero=>simp[dq]at hx
  |succ k=>
   simp only[dq]at hx
   split at hx
   ·rename_i b' hf
    obtain⟨_,hf⟩:=uu hf
    obtain⟨hG,ql,aA,h1,h2,h3⟩:=hk.at_ b' b (by simpa using hf)
    rw[hb]at h1;cases h1
    rw[hb]at hx
    cases π with
    |dead=>simp at hx
    |box cells=>
     simp only[ff,Option.map_eq_some_iff]at h3
     obtain⟨cs,_,rfl⟩:=h3
     simp only at hx
     cases hx
     exact .ptr b' g i o v _ h2 (by rw[hG];exact hm) hv
    |iter s p=>
     simp only[ff,Option.some.injEq]at h3
     subst h3
     simp only at hx
     cases hx
     exact .ptr b' g i o v _ h2 (by rw[hG];exact hm) hv
    |arr e s z gen l=>
     simp only at hx
     split at hx
     ·rename_i gh
      cases hx
      have gh:=Nat.eq_of_beq_eq_true gh
      subst gh
      have:∃l',aA= .arr e s z (qd k0 b' g) l':=by
       cases l with
       |ts l=>simp[ff]at h3;exact⟨_,h3.symm⟩
       |vs l=>
        simp only[ff,Option.map_eq_some_iff]at h3
        obtain⟨l',_,rfl⟩:=h3
        exact⟨_,rfl⟩
      obtain⟨l',rfl⟩:=this
      exact .ptr b' _ i o v _ h2 ⟨Nat.le_refl _,fun _=>by rw[hG];exact hm.2 rfl⟩ hv
     ·cases hx
   ·cases hx
 |sl b g i len v π hb hm hv=>
  intro k x' hx
  cases k with
  |zero=>simp[dq]at hx
  |succ k=>
   simp only[dq]at hx
   split at hx
   ·rename_i b' hf
    obtain⟨_,hf⟩:=uu hf
    obtain⟨hG,ql,aA,h1,h2,h3⟩:=hk.at_ b' b (by simpa using hf)
    rw[hb]at h1;cases h1
    rw[hb]at hx
    cases π with
    |dead=>simp at hx
    |box cells=>exact hm.elim
    |iter=>exact hm.elim
    |arr e s z gen l=>
     simp only at hx
     split at hx
     ·rename_i gh
      cases hx
      have gh:=Nat.eq_of_beq_eq_true gh
      subst gh
      have:∃l',aA= .arr e s z (qd k0 b' g) l'∧l'.length=l.length:=by
       cases l with
       |ts l=>simp[ff]at h3;exact⟨_,h3.symm,rfl⟩
       |vs l=>
        simp only[ff,Option.map_eq_some_iff]at h3
        obtain⟨l',hl,rfl⟩:=h3
        exact⟨_,rfl,(jP _ hl).1⟩
      obtain⟨l',rfl,hl⟩:=this
      refine .sl b' _ i len v _ h2 ⟨Nat.le_refl _,fun _=> ?_⟩ hv
      simp only[hl,hG];exact hm.2 rfl
     ·cases hx
   ·cases hx
 |agg cs vs hl h1 hr ih=>
  intro k x' hx
  cases k with
  |zero=>simp[dq]at hx
  |succ k=>
   simp only[dq]at hx
   split at hx
   ·rename_i kA lS
    cases hx
    obtain⟨a1,a2⟩:=list (vs:=fun i=>vs[i]?) (fun i x v hi hv=>ih i x v hi hv) lS
    refine .agg kA vs (by omega) (fun i x hi=> ?_) a2
    obtain⟨x0,m,b1,_,b3⟩:=(jP _ lS).2 i x hi
    exact tM b3 (h1 i x0 b1)
   ·cases hx
 |aq cs vs hl hr ih=>
  intro k x' hx
  cases k with
  |zero=>simp[dq]at hx
  |succ k=>
   simp only[dq]at hx
   split at hx
   ·rename_i kA lS
    cases hx
    obtain⟨a1,a2⟩:=list (vs:=fun i=>vs[i]?) (fun i x v hi hv=>ih i x v hi hv) lS
    exact .aq kA vs (by omega) a2
   ·cases hx
 |fn f first captured a b ha hb db Bz nk nj=>
  intro k x' hx
  cases k with
  |zero=>simp[dq]at hx
  |succ k=>
   simp only[dq]at hx
   split at hx
   ·rename_i a' b' h1 h2
    cases hx
    obtain⟨a1,a2⟩:=list (vs:=fun i=>a[i]?) (fun i x v hi hv=>nk i x v hi hv) h1
    obtain⟨b1,b2⟩:=list (vs:=fun i=>b[i]?) (fun i x v hi hv=>nj i x v hi hv) h2
    exact .fn f a' b' a b (by omega) (by omega) a2 b2
   ·cases hx
 |cG t x v h ih=>
  intro k x' hx
  cases k with
  |zero=>simp[dq]at hx
  |succ k=>
   simp only[dq]at hx
   split at hx
   ·rename_i y hy
    cases hx
    exact .cG t y v (ih hy)
   ·cases hx
 |dx ad=>
  intro k x' hx
  cases k with
  |zero=>simp[dq]at hx
  |succ k=>simp only[dq]at hx;cases hx;exact .dx ad
 |bq v=>
  intro k x' hx
  cases k with
  |zero=>simp[dq]at hx
  |succ k=>simp only[dq]at hx;cases hx;exact .bq v
theorem Hp{k0 k:Nat}{az:List Nat}{H:AH}{v v':AV}(h:dq k0 k az H v=some v')(hv:v.one=true∨∃cs,v= .agg cs∨∃l,v= .t (.agg l)):
 v'.cells.length=v.cells.length∧∀(j:Nat) y',v'.cells[j]?=some y'→∃y m,v.cells[j]?=some y∧dq k0 m az H y=some y':=by
 have single:v.one=true→v'.cells.length=v.cells.length∧∀(j:Nat) y',v'.cells[j]?=some y'→∃y m,v.cells[j]?=some y∧dq k0 m az H y=some y':=by
  intro h1
  rw[AV.iZ h1,AV.iZ (tM h h1)]
  refine⟨rfl,fun j y hj=> ?_⟩
  cases j with
  |zero=>simp at hj;subst hj;exact⟨v,k,rfl,h⟩
  |succ j=>simp at hj
 rcases hv with hv|⟨cs,rfl|⟨l,rfl⟩⟩
 ·exact single hv
 ·cases k with
  |zero=>simp[dq]at h
  |succ k=>
   simp only[dq]at h
   split at h
   ·rename_i kA lS
    cases h
    obtain⟨h1,h2⟩:=jP _ lS
    refine⟨h1,fun j y hj=> ?_⟩
    obtain⟨x,m,a1,a2,a3⟩:=h2 j y hj
    exact⟨x,m,a1,a3⟩
   ·cases h
 ·cases k with
  |zero=>simp[dq]at h
  |succ k=>
   simp only[dq]at h
   cases h
   refine⟨rfl,fun j y hj=>⟨y,1,hj,?_⟩⟩
   rw[T.dK]at hj
   simp only[List.getElem?_map,Option.map_eq_some_iff]at hj
   obtain⟨c,_,rfl⟩:=hj
   rfl
def zR(k0:Nat)(az:List Nat)(H:AH)(env:List (Nat×AV)):List (Nat×AV)→Prop
 |[]=>True
 |(t,v)::r=>dq k0 40 az H (lk env t)=some v∧zR k0 az H env r
theorem B1{k0:Nat}{az:List Nat}{H:AH}{env:List (Nat×AV)}:∀{env':List (Nat×AV)},zR k0 az H env env'→∀t,lk env' t= .bq∨dq k0 40 az H (lk env t)=some (lk env' t)
 |[],_,t=> .inl rfl
 |(d,v)::r,h,t=>by
  rw[fB]
  by_cases e:d=t
  ·rw[if_pos e,←e,h.1];exact .inr rfl
  ·rw[if_neg e];exact B1 h.2 t
def Co(k0:Nat)(az:List Nat)(H:AH):Nat→List Nat→AH→Prop
 |_,[],[]=>True
 |i,b::r,π::l=>(H[b]?.bind (ff k0 az H i))=some π∧Co k0 az H (i+1) r l
 |_,_,_=>False
theorem BT{k0:Nat}{az:List Nat}{H:AH}:∀{n:Nat} {r:List Nat} {l:AH},Co k0 az H n r l→r.length=l.length∧∀(i:Nat) b,r[i]?=some b→∃π aA,H[b]?=some π∧l[i]?=some aA∧ff k0 az H (n+i) π=some aA
 |n,[],[],_=>by simp
 |n,[],_::_,h=>h.elim
 |n,_::_,[],h=>h.elim
 |n,b::r,π::l,h=>by
  obtain⟨h1,h2⟩:=BT h.2
  refine⟨by simp[h1],fun i b' hi=> ?_⟩
  cases i with
  |zero=>
   simp at hi;subst hi
   have:=h.1
   rw[Option.bind_eq_some_iff]at this
   obtain⟨bk,a1,a2⟩:=this
   exact⟨bk,π,a1,rfl,a2⟩
  |succ i=>
   simp at hi
   obtain⟨bk,VT,a1,a2,a3⟩:=h2 i b' hi
   exact⟨bk,VT,a1,a2,by rw[show n+(i+1)=n+1+i by omega];exact a3⟩
def Ln(k0:Nat)(az:List Nat):Bool:=decide (az.Nodup)&&Nat.ble k0 az.length&&(List.range k0).all fun i=>match az[i]?with|some b=>Nat.beq b i|none=>false
theorem Oi{k0:Nat}{az:List Nat}{H:AH}{w0 w:World}{c0 c c':Cx}{b:Nat}{ql π aA:Ω}(hb:b<k0)(h:Ω.goes w0 c0 w c b ql π)(hr:ff k0 az H b π=some aA)(hG:c'.G b=c.G b):Ω.goes w0 c0 w c' b ql aA:=by
 cases π with
 |dead=>simp[ff]at hr;subst hr;cases ql<;>trivial
 |box cells=>
  simp only[ff,Option.map_eq_some_iff]at hr
  obtain⟨cs,lS,rfl⟩:=hr
  have hl:=(jP _ lS).1
  cases ql with
  |dead=>exact h.elim
  |arr=>exact h.elim
  |iter=>exact h.elim
  |box ZV=>exact⟨h.1.trans hl.symm,fun cb hc=>by rw[hG];exact h.2 cb hc⟩
 |iter s p=>
  simp only[ff,Option.some.injEq]at hr
  subst hr
  cases ql with
  |dead=>exact h.elim
  |arr=>exact h.elim
  |box=>exact h.elim
  |iter s0 p0=>exact⟨h.1,fun cb hc=>by rw[hG];exact h.2 cb hc⟩
 |arr e s z g l=>
  have K8:qd k0 b g=g:=by rw[qd,show Nat.blt b k0=true from by rw[Nat.blt_eq];exact hb]
  have:∃l',aA= .arr e s z g l'∧l'.length=l.length:=by
   rw[←K8]
   cases l with
   |ts l=>simp[ff]at hr;exact⟨_,hr.symm,rfl⟩
   |vs l=>
    simp only[ff,Option.map_eq_some_iff]at hr
    obtain⟨l',hl,rfl⟩:=hr
    exact⟨_,rfl,(jP _ hl).1⟩
  obtain⟨l',rfl,hl⟩:=this
  cases ql with
  |dead=>exact h.elim
  |box=>exact h.elim
  |iter=>exact h.elim
  |arr e0 s0 z0 g0 l0=>
   obtain⟨a1,a2,a3,a4,a5,a6⟩:=h
   exact⟨a1,a2,a3,by omega,a5,fun he=>⟨by rw[hl];exact(a6 he).1,fun cb hc=>by rw[hG];exact(a6 he).2 cb hc⟩⟩
theorem τ{k0:Nat}{s s':St}(az:List Nat)(hd:Ln k0 az=true)(h:zR k0 az s.H s.env s'.env)(hB:Co k0 az s.H 0 az s'.H):aB k0 s s':=by
 intro O c a w dN hs
 subst dN
 simp only[Ln,Bool.and_eq_true,decide_eq_true_eq,List.all_eq_true,List.mem_range]at hd
 obtain⟨⟨vM,hlen⟩,sL⟩:=hd
 have hlen:=Nat.le_of_ble_eq_true hlen
 have sL:∀i,i<O.H0.length→az[i]?=some i:=fun i hi=>by
  have:=sL i hi
  cases hk:az[i]?with
  |none=>rw[hk]at this;cases this
  |some b=>rw[hk]at this;rw[Nat.eq_of_beq_eq_true this]
 obtain⟨Gq,Ty⟩:=BT hB
 let c':Cx:=⟨c.F,fun i=>az[i]?.bind c.G⟩
 have hG:∀i cb,c'.G i=some cb→∃b,az[i]?=some b∧c.G b=some cb:=fun i cb hg=>by
  simp only[c',Option.bind_eq_some_iff]at hg;exact hg
 have nA:∀i aA,s'.H[i]?=some aA→∃b π,az[i]?=some b∧s.H[b]?=some π∧ff O.H0.length az s.H i π=some aA:=fun i aA hi=>by
  have ω:=κ hi
  obtain⟨π,VT,h1,h2,h3⟩:=Ty i _ (List.getElem?_eq_getElem (by omega))
  rw[hi]at h2;cases h2
  exact⟨_,π,List.getElem?_eq_getElem (by omega),h1,by rw[Nat.zero_add]at h3;exact h3⟩
 have live:∀{i:Nat} {π aA:Ω},ff O.H0.length az s.H i π=some aA→aA.live=true→π.live=true:=by
  intro i π aA h1 h2
  cases π with
  |dead=>simp[ff]at h1;subst h1;exact h2
  |box=>rfl
  |iter=>rfl
  |arr=>rfl
 have hM:∀cb,c'.M s'.H cb→c.M s.H cb:=by
  rintro cb (hf|⟨i,aA,hi,hl,hg⟩)
  ·exact .inl hf
  ·obtain⟨b,hb,hg⟩:=hG i cb hg
   obtain⟨b2,π,gZ,h1,h2⟩:=nA i aA hi
   rw[hb]at gZ;cases gZ
   exact .inr ⟨b,π,h1,live h2 hl,hg⟩
 have hO:∀cb,c'.O s'.H cb→c.O s.H cb:=by
  rintro cb ⟨i,aA,hi,hl,hg⟩
  obtain⟨b,hb,hg⟩:=hG i cb hg
  obtain⟨b2,π,gZ,h1,h2⟩:=nA i aA hi
  rw[hb]at gZ;cases gZ
  exact⟨b,π,h1,live h2 hl,hg⟩
 have hk:Kept O.H0.length c s.H az c' s'.H:=⟨hM,fun i b hi=>⟨by simp[c',hi],by
  obtain⟨π,aA,h1,h2,h3⟩:=Ty i b hi
  exact⟨π,aA,h1,h2,by rw[Nat.zero_add]at h3;exact h3⟩⟩⟩
 have aK:HS w c' s'.H O.B:=by
  refine⟨fun i j cb h1 h2=> ?_,fun i cb h1=> ?_,fun cb hf=>⟨(hs.hs.fb cb hf).1,fun i hg=>by obtain⟨b,_,a2⟩:=hG i cb hg;exact(hs.hs.fb cb hf).2 b a2⟩,hs.hs.hB,fun i cb h1=> ?_,fun i cb cells hi hg=> ?_,fun i cb e s1 z g l hi hg=> ?_,fun i cb s1 p hi hg=> ?_⟩
  ·obtain⟨b,a1,a2⟩:=hG i cb h1
   obtain⟨b',b1,b2⟩:=hG j cb h2
   have:=hs.hs.inj b b' cb a2 b2
   subst this
   exact(List.getElem?_inj (κ a1) vM).1 (a1.trans b1.symm)
  ·obtain⟨b,a1,a2⟩:=hG i cb h1
   exact hs.hs.base b cb a2
  ·obtain⟨b,a1,a2⟩:=hG i cb h1
   have:=κ a1
   omega
  ·obtain⟨b,a1,a2⟩:=hG i cb hg
   obtain⟨b2,π,b1,Mk,b3⟩:=nA i _ hi
   rw[a1]at b1;cases b1
   cases π with
   |dead=>simp[ff]at b3
   |iter=>simp[ff]at b3
   |arr e s2 z g l=>cases l<;>simp[ff]at b3
   |box zw=>
    simp only[ff,Option.map_eq_some_iff,Ω.box.injEq]at b3
    obtain⟨cs,lS,rfl⟩:=b3
    obtain⟨hl,eX⟩:=jP _ lS
    obtain⟨arr,e,h1,h2,h3⟩:=hs.hs.box b cb zw Mk a2
    refine⟨arr,e,h1,by omega,fun j x v hj hv=> ?_⟩
    obtain⟨x0,m,d1,d2,d3⟩:=eX j x hj
    obtain⟨e1,e2,e3⟩:=h3 j x0 v d1 hv
    exact⟨tM d3 e1,e2.lC hk d3,e3⟩
  ·obtain⟨b,a1,a2⟩:=hG i cb hg
   obtain⟨b2,π,b1,Mk,b3⟩:=nA i _ hi
   rw[a1]at b1;cases b1
   cases π with
   |dead=>simp[ff]at b3
   |box zw=>simp[ff]at b3
   |iter=>simp[ff]at b3
   |arr e0 s0 z0 g0 l0=>
    obtain⟨arr,cap,h1,h2,h3,h4,h5⟩:=hs.hs.arr b cb e0 s0 z0 g0 l0 Mk a2
    cases l0 with
    |ts l0=>
     simp[ff]at b3
     obtain⟨rfl,rfl,rfl,gh,rfl⟩:=b3
     refine⟨arr,cap,h1,h2,⟨h3.1,fun h=>h3.2 (Dq _ _ _ (by rw[gh];exact h))⟩,h4,dE.ts.2 fun k x fW=>⟨(dE.ts.1 h5 k x fW).1,fun j y hj=> ?_⟩⟩
     obtain⟨v,k1,k2,k3,k4⟩:=(dE.ts.1 h5 k x fW).2 j y hj
     exact⟨v,k1,k2,k3.mono fun b _ hb=>⟨rfl,fun hm=>hb (hM b hm)⟩,k4⟩
    |vs l0=>
     simp only[ff,Option.map_eq_some_iff]at b3
     obtain⟨l',tj,b3⟩:=b3
     cases b3
     obtain⟨hl,eX⟩:=jP _ tj
     refine⟨arr,cap,h1,h2,by simp only[Sq.length]at h3⊢;exact⟨by omega,fun h=>hl.trans (h3.2 (Dq _ _ _ h))⟩,h4,fun k x fW=> ?_⟩
     obtain⟨x0,m,d1,d2,d3⟩:=eX k x fW
     obtain⟨q1,q2⟩:=h5 k x0 d1
     have eO:x0.one=true∨∃cs,x0= .agg cs∨∃l,x0= .t (.agg l):=by
      cases m with
      |zero=>simp[dq]at d3
      |succ m=>
       cases x0 with
       |agg cs=>exact .inr ⟨cs,.inl rfl⟩
       |t x=>cases x<;>first|exact .inl rfl|exact .inr ⟨[],.inr ⟨_,rfl⟩⟩
       |aq cs=>have:=q2 0 (.aq cs) (by simp[AV.cells]);obtain⟨_,_,h,_⟩:=this;simp[AV.one]at h
       |own=>simp[dq]at d3
       |bq=>have:=q2 0 .bq (by simp[AV.cells]);obtain⟨_,_,h,_⟩:=this;simp[AV.one]at h
       |_=>exact .inl rfl
     obtain⟨r1,r2⟩:=Hp d3 eO
     refine⟨by omega,fun j y hj=> ?_⟩
     obtain⟨y0,m',s1,s2⟩:=r2 j y hj
     obtain⟨v,t1,t2,t3,t4⟩:=q2 j y0 s1
     exact⟨v,t1,tM s2 t2,t3.lC hk s2,t4⟩
  ·obtain⟨b,a1,a2⟩:=hG i cb hg
   obtain⟨b2,π,b1,Mk,b3⟩:=nA i _ hi
   rw[a1]at b1;cases b1
   cases π with
   |dead=>simp[ff]at b3
   |box zw=>simp[ff]at b3
   |arr e s2 z g l=>cases l<;>simp[ff]at b3
   |iter s0 p0=>
    simp only[ff,Option.some.injEq,Ω.iter.injEq]at b3
    obtain⟨rfl,rfl⟩:=b3
    exact hs.hs.iter b cb s0 p0 Mk a2
 refine⟨c',fun t=> ?_,aK,hs.size,hs.defers,?_,hs.below⟩
 ·rcases B1 h t with e|e
  ·rw[e];exact .bq _
  ·exact(hs.env t).lC hk e
 ·refine⟨hs.ev.F,hs.ev.size,fun b ql hb=> ?_,fun cb hm=>hs.ev.sG cb (hO cb hm),hs.ev.mem,fun b ql hb hf hg=> ?_⟩
  ·have ω:=κ hb
   obtain⟨π,h1,h2⟩:=hs.ev.π b ql hb
   obtain⟨bk,aA,k1,k2,k3⟩:=Ty b b (sL b ω)
   rw[h1]at k1;cases k1
   exact⟨aA,k2,Oi ω h2 (by rw[Nat.zero_add]at k3;exact k3) (by simp[c',sL b ω])⟩
  ·have ω:=κ hb
   simp only[c',sL b ω,Option.bind_some]
   exact hs.ev.late b ql hb hf hg
end Go.Proofs.YtcogcbplmkcojaaGreatDoor
namespace Go.Proofs.YtcogcbplmkcojaaGreatDoor
open Go.RowKit
set_option linter.unusedVariables false
set_option linter.unusedSimpArgs false
theorem wM{w c H B}(hs:HS w c H B)(X:AH){b cb:Nat}{π:Ω}(hg:c.G b=some cb)(hb:(H++X)[b]?=some π):H[b]?=some π:=by
 rwa [List.getElem?_append_left (hs.kz b cb hg)]at hb
theorem GC{w c H B}(hs:HS w c H B)(X:AH):Ev w c H w c (H++X):=by
 have h:=Ev.refl w c H
 refine⟨rfl,Nat.le_refl _,fun b π hb=> ?_,fun cb hm=> .inl ?_,fun _ _ _=>rfl,fun _ _ _ _ h=>h⟩
 ·obtain⟨aA,h1,h2⟩:=h.π b π hb
  exact⟨aA,by rw[List.getElem?_append_left (κ h1)];exact h1,h2⟩
 ·obtain⟨b,bk,hb,hl,hg⟩:=hm
  exact⟨b,bk,wM hs X hg hb,hl,hg⟩
theorem Q1{w c H B}(hs:HS w c H B)(X:AH):HS w c (H++X) B:=
 hs.az (GC hs X) hs.inj hs.base (fun b cb hg=>by have:=hs.kz b cb hg;rw[List.length_append];omega) (fun b cb cells hb hg=> .inl ⟨wM hs X hg hb,hg,rfl⟩)
  (fun b cb e s z g l hb hg=> .inl ⟨wM hs X hg hb,hg,rfl⟩) (fun b cb s p hb hg=> .inl ⟨wM hs X hg hb,hg,rfl⟩)
theorem aB.more{k0:Nat}{env:List (Nat×AV)}{H:AH}(X:AH):aB k0 ⟨env,H⟩ ⟨env,H++X⟩:=fun O c a w _ hs=>
 ⟨c,hs.go (GC hs.hs X) (Q1 hs.hs X) (Below.refl _ _)⟩
theorem aB.UU{k0:Nat}{env:List (Nat×AV)}{H:AH}{b e s:Nat}{z:Bool}{g:Nat}(hb:H[b]?=some (.arr e s z g (.ts []))):aB k0 ⟨env,H⟩ ⟨env,H.set b (.arr e s z g (.vs []))⟩:=fun O c a w _ hs=>by
 have uR:=κ hb
 have get:∀(i:Nat) π,(H.set b (.arr e s z g (.vs [])))[i]?=some π→(i=b∧π= .arr e s z g (.vs []))∨(i≠b∧H[i]?=some π):=fun i π h=>by
  rw[List.getElem?_set]at h
  by_cases hi:b=i
  ·subst hi;rw[if_pos rfl,if_pos uR]at h;exact .inl ⟨rfl,(Option.some.inj h).symm⟩
  ·rw[if_neg hi]at h;exact .inr ⟨fun e=>hi e.symm,h⟩
 have h0:=Ev.refl w c H
 have ev:Ev w c H w c (H.set b (.arr e s z g (.vs []))):=by
  refine⟨rfl,Nat.le_refl _,fun i π hi=> ?_,fun cb hm=> .inl ?_,fun _ _ _=>rfl,fun _ _ _ _ h=>h⟩
  ·by_cases nx:b=i
   ·subst nx
    rw[hb]at hi;cases hi
    exact⟨.arr e s z g (.vs []),by rw[List.getElem?_set,if_pos rfl,if_pos uR],rfl,rfl,rfl,Nat.le_refl _,Nat.le_refl _,fun _=>⟨rfl,fun _ h=>⟨h,rfl⟩⟩⟩
   ·obtain⟨aA,h1,h2⟩:=h0.π i π hi
    exact⟨aA,by rw[List.getElem?_set,if_neg nx];exact h1,h2⟩
  ·obtain⟨i,bk,hi,hl,hg⟩:=hm
   rcases get i bk hi with⟨rfl,rfl⟩|⟨_,hi⟩
   ·exact⟨i,_,hb,rfl,hg⟩
   ·exact⟨i,bk,hi,hl,hg⟩
 refine⟨c,hs.go ev (hs.hs.az ev hs.hs.inj hs.hs.base (fun i cb hg=>by rw[List.length_set];exact hs.hs.kz i cb hg) (fun i cb cells hi hg=> ?_) (fun i cb e' s' z' g' l hi hg=> ?_) (fun i cb s' p hi hg=> ?_)) (Below.refl _ _)⟩
 ·rcases get i _ hi with⟨_,h⟩|⟨_,hi⟩
  ·cases h
  ·exact .inl ⟨hi,hg,rfl⟩
 ·rcases get i _ hi with⟨rfl,h⟩|⟨_,hi⟩
  ·cases h
   obtain⟨arr,cap,a1,a2,a3,a4,_⟩:=hs.hs.arr i cb e s z g _ hb hg
   exact .inr ⟨arr,cap,a1,a2,a3,a4,fun k x hk=>by simp[Sq.get]at hk⟩
  ·exact .inl ⟨hi,hg,rfl⟩
 ·rcases get i _ hi with⟨_,h⟩|⟨_,hi⟩
  ·cases h
  ·exact .inl ⟨hi,hg,rfl⟩
theorem NH{k0:Nat}{body:(Ex→St→Prop)→St→Prop}{Q:Ex→St→Prop}{s:St}{A:Type}(I:A→Prop)(S:A→St)(μ:A→Nat)(i:A)(hi:I i)
 (h0:aB k0 s (S i)) (h:∀i,I i→body (fun e s'=>match e with| .normal=>∃j:{a//I a},aB k0 s' (S j.1)∧μ j.1<μ i|e=>Q e s') (S i)):mf k0 body Q s:=
 ⟨{a:A//I a},fun a=>S a.1,fun a=>μ a.1,⟨i,hi⟩,h0,fun⟨i,hi⟩=>h i hi⟩
theorem mf.at{k0:Nat}{body:(Ex→St→Prop)→St→Prop}{Q:Ex→St→Prop}{s s':St}(h0:aB k0 s s')(h:mf k0 body Q s'):xb k0 body Q s:=by
 obtain⟨I,S,μ,i,h1,h2⟩:=h
 exact⟨0,I,S,μ,i,h0.trans h1,h2⟩
def rj:Code→List Code
 | .seq x y=>rj x++rj y
 | .cond _ x y=>rj x++rj y
 | .block _ x=>rj x
 | .loop x=>x::rj x
 |_=>[]
def R7(f:Func)(n:Nat):Code:=(rj (f.body.getD .skip)).getD n .skip
theorem A5{k0:Nat}{az:List Nat}{H:AH}:∀(n:Nat) (l:List AV),l.length<n→(∀x∈l,∀m,dq k0 (m+1) az H x=some x)→ib k0 n az H l=some l
 |0,_,h,_=>by omega
 |k+1,[],_,_=>by simp only[ib]
 |k+1,v::r,h,hx=>by
  have hl:r.length<k:=by simp at h;omega
  obtain⟨m,rfl⟩:∃m,k=m+1:=⟨k - 1,by omega⟩
  have h1:=hx v List.mem_cons_self m
  have h2:=A5 (m+1) r hl fun x h=>hx x (List.mem_cons_of_mem _ h)
  simp only[ib,h1,h2]
end Go.Proofs.YtcogcbplmkcojaaGreatDoor
namespace Go.Proofs.YtcogcbplmkcojaaGreatDoor
open Go.RowKit
set_option linter.unusedVariables false
theorem sm{w:World}{c:Cx}{B:Nat}:∀(D:List Nat) {H:AH},HS w c H B→Ev w c H w c (d_ D H)∧HS w c (d_ D H) B
 |[],H,hs=>⟨Ev.refl _ _ _,hs⟩
 |b::r,H,hs=>by
  obtain⟨e1,h1⟩:=kill hs b
  obtain⟨e2,h2⟩:=sm r h1
  exact⟨e1.trans e2,h2⟩
theorem ui:∀(D:List Nat) (H:AH),(d_ D H).length=H.length
 |[],H=>rfl
 |b::r,H=>by simp only[d_];rw[ui r];simp
theorem γ.VM{P:Program}{f:FuncId}{args:List AV}{ts:List T}{ids:List Nat}{r:AV}{H:AH}{Q:AV→AH→Prop}(h:φ P f ts r)(ha:iu 32 H args=some (ts,ids))
 (k:Q (imp H.length r).1 (d_ ids H++(imp H.length r).2)):γ P f args H Q:=by
 intro B c w vs hs hl hr
 obtain⟨ev,aK⟩:=sm ids hs
 obtain⟨hlen,iU⟩:=mo hs (M':=c.M (d_ ids H)) (fun cb hm=>by
  rcases hm with hm|⟨b,π,hb,iB,hg⟩
  ·exact .inl hm
  ·rcases gY ids hb with rfl|⟨_,hb⟩
   ·simp[Ω.live]at iB
   ·exact .inr ⟨b,π,hb,iB,hg⟩) 32 ha (vs:=vs.toList) (by simpa using hl.symm) (fun i x v hi hv=>hr i x v hi (by simpa using hv))
  (fun b hb cb hg hm=>by
   rcases hm with hm|⟨b2,π,gZ,iB,ny⟩
   ·exact((hs.fb cb hm).2 b hg).elim
   ·have:=hs.inj b b2 cb hg ny
    subst this
    rcases gY ids gZ with rfl|⟨hn,_⟩
    ·simp[Ω.live]at iB
    ·exact hn hb)
 have ru:jm (ts.map .t)=some ts:=by
  clear iU hlen ha h
  induction ts with
  |nil=>rfl
  |cons x r ih=>simp only[List.map_cons,jm,z7,ih]
 have key:=γ.pure (H:=d_ ids H) (Q:=Q) h ru (by rw[ui];exact k) B c w vs aK (by rw[List.length_map];omega) (qC fun i x v hi hv=>iU i x v hi (by simpa using hv))
 refine key.mono ?_
 rintro e w' ⟨v,c',r',H',he,h1,h2,h3,h4,h5⟩
 exact⟨v,c',r',H',he,h1,h2,ev.trans h3,h4,h5⟩
end Go.Proofs.YtcogcbplmkcojaaGreatDoor
namespace Go.Proofs.YtcogcbplmkcojaaGreatDoor
open Go.ChangeShapes Go.WideShapes Go.ChangeAt Go.RowKit
set_option linter.unusedVariables false
set_option linter.unusedSimpArgs false
inductive fG(P:Program):TypeId→List T→Prop
 |bool {t} (ht:P.underlying t=some .bool) (b:Bool):fG P t [.bool b]
 |int {t k} (ht:P.underlying t=some (.int k)) (n:Int) (hw:(Lit.int k n).wf=true):fG P t [.int k n]
 |str {t} (ht:P.underlying t=some .string) (s:List UInt8) (hl:s.length≤reachBytes):fG P t [.str s]
 |af {t e} (ht:P.underlying t=some (.slice e)):fG P t [.af]
 |vec {t e} (ht:P.underlying t=some (.slice e)) (l:List (List T)) (hl:l.length≤maxLen) (hb:l.length*P.bytesOf e≤reachBytes) (h:∀(i:Nat) cs,l[i]?=some cs→fG P e cs):fG P t [.vec (P.cellsOf e) (l.map (ep (P.cellsOf e)))]
 |struct {t fs} (ht:P.underlying t=some (.struct fs)) (cs:List T) (hl:cs.length=P.cellsOf t) (h:∀f∈fs.toList,fG P f.type ((cs.drop f.offset).take (P.cellsOf f.type))):fG P t cs
 |array {t n e} (ht:P.underlying t=some (.array n e)) (cs:List T) (hl:cs.length=P.cellsOf t) (h:∀i,i<n→fG P e ((cs.drop (i*P.cellsOf e)).take (P.cellsOf e))):fG P t cs
def u_(P:Program)(n:Nat):Nat→List Field→Bool
 |o,[]=>Nat.beq o n
 |o,f::r=>Nat.beq f.offset o&&u_ P n (o+P.cellsOf f.type) r
def sY(P:Program)(S:List TypeId)(t:TypeId):Bool:=
 match P.underlying t with
 |some .bool=>true
 |some (.int _)=>true
 |some .string=>true
 |some (.slice e)=>S.contains e&&Nat.ble 1 (P.cellsOf e)
 |some (.struct fs)=>fs.toList.all (fun f=>S.contains f.type)&&u_ P (P.cellsOf t) 0 fs.toList
 |some (.array n e)=>S.contains e&&Nat.beq (n*P.cellsOf e) (P.cellsOf t)
 |_=>false
def qV(P:Program)(S:List TypeId):Bool:=S.all (sY P S)
def pp{H:Type}(P:Program)(t:TypeId)(d:DataW H):Prop:=∀n∈d.weights P t,n≤reachBytes
theorem vE{H:Type}{P:Program}{e:TypeId}:∀{l:List (DataW H)},(∀n∈DataW.weightsAll P e l,n≤reachBytes)→∀d∈l,pp P e d
 |[],_,d,hd=>by simp at hd
 |a::r,h,d,hd=>by
  simp only[DataW.weightsAll,List.mem_append]at h
  rcases List.mem_cons.1 hd with rfl|hd
  ·exact fun n hn=>h n (.inl hn)
  ·exact vE (fun n hn=>h n (.inr hn)) d hd
theorem yQ{H:Type}{P:Program}:∀{ts:List TypeId} {l:List (DataW H)},(∀n∈DataW.weightsEach P ts l,n≤reachBytes)→∀(i:Nat) t d,ts[i]?=some t→l[i]?=some d→pp P t d
 |[],l,_,i,t,d,hi,_=>by simp at hi
 |_::_,[],_,i,t,d,_,hi=>by simp at hi
 |a::ts,b::r,h,i,t,d,hi,hd=>by
  simp only[DataW.weightsEach,List.mem_append]at h
  cases i with
  |zero=>simp at hi hd;subst hi hd;exact fun n hn=>h n (.inl hn)
  |succ i=>simp at hi hd;exact yQ (fun n hn=>h n (.inr hn)) i t d hi hd
def Cells(w:World)(ts:List T)(cs:List Value):Prop:=ts.length=cs.length∧∀(i:Nat) c v,ts[i]?=some c→cs[i]?=some v→RT w (fun _=>False) c v∧c.one=true
theorem Cells.append{w:World}{a b:List T}{c d:List Value}(h:Cells w a c)(k:Cells w b d):Cells w (a++b) (c++d):=by
 refine⟨by simp[h.1,k.1],fun i x v hi hv=> ?_⟩
 by_cases ω:i<a.length
 ·rw[List.getElem?_append_left ω]at hi
  rw[List.getElem?_append_left (by rw[←h.1];exact ω)]at hv
  exact h.2 i x v hi hv
 ·rw[List.getElem?_append_right (by omega)]at hi
  rw[List.getElem?_append_right (by rw[←h.1];omega),←h.1]at hv
  exact k.2 _ x v hi hv
section
variable {H : Type} {enc : TypeId × Value → H} {P : Program} {w : World} {sp : Nat → Bool} {held : Bool}
theorem BL{m n:Nat}{cs:List Value}{S:List TypeId}(lS:cs.length=n)
 (ih:∀(t:TypeId) (cs:List Value) x,t∈S→DataW.trod enc P w 0 sp held m t cs=some x→pp P t x.1→∃ts,fG P t ts∧Cells w ts cs):
 ∀(l:List Field) (o:Nat),o≤n→u_ P n o l=true→(∀f∈l,f.type∈S∧∃x,DataW.trod enc P w 0 sp held m f.type ((cs.drop f.offset).take (P.cellsOf f.type))=some x∧pp P f.type x.1)→(∀f∈l,f.offset+P.cellsOf f.type≤n)→
  ∃ts,Cells w ts (cs.drop o)∧∀f∈l,o≤f.offset∧fG P f.type ((ts.drop (f.offset - o)).take (P.cellsOf f.type))
 |[],o,ho,ht,_,_=>by
  simp only[u_]at ht
  have:=Nat.eq_of_beq_eq_true ht
  exact⟨[],⟨by simp;omega,by simp⟩,by simp⟩
 |f::l,o,ho,ht,hl,hn=>by
  simp only[u_,Bool.and_eq_true]at ht
  have he:=Nat.eq_of_beq_eq_true ht.1
  obtain⟨hS,x,hx,KX⟩:=hl f (by simp)
  have Vn:=hn f (by simp)
  obtain⟨t1,h1,c1⟩:=ih _ _ x hS hx KX
  obtain⟨t2,c2,h2⟩:=BL lS ih l (o+P.cellsOf f.type) (by omega) ht.2 (fun g hg=>hl g (by simp[hg])) (fun g hg=>hn g (by simp[hg]))
  rw[he]at c1 hx
  have nv:t1.length=P.cellsOf f.type:=by rw[c1.1];simp;omega
  refine⟨t1++t2,?_,fun g hg=> ?_⟩
  ·have:=c1.append c2
   rw[←List.drop_drop,List.take_append_drop]at this
   exact this
  ·rcases List.mem_cons.1 hg with rfl|hg
   ·refine⟨by omega,?_⟩
    rw[he,Nat.sub_self,List.drop_zero,←nv,List.take_left]
    exact h1
   ·obtain⟨k1,k2⟩:=h2 g hg
    refine⟨by omega,?_⟩
    rw[List.drop_append,show t1.drop (g.offset - o)=[]from List.drop_eq_nil_of_le (by omega),List.nil_append,nv,show g.offset - o - P.cellsOf f.type=g.offset - (o+P.cellsOf f.type) by omega]
    exact k2
theorem FO{n:Nat}:∀{l:List Field} {o:Nat},u_ P n o l=true→o≤n∧∀f∈l,f.offset+P.cellsOf f.type≤n
 |[],o,h=>by simp only[u_]at h;exact⟨Nat.le_of_eq (Nat.eq_of_beq_eq_true h),by simp⟩
 |f::l,o,h=>by
  simp only[u_,Bool.and_eq_true]at h
  have he:=Nat.eq_of_beq_eq_true h.1
  obtain⟨h1,h2⟩:=FO h.2
  refine⟨by omega,fun g hg=> ?_⟩
  rcases List.mem_cons.1 hg with rfl|hg
  ·omega
  ·exact h2 g hg
theorem Ov{m s n:Nat}{cs:List Value}{e:TypeId}
 (ih:∀i,i<n→∃ts,fG P e ts∧Cells w ts ((cs.drop (i*s)).take s)) (lS:cs.length=n*s):∀k,k≤n→
  ∃ts,Cells w ts (cs.drop (k*s))∧∀i,k≤i→i<n→fG P e ((ts.drop (i*s - k*s)).take s):=by
 intro k hk
 obtain⟨j,rfl⟩:∃j,n=k+j:=⟨n - k,by omega⟩
 clear hk
 induction j generalizing k with
 |zero=>exact⟨[],⟨by simp[lS],by simp⟩,fun i h1 h2=>by omega⟩
 |succ j WY=>
  obtain⟨t1,h1,c1⟩:=ih k (by omega)
  obtain⟨t2,c2,h2⟩:=WY (k+1) (fun i hi=>ih i (by omega)) (by rw[lS];congr 1;omega)
  have hle:(k+1)*s≤(k+(j+1))*s:=Nat.mul_le_mul_right _ (by omega)
  have cZ:(k+1)*s=k*s+s:=by rw[Nat.add_mul,Nat.one_mul]
  have nv:t1.length=s:=by rw[c1.1];simp;omega
  refine⟨t1++t2,?_,fun i lG vQ=> ?_⟩
  ·have:=c1.append c2
   rw[cZ,←List.drop_drop,List.take_append_drop]at this
   exact this
  ·by_cases e:i=k
   ·subst e
    rw[Nat.sub_self,List.drop_zero,←nv,List.take_left]
    exact h1
   ·have h3:(k+1)*s≤i*s:=Nat.mul_le_mul_right _ (by omega)
    rw[List.drop_append,show t1.drop (i*s - k*s)=[]from List.drop_eq_nil_of_le (by omega),List.nil_append,nv,show i*s - k*s - s=i*s - (k+1)*s by omega]
    exact h2 i (by omega) (by omega)
theorem Mb{a:Addr}{v:Value}(h:w.cell? a=some v):a.spot=none:=by
 unfold World.cell? at h
 split at h
 ·split at h
  ·cases h
  ·rename_i hs;simpa using hs
 ·cases h
theorem FL{S:List TypeId}(hS:qV P S=true):∀(kl:Nat) (t:TypeId) (cs:List Value) x,t∈S→DataW.trod enc P w 0 sp held kl t cs=some x→pp P t x.1→∃ts,fG P t ts∧Cells w ts cs
 |0,t,cs,x,_,h,_=>by simp[DataW.trod]at h
 |kl+1,t,cs,x,ht,h,np=>by
  have ih:=FL hS kl
  have hp:sY P S t=true:=by
   unfold qV at hS;rw[List.all_eq_true]at hS;exact hS t ht
  unfold sY at hp
  have single:∀{c:T} {v:Value},RT w (fun _=>False) c v→c.one=true→Cells w [c] [v]:=by
   intro c v h1 h2
   refine⟨rfl,fun i c' v' hi hv=> ?_⟩
   match i with
   |0=>cases hi;cases hv;exact⟨h1,h2⟩
   |i+1=>simp at hi
  split at hp
  ·rename_i hu
   obtain⟨b,rfl,_⟩:=DataW.trod_bool hu h
   exact⟨_,.bool hu b,single (.bool b) rfl⟩
  ·rename_i k hu
   obtain⟨n,rfl,_,hw⟩:=DataW.trod_int hu h
   exact⟨_,.int hu n hw,single (.int k n) rfl⟩
  ·rename_i hu
   obtain⟨s,rfl,rfl,hs⟩:=DataW.trod_string hu h
   exact⟨_,.str hu s.data.toList (by have:=np s.data.toList.length (by simp[DataW.weights]);exact this),single (.str s) rfl⟩
  ·rename_i e hu
   simp only[Bool.and_eq_true]at hp
   have XL:e∈S:=by simpa using hp.1
   have dC:=Nat.le_of_ble_eq_true hp.2
   rcases DataW.trod_slice hu h with⟨rfl,_⟩|⟨a,len,cap,ph,rest,n,hn,rfl,rfl,_,hl,hm,hlen,vV,_,_⟩
   ·exact⟨_,.af hu,single .af rfl⟩
   ·obtain rfl:kl=n:=by omega
    simp only[pp,DataW.weights,hu,List.length_map,List.mem_cons,List.mem_append]at np
    have Tj:len*P.bytesOf e≤reachBytes:=Nat.le_trans (Nat.mul_le_mul_right _ (by omega)) (np _ (.inl rfl))
    have vO:=vE (P:=P) (e:=e) (l:=ph.map (·.1)) fun n hn=>np n (.inr (.inl hn))
    have each:∀i,∃p:List Value×List T,i<len→fG P e p.2∧Cells w p.2 p.1∧p.1.length=P.cellsOf e∧∀j,j<P.cellsOf e→w.cell? ((a.add (i*P.cellsOf e)).add j)=p.1[j]?:=by
     intro i
     by_cases hi:i<len
     ·have h1:=vV i hi
      obtain⟨y,hy⟩:∃y,ph[i]?=some y:=⟨ph[i]'(by omega),List.getElem?_eq_getElem _⟩
      rw[hy,Option.bind_eq_some_iff]at h1
      obtain⟨vs,h2,h3⟩:=h1
      obtain⟨ts,k1,k2⟩:=ih e vs y XL h3 (vO _ (List.mem_map.2 ⟨y,List.mem_of_getElem? hy,rfl⟩))
      obtain⟨_,h4,h5⟩:=World.cells?_some h2
      exact⟨(vs,ts),fun _=>⟨k1,k2,h4,fun j hj=>h5 j hj⟩⟩
     ·exact⟨([],[]),fun h=>(hi h).elim⟩
    obtain⟨f,hf⟩:=Classical.skolem.1 each
    have Pa:len≠0→a.spot=none:=fun au=>by
     obtain⟨_,_,h4,h5⟩:=hf 0 (by omega)
     have h6:=h5 0 (by omega)
     rw[Nat.zero_mul]at h6
     have e0:∀a:Addr,a.add 0=a:=fun a=>rfl
     rw[e0,e0,List.getElem?_eq_getElem (by omega)]at h6
     exact Mb h6
    obtain⟨b,off,UY⟩:=a
    let l:=(List.range len).map fun i=>(f i).2
    have vN:l.length=len:=by simp[l]
    have eX:∀(i:Nat) cs,l[i]?=some cs→i<len∧cs=(f i).2:=by
     intro i cs hi
     have ω:=κ hi
     rw[vN]at ω
     simp[l,ω]at hi
     exact⟨ω,hi.symm⟩
    have fa:∀(i:Nat) e',(l.map (ep (P.cellsOf e)))[i]?=some e'→i<len∧e'.cells=(f i).2:=by
     intro i e' hi
     simp only[List.getElem?_map,Option.map_eq_some_iff]at hi
     obtain⟨cs,hi,rfl⟩:=hi
     obtain⟨ω,rfl⟩:=eX i cs hi
     refine⟨ω,nd ?_ ?_ dC⟩
     ·obtain⟨_,k2,k3,_⟩:=hf i ω;rw[k2.1,k3]
     ·obtain⟨_,k2,k3,_⟩:=hf i ω
      rw[List.all_eq_true]
      intro c hc
      obtain⟨j,hj⟩:=List.getElem?_of_mem hc
      have eQ:=κ hj
      rw[k2.1]at eQ
      exact(k2.2 j c _ hj (List.getElem?_eq_getElem eQ)).2
    refine⟨_,.vec hu l (by rw[vN];omega) (by rw[vN];exact Tj) (fun i cs hi=>by obtain⟨ω,rfl⟩:=eX i cs hi;exact(hf i ω).1),single ?_ rfl⟩
    have:=RT.vec (w:=w) (M:=fun _=>False) (P.cellsOf e) (l.map (ep (P.cellsOf e))) b off cap UY (fun i j=>(f i).1.getD j undef) (fun _ _ h=>h) (by simp[vN];exact hl)
     (fun au=>Pa (fun e0=>au (by have:l=[]:=List.eq_nil_of_length_eq_zero (by omega);simp[this])))
     (fun i e' hi=>by obtain⟨ω,lR⟩:=fa i e' hi;obtain⟨_,k2,k3,_⟩:=hf i ω;rw[lR,k2.1,k3])
     (fun i e' j c hi hj=>by
      obtain⟨ω,lR⟩:=fa i e' hi
      obtain⟨_,k2,k3,k4⟩:=hf i ω
      rw[lR]at hj
      have eQ:=κ hj
      rw[k2.1,k3]at eQ
      have h6:=k4 j eQ
      have kL:UY=none:=Pa (by omega)
      subst kL
      rw[Addr.add_lit,Addr.add_lit]at h6
      have hv:(f i).1[j]?=some ((f i).1[j]'(by omega)):=List.getElem?_eq_getElem _
      refine⟨by rw[h6,hv];simp[List.getD_eq_getElem?_getD,hv],(k2.2 j c _ hj hv).2⟩)
     (fun i e' j c hi hj=>by
      obtain⟨ω,lR⟩:=fa i e' hi
      obtain⟨_,k2,k3,k4⟩:=hf i ω
      rw[lR]at hj
      have eQ:=κ hj
      rw[k2.1,k3]at eQ
      have hv:(f i).1[j]?=some ((f i).1[j]'(by omega)):=List.getElem?_eq_getElem _
      have:=(k2.2 j c _ hj hv).1
      simpa[List.getD_eq_getElem?_getD,hv]using this)
    rw[List.length_map,vN]at this
    exact this
  ·rename_i fs hu
   simp only[Bool.and_eq_true,List.all_eq_true]at hp
   obtain⟨xs,n,hn,rfl,hl,KX,hx⟩:=DataW.trod_struct hu h
   obtain rfl:kl=n:=by omega
   simp only[pp,DataW.weights,hu]at np
   have vO:=yQ np
   obtain⟨_,hle⟩:=FO hp.2
   obtain⟨ts,c1,h1⟩:=BL (m:=kl) hl ih fs.toList 0 (Nat.zero_le _) hp.2 (fun f hf=>by
    refine⟨by simpa using hp.1 f hf,?_⟩
    obtain⟨i,hi⟩:=List.getElem?_of_mem hf
    have ω:=κ hi
    have:=hx i f (by rw[←Array.getElem?_toList];exact hi)
    rw[this]
    have mQ:xs[i]?=some (xs[i]'(by simp at ω;omega)):=List.getElem?_eq_getElem _
    exact⟨_,mQ,vO i _ _ (by simp only[List.getElem?_map,hi,Option.map_some]) (by simp only[List.getElem?_map,mQ,Option.map_some])⟩) hle
   rw[List.drop_zero]at c1
   exact⟨ts,.struct hu ts (by rw[c1.1,hl]) (fun f hf=>by have:=(h1 f hf).2;rwa [Nat.sub_zero]at this),c1⟩
  ·rename_i n e hu
   simp only[Bool.and_eq_true]at hp
   obtain⟨xs,m,hn,rfl,hl,KX,hx⟩:=DataW.trod_array hu h
   obtain rfl:kl=m:=by omega
   simp only[pp,DataW.weights,hu]at np
   have vO:=vE np
   have au:=Nat.eq_of_beq_eq_true hp.2
   obtain⟨ts,c1,h1⟩:=Ov (m:=0) (s:=P.cellsOf e) (n:=n) (cs:=cs) (e:=e) (fun i hi=>by
    have:=hx i hi
    have h2:xs[i]?=some (xs[i]'(by omega)):=List.getElem?_eq_getElem _
    rw[h2]at this
    exact ih e _ _ (by simpa using hp.1) this (vO _ (List.mem_map.2 ⟨_,List.mem_of_getElem? h2,rfl⟩))) (by rw[hl,au]) 0 (Nat.zero_le _)
   rw[Nat.zero_mul,List.drop_zero]at c1
   exact⟨ts,.array hu ts (by rw[c1.1,hl]) (fun i hi=>by have:=h1 i (Nat.zero_le _) hi;rwa [Nat.zero_mul,Nat.sub_zero]at this),c1⟩
  ·cases hp
def sx(P:Program)(t:TypeId)(cs:List T):T:=
 match P.underlying t with
 |some (.struct _)=> .agg cs
 |some (.array _ _)=> .agg cs
 |_=>cs.headD .dj
theorem Cells.agg{ts:List T}{cs:Array Value}(h:Cells w ts cs.toList):RT w (fun _=>False) (.agg ts) (.agg cs):=
 .agg ts cs (by rw[h.1];simp) (fun i c hi=>by
  have ω:=κ hi
  rw[h.1]at ω
  exact(h.2 i c _ hi (List.getElem?_eq_getElem ω)).2) (fun i c v hi hv=>(h.2 i c v hi (by simpa using hv)).1)
theorem Di{S:List TypeId}(hS:qV P S=true){t:TypeId}(ht:t∈S){r:Reach}{b0:Nat}{v:Value}{d:DataW H}{ps:List MemPlace}(fE:Value.okWide P w r b0 t v)(hd:DataW.Trod enc P w 0 sp held t v d ps)(np:pp P t d):
 ∃cs,fG P t cs∧RT w (fun _=>False) (sx P t cs) v:=by
 obtain⟨kl,hf⟩:=hd
 obtain⟨ts,h1,c1⟩:=FL hS kl t _ _ ht hf np
 refine⟨ts,h1,?_⟩
 have hp:sY P S t=true:=by
  unfold qV at hS;rw[List.all_eq_true]at hS;exact hS t ht
 unfold sY at hp
 unfold Value.okWide at fE
 unfold sx
 have one:(∀cs,v≠.agg cs)→RT w (fun _=>False) (ts.headD .dj) v:=by
  intro au
  have hv:v.cells= #[v]:=by cases v<;>first|rfl|exact(au _ rfl).elim
  rw[hv]at c1
  have hl:ts.length=1:=c1.1
  match ts,hl,c1 with
  |[c],_,c1=>exact(c1.2 0 c v rfl rfl).1
 split at hp
 ·rename_i hu;rw[hu]at fE⊢
  exact one fun cs e=>by subst e;simp[Cell.okWide,hu,Cell.ok]at fE
 ·rename_i hu;rw[hu]at fE⊢
  exact one fun cs e=>by subst e;simp[Cell.okWide,hu,Cell.ok]at fE
 ·rename_i hu;rw[hu]at fE⊢
  exact one fun cs e=>by subst e;simp[Cell.okWide,hu,Cell.ok]at fE
 ·rename_i hu;rw[hu]at fE⊢
  exact one fun cs e=>by subst e;simp[Cell.okWide,hu,Cell.ok]at fE
 ·rename_i hu;rw[hu]at fE⊢
  obtain⟨cs,rfl,_⟩:=fE
  exact c1.agg
 ·rename_i hu;rw[hu]at fE⊢
  obtain⟨cs,rfl,_⟩:=fE
  exact c1.agg
 ·cases hp
theorem yP{P:Program}{t:TypeId}{ts:List TypeId}{d:DataW H}{r:List (DataW H)}(h:∀n∈DataW.weightsEach P (t::ts) (d::r),n≤reachBytes):pp P t d∧∀n∈DataW.weightsEach P ts r,n≤reachBytes:=by
 simp only[DataW.weightsEach,List.mem_append]at h
 exact⟨fun n hn=>h n (.inl hn),fun n hn=>h n (.inr hn)⟩
end
end Go.Proofs.YtcogcbplmkcojaaGreatDoor
namespace Go.Proofs.YtcogcbplmkcojaaGreatDoor
open Go.ChangeShapes Go.WideShapes Go.ChangeAt Go.RowKit
set_option linter.unusedVariables false
set_option linter.unusedSimpArgs false
section
variable {P : Program} {t e : TypeId} {cs : List T}
theorem fG.Sj{k:IntKind}(ht:P.underlying t=some (.int k))(h:fG P t cs):∃n,cs=[.int k n]∧(Lit.int k n).wf=true:=by
 cases h with
 |int hu n hw=>rw[ht]at hu;cases hu;exact⟨n,rfl,hw⟩
 |bool hu=>rw[ht]at hu;cases hu
 |str hu=>rw[ht]at hu;cases hu
 |af hu=>rw[ht]at hu;cases hu
 |vec hu=>rw[ht]at hu;cases hu
 |struct hu=>rw[ht]at hu;cases hu
 |array hu=>rw[ht]at hu;cases hu
theorem fG.RM(ht:P.underlying t=some (.slice e))(h:fG P t cs):
 cs=[.af]∨∃l:List (List T),(l.length≤maxLen∧l.length*P.bytesOf e≤reachBytes)∧(∀(i:Nat) c,l[i]?=some c→fG P e c)∧cs=[.vec (P.cellsOf e) (l.map (ep (P.cellsOf e)))]:=by
 cases h with
 |af hu=>exact .inl rfl
 |vec hu l hl hb h=>rw[ht]at hu;cases hu;exact .inr ⟨l,⟨hl,hb⟩,h,rfl⟩
 |bool hu=>rw[ht]at hu;cases hu
 |int hu=>rw[ht]at hu;cases hu
 |str hu=>rw[ht]at hu;cases hu
 |struct hu=>rw[ht]at hu;cases hu
 |array hu=>rw[ht]at hu;cases hu
theorem fG.T8(ht:P.underlying t=some (.slice e))(he:P.underlying e=some (.int .u8))(hc:P.cellsOf e=1)(j4:P.bytesOf e=1)(h:fG P t cs):
 cs=[.af]∨∃bs:List UInt8,bs.length≤140737488351232∧cs=[.vec 1 (bs.map fun c=>T.int .u8 (c.toNat:Int))]:=by
 rcases h.RM ht with h0|⟨l,hl,h0,rfl⟩
 ·exact .inl h0
 refine .inr ?_
 rw[hc]
 have key:∀l:List (List T),(∀(i:Nat) c,l[i]?=some c→fG P e c)→∃bs:List UInt8,l.map (ep 1)=bs.map fun c=>T.int .u8 (c.toNat:Int):=by
  intro l
  induction l with
  |nil=>intro _;exact⟨[],rfl⟩
  |cons x r ih=>
   intro h
   obtain⟨bs,hb⟩:=ih fun i c hi=>h (i+1) c hi
   obtain⟨n,hx,hw⟩:=(h 0 x rfl).Sj he
   simp only[Lit.wf,Bool.and_eq_true,decide_eq_true_eq]at hw
   have hw:0≤n∧n≤255:=hw
   refine⟨UInt8.ofNat n.toNat::bs,?_⟩
   rw[hx,List.map_cons,List.map_cons,hb]
   congr 1
   show T.int .u8 n=_
   rw[UInt8.toNat_ofNat_of_lt' (by simp[UInt8.size];omega)]
   congr 1
   omega
 obtain⟨bs,hb⟩:=key l h0
 rw[hb]
 exact⟨bs,by have:=congrArg List.length hb;have:=hl.2;rw[j4]at this;simp[reachBytes]at*;omega,rfl⟩
end
theorem Sn{a:Int}(w:(Lit.int .i64 a).wf=true): -9223372036854775808≤a∧a≤9223372036854775807:=by
 simp only[Lit.wf,Bool.and_eq_true,decide_eq_true_eq]at w
 exact w
theorem CE{H:Type}{enc:TypeId×Value→H}{P:Program}{w:World}{base:Nat}{sp:Nat→Bool}{held:Bool}{t:TypeId}{v:Value}{d:DataW H}{ps:List MemPlace}(h:DataW.Trod enc P w base sp held t v d ps):
 ∀x∈ps,x.block<w.heap.size:=by
 obtain⟨kl,hf⟩:=h
 exact DataW.trod_lt kl t _ _ hf
end Go.Proofs.YtcogcbplmkcojaaGreatDoor
