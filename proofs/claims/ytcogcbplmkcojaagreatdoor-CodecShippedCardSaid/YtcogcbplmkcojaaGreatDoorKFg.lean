/-
  The ground of the walks of this seat, part Fg.
-/
import Derived.Test.YtcogcbplmkcojaaGreatDoorKFb
import Derived.Test.YtcogcbplmkcojaaGreatDoorRows
namespace Go.Proofs.YtcogcbplmkcojaaGreatDoor
open Go.RowKit
set_option linter.unusedVariables false
inductive a9:T→T→Prop
 |refl (x:T):a9 x x
 |af (s:Nat):a9 .af (.θ s [])
 |vec (s:Nat) (l:List T):a9 (.vec s l) (.θ s l)
 |agg (cs ds:List T) (hl:cs.length=ds.length) (h:∀(i:Nat) c d,cs[i]?=some c→ds[i]?=some d→a9 c d):a9 (.agg cs) (.agg ds)
 |bg (cs ds:List T) (hl:cs.length=ds.length) (h:∀(i:Nat) c d,cs[i]?=some c→ds[i]?=some d→a9 c d):a9 (.bg cs) (.bg ds)
 |deep (s:Nat) (l m:List T) (hl:l.length=m.length) (hc:∀(i:Nat) e e',l[i]?=some e→m[i]?=some e'→e.cells.length=e'.cells.length)
  (h:∀(i:Nat) e e' (j:Nat) c d,l[i]?=some e→m[i]?=some e'→e.cells[j]?=some c→e'.cells[j]?=some d→a9 c d):a9 (.vec s l) (.vec s m)
 |Ix (s:Nat) (l m:List T) (hl:l.length=m.length) (hc:∀(i:Nat) e e',l[i]?=some e→m[i]?=some e'→e.cells.length=e'.cells.length)
  (h:∀(i:Nat) e e' (j:Nat) c d,l[i]?=some e→m[i]?=some e'→e.cells[j]?=some c→e'.cells[j]?=some d→a9 c d):a9 (.θ s l) (.θ s m)
 |fn (f:Fn) (a b a' b':List T) (ha:a.length=a'.length) (hb:b.length=b'.length) (h:∀(i:Nat) c d,a[i]?=some c→a'[i]?=some d→a9 c d) (k:∀(i:Nat) c d,b[i]?=some c→b'[i]?=some d→a9 c d):a9 (.fn f a b) (.fn f a' b')
 |cG (t:TypeId) (x y:T) (h:a9 x y):a9 (.cG t x) (.cG t y)
 |trans (x y z:T) (h:a9 x y) (k:a9 y z):a9 x z
theorem a9.of_eq{x y:T}(h:x=y):a9 x y:=h▸.refl x
theorem a9.one{x y:T}(h:a9 x y):x.one=y.one:=by
 induction h with
 |trans _ _ _ _ _ a b=>exact a.trans b
 |_=>rfl
theorem a9.cells{x y:T}(h:a9 x y):x.cells.length=y.cells.length∧∀(j:Nat) c d,x.cells[j]?=some c→y.cells[j]?=some d→a9 c d:=by
 have one:∀{x y:T},x.cells=[x]→y.cells=[y]→a9 x y→x.cells.length=y.cells.length∧∀(j:Nat) c d,x.cells[j]?=some c→y.cells[j]?=some d→a9 c d:=by
  intro x y hx hy h
  rw[hx,hy]
  refine⟨rfl,fun j c d hc hd=> ?_⟩
  cases j with
  |zero=>simp at hc hd;subst hc hd;exact h
  |succ j=>simp at hc
 induction h with
 |refl x=>exact⟨rfl,fun j c d hc hd=>by rw[hc]at hd;cases hd;exact .refl c⟩
 |af s=>exact one rfl rfl (.af s)
 |vec s l=>exact one rfl rfl (.vec s l)
 |agg cs ds hl h _=>exact⟨hl,h⟩
 |bg cs ds hl h _=>exact one rfl rfl (.bg cs ds hl h)
 |deep s l m hl hc h _=>exact one rfl rfl (.deep s l m hl hc h)
 |Ix s l m hl hc h _=>exact one rfl rfl (.Ix s l m hl hc h)
 |fn f a b a' b' ha hb h k _ _=>exact one rfl rfl (.fn f a b a' b' ha hb h k)
 |cG t x y h _=>exact one rfl rfl (.cG t x y h)
 |trans x y z h k ih ik=>
  refine⟨ih.1.trans ik.1,fun j c d hc hd=> ?_⟩
  have hj:j<y.cells.length:=by rw[←ih.1];exact κ hc
  exact .trans _ _ _ (ih.2 j _ _ hc (List.getElem?_eq_getElem hj)) (ik.2 j _ _ (List.getElem?_eq_getElem hj) hd)
theorem dQ{α β:Type}{l:List α}{m:List β}(hl:l.length=m.length){i:Nat}{b:β}(h:m[i]?=some b):∃a,l[i]?=some a:=
 ⟨l[i]'(by rw[hl];exact κ h),List.getElem?_eq_getElem _⟩
theorem RT.sub{w:World}{M:Nat→Prop}{x y:T}(h:a9 x y):∀{v:Value},RT w M x v→RT w M y v:=by
 have deep:∀{s:Nat} {l m:List T} {v:Value},l.length=m.length→(∀(i:Nat) e e',l[i]?=some e→m[i]?=some e'→e.cells.length=e'.cells.length)→
  (∀(i:Nat) e e' (j:Nat) c d,l[i]?=some e→m[i]?=some e'→e.cells[j]?=some c→e'.cells[j]?=some d→a9 c d∧∀{v:Value},RT w M c v→RT w M d v)→RT w M (.vec s l) v→RT w M (.vec s m) v:=by
  intro s l m v hl bn h hr
  cases hr with|vec _ _ b off cap sp vals hM eu jh hs hc pN=>
  have au:m≠[]→l≠[]:=fun h e=>h (List.eq_nil_of_length_eq_zero (by rw[←hl,e];rfl))
  rw[hl]at eu
  have cell:∀(i:Nat) e' (j:Nat) d,m[i]?=some e'→e'.cells[j]?=some d→∃e c,l[i]?=some e∧e.cells[j]?=some c:=fun i e' j d hi hj=>by
   obtain⟨e,he⟩:=dQ hl hi
   obtain⟨c,hc⟩:=dQ (bn i e e' he hi) hj
   exact⟨e,c,he,hc⟩
  have:=RT.vec (w:=w) (M:=M) s m b off cap sp vals (fun a=>hM (au a)) eu (fun a=>jh (au a)) (fun i e' hi=>by
   obtain⟨e,he⟩:=dQ hl hi
   rw[←bn i e e' he hi];exact hs i e he)
   (fun i e' j d hi hj=>by
    obtain⟨e,c,he,ig⟩:=cell i e' j d hi hj
    obtain⟨h1,h2⟩:=hc i e j c he ig
    exact⟨h1,by rw[←(h i e e' j c d he hi ig hj).1.one];exact h2⟩)
   (fun i e' j d hi hj=>by
    obtain⟨e,c,he,ig⟩:=cell i e' j d hi hj
    exact(h i e e' j c d he hi ig hj).2 (pN i e j c he ig))
  rw[←hl]at this
  exact this
 induction h with
 |refl x=>exact id
 |af s=>intro v hr;cases hr;exact .km s
 |vec s l=>intro v hr;exact .θ s l v hr
 |agg cs ds hl h ih=>
  intro v hr
  cases hr with|agg _ vs iB h1 pN=>
  refine .agg ds vs (by omega) (fun i d hi=> ?_) (fun i d v hi hv=> ?_)
  ·obtain⟨c,hc⟩:=dQ hl hi
   rw[←(h i c d hc hi).one];exact h1 i c hc
  ·obtain⟨c,hc⟩:=dQ hl hi
   exact ih i c d hc hi (pN i c v hc hv)
 |bg cs ds hl h ih=>
  intro v hr
  cases hr with|bg _ b off vals hM hc pN=>
  refine .bg ds b off vals (fun au=>hM fun e=>au (List.eq_nil_of_length_eq_zero (by rw[←hl,e];rfl))) (fun i d hi=> ?_) (fun i d hi=> ?_)
  ·obtain⟨c,ig⟩:=dQ hl hi
   obtain⟨h1,h2⟩:=hc i c ig
   exact⟨h1,by rw[←(h i c d ig hi).one];exact h2⟩
  ·obtain⟨c,ig⟩:=dQ hl hi
   exact ih i c d ig hi (pN i c ig)
 |deep s l m hl hc h ih=>intro v hr;exact deep hl hc (fun i e e' j c d a b e1 e2=>⟨h i e e' j c d a b e1 e2,ih i e e' j c d a b e1 e2⟩) hr
 |Ix s l m hl hc h ih=>
  intro v hr
  rcases qy hr with⟨h0,rfl⟩|hr
  ·obtain rfl:m=[]:=List.eq_nil_of_length_eq_zero (by rw[←hl,h0];rfl)
   exact .km s
  ·exact .θ _ _ _ (deep hl hc (fun i e e' j c d a b e1 e2=>⟨h i e e' j c d a b e1 e2,ih i e e' j c d a b e1 e2⟩) hr)
 |fn f a b a' b' ha hb h k ih ik=>
  intro v hr
  cases hr with|fn _ _ _ p q h1 h2 h3 h4=>
  refine .fn f a' b' p q (by omega) (by omega) (fun i d v hi hv=> ?_) (fun i d v hi hv=> ?_)
  ·obtain⟨c,hc⟩:=dQ ha hi
   exact ih i c d hc hi (h3 i c v hc hv)
  ·obtain⟨c,hc⟩:=dQ hb hi
   exact ik i c d hc hi (h4 i c v hc hv)
 |cG t x y h ih=>
  intro v hr
  cases hr with|cG _ _ v hr=>exact .cG t y v (ih hr)
 |trans x y z _ _ ih ik=>intro v hr;exact ik (ih hr)
def gD:List T→List T→Prop
 |[],[]=>True
 |x::r,y::s=>a9 x y∧gD r s
 |_,_=>False
theorem gD.get:∀{l m:List T},gD l m→l.length=m.length∧∀(i:Nat) c d,l[i]?=some c→m[i]?=some d→a9 c d
 |[],[],_=>⟨rfl,by simp⟩
 |x::r,y::s,h=>by
  obtain⟨h1,h2⟩:=gD.get h.2
  refine⟨by simp[h1],fun i c d hc hd=> ?_⟩
  cases i with
  |zero=>simp at hc hd;subst hc hd;exact h.1
  |succ i=>simp at hc hd;exact h2 i c d hc hd
 |[],_::_,h=>h.elim
 |_::_,[],h=>h.elim
theorem gD.refl:∀(l:List T),gD l l
 |[]=>trivial
 |x::r=>⟨.refl x,gD.refl r⟩
theorem a9.Cj(s:Nat){l m:List T}(hl:l.length=m.length)(h:∀(i:Nat) e e',l[i]?=some e→m[i]?=some e'→a9 e e'):a9 (.vec s l) (.vec s m):=
 .deep s l m hl (fun i e e' a b=>(h i e e' a b).cells.1) (fun i e e' j c d a b e1 e2=>(h i e e' a b).cells.2 j c d e1 e2)
theorem a9.sO{l m:List T}(h:gD l m):a9 (.agg l) (.agg m):= .agg _ _ h.get.1 h.get.2
theorem φ.sub{P:Program}{f:FuncId}{ts kD:List T}{r:AV}(h:φ P f kD r)(hs:gD ts kD):φ P f ts r:=by
 obtain⟨hl,hg⟩:=hs.get
 refine⟨h.1,fun n F w vs hF bE hr=>h.2 n F w vs hF (by omega) fun i t v hi hv=> ?_⟩
 obtain⟨c,hc⟩:=dQ hl hi
 exact RT.sub (hg i c t hc hi) (hr i c v hc hv)
mutual
def pw:Nat→AH→AV→Option (T×List Nat)
 |0,_,_=>none
 |k+1,H,v=>
  match v with
  | .t x=>some (x,[])
  | .sl b g i m=>
   match H[b]?with
   |some (.arr _ s z gen l)=>
    match Nat.beq g gen with
    |true=>match z with
     |true=>match l.part i m with
      | .ts q=>some (.θ s q,[b])
      | .vs q=>match fJ k H q with|some (q,ids)=>some (.θ s q,b::ids)|none=>none
     |false=>match l.part i m with
      | .ts q=>some (.vec s q,[b])
      | .vs q=>match fJ k H q with|some (q,ids)=>some (.vec s q,b::ids)|none=>none
    |false=>none
   |_=>none
  | .dx=>some (.vec 0 [],[])
  | .ptr b _ _ o=>
   match H[b]?with
   |some (.box cells)=>match fJ k H (cells.drop o)with|some (l,ids)=>some (.bg l,b::ids)|none=>none
   |_=>none
  | .agg cs=>match cs.all AV.one,fJ k H cs with|true,some (l,ids)=>some (.agg l,ids)|_,_=>none
  | .fn f a b=>match fJ k H a,fJ k H b with|some (x,i),some (y,j)=>some (.fn f x y,i++j)|_,_=>none
  | .cG t v=>match pw k H v with|some (x,i)=>some (.cG t x,i)|none=>none
  |_=>none
def fJ:Nat→AH→List AV→Option (List T×List Nat)
 |0,_,_=>none
 |_+1,_,[]=>some ([],[])
 |k+1,H,v::r=>match pw k H v,fJ k H r with|some (x,i),some (l,j)=>some (x::l,i++j)|_,_=>none
end
theorem gU(H:AH):∀(k:Nat),(∀v x' rr,pw k H v=some (x',rr)→∃x ids,ea k H v=some (x,ids)∧(∀b∈ids,b∈rr)∧a9 x x')∧
 (∀v x' rr,fJ k H v=some (x',rr)→∃x ids,iu k H v=some (x,ids)∧(∀b∈ids,b∈rr)∧gD x x')
 |0=>⟨fun v x' rr h=>by simp[pw]at h,fun v x' rr h=>by simp[fJ]at h⟩
 |k+1=>by
  obtain⟨U4,Ga⟩:=gU H k
  constructor
  ·intro v x' rr h
   simp only[pw]at h
   split at h
   ·cases h;exact⟨_,_,by simp only[ea],fun _ h=>h,.refl _⟩
   ·rename_i b g i m
    cases hb:H[b]?with
    |none=>rw[hb]at h;cases h
    |some π=>
     rw[hb]at h
     cases π with
     |dead=>cases h
     |box=>cases h
     |iter=>cases h
     |arr e s z gen l=>
      simp only at h
      split at h
      ·rename_i hg
       have row:∀{mk:Nat→List T→T} (lP:∀{l m:List T},gD l m→a9 (.vec s l) (mk s m)),(match l.part i m with
        | .ts q=>some (mk s q,[b])
        | .vs q=>match fJ k H q with|some (q,ids)=>some (mk s q,b::ids)|none=>none)=some (x',rr)→
        ∃q q' ids,(match l.part i m with
         | .ts q=>some (T.vec s q,[b])
         | .vs q=>match iu k H q with|some (q,ids)=>some (T.vec s q,b::ids)|none=>none)=some (T.vec s q,ids)∧(∀b∈ids,b∈rr)∧x'=mk s q'∧gD q q'∧q'.length=(l.part i m).length:=by
        intro mk lP h
        split at h
        ·rename_i q hq
         cases h
         rw[hq]
         exact⟨q,q,_,rfl,fun _ h=>h,rfl,gD.refl q,rfl⟩
        ·rename_i q hq
         rw[hq]
         split at h
         ·rename_i q' js hl
          cases h
          obtain⟨x,ids,h1,h2,h3⟩:=Ga _ _ _ hl
          refine⟨x,q',b::ids,by simp only[h1],fun c hc=> ?_,rfl,h3,?_⟩
          ·simp only[List.mem_cons]at hc⊢
           exact hc.imp id (h2 c)
          ·rw[←h3.get.1];exact(pv k h1).1
         ·cases h
       split at h
       ·
        obtain⟨q,q',ids,h1,h2,rfl,h3,h4⟩:=row (mk:= .θ) (fun{a c} hh=> .trans _ _ _ (.Cj s hh.get.1 hh.get.2) (.vec s c)) h
        by_cases h0:l.length=0
        ·have DW:q'=[]:=List.eq_nil_of_length_eq_zero (by rw[h4,Sq.ke];omega)
         subst DW
         refine⟨.af,[],?_,by simp,.af s⟩
         simp only[ea,hb,hg,h0]
         rfl
        ·refine⟨.vec s q,ids,?_,h2,.trans _ _ _ (.Cj s h3.get.1 h3.get.2) (.vec s q')⟩
         have hn:(true&&Nat.beq l.length 0)=false:=by
          cases hh:Nat.beq l.length 0 with
          |false=>rfl
          |true=>exact(h0 (Nat.eq_of_beq_eq_true hh)).elim
         simp only[ea,hb,hg,hn]
         exact h1
       ·obtain⟨q,q',ids,h1,h2,rfl,h3,h4⟩:=row (mk:= .vec) (fun{a c} hh=> .Cj s hh.get.1 hh.get.2) h
        refine⟨.vec s q,ids,?_,h2,.Cj s h3.get.1 h3.get.2⟩
        simp only[ea,hb,hg,Bool.false_and]
        exact h1
      ·cases h
   ·cases h;exact⟨_,_,by simp only[ea],fun _ h=>h,.refl _⟩
   ·rename_i b g i o
    cases hb:H[b]?with
    |none=>rw[hb]at h;cases h
    |some π=>
     rw[hb]at h
     cases π with
     |dead=>cases h
     |arr=>cases h
     |iter=>cases h
     |box cells=>
      simp only at h
      split at h
      ·rename_i l ids hl
       cases h
       obtain⟨x,js,h1,h2,h3⟩:=Ga _ _ _ hl
       refine⟨.bg x,b::js,by simp only[ea,hb,h1],fun c hc=> ?_,.bg _ _ h3.get.1 h3.get.2⟩
       simp only[List.mem_cons]at hc⊢
       exact hc.imp id (h2 c)
      ·cases h
   ·rename_i cs
    split at h
    ·rename_i l ids ho hl
     cases h
     obtain⟨x,js,h1,h2,h3⟩:=Ga _ _ _ hl
     exact⟨.agg x,js,by simp only[ea,ho,h1],h2,.sO h3⟩
    ·cases h
   ·rename_i f a b
    split at h
    ·rename_i x i y j hx hy
     cases h
     obtain⟨x1,i1,h1,h2,h3⟩:=Ga _ _ _ hx
     obtain⟨y1,j1,k1,k2,k3⟩:=Ga _ _ _ hy
     refine⟨.fn f x1 y1,i1++j1,by simp only[ea,h1,k1],fun c hc=> ?_,.fn f _ _ _ _ h3.get.1 k3.get.1 h3.get.2 k3.get.2⟩
     simp only[List.mem_append]at hc⊢
     exact hc.imp (h2 c) (k2 c)
    ·cases h
   ·rename_i t v
    split at h
    ·rename_i x i hx
     cases h
     obtain⟨x1,i1,h1,h2,h3⟩:=U4 _ _ _ hx
     exact⟨.cG t x1,i1,by simp only[ea,h1],h2,.cG t _ _ h3⟩
    ·cases h
   ·cases h
  ·intro v x' rr h
   cases v with
   |nil=>simp only[fJ]at h;cases h;exact⟨[],[],by simp only[iu],by simp,trivial⟩
   |cons a r=>
    simp only[fJ]at h
    split at h
    ·rename_i x i l j hx hl
     cases h
     obtain⟨x1,i1,h1,h2,h3⟩:=U4 _ _ _ hx
     obtain⟨l1,j1,k1,k2,k3⟩:=Ga _ _ _ hl
     refine⟨x1::l1,i1++j1,by simp only[iu,h1,k1],fun c hc=> ?_,h3,k3⟩
     simp only[List.mem_append]at hc⊢
     exact hc.imp (h2 c) (k2 c)
    ·cases h
theorem gD.trans:∀{a b c:List T},gD a b→gD b c→gD a c
 |[],[],[],_,_=>trivial
 |x::r,y::s,z::t,h,k=>⟨.trans _ _ _ h.1 k.1,gD.trans h.2 k.2⟩
 |[],[],_::_,_,k=>k.elim
 |[],_::_,_,h,_=>h.elim
 |_::_,[],_,h,_=>h.elim
 |_::_,_::_,[],_,k=>k.elim
theorem γ.cx{P:Program}{f:FuncId}{args:List AV}{kD ts:List T}{ids:List Nat}{r:AV}{H:AH}{Q:AV→AH→Prop}(h:φ P f ts r)(ha:fJ 32 H args=some (kD,ids))(hs:gD kD ts)(hf:Flat r)
 (k:Q (imp H.length r).1 (H++(imp H.length r).2)):γ P f args H Q:=by
 obtain⟨x,js,h1,_,h3⟩:=(gU H 32).2 _ _ _ ha
 exact γ.jo (h.sub (h3.trans hs)) (by simp only[IE,h1,Option.map_some]) hf k
theorem γ.a8{P:Program}{f:FuncId}{args:List AV}{kD ts:List T}{ids:List Nat}{r:AV}{H:AH}{Q:AV→AH→Prop}(h:φ P f ts r)(ha:fJ 32 H args=some (kD,ids))(qf:gD kD ts)
 (k:Q (imp H.length r).1 (d_ ids H++(imp H.length r).2)):γ P f args H Q:=by
 obtain⟨x,js,h1,n_,h3⟩:=(gU H 32).2 _ _ _ ha
 have h:=h.sub (h3.trans qf)
 intro B c w vs hs hl hr
 obtain⟨ev,aK⟩:=sm ids hs
 obtain⟨hlen,iU⟩:=mo hs (M':=c.M (d_ ids H)) (fun cb hm=>by
  rcases hm with hm|⟨b,π,hb,iB,hg⟩
  ·exact .inl hm
  ·rcases gY ids hb with rfl|⟨_,hb⟩
   ·simp[Ω.live]at iB
   ·exact .inr ⟨b,π,hb,iB,hg⟩) 32 h1 (vs:=vs.toList) (by simpa using hl.symm) (fun i x v hi hv=>hr i x v hi (by simpa using hv))
  (fun b hb cb hg hm=>by
   rcases hm with hm|⟨b2,π,gZ,iB,ny⟩
   ·exact((hs.fb cb hm).2 b hg).elim
   ·have:=hs.inj b b2 cb hg ny
    subst this
    rcases gY ids gZ with rfl|⟨hn,_⟩
    ·simp[Ω.live]at iB
    ·exact hn (n_ b hb))
 have ru:jm (x.map .t)=some x:=by
  clear iU hlen ha h h1 h3
  induction x with
  |nil=>rfl
  |cons x r ih=>simp only[List.map_cons,jm,z7,ih]
 have key:=γ.pure (H:=d_ ids H) (Q:=Q) h ru (by rw[ui];exact k) B c w vs aK (by rw[List.length_map];omega) (qC fun i x v hi hv=>iU i x v hi (by simpa using hv))
 refine key.mono ?_
 rintro e w' ⟨v,c',r',H',he,h1,h2,h3,h4,h5⟩
 exact⟨v,c',r',H',he,h1,h2,ev.trans h3,h4,h5⟩
end Go.Proofs.YtcogcbplmkcojaaGreatDoor
namespace Go.Proofs.YtcogcbplmkcojaaGreatDoor
open Go.RowKit
set_option linter.unusedVariables false
inductive eM(ids:List Nat)(H H':AH):AV→AV→Prop
 |same (x:AV):eM ids H H' x x
 |jo (x:AV) (t:T) (js:List Nat) (k:Nat) (h:ea k H x=some (t,js)) (hj:∀b∈js,b∈ids):eM ids H H' x (.t t)
 |nil (b e s:Nat) (h:H'[b]?=some (.arr e s true 0 (.ts []))):eM ids H H' (.t .af) (.sl b 0 0 0)
 |sub (x y:T) (h:a9 x y):eM ids H H' (.t x) (.t y)
 |eU (x:AV) (t t':T) (js:List Nat) (k:Nat) (h:pw k H x=some (t,js)) (hs:a9 t t') (hj:∀b∈js,b∈ids):eM ids H H' x (.t t')
 |agg (cs kA:List AV) (hl:kA.length=cs.length) (h:∀(i:Nat) x x',cs[i]?=some x→kA[i]?=some x'→eM ids H H' x x'):eM ids H H' (.agg cs) (.agg kA)
 |aq (cs kA:List AV) (hl:kA.length=cs.length) (h:∀(i:Nat) x x',cs[i]?=some x→kA[i]?=some x'→eM ids H H' x x'):eM ids H H' (.aq cs) (.aq kA)
inductive uI(ids:List Nat)(H H':AH):Ω→Ω→Prop
 |same (b:Ω):uI ids H H' b b
 |box (cs kA:List AV) (hl:kA.length=cs.length) (h:∀(i:Nat) x x',cs[i]?=some x→kA[i]?=some x'→eM ids H H' x x'):uI ids H H' (.box cs) (.box kA)
 |arr (e s:Nat) (z:Bool) (g:Nat) (l l':Sq) (hl:l'.length=l.length)
  (h:∀(i:Nat) x',l'.get i=some x'→∃x,l.get i=some x∧x'.cells.length=x.cells.length∧∀(j:Nat) y',x'.cells[j]?=some y'→∃y,x.cells[j]?=some y∧eM ids H H' y y'):uI ids H H' (.arr e s z g l) (.arr e s z g l')
theorem El{w:World}{c:Cx}{H H':AH}{B:Nat}(ids:List Nat)(hs:HS w c H B)(hlen:H'.length=H.length)
 (nA:∀(b:Nat) aA,H'[b]?=some aA→aA= .dead∨(b∉ids∧∃π,H[b]?=some π∧uI ids H H' π aA)):
 Ev w c H w c H'∧HS w c H' B∧∀{x x':AV} {v:Value},eM ids H H' x x'→RA w c H x v→RA w c H' x' v:=by
 have back:∀(b:Nat) aA,H'[b]?=some aA→aA.live=true→b∉ids∧∃π,H[b]?=some π∧π.live=true∧uI ids H H' π aA:=fun b aA hb hl=>by
  rcases nA b aA hb with rfl|⟨h1,π,h2,h3⟩
  ·cases hl
  ·refine⟨h1,π,h2,?_,h3⟩
   cases h3 with
   |same=>exact hl
   |box=>rfl
   |arr=>rfl
 have sr:∀cb,c.M H' cb→c.M H cb:=fun cb hm=>by
  rcases hm with hm|⟨b,aA,hb,iB,hg⟩
  ·exact .inl hm
  ·obtain⟨_,π,h2,h3,_⟩:=back b aA hb iB
   exact .inr ⟨b,π,h2,h3,hg⟩
 have X6:∀cb,c.O H' cb→c.O H cb:=fun cb ⟨b,aA,hb,iB,hg⟩=>by
  obtain⟨_,π,h2,h3,_⟩:=back b aA hb iB
  exact⟨b,π,h2,h3,hg⟩
 have pU:∀b∈ids,∀cb,c.G b=some cb→¬c.M H' cb:=fun b hb cb hg hm=>by
  rcases hm with hm|⟨b2,aA,gZ,iB,ny⟩
  ·exact((hs.fb cb hm).2 b hg).elim
  ·have:=hs.inj b b2 cb hg ny
   subst this
   exact(back b aA gZ iB).1 hb
 have ev:Ev w c H w c H':=by
  refine⟨rfl,Nat.le_refl _,fun b π hb=> ?_,fun cb hm=> .inl (X6 cb hm),fun _ _ _=>rfl,fun _ _ _ _ h=>h⟩
  have ω:b<H'.length:=by rw[hlen];exact κ hb
  have eX:=List.getElem?_eq_getElem ω
  generalize H'[b]=aA at eX
  refine⟨aA,eX,?_⟩
  rcases nA b _ eX with h|⟨_,OO,h2,h3⟩
  ·rw[h];cases π<;>trivial
  ·rw[hb]at h2;cases h2
   cases h3 with
   |same=>
    cases π with
    |dead=>trivial
    |box cs=>exact⟨rfl,fun _ h=>h⟩
    |iter s p=>exact⟨rfl,fun _ h=>h⟩
    |arr=>exact⟨rfl,rfl,rfl,Nat.le_refl _,Nat.le_refl _,fun _=>⟨rfl,fun cb hc=>⟨hc,rfl⟩⟩⟩
   |box cs kA hl h=>exact⟨hl.symm,fun _ h=>h⟩
   |arr e s z g l l' hl h=>exact⟨rfl,rfl,rfl,by rw[hl];exact Nat.le_refl _,Nat.le_refl _,fun _=>⟨hl,fun cb hc=>⟨hc,rfl⟩⟩⟩
 have one:∀{x x':AV},eM ids H H' x x'→x.one=true→x'.one=true:=fun{x x'} hf h1=>by
  cases hf with
  |same=>exact h1
  |jo _ t js k h hj=>exact rV k h h1
  |nil=>rfl
  |sub x y h=>exact(show y.one=true from h.one▸(show x.one=true from h1))
  |eU _ t t' js k h Sx hj=>
   obtain⟨x2,i1,h2,_,h3⟩:=(gU H k).1 _ _ _ h
   have:=rV k h2 h1
   rw[h3.one,Sx.one]at this
   exact this
  |agg=>cases h1
  |aq=>cases h1
 have ra:∀{x x':AV} {v:Value},eM ids H H' x x'→RA w c H x v→RA w c H' x' v:=fun{x x' v} hf hr=>by
  induction hf generalizing v with
  |same=>exact hr.ev ev
  |jo _ t js k h hj=>exact .t _ _ (tH hs sr k h hr fun b hb=>pU b (hj b hb))
  |nil b e s h=>
   cases hr with|t _ _ hr=>
   cases hr
   exact .sl b 0 0 0 _ _ h ⟨Nat.le_refl _,fun _=>⟨Nat.le_refl _,.inl ⟨rfl,rfl,rfl⟩⟩⟩
  |sub x y h=>
   cases hr with|t _ _ hr=>exact(RA.t _ _ (RT.sub h hr)).ev ev
  |eU _ t t' js k h Sx hj=>
   obtain⟨x1,i1,h1,h2,h3⟩:=(gU H k).1 _ _ _ h
   exact .t _ _ (RT.sub (.trans _ _ _ h3 Sx) (tH hs sr k h1 hr fun b hb=>pU b (hj b (h2 b hb))))
  |agg cs kA hl h ih=>
   cases hr with|agg _ vs h0 h1 h2=>
   refine .agg _ _ (by omega) (fun i x' hi=> ?_) (fun i x' u hi hu=> ?_)
   ·have ω:i<cs.length:=by have:=κ hi;omega
    exact one (h i _ x' (List.getElem?_eq_getElem ω) hi) (h1 i _ (List.getElem?_eq_getElem ω))
   ·have ω:i<cs.length:=by have:=κ hi;omega
    exact ih i _ x' (List.getElem?_eq_getElem ω) hi (h2 i _ u (List.getElem?_eq_getElem ω) hu)
  |aq cs kA hl h ih=>
   cases hr with|aq _ vs h0 h2=>
   refine .aq _ _ (by omega) (fun i x' u hi hu=> ?_)
   have ω:i<cs.length:=by have:=κ hi;omega
   exact ih i _ x' (List.getElem?_eq_getElem ω) hi (h2 i _ u (List.getElem?_eq_getElem ω) hu)
 refine⟨ev,hs.az ev hs.inj hs.base (fun b cb h=>by rw[hlen];exact hs.kz b cb h) (fun b cb cells hb hg=> ?_) (fun b cb e s z g l hb hg=> ?_) (fun b cb s p hb hg=> ?_),ra⟩
 ·obtain⟨_,π,h2,_,h3⟩:=back b _ hb rfl
  cases h3 with
  |same=>exact .inl ⟨h2,hg,rfl⟩
  |box cs kA hl h=>
   obtain⟨arr,e,a1,a2,a3⟩:=hs.box b cb cs h2 hg
   refine .inr ⟨arr,e,a1,by omega,fun j x v hj hv=> ?_⟩
   have eQ:j<cs.length:=by have:=κ hj;omega
   have hx:=List.getElem?_eq_getElem eQ
   obtain⟨b1,b2,b3⟩:=a3 j _ v hx hv
   exact⟨one (h j _ x hx hj) b1,ra (h j _ x hx hj) b2,b3⟩
 ·obtain⟨_,π,h2,_,h3⟩:=back b _ hb rfl
  cases h3 with
  |same=>exact .inl ⟨h2,hg,rfl⟩
  |arr e s z g l0 l' hl h=>
   obtain⟨arr,cap,a1,a2,a3,a4,a5⟩:=hs.arr b cb e s z g l0 h2 hg
   refine .inr ⟨arr,cap,a1,a2,by rw[hl];exact a3,a4,fun i x' hi=> ?_⟩
   obtain⟨x,hx,bn,hy⟩:=h i x' hi
   obtain⟨c1,c2⟩:=a5 i x hx
   refine⟨by omega,fun j y' hj=> ?_⟩
   obtain⟨y,tg,U6⟩:=hy j y' hj
   obtain⟨v,d1,d2,d3,d4⟩:=c2 j y tg
   exact⟨v,d1,one U6 d2,ra U6 d3,d4⟩
 ·obtain⟨_,π,h2,_,h3⟩:=back b _ hb rfl
  cases h3 with
  |same=>exact .inl ⟨h2,hg,rfl⟩
theorem ja{k0:Nat}{s s':St}(ids:List Nat)(hlen:s'.H.length=s.H.length)
 (nA:∀(b:Nat) aA,s'.H[b]?=some aA→aA= .dead∨(b∉ids∧∃π,s.H[b]?=some π∧uI ids s.H s'.H π aA))
 (Wk:∀t,lk s'.env t= .bq∨eM ids s.H s'.H (lk s.env t) (lk s'.env t)):aB k0 s s':=by
 intro O c a w _ hs
 obtain⟨ev,aK,ra⟩:=El ids hs.hs hlen nA
 refine⟨c,fun t=> ?_,aK,hs.size,hs.defers,hs.ev.trans ev,hs.below⟩
 rcases Wk t with e|e
 ·rw[e];exact .bq _
 ·exact ra e (hs.env t)
theorem Ok{ids:List Nat}{H H':AH}(e s:Nat)(z:Bool)(g:Nat)(A:List T)(cs:List AV)(ts:List T)(hl:ts.length=cs.length)(h:∀(j:Nat) y t,cs[j]?=some y→ts[j]?=some t→eM ids H H' y (.t t)):
 uI ids H H' (.arr e s z g (.vs (A.map .t++[.agg cs]))) (.arr e s z g (.ts (A++[.agg ts]))):=by
 refine .arr e s z g _ _ (by simp[Sq.length]) fun i x' hi=> ?_
 simp only[Sq.get,Option.map_eq_some_iff]at hi⊢
 obtain⟨t,hi,rfl⟩:=hi
 by_cases ω:i<A.length
 ·rw[List.getElem?_append_left ω]at hi
  refine⟨.t t,by rw[List.getElem?_append_left (by simpa using ω)];simp[hi],rfl,fun j y' hj=>⟨y',hj,.same _⟩⟩
 ·rw[List.getElem?_append_right (by omega)]at hi
  have vR:i - A.length=0:=by have:=κ hi;simp at this;omega
  rw[vR]at hi
  simp at hi
  subst hi
  refine⟨.agg cs,by rw[List.getElem?_append_right (by simp;omega)];simp[vR],by simp[AV.cells,hl],fun j y' hj=> ?_⟩
  simp only[AV.cells,List.getElem?_map,Option.map_eq_some_iff]at hj
  obtain⟨t,ht,rfl⟩:=hj
  have eQ:j<cs.length:=by have:=κ ht;omega
  exact⟨cs[j],List.getElem?_eq_getElem eQ,h j _ t (List.getElem?_eq_getElem eQ) ht⟩
theorem B0{ids:List Nat}{H H':AH}{env env':List (Nat×AV)}(h:zS env env')(t:Nat):lk env' t= .bq∨eM ids H H' (lk env t) (lk env' t):=
 (yl h t).imp id fun e=>by rw[e];exact .same _
theorem om{k0:Nat}{env:List (Nat×AV)}{H:AH}(π:Ω):aB k0 ⟨env,H⟩ ⟨env,H++[π]⟩:=by
 intro O c a w _ hs
 obtain⟨ev,aK⟩:=q_ hs.hs π
 exact⟨c,fun t=>(hs.env t).ev ev,aK,hs.size,hs.defers,hs.ev.trans ev,hs.below⟩
end Go.Proofs.YtcogcbplmkcojaaGreatDoor
namespace Go.Proofs.YtcogcbplmkcojaaGreatDoor
open Go.RowKit
set_option linter.unusedVariables false
set_option linter.unusedSimpArgs false
structure gT(l m:List T):Prop where
 hl:l.length=m.length
 hc:∀(i:Nat) e e',l[i]?=some e→m[i]?=some e'→e.cells.length=e'.cells.length
 h:∀(i:Nat) e e' (j:Nat) c d,l[i]?=some e→m[i]?=some e'→e.cells[j]?=some c→e'.cells[j]?=some d→a9 c d
theorem gT.refl(l:List T):gT l l:=⟨rfl,fun i e e' a b=>by rw[a]at b;cases b;rfl,fun i e e' j c d a b e1 e2=>by rw[a]at b;cases b;rw[e1]at e2;cases e2;exact .refl c⟩
theorem gT.of_eq{l m:List T}(h:l=m):gT l m:=h▸.refl l
theorem gT.Kw{l m:List T}(hl:l.length=m.length)(h:∀(i:Nat) e e',l[i]?=some e→m[i]?=some e'→a9 e e'):gT l m:=
 ⟨hl,fun i e e' a b=>(h i e e' a b).cells.1,fun i e e' j c d a b e1 e2=>(h i e e' a b).cells.2 j c d e1 e2⟩
theorem gT.map{α:Type}{f g:α→T}(h:∀a,a9 (f a) (g a))(l:List α):gT (l.map f) (l.map g):=
 .Kw (by simp) fun i e e' a b=>by
  simp only[List.getElem?_map,Option.map_eq_some_iff]at a b
  obtain⟨x,hx,rfl⟩:=a
  obtain⟨y,hy,rfl⟩:=b
  rw[hx]at hy;cases hy
  exact h x
theorem gT.append{a b c d:List T}(h:gT a c)(k:gT b d):gT (a++b) (c++d):=by
 have key:∀(i:Nat) e e',(a++b)[i]?=some e→(c++d)[i]?=some e'→(∃i:Nat,a[i]?=some e∧c[i]?=some e')∨∃i:Nat,b[i]?=some e∧d[i]?=some e':=by
  intro i e e' h1 h2
  by_cases ω:i<a.length
  ·rw[List.getElem?_append_left ω]at h1
   rw[List.getElem?_append_left (by rw[←h.hl];exact ω)]at h2
   exact .inl ⟨i,h1,h2⟩
  ·rw[List.getElem?_append_right (by omega)]at h1
   rw[List.getElem?_append_right (by rw[←h.hl];omega),←h.hl]at h2
   exact .inr ⟨_,h1,h2⟩
 refine⟨by simp[h.hl,k.hl],fun i e e' h1 h2=> ?_,fun i e e' j x y h1 h2 h3 h4=> ?_⟩
 ·rcases key i e e' h1 h2 with⟨i,q1,q2⟩|⟨i,q1,q2⟩
  ·exact h.hc i e e' q1 q2
  ·exact k.hc i e e' q1 q2
 ·rcases key i e e' h1 h2 with⟨i,q1,q2⟩|⟨i,q1,q2⟩
  ·exact h.h i e e' j x y q1 q2 h3 h4
  ·exact k.h i e e' j x y q1 q2 h3 h4
theorem gT.Ue{l m:List T}(s:Nat)(h:gT l m):a9 (.vec s l) (.vec s m):= .deep s l m h.hl h.hc h.h
theorem gT.RH{l m:List T}(s:Nat)(h:gT l m):a9 (.vec s l) (.θ s m):= .trans _ _ _ (h.Ue s) (.vec s m)
theorem gT.VM{ids:List Nat}{H H':AH}{l m:List T}(h:gT l m)(e s:Nat)(z:Bool)(g:Nat):uI ids H H' (.arr e s z g (.ts l)) (.arr e s z g (.ts m)):=by
 refine .arr e s z g _ _ h.hl.symm fun i x' hi=> ?_
 obtain⟨e',eH,rfl⟩:=qS hi
 obtain⟨x,hx⟩:=dQ h.hl eH
 refine⟨.t x,by simp[Sq.get,hx],by rw[T.dK,T.dK,List.length_map,List.length_map,h.hc i x e' hx eH],fun j y' hj=> ?_⟩
 rw[T.dK]at hj⊢
 simp only[List.getElem?_map,Option.map_eq_some_iff]at hj⊢
 obtain⟨d,hd,rfl⟩:=hj
 obtain⟨c,hc⟩:=dQ (h.hc i x e' hx eH) hd
 exact⟨_,⟨c,hc,rfl⟩,.sub c d (h.h i x e' j c d hx eH hc hd)⟩
inductive sy:AV→AV→Prop
 |t (x y:T) (h:a9 x y):sy (.t x) (.t y)
 |own (e s:Nat) (z:Bool) (l m:List T) (h:gT l m):sy (.own e s z l) (.own e s z m)
def uF:List AV→List AV→Prop
 |[],[]=>True
 |x::r,y::s=>sy x y∧uF r s
 |_,_=>False
inductive ym:AV→AV→Prop
 |one (x y:AV) (h:sy x y):ym x y
 |aq (l m:List AV) (h:uF l m):ym (.aq l) (.aq m)
def E7(a b:Ω):Prop:=∃e s z l m,gT l m∧a= .arr e s z 0 (.ts l)∧b= .arr e s z 0 (.ts m)
theorem x6{x y:AV}(n:Nat)(h:sy x y):((∃a b,a9 a b∧(eI n x).1= .t a∧(eI n y).1= .t b)∨(eI n x).1=(eI n y).1)∧(eI n x).2.length=(eI n y).2.length∧∀(i:Nat) a b,(eI n x).2[i]?=some a→(eI n y).2[i]?=some b→E7 a b:=by
 cases h with
 |t x y h=>exact⟨.inl ⟨x,y,h,rfl,rfl⟩,rfl,by simp[eI,gA]⟩
 |own e s z l m h=>
  refine⟨.inr ?_,rfl,fun i a b ha hb=> ?_⟩
  ·show AV.sl n 0 0 l.length= .sl n 0 0 m.length
   rw[h.hl]
  ·simp only[eI,gA]at ha hb
   cases i with
   |zero=>simp at ha hb;subst ha hb;exact⟨e,s,z,l,m,h,rfl,rfl⟩
   |succ i=>simp at ha
theorem vG:∀{l m:List AV} (n:Nat),uF l m→(dD n l).1.length=(dD n m).1.length∧(∀(i:Nat) x y,(dD n l).1[i]?=some x→(dD n m).1[i]?=some y→(∃a b,a9 a b∧x= .t a∧y= .t b)∨x=y)∧
 (dD n l).2.length=(dD n m).2.length∧∀(i:Nat) a b,(dD n l).2[i]?=some a→(dD n m).2[i]?=some b→E7 a b
 |[],[],n,_=>⟨rfl,by simp[dD],rfl,by simp[dD]⟩
 |x::r,y::s,n,h=>by
  obtain⟨h1,h2,h3⟩:=x6 n h.1
  obtain⟨k1,k2,k3,k4⟩:=vG (n+(eI n x).2.length) h.2
  simp only[dD,←h2]
  refine⟨by simp[k1],fun i a b ha hb=> ?_,by simp only[List.length_append,k3];omega,fun i a b ha hb=> ?_⟩
  ·cases i with
   |zero=>
    simp at ha hb;subst ha hb
    rcases h1 with⟨p,q,e1,e2,e3⟩|h1
    ·exact .inl ⟨p,q,e1,e2,e3⟩
    ·exact .inr h1
   |succ i=>simp at ha hb;exact k2 i a b ha hb
  ·by_cases ω:i<(eI n x).2.length
   ·rw[List.getElem?_append_left ω]at ha
    rw[List.getElem?_append_left (by rw[←h2];exact ω)]at hb
    exact h3 i a b ha hb
   ·rw[List.getElem?_append_right (by omega)]at ha
    rw[List.getElem?_append_right (by rw[←h2];omega),←h2]at hb
    exact k4 _ a b ha hb
 |[],_::_,n,h=>h.elim
 |_::_,[],n,h=>h.elim
theorem uF.aJ:∀{l m:List AV},uF l m→m.all qY=true
 |[],[],_=>rfl
 |x::r,y::s,h=>by
  have h1:qY y=true:=by cases h.1<;>rfl
  simp only[List.all_cons,h1,uF.aJ h.2,Bool.and_self]
 |[],_::_,h=>h.elim
 |_::_,[],h=>h.elim
theorem FZ{n:Nat}{F:Nat→Prop}{G:Nat→Option Nat}{w:World}{B:Nat}{r0 r:AV}{v:Value}(hs:ym r0 r)
 (h1:RA w ⟨F,G⟩ (List.replicate n .dead++(imp n r0).2) (imp n r0).1 v) (h2:HS w ⟨F,G⟩ (List.replicate n .dead++(imp n r0).2) B):
 RA w ⟨F,G⟩ (List.replicate n .dead++(imp n r).2) (imp n r).1 v∧HS w ⟨F,G⟩ (List.replicate n .dead++(imp n r).2) B:=by
 have ON:(imp n r0).2.length=(imp n r).2.length∧∀(i:Nat) a b,(imp n r0).2[i]?=some a→(imp n r).2[i]?=some b→E7 a b:=by
  cases hs with
  |one _ _ h=>
   have e:∀x:AV,sy r0 r→(imp n r0)=eI n r0∧(imp n r)=eI n r:=fun _ h=>by cases h<;>exact⟨rfl,rfl⟩
   obtain⟨e1,e2⟩:=e r h
   rw[e1,e2]
   exact(x6 n h).2
  |aq l m h=>exact(vG n h).2.2
 obtain⟨ev,aK,ra⟩:=El (H':=List.replicate n .dead++(imp n r).2) [] h2 (by simp[ON.1]) (fun b aA hb=>by
  by_cases ω:b<n
  ·exact .inl (Rb ω hb)
  ·refine .inr ⟨by simp,?_⟩
   rw[List.getElem?_append_right (by simp;omega),List.length_replicate]at hb
   obtain⟨π,ze⟩:=dQ ON.1 hb
   refine⟨π,by rw[List.getElem?_append_right (by simp;omega),List.length_replicate];exact ze,?_⟩
   obtain⟨e,s,z,l,m,hc,rfl,rfl⟩:=ON.2 _ _ _ ze hb
   exact hc.VM e s z 0)
 refine⟨?_,aK⟩
 have one:∀{x y:AV} {u:Value},((∃a b,a9 a b∧x= .t a∧y= .t b)∨x=y)→RA w ⟨F,G⟩ (List.replicate n .dead++(imp n r0).2) x u→RA w ⟨F,G⟩ (List.replicate n .dead++(imp n r).2) y u:=by
  intro x y u h hr
  rcases h with⟨a,b,e1,rfl,rfl⟩|rfl
  ·exact ra (.sub a b e1) hr
  ·exact ra (.same _) hr
 cases hs with
 |one _ _ h=>
  have e:∀x:AV,sy r0 r→(imp n r0)=eI n r0∧(imp n r)=eI n r:=fun _ h=>by cases h<;>exact⟨rfl,rfl⟩
  obtain⟨e1,e2⟩:=e r h
  rw[e1]at h1 one
  rw[e2]at one⊢
  exact one (x6 n h).1 h1
 |aq l m h=>
  obtain⟨k1,k2,_⟩:=vG n h
  cases h1 with|aq _ vs hl hr=>
  refine .aq _ vs (by omega) fun i y u hi hu=> ?_
  obtain⟨x,hx⟩:=dQ k1 hi
  exact one (k2 i x y hx hi) (hr i x u hx hu)
theorem ym.aJ{r0 r:AV}(hs:ym r0 r):aJ r=true:=by
 cases hs with
 |one _ _ h=>cases h<;>rfl
 |aq l m h=>exact h.aJ
def vr(H:AH):AV→AV→Prop
 | .own e s z l,.sl b g i m=>∃l0,H[b]?=some (.arr e s z g (.ts l0))∧i=0∧m=l0.length∧gT l0 l
 | .t x,v=>∃y ids,pw 5000 H v=some (y,ids)∧a9 y x
 |_,_=>False
def Io(H:AH):AV→AV→List Nat
 | .t _,v=>match pw 5000 H v with|some (_,ids)=>ids|none=>[]
 |_,_=>[]
def Da(H:AH):List AV→List AV→Prop
 |[],[]=>True
 |r::rs,v::vs=>vr H r v∧Da H rs vs
 |_,_=>False
def Ci(H:AH):List AV→List AV→List Nat
 |r::rs,v::vs=>Io H r v++Ci H rs vs
 |_,_=>[]
def qI(r:AV)(v:AV)(H:AH):Prop:=
 match r,v with
 | .aq rs,.aq vs=>Da H rs vs∧rP (sD rs vs) (Ci H rs vs)=true
 |r,v=>vr H r v
theorem Bc{H:AH}{r v:AV}(h:vr H r v):∃r0,sy r0 r∧lM H r0 v∧kj r0 v=kj r v∧(∀b∈rH H r0 v,b∈Io H r v)∧(kj r0 v=[]∨rH H r0 v=[])∧(kj r0 v).Nodup:=by
 unfold vr at h
 split at h
 ·rename_i e s z l b g i m
  obtain⟨l0,h1,h2,h3,h4⟩:=h
  exact⟨.own e s z l0,.own e s z l0 l h4,⟨h1,h2,h3⟩,rfl,by simp[rH],.inr rfl,by simp[kj]⟩
 ·rename_i x
  obtain⟨y,ids,h1,h2⟩:=h
  obtain⟨y0,js,k1,k2,k3⟩:=(gU H 5000).1 _ _ _ h1
  refine⟨.t y0,.t y0 x (.trans _ _ _ k3 h2),by simp only[lM,k1,Option.map_some],rfl,fun b hb=> ?_,.inl rfl,by simp[kj]⟩
  simp only[rH,k1]at hb
  simp only[Io,h1]
  exact k2 b hb
 ·exact h.elim
theorem Bb{H:AH}:∀{rs vs:List AV},Da H rs vs→∃r0,uF r0 rs∧wJ H r0 vs∧qB r0 vs=sD rs vs∧(∀b∈ss H r0 vs,b∈Ci H rs vs)
 |[],[],_=>⟨[],trivial,trivial,rfl,by simp[ss]⟩
 |r::rs,v::vs,h=>by
  obtain⟨x,h1,h2,h3,h4,_,_⟩:=Bc h.1
  obtain⟨l,k1,k2,k3,k4⟩:=Bb h.2
  have e:ta H x v=lM H x v∧sE x v=kj x v∧ye H x v=rH H x v:=by cases h1<;>exact⟨rfl,rfl,rfl⟩
  refine⟨x::l,⟨h1,k1⟩,⟨by rw[e.1];exact h2,k2⟩,by simp only[qB,sD,e.2.1,h3,k3],fun b hb=> ?_⟩
  simp only[ss,Ci,List.mem_append,e.2.2]at hb⊢
  exact hb.imp (h4 b) (k4 b)
 |[],_::_,h=>h.elim
 |_::_,[],h=>h.elim
theorem Mn{own a b:List Nat}(h:rP own b=true)(hs:∀x∈a,x∈b):rP own a=true:=by
 simp only[rP,Bool.and_eq_true,decide_eq_true_eq,List.all_eq_true]at h⊢
 refine⟨h.1,fun x hx=> ?_⟩
 have:=h.2 x hx
 simp at this⊢
 exact fun W7=>this (hs x W7)
theorem qI.ok{r v:AV}{H:AH}(h:qI r v H):∃r0,ym r0 r∧Pack r0 v H:=by
 have single:vr H r v→∃r0,ym r0 r∧Pack r0 v H:=fun h=>by
  obtain⟨x,h1,h2,h3,h4,h5,h6⟩:=Bc h
  have e:Cf H x v=lM H x v∧owns x v=kj x v∧yd H x v=rH H x v:=by cases h1<;>exact⟨rfl,rfl,rfl⟩
  refine⟨x,.one _ _ h1,by rw[e.1];exact h2,?_⟩
  rw[e.2.1,e.2.2]
  simp only[rP,Bool.and_eq_true,decide_eq_true_eq,List.all_eq_true]
  refine⟨h6,fun b hb=> ?_⟩
  rcases h5 with h5|h5
  ·rw[h5]at hb;simp at hb
  ·rw[h5];rfl
 unfold qI at h
 split at h
 ·obtain⟨l,k1,k2,k3,k4⟩:=Bb h.1
  exact⟨.aq l,.aq _ _ k1,k2,by simp only[owns,yd,k3];exact Mn h.2 k4⟩
 ·exact single h
theorem φ.gy{P:Program}{f:FuncId}{ts:List T}{r:AV}(h:γ P f (ts.map .t) [] (qI r))(hn:aJ r=true):φ P f ts r:=by
 refine⟨hn,fun n F w vs hF hl hr=> ?_⟩
 have kL:HS w ⟨F,fun _=>none⟩ [] w.heap.size:=⟨by simp,by simp,fun cb hf=>⟨hF cb hf,fun b hb=>by cases hb⟩,Nat.le_refl _,by simp,by simp,by simp,by simp⟩
 have mT:∀cb,(Cx.mk F fun _=>none).M [] cb→F cb:=by
  rintro cb (h|⟨b,π,hb,_⟩)
  ·exact h
  ·simp at hb
 refine(h w.heap.size ⟨F,fun _=>none⟩ w vs kL (by simpa using hl) (qC fun i x v hi hv=>(hr i x v hi hv).mono fun b _ hb=>⟨rfl,fun hm=>hb (mT b hm)⟩)).mono ?_
 rintro e w' ⟨v,c',r',H',rfl,db,hs,ev,dz,hp⟩
 obtain⟨r0,h1,h2⟩:=hp.ok
 obtain⟨v',G,k1,k2,k3,k4,k5⟩:=tR n hF db hs ev dz h2
 cases k1
 obtain⟨q1,q2⟩:=FZ h1 k4 k5
 exact⟨_,G,rfl,k2,k3,q1,q2⟩
end Go.Proofs.YtcogcbplmkcojaaGreatDoor
namespace Go.Proofs.YtcogcbplmkcojaaGreatDoor
open Go.RowKit
set_option linter.unusedVariables false
set_option linter.unusedSimpArgs false
def ab(P:Program)(f:FuncId)(ts:List T)(S:AV→Prop):Prop:=
 (∀r,S r→aJ r=true)∧∀(n:Nat) (F:Nat→Prop) (w:World) (vs:Array Value),(∀cb,F cb→cb<w.heap.size)→vs.size=ts.length→
  (∀(i:Nat) t v,ts[i]?=some t→vs[i]?=some v→RT w F t v)→
  AR P f vs w fun e w'=>∃r v G,S r∧e= .returned v∧Below w.heap.size w w'∧(∀b cb,G b=some cb→n≤b)∧
   RA w' ⟨F,G⟩ (List.replicate n .dead++(imp n r).2) (imp n r).1 v∧HS w' ⟨F,G⟩ (List.replicate n .dead++(imp n r).2) w.heap.size
theorem ab.Γ{P:Program}{f:FuncId}{ts:List T}{S:AV→Prop}(h:γ P f (ts.map .t) [] (fun v H=>∃r,S r∧qI r v H))(hn:∀r,S r→aJ r=true):ab P f ts S:=by
 refine⟨hn,fun n F w vs hF hl hr=> ?_⟩
 have kL:HS w ⟨F,fun _=>none⟩ [] w.heap.size:=⟨by simp,by simp,fun cb hf=>⟨hF cb hf,fun b hb=>by cases hb⟩,Nat.le_refl _,by simp,by simp,by simp,by simp⟩
 have mT:∀cb,(Cx.mk F fun _=>none).M [] cb→F cb:=by
  rintro cb (h|⟨b,π,hb,_⟩)
  ·exact h
  ·simp at hb
 refine(h w.heap.size ⟨F,fun _=>none⟩ w vs kL (by simpa using hl) (qC fun i x v hi hv=>(hr i x v hi hv).mono fun b _ hb=>⟨rfl,fun hm=>hb (mT b hm)⟩)).mono ?_
 rintro e w' ⟨v,c',r',H',rfl,db,hs,ev,dz,r,hS,hp⟩
 obtain⟨r0,h1,h2⟩:=hp.ok
 obtain⟨v',G,k1,k2,k3,k4,k5⟩:=tR n hF db hs ev dz h2
 cases k1
 obtain⟨q1,q2⟩:=FZ h1 k4 k5
 exact⟨r,_,G,hS,rfl,k2,k3,q1,q2⟩
theorem ab.Nt{P:Program}{f:FuncId}{ts:List T}{S:AV→Prop}(h:γ P f (ts.map .t) [] (fun v H=>∃r,S r∧Pack r v H))(hn:∀r,S r→aJ r=true):ab P f ts S:=by
 refine⟨hn,fun n F w vs hF hl hr=> ?_⟩
 have kL:HS w ⟨F,fun _=>none⟩ [] w.heap.size:=⟨by simp,by simp,fun cb hf=>⟨hF cb hf,fun b hb=>by cases hb⟩,Nat.le_refl _,by simp,by simp,by simp,by simp⟩
 have mT:∀cb,(Cx.mk F fun _=>none).M [] cb→F cb:=by
  rintro cb (h|⟨b,π,hb,_⟩)
  ·exact h
  ·simp at hb
 refine(h w.heap.size ⟨F,fun _=>none⟩ w vs kL (by simpa using hl) (qC fun i x v hi hv=>(hr i x v hi hv).mono fun b _ hb=>⟨rfl,fun hm=>hb (mT b hm)⟩)).mono ?_
 rintro e w' ⟨v,c',r',H',rfl,db,hs,ev,dz,r,hS,h2⟩
 obtain⟨v',G,k1,k2,k3,k4,k5⟩:=tR n hF db hs ev dz h2
 cases k1
 exact⟨r,_,G,hS,rfl,k2,k3,k4,k5⟩
theorem γ.iP{P:Program}{f:FuncId}{args:List AV}{ts:List T}{S:AV→Prop}{H:AH}{Q:AV→AH→Prop}(h:ab P f ts S)(ha:jm args=some ts)(k:∀r,S r→Q (imp H.length r).1 (H++(imp H.length r).2)):
 γ P f args H Q:=by
 intro B c w vs hs hl hr
 have ru:=kE ha
 refine(h.2 H.length (c.M H) w vs (fun cb tn=>OQ hs tn) (by rw[hl,ru];simp) (fun i t v hi hv=> ?_)).mono fun e w' ⟨r,v,G,hS,he,dz,hG,db,aK⟩=> ?_
 ·have:=hr i (.t t) v (by rw[ru];simp[hi]) hv
  cases this with|t _ _ h=>exact h
 ·obtain⟨ev,fp⟩:=join (Hb:=(imp H.length r).2) hs dz hG aK (mP _ _) (fun b e s z g l i x j y v hb hi hj iU=>iU.mono fun cb _ tn=>⟨rfl,yT (fun _ h=>h) tn⟩)
  refine⟨v,_,_,_,he,?_,fp,ev,?_,k r hS⟩
  ·exact db.shift (n:=H.length) (fun cb tn=>yT (fun _ h=>h) tn) (fun b hb=>mF rfl hb) (fun b hb=>by simp only[if_neg (Nat.not_lt.2 hb)]) (KT (h.1 r hS))
  ·exact dz.mono hs.hB
theorem MO(l:List T):jm (l.map .t)=some l:=by
 induction l with
 |nil=>rfl
 |cons x r ih=>simp only[List.map_cons,jm,z7,ih]
theorem ab.sub{P:Program}{f:FuncId}{ts kD:List T}{S:AV→Prop}(h:ab P f kD S)(hs:gD ts kD):ab P f ts S:=by
 obtain⟨hl,hg⟩:=hs.get
 refine⟨h.1,fun n F w vs hF bE hr=>h.2 n F w vs hF (by omega) fun i t v hi hv=> ?_⟩
 obtain⟨c,hc⟩:=dQ hl hi
 exact RT.sub (hg i c t hc hi) (hr i c v hc hv)
theorem ab.weaken{P:Program}{f:FuncId}{ts:List T}{S S':AV→Prop}(h:ab P f ts S)(hs:∀r,S r→S' r)(hn:∀r,S' r→aJ r=true):ab P f ts S':=
 ⟨hn,fun n F w vs hF hl hr=>(h.2 n F w vs hF hl hr).mono fun e w' ⟨r,v,G,h1,h2⟩=>⟨r,v,G,hs r h1,h2⟩⟩
theorem γ.cH{P:Program}{f:FuncId}{args:List AV}{kD ts:List T}{ids:List Nat}{S:AV→Prop}{H:AH}{Q:AV→AH→Prop}(h:ab P f ts S)(ha:fJ 32 H args=some (kD,ids))(qf:gD kD ts)
 (k:∀r,S r→Q (imp H.length r).1 (d_ ids H++(imp H.length r).2)):γ P f args H Q:=by
 obtain⟨x,js,h1,n_,h3⟩:=(gU H 32).2 _ _ _ ha
 have h:=h.sub (h3.trans qf)
 intro B c w vs hs hl hr
 obtain⟨ev,aK⟩:=sm ids hs
 obtain⟨hlen,iU⟩:=mo hs (M':=c.M (d_ ids H)) (fun cb hm=>by
  rcases hm with hm|⟨b,π,hb,iB,hg⟩
  ·exact .inl hm
  ·rcases gY ids hb with rfl|⟨_,hb⟩
   ·simp[Ω.live]at iB
   ·exact .inr ⟨b,π,hb,iB,hg⟩) 32 h1 (vs:=vs.toList) (by simpa using hl.symm) (fun i x v hi hv=>hr i x v hi (by simpa using hv))
  (fun b hb cb hg hm=>by
   rcases hm with hm|⟨b2,π,gZ,iB,ny⟩
   ·exact((hs.fb cb hm).2 b hg).elim
   ·have:=hs.inj b b2 cb hg ny
    subst this
    rcases gY ids gZ with rfl|⟨hn,_⟩
    ·simp[Ω.live]at iB
    ·exact hn (n_ b hb))
 have ru:jm (x.map .t)=some x:=MO x
 have key:=γ.iP (H:=d_ ids H) (Q:=Q) h ru (by rw[ui];exact k) B c w vs aK (by rw[List.length_map];omega) (qC fun i x v hi hv=>iU i x v hi (by simpa using hv))
 refine key.mono ?_
 rintro e w' ⟨v,c',r',H',he,h1,h2,h3,h4,h5⟩
 exact⟨v,c',r',H',he,h1,h2,ev.trans h3,h4,h5⟩
theorem γ.wG{P:Program}{f:FuncId}{args:List AV}{kD ts:List T}{ids:List Nat}{S:AV→Prop}{H:AH}{Q:AV→AH→Prop}(h:ab P f ts S)(ha:fJ 32 H args=some (kD,ids))(qf:gD kD ts)(hf:∀r,S r→Flat r)
 (k:∀r,S r→Q (imp H.length r).1 (H++(imp H.length r).2)):γ P f args H Q:=by
 obtain⟨x,js,DT,n_,h3⟩:=(gU H 32).2 _ _ _ ha
 have h:=h.sub (h3.trans qf)
 intro B c w vs hs hl hr
 obtain⟨hlen,iU⟩:=mo hs (M':=fun _=>False) (fun _ h=>h.elim) 32 DT (vs:=vs.toList) (by simpa using hl.symm) (fun i x v hi hv=>hr i x v hi (by simpa using hv)) (fun _ _ _ _ h=>h)
 refine(h.2 H.length (fun _=>False) w vs (fun cb h=>h.elim) (by omega) (fun i t v hi hv=>iU i t v hi (by simpa using hv))).mono fun e w' ⟨r,v,G,hS,he,dz,hG,db,aK⟩=> ?_
 obtain⟨g1,g2⟩:=DG (n:=H.length) (hf r hS)
 obtain⟨ev,fp⟩:=join (Hb:=(imp H.length r).2) hs dz hG aK (mP _ _) (fun b e s z g l i x j y v hb hi hj iU=>by
  have:=g2 _ (List.mem_of_getElem? hb) x (List.mem_of_getElem? hi)
  exact uo iU (sM this j y hj))
 refine⟨v,_,_,_,he,?_,fp,ev,dz.mono hs.hB,k r hS⟩
 exact db.CL (n:=H.length) (fun b hb=>mF rfl hb) (fun b hb=>by simp only[if_neg (Nat.not_lt.2 hb)]) g1
theorem γ.JI(N:Nat){P:Program}{f:FuncId}{args:List AV}{kD ts:List T}{ids:List Nat}{S:AV→Prop}{H:AH}{Q:AV→AH→Prop}(h:ab P f ts S)(ha:fJ N H args=some (kD,ids))(qf:gD kD ts)(hf:∀r,S r→Flat r)
 (k:∀r,S r→Q (imp H.length r).1 (H++(imp H.length r).2)):γ P f args H Q:=by
 obtain⟨x,js,DT,n_,h3⟩:=(gU H N).2 _ _ _ ha
 have h:=h.sub (h3.trans qf)
 intro B c w vs hs hl hr
 obtain⟨hlen,iU⟩:=mo hs (M':=fun _=>False) (fun _ h=>h.elim) N DT (vs:=vs.toList) (by simpa using hl.symm) (fun i x v hi hv=>hr i x v hi (by simpa using hv)) (fun _ _ _ _ h=>h)
 refine(h.2 H.length (fun _=>False) w vs (fun cb h=>h.elim) (by omega) (fun i t v hi hv=>iU i t v hi (by simpa using hv))).mono fun e w' ⟨r,v,G,hS,he,dz,hG,db,aK⟩=> ?_
 obtain⟨g1,g2⟩:=DG (n:=H.length) (hf r hS)
 obtain⟨ev,fp⟩:=join (Hb:=(imp H.length r).2) hs dz hG aK (mP _ _) (fun b e s z g l i x j y v hb hi hj iU=>by
  have:=g2 _ (List.mem_of_getElem? hb) x (List.mem_of_getElem? hi)
  exact uo iU (sM this j y hj))
 refine⟨v,_,_,_,he,?_,fp,ev,dz.mono hs.hB,k r hS⟩
 exact db.CL (n:=H.length) (fun b hb=>mF rfl hb) (fun b hb=>by simp only[if_neg (Nat.not_lt.2 hb)]) g1
end Go.Proofs.YtcogcbplmkcojaaGreatDoor
namespace Go.Proofs.YtcogcbplmkcojaaGreatDoor
open Go.ChangeShapes Go.WideShapes Go.ChangeAt Go.RowKit
set_option linter.unusedVariables false
set_option linter.unusedSimpArgs false
inductive gI(N:Nat):T→Prop
 |bool (b:Bool):gI N (.bool b)
 |int (k:IntKind) (n:Int):gI N (.int k n)
 |str (s:List UInt8) (h:s.length≤N):gI N (.str s)
 |af:gI N .af
 |vec (s:Nat) (l:List T) (h:l.length≤N) (hs:∀e∈l,gI N e):gI N (.vec s l)
 |θ (s:Nat) (l:List T) (h:l.length≤N) (hs:∀e∈l,gI N e):gI N (.θ s l)
 |agg (cs:List T) (hs:∀e∈cs,gI N e):gI N (.agg cs)
theorem gI.elem{N k:Nat}{cs:List T}(h:∀c∈cs,gI N c):gI N (ep k cs):=by
 unfold ep
 split
 ·exact h _ (by simp)
 ·exact .agg _ h
theorem gI.cells{N:Nat}{x:T}(h:gI N x):∀c∈x.cells,gI N c:=by
 cases h with
 |agg cs hs=>exact hs
 |bool b=>intro c hc;rw[List.mem_singleton.1 hc];exact .bool b
 |int k n=>intro c hc;rw[List.mem_singleton.1 hc];exact .int k n
 |str s h=>intro c hc;rw[List.mem_singleton.1 hc];exact .str s h
 |af=>intro c hc;rw[List.mem_singleton.1 hc];exact .af
 |vec s l h hs=>intro c hc;rw[List.mem_singleton.1 hc];exact .vec s l h hs
 |θ s l h hs=>intro c hc;rw[List.mem_singleton.1 hc];exact .θ s l h hs
section
variable {H : Type} {enc : TypeId × Value → H} {P : Program} {w : World} {sp : Nat → Bool} {held : Bool} {N : Nat}
end
end Go.Proofs.YtcogcbplmkcojaaGreatDoor
namespace Go.Proofs.YtcogcbplmkcojaaGreatDoor
open Go.RowKit
set_option linter.unusedVariables false
set_option linter.unusedSimpArgs false
inductive LB(n:Nat):AV→Prop
 |t (x:T):LB n (.t x)
 |ptr (b g i o:Nat) (h:b<n):LB n (.ptr b g i o)
 |sl (b g i l:Nat) (h:b<n):LB n (.sl b g i l)
 |agg (cs:List AV) (h:∀(i:Nat) x,cs[i]?=some x→LB n x):LB n (.agg cs)
 |aq (cs:List AV) (h:∀(i:Nat) x,cs[i]?=some x→LB n x):LB n (.aq cs)
 |fn (f:Fn) (a b:List AV) (ha:∀(i:Nat) x,a[i]?=some x→LB n x) (hb:∀(i:Nat) x,b[i]?=some x→LB n x):LB n (.fn f a b)
 |cG (t:TypeId) (x:AV) (h:LB n x):LB n (.cG t x)
 |dx:LB n .dx
 |bq:LB n .bq
def yR(n:Nat):AV→Bool
 | .t _=>true
 | .ptr b _ _ _=>Nat.blt b n
 | .sl b _ _ _=>Nat.blt b n
 | .dx=>true
 | .bq=>true
 |_=>false
def vF(n:Nat):AV→Bool
 | .agg cs=>cs.all (yR n)
 | .fn _ a b=>a.all (yR n)&&b.all (yR n)
 | .cG _ x=>yR n x
 |x=>yR n x
def DB(n:Nat):Ω→Bool
 | .dead=>true
 | .box cs=>cs.all (vF n)
 | .arr _ _ _ _ (.ts _)=>true
 | .arr _ _ _ _ (.vs l)=>l.all (vF n)
 | .iter _ _=>true
theorem yL{a b:Nat}(h:Nat.blt a b=true):a<b:=by rw[Nat.blt_eq]at h;exact h
theorem KL{n:Nat}{x:AV}(h:yR n x=true):LB n x:=by
 cases x with
 |t x=>exact .t x
 |ptr b g i o=>exact .ptr b g i o (yL h)
 |sl b g i l=>exact .sl b g i l (yL h)
 |dx=>exact .dx
 |bq=>exact .bq
 |_=>simp[yR]at h
theorem Av{n:Nat}{l:List AV}(h:l.all (yR n)=true):∀(i:Nat) x,l[i]?=some x→LB n x:=fun i x hi=>KL (List.all_eq_true.1 h x (List.mem_of_getElem? hi))
theorem DC{n:Nat}{x:AV}(h:vF n x=true):LB n x:=by
 cases x with
 |agg cs=>exact .agg cs (Av h)
 |fn f a b=>simp only[vF,Bool.and_eq_true]at h;exact .fn f a b (Av h.1) (Av h.2)
 |cG t x=>exact .cG t x (KL h)
 |t x=>exact .t x
 |ptr b g i o=>exact .ptr b g i o (yL h)
 |sl b g i l=>exact .sl b g i l (yL h)
 |dx=>exact .dx
 |bq=>exact .bq
 |_=>simp[vF,yR]at h
theorem LB.cells{n:Nat}{x:AV}(h:LB n x):∀(j:Nat) y,x.cells[j]?=some y→LB n y:=by
 intro j y hj
 cases h with
 |agg cs h=>exact h j y hj
 |t x=>rw[T.dK]at hj;simp only[List.getElem?_map,Option.map_eq_some_iff]at hj;obtain⟨_,_,rfl⟩:=hj;exact .t _
 |ptr b g i o h=>cases j<;>simp[AV.cells]at hj;subst hj;exact .ptr _ _ _ _ h
 |sl b g i l h=>cases j<;>simp[AV.cells]at hj;subst hj;exact .sl _ _ _ _ h
 |aq cs h=>cases j<;>simp[AV.cells]at hj;subst hj;exact .aq cs h
 |fn f a b ha hb=>cases j<;>simp[AV.cells]at hj;subst hj;exact .fn f a b ha hb
 |cG t x h=>cases j<;>simp[AV.cells]at hj;subst hj;exact .cG t x h
 |dx=>cases j<;>simp[AV.cells]at hj;subst hj;exact .dx
 |bq=>cases j<;>simp[AV.cells]at hj;subst hj;exact .bq
theorem RA.low{w:World}{c1 c2:Cx}{H1 H2:AH}{n:Nat}(hM:∀cb,c2.M H2 cb→c1.M H1 cb)(hH:∀b π,b<n→H1[b]?=some π→H2[b]?=some π)(hG:∀b,b<n→c2.G b=c1.G b)
 {x:AV} {v:Value} (h:RA w c1 H1 x v) (hx:LB n x):RA w c2 H2 x v:=by
 induction h with
 |t x v h=>exact .t x v (h.mono fun b _ hb=>⟨rfl,fun hm=>hb (hM b hm)⟩)
 |ptr b g i o v π hb hm hv=>
  cases hx with|ptr _ _ _ _ hn=>
  refine .ptr b g i o v π (hH b π hn hb) ?_ hv
  cases π with
  |dead=>trivial
  |box=>rw[hG b hn];exact hm
  |iter=>rw[hG b hn];exact hm
  |arr=>rw[hG b hn];exact hm
 |sl b g i len v π hb hm hv=>
  cases hx with|sl _ _ _ _ hn=>
  refine .sl b g i len v π (hH b π hn hb) ?_ hv
  cases π with
  |dead=>trivial
  |box=>exact hm
  |iter=>exact hm
  |arr=>rw[hG b hn];exact hm
 |agg cs vs hl h1 _ ih=>cases hx with|agg _ hx=>exact .agg cs vs hl h1 fun i x v hi hv=>ih i x v hi hv (hx i x hi)
 |aq cs vs hl _ ih=>cases hx with|aq _ hx=>exact .aq cs vs hl fun i x v hi hv=>ih i x v hi hv (hx i x hi)
 |fn f a b p q ha hb _ _ nk nj=>cases hx with|fn _ _ _ h1 h2=>exact .fn f a b p q ha hb (fun i x v hi hv=>nk i x v hi hv (h1 i x hi)) (fun i x v hi hv=>nj i x v hi hv (h2 i x hi))
 |cG t x v _ ih=>cases hx with|cG _ _ hx=>exact .cG t x v (ih hx)
 |dx ad=>exact .dx ad
 |bq v=>exact .bq v
theorem RA.lb{w:World}{c:Cx}{H:AH}{x:AV}{v:Value}(h:RA w c H x v):LB H.length x:=by
 induction h with
 |t x v h=>exact .t x
 |ptr b g i o v π hb=>exact .ptr b g i o (κ hb)
 |sl b g i len v π hb=>exact .sl b g i len (κ hb)
 |agg cs vs hl h1 _ ih=>
  refine .agg cs fun i x hi=> ?_
  have:i<vs.size:=by have:=κ hi;omega
  exact ih i x _ hi (Array.getElem?_eq_getElem this)
 |aq cs vs hl _ ih=>
  refine .aq cs fun i x hi=> ?_
  have:i<vs.size:=by have:=κ hi;omega
  exact ih i x _ hi (Array.getElem?_eq_getElem this)
 |fn f a b p q ha hb _ _ nk nj=>
  refine .fn f a b (fun i x hi=> ?_) (fun i x hi=> ?_)
  ·have:i<p.size:=by have:=κ hi;omega
   exact nk i x _ hi (Array.getElem?_eq_getElem this)
  ·have:i<q.size:=by have:=κ hi;omega
   exact nj i x _ hi (Array.getElem?_eq_getElem this)
 |cG t x v _ ih=>exact .cG t x ih
 |dx ad=>exact .dx
 |bq v=>exact .bq
theorem Ω.TD{w w':World}{c1 VS c2 VR:Cx}{b:Nat}(h1:c2.G b=c1.G b)(h2:VR.G b=VS.G b){π aA:Ω}(h:Ω.goes w c1 w' VS b π aA):Ω.goes w c2 w' VR b π aA:=by
 cases aA with
 |dead=>cases π<;>trivial
 |box=>cases π<;>first|exact h.elim|(simp only[Ω.goes,h1,h2];exact h)
 |iter=>cases π<;>first|exact h.elim|(simp only[Ω.goes,h1,h2];exact h)
 |arr=>cases π<;>first|exact h.elim|(simp only[Ω.goes,h1,h2];exact h)
theorem γ.frame{P:Program}{f:FuncId}{args:List AV}{H:AH}{Q0:AV→AH→Prop}(h:γ P f args H Q0)(K:AH){Q:AV→AH→Prop}(ha:args.all (vF H.length)=true)(hH:H.all (DB H.length)=true)
 (k:∀r H',Q0 r H'→H'.length=H.length∧Q r (H'++K)):γ P f args (H++K) Q:=by
 intro B c w vs hs kp Bx
 obtain⟨n,hn⟩:∃n,n=H.length:=⟨_,rfl⟩
 rw[←hn]at ha hH
 let KB:Nat→Nat→Prop:=fun b cb=>n≤b∧∃π,(H++K)[b]?=some π∧π.live=true∧c.G b=some cb
 let c0:Cx:=⟨fun cb=>c.F cb∨∃b,KB b cb,fun b=>if b<n then c.G b else none⟩
 have gH:∀b,b<n→(H++K)[b]?=H[b]?:=fun b hb=>List.getElem?_append_left (by omega)
 have gG:∀b,b<n→c0.G b=c.G b:=fun b hb=>if_pos hb
 have gN:∀b cb,c0.G b=some cb→b<n∧c.G b=some cb:=fun b cb hg=>by
  simp only[c0]at hg
  split at hg
  ·exact⟨by assumption,hg⟩
  ·cases hg
 have mT:∀cb,c0.M H cb→c.M (H++K) cb:=by
  rintro cb ((hf|⟨b,_,π,hb,hl,hg⟩)|⟨b,π,hb,hl,hg⟩)
  ·exact .inl hf
  ·exact .inr ⟨b,π,hb,hl,hg⟩
  ·exact .inr ⟨b,π,by rw[gH b (gN b cb hg).1];exact hb,hl,(gN b cb hg).2⟩
 have VB:∀cb,c0.O H cb→c.O (H++K) cb:=by
  rintro cb ⟨b,π,hb,hl,hg⟩
  exact⟨b,π,by rw[gH b (gN b cb hg).1];exact hb,hl,(gN b cb hg).2⟩
 have down:∀{x:AV} {v:Value},LB n x→RA w c (H++K) x v→RA w c0 H x v:=fun hx hr=>
  hr.low mT (fun b π hb hk=>by rw[gH b hb]at hk;exact hk) (fun b hb=>gG b hb) hx
 have SS:∀b π,H[b]?=some π→DB n π=true:=fun b π hb=>List.all_eq_true.1 hH π (List.mem_of_getElem? hb)
 have kL:HS w c0 H B:=by
  refine⟨fun b b' cb h1 h2=>hs.inj b b' cb (gN b cb h1).2 (gN b' cb h2).2,fun b cb h1=>hs.base b cb (gN b cb h1).2,fun cb hf=> ?_,hs.hB,fun b cb h1=>by rw[←hn];exact(gN b cb h1).1,fun b cb cells hb hg=> ?_,fun b cb e s z g l hb hg=> ?_,fun b cb s p hb hg=> ?_⟩
  ·rcases hf with hf|⟨b,hb,π,_,_,hg⟩
   ·exact⟨(hs.fb cb hf).1,fun b' dZ=>(hs.fb cb hf).2 b' (gN b' cb dZ).2⟩
   ·refine⟨(hs.base b cb hg).2,fun b' dZ=> ?_⟩
    have h1:=gN b' cb dZ
    have:=hs.inj b b' cb hg h1.2
    omega
  ·obtain⟨g1,g2⟩:=gN b cb hg
   obtain⟨arr,e,a1,a2,a3⟩:=hs.box b cb cells (by rw[gH b g1];exact hb) g2
   have hl:=SS b _ hb
   simp only[DB]at hl
   exact⟨arr,e,a1,a2,fun j x v hj hv=>⟨(a3 j x v hj hv).1,down (DC (List.all_eq_true.1 hl x (List.mem_of_getElem? hj))) (a3 j x v hj hv).2.1,(a3 j x v hj hv).2.2⟩⟩
  ·obtain⟨g1,g2⟩:=gN b cb hg
   obtain⟨arr,cap,a1,a2,a3,a4,a5⟩:=hs.arr b cb e s z g l (by rw[gH b g1];exact hb) g2
   have hl:=SS b _ hb
   refine⟨arr,cap,a1,a2,a3,a4,fun i x hi=>⟨(a5 i x hi).1,fun j y hj=> ?_⟩⟩
   obtain⟨v,q1,q2,q3,q4⟩:=(a5 i x hi).2 j y hj
   refine⟨v,q1,q2,down ?_ q3,q4⟩
   cases l with
   |ts l=>
    simp only[Sq.get,Option.map_eq_some_iff]at hi
    obtain⟨t,_,rfl⟩:=hi
    exact(LB.t t).cells j y hj
   |vs l=>
    simp only[DB]at hl
    exact(DC (List.all_eq_true.1 hl x (List.mem_of_getElem? hi))).cells j y hj
  ·obtain⟨g1,g2⟩:=gN b cb hg
   exact hs.iter b cb s p (by rw[gH b g1];exact hb) g2
 refine(h B c0 w vs kL kp fun i a v hi hv=>down (DC (List.all_eq_true.1 ha a (List.mem_of_getElem? hi))) (Bx i a v hi hv)).mono ?_
 rintro e w' ⟨v,GL,r,H0,he,db,aK,vU,dz,hq⟩
 obtain⟨hlen,hq⟩:=k r H0 hq
 have hlen:H0.length=n:=by omega
 have eF:GL.F=c0.F:=vU.F
 let c':Cx:=⟨c.F,fun b=>if b<n then GL.G b else match(H++K)[b]?with|some π=>if π.live=true then c.G b else none|none=>none⟩
 have Gn:∀b,b<n→(H0++K)[b]?=H0[b]?:=fun b hb=>List.getElem?_append_left (by omega)
 have PI:∀b,n≤b→(H0++K)[b]?=(H++K)[b]?:=fun b hb=>by
  rw[List.getElem?_append_right (by omega),List.getElem?_append_right (by omega),hlen,hn]
 have g':∀b,b<n→c'.G b=GL.G b:=fun b hb=>if_pos hb
 have gK:∀b cb,n≤b→c'.G b=some cb→KB b cb:=fun b cb hb hg=>by
  simp only[c']at hg
  rw[if_neg (by omega)]at hg
  split at hg
  ·rename_i π nA
   split at hg
   ·exact⟨hb,π,nA,by assumption,hg⟩
   ·cases hg
  ·cases hg
 have TF:∀b π,n≤b→(H++K)[b]?=some π→π.live=true→c'.G b=c.G b:=fun b π hb h1 h2=>by
  simp only[c']
  rw[if_neg (by omega),h1]
  simp[h2]
 have VC:∀cb,c'.O (H0++K) cb→GL.O H0 cb∨∃b,KB b cb:=by
  rintro cb ⟨b,π,hb,hl,hg⟩
  rcases Nat.lt_or_ge b n with ω|fa
  ·rw[g' b ω]at hg;rw[Gn b ω]at hb;exact .inl ⟨b,π,hb,hl,hg⟩
  ·exact .inr ⟨b,gK b cb fa hg⟩
 have Gm:∀cb,c'.M (H0++K) cb→GL.M H0 cb:=by
  rintro cb (hf|ho)
  ·exact .inl (by rw[eF];exact .inl hf)
  ·rcases VC cb ho with⟨b,π,hb,hl,hg⟩|hk
   ·exact .inr ⟨b,π,hb,hl,hg⟩
   ·exact .inl (by rw[eF];exact .inr hk)
 have kept:∀b cb,KB b cb→w'.heap[cb]?=w.heap[cb]?:=fun b cb ⟨hb,π,h1,h2,h3⟩=>
  vU.mem cb (hs.base b cb h3).2 fun⟨b',aA,_,_,hg⟩=>by
   have q:=gN b' cb hg
   have:=hs.inj b b' cb h3 q.2
   omega
 have ev:Ev w c (H++K) w' c' (H0++K):=by
  refine⟨rfl,vU.size,fun b π hb=> ?_,fun cb ho=> ?_,fun cb ω ho=>vU.mem cb ω fun q=>ho (VB cb q),fun b π hb hf hg=> ?_⟩
  ·rcases Nat.lt_or_ge b n with ω|fa
   ·rw[gH b ω]at hb
    obtain⟨aA,h1,h2⟩:=vU.π b π hb
    exact⟨aA,by rw[Gn b ω];exact h1,Ω.TD (gG b ω).symm (g' b ω) h2⟩
   ·refine⟨π,by rw[PI b fa];exact hb,?_⟩
    cases π with
    |dead=>trivial
    |box cs=>exact⟨rfl,fun cb hc=>by rw[TF b _ fa hb rfl];exact hc⟩
    |iter s p=>exact⟨rfl,fun cb hc=>by rw[TF b _ fa hb rfl];exact hc⟩
    |arr e s z g l=>exact⟨rfl,rfl,rfl,Nat.le_refl _,Nat.le_refl _,fun _=>⟨rfl,fun cb hc=>⟨by rw[TF b _ fa hb rfl];exact hc,by simp only[dX,kept b cb ⟨fa,_,hb,rfl,hc⟩]⟩⟩⟩
  ·rcases VC cb ho with h1|⟨b,fa,π,h1,h2,h3⟩
   ·exact(vU.sG cb h1).imp (VB cb) id
   ·exact .inl ⟨b,π,h1,h2,h3⟩
  ·rcases Nat.lt_or_ge b n with ω|fa
   ·rw[g' b ω]
    rw[gH b ω]at hb
    exact vU.late b π hb hf (by rw[gG b ω];exact hg)
   ·simp only[c']
    rw[if_neg (by omega),hb]
    simp[hg]
 have up:∀{x:AV} {v:Value},RA w' GL H0 x v→RA w' c' (H0++K) x v:=fun hr=>
  hr.low (n:=n) Gm (fun b π hb hk=>by rw[Gn b hb];exact hk) (fun b hb=>g' b hb) (by have:=hr.lb;rwa [hlen]at this)
 refine⟨v,c',r,H0++K,he,up db,?_,ev,dz,hq⟩
 refine⟨fun b b' cb h1 h2=> ?_,fun b cb h1=> ?_,fun cb hf=>⟨Nat.lt_of_lt_of_le (hs.fb cb hf).1 vU.size,fun b hg=> ?_⟩,aK.hB,fun b cb h1=> ?_,fun b cb cells hb hg=> ?_,fun b cb e s z g l hb hg=> ?_,fun b cb s p hb hg=> ?_⟩
 ·rcases Nat.lt_or_ge b n with ω|fa<;>rcases Nat.lt_or_ge b' n with Ay|S6
  ·rw[g' b ω]at h1;rw[g' b' Ay]at h2;exact aK.inj b b' cb h1 h2
  ·rw[g' b ω]at h1
   exact((aK.fb cb (by rw[eF];exact .inr ⟨b',gK b' cb S6 h2⟩)).2 b h1).elim
  ·rw[g' b' Ay]at h2
   exact((aK.fb cb (by rw[eF];exact .inr ⟨b,gK b cb fa h1⟩)).2 b' h2).elim
  ·obtain⟨_,_,_,_,q1⟩:=gK b cb fa h1
   obtain⟨_,_,_,_,q2⟩:=gK b' cb S6 h2
   exact hs.inj b b' cb q1 q2
 ·rcases Nat.lt_or_ge b n with ω|fa
  ·rw[g' b ω]at h1;exact aK.base b cb h1
  ·obtain⟨_,_,_,_,q1⟩:=gK b cb fa h1
   have:=hs.base b cb q1
   exact⟨this.1,Nat.lt_of_lt_of_le this.2 vU.size⟩
 ·rcases Nat.lt_or_ge b n with ω|fa
  ·rw[g' b ω]at hg;exact(aK.fb cb (by rw[eF];exact .inl hf)).2 b hg
  ·obtain⟨_,_,_,_,q1⟩:=gK b cb fa hg
   exact(hs.fb cb hf).2 b q1
 ·rcases Nat.lt_or_ge b n with ω|fa
  ·rw[List.length_append];omega
  ·obtain⟨_,π,q,_,_⟩:=gK b cb fa h1
   have:=κ q
   rw[List.length_append]at this⊢
   omega
 ·rcases Nat.lt_or_ge b n with ω|fa
  ·rw[g' b ω]at hg
   rw[Gn b ω]at hb
   obtain⟨arr,e,a1,a2,a3⟩:=aK.box b cb cells hb hg
   exact⟨arr,e,a1,a2,fun j x v hj hv=>⟨(a3 j x v hj hv).1,up (a3 j x v hj hv).2.1,(a3 j x v hj hv).2.2⟩⟩
  ·have hk:=gK b cb fa hg
   have q1:c.G b=some cb:=by obtain⟨_,π,_,_,q1⟩:=hk;exact q1
   rw[PI b fa]at hb
   obtain⟨arr,e,a1,a2,a3⟩:=hs.box b cb cells hb q1
   exact⟨arr,e,(kept b cb hk).trans a1,a2,fun j x v hj hv=>⟨(a3 j x v hj hv).1,(a3 j x v hj hv).2.1.ev ev,(a3 j x v hj hv).2.2⟩⟩
 ·rcases Nat.lt_or_ge b n with ω|fa
  ·rw[g' b ω]at hg
   rw[Gn b ω]at hb
   obtain⟨arr,cap,a1,a2,a3,a4,a5⟩:=aK.arr b cb e s z g l hb hg
   refine⟨arr,cap,a1,a2,a3,a4,fun i x hi=>⟨(a5 i x hi).1,fun j y hj=> ?_⟩⟩
   obtain⟨v,q1,q2,q3,q4⟩:=(a5 i x hi).2 j y hj
   exact⟨v,q1,q2,up q3,q4⟩
  ·have hk:=gK b cb fa hg
   have q1:c.G b=some cb:=by obtain⟨_,π,_,_,q1⟩:=hk;exact q1
   rw[PI b fa]at hb
   obtain⟨arr,cap,a1,a2,a3,a4,a5⟩:=hs.arr b cb e s z g l hb q1
   exact⟨arr,cap,(kept b cb hk).trans a1,a2,a3,a4,a5.ev ev⟩
 ·rcases Nat.lt_or_ge b n with ω|fa
  ·rw[g' b ω]at hg
   rw[Gn b ω]at hb
   exact aK.iter b cb s p hb hg
  ·have hk:=gK b cb fa hg
   have q1:c.G b=some cb:=by obtain⟨_,π,_,_,q1⟩:=hk;exact q1
   rw[PI b fa]at hb
   obtain⟨bs,a1,a2⟩:=hs.iter b cb s p hb q1
   exact⟨bs,(kept b cb hk).trans a1,a2⟩
end Go.Proofs.YtcogcbplmkcojaaGreatDoor
namespace Go.Proofs.YtcogcbplmkcojaaGreatDoor
open Go.RowKit
set_option linter.unusedVariables false
theorem γ.OU{P:Program}{f:FuncId}{args args':List AV}{H H':AH}{Q:AV→AH→Prop}(ids:List Nat)(h:γ P f args' H' Q)(hlen:H'.length=H.length)
 (nA:∀(b:Nat) aA,H'[b]?=some aA→aA= .dead∨(b∉ids∧∃π,H[b]?=some π∧uI ids H H' π aA))
 (ha:args'.length=args.length) (gS:∀(i:Nat) a a',args[i]?=some a→args'[i]?=some a'→eM ids H H' a a'):γ P f args H Q:=by
 intro B c w vs hs hl hr
 obtain⟨ev,aK,ra⟩:=El ids hs hlen nA
 refine(h B c w vs aK (by omega) fun i a' v hi hv=> ?_).mono ?_
 ·have ω:i<args.length:=by have:=κ hi;omega
  exact ra (gS i _ a' (List.getElem?_eq_getElem ω) hi) (hr i _ v (List.getElem?_eq_getElem ω) hv)
 ·rintro e w' ⟨v,c',r,H2,he,h1,h2,h3,h4,h5⟩
  exact⟨v,c',r,H2,he,h1,h2,ev.trans h3,h4,h5⟩
end Go.Proofs.YtcogcbplmkcojaaGreatDoor
namespace Go.Proofs.YtcogcbplmkcojaaGreatDoor
open Go.RowKit
set_option linter.unusedVariables false
set_option linter.unusedSimpArgs false
def nK(b n:Nat):AV→Bool
 | .t _=>true
 | .ptr _ _ _ _=>true
 | .sl b' _ i m=> !(Nat.beq b' b)||Nat.ble (i+m) n
 | .bq=>true
 | .dx=>true
 |_=>false
def qj(b n:Nat):AV→Bool
 | .agg cs=>cs.all (nK b n)
 |x=>nK b n x
def Wu(b n:Nat):Ω→Bool
 | .box cs=>cs.all (nK b n)
 | .arr _ _ _ _ (.ts _)=>true
 | .arr _ _ _ _ (.vs l)=>l.all (qj b n)
 |_=>true
def AI(b n:Nat):Nat→AH→AH
 |_,[]=>[]
 |i,x::r=>(match Nat.beq i b with|true=>(match x with| .arr e s z g (.vs l)=> .arr e s z g (.vs (l.take n))|x=>x)|false=>x)::AI b n (i+1) r
theorem yj(b n:Nat):∀(H:AH) (i j:Nat),(AI b n i H)[j]?=H[j]?.map fun x=>match Nat.beq (i+j) b with|true=>(match x with| .arr e s z g (.vs l)=> .arr e s z g (.vs (l.take n))|x=>x)|false=>x
 |[],i,j=>by simp[AI]
 |x::r,i,0=>rfl
 |x::r,i,j+1=>by
  have h:=yj b n r (i+1) j
  rw[show i+1+j=i+(j+1) by omega]at h
  exact h
theorem EN(b n:Nat):∀(H:AH) (i:Nat),(AI b n i H).length=H.length
 |[],i=>rfl
 |x::r,i=>congrArg (·+1) (EN b n r (i+1))
theorem Rh{w:World}{c:Cx}{H H':AH}{b n:Nat}{e s:Nat}{z:Bool}{g:Nat}{l:List AV}(hb:H[b]?=some (.arr e s z g (.vs l)))(aD:H'[b]?=some (.arr e s z g (.vs (l.take n))))(h1:1≤n)(hn:n≤l.length)
 (ho:∀i,i≠b→H'[i]?=H[i]?) (hM:∀cb,c.M H' cb↔c.M H cb) {x:AV} {v:Value} (hx:nK b n x=true) (h:RA w c H x v):RA w c H' x v:=by
 have hlen:(l.take n).length=n:=by rw[List.length_take];omega
 cases h with
 |t x v h=>exact .t _ _ (h.mono fun cb _ hm=>⟨rfl,fun k=>hm ((hM cb).1 k)⟩)
 |ptr b1 g1 i o v π j4 h hv=>
  by_cases uS:b1=b
  ·subst uS
   rw[hb]at j4
   cases j4
   exact .ptr _ _ _ _ _ _ aD h hv
  ·have gZ:H'[b1]?=some π:=by rw[ho _ uS];exact j4
   cases π<;>exact .ptr _ _ _ _ _ _ gZ h hv
 |sl b1 g1 i m v π j4 h hv=>
  by_cases uS:b1=b
  ·subst uS
   rw[hb]at j4
   cases j4
   simp only[nK,Bool.or_eq_true,Bool.not_eq_true',Nat.ble_eq,Nat.beq_refl]at hx
   have hx:i+m≤n:=by
    rcases hx with hx|hx
    ·cases hx
    ·exact hx
   refine .sl _ _ _ _ _ _ aD ⟨h.1,fun hg=> ?_⟩ hv
   obtain⟨k1,k2⟩:=h.2 hg
   refine⟨by show i+m≤(l.take n).length;omega,?_⟩
   have gX:l.length≠0:=by omega
   rcases k2 with⟨_,k,_⟩|⟨_,k,_⟩|⟨_,k⟩
   ·exact absurd k gX
   ·exact absurd k gX
   ·exact .inr (.inr ⟨fun k'=>by have:(l.take n).length=0:=k'.2;omega,k⟩)
  ·have gZ:H'[b1]?=some π:=by rw[ho _ uS];exact j4
   cases π<;>exact .sl _ _ _ _ _ _ gZ h hv
 |bq v=>exact .bq _
 |dx ad=>exact .dx _
 |agg cs vs hl h1 hr=>simp[nK]at hx
 |aq cs vs hl hr=>simp[nK]at hx
 |fn=>simp[nK]at hx
 |cG=>simp[nK]at hx
theorem CD{k0:Nat}{env:List (Nat×AV)}{H:AH}(b n:Nat){e s:Nat}{z:Bool}{g:Nat}{l:List AV}(hb:H[b]?=some (.arr e s z g (.vs l)))(hk:Nat.ble k0 b=true)(h1:Nat.ble 1 n=true)(hn:Nat.ble n l.length=true)(hg:Nat.beq (g%2) 0=true)
 (he:env.all (fun p=>qj b n p.2)=true) (hH:H.all (Wu b n)=true):aB k0 ⟨env,H⟩ ⟨env,AI b n 0 H⟩:=by
 intro O c a w dN hs
 subst dN
 have hk:=Nat.le_of_ble_eq_true hk
 have h1:=Nat.le_of_ble_eq_true h1
 have hn:=Nat.le_of_ble_eq_true hn
 have hg:=Nat.eq_of_beq_eq_true hg
 have uR:=κ hb
 obtain⟨H',PK⟩:∃H',H'=AI b n 0 H:=⟨_,rfl⟩
 rw[←PK]
 have aD:H'[b]?=some (.arr e s z g (.vs (l.take n))):=by rw[PK,yj,Nat.zero_add,hb,Nat.beq_refl];rfl
 have ho:∀i,i≠b→H'[i]?=H[i]?:=fun i hi=>by
  rw[PK,yj,Nat.zero_add]
  have:Nat.beq i b=false:=by
   cases h:Nat.beq i b
   ·rfl
   ·exact absurd (Nat.eq_of_beq_eq_true h) hi
  rw[this]
  cases H[i]?<;>rfl
 have hlen:H'.length=H.length:=by rw[PK];exact EN _ _ _ _
 have live:∀(i:Nat) (cb:Nat),(∃π,H'[i]?=some π∧π.live=true∧c.G i=some cb)↔(∃π,H[i]?=some π∧π.live=true∧c.G i=some cb):=fun i cb=>by
  by_cases hi:i=b
  ·subst hi
   exact⟨fun⟨π,_,_,k⟩=>⟨_,hb,rfl,k⟩,fun⟨π,_,_,k⟩=>⟨_,aD,rfl,k⟩⟩
  ·rw[ho i hi]
 have hM:∀cb,c.M H' cb↔c.M H cb:=fun cb=>by
  constructor
  ·rintro(hf|⟨i,h⟩)
   ·exact .inl hf
   ·exact .inr ⟨i,(live i cb).1 h⟩
  ·rintro(hf|⟨i,h⟩)
   ·exact .inl hf
   ·exact .inr ⟨i,(live i cb).2 h⟩
 have hO:∀cb,c.O H' cb↔c.O H cb:=fun cb=>⟨fun⟨i,h⟩=>⟨i,(live i cb).1 h⟩,fun⟨i,h⟩=>⟨i,(live i cb).2 h⟩⟩
 have C3:∀{x:AV} {v:Value},nK b n x=true→RA w c H x v→RA w c H' x v:=fun hx h=>Rh hb aD h1 hn ho hM hx h
 have WH:∀{x:AV} {v:Value},qj b n x=true→RA w c H x v→RA w c H' x v:=fun{x v} hx h=>by
  cases h with
  |agg cs vs hl h1 hr=>exact .agg _ _ hl h1 fun i y u hy hu=>C3 (List.all_eq_true.1 hx y (List.mem_of_getElem? hy)) (hr i y u hy hu)
  |t x v h=>exact C3 rfl (.t _ _ h)
  |ptr b1 g1 i o v π j4 h hv=>exact C3 rfl (.ptr _ _ _ _ _ π j4 h hv)
  |sl b1 g1 i m v π j4 h hv=>exact C3 hx (.sl _ _ _ _ _ π j4 h hv)
  |bq v=>exact .bq _
  |dx ad=>exact .dx _
  |aq cs vs hl hr=>simp[qj,nK]at hx
  |fn=>simp[qj,nK]at hx
  |cG=>simp[qj,nK]at hx
 have zc:∀{x y:AV} {j:Nat},qj b n x=true→x.cells[j]?=some y→nK b n y=true:=fun{x y j} hx hy=>by
  cases x with
  |agg cs=>exact List.all_eq_true.1 hx y (List.mem_of_getElem? hy)
  |t x=>
   rw[T.dK]at hy
   simp only[List.getElem?_map,Option.map_eq_some_iff]at hy
   obtain⟨_,_,rfl⟩:=hy
   rfl
  |_=>first
   |(cases j with
    |zero=>cases hy;exact hx
    |succ j=>cases hy)
 refine⟨c,fun t=> ?_,?_,hs.size,hs.defers,?_,hs.below⟩
 ·have h:=hs.env t
  have Xw:qj b n (lk env t)=true:=by
   have:∀env:List (Nat×AV),env.all (fun p=>qj b n p.2)=true→qj b n (lk env t)=true:=by
    intro env
    induction env with
    |nil=>intro _;rfl
    |cons p r ih=>
     intro hp
     rw[List.all_cons,Bool.and_eq_true]at hp
     obtain⟨d,v⟩:=p
     rw[fB]
     split
     ·exact hp.1
     ·exact ih hp.2
   exact this env he
  exact WH Xw h
 ·refine⟨hs.hs.inj,hs.hs.base,hs.hs.fb,hs.hs.hB,fun i cb cS=>by rw[hlen];exact hs.hs.kz i cb cS,fun i cb cells hi cS=> ?_,fun i cb e1 s1 z1 g1 l1 hi cS=> ?_,fun i cb s1 p hi cS=> ?_⟩
  ·by_cases nx:i=b
   ·subst nx;rw[aD]at hi;cases hi
   ·rw[ho i nx]at hi
    obtain⟨arr,e0,a1,a2,a3⟩:=hs.hs.box i cb cells hi cS
    refine⟨arr,e0,a1,a2,fun j x v hx hv=> ?_⟩
    obtain⟨b1,b2,b3⟩:=a3 j x v hx hv
    have hB:=List.all_eq_true.1 hH _ (List.mem_of_getElem? hi)
    exact⟨b1,C3 (List.all_eq_true.1 hB x (List.mem_of_getElem? hx)) b2,b3⟩
  ·by_cases nx:i=b
   ·subst nx
    rw[aD]at hi
    cases hi
    obtain⟨arr,cap,a1,a2,a3,a4,a5⟩:=hs.hs.arr i cb e s z g _ hb cS
    refine⟨arr,cap,a1,a2,⟨by have:(Sq.vs (l.take n)).length=min n l.length:=List.length_take;have:=a3.1;simp only[Sq.length]at*;omega,fun h=>by omega⟩,a4,fun k x hx=> ?_⟩
    have hx:(l.take n)[k]?=some x:=hx
    rw[List.getElem?_take]at hx
    split at hx
    ·obtain⟨q1,q2⟩:=a5 k x hx
     refine⟨q1,fun j y hj=> ?_⟩
     obtain⟨v,r1,r2,r3,r4⟩:=q2 j y hj
     have hB:l.all (qj i n)=true:=List.all_eq_true.1 hH _ (List.mem_of_getElem? hb)
     exact⟨v,r1,r2,C3 (zc (List.all_eq_true.1 hB x (List.mem_of_getElem? hx)) hj) r3,r4⟩
    ·cases hx
   ·rw[ho i nx]at hi
    obtain⟨arr,cap,a1,a2,a3,a4,a5⟩:=hs.hs.arr i cb e1 s1 z1 g1 l1 hi cS
    refine⟨arr,cap,a1,a2,a3,a4,fun k x hx=> ?_⟩
    obtain⟨q1,q2⟩:=a5 k x hx
    refine⟨q1,fun j y hj=> ?_⟩
    obtain⟨v,r1,r2,r3,r4⟩:=q2 j y hj
    have hB:=List.all_eq_true.1 hH _ (List.mem_of_getElem? hi)
    refine⟨v,r1,r2,C3 ?_ r3,r4⟩
    cases l1 with
    |ts l1=>
     simp only[Sq.get,Option.map_eq_some_iff]at hx
     obtain⟨t,_,rfl⟩:=hx
     rw[T.dK]at hj
     simp only[List.getElem?_map,Option.map_eq_some_iff]at hj
     obtain⟨_,_,rfl⟩:=hj
     rfl
    |vs l1=>
     have hB:l1.all (qj b n)=true:=hB
     have hx:l1[k]?=some x:=hx
     exact zc (List.all_eq_true.1 hB x (List.mem_of_getElem? hx)) hj
  ·by_cases nx:i=b
   ·subst nx;rw[aD]at hi;cases hi
   ·rw[ho i nx]at hi
    exact hs.hs.iter i cb s1 p hi cS
 ·have ev:=hs.ev
  refine⟨ev.F,ev.size,fun i π hi=> ?_,fun cb hm=>ev.sG cb ((hO cb).1 hm),ev.mem,ev.late⟩
  obtain⟨aA,k1,k2⟩:=ev.π i π hi
  have qu:=κ hi
  exact⟨aA,by rw[ho i (by omega)];exact k1,k2⟩
end Go.Proofs.YtcogcbplmkcojaaGreatDoor
