/-
  The ground of the walks of this seat, part IG.
-/
import Derived.Test.YtcogcbplmkcojaaGreatDoorKIf
namespace Go.Proofs.YtcogcbplmkcojaaGreatDoor
open Go.IntWalk
set_option maxRecDepth 100000
set_option linter.unusedVariables false
set_option linter.unusedSimpArgs false
set_option maxHeartbeats 4000000
theorem ab.OV{P:Program}{f:FuncId}{s:Nat}{l:List T}{S:AV→Prop}(h:ab P f [.vec s l] S)(h0:l=[]→ab P f [.af] S):ab P f [.θ s l] S:=by
 refine⟨h.1,fun n F w vs hF hl hr=> ?_⟩
 match vs,hl with
 |⟨[v]⟩,_=>
  rcases qy (hr 0 _ v rfl rfl)with⟨hn,rfl⟩|hv
  ·refine(h0 hn).2 n F w _ hF rfl fun i t v hi hv=> ?_
   match i,hi,hv with
   |0,hi,hv=>cases hi;cases hv;exact .af
   |i+1,hi,hv=>simp at hi
  ·refine h.2 n F w _ hF rfl fun i t v hi kr=> ?_
   match i,hi,kr with
   |0,hi,kr=>cases hi;cases kr;exact hv
   |i+1,hi,kr=>simp at hi
def P8(t:T)(r:AV):Prop:=r= .t t
theorem FA(M:List T)(h:M.length≤100000000000):ab Tryz.prog 41 [.θ 1 M] (P8 (.θ 1 M)):=by
 refine ab.OV ?_ (fun h0=> ?_)
 ·refine ab.Γ ?_ (by rintro r rfl;rfl)
  refine γ.ξ ζ η Tryz.func41 rfl rfl ?_
  refine Or.inl (And.intro rfl (ε (ur (n:=0+M.length) (by omega)) ?_))
  refine⟨_,rfl,_,_,rfl,?_⟩
  exact .trans _ _ _ (.of_eq (congrArg (T.vec 1) (show List.take (0+M.length) (List.drop 0 ([]++M))=M by simp))) (.vec 1 _)
 ·subst h0
  refine ab.Γ ?_ (by rintro r rfl;rfl)
  refine γ.ξ ζ η Tryz.func41 rfl rfl ?_
  exact⟨_,rfl,_,_,rfl,.refl _⟩
theorem FB(A:List cP)(h:A.length≤1000000):ab Tryz.prog 42 [.θ 2 (A.map Λ)] (P8 (.θ 2 (A.map Λ))):=by
 refine ab.OV ?_ (fun h0=> ?_)
 ·refine ab.Γ ?_ (by rintro r rfl;rfl)
  refine γ.ξ ζ η Tryz.func42 rfl rfl ?_
  refine Or.inl (And.intro rfl (ε (show cI (0+(A.map Λ).length) 24=true by simp[cI];omega) ?_))
  refine⟨_,rfl,_,_,rfl,?_⟩
  exact .trans _ _ _ (.of_eq (congrArg (T.vec 2) (show List.take (0+(A.map Λ).length) (List.drop 0 ([]++A.map Λ))=A.map Λ from List.take_of_length_le (by simp)))) (.vec 2 _)
 ·have h0:A=[]:=by simpa using h0
  subst h0
  refine ab.Γ ?_ (by rintro r rfl;rfl)
  refine γ.ξ ζ η Tryz.func42 rfl rfl ?_
  exact⟨_,rfl,_,_,rfl,.refl _⟩
end Go.Proofs.YtcogcbplmkcojaaGreatDoor
namespace Go.Proofs.YtcogcbplmkcojaaGreatDoor
open Go.IntWalk
open Go.RowKit
set_option linter.unusedVariables false
set_option linter.unusedSimpArgs false
def E4(w:World)(cb:Nat):Prop:=∀off k n,w.cell? ⟨cb,off,none⟩≠some (.int k n)
theorem sW{w:World}{M:Nat→Prop}{k:IntKind}{n:Int}{v:Value}(h:RT w M (.int k n) v):v= .int k n:=by cases h;rfl
theorem FU{w:World}{M:Nat→Prop}{v:Value}(h:RT w M .dj v):v= .pointer none:=by cases h;rfl
theorem F4{w:World}{M1 M2:Nat→Prop}(h:∀cb,M2 cb→M1 cb∨E4 w cb)(F:List Nat){v:Value}(hv:RT w M1 (.θ 1 (aG F)) v):RT w M2 (.θ 1 (aG F)) v:=by
 have eX:∀{i:Nat} {e:T},(aG F)[i]?=some e→∃n:Nat,e= .int .i64 n:=fun{i e} he=>by
  obtain⟨n,_,hn⟩:=List.mem_map.1 (List.mem_of_getElem? he)
  exact⟨n,hn.symm⟩
 generalize aG F=L at hv eX⊢
 cases hv with
 |km=>exact .km 1
 |θ _ _ _ hv=>
  refine .θ _ _ _ ?_
  cases hv with
  |vec _ _ b off cap sp vals hM eu jh hs hc hr=>
   refine .vec _ _ b off cap sp vals (fun au kL hm=> ?_) eu jh hs hc (fun i e j c hi hj=> ?_)
   ·rcases h b hm with h1|h1
    ·exact hM au kL h1
    ·match L,au with
     |e::L,_=>
      obtain⟨n,rfl⟩:=eX (i:=0) rfl
      have h2:=(hc 0 _ 0 _ rfl rfl).1
      have h3:=sW (hr 0 _ 0 _ rfl rfl)
      rw[h3]at h2
      exact h1 _ _ _ h2
   ·obtain⟨n,rfl⟩:=eX hi
    have h3:=hr i _ j c hi hj
    match j,hj with
    |0,hj=>
     cases hj
     rw[sW h3];exact .int _ _
    |j+1,hj=>simp[T.cells]at hj
theorem Qp{w:World}{M1 M2:Nat→Prop}(h:∀cb,M2 cb→M1 cb∨E4 w cb)(t:dF):∀{v:Value},RT w M1 t.t v→RT w M2 t.t v:=by
 induction t with
 |leaf F=>
  intro v hv
  unfold dF.t at hv⊢
  cases hv with
  |bg _ b off vals hM hc hr=>
   refine .bg _ b off vals (fun au hm=> ?_) hc (fun i c hi=> ?_)
   ·rcases h b hm with h1|h1
    ·exact hM au h1
    ·have h2:=(hc 0 _ rfl).1
     rw[sW (hr 0 _ rfl)]at h2
     exact h1 _ _ _ h2
   ·have h3:=hr i c hi
    match i,hi with
    |0,hi=>cases hi;rw[sW h3];exact .int _ _
    |1,hi=>cases hi;rw[FU h3];exact .dj
    |2,hi=>cases hi;rw[FU h3];exact .dj
    |3,hi=>cases hi;exact F4 h F h3
    |i+4,hi=>simp at hi
 |fork q l r WX WW=>
  intro v hv
  unfold dF.t at hv⊢
  cases hv with
  |bg _ b off vals hM hc hr=>
   refine .bg _ b off vals (fun au hm=> ?_) hc (fun i c hi=> ?_)
   ·rcases h b hm with h1|h1
    ·exact hM au h1
    ·have h2:=(hc 0 _ rfl).1
     rw[sW (hr 0 _ rfl)]at h2
     exact h1 _ _ _ h2
   ·have h3:=hr i c hi
    match i,hi with
    |0,hi=>cases hi;rw[sW h3];exact .int _ _
    |1,hi=>cases hi;exact WX h3
    |2,hi=>cases hi;exact WW h3
    |3,hi=>cases hi;exact F4 (F:=[]) h h3
    |i+4,hi=>simp at hi
def Cg:AV→Bool
 | .t .dj=>true
 | .t .af=>true
 | .t (.vec _ _)=>true
 | .t (.θ _ _)=>true
 | .t (.bg _)=>true
 |_=>false
theorem Ny{w:World}{c:Cx}{H:AH}{x:AV}{v:Value}(hx:Cg x=true)(h:RA w c H x v)(k:IntKind)(n:Int):v≠.int k n:=by
 rintro rfl
 cases h with
 |t x v h=>cases h with
  |int k n=>simp[Cg]at hx
  |θ _ _ _ h=>cases h
 |_=>simp[Cg]at hx
theorem γ.MS{P:Program}{f:FuncId}{args:List AV}{kD ts:List T}{ids:List Nat}{S:AV→Prop}{H:AH}{Q:AV→AH→Prop}(h:ab P f ts S)(ha:fJ 32 H args=some (kD,ids))(qf:gD kD ts)(hS:∀r,S r→∃t:dF,r= .t t.t)
 (Ed:∀b∈ids,∃cells:List AV,H[b]?=some (.box cells)∧cells.all Cg=true) (k:∀r,S r→Q r H):γ P f args H Q:=by
 obtain⟨x,js,DT,n_,h3⟩:=(gU H 32).2 _ _ _ ha
 have h:=h.sub (h3.trans qf)
 intro B c w vs hs hl hr
 obtain⟨M',Gm⟩:∃M':Nat→Prop,M'=fun cb=>c.M H cb∧∀b∈ids,c.G b≠some cb:=⟨_,rfl⟩
 have sr:∀cb,M' cb→c.M H cb:=fun cb h=>by rw[Gm]at h;exact h.1
 obtain⟨hlen,iU⟩:=mo hs (M':=M') sr 32 DT (vs:=vs.toList) (by simpa using hl.symm) (fun i x v hi hv=>hr i x v hi (by simpa using hv)) (fun b hb cb hg h=>by rw[Gm]at h;exact h.2 b (n_ b hb) hg)
 refine(h.2 H.length M' w vs (fun cb h=>OQ hs (sr cb h)) (by omega) (fun i t v hi hv=>iU i t v hi (by simpa using hv))).mono fun e w' ⟨r,v,G,VA,he,dz,hG,db,aK⟩=> ?_
 obtain⟨t,rfl⟩:=hS r VA
 have e1:imp H.length (.t t.t)=(.t t.t,[]):=by cases t<;>rfl
 rw[e1]at db aK
 obtain⟨ev,fp⟩:=join (Hb:=[]) hs dz hG aK rfl (fun b e s z g l i x j y v hb=>by simp at hb)
 have bZ:∀cb,(Cx.mk c.F fun b=>if b<H.length then c.G b else G b).M (H++[]) cb→(Cx.mk M' G).M (List.replicate H.length .dead++[]) cb∨E4 w' cb:=by
  rintro cb (hf|⟨b,π,hb,iB,hg⟩)
  ·refine .inl (.inl ?_)
   show M' cb
   rw[Gm]
   refine⟨.inl hf,fun b _ hg=> ?_⟩
   exact(hs.fb cb hf).2 b hg
  ·rw[List.append_nil]at hb
   have hg:c.G b=some cb:=by simpa only[if_pos (κ hb)]using hg
   by_cases H6:b∈ids
   ·refine .inr fun off kk n hc=> ?_
    obtain⟨cells,XS,XP⟩:=Ed b H6
    obtain⟨arr,e,h1,h2,h3⟩:=hs.box b cb cells XS hg
    unfold World.cell? at hc
    rw[show((⟨cb,off,none⟩:Addr).block)=cb from rfl,dz.block cb (hs.base b cb hg).2,h1]at hc
    have hc:arr[off]?=some (.int kk n):=hc
    have ω:off<cells.length:=by rw[←h2];exact(Array.getElem?_eq_some_iff.1 hc).1
    obtain⟨x,hx,dk⟩:=get_some (R:=cells) (i:=off) ω
    exact Ny (List.all_eq_true.1 XP x dk) (h3 off x _ hx hc).2.1 kk n rfl
   ·refine .inl (.inl ?_)
    show M' cb
    rw[Gm]
    exact⟨.inr ⟨b,π,hb,iB,hg⟩,fun b' aD dZ=>H6 (hs.inj b' b cb dZ hg▸aD)⟩
 refine⟨v,_,_,_,he,?_,fp,ev,dz.mono hs.hB,by rw[List.append_nil];exact k _ VA⟩
 cases db with
 |t _ _ h=>exact .t _ _ (Qp bZ t h)
end Go.Proofs.YtcogcbplmkcojaaGreatDoor
