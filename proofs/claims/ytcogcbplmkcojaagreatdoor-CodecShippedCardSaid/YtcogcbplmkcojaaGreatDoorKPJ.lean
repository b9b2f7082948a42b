/-
  The ground of the walks of this seat, part PJ.
-/
import Derived.Test.YtcogcbplmkcojaaGreatDoorKPE
import Derived.Test.YtcogcbplmkcojaaGreatDoorKHi
namespace Go.Proofs.YtcogcbplmkcojaaGreatDoor
open Go.IntWalk
set_option maxRecDepth 100000
set_option linter.unusedVariables false
set_option linter.unusedSimpArgs false
set_option maxHeartbeats 4000000
def Kk:Ord:=(.op 0 [] (.op 1 [0] (.op 2 [1,0] (.op 3 [0] (.op 4 [0] (.op 5 [0] (.op 6 [0] (.op 7 [6,0] (.op 8 [0] (.op 9 [0] (.op 10 [0] (.op 11 [0] (.op 12 [0] (.op 13 [12,0] (.op 14 [0] (.op 15 [0] (.op 16 [0] (.op 17 [] (.op 18 [] .nil)))))))))))))))))))
def Kj:Ord:=(.op 0 [] (.op 1 [0] (.op 2 [0] (.op 3 [0] (.op 5 [3,2,1,0] (.op 6 [3,2,1,0] (.op 7 [3,2,1,0] (.op 4 [7,6,5] (.op 8 [7,6,5] (.op 9 [] .nil))))))))))
def tU:Ord:=(.op 0 [] (.op 1 [0] (.op 2 [1,0] (.op 3 [0] (.op 4 [] (.op 5 [] (.op 6 [] (.op 7 [6] (.op 8 [7] (.op 9 [] .nil))))))))))
def HD:Ord:=(.op 0 [] (.op 1 [0] (.op 2 [1,0] (.op 3 [1,0] (.op 4 [1,0] (.op 5 [4,3,2,1,0] (.op 6 [4,3,2,1,0] (.op 7 [6,5,4,3,2,1,0] (.op 8 [4,3,2,1,0] (.op 9 [4,3,2,1,0] (.op 10 [4,3,2,1,0] (.op 11 [1,0] (.op 12 [1,0] (.op 13 [1,0] (.op 14 [1,0] (.op 15 [0] (.op 16 [15,14,13,12,11,10,9,8,7,6,5,4,3,2,1] (.op 17 [] .nil))))))))))))))))))
def yI:Ord:=(.op 0 [] (.op 1 [0] (.op 2 [1,0] (.op 3 [1,0] (.op 4 [1,0] (.op 5 [0] (.op 6 [0] (.op 7 [0] (.op 8 [0] (.op 9 [8,0] (.op 10 [8,0] (.op 11 [8,0] (.op 12 [0] (.op 13 [0] (.op 14 [] (.op 15 [] .nil))))))))))))))))
def yH:Ord:=(.op 0 [] (.op 1 [0] (.op 2 [0] (.op 3 [0] (.op 4 [0] (.op 5 [0] (.op 6 [0] (.op 8 [6,5,4,3,2,1,0] (.op 7 [8] (.op 9 [8] (.op 10 [] .nil)))))))))))
theorem gw(p:UInt8→Bool):∀l:List UInt8,aV p l≤l.length
 |[]=>Nat.le_refl _
 |c::r=>by
  unfold aV
  cases p c
  ·exact Nat.zero_le _
  ·exact Nat.succ_le_succ (gw p r)
theorem iN(p:UInt8→Bool):∀(l:List UInt8) (j:Nat) x,j<aV p l→l[j]?=some x→p x=true
 |[],j,x,h,_=>by simp[aV]at h
 |c::r,j,x,h,hx=>by
  unfold aV at h
  cases hp:p c with
  |false=>rw[hp]at h;exact absurd h (Nat.not_lt_zero _)
  |true=>
   rw[hp]at h
   cases j with
   |zero=>cases hx;exact hp
   |succ j=>exact iN p r j x (Nat.lt_of_succ_lt_succ h) hx
theorem jM(p:UInt8→Bool):∀(l:List UInt8) x,l[aV p l]?=some x→p x=false
 |[],x,h=>by cases h
 |c::r,x,h=>by
  unfold aV at h
  cases hp:p c with
  |false=>rw[hp]at h;cases h;exact hp
  |true=>rw[hp]at h;exact jM p r x h
theorem Fk{w:List UInt8}{h:Int}(e:jX w=some h):xU w=some h∧0≤h∧h≤99:=by
 unfold jX at e
 split at e
 ·rename_i n hn
  split at e
  ·rename_i hb
   cases e
   have:=Nat.le_of_ble_eq_true hb
   exact⟨hn,Int.natCast_nonneg _,by show(n:Int)≤99;omega⟩
  ·cases e
 ·cases e
theorem tJ{w:List UInt8}{h:Int}(e:jX w=some h):φ Tryz.prog 160 [.str w] (.aq [.t (.int .i64 h),.t (.bool true)]):=by
 obtain⟨h1,h2,h3⟩:=Fk e
 refine φ.Γ ?_ rfl
 refine γ.ξ ζ η Tryz.func160 rfl rfl ?_
 refine γ.pure (sF h1) rfl ?_
 refine U (fun _=> ?_) (fun c=>absurd (of_decide_eq_false c) (by omega))
 exact And.intro ⟨rfl,(show some (T.bool (decide (h≤99)))=some (T.bool true)from by rw[decide_eq_true h3]),trivial⟩ rfl
structure P6(s:PS)(w:List UInt8)(p:bK):Prop where
 ex:∃r,r≠[]∧w=46::r∧(∀c∈r,Dz c=true)∧p=⟨r, -1,0,0⟩
structure Cm(s:PS)(w:List UInt8)(p:bK)(arg:Nat):Prop where
 hd:∃c r,w=c::r∧c.toNat≠46
 nm:nc s 7 (w.take (aV du w))=some arg
 ex:(aV du w=w.length∧∃b,wm s arg=some b∧p=⟨[],(arg:Int),b - 1,0⟩)∨
  (aV du w+1<w.length∧w[w.length - 1]?=some 93∧∃inner,inner=(w.drop (aV du w+1)).take (w.length - 1 - (aV du w+1))∧
   ((aV eY inner=inner.length∧∃h,jX inner=some h∧p=⟨[],(arg:Int),h,h⟩)∨
    (aV eY inner<inner.length∧∃h l,jX (inner.take (aV eY inner))=some h∧jX (inner.drop (aV eY inner+1))=some l∧p=⟨[],(arg:Int),h,l⟩)))
theorem Hr{s:PS}{w:List UInt8}{p:bK}(h:Ce s w=some p):w.length≤65536∧(P6 s w p∨∃arg,Cm s w p arg):=by
 unfold Ce at h
 split at h
 rotate_left 1
 ·cases h
 rename_i hlen
 refine⟨Nat.le_of_ble_eq_true hlen,?_⟩
 unfold JZ at h
 split at h
 ·cases h
 rename_i c r
 split at h
 ·rename_i hc
  split at h
  ·cases h
  rename_i c1 r1
  split at h
  rotate_left 1
  ·cases h
  rename_i jh
  cases h
  have hc:c=46:=UInt8.toNat.inj (Nat.eq_of_beq_eq_true hc)
  have jh:=Nat.eq_of_beq_eq_true jh
  refine .inl ⟨c1::r1,by simp,by rw[hc],fun x hx=> ?_,rfl⟩
  obtain⟨j,hj⟩:=List.getElem?_of_mem hx
  exact iN Dz _ j x (by rw[jh];exact(List.getElem?_eq_some_iff.1 hj).1) hj
 ·rename_i hc
  have hc:c.toNat≠46:=by rw[jv,decide_eq_false_iff_not]at hc;exact hc
  simp only at h
  split at h
  ·cases h
  rename_i arg hn
  refine .inr ⟨arg,⟨c,r,rfl,hc⟩,hn,?_⟩
  have hle:=gw du (c::r)
  split at h
  ·rename_i e
   split at h
   ·rename_i b hb
    cases h
    exact .inl ⟨Nat.eq_of_beq_eq_true e,b,hb,rfl⟩
   ·cases h
  ·rename_i e
   split at h
   ·cases h
   rename_i e2
   rw[jv,decide_eq_false_iff_not]at e e2
   split at h
   rotate_left 1
   ·cases h
   rename_i z hz
   split at h
   ·cases h
   rename_i e3
   have e3:z=93:=UInt8.toNat.inj (Nat.eq_of_beq_eq_true e3)
   refine .inr ⟨by omega,by rw[←e3,←hz,List.getLast?_eq_getElem?],_,rfl,?_⟩
   have hk:=gw eY (((c::r).drop (aV du (c::r)+1)).take ((c::r).length - 1 - (aV du (c::r)+1)))
   split at h
   ·rename_i e4
    split at h
    ·rename_i hh hs
     cases h
     exact .inl ⟨Nat.eq_of_beq_eq_true e4,hh,hs,rfl⟩
    ·cases h
   ·rename_i e4
    rw[jv,decide_eq_false_iff_not]at e4
    split at h
    ·rename_i hh hs
     split at h
     ·rename_i ll hl
      cases h
      exact .inr ⟨by omega,hh,ll,hs,hl,rfl⟩
     ·cases h
    ·cases h
def sP:List AV:=[.t (.str []),.t (.int .i64 0),.t (.int .i64 0),.t (.int .i64 0)]
def UZ(p:bK):List AV:=[.t (.str p.lit),.t (.int .i64 p.arg),.t (.int .i64 p.hi),.t (.int .i64 p.lo)]
def po(s:PS)(w:List UInt8)(p:bK):Prop:=γ Tryz.prog 116 [eg s,.t (.str w)] (dH s.d) (fun v H=>v= .aq [eg s,.agg (UZ p)]∧H=dH s.d)
theorem HJ{c:UInt8}(h:Dz c=true):c=48∨c=49∨c=120:=by
 unfold Dz at h
 simp only[jv,Bool.or_eq_true,decide_eq_true_eq]at h
 rcases h with(h|h)|h
 ·exact .inl (UInt8.toNat.inj h)
 ·exact .inr (.inl (UInt8.toNat.inj h))
 ·exact .inr (.inr (UInt8.toNat.inj h))
theorem RV{s:PS}{w:List UInt8}{p:bK}(hw:w.length≤65536)(h:P6 s w p):po s w p:=by
 obtain⟨r,hr,rfl,hl,rfl⟩:=h.ex
 obtain⟨w,KZ⟩:∃w,w=(46:UInt8)::r:=⟨_,rfl⟩
 have Xi:0<r.length:=List.length_pos_iff.2 hr
 have Zq:w.length=r.length+1:=by rw[KZ];rfl
 rw[←KZ]at hw⊢
 have h0:w[0]?=some 46:=by rw[KZ];rfl
 have hT:(w.drop 1).take (w.length - 1)=r:=by rw[KZ];exact j7 _ _
 obtain⟨d,rest,g⟩:=s
 unfold po
 refine bM ?_
 refine γ.ξ ζ η Tryz.func116 rfl rfl ?_
 refine ν h0 ?_
 refine ao (fun i:Nat=>1≤i∧i≤w.length) (fun i=>⟨[(1,.t (.str w)),(2,.ptr 11 0 0 0),(4,.ptr 12 0 0 0),(5,.ptr 13 0 0 0),(6,.t (.int .i64 i))],dH d++[.box (eG d (Δ rest) (g.map Λ)),.box dh,.box sP]⟩) (fun i=>w.length - i) 1 ⟨Nat.le_refl _,by omega⟩ ?_ (fun i ⟨lG,vQ⟩=> ?_)
 ·exact τ [0,1,2,3,4,5,6,7,8,9,10,11,12,13] rfl ⟨rfl,rfl,rfl,rfl,rfl,trivial⟩ ⟨rfl,rfl,rfl,rfl,rfl,rfl,rfl,rfl,rfl,rfl,rfl,rfl,rfl,rfl,trivial⟩
 refine U (fun c=> ?_) (fun c=> ?_)
 ·have c:i<w.length:=de c
  obtain⟨j,hj⟩:∃j,i=j+1:=⟨i - 1,by omega⟩
  obtain⟨x,hx,dk⟩:=get_some (R:=r) (i:=j) (by omega)
  have fw:w[((i:Nat):Int).toNat]?=some x:=by rw[Int.toNat_natCast,hj,KZ];exact hx
  refine υ Kk (by decide+kernel) ?_
  rcases HJ (hl x dk)with rfl|rfl|rfl
  ·refine ν fw ?_
   refine ι (Φ d _ _ rfl 41) (by rfl) (by rfl) ?_
   refine And.intro (fun j hj=>by cases hj) ?_
   refine And.intro (fun j hj=>by cases hj) ?_
   refine δ (n:=((i+1:Nat):Int)) (aj (n:=i+1) (by omega)) ?_
   conv=>whnf
   exact⟨⟨i+1,by omega,c⟩,τ [0,1,2,3,4,5,6,7,8,9,10,11,12,13] rfl ⟨rfl,rfl,rfl,rfl,rfl,trivial⟩ ⟨rfl,rfl,rfl,rfl,rfl,rfl,rfl,rfl,rfl,rfl,rfl,rfl,rfl,rfl,trivial⟩,by show w.length - (i+1)<w.length - i;omega⟩
  ·refine ν fw ?_
   refine ν fw ?_
   refine ι (Φ d _ _ rfl 41) (by rfl) (by rfl) ?_
   refine And.intro (fun j hj=>by cases hj) ?_
   refine And.intro (fun j hj=>by cases hj) ?_
   refine δ (n:=((i+1:Nat):Int)) (aj (n:=i+1) (by omega)) ?_
   conv=>whnf
   exact⟨⟨i+1,by omega,c⟩,τ [0,1,2,3,4,5,6,7,8,9,10,11,12,13] rfl ⟨rfl,rfl,rfl,rfl,rfl,trivial⟩ ⟨rfl,rfl,rfl,rfl,rfl,rfl,rfl,rfl,rfl,rfl,rfl,rfl,rfl,rfl,trivial⟩,by show w.length - (i+1)<w.length - i;omega⟩
  ·refine ν fw ?_
   refine ν fw ?_
   refine ν fw ?_
   refine ι (Φ d _ _ rfl 41) (by rfl) (by rfl) ?_
   refine And.intro (fun j hj=>by cases hj) ?_
   refine And.intro (fun j hj=>by cases hj) ?_
   refine δ (n:=((i+1:Nat):Int)) (aj (n:=i+1) (by omega)) ?_
   conv=>whnf
   exact⟨⟨i+1,by omega,c⟩,τ [0,1,2,3,4,5,6,7,8,9,10,11,12,13] rfl ⟨rfl,rfl,rfl,rfl,rfl,trivial⟩ ⟨rfl,rfl,rfl,rfl,rfl,rfl,rfl,rfl,rfl,rfl,rfl,rfl,rfl,rfl,trivial⟩,by show w.length - (i+1)<w.length - i;omega⟩
 ·refine aE (dB 12 [7,6,5]) Kj (by decide+kernel) ?_
  refine ε (show(decide ((0:Int)≤1)&&decide ((1:Int)≤((w.length:Nat):Int)))=true from by simp;omega) ?_
  refine ι (Φ d _ _ ?hb 41) (by rfl) (by rfl) ?_
  case hb=>simp;omega
  refine And.intro (fun j hj=>χ.refl _ _) ?_
  refine And.intro (fun j hj=>by simp only[List.mem_cons,List.not_mem_nil,or_false]at hj;rcases hj with rfl|rfl|rfl<;>exact χ.set (b:=12) _ (List.mem_singleton.2 rfl)) ?_
  refine And.intro (fun j hj=>by cases hj) ?_
  refine ae ?_ ?_
  ·exact⟨congrArg (fun l=>some (AV.aq [.agg (eG d (Δ rest) (g.map Λ)),.agg (UZ ⟨l, -1,0,0⟩)])) hT,trivial⟩
  ·exact⟨rfl,rfl,rfl,rfl,rfl,rfl,rfl,rfl,rfl,rfl,rfl,trivial⟩
theorem FE{s:PS}{arg:Nat}{b:Int}(h:wm s arg=some b):∃a k,s.args[arg]?=some a∧(0≤a.aU∧a.aU<s.d.classes.length)∧s.d.classes[a.aU.toNat]?=some k∧k.bits=b:=by
 unfold wm at h
 split at h
 ·rename_i a ha
  split at h
  ·rename_i k hk
   split at h
   ·rename_i c hc
    cases h
    refine⟨a,c,ha,?_,?_,rfl⟩
    ·have:=(List.getElem?_eq_some_iff.1 hc).1
     rw[hk]
     exact⟨Int.natCast_nonneg _,by show(k:Int)<_;omega⟩
    ·rw[hk];exact hc
   ·cases h
  ·cases h
 ·cases h
theorem QE{s:PS}(hs:cV s)(hb:∀c∈s.d.classes,0≤c.bits∧c.bits≤1000000000000000000){w:List UInt8}{p:bK}{arg:Nat}(hw:w.length≤65536)(h:Cm s w p arg)(he:aV du w=w.length){b:Int}(Tm:wm s arg=some b):po s w ⟨[],(arg:Int),b - 1,0⟩:=by
 obtain⟨c,r,K0,hc⟩:=h.hd
 have h0:w[0]?=some c:=by rw[K0];rfl
 have hle:=gw du w
 have bZ:=iN du w
 have iS:=jM du w
 have BF:=t_ s hs (k:=7) (by decide) h.nm
 obtain⟨a,k,ha,bn,hk,rfl⟩:=FE Tm
 have lQ:=hb k (List.mem_of_getElem? hk)
 obtain⟨at_,Ee⟩:∃a,a=aV du w:=⟨_,rfl⟩
 rw[←Ee]at hle bZ iS BF he
 obtain⟨d,rest,g⟩:=s
 unfold po
 refine bM ?_
 refine γ.ξ ζ η Tryz.func116 rfl rfl ?_
 refine ν h0 ?_
 refine U (fun e=>absurd (fq (k:=46) e) hc) (fun _=> ?_)
 refine ao (fun i:Nat=>i≤at_) (fun i=>⟨[(1,.t (.str w)),(2,.ptr 11 0 0 0),(4,.ptr 12 0 0 0),(5,.ptr 13 0 0 0),(7,.t (.int .i64 i))],dH d++[.box (eG d (Δ rest) (g.map Λ)),.box dh,.box sP]⟩) (fun i=>w.length - i) 0 (Nat.zero_le _) ?_ (fun i hi=> ?_)
 ·exact τ [0,1,2,3,4,5,6,7,8,9,10,11,12,13] rfl ⟨rfl,rfl,rfl,rfl,rfl,trivial⟩ ⟨rfl,rfl,rfl,rfl,rfl,rfl,rfl,rfl,rfl,rfl,rfl,rfl,rfl,rfl,trivial⟩
 have hi:i≤at_:=hi
 refine U (fun c=> ?_) (fun c=> ?_)
 ·have c:i<w.length:=de c
  obtain⟨x,hx,dk⟩:=get_some (R:=w) (i:=i) c
  refine ν (show w[((i:Nat):Int).toNat]?=some x from by rw[Int.toNat_natCast];exact hx) ?_
  refine U (fun kU=> ?_) (fun kU=> ?_)
  ·have kU:=xG (k:=91) kU
   have ω:i<at_:=by
    rcases Nat.lt_or_ge i at_ with h|h
    ·exact h
    ·obtain rfl:i=at_:=by omega
     have:=iS x hx
     unfold du at this
     rw[jv,decide_eq_false kU]at this
     cases this
   refine δ (n:=((i+1:Nat):Int)) (aj (n:=i+1) (by omega)) ?_
   conv=>whnf
   exact⟨⟨i+1,ω⟩,τ [0,1,2,3,4,5,6,7,8,9,10,11,12,13] rfl ⟨rfl,rfl,rfl,rfl,rfl,trivial⟩ ⟨rfl,rfl,rfl,rfl,rfl,rfl,rfl,rfl,rfl,rfl,rfl,rfl,rfl,rfl,trivial⟩,by show w.length - (i+1)<w.length - i;omega⟩
  ·have kU:=u9 (k:=91) kU
   have xw:i=at_:=by
    rcases Nat.lt_or_ge i at_ with h|h
    ·have:=bZ i x h hx
     unfold du at this
     rw[jv,decide_eq_true kU]at this
     cases this
    ·omega
   omega
 ·have c:w.length≤i:=by have:=dm c;omega
  obtain rfl:i=at_:=by omega
  refine aE (dB 11 [7]) tU (by decide+kernel) ?_
  refine ε (show(decide ((0:Int)≤((i:Nat):Int))&&decide (((i:Nat):Int)≤((w.length:Nat):Int)))=true from by simp;omega) ?_
  refine ι BF (by rfl) (by rfl) ?_
  refine And.intro (fun j hj=>by cases hj) ?_
  refine And.intro (fun j hj=>by rw[List.mem_singleton.1 hj];exact χ.set (b:=11) _ (List.mem_singleton.2 rfl)) ?_
  refine And.intro (fun j hj=>by cases hj) ?_
  refine U (fun _=> ?_) (fun c=>absurd (show((i:Nat):Int)=((w.length:Nat):Int) by rw[he]) (by simpa using c))
  refine aE (dB 12 [15,14,13,12,11,10,9,8,7,6,5,4,3,2,1]) HD (by decide+kernel) ?_
  refine ν (show(g.map Λ)[((arg:Nat):Int).toNat]?=some (Λ a)from by rw[Int.toNat_natCast,List.getElem?_map,show g[arg]?=some a from ha];rfl) ?_
  refine ε (fu rfl bn.1 bn.2) ?_
  refine ν (show(d.classes.map aF)[0+a.aU.toNat]?=some (aF k)from by rw[Nat.zero_add,List.getElem?_map,show d.classes[a.aU.toNat]?=some k from hk];rfl) ?_
  refine δ (n:=k.bits - 1) (by rw[IntKind.wrap_i64];omega) ?_
  refine And.intro (fun j hj=>by simp only[List.mem_cons,List.not_mem_nil,or_false]at hj;rcases hj with rfl|rfl|rfl|rfl|rfl|rfl|rfl|rfl|rfl|rfl|rfl|rfl|rfl|rfl|rfl<;>exact χ.set (b:=12) _ (List.mem_singleton.2 rfl)) ?_
  refine And.intro (fun j hj=>by cases hj) ?_
  refine ae ?_ ?_
  ·exact⟨rfl,trivial⟩
  ·exact⟨rfl,rfl,rfl,rfl,rfl,rfl,rfl,rfl,rfl,rfl,rfl,trivial⟩
def pW(l:List UInt8)(m:Nat):Int:=if aV eY (l.drop m)=(l.drop m).length then -1 else((m+aV eY (l.drop m):Nat):Int)
theorem Gz(l:List UInt8):pW l l.length= -1:=by unfold pW;simp[aV]
theorem Es(l:List UInt8):pW l 0=if aV eY l=l.length then -1 else((aV eY l:Nat):Int):=by unfold pW;simp
theorem drop_cons{l:List UInt8}{m:Nat}{x:UInt8}(hx:l[m]?=some x):l.drop m=x::l.drop (m+1):=by
 have c:=(List.getElem?_eq_some_iff.1 hx).1
 rw[List.drop_eq_getElem_cons c]
 congr 1
 rw[List.getElem?_eq_getElem c]at hx
 exact Option.some.inj hx
theorem Gy{l:List UInt8}{m:Nat}{x:UInt8}(hx:l[m]?=some x)(h:x.toNat=58):pW l m=(m:Int):=by
 unfold pW
 rw[drop_cons hx]
 have:eY x=false:=by unfold eY;rw[jv,decide_eq_true h];rfl
 simp[aV,this]
theorem Et{l:List UInt8}{m:Nat}{x:UInt8}(hx:l[m]?=some x)(h:x.toNat≠58):pW l m=pW l (m+1):=by
 unfold pW
 rw[drop_cons hx]
 have:eY x=true:=by unfold eY;rw[jv,decide_eq_false h];rfl
 simp only[aV,this,List.length_cons,Nat.add_right_cancel_iff]
 split
 ·rfl
 ·congr 1;omega
theorem QD{s:PS}(hs:cV s){w:List UInt8}{p:bK}{arg:Nat}(hw:w.length≤65536)(h:Cm s w p arg)(he:aV du w+1<w.length)(Gr:w[w.length - 1]?=some 93){inner:List UInt8}(aL:inner=(w.drop (aV du w+1)).take (w.length - 1 - (aV du w+1)))(hk:aV eY inner=inner.length){hh:Int}(fo:jX inner=some hh):po s w ⟨[],(arg:Int),hh,hh⟩:=by
 obtain⟨c,r,K0,hc⟩:=h.hd
 have h0:w[0]?=some c:=by rw[K0];rfl
 have hle:=gw du w
 have bZ:=iN du w
 have iS:=jM du w
 have BF:=t_ s hs (k:=7) (by decide) h.nm
 obtain⟨at_,Ee⟩:∃a,a=aV du w:=⟨_,rfl⟩
 rw[←Ee]at hle bZ iS BF he aL
 have qu:inner.length≤w.length:=by rw[aL,List.length_take,List.length_drop];omega
 obtain⟨d,rest,g⟩:=s
 unfold po
 refine bM ?_
 refine γ.ξ ζ η Tryz.func116 rfl rfl ?_
 refine ν h0 ?_
 refine U (fun e=>absurd (fq (k:=46) e) hc) (fun _=> ?_)
 refine ao (fun i:Nat=>i≤at_) (fun i=>⟨[(1,.t (.str w)),(2,.ptr 11 0 0 0),(4,.ptr 12 0 0 0),(5,.ptr 13 0 0 0),(7,.t (.int .i64 i))],dH d++[.box (eG d (Δ rest) (g.map Λ)),.box dh,.box sP]⟩) (fun i=>w.length - i) 0 (Nat.zero_le _) ?_ (fun i hi=> ?_)
 ·exact τ [0,1,2,3,4,5,6,7,8,9,10,11,12,13] rfl ⟨rfl,rfl,rfl,rfl,rfl,trivial⟩ ⟨rfl,rfl,rfl,rfl,rfl,rfl,rfl,rfl,rfl,rfl,rfl,rfl,rfl,rfl,trivial⟩
 have hi:i≤at_:=hi
 refine U (fun c=> ?_) (fun c=> ?_)
 ·have c:i<w.length:=de c
  obtain⟨x,hx,dk⟩:=get_some (R:=w) (i:=i) c
  refine ν (show w[((i:Nat):Int).toNat]?=some x from by rw[Int.toNat_natCast];exact hx) ?_
  refine U (fun kU=> ?_) (fun kU=> ?_)
  ·have kU:=xG (k:=91) kU
   have ω:i<at_:=by
    rcases Nat.lt_or_ge i at_ with h|h
    ·exact h
    ·obtain rfl:i=at_:=by omega
     have:=iS x hx
     unfold du at this
     rw[jv,decide_eq_false kU]at this
     cases this
   refine δ (n:=((i+1:Nat):Int)) (aj (n:=i+1) (by omega)) ?_
   conv=>whnf
   exact⟨⟨i+1,ω⟩,τ [0,1,2,3,4,5,6,7,8,9,10,11,12,13] rfl ⟨rfl,rfl,rfl,rfl,rfl,trivial⟩ ⟨rfl,rfl,rfl,rfl,rfl,rfl,rfl,rfl,rfl,rfl,rfl,rfl,rfl,rfl,trivial⟩,by show w.length - (i+1)<w.length - i;omega⟩
  ·have kU:=u9 (k:=91) kU
   have xw:i=at_:=by
    rcases Nat.lt_or_ge i at_ with h|h
    ·have:=bZ i x h hx
     unfold du at this
     rw[jv,decide_eq_true kU]at this
     cases this
    ·omega
   subst xw
   refine aE (dB 11 [7]) tU (by decide+kernel) ?_
   refine ε (show(decide ((0:Int)≤((i:Nat):Int))&&decide (((i:Nat):Int)≤((w.length:Nat):Int)))=true from by simp;omega) ?_
   refine ι BF (by rfl) (by rfl) ?_
   refine And.intro (fun j hj=>by cases hj) ?_
   refine And.intro (fun j hj=>by rw[List.mem_singleton.1 hj];exact χ.set (b:=11) _ (List.mem_singleton.2 rfl)) ?_
   refine And.intro (fun j hj=>by cases hj) ?_
   refine U (fun c=>absurd (show((i:Nat):Int)=((w.length:Nat):Int)from by simpa using c) (by omega)) (fun _=> ?_)
   refine υ yI (by decide+kernel) ?_
   refine δ (n:=((w.length - 1:Nat):Int)) (by rw[IntKind.wrap_i64];omega) ?_
   refine ν (show w[((w.length - 1:Nat):Int).toNat]?=some 93 from by rw[Int.toNat_natCast];exact Gr) ?_
   refine δ (n:=((w.length - 1:Nat):Int)) (by rw[IntKind.wrap_i64];omega) ?_
   refine ι (Φ d _ _ ?hb 41) (by rfl) (by rfl) ?_
   case hb=>simp;omega
   refine And.intro (fun j hj=>by cases hj) ?_
   refine And.intro (fun j hj=>by cases hj) ?_
   refine δ (n:=((i+1:Nat):Int)) (aj (n:=i+1) (by omega)) ?_
   refine δ (n:=((w.length - 1:Nat):Int)) (by rw[IntKind.wrap_i64];omega) ?_
   refine ε (show(decide ((0:Int)≤((w.length - 1:Nat):Int))&&decide (((w.length - 1:Nat):Int)≤((w.length:Nat):Int)))=true from by simp) ?_
   refine ε (show(decide ((0:Int)≤((i+1:Nat):Int))&&decide (((i+1:Nat):Int)≤((((w.length - 1:Nat):Int).toNat:Nat):Int)))=true from by simp;omega) ?_
   refine δ (n:=(inner.length:Int) - 1) (show IntKind.i64.wrap (((((w.drop (((i+1:Nat):Int).toNat)).take ((((w.length - 1:Nat):Int).toNat) - (((i+1:Nat):Int).toNat))).length:Nat):Int) - 1)=_ from by rw[Int.toNat_natCast,Int.toNat_natCast,←aL,IntKind.wrap_i64];omega) ?_
   refine ao (fun x:Nat×Int=>x.1≤inner.length∧x.2=pW inner x.1) (fun x=>⟨[(2,.ptr 11 0 0 0),(4,.ptr 12 0 0 0),(5,.ptr 13 0 0 0),(9,.t (.str inner)),(10,.ptr 14 0 0 0),(11,.t (.int .i64 x.2)),(12,.t (.int .i64 ((x.1:Int) - 1)))],dH d++[.box (eG d (Δ rest) (g.map Λ)),.box dh,.box sP,.box [.t (.str []),.t (.int .i64 arg),.t (.int .i64 0),.t (.int .i64 0)]]⟩) (fun x=>x.1) (inner.length, -1) ⟨Nat.le_refl _,(Gz inner).symm⟩ ?_ (fun⟨m,v⟩ ⟨hm,hv⟩=> ?_)
   ·exact τ [0,1,2,3,4,5,6,7,8,9,10,11,12,13,14] rfl ⟨rfl,rfl,rfl,congrArg (fun l=>some (AV.t (.str l))) aL.symm,rfl,rfl,rfl,trivial⟩ ⟨rfl,rfl,rfl,rfl,rfl,rfl,rfl,rfl,rfl,rfl,rfl,rfl,rfl,rfl,rfl,trivial⟩
   have hm:m≤inner.length:=hm
   have hv:v=pW inner m:=hv
   refine U (fun c=> ?_) (fun c=> ?_)
   ·have c:=of_decide_eq_true c
    obtain⟨m',K_⟩:∃m',m=m'+1:=⟨m - 1,by omega⟩
    obtain⟨x,hx,_⟩:=get_some (R:=inner) (i:=m') (by omega)
    refine ε (decide_eq_true (by omega)) ?_
    refine ν (show inner[((m:Int) - 1).toNat]?=some x from by rw[show((m:Int) - 1).toNat=m' by omega];exact hx) ?_
    refine U (fun rN=> ?_) (fun rN=> ?_)
    ·have rN:=fq (k:=58) rN
     refine δ (n:=((m':Nat):Int) - 1) (show IntKind.i64.wrap (((m:Nat):Int) - 1 - 1)=_ from by rw[IntKind.wrap_i64];omega) ?_
     conv=>whnf
     exact⟨⟨(m',(m:Int) - 1),by show m'≤_;omega,by show(m:Int) - 1=pW inner m';rw[Gy hx rN];omega⟩,τ [0,1,2,3,4,5,6,7,8,9,10,11,12,13,14] rfl ⟨rfl,rfl,rfl,rfl,rfl,rfl,rfl,trivial⟩ ⟨rfl,rfl,rfl,rfl,rfl,rfl,rfl,rfl,rfl,rfl,rfl,rfl,rfl,rfl,rfl,trivial⟩,by show m'<m;omega⟩
    ·have rN:=yu (k:=58) rN
     refine δ (n:=((m':Nat):Int) - 1) (show IntKind.i64.wrap (((m:Nat):Int) - 1 - 1)=_ from by rw[IntKind.wrap_i64];omega) ?_
     conv=>whnf
     exact⟨⟨(m',v),by show m'≤_;omega,by show v=pW inner m';rw[Et hx rN,←K_];exact hv⟩,τ [0,1,2,3,4,5,6,7,8,9,10,11,12,13,14] rfl ⟨rfl,rfl,rfl,rfl,rfl,rfl,rfl,trivial⟩ ⟨rfl,rfl,rfl,rfl,rfl,rfl,rfl,rfl,rfl,rfl,rfl,rfl,rfl,rfl,rfl,trivial⟩,by show m'<m;omega⟩
   ·have c:=of_decide_eq_false c
    obtain rfl:m=0:=by omega
    have By:v<0:=by rw[hv,Es,if_pos hk];decide
    refine U (fun _=> ?_) (fun c=>absurd (of_decide_eq_false c) (by omega))
    refine γ.pure (tJ fo) rfl ?_
    refine aE (dB 12 [8]) yH (by decide+kernel) ?_
    refine ι (Φ d _ _ rfl 41) (by rfl) (by rfl) ?_
    refine And.intro (fun j hj=>χ.refl _ _) ?_
    refine And.intro (fun j hj=>by rw[List.mem_singleton.1 hj];exact χ.set (b:=12) _ (List.mem_singleton.2 rfl)) ?_
    refine And.intro (fun j hj=>by cases hj) ?_
    refine ae ?_ ?_
    ·exact⟨rfl,trivial⟩
    ·exact⟨rfl,rfl,rfl,rfl,rfl,rfl,rfl,rfl,rfl,rfl,rfl,trivial⟩
 ·have c:w.length≤i:=by have:=dm c;omega
  omega
theorem QC{s:PS}(hs:cV s){w:List UInt8}{p:bK}{arg:Nat}(hw:w.length≤65536)(h:Cm s w p arg)(he:aV du w+1<w.length)(Gr:w[w.length - 1]?=some 93){inner:List UInt8}(aL:inner=(w.drop (aV du w+1)).take (w.length - 1 - (aV du w+1)))(hk:aV eY inner<inner.length){hh ll:Int}(fo:jX (inner.take (aV eY inner))=some hh)(uN:jX (inner.drop (aV eY inner+1))=some ll):po s w ⟨[],(arg:Int),hh,ll⟩:=by
 obtain⟨c,r,K0,hc⟩:=h.hd
 have h0:w[0]?=some c:=by rw[K0];rfl
 have hle:=gw du w
 have bZ:=iN du w
 have iS:=jM du w
 have BF:=t_ s hs (k:=7) (by decide) h.nm
 obtain⟨at_,Ee⟩:∃a,a=aV du w:=⟨_,rfl⟩
 rw[←Ee]at hle bZ iS BF he aL
 have qu:inner.length≤w.length:=by rw[aL,List.length_take,List.length_drop];omega
 obtain⟨d,rest,g⟩:=s
 unfold po
 refine bM ?_
 refine γ.ξ ζ η Tryz.func116 rfl rfl ?_
 refine ν h0 ?_
 refine U (fun e=>absurd (fq (k:=46) e) hc) (fun _=> ?_)
 refine ao (fun i:Nat=>i≤at_) (fun i=>⟨[(1,.t (.str w)),(2,.ptr 11 0 0 0),(4,.ptr 12 0 0 0),(5,.ptr 13 0 0 0),(7,.t (.int .i64 i))],dH d++[.box (eG d (Δ rest) (g.map Λ)),.box dh,.box sP]⟩) (fun i=>w.length - i) 0 (Nat.zero_le _) ?_ (fun i hi=> ?_)
 ·exact τ [0,1,2,3,4,5,6,7,8,9,10,11,12,13] rfl ⟨rfl,rfl,rfl,rfl,rfl,trivial⟩ ⟨rfl,rfl,rfl,rfl,rfl,rfl,rfl,rfl,rfl,rfl,rfl,rfl,rfl,rfl,trivial⟩
 have hi:i≤at_:=hi
 refine U (fun c=> ?_) (fun c=> ?_)
 ·have c:i<w.length:=de c
  obtain⟨x,hx,dk⟩:=get_some (R:=w) (i:=i) c
  refine ν (show w[((i:Nat):Int).toNat]?=some x from by rw[Int.toNat_natCast];exact hx) ?_
  refine U (fun kU=> ?_) (fun kU=> ?_)
  ·have kU:=xG (k:=91) kU
   have ω:i<at_:=by
    rcases Nat.lt_or_ge i at_ with h|h
    ·exact h
    ·obtain rfl:i=at_:=by omega
     have:=iS x hx
     unfold du at this
     rw[jv,decide_eq_false kU]at this
     cases this
   refine δ (n:=((i+1:Nat):Int)) (aj (n:=i+1) (by omega)) ?_
   conv=>whnf
   exact⟨⟨i+1,ω⟩,τ [0,1,2,3,4,5,6,7,8,9,10,11,12,13] rfl ⟨rfl,rfl,rfl,rfl,rfl,trivial⟩ ⟨rfl,rfl,rfl,rfl,rfl,rfl,rfl,rfl,rfl,rfl,rfl,rfl,rfl,rfl,trivial⟩,by show w.length - (i+1)<w.length - i;omega⟩
  ·have kU:=u9 (k:=91) kU
   have xw:i=at_:=by
    rcases Nat.lt_or_ge i at_ with h|h
    ·have:=bZ i x h hx
     unfold du at this
     rw[jv,decide_eq_true kU]at this
     cases this
    ·omega
   subst xw
   refine aE (dB 11 [7]) tU (by decide+kernel) ?_
   refine ε (show(decide ((0:Int)≤((i:Nat):Int))&&decide (((i:Nat):Int)≤((w.length:Nat):Int)))=true from by simp;omega) ?_
   refine ι BF (by rfl) (by rfl) ?_
   refine And.intro (fun j hj=>by cases hj) ?_
   refine And.intro (fun j hj=>by rw[List.mem_singleton.1 hj];exact χ.set (b:=11) _ (List.mem_singleton.2 rfl)) ?_
   refine And.intro (fun j hj=>by cases hj) ?_
   refine U (fun c=>absurd (show((i:Nat):Int)=((w.length:Nat):Int)from by simpa using c) (by omega)) (fun _=> ?_)
   refine υ yI (by decide+kernel) ?_
   refine δ (n:=((w.length - 1:Nat):Int)) (by rw[IntKind.wrap_i64];omega) ?_
   refine ν (show w[((w.length - 1:Nat):Int).toNat]?=some 93 from by rw[Int.toNat_natCast];exact Gr) ?_
   refine δ (n:=((w.length - 1:Nat):Int)) (by rw[IntKind.wrap_i64];omega) ?_
   refine ι (Φ d _ _ ?hb 41) (by rfl) (by rfl) ?_
   case hb=>simp;omega
   refine And.intro (fun j hj=>by cases hj) ?_
   refine And.intro (fun j hj=>by cases hj) ?_
   refine δ (n:=((i+1:Nat):Int)) (aj (n:=i+1) (by omega)) ?_
   refine δ (n:=((w.length - 1:Nat):Int)) (by rw[IntKind.wrap_i64];omega) ?_
   refine ε (show(decide ((0:Int)≤((w.length - 1:Nat):Int))&&decide (((w.length - 1:Nat):Int)≤((w.length:Nat):Int)))=true from by simp) ?_
   refine ε (show(decide ((0:Int)≤((i+1:Nat):Int))&&decide (((i+1:Nat):Int)≤((((w.length - 1:Nat):Int).toNat:Nat):Int)))=true from by simp;omega) ?_
   refine δ (n:=(inner.length:Int) - 1) (show IntKind.i64.wrap (((((w.drop (((i+1:Nat):Int).toNat)).take ((((w.length - 1:Nat):Int).toNat) - (((i+1:Nat):Int).toNat))).length:Nat):Int) - 1)=_ from by rw[Int.toNat_natCast,Int.toNat_natCast,←aL,IntKind.wrap_i64];omega) ?_
   refine ao (fun x:Nat×Int=>x.1≤inner.length∧x.2=pW inner x.1) (fun x=>⟨[(2,.ptr 11 0 0 0),(4,.ptr 12 0 0 0),(5,.ptr 13 0 0 0),(9,.t (.str inner)),(10,.ptr 14 0 0 0),(11,.t (.int .i64 x.2)),(12,.t (.int .i64 ((x.1:Int) - 1)))],dH d++[.box (eG d (Δ rest) (g.map Λ)),.box dh,.box sP,.box [.t (.str []),.t (.int .i64 arg),.t (.int .i64 0),.t (.int .i64 0)]]⟩) (fun x=>x.1) (inner.length, -1) ⟨Nat.le_refl _,(Gz inner).symm⟩ ?_ (fun⟨m,v⟩ ⟨hm,hv⟩=> ?_)
   ·exact τ [0,1,2,3,4,5,6,7,8,9,10,11,12,13,14] rfl ⟨rfl,rfl,rfl,congrArg (fun l=>some (AV.t (.str l))) aL.symm,rfl,rfl,rfl,trivial⟩ ⟨rfl,rfl,rfl,rfl,rfl,rfl,rfl,rfl,rfl,rfl,rfl,rfl,rfl,rfl,rfl,trivial⟩
   have hm:m≤inner.length:=hm
   have hv:v=pW inner m:=hv
   refine U (fun c=> ?_) (fun c=> ?_)
   ·have c:=of_decide_eq_true c
    obtain⟨m',K_⟩:∃m',m=m'+1:=⟨m - 1,by omega⟩
    obtain⟨x,hx,_⟩:=get_some (R:=inner) (i:=m') (by omega)
    refine ε (decide_eq_true (by omega)) ?_
    refine ν (show inner[((m:Int) - 1).toNat]?=some x from by rw[show((m:Int) - 1).toNat=m' by omega];exact hx) ?_
    refine U (fun rN=> ?_) (fun rN=> ?_)
    ·have rN:=fq (k:=58) rN
     refine δ (n:=((m':Nat):Int) - 1) (show IntKind.i64.wrap (((m:Nat):Int) - 1 - 1)=_ from by rw[IntKind.wrap_i64];omega) ?_
     conv=>whnf
     exact⟨⟨(m',(m:Int) - 1),by show m'≤_;omega,by show(m:Int) - 1=pW inner m';rw[Gy hx rN];omega⟩,τ [0,1,2,3,4,5,6,7,8,9,10,11,12,13,14] rfl ⟨rfl,rfl,rfl,rfl,rfl,rfl,rfl,trivial⟩ ⟨rfl,rfl,rfl,rfl,rfl,rfl,rfl,rfl,rfl,rfl,rfl,rfl,rfl,rfl,rfl,trivial⟩,by show m'<m;omega⟩
    ·have rN:=yu (k:=58) rN
     refine δ (n:=((m':Nat):Int) - 1) (show IntKind.i64.wrap (((m:Nat):Int) - 1 - 1)=_ from by rw[IntKind.wrap_i64];omega) ?_
     conv=>whnf
     exact⟨⟨(m',v),by show m'≤_;omega,by show v=pW inner m';rw[Et hx rN,←K_];exact hv⟩,τ [0,1,2,3,4,5,6,7,8,9,10,11,12,13,14] rfl ⟨rfl,rfl,rfl,rfl,rfl,rfl,rfl,trivial⟩ ⟨rfl,rfl,rfl,rfl,rfl,rfl,rfl,rfl,rfl,rfl,rfl,rfl,rfl,rfl,rfl,trivial⟩,by show m'<m;omega⟩
   ·have c:=of_decide_eq_false c
    obtain rfl:m=0:=by omega
    have By:v=((aV eY inner:Nat):Int):=by rw[hv,Es,if_neg (by omega)]
    have Xd:v.toNat=aV eY inner:=by rw[By,Int.toNat_natCast]
    refine U (fun c=>absurd (of_decide_eq_true c) (by omega)) (fun _=> ?_)
    refine ε (show(decide ((0:Int)≤v)&&decide (v≤((inner.length:Nat):Int)))=true from by simp;omega) ?_
    refine γ.pure (tJ (w:=(inner.drop 0).take (v.toNat - 0)) (by rw[Xd];exact fo)) rfl ?_
    refine δ (n:=v+1) (by rw[IntKind.wrap_i64];omega) ?_
    refine ε (show(decide ((0:Int)≤v+1)&&decide (v+1≤((inner.length:Nat):Int)))=true from by simp;omega) ?_
    refine γ.pure (tJ (w:=(inner.drop (v+1).toNat).take (inner.length - (v+1).toNat)) (by rw[show(v+1).toNat=aV eY inner+1 by omega,List.take_of_length_le (by simp)];exact uN)) rfl ?_
    refine aE (dB 12 [8]) yH (by decide+kernel) ?_
    refine ι (Φ d _ _ rfl 41) (by rfl) (by rfl) ?_
    refine And.intro (fun j hj=>χ.refl _ _) ?_
    refine And.intro (fun j hj=>by rw[List.mem_singleton.1 hj];exact χ.set (b:=12) _ (List.mem_singleton.2 rfl)) ?_
    refine And.intro (fun j hj=>by cases hj) ?_
    refine ae ?_ ?_
    ·exact⟨rfl,trivial⟩
    ·exact⟨rfl,rfl,rfl,rfl,rfl,rfl,rfl,rfl,rfl,rfl,rfl,trivial⟩
 ·have c:w.length≤i:=by have:=dm c;omega
  omega
theorem QB{s:PS}(hs:cV s)(hb:∀c∈s.d.classes,0≤c.bits∧c.bits≤1000000000000000000){w:List UInt8}{p:bK}(h:Ce s w=some p):po s w p:=by
 obtain⟨hw,h|⟨arg,h⟩⟩:=Hr h
 ·exact RV hw h
 ·rcases h.ex with⟨he,b,Tm,rfl⟩|⟨he,Gr,inner,aL,⟨hk,hh,fo,rfl⟩|⟨hk,hh,ll,fo,uN,rfl⟩⟩
  ·exact QE hs hb hw h he Tm
  ·exact QD hs hw h he Gr aL hk fo
  ·exact QC hs hw h he Gr aL hk fo uN
end Go.Proofs.YtcogcbplmkcojaaGreatDoor
namespace Go.Proofs.YtcogcbplmkcojaaGreatDoor
open Go.IntWalk
set_option maxRecDepth 100000
set_option linter.unusedVariables false
set_option linter.unusedSimpArgs false
set_option maxHeartbeats 4000000
def Ki:Ord:=(.op 0 [] (.op 1 [0] (.op 2 [0] (.op 3 [0] (.op 4 [3,2,1] (.op 5 [] .nil))))))
def tS:Ord:=(.op 0 [] (.op 1 [0] (.op 2 [1] (.op 3 [] .nil))))
def US(f:Nat):Prop:=∀s s' op w a b ks,mb f s=some (s',(op,w,a,b),ks)→aa s s'∧bN 118 s s' op w a b ks
def OK:List (List UInt8):=[[83],[65],[80],[71],[84],[],[72]]
theorem pu{P1:PS→Option (PS×(Int×Int×Int×Int)×List T)}{s s':PS}{t:T}(h:CH P1 s=some (s',t)):∃op w a b ks,P1 s=some (s',(op,w,a,b),ks)∧t=eh op w a b ks:=by
 unfold CH at h
 split at h
 ·cases h
  exact⟨_,_,_,_,_,by assumption,rfl⟩
 ·cases h
theorem Wo{n:Nat}:decide (((n:Nat):Int)<0)=false:=decide_eq_false (by omega)
theorem N_{h:List UInt8}(e:cY h 0 [[97,100,100],[115,117,98],[112,97,103,101]]=some 0):h=[97,100,100]:=by
 obtain⟨j,x,q1,q2,q3⟩:=a_ _ _ _ _ e
 obtain rfl:j=0:=by omega
 cases q2
 exact q3
theorem N9{h:List UInt8}(e:cY h 0 [[97,100,100],[115,117,98],[112,97,103,101]]=some 1):h=[115,117,98]:=by
 obtain⟨j,x,q1,q2,q3⟩:=a_ _ _ _ _ e
 obtain rfl:j=1:=by omega
 cases q2
 exact q3
theorem Lm{h:List UInt8}(e:cY h 0 [[97,100,100],[115,117,98],[112,97,103,101]]=some 2):h=[112,97,103,101]:=by
 obtain⟨j,x,q1,q2,q3⟩:=a_ _ _ _ _ e
 obtain rfl:j=2:=by omega
 cases q2
 exact q3
theorem OJ(d:ο)(l r:List ay)(g:List cP){s1:PS}(hw:bL ⟨d,l,g⟩=some (s1,[97,100,100])){t1:PS}{o1 w1 a1 b1:Int}{l1:List T}(h1:bN 118 s1 t1 o1 w1 a1 b1 l1)(e1:aa s1 t1){t2:PS}{o2 w2 a2 b2:Int}{l2:List T}(h2:bN 118 t1 t2 o2 w2 a2 b2 l2)(e2:aa t1 t2)(he:aP t2=true):
 bN 118 ⟨d,.list l::r,g⟩ ⟨d,r,g⟩ 1 0 0 0 [eh o1 w1 a1 b1 l1,eh o2 w2 a2 b2 l2]:=by
 have hE:=c_ he
 have hW:=bH hw
 have e0:aa ⟨d,l,g⟩ s1:=aS hw
 unfold bN at h1
 unfold bN at h2
 obtain⟨d0,r0,g0⟩:=s1
 obtain rfl:d=d0:=e0.1.symm
 obtain rfl:g=g0:=e0.2.symm
 obtain⟨d1,r1,g1⟩:=t1
 obtain rfl:d=d1:=e1.1.symm
 obtain rfl:g=g1:=e1.2.symm
 obtain⟨d2,r2,g2⟩:=t2
 obtain rfl:d=d2:=e2.1.symm
 obtain rfl:g=g2:=e2.2.symm
 unfold bN
 refine bM ?_
 refine γ.ξ ζ η Tryz.func118 rfl rfl ?_
 refine ι (dG d 4 [] 0 (Δ l) (Δ r) (g.map Λ) (.inl rfl)) (by rfl) (by rfl) ?_
 refine ι (Φ d _ _ rfl 41) (by rfl) (by rfl) ?_
 refine ι hW (by rfl) (by rfl) ?_
 refine bh 3 ?_
 refine ι h1 (by rfl) (by rfl) ?_
 refine ι h2 (by rfl) (by rfl) ?_
 refine Or.inl (And.intro rfl (ε rfl ?_))
 refine ι hE (by rfl) (by rfl) ?_
 refine aE (dB 12 [1]) tS (by decide+kernel) ?_
 refine And.intro (fun j hj=>by rw[List.mem_singleton.1 hj];exact χ.set (b:=12) _ (List.mem_singleton.2 rfl)) ?_
 refine And.intro (fun j hj=>by cases hj) ?_
 refine aB.trans (kC 19 (iH (lY (.eU _ _ _ [19] 32 rfl (.refl _) (fun b hb=>hb))))) (ae ?_ ?_)
 ·exact⟨rfl,trivial⟩
 ·exact⟨rfl,rfl,rfl,rfl,rfl,rfl,rfl,rfl,rfl,rfl,rfl,trivial⟩
theorem OH(d:ο)(l r:List ay)(g:List cP){s1:PS}(hw:bL ⟨d,l,g⟩=some (s1,[115,117,98])){t1:PS}{o1 w1 a1 b1:Int}{l1:List T}(h1:bN 118 s1 t1 o1 w1 a1 b1 l1)(e1:aa s1 t1){t2:PS}{o2 w2 a2 b2:Int}{l2:List T}(h2:bN 118 t1 t2 o2 w2 a2 b2 l2)(e2:aa t1 t2)(he:aP t2=true):
 bN 118 ⟨d,.list l::r,g⟩ ⟨d,r,g⟩ 2 0 0 0 [eh o1 w1 a1 b1 l1,eh o2 w2 a2 b2 l2]:=by
 have hE:=c_ he
 have hW:=bH hw
 have e0:aa ⟨d,l,g⟩ s1:=aS hw
 unfold bN at h1
 unfold bN at h2
 obtain⟨d0,r0,g0⟩:=s1
 obtain rfl:d=d0:=e0.1.symm
 obtain rfl:g=g0:=e0.2.symm
 obtain⟨d1,r1,g1⟩:=t1
 obtain rfl:d=d1:=e1.1.symm
 obtain rfl:g=g1:=e1.2.symm
 obtain⟨d2,r2,g2⟩:=t2
 obtain rfl:d=d2:=e2.1.symm
 obtain rfl:g=g2:=e2.2.symm
 unfold bN
 refine bM ?_
 refine γ.ξ ζ η Tryz.func118 rfl rfl ?_
 refine ι (dG d 4 [] 0 (Δ l) (Δ r) (g.map Λ) (.inl rfl)) (by rfl) (by rfl) ?_
 refine ι (Φ d _ _ rfl 41) (by rfl) (by rfl) ?_
 refine ι hW (by rfl) (by rfl) ?_
 refine bh 3 ?_
 refine ι h1 (by rfl) (by rfl) ?_
 refine ι h2 (by rfl) (by rfl) ?_
 refine Or.inl (And.intro rfl (ε rfl ?_))
 refine ι hE (by rfl) (by rfl) ?_
 refine aE (dB 12 [1]) tS (by decide+kernel) ?_
 refine And.intro (fun j hj=>by rw[List.mem_singleton.1 hj];exact χ.set (b:=12) _ (List.mem_singleton.2 rfl)) ?_
 refine And.intro (fun j hj=>by cases hj) ?_
 refine aB.trans (kC 19 (iH (lY (.eU _ _ _ [19] 32 rfl (.refl _) (fun b hb=>hb))))) (ae ?_ ?_)
 ·exact⟨rfl,trivial⟩
 ·exact⟨rfl,rfl,rfl,rfl,rfl,rfl,rfl,rfl,rfl,rfl,rfl,trivial⟩
theorem Md(d:ο)(l r:List ay)(g:List cP){s1:PS}(hw:bL ⟨d,l,g⟩=some (s1,[112,97,103,101])){t1:PS}{o1 w1 a1 b1:Int}{l1:List T}(h1:bN 118 s1 t1 o1 w1 a1 b1 l1)(e1:aa s1 t1)(he:aP t1=true):
 bN 118 ⟨d,.list l::r,g⟩ ⟨d,r,g⟩ 43 0 0 0 [eh o1 w1 a1 b1 l1]:=by
 have hE:=c_ he
 have hW:=bH hw
 have e0:aa ⟨d,l,g⟩ s1:=aS hw
 unfold bN at h1
 obtain⟨d0,r0,g0⟩:=s1
 obtain rfl:d=d0:=e0.1.symm
 obtain rfl:g=g0:=e0.2.symm
 obtain⟨d1,r1,g1⟩:=t1
 obtain rfl:d=d1:=e1.1.symm
 obtain rfl:g=g1:=e1.2.symm
 unfold bN
 refine bM ?_
 refine γ.ξ ζ η Tryz.func118 rfl rfl ?_
 refine ι (dG d 4 [] 0 (Δ l) (Δ r) (g.map Λ) (.inl rfl)) (by rfl) (by rfl) ?_
 refine ι (Φ d _ _ rfl 41) (by rfl) (by rfl) ?_
 refine ι hW (by rfl) (by rfl) ?_
 refine bh 2 ?_
 refine ι h1 (by rfl) (by rfl) ?_
 refine ι hE (by rfl) (by rfl) ?_
 refine aE (dB 12 [1]) tS (by decide+kernel) ?_
 refine And.intro (fun j hj=>by rw[List.mem_singleton.1 hj];exact χ.set (b:=12) _ (List.mem_singleton.2 rfl)) ?_
 refine And.intro (fun j hj=>by cases hj) ?_
 refine aB.trans (kC 19 (iH (lY (.eU _ _ _ [19] 32 rfl (.refl _) (fun b hb=>hb))))) (ae ?_ ?_)
 ·exact⟨rfl,trivial⟩
 ·exact⟨rfl,rfl,rfl,rfl,rfl,rfl,rfl,rfl,rfl,rfl,rfl,trivial⟩
theorem qO:∀f,US f:=by
 intro f
 induction f with
 |zero=>intro s s' op w a b ks h;cases h
 |succ f ih=>
  intro s s' op w a b ks h
  obtain⟨d,rest,g⟩:=s
  unfold mb at h
  split at h
  ·rename_i n r hr
   obtain rfl:rest=_:=hr
   cases h
   refine⟨⟨rfl,rfl⟩,?_⟩
   unfold bN
   refine bM ?_
   refine γ.ξ ζ η Tryz.func118 rfl rfl ?_
   refine ι (dG d 2 [] _ [] (Δ r) (g.map Λ) (.inl rfl)) (by rfl) (by rfl) ?_
   refine aE (dB 12 [3,2,1]) Ki (by decide+kernel) ?_
   refine And.intro (fun j hj=>by simp only[List.mem_cons,List.not_mem_nil,or_false]at hj;rcases hj with rfl|rfl|rfl<;>exact χ.set (b:=12) _ (List.mem_singleton.2 rfl)) ?_
   refine And.intro (fun j hj=>by cases hj) ?_
   refine aB.trans (pt (iH (lY (.sub _ _ (.af 5))))) (ae ?_ ?_)
   ·exact⟨rfl,trivial⟩
   ·exact⟨rfl,rfl,rfl,rfl,rfl,rfl,rfl,rfl,rfl,rfl,rfl,trivial⟩
  ·rename_i w0 r hr
   obtain rfl:rest=_:=hr
   split at h
   rotate_left 1
   ·cases h
   rename_i i hi
   cases h
   refine⟨⟨rfl,rfl⟩,?_⟩
   obtain⟨j,x,q1,q2,_⟩:=a_ _ _ _ _ hi
   have hj:=(List.getElem?_eq_some_iff.1 q2).1
   have ZC:i<7:=by have hj:j<7:=hj;omega
   have hX:=cT OK w0 (by decide)
   rw[show gB w0 OK=(i:Int) by unfold gB;rw[←oG,show OK.map (fun w=>w.map (·.toNat))=[[83],[65],[80],[71],[84],[],[72]]from rfl,hi]]at hX
   unfold bN
   refine bM ?_
   refine γ.ξ ζ η Tryz.func118 rfl rfl ?_
   refine ι (dG d 1 w0 0 [] (Δ r) (g.map Λ) (.inl rfl)) (by rfl) (by rfl) ?_
   refine γ.cx hX rfl ⟨.vec 1 _,.refl _,trivial⟩ rfl ?_
   refine ι (Φ d _ _ Wo 41) (by rfl) (by rfl) ?_
   refine δ (n:=38+(i:Int)) (by rw[IntKind.wrap_i64];omega) ?_
   refine aB.trans (pt (iH (lY (.sub _ _ (.af 5))))) (ae ?_ ?_)
   ·exact⟨rfl,trivial⟩
   ·exact⟨rfl,rfl,rfl,rfl,rfl,rfl,rfl,rfl,rfl,rfl,rfl,trivial⟩
  ·rename_i l r hr
   obtain rfl:rest=_:=hr
   split at h
   ·cases h
   rename_i s1 head hw
   have f1:aa ⟨d,l,g⟩ s1:=aS hw
   split at h
   ·rename_i e
    split at h
    rotate_left 1
    ·cases h
    rename_i s2 ks hk
    cases h
    obtain rfl:=N_ e
    unfold eo at hk
    split at hk
    rotate_left 1
    ·cases hk
    rename_i t1 k1 h1
    obtain⟨o1,w1,a1,b1,l1,q1,rfl⟩:=pu h1
    obtain⟨e1,c1⟩:=ih _ _ _ _ _ _ _ q1
    unfold eo at hk
    split at hk
    rotate_left 1
    ·cases hk
    rename_i t2 k2 h2
    obtain⟨o2,w2,a2,b2,l2,q2,rfl⟩:=pu h2
    obtain⟨e2,c2⟩:=ih _ _ _ _ _ _ _ q2
    unfold eo at hk
    split at hk
    rotate_left 1
    ·cases hk
    rename_i he
    cases hk
    have z:=((f1.trans e1).trans e2)
    refine⟨⟨z.1,z.2⟩,?_⟩
    have z2:=OJ d l r g hw c1 e1 c2 e2 he
    rw[z.1,z.2]
    exact z2
   ·rename_i e
    split at h
    rotate_left 1
    ·cases h
    rename_i s2 ks hk
    cases h
    obtain rfl:=N9 e
    unfold eo at hk
    split at hk
    rotate_left 1
    ·cases hk
    rename_i t1 k1 h1
    obtain⟨o1,w1,a1,b1,l1,q1,rfl⟩:=pu h1
    obtain⟨e1,c1⟩:=ih _ _ _ _ _ _ _ q1
    unfold eo at hk
    split at hk
    rotate_left 1
    ·cases hk
    rename_i t2 k2 h2
    obtain⟨o2,w2,a2,b2,l2,q2,rfl⟩:=pu h2
    obtain⟨e2,c2⟩:=ih _ _ _ _ _ _ _ q2
    unfold eo at hk
    split at hk
    rotate_left 1
    ·cases hk
    rename_i he
    cases hk
    have z:=((f1.trans e1).trans e2)
    refine⟨⟨z.1,z.2⟩,?_⟩
    have z2:=OH d l r g hw c1 e1 c2 e2 he
    rw[z.1,z.2]
    exact z2
   ·rename_i e
    split at h
    rotate_left 1
    ·cases h
    rename_i s2 ks hk
    cases h
    obtain rfl:=Lm e
    unfold eo at hk
    split at hk
    rotate_left 1
    ·cases hk
    rename_i t1 k1 h1
    obtain⟨o1,w1,a1,b1,l1,q1,rfl⟩:=pu h1
    obtain⟨e1,c1⟩:=ih _ _ _ _ _ _ _ q1
    unfold eo at hk
    split at hk
    rotate_left 1
    ·cases hk
    rename_i he
    cases hk
    have z:=(f1.trans e1)
    refine⟨⟨z.1,z.2⟩,?_⟩
    have z2:=Md d l r g hw c1 e1 he
    rw[z.1,z.2]
    exact z2
   ·cases h
  ·cases h
end Go.Proofs.YtcogcbplmkcojaaGreatDoor
namespace Go.Proofs.YtcogcbplmkcojaaGreatDoor
open Go.IntWalk
set_option maxRecDepth 100000
set_option linter.unusedVariables false
set_option linter.unusedSimpArgs false
set_option maxHeartbeats 4000000
def gK(k b:Nat):Nat:=match Nat.beq k b with|true=>2|false=>0
def we(k:Nat)(d:ο):AH:=[.arr 152 4 true (gK k 0) (.ts (d.files.map ec)),
 .arr 139 3 true (gK k 1) (.ts (d.ag.map bz)),
 .arr 9 1 true (gK k 2) (.ts (d.flags.map T.str)),
 .arr 95 7 true (gK k 3) (.ts (d.classes.map aF)),
 .arr 45 5 true (gK k 4) (.ts (d.forms.map ah)),
 .arr 167 17 true (gK k 5) (.ts (d.aw.map eT)),
 .arr 164 4 true (gK k 6) (.ts (d.uses.map gf)),
 .arr 145 3 true (gK k 7) (.ts (d.av.map cX)),
 .arr 173 3 true (gK k 8) (.ts (d.macros.map dv)),
 .arr 147 2 true (gK k 9) (.ts (d.aT.map fK)),
 .arr 139 3 true (gK k 10) (.ts (d.aQ.map bz))]
def RL(k:Nat)(d:ο)(rest args:List T):List AV:=[.t (.str d.name),.t (.int .i64 d.order),.sl 0 (gK k 0) 0 d.files.length,.sl 1 (gK k 1) 0 d.ag.length,.sl 2 (gK k 2) 0 d.flags.length,.sl 3 (gK k 3) 0 d.classes.length,.sl 4 (gK k 4) 0 d.forms.length,.sl 5 (gK k 5) 0 d.aw.length,.sl 6 (gK k 6) 0 d.uses.length,.sl 7 (gK k 7) 0 d.av.length,.sl 8 (gK k 8) 0 d.macros.length,.sl 9 (gK k 9) 0 d.aT.length,.sl 10 (gK k 10) 0 d.aQ.length,.t (.θ 4 rest),.t (.θ 2 args),.t (.int .i64 0)]
def sB(k:Nat)(s:PS):AV:= .agg (RL k s.d (Δ s.rest) (s.args.map Λ))
def dp(f:FuncId)(k:Nat)(s s':PS):Prop:=γ Tryz.prog f [eg s] (dH s.d) (fun v H=>v=sB k s'∧H=we k s'.d)
theorem Rg(k:Nat)(d:ο):(we k d).all (DB 11)=true:=rfl
theorem Ip{f:FuncId}{args:List AV}{H0 H1:AH}{X:AV}{H:AH}{Q:AV→AH→Prop}(h:γ Tryz.prog f args H0 (fun r H'=>r=X∧H'=H1))(hl:H0.length=11)(nv:H1.length=11)(hb:H0.all (DB 11)=true)(e:H.take 11=H0)(ha:args.all (vF 11)=true)(k:Q X (H1++H.drop 11)):γ Tryz.prog f args H Q:=by
 have e2:H=H0++H.drop 11:=by rw[←e,List.take_append_drop]
 have:=γ.frame (H:=H0) h (H.drop 11) (Q:=Q) (by rw[hl];exact ha) (by rw[hl];exact hb) (by
  rintro r H' ⟨rfl,rfl⟩
  exact⟨by rw[nv,hl],k⟩)
 rwa [←e2]at this
theorem fI{f:FuncId}{args:List AV}{k:Nat}{d:ο}{X:AV}{H:AH}{Q:AV→AH→Prop}(h:γ Tryz.prog f args (we k d) (fun r H'=>r=X∧H'=we k d))(e:H.take 11=we k d)(ha:args.all (vF 11)=true)(q:Q X H):γ Tryz.prog f args H Q:=by
 refine Ip h rfl rfl (Rg k d) e ha ?_
 rw[←e,List.take_append_drop]
 exact q
theorem wS{f:FuncId}{s s':PS}{k:Nat}{H:AH}{Q:AV→AH→Prop}(h:dp f k s s')(e:H.take 11=dH s.d)(q:Q (sB k s') (we k s'.d++H.drop 11)):γ Tryz.prog f [eg s] H Q:=
 Ip h rfl rfl (EK _) e rfl q
theorem aW{f:FuncId}{args:List AV}{H H1:AH}{X:AV}(h:γ Tryz.prog f args H (fun r H'=>aB H.length ⟨[(0,r)],H'⟩ ⟨[(0,X)],H1⟩)):γ Tryz.prog f args H (fun r H'=>r=X∧H'=H1):=
 h.gc fun r H' hw=>⟨X,H1,hw,rfl,rfl⟩
theorem b8{α:Type}(f:α→T)(l:List α)(x:α){ty:TypeId}{e g:Nat}:some (Ω.arr ty e true g (.ts (l.map f++[f x])))=some (Ω.arr ty e true g (.ts ((l++[x]).map f))):=by rw[List.map_append];rfl
theorem cL{n k:Nat}(hn:n≤100000)(hk:Nat.ble k 1000=true):cI n k=true:=by
 have hk:=Nat.le_of_ble_eq_true hk
 have:n*k≤100000*1000:=Nat.mul_le_mul hn hk
 simp[cI];omega
theorem both(f:Nat→List T→Option AV){n n':Nat}{l l':List T}(h:n=n')(k:l=l'):f n l=f n' l':=by rw[h,k]
theorem bW{α:Type}(l:List α)(x:α):l.length+1=(l++[x]).length:=by simp
theorem kR(k:Nat)(hk:k<11)(d:ο)(r a:List T){b:Bool}(hb:b=false)(e:Int):γ Tryz.prog 50 [.agg (RL k d r a),.t (.bool b),.t (.int .i64 e)] (we k d) (fun v H=>v= .agg (RL k d r a)∧H=we k d):=by
 subst hb
 match k with
 |0=>
  refine aW ?_
  refine γ.ξ ζ η Tryz.func50 rfl rfl ?_
  refine ae ?_ ?_
  ·exact⟨rfl,trivial⟩
  ·exact⟨rfl,rfl,rfl,rfl,rfl,rfl,rfl,rfl,rfl,rfl,rfl,trivial⟩
 |1=>
  refine aW ?_
  refine γ.ξ ζ η Tryz.func50 rfl rfl ?_
  refine ae ?_ ?_
  ·exact⟨rfl,trivial⟩
  ·exact⟨rfl,rfl,rfl,rfl,rfl,rfl,rfl,rfl,rfl,rfl,rfl,trivial⟩
 |2=>
  refine aW ?_
  refine γ.ξ ζ η Tryz.func50 rfl rfl ?_
  refine ae ?_ ?_
  ·exact⟨rfl,trivial⟩
  ·exact⟨rfl,rfl,rfl,rfl,rfl,rfl,rfl,rfl,rfl,rfl,rfl,trivial⟩
 |3=>
  refine aW ?_
  refine γ.ξ ζ η Tryz.func50 rfl rfl ?_
  refine ae ?_ ?_
  ·exact⟨rfl,trivial⟩
  ·exact⟨rfl,rfl,rfl,rfl,rfl,rfl,rfl,rfl,rfl,rfl,rfl,trivial⟩
 |4=>
  refine aW ?_
  refine γ.ξ ζ η Tryz.func50 rfl rfl ?_
  refine ae ?_ ?_
  ·exact⟨rfl,trivial⟩
  ·exact⟨rfl,rfl,rfl,rfl,rfl,rfl,rfl,rfl,rfl,rfl,rfl,trivial⟩
 |5=>
  refine aW ?_
  refine γ.ξ ζ η Tryz.func50 rfl rfl ?_
  refine ae ?_ ?_
  ·exact⟨rfl,trivial⟩
  ·exact⟨rfl,rfl,rfl,rfl,rfl,rfl,rfl,rfl,rfl,rfl,rfl,trivial⟩
 |6=>
  refine aW ?_
  refine γ.ξ ζ η Tryz.func50 rfl rfl ?_
  refine ae ?_ ?_
  ·exact⟨rfl,trivial⟩
  ·exact⟨rfl,rfl,rfl,rfl,rfl,rfl,rfl,rfl,rfl,rfl,rfl,trivial⟩
 |7=>
  refine aW ?_
  refine γ.ξ ζ η Tryz.func50 rfl rfl ?_
  refine ae ?_ ?_
  ·exact⟨rfl,trivial⟩
  ·exact⟨rfl,rfl,rfl,rfl,rfl,rfl,rfl,rfl,rfl,rfl,rfl,trivial⟩
 |8=>
  refine aW ?_
  refine γ.ξ ζ η Tryz.func50 rfl rfl ?_
  refine ae ?_ ?_
  ·exact⟨rfl,trivial⟩
  ·exact⟨rfl,rfl,rfl,rfl,rfl,rfl,rfl,rfl,rfl,rfl,rfl,trivial⟩
 |9=>
  refine aW ?_
  refine γ.ξ ζ η Tryz.func50 rfl rfl ?_
  refine ae ?_ ?_
  ·exact⟨rfl,trivial⟩
  ·exact⟨rfl,rfl,rfl,rfl,rfl,rfl,rfl,rfl,rfl,rfl,rfl,trivial⟩
 |10=>
  refine aW ?_
  refine γ.ξ ζ η Tryz.func50 rfl rfl ?_
  refine ae ?_ ?_
  ·exact⟨rfl,trivial⟩
  ·exact⟨rfl,rfl,rfl,rfl,rfl,rfl,rfl,rfl,rfl,rfl,rfl,trivial⟩
 |k+11=>omega
theorem nI(k:Nat)(hk:k<11){s:PS}(h:aP s=true):γ Tryz.prog 61 [sB k s] (we k s.d) (fun v H=>v=sB k s∧H=we k s.d):=by
 have hr:=EA h
 obtain⟨d,rest,a⟩:=s
 obtain rfl:rest=_:=hr
 match k with
 |0=>
  refine aW ?_
  refine γ.ξ ζ η Tryz.func61 rfl rfl ?_
  refine fI (k:=0) (kR 0 (by decide) d _ _ ?hb 41) (by rfl) (by rfl) ?_
  case hb=>simp[Δ]
  refine ae ?_ ?_
  ·exact⟨rfl,trivial⟩
  ·exact⟨rfl,rfl,rfl,rfl,rfl,rfl,rfl,rfl,rfl,rfl,rfl,trivial⟩
 |1=>
  refine aW ?_
  refine γ.ξ ζ η Tryz.func61 rfl rfl ?_
  refine fI (k:=1) (kR 1 (by decide) d _ _ ?hb 41) (by rfl) (by rfl) ?_
  case hb=>simp[Δ]
  refine ae ?_ ?_
  ·exact⟨rfl,trivial⟩
  ·exact⟨rfl,rfl,rfl,rfl,rfl,rfl,rfl,rfl,rfl,rfl,rfl,trivial⟩
 |2=>
  refine aW ?_
  refine γ.ξ ζ η Tryz.func61 rfl rfl ?_
  refine fI (k:=2) (kR 2 (by decide) d _ _ ?hb 41) (by rfl) (by rfl) ?_
  case hb=>simp[Δ]
  refine ae ?_ ?_
  ·exact⟨rfl,trivial⟩
  ·exact⟨rfl,rfl,rfl,rfl,rfl,rfl,rfl,rfl,rfl,rfl,rfl,trivial⟩
 |3=>
  refine aW ?_
  refine γ.ξ ζ η Tryz.func61 rfl rfl ?_
  refine fI (k:=3) (kR 3 (by decide) d _ _ ?hb 41) (by rfl) (by rfl) ?_
  case hb=>simp[Δ]
  refine ae ?_ ?_
  ·exact⟨rfl,trivial⟩
  ·exact⟨rfl,rfl,rfl,rfl,rfl,rfl,rfl,rfl,rfl,rfl,rfl,trivial⟩
 |4=>
  refine aW ?_
  refine γ.ξ ζ η Tryz.func61 rfl rfl ?_
  refine fI (k:=4) (kR 4 (by decide) d _ _ ?hb 41) (by rfl) (by rfl) ?_
  case hb=>simp[Δ]
  refine ae ?_ ?_
  ·exact⟨rfl,trivial⟩
  ·exact⟨rfl,rfl,rfl,rfl,rfl,rfl,rfl,rfl,rfl,rfl,rfl,trivial⟩
 |5=>
  refine aW ?_
  refine γ.ξ ζ η Tryz.func61 rfl rfl ?_
  refine fI (k:=5) (kR 5 (by decide) d _ _ ?hb 41) (by rfl) (by rfl) ?_
  case hb=>simp[Δ]
  refine ae ?_ ?_
  ·exact⟨rfl,trivial⟩
  ·exact⟨rfl,rfl,rfl,rfl,rfl,rfl,rfl,rfl,rfl,rfl,rfl,trivial⟩
 |6=>
  refine aW ?_
  refine γ.ξ ζ η Tryz.func61 rfl rfl ?_
  refine fI (k:=6) (kR 6 (by decide) d _ _ ?hb 41) (by rfl) (by rfl) ?_
  case hb=>simp[Δ]
  refine ae ?_ ?_
  ·exact⟨rfl,trivial⟩
  ·exact⟨rfl,rfl,rfl,rfl,rfl,rfl,rfl,rfl,rfl,rfl,rfl,trivial⟩
 |7=>
  refine aW ?_
  refine γ.ξ ζ η Tryz.func61 rfl rfl ?_
  refine fI (k:=7) (kR 7 (by decide) d _ _ ?hb 41) (by rfl) (by rfl) ?_
  case hb=>simp[Δ]
  refine ae ?_ ?_
  ·exact⟨rfl,trivial⟩
  ·exact⟨rfl,rfl,rfl,rfl,rfl,rfl,rfl,rfl,rfl,rfl,rfl,trivial⟩
 |8=>
  refine aW ?_
  refine γ.ξ ζ η Tryz.func61 rfl rfl ?_
  refine fI (k:=8) (kR 8 (by decide) d _ _ ?hb 41) (by rfl) (by rfl) ?_
  case hb=>simp[Δ]
  refine ae ?_ ?_
  ·exact⟨rfl,trivial⟩
  ·exact⟨rfl,rfl,rfl,rfl,rfl,rfl,rfl,rfl,rfl,rfl,rfl,trivial⟩
 |9=>
  refine aW ?_
  refine γ.ξ ζ η Tryz.func61 rfl rfl ?_
  refine fI (k:=9) (kR 9 (by decide) d _ _ ?hb 41) (by rfl) (by rfl) ?_
  case hb=>simp[Δ]
  refine ae ?_ ?_
  ·exact⟨rfl,trivial⟩
  ·exact⟨rfl,rfl,rfl,rfl,rfl,rfl,rfl,rfl,rfl,rfl,rfl,trivial⟩
 |10=>
  refine aW ?_
  refine γ.ξ ζ η Tryz.func61 rfl rfl ?_
  refine fI (k:=10) (kR 10 (by decide) d _ _ ?hb 41) (by rfl) (by rfl) ?_
  case hb=>simp[Δ]
  refine ae ?_ ?_
  ·exact⟨rfl,trivial⟩
  ·exact⟨rfl,rfl,rfl,rfl,rfl,rfl,rfl,rfl,rfl,rfl,rfl,trivial⟩
 |k+11=>omega
theorem cn{s s':PS}{k i:Nat}(h:bY s k=some (s',i)):aa s s':=by
 obtain⟨w,hw,_⟩:=pc h
 exact aS hw
theorem gO{s:PS}{w:List Nat}(h:ej s w=true):∃t r,s.rest=t::r:=by
 unfold ej at h
 split at h
 ·exact⟨_,_,by assumption⟩
 ·cases h
theorem RD{s s':PS}(hs:cV s)(h:xF s=some s'):dp 59 6 s s':=by
 unfold xF at h
 split at h
 ·cases h
 rename_i ω
 rw[Nat.blt_eq]at ω
 split at h
 ·cases h
 rename_i s1 m hm
 split at h
 ·cases h
 rename_i s2 c hc
 split at h
 ·cases h
 rename_i s3 r hr
 have f1:aa s s1:=aS hm
 have f2:aa s s2:=f1.trans (cn hc)
 have f3:aa s s3:=f2.trans (cn hr)
 have h1:=bH hm
 have h2:=er (hs.same f1) (by decide) hc
 have h3:=er (hs.same f2) (by decide) hr
 have hP:=lm s3 [101,110,100] _ rfl
 obtain⟨d,r0,g⟩:=s
 obtain⟨d1,r1,g1⟩:=s1
 obtain rfl:d=d1:=f1.1.symm
 obtain rfl:g=g1:=f1.2.symm
 obtain⟨d2,r2,g2⟩:=s2
 obtain rfl:d=d2:=f2.1.symm
 obtain rfl:g=g2:=f2.2.symm
 obtain⟨d3,r3,g3⟩:=s3
 obtain rfl:d=d3:=f3.1.symm
 obtain rfl:g=g3:=f3.2.symm
 have ω:d.uses.length<128:=ω
 have bx:d.uses.length+1≤100000:=by omega
 have qi:decide (((d.uses.length:Nat):Int)≥128)=false:=decide_eq_false (by omega)
 unfold dp
 simp only at h
 split at h
 ·rename_i hp
  have hp:ej ⟨d,r3,g⟩ [101,110,100]=true:=hp
  rw[show List.map (fun x=>UInt8.toNat x) [101,110,100]=[101,110,100]from rfl,hp]at hP
  obtain⟨t0,r4,e4⟩:=gO hp
  obtain rfl:r3=_:=e4
  cases h
  cases uP:ky m [110,111,110,101]with
  |true=>
   have sj:=lu _ _ uP
   subst sj
   refine aW ?_
   refine γ.ξ ζ η Tryz.func59 rfl rfl ?_
   refine ι (Φ d _ _ qi 43) (by rfl) (by rfl) ?_
   refine ι h1 (by rfl) (by rfl) ?_
   refine ι h2 (by rfl) (by rfl) ?_
   refine ι h3 (by rfl) (by rfl) ?_
   refine ι hP (by rfl) (by rfl) ?_
   refine ε (fO _ _) ?_
   refine Or.inl (And.intro (List.length_map _).symm (ε (cL bx rfl) ?_))
   refine ae ?_ ?_
   ·exact⟨both (fun(n:Nat) (l:List T)=>some (AV.agg [.t (.str d.name),.t (.int .i64 d.order),.sl 0 0 0 d.files.length,.sl 1 0 0 d.ag.length,.sl 2 0 0 d.flags.length,.sl 3 0 0 d.classes.length,.sl 4 0 0 d.forms.length,.sl 5 0 0 d.aw.length,.sl 6 2 0 n,.sl 7 0 0 d.av.length,.sl 8 0 0 d.macros.length,.sl 9 0 0 d.aT.length,.sl 10 0 0 d.aQ.length,.t (.θ 4 l),.t (.θ 2 (g.map Λ)),.t (.int .i64 0)])) (bW d.uses ⟨[],(c:Int),(r:Int),true⟩) (j7 (lX t0) (Δ r4)),trivial⟩
   ·exact⟨rfl,rfl,rfl,rfl,rfl,rfl,b8 gf d.uses ⟨[],(c:Int),(r:Int),true⟩,rfl,rfl,rfl,rfl,trivial⟩
  |false=>
   refine aW ?_
   refine γ.ξ ζ η Tryz.func59 rfl rfl ?_
   refine ι (Φ d _ _ qi 43) (by rfl) (by rfl) ?_
   refine ι h1 (by rfl) (by rfl) ?_
   refine U (fun c=>absurd c (by have:=zn [110,111,110,101] m;rw[show List.map (fun x=>UInt8.toNat x) [110,111,110,101]=[110,111,110,101]from rfl,uP]at this;rw[←this];decide)) (fun _=> ?_)
   refine ι h2 (by rfl) (by rfl) ?_
   refine ι h3 (by rfl) (by rfl) ?_
   refine ι hP (by rfl) (by rfl) ?_
   refine ε (fO _ _) ?_
   refine Or.inl (And.intro (List.length_map _).symm (ε (cL bx rfl) ?_))
   refine ae ?_ ?_
   ·exact⟨both (fun(n:Nat) (l:List T)=>some (AV.agg [.t (.str d.name),.t (.int .i64 d.order),.sl 0 0 0 d.files.length,.sl 1 0 0 d.ag.length,.sl 2 0 0 d.flags.length,.sl 3 0 0 d.classes.length,.sl 4 0 0 d.forms.length,.sl 5 0 0 d.aw.length,.sl 6 2 0 n,.sl 7 0 0 d.av.length,.sl 8 0 0 d.macros.length,.sl 9 0 0 d.aT.length,.sl 10 0 0 d.aQ.length,.t (.θ 4 l),.t (.θ 2 (g.map Λ)),.t (.int .i64 0)])) (bW d.uses ⟨m,(c:Int),(r:Int),true⟩) (j7 (lX t0) (Δ r4)),trivial⟩
   ·exact⟨rfl,rfl,rfl,rfl,rfl,rfl,b8 gf d.uses ⟨m,(c:Int),(r:Int),true⟩,rfl,rfl,rfl,rfl,trivial⟩
 ·rename_i hp
  have hp:ej ⟨d,r3,g⟩ [101,110,100]=false:=hp
  rw[show List.map (fun x=>UInt8.toNat x) [101,110,100]=[101,110,100]from rfl,hp]at hP
  cases h
  cases uP:ky m [110,111,110,101]with
  |true=>
   have sj:=lu _ _ uP
   subst sj
   refine aW ?_
   refine γ.ξ ζ η Tryz.func59 rfl rfl ?_
   refine ι (Φ d _ _ qi 43) (by rfl) (by rfl) ?_
   refine ι h1 (by rfl) (by rfl) ?_
   refine ι h2 (by rfl) (by rfl) ?_
   refine ι h3 (by rfl) (by rfl) ?_
   refine ι hP (by rfl) (by rfl) ?_
   refine Or.inl (And.intro (List.length_map _).symm (ε (cL bx rfl) ?_))
   refine ae ?_ ?_
   ·exact⟨congrArg (fun n:Nat=>some (AV.agg [.t (.str d.name),.t (.int .i64 d.order),.sl 0 0 0 d.files.length,.sl 1 0 0 d.ag.length,.sl 2 0 0 d.flags.length,.sl 3 0 0 d.classes.length,.sl 4 0 0 d.forms.length,.sl 5 0 0 d.aw.length,.sl 6 2 0 n,.sl 7 0 0 d.av.length,.sl 8 0 0 d.macros.length,.sl 9 0 0 d.aT.length,.sl 10 0 0 d.aQ.length,.t (.θ 4 (Δ r3)),.t (.θ 2 (g.map Λ)),.t (.int .i64 0)])) (bW d.uses ⟨[],(c:Int),(r:Int),false⟩),trivial⟩
   ·exact⟨rfl,rfl,rfl,rfl,rfl,rfl,b8 gf d.uses ⟨[],(c:Int),(r:Int),false⟩,rfl,rfl,rfl,rfl,trivial⟩
  |false=>
   refine aW ?_
   refine γ.ξ ζ η Tryz.func59 rfl rfl ?_
   refine ι (Φ d _ _ qi 43) (by rfl) (by rfl) ?_
   refine ι h1 (by rfl) (by rfl) ?_
   refine U (fun c=>absurd c (by have:=zn [110,111,110,101] m;rw[show List.map (fun x=>UInt8.toNat x) [110,111,110,101]=[110,111,110,101]from rfl,uP]at this;rw[←this];decide)) (fun _=> ?_)
   refine ι h2 (by rfl) (by rfl) ?_
   refine ι h3 (by rfl) (by rfl) ?_
   refine ι hP (by rfl) (by rfl) ?_
   refine Or.inl (And.intro (List.length_map _).symm (ε (cL bx rfl) ?_))
   refine ae ?_ ?_
   ·exact⟨congrArg (fun n:Nat=>some (AV.agg [.t (.str d.name),.t (.int .i64 d.order),.sl 0 0 0 d.files.length,.sl 1 0 0 d.ag.length,.sl 2 0 0 d.flags.length,.sl 3 0 0 d.classes.length,.sl 4 0 0 d.forms.length,.sl 5 0 0 d.aw.length,.sl 6 2 0 n,.sl 7 0 0 d.av.length,.sl 8 0 0 d.macros.length,.sl 9 0 0 d.aT.length,.sl 10 0 0 d.aQ.length,.t (.θ 4 (Δ r3)),.t (.θ 2 (g.map Λ)),.t (.int .i64 0)])) (bW d.uses ⟨m,(c:Int),(r:Int),false⟩),trivial⟩
   ·exact⟨rfl,rfl,rfl,rfl,rfl,rfl,b8 gf d.uses ⟨m,(c:Int),(r:Int),false⟩,rfl,rfl,rfl,rfl,trivial⟩
end Go.Proofs.YtcogcbplmkcojaaGreatDoor
namespace Go.Proofs.YtcogcbplmkcojaaGreatDoor
open Go.IntWalk
set_option maxRecDepth 100000
set_option linter.unusedVariables false
set_option linter.unusedSimpArgs false
set_option maxHeartbeats 4000000
def Bh:Ord:=(.op 0 [] (.op 2 [0] (.op 1 [2,0] (.op 3 [0] (.op 4 [0] (.op 5 [0] (.op 7 [0] (.op 6 [7,0] (.op 8 [0] (.op 9 [0] (.op 10 [0] (.op 11 [] (.op 12 [] .nil)))))))))))))
theorem cO{s s':PS}{n:Int}(h:cK s=some (s',n)):aa s s':=by
 obtain⟨r,_,rfl,_⟩:=sc h
 exact⟨rfl,rfl⟩
theorem KS{s s':PS}{n:Int}(h:mC s=some (s',n)):aa s s':=by
 obtain⟨r,_,rfl⟩:=jD h
 exact⟨rfl,rfl⟩
theorem z9{s s':PS}{w:List UInt8}(h:rT s=some (s',w)):aa s s':=by
 obtain⟨r,_,rfl⟩:=m6 h
 exact⟨rfl,rfl⟩
theorem bU{s s':PS}{k:Nat}{w:List UInt8}(h:dJ s k=some (s',w)):aa s s':=aS (dg h).1
theorem γ.LP{P:Program}{f:FuncId}{args args':List AV}{H:AH}{Q:AV→AH→Prop}(e:args=args')(h:γ P f args' H Q):γ P f args H Q:=e▸h
theorem Bv{w:List UInt8}{L:List (List UInt8)}{M:List (List Nat)}(hM:L.map (fun v=>v.map (·.toNat))=M)(h:cY w 0 M=none):gB w L= -1:=by
 unfold gB;rw[←oG,hM,h]
theorem wR{f:FuncId}{d:ο}{x:T}{r a:List T}{more:List AV}{X:AV}{H:AH}{Q:AV→AH→Prop}(h:γ Tryz.prog f (.agg (eG d r a)::more) (dH d) (fun r H'=>r=X∧H'=dH d))(e:H.take 11=dH d)(ha:more.all (vF 11)=true)(k:Q X H):γ Tryz.prog f (.agg (eG d (((x::r).drop 1).take ((x::r).length - 1)) a)::more) H Q:=by
 rw[j7]
 refine ι h e ?_ k
 rw[List.all_cons,ha];rfl
theorem Q6{s s':PS}(hs:cV s)(h:uv s=some s'):dp 51 0 s s':=by
 unfold uv at h
 split at h
 ·cases h
 rename_i s0 name hn
 split at h
 ·cases h
 rename_i ho
 split at h
 ·cases h
 rename_i hh
 split at h
 ·cases h
 rename_i s1 nm hf
 split at h
 ·cases h
 rename_i s2 count hc
 split at h
 ·cases h
 rename_i s3 width hw
 have f0:aa s s0:=aS hn
 have f1:aa s s1:=bU hf
 have f2:aa s s2:=f1.trans (cO hc)
 have f3:aa s s3:=f2.trans (cO hw)
 have h0:=bH hn
 have h1:=fT hs (by decide) hf
 have h2:=di hc
 have h3:=di hw
 have hP:=lm s3 [122,101,114,111] _ rfl
 have ω:s.d.files.length+1≤100000:=by
  have:=(dg hf).2.2
  have:s1.d.files.length<8:=by simpa[bO,en]using this
  rw[f1.1]at this
  omega
 have hX:=cT vu name (by decide)
 rw[Bv Dh ho]at hX
 have hY:=cT tm name (by decide)
 rw[Bv Eb hh]at hY
 obtain⟨d,r0,g⟩:=s
 obtain⟨d0,rz,g0⟩:=s0
 obtain rfl:d=d0:=f0.1.symm
 obtain rfl:g=g0:=f0.2.symm
 obtain⟨d1,r1,g1⟩:=s1
 obtain rfl:d=d1:=f1.1.symm
 obtain rfl:g=g1:=f1.2.symm
 obtain⟨d2,r2,g2⟩:=s2
 obtain rfl:d=d2:=f2.1.symm
 obtain rfl:g=g2:=f2.2.symm
 obtain⟨d3,r3,g3⟩:=s3
 obtain rfl:d=d3:=f3.1.symm
 obtain rfl:g=g3:=f3.2.symm
 have ω:d.files.length+1≤100000:=ω
 unfold dp
 split at h
 ·rename_i hp
  have hp:ej ⟨d,r3,g⟩ [122,101,114,111]=true:=hp
  rw[show List.map (fun x=>UInt8.toNat x) [122,101,114,111]=[122,101,114,111]from rfl,hp]at hP
  obtain⟨t0,r4,e4⟩:=gO hp
  obtain rfl:r3=_:=e4
  split at h
  rotate_left 1
  ·cases h
  rename_i s5 z hz
  cases h
  have hz:cK ⟨d,r4,g⟩=some (s5,z):=hz
  have h5:=di hz
  have f5:aa ⟨d,r4,g⟩ s5:=cO hz
  obtain⟨d5,r5,g5⟩:=s5
  obtain rfl:d=d5:=f5.1.symm
  obtain rfl:g=g5:=f5.2.symm
  refine aW ?_
  refine γ.ξ ζ η Tryz.func51 rfl rfl ?_
  refine ι h0 (by rfl) (by rfl) ?_
  refine υ Bh (by decide+kernel) ?_
  refine γ.pure tW rfl ?_
  refine And.intro (fun j hj=>χ.append _ _ _) ?_
  refine γ.cx hX rfl ⟨jK 1 _,.refl _,trivial⟩ rfl ?_
  refine And.intro (fun j hj=>χ.refl _ _) ?_
  refine γ.pure ul rfl ?_
  refine And.intro (fun j hj=>χ.append _ _ _) ?_
  refine γ.cx hY rfl ⟨jK 1 _,.refl _,trivial⟩ rfl ?_
  refine And.intro (fun j hj=>χ.refl _ _) ?_
  refine ι (Φ d _ _ rfl 42) (by rfl) (by rfl) ?_
  refine And.intro (fun j hj=>by cases hj) ?_
  refine And.intro (fun j hj=>by cases hj) ?_
  refine ι h1 (by rfl) (by rfl) ?_
  refine ι h2 (by rfl) (by rfl) ?_
  refine ι h3 (by rfl) (by rfl) ?_
  refine ι hP (by rfl) (by rfl) ?_
  refine ε (fO _ _) ?_
  refine wR h5 (by rfl) rfl ?_
  refine Or.inl (And.intro (List.length_map _).symm (ε (cL ω rfl) ?_))
  refine ae ?_ ?_
  ·exact⟨congrArg (fun n:Nat=>some (AV.agg [.t (.str d.name),.t (.int .i64 d.order),.sl 0 2 0 n,.sl 1 0 0 d.ag.length,.sl 2 0 0 d.flags.length,.sl 3 0 0 d.classes.length,.sl 4 0 0 d.forms.length,.sl 5 0 0 d.aw.length,.sl 6 0 0 d.uses.length,.sl 7 0 0 d.av.length,.sl 8 0 0 d.macros.length,.sl 9 0 0 d.aT.length,.sl 10 0 0 d.aQ.length,.t (.θ 4 (Δ r5)),.t (.θ 2 (g.map Λ)),.t (.int .i64 0)])) (bW d.files ⟨nm,count,width,z⟩),trivial⟩
  ·exact⟨b8 ec d.files ⟨nm,count,width,z⟩,rfl,rfl,rfl,rfl,rfl,rfl,rfl,rfl,rfl,rfl,trivial⟩
 ·rename_i hp
  have hp:ej ⟨d,r3,g⟩ [122,101,114,111]=false:=hp
  rw[show List.map (fun x=>UInt8.toNat x) [122,101,114,111]=[122,101,114,111]from rfl,hp]at hP
  cases h
  refine aW ?_
  refine γ.ξ ζ η Tryz.func51 rfl rfl ?_
  refine ι h0 (by rfl) (by rfl) ?_
  refine υ Bh (by decide+kernel) ?_
  refine γ.pure tW rfl ?_
  refine And.intro (fun j hj=>χ.append _ _ _) ?_
  refine γ.cx hX rfl ⟨jK 1 _,.refl _,trivial⟩ rfl ?_
  refine And.intro (fun j hj=>χ.refl _ _) ?_
  refine γ.pure ul rfl ?_
  refine And.intro (fun j hj=>χ.append _ _ _) ?_
  refine γ.cx hY rfl ⟨jK 1 _,.refl _,trivial⟩ rfl ?_
  refine And.intro (fun j hj=>χ.refl _ _) ?_
  refine ι (Φ d _ _ rfl 42) (by rfl) (by rfl) ?_
  refine And.intro (fun j hj=>by cases hj) ?_
  refine And.intro (fun j hj=>by cases hj) ?_
  refine ι h1 (by rfl) (by rfl) ?_
  refine ι h2 (by rfl) (by rfl) ?_
  refine ι h3 (by rfl) (by rfl) ?_
  refine ι hP (by rfl) (by rfl) ?_
  refine Or.inl (And.intro (List.length_map _).symm (ε (cL ω rfl) ?_))
  refine ae ?_ ?_
  ·exact⟨congrArg (fun n:Nat=>some (AV.agg [.t (.str d.name),.t (.int .i64 d.order),.sl 0 2 0 n,.sl 1 0 0 d.ag.length,.sl 2 0 0 d.flags.length,.sl 3 0 0 d.classes.length,.sl 4 0 0 d.forms.length,.sl 5 0 0 d.aw.length,.sl 6 0 0 d.uses.length,.sl 7 0 0 d.av.length,.sl 8 0 0 d.macros.length,.sl 9 0 0 d.aT.length,.sl 10 0 0 d.aQ.length,.t (.θ 4 (Δ r3)),.t (.θ 2 (g.map Λ)),.t (.int .i64 0)])) (bW d.files ⟨nm,count,width, -1⟩),trivial⟩
  ·exact⟨b8 ec d.files ⟨nm,count,width, -1⟩,rfl,rfl,rfl,rfl,rfl,rfl,rfl,rfl,rfl,rfl,trivial⟩
end Go.Proofs.YtcogcbplmkcojaaGreatDoor
namespace Go.Proofs.YtcogcbplmkcojaaGreatDoor
open Go.IntWalk
set_option maxRecDepth 100000
set_option linter.unusedVariables false
set_option linter.unusedSimpArgs false
set_option maxHeartbeats 4000000
theorem jJ{k0:Nat}{env:List (Nat×AV)}{H:AH}(b i:Nat){cs:List AV}(e s:Nat)(hb:H[b]?=some (.box cs))(hi:cs[i]?=some (.t .af)):aB k0 ⟨env,H⟩ ⟨env,H.set b (.box (cs.set i (.sl H.length 0 0 0)))++[.arr e s true 0 (.ts [])]⟩:=by
 refine aB.trans (om (.arr e s true 0 (.ts []))) ?_
 have ω:b<H.length:=(List.getElem?_eq_some_iff.1 hb).1
 refine ja [] (by simp) (fun b' aA aD=> .inr ⟨by simp,?_⟩) (fun t=> .inr (.same _))
 replace aD:(H.set b (.box (cs.set i (.sl H.length 0 0 0)))++[Ω.arr e s true 0 (.ts [])])[b']?=some aA:=aD
 show∃π,(H++[Ω.arr e s true 0 (.ts [])])[b']?=some π∧_
 by_cases h1:b'<H.length
 ·rw[List.getElem?_append_left (by simpa using h1),List.getElem?_set]at aD
  rw[List.getElem?_append_left h1]
  split at aD
  ·rename_i e1
   subst e1
   obtain rfl:=Option.some.inj aD
   refine⟨_,hb,.box _ _ (by simp) fun j x x' hx aC=> ?_⟩
   rw[List.getElem?_set]at aC
   split at aC
   ·rename_i e2
    subst e2
    split at aC
    ·obtain rfl:=Option.some.inj aC
     rw[hi]at hx
     obtain rfl:=Option.some.inj hx
     refine .nil _ e s ?_
     rw[List.getElem?_append_right (by simp)]
     simp
    ·cases aC
   ·rw[hx]at aC
    obtain rfl:=Option.some.inj aC
    exact .same _
  ·exact⟨aA,aD,.same _⟩
 ·rw[List.getElem?_append_right (by simp;omega)]at aD
  rw[List.getElem?_append_right (by omega)]
  simp only[List.length_set]at aD
  exact⟨aA,aD,.same _⟩
def iz(b:Nat)(new:Ω)(ids:List Nat):Nat→AH→AH
 |_,[]=>[]
 |i,x::r=>(match Nat.beq i b with|true=>new|false=>match ids.any (Nat.beq i)with|true=> .dead|false=>x)::iz b new ids (i+1) r
theorem pL(b:Nat)(new:Ω)(ids:List Nat):∀(H:AH) (i j:Nat),(iz b new ids i H)[j]?=H[j]?.map fun x=>match Nat.beq (i+j) b with|true=>new|false=>match ids.any (Nat.beq (i+j))with|true=> .dead|false=>x
 |[],i,j=>by simp[iz]
 |x::r,i,0=>by simp[iz]
 |x::r,i,j+1=>by
  rw[iz,List.getElem?_cons_succ,List.getElem?_cons_succ,pL b new ids r (i+1) j,show i+1+j=i+(j+1) by omega]
theorem pK(b:Nat)(new:Ω)(ids:List Nat):∀(H:AH) (i:Nat),(iz b new ids i H).length=H.length
 |[],i=>rfl
 |x::r,i=>by simp[iz,pK b new ids r]
theorem iL{k0:Nat}{env:List (Nat×AV)}{H:AH}(b:Nat)(ids:List Nat){e s:Nat}{z:Bool}{g:Nat}{A:List T}{cs:List AV}(ts:List T)(hb:H[b]?=some (.arr e s z g (.vs (A.map .t++[.agg cs]))))(S4:ids.any (Nat.beq b)=false)(hl:ts.length=cs.length)
 (h:∀(j:Nat) y t,cs[j]?=some y→ts[j]?=some t→eM ids H (iz b (.arr e s z g (.ts (A++[.agg ts]))) ids 0 H) y (.t t)):aB k0 ⟨env,H⟩ ⟨env,iz b (.arr e s z g (.ts (A++[.agg ts]))) ids 0 H⟩:=by
 have N4:b∉ids:=fun hm=>by
  have:=List.any_eq_false.1 S4 b hm
  simp at this
 refine ja ids (pK _ _ _ _ _) (fun b' aA aD=> ?_) (fun t=> .inr (.same _))
 have aD:(iz b (.arr e s z g (.ts (A++[.agg ts]))) ids 0 H)[b']?=some aA:=aD
 rw[pL,Nat.zero_add,Option.map_eq_some_iff]at aD
 obtain⟨x,hx,aC⟩:=aD
 split at aC
 ·rename_i e1
  obtain rfl:=Nat.eq_of_beq_eq_true e1
  subst aC
  exact .inr ⟨N4,_,hb,Ok e s z g A cs ts hl h⟩
 ·split at aC
  ·exact .inl aC.symm
  ·rename_i e2
   subst aC
   refine .inr ⟨fun hm=> ?_,x,hx,.same _⟩
   have:=List.any_eq_false.1 e2 b' hm
   simp at this
def rL(d:ο)(l:AH):AH:=dH d++l
def i_:T→List T| .agg l=>l|_=>[]
theorem NG{s s':PS}(hs:cV s)(h:ri s=some s'):dp 57 8 s s':=by
 unfold ri at h
 split at h
 ·cases h
 rename_i ω
 rw[Nat.blt_eq]at ω
 split at h
 ·cases h
 rename_i s1 eE DR
 obtain⟨q1,e1,rfl⟩:=m6 DR
 obtain⟨d,r0,g⟩:=s
 obtain rfl:r0=_:=e1
 have ω:d.macros.length<32:=ω
 have SP:d.macros.length+1≤100000:=by omega
 have qi:decide (((d.macros.length:Nat):Int)≥32)=false:=decide_eq_false (by omega)
 have dC:cV ⟨d,q1,g⟩:=hs.same ⟨rfl,rfl⟩
 have hP:=lm ⟨d,q1,g⟩ [110,111,110,101] _ rfl
 simp only at h
 unfold dp
 split at h
 ·cases h
 rename_i s2 rel oI
 split at oI
 ·rename_i hp
  cases oI
  rw[show List.map (fun x=>UInt8.toNat x) [110,111,110,101]=[110,111,110,101]from rfl,hp]at hP
  obtain⟨t0,q2,e2⟩:=gO hp
  obtain rfl:q1=_:=e2
  split at h
  ·cases h
  rename_i s3 rest aL
  split at h
  ·cases h
  rename_i s4 lines uQ
  cases h
  have h3:=cD aL
  obtain⟨q3,e3,rfl⟩:=aN aL
  refine aW ?_
  refine γ.ξ ζ η Tryz.func57 rfl rfl ?_
  refine ι (Φ d _ _ qi 43) (by rfl) (by rfl) ?_
  refine ι (dG d 3 eE 0 [] _ (g.map Λ) (.inr rfl)) (by rfl) (by rfl) ?_
  refine ι hP (by rfl) (by rfl) ?_
  refine ε (fO _ _) ?_
  refine wR h3 (by rfl) rfl ?_
  refine ao (fun x:Nat×List ay×List (List UInt8)=>jZ x.1 ⟨d,x.2.1,g⟩ x.2.2=some (s4,lines)) (fun x:Nat×List ay×List (List UInt8)=>⟨[(1,.ptr 11 0 0 0),(2,.ptr 12 0 0 0),(3,.ptr 13 0 0 0),(5,.t (.θ 4 (Δ rest)))],dH d++[.box (eG d (Δ x.2.1) (g.map Λ)),.box dh,.box [.t (.str eE),.t (.int .i64 (-1)),.sl 14 0 0 x.2.2.length],.arr 9 1 true 0 (.ts (x.2.2.map T.str))]⟩) (fun x=>x.1) (10,q3,[]) uQ ?_ (fun⟨n,R,L⟩ hx=> ?_)
  ·refine aB.trans (τ (s':=⟨[(1,.ptr 11 0 0 0),(2,.ptr 12 0 0 0),(3,.ptr 13 0 0 0),(5,.t (.θ 4 (Δ rest)))],rL d [.box (eG d (Δ q3) (g.map Λ)),.box dh,.box [.t (.str eE),.t (.int .i64 (-1)),.t .af]]⟩) [0,1,2,3,4,5,6,7,8,9,10,11,12,13] rfl ⟨rfl,rfl,rfl,rfl,trivial⟩ ⟨rfl,rfl,rfl,rfl,rfl,rfl,rfl,rfl,rfl,rfl,rfl,rfl,rfl,rfl,trivial⟩) ?_
   exact jJ (cs:=[.t (.str eE),.t (.int .i64 (-1)),.t .af]) 13 2 _ _ rfl rfl
  have hx:jZ n ⟨d,R,g⟩ L=some (s4,lines):=hx
  cases n with
  |zero=>cases hx
  |succ n=>
   unfold jZ at hx
   cases R with
   |nil=>
    cases hx
    refine Or.inl (And.intro (List.length_map _).symm (ε (cL SP rfl) ?_))
    refine aB.trans (iL 8 [14] (A:=d.macros.map dv) (i_ (dv ⟨eE,(-1),lines⟩)) rfl rfl rfl (fun j y t hy ht=>by
     match j,hy,ht with
     |0,hy,ht=>cases hy;cases ht;exact .same _
     |1,hy,ht=>cases hy;cases ht;exact .same _
     |2,hy,ht=>cases hy;cases ht;exact .eU _ _ _ [14] 32 rfl (.of_eq (congrArg (T.θ _) (by rw[List.drop_zero];exact List.take_of_length_le (by simp)))) (fun b hb=>hb)
     |j+3,hy,ht=>cases hy)) ?_
    refine ae ?_ ?_
    ·exact⟨congrArg (fun n:Nat=>some (AV.agg [.t (.str d.name),.t (.int .i64 d.order),.sl 0 0 0 d.files.length,.sl 1 0 0 d.ag.length,.sl 2 0 0 d.flags.length,.sl 3 0 0 d.classes.length,.sl 4 0 0 d.forms.length,.sl 5 0 0 d.aw.length,.sl 6 0 0 d.uses.length,.sl 7 0 0 d.av.length,.sl 8 2 0 n,.sl 9 0 0 d.aT.length,.sl 10 0 0 d.aQ.length,.t (.θ 4 (Δ rest)),.t (.θ 2 (g.map Λ)),.t (.int .i64 0)])) (bW d.macros ⟨eE,(-1),lines⟩),trivial⟩
    ·exact⟨rfl,rfl,rfl,rfl,rfl,rfl,rfl,rfl,b8 dv d.macros ⟨eE,(-1),lines⟩,rfl,rfl,trivial⟩
   |cons t0 R0=>
    have hx:(match rT ⟨d,t0::R0,g⟩with|some (s,w)=>(match Nat.blt L.length 8 with|true=>jZ n s (L++[w])|false=>none)|none=>none)=some (s4,lines):=hx
    split at hx
    rotate_left 1
    ·cases hx
    rename_i s5 w hw
    split at hx
    rotate_left 1
    ·cases hx
    rename_i rB
    rw[Nat.blt_eq]at rB
    obtain⟨q5,e5,rfl⟩:=m6 hw
    obtain⟨rfl,rfl⟩:=List.cons.inj e5
    have rE:decide (((L.length:Nat):Int)≥8)=false:=decide_eq_false (by omega)
    refine U (fun c=> ?_) (fun c=>absurd (fh.symm.trans c) (by decide))
    refine ι (dG d 3 w 0 [] (Δ R0) (g.map Λ) (.inr rfl)) (by rfl) (by rfl) ?_
    refine ι (Φ d _ _ rE 43) (by rfl) (by rfl) ?_
    refine Or.inl (And.intro (List.length_map _).symm (ε (cL (n:=L.length+1) (by omega) rfl) ?_))
    conv=>whnf
    exact⟨⟨(n,R0,L++[w]),hx⟩,τ [0,1,2,3,4,5,6,7,8,9,10,11,12,13,14] rfl ⟨rfl,rfl,rfl,rfl,trivial⟩ ⟨rfl,rfl,rfl,rfl,rfl,rfl,rfl,rfl,rfl,rfl,rfl,rfl,rfl,congrArg (fun m:Nat=>some (Ω.box [.t (.str eE),.t (.int .i64 (-1)),.sl 14 0 0 m])) (bW L w),b8 T.str L w,trivial⟩,Nat.lt_succ_self n⟩
 ·rename_i hp
  split at oI
  rotate_left 1
  ·cases oI
  rename_i s9 i9 Vh
  cases oI
  have hK:=er dC (by decide) Vh
  have f9:aa ⟨d,q1,g⟩ s2:=cn Vh
  obtain⟨d9,r9,g9⟩:=s2
  obtain rfl:d=d9:=f9.1.symm
  obtain rfl:g=g9:=f9.2.symm
  rw[show List.map (fun x=>UInt8.toNat x) [110,111,110,101]=[110,111,110,101]from rfl,hp]at hP
  split at h
  ·cases h
  rename_i s3 rest aL
  split at h
  ·cases h
  rename_i s4 lines uQ
  cases h
  have h3:=cD aL
  obtain⟨q3,e3,rfl⟩:=aN aL
  refine aW ?_
  refine γ.ξ ζ η Tryz.func57 rfl rfl ?_
  refine ι (Φ d _ _ qi 43) (by rfl) (by rfl) ?_
  refine ι (dG d 3 eE 0 [] (Δ q1) (g.map Λ) (.inr rfl)) (by rfl) (by rfl) ?_
  refine ι hP (by rfl) (by rfl) ?_
  refine ι hK (by rfl) (by rfl) ?_
  refine ι h3 (by rfl) (by rfl) ?_
  refine ao (fun x:Nat×List ay×List (List UInt8)=>jZ x.1 ⟨d,x.2.1,g⟩ x.2.2=some (s4,lines)) (fun x:Nat×List ay×List (List UInt8)=>⟨[(1,.ptr 11 0 0 0),(2,.ptr 12 0 0 0),(3,.ptr 13 0 0 0),(5,.t (.θ 4 (Δ rest)))],dH d++[.box (eG d (Δ x.2.1) (g.map Λ)),.box dh,.box [.t (.str eE),.t (.int .i64 (i9:Int)),.sl 14 0 0 x.2.2.length],.arr 9 1 true 0 (.ts (x.2.2.map T.str))]⟩) (fun x=>x.1) (10,q3,[]) uQ ?_ (fun⟨n,R,L⟩ hx=> ?_)
  ·refine aB.trans (τ (s':=⟨[(1,.ptr 11 0 0 0),(2,.ptr 12 0 0 0),(3,.ptr 13 0 0 0),(5,.t (.θ 4 (Δ rest)))],rL d [.box (eG d (Δ q3) (g.map Λ)),.box dh,.box [.t (.str eE),.t (.int .i64 (i9:Int)),.t .af]]⟩) [0,1,2,3,4,5,6,7,8,9,10,11,12,13] rfl ⟨rfl,rfl,rfl,rfl,trivial⟩ ⟨rfl,rfl,rfl,rfl,rfl,rfl,rfl,rfl,rfl,rfl,rfl,rfl,rfl,rfl,trivial⟩) ?_
   exact jJ (cs:=[.t (.str eE),.t (.int .i64 (i9:Int)),.t .af]) 13 2 _ _ rfl rfl
  have hx:jZ n ⟨d,R,g⟩ L=some (s4,lines):=hx
  cases n with
  |zero=>cases hx
  |succ n=>
   unfold jZ at hx
   cases R with
   |nil=>
    cases hx
    refine Or.inl (And.intro (List.length_map _).symm (ε (cL SP rfl) ?_))
    refine aB.trans (iL 8 [14] (A:=d.macros.map dv) (i_ (dv ⟨eE,(i9:Int),lines⟩)) rfl rfl rfl (fun j y t hy ht=>by
     match j,hy,ht with
     |0,hy,ht=>cases hy;cases ht;exact .same _
     |1,hy,ht=>cases hy;cases ht;exact .same _
     |2,hy,ht=>cases hy;cases ht;exact .eU _ _ _ [14] 32 rfl (.of_eq (congrArg (T.θ _) (by rw[List.drop_zero];exact List.take_of_length_le (by simp)))) (fun b hb=>hb)
     |j+3,hy,ht=>cases hy)) ?_
    refine ae ?_ ?_
    ·exact⟨congrArg (fun n:Nat=>some (AV.agg [.t (.str d.name),.t (.int .i64 d.order),.sl 0 0 0 d.files.length,.sl 1 0 0 d.ag.length,.sl 2 0 0 d.flags.length,.sl 3 0 0 d.classes.length,.sl 4 0 0 d.forms.length,.sl 5 0 0 d.aw.length,.sl 6 0 0 d.uses.length,.sl 7 0 0 d.av.length,.sl 8 2 0 n,.sl 9 0 0 d.aT.length,.sl 10 0 0 d.aQ.length,.t (.θ 4 (Δ rest)),.t (.θ 2 (g.map Λ)),.t (.int .i64 0)])) (bW d.macros ⟨eE,(i9:Int),lines⟩),trivial⟩
    ·exact⟨rfl,rfl,rfl,rfl,rfl,rfl,rfl,rfl,b8 dv d.macros ⟨eE,(i9:Int),lines⟩,rfl,rfl,trivial⟩
   |cons t0 R0=>
    have hx:(match rT ⟨d,t0::R0,g⟩with|some (s,w)=>(match Nat.blt L.length 8 with|true=>jZ n s (L++[w])|false=>none)|none=>none)=some (s4,lines):=hx
    split at hx
    rotate_left 1
    ·cases hx
    rename_i s5 w hw
    split at hx
    rotate_left 1
    ·cases hx
    rename_i rB
    rw[Nat.blt_eq]at rB
    obtain⟨q5,e5,rfl⟩:=m6 hw
    obtain⟨rfl,rfl⟩:=List.cons.inj e5
    have rE:decide (((L.length:Nat):Int)≥8)=false:=decide_eq_false (by omega)
    refine U (fun c=> ?_) (fun c=>absurd (fh.symm.trans c) (by decide))
    refine ι (dG d 3 w 0 [] (Δ R0) (g.map Λ) (.inr rfl)) (by rfl) (by rfl) ?_
    refine ι (Φ d _ _ rE 43) (by rfl) (by rfl) ?_
    refine Or.inl (And.intro (List.length_map _).symm (ε (cL (n:=L.length+1) (by omega) rfl) ?_))
    conv=>whnf
    exact⟨⟨(n,R0,L++[w]),hx⟩,τ [0,1,2,3,4,5,6,7,8,9,10,11,12,13,14] rfl ⟨rfl,rfl,rfl,rfl,trivial⟩ ⟨rfl,rfl,rfl,rfl,rfl,rfl,rfl,rfl,rfl,rfl,rfl,rfl,rfl,congrArg (fun m:Nat=>some (Ω.box [.t (.str eE),.t (.int .i64 (i9:Int)),.sl 14 0 0 m])) (bW L w),b8 T.str L w,trivial⟩,Nat.lt_succ_self n⟩
end Go.Proofs.YtcogcbplmkcojaaGreatDoor
