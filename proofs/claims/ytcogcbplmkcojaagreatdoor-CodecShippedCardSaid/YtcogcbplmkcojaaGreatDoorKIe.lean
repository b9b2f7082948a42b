/-
  A codec's pattern of any right form (walk).
-/
import Derived.Test.YtcogcbplmkcojaaGreatDoorKId
import Derived.Test.YtcogcbplmkcojaaGreatDoorKIc
namespace Go.Proofs.YtcogcbplmkcojaaGreatDoor
open Go.IntWalk
set_option maxRecDepth 100000
set_option linter.unusedVariables false
set_option linter.unusedSimpArgs false
set_option maxHeartbeats 8000000
def Sg(d:ο)(f:Ψ)(j:Nat):Nat:=match f.args[j]?with
 |some a=>(match bQ d.classes a.aU with|some k=>k.bits.toNat|none=>0)
 |none=>0
theorem QX{d:ο}{f:Ψ}(hG:bG d f){j:Nat}(hj:j<f.args.length):∃a k,f.args[j]?=some a∧bQ d.classes a.aU=some k∧k.bits.toNat=Sg d f j∧1≤k.bits∧k.bits≤64:=by
 obtain⟨a,ha,hm⟩:=get_some (R:=f.args) (i:=j) hj
 obtain⟨k,hk,cd⟩:=hG.uZ a hm
 refine⟨a,k,ha,hk,?_,?_⟩
 ·unfold Sg;rw[ha];simp only[hk]
 ·rcases cd with h|h|h<;>omega
def ei(kb:Nat→Nat)(N i:Nat):List AV:=(List.range N).map fun j=>if j<i then .sl (5+j) 0 0 (kb j)else .t .af
def nU(kb:Nat→Nat)(N:Nat):List AV:=(List.range N).map fun j=> .sl (6+j) 0 0 (kb j)
theorem jC{kb:Nat→Nat}{N i j:Nat}:(ei kb N i)[j]?=if j<N then some (if j<i then .sl (5+j) 0 0 (kb j)else .t .af)else none:=by
 unfold ei
 rw[List.getElem?_map]
 by_cases h:j<N
 ·rw[List.getElem?_range h,if_pos h];rfl
 ·rw[List.getElem?_eq_none (by simp;omega),if_neg h];rfl
theorem G7{kb:Nat→Nat}{N:Nat}:(List.replicate N T.af).map AV.t=ei kb N 0:=by
 apply List.ext_getElem?
 intro j
 rw[jC,List.getElem?_map,List.getElem?_replicate]
 by_cases h:j<N<;>simp[h]
theorem FV{k0:Nat}{az:List Nat}{H:AH}:∀(n:Nat) (l l':List AV),l.length<n→l'.length=l.length→(∀(j:Nat) (x:AV),l[j]?=some x→∃x':AV,l'[j]?=some x'∧∀m,dq k0 (m+1) az H x=some x')→ib k0 n az H l=some l'
 |0,_,_,h,_,_=>by omega
 |k+1,[],l',_,hl,_=>by cases l' with|nil=>simp only[ib]|cons=>simp at hl
 |k+1,v::r,[],_,hl,_=>by simp at hl
 |k+1,v::r,v'::r',h,hl,hx=>by
  have nv:r.length<k:=by simp at h;omega
  obtain⟨m,rfl⟩:∃m,k=m+1:=⟨k - 1,by omega⟩
  obtain⟨x',h1,h2⟩:=hx 0 v rfl
  cases h1
  have h3:=FV (m+1) r r' nv (by simpa using hl) fun j x h=>hx (j+1) x h
  simp only[ib,h2 m,h3]
def rowAt(H:AH)(b:Nat):Bool:=match H[b]?with|some (.arr e 1 false 0 _)=>Nat.beq e tI|_=>false
theorem G8{H:AH}{b:Nat}(h:rowAt H b=true):∃e l,H[b]?=some (.arr e 1 false 0 l):=by
 unfold rowAt at h
 split at h
 ·exact⟨_,_,by assumption⟩
 ·cases h
theorem CW{k0 m:Nat}{az:List Nat}{H:AH}{b b' n:Nat}(h0:k0=0)(hH:rowAt H b=true)(hk:nF az b 0=some b'):dq k0 (m+1) az H (.sl b 0 0 n)=some (.sl b' 0 0 n):=by
 obtain⟨e,l,h⟩:=G8 hH
 subst h0
 have hz:Nat.blt b' 0=false:=rfl
 simp only[dq,hk,h,qd,hz]
 try rfl
theorem ow{kb:Nat→Nat}{N i n:Nat}(hi:i<N)(hN:N≤6)(hn:n=kb i){az:List Nat}{H:AH}(hH:(∀j,j<i→rowAt H (5+j)=true∧nF az (5+j) 0=some (5+j))∧rowAt H (6+i)=true∧nF az (6+i) 0=some (5+i)):
 (ib 0 64 az H ((ei kb N i).set i (.sl (6+i) 0 0 n))).map (fun l=>Ω.arr lK 1 false 0 (.vs l))=some (.arr lK 1 false 0 (.vs (ei kb N (i+1)))):=by
 subst hn
 have hl:∀q,(ei kb N q).length=N:=fun q=>by unfold ei;simp
 suffices e:ib 0 64 az H ((ei kb N i).set i (.sl (6+i) 0 0 (kb i)))=some (ei kb N (i+1)) by rw[e];rfl
 refine FV 64 _ (ei kb N (i+1)) (by rw[List.length_set,hl];omega) (by rw[List.length_set,hl,hl]) fun j x hx=> ?_
 rw[List.getElem?_set,jC,hl]at hx
 rw[jC]
 by_cases hj:i=j
 ·subst hj
  rw[if_pos rfl,if_pos hi]at hx
  cases hx
  exact⟨_,by rw[if_pos hi,if_pos (Nat.lt_succ_self i)],fun m=>CW rfl hH.2.1 hH.2.2⟩
 ·rw[if_neg hj]at hx
  by_cases Pp:j<N
  ·rw[if_pos Pp]at hx
   by_cases n_:j<i
   ·rw[if_pos n_]at hx;cases hx
    exact⟨_,by rw[if_pos Pp,if_pos (by omega)],fun m=>CW rfl (hH.1 j n_).1 (hH.1 j n_).2⟩
   ·rw[if_neg n_]at hx;cases hx
    exact⟨_,by rw[if_pos Pp,if_neg (by omega)],fun m=>by simp only[dq]⟩
  ·rw[if_neg Pp]at hx;cases hx
theorem JO{kb:Nat→Nat}{N n:Nat}(hi:0<N)(hN:N≤6)(hn:n=kb 0){az:List Nat}{H:AH}(hH:rowAt H 6=true∧nF az 6 0=some 5):
 (ib 0 64 az H (((List.replicate N T.af).map AV.t).set 0 (.sl 6 0 0 n))).map (fun l=>Ω.arr lK 1 false 0 (.vs l))=some (.arr lK 1 false 0 (.vs (ei kb N 1))):=by
 rw[G7 (kb:=kb)]
 exact ow hi hN hn ⟨fun j hj=>absurd hj (Nat.not_lt_zero _),hH⟩
def Cc(kb:Nat→Nat):Nat→List (List Int)→List T
 |_,[]=>[]
 |o,c::r=>T.vec 1 (((c.map (T.int .i64)).drop 0).take (kb o))::Cc kb (o+1) r
theorem CT{kb:Nat→Nat}:∀(o:Nat) (C:List (List Int)),(∀j c,C[j]?=some c→c.length=kb (o+j))→Cc kb o C=C.map fun c=>T.vec 1 (c.map (T.int .i64))
 |_,[],_=>rfl
 |o,c::r,h=>by
  simp only[Cc,List.map_cons]
  rw[CT (o+1) r fun j c hj=>by have:=h (j+1) c hj;rw[this];congr 1;omega,List.drop_zero,List.take_of_length_le (by have:=h 0 c rfl;rw[Nat.add_zero]at this;simp;omega)]
theorem mu{kb:Nat→Nat}{C:List (List Int)}(h:∀j c,C[j]?=some c→c.length=kb j):a9 (.vec 1 (Cc kb 0 C)) (.θ 1 (C.map fun c=>T.θ 1 (c.map (T.int .i64)))):=by
 rw[CT 0 C fun j c hj=>by rw[Nat.zero_add];exact h j c hj]
 exact(gT.map (fun c=>a9.vec 1 (c.map (T.int .i64))) C).RH 1
abbrev U1(d:ο)(f:Ψ)(sz N:Nat)(kb:Nat→Nat)(i:Nat):AH:=match i with
 |0=>[.box (dn d),.box [.t (.int .i64 0),.t (.int .u64 0),.t (.int .u64 0),.t (.int .u64 0),.t (.int .u64 0),.t .af,.t (.bool false)],.arr lK 1 false 0 (.ts (List.replicate N T.af)),.box [.t (.int .i64 (sz:Int)),.t (.int .u64 0),.t (.int .u64 0),.t (.int .u64 0),.t (.int .u64 0),.sl 2 0 0 N,.t (.bool false)],.box (iX f)]
 |1=>[.box (dn d),.box [.t (.int .i64 0),.t (.int .u64 0),.t (.int .u64 0),.t (.int .u64 0),.t (.int .u64 0),.t .af,.t (.bool false)],.arr lK 1 false 0 (.vs (ei kb N 1)),.box [.t (.int .i64 (sz:Int)),.t (.int .u64 0),.t (.int .u64 0),.t (.int .u64 0),.t (.int .u64 0),.sl 2 0 0 N,.t (.bool false)],.box (iX f),.arr tI 1 false 0 (.ts ((List.replicate (kb 0) (0:Int)).map (T.int .i64)))]
 |2=>[.box (dn d),.box [.t (.int .i64 0),.t (.int .u64 0),.t (.int .u64 0),.t (.int .u64 0),.t (.int .u64 0),.t .af,.t (.bool false)],.arr lK 1 false 0 (.vs (ei kb N 2)),.box [.t (.int .i64 (sz:Int)),.t (.int .u64 0),.t (.int .u64 0),.t (.int .u64 0),.t (.int .u64 0),.sl 2 0 0 N,.t (.bool false)],.box (iX f),.arr tI 1 false 0 (.ts ((List.replicate (kb 0) (0:Int)).map (T.int .i64))),.arr tI 1 false 0 (.ts ((List.replicate (kb 1) (0:Int)).map (T.int .i64)))]
 |3=>[.box (dn d),.box [.t (.int .i64 0),.t (.int .u64 0),.t (.int .u64 0),.t (.int .u64 0),.t (.int .u64 0),.t .af,.t (.bool false)],.arr lK 1 false 0 (.vs (ei kb N 3)),.box [.t (.int .i64 (sz:Int)),.t (.int .u64 0),.t (.int .u64 0),.t (.int .u64 0),.t (.int .u64 0),.sl 2 0 0 N,.t (.bool false)],.box (iX f),.arr tI 1 false 0 (.ts ((List.replicate (kb 0) (0:Int)).map (T.int .i64))),.arr tI 1 false 0 (.ts ((List.replicate (kb 1) (0:Int)).map (T.int .i64))),.arr tI 1 false 0 (.ts ((List.replicate (kb 2) (0:Int)).map (T.int .i64)))]
 |4=>[.box (dn d),.box [.t (.int .i64 0),.t (.int .u64 0),.t (.int .u64 0),.t (.int .u64 0),.t (.int .u64 0),.t .af,.t (.bool false)],.arr lK 1 false 0 (.vs (ei kb N 4)),.box [.t (.int .i64 (sz:Int)),.t (.int .u64 0),.t (.int .u64 0),.t (.int .u64 0),.t (.int .u64 0),.sl 2 0 0 N,.t (.bool false)],.box (iX f),.arr tI 1 false 0 (.ts ((List.replicate (kb 0) (0:Int)).map (T.int .i64))),.arr tI 1 false 0 (.ts ((List.replicate (kb 1) (0:Int)).map (T.int .i64))),.arr tI 1 false 0 (.ts ((List.replicate (kb 2) (0:Int)).map (T.int .i64))),.arr tI 1 false 0 (.ts ((List.replicate (kb 3) (0:Int)).map (T.int .i64)))]
 |5=>[.box (dn d),.box [.t (.int .i64 0),.t (.int .u64 0),.t (.int .u64 0),.t (.int .u64 0),.t (.int .u64 0),.t .af,.t (.bool false)],.arr lK 1 false 0 (.vs (ei kb N 5)),.box [.t (.int .i64 (sz:Int)),.t (.int .u64 0),.t (.int .u64 0),.t (.int .u64 0),.t (.int .u64 0),.sl 2 0 0 N,.t (.bool false)],.box (iX f),.arr tI 1 false 0 (.ts ((List.replicate (kb 0) (0:Int)).map (T.int .i64))),.arr tI 1 false 0 (.ts ((List.replicate (kb 1) (0:Int)).map (T.int .i64))),.arr tI 1 false 0 (.ts ((List.replicate (kb 2) (0:Int)).map (T.int .i64))),.arr tI 1 false 0 (.ts ((List.replicate (kb 3) (0:Int)).map (T.int .i64))),.arr tI 1 false 0 (.ts ((List.replicate (kb 4) (0:Int)).map (T.int .i64)))]
 |_=>[.box (dn d),.box [.t (.int .i64 0),.t (.int .u64 0),.t (.int .u64 0),.t (.int .u64 0),.t (.int .u64 0),.t .af,.t (.bool false)],.arr lK 1 false 0 (.vs (ei kb N 6)),.box [.t (.int .i64 (sz:Int)),.t (.int .u64 0),.t (.int .u64 0),.t (.int .u64 0),.t (.int .u64 0),.sl 2 0 0 N,.t (.bool false)],.box (iX f),.arr tI 1 false 0 (.ts ((List.replicate (kb 0) (0:Int)).map (T.int .i64))),.arr tI 1 false 0 (.ts ((List.replicate (kb 1) (0:Int)).map (T.int .i64))),.arr tI 1 false 0 (.ts ((List.replicate (kb 2) (0:Int)).map (T.int .i64))),.arr tI 1 false 0 (.ts ((List.replicate (kb 3) (0:Int)).map (T.int .i64))),.arr tI 1 false 0 (.ts ((List.replicate (kb 4) (0:Int)).map (T.int .i64))),.arr tI 1 false 0 (.ts ((List.replicate (kb 5) (0:Int)).map (T.int .i64)))]
abbrev Bo(f:Ψ)(i:Nat):List (Nat×AV):=[(4,.ptr 1 0 0 0),(6,.ptr 3 0 0 0),(2,.ptr 0 0 0 0),(5,.ptr 4 0 0 0),(31,.t (.θ 2 (f.args.map Λ))),(32,.t (.int .i64 ((f.args.map Λ).length:Int))),(33,.t (.int .i64 (i:Int)))]
theorem KF(d:ο)(hd:d.ok)(i:Nat)(f:Ψ)(hi:d.forms[i]?=some f)(hs:fP f.pieces≤2000000000000)(hG:bG d f):ab Tryz.prog 43 [ax d,.int .i64 i] (nP d f):=by
 have ie:f.ok:=hd.2.2.2.2.2.2.2.2.2.2.2.1 f (List.mem_of_getElem? hi)
 have Vz:=JJ d hd i f hi hs hG
 obtain⟨L,hL⟩:∃L,L=bf f.pieces:=⟨_,rfl⟩
 have rF:L.length≤120:=by rw[hL];exact hG.le
 have h8:L.length%8=0:=by rw[hL];exact hG.m8
 obtain⟨sz,bE⟩:∃sz,sz=L.length/8:=⟨_,rfl⟩
 obtain⟨n,hn⟩:∃n,n=L.length:=⟨_,rfl⟩
 rw[←hL,←bE]at Vz
 have kM:f.pieces.length≤9223372036854775807:=dY ie.2.2.2.2.1
 obtain⟨N,hlen⟩:∃N,f.args.length=N:=⟨_,rfl⟩
 have hN:N≤6:=by have:=hG.args;omega
 have fS:(f.args.map Λ).length=N:=by rw[List.length_map,hlen]
 have Vf:(((f.args.map Λ).length:Nat):Int).toNat=N:=by rw[Int.toNat_natCast,fS]
 obtain⟨kb,Wg⟩:∃kb,kb=Sg d f:=⟨_,rfl⟩
 have lQ:∀j,j<N→∃a k,f.args[j]?=some a∧bQ d.classes a.aU=some k∧k.bits.toNat=kb j∧1≤k.bits∧k.bits≤64:=fun j hj=>by rw[Wg];exact QX hG (by omega)
 have hz:List.replicate (((f.args.map Λ).length:Nat):Int).toNat T.af=List.replicate N T.af:=by rw[Vf]
 have zf:cM d f L 0 0 0 0 0 false ((List.range N).map fun j=>List.replicate (kb j) (0:Int)):=by
  refine cM.start (by simp[hlen]) fun j a k c h1 h2 h3=> ?_
  have hj:=(List.getElem?_eq_some_iff.1 h1).1
  obtain⟨a',k',g1,g2,g3,_⟩:=lQ j (by omega)
  rw[g1]at h1;cases h1
  rw[g2]at h2;cases h2
  rw[List.getElem?_map,List.getElem?_range (by omega)]at h3
  cases h3
  rw[List.length_replicate,g3]
 have th:∀j,j<N→(nU kb N)[j]?=some (.sl (6+j) 0 0 (kb j)):=fun j hj=>by unfold nU;rw[List.getElem?_map,List.getElem?_range hj];rfl
 have kp:(nU kb N).length=N:=by unfold nU;simp
 have x9:∀(w m0 m1 w0 w1:Nat) (lz:Bool) (C:List (List Int)),w=L.length→cM d f L w m0 m1 w0 w1 lz C→zK d f m0 m1 w0 w1 lz C∧∀j c,C[j]?=some c→c.length=kb j:=fun w m0 m1 w0 w1 lz C hw hM=>
  ⟨cM.all hG (w:=w) (by rw[←hL];exact hM) (by rw[←hL];exact hw),fun j c hc=>by
   have hj:=(List.getElem?_eq_some_iff.1 hc).1
   rw[hM.len,hlen]at hj
   obtain⟨a',k',g1,g2,g3,_⟩:=lQ j hj
   rw[(hM.rows j a' k' c g1 g2 hc).1,g3]⟩
 refine ab.Γ ?_ nP.aJ
 refine γ.ξ ζ η Tryz.func43 rfl rfl ?_
 refine ν (show(d.forms.map ah)[((i:Nat):Int).toNat]?=some (ah f)from by rw[Int.toNat_natCast,List.getElem?_map,hi];rfl) ?_
 refine υ Nh (by decide+kernel) ?_
 refine ε (HH (n:=(f.args.map Λ).length) (z:=24) (by omega) (by omega)) ?_
 refine U (fun c=>absurd (of_decide_eq_true c) (by omega)) (fun _=> ?_)
 refine γ.a8 Vz rfl ⟨.refl _,.refl _,trivial⟩ ?_
 refine And.intro (fun j hj=>by first|(cases hj;done)|exact χ.append _ _ _|exact χ.refl _ _) ?_
 refine And.intro (fun j hj=>by first|(cases hj;done)|exact χ.append _ _ _|exact χ.refl _ _) ?_
 refine b_ (fun e s'=>e= .exit 0∧∃(b0:AV) (i:Nat),i=N∧s'=⟨(34,b0)::Bo f i,U1 d f sz N kb i⟩) (fun zL HQ=> ?_) ?_
 ·refine ao (fun i:Nat=>i≤N) (fun i=>⟨Bo f i,U1 d f sz N kb i⟩) (fun i=>N - i) 0 (Nat.zero_le _) ?_ (fun i hi=> ?_)
  ·exact τ [0,1,3,4,2] rfl ⟨rfl,rfl,rfl,rfl,rfl,rfl,rfl,trivial⟩ ⟨rfl,rfl,congrArg (fun l=>some (Ω.arr lK 1 false 0 (.ts l))) hz,congrArg (fun k:Nat=>some (Ω.box [.t (.int .i64 (sz:Int)),.t (.int .u64 0),.t (.int .u64 0),.t (.int .u64 0),.t (.int .u64 0),.sl 2 0 0 k,.t (.bool false)])) Vf,rfl,trivial⟩
  have hi:i≤N:=hi
  rcases(show i=0∨i=1∨i=2∨i=3∨i=4∨i=5∨i=6 by omega)with rfl|rfl|rfl|rfl|rfl|rfl|rfl
  ·refine U (fun c=> ?_) (fun c=> ?_)
   ·have c:0<N:=by have:=de (a:=0) c;omega
    obtain⟨a,k,ha,hk,kN,hb⟩:=lQ 0 c
    have bn:=mc hk
    obtain⟨x,hx,_,lF⟩:=cQ bn
    obtain rfl:k=x:=by rw[hk]at hx;exact Option.some.inj hx
    refine ν (show(f.args.map Λ)[((0:Nat):Int).toNat]?=some (Λ a)from by rw[Int.toNat_natCast,List.getElem?_map,ha];rfl) ?_
    refine υ oA (by decide+kernel) ?_
    refine ε (gW rfl bn.1) ?_
    refine ν (cu lF) ?_
    refine ε (Au (b:=k.bits) (by omega) (by omega)) ?_
    refine U (fun c=>absurd (of_decide_eq_true c) (by omega)) (fun _=> ?_)
    refine ε (fu rfl (by omega) (by omega)) ?_
    refine ν (a:=T.af) (by show(List.replicate N T.af)[0]?=_;rw[List.getElem?_replicate,if_pos c]) ?_
    conv=>whnf
    refine And.intro (fun j hj=>by first|(cases hj;done)|exact χ.append _ _ _|exact χ.refl _ _) ?_
    have vI:List.replicate k.bits.toNat (T.int .i64 0)=(List.replicate (kb 0) (0:Int)).map (T.int .i64):=by rw[List.map_replicate,kN]
    conv=>whnf
    refine⟨⟨1,by omega⟩,?_,by show N - 1<N - 0;omega⟩
    show aB _ _ ⟨Bo f 1,[.box (dn d),.box [.t (.int .i64 0),.t (.int .u64 0),.t (.int .u64 0),.t (.int .u64 0),.t (.int .u64 0),.t .af,.t (.bool false)],.arr lK 1 false 0 (.vs (ei kb N 1)),.box [.t (.int .i64 (sz:Int)),.t (.int .u64 0),.t (.int .u64 0),.t (.int .u64 0),.t (.int .u64 0),.sl 2 0 0 N,.t (.bool false)],.box (iX f),.arr tI 1 false 0 (.ts ((List.replicate (kb 0) (0:Int)).map (T.int .i64)))]⟩
    exact τ [0,1,2,3,4,6] rfl ⟨rfl,rfl,rfl,rfl,rfl,rfl,rfl,trivial⟩ ⟨rfl,rfl,(by refine JO (kb:=kb) c hN kN ?_;exact⟨rfl,rfl⟩),rfl,rfl,congrArg (fun l=>some (Ω.arr tI 1 false 0 (.ts l))) vI,trivial⟩
   ·have c:0=N:=by have:=dm (a:=0) c;omega
    exact HQ _ _ ⟨rfl,_,0,c,rfl⟩
  ·refine U (fun c=> ?_) (fun c=> ?_)
   ·have c:1<N:=by have:=de (a:=1) c;omega
    obtain⟨a,k,ha,hk,kN,hb⟩:=lQ 1 c
    have bn:=mc hk
    obtain⟨x,hx,_,lF⟩:=cQ bn
    obtain rfl:k=x:=by rw[hk]at hx;exact Option.some.inj hx
    refine ν (show(f.args.map Λ)[((1:Nat):Int).toNat]?=some (Λ a)from by rw[Int.toNat_natCast,List.getElem?_map,ha];rfl) ?_
    refine υ oA (by decide+kernel) ?_
    refine ε (gW rfl bn.1) ?_
    refine ν (cu lF) ?_
    refine ε (Au (b:=k.bits) (by omega) (by omega)) ?_
    refine U (fun c=>absurd (of_decide_eq_true c) (by omega)) (fun _=> ?_)
    refine ε (fu rfl (by omega) (by omega)) ?_
    refine ν (a:=AV.t T.af) (by show(ei kb N 1)[1]?=_;rw[jC,if_pos c,if_neg (Nat.lt_irrefl 1)]) ?_
    conv=>whnf
    refine And.intro (fun j hj=>by first|(cases hj;done)|exact χ.append _ _ _|exact χ.refl _ _) ?_
    have vI:List.replicate k.bits.toNat (T.int .i64 0)=(List.replicate (kb 1) (0:Int)).map (T.int .i64):=by rw[List.map_replicate,kN]
    conv=>whnf
    refine⟨⟨2,by omega⟩,?_,by show N - 2<N - 1;omega⟩
    show aB _ _ ⟨Bo f 2,[.box (dn d),.box [.t (.int .i64 0),.t (.int .u64 0),.t (.int .u64 0),.t (.int .u64 0),.t (.int .u64 0),.t .af,.t (.bool false)],.arr lK 1 false 0 (.vs (ei kb N 2)),.box [.t (.int .i64 (sz:Int)),.t (.int .u64 0),.t (.int .u64 0),.t (.int .u64 0),.t (.int .u64 0),.sl 2 0 0 N,.t (.bool false)],.box (iX f),.arr tI 1 false 0 (.ts ((List.replicate (kb 0) (0:Int)).map (T.int .i64))),.arr tI 1 false 0 (.ts ((List.replicate (kb 1) (0:Int)).map (T.int .i64)))]⟩
    exact τ [0,1,2,3,4,5,7] rfl ⟨rfl,rfl,rfl,rfl,rfl,rfl,rfl,trivial⟩ ⟨rfl,rfl,(by refine ow (kb:=kb) c hN kN ?_;exact⟨fun j hj=>by rcases(show j=0 by omega)with rfl<;>exact⟨rfl,rfl⟩,rfl,rfl⟩),rfl,rfl,rfl,congrArg (fun l=>some (Ω.arr tI 1 false 0 (.ts l))) vI,trivial⟩
   ·have c:1=N:=by have:=dm (a:=1) c;omega
    exact HQ _ _ ⟨rfl,_,1,c,rfl⟩
  ·refine U (fun c=> ?_) (fun c=> ?_)
   ·have c:2<N:=by have:=de (a:=2) c;omega
    obtain⟨a,k,ha,hk,kN,hb⟩:=lQ 2 c
    have bn:=mc hk
    obtain⟨x,hx,_,lF⟩:=cQ bn
    obtain rfl:k=x:=by rw[hk]at hx;exact Option.some.inj hx
    refine ν (show(f.args.map Λ)[((2:Nat):Int).toNat]?=some (Λ a)from by rw[Int.toNat_natCast,List.getElem?_map,ha];rfl) ?_
    refine υ oA (by decide+kernel) ?_
    refine ε (gW rfl bn.1) ?_
    refine ν (cu lF) ?_
    refine ε (Au (b:=k.bits) (by omega) (by omega)) ?_
    refine U (fun c=>absurd (of_decide_eq_true c) (by omega)) (fun _=> ?_)
    refine ε (fu rfl (by omega) (by omega)) ?_
    refine ν (a:=AV.t T.af) (by show(ei kb N 2)[2]?=_;rw[jC,if_pos c,if_neg (Nat.lt_irrefl 2)]) ?_
    conv=>whnf
    refine And.intro (fun j hj=>by first|(cases hj;done)|exact χ.append _ _ _|exact χ.refl _ _) ?_
    have vI:List.replicate k.bits.toNat (T.int .i64 0)=(List.replicate (kb 2) (0:Int)).map (T.int .i64):=by rw[List.map_replicate,kN]
    conv=>whnf
    refine⟨⟨3,by omega⟩,?_,by show N - 3<N - 2;omega⟩
    show aB _ _ ⟨Bo f 3,[.box (dn d),.box [.t (.int .i64 0),.t (.int .u64 0),.t (.int .u64 0),.t (.int .u64 0),.t (.int .u64 0),.t .af,.t (.bool false)],.arr lK 1 false 0 (.vs (ei kb N 3)),.box [.t (.int .i64 (sz:Int)),.t (.int .u64 0),.t (.int .u64 0),.t (.int .u64 0),.t (.int .u64 0),.sl 2 0 0 N,.t (.bool false)],.box (iX f),.arr tI 1 false 0 (.ts ((List.replicate (kb 0) (0:Int)).map (T.int .i64))),.arr tI 1 false 0 (.ts ((List.replicate (kb 1) (0:Int)).map (T.int .i64))),.arr tI 1 false 0 (.ts ((List.replicate (kb 2) (0:Int)).map (T.int .i64)))]⟩
    exact τ [0,1,2,3,4,5,6,8] rfl ⟨rfl,rfl,rfl,rfl,rfl,rfl,rfl,trivial⟩ ⟨rfl,rfl,(by refine ow (kb:=kb) c hN kN ?_;exact⟨fun j hj=>by rcases(show j=0∨j=1 by omega)with rfl|rfl<;>exact⟨rfl,rfl⟩,rfl,rfl⟩),rfl,rfl,rfl,rfl,congrArg (fun l=>some (Ω.arr tI 1 false 0 (.ts l))) vI,trivial⟩
   ·have c:2=N:=by have:=dm (a:=2) c;omega
    exact HQ _ _ ⟨rfl,_,2,c,rfl⟩
  ·refine U (fun c=> ?_) (fun c=> ?_)
   ·have c:3<N:=by have:=de (a:=3) c;omega
    obtain⟨a,k,ha,hk,kN,hb⟩:=lQ 3 c
    have bn:=mc hk
    obtain⟨x,hx,_,lF⟩:=cQ bn
    obtain rfl:k=x:=by rw[hk]at hx;exact Option.some.inj hx
    refine ν (show(f.args.map Λ)[((3:Nat):Int).toNat]?=some (Λ a)from by rw[Int.toNat_natCast,List.getElem?_map,ha];rfl) ?_
    refine υ oA (by decide+kernel) ?_
    refine ε (gW rfl bn.1) ?_
    refine ν (cu lF) ?_
    refine ε (Au (b:=k.bits) (by omega) (by omega)) ?_
    refine U (fun c=>absurd (of_decide_eq_true c) (by omega)) (fun _=> ?_)
    refine ε (fu rfl (by omega) (by omega)) ?_
    refine ν (a:=AV.t T.af) (by show(ei kb N 3)[3]?=_;rw[jC,if_pos c,if_neg (Nat.lt_irrefl 3)]) ?_
    conv=>whnf
    refine And.intro (fun j hj=>by first|(cases hj;done)|exact χ.append _ _ _|exact χ.refl _ _) ?_
    have vI:List.replicate k.bits.toNat (T.int .i64 0)=(List.replicate (kb 3) (0:Int)).map (T.int .i64):=by rw[List.map_replicate,kN]
    conv=>whnf
    refine⟨⟨4,by omega⟩,?_,by show N - 4<N - 3;omega⟩
    show aB _ _ ⟨Bo f 4,[.box (dn d),.box [.t (.int .i64 0),.t (.int .u64 0),.t (.int .u64 0),.t (.int .u64 0),.t (.int .u64 0),.t .af,.t (.bool false)],.arr lK 1 false 0 (.vs (ei kb N 4)),.box [.t (.int .i64 (sz:Int)),.t (.int .u64 0),.t (.int .u64 0),.t (.int .u64 0),.t (.int .u64 0),.sl 2 0 0 N,.t (.bool false)],.box (iX f),.arr tI 1 false 0 (.ts ((List.replicate (kb 0) (0:Int)).map (T.int .i64))),.arr tI 1 false 0 (.ts ((List.replicate (kb 1) (0:Int)).map (T.int .i64))),.arr tI 1 false 0 (.ts ((List.replicate (kb 2) (0:Int)).map (T.int .i64))),.arr tI 1 false 0 (.ts ((List.replicate (kb 3) (0:Int)).map (T.int .i64)))]⟩
    exact τ [0,1,2,3,4,5,6,7,9] rfl ⟨rfl,rfl,rfl,rfl,rfl,rfl,rfl,trivial⟩ ⟨rfl,rfl,(by refine ow (kb:=kb) c hN kN ?_;exact⟨fun j hj=>by rcases(show j=0∨j=1∨j=2 by omega)with rfl|rfl|rfl<;>exact⟨rfl,rfl⟩,rfl,rfl⟩),rfl,rfl,rfl,rfl,rfl,congrArg (fun l=>some (Ω.arr tI 1 false 0 (.ts l))) vI,trivial⟩
   ·have c:3=N:=by have:=dm (a:=3) c;omega
    exact HQ _ _ ⟨rfl,_,3,c,rfl⟩
  ·refine U (fun c=> ?_) (fun c=> ?_)
   ·have c:4<N:=by have:=de (a:=4) c;omega
    obtain⟨a,k,ha,hk,kN,hb⟩:=lQ 4 c
    have bn:=mc hk
    obtain⟨x,hx,_,lF⟩:=cQ bn
    obtain rfl:k=x:=by rw[hk]at hx;exact Option.some.inj hx
    refine ν (show(f.args.map Λ)[((4:Nat):Int).toNat]?=some (Λ a)from by rw[Int.toNat_natCast,List.getElem?_map,ha];rfl) ?_
    refine υ oA (by decide+kernel) ?_
    refine ε (gW rfl bn.1) ?_
    refine ν (cu lF) ?_
    refine ε (Au (b:=k.bits) (by omega) (by omega)) ?_
    refine U (fun c=>absurd (of_decide_eq_true c) (by omega)) (fun _=> ?_)
    refine ε (fu rfl (by omega) (by omega)) ?_
    refine ν (a:=AV.t T.af) (by show(ei kb N 4)[4]?=_;rw[jC,if_pos c,if_neg (Nat.lt_irrefl 4)]) ?_
    conv=>whnf
    refine And.intro (fun j hj=>by first|(cases hj;done)|exact χ.append _ _ _|exact χ.refl _ _) ?_
    have vI:List.replicate k.bits.toNat (T.int .i64 0)=(List.replicate (kb 4) (0:Int)).map (T.int .i64):=by rw[List.map_replicate,kN]
    conv=>whnf
    refine⟨⟨5,by omega⟩,?_,by show N - 5<N - 4;omega⟩
    show aB _ _ ⟨Bo f 5,[.box (dn d),.box [.t (.int .i64 0),.t (.int .u64 0),.t (.int .u64 0),.t (.int .u64 0),.t (.int .u64 0),.t .af,.t (.bool false)],.arr lK 1 false 0 (.vs (ei kb N 5)),.box [.t (.int .i64 (sz:Int)),.t (.int .u64 0),.t (.int .u64 0),.t (.int .u64 0),.t (.int .u64 0),.sl 2 0 0 N,.t (.bool false)],.box (iX f),.arr tI 1 false 0 (.ts ((List.replicate (kb 0) (0:Int)).map (T.int .i64))),.arr tI 1 false 0 (.ts ((List.replicate (kb 1) (0:Int)).map (T.int .i64))),.arr tI 1 false 0 (.ts ((List.replicate (kb 2) (0:Int)).map (T.int .i64))),.arr tI 1 false 0 (.ts ((List.replicate (kb 3) (0:Int)).map (T.int .i64))),.arr tI 1 false 0 (.ts ((List.replicate (kb 4) (0:Int)).map (T.int .i64)))]⟩
    exact τ [0,1,2,3,4,5,6,7,8,10] rfl ⟨rfl,rfl,rfl,rfl,rfl,rfl,rfl,trivial⟩ ⟨rfl,rfl,(by refine ow (kb:=kb) c hN kN ?_;exact⟨fun j hj=>by rcases(show j=0∨j=1∨j=2∨j=3 by omega)with rfl|rfl|rfl|rfl<;>exact⟨rfl,rfl⟩,rfl,rfl⟩),rfl,rfl,rfl,rfl,rfl,rfl,congrArg (fun l=>some (Ω.arr tI 1 false 0 (.ts l))) vI,trivial⟩
   ·have c:4=N:=by have:=dm (a:=4) c;omega
    exact HQ _ _ ⟨rfl,_,4,c,rfl⟩
  ·refine U (fun c=> ?_) (fun c=> ?_)
   ·have c:5<N:=by have:=de (a:=5) c;omega
    obtain⟨a,k,ha,hk,kN,hb⟩:=lQ 5 c
    have bn:=mc hk
    obtain⟨x,hx,_,lF⟩:=cQ bn
    obtain rfl:k=x:=by rw[hk]at hx;exact Option.some.inj hx
    refine ν (show(f.args.map Λ)[((5:Nat):Int).toNat]?=some (Λ a)from by rw[Int.toNat_natCast,List.getElem?_map,ha];rfl) ?_
    refine υ oA (by decide+kernel) ?_
    refine ε (gW rfl bn.1) ?_
    refine ν (cu lF) ?_
    refine ε (Au (b:=k.bits) (by omega) (by omega)) ?_
    refine U (fun c=>absurd (of_decide_eq_true c) (by omega)) (fun _=> ?_)
    refine ε (fu rfl (by omega) (by omega)) ?_
    refine ν (a:=AV.t T.af) (by show(ei kb N 5)[5]?=_;rw[jC,if_pos c,if_neg (Nat.lt_irrefl 5)]) ?_
    conv=>whnf
    refine And.intro (fun j hj=>by first|(cases hj;done)|exact χ.append _ _ _|exact χ.refl _ _) ?_
    have vI:List.replicate k.bits.toNat (T.int .i64 0)=(List.replicate (kb 5) (0:Int)).map (T.int .i64):=by rw[List.map_replicate,kN]
    conv=>whnf
    refine⟨⟨6,by omega⟩,?_,by show N - 6<N - 5;omega⟩
    show aB _ _ ⟨Bo f 6,[.box (dn d),.box [.t (.int .i64 0),.t (.int .u64 0),.t (.int .u64 0),.t (.int .u64 0),.t (.int .u64 0),.t .af,.t (.bool false)],.arr lK 1 false 0 (.vs (ei kb N 6)),.box [.t (.int .i64 (sz:Int)),.t (.int .u64 0),.t (.int .u64 0),.t (.int .u64 0),.t (.int .u64 0),.sl 2 0 0 N,.t (.bool false)],.box (iX f),.arr tI 1 false 0 (.ts ((List.replicate (kb 0) (0:Int)).map (T.int .i64))),.arr tI 1 false 0 (.ts ((List.replicate (kb 1) (0:Int)).map (T.int .i64))),.arr tI 1 false 0 (.ts ((List.replicate (kb 2) (0:Int)).map (T.int .i64))),.arr tI 1 false 0 (.ts ((List.replicate (kb 3) (0:Int)).map (T.int .i64))),.arr tI 1 false 0 (.ts ((List.replicate (kb 4) (0:Int)).map (T.int .i64))),.arr tI 1 false 0 (.ts ((List.replicate (kb 5) (0:Int)).map (T.int .i64)))]⟩
    exact τ [0,1,2,3,4,5,6,7,8,9,11] rfl ⟨rfl,rfl,rfl,rfl,rfl,rfl,rfl,trivial⟩ ⟨rfl,rfl,(by refine ow (kb:=kb) c hN kN ?_;exact⟨fun j hj=>by rcases(show j=0∨j=1∨j=2∨j=3∨j=4 by omega)with rfl|rfl|rfl|rfl|rfl<;>exact⟨rfl,rfl⟩,rfl,rfl⟩),rfl,rfl,rfl,rfl,rfl,rfl,rfl,congrArg (fun l=>some (Ω.arr tI 1 false 0 (.ts l))) vI,trivial⟩
   ·have c:5=N:=by have:=dm (a:=5) c;omega
    exact HQ _ _ ⟨rfl,_,5,c,rfl⟩
  ·refine U (fun c=>absurd (de (a:=6) c) (by omega)) (fun c=> ?_)
   exact HQ _ _ ⟨rfl,_,6,by omega,rfl⟩
 rintro _ _ ⟨rfl,b0,i,D7,rfl⟩
 rcases(show i=0∨i=1∨i=2∨i=3∨i=4∨i=5∨i=6 by omega)with rfl|rfl|rfl|rfl|rfl|rfl|rfl
 ·subst D7
  refine δ (n:=((n:Nat):Int)) (by rw[IntKind.wrap_i64];omega) ?_
  refine mf.at (s':=⟨mE f 0 [],mH d sz n 0 (nU kb 0) 0 0 0 0 0 false [] [] [] [] [] [] []⟩) ((aB.more [.arr tI 1 false 0 (.ts []),.arr tI 1 false 0 (.ts []),.arr tI 1 false 0 (.ts []),.arr tI 1 false 0 (.ts []),.arr tI 1 false 0 (.ts []),.arr tI 1 false 0 (.ts [])]).trans ((aB.UU (b:=2) rfl).trans (τ [0,1,2,3,5,6,7,8,9,10,11,12] rfl ⟨rfl,rfl,rfl,rfl,rfl,rfl,trivial⟩ ⟨rfl,rfl,rfl,rfl,rfl,rfl,rfl,rfl,rfl,rfl,rfl,rfl,trivial⟩))) (kH d hd f ie hG L hL rF h8 sz n 0 hn kM hN kb (nU kb 0) lQ th kp hlen [] [] [] [] [] [] zf _ ?_)
  intro b1 ip w m0 m1 w0 w1 lz c0 c1 c2 c3 c4 c5 hw hM
  obtain⟨oJ,bn⟩:=x9 w m0 m1 w0 w1 lz [] hw hM
  exact⟨.t (ng sz m0 m1 w0 w1 lz []),⟨m0,m1,w0,w1,lz,[],by rw[bE,hL],oJ⟩,_,_,rfl,a9.sO ⟨.refl _,.refl _,.refl _,.refl _,.refl _,mu (kb:=kb) (C:=[]) bn,.refl _,trivial⟩⟩
 ·subst D7
  refine δ (n:=((n:Nat):Int)) (by rw[IntKind.wrap_i64];omega) ?_
  refine mf.at (s':=⟨mE f 0 [],mH d sz n 1 (nU kb 1) 0 0 0 0 0 false (List.replicate (kb 0) 0) [] [] [] [] [] []⟩) ((aB.more [.arr tI 1 false 0 (.ts []),.arr tI 1 false 0 (.ts []),.arr tI 1 false 0 (.ts []),.arr tI 1 false 0 (.ts []),.arr tI 1 false 0 (.ts [])]).trans (τ [0,1,2,3,6,7,5,8,9,10,11,12] rfl ⟨rfl,rfl,rfl,rfl,rfl,rfl,trivial⟩ ⟨rfl,rfl,rfl,rfl,rfl,rfl,rfl,rfl,rfl,rfl,rfl,rfl,trivial⟩)) (kH d hd f ie hG L hL rF h8 sz n 1 hn kM hN kb (nU kb 1) lQ th kp hlen (List.replicate (kb 0) 0) [] [] [] [] [] zf _ ?_)
  intro b1 ip w m0 m1 w0 w1 lz c0 c1 c2 c3 c4 c5 hw hM
  obtain⟨oJ,bn⟩:=x9 w m0 m1 w0 w1 lz [c0] hw hM
  exact⟨.t (ng sz m0 m1 w0 w1 lz [c0]),⟨m0,m1,w0,w1,lz,[c0],by rw[bE,hL],oJ⟩,_,_,rfl,a9.sO ⟨.refl _,.refl _,.refl _,.refl _,.refl _,mu (kb:=kb) (C:=[c0]) bn,.refl _,trivial⟩⟩
 ·subst D7
  refine δ (n:=((n:Nat):Int)) (by rw[IntKind.wrap_i64];omega) ?_
  refine mf.at (s':=⟨mE f 0 [],mH d sz n 2 (nU kb 2) 0 0 0 0 0 false (List.replicate (kb 0) 0) (List.replicate (kb 1) 0) [] [] [] [] []⟩) ((aB.more [.arr tI 1 false 0 (.ts []),.arr tI 1 false 0 (.ts []),.arr tI 1 false 0 (.ts []),.arr tI 1 false 0 (.ts [])]).trans (τ [0,1,2,3,7,8,5,6,9,10,11,12] rfl ⟨rfl,rfl,rfl,rfl,rfl,rfl,trivial⟩ ⟨rfl,rfl,rfl,rfl,rfl,rfl,rfl,rfl,rfl,rfl,rfl,rfl,trivial⟩)) (kH d hd f ie hG L hL rF h8 sz n 2 hn kM hN kb (nU kb 2) lQ th kp hlen (List.replicate (kb 0) 0) (List.replicate (kb 1) 0) [] [] [] [] zf _ ?_)
  intro b1 ip w m0 m1 w0 w1 lz c0 c1 c2 c3 c4 c5 hw hM
  obtain⟨oJ,bn⟩:=x9 w m0 m1 w0 w1 lz [c0,c1] hw hM
  exact⟨.t (ng sz m0 m1 w0 w1 lz [c0,c1]),⟨m0,m1,w0,w1,lz,[c0,c1],by rw[bE,hL],oJ⟩,_,_,rfl,a9.sO ⟨.refl _,.refl _,.refl _,.refl _,.refl _,mu (kb:=kb) (C:=[c0,c1]) bn,.refl _,trivial⟩⟩
 ·subst D7
  refine δ (n:=((n:Nat):Int)) (by rw[IntKind.wrap_i64];omega) ?_
  refine mf.at (s':=⟨mE f 0 [],mH d sz n 3 (nU kb 3) 0 0 0 0 0 false (List.replicate (kb 0) 0) (List.replicate (kb 1) 0) (List.replicate (kb 2) 0) [] [] [] []⟩) ((aB.more [.arr tI 1 false 0 (.ts []),.arr tI 1 false 0 (.ts []),.arr tI 1 false 0 (.ts [])]).trans (τ [0,1,2,3,8,9,5,6,7,10,11,12] rfl ⟨rfl,rfl,rfl,rfl,rfl,rfl,trivial⟩ ⟨rfl,rfl,rfl,rfl,rfl,rfl,rfl,rfl,rfl,rfl,rfl,rfl,trivial⟩)) (kH d hd f ie hG L hL rF h8 sz n 3 hn kM hN kb (nU kb 3) lQ th kp hlen (List.replicate (kb 0) 0) (List.replicate (kb 1) 0) (List.replicate (kb 2) 0) [] [] [] zf _ ?_)
  intro b1 ip w m0 m1 w0 w1 lz c0 c1 c2 c3 c4 c5 hw hM
  obtain⟨oJ,bn⟩:=x9 w m0 m1 w0 w1 lz [c0,c1,c2] hw hM
  exact⟨.t (ng sz m0 m1 w0 w1 lz [c0,c1,c2]),⟨m0,m1,w0,w1,lz,[c0,c1,c2],by rw[bE,hL],oJ⟩,_,_,rfl,a9.sO ⟨.refl _,.refl _,.refl _,.refl _,.refl _,mu (kb:=kb) (C:=[c0,c1,c2]) bn,.refl _,trivial⟩⟩
 ·subst D7
  refine δ (n:=((n:Nat):Int)) (by rw[IntKind.wrap_i64];omega) ?_
  refine mf.at (s':=⟨mE f 0 [],mH d sz n 4 (nU kb 4) 0 0 0 0 0 false (List.replicate (kb 0) 0) (List.replicate (kb 1) 0) (List.replicate (kb 2) 0) (List.replicate (kb 3) 0) [] [] []⟩) ((aB.more [.arr tI 1 false 0 (.ts []),.arr tI 1 false 0 (.ts [])]).trans (τ [0,1,2,3,9,10,5,6,7,8,11,12] rfl ⟨rfl,rfl,rfl,rfl,rfl,rfl,trivial⟩ ⟨rfl,rfl,rfl,rfl,rfl,rfl,rfl,rfl,rfl,rfl,rfl,rfl,trivial⟩)) (kH d hd f ie hG L hL rF h8 sz n 4 hn kM hN kb (nU kb 4) lQ th kp hlen (List.replicate (kb 0) 0) (List.replicate (kb 1) 0) (List.replicate (kb 2) 0) (List.replicate (kb 3) 0) [] [] zf _ ?_)
  intro b1 ip w m0 m1 w0 w1 lz c0 c1 c2 c3 c4 c5 hw hM
  obtain⟨oJ,bn⟩:=x9 w m0 m1 w0 w1 lz [c0,c1,c2,c3] hw hM
  exact⟨.t (ng sz m0 m1 w0 w1 lz [c0,c1,c2,c3]),⟨m0,m1,w0,w1,lz,[c0,c1,c2,c3],by rw[bE,hL],oJ⟩,_,_,rfl,a9.sO ⟨.refl _,.refl _,.refl _,.refl _,.refl _,mu (kb:=kb) (C:=[c0,c1,c2,c3]) bn,.refl _,trivial⟩⟩
 ·subst D7
  refine δ (n:=((n:Nat):Int)) (by rw[IntKind.wrap_i64];omega) ?_
  refine mf.at (s':=⟨mE f 0 [],mH d sz n 5 (nU kb 5) 0 0 0 0 0 false (List.replicate (kb 0) 0) (List.replicate (kb 1) 0) (List.replicate (kb 2) 0) (List.replicate (kb 3) 0) (List.replicate (kb 4) 0) [] []⟩) ((aB.more [.arr tI 1 false 0 (.ts [])]).trans (τ [0,1,2,3,10,11,5,6,7,8,9,12] rfl ⟨rfl,rfl,rfl,rfl,rfl,rfl,trivial⟩ ⟨rfl,rfl,rfl,rfl,rfl,rfl,rfl,rfl,rfl,rfl,rfl,rfl,trivial⟩)) (kH d hd f ie hG L hL rF h8 sz n 5 hn kM hN kb (nU kb 5) lQ th kp hlen (List.replicate (kb 0) 0) (List.replicate (kb 1) 0) (List.replicate (kb 2) 0) (List.replicate (kb 3) 0) (List.replicate (kb 4) 0) [] zf _ ?_)
  intro b1 ip w m0 m1 w0 w1 lz c0 c1 c2 c3 c4 c5 hw hM
  obtain⟨oJ,bn⟩:=x9 w m0 m1 w0 w1 lz [c0,c1,c2,c3,c4] hw hM
  exact⟨.t (ng sz m0 m1 w0 w1 lz [c0,c1,c2,c3,c4]),⟨m0,m1,w0,w1,lz,[c0,c1,c2,c3,c4],by rw[bE,hL],oJ⟩,_,_,rfl,a9.sO ⟨.refl _,.refl _,.refl _,.refl _,.refl _,mu (kb:=kb) (C:=[c0,c1,c2,c3,c4]) bn,.refl _,trivial⟩⟩
 ·subst D7
  refine δ (n:=((n:Nat):Int)) (by rw[IntKind.wrap_i64];omega) ?_
  refine mf.at (s':=⟨mE f 0 [],mH d sz n 6 (nU kb 6) 0 0 0 0 0 false (List.replicate (kb 0) 0) (List.replicate (kb 1) 0) (List.replicate (kb 2) 0) (List.replicate (kb 3) 0) (List.replicate (kb 4) 0) (List.replicate (kb 5) 0) []⟩) ((aB.more []).trans (τ [0,1,2,3,11,12,5,6,7,8,9,10] rfl ⟨rfl,rfl,rfl,rfl,rfl,rfl,trivial⟩ ⟨rfl,rfl,rfl,rfl,rfl,rfl,rfl,rfl,rfl,rfl,rfl,rfl,trivial⟩)) (kH d hd f ie hG L hL rF h8 sz n 6 hn kM hN kb (nU kb 6) lQ th kp hlen (List.replicate (kb 0) 0) (List.replicate (kb 1) 0) (List.replicate (kb 2) 0) (List.replicate (kb 3) 0) (List.replicate (kb 4) 0) (List.replicate (kb 5) 0) zf _ ?_)
  intro b1 ip w m0 m1 w0 w1 lz c0 c1 c2 c3 c4 c5 hw hM
  obtain⟨oJ,bn⟩:=x9 w m0 m1 w0 w1 lz [c0,c1,c2,c3,c4,c5] hw hM
  exact⟨.t (ng sz m0 m1 w0 w1 lz [c0,c1,c2,c3,c4,c5]),⟨m0,m1,w0,w1,lz,[c0,c1,c2,c3,c4,c5],by rw[bE,hL],oJ⟩,_,_,rfl,a9.sO ⟨.refl _,.refl _,.refl _,.refl _,.refl _,mu (kb:=kb) (C:=[c0,c1,c2,c3,c4,c5]) bn,.refl _,trivial⟩⟩
end Go.Proofs.YtcogcbplmkcojaaGreatDoor
