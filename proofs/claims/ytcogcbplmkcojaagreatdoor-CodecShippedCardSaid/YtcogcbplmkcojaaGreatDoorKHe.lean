/-
  Effects: the widths of their terms; which effects are right.
-/
import Derived.Test.YtcogcbplmkcojaaGreatDoorKWe
import Derived.Test.YtcogcbplmkcojaaGreatDoorKHd
namespace Go.Proofs.YtcogcbplmkcojaaGreatDoor
open Go.IntWalk
set_option maxRecDepth 100000
set_option linter.unusedVariables false
set_option linter.unusedSimpArgs false
set_option maxHeartbeats 1000000
def Ni:Ord:=(.op 0 [] (.op 1 [0] (.op 2 [1,0] (.op 3 [1,0] (.op 4 [3,2,1,0] (.op 5 [4,3,2,1,0] (.op 6 [5,4,3,2,1,0] (.op 7 [3,2,1,0] (.op 8 [3,2,1,0] (.op 9 [] (.op 10 [] .nil)))))))))))
def Kc:Ord:=(.op 0 [] (.op 1 [] (.op 2 [] (.op 3 [] (.op 4 [] (.op 5 [] (.op 6 [5] (.op 7 [6,5] (.op 8 [6,5] (.op 9 [6,5] (.op 10 [9,8,7,6,5] (.op 11 [] (.op 12 [] (.op 13 [] (.op 14 [] (.op 15 [] (.op 16 [] (.op 17 [16,15,14] (.op 18 [] (.op 19 [] (.op 20 [] .nil)))))))))))))))))))))
def Nd:Ord:=(.op 0 [] (.op 1 [0] (.op 2 [] (.op 3 [] (.op 4 [] (.op 5 [] (.op 6 [] (.op 7 [6] (.op 8 [7,6] (.op 10 [8,7,6] (.op 11 [10,8,7,6] (.op 12 [8,7,6] (.op 13 [8,7,6] (.op 9 [13,12,11,10] (.op 14 [] (.op 15 [] .nil))))))))))))))))
theorem GZ(d:ο)(f:Ψ)(op w a b:Int):0≤ml d f op w a b∧ml d f op w a b≤128:=by
 have hr:=Hq d f a b
 unfold ml lg
 repeat' split
 all_goals omega
theorem GY{op w a b x:Int}(hx:0≤x∧x≤128):0≤gb op w a b x∧gb op w a b x≤128:=by
 unfold gb lg rf
 repeat' split
 all_goals omega
theorem GX{op x y:Int}(hx:0≤x∧x≤128)(hy:0≤y∧y≤128):0≤bX op x y∧bX op x y≤128:=by
 unfold bX
 repeat' split
 all_goals omega
theorem GW{op x y z:Int}(hx:0≤x∧x≤128)(hy:0≤y∧y≤128):0≤qR op x y z∧qR op x y z≤128:=by
 unfold qR
 repeat' split
 all_goals omega
abbrev rS(op w a b:Int)(ks:List T):T:= .agg [.int .i64 op,.int .i64 w,.int .i64 a,.int .i64 b,.θ 5 ks]
inductive ee(d:ο)(f:Ψ):T→Int→Prop
 |k0 (op w a b):ee d f (rS op w a b []) (ml d f op w a b)
 |k1 (op w a b) {k x}:ee d f k x→ee d f (rS op w a b [k]) (gb op w a b x)
 |k2 (op w a b) {k x l y}:ee d f k x→ee d f l y→ee d f (rS op w a b [k,l]) (bX op x y)
 |k3 (op w a b) {k x l y m z}:ee d f k x→ee d f l y→ee d f m z→ee d f (rS op w a b [k,l,m]) (qR op x y z)
 |kn (op w a b) (k l m n ks):ee d f (rS op w a b (k::l::m::n::ks)) 0
theorem ee.p9{d:ο}{f:Ψ}{t:T}{x:Int}(h:ee d f t x):∀{y:Int},ee d f t y→x=y:=by
 induction h with
 |k0 op w a b=>intro y k;cases k;rfl
 |k1 op w a b _ ih=>intro y k;cases k with|k1 _ _ _ _ k=>rw[ih k]
 |k2 op w a b _ _ i1 i2=>intro y k;cases k with|k2 _ _ _ _ k l=>rw[i1 k,i2 l]
 |k3 op w a b _ _ _ i1 i2 i3=>intro y k;cases k with|k3 _ _ _ _ k l m=>rw[i1 k,i2 l,i3 m]
 |kn op w a b k l m n ks=>intro y k;cases k;rfl
theorem GV(d:ο)(f:Ψ){t:T}(h:aX t):∃v:Int,(0≤v∧v≤128)∧ee d f t v∧φ Tryz.prog 126 [ax d,ah f,t] (.t (.int .i64 v)):=by
 induction h with
 |mk op w a b ks ho hw ha hb hl tk ih=>
  match ks,tk,ih with
  |[],_,_=>
   exact⟨ml d f op w a b,GZ ..,.k0 ..,RB d f op w a b hb⟩
  |[k0],tk,ih=>
   obtain⟨x,hx,wx,rx⟩:=ih k0 (by simp)
   have h0:=tk k0 (by simp)
   refine⟨gb op w a b x,GY hx,.k1 _ _ _ _ wx,?_⟩
   by_cases hk:eZ op=1
   ·rcases QV hk with rfl|rfl|rfl|rfl|rfl|rfl
    ·exact Jp d f w a b ha hb h0 hx rx
    ·exact Jo d f w a b ha hb h0 hx rx
    ·exact Jn d f w a b ha hb h0 hx rx
    ·exact Jm d f w a b ha hb h0 hx rx
    ·exact Jl d f w a b ha hb h0 hx rx
    ·exact Jk d f w a b ha hb h0 hx rx
   ·rw[Qj hk];exact tE d f op w a b [k0] hk
  |[k0,k1],tk,ih=>
   obtain⟨x,hx,wx,rx⟩:=ih k0 (by simp)
   obtain⟨y,hy,wy,ry⟩:=ih k1 (by simp)
   have h0:=tk k0 (by simp)
   have h1:=tk k1 (by simp)
   refine⟨bX op x y,GX hx hy,.k2 _ _ _ _ wx wy,?_⟩
   by_cases hk:eZ op=2
   ·rcases QU hk with rfl|rfl|rfl|rfl|rfl|rfl|rfl|rfl|rfl|rfl|rfl|rfl|rfl|rfl|rfl|rfl|rfl
    ·exact ML d f w a b ha hb h0 hx rx h1 hy ry
    ·exact MK d f w a b ha hb h0 hx rx h1 hy ry
    ·exact MJ d f w a b ha hb h0 hx rx h1 hy ry
    ·exact MI d f w a b ha hb h0 hx rx h1 hy ry
    ·exact MH d f w a b ha hb h0 hx rx h1 hy ry
    ·exact MG d f w a b ha hb h0 hx rx h1 hy ry
    ·exact MF d f w a b ha hb h0 hx rx h1 hy ry
    ·exact ME d f w a b ha hb h0 hx rx h1 hy ry
    ·exact MD d f w a b ha hb h0 hx rx h1 hy ry
    ·exact Jj d f w a b ha hb h0 hx rx h1 hy ry
    ·exact Ji d f w a b ha hb h0 hx rx h1 hy ry
    ·exact Jh d f w a b ha hb h0 hx rx h1 hy ry
    ·exact Jg d f w a b ha hb h0 hx rx h1 hy ry
    ·exact Jc d f w a b ha hb h0 hx rx h1 hy ry
    ·exact Jb d f w a b ha hb h0 hx rx h1 hy ry
    ·exact Ja d f w a b ha hb h0 hx rx h1 hy ry
    ·exact I_ d f w a b ha hb h0 hx rx h1 hy ry
   ·rw[Qi hk];exact tE d f op w a b [k0,k1] hk
  |[k0,k1,k2],tk,ih=>
   obtain⟨x,hx,wx,rx⟩:=ih k0 (by simp)
   obtain⟨y,hy,wy,ry⟩:=ih k1 (by simp)
   obtain⟨z,hz,wz,rz⟩:=ih k2 (by simp)
   have h0:=tk k0 (by simp)
   have h1:=tk k1 (by simp)
   have h2:=tk k2 (by simp)
   refine⟨qR op x y z,GW hx hy,.k3 _ _ _ _ wx wy wz,?_⟩
   by_cases hk:eZ op=3
   ·obtain rfl:=QT hk
    exact I9 d f w a b ha hb h0 hx rx h1 hy ry h2 hz rz
   ·rw[Qh hk];exact tE d f op w a b [k0,k1,k2] hk
  |k0::k1::k2::k3::ks,tk,ih=>
   have:=NM op
   exact⟨0,by omega,.kn ..,tE d f op w a b _ (by simp only[List.length_cons];omega)⟩
def dn(d:ο):List AV:=[.t (.str d.name),.t (.int .i64 d.order),.t (.θ 4 (d.files.map ec)),.t (.θ 3 (d.ag.map bz)),.t (.θ 1 (d.flags.map T.str)),.t (.θ 7 (d.classes.map aF)),.t (.θ 5 (d.forms.map ah)),.t (.θ 17 (d.aw.map eT)),.t (.θ 4 (d.uses.map gf)),.t (.θ 3 (d.av.map cX)),.t (.θ 3 (d.macros.map dv)),.t (.θ 2 (d.aT.map fK)),.t (.θ 3 (d.aQ.map bz))]
def iX(f:Ψ):List AV:=[.t (.str f.name),.t (.str f.eE),.t (.θ 2 (f.args.map Λ)),.t (.θ 4 (f.pieces.map eb)),.t (.θ 5 f.h_)]
def Gv(f:Ψ):T:= .bg [.str f.name,.str f.eE,.θ 2 (f.args.map Λ),.θ 4 (f.pieces.map eb),.θ 5 f.h_]
def p8(d:ο)(f:Ψ)(ks:List T)(ws:List Int):Prop:=ks.length=ws.length∧∀(i:Nat) k v,ks[i]?=some k→ws[i]?=some v→v≠0∧ee d f k v
theorem yq(d:ο)(f:Ψ)(ks:List T)(ht:∀k∈ks,aX k)(hl:ks.length≤9223372036854775807)(ws:List Int):
 ab Tryz.prog 71 [ax d,ah f,.θ 5 ks,.θ 1 (ws.map (T.int .i64))] (aR (p8 d f ks ws)):=by
 have fS:(ws.map (T.int .i64)).length=ws.length:=by simp
 refine ab.Γ ?_ aR.aJ
 refine γ.ξ ζ η Tryz.func71 rfl rfl ?_
 refine U (fun c0=> ?_) (fun c0=> ?_)
 ·exact ak fun h=>by
   have c0:((ks.length:Int)!=((ws.map (T.int .i64)).length:Int))=true:=c0
   rw[fS]at c0
   simp at c0
   exact c0 (by have:=h.1;omega)
 have c0:ks.length=ws.length:=by
  have:((ks.length:Int)!=((ws.map (T.int .i64)).length:Int))=false:=c0
  rw[fS]at this
  simp at this
  omega
 refine ao (fun i:Nat=>i≤ks.length∧∀(j:Nat) k v,j<i→ks[j]?=some k→ws[j]?=some v→v≠0∧ee d f k v) (fun i=>⟨[(3,.t (.θ 1 (ws.map (T.int .i64)))),(4,.ptr 0 0 0 0),(5,.ptr 1 0 0 0),(16,.t (.θ 5 ks)),(17,.t (.int .i64 (ks.length:Int))),(18,.t (.int .i64 i))],[.box (dn d),.box (iX f)]⟩)
  (fun i=>ks.length - i) 0 ⟨Nat.zero_le _,fun j _ _ h=>absurd h (Nat.not_lt_zero _)⟩ ?_ (fun i ⟨hi,hP⟩=> ?_)
 ·exact aM ⟨rfl,rfl,rfl,rfl,rfl,rfl,trivial⟩ rfl
 refine U (fun c=> ?_) (fun c=> ?_)
 ·have c:i<ks.length:=de c
  obtain⟨k,hk,BC⟩:=get_some (R:=ks) (i:=i) c
  obtain⟨v,hv⟩:∃v,ws[i]?=some v:=⟨ws[i],List.getElem?_eq_getElem (by omega)⟩
  have rA:=ht k BC
  obtain⟨u,_,Su,hu⟩:=GV d f rA
  obtain⟨kk,lE⟩:∃kk,kk=k:=⟨_,rfl⟩
  rw[←lE]at Su
  have fW:ks[i]?=some kk:=by rw[lE];exact hk
  cases rA with|mk op wd a b kids _ _ _ _ _ _=>
  refine ν (show ks[((i:Nat):Int).toNat]?=some _ from by rw[Int.toNat_natCast];exact hk) ?_
  refine υ Nd (by decide+kernel) ?_
  refine ν (show(ws.map (T.int .i64))[((i:Nat):Int).toNat]?=some (T.int .i64 v)from by rw[Int.toNat_natCast,List.getElem?_map,hv];rfl) ?_
  refine U (fun c1=> ?_) (fun c1=> ?_)
  ·refine And.intro (fun j hj=>by first|(cases hj;done)|exact χ.append _ _ _|exact χ.refl _ _) ?_
   exact ak fun h=>(h.2 i kk v fW hv).1 (by simpa using c1)
  have c1:¬v=0:=by simpa using c1
  refine ν (show(ws.map (T.int .i64))[((i:Nat):Int).toNat]?=some (T.int .i64 v)from by rw[Int.toNat_natCast,List.getElem?_map,hv];rfl) ?_
  refine γ.a8 hu rfl ⟨.refl _,.refl _,.refl _,trivial⟩ ?_
  refine And.intro (fun j hj=>by first|(cases hj;done)|exact χ.append _ _ _|exact χ.refl _ _) ?_
  refine U (fun c2=> ?_) (fun c2=> ?_)
  ·exact ak fun h=>by
    have c2:¬u=v:=by simpa using c2
    exact c2 (Su.p9 (h.2 i kk v fW hv).2)
  have c2:u=v:=by simpa using c2
  refine δ (n:=((i+1:Nat):Int)) (aj (n:=i+1) (by omega)) ?_
  conv=>whnf
  exact⟨⟨i+1,c,fun j k' v' h h1 h2=>by
   by_cases e:j=i
   ·subst e
    rw[fW]at h1;rw[hv]at h2
    cases h1;cases h2
    exact⟨c1,by rw[←c2];exact Su⟩
   ·exact hP j k' v' (by omega) h1 h2⟩,τ [0,1] rfl ⟨rfl,rfl,rfl,rfl,rfl,rfl,trivial⟩ ⟨rfl,rfl,trivial⟩,by show ks.length - (i+1)<ks.length - i;omega⟩
 ·have c:i=ks.length:=by have:=dm c;omega
  exact aZ ⟨fun _=>⟨c0,fun j k v h1 h2=>hP j k v (by have:=(List.getElem?_eq_some_iff.1 h1).1;omega) h1 h2⟩,fun _=>rfl⟩
inductive e_(d:ο)(f:Ψ):T→Prop
 |set {w a b:Int} {k:T} (h:jr d f a b≠0) (hw:ee d f k (jr d f a b)):e_ d f (rS 31 w a b [k])
 |flag {w a b:Int} {k:T} (h:0≤a∧a<d.flags.length) (hw:ee d f k 1):e_ d f (rS 32 w a b [k])
 |store {w a b:Int} {k l:T} (h:rf w) (hk:ee d f k 64) (hl:ee d f l w):e_ d f (rS 33 w a b [k,l])
 |jump {w a b:Int} {k:T} (hk:ee d f k 64):e_ d f (rS 34 w a b [k])
 |MN {w a b:Int} (h:1≤a∧a≤15):e_ d f (rS 35 w a b [])
 |sys {w a b:Int}:e_ d f (rS 36 w a b [])
 |when {w a b:Int} {k:T} {ks:List T} (hk:ee d f k 1) (hs:∀t∈ks,e_ d f t):e_ d f (rS 37 w a b (k::ks))
theorem yt{d:ο}{f:Ψ}{ks:List T}{v:Int}:p8 d f ks [v]↔∃k,ks=[k]∧v≠0∧ee d f k v:=by
 constructor
 ·rintro⟨h,h2⟩
  match ks,h with
  |[k],_=>exact⟨k,rfl,h2 0 k v rfl rfl⟩
 ·rintro⟨k,rfl,h1,h2⟩
  refine⟨rfl,fun i k' v' a b=> ?_⟩
  match i,a,b with
  |0,a,b=>cases a;cases b;exact⟨h1,h2⟩
theorem Ud{d:ο}{f:Ψ}{ks:List T}{u v:Int}:p8 d f ks [u,v]↔∃k l,ks=[k,l]∧(u≠0∧ee d f k u)∧(v≠0∧ee d f l v):=by
 constructor
 ·rintro⟨h,h2⟩
  match ks,h with
  |[k,l],_=>exact⟨k,l,rfl,h2 0 k u rfl rfl,h2 1 l v rfl rfl⟩
 ·rintro⟨k,l,rfl,h1,h2⟩
  refine⟨rfl,fun i k' v' a b=> ?_⟩
  match i,a,b with
  |0,a,b=>cases a;cases b;exact h1
  |1,a,b=>cases a;cases b;exact h2
theorem tX{a b:Int}(c:(a==b)=true):a=b:=by simpa using c
theorem It(d:ο)(f:Ψ){t:T}(h:aX t):ab Tryz.prog 26 [ax d,ah f,t] (aR (e_ d f t)):=by
 induction h with
 |mk op w a b ks _ _ _ uS hl ht ih=>
 have hW:∀ws:List Int,ab Tryz.prog 71 [ax d,ah f,.θ 5 ks,.θ 1 (ws.map (T.int .i64))] (aR (p8 d f ks ws)):=fun ws=>yq d f ks ht (dY hl) ws
 have hF:∀k∈ks,ab Tryz.prog 74 [k,nM d,Gv f] (aR (e_ d f k)):=fun k hk=>by
  have U3:=ih k hk
  have rA:=ht k hk
  obtain⟨P,hP⟩:∃P,P=e_ d f k:=⟨_,rfl⟩
  rw[←hP]at U3⊢
  cases rA with|mk op wd a b kk _ _ _ _ _ _=>
  refine ab.Γ ?_ aR.aJ
  refine γ.ξ ζ η Tryz.func74 rfl rfl ?_
  refine γ.cH U3 rfl ⟨.refl _,.refl _,.refl _,trivial⟩ ?_
  rintro _ ⟨bS,rfl,pS⟩
  exact aZ pS
 obtain⟨P,hP⟩:∃P,P=e_ d f (rS op w a b ks):=⟨_,rfl⟩
 rw[show e_ d f (.agg [.int .i64 op,.int .i64 w,.int .i64 a,.int .i64 b,.θ 5 ks])=P from hP.symm]
 have hI:P↔e_ d f (rS op w a b ks):=by rw[hP]
 clear hP
 refine ab.Γ ?_ aR.aJ
 refine γ.ξ ζ η Tryz.func26 rfl rfl ?_
 refine U (fun c=> ?_) (fun n1=> ?_)
 ·have hJ:P↔p8 d f ks [jr d f a b]:=by
   rw[hI,yt,tX c]
   exact⟨fun h=>by cases h with|set h hw=>exact⟨_,rfl,h,hw⟩,fun⟨k,e,h,hw⟩=>by subst e;exact .set h hw⟩
  refine υ Ni (by decide+kernel) ?_
  refine γ.a8 (uL d f op w a b ks uS) rfl ⟨.refl _,.refl _,.refl _,trivial⟩ ?_
  refine And.intro (fun j hj=>by first|(cases hj;done)|exact χ.append _ _ _|exact χ.refl _ _) ?_
  refine γ.cH (hW [jr d f a b]) rfl ⟨.refl _,.refl _,.refl _,.vec 1 _,trivial⟩ ?_
  rintro _ ⟨bS,rfl,pS⟩
  refine And.intro (fun j hj=>by first|(cases hj;done)|exact χ.append _ _ _|exact χ.refl _ _) ?_
  refine And.intro (fun j hj=>by first|(cases hj;done)|exact χ.append _ _ _|exact χ.refl _ _) ?_
  exact aZ (pS.trans hJ.symm)
 refine U (fun c=> ?_) (fun n2=> ?_)
 ·have hJ:P↔(0≤a∧a<d.flags.length)∧p8 d f ks [1]:=by
   rw[hI,yt,tX c]
   exact⟨fun h=>by cases h with|flag h hw=>exact⟨h,_,rfl,by decide,hw⟩,fun⟨h,k,e,_,hw⟩=>by subst e;exact .flag h hw⟩
  refine γ.pure (cJ _ _) rfl ?_
  refine U (fun c1=> ?_) (fun c1=> ?_)
  rotate_left 1
  ·exact ak fun h=>p6 c1 (hJ.1 h).1
  have c1:=qw c1
  refine γ.cH (hW [1]) rfl ⟨.refl _,.refl _,.refl _,.vec 1 _,trivial⟩ ?_
  rintro _ ⟨bS,rfl,pS⟩
  exact aZ ⟨fun h=>hJ.2 ⟨c1,pS.1 h⟩,fun h=>pS.2 (hJ.1 h).2⟩
 refine U (fun c=> ?_) (fun n3=> ?_)
 ·have hJ:P↔rf w∧p8 d f ks [64,w]:=by
   rw[hI,Ud,tX c]
   exact⟨fun h=>by cases h with|store q q1 q2=>exact⟨q,_,_,rfl,⟨by decide,q1⟩,by unfold rf at q;omega,q2⟩,fun⟨q,k,l,e,⟨_,q1⟩,_,q2⟩=>by subst e;exact .store q q1 q2⟩
  refine γ.pure (xj _) rfl ?_
  refine U (fun c1=> ?_) (fun c1=> ?_)
  rotate_left 1
  ·exact ak fun h=>of_decide_eq_false c1 (hJ.1 h).1
  have c1:=of_decide_eq_true c1
  refine γ.cH (hW [64,w]) rfl ⟨.refl _,.refl _,.refl _,.vec 1 _,trivial⟩ ?_
  rintro _ ⟨bS,rfl,pS⟩
  exact aZ ⟨fun h=>hJ.2 ⟨c1,pS.1 h⟩,fun h=>pS.2 (hJ.1 h).2⟩
 refine U (fun c=> ?_) (fun n4=> ?_)
 ·have hJ:P↔p8 d f ks [64]:=by
   rw[hI,yt,tX c]
   exact⟨fun h=>by cases h with|jump hw=>exact⟨_,rfl,by decide,hw⟩,fun⟨k,e,_,hw⟩=>by subst e;exact .jump hw⟩
  refine γ.cH (hW [64]) rfl ⟨.refl _,.refl _,.refl _,.vec 1 _,trivial⟩ ?_
  rintro _ ⟨bS,rfl,pS⟩
  exact aZ (pS.trans hJ.symm)
 refine U (fun c=> ?_) (fun n5=> ?_)
 ·have hJ:P↔(1≤a∧a≤15)∧ks=[]:=by
   rw[hI,tX c]
   exact⟨fun h=>by cases h with|MN h=>exact⟨h,rfl⟩,fun⟨h,e⟩=>by subst e;exact .MN h⟩
  refine U (fun c1=> ?_) (fun c1=> ?_)
  rotate_left 1
  ·exact ak fun h=>by have:=(hJ.1 h).1;have:=of_decide_eq_false c1;omega
  have c1:=of_decide_eq_true c1
  refine U (fun c2=> ?_) (fun c2=> ?_)
  rotate_left 1
  ·exact ak fun h=>by have:=(hJ.1 h).1;have:=of_decide_eq_false c2;omega
  have c2:=of_decide_eq_true c2
  exact aZ ⟨fun h=>hJ.2 ⟨by omega,by have:=eq_of_beq h;exact List.length_eq_zero_iff.1 (by omega)⟩,fun h=>by rw[(hJ.1 h).2];rfl⟩
 refine U (fun c=> ?_) (fun n6=> ?_)
 ·have hJ:P↔ks=[]:=by
   rw[hI,tX c]
   exact⟨fun h=>by cases h with|sys=>rfl,fun e=>by subst e;exact .sys⟩
  exact aZ ⟨fun h=>hJ.2 (by have:=eq_of_beq h;exact List.length_eq_zero_iff.1 (by omega)),fun h=>by rw[hJ.1 h];rfl⟩
 refine U (fun c=> ?_) (fun n7=> ?_)
 ·have hJ:P↔∃k l,ks=k::l∧ee d f k 1∧∀t∈l,e_ d f t:=by
   rw[hI,tX c]
   exact⟨fun h=>by cases h with|when hk hs=>exact⟨_,_,rfl,hk,hs⟩,fun⟨k,l,e,h1,h2⟩=>by subst e;exact .when h1 h2⟩
  refine υ Kc (by decide+kernel) ?_
  refine U (fun c1=> ?_) (fun c1=> ?_)
  rotate_left 1
  ·refine And.intro (fun j hj=>by first|(cases hj;done)|exact χ.append _ _ _|exact χ.refl _ _) ?_
   refine And.intro (fun j hj=>by first|(cases hj;done)|exact χ.append _ _ _|exact χ.refl _ _) ?_
   refine And.intro (fun j hj=>by first|(cases hj;done)|exact χ.append _ _ _|exact χ.refl _ _) ?_
   exact ak fun h=>by obtain⟨k,l,e,_⟩:=hJ.1 h;have:=of_decide_eq_false c1;rw[e]at this;simp at this
  have c1:1≤ks.length:=by have:=of_decide_eq_true c1;omega
  refine ε (show(decide ((0:Int)≤1)&&decide ((1:Int)≤(ks.length:Int)))=true from by simp;omega) ?_
  have Tq:=yq d f ((ks.drop 0).take (1 - 0)) (fun k hk=>ht k (List.mem_of_mem_drop (List.mem_of_mem_take hk))) (by rw[List.length_take];omega) [1]
  refine γ.cH Tq rfl ⟨.refl _,.refl _,.refl _,.vec 1 _,trivial⟩ ?_
  rintro _ ⟨bS,rfl,pS⟩
  refine And.intro (fun j hj=>by first|(cases hj;done)|exact χ.append _ _ _|exact χ.refl _ _) ?_
  refine U (fun c2=> ?_) (fun c2=> ?_)
  rotate_left 1
  ·refine And.intro (fun j hj=>by first|(cases hj;done)|exact χ.append _ _ _|exact χ.refl _ _) ?_
   refine And.intro (fun j hj=>by first|(cases hj;done)|exact χ.append _ _ _|exact χ.refl _ _) ?_
   exact ak fun h=>by
    obtain⟨k,l,e,h1,_⟩:=hJ.1 h
    have:=pS.2 (yt.2 ⟨k,by rw[e];rfl,by decide,h1⟩)
    rw[this]at c2;cases c2
  refine ε (show(decide ((0:Int)≤1)&&decide ((1:Int)≤(ks.length:Int)))=true from by simp;omega) ?_
  have hA:ab Tryz.prog 24 [.θ 5 ((ks.drop 1).take (ks.length - 1)),.fn (.func 74) [] [nM d,Gv f]] (aR (∀x∈(ks.drop 1).take (ks.length - 1),e_ d f x)):=
   xD _ (nM d) (Gv f) ((ks.drop 1).take (ks.length - 1)) (e_ d f) (by have:=dY hl;rw[List.length_take];omega) (fun k hk=>ht k (List.mem_of_mem_drop (List.mem_of_mem_take hk))) fun x hx=>hF x (List.mem_of_mem_drop (List.mem_of_mem_take hx))
  refine γ.cH hA rfl ⟨.refl _,.refl _,trivial⟩ ?_
  rintro _ ⟨bT,rfl,pT⟩
  refine And.intro (fun j hj=>by first|(cases hj;done)|exact χ.append _ _ _|exact χ.refl _ _) ?_
  refine And.intro (fun j hj=>by first|(cases hj;done)|exact χ.append _ _ _|exact χ.refl _ _) ?_
  refine aZ ⟨fun h=> ?_,fun h=> ?_⟩
  ·obtain⟨k,e,_,h1⟩:=yt.1 (pS.1 c2)
   match ks,c1,e,pT.1 h with
   |k0::l,_,e,h2=>
    cases e
    exact hJ.2 ⟨_,l,rfl,h1,fun t ht=>h2 t (by simpa using ht)⟩
  ·obtain⟨k,l,e,h1,h2⟩:=hJ.1 h
   exact pT.2 fun t ht=>h2 t (by rw[e]at ht;simpa using ht)
 exact ak fun h=>by
  have h:=hI.1 h
  have q1:=ne_of_beq_false n1
  have q2:=ne_of_beq_false n2
  have q3:=ne_of_beq_false n3
  have q4:=ne_of_beq_false n4
  have q5:=ne_of_beq_false n5
  have q6:=ne_of_beq_false n6
  have q7:=ne_of_beq_false n7
  cases h<;>simp at q1 q2 q3 q4 q5 q6 q7
end Go.Proofs.YtcogcbplmkcojaaGreatDoor
