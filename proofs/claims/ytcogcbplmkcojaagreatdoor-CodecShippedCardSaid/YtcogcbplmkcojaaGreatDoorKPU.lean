/-
  The ground of the walks of this seat, part PU.
-/
import Derived.Test.YtcogcbplmkcojaaGreatDoorKPQ
import Derived.Test.YtcogcbplmkcojaaGreatDoorKFg
namespace Go.Proofs.YtcogcbplmkcojaaGreatDoor
open Go.IntWalk
set_option maxRecDepth 100000
set_option linter.unusedVariables false
set_option linter.unusedSimpArgs false
set_option maxHeartbeats 4000000
def jl(t:fk):T:= .agg [.int .i64 t.at_,.int .i64 t.kind,.int .i64 t.num,.int .i64 0,.str t.word]
def Ru:List AV:=[.t (.int .i64 0),.t (.int .i64 0),.t (.int .i64 0),.t (.int .i64 0),.t (.str [])]
theorem Qo{c:UInt8}(h:p_ c=true):32≤c.toNat∧c.toNat≤126∧c.toNat≠34:=by
 unfold p_ at h
 simp only[jv,vz,Bool.and_eq_true,Bool.not_eq_true',decide_eq_true_eq,decide_eq_false_iff_not]at h
 exact⟨h.1.1,h.1.2,h.2⟩
theorem kS{l:List UInt8}{i j:Nat}:(l.drop i)[j]?=l[i+j]?:=by rw[List.getElem?_drop]
theorem Jw{s:List UInt8}(hs:s.length≤65536){i n:Nat}(hi:i<s.length)(hn:n=aV p_ (s.drop (i+1)))(hq:s[i+1+n]?=some 34):
 φ Tryz.prog 107 [.str s,.int .i64 i] (.aq [.t (jl ⟨i,3,0,(s.drop (i+1)).take n⟩),.t (.int .i64 (i+1+n+1:Nat))]):=by
 have ω:i+1+n<s.length:=(List.getElem?_eq_some_iff.1 hq).1
 have bZ:=iN p_ (s.drop (i+1))
 rw[←hn]at bZ
 refine φ.Γ ?_ rfl
 refine γ.ξ ζ η Tryz.func107 rfl rfl ?_
 refine δ (n:=((i+1:Nat):Int)) (aj (n:=i+1) (by omega)) ?_
 refine ao (fun j:Nat=>i+1≤j∧j≤i+1+n) (fun j=>⟨[(0,.t (.str s)),(1,.t (.int .i64 i)),(4,.ptr 0 0 0 0),(6,.t (.int .i64 j))],[.box Ru]⟩) (fun j=>s.length - j) (i+1) ⟨Nat.le_refl _,by omega⟩ ?_ (fun j ⟨rC,sk⟩=> ?_)
 ·exact τ [0] rfl ⟨rfl,rfl,rfl,rfl,trivial⟩ ⟨rfl,trivial⟩
 have rC:i+1≤j:=rC
 have sk:j≤i+1+n:=sk
 refine U (fun c=> ?_) (fun c=>absurd (dm c) (by omega))
 obtain⟨x,hx,dk⟩:=get_some (R:=s) (i:=j) (by omega)
 have fw:s[((j:Nat):Int).toNat]?=some x:=by rw[Int.toNat_natCast];exact hx
 by_cases he:j=i+1+n
 ·subst he
  rw[hx]at hq
  obtain rfl:=Option.some.inj hq
  refine ν fw ?_
  refine ν fw ?_
  refine δ (n:=((i+1:Nat):Int)) (aj (n:=i+1) (by omega)) ?_
  refine ε (by simp;omega) ?_
  refine ε (by simp;omega) ?_
  refine δ (n:=((i+1+n+1:Nat):Int)) (aj (n:=i+1+n+1) (by omega)) ?_
  exact And.intro ⟨congrArg (fun l=>some (T.agg [.int .i64 i,.int .i64 3,.int .i64 0,.int .i64 0,.str l])) (show(s.drop (i+1)).take (i+1+n - (i+1))=(s.drop (i+1)).take n by rw[Nat.add_sub_cancel_left]),rfl,trivial⟩ rfl
 ·have DN:=Qo (bZ (j - (i+1)) x (by omega) (by rw[kS,show i+1+(j - (i+1))=j by omega];exact hx))
  refine ν fw ?_
  refine U (fun _=> ?_) (fun c=>absurd (u9 (k:=10) c) (by omega))
  refine ν fw ?_
  refine U (fun c=>absurd (fq (k:=34) c) DN.2.2) (fun _=> ?_)
  refine ν fw ?_
  refine U (fun c=>absurd (of_decide_eq_true c) (by omega)) (fun _=> ?_)
  refine ν fw ?_
  refine U (fun c=>absurd (of_decide_eq_true c) (by omega)) (fun _=> ?_)
  refine δ (n:=((j+1:Nat):Int)) (aj (n:=j+1) (by omega)) ?_
  conv=>whnf
  exact⟨⟨j+1,by omega,by omega⟩,τ [0] rfl ⟨rfl,rfl,rfl,rfl,trivial⟩ ⟨rfl,trivial⟩,by show s.length - (j+1)<s.length - j;omega⟩
inductive WA(f:Nat)(c:UInt8)(r:List UInt8)(a:Nat)(acc out:List fk):Prop where
 |blank (h:c=32∨c=10) (k:gg f r (a+1) acc=some out)
 |line (h:c=59) (k:gg f (r.drop (aV ln r)) (a+1+aV ln r) acc=some out)
 |op (h:c=40) (k:gg f r (a+1) (⟨a,4,0,[]⟩::acc)=some out)
 |cl (h:c=41) (k:gg f r (a+1) (⟨a,5,0,[]⟩::acc)=some out)
 |text (n:Nat) (hn:n=aV p_ r) (h:c=34) (hq:r[n]?=some 34) (k:gg f (r.drop (n+1)) (a+1+n+1) (⟨a,3,0,r.take n⟩::acc)=some out)
 |num (n:Nat) (hn:n=aV fe r) (h:fe c=true) (hd:c.toNat=45∨48≤c.toNat∧c.toNat≤57) (v:Int) (hv:xU (c::r.take n)=some v) (k:gg f (r.drop n) (a+1+n) (⟨a,2,v,[]⟩::acc)=some out)
 |word (n:Nat) (hn:n=aV fe r) (h:fe c=true) (hd:¬(c.toNat=45∨48≤c.toNat∧c.toNat≤57)) (k:gg f (r.drop n) (a+1+n) (⟨a,1,0,c::r.take n⟩::acc)=some out)
theorem xY{f:Nat}{c:UInt8}{r:List UInt8}{a:Nat}{acc out:List fk}(h:gg (f+1) (c::r) a acc=some out):WA f c r a acc out:=by
 unfold gg at h
 simp only[jv]at h
 split at h
 ·rename_i e
  simp only[Bool.or_eq_true,decide_eq_true_eq]at e
  exact .blank (e.imp (fun e=>UInt8.toNat.inj e) (fun e=>UInt8.toNat.inj e)) h
 split at h
 ·rename_i e
  simp only[decide_eq_true_eq]at e
  exact .line (UInt8.toNat.inj e) h
 split at h
 ·rename_i e
  simp only[decide_eq_true_eq]at e
  exact .op (UInt8.toNat.inj e) h
 split at h
 ·rename_i e
  simp only[decide_eq_true_eq]at e
  exact .cl (UInt8.toNat.inj e) h
 split at h
 ·rename_i e
  simp only[decide_eq_true_eq]at e
  split at h
  ·rename_i q r' hq
   split at h
   ·rename_i e2
    simp only[decide_eq_true_eq]at e2
    obtain rfl:q=34:=UInt8.toNat.inj e2
    have h0:r[aV p_ r]?=some 34:=by
     have:=congrArg (·[0]?) hq
     simpa using this
    have h1:r.drop (aV p_ r+1)=r':=by rw[←List.drop_drop,hq];rfl
    refine .text _ rfl (UInt8.toNat.inj e) h0 ?_
    rw[h1,show a+1+aV p_ r+1=a+aV p_ r+2 by omega]
    exact h
   ·cases h
  ·cases h
 split at h
 ·cases h
 rename_i hr
 split at h
 ·rename_i e
  simp only[wc,vz,Bool.or_eq_true,Bool.and_eq_true,decide_eq_true_eq]at e
  split at h
  ·rename_i v hv
   exact .num _ rfl hr e v hv h
  ·cases h
 ·rename_i e
  simp only[wc,vz,Bool.or_eq_false_iff,Bool.and_eq_false_iff,decide_eq_false_iff_not]at e
  exact .word _ rfl hr (by omega) h
end Go.Proofs.YtcogcbplmkcojaaGreatDoor
namespace Go.Proofs.YtcogcbplmkcojaaGreatDoor
open Go.IntWalk
set_option maxRecDepth 100000
set_option linter.unusedVariables false
set_option linter.unusedSimpArgs false
set_option maxHeartbeats 4000000
theorem jk(acc:List fk)(t:fk):some (Ω.arr 131 5 false 0 (.ts (acc.reverse.map jl++[jl t])))=some (Ω.arr 131 5 false 0 (.ts ((t::acc).reverse.map jl))):=by rw[List.reverse_cons,List.map_append];rfl
theorem FJ{s:List UInt8}{i n:Nat}{c:UInt8}(hc:s[i]?=some c):(s.drop i).take (i+1+n - i)=c::(s.drop (i+1)).take n:=by
 rw[drop_cons hc,show i+1+n - i=n+1 by omega,List.take_succ_cons]
theorem NK{c:UInt8}(h:ln c=true):c.toNat≠10:=by
 unfold ln at h
 simpa[jv]using h
theorem NL{c:UInt8}(h:ln c=false):c.toNat=10:=by
 unfold ln at h
 simpa[jv]using h
theorem FT{c:UInt8}(h:fe c=true):32<c.toNat∧c.toNat<127∧c.toNat≠40∧c.toNat≠41∧c.toNat≠34∧c.toNat≠59:=by
 unfold fe at h
 simp only[jv,NA,Bool.and_eq_true,Bool.not_eq_true',decide_eq_true_eq,decide_eq_false_iff_not]at h
 omega
theorem mO:∀(f:Nat) (r:List UInt8) (a:Nat) (acc:List fk) {out:List fk},gg f r a acc=some out→acc.length≤a→out.length≤a+r.length
 |f,[],a,acc,out,h,hl=>by
  have hx:acc=out:=by
   cases f<;>(unfold gg at h;exact Option.some.inj h)
  subst hx
  omega
 |0,_::_,a,acc,out,h,_=>by cases h
 |f+1,c::r,a,acc,out,h,hl=>by
  have e:(c::r).length=r.length+1:=rfl
  rcases xY h with⟨_,k⟩|⟨_,k⟩|⟨_,k⟩|⟨_,k⟩|⟨n,_,_,hq,k⟩|⟨n,hn,_,_,v,_,k⟩|⟨n,hn,_,_,k⟩
  ·have:=mO f _ _ _ k (by omega);omega
  ·have h1:=gw ln r
   have:=mO f _ _ _ k (by omega)
   rw[List.length_drop]at this
   omega
  ·have:=mO f _ _ _ k (by rw[List.length_cons];omega);omega
  ·have:=mO f _ _ _ k (by rw[List.length_cons];omega);omega
  ·have h1:n<r.length:=(List.getElem?_eq_some_iff.1 hq).1
   have:=mO f _ _ _ k (by rw[List.length_cons];omega)
   rw[List.length_drop]at this
   omega
  ·have h1:=gw fe r
   rw[←hn]at h1
   have:=mO f _ _ _ k (by rw[List.length_cons];omega)
   rw[List.length_drop]at this
   omega
  ·have h1:=gw fe r
   rw[←hn]at h1
   have:=mO f _ _ _ k (by rw[List.length_cons];omega)
   rw[List.length_drop]at this
   omega
theorem Ff{s:List UInt8}(hs:s.length≤65536){out:List fk}(h:gg s.length s 0 []=some out):φ Tryz.prog 47 [.str s] (.own 131 5 false (out.reverse.map jl))∧out.length≤65536:=by
 refine⟨?_,by have:=mO _ _ _ _ h (Nat.zero_le _);omega⟩
 refine φ.gy ?_ rfl
 refine γ.ξ ζ η Tryz.func47 rfl rfl ?_
 refine ao (fun x:Nat×Nat×List fk=>gg x.1 (s.drop x.2.1) x.2.1 x.2.2=some out∧x.2.1≤s.length∧x.2.2.length≤x.2.1) (fun x:Nat×Nat×List fk=>⟨[(0,.t (.str s)),(3,.sl 0 0 0 x.2.2.length),(4,.t (.int .i64 (x.2.1:Nat)))],[.arr 131 5 false 0 (.ts (x.2.2.reverse.map jl))]⟩) (fun x=>s.length - x.2.1) (s.length,0,[]) ⟨h,Nat.zero_le _,Nat.le_refl _⟩ ?_ (fun⟨f,i,acc⟩ ⟨hx,hi,Tp⟩=> ?_)
 ·exact τ [1] rfl ⟨rfl,rfl,rfl,trivial⟩ ⟨rfl,trivial⟩
 have hx:gg f (s.drop i) i acc=some out:=hx
 have hi:i≤s.length:=hi
 have Tp:acc.length≤i:=Tp
 refine U (fun c=> ?_) (fun c=> ?_)
 ·have bn:i<s.length:=de c
  clear c
  obtain⟨x,mQ,dk⟩:=get_some (R:=s) (i:=i) bn
  have fw:s[((i:Nat):Int).toNat]?=some x:=by rw[Int.toNat_natCast];exact mQ
  rw[drop_cons mQ]at hx
  cases f with
  |zero=>cases hx
  |succ f=>
  have bx:acc.length+1≤100000:=by omega
  have mS:acc.length=(acc.reverse.map jl).length:=by simp
  refine ν fw ?_
  refine δ (n:=((i+1:Nat):Int)) (aj (n:=i+1) (by omega)) ?_
  rcases xY hx with⟨h,k⟩|⟨h,k⟩|⟨h,k⟩|⟨h,k⟩|⟨n,hn,h,hq,k⟩|⟨n,hn,h,hd,v,hv,k⟩|⟨n,hn,h,hd,k⟩
  ·rcases h with rfl|rfl
   ·refine δ (n:=((i+1:Nat):Int)) (aj (n:=i+1) (by omega)) ?_
    conv=>whnf
    exact⟨⟨(f,i+1,acc),k,by show i+1≤s.length;omega,by show acc.length≤i+1;omega⟩,τ [0] rfl ⟨rfl,rfl,rfl,trivial⟩ ⟨rfl,trivial⟩,by show s.length - (i+1)<s.length - i;omega⟩
   ·refine δ (n:=((i+1:Nat):Int)) (aj (n:=i+1) (by omega)) ?_
    conv=>whnf
    exact⟨⟨(f,i+1,acc),k,by show i+1≤s.length;omega,by show acc.length≤i+1;omega⟩,τ [0] rfl ⟨rfl,rfl,rfl,trivial⟩ ⟨rfl,trivial⟩,by show s.length - (i+1)<s.length - i;omega⟩
  ·subst h
   obtain⟨n,hn⟩:∃n,n=aV ln (s.drop (i+1)):=⟨_,rfl⟩
   have hle:=gw ln (s.drop (i+1))
   have bZ:=iN ln (s.drop (i+1))
   have iS:=jM ln (s.drop (i+1))
   rw[←hn]at k hle bZ iS
   rw[List.length_drop]at hle
   rw[List.drop_drop]at k
   refine ao (fun j:Nat=>i≤j∧j≤i+1+n) (fun j=>⟨[(0,.t (.str s)),(3,.sl 0 0 0 acc.length),(4,.t (.int .i64 (j:Nat)))],[.arr 131 5 false 0 (.ts (acc.reverse.map jl))]⟩) (fun j=>s.length - j) i ⟨Nat.le_refl _,by omega⟩ ?_ (fun j ⟨rC,sk⟩=> ?_)
   ·exact τ [0] rfl ⟨rfl,rfl,rfl,trivial⟩ ⟨rfl,trivial⟩
   have rC:i≤j:=rC
   have sk:j≤i+1+n:=sk
   refine U (fun cj=> ?_) (fun cj=> ?_)
   ·have cj:j<s.length:=de cj
    obtain⟨y,hy,_⟩:=get_some (R:=s) (i:=j) cj
    have Lg:s[((j:Nat):Int).toNat]?=some y:=by rw[Int.toNat_natCast];exact hy
    refine ν Lg ?_
    refine U (fun e=> ?_) (fun e=> ?_)
    ·have e:=xG (k:=10) e
     have ω:j<i+1+n:=by
      rcases Nat.lt_or_ge j (i+1+n)with h1|h1
      ·exact h1
      ·obtain rfl:j=i+1+n:=by omega
       exact absurd (NL (iS y (by rw[kS];exact hy))) e
     refine δ (n:=((j+1:Nat):Int)) (aj (n:=j+1) (by omega)) ?_
     conv=>whnf
     exact⟨⟨j+1,by omega,by omega⟩,τ [0] rfl ⟨rfl,rfl,rfl,trivial⟩ ⟨rfl,trivial⟩,by show s.length - (j+1)<s.length - j;omega⟩
    ·have e:=u9 (k:=10) e
     have:j=i+1+n:=by
      rcases Nat.lt_or_ge j (i+1+n)with h1|h1
      ·rcases Nat.eq_or_lt_of_le rC with h2|h2
       ·subst h2
        rw[mQ]at hy
        obtain rfl:=Option.some.inj hy
        exact absurd e (by decide)
       ·exact absurd e (NK (bZ (j - (i+1)) y (by omega) (by rw[kS,show i+1+(j - (i+1))=j by omega];exact hy)))
      ·omega
     subst this
     conv=>whnf
     exact⟨⟨(f,i+1+n,acc),k,by show i+1+n≤s.length;omega,by show acc.length≤i+1+n;omega⟩,τ [0] rfl ⟨rfl,rfl,rfl,trivial⟩ ⟨rfl,trivial⟩,by show s.length - (i+1+n)<s.length - i;omega⟩
   ·have cj:s.length≤j:=dm cj
    obtain rfl:j=i+1+n:=by omega
    conv=>whnf
    exact⟨⟨(f,i+1+n,acc),k,by show i+1+n≤s.length;omega,by show acc.length≤i+1+n;omega⟩,τ [0] rfl ⟨rfl,rfl,rfl,trivial⟩ ⟨rfl,trivial⟩,by show s.length - (i+1+n)<s.length - i;omega⟩
  ·subst h
   refine Or.inl (And.intro mS (ε (cL bx rfl) ?_))
   conv=>whnf
   exact⟨⟨(f,i+1,⟨i,4,0,[]⟩::acc),k,by show i+1≤s.length;omega,by show acc.length+1≤i+1;omega⟩,τ [0] rfl ⟨rfl,rfl,rfl,trivial⟩ ⟨jk acc ⟨i,4,0,[]⟩,trivial⟩,by show s.length - (i+1)<s.length - i;omega⟩
  ·subst h
   refine Or.inl (And.intro mS (ε (cL bx rfl) ?_))
   conv=>whnf
   exact⟨⟨(f,i+1,⟨i,5,0,[]⟩::acc),k,by show i+1≤s.length;omega,by show acc.length+1≤i+1;omega⟩,τ [0] rfl ⟨rfl,rfl,rfl,trivial⟩ ⟨jk acc ⟨i,5,0,[]⟩,trivial⟩,by show s.length - (i+1)<s.length - i;omega⟩
  ·subst h
   rw[kS]at hq
   rw[List.drop_drop]at k
   have ω:i+1+n<s.length:=(List.getElem?_eq_some_iff.1 hq).1
   have hT:=Jw hs bn hn hq
   refine γ.pure hT rfl ?_
   refine Or.inl (And.intro mS (ε (cL bx rfl) ?_))
   conv=>whnf
   exact⟨⟨(f,i+1+n+1,⟨i,3,0,(s.drop (i+1)).take n⟩::acc),k,by show i+1+n+1≤s.length;omega,by show acc.length+1≤i+1+n+1;omega⟩,τ [0] rfl ⟨rfl,rfl,rfl,trivial⟩ ⟨jk acc ⟨i,3,0,(s.drop (i+1)).take n⟩,trivial⟩,by show s.length - (i+1+n+1)<s.length - i;omega⟩
  ·have hr:=FT h
   have hle:=gw fe (s.drop (i+1))
   have bZ:=iN fe (s.drop (i+1))
   have iS:=jM fe (s.drop (i+1))
   rw[←hn]at hle bZ iS
   rw[List.length_drop]at hle
   rw[List.drop_drop]at k
   have Lx:=wP x
   rw[h]at Lx
   have hW:(s.drop i).take (i+1+n - i)=x::(s.drop (i+1)).take n:=FJ mQ
   refine U (fun e=>absurd (fq (k:=32) e) (by omega)) (fun _=> ?_)
   refine U (fun e=>absurd (fq (k:=10) e) (by omega)) (fun _=> ?_)
   refine U (fun e=>absurd (fq (k:=59) e) (by omega)) (fun _=> ?_)
   refine U (fun e=>absurd (fq (k:=40) e) (by omega)) (fun _=> ?_)
   refine U (fun e=>absurd (fq (k:=41) e) (by omega)) (fun _=> ?_)
   refine U (fun e=>absurd (fq (k:=34) e) (by omega)) (fun _=> ?_)
   refine γ.pure Lx rfl ?_
   refine ao (fun j:Nat=>i+1≤j∧j≤i+1+n) (fun j=>⟨[(0,.t (.str s)),(3,.sl 0 0 0 acc.length),(4,.t (.int .i64 (i:Nat))),(5,.t (.int .u8 x.toNat)),(6,.ptr 1 0 0 0),(7,.t (.int .i64 (j:Nat)))],[.arr 131 5 false 0 (.ts (acc.reverse.map jl)),.box [.t (.int .i64 i),.t (.int .i64 6),.t (.int .i64 0),.t (.int .i64 i),.t (.str [])]]⟩) (fun j=>s.length - j) (i+1) ⟨Nat.le_refl _,by omega⟩ ?_ (fun j ⟨rC,sk⟩=> ?_)
   ·exact τ [0,1] rfl ⟨rfl,rfl,rfl,rfl,rfl,rfl,trivial⟩ ⟨rfl,rfl,trivial⟩
   have rC:i+1≤j:=rC
   have sk:j≤i+1+n:=sk
   refine U (fun cj=> ?_) (fun cj=> ?_)
   ·have cj:j<s.length:=de cj
    obtain⟨y,hy,_⟩:=get_some (R:=s) (i:=j) cj
    have Lg:s[((j:Nat):Int).toNat]?=some y:=by rw[Int.toNat_natCast];exact hy
    have zg:=wP y
    refine ν Lg ?_
    cases nX:fe y with
    |true=>
     rw[nX]at zg
     refine γ.pure zg rfl ?_
     have ω:j<i+1+n:=by
      rcases Nat.lt_or_ge j (i+1+n)with h1|h1
      ·exact h1
      ·obtain rfl:j=i+1+n:=by omega
       have:=iS y (by rw[kS];exact hy)
       rw[nX]at this
       cases this
     refine δ (n:=((j+1:Nat):Int)) (aj (n:=j+1) (by omega)) ?_
     conv=>whnf
     exact⟨⟨j+1,by omega,by omega⟩,τ [0,1] rfl ⟨rfl,rfl,rfl,rfl,rfl,rfl,trivial⟩ ⟨rfl,rfl,trivial⟩,by show s.length - (j+1)<s.length - j;omega⟩
    |false=>
     rw[nX]at zg
     refine γ.pure zg rfl ?_
     have:j=i+1+n:=by
      rcases Nat.lt_or_ge j (i+1+n)with h1|h1
      ·have:=bZ (j - (i+1)) y (by omega) (by rw[kS,show i+1+(j - (i+1))=j by omega];exact hy)
       rw[nX]at this
       cases this
      ·omega
     subst this
     refine ε (by simp;omega) ?_
     refine ε (by simp;omega) ?_
     have hN:φ Tryz.prog 109 [.str ((s.drop i).take (i+1+n - i))] (.aq [.t (.int .i64 v),.t (.bool true)]):=by rw[hW];exact sF hv
     refine U (fun e=> ?_) (fun e=> ?_)
     ·refine γ.pure hN rfl ?_
      refine Or.inl (And.intro mS (ε (cL bx rfl) ?_))
      conv=>whnf
      exact⟨⟨(f,i+1+n,⟨i,2,v,[]⟩::acc),k,by show i+1+n≤s.length;omega,by show acc.length+1≤i+1+n;omega⟩,τ [0] rfl ⟨rfl,rfl,rfl,trivial⟩ ⟨jk acc ⟨i,2,v,[]⟩,trivial⟩,by show s.length - (i+1+n)<s.length - i;omega⟩
     ·have e:=yu (k:=45) e
      refine U (fun _=> ?_) (fun c=>absurd (of_decide_eq_false c) (by omega))
      refine U (fun _=> ?_) (fun c=>absurd (of_decide_eq_false c) (by omega))
      refine γ.pure hN rfl ?_
      refine Or.inl (And.intro mS (ε (cL bx rfl) ?_))
      conv=>whnf
      exact⟨⟨(f,i+1+n,⟨i,2,v,[]⟩::acc),k,by show i+1+n≤s.length;omega,by show acc.length+1≤i+1+n;omega⟩,τ [0] rfl ⟨rfl,rfl,rfl,trivial⟩ ⟨jk acc ⟨i,2,v,[]⟩,trivial⟩,by show s.length - (i+1+n)<s.length - i;omega⟩
   ·have cj:s.length≤j:=dm cj
    obtain rfl:j=i+1+n:=by omega
    refine ε (by simp;omega) ?_
    refine ε (by simp;omega) ?_
    have hN:φ Tryz.prog 109 [.str ((s.drop i).take (i+1+n - i))] (.aq [.t (.int .i64 v),.t (.bool true)]):=by rw[hW];exact sF hv
    refine U (fun e=> ?_) (fun e=> ?_)
    ·refine γ.pure hN rfl ?_
     refine Or.inl (And.intro mS (ε (cL bx rfl) ?_))
     conv=>whnf
     exact⟨⟨(f,i+1+n,⟨i,2,v,[]⟩::acc),k,by show i+1+n≤s.length;omega,by show acc.length+1≤i+1+n;omega⟩,τ [0] rfl ⟨rfl,rfl,rfl,trivial⟩ ⟨jk acc ⟨i,2,v,[]⟩,trivial⟩,by show s.length - (i+1+n)<s.length - i;omega⟩
    ·have e:=yu (k:=45) e
     refine U (fun _=> ?_) (fun c=>absurd (of_decide_eq_false c) (by omega))
     refine U (fun _=> ?_) (fun c=>absurd (of_decide_eq_false c) (by omega))
     refine γ.pure hN rfl ?_
     refine Or.inl (And.intro mS (ε (cL bx rfl) ?_))
     conv=>whnf
     exact⟨⟨(f,i+1+n,⟨i,2,v,[]⟩::acc),k,by show i+1+n≤s.length;omega,by show acc.length+1≤i+1+n;omega⟩,τ [0] rfl ⟨rfl,rfl,rfl,trivial⟩ ⟨jk acc ⟨i,2,v,[]⟩,trivial⟩,by show s.length - (i+1+n)<s.length - i;omega⟩
  ·have hr:=FT h
   have hle:=gw fe (s.drop (i+1))
   have bZ:=iN fe (s.drop (i+1))
   have iS:=jM fe (s.drop (i+1))
   rw[←hn]at hle bZ iS
   rw[List.length_drop]at hle
   rw[List.drop_drop]at k
   have Lx:=wP x
   rw[h]at Lx
   have hW:(s.drop i).take (i+1+n - i)=x::(s.drop (i+1)).take n:=FJ mQ
   refine U (fun e=>absurd (fq (k:=32) e) (by omega)) (fun _=> ?_)
   refine U (fun e=>absurd (fq (k:=10) e) (by omega)) (fun _=> ?_)
   refine U (fun e=>absurd (fq (k:=59) e) (by omega)) (fun _=> ?_)
   refine U (fun e=>absurd (fq (k:=40) e) (by omega)) (fun _=> ?_)
   refine U (fun e=>absurd (fq (k:=41) e) (by omega)) (fun _=> ?_)
   refine U (fun e=>absurd (fq (k:=34) e) (by omega)) (fun _=> ?_)
   refine γ.pure Lx rfl ?_
   refine ao (fun j:Nat=>i+1≤j∧j≤i+1+n) (fun j=>⟨[(0,.t (.str s)),(3,.sl 0 0 0 acc.length),(4,.t (.int .i64 (i:Nat))),(5,.t (.int .u8 x.toNat)),(6,.ptr 1 0 0 0),(7,.t (.int .i64 (j:Nat)))],[.arr 131 5 false 0 (.ts (acc.reverse.map jl)),.box [.t (.int .i64 i),.t (.int .i64 6),.t (.int .i64 0),.t (.int .i64 i),.t (.str [])]]⟩) (fun j=>s.length - j) (i+1) ⟨Nat.le_refl _,by omega⟩ ?_ (fun j ⟨rC,sk⟩=> ?_)
   ·exact τ [0,1] rfl ⟨rfl,rfl,rfl,rfl,rfl,rfl,trivial⟩ ⟨rfl,rfl,trivial⟩
   have rC:i+1≤j:=rC
   have sk:j≤i+1+n:=sk
   refine U (fun cj=> ?_) (fun cj=> ?_)
   ·have cj:j<s.length:=de cj
    obtain⟨y,hy,_⟩:=get_some (R:=s) (i:=j) cj
    have Lg:s[((j:Nat):Int).toNat]?=some y:=by rw[Int.toNat_natCast];exact hy
    have zg:=wP y
    refine ν Lg ?_
    cases nX:fe y with
    |true=>
     rw[nX]at zg
     refine γ.pure zg rfl ?_
     have ω:j<i+1+n:=by
      rcases Nat.lt_or_ge j (i+1+n)with h1|h1
      ·exact h1
      ·obtain rfl:j=i+1+n:=by omega
       have:=iS y (by rw[kS];exact hy)
       rw[nX]at this
       cases this
     refine δ (n:=((j+1:Nat):Int)) (aj (n:=j+1) (by omega)) ?_
     conv=>whnf
     exact⟨⟨j+1,by omega,by omega⟩,τ [0,1] rfl ⟨rfl,rfl,rfl,rfl,rfl,rfl,trivial⟩ ⟨rfl,rfl,trivial⟩,by show s.length - (j+1)<s.length - j;omega⟩
    |false=>
     rw[nX]at zg
     refine γ.pure zg rfl ?_
     have:j=i+1+n:=by
      rcases Nat.lt_or_ge j (i+1+n)with h1|h1
      ·have:=bZ (j - (i+1)) y (by omega) (by rw[kS,show i+1+(j - (i+1))=j by omega];exact hy)
       rw[nX]at this
       cases this
      ·omega
     subst this
     refine ε (by simp;omega) ?_
     refine ε (by simp;omega) ?_
     refine U (fun e=>absurd (fq (k:=45) e) (by omega)) (fun _=> ?_)
     refine U (fun e=> ?_) (fun e=> ?_)
     ·have e:=of_decide_eq_true e
      refine U (fun e2=>absurd (of_decide_eq_true e2) (by omega)) (fun _=> ?_)
      refine Or.inl (And.intro mS (ε (cL bx rfl) ?_))
      conv=>whnf
      exact⟨⟨(f,i+1+n,⟨i,1,0,x::(s.drop (i+1)).take n⟩::acc),k,by show i+1+n≤s.length;omega,by show acc.length+1≤i+1+n;omega⟩,τ [0] rfl ⟨rfl,rfl,rfl,trivial⟩ ⟨(congrArg (fun w=>some (Ω.arr 131 5 false 0 (.ts (acc.reverse.map jl++[jl ⟨i,1,0,w⟩])))) hW).trans (jk acc ⟨i,1,0,x::(s.drop (i+1)).take n⟩),trivial⟩,by show s.length - (i+1+n)<s.length - i;omega⟩
     ·refine Or.inl (And.intro mS (ε (cL bx rfl) ?_))
      conv=>whnf
      exact⟨⟨(f,i+1+n,⟨i,1,0,x::(s.drop (i+1)).take n⟩::acc),k,by show i+1+n≤s.length;omega,by show acc.length+1≤i+1+n;omega⟩,τ [0] rfl ⟨rfl,rfl,rfl,trivial⟩ ⟨(congrArg (fun w=>some (Ω.arr 131 5 false 0 (.ts (acc.reverse.map jl++[jl ⟨i,1,0,w⟩])))) hW).trans (jk acc ⟨i,1,0,x::(s.drop (i+1)).take n⟩),trivial⟩,by show s.length - (i+1+n)<s.length - i;omega⟩
   ·have cj:s.length≤j:=dm cj
    obtain rfl:j=i+1+n:=by omega
    refine ε (by simp;omega) ?_
    refine ε (by simp;omega) ?_
    refine U (fun e=>absurd (fq (k:=45) e) (by omega)) (fun _=> ?_)
    refine U (fun e=> ?_) (fun e=> ?_)
    ·have e:=of_decide_eq_true e
     refine U (fun e2=>absurd (of_decide_eq_true e2) (by omega)) (fun _=> ?_)
     refine Or.inl (And.intro mS (ε (cL bx rfl) ?_))
     conv=>whnf
     exact⟨⟨(f,i+1+n,⟨i,1,0,x::(s.drop (i+1)).take n⟩::acc),k,by show i+1+n≤s.length;omega,by show acc.length+1≤i+1+n;omega⟩,τ [0] rfl ⟨rfl,rfl,rfl,trivial⟩ ⟨(congrArg (fun w=>some (Ω.arr 131 5 false 0 (.ts (acc.reverse.map jl++[jl ⟨i,1,0,w⟩])))) hW).trans (jk acc ⟨i,1,0,x::(s.drop (i+1)).take n⟩),trivial⟩,by show s.length - (i+1+n)<s.length - i;omega⟩
    ·refine Or.inl (And.intro mS (ε (cL bx rfl) ?_))
     conv=>whnf
     exact⟨⟨(f,i+1+n,⟨i,1,0,x::(s.drop (i+1)).take n⟩::acc),k,by show i+1+n≤s.length;omega,by show acc.length+1≤i+1+n;omega⟩,τ [0] rfl ⟨rfl,rfl,rfl,trivial⟩ ⟨(congrArg (fun w=>some (Ω.arr 131 5 false 0 (.ts (acc.reverse.map jl++[jl ⟨i,1,0,w⟩])))) hW).trans (jk acc ⟨i,1,0,x::(s.drop (i+1)).take n⟩),trivial⟩,by show s.length - (i+1+n)<s.length - i;omega⟩
 ·have c:s.length≤i:=dm c
  have c:i=s.length:=by omega
  subst c
  rw[List.drop_length]at hx
  have hx:acc=out:=by
   cases f<;>(unfold gg at hx;exact Option.some.inj hx)
  subst hx
  exact⟨_,rfl,rfl,by simp,.refl _⟩
end Go.Proofs.YtcogcbplmkcojaaGreatDoor
namespace Go.Proofs.YtcogcbplmkcojaaGreatDoor
open Go.IntWalk
set_option maxRecDepth 100000
set_option linter.unusedVariables false
set_option linter.unusedSimpArgs false
set_option maxHeartbeats 4000000
def J3:Ord:=(.op 0 [] (.race (.op 1 [] (.op 2 [] (.op 3 [] .nil))) (.op 2 [] (.op 1 [] (.op 3 [] .nil)))))
def J2:Ord:=(.op 0 [] (.op 1 [0] (.op 2 [0] (.op 3 [2,1,0] (.op 4 [3,2,1,0] (.op 5 [3,2,1,0] (.op 6 [2,1,0] (.op 7 [2,1,0] (.op 8 [7,6,5,4,3,2,1,0] (.op 9 [8,2,1,0] (.op 10 [9,8,7,6,5,4,3,2,1,0] (.op 11 [] (.op 12 [] (.op 13 [] .nil))))))))))))))
def J1:Ord:=(.op 0 [] (.op 1 [0] (.op 2 [0] (.op 3 [2,1,0] (.op 4 [3,2,1,0] (.op 5 [3,2,1,0] (.op 6 [2,1,0] (.op 7 [2,1,0] (.op 8 [7,6,5,4,3,2,1,0] (.op 9 [7,6,5,4,3,2,1,0] (.op 10 [2,1,0] (.op 11 [] (.op 12 [] .nil)))))))))))))
def J0:Ord:=(.op 0 [] (.op 1 [0] (.op 2 [] (.op 3 [] (.op 4 [3,2,1,0] (.op 5 [3,2,1,0] (.op 6 [5,4,3,2,1,0] (.op 7 [5,4,3,2,1,0] (.op 8 [7,6,5,4,3,2,1,0] (.op 9 [7,6,5,4,3,2,1,0] (.op 10 [3,2,1,0] (.op 11 [10,9,8,7,6,5,4] (.op 12 [11,10,9,8,7,6,5,4,3,2,1,0] (.op 13 [] (.op 14 [] (.op 16 [14] (.race (.op 15 [16] (.op 17 [14] .nil)) (.op 17 [14] (.op 15 [16] .nil)))))))))))))))))))
def w7(t:fk):Prop:=(t.kind=1∧t.num=0)∨(t.kind=2∧t.word=[])∨(t.kind=3∧t.num=0)∨t.kind=4∨t.kind=5
theorem Ju{t:fk}(h:w7 t):((t.kind=1∧t.num=0)∨(t.kind=2∧t.word=[])∨(t.kind=3∧t.num=0))∨t.kind=4∨t.kind=5:=by
 rcases h with h|h|h|h|h
 ·exact .inl (.inl h)
 ·exact .inl (.inr (.inl h))
 ·exact .inl (.inr (.inr h))
 ·exact .inr (.inl h)
 ·exact .inr (.inr h)
theorem mN:∀(f:Nat) (r:List UInt8) (a:Nat) (acc:List fk) {out:List fk},gg f r a acc=some out→(∀t∈acc,w7 t)→∀t∈out,w7 t
 |f,[],a,acc,out,h,hl=>by
  have hx:acc=out:=by
   cases f<;>(unfold gg at h;exact Option.some.inj h)
  subst hx
  exact hl
 |0,_::_,a,acc,out,h,_=>by cases h
 |f+1,c::r,a,acc,out,h,hl=>by
  have more:∀{x:fk},w7 x→∀t∈x::acc,w7 t:=fun hx t ht=>by
   rcases List.mem_cons.1 ht with rfl|ht
   ·exact hx
   ·exact hl t ht
  rcases xY h with⟨_,k⟩|⟨_,k⟩|⟨_,k⟩|⟨_,k⟩|⟨n,_,_,hq,k⟩|⟨n,hn,_,_,v,_,k⟩|⟨n,hn,_,_,k⟩
  ·exact mN f _ _ _ k hl
  ·exact mN f _ _ _ k hl
  ·exact mN f _ _ _ k (more (.inr (.inr (.inr (.inl rfl)))))
  ·exact mN f _ _ _ k (more (.inr (.inr (.inr (.inr rfl)))))
  ·exact mN f _ _ _ k (more (.inr (.inr (.inl ⟨rfl,rfl⟩))))
  ·exact mN f _ _ _ k (more (.inr (.inl ⟨rfl,rfl⟩)))
  ·exact mN f _ _ _ k (more (.inl ⟨rfl,rfl⟩))
def jV(l m:List T):Prop:=l.length=m.length∧∀(i:Nat) e e',l[i]?=some e→m[i]?=some e'→a9 e e'
theorem jV.nil:jV [] []:=⟨rfl,fun i e e' h=>by cases h⟩
theorem jV.deep{l m:List T}(h:jV l m)(s:Nat):a9 (.vec s l) (.θ s m):=
 .trans _ _ _ (.deep s l m h.1 (fun i e e' he lR=>(h.2 i e e' he lR).cells.1) (fun i e e' j c d he lR hc hd=>(h.2 i e e' he lR).cells.2 j c d hc hd)) (.vec s m)
theorem jV.snoc{l m:List T}(h:jV l m){x y:T}(k:a9 x y):jV (l++[x]) (m++[y]):=by
 refine⟨by simp[h.1],fun i e e' he lR=> ?_⟩
 by_cases hi:i<l.length
 ·rw[List.getElem?_append_left hi]at he
  rw[List.getElem?_append_left (by have:=h.1;omega)]at lR
  exact h.2 i e e' he lR
 ·rw[List.getElem?_append_right (by omega)]at he
  rw[List.getElem?_append_right (by have:=h.1;omega)]at lR
  have:=h.1
  have vR:i - l.length=0:=by have:=κ he;simp at this;omega
  have lG:i - m.length=0:=by omega
  rw[vR]at he
  rw[lG]at lR
  simp at he lR
  subst he
  subst lR
  exact k
theorem xf(l:List ay)(t:ay):Δ (l++[t])=Δ l++[lX t]:=by simp[qz]
def O4(t:fk):T:= .agg [.int .i64 t.kind,.str t.word,.int .i64 t.num,.af]
def HK(l:List T):T:= .agg [.int .i64 4,.str [],.int .i64 0,.vec 4 l]
theorem G3{a b c d a' b' c' d':T}(h1:a9 a a')(h2:a9 b b')(h3:a9 c c')(h4:a9 d d'):a9 (.agg [a,b,c,d]) (.agg [a',b',c',d']):=
 .agg _ _ rfl fun i x y hx hy=>by
  match i,hx,hy with
  |0,hx,hy=>cases hx;cases hy;exact h1
  |1,hx,hy=>cases hx;cases hy;exact h2
  |2,hx,hy=>cases hx;cases hy;exact h3
  |3,hx,hy=>cases hx;cases hy;exact h4
  |i+4,hx,hy=>cases hx
theorem NJ{l:List T}{b:List ay}(h:jV l (Δ b)):a9 (HK l) (lX (.list b)):=G3 (.refl _) (.refl _) (.refl _) (h.deep 4)
abbrev Cb:Nat:= 68
abbrev RI:Nat:= 62
def qQ:T:= .agg [.int .i64 0,.str [],.int .i64 0,.af]
def qU(n:Nat)(R:Nat→List T)(k:Nat):Ω:=match Nat.blt k n with|true=> .arr Cb 4 false 0 (.ts (R k))|false=> .dead
def RK(N:Nat→Nat):Nat→Nat→List AV
 |0,_=>[]
 |m+1,k=> .sl (k+1) 0 0 (N k)::RK N m (k+1)
def VV(n:Nat)(R:Nat→List T)(N:Nat→Nat)(K:List T):AH:=[.arr RI 1 false 0 (.vs (RK N n 0)),qU n R 0,qU n R 1,qU n R 2,qU n R 3,qU n R 4,qU n R 5,qU n R 6,qU n R 7,qU n R 8,qU n R 9,qU n R 10,.arr 131 5 false 0 (.ts K)]
def ox(R:Nat→List T)(n:Nat)(l:List T):Nat→List T:=fun k=>match Nat.beq k n with|true=>l|false=>R k
def oy(N:Nat→Nat)(n:Nat)(l:Nat):Nat→Nat:=fun k=>match Nat.beq k n with|true=>l|false=>N k
def ju(b:Nat→List ay)(n:Nat)(l:List ay):Nat→List ay:=fun k=>match Nat.beq k n with|true=>l|false=>b k
theorem zz{k n:Nat}(h:k≠n):Nat.beq k n=false:=by
 cases hb:Nat.beq k n
 ·rfl
 ·exact absurd (Nat.eq_of_beq_eq_true hb) h
def Ad(l:List T)(k:Nat)(x:T):List T:=(l++[qQ]).set (0+((k:Nat):Int).toNat) x
theorem G5{l:List T}{k:Nat}(h:k=l.length)(x:T):Ad l k x=l++[x]:=by
 unfold Ad
 rw[Nat.zero_add,Int.toNat_natCast,h]
 simp
theorem vZ{l:List T}{k:Nat}(z:T)(h:k=l.length):(l++[z])[0+((k:Nat):Int).toNat]?=some z:=by rw[Nat.zero_add,Int.toNat_natCast,h];simp
def tv{n:Nat}{N:Nat→Nat}{R:Nat→List T}(_:N n=(R n).length):Nat:=n+1
def UQ{n:Nat}{N:Nat→Nat}{R:Nat→List T}(h:N n=(R n).length)(j:Nat):List Nat:=match Nat.beq j 16 with|true=>[tv h]|false=>match Nat.beq j 14 with|true=>[0]|false=>[]
theorem nJ{ops:Array Oper}{s:St}{K:St→Prop}(D:Nat→List Nat)(σ:Ord)(h:dy ops (uc ops) σ [] []=true)(k:uJ va (γ Tryz.prog) ops D σ s K):Ai ops s K:=⟨D,σ,h,k⟩
def jn(b:Nat→List ay):Nat→List (List ay)
 |0=>[]
 |n+1=>b n::jn b n
theorem CJ(b:Nat→List ay):∀n,(jn b n).length=n
 |0=>rfl
 |n+1=>congrArg (·+1) (CJ b n)
theorem tG(b:Nat→List ay)(l:List ay):∀(n p:Nat),n≤p→jn (ju b p l) n=jn b n
 |0,p,_=>rfl
 |n+1,p,h=>by
  show ju b p l n::jn (ju b p l) n=b n::jn b n
  rw[tG b l n p (by omega)]
  congr 1
  unfold ju
  rw[zz (by omega)]
theorem qM(b:Nat→List ay)(n:Nat)(l:List ay):ju b n l n=l:=by unfold ju;rw[Nat.beq_refl]
theorem An(b:Nat→List ay){k n:Nat}(h:k≠n)(l:List ay):ju b n l k=b k:=by unfold ju;rw[zz h]
theorem Ak(b:Nat→List T)(n:Nat)(l:List T):ox b n l n=l:=by unfold ox;rw[Nat.beq_refl]
theorem Aj(b:Nat→List T){k n:Nat}(h:k≠n)(l:List T):ox b n l k=b k:=by unfold ox;rw[zz h]
theorem Am(b:Nat→Nat)(n:Nat)(l:Nat):oy b n l n=l:=by unfold oy;rw[Nat.beq_refl]
theorem Al(b:Nat→Nat){k n:Nat}(h:k≠n)(l:Nat):oy b n l k=b k:=by unfold oy;rw[zz h]
def xJ:List (List ay)→Nat
 |[]=>0
 |l::r=>l.length+xJ r
theorem tF:∀(ts:List fk) (st:List (List ay)) {cW:List ay},gj ts st=some cW→cW.length≤xJ st+ts.length
 |[],[l],cW,h=>by cases h;simp[xJ]
 |[],[],cW,h=>by cases h
 |[],_::_::_,cW,h=>by cases h
 |t::ts,[],cW,h=>by cases h
 |t::ts,l::st,cW,h=>by
  unfold gj at h
  split at h
  ·split at h
   ·rename_i m q
    have:=tF ts _ h
    simp only[xJ,List.length_append,List.length_cons,List.length_nil]at this⊢
    omega
   ·cases h
  ·split at h
   ·have:=tF ts _ h
    simp only[xJ,List.length_cons,List.length_nil]at this⊢
    omega
   ·cases h
  ·have:=tF ts _ h
   simp only[xJ,List.length_append,List.length_cons,List.length_nil]at this⊢
   omega
structure VU where
 n:Nat
 R:Nat→List T
 N:Nat→Nat
 i:Nat
 m:Nat
def tw(TK:List fk)(cW:List ay)(x:VU):Prop:=
 ∃b:Nat→List ay,gj (TK.drop x.i) (jn b x.n)=some cW∧1≤x.n∧x.n≤11∧x.i≤TK.length∧x.m≤x.i∧∀k,k<x.n→x.N k=(x.R k).length∧x.N k≤x.i∧jV (x.R k) (Δ (b k))
theorem tw.leaf{TK:List fk}{cW:List ay}{n i m:Nat}{R:Nat→List T}{N:Nat→Nat}{b:Nat→List ay}{t:fk}(hx:gj (t::TK.drop (i+1)) (jn b (n+1))=some cW)(hn:n+1≤11)(hi:i≤TK.length)(lG:i+1≤TK.length)(hm:m≤i)
 (hk:∀k,k<n+1→N k=(R k).length∧N k≤i∧jV (R k) (Δ (b k))) (ht:(t.kind=1∧t.num=0)∨(t.kind=2∧t.word=[])∨(t.kind=3∧t.num=0)):tw TK cW ⟨n+1,ox R n (Ad (R n) (N n) (O4 t)),oy N n (N n+1),i+1,m+1⟩:=by
 have b9:gj (TK.drop (i+1)) ((b n++[wO t])::jn b n)=some cW∧a9 (O4 t) (lX (wO t)):=by
  obtain⟨at_,kd,num,w⟩:=t
  rcases ht with⟨e,e0⟩|⟨e,e0⟩|⟨e,e0⟩
  ·obtain rfl:kd=1:=e
   obtain rfl:num=0:=e0
   exact⟨hx,G3 (.refl _) (.refl _) (.refl _) (.af 4)⟩
  ·obtain rfl:kd=2:=e
   obtain rfl:w=[]:=e0
   exact⟨hx,G3 (.refl _) (.refl _) (.refl _) (.af 4)⟩
  ·obtain rfl:kd=3:=e
   obtain rfl:num=0:=e0
   exact⟨hx,G3 (.refl _) (.refl _) (.refl _) (.af 4)⟩
 obtain⟨h0,h1,h2⟩:=hk n (Nat.lt_succ_self n)
 refine⟨ju b n (b n++[wO t]),?_,by show 1≤n+1;omega,hn,lG,by show m+1≤i+1;omega,fun k xt=> ?_⟩
 ·show gj (TK.drop (i+1)) (ju b n (b n++[wO t]) n::jn (ju b n (b n++[wO t])) n)=some cW
  rw[qM,tG _ _ _ _ (Nat.le_refl n)]
  exact b9.1
 ·show oy N n (N n+1) k=(ox R n _ k).length∧oy N n (N n+1) k≤i+1∧jV (ox R n _ k) (Δ (ju b n _ k))
  by_cases e:k=n
  ·subst e
   rw[Am,Ak,qM,G5 h0,xf]
   exact⟨by simp[h0],by omega,h2.snoc b9.2⟩
  ·rw[Al _ e,Aj _ e,An _ e]
   obtain⟨a1,a2,a3⟩:=hk k xt
   exact⟨a1,by omega,a3⟩
theorem tw.WJ{TK:List fk}{cW:List ay}{n i m:Nat}{R:Nat→List T}{N:Nat→Nat}{b:Nat→List ay}{t:fk}(hx:gj (t::TK.drop (i+1)) (jn b (n+1))=some cW)(lG:i+1≤TK.length)(hm:m≤i)
 (hk:∀k,k<n+1→N k=(R k).length∧N k≤i∧jV (R k) (Δ (b k))) (ht:t.kind=4):n<10∧tw TK cW ⟨n+2,ox R (n+1) [],oy N (n+1) 0,i+1,m+1⟩:=by
 obtain⟨at_,kd,num,w⟩:=t
 obtain rfl:kd=4:=ht
 have hx:(match Nat.blt (jn b n).length 10 with|true=>gj (TK.drop (i+1)) ([]::b n::jn b n)|false=>none)=some cW:=hx
 rw[CJ]at hx
 cases hb:Nat.blt n 10 with
 |false=>rw[hb]at hx;cases hx
 |true=>
  rw[hb]at hx
  have hx:gj (TK.drop (i+1)) ([]::jn b (n+1))=some cW:=hx
  rw[Nat.blt_eq]at hb
  refine⟨hb,ju b (n+1) [],?_,by show 1≤n+2;omega,by show n+2≤11;omega,lG,by show m+1≤i+1;omega,fun k xt=> ?_⟩
  ·show gj (TK.drop (i+1)) (ju b (n+1) [] (n+1)::jn (ju b (n+1) []) (n+1))=some cW
   rw[qM,tG _ _ _ _ (Nat.le_refl _)]
   exact hx
  ·have xt:k<n+2:=xt
   show oy N (n+1) 0 k=(ox R (n+1) [] k).length∧oy N (n+1) 0 k≤i+1∧jV (ox R (n+1) [] k) (Δ (ju b (n+1) [] k))
   by_cases e:k=n+1
   ·subst e
    rw[Am,Ak,qM]
    exact⟨rfl,Nat.zero_le _,.nil⟩
   ·rw[Al _ e,Aj _ e,An _ e]
    obtain⟨a1,a2,a3⟩:=hk k (by omega)
    exact⟨a1,by omega,a3⟩
theorem tw.aU{TK:List fk}{cW:List ay}{n i m:Nat}{R:Nat→List T}{N:Nat→Nat}{b:Nat→List ay}{t:fk}(hx:gj (t::TK.drop (i+1)) (jn b (n+1))=some cW)(hn:n+1≤11)(lG:i+1≤TK.length)(hm:m≤i)
 (hk:∀k,k<n+1→N k=(R k).length∧N k≤i∧jV (R k) (Δ (b k))) (ht:t.kind=5):∃p,n=p+1∧tw TK cW ⟨p+1,ox R p (R p++[HK (R (p+1))]),oy N p (N p+1),i+1,m⟩:=by
 obtain⟨at_,kd,num,w⟩:=t
 obtain rfl:kd=5:=ht
 cases n with
 |zero=>cases hx
 |succ p=>
  have hx:gj (TK.drop (i+1)) ((b p++[.list (b (p+1))])::jn b p)=some cW:=hx
  refine⟨p,rfl,ju b p (b p++[.list (b (p+1))]),?_,by show 1≤p+1;omega,by show p+1≤11;omega,lG,by show m≤i+1;omega,fun k xt=> ?_⟩
  ·show gj (TK.drop (i+1)) (ju b p _ p::jn (ju b p _) p)=some cW
   rw[qM,tG _ _ _ _ (Nat.le_refl _)]
   exact hx
  ·have xt:k<p+1:=xt
   show oy N p (N p+1) k=(ox R p _ k).length∧oy N p (N p+1) k≤i+1∧jV (ox R p _ k) (Δ (ju b p _ k))
   by_cases e:k=p
   ·subst e
    obtain⟨a1,a2,a3⟩:=hk k (by omega)
    rw[Am,Ak,qM,xf]
    exact⟨by simp[a1],by omega,a3.snoc (NJ (hk (k+1) (by omega)).2.2)⟩
   ·rw[Al _ e,Aj _ e,An _ e]
    obtain⟨a1,a2,a3⟩:=hk k (by omega)
    exact⟨a1,by omega,a3⟩
theorem tw.fin{TK:List fk}{cW:List ay}{n i m:Nat}{R:Nat→List T}{N:Nat→Nat}(h:tw TK cW ⟨n+1,R,N,i,m⟩)(hi:i=TK.length):n=0∧N 0=(R 0).length∧jV (R 0) (Δ cW):=by
 obtain⟨b,hx,_,_,_,_,hk⟩:=h
 have hx:gj (TK.drop i) (b n::jn b n)=some cW:=hx
 rw[hi,List.drop_length]at hx
 cases n with
 |zero=>
  have hx:some (b 0)=some cW:=hx
  cases hx
  obtain⟨a1,a2,a3⟩:=hk 0 (Nat.lt_succ_self 0)
  exact⟨rfl,a1,a3⟩
 |succ n=>cases hx
def Uu{n:Nat}{N:Nat→Nat}{R:Nat→List T}(_:N n=(R n).length):List Nat:=(List.range 13).map fun k=>match Nat.beq k (n+2)with|true=>14|false=>k
def T4{n:Nat}{N:Nat→Nat}{R:Nat→List T}(h:N n=(R n).length)(j:Nat):List Nat:=match Nat.ble j 2 with|true=>[tv h]|false=>[]
theorem CC{k0:Nat}{env env':List (Nat×AV)}{H:AH}(h:zS env env'):aB k0 ⟨env,H⟩ ⟨env',H⟩:=aM h rfl
theorem Jx{l:List T}{k:Nat}(h:k=l.length):(l.drop 0).take k=l:=by rw[h,List.drop_zero,List.take_length]
theorem JL{l:List T}{k:Nat}(h:k=l.length)(x:AV):(((l++[qQ]).map AV.t).set (0+((k:Nat):Int).toNat) x)=l.map AV.t++[x]:=by
 rw[Nat.zero_add,Int.toNat_natCast,h]
 simp
def HM{n:Nat}{N:Nat→Nat}{R:Nat→List T}(_:N n=(R n).length):List AV:=[.t (.int .i64 4),.t (.str []),.t (.int .i64 0),.sl (n+1) 0 0 (N n)]
def KK{n:Nat}{N:Nat→Nat}{R:Nat→List T}(_:N n=(R n).length):T:=HK (R n)
def rowOf{n:Nat}{N:Nat→Nat}{R:Nat→List T}(_:N n=(R n).length):List T:=R n
def TU{n:Nat}{N:Nat→Nat}{R:Nat→List T}(_:N n=(R n).length)(m i:Nat)(K:List T):List (Nat×AV):=[(5,.sl 0 0 0 (n+1)),(6,.t (.int .i64 (m:Nat))),(17,.sl 12 0 0 K.length),(18,.t (.int .i64 (K.length:Nat))),(19,.t (.int .i64 ((i+1:Nat):Int)))]
theorem jV.c{l m:List T}(h:jV l m):gT l m:=gT.Kw h.1 h.2
theorem Fq{s:List UInt8}(hs:s.length≤65536){out:List fk}(h:gg s.length s 0 []=some out){cW:List ay}(sJ:gj out.reverse [[]]=some cW):φ Tryz.prog 20 [.str s] (.aq [.own Cb 4 false (Δ cW),.t (.int .i64 0),.t (.int .i64 0)])∧cW.length≤65536:=by
 obtain⟨hT,N1⟩:=Ff hs h
 have cd:=mN _ _ _ _ h (fun t ht=>by cases ht)
 obtain⟨TK,Tv⟩:∃TK,TK=out.reverse:=⟨_,rfl⟩
 have cd:∀t∈TK,w7 t:=fun t ht=>cd t (by rw[Tv]at ht;exact List.mem_reverse.1 ht)
 have XZ:TK.length≤65536:=by rw[Tv];simpa using N1
 rw[←Tv]at hT sJ
 obtain⟨K,hK⟩:∃K,K=TK.map jl:=⟨_,rfl⟩
 have X7:K.length=TK.length:=by rw[hK];simp
 rw[←hK]at hT
 have Xi:=tF TK [[]] sJ
 refine⟨?_,by have:xJ [[]]=0:=rfl;omega⟩
 refine φ.gy ?_ rfl
 refine γ.ξ ζ η Tryz.func20 rfl rfl ?_
 refine U (fun c=>absurd (of_decide_eq_true c) (by omega)) (fun _=> ?_)
 refine γ.pure hT rfl ?_
 refine ao (fun x:VU=>tw TK cW x) (fun x=>⟨[(5,.sl 0 0 0 x.n),(6,.t (.int .i64 (x.m:Nat))),(17,.sl 12 0 0 K.length),(18,.t (.int .i64 (K.length:Nat))),(19,.t (.int .i64 (x.i:Nat)))],VV x.n x.R x.N K⟩) (fun x=>K.length - x.i) ⟨1,fun _=>[],fun _=>0,0,0⟩ ⟨fun _=>[],sJ,by decide,by decide,Nat.zero_le _,Nat.le_refl _,fun k _=>⟨rfl,Nat.le_refl _,.nil⟩⟩ ?_ (fun⟨n,R,N,i,m⟩ hx=> ?_)
 ·exact aB.trans (aB.more [.dead,.dead,.dead,.dead,.dead,.dead,.dead,.dead,.dead,.dead]) (τ [2,1,4,5,6,7,8,9,10,11,12,13,3] rfl ⟨rfl,rfl,rfl,rfl,rfl,trivial⟩ ⟨rfl,rfl,rfl,rfl,rfl,rfl,rfl,rfl,rfl,rfl,rfl,rfl,rfl,trivial⟩)
 have bZ:=hx
 obtain⟨b,hx,Pn,H5,hi,hm,hk⟩:=hx
 have hx:gj (TK.drop i) (jn b n)=some cW:=hx
 have Pn:1≤n:=Pn
 have H5:n≤11:=H5
 have hi:i≤TK.length:=hi
 have hm:m≤i:=hm
 have hk:∀k,k<n→N k=(R k).length∧N k≤i∧jV (R k) (Δ (b k)):=hk
 refine U (fun c=> ?_) (fun c=> ?_)
 ·have XC:i<K.length:=de c
  clear c
  obtain⟨t,rv,O_⟩:=get_some (R:=TK) (i:=i) (by omega)
  have rA:K[0+((i:Nat):Int).toNat]?=some (jl t):=by rw[Nat.zero_add,Int.toNat_natCast,hK,List.getElem?_map,rv];rfl
  have hd:TK.drop i=t::TK.drop (i+1):=by
   rw[List.drop_eq_getElem_cons (by omega)]
   congr 1
   rw[List.getElem?_eq_getElem (by omega)]at rv
   exact Option.some.inj rv
  rw[hd]at hx
  refine ε (fu rfl (Int.natCast_nonneg i) (by show((i:Nat):Int)<(K.length:Int);omega)) ?_
  refine ν rA ?_
  have sj:IntKind.i64.wrap ((m+1:Nat):Int)=((m+1:Nat):Int):=aj (n:=m+1) (by omega)
  have lG:IntKind.i64.wrap ((i+1:Nat):Int)=((i+1:Nat):Int):=aj (n:=i+1) (by omega)
  have Tk:¬((m+1:Nat):Int)>65536:=by omega
  obtain⟨n,rfl⟩:∃p,n=p+1:=⟨n - 1,by omega⟩
  have od:N n=(R n).length:=(hk n (Nat.lt_succ_self n)).1
  have bx:N n+1≤100000:=by have:=(hk n (Nat.lt_succ_self n)).2.1;omega
  rcases Ju (cd t O_)with e|e|e
  ·have b9:=tw.leaf (m:=m) hx H5 hi (by omega) hm hk e
   have Lf:t.kind≤3:=by omega
   clear cd rv O_ hd hx sJ h hk e
   obtain⟨at_,kd,num,w⟩:=t
   have Lf:kd≤3:=Lf
   have h6:¬(kd:Int)=6:=by omega
   have h5:¬(kd:Int)=5:=by omega
   have h4:¬(kd:Int)=4:=by omega
   have hn:n=0∨n=1∨n=2∨n=3∨n=4∨n=5∨n=6∨n=7∨n=8∨n=9∨n=10:=by omega
   rcases hn with rfl|rfl|rfl|rfl|rfl|rfl|rfl|rfl|rfl|rfl|rfl<;>
   (refine U (fun c=>absurd (beq_iff_eq.1 c) h6) (fun _=> ?_)
    refine U (fun c=>absurd (beq_iff_eq.1 c) h5) (fun _=> ?_)
    refine U (fun c=>absurd (beq_iff_eq.1 c) h5) (fun _=> ?_)
    refine δ sj ?_
    refine U (fun c=>absurd (of_decide_eq_true c) Tk) (fun _=> ?_)
    refine U (fun c=>absurd (beq_iff_eq.1 c) h4) (fun _=> ?_)
    refine U (fun c=>absurd (beq_iff_eq.1 c) h4) (fun _=> ?_)
    refine nJ (UQ od) J0 (by decide+kernel) ?_
    refine Or.inl (And.intro od (ε (cL bx rfl) ?_))
    refine And.intro (fun j hj=>by cases hj) ?_
    refine ε (fu rfl (Int.natCast_nonneg _) (Int.ofNat_lt.2 (Nat.lt_succ_self _))) ?_
    refine And.intro ?_ ?_
    ·conv=>whnf
     refine ν (vZ qQ od) ?_
     refine And.intro (fun j hj=>by rw[List.mem_singleton.1 hj];exact χ.set (b:=tv od) _ (List.mem_singleton.2 rfl)) ?_
     refine And.intro (fun j hj=>by rw[List.mem_singleton.1 hj];exact χ.set (b:=0) _ (List.mem_singleton.2 rfl)) ?_
     refine δ lG ?_
     conv=>whnf
     exact⟨⟨_,b9⟩,τ [0,1,2,3,4,5,6,7,8,9,10,11,12] rfl ⟨rfl,rfl,rfl,rfl,rfl,trivial⟩ ⟨rfl,rfl,rfl,rfl,rfl,rfl,rfl,rfl,rfl,rfl,rfl,rfl,rfl,trivial⟩,by show K.length - (i+1)<K.length - i;omega⟩
    ·refine And.intro (fun j hj=>by rw[List.mem_singleton.1 hj];exact χ.set (b:=0) _ (List.mem_singleton.2 rfl)) ?_
     conv=>whnf
     refine ν (vZ qQ od) ?_
     refine And.intro (fun j hj=>by rw[List.mem_singleton.1 hj];exact χ.set (b:=tv od) _ (List.mem_singleton.2 rfl)) ?_
     refine δ lG ?_
     conv=>whnf
     exact⟨⟨_,b9⟩,τ [0,1,2,3,4,5,6,7,8,9,10,11,12] rfl ⟨rfl,rfl,rfl,rfl,rfl,trivial⟩ ⟨rfl,rfl,rfl,rfl,rfl,rfl,rfl,rfl,rfl,rfl,rfl,rfl,rfl,trivial⟩,by show K.length - (i+1)<K.length - i;omega⟩)
  ·obtain⟨ω,b9⟩:=tw.WJ (m:=m) hx (by omega) hm hk e
   clear cd rv O_ hd hx sJ h hk bZ
   obtain⟨at_,kd,num,w⟩:=t
   obtain rfl:kd=4:=e
   have hn:n=0∨n=1∨n=2∨n=3∨n=4∨n=5∨n=6∨n=7∨n=8∨n=9:=by omega
   rcases hn with rfl|rfl|rfl|rfl|rfl|rfl|rfl|rfl|rfl|rfl<;>
   (refine δ sj ?_
    refine U (fun c=>absurd (of_decide_eq_true c) Tk) (fun _=> ?_)
    refine Or.inl (And.intro rfl (ε (cL (Nat.le_of_ble_eq_true rfl) rfl) ?_))
    refine δ lG ?_
    conv=>whnf
    exact⟨⟨_,b9⟩,τ (Uu od) rfl ⟨rfl,rfl,rfl,rfl,rfl,trivial⟩ ⟨rfl,rfl,rfl,rfl,rfl,rfl,rfl,rfl,rfl,rfl,rfl,rfl,rfl,trivial⟩,by show K.length - (i+1)<K.length - i;omega⟩)
  ·obtain⟨p,rfl,b9⟩:=tw.aU (m:=m) hx H5 (by omega) hm hk e
   have sq:N p=(R p).length:=(hk p (by omega)).1
   have Vm:N p+1≤100000:=by have:=(hk p (by omega)).2.1;omega
   clear cd rv O_ hd hx sJ h hk bZ
   obtain⟨at_,kd,num,w⟩:=t
   obtain rfl:kd=5:=e
   have hn:p=0∨p=1∨p=2∨p=3∨p=4∨p=5∨p=6∨p=7∨p=8∨p=9:=by omega
   rcases hn with rfl|rfl|rfl|rfl|rfl|rfl|rfl|rfl|rfl|rfl<;>
   (refine nJ (fun _=>[]) J3 (by decide+kernel) ?_
    refine And.intro ?_ ?_
    ·refine And.intro (fun j hj=>by cases hj) ?_
     refine And.intro (fun j hj=>by cases hj) ?_
     refine nJ (T4 sq) J1 (by decide+kernel) ?_
     refine Or.inl (And.intro sq (ε (cL Vm rfl) ?_))
     refine And.intro (fun j hj=>by simp only[List.mem_cons,List.not_mem_nil,or_false]at hj;rcases hj with rfl|rfl|rfl<;>exact χ.set (b:=tv sq) _ (List.mem_singleton.2 rfl)) ?_
     refine And.intro (fun j hj=>by cases hj) ?_
     refine δ lG ?_
     conv=>whnf
     refine⟨⟨_,b9⟩,?_,by show K.length - (i+1)<K.length - i;omega⟩
     exact aB.trans (iL (tv sq) [tv od] (A:=rowOf sq) (cs:=HM od) (i_ (KK od)) (rfl) rfl rfl (fun j y t hy ht=>by
      match j,hy,ht with
      |0,hy,ht=>cases hy;cases ht;exact .same _
      |1,hy,ht=>cases hy;cases ht;exact .same _
      |2,hy,ht=>cases hy;cases ht;exact .same _
      |3,hy,ht=>cases hy;cases ht;exact .eU _ _ _ [tv od] 32 rfl (.of_eq (congrArg (T.vec 4) (Jx od))) (fun b hb=>hb)
      |j+4,hy,ht=>cases hy)) (aB.trans (CC (env':=TU sq m i K) ⟨rfl,rfl,rfl,rfl,rfl,trivial⟩) (aB.trans (CD 0 (tv sq) rfl rfl rfl rfl rfl rfl rfl) (τ [0,1,2,3,4,5,6,7,8,9,10,11,12] rfl ⟨rfl,rfl,rfl,rfl,rfl,trivial⟩ ⟨rfl,rfl,rfl,rfl,rfl,rfl,rfl,rfl,rfl,rfl,rfl,rfl,rfl,trivial⟩)))
    ·refine And.intro (fun j hj=>by cases hj) ?_
     refine And.intro (fun j hj=>by cases hj) ?_
     refine nJ (fun _=>[]) J2 (by decide+kernel) ?_
     refine Or.inl (And.intro sq (ε (cL Vm rfl) ?_))
     refine And.intro (fun j hj=>by cases hj) ?_
     refine And.intro (fun j hj=>by cases hj) ?_
     refine ε (fu rfl (Int.natCast_nonneg _) (Int.ofNat_lt.2 (Nat.lt_succ_self _))) ?_
     refine ν (vZ qQ sq) ?_
     refine δ lG ?_
     conv=>whnf
     refine⟨⟨_,b9⟩,?_,by show K.length - (i+1)<K.length - i;omega⟩
     exact aB.trans (iL (tv sq) [tv od] (A:=rowOf sq) (cs:=HM od) (i_ (KK od)) (congrArg (fun l=>some (Ω.arr Cb 4 false 2 (.vs l))) (JL sq (AV.agg (HM od)))) rfl rfl (fun j y t hy ht=>by
      match j,hy,ht with
      |0,hy,ht=>cases hy;cases ht;exact .same _
      |1,hy,ht=>cases hy;cases ht;exact .same _
      |2,hy,ht=>cases hy;cases ht;exact .same _
      |3,hy,ht=>cases hy;cases ht;exact .eU _ _ _ [tv od] 32 rfl (.of_eq (congrArg (T.vec 4) (Jx od))) (fun b hb=>hb)
      |j+4,hy,ht=>cases hy)) (aB.trans (CC (env':=TU sq m i K) ⟨rfl,rfl,rfl,rfl,rfl,trivial⟩) (aB.trans (CD 0 (tv sq) rfl rfl rfl rfl rfl rfl rfl) (τ [0,1,2,3,4,5,6,7,8,9,10,11,12] rfl ⟨rfl,rfl,rfl,rfl,rfl,trivial⟩ ⟨rfl,rfl,rfl,rfl,rfl,rfl,rfl,rfl,rfl,rfl,rfl,rfl,rfl,trivial⟩))))
 ·have XC:K.length≤i:=dm c
  obtain⟨n,rfl⟩:∃p,n=p+1:=⟨n - 1,by omega⟩
  obtain⟨rfl,h0,hS⟩:=tw.fin bZ (by omega)
  exact And.intro ⟨⟨_,rfl,rfl,h0,hS.c⟩,⟨_,_,rfl,.refl _⟩,⟨_,_,rfl,.refl _⟩,trivial⟩ rfl
end Go.Proofs.YtcogcbplmkcojaaGreatDoor
namespace Go.Proofs.YtcogcbplmkcojaaGreatDoor
open Go.IntWalk
set_option maxRecDepth 100000
set_option linter.unusedVariables false
set_option linter.unusedSimpArgs false
set_option maxHeartbeats 4000000
def Aq:Nat→List (Nat×Nat×Nat)→List AV→List AV
 |_,[],cs=>cs
 |k,p::r,cs=>Aq (k+1) r (cs.set p.1 (.sl k 0 0 0))
def O2:Nat→List (Nat×Nat×Nat)→List AV→Prop
 |_,[],_=>True
 |k,p::r,cs=>cs[p.1]?=some (.t .af)∧O2 (k+1) r (cs.set p.1 (.sl k 0 0 0))
theorem AU{k0:Nat}{env:List (Nat×AV)}(b:Nat):∀(l:List (Nat×Nat×Nat)) {cs:List AV} {H:AH},H[b]?=some (.box cs)→O2 H.length l cs→aB k0 ⟨env,H⟩ ⟨env,H.set b (.box (Aq H.length l cs))++l.map fun p=> .arr p.2.1 p.2.2 true 0 (.ts [])⟩
 |[],cs,H,hb,_=>by
  have hl:=κ hb
  have:H.set b (.box cs)=H:=by
   refine List.ext_getElem? fun j=> ?_
   rw[List.getElem?_set]
   split
   ·rename_i e
    subst e
    exact hb.symm
   ·rfl
  show aB k0 ⟨env,H⟩ ⟨env,H.set b (.box cs)++[]⟩
  rw[List.append_nil,this]
  exact fun O c a w _ hs=>⟨c,hs⟩
 |p::r,cs,H,hb,⟨h1,h2⟩=>by
  have hl:=κ hb
  refine aB.trans (jJ b p.1 p.2.1 p.2.2 hb h1) ?_
  have hlen:(H.set b (.box (cs.set p.1 (.sl H.length 0 0 0)))++[Ω.arr p.2.1 p.2.2 true 0 (.ts [])]).length=H.length+1:=by simp
  have h:=AU (k0:=k0) (env:=env) b r (cs:=cs.set p.1 (.sl H.length 0 0 0)) (H:=H.set b (.box (cs.set p.1 (.sl H.length 0 0 0)))++[Ω.arr p.2.1 p.2.2 true 0 (.ts [])]) (by rw[List.getElem?_append_left (by simpa using hl),List.getElem?_set_self hl]) (by rw[hlen];exact h2)
  rw[hlen]at h
  have e:(H.set b (.box (cs.set p.1 (.sl H.length 0 0 0)))++[Ω.arr p.2.1 p.2.2 true 0 (.ts [])]).set b (.box (Aq (H.length+1) r (cs.set p.1 (.sl H.length 0 0 0))))++(r.map fun p=>Ω.arr p.2.1 p.2.2 true 0 (.ts []))=H.set b (.box (Aq H.length (p::r) cs))++((p::r).map fun p=>Ω.arr p.2.1 p.2.2 true 0 (.ts [])):=by
   rw[List.set_append_left _ _ (by simpa using hl),List.set_set,List.append_assoc]
   rfl
  rw[e]at h
  exact h
theorem γ.Q4{P:Program}{f:FuncId}{args:List AV}{H:AH}{Q:AV→AH→Prop}(b:Nat)(args':List AV)(h:γ P f args' (H.set b .dead) Q)(ha:args'.length=args.length)(gS:∀(i:Nat) a a',args[i]?=some a→args'[i]?=some a'→eM [b] H (H.set b .dead) a a'):γ P f args H Q:=by
 refine γ.OU [b] h (by simp) (fun b' aA aD=> ?_) ha gS
 rw[List.getElem?_set]at aD
 split at aD
 ·split at aD
  ·exact .inl (Option.some.inj aD).symm
  ·cases aD
 ·next h=>exact .inr ⟨by simp;exact fun e=>h e.symm,aA,aD,.same _⟩
theorem Jq{k0:Nat}{r X:AV}{H:AH}(ids:List Nat)(hX:eM ids H (iz 999 .dead ids 0 H) r X):aB k0 ⟨[(0,r)],H⟩ ⟨[(0,X)],iz 999 .dead ids 0 H⟩:=by
 refine ja ids (pK _ _ _ _ _) (fun b' aA aD=> ?_) (fun t=> ?_)
 ·replace aD:(iz 999 .dead ids 0 H)[b']?=some aA:=aD
  rw[pL,Nat.zero_add,Option.map_eq_some_iff]at aD
  obtain⟨x,hx,aC⟩:=aD
  split at aC
  ·exact .inl aC.symm
  ·split at aC
   ·exact .inl aC.symm
   ·rename_i e2
    subst aC
    refine .inr ⟨fun hm=> ?_,x,hx,.same _⟩
    have:=List.any_eq_false.1 e2 b' hm
    simp at this
 ·rw[fB,fB]
  by_cases ht:0=t
  ·rw[if_pos ht,if_pos ht];exact .inr hX
  ·rw[if_neg ht,if_neg ht];exact .inl rfl
def Rv:List AV:=[.t (.str []),.t (.int .i64 0),.t .af,.t .af,.t .af,.t .af,.t .af,.t .af,.t .af,.t .af,.t .af,.t .af,.t .af]
theorem TG{ids:List Nat}{H H':AH}{d:ο}{y:AV}{r a:List T}(h:eM ids H H' y (.t (.θ 4 r))):eM ids H H' (.agg ((eG d r a).set 13 y)) (.agg (eG d r a)):=
 .agg _ _ rfl fun i x x' hx aC=>by
  match i,hx,aC with
  |0,hx,aC=>cases hx;cases aC;exact .same _
  |1,hx,aC=>cases hx;cases aC;exact .same _
  |2,hx,aC=>cases hx;cases aC;exact .same _
  |3,hx,aC=>cases hx;cases aC;exact .same _
  |4,hx,aC=>cases hx;cases aC;exact .same _
  |5,hx,aC=>cases hx;cases aC;exact .same _
  |6,hx,aC=>cases hx;cases aC;exact .same _
  |7,hx,aC=>cases hx;cases aC;exact .same _
  |8,hx,aC=>cases hx;cases aC;exact .same _
  |9,hx,aC=>cases hx;cases aC;exact .same _
  |10,hx,aC=>cases hx;cases aC;exact .same _
  |11,hx,aC=>cases hx;cases aC;exact .same _
  |12,hx,aC=>cases hx;cases aC;exact .same _
  |13,hx,aC=>cases hx;cases aC;exact h
  |14,hx,aC=>cases hx;cases aC;exact .same _
  |15,hx,aC=>cases hx;cases aC;exact .same _
  |i+16,hx,aC=>cases hx
theorem Q3{ids:List Nat}{H H':AH}{a a' b c:AV}(h:eM ids H H' a a'):eM ids H H' (.aq [a,b,c]) (.aq [a',b,c]):=
 .aq _ _ rfl fun i x x' hx aC=>by
  match i,hx,aC with
  |0,hx,aC=>cases hx;cases aC;exact h
  |1,hx,aC=>cases hx;cases aC;exact .same _
  |2,hx,aC=>cases hx;cases aC;exact .same _
  |i+3,hx,aC=>cases hx
theorem Oz(d:ο):T.agg [.str d.name,.int .i64 d.order,.θ 4 (((d.files.map ec).drop 0).take d.files.length),.θ 3 (((d.ag.map bz).drop 0).take d.ag.length),.θ 1 (((d.flags.map T.str).drop 0).take d.flags.length),.θ 7 (((d.classes.map aF).drop 0).take d.classes.length),.θ 5 (((d.forms.map ah).drop 0).take d.forms.length),.θ 17 (((d.aw.map eT).drop 0).take d.aw.length),.θ 4 (((d.uses.map gf).drop 0).take d.uses.length),.θ 3 (((d.av.map cX).drop 0).take d.av.length),.θ 3 (((d.macros.map dv).drop 0).take d.macros.length),.θ 2 (((d.aT.map fK).drop 0).take d.aT.length),.θ 3 (((d.aQ.map bz).drop 0).take d.aQ.length)]=ax d:=by
 unfold ax
 simp only[xI]
structure Y0 where
 i:Nat
 s:PS
theorem Hs{text:List UInt8}{d:ο}(h:m9 text=some d):γ Tryz.prog 9 [.t (.str text)] [] (fun v H=>v= .aq [.t (ax d),.t (.int .i64 0),.t (.int .i64 0)]∧H=[]):=by
 unfold m9 at h
 split at h
 ·cases h
 rename_i hlen
 have hlen:=Nat.le_of_ble_eq_true hlen
 split at h
 ·cases h
 rename_i RG SQ
 split at h
 ·cases h
 ·cases h
 rename_i t0 r0 O9
 split at h
 rotate_left 1
 ·cases h
 rename_i sf D5
 cases h
 obtain⟨h3,hr⟩:=Fq hlen SQ O9
 obtain⟨cW,sJ⟩:∃cW,cW=t0::r0:=⟨_,rfl⟩
 have eJ:0<cW.length:=by rw[sJ];simp
 rw[←sJ]at D5 hr
 rw[←sJ]at h3
 have XZ:(Δ cW).length=cW.length:=by rw[qz];simp
 refine γ.gc (Q:=fun r H'=>aB 0 ⟨[(0,r)],H'⟩ ⟨[(0,.aq [.t (ax sf.d),.t (.int .i64 0),.t (.int .i64 0)])],[]⟩) ?_ (fun r H' hw=>⟨_,_,hw,rfl,rfl⟩)
 refine γ.ξ ζ η Tryz.func9 rfl rfl ?_
 refine γ.pure h3 rfl ?_
 refine U (fun c=>absurd (beq_iff_eq.1 c) (by omega)) (fun _=> ?_)
 refine ao (fun x:Y0=>x.i≤cW.length∧iE x.s∧rn (cW.drop x.i) x.s (((x.i:Nat):Int)==0)=some sf) (fun x=>⟨[(2,.ptr 11 0 0 0),(3,.t (.int .i64 0)),(4,.t (.int .i64 0)),(8,.ptr 13 0 0 0),(27,.sl 12 0 0 (Δ cW).length),(28,.t (.int .i64 ((Δ cW).length:Nat))),(29,.t (.int .i64 (x.i:Nat)))],rL x.s.d [.box Rv,.arr Cb 4 false 0 (.ts (Δ cW)),.box (eG x.s.d (Δ x.s.rest) (x.s.args.map Λ))]⟩) (fun x=>cW.length - x.i) ⟨0,⟨PZ,[],[]⟩⟩ ⟨Nat.zero_le _,⟨⟨by decide,by decide,by decide,by decide,by decide,by decide,by decide,by decide,by decide⟩,fun c hc=>by cases hc⟩,D5⟩ ?_ (fun⟨i,s⟩ ⟨hi,hI,hx⟩=> ?_)
 ·refine aB.trans (AU (cs:=dh) 2 [(2,152,4),(3,139,3),(4,9,1),(5,95,7),(6,45,5),(7,167,17),(8,164,4),(9,145,3),(10,173,3),(11,147,2),(12,139,3)] rfl ⟨rfl,rfl,rfl,rfl,rfl,rfl,rfl,rfl,rfl,rfl,rfl,trivial⟩) ?_
  refine aB.trans (u7 (cs:=Aq 3 [(2,152,4),(3,139,3),(4,9,1),(5,95,7),(6,45,5),(7,167,17),(8,164,4),(9,145,3),(10,173,3),(11,147,2),(12,139,3)] dh) 2 13 [] (.θ 4 []) rfl rfl rfl (.sub _ _ (.af 4))) ?_
  refine aB.trans (u7 (cs:=(Aq 3 [(2,152,4),(3,139,3),(4,9,1),(5,95,7),(6,45,5),(7,167,17),(8,164,4),(9,145,3),(10,173,3),(11,147,2),(12,139,3)] dh).set 13 (.t (.θ 4 []))) 2 14 [] (.θ 2 []) rfl rfl rfl (.sub _ _ (.af 2))) ?_
  exact τ [3,4,5,6,7,8,9,10,11,12,13,0,1,2] rfl ⟨rfl,rfl,rfl,rfl,rfl,rfl,rfl,trivial⟩ ⟨rfl,rfl,rfl,rfl,rfl,rfl,rfl,rfl,rfl,rfl,rfl,rfl,rfl,rfl,trivial⟩
 have hi:i≤cW.length:=hi
 have hx:rn (cW.drop i) s (((i:Nat):Int)==0)=some sf:=hx
 refine U (fun c=> ?_) (fun c=> ?_)
 ·have c:i<(Δ cW).length:=de c
  obtain⟨t,rv,_⟩:=get_some (R:=cW) (i:=i) (by omega)
  have hd:cW.drop i=t::cW.drop (i+1):=by
   rw[List.drop_eq_getElem_cons (by omega)]
   congr 1
   rw[List.getElem?_eq_getElem (by omega)]at rv
   exact Option.some.inj rv
  rw[hd]at hx
  have hx:(match yU ⟨s.d,[t],s.args⟩ (((i:Nat):Int)==0)with|some s=>rn (cW.drop (i+1)) s false|none=>none)=some sf:=hx
  cases qt:yU ⟨s.d,[t],s.args⟩ (((i:Nat):Int)==0)with
  |none=>rw[qt]at hx;cases hx
  |some s1=>
  rw[qt]at hx
  have fV:rn (cW.drop (i+1)) s1 false=some sf:=hx
  obtain⟨l,rfl⟩:∃l,t= .list l:=by
   cases t with
   |list l=>exact⟨l,rfl⟩
   |word w=>have qt:none=some s1:=qt;cases qt
   |num w=>have qt:none=some s1:=qt;cases qt
   |text w=>have qt:none=some s1:=qt;cases qt
  obtain⟨k,hk,UH,Tw⟩:=QY (hI.same (s':=⟨s.d,[.list l],s.args⟩) ⟨rfl,rfl⟩) qt
  have hf:((((i+1:Nat):Int))==0)=false:=by simp;omega
  rw[←hf]at fV
  have rA:(Δ cW)[0+((i:Nat):Int).toNat]?=some (lX (.list l)):=by rw[Nat.zero_add,Int.toNat_natCast,qz,List.getElem?_map,rv];rfl
  have lG:IntKind.i64.wrap ((i+1:Nat):Int)=((i+1:Nat):Int):=aj (n:=i+1) (by omega)
  have b9:(i+1≤cW.length∧iE s1∧rn (cW.drop (i+1)) s1 (((i+1:Nat):Int)==0)=some sf):=⟨by omega,Tw,fV⟩
  refine ε (fu rfl (Int.natCast_nonneg i) (by show((i:Nat):Int)<((Δ cW).length:Int);omega)) ?_
  refine ν rA ?_
  have uO:cW.length - (i+1)<cW.length - i:=by omega
  clear hx qt hd rv D5 O9 SQ h3 hI
  have hk:k=0∨k=1∨k=2∨k=3∨k=4∨k=5∨k=6∨k=7∨k=8∨k=9∨k=10∨k=11:=by omega
  rcases hk with rfl|rfl|rfl|rfl|rfl|rfl|rfl|rfl|rfl|rfl|rfl|rfl<;>
  (refine γ.Q4 15 [eg ⟨s.d,[.list l],s.args⟩,.t (.bool (((i:Nat):Int)==0))] ?_ rfl (fun j a a' ha oc=> ?_)
   ·refine Ip UH rfl rfl (EK _) (by rfl) rfl ?_
    refine δ lG ?_
    conv=>whnf
    exact⟨⟨⟨i+1,s1⟩,b9⟩,τ [0,1,2,3,4,5,6,7,8,9,10,11,12,13] rfl ⟨rfl,rfl,rfl,rfl,rfl,rfl,rfl,trivial⟩ ⟨rfl,rfl,rfl,rfl,rfl,rfl,rfl,rfl,rfl,rfl,rfl,rfl,rfl,rfl,trivial⟩,uO⟩
   ·match j,ha,oc with
    |0,ha,oc=>
     cases ha
     cases oc
     exact TG (.eU _ _ _ [15] 32 rfl (.vec 4 _) (fun b hb=>hb))
    |1,ha,oc=>cases ha;cases oc;exact .same _
    |j+2,ha,oc=>cases ha)
 ·have c:(Δ cW).length≤i:=dm c
  have c:i=cW.length:=by omega
  subst c
  rw[List.drop_length]at hx
  cases hx
  refine aB.trans (Jq [0,1,2,3,4,5,6,7,8,9,10] (Q3 (.eU _ _ _ _ 64 rfl (.of_eq (Oz sf.d)) (fun b hb=>hb)))) ?_
  exact τ [] rfl ⟨rfl,trivial⟩ trivial
end Go.Proofs.YtcogcbplmkcojaaGreatDoor
