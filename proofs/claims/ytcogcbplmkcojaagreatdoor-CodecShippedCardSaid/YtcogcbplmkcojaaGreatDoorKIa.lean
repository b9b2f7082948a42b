/-
  A codec's patterns: what is known when some of a form's bits are read (plain law); how long a form is.
-/
import Derived.Test.YtcogcbplmkcojaaGreatDoorKHv
namespace Go.Proofs.YtcogcbplmkcojaaGreatDoor
open Go.IntWalk
set_option maxRecDepth 100000
set_option linter.unusedVariables false
set_option linter.unusedSimpArgs false
set_option maxHeartbeats 1000000
def mB(L:List Θ)(o:Int)(w p:Nat):Bool:=match L[bo o L.length p]?with|some y=>decide (p<L.length∧bo o L.length p<w)&&decide (y.arg<0∧y.lit≠120)|none=>false
def mw(L:List Θ)(o:Int)(w p:Nat):Bool:=match L[bo o L.length p]?with|some y=>decide (p<L.length∧bo o L.length p<w)&&(decide (y.arg<0∧y.lit≠120)&&decide (y.lit=49))|none=>false
theorem KJ(L:List Θ)(o:Int)(p:Nat):mB L o 0 p=false:=by unfold mB;cases L[bo o L.length p]?<;>simp
theorem Kv(L:List Θ)(o:Int)(p:Nat):mw L o 0 p=false:=by unfold mw;cases L[bo o L.length p]?<;>simp
theorem FY{o:Int}{n w p:Nat}(h8:n%8=0)(hw:w<n):(p<n∧bo o n p=w)↔bo o n w=p:=by
 constructor
 ·rintro⟨h1,h2⟩;rw[←h2];exact mK h1
 ·intro h
  have:=iG (o:=o) hw h8
  exact⟨by omega,by rw[←h];exact mK hw⟩
theorem sd{L:List Θ}{o:Int}{w:Nat}{x:Θ}(h8:L.length%8=0)(hx:L[w]?=some x)(p:Nat):mB L o (w+1) p=(mB L o w p||(decide (x.arg<0∧x.lit≠120)&&decide (bo o L.length w=p))):=by
 have hw:=(List.getElem?_eq_some_iff.1 hx).1
 have e:=FY (o:=o) (p:=p) h8 hw
 unfold mB
 by_cases h:bo o L.length w=p
 ·obtain⟨h1,h2⟩:=e.2 h
  rw[h2,hx]
  simp[h,h1]
 ·cases hL:L[bo o L.length p]?with
  |none=>simp[h]
  |some y=>
   have:(p<L.length∧bo o L.length p<w+1)↔(p<L.length∧bo o L.length p<w):=by
    constructor
    ·rintro⟨h1,h2⟩;exact⟨h1,by have:bo o L.length p≠w:=fun e2=>h (e.1 ⟨h1,e2⟩);omega⟩
    ·rintro⟨h1,h2⟩;exact⟨h1,by omega⟩
   simp[h,this]
theorem sb{L:List Θ}{o:Int}{w:Nat}{x:Θ}(h8:L.length%8=0)(hx:L[w]?=some x)(p:Nat):mw L o (w+1) p=(mw L o w p||((decide (x.arg<0∧x.lit≠120)&&decide (x.lit=49))&&decide (bo o L.length w=p))):=by
 have hw:=(List.getElem?_eq_some_iff.1 hx).1
 have e:=FY (o:=o) (p:=p) h8 hw
 unfold mw
 by_cases h:bo o L.length w=p
 ·obtain⟨h1,h2⟩:=e.2 h
  rw[h2,hx]
  simp[h,h1]
 ·cases hL:L[bo o L.length p]?with
  |none=>simp[h]
  |some y=>
   have:(p<L.length∧bo o L.length p<w+1)↔(p<L.length∧bo o L.length p<w):=by
    constructor
    ·rintro⟨h1,h2⟩;exact⟨h1,by have:bo o L.length p≠w:=fun e2=>h (e.1 ⟨h1,e2⟩);omega⟩
    ·rintro⟨h1,h2⟩;exact⟨h1,by omega⟩
   simp[h,this]
structure cM(d:ο)(f:Ψ)(L:List Θ)(w m0 m1 w0 w1:Nat)(lz:Bool)(C:List (List Int)):Prop where
 le:w≤L.length
 mask:cF m0 m1 (mB L d.order w)
 want:cF w0 w1 (mw L d.order w)
 loose:lz=true↔∃s y,s<w∧L[s]?=some y∧y.lit=120
 len:C.length=f.args.length
 rows:∀(j:Nat) a k c,f.args[j]?=some a→bQ d.classes a.aU=some k→C[j]?=some c→c.length=k.bits.toNat∧∀s y (m:Nat),s<w→L[s]?=some y→y.arg=(j:Int)→y.num=(m:Int)→c[m]?=some ((bo d.order L.length s:Nat):Int)
theorem cF.Ac{m0 m1 p:Nat}{P:Nat→Bool}(h:cF m0 m1 P):(p<64→cF (m0|||2^p) m1 (fun q=>P q||decide (p=q)))∧(∀k,p=64+k→k<64→cF m0 (m1|||2^k) (fun q=>P q||decide (p=q))):=
 ⟨fun hp=>h.CP hp,fun k hk et=>by subst hk;exact h.CO et⟩
section
variable {d : ο} {f : Ψ} {L : List Θ} {w m0 m1 w0 w1 : Nat} {lz : Bool} {C : List (List Int)} {x : Θ}
theorem cM.Dn(h:cM d f L w m0 m1 w0 w1 lz C)(hx:L[w]?=some x)(hn:x.arg<0):∀(j:Nat) a k c,f.args[j]?=some a→bQ d.classes a.aU=some k→C[j]?=some c→c.length=k.bits.toNat∧∀s y (m:Nat),s<w+1→L[s]?=some y→y.arg=(j:Int)→y.num=(m:Int)→c[m]?=some ((bo d.order L.length s:Nat):Int):=fun j a k c h1 h2 h3=>
 ⟨(h.rows j a k c h1 h2 h3).1,fun s y m hs hy ha hm=>by
   by_cases e:s=w
   ·subst e
    rw[hx]at hy;cases hy
    omega
   ·exact(h.rows j a k c h1 h2 h3).2 s y m (by omega) hy ha hm⟩
theorem cM.pH(h:cM d f L w m0 m1 w0 w1 lz C)(hx:L[w]?=some x)(hn:¬x.lit=120):lz=true↔∃s y,s<w+1∧L[s]?=some y∧y.lit=120:=by
 rw[h.loose]
 constructor
 ·rintro⟨s,y,h1,h2⟩;exact⟨s,y,by omega,h2⟩
 ·rintro⟨s,y,h1,h2,h3⟩
  by_cases e:s=w
  ·subst e
   rw[hx]at h2;cases h2
   exact absurd h3 hn
  ·exact⟨s,y,by omega,h2,h3⟩
theorem cM.one(h:cM d f L w m0 m1 w0 w1 lz C)(h8:L.length%8=0)(hx:L[w]?=some x)(ha:x.arg<0)(hl:x.lit=49):(bo d.order L.length w<64→cM d f L (w+1) (m0|||2^bo d.order L.length w) m1 (w0|||2^bo d.order L.length w) w1 lz C)∧
 (∀k,bo d.order L.length w=64+k→k<64→cM d f L (w+1) m0 (m1|||2^k) w0 (w1|||2^k) lz C):=by
 have iD:x.arg<0∧x.lit≠120:=⟨ha,by omega⟩
 have e1:∀p,p<128→(mB L d.order w p||decide (bo d.order L.length w=p))=mB L d.order (w+1) p:=fun p _=>by rw[sd h8 hx,decide_eq_true iD];simp
 have e2:∀p,p<128→(mw L d.order w p||decide (bo d.order L.length w=p))=mw L d.order (w+1) p:=fun p _=>by rw[sb h8 hx,decide_eq_true iD,decide_eq_true hl];simp
 have hw:=(List.getElem?_eq_some_iff.1 hx).1
 exact⟨fun hp=>⟨hw,(h.mask.Ac.1 hp).congr e1,(h.want.Ac.1 hp).congr e2,h.pH hx (by omega),h.len,h.Dn hx ha⟩,
  fun k hk et=>⟨hw,(h.mask.Ac.2 k hk et).congr e1,(h.want.Ac.2 k hk et).congr e2,h.pH hx (by omega),h.len,h.Dn hx ha⟩⟩
theorem cM.zero(h:cM d f L w m0 m1 w0 w1 lz C)(h8:L.length%8=0)(hx:L[w]?=some x)(ha:x.arg<0)(hl:x.lit=48):(bo d.order L.length w<64→cM d f L (w+1) (m0|||2^bo d.order L.length w) m1 w0 w1 lz C)∧
 (∀k,bo d.order L.length w=64+k→k<64→cM d f L (w+1) m0 (m1|||2^k) w0 w1 lz C):=by
 have iD:x.arg<0∧x.lit≠120:=⟨ha,by omega⟩
 have Gs:¬x.lit=49:=by omega
 have e1:∀p,p<128→(mB L d.order w p||decide (bo d.order L.length w=p))=mB L d.order (w+1) p:=fun p _=>by rw[sd h8 hx,decide_eq_true iD];simp
 have e2:∀p,p<128→mw L d.order w p=mw L d.order (w+1) p:=fun p _=>by rw[sb h8 hx,decide_eq_false Gs];simp
 have hw:=(List.getElem?_eq_some_iff.1 hx).1
 exact⟨fun hp=>⟨hw,(h.mask.Ac.1 hp).congr e1,h.want.congr e2,h.pH hx (by omega),h.len,h.Dn hx ha⟩,
  fun k hk et=>⟨hw,(h.mask.Ac.2 k hk et).congr e1,h.want.congr e2,h.pH hx (by omega),h.len,h.Dn hx ha⟩⟩
theorem cM.free(h:cM d f L w m0 m1 w0 w1 lz C)(h8:L.length%8=0)(hx:L[w]?=some x)(ha:x.arg<0)(hl:x.lit=120):cM d f L (w+1) m0 m1 w0 w1 true C:=by
 have iD:¬(x.arg<0∧x.lit≠120):=fun e=>e.2 hl
 have e1:∀p,p<128→mB L d.order w p=mB L d.order (w+1) p:=fun p _=>by rw[sd h8 hx,decide_eq_false iD];simp
 have e2:∀p,p<128→mw L d.order w p=mw L d.order (w+1) p:=fun p _=>by rw[sb h8 hx,decide_eq_false iD];simp
 have hw:=(List.getElem?_eq_some_iff.1 hx).1
 exact⟨hw,h.mask.congr e1,h.want.congr e2,⟨fun _=>⟨w,x,Nat.lt_succ_self w,hx,hl⟩,fun _=>rfl⟩,h.len,h.Dn hx ha⟩
theorem cM.op(h:cM d f L w m0 m1 w0 w1 lz C)(hD:nT L)(h8:L.length%8=0)(hx:L[w]?=some x){j m:Nat}{c:List Int}(ha:x.arg=(j:Int))(hm:x.num=(m:Int))(h0:x.lit=0)(hc:C[j]?=some c)(Xt:m<c.length):cM d f L (w+1) m0 m1 w0 w1 lz (C.set j (c.set m ((bo d.order L.length w:Nat):Int))):=by
 have iD:¬(x.arg<0∧x.lit≠120):=fun e=>by omega
 have e1:∀p,p<128→mB L d.order w p=mB L d.order (w+1) p:=fun p _=>by rw[sd h8 hx,decide_eq_false iD];simp
 have e2:∀p,p<128→mw L d.order w p=mw L d.order (w+1) p:=fun p _=>by rw[sb h8 hx,decide_eq_false iD];simp
 have hw:=(List.getElem?_eq_some_iff.1 hx).1
 refine⟨hw,h.mask.congr e1,h.want.congr e2,h.pH hx (by omega),by rw[List.length_set];exact h.len,fun j' a k c' h1 h2 h3=> ?_⟩
 rw[List.getElem?_set]at h3
 split at h3
 ·next e=>
  subst e
  split at h3
  ·cases h3
   refine⟨by rw[List.length_set];exact(h.rows j a k c h1 h2 hc).1,fun s y m' hs hy sg O7=> ?_⟩
   rw[List.getElem?_set]
   by_cases es:s=w
   ·subst es
    rw[hx]at hy;cases hy
    have:m=m':=by omega
    rw[if_pos this,if_pos Xt]
   ·have au:¬m=m':=fun e=>by
     have uN:=(List.getElem?_eq_some_iff.1 hy).1
     have hp:=List.pairwise_iff_getElem.1 hD s w uN hw (by omega)
     rw[(List.getElem?_eq_some_iff.1 hy).2,(List.getElem?_eq_some_iff.1 hx).2]at hp
     exact hp (by omega) ⟨by omega,by omega⟩
    rw[if_neg au]
    exact(h.rows j a k c h1 h2 hc).2 s y m' (by omega) hy sg O7
  ·cases h3
 ·next e=>
  refine⟨(h.rows j' a k c' h1 h2 h3).1,fun s y m' hs hy sg O7=> ?_⟩
  by_cases es:s=w
  ·subst es
   rw[hx]at hy;cases hy
   omega
  ·exact(h.rows j' a k c' h1 h2 h3).2 s y m' (by omega) hy sg O7
theorem cM.start(hC:C.length=f.args.length)(hz:∀(j:Nat) a k c,f.args[j]?=some a→bQ d.classes a.aU=some k→C[j]?=some c→c.length=k.bits.toNat):cM d f L 0 0 0 0 0 false C:=
 ⟨Nat.zero_le _,cF.zero.congr fun p _=>(KJ _ _ p).symm,cF.zero.congr fun p _=>(Kv _ _ p).symm,⟨fun h=>(by cases h),fun⟨s,y,h,_⟩=>absurd h (Nat.not_lt_zero _)⟩,hC,
  fun j a k c h1 h2 h3=>⟨hz j a k c h1 h2 h3,fun s y m h=>absurd h (Nat.not_lt_zero _)⟩⟩
end
structure zK(d:ο)(f:Ψ)(m0 m1 w0 w1:Nat)(lz:Bool)(C:List (List Int)):Prop where
 s_:dV (ψ d f) (ψ d f).length m0 m1 w0 w1
 loose:lz=true↔∃(p:Nat) (x:Θ),(ψ d f)[p]?=some x∧x.lit=120
 len:C.length=f.args.length
 rows:∀(j:Nat) a k c,f.args[j]?=some a→bQ d.classes a.aU=some k→C[j]?=some c→c.length=k.bits.toNat∧∀(p:Nat) (y:Θ) (m:Nat),(ψ d f)[p]?=some y→y.arg=(j:Int)→y.num=(m:Int)→c[m]?=some (p:Int)
theorem cM.all{d:ο}{f:Ψ}(hG:bG d f){w m0 m1 w0 w1:Nat}{lz:Bool}{C:List (List Int)}(h:cM d f (bf f.pieces) w m0 m1 w0 w1 lz C)(hw:w=(bf f.pieces).length):zK d f m0 m1 w0 w1 lz C:=by
 subst hw
 have get:∀p,p<(bf f.pieces).length→(ψ d f)[p]?=(bf f.pieces)[bo d.order (bf f.pieces).length p]?:=fun p hp=>j_ hG.m8 hp
 have len:=ez d f
 have out:∀p,¬p<(bf f.pieces).length→(ψ d f)[p]?=none:=fun p hp=>List.getElem?_eq_none (by omega)
 refine⟨⟨h.mask.congr fun p _=> ?_,h.want.congr fun p _=> ?_⟩,?_,h.len,fun j a k c h1 h2 h3=>⟨(h.rows j a k c h1 h2 h3).1,fun p y m hp ha hm=> ?_⟩⟩
 ·unfold mB iy
  by_cases hp:p<(bf f.pieces).length
  ·have hq:=iG (o:=d.order) hp hG.m8
   rw[get p hp]
   cases(bf f.pieces)[bo d.order (bf f.pieces).length p]?with
   |none=>rfl
   |some y=>simp[hp,hq,len]
  ·rw[out p hp]
   cases(bf f.pieces)[bo d.order (bf f.pieces).length p]?with
   |none=>rfl
   |some y=>simp[hp]
 ·unfold mw gl
  by_cases hp:p<(bf f.pieces).length
  ·have hq:=iG (o:=d.order) hp hG.m8
   rw[get p hp]
   cases(bf f.pieces)[bo d.order (bf f.pieces).length p]?with
   |none=>rfl
   |some y=>simp[hp,hq,len]
  ·rw[out p hp]
   cases(bf f.pieces)[bo d.order (bf f.pieces).length p]?with
   |none=>rfl
   |some y=>simp[hp]
 ·rw[h.loose]
  constructor
  ·rintro⟨s,y,hs,hy,hl⟩
   refine⟨bo d.order (bf f.pieces).length s,y,?_,hl⟩
   rw[get _ (iG hs hG.m8),mK hs];exact hy
  ·rintro⟨p,x,hp,hl⟩
   have kM:=(List.getElem?_eq_some_iff.1 hp).1
   rw[len]at kM
   rw[get p kM]at hp
   exact⟨_,x,iG kM hG.m8,hp,hl⟩
 ·have kM:=(List.getElem?_eq_some_iff.1 hp).1
  rw[len]at kM
  rw[get p kM]at hp
  have:=(h.rows j a k c h1 h2 h3).2 _ y m (iG kM hG.m8) hp ha hm
  rwa [mK kM]at this
end Go.Proofs.YtcogcbplmkcojaaGreatDoor
