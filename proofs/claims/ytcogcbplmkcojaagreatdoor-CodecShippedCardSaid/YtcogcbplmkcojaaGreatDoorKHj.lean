/-
  Forms that are apart: no bytes fit both (plain law, without the program).
-/
import Derived.Test.YtcogcbplmkcojaaGreatDoorKHi
namespace Go.Proofs.YtcogcbplmkcojaaGreatDoor
open Go.IntWalk
set_option maxRecDepth 100000
set_option linter.unusedVariables false
set_option linter.unusedSimpArgs false
set_option maxHeartbeats 1000000
def ka(o:Int)(L:List Θ):List Θ:=(List.range L.length).map fun p=>(L[bo o L.length p]?).getD ⟨0,0,0⟩
theorem oY(o:Int)(L:List Θ):(ka o L).length=L.length:=by simp[ka]
theorem j_{o:Int}{L:List Θ}(h8:L.length%8=0){p:Nat}(hp:p<L.length):(ka o L)[p]?=L[bo o L.length p]?:=by
 have:=iG (o:=o) hp h8
 rw[ka,List.getElem?_map,List.getElem?_range hp,List.getElem?_eq_getElem this,Option.map_some,List.getElem?_eq_getElem this];rfl
theorem la.eq{o:Int}{L R:List Θ}(h:la o L R)(h8:L.length%8=0):R=ka o L:=by
 apply List.ext_getElem?
 intro p
 by_cases hp:p<L.length
 ·rw[h.at_ h8 hp,j_ h8 hp]
 ·rw[List.getElem?_eq_none (by rw[h.1];omega),List.getElem?_eq_none (by rw[oY];omega)]
theorem Fp{o:Int}{L:List Θ}(h8:L.length%8=0){b:Θ}(hb:b∈ka o L):b∈L:=by
 obtain⟨p,hp,e⟩:=List.getElem_of_mem hb
 rw[oY]at hp
 have h1:=j_ (o:=o) h8 hp
 rw[List.getElem?_eq_getElem (by rw[oY];exact hp),e]at h1
 exact List.mem_of_getElem? h1.symm
def ψ(d:ο)(f:Ψ):List Θ:=ka d.order (bf f.pieces)
theorem ez(d:ο)(f:Ψ):(ψ d f).length=(bf f.pieces).length:=oY _ _
def qJ(d:ο)(f:Ψ)(b:Θ):Prop:=
 (b.arg= -1∧b.num=0∧(b.lit=48∨b.lit=49∨b.lit=120))∨
 (b.lit=0∧∃(i:Nat) (a:cP) (k:cg) (m:Nat),b.arg=(i:Int)∧f.args[i]?=some a∧bQ d.classes a.aU=some k∧b.num=(m:Int)∧(m:Int)<k.bits∧hZ d k)
theorem bG.O5{d:ο}{f:Ψ}(h:bG d f):∀b∈bf f.pieces,qJ d f b:=by
 have key:∀l:List bK,(∀p∈l,oO d f p)→∀b∈bf l,qJ d f b:=by
  intro l
  induction l with
  |nil=>intro _ b hb;cases hb
  |cons p l ih=>
   intro hp b hb
   rcases List.mem_append.1 (show b∈gM p++bf l from hb)with hb|hb
   ·rcases hp p List.mem_cons_self with⟨h1,_,h3⟩|⟨h1,g,k,hg,hk,c1,c2,c3⟩
    ·rw[gM,if_pos h1]at hb
     obtain⟨x,hx,rfl⟩:=List.mem_map.1 hb
     refine .inl ⟨rfl,rfl,?_⟩
     have:=h3 x hx
     unfold pe at this
     simp at this
     show x.toNat=48∨x.toNat=49∨x.toNat=120
     omega
    ·rw[gM,if_neg h1]at hb
     unfold dM at hb
     obtain⟨i,hi,rfl⟩:=List.mem_map.1 hb
     have hi:=List.mem_range.1 hi
     unfold sZ at hi
     obtain⟨k2,et,cd⟩:=h.uZ g (at_mem hg)
     obtain rfl:k=k2:=by rw[hk]at et;exact Option.some.inj et
     have h0:=mc hg
     obtain⟨a2,e1,_,e2⟩:=cQ h0
     obtain rfl:g=a2:=by rw[hg]at e1;exact Option.some.inj e1
     exact .inr ⟨rfl,p.arg.toNat,g,k,(p.hi - (i:Int)).toNat,by show p.arg=_;omega,e2,hk,by show p.hi - (i:Int)=_;omega,by omega,cd⟩
   ·exact ih (fun q hq=>hp q (List.mem_cons_of_mem _ hq)) b hb
 exact key _ h.A8
theorem bG.is{d:ο}{f:Ψ}(h:bG d f):∀b∈ψ d f,qJ d f b:=fun b hb=>h.O5 b (Fp h.m8 hb)
theorem bG.td{d:ο}{f:Ψ}(h:bG d f){p:Nat}{b:Θ}(hb:(ψ d f)[p]?=some b):qJ d f b:=h.is b (List.mem_of_getElem? hb)
theorem bG.wq{d:ο}{f:Ψ}(h:bG d f){p q:Nat}{x y:Θ}(hp:(ψ d f)[p]?=some x)(hq:(ψ d f)[q]?=some y)(au:p≠q)(h0:0≤x.arg):¬(x.arg=y.arg∧x.num=y.num):=by
 have lp:=(List.getElem?_eq_some_iff.1 hp).1
 have lq:=(List.getElem?_eq_some_iff.1 hq).1
 rw[ez]at lp lq
 rw[ψ,j_ h.m8 lp]at hp
 rw[ψ,j_ h.m8 lq]at hq
 have SL:bo d.order (bf f.pieces).length p≠bo d.order (bf f.pieces).length q:=fun e=>au (C4 lp lq e)
 have hd:=List.pairwise_iff_getElem.1 h.ux
 obtain⟨a1,a2⟩:=List.getElem?_eq_some_iff.1 hp
 obtain⟨b1,b2⟩:=List.getElem?_eq_some_iff.1 hq
 rcases Nat.lt_or_gt_of_ne SL with ω|ω
 ·have:=hd _ _ a1 b1 ω
  rw[a2,b2]at this
  exact this h0
 ·have:=hd _ _ b1 a1 ω
  rw[a2,b2]at this
  rintro⟨e1,e2⟩
  exact this (by rw[←e1];exact h0) ⟨e1.symm,e2.symm⟩
def fy(b:List UInt8)(p:Nat):Bool:=((b[p/8]?).getD 0).toNat.testBit (p%8)
def fA(A:List Θ)(i:Int)(one:Nat→Bool)(n:Nat):Prop:=∀m:Nat,n.testBit m=true↔∃(p:Nat) (x:Θ),A[p]?=some x∧x.arg=i∧x.num=(m:Int)∧one p=true
theorem fA.p9{A:List Θ}{i:Int}{one:Nat→Bool}{n m:Nat}(h:fA A i one n)(k:fA A i one m):n=m:=
 Nat.eq_of_testBit_eq fun j=>by
  have h1:=h j
  have k1:=k j
  cases e:n.testBit j<;>cases e2:m.testBit j<;>simp[e,e2]at h1 k1⊢
  ·obtain⟨p,x,a,b,c,d⟩:=k1
   rw[h1 p x a b c]at d;cases d
  ·obtain⟨p,x,a,b,c,d⟩:=h1
   rw[k1 p x a b c]at d;cases d
theorem fA.congr{A:List Θ}{i:Int}{one RY:Nat→Bool}{n:Nat}(h:fA A i one n)(e:∀(p:Nat) (x:Θ),A[p]?=some x→x.arg=i→one p=RY p):fA A i RY n:=fun m=>by
 rw[h m]
 constructor
 ·rintro⟨p,x,a,b,c,d⟩;exact⟨p,x,a,b,c,by rw[←e p x a b];exact d⟩
 ·rintro⟨p,x,a,b,c,d⟩;exact⟨p,x,a,b,c,by rw[e p x a b];exact d⟩
theorem fA.lt{A:List Θ}{i:Int}{one:Nat→Bool}{n k:Nat}(h:fA A i one n)(hb:∀(p:Nat) (x:Θ),A[p]?=some x→x.arg=i→x.num<(k:Int)):n<2^k:=by
 refine Nat.lt_pow_two_of_testBit n fun j hj=> ?_
 cases e:n.testBit j
 ·rfl
 ·obtain⟨p,x,a,b,c,_⟩:=(h j).1 e
  have:=hb p x a b
  omega
def lB(d:ο)(f:Ψ)(b:List UInt8):Prop:=
 (ψ d f).length≤8*b.length∧(∀(p:Nat) (x:Θ),(ψ d f)[p]?=some x→(x.lit=48→fy b p=false)∧(x.lit=49→fy b p=true))∧
 ∀(i:Nat) a k n,f.args[i]?=some a→bQ d.classes a.aU=some k→fA (ψ d f) i (fy b) n→bV k n∉k.aY
def gQ(b:Θ):Prop:=b.arg<0∧b.lit≠120
def ic(B:List Θ)(p:Nat):Bool:=match B[p]?with|some y=>decide (y.lit=49)|none=>false
def Mr(d:ο)(f:Ψ)(A B:List Θ):Prop:=
 ∃(i:Nat) (a:cP) (k:cg) (n:Nat),f.args[i]?=some a∧bQ d.classes a.aU=some k∧(∀(p:Nat) (x:Θ),A[p]?=some x→x.arg=(i:Int)→∃y:Θ,B[p]?=some y∧gQ y)∧fA A i (ic B) n∧bV k n∈k.aY
def xc(A B:List Θ):Prop:=∃(p:Nat) (x y:Θ),A[p]?=some x∧B[p]?=some y∧gQ x∧gQ y∧(x.lit=49↔¬y.lit=49)
def j6(d:ο)(f g:Ψ):Prop:=xc (ψ d f) (ψ d g)∨Mr d f (ψ d f) (ψ d g)∨Mr d g (ψ d g) (ψ d f)
theorem qJ.lit{d:ο}{f:Ψ}{b:Θ}(h:qJ d f b)(hl:gQ b):b.lit=48∨b.lit=49:=by
 rcases h with⟨_,_,h⟩|⟨_,i,_,_,_,h,_⟩
 ·have:=hl.2;omega
 ·have:=hl.1;omega
theorem GA{d:ο}{f g:Ψ}(hg:bG d g){b:List UInt8}(h:Mr d f (ψ d f) (ψ d g))(h1:lB d f b)(h2:lB d g b):False:=by
 obtain⟨i,a,k,n,ha,hk,hw,hn,hm⟩:=h
 refine h1.2.2 i a k n ha hk (hn.congr fun p x hp hx=> ?_) hm
 obtain⟨y,hy,hl⟩:=hw p x hp hx
 have h3:=h2.2.1 p y hy
 unfold ic
 rw[hy]
 rcases(hg.td hy).lit hl with e|e
 ·rw[h3.1 e];simp[e]
 ·rw[h3.2 e];simp[e]
theorem BY{d:ο}{f g:Ψ}(hf:bG d f)(hg:bG d g)(h:j6 d f g){b:List UInt8}(h1:lB d f b)(h2:lB d g b):False:=by
 rcases h with⟨p,x,y,hx,hy,lx,ly,he⟩|h|h
 ·have e1:=h1.2.1 p x hx
  have e2:=h2.2.1 p y hy
  rcases(hf.td hx).lit lx with ex|ex<;>rcases(hg.td hy).lit ly with ey|ey
  ·omega
  ·rw[e2.2 ey]at e1;exact absurd (e1.1 ex) (by simp)
  ·rw[e2.1 ey]at e1;exact absurd (e1.2 ex) (by simp)
  ·omega
 ·exact GA hg h h1 h2
 ·exact GA hf h h2 h1
end Go.Proofs.YtcogcbplmkcojaaGreatDoor
