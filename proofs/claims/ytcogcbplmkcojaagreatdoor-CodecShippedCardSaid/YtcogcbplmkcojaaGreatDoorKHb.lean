/-
  Aliases, classes, parts of a description.
-/
import Derived.Test.YtcogcbplmkcojaaGreatDoorKHa
namespace Go.Proofs.YtcogcbplmkcojaaGreatDoor
open Go.IntWalk
set_option maxRecDepth 100000
set_option linter.unusedVariables false
set_option linter.unusedSimpArgs false
set_option maxHeartbeats 1000000
def Ng:Ord:=(.op 0 [] (.op 1 [] (.op 2 [1,0] (.op 3 [1,0] (.op 4 [1,0] (.op 5 [1,0] (.op 6 [] (.op 7 [] (.op 8 [] (.op 9 [] (.op 10 [9,8] (.op 11 [9,8] (.op 12 [9,8] (.op 13 [12,11,10,9,8] (.op 14 [12,11,10,9,8] (.op 15 [9,8] (.op 16 [9,8] (.op 17 [9,8] (.op 18 [] (.op 19 [] (.op 20 [] .nil)))))))))))))))))))))
def Nf:Ord:=(.op 0 [] (.op 1 [] (.op 2 [1,0] (.op 3 [1,0] (.op 4 [1,0] (.op 5 [1,0] (.op 6 [] (.op 7 [] (.op 8 [] (.op 9 [] (.op 10 [] (.op 11 [10,9,8] (.op 12 [10,9,8] (.op 13 [] (.op 14 [] (.op 15 [] (.op 16 [] (.op 17 [] (.op 18 [] (.op 19 [] (.op 20 [] (.op 21 [] (.op 22 [] (.op 23 [] (.op 24 [] (.op 25 [] (.op 26 [] (.op 27 [] (.op 28 [] (.op 29 [] (.op 30 [] (.op 31 [] (.op 32 [] (.op 33 [] (.op 34 [] (.op 35 [] (.op 36 [] (.op 37 [] (.op 38 [] (.op 39 [] (.op 40 [] (.op 41 [] (.op 42 [] (.op 43 [] (.op 44 [] (.op 45 [44,43] (.op 46 [44,43] (.op 47 [44,43] (.op 48 [] (.op 49 [] (.op 50 [49,48,47,46,45,44,43] (.op 51 [49,48,47,46,45,44,43] (.op 52 [49,48,47,46,45,44,43] (.op 53 [52,51,50,49,48,47,46,45,44,43] (.op 54 [52,51,50,49,48,47,46,45,44,43] (.op 55 [49,48,47,46,45,44,43] (.op 56 [49,48,47,46,45,44,43] (.op 57 [49,48,47,46,45,44,43] (.op 58 [] (.op 59 [] (.op 60 [] .nil)))))))))))))))))))))))))))))))))))))))))))))))))))))))))))))
theorem ab.yes{f:FuncId}{ts:List T}{P:Prop}(h:ab Tryz.prog f ts (aR P)):ab Tryz.prog f ts (wv P):=h.weaken (fun r ⟨b,e,hb⟩=>⟨b,e,hb.1⟩) wv.aJ
theorem rO{α:Type}{l:List α}{i:Int}{a:α}(h:bQ l i=some a):0≤i∧i<l.length:=by
 by_cases h0:0≤i∧i<l.length
 ·exact h0
 ·rw[g_ h0]at h;cases h
def qP(d:ο)(x:dO):Prop:=∃fl,bQ d.files x.file=some fl∧0≤x.num∧x.num<fl.count
theorem Mq(d:ο)(x:dO):ab Tryz.prog 65 [ax d,bz x] (aR (qP d x)):=by
 refine ab.Γ ?_ aR.aJ
 refine γ.ξ ζ η Tryz.func65 rfl rfl ?_
 refine υ Ng (by decide+kernel) ?_
 refine γ.pure (cJ _ _) rfl ?_
 refine And.intro (fun j hj=>by first|(cases hj;done)|exact χ.append _ _ _|exact χ.refl _ _) ?_
 refine U (fun c=> ?_) (fun c=> ?_)
 ·have h:=qw c
  obtain⟨f,xw,_,hf⟩:=cQ h
  refine ε (gW rfl h.1) ?_
  refine ν (cu hf) ?_
  refine γ.pure (cJ _ _) rfl ?_
  refine And.intro (fun j hj=>by first|(cases hj;done)|exact χ.append _ _ _|exact χ.refl _ _) ?_
  refine And.intro (fun j hj=>by first|(cases hj;done)|exact χ.append _ _ _|exact χ.refl _ _) ?_
  refine aZ ⟨fun e=>⟨f,xw,by simpa using e⟩,fun⟨f',h1,h2⟩=> ?_⟩
  rw[xw]at h1
  cases h1
  simpa using h2
 ·refine And.intro (fun j hj=>by first|(cases hj;done)|exact χ.append _ _ _|exact χ.refl _ _) ?_
  refine And.intro (fun j hj=>by first|(cases hj;done)|exact χ.append _ _ _|exact χ.refl _ _) ?_
  exact ak fun⟨f,h1,_⟩=>p6 c (by have:=rO h1;exact⟨this.1,by simpa using this.2⟩)
def hZ(d:ο)(k:cg):Prop:=
 (k.kind=1∧(1≤k.bits∧k.bits≤6)∧k.shift=0∧0≤k.plus∧k.plus<64∧∃fl,bQ d.files k.file=some fl∧fl.rI∧k.plus+2^k.bits.toNat - 1<fl.count)∨
 (k.kind=2∧(1≤k.bits∧k.bits≤62)∧(0≤k.shift∧k.shift≤62 - k.bits)∧k.plus=0)∨
 ((k.kind=3∨k.kind=4∨k.kind=5)∧(1≤k.bits∧k.bits≤64)∧(0≤k.shift∧k.shift≤64 - k.bits)∧k.plus=0)
theorem BP(d:ο)(k:cg):ab Tryz.prog 67 [ax d,aF k] (aR (hZ d k)):=by
 refine ab.Γ ?_ aR.aJ
 refine γ.ξ ζ η Tryz.func67 rfl rfl ?_
 refine U (fun c=> ?_) (fun c1=> ?_)
 ·have k1:k.kind=1:=by simpa using c
  refine υ Nf (by decide+kernel) ?_
  refine γ.pure (cJ _ _) rfl ?_
  refine And.intro (fun j hj=>by first|(cases hj;done)|exact χ.append _ _ _|exact χ.refl _ _) ?_
  refine U (fun c=> ?_) (fun c=> ?_)
  ·have h:=qw c
   obtain⟨f,To,_,hf⟩:=cQ h
   refine ε (gW rfl h.1) ?_
   refine ν (cu hf) ?_
   refine γ.pure (v9 f) rfl ?_
   refine And.intro (fun j hj=>by first|(cases hj;done)|exact χ.append _ _ _|exact χ.refl _ _) ?_
   refine U (fun cf=> ?_) (fun nf=> ?_)
   rotate_left 1
   ·refine And.intro (fun j hj=>by first|(cases hj;done)|exact χ.append _ _ _|exact χ.refl _ _) ?_
    exact ak (by
     have h0:¬f.rI:=of_decide_eq_false nf
     rintro(⟨_,_,_,_,_,fl,h1,h2,_⟩|h|h)
     ·rw[To]at h1;cases h1;exact h0 h2
     ·omega
     ·omega)
   refine U (fun b1=> ?_) (fun nn=> ?_)
   rotate_left 1
   ·refine And.intro (fun j hj=>by first|(cases hj;done)|exact χ.append _ _ _|exact χ.refl _ _) ?_
    exact ak (by simp at nn;rintro(h|h|h)<;>omega)
   have b1:1≤k.bits:=by simpa using b1
   refine U (fun b2=> ?_) (fun nn=> ?_)
   rotate_left 1
   ·refine And.intro (fun j hj=>by first|(cases hj;done)|exact χ.append _ _ _|exact χ.refl _ _) ?_
    exact ak (by simp at nn;rintro(h|h|h)<;>omega)
   have b2:k.bits≤6:=by simpa using b2
   refine U (fun s0=> ?_) (fun nn=> ?_)
   rotate_left 1
   ·refine And.intro (fun j hj=>by first|(cases hj;done)|exact χ.append _ _ _|exact χ.refl _ _) ?_
    exact ak (by simp at nn;rintro(h|h|h)<;>omega)
   have s0:k.shift=0:=by simpa using s0
   refine U (fun p0=> ?_) (fun nn=> ?_)
   rotate_left 1
   ·refine And.intro (fun j hj=>by first|(cases hj;done)|exact χ.append _ _ _|exact χ.refl _ _) ?_
    exact ak (by simp at nn;rintro(h|h|h)<;>omega)
   have p0:0≤k.plus:=by simpa using p0
   refine U (fun p1=> ?_) (fun nn=> ?_)
   rotate_left 1
   ·refine And.intro (fun j hj=>by first|(cases hj;done)|exact χ.append _ _ _|exact χ.refl _ _) ?_
    exact ak (by simp at nn;rintro(h|h|h)<;>omega)
   have p1:k.plus<64:=by simpa using p1
   have K5:2^k.bits.toNat≤2^6:=Nat.pow_le_pow_right (by decide) (by omega)
   have Pg:((2^k.bits.toNat:Nat):Int)=2^k.bits.toNat:=by rw[Int.natCast_pow];rfl
   obtain⟨g1,tl⟩:∃g:Nat,g=2^k.bits.toNat:=⟨_,rfl⟩
   rw[←tl]at K5 Pg
   refine ε (decide_eq_true (show(0:Int)≤k.bits by omega)) ?_
   refine δ (n:=(g1:Int)) (show IntKind.i64.wrap (1*2^(min (Int.toNat k.bits) IntKind.i64.bits))=(g1:Int)from by
    rw[Nat.min_eq_left (show k.bits.toNat≤IntKind.i64.bits by show _≤64;omega),←Pg,IntKind.wrap_i64];omega) ?_
   obtain⟨g2,ny⟩:∃g,g=k.plus+(g1:Int):=⟨_,rfl⟩
   obtain⟨g3,ZE⟩:∃g,g=g2 - 1:=⟨_,rfl⟩
   refine δ (n:=g2) (by rw[IntKind.wrap_i64];omega) ?_
   refine δ (n:=g3) (by rw[IntKind.wrap_i64];omega) ?_
   refine ε (gW rfl h.1) ?_
   refine ν (cu hf) ?_
   refine And.intro (fun j hj=>by first|(cases hj;done)|exact χ.append _ _ _|exact χ.refl _ _) ?_
   exact aZ ⟨fun hc=> .inl ⟨k1,⟨b1,b2⟩,s0,p0,p1,f,To,of_decide_eq_true cf,by have:=of_decide_eq_true hc;rw[←Pg];omega⟩,fun hk=>by
    rcases hk with⟨_,_,_,_,_,fl,h1,_,h3⟩|h|h
    ·rw[To]at h1;cases h1;rw[←Pg]at h3;exact decide_eq_true (by omega)
    ·omega
    ·omega⟩
  ·refine And.intro (fun j hj=>by first|(cases hj;done)|exact χ.append _ _ _|exact χ.refl _ _) ?_
   refine And.intro (fun j hj=>by first|(cases hj;done)|exact χ.append _ _ _|exact χ.refl _ _) ?_
   exact ak (by
    have h0:=p6 c
    rintro(⟨_,_,_,_,_,fl,h1,_⟩|h|h)
    ·exact h0 (rO h1)
    ·omega
    ·omega)
 have n1:¬k.kind=1:=by simpa using c1
 refine U (fun c=> ?_) (fun m2=> ?_)
 ·have k2:k.kind=2:=by simpa using c
  refine U (fun b1=> ?_) (fun nn=> ?_)
  rotate_left 1
  ·exact ak (by simp at nn;rintro(h|h|h)<;>omega)
  have b1:1≤k.bits:=by simpa using b1
  refine U (fun b2=> ?_) (fun nn=> ?_)
  rotate_left 1
  ·exact ak (by simp at nn;rintro(h|h|h)<;>omega)
  have b2:k.bits≤62:=by simpa using b2
  refine U (fun s0=> ?_) (fun nn=> ?_)
  rotate_left 1
  ·exact ak (by simp at nn;rintro(h|h|h)<;>omega)
  have s0:0≤k.shift:=by simpa using s0
  refine δ (n:=62 - k.bits) (g7 (by omega) (by omega)) ?_
  refine U (fun s1=> ?_) (fun nn=> ?_)
  rotate_left 1
  ·exact ak (by simp at nn;rintro(h|h|h)<;>omega)
  have s1:k.shift≤62 - k.bits:=by simpa using s1
  exact aZ ⟨fun h=> .inr (.inl ⟨k2,⟨b1,b2⟩,⟨s0,s1⟩,by simpa using h⟩),fun hk=>by simpa using(show k.plus=0 by rcases hk with h|h|h<;>omega)⟩
 refine U (fun c=> ?_) (fun m3=> ?_)
 ·have k3:k.kind=3∨k.kind=4∨k.kind=5:= .inl (by simpa using c)
  refine U (fun _=> ?_) (fun c'=>absurd (c.symm.trans c') (by decide))
  refine U (fun b1=> ?_) (fun nn=> ?_)
  rotate_left 1
  ·exact ak (by simp at nn;rintro(h|h|h)<;>omega)
  have b1:1≤k.bits:=by simpa using b1
  refine U (fun b2=> ?_) (fun nn=> ?_)
  rotate_left 1
  ·exact ak (by simp at nn;rintro(h|h|h)<;>omega)
  have b2:k.bits≤64:=by simpa using b2
  refine U (fun s0=> ?_) (fun nn=> ?_)
  rotate_left 1
  ·exact ak (by simp at nn;rintro(h|h|h)<;>omega)
  have s0:0≤k.shift:=by simpa using s0
  refine δ (n:=64 - k.bits) (g7 (by omega) (by omega)) ?_
  refine U (fun s1=> ?_) (fun nn=> ?_)
  rotate_left 1
  ·exact ak (by simp at nn;rintro(h|h|h)<;>omega)
  have s1:k.shift≤64 - k.bits:=by simpa using s1
  exact aZ ⟨fun h=> .inr (.inr ⟨k3,⟨b1,b2⟩,⟨s0,s1⟩,by simpa using h⟩),fun hk=>by simpa using(show k.plus=0 by rcases hk with h|h|h<;>omega)⟩
 refine U (fun c=> ?_) (fun m4=> ?_)
 ·have k3:k.kind=3∨k.kind=4∨k.kind=5:= .inr (.inl (by simpa using c))
  refine U (fun _=> ?_) (fun c'=>absurd (c.symm.trans c') (by decide))
  refine U (fun b1=> ?_) (fun nn=> ?_)
  rotate_left 1
  ·exact ak (by simp at nn;rintro(h|h|h)<;>omega)
  have b1:1≤k.bits:=by simpa using b1
  refine U (fun b2=> ?_) (fun nn=> ?_)
  rotate_left 1
  ·exact ak (by simp at nn;rintro(h|h|h)<;>omega)
  have b2:k.bits≤64:=by simpa using b2
  refine U (fun s0=> ?_) (fun nn=> ?_)
  rotate_left 1
  ·exact ak (by simp at nn;rintro(h|h|h)<;>omega)
  have s0:0≤k.shift:=by simpa using s0
  refine δ (n:=64 - k.bits) (g7 (by omega) (by omega)) ?_
  refine U (fun s1=> ?_) (fun nn=> ?_)
  rotate_left 1
  ·exact ak (by simp at nn;rintro(h|h|h)<;>omega)
  have s1:k.shift≤64 - k.bits:=by simpa using s1
  exact aZ ⟨fun h=> .inr (.inr ⟨k3,⟨b1,b2⟩,⟨s0,s1⟩,by simpa using h⟩),fun hk=>by simpa using(show k.plus=0 by rcases hk with h|h|h<;>omega)⟩
 refine U (fun c=> ?_) (fun m5=> ?_)
 ·have k3:k.kind=3∨k.kind=4∨k.kind=5:= .inr (.inr (by simpa using c))
  refine U (fun b1=> ?_) (fun nn=> ?_)
  rotate_left 1
  ·exact ak (by simp at nn;rintro(h|h|h)<;>omega)
  have b1:1≤k.bits:=by simpa using b1
  refine U (fun b2=> ?_) (fun nn=> ?_)
  rotate_left 1
  ·exact ak (by simp at nn;rintro(h|h|h)<;>omega)
  have b2:k.bits≤64:=by simpa using b2
  refine U (fun s0=> ?_) (fun nn=> ?_)
  rotate_left 1
  ·exact ak (by simp at nn;rintro(h|h|h)<;>omega)
  have s0:0≤k.shift:=by simpa using s0
  refine δ (n:=64 - k.bits) (g7 (by omega) (by omega)) ?_
  refine U (fun s1=> ?_) (fun nn=> ?_)
  rotate_left 1
  ·exact ak (by simp at nn;rintro(h|h|h)<;>omega)
  have s1:k.shift≤64 - k.bits:=by simpa using s1
  exact aZ ⟨fun h=> .inr (.inr ⟨k3,⟨b1,b2⟩,⟨s0,s1⟩,by simpa using h⟩),fun hk=>by simpa using(show k.plus=0 by rcases hk with h|h|h<;>omega)⟩
 exact ak (by simp at m2 m3 m4 m5;rintro(h|h|h)<;>omega)
structure mW(d:ο):Prop where
 order:d.order=1∨d.order=2
 fi:d.files.length≤8
 fg:d.flags.length≤16
 cl:d.classes.length≤64
 fl:d.forms.length≤512
 files:∀x∈d.files,x.rI
 ag:∀x∈d.ag,qP d x
 aQ:∀x∈d.aQ,qP d x
 classes:∀k∈d.classes,hZ d k
theorem dY{n:Nat}(h:n≤maxLen):n≤9223372036854775807:=h
theorem pI{α:Type}{f:α→T}{l:List α}{n:Nat}(e:decide (((l.map f).length:Int)>(n:Int))=false):l.length≤n:=by
 have:=of_decide_eq_false e
 rw[List.length_map]at this;omega
theorem pJ{α:Type}{f:α→T}{l:List α}{n:Nat}(e:decide (((l.map f).length:Int)>(n:Int))=true):¬l.length≤n:=by
 have:=of_decide_eq_true e
 rw[List.length_map]at this;omega
theorem JX(d:ο)(hd:d.ok):ab Tryz.prog 22 [ax d] (aR (mW d)):=by
 obtain⟨_,_,l1,o1,l2,o2,l3,o3,l4,o4,l5,o5,l6,o6,l7,o7,l8,o8,l9,o9,WO,WN,R_,WM⟩:=hd
 have hA:ab Tryz.prog 62 [.θ 4 (d.files.map ec),.fn (.func 63) [] []] (aR (∀x∈d.files,x.rI)):=
  FG _ d.files jW.rI (dY l1) fun x _=>(v9 x).iff decide_eq_true_iff
 have hB:∀l:List dO,l.length≤maxLen→ab Tryz.prog 64 [.θ 3 (l.map bz),.fn (.func 65) [ax d] []] (aR (∀x∈l,qP d x)):=fun l hl=>
  E0 _ (ax d) l (qP d) (dY hl) fun x _=>Mq d x
 have hC:ab Tryz.prog 66 [.θ 7 (d.classes.map aF),.fn (.func 67) [ax d] []] (aR (∀x∈d.classes,hZ d x)):=
  EZ _ (ax d) d.classes (hZ d) (dY l4) fun x _=>BP d x
 refine ab.Γ ?_ aR.aJ
 refine γ.ξ ζ η Tryz.func22 rfl rfl ?_
 refine U (fun c1=> ?_) (fun c1=> ?_)
 ·refine U (fun c2=> ?_) (fun c2=> ?_)
  ·exact ak fun h=>by
    have c1:¬d.order=1:=by simpa using c1
    have c2:¬d.order=2:=by simpa using c2
    exact h.order.elim c1 c2
  have ho:d.order=1∨d.order=2:= .inr (by simpa using c2)
  refine U (fun e1=> ?_) (fun e1=> ?_)
  ·exact ak fun h=>pJ (n:=8) e1 h.fi
  refine U (fun e2=> ?_) (fun e2=> ?_)
  ·exact ak fun h=>pJ (n:=16) e2 h.fg
  refine U (fun e3=> ?_) (fun e3=> ?_)
  ·exact ak fun h=>pJ (n:=64) e3 h.cl
  refine U (fun e4=> ?_) (fun e4=> ?_)
  ·exact ak fun h=>pJ (n:=512) e4 h.fl
  refine γ.iP hA rfl ?_
  rintro _ ⟨bA,rfl,pA⟩
  refine U (fun cA=> ?_) (fun cA=> ?_)
  rotate_left 1
  ·exact ak fun h=>absurd (pA.2 h.files) (by simpa using cA)
  refine γ.cH (hB d.ag l2) rfl ⟨.refl _,.refl _,trivial⟩ ?_
  rintro _ ⟨bB,rfl,pB⟩
  refine U (fun cB=> ?_) (fun cB=> ?_)
  rotate_left 1
  ·exact ak fun h=>absurd (pB.2 h.ag) (by simpa using cB)
  refine γ.cH (hB d.aQ R_) rfl ⟨.refl _,.refl _,trivial⟩ ?_
  rintro _ ⟨bR,rfl,pR⟩
  refine U (fun cR=> ?_) (fun cR=> ?_)
  rotate_left 1
  ·exact ak fun h=>absurd (pR.2 h.aQ) (by simpa using cR)
  refine γ.cH hC rfl ⟨.refl _,.refl _,trivial⟩ ?_
  rintro _ ⟨bC,rfl,pC⟩
  exact aZ ⟨fun h=>⟨ho,pI (n:=8) e1,pI (n:=16) e2,pI (n:=64) e3,pI (n:=512) e4,pA.1 (by simpa using cA),pB.1 (by simpa using cB),pR.1 (by simpa using cR),pC.1 (by simpa using h)⟩,fun h=>by simpa using pC.2 h.classes⟩
 have ho:d.order=1∨d.order=2:= .inl (by simpa using c1)
 refine U (fun e1=> ?_) (fun e1=> ?_)
 ·exact ak fun h=>pJ (n:=8) e1 h.fi
 refine U (fun e2=> ?_) (fun e2=> ?_)
 ·exact ak fun h=>pJ (n:=16) e2 h.fg
 refine U (fun e3=> ?_) (fun e3=> ?_)
 ·exact ak fun h=>pJ (n:=64) e3 h.cl
 refine U (fun e4=> ?_) (fun e4=> ?_)
 ·exact ak fun h=>pJ (n:=512) e4 h.fl
 refine γ.iP hA rfl ?_
 rintro _ ⟨bA,rfl,pA⟩
 refine U (fun cA=> ?_) (fun cA=> ?_)
 rotate_left 1
 ·exact ak fun h=>absurd (pA.2 h.files) (by simpa using cA)
 refine γ.cH (hB d.ag l2) rfl ⟨.refl _,.refl _,trivial⟩ ?_
 rintro _ ⟨bB,rfl,pB⟩
 refine U (fun cB=> ?_) (fun cB=> ?_)
 rotate_left 1
 ·exact ak fun h=>absurd (pB.2 h.ag) (by simpa using cB)
 refine γ.cH (hB d.aQ R_) rfl ⟨.refl _,.refl _,trivial⟩ ?_
 rintro _ ⟨bR,rfl,pR⟩
 refine U (fun cR=> ?_) (fun cR=> ?_)
 rotate_left 1
 ·exact ak fun h=>absurd (pR.2 h.aQ) (by simpa using cR)
 refine γ.cH hC rfl ⟨.refl _,.refl _,trivial⟩ ?_
 rintro _ ⟨bC,rfl,pC⟩
 exact aZ ⟨fun h=>⟨ho,pI (n:=8) e1,pI (n:=16) e2,pI (n:=64) e3,pI (n:=512) e4,pA.1 (by simpa using cA),pB.1 (by simpa using cB),pR.1 (by simpa using cR),pC.1 (by simpa using h)⟩,fun h=>by simpa using pC.2 h.classes⟩
end Go.Proofs.YtcogcbplmkcojaaGreatDoor
