/-
  Relocations of a description.
-/
import Derived.Test.YtcogcbplmkcojaaGreatDoorKHb
namespace Go.Proofs.YtcogcbplmkcojaaGreatDoor
open Go.IntWalk
set_option maxRecDepth 100000
set_option linter.unusedVariables false
set_option linter.unusedSimpArgs false
set_option maxHeartbeats 1000000
def J4:Ord:=(.op 0 [] (.op 1 [] (.op 2 [] (.op 3 [] (.op 4 [] (.op 5 [] (.op 6 [] (.op 7 [] (.op 8 [] (.op 9 [] (.op 10 [] (.op 11 [] (.op 12 [] (.op 13 [] (.op 14 [] (.op 15 [] (.op 16 [15,14] (.op 17 [15,14] (.op 18 [] (.op 19 [] (.op 20 [] (.op 21 [] (.op 22 [] (.op 23 [22,21] (.op 24 [22,21] (.op 25 [22,21] (.op 26 [22,21] (.op 27 [] (.op 28 [] (.op 29 [] (.op 30 [] (.op 31 [] (.op 32 [31,30] (.op 33 [31,30] (.op 34 [] (.op 35 [] (.op 36 [35,34,33,32,31,30] (.op 37 [35,34,33,32,31,30] (.op 38 [35,34,33,32,31,30] (.op 39 [38,37,36,35,34,33,32,31,30] (.op 40 [38,37,36,35,34,33,32,31,30] (.op 41 [35,34,33,32,31,30] (.op 42 [35,34,33,32,31,30] (.op 43 [35,34,33,32,31,30] (.op 44 [] (.op 45 [] (.op 46 [] .nil)))))))))))))))))))))))))))))))))))))))))))))))
def Nb:Ord:=(.op 0 [] (.op 1 [] (.op 2 [1,0] (.op 3 [1,0] (.op 4 [1,0] (.op 5 [1,0] (.op 6 [] (.op 7 [] (.op 8 [] (.op 9 [] (.op 10 [] (.op 11 [] (.op 12 [] (.op 13 [] (.op 14 [] (.op 15 [] (.op 16 [] (.op 17 [] (.op 18 [17,16,15] (.op 19 [17,16,15] (.op 20 [] (.op 21 [] (.op 22 [] (.op 23 [22,21,20,19,18,17,16,15] (.op 24 [22,21,20,19,18,17,16,15] (.op 25 [] (.op 26 [] (.op 27 [] (.op 28 [] .nil)))))))))))))))))))))))))))))
def Na:Ord:=(.op 0 [] (.op 1 [] (.op 2 [1,0] (.op 3 [1,0] (.op 4 [1,0] (.op 5 [4,3,2,1,0] (.op 6 [4,3,2,1,0] (.op 7 [1,0] (.op 8 [1,0] (.op 9 [1,0] (.op 10 [] (.op 11 [] .nil))))))))))))
def gP(d:ο)(r:Int):Int:=match bQ d.aw r with|none=>0|some x=>x.kind
theorem DD{d:ο}{r:Int}(h:gP d r≠0):0≤r∧r<d.aw.length:=by
 unfold gP at h
 by_cases hr:0≤r∧r<d.aw.length
 ·exact hr
 ·rw[g_ hr]at h;exact absurd rfl h
theorem se(d:ο)(r:Int):φ Tryz.prog 77 [ax d,.int .i64 r] (.t (.int .i64 (gP d r))):=by
 refine φ.Γ ?_ rfl
 refine γ.ξ ζ η Tryz.func77 rfl rfl ?_
 refine γ.pure (cJ _ _) rfl ?_
 refine U (fun c=> ?_) (fun c=> ?_)
 ·exact And.intro (aI (by rw[gP,g_ (p6 (vA c))])) rfl
 have h:=qw (nf c)
 obtain⟨x,hx,_,hg⟩:=cQ h
 refine ε (gW rfl h.1) ?_
 refine ν (cu hg) ?_
 exact And.intro (aI (by rw[gP,hx])) rfl
def fj(x:jg):Prop:=0≤x.sign∧x.sign≤3∧(x.sign=0∨1≤x.width∧x.width≤64)∧0≤x.align∧x.align≤30∧0≤x.round∧x.round≤4294967296
theorem MW(x:jg):ab Tryz.prog 132 [eT x] (aR (fj x)):=by
 refine ab.Γ ?_ aR.aJ
 refine γ.ξ ζ η Tryz.func132 rfl rfl ?_
 refine U (fun c1=> ?_) (fun c1=> ?_)
 rotate_left 1
 ·exact ak fun h=>by unfold fj at h;simp at c1;omega
 refine U (fun c2=> ?_) (fun c2=> ?_)
 rotate_left 1
 ·exact ak fun h=>by unfold fj at h;simp at c2;omega
 refine U (fun c3=> ?_) (fun c3=> ?_)
 ·refine U (fun e1=> ?_) (fun e1=> ?_)
  rotate_left 1
  ·exact ak fun h=>by unfold fj at h;simp at e1;omega
  refine U (fun e2=> ?_) (fun e2=> ?_)
  rotate_left 1
  ·exact ak fun h=>by unfold fj at h;simp at e2;omega
  refine U (fun e3=> ?_) (fun e3=> ?_)
  rotate_left 1
  ·exact ak fun h=>by unfold fj at h;simp at e3;omega
  exact aZ (by unfold fj;simp at*;omega)
 ·have c3:¬x.sign=0:=by simpa using c3
  refine U (fun d1=> ?_) (fun d1=> ?_)
  rotate_left 1
  ·exact ak fun h=>by unfold fj at h;simp at d1;omega
  refine U (fun d2=> ?_) (fun d2=> ?_)
  rotate_left 1
  ·exact ak fun h=>by unfold fj at h;simp at d2;omega
  refine U (fun e1=> ?_) (fun e1=> ?_)
  rotate_left 1
  ·exact ak fun h=>by unfold fj at h;simp at e1;omega
  refine U (fun e2=> ?_) (fun e2=> ?_)
  rotate_left 1
  ·exact ak fun h=>by unfold fj at h;simp at e2;omega
  refine U (fun e3=> ?_) (fun e3=> ?_)
  rotate_left 1
  ·exact ak fun h=>by unfold fj at h;simp at e3;omega
  exact aZ (by unfold fj;simp at*;omega)
def jj(op:Int):Option Nat:=if op=1∨op=2 then some 2 else if op=43 then some 1 else if op=20∨(38≤op∧op≤42)∨op=44 then some 0 else none
inductive im:T→Prop
 |mk (op w a b:Int) (ks:List T) (n:Nat) (h:jj op=some n) (hl:ks.length=n) (hk:∀k∈ks,im k):im (.agg [.int .i64 op,.int .i64 w,.int .i64 a,.int .i64 b,.θ 5 ks])
theorem dr{op w a b:Int}{ks:List T}(h:im (.agg [.int .i64 op,.int .i64 w,.int .i64 a,.int .i64 b,.θ 5 ks])):∃n,jj op=some n∧ks.length=n∧∀k∈ks,im k:=by
 cases h with|mk _ _ _ _ _ n h1 h2 h3=>exact⟨n,h1,h2,h3⟩
theorem dL{op k:Int}(c:(op==k)=true):jj op=jj k:=by rw[show op=k from by simpa using c]
theorem OI{t:T}(h:aX t):ab Tryz.prog 133 [t] (aR (im t)):=by
 induction h with
 |mk op w a b ks _ _ _ _ hl ht ih=>
 have hA:ab Tryz.prog 24 [.θ 5 ks,.fn (.func 133) [] []] (aR (∀x∈ks,im x)):=
  FF _ ks im (dY hl) ht fun x hx=>ih x hx
 refine ab.Γ ?_ aR.aJ
 refine γ.ξ ζ η Tryz.func133 rfl rfl ?_
 refine U (fun c=> ?_) (fun n0=> ?_)
 ·refine U (fun _=> ?_) (fun c'=>absurd (c.symm.trans c') (by decide))
  refine U (fun e1=> ?_) (fun e1=> ?_)
  rotate_left 1
  ·exact ak fun h=>by
    obtain⟨n,h1,h2,_⟩:=dr h
    rw[show jj op=_ from dL c]at h1
    cases h1
    have:=ne_of_beq_false e1;omega
  refine γ.iP hA rfl ?_
  rintro _ ⟨bA,rfl,pA⟩
  exact aZ ⟨fun h=> .mk _ _ _ _ _ _ (dL c) (by have:=eq_of_beq e1;omega) (pA.1 (by simpa using h)),fun h=>by obtain⟨n,_,_,h3⟩:=dr h;simpa using pA.2 h3⟩
 refine U (fun c=> ?_) (fun n1=> ?_)
 ·refine U (fun e1=> ?_) (fun e1=> ?_)
  rotate_left 1
  ·exact ak fun h=>by
    obtain⟨n,h1,h2,_⟩:=dr h
    rw[show jj op=_ from dL c]at h1
    cases h1
    have:=ne_of_beq_false e1;omega
  refine γ.iP hA rfl ?_
  rintro _ ⟨bA,rfl,pA⟩
  exact aZ ⟨fun h=> .mk _ _ _ _ _ _ (dL c) (by have:=eq_of_beq e1;omega) (pA.1 (by simpa using h)),fun h=>by obtain⟨n,_,_,h3⟩:=dr h;simpa using pA.2 h3⟩
 refine U (fun c=> ?_) (fun n2=> ?_)
 ·refine U (fun e1=> ?_) (fun e1=> ?_)
  rotate_left 1
  ·exact ak fun h=>by
    obtain⟨n,h1,h2,_⟩:=dr h
    rw[show jj op=_ from dL c]at h1
    cases h1
    have:=ne_of_beq_false e1;omega
  refine γ.iP hA rfl ?_
  rintro _ ⟨bA,rfl,pA⟩
  exact aZ ⟨fun h=> .mk _ _ _ _ _ _ (dL c) (by have:=eq_of_beq e1;omega) (pA.1 (by simpa using h)),fun h=>by obtain⟨n,_,_,h3⟩:=dr h;simpa using pA.2 h3⟩
 refine U (fun c=> ?_) (fun n3=> ?_)
 ·refine U (fun _=> ?_) (fun c'=>absurd (c.symm.trans c') (by decide))
  refine U (fun e1=> ?_) (fun e1=> ?_)
  rotate_left 1
  ·exact ak fun h=>by
    obtain⟨n,h1,h2,_⟩:=dr h
    rw[show jj op=_ from dL c]at h1
    cases h1
    have:=ne_of_beq_false e1;omega
  refine γ.iP hA rfl ?_
  rintro _ ⟨bA,rfl,pA⟩
  exact aZ ⟨fun h=> .mk _ _ _ _ _ _ (dL c) (by have:=eq_of_beq e1;omega) (pA.1 (by simpa using h)),fun h=>by obtain⟨n,_,_,h3⟩:=dr h;simpa using pA.2 h3⟩
 refine U (fun c=> ?_) (fun n4=> ?_)
 ·refine U (fun _=> ?_) (fun c'=>absurd (c.symm.trans c') (by decide))
  refine U (fun e1=> ?_) (fun e1=> ?_)
  rotate_left 1
  ·exact ak fun h=>by
    obtain⟨n,h1,h2,_⟩:=dr h
    rw[show jj op=_ from dL c]at h1
    cases h1
    have:=ne_of_beq_false e1;omega
  refine γ.iP hA rfl ?_
  rintro _ ⟨bA,rfl,pA⟩
  exact aZ ⟨fun h=> .mk _ _ _ _ _ _ (dL c) (by have:=eq_of_beq e1;omega) (pA.1 (by simpa using h)),fun h=>by obtain⟨n,_,_,h3⟩:=dr h;simpa using pA.2 h3⟩
 refine U (fun c=> ?_) (fun n5=> ?_)
 ·refine U (fun _=> ?_) (fun c'=>absurd (c.symm.trans c') (by decide))
  refine U (fun e1=> ?_) (fun e1=> ?_)
  rotate_left 1
  ·exact ak fun h=>by
    obtain⟨n,h1,h2,_⟩:=dr h
    rw[show jj op=_ from dL c]at h1
    cases h1
    have:=ne_of_beq_false e1;omega
  refine γ.iP hA rfl ?_
  rintro _ ⟨bA,rfl,pA⟩
  exact aZ ⟨fun h=> .mk _ _ _ _ _ _ (dL c) (by have:=eq_of_beq e1;omega) (pA.1 (by simpa using h)),fun h=>by obtain⟨n,_,_,h3⟩:=dr h;simpa using pA.2 h3⟩
 refine U (fun c=> ?_) (fun n6=> ?_)
 ·refine U (fun _=> ?_) (fun c'=>absurd (c.symm.trans c') (by decide))
  refine U (fun e1=> ?_) (fun e1=> ?_)
  rotate_left 1
  ·exact ak fun h=>by
    obtain⟨n,h1,h2,_⟩:=dr h
    rw[show jj op=_ from dL c]at h1
    cases h1
    have:=ne_of_beq_false e1;omega
  refine γ.iP hA rfl ?_
  rintro _ ⟨bA,rfl,pA⟩
  exact aZ ⟨fun h=> .mk _ _ _ _ _ _ (dL c) (by have:=eq_of_beq e1;omega) (pA.1 (by simpa using h)),fun h=>by obtain⟨n,_,_,h3⟩:=dr h;simpa using pA.2 h3⟩
 refine U (fun c=> ?_) (fun n7=> ?_)
 ·refine U (fun _=> ?_) (fun c'=>absurd (c.symm.trans c') (by decide))
  refine U (fun e1=> ?_) (fun e1=> ?_)
  rotate_left 1
  ·exact ak fun h=>by
    obtain⟨n,h1,h2,_⟩:=dr h
    rw[show jj op=_ from dL c]at h1
    cases h1
    have:=ne_of_beq_false e1;omega
  refine γ.iP hA rfl ?_
  rintro _ ⟨bA,rfl,pA⟩
  exact aZ ⟨fun h=> .mk _ _ _ _ _ _ (dL c) (by have:=eq_of_beq e1;omega) (pA.1 (by simpa using h)),fun h=>by obtain⟨n,_,_,h3⟩:=dr h;simpa using pA.2 h3⟩
 refine U (fun c=> ?_) (fun n8=> ?_)
 ·refine U (fun _=> ?_) (fun c'=>absurd (c.symm.trans c') (by decide))
  refine U (fun e1=> ?_) (fun e1=> ?_)
  rotate_left 1
  ·exact ak fun h=>by
    obtain⟨n,h1,h2,_⟩:=dr h
    rw[show jj op=_ from dL c]at h1
    cases h1
    have:=ne_of_beq_false e1;omega
  refine γ.iP hA rfl ?_
  rintro _ ⟨bA,rfl,pA⟩
  exact aZ ⟨fun h=> .mk _ _ _ _ _ _ (dL c) (by have:=eq_of_beq e1;omega) (pA.1 (by simpa using h)),fun h=>by obtain⟨n,_,_,h3⟩:=dr h;simpa using pA.2 h3⟩
 refine U (fun c=> ?_) (fun n9=> ?_)
 ·refine U (fun e1=> ?_) (fun e1=> ?_)
  rotate_left 1
  ·exact ak fun h=>by
    obtain⟨n,h1,h2,_⟩:=dr h
    rw[show jj op=_ from dL c]at h1
    cases h1
    have:=ne_of_beq_false e1;omega
  refine γ.iP hA rfl ?_
  rintro _ ⟨bA,rfl,pA⟩
  exact aZ ⟨fun h=> .mk _ _ _ _ _ _ (dL c) (by have:=eq_of_beq e1;omega) (pA.1 (by simpa using h)),fun h=>by obtain⟨n,_,_,h3⟩:=dr h;simpa using pA.2 h3⟩
 exact ak fun h=>by
  obtain⟨n,h1,_⟩:=dr h
  have q0:=ne_of_beq_false n0
  have q1:=ne_of_beq_false n1
  have q2:=ne_of_beq_false n2
  have q3:=ne_of_beq_false n3
  have q4:=ne_of_beq_false n4
  have q5:=ne_of_beq_false n5
  have q6:=ne_of_beq_false n6
  have q7:=ne_of_beq_false n7
  have q8:=ne_of_beq_false n8
  have q9:=ne_of_beq_false n9
  unfold jj at h1
  rw[if_neg (by omega),if_neg (by omega),if_neg (by omega)]at h1
  cases h1
def ma(x:jg):T:= .agg [.int .i64 x.ES,.int .i64 x.IC,.int .i64 x.ID,.int .i64 x.pk,.θ 5 x.yk]
def fZ(d:ο)(x:jg):Prop:=fj x∧
 ((x.kind=1∧x.hi= -1)∨
  (x.kind=2∧(1≤x.bytes∧x.bytes≤8)∧x.hi= -1∧im (ma x))∨
  (x.kind=3∧(0≤x.hi∧x.hi≤63)∧(0≤x.lo∧x.lo≤x.hi)∧(∃k,bQ d.classes x.aU=some k∧x.hi - x.lo+1≤k.bits)∧im (ma x))∨
  (x.kind=4∧x.hi= -1∧(∃k,bQ d.classes x.aU=some k∧k.bits=20)∧(∃k,bQ d.classes x.nL=some k∧k.bits=12)∧im (ma x)))
theorem fZ.k1{d:ο}{x:jg}(k:x.kind=1):fZ d x↔fj x∧x.hi= -1:=by unfold fZ;simp[k]
theorem fZ.k2{d:ο}{x:jg}(k:x.kind=2):fZ d x↔fj x∧(1≤x.bytes∧x.bytes≤8)∧x.hi= -1∧im (ma x):=by unfold fZ;simp[k]
theorem fZ.k3{d:ο}{x:jg}(k:x.kind=3):fZ d x↔fj x∧(0≤x.hi∧x.hi≤63)∧(0≤x.lo∧x.lo≤x.hi)∧(∃k,bQ d.classes x.aU=some k∧x.hi - x.lo+1≤k.bits)∧im (ma x):=by unfold fZ;simp[k]
theorem fZ.k4{d:ο}{x:jg}(k:x.kind=4):fZ d x↔fj x∧x.hi= -1∧(∃k,bQ d.classes x.aU=some k∧k.bits=20)∧(∃k,bQ d.classes x.nL=some k∧k.bits=12)∧im (ma x):=by unfold fZ;simp[k]
theorem uD{α:Type}{l:List α}{i:Int}{a b:α}(h:bQ l i=some a)(k:bQ l i=some b):a=b:=by rw[h]at k;exact Option.some.inj k
theorem Qw(d:ο)(x:jg)(hx:x.ok):ab Tryz.prog 83 [ax d,eT x] (aR (fZ d x)):=by
 have hS:=MW x
 have hC:ab Tryz.prog 133 [ma x] (aR (im (ma x))):=OI hx.2.2.2.2.2.2.1
 refine ab.Γ ?_ aR.aJ
 refine γ.ξ ζ η Tryz.func83 rfl rfl ?_
 refine U (fun c=> ?_) (fun n1=> ?_)
 ·have k:=fZ.k1 (d:=d) (show x.kind=1 by simpa using c)
  refine U (fun v1=> ?_) (fun v1=> ?_)
  rotate_left 1
  ·exact ak fun h=>ne_of_beq_false v1 (k.1 h).2
  have v1:x.hi= -1:=eq_of_beq v1
  refine γ.cH hS rfl ⟨.refl _,trivial⟩ ?_
  rintro _ ⟨bS,rfl,pS⟩
  exact aZ ⟨fun h=>k.2 ⟨pS.1 h,v1⟩,fun h=>pS.2 (k.1 h).1⟩
 refine U (fun c=> ?_) (fun n2=> ?_)
 ·have k:=fZ.k2 (d:=d) (show x.kind=2 by simpa using c)
  refine U (fun v1=> ?_) (fun v1=> ?_)
  ·exact ak fun h=>by have:=(k.1 h).2.1;have:=of_decide_eq_true v1;omega
  refine U (fun v2=> ?_) (fun v2=> ?_)
  ·exact ak fun h=>by have:=(k.1 h).2.1;have:=of_decide_eq_true v2;omega
  refine U (fun u1=> ?_) (fun u1=> ?_)
  rotate_left 1
  ·exact ak fun h=>ne_of_beq_false u1 (k.1 h).2.2.1
  refine γ.cH hS rfl ⟨.refl _,trivial⟩ ?_
  rintro _ ⟨bS,rfl,pS⟩
  refine U (fun u2=> ?_) (fun u2=> ?_)
  rotate_left 1
  ·exact ak fun h=>absurd (pS.2 (k.1 h).1) (by simpa using u2)
  refine γ.cH hC rfl ⟨.refl _,trivial⟩ ?_
  rintro _ ⟨bC,rfl,pC⟩
  exact aZ ⟨fun h=>k.2 ⟨pS.1 u2,⟨by have:=of_decide_eq_false v1;omega,by have:=of_decide_eq_false v2;omega⟩,eq_of_beq u1,pC.1 h⟩,fun h=>pC.2 (k.1 h).2.2.2⟩
 refine U (fun c=> ?_) (fun n3=> ?_)
 ·have k:=fZ.k3 (d:=d) (show x.kind=3 by simpa using c)
  refine υ J4 (by decide+kernel) ?_
  refine U (fun h1=> ?_) (fun h1=> ?_)
  rotate_left 1
  ·refine And.intro (fun j hj=>by first|(cases hj;done)|exact χ.append _ _ _|exact χ.refl _ _) ?_
   refine And.intro (fun j hj=>by first|(cases hj;done)|exact χ.append _ _ _|exact χ.refl _ _) ?_
   exact ak fun h=>by have:=(k.1 h).2;have:=of_decide_eq_false h1;omega
  have h1:0≤x.hi:=by simpa using h1
  refine U (fun h2=> ?_) (fun h2=> ?_)
  rotate_left 1
  ·refine And.intro (fun j hj=>by first|(cases hj;done)|exact χ.append _ _ _|exact χ.refl _ _) ?_
   refine And.intro (fun j hj=>by first|(cases hj;done)|exact χ.append _ _ _|exact χ.refl _ _) ?_
   exact ak fun h=>by have:=(k.1 h).2;have:=of_decide_eq_false h2;omega
  have h2:x.hi≤63:=by simpa using h2
  refine U (fun h3=> ?_) (fun h3=> ?_)
  rotate_left 1
  ·refine And.intro (fun j hj=>by first|(cases hj;done)|exact χ.append _ _ _|exact χ.refl _ _) ?_
   refine And.intro (fun j hj=>by first|(cases hj;done)|exact χ.append _ _ _|exact χ.refl _ _) ?_
   exact ak fun h=>by have:=(k.1 h).2;have:=of_decide_eq_false h3;omega
  have h3:0≤x.lo:=by simpa using h3
  refine U (fun h4=> ?_) (fun h4=> ?_)
  rotate_left 1
  ·refine And.intro (fun j hj=>by first|(cases hj;done)|exact χ.append _ _ _|exact χ.refl _ _) ?_
   refine And.intro (fun j hj=>by first|(cases hj;done)|exact χ.append _ _ _|exact χ.refl _ _) ?_
   exact ak fun h=>by have:=(k.1 h).2;have:=of_decide_eq_false h4;omega
  have h4:x.lo≤x.hi:=by simpa using h4
  refine γ.pure (cJ _ _) rfl ?_
  refine And.intro (fun j hj=>by first|(cases hj;done)|exact χ.append _ _ _|exact χ.refl _ _) ?_
  refine U (fun h5=> ?_) (fun h5=> ?_)
  rotate_left 1
  ·refine And.intro (fun j hj=>by first|(cases hj;done)|exact χ.append _ _ _|exact χ.refl _ _) ?_
   exact ak fun h=>by obtain⟨_,_,_,⟨kk,lE,_⟩,_⟩:=k.1 h;exact p6 (show decide _=false from h5) (rO lE)
  have h5:=qw (show decide _=true from h5)
  obtain⟨kk,lE,_,hk⟩:=cQ h5
  refine δ (n:=x.hi - x.lo) (g7 (by omega) (by omega)) ?_
  refine δ (n:=x.hi - x.lo+1) (g7 (by omega) (by omega)) ?_
  refine ε (gW rfl h5.1) ?_
  refine ν (cu hk) ?_
  refine And.intro (fun j hj=>by first|(cases hj;done)|exact χ.append _ _ _|exact χ.refl _ _) ?_
  refine U (fun u1=> ?_) (fun u1=> ?_)
  rotate_left 1
  ·exact ak fun h=>by obtain⟨_,_,_,⟨k2,et,hb⟩,_⟩:=k.1 h;cases uD lE et;have:=of_decide_eq_false u1;omega
  have u1:=of_decide_eq_true u1
  refine γ.cH hS rfl ⟨.refl _,trivial⟩ ?_
  rintro _ ⟨bS,rfl,pS⟩
  refine U (fun u2=> ?_) (fun u2=> ?_)
  rotate_left 1
  ·exact ak fun h=>absurd (pS.2 (k.1 h).1) (by simpa using u2)
  refine γ.cH hC rfl ⟨.refl _,trivial⟩ ?_
  rintro _ ⟨bC,rfl,pC⟩
  exact aZ ⟨fun h=>k.2 ⟨pS.1 u2,⟨h1,h2⟩,⟨h3,h4⟩,⟨kk,lE,by omega⟩,pC.1 h⟩,fun h=>pC.2 (k.1 h).2.2.2.2⟩
 refine U (fun c=> ?_) (fun n4=> ?_)
 ·have k:=fZ.k4 (d:=d) (show x.kind=4 by simpa using c)
  refine γ.pure (cJ _ _) rfl ?_
  refine U (fun w1=> ?_) (fun w1=> ?_)
  ·exact ak fun h=>by obtain⟨_,_,⟨kk,lE,_⟩,_⟩:=k.1 h;exact p6 (vA w1) (rO lE)
  have w1:=qw (nf w1)
  obtain⟨k1,SX,_,cZ⟩:=cQ w1
  refine γ.pure (cJ _ _) rfl ?_
  refine U (fun w2=> ?_) (fun w2=> ?_)
  ·exact ak fun h=>by obtain⟨_,_,_,⟨kk,lE,_⟩,_⟩:=k.1 h;exact p6 (vA (show(!decide _)=true from w2)) (rO lE)
  have w2:=qw (nf (show(!decide _)=false from w2))
  obtain⟨k2,SW,_,et⟩:=cQ w2
  refine ε (gW rfl w1.1) ?_
  refine ν (cu cZ) ?_
  refine U (fun w3=> ?_) (fun w3=> ?_)
  ·exact ak fun h=>by
    obtain⟨_,_,⟨kk,lE,hb⟩,_⟩:=k.1 h;cases uD SX lE
    have w3:¬k1.bits=20:=by simpa using w3
    exact w3 hb
  have w3:k1.bits=20:=by simpa using w3
  refine ε (gW rfl w2.1) ?_
  refine ν (cu et) ?_
  refine U (fun w4=> ?_) (fun w4=> ?_)
  ·exact ak fun h=>by
    obtain⟨_,_,_,⟨kk,lE,hb⟩,_⟩:=k.1 h;cases uD SW lE
    have w4:¬k2.bits=12:=by simpa using w4
    exact w4 hb
  have w4:k2.bits=12:=by simpa using w4
  refine U (fun u1=> ?_) (fun u1=> ?_)
  rotate_left 1
  ·exact ak fun h=>ne_of_beq_false u1 (k.1 h).2.1
  refine γ.cH hS rfl ⟨.refl _,trivial⟩ ?_
  rintro _ ⟨bS,rfl,pS⟩
  refine U (fun u2=> ?_) (fun u2=> ?_)
  rotate_left 1
  ·exact ak fun h=>absurd (pS.2 (k.1 h).1) (by simpa using u2)
  refine γ.cH hC rfl ⟨.refl _,trivial⟩ ?_
  rintro _ ⟨bC,rfl,pC⟩
  exact aZ ⟨fun h=>k.2 ⟨pS.1 u2,eq_of_beq u1,⟨k1,SX,w3⟩,⟨k2,SW,w4⟩,pC.1 h⟩,fun h=>pC.2 (k.1 h).2.2.2.2⟩
 exact ak fun h=>by
  have q1:¬x.kind=1:=by simpa using n1
  have q2:¬x.kind=2:=by simpa using n2
  have q3:¬x.kind=3:=by simpa using n3
  have q4:¬x.kind=4:=by simpa using n4
  rcases h with⟨_,h|h|h|h⟩
  ·exact q1 h.1
  ·exact q2 h.1
  ·exact q3 h.1
  ·exact q4 h.1
end Go.Proofs.YtcogcbplmkcojaaGreatDoor
