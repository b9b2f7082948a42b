/-
  Widths of terms with kids: the program's walk.
-/
import Derived.Test.YtcogcbplmkcojaaGreatDoorKWB
namespace Go.Proofs.YtcogcbplmkcojaaGreatDoor
open Go.IntWalk
set_option maxRecDepth 100000
set_option linter.unusedVariables false
set_option linter.unusedSimpArgs false
def gb(op w a b x:Int):Int:=
 if x=0 then 0
 else if op=18∨op=19 then x
 else if op=26 then(if rf w∧x=64 then w else 0)
 else if op=28∨op=29 then(if lg w then w else 0)
 else if op=30 then(if 0≤b∧b≤a∧a<x then a - b+1 else 0)
 else 0
def bX(op x y:Int):Int:=
 if x=0∨y=0 then 0
 else if op=7∨op=8∨op=9 then x
 else if op=14∨op=15∨op=16 then(if x=y then 1 else 0)
 else if op=17 then(if x+y≤128 then x+y else 0)
 else if 1≤op∧op≤13 then(if x=y then x else 0)
 else 0
def qR(op x y z:Int):Int:=
 if x=0∨y=0∨z=0 then 0
 else if op=27 then(if x=1∧y=z then y else 0)
 else 0
theorem QV{op:Int}(h:eZ op=1):op=18∨op=19∨op=26∨op=28∨op=29∨op=30:=by
 unfold eZ at h
 repeat' split at h
 all_goals omega
theorem QU{op:Int}(h:eZ op=2):op=1∨op=2∨op=3∨op=4∨op=5∨op=6∨op=7∨op=8∨op=9∨op=10∨op=11∨op=12∨op=13∨op=14∨op=15∨op=16∨op=17:=by
 unfold eZ at h
 repeat' split at h
 all_goals omega
theorem QT{op:Int}(h:eZ op=3):op=27:=by
 unfold eZ at h
 repeat' split at h
 all_goals omega
theorem NM(op:Int):eZ op≤3:=by
 unfold eZ
 repeat' split
 all_goals omega
theorem Qj{op w a b x:Int}(h:eZ op≠1):gb op w a b x=0:=by
 unfold eZ at h
 have h:¬(op=18∨op=19∨op=26∨op=28∨op=29∨op=30):=fun q=>h (by rw[if_neg (by omega),if_pos q])
 unfold gb
 rw[if_neg (c:=op=18∨op=19) (by omega),if_neg (c:=op=26) (by omega),if_neg (c:=op=28∨op=29) (by omega),if_neg (c:=op=30) (by omega)]
 split<;>rfl
theorem Qi{op x y:Int}(h:eZ op≠2):bX op x y=0:=by
 unfold eZ at h
 have h:¬(1≤op∧op≤17):=fun q=>h (by rw[if_neg (by omega),if_neg (by omega),if_neg (by omega),if_pos q])
 unfold bX
 rw[if_neg (c:=op=7∨op=8∨op=9) (by omega),if_neg (c:=op=14∨op=15∨op=16) (by omega),if_neg (c:=op=17) (by omega),if_neg (c:=1≤op∧op≤13) (by omega)]
 split<;>rfl
theorem Qh{op x y z:Int}(h:eZ op≠3):qR op x y z=0:=by
 have h:¬op=27:=fun q=>h (by rw[q];rfl)
 unfold qR
 rw[if_neg h]
 split<;>rfl
theorem tE(d:ο)(f:Ψ)(op w a b:Int)(ks:List T)(hk:eZ op≠(ks.length:Int)):φ Tryz.prog 126 [ax d,ah f,.agg [.int .i64 op,.int .i64 w,.int .i64 a,.int .i64 b,.θ 5 ks]] (.t (.int .i64 0)):=by
 refine φ.Γ ?_ rfl
 refine γ.ξ ζ η Tryz.func126 rfl rfl ?_
 refine υ bI (by decide+kernel) ?_
 refine γ.pure (bj op) rfl ?_
 refine And.intro (fun j hj=>by first|(cases hj;done)|exact χ.append _ _ _) ?_
 refine U (fun c=> ?_) (fun c=>absurd (c.symm.trans (P3 hk)) (by decide))
 exact And.intro rfl rfl
theorem Jp(d:ο)(f:Ψ)(w a b:Int)(ha:aH a)(hb:aH b){k0:T}{x:Int}(dN:aX k0)(eO:0≤x∧x≤128)
 (dS:φ Tryz.prog 126 [ax d,ah f,k0] (.t (.int .i64 x))):
 φ Tryz.prog 126 [ax d,ah f,.agg [.int .i64 18,.int .i64 w,.int .i64 a,.int .i64 b,.θ 5 [k0]]] (.t (.int .i64 (gb 18 w a b x))):=by
 cases dN with|mk o0 w0 a0 b0 s0 _ _ _ _ _ _=>
 have e:gb 18 w a b x=if x=0 then 0 else x:=by unfold gb;simp
 rw[e]
 refine φ.Γ ?_ rfl
 refine γ.ξ ζ η Tryz.func126 rfl rfl ?_
 refine υ bI (by decide+kernel) ?_
 refine γ.pure (show φ _ _ _ (.t (.int .i64 1))from bj 18) rfl ?_
 refine And.intro (fun j hj=>by first|(cases hj;done)|exact χ.append _ _ _) ?_
 refine bh 2 ?_
 refine γ.a8 dS rfl ⟨.refl _,.refl _,.refl _,trivial⟩ ?_
 refine U (fun c=> ?_) (fun c0=> ?_)
 ·have c:x=0:=by simpa using c
  exact And.intro (aI (if_pos (by omega)).symm) rfl
 have c0:¬x=0:=by simpa using c0
 have cz:¬(x=0):=by omega
 rw[if_neg cz]
 exact And.intro rfl rfl
theorem Jo(d:ο)(f:Ψ)(w a b:Int)(ha:aH a)(hb:aH b){k0:T}{x:Int}(dN:aX k0)(eO:0≤x∧x≤128)
 (dS:φ Tryz.prog 126 [ax d,ah f,k0] (.t (.int .i64 x))):
 φ Tryz.prog 126 [ax d,ah f,.agg [.int .i64 19,.int .i64 w,.int .i64 a,.int .i64 b,.θ 5 [k0]]] (.t (.int .i64 (gb 19 w a b x))):=by
 cases dN with|mk o0 w0 a0 b0 s0 _ _ _ _ _ _=>
 have e:gb 19 w a b x=if x=0 then 0 else x:=by unfold gb;simp
 rw[e]
 refine φ.Γ ?_ rfl
 refine γ.ξ ζ η Tryz.func126 rfl rfl ?_
 refine υ bI (by decide+kernel) ?_
 refine γ.pure (show φ _ _ _ (.t (.int .i64 1))from bj 19) rfl ?_
 refine And.intro (fun j hj=>by first|(cases hj;done)|exact χ.append _ _ _) ?_
 refine bh 2 ?_
 refine γ.a8 dS rfl ⟨.refl _,.refl _,.refl _,trivial⟩ ?_
 refine U (fun c=> ?_) (fun c0=> ?_)
 ·have c:x=0:=by simpa using c
  exact And.intro (aI (if_pos (by omega)).symm) rfl
 have c0:¬x=0:=by simpa using c0
 have cz:¬(x=0):=by omega
 rw[if_neg cz]
 exact And.intro rfl rfl
theorem Jn(d:ο)(f:Ψ)(w a b:Int)(ha:aH a)(hb:aH b){k0:T}{x:Int}(dN:aX k0)(eO:0≤x∧x≤128)
 (dS:φ Tryz.prog 126 [ax d,ah f,k0] (.t (.int .i64 x))):
 φ Tryz.prog 126 [ax d,ah f,.agg [.int .i64 26,.int .i64 w,.int .i64 a,.int .i64 b,.θ 5 [k0]]] (.t (.int .i64 (gb 26 w a b x))):=by
 cases dN with|mk o0 w0 a0 b0 s0 _ _ _ _ _ _=>
 have e:gb 26 w a b x=if x=0 then 0 else(if rf w∧x=64 then w else 0):=by unfold gb;simp
 rw[e]
 refine φ.Γ ?_ rfl
 refine γ.ξ ζ η Tryz.func126 rfl rfl ?_
 refine υ bI (by decide+kernel) ?_
 refine γ.pure (show φ _ _ _ (.t (.int .i64 1))from bj 26) rfl ?_
 refine And.intro (fun j hj=>by first|(cases hj;done)|exact χ.append _ _ _) ?_
 refine bh 2 ?_
 refine γ.a8 dS rfl ⟨.refl _,.refl _,.refl _,trivial⟩ ?_
 refine U (fun c=> ?_) (fun c0=> ?_)
 ·have c:x=0:=by simpa using c
  exact And.intro (aI (if_pos (by omega)).symm) rfl
 have c0:¬x=0:=by simpa using c0
 have cz:¬(x=0):=by omega
 rw[if_neg cz]
 refine υ Ka (by decide+kernel) ?_
 refine γ.pure (xj w) rfl ?_
 refine And.intro (fun j hj=>by first|(cases hj;done)|exact χ.append _ _ _) ?_
 refine U (fun c=> ?_) (fun c=> ?_)
 ·have c:rf w:=by simpa using c
  refine γ.pure (bd _ _) rfl ?_
  refine And.intro (fun j hj=>by first|(cases hj;done)|exact χ.append _ _ _) ?_
  refine And.intro (fun j hj=>by first|(cases hj;done)|exact χ.append _ _ _) ?_
  exact And.intro (aI (by simp[c])) rfl
 ·have c:¬rf w:=by simpa using c
  refine γ.pure (bd _ _) rfl ?_
  refine And.intro (fun j hj=>by first|(cases hj;done)|exact χ.append _ _ _) ?_
  refine And.intro (fun j hj=>by first|(cases hj;done)|exact χ.append _ _ _) ?_
  exact And.intro (aI (by simp[c])) rfl
theorem Jm(d:ο)(f:Ψ)(w a b:Int)(ha:aH a)(hb:aH b){k0:T}{x:Int}(dN:aX k0)(eO:0≤x∧x≤128)
 (dS:φ Tryz.prog 126 [ax d,ah f,k0] (.t (.int .i64 x))):
 φ Tryz.prog 126 [ax d,ah f,.agg [.int .i64 28,.int .i64 w,.int .i64 a,.int .i64 b,.θ 5 [k0]]] (.t (.int .i64 (gb 28 w a b x))):=by
 cases dN with|mk o0 w0 a0 b0 s0 _ _ _ _ _ _=>
 have e:gb 28 w a b x=if x=0 then 0 else(if lg w then w else 0):=by unfold gb;simp
 rw[e]
 refine φ.Γ ?_ rfl
 refine γ.ξ ζ η Tryz.func126 rfl rfl ?_
 refine υ bI (by decide+kernel) ?_
 refine γ.pure (show φ _ _ _ (.t (.int .i64 1))from bj 28) rfl ?_
 refine And.intro (fun j hj=>by first|(cases hj;done)|exact χ.append _ _ _) ?_
 refine bh 2 ?_
 refine γ.a8 dS rfl ⟨.refl _,.refl _,.refl _,trivial⟩ ?_
 refine U (fun c=> ?_) (fun c0=> ?_)
 ·have c:x=0:=by simpa using c
  exact And.intro (aI (if_pos (by omega)).symm) rfl
 have c0:¬x=0:=by simpa using c0
 have cz:¬(x=0):=by omega
 rw[if_neg cz]
 refine υ vt (by decide+kernel) ?_
 refine γ.pure (nN w) rfl ?_
 refine And.intro (fun j hj=>by first|(cases hj;done)|exact χ.append _ _ _) ?_
 refine γ.pure (bd _ _) rfl ?_
 refine And.intro (fun j hj=>by first|(cases hj;done)|exact χ.append _ _ _) ?_
 refine And.intro (fun j hj=>by first|(cases hj;done)|exact χ.append _ _ _) ?_
 exact And.intro (aI (by simp)) rfl
theorem Jl(d:ο)(f:Ψ)(w a b:Int)(ha:aH a)(hb:aH b){k0:T}{x:Int}(dN:aX k0)(eO:0≤x∧x≤128)
 (dS:φ Tryz.prog 126 [ax d,ah f,k0] (.t (.int .i64 x))):
 φ Tryz.prog 126 [ax d,ah f,.agg [.int .i64 29,.int .i64 w,.int .i64 a,.int .i64 b,.θ 5 [k0]]] (.t (.int .i64 (gb 29 w a b x))):=by
 cases dN with|mk o0 w0 a0 b0 s0 _ _ _ _ _ _=>
 have e:gb 29 w a b x=if x=0 then 0 else(if lg w then w else 0):=by unfold gb;simp
 rw[e]
 refine φ.Γ ?_ rfl
 refine γ.ξ ζ η Tryz.func126 rfl rfl ?_
 refine υ bI (by decide+kernel) ?_
 refine γ.pure (show φ _ _ _ (.t (.int .i64 1))from bj 29) rfl ?_
 refine And.intro (fun j hj=>by first|(cases hj;done)|exact χ.append _ _ _) ?_
 refine bh 2 ?_
 refine γ.a8 dS rfl ⟨.refl _,.refl _,.refl _,trivial⟩ ?_
 refine U (fun c=> ?_) (fun c0=> ?_)
 ·have c:x=0:=by simpa using c
  exact And.intro (aI (if_pos (by omega)).symm) rfl
 have c0:¬x=0:=by simpa using c0
 have cz:¬(x=0):=by omega
 rw[if_neg cz]
 refine υ vt (by decide+kernel) ?_
 refine γ.pure (nN w) rfl ?_
 refine And.intro (fun j hj=>by first|(cases hj;done)|exact χ.append _ _ _) ?_
 refine γ.pure (bd _ _) rfl ?_
 refine And.intro (fun j hj=>by first|(cases hj;done)|exact χ.append _ _ _) ?_
 refine And.intro (fun j hj=>by first|(cases hj;done)|exact χ.append _ _ _) ?_
 exact And.intro (aI (by simp)) rfl
theorem Jk(d:ο)(f:Ψ)(w a b:Int)(ha:aH a)(hb:aH b){k0:T}{x:Int}(dN:aX k0)(eO:0≤x∧x≤128)
 (dS:φ Tryz.prog 126 [ax d,ah f,k0] (.t (.int .i64 x))):
 φ Tryz.prog 126 [ax d,ah f,.agg [.int .i64 30,.int .i64 w,.int .i64 a,.int .i64 b,.θ 5 [k0]]] (.t (.int .i64 (gb 30 w a b x))):=by
 cases dN with|mk o0 w0 a0 b0 s0 _ _ _ _ _ _=>
 have e:gb 30 w a b x=if x=0 then 0 else(if 0≤b∧b≤a∧a<x then a - b+1 else 0):=by unfold gb;simp
 rw[e]
 refine φ.Γ ?_ rfl
 refine γ.ξ ζ η Tryz.func126 rfl rfl ?_
 refine υ bI (by decide+kernel) ?_
 refine γ.pure (show φ _ _ _ (.t (.int .i64 1))from bj 30) rfl ?_
 refine And.intro (fun j hj=>by first|(cases hj;done)|exact χ.append _ _ _) ?_
 refine bh 2 ?_
 refine γ.a8 dS rfl ⟨.refl _,.refl _,.refl _,trivial⟩ ?_
 refine U (fun c=> ?_) (fun c0=> ?_)
 ·have c:x=0:=by simpa using c
  exact And.intro (aI (if_pos (by omega)).symm) rfl
 have c0:¬x=0:=by simpa using c0
 have cz:¬(x=0):=by omega
 rw[if_neg cz]
 refine U (fun q1=> ?_) (fun q1=> ?_)
 ·have q1:0≤b:=by simpa using q1
  refine U (fun q2=> ?_) (fun q2=> ?_)
  ·have q2:b≤a:=by simpa using q2
   by_cases q3:a<x
   ·refine δ (g7 (n:=a - b) (by omega) (by omega)) ?_
    refine δ (g7 (n:=a - b+1) (by omega) (by omega)) ?_
    refine γ.pure (bd _ _) rfl ?_
    exact And.intro (aI (by simp[q1,q2,q3])) rfl
   ·obtain⟨g,hg⟩:∃g,IntKind.i64.wrap (a - b)=g:=⟨_,rfl⟩
    obtain⟨g2,ny⟩:∃g2,IntKind.i64.wrap (g+1)=g2:=⟨_,rfl⟩
    refine δ hg ?_
    refine δ ny ?_
    refine γ.pure (bd _ _) rfl ?_
    exact And.intro (aI (by simp[q3])) rfl
  ·have q2:¬b≤a:=by simpa using q2
   obtain⟨g,hg⟩:∃g,IntKind.i64.wrap (a - b)=g:=⟨_,rfl⟩
   obtain⟨g2,ny⟩:∃g2,IntKind.i64.wrap (g+1)=g2:=⟨_,rfl⟩
   refine δ hg ?_
   refine δ ny ?_
   refine γ.pure (bd _ _) rfl ?_
   exact And.intro (aI (by simp[q2])) rfl
 ·have q1:¬0≤b:=by simpa using q1
  obtain⟨g,hg⟩:∃g,IntKind.i64.wrap (a - b)=g:=⟨_,rfl⟩
  obtain⟨g2,ny⟩:∃g2,IntKind.i64.wrap (g+1)=g2:=⟨_,rfl⟩
  refine δ hg ?_
  refine δ ny ?_
  refine γ.pure (bd _ _) rfl ?_
  exact And.intro (aI (by simp[q1])) rfl
theorem ML(d:ο)(f:Ψ)(w a b:Int)(ha:aH a)(hb:aH b){k0:T}{x:Int}(dN:aX k0)(eO:0≤x∧x≤128)
 (dS:φ Tryz.prog 126 [ax d,ah f,k0] (.t (.int .i64 x))) {k1:T} {y:Int} (cZ:aX k1) (kJ:0≤y∧y≤128)
 (fL:φ Tryz.prog 126 [ax d,ah f,k1] (.t (.int .i64 y))):
 φ Tryz.prog 126 [ax d,ah f,.agg [.int .i64 1,.int .i64 w,.int .i64 a,.int .i64 b,.θ 5 [k0,k1]]] (.t (.int .i64 (bX 1 x y))):=by
 cases dN with|mk o0 w0 a0 b0 s0 _ _ _ _ _ _=>
 cases cZ with|mk o1 w1 a1 b1 s1 _ _ _ _ _ _=>
 have e:bX 1 x y=if x=0∨y=0 then 0 else(if x=y then x else 0):=by unfold bX;simp
 rw[e]
 refine φ.Γ ?_ rfl
 refine γ.ξ ζ η Tryz.func126 rfl rfl ?_
 refine υ bI (by decide+kernel) ?_
 refine γ.pure (show φ _ _ _ (.t (.int .i64 2))from bj 1) rfl ?_
 refine And.intro (fun j hj=>by first|(cases hj;done)|exact χ.append _ _ _) ?_
 refine bh 3 ?_
 refine γ.a8 dS rfl ⟨.refl _,.refl _,.refl _,trivial⟩ ?_
 refine U (fun c=> ?_) (fun c0=> ?_)
 ·have c:x=0:=by simpa using c
  exact And.intro (aI (if_pos (by omega)).symm) rfl
 have c0:¬x=0:=by simpa using c0
 refine γ.a8 fL rfl ⟨.refl _,.refl _,.refl _,trivial⟩ ?_
 refine U (fun c=> ?_) (fun c1=> ?_)
 ·have c:y=0:=by simpa using c
  exact And.intro (aI (if_pos (by omega)).symm) rfl
 have c1:¬y=0:=by simpa using c1
 have cz:¬(x=0∨y=0):=by omega
 rw[if_neg cz]
 refine γ.pure (bd _ _) rfl ?_
 exact And.intro (aI (by simp)) rfl
theorem MK(d:ο)(f:Ψ)(w a b:Int)(ha:aH a)(hb:aH b){k0:T}{x:Int}(dN:aX k0)(eO:0≤x∧x≤128)
 (dS:φ Tryz.prog 126 [ax d,ah f,k0] (.t (.int .i64 x))) {k1:T} {y:Int} (cZ:aX k1) (kJ:0≤y∧y≤128)
 (fL:φ Tryz.prog 126 [ax d,ah f,k1] (.t (.int .i64 y))):
 φ Tryz.prog 126 [ax d,ah f,.agg [.int .i64 2,.int .i64 w,.int .i64 a,.int .i64 b,.θ 5 [k0,k1]]] (.t (.int .i64 (bX 2 x y))):=by
 cases dN with|mk o0 w0 a0 b0 s0 _ _ _ _ _ _=>
 cases cZ with|mk o1 w1 a1 b1 s1 _ _ _ _ _ _=>
 have e:bX 2 x y=if x=0∨y=0 then 0 else(if x=y then x else 0):=by unfold bX;simp
 rw[e]
 refine φ.Γ ?_ rfl
 refine γ.ξ ζ η Tryz.func126 rfl rfl ?_
 refine υ bI (by decide+kernel) ?_
 refine γ.pure (show φ _ _ _ (.t (.int .i64 2))from bj 2) rfl ?_
 refine And.intro (fun j hj=>by first|(cases hj;done)|exact χ.append _ _ _) ?_
 refine bh 3 ?_
 refine γ.a8 dS rfl ⟨.refl _,.refl _,.refl _,trivial⟩ ?_
 refine U (fun c=> ?_) (fun c0=> ?_)
 ·have c:x=0:=by simpa using c
  exact And.intro (aI (if_pos (by omega)).symm) rfl
 have c0:¬x=0:=by simpa using c0
 refine γ.a8 fL rfl ⟨.refl _,.refl _,.refl _,trivial⟩ ?_
 refine U (fun c=> ?_) (fun c1=> ?_)
 ·have c:y=0:=by simpa using c
  exact And.intro (aI (if_pos (by omega)).symm) rfl
 have c1:¬y=0:=by simpa using c1
 have cz:¬(x=0∨y=0):=by omega
 rw[if_neg cz]
 refine γ.pure (bd _ _) rfl ?_
 exact And.intro (aI (by simp)) rfl
theorem MJ(d:ο)(f:Ψ)(w a b:Int)(ha:aH a)(hb:aH b){k0:T}{x:Int}(dN:aX k0)(eO:0≤x∧x≤128)
 (dS:φ Tryz.prog 126 [ax d,ah f,k0] (.t (.int .i64 x))) {k1:T} {y:Int} (cZ:aX k1) (kJ:0≤y∧y≤128)
 (fL:φ Tryz.prog 126 [ax d,ah f,k1] (.t (.int .i64 y))):
 φ Tryz.prog 126 [ax d,ah f,.agg [.int .i64 3,.int .i64 w,.int .i64 a,.int .i64 b,.θ 5 [k0,k1]]] (.t (.int .i64 (bX 3 x y))):=by
 cases dN with|mk o0 w0 a0 b0 s0 _ _ _ _ _ _=>
 cases cZ with|mk o1 w1 a1 b1 s1 _ _ _ _ _ _=>
 have e:bX 3 x y=if x=0∨y=0 then 0 else(if x=y then x else 0):=by unfold bX;simp
 rw[e]
 refine φ.Γ ?_ rfl
 refine γ.ξ ζ η Tryz.func126 rfl rfl ?_
 refine υ bI (by decide+kernel) ?_
 refine γ.pure (show φ _ _ _ (.t (.int .i64 2))from bj 3) rfl ?_
 refine And.intro (fun j hj=>by first|(cases hj;done)|exact χ.append _ _ _) ?_
 refine bh 3 ?_
 refine γ.a8 dS rfl ⟨.refl _,.refl _,.refl _,trivial⟩ ?_
 refine U (fun c=> ?_) (fun c0=> ?_)
 ·have c:x=0:=by simpa using c
  exact And.intro (aI (if_pos (by omega)).symm) rfl
 have c0:¬x=0:=by simpa using c0
 refine γ.a8 fL rfl ⟨.refl _,.refl _,.refl _,trivial⟩ ?_
 refine U (fun c=> ?_) (fun c1=> ?_)
 ·have c:y=0:=by simpa using c
  exact And.intro (aI (if_pos (by omega)).symm) rfl
 have c1:¬y=0:=by simpa using c1
 have cz:¬(x=0∨y=0):=by omega
 rw[if_neg cz]
 refine γ.pure (bd _ _) rfl ?_
 exact And.intro (aI (by simp)) rfl
theorem MI(d:ο)(f:Ψ)(w a b:Int)(ha:aH a)(hb:aH b){k0:T}{x:Int}(dN:aX k0)(eO:0≤x∧x≤128)
 (dS:φ Tryz.prog 126 [ax d,ah f,k0] (.t (.int .i64 x))) {k1:T} {y:Int} (cZ:aX k1) (kJ:0≤y∧y≤128)
 (fL:φ Tryz.prog 126 [ax d,ah f,k1] (.t (.int .i64 y))):
 φ Tryz.prog 126 [ax d,ah f,.agg [.int .i64 4,.int .i64 w,.int .i64 a,.int .i64 b,.θ 5 [k0,k1]]] (.t (.int .i64 (bX 4 x y))):=by
 cases dN with|mk o0 w0 a0 b0 s0 _ _ _ _ _ _=>
 cases cZ with|mk o1 w1 a1 b1 s1 _ _ _ _ _ _=>
 have e:bX 4 x y=if x=0∨y=0 then 0 else(if x=y then x else 0):=by unfold bX;simp
 rw[e]
 refine φ.Γ ?_ rfl
 refine γ.ξ ζ η Tryz.func126 rfl rfl ?_
 refine υ bI (by decide+kernel) ?_
 refine γ.pure (show φ _ _ _ (.t (.int .i64 2))from bj 4) rfl ?_
 refine And.intro (fun j hj=>by first|(cases hj;done)|exact χ.append _ _ _) ?_
 refine bh 3 ?_
 refine γ.a8 dS rfl ⟨.refl _,.refl _,.refl _,trivial⟩ ?_
 refine U (fun c=> ?_) (fun c0=> ?_)
 ·have c:x=0:=by simpa using c
  exact And.intro (aI (if_pos (by omega)).symm) rfl
 have c0:¬x=0:=by simpa using c0
 refine γ.a8 fL rfl ⟨.refl _,.refl _,.refl _,trivial⟩ ?_
 refine U (fun c=> ?_) (fun c1=> ?_)
 ·have c:y=0:=by simpa using c
  exact And.intro (aI (if_pos (by omega)).symm) rfl
 have c1:¬y=0:=by simpa using c1
 have cz:¬(x=0∨y=0):=by omega
 rw[if_neg cz]
 refine γ.pure (bd _ _) rfl ?_
 exact And.intro (aI (by simp)) rfl
theorem MH(d:ο)(f:Ψ)(w a b:Int)(ha:aH a)(hb:aH b){k0:T}{x:Int}(dN:aX k0)(eO:0≤x∧x≤128)
 (dS:φ Tryz.prog 126 [ax d,ah f,k0] (.t (.int .i64 x))) {k1:T} {y:Int} (cZ:aX k1) (kJ:0≤y∧y≤128)
 (fL:φ Tryz.prog 126 [ax d,ah f,k1] (.t (.int .i64 y))):
 φ Tryz.prog 126 [ax d,ah f,.agg [.int .i64 5,.int .i64 w,.int .i64 a,.int .i64 b,.θ 5 [k0,k1]]] (.t (.int .i64 (bX 5 x y))):=by
 cases dN with|mk o0 w0 a0 b0 s0 _ _ _ _ _ _=>
 cases cZ with|mk o1 w1 a1 b1 s1 _ _ _ _ _ _=>
 have e:bX 5 x y=if x=0∨y=0 then 0 else(if x=y then x else 0):=by unfold bX;simp
 rw[e]
 refine φ.Γ ?_ rfl
 refine γ.ξ ζ η Tryz.func126 rfl rfl ?_
 refine υ bI (by decide+kernel) ?_
 refine γ.pure (show φ _ _ _ (.t (.int .i64 2))from bj 5) rfl ?_
 refine And.intro (fun j hj=>by first|(cases hj;done)|exact χ.append _ _ _) ?_
 refine bh 3 ?_
 refine γ.a8 dS rfl ⟨.refl _,.refl _,.refl _,trivial⟩ ?_
 refine U (fun c=> ?_) (fun c0=> ?_)
 ·have c:x=0:=by simpa using c
  exact And.intro (aI (if_pos (by omega)).symm) rfl
 have c0:¬x=0:=by simpa using c0
 refine γ.a8 fL rfl ⟨.refl _,.refl _,.refl _,trivial⟩ ?_
 refine U (fun c=> ?_) (fun c1=> ?_)
 ·have c:y=0:=by simpa using c
  exact And.intro (aI (if_pos (by omega)).symm) rfl
 have c1:¬y=0:=by simpa using c1
 have cz:¬(x=0∨y=0):=by omega
 rw[if_neg cz]
 refine γ.pure (bd _ _) rfl ?_
 exact And.intro (aI (by simp)) rfl
theorem MG(d:ο)(f:Ψ)(w a b:Int)(ha:aH a)(hb:aH b){k0:T}{x:Int}(dN:aX k0)(eO:0≤x∧x≤128)
 (dS:φ Tryz.prog 126 [ax d,ah f,k0] (.t (.int .i64 x))) {k1:T} {y:Int} (cZ:aX k1) (kJ:0≤y∧y≤128)
 (fL:φ Tryz.prog 126 [ax d,ah f,k1] (.t (.int .i64 y))):
 φ Tryz.prog 126 [ax d,ah f,.agg [.int .i64 6,.int .i64 w,.int .i64 a,.int .i64 b,.θ 5 [k0,k1]]] (.t (.int .i64 (bX 6 x y))):=by
 cases dN with|mk o0 w0 a0 b0 s0 _ _ _ _ _ _=>
 cases cZ with|mk o1 w1 a1 b1 s1 _ _ _ _ _ _=>
 have e:bX 6 x y=if x=0∨y=0 then 0 else(if x=y then x else 0):=by unfold bX;simp
 rw[e]
 refine φ.Γ ?_ rfl
 refine γ.ξ ζ η Tryz.func126 rfl rfl ?_
 refine υ bI (by decide+kernel) ?_
 refine γ.pure (show φ _ _ _ (.t (.int .i64 2))from bj 6) rfl ?_
 refine And.intro (fun j hj=>by first|(cases hj;done)|exact χ.append _ _ _) ?_
 refine bh 3 ?_
 refine γ.a8 dS rfl ⟨.refl _,.refl _,.refl _,trivial⟩ ?_
 refine U (fun c=> ?_) (fun c0=> ?_)
 ·have c:x=0:=by simpa using c
  exact And.intro (aI (if_pos (by omega)).symm) rfl
 have c0:¬x=0:=by simpa using c0
 refine γ.a8 fL rfl ⟨.refl _,.refl _,.refl _,trivial⟩ ?_
 refine U (fun c=> ?_) (fun c1=> ?_)
 ·have c:y=0:=by simpa using c
  exact And.intro (aI (if_pos (by omega)).symm) rfl
 have c1:¬y=0:=by simpa using c1
 have cz:¬(x=0∨y=0):=by omega
 rw[if_neg cz]
 refine γ.pure (bd _ _) rfl ?_
 exact And.intro (aI (by simp)) rfl
theorem MF(d:ο)(f:Ψ)(w a b:Int)(ha:aH a)(hb:aH b){k0:T}{x:Int}(dN:aX k0)(eO:0≤x∧x≤128)
 (dS:φ Tryz.prog 126 [ax d,ah f,k0] (.t (.int .i64 x))) {k1:T} {y:Int} (cZ:aX k1) (kJ:0≤y∧y≤128)
 (fL:φ Tryz.prog 126 [ax d,ah f,k1] (.t (.int .i64 y))):
 φ Tryz.prog 126 [ax d,ah f,.agg [.int .i64 7,.int .i64 w,.int .i64 a,.int .i64 b,.θ 5 [k0,k1]]] (.t (.int .i64 (bX 7 x y))):=by
 cases dN with|mk o0 w0 a0 b0 s0 _ _ _ _ _ _=>
 cases cZ with|mk o1 w1 a1 b1 s1 _ _ _ _ _ _=>
 have e:bX 7 x y=if x=0∨y=0 then 0 else x:=by unfold bX;simp
 rw[e]
 refine φ.Γ ?_ rfl
 refine γ.ξ ζ η Tryz.func126 rfl rfl ?_
 refine υ bI (by decide+kernel) ?_
 refine γ.pure (show φ _ _ _ (.t (.int .i64 2))from bj 7) rfl ?_
 refine And.intro (fun j hj=>by first|(cases hj;done)|exact χ.append _ _ _) ?_
 refine bh 3 ?_
 refine γ.a8 dS rfl ⟨.refl _,.refl _,.refl _,trivial⟩ ?_
 refine U (fun c=> ?_) (fun c0=> ?_)
 ·have c:x=0:=by simpa using c
  exact And.intro (aI (if_pos (by omega)).symm) rfl
 have c0:¬x=0:=by simpa using c0
 refine γ.a8 fL rfl ⟨.refl _,.refl _,.refl _,trivial⟩ ?_
 refine U (fun c=> ?_) (fun c1=> ?_)
 ·have c:y=0:=by simpa using c
  exact And.intro (aI (if_pos (by omega)).symm) rfl
 have c1:¬y=0:=by simpa using c1
 have cz:¬(x=0∨y=0):=by omega
 rw[if_neg cz]
 exact And.intro rfl rfl
theorem ME(d:ο)(f:Ψ)(w a b:Int)(ha:aH a)(hb:aH b){k0:T}{x:Int}(dN:aX k0)(eO:0≤x∧x≤128)
 (dS:φ Tryz.prog 126 [ax d,ah f,k0] (.t (.int .i64 x))) {k1:T} {y:Int} (cZ:aX k1) (kJ:0≤y∧y≤128)
 (fL:φ Tryz.prog 126 [ax d,ah f,k1] (.t (.int .i64 y))):
 φ Tryz.prog 126 [ax d,ah f,.agg [.int .i64 8,.int .i64 w,.int .i64 a,.int .i64 b,.θ 5 [k0,k1]]] (.t (.int .i64 (bX 8 x y))):=by
 cases dN with|mk o0 w0 a0 b0 s0 _ _ _ _ _ _=>
 cases cZ with|mk o1 w1 a1 b1 s1 _ _ _ _ _ _=>
 have e:bX 8 x y=if x=0∨y=0 then 0 else x:=by unfold bX;simp
 rw[e]
 refine φ.Γ ?_ rfl
 refine γ.ξ ζ η Tryz.func126 rfl rfl ?_
 refine υ bI (by decide+kernel) ?_
 refine γ.pure (show φ _ _ _ (.t (.int .i64 2))from bj 8) rfl ?_
 refine And.intro (fun j hj=>by first|(cases hj;done)|exact χ.append _ _ _) ?_
 refine bh 3 ?_
 refine γ.a8 dS rfl ⟨.refl _,.refl _,.refl _,trivial⟩ ?_
 refine U (fun c=> ?_) (fun c0=> ?_)
 ·have c:x=0:=by simpa using c
  exact And.intro (aI (if_pos (by omega)).symm) rfl
 have c0:¬x=0:=by simpa using c0
 refine γ.a8 fL rfl ⟨.refl _,.refl _,.refl _,trivial⟩ ?_
 refine U (fun c=> ?_) (fun c1=> ?_)
 ·have c:y=0:=by simpa using c
  exact And.intro (aI (if_pos (by omega)).symm) rfl
 have c1:¬y=0:=by simpa using c1
 have cz:¬(x=0∨y=0):=by omega
 rw[if_neg cz]
 exact And.intro rfl rfl
theorem MD(d:ο)(f:Ψ)(w a b:Int)(ha:aH a)(hb:aH b){k0:T}{x:Int}(dN:aX k0)(eO:0≤x∧x≤128)
 (dS:φ Tryz.prog 126 [ax d,ah f,k0] (.t (.int .i64 x))) {k1:T} {y:Int} (cZ:aX k1) (kJ:0≤y∧y≤128)
 (fL:φ Tryz.prog 126 [ax d,ah f,k1] (.t (.int .i64 y))):
 φ Tryz.prog 126 [ax d,ah f,.agg [.int .i64 9,.int .i64 w,.int .i64 a,.int .i64 b,.θ 5 [k0,k1]]] (.t (.int .i64 (bX 9 x y))):=by
 cases dN with|mk o0 w0 a0 b0 s0 _ _ _ _ _ _=>
 cases cZ with|mk o1 w1 a1 b1 s1 _ _ _ _ _ _=>
 have e:bX 9 x y=if x=0∨y=0 then 0 else x:=by unfold bX;simp
 rw[e]
 refine φ.Γ ?_ rfl
 refine γ.ξ ζ η Tryz.func126 rfl rfl ?_
 refine υ bI (by decide+kernel) ?_
 refine γ.pure (show φ _ _ _ (.t (.int .i64 2))from bj 9) rfl ?_
 refine And.intro (fun j hj=>by first|(cases hj;done)|exact χ.append _ _ _) ?_
 refine bh 3 ?_
 refine γ.a8 dS rfl ⟨.refl _,.refl _,.refl _,trivial⟩ ?_
 refine U (fun c=> ?_) (fun c0=> ?_)
 ·have c:x=0:=by simpa using c
  exact And.intro (aI (if_pos (by omega)).symm) rfl
 have c0:¬x=0:=by simpa using c0
 refine γ.a8 fL rfl ⟨.refl _,.refl _,.refl _,trivial⟩ ?_
 refine U (fun c=> ?_) (fun c1=> ?_)
 ·have c:y=0:=by simpa using c
  exact And.intro (aI (if_pos (by omega)).symm) rfl
 have c1:¬y=0:=by simpa using c1
 have cz:¬(x=0∨y=0):=by omega
 rw[if_neg cz]
 exact And.intro rfl rfl
theorem Jj(d:ο)(f:Ψ)(w a b:Int)(ha:aH a)(hb:aH b){k0:T}{x:Int}(dN:aX k0)(eO:0≤x∧x≤128)
 (dS:φ Tryz.prog 126 [ax d,ah f,k0] (.t (.int .i64 x))) {k1:T} {y:Int} (cZ:aX k1) (kJ:0≤y∧y≤128)
 (fL:φ Tryz.prog 126 [ax d,ah f,k1] (.t (.int .i64 y))):
 φ Tryz.prog 126 [ax d,ah f,.agg [.int .i64 10,.int .i64 w,.int .i64 a,.int .i64 b,.θ 5 [k0,k1]]] (.t (.int .i64 (bX 10 x y))):=by
 cases dN with|mk o0 w0 a0 b0 s0 _ _ _ _ _ _=>
 cases cZ with|mk o1 w1 a1 b1 s1 _ _ _ _ _ _=>
 have e:bX 10 x y=if x=0∨y=0 then 0 else(if x=y then x else 0):=by unfold bX;simp
 rw[e]
 refine φ.Γ ?_ rfl
 refine γ.ξ ζ η Tryz.func126 rfl rfl ?_
 refine υ bI (by decide+kernel) ?_
 refine γ.pure (show φ _ _ _ (.t (.int .i64 2))from bj 10) rfl ?_
 refine And.intro (fun j hj=>by first|(cases hj;done)|exact χ.append _ _ _) ?_
 refine bh 3 ?_
 refine γ.a8 dS rfl ⟨.refl _,.refl _,.refl _,trivial⟩ ?_
 refine U (fun c=> ?_) (fun c0=> ?_)
 ·have c:x=0:=by simpa using c
  exact And.intro (aI (if_pos (by omega)).symm) rfl
 have c0:¬x=0:=by simpa using c0
 refine γ.a8 fL rfl ⟨.refl _,.refl _,.refl _,trivial⟩ ?_
 refine U (fun c=> ?_) (fun c1=> ?_)
 ·have c:y=0:=by simpa using c
  exact And.intro (aI (if_pos (by omega)).symm) rfl
 have c1:¬y=0:=by simpa using c1
 have cz:¬(x=0∨y=0):=by omega
 rw[if_neg cz]
 refine γ.pure (bd _ _) rfl ?_
 exact And.intro (aI (by simp)) rfl
theorem Ji(d:ο)(f:Ψ)(w a b:Int)(ha:aH a)(hb:aH b){k0:T}{x:Int}(dN:aX k0)(eO:0≤x∧x≤128)
 (dS:φ Tryz.prog 126 [ax d,ah f,k0] (.t (.int .i64 x))) {k1:T} {y:Int} (cZ:aX k1) (kJ:0≤y∧y≤128)
 (fL:φ Tryz.prog 126 [ax d,ah f,k1] (.t (.int .i64 y))):
 φ Tryz.prog 126 [ax d,ah f,.agg [.int .i64 11,.int .i64 w,.int .i64 a,.int .i64 b,.θ 5 [k0,k1]]] (.t (.int .i64 (bX 11 x y))):=by
 cases dN with|mk o0 w0 a0 b0 s0 _ _ _ _ _ _=>
 cases cZ with|mk o1 w1 a1 b1 s1 _ _ _ _ _ _=>
 have e:bX 11 x y=if x=0∨y=0 then 0 else(if x=y then x else 0):=by unfold bX;simp
 rw[e]
 refine φ.Γ ?_ rfl
 refine γ.ξ ζ η Tryz.func126 rfl rfl ?_
 refine υ bI (by decide+kernel) ?_
 refine γ.pure (show φ _ _ _ (.t (.int .i64 2))from bj 11) rfl ?_
 refine And.intro (fun j hj=>by first|(cases hj;done)|exact χ.append _ _ _) ?_
 refine bh 3 ?_
 refine γ.a8 dS rfl ⟨.refl _,.refl _,.refl _,trivial⟩ ?_
 refine U (fun c=> ?_) (fun c0=> ?_)
 ·have c:x=0:=by simpa using c
  exact And.intro (aI (if_pos (by omega)).symm) rfl
 have c0:¬x=0:=by simpa using c0
 refine γ.a8 fL rfl ⟨.refl _,.refl _,.refl _,trivial⟩ ?_
 refine U (fun c=> ?_) (fun c1=> ?_)
 ·have c:y=0:=by simpa using c
  exact And.intro (aI (if_pos (by omega)).symm) rfl
 have c1:¬y=0:=by simpa using c1
 have cz:¬(x=0∨y=0):=by omega
 rw[if_neg cz]
 refine γ.pure (bd _ _) rfl ?_
 exact And.intro (aI (by simp)) rfl
theorem Jh(d:ο)(f:Ψ)(w a b:Int)(ha:aH a)(hb:aH b){k0:T}{x:Int}(dN:aX k0)(eO:0≤x∧x≤128)
 (dS:φ Tryz.prog 126 [ax d,ah f,k0] (.t (.int .i64 x))) {k1:T} {y:Int} (cZ:aX k1) (kJ:0≤y∧y≤128)
 (fL:φ Tryz.prog 126 [ax d,ah f,k1] (.t (.int .i64 y))):
 φ Tryz.prog 126 [ax d,ah f,.agg [.int .i64 12,.int .i64 w,.int .i64 a,.int .i64 b,.θ 5 [k0,k1]]] (.t (.int .i64 (bX 12 x y))):=by
 cases dN with|mk o0 w0 a0 b0 s0 _ _ _ _ _ _=>
 cases cZ with|mk o1 w1 a1 b1 s1 _ _ _ _ _ _=>
 have e:bX 12 x y=if x=0∨y=0 then 0 else(if x=y then x else 0):=by unfold bX;simp
 rw[e]
 refine φ.Γ ?_ rfl
 refine γ.ξ ζ η Tryz.func126 rfl rfl ?_
 refine υ bI (by decide+kernel) ?_
 refine γ.pure (show φ _ _ _ (.t (.int .i64 2))from bj 12) rfl ?_
 refine And.intro (fun j hj=>by first|(cases hj;done)|exact χ.append _ _ _) ?_
 refine bh 3 ?_
 refine γ.a8 dS rfl ⟨.refl _,.refl _,.refl _,trivial⟩ ?_
 refine U (fun c=> ?_) (fun c0=> ?_)
 ·have c:x=0:=by simpa using c
  exact And.intro (aI (if_pos (by omega)).symm) rfl
 have c0:¬x=0:=by simpa using c0
 refine γ.a8 fL rfl ⟨.refl _,.refl _,.refl _,trivial⟩ ?_
 refine U (fun c=> ?_) (fun c1=> ?_)
 ·have c:y=0:=by simpa using c
  exact And.intro (aI (if_pos (by omega)).symm) rfl
 have c1:¬y=0:=by simpa using c1
 have cz:¬(x=0∨y=0):=by omega
 rw[if_neg cz]
 refine γ.pure (bd _ _) rfl ?_
 exact And.intro (aI (by simp)) rfl
theorem Jg(d:ο)(f:Ψ)(w a b:Int)(ha:aH a)(hb:aH b){k0:T}{x:Int}(dN:aX k0)(eO:0≤x∧x≤128)
 (dS:φ Tryz.prog 126 [ax d,ah f,k0] (.t (.int .i64 x))) {k1:T} {y:Int} (cZ:aX k1) (kJ:0≤y∧y≤128)
 (fL:φ Tryz.prog 126 [ax d,ah f,k1] (.t (.int .i64 y))):
 φ Tryz.prog 126 [ax d,ah f,.agg [.int .i64 13,.int .i64 w,.int .i64 a,.int .i64 b,.θ 5 [k0,k1]]] (.t (.int .i64 (bX 13 x y))):=by
 cases dN with|mk o0 w0 a0 b0 s0 _ _ _ _ _ _=>
 cases cZ with|mk o1 w1 a1 b1 s1 _ _ _ _ _ _=>
 have e:bX 13 x y=if x=0∨y=0 then 0 else(if x=y then x else 0):=by unfold bX;simp
 rw[e]
 refine φ.Γ ?_ rfl
 refine γ.ξ ζ η Tryz.func126 rfl rfl ?_
 refine υ bI (by decide+kernel) ?_
 refine γ.pure (show φ _ _ _ (.t (.int .i64 2))from bj 13) rfl ?_
 refine And.intro (fun j hj=>by first|(cases hj;done)|exact χ.append _ _ _) ?_
 refine bh 3 ?_
 refine γ.a8 dS rfl ⟨.refl _,.refl _,.refl _,trivial⟩ ?_
 refine U (fun c=> ?_) (fun c0=> ?_)
 ·have c:x=0:=by simpa using c
  exact And.intro (aI (if_pos (by omega)).symm) rfl
 have c0:¬x=0:=by simpa using c0
 refine γ.a8 fL rfl ⟨.refl _,.refl _,.refl _,trivial⟩ ?_
 refine U (fun c=> ?_) (fun c1=> ?_)
 ·have c:y=0:=by simpa using c
  exact And.intro (aI (if_pos (by omega)).symm) rfl
 have c1:¬y=0:=by simpa using c1
 have cz:¬(x=0∨y=0):=by omega
 rw[if_neg cz]
 refine γ.pure (bd _ _) rfl ?_
 exact And.intro (aI (by simp)) rfl
theorem Jc(d:ο)(f:Ψ)(w a b:Int)(ha:aH a)(hb:aH b){k0:T}{x:Int}(dN:aX k0)(eO:0≤x∧x≤128)
 (dS:φ Tryz.prog 126 [ax d,ah f,k0] (.t (.int .i64 x))) {k1:T} {y:Int} (cZ:aX k1) (kJ:0≤y∧y≤128)
 (fL:φ Tryz.prog 126 [ax d,ah f,k1] (.t (.int .i64 y))):
 φ Tryz.prog 126 [ax d,ah f,.agg [.int .i64 14,.int .i64 w,.int .i64 a,.int .i64 b,.θ 5 [k0,k1]]] (.t (.int .i64 (bX 14 x y))):=by
 cases dN with|mk o0 w0 a0 b0 s0 _ _ _ _ _ _=>
 cases cZ with|mk o1 w1 a1 b1 s1 _ _ _ _ _ _=>
 have e:bX 14 x y=if x=0∨y=0 then 0 else(if x=y then 1 else 0):=by unfold bX;simp
 rw[e]
 refine φ.Γ ?_ rfl
 refine γ.ξ ζ η Tryz.func126 rfl rfl ?_
 refine υ bI (by decide+kernel) ?_
 refine γ.pure (show φ _ _ _ (.t (.int .i64 2))from bj 14) rfl ?_
 refine And.intro (fun j hj=>by first|(cases hj;done)|exact χ.append _ _ _) ?_
 refine bh 3 ?_
 refine γ.a8 dS rfl ⟨.refl _,.refl _,.refl _,trivial⟩ ?_
 refine U (fun c=> ?_) (fun c0=> ?_)
 ·have c:x=0:=by simpa using c
  exact And.intro (aI (if_pos (by omega)).symm) rfl
 have c0:¬x=0:=by simpa using c0
 refine γ.a8 fL rfl ⟨.refl _,.refl _,.refl _,trivial⟩ ?_
 refine U (fun c=> ?_) (fun c1=> ?_)
 ·have c:y=0:=by simpa using c
  exact And.intro (aI (if_pos (by omega)).symm) rfl
 have c1:¬y=0:=by simpa using c1
 have cz:¬(x=0∨y=0):=by omega
 rw[if_neg cz]
 refine γ.pure (bd _ _) rfl ?_
 exact And.intro (aI (by simp)) rfl
theorem Jb(d:ο)(f:Ψ)(w a b:Int)(ha:aH a)(hb:aH b){k0:T}{x:Int}(dN:aX k0)(eO:0≤x∧x≤128)
 (dS:φ Tryz.prog 126 [ax d,ah f,k0] (.t (.int .i64 x))) {k1:T} {y:Int} (cZ:aX k1) (kJ:0≤y∧y≤128)
 (fL:φ Tryz.prog 126 [ax d,ah f,k1] (.t (.int .i64 y))):
 φ Tryz.prog 126 [ax d,ah f,.agg [.int .i64 15,.int .i64 w,.int .i64 a,.int .i64 b,.θ 5 [k0,k1]]] (.t (.int .i64 (bX 15 x y))):=by
 cases dN with|mk o0 w0 a0 b0 s0 _ _ _ _ _ _=>
 cases cZ with|mk o1 w1 a1 b1 s1 _ _ _ _ _ _=>
 have e:bX 15 x y=if x=0∨y=0 then 0 else(if x=y then 1 else 0):=by unfold bX;simp
 rw[e]
 refine φ.Γ ?_ rfl
 refine γ.ξ ζ η Tryz.func126 rfl rfl ?_
 refine υ bI (by decide+kernel) ?_
 refine γ.pure (show φ _ _ _ (.t (.int .i64 2))from bj 15) rfl ?_
 refine And.intro (fun j hj=>by first|(cases hj;done)|exact χ.append _ _ _) ?_
 refine bh 3 ?_
 refine γ.a8 dS rfl ⟨.refl _,.refl _,.refl _,trivial⟩ ?_
 refine U (fun c=> ?_) (fun c0=> ?_)
 ·have c:x=0:=by simpa using c
  exact And.intro (aI (if_pos (by omega)).symm) rfl
 have c0:¬x=0:=by simpa using c0
 refine γ.a8 fL rfl ⟨.refl _,.refl _,.refl _,trivial⟩ ?_
 refine U (fun c=> ?_) (fun c1=> ?_)
 ·have c:y=0:=by simpa using c
  exact And.intro (aI (if_pos (by omega)).symm) rfl
 have c1:¬y=0:=by simpa using c1
 have cz:¬(x=0∨y=0):=by omega
 rw[if_neg cz]
 refine γ.pure (bd _ _) rfl ?_
 exact And.intro (aI (by simp)) rfl
theorem Ja(d:ο)(f:Ψ)(w a b:Int)(ha:aH a)(hb:aH b){k0:T}{x:Int}(dN:aX k0)(eO:0≤x∧x≤128)
 (dS:φ Tryz.prog 126 [ax d,ah f,k0] (.t (.int .i64 x))) {k1:T} {y:Int} (cZ:aX k1) (kJ:0≤y∧y≤128)
 (fL:φ Tryz.prog 126 [ax d,ah f,k1] (.t (.int .i64 y))):
 φ Tryz.prog 126 [ax d,ah f,.agg [.int .i64 16,.int .i64 w,.int .i64 a,.int .i64 b,.θ 5 [k0,k1]]] (.t (.int .i64 (bX 16 x y))):=by
 cases dN with|mk o0 w0 a0 b0 s0 _ _ _ _ _ _=>
 cases cZ with|mk o1 w1 a1 b1 s1 _ _ _ _ _ _=>
 have e:bX 16 x y=if x=0∨y=0 then 0 else(if x=y then 1 else 0):=by unfold bX;simp
 rw[e]
 refine φ.Γ ?_ rfl
 refine γ.ξ ζ η Tryz.func126 rfl rfl ?_
 refine υ bI (by decide+kernel) ?_
 refine γ.pure (show φ _ _ _ (.t (.int .i64 2))from bj 16) rfl ?_
 refine And.intro (fun j hj=>by first|(cases hj;done)|exact χ.append _ _ _) ?_
 refine bh 3 ?_
 refine γ.a8 dS rfl ⟨.refl _,.refl _,.refl _,trivial⟩ ?_
 refine U (fun c=> ?_) (fun c0=> ?_)
 ·have c:x=0:=by simpa using c
  exact And.intro (aI (if_pos (by omega)).symm) rfl
 have c0:¬x=0:=by simpa using c0
 refine γ.a8 fL rfl ⟨.refl _,.refl _,.refl _,trivial⟩ ?_
 refine U (fun c=> ?_) (fun c1=> ?_)
 ·have c:y=0:=by simpa using c
  exact And.intro (aI (if_pos (by omega)).symm) rfl
 have c1:¬y=0:=by simpa using c1
 have cz:¬(x=0∨y=0):=by omega
 rw[if_neg cz]
 refine γ.pure (bd _ _) rfl ?_
 exact And.intro (aI (by simp)) rfl
theorem I_(d:ο)(f:Ψ)(w a b:Int)(ha:aH a)(hb:aH b){k0:T}{x:Int}(dN:aX k0)(eO:0≤x∧x≤128)
 (dS:φ Tryz.prog 126 [ax d,ah f,k0] (.t (.int .i64 x))) {k1:T} {y:Int} (cZ:aX k1) (kJ:0≤y∧y≤128)
 (fL:φ Tryz.prog 126 [ax d,ah f,k1] (.t (.int .i64 y))):
 φ Tryz.prog 126 [ax d,ah f,.agg [.int .i64 17,.int .i64 w,.int .i64 a,.int .i64 b,.θ 5 [k0,k1]]] (.t (.int .i64 (bX 17 x y))):=by
 cases dN with|mk o0 w0 a0 b0 s0 _ _ _ _ _ _=>
 cases cZ with|mk o1 w1 a1 b1 s1 _ _ _ _ _ _=>
 have e:bX 17 x y=if x=0∨y=0 then 0 else(if x+y≤128 then x+y else 0):=by unfold bX;simp
 rw[e]
 refine φ.Γ ?_ rfl
 refine γ.ξ ζ η Tryz.func126 rfl rfl ?_
 refine υ bI (by decide+kernel) ?_
 refine γ.pure (show φ _ _ _ (.t (.int .i64 2))from bj 17) rfl ?_
 refine And.intro (fun j hj=>by first|(cases hj;done)|exact χ.append _ _ _) ?_
 refine bh 3 ?_
 refine γ.a8 dS rfl ⟨.refl _,.refl _,.refl _,trivial⟩ ?_
 refine U (fun c=> ?_) (fun c0=> ?_)
 ·have c:x=0:=by simpa using c
  exact And.intro (aI (if_pos (by omega)).symm) rfl
 have c0:¬x=0:=by simpa using c0
 refine γ.a8 fL rfl ⟨.refl _,.refl _,.refl _,trivial⟩ ?_
 refine U (fun c=> ?_) (fun c1=> ?_)
 ·have c:y=0:=by simpa using c
  exact And.intro (aI (if_pos (by omega)).symm) rfl
 have c1:¬y=0:=by simpa using c1
 have cz:¬(x=0∨y=0):=by omega
 rw[if_neg cz]
 refine δ (g7 (n:=x+y) (by omega) (by omega)) ?_
 refine δ (g7 (n:=x+y) (by omega) (by omega)) ?_
 refine γ.pure (bd _ _) rfl ?_
 exact And.intro (aI (by simp)) rfl
theorem I9(d:ο)(f:Ψ)(w a b:Int)(ha:aH a)(hb:aH b){k0:T}{x:Int}(dN:aX k0)(eO:0≤x∧x≤128)
 (dS:φ Tryz.prog 126 [ax d,ah f,k0] (.t (.int .i64 x))) {k1:T} {y:Int} (cZ:aX k1) (kJ:0≤y∧y≤128)
 (fL:φ Tryz.prog 126 [ax d,ah f,k1] (.t (.int .i64 y))) {k2:T} {z:Int} (et:aX k2) (fV:0≤z∧z≤128)
 (BA:φ Tryz.prog 126 [ax d,ah f,k2] (.t (.int .i64 z))):
 φ Tryz.prog 126 [ax d,ah f,.agg [.int .i64 27,.int .i64 w,.int .i64 a,.int .i64 b,.θ 5 [k0,k1,k2]]] (.t (.int .i64 (qR 27 x y z))):=by
 cases dN with|mk o0 w0 a0 b0 s0 _ _ _ _ _ _=>
 cases cZ with|mk o1 w1 a1 b1 s1 _ _ _ _ _ _=>
 cases et with|mk o2 w2 a2 b2 s2 _ _ _ _ _ _=>
 have e:qR 27 x y z=if x=0∨y=0∨z=0 then 0 else(if x=1∧y=z then y else 0):=by unfold qR;simp
 rw[e]
 refine φ.Γ ?_ rfl
 refine γ.ξ ζ η Tryz.func126 rfl rfl ?_
 refine υ bI (by decide+kernel) ?_
 refine γ.pure (show φ _ _ _ (.t (.int .i64 3))from bj 27) rfl ?_
 refine And.intro (fun j hj=>by first|(cases hj;done)|exact χ.append _ _ _) ?_
 refine bh 4 ?_
 refine γ.a8 dS rfl ⟨.refl _,.refl _,.refl _,trivial⟩ ?_
 refine U (fun c=> ?_) (fun c0=> ?_)
 ·have c:x=0:=by simpa using c
  exact And.intro (aI (if_pos (by omega)).symm) rfl
 have c0:¬x=0:=by simpa using c0
 refine γ.a8 fL rfl ⟨.refl _,.refl _,.refl _,trivial⟩ ?_
 refine U (fun c=> ?_) (fun c1=> ?_)
 ·have c:y=0:=by simpa using c
  exact And.intro (aI (if_pos (by omega)).symm) rfl
 have c1:¬y=0:=by simpa using c1
 refine γ.a8 BA rfl ⟨.refl _,.refl _,.refl _,trivial⟩ ?_
 refine U (fun c=> ?_) (fun c2=> ?_)
 ·have c:z=0:=by simpa using c
  exact And.intro (aI (if_pos (by omega)).symm) rfl
 have c2:¬z=0:=by simpa using c2
 have cz:¬(x=0∨y=0∨z=0):=by omega
 rw[if_neg cz]
 refine U (fun q1=> ?_) (fun q1=> ?_)
 ·have q1:x=1:=by simpa using q1
  refine γ.pure (bd _ _) rfl ?_
  exact And.intro (aI (by simp[q1])) rfl
 ·have q1:¬x=1:=by simpa using q1
  refine γ.pure (bd _ _) rfl ?_
  exact And.intro (aI (by simp[q1])) rfl
end Go.Proofs.YtcogcbplmkcojaaGreatDoor
