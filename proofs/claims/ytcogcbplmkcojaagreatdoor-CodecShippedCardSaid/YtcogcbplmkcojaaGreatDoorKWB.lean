/-
  The ground of the walks of this seat, part WB.
-/
import Derived.Test.YtcogcbplmkcojaaGreatDoorKWa
namespace Go.Proofs.YtcogcbplmkcojaaGreatDoor
open Go.IntWalk
set_option maxRecDepth 100000
set_option linter.unusedVariables false
set_option linter.unusedSimpArgs false
noncomputable def nW:uG:=M4 Tryz.prog tab
theorem jq:zI Tryz.prog tab nW:=FW iM mixed
noncomputable def Ai:uG:=M4 Tryz.prog va
theorem η:zI Tryz.prog va Ai:=FW ζ mixed
theorem υ{ops:Array Oper}{s:St}{K:St→Prop}(σ:Ord)(h:dy ops (uc ops) σ [] []=true)(k:uJ va (γ Tryz.prog) ops (fun _=>[]) σ s K):Ai ops s K:=⟨_,σ,h,k⟩
theorem T9{p:Prop}[Decidable p](b:Bool)(h:b=true↔p):some (T.bool b)=some (T.bool (decide p)):=by
 congr 2
 by_cases hp:p
 ·rw[h.2 hp];simp[hp]
 ·have:b=false:=by cases b<;>simp_all
  rw[this];simp[hp]
theorem BS{p:Prop}[Decidable p](h:¬p):some (T.bool false)=some (T.bool (decide p)):=T9 false (iff_of_false (by simp) h)
theorem OM{p:Prop}[Decidable p](h:p):some (T.bool true)=some (T.bool (decide p)):=T9 true (iff_of_true rfl h)
theorem nb{b:Bool}(h:(!b)=true):b=false:=by simpa using h
theorem nf{b:Bool}(h:(!b)=false):b=true:=by simpa using h
theorem dt{p:Prop}[Decidable p](h:decide p=true):p:=of_decide_eq_true h
theorem df{p:Prop}[Decidable p](h:decide p=false):¬p:=of_decide_eq_false h
def bQ{α:Type}(l:List α)(n:Int):Option α:=if 0≤n then l[n.toNat]?else none
theorem cQ{α:Type}{l:List α}{n:Int}(h:0≤n∧n<l.length):∃a,bQ l n=some a∧a∈l∧l[n.toNat]?=some a:=by
 have hn:n.toNat<l.length:=by omega
 refine⟨l[n.toNat],?_,List.getElem_mem hn,List.getElem?_eq_getElem hn⟩
 rw[bQ,if_pos h.1,List.getElem?_eq_getElem hn]
theorem g_{α:Type}{l:List α}{n:Int}(h:¬(0≤n∧n<l.length)):bQ l n=none:=by
 unfold bQ
 split
 ·exact List.getElem?_eq_none (by omega)
 ·rfl
def jW.rI(x:jW):Prop:=1≤x.count∧x.count≤64∧1≤x.width∧x.width≤64∧ -1≤x.zero∧x.zero<x.count
instance(x:jW):Decidable x.rI:=inferInstanceAs (Decidable (_∧_))
theorem cJ(n m:Int):φ Tryz.prog 45 [.int .i64 n,.int .i64 m] (.t (.bool (decide (0≤n∧n<m)))):=by
 refine φ.Γ ?_ rfl
 refine γ.ξ ζ η Tryz.func45 rfl rfl ?_
 refine U (fun c=> ?_) (fun c=> ?_)
 ·exact And.intro (congrArg (fun b=>some (T.bool b)) (decide_eq_decide.mpr ⟨fun h=>⟨dt c,h⟩,fun h=>h.2⟩)) rfl
 ·exact And.intro (BS fun h=>df c h.1) rfl
theorem v9(x:jW):φ Tryz.prog 63 [ec x] (.t (.bool (decide x.rI))):=by
 refine φ.Γ ?_ rfl
 refine γ.ξ ζ η Tryz.func63 rfl rfl ?_
 refine U (fun c1=> ?_) (fun c=> ?_)
 ·refine U (fun c2=> ?_) (fun c=> ?_)
  ·refine U (fun c3=> ?_) (fun c=> ?_)
   ·refine U (fun c4=> ?_) (fun c=> ?_)
    ·refine U (fun c5=> ?_) (fun c=> ?_)
     ·exact And.intro (congrArg (fun b=>some (T.bool b)) (decide_eq_decide.mpr ⟨fun h=>⟨dt c1,dt c2,dt c3,dt c4,dt c5,h⟩,fun h=>h.2.2.2.2.2⟩)) rfl
     ·exact And.intro (BS fun h=>df c h.2.2.2.2.1) rfl
    ·exact And.intro (BS fun h=>df c h.2.2.2.1) rfl
   ·exact And.intro (BS fun h=>df c h.2.2.1) rfl
  ·exact And.intro (BS fun h=>df c h.2.1) rfl
 ·exact And.intro (BS fun h=>df c h.1) rfl
theorem bd(b:Bool)(w:Int):φ Tryz.prog 168 [.bool b,.int .i64 w] (.t (.int .i64 (if b then w else 0))):=by
 cases b
 ·refine φ.Γ ?_ rfl
  refine γ.ξ ζ η Tryz.func168 rfl rfl ?_
  exact And.intro rfl rfl
 ·refine φ.Γ ?_ rfl
  refine γ.ξ ζ η Tryz.func168 rfl rfl ?_
  exact And.intro rfl rfl
def lg(w:Int):Prop:=1≤w∧w≤128
instance(w:Int):Decidable (lg w):=inferInstanceAs (Decidable (_∧_))
def rf(w:Int):Prop:=w=8∨w=16∨w=32∨w=64
instance(w:Int):Decidable (rf w):=inferInstanceAs (Decidable (_∨_))
theorem nN(w:Int):φ Tryz.prog 169 [.int .i64 w] (.t (.bool (decide (lg w)))):=by
 refine φ.Γ ?_ rfl
 refine γ.ξ ζ η Tryz.func169 rfl rfl ?_
 refine U (fun c=> ?_) (fun c=> ?_)
 ·exact And.intro (congrArg (fun b=>some (T.bool b)) (decide_eq_decide.mpr ⟨fun h=>⟨dt c,h⟩,fun h=>h.2⟩)) rfl
 ·exact And.intro (BS fun h=>df c h.1) rfl
theorem xj(w:Int):φ Tryz.prog 73 [.int .i64 w] (.t (.bool (decide (rf w)))):=by
 refine φ.Γ ?_ rfl
 refine γ.ξ ζ η Tryz.func73 rfl rfl ?_
 refine U (fun c=> ?_) (fun c1=> ?_)
 ·exact And.intro (OM (.inl (dt c))) rfl
 refine U (fun c=> ?_) (fun c2=> ?_)
 ·exact And.intro (OM (.inr (.inl (dt c)))) rfl
 refine U (fun c=> ?_) (fun c3=> ?_)
 ·exact And.intro (OM (.inr (.inr (.inl (dt c))))) rfl
 exact And.intro (congrArg (fun b=>some (T.bool b)) (decide_eq_decide.mpr ⟨fun h=> .inr (.inr (.inr h)),fun h=>by
  rcases h with h|h|h|h
  ·exact absurd h (df c1)
  ·exact absurd h (df c2)
  ·exact absurd h (df c3)
  ·exact h⟩)) rfl
def jr(d:ο)(f:Ψ)(a b:Int):Int:=
 match bQ d.files a with
 |none=>0
 |some x=>if x.rI then
  (if b<0 then(if -1 - b<x.count then x.width else 0)
   else match bQ f.args b with
    |none=>0
    |some g=>match bQ d.classes g.aU with
     |none=>0
     |some k=>if k.kind=1∧k.file=a then x.width else 0)
  else 0
end Go.Proofs.YtcogcbplmkcojaaGreatDoor
namespace Go.Proofs.YtcogcbplmkcojaaGreatDoor
open Go.IntWalk
set_option maxRecDepth 100000
set_option linter.unusedVariables false
set_option linter.unusedSimpArgs false
def Nc:Ord:=(.op 0 [] (.op 1 [] (.op 2 [1,0] (.op 3 [1,0] (.op 4 [1,0] (.op 5 [] (.op 6 [] (.op 7 [] (.op 8 [] (.op 9 [] (.op 10 [9,8] (.op 11 [9,8] (.op 12 [] (.op 13 [] (.op 14 [] (.op 15 [14,13,12,11,10,9,8] (.op 16 [14,13,12,11,10,9,8] (.op 17 [14,13,12,11,10,9,8] (.op 18 [14,13,12,11,10,9,8] (.op 19 [] (.op 20 [] (.op 21 [] .nil))))))))))))))))))))))
def J5:Ord:=(.op 0 [] (.op 1 [] (.op 2 [] (.op 3 [2,1,0] (.op 4 [2,1,0] (.op 5 [4,3,2,1,0] (.op 6 [4,3,2,1,0] (.op 7 [2,1,0] (.op 8 [2,1,0] (.op 9 [2,1,0] (.op 10 [] (.op 11 [] (.op 12 [11,10,9,8,7,6,5,4,3,2,1,0] (.op 13 [] .nil))))))))))))))
def bI:Ord:=(.op 0 [] (.op 1 [] (.op 3 [1,0] (.op 4 [1,0] (.op 5 [1,0] (.op 2 [5,4,3] (.op 6 [] .nil)))))))
def vt:Ord:=(.op 0 [] (.op 1 [] (.op 3 [1,0] (.op 4 [1,0] (.op 2 [4,3] (.op 5 [] (.op 6 [] .nil)))))))
def Kb:Ord:=(.op 0 [] (.op 1 [] (.op 2 [1,0] (.op 3 [1,0] (.op 4 [1,0] (.op 5 [] (.op 6 [] (.op 7 [] (.op 8 [] (.op 9 [8,7] (.op 10 [8,7] (.op 11 [] (.op 12 [] (.op 13 [] (.op 14 [13,12,11,10,9,8,7] (.op 15 [13,12,11,10,9,8,7] (.op 16 [13,12,11,10,9,8,7] (.op 17 [13,12,11,10,9,8,7] (.op 18 [] (.op 19 [] (.op 20 [] .nil)))))))))))))))))))))
def Be:Ord:=(.op 0 [] (.op 1 [] (.op 2 [] (.op 3 [] (.op 22 [3,2,1,0] (.op 23 [3,2,1,0] (.op 4 [23,22] (.op 5 [23,22] (.op 6 [23,22] (.op 7 [23,22] (.op 8 [23,22] (.op 9 [23,22] (.op 10 [9,8,7,23,22] (.op 11 [9,8,7,23,22] (.op 12 [11,10,9,8,7,23,22] (.op 13 [11,10,9,8,7,23,22] (.op 14 [9,8,7,23,22] (.op 15 [9,8,7,23,22] (.op 16 [9,8,7,23,22] (.op 17 [23,22] (.op 18 [23,22] (.op 19 [23,22] (.op 20 [23,22] (.op 21 [23,22] (.op 24 [] (.op 25 [] .nil))))))))))))))))))))))))))
def Ka:Ord:=(.op 0 [] (.op 1 [] (.op 8 [1,0] (.op 9 [1,0] (.op 2 [9,8] (.op 3 [9,8] (.op 4 [9,8] (.op 5 [9,8] (.op 6 [9,8] (.op 7 [9,8] (.op 10 [] (.op 11 [] .nil))))))))))))
theorem g7{n:Int}(h: -9223372036854775808≤n)(h2:n≤9223372036854775807):IntKind.i64.wrap n=n:=by rw[IntKind.wrap_i64];omega
theorem cu{α:Type}{f:α→T}{l:List α}{i:Nat}{a:α}(h:l[i]?=some a):(l.map f)[i]?=some (f a):=by rw[List.getElem?_map,h];rfl
theorem vA{b:Bool}(h:(!b)=true):b=false:=by simpa using h
theorem gW{i:Int}{b:Bool}(hb:b=true)(h:0≤i):(b&&decide (0≤i))=true:=by rw[hb,decide_eq_true h];rfl
theorem qw{a:Int}{α:Type}{f:α→T}{l:List α}(c:decide (0≤a∧a<((l.map f).length:Int))=true):0≤a∧a<(l.length:Int):=by simpa using of_decide_eq_true c
theorem p6{a:Int}{α:Type}{f:α→T}{l:List α}(c:decide (0≤a∧a<((l.map f).length:Int))=false):¬(0≤a∧a<(l.length:Int)):=by simpa using of_decide_eq_false c
theorem aI{a b:Int}(h:a=b):some (T.int .i64 a)=some (T.int .i64 b):=by rw[h]
theorem ο.ok.file{d:ο}(h:d.ok){x:jW}(hx:x∈d.files):x.ok:=by unfold ο.ok at h;exact h.2.2.2.1 x hx
theorem uL(d:ο)(f:Ψ)(op w a b:Int)(ks:List T)(hb:aH b):φ Tryz.prog 72 [ax d,ah f,.agg [.int .i64 op,.int .i64 w,.int .i64 a,.int .i64 b,.θ 5 ks]] (.t (.int .i64 (jr d f a b))):=by
 refine φ.Γ ?_ rfl
 refine γ.ξ ζ η Tryz.func72 rfl rfl ?_
 refine γ.pure (cJ a (d.files.map ec).length) rfl ?_
 refine U (fun c=> ?_) (fun c=> ?_)
 ·have hc:=p6 (vA c)
  exact And.intro (aI (by rw[jr,g_ hc])) rfl
 ·have hc:=qw (nf c)
  obtain⟨x,hx,hm,hg⟩:=cQ hc
  refine ε (gW rfl hc.1) ?_
  refine ν (cu hg) ?_
  refine γ.pure (v9 x) rfl ?_
  refine U (fun c1=> ?_) (fun c1=> ?_)
  ·exact And.intro (aI (by rw[jr,hx];simp only;rw[if_neg (df (vA c1))])) rfl
  have KY:=dt (nf c1)
  refine ε (gW rfl hc.1) ?_
  refine ν (cu hg) ?_
  refine U (fun c2=> ?_) (fun c2=> ?_)
  ·have c2:b<0:=dt c2
   have uS:=hb.1
   refine δ (n:= -1 - b) (g7 (by omega) (by omega)) ?_
   refine γ.pure (cJ _ _) rfl ?_
   refine U (fun c3=> ?_) (fun c3=> ?_)
   ·have c3:=df (vA c3)
    exact And.intro (aI (by rw[jr,hx];simp only;rw[if_pos KY,if_pos c2,if_neg (by omega)])) rfl
   ·have c3:=dt (nf c3)
    exact And.intro (aI (by rw[jr,hx];simp only;rw[if_pos KY,if_pos c2,if_pos (by omega)])) rfl
  ·have c2:¬b<0:=df c2
   refine υ Nc (by decide+kernel) ?_
   refine γ.pure (cJ _ _) rfl ?_
   refine And.intro (fun j hj=>by cases hj) ?_
   refine U (fun c3=> ?_) (fun c3=> ?_)
   ·have tl:=p6 (vA c3)
    refine And.intro (fun j hj=>by cases hj) ?_
    exact And.intro (aI (by rw[jr,hx];simp only;rw[if_pos KY,if_neg c2,g_ tl])) rfl
   have h3:=qw (nf c3)
   obtain⟨g,g1,g2,g3⟩:=cQ h3
   refine ε (gW rfl h3.1) ?_
   refine ν (cu g3) ?_
   refine γ.pure (cJ _ _) rfl ?_
   refine And.intro (fun j hj=>by cases hj) ?_
   refine U (fun c4=> ?_) (fun c4=> ?_)
   ·have tl:=p6 (vA c4)
    exact And.intro (aI (by rw[jr,hx];simp only;rw[if_pos KY,if_neg c2,g1];simp only;rw[g_ tl])) rfl
   have h4:=qw (nf c4)
   obtain⟨k,k1,k2,k3⟩:=cQ h4
   refine υ J5 (by decide+kernel) ?_
   refine ε (gW rfl h3.1) ?_
   refine ν (cu g3) ?_
   refine ε (gW rfl h4.1) ?_
   refine ν (cu k3) ?_
   refine And.intro (fun j hj=>by cases hj) ?_
   have e:jr d f a b=if k.kind=1∧k.file=a then x.width else 0:=by rw[jr,hx];simp only;rw[if_pos KY,if_neg c2,g1];simp only;rw[k1]
   rw[e]
   refine U (fun c5=> ?_) (fun c5=> ?_)
   ·exact And.intro (aI (if_neg fun h=>(by simpa using c5:¬k.kind=1) h.1).symm) rfl
   refine U (fun c6=> ?_) (fun c6=> ?_)
   ·exact And.intro (aI (if_neg fun h=>(by simpa using c6:¬k.file=a) h.2).symm) rfl
   ·exact And.intro (aI (if_pos ⟨by simpa using c5,by simpa using c6⟩).symm) rfl
theorem Hq(d:ο)(f:Ψ)(a b:Int):0≤jr d f a b∧jr d f a b≤128:=by
 unfold jr
 split
 ·omega
 ·rename_i x _
  by_cases hx:x.rI
  ·rw[if_pos hx]
   have h1:=hx.2.2.1
   have h2:=hx.2.2.2.1
   repeat' split
   all_goals omega
  ·rw[if_neg hx];omega
end Go.Proofs.YtcogcbplmkcojaaGreatDoor
namespace Go.Proofs.YtcogcbplmkcojaaGreatDoor
open Go.IntWalk
set_option maxRecDepth 100000
set_option linter.unusedVariables false
set_option linter.unusedSimpArgs false
def eZ(op:Int):Int:=
 if op=20∨op=21∨op=22∨op=23∨op=24∨op=25 then 0
 else if op=18∨op=19∨op=26∨op=28∨op=29∨op=30 then 1
 else if op=27 then 3
 else if 1≤op∧op≤17 then 2 else -1
theorem bj(op:Int):φ Tryz.prog 167 [.int .i64 op] (.t (.int .i64 (eZ op))):=by
 by_cases h:18≤op∧op≤30
 ·have hc:op=18∨op=19∨op=20∨op=21∨op=22∨op=23∨op=24∨op=25∨op=26∨op=27∨op=28∨op=29∨op=30:=by omega
  rcases hc with rfl|rfl|rfl|rfl|rfl|rfl|rfl|rfl|rfl|rfl|rfl|rfl|rfl<;>
  ·refine φ.Γ ?_ rfl
   refine γ.ξ ζ η Tryz.func167 rfl rfl ?_
   exact And.intro rfl rfl
 ·have YV:(op==20)=false:=by simp;omega
  have PY:(op==21)=false:=by simp;omega
  have TV:(op==22)=false:=by simp;omega
  have YU:(op==23)=false:=by simp;omega
  have YT:(op==24)=false:=by simp;omega
  have YS:(op==25)=false:=by simp;omega
  have YX:(op==18)=false:=by simp;omega
  have YW:(op==19)=false:=by simp;omega
  have YR:(op==26)=false:=by simp;omega
  have YQ:(op==27)=false:=by simp;omega
  have YP:(op==28)=false:=by simp;omega
  have YO:(op==29)=false:=by simp;omega
  have YN:(op==30)=false:=by simp;omega
  have ek:eZ op=if 1≤op∧op≤17 then 2 else -1:=by unfold eZ;rw[if_neg (by omega),if_neg (by omega),if_neg (by omega)]
  refine φ.Γ ?_ rfl
  refine γ.ξ ζ η Tryz.func167 rfl rfl ?_
  refine U (fun c=>absurd (YV.symm.trans c) (by decide)) (fun Z6=> ?_)
  refine U (fun c=>absurd (PY.symm.trans c) (by decide)) (fun Z5=> ?_)
  refine U (fun c=>absurd (TV.symm.trans c) (by decide)) (fun Z4=> ?_)
  refine U (fun c=>absurd (YU.symm.trans c) (by decide)) (fun Z3=> ?_)
  refine U (fun c=>absurd (YT.symm.trans c) (by decide)) (fun Z2=> ?_)
  refine U (fun c=>absurd (YS.symm.trans c) (by decide)) (fun Z1=> ?_)
  refine U (fun c=>absurd (YX.symm.trans c) (by decide)) (fun Z8=> ?_)
  refine U (fun c=>absurd (YW.symm.trans c) (by decide)) (fun Z7=> ?_)
  refine U (fun c=>absurd (YR.symm.trans c) (by decide)) (fun Z0=> ?_)
  refine U (fun c=>absurd (YP.symm.trans c) (by decide)) (fun ZY=> ?_)
  refine U (fun c=>absurd (YO.symm.trans c) (by decide)) (fun ZX=> ?_)
  refine U (fun c=>absurd (YN.symm.trans c) (by decide)) (fun ZW=> ?_)
  refine U (fun c=>absurd (YQ.symm.trans c) (by decide)) (fun ZZ=> ?_)
  rw[ek]
  refine U (fun c1=> ?_) (fun c1=> ?_)
  ·refine U (fun c2=> ?_) (fun c2=> ?_)
   ·exact And.intro (aI (if_pos ⟨dt c1,dt c2⟩).symm) rfl
   ·exact And.intro (aI (if_neg fun h=>df c2 h.2).symm) rfl
  ·exact And.intro (aI (if_neg fun h=>df c1 h.1).symm) rfl
def ml(d:ο)(f:Ψ)(op w a b:Int):Int:=
 if op=20 then(if lg w then w else 0)
 else if op=21 then jr d f a b
 else if op=22 then(match bQ f.args a with
  |none=>0
  |some g=>match bQ d.classes g.aU with
   |none=>0
   |some k=>if lg w∧k.kind≠1 then w else 0)
 else if op=23∨op=24 then 64
 else if op=25 then(if 0≤a∧a<d.flags.length then 1 else 0)
 else 0
theorem QW{op:Int}(h:eZ op=0):op=20∨op=21∨op=22∨op=23∨op=24∨op=25:=by
 unfold eZ at h
 repeat' split at h
 all_goals omega
theorem Qk{d:ο}{f:Ψ}{op w a b:Int}(h:eZ op≠0):ml d f op w a b=0:=by
 unfold eZ at h
 have h:¬(op=20∨op=21∨op=22∨op=23∨op=24∨op=25):=fun q=>h (if_pos q)
 unfold ml
 rw[if_neg (by omega),if_neg (by omega),if_neg (by omega),if_neg (by omega),if_neg (by omega)]
theorem P3{a b:Int}(h:a≠b):(a !=b)=true:=by simpa using h
theorem RB(d:ο)(f:Ψ)(op w a b:Int)(hb:aH b):φ Tryz.prog 126 [ax d,ah f,.agg [.int .i64 op,.int .i64 w,.int .i64 a,.int .i64 b,.θ 5 []]] (.t (.int .i64 (ml d f op w a b))):=by
 by_cases hk:eZ op=0
 ·rcases QW hk with rfl|rfl|rfl|rfl|rfl|rfl
  ·have e:ml d f 20 w a b=if lg w then w else 0:=rfl
   rw[e]
   refine φ.Γ ?_ rfl
   refine γ.ξ ζ η Tryz.func126 rfl rfl ?_
   refine υ bI (by decide+kernel) ?_
   refine γ.pure (show φ _ _ _ (.t (.int .i64 0))from bj 20) rfl ?_
   refine And.intro (fun j hj=>by first|(cases hj;done)|exact χ.append _ _ _) ?_
   refine bh 1 ?_
   refine υ vt (by decide+kernel) ?_
   refine γ.pure (nN w) rfl ?_
   refine And.intro (fun j hj=>by first|(cases hj;done)|exact χ.append _ _ _) ?_
   refine γ.pure (bd _ _) rfl ?_
   refine And.intro (fun j hj=>by first|(cases hj;done)|exact χ.append _ _ _) ?_
   refine And.intro (fun j hj=>by first|(cases hj;done)|exact χ.append _ _ _) ?_
   exact And.intro (aI (by simp)) rfl
  ·have e:ml d f 21 w a b=jr d f a b:=rfl
   rw[e]
   refine φ.Γ ?_ rfl
   refine γ.ξ ζ η Tryz.func126 rfl rfl ?_
   refine υ bI (by decide+kernel) ?_
   refine γ.pure (show φ _ _ _ (.t (.int .i64 0))from bj 21) rfl ?_
   refine And.intro (fun j hj=>by first|(cases hj;done)|exact χ.append _ _ _) ?_
   refine bh 1 ?_
   refine γ.a8 (uL d f 21 w a b [] hb) rfl ⟨.refl _,.refl _,.refl _,trivial⟩ ?_
   exact And.intro rfl rfl
  ·have e:ml d f 22 w a b=(match bQ f.args a with
    |none=>0
    |some g=>match bQ d.classes g.aU with
     |none=>0
     |some k=>if lg w∧k.kind≠1 then w else 0):=rfl
   rw[e]
   refine φ.Γ ?_ rfl
   refine γ.ξ ζ η Tryz.func126 rfl rfl ?_
   refine υ bI (by decide+kernel) ?_
   refine γ.pure (show φ _ _ _ (.t (.int .i64 0))from bj 22) rfl ?_
   refine And.intro (fun j hj=>by first|(cases hj;done)|exact χ.append _ _ _) ?_
   refine bh 1 ?_
   refine υ Kb (by decide+kernel) ?_
   refine γ.pure (cJ _ _) rfl ?_
   refine And.intro (fun j hj=>by first|(cases hj;done)|exact χ.append _ _ _) ?_
   refine U (fun c1=> ?_) (fun c1=> ?_)
   ·have h1:=qw c1
    obtain⟨g,g1,g2,g3⟩:=cQ h1
    rw[g1]
    refine ε (gW rfl h1.1) ?_
    refine ν (cu g3) ?_
    refine γ.pure (cJ _ _) rfl ?_
    refine And.intro (fun j hj=>by first|(cases hj;done)|exact χ.append _ _ _) ?_
    refine And.intro (fun j hj=>by first|(cases hj;done)|exact χ.append _ _ _) ?_
    refine υ Be (by decide+kernel) ?_
    refine U (fun c2=> ?_) (fun c2=> ?_)
    ·have h2:=qw c2
     obtain⟨k,k1,k2,k3⟩:=cQ h2
     refine γ.pure (nN w) rfl ?_
     refine And.intro (fun j hj=>by first|(cases hj;done)|exact χ.append _ _ _) ?_
     refine U (fun c3=> ?_) (fun c3=> ?_)
     ·refine ε (gW rfl h1.1) ?_
      refine ν (cu g3) ?_
      refine ε (gW rfl h2.1) ?_
      refine ν (cu k3) ?_
      refine γ.pure (bd _ _) rfl ?_
      refine And.intro (fun j hj=>by first|(cases hj;done)|exact χ.append _ _ _) ?_
      refine And.intro (fun j hj=>by first|(cases hj;done)|exact χ.append _ _ _) ?_
      exact And.intro (aI (by simp only[k1];have c3:lg w:=by simpa using c3
                              simp[c3])) rfl
     ·refine γ.pure (bd _ _) rfl ?_
      refine And.intro (fun j hj=>by first|(cases hj;done)|exact χ.append _ _ _) ?_
      refine And.intro (fun j hj=>by first|(cases hj;done)|exact χ.append _ _ _) ?_
      exact And.intro (aI (by simp only[k1];have c3:¬lg w:=by simpa using c3
                              simp[c3])) rfl
    ·have h2:=g_ (p6 c2)
     refine And.intro (fun j hj=>by first|(cases hj;done)|exact χ.append _ _ _) ?_
     refine γ.pure (bd _ _) rfl ?_
     refine And.intro (fun j hj=>by first|(cases hj;done)|exact χ.append _ _ _) ?_
     refine And.intro (fun j hj=>by first|(cases hj;done)|exact χ.append _ _ _) ?_
     exact And.intro (aI (by simp only[h2];simp)) rfl
   ·have h1:=g_ (p6 c1)
    refine And.intro (fun j hj=>by first|(cases hj;done)|exact χ.append _ _ _) ?_
    refine And.intro (fun j hj=>by first|(cases hj;done)|exact χ.append _ _ _) ?_
    refine υ Be (by decide+kernel) ?_
    refine And.intro (fun j hj=>by first|(cases hj;done)|exact χ.append _ _ _) ?_
    refine γ.pure (bd _ _) rfl ?_
    refine And.intro (fun j hj=>by first|(cases hj;done)|exact χ.append _ _ _) ?_
    refine And.intro (fun j hj=>by first|(cases hj;done)|exact χ.append _ _ _) ?_
    exact And.intro (aI (by rw[h1];simp)) rfl
  ·have e:ml d f 23 w a b=64:=rfl
   rw[e]
   refine φ.Γ ?_ rfl
   refine γ.ξ ζ η Tryz.func126 rfl rfl ?_
   refine υ bI (by decide+kernel) ?_
   refine γ.pure (show φ _ _ _ (.t (.int .i64 0))from bj 23) rfl ?_
   refine And.intro (fun j hj=>by first|(cases hj;done)|exact χ.append _ _ _) ?_
   refine bh 1 ?_
   exact And.intro rfl rfl
  ·have e:ml d f 24 w a b=64:=rfl
   rw[e]
   refine φ.Γ ?_ rfl
   refine γ.ξ ζ η Tryz.func126 rfl rfl ?_
   refine υ bI (by decide+kernel) ?_
   refine γ.pure (show φ _ _ _ (.t (.int .i64 0))from bj 24) rfl ?_
   refine And.intro (fun j hj=>by first|(cases hj;done)|exact χ.append _ _ _) ?_
   refine bh 1 ?_
   exact And.intro rfl rfl
  ·have e:ml d f 25 w a b=if 0≤a∧a<d.flags.length then 1 else 0:=rfl
   rw[e]
   refine φ.Γ ?_ rfl
   refine γ.ξ ζ η Tryz.func126 rfl rfl ?_
   refine υ bI (by decide+kernel) ?_
   refine γ.pure (show φ _ _ _ (.t (.int .i64 0))from bj 25) rfl ?_
   refine And.intro (fun j hj=>by first|(cases hj;done)|exact χ.append _ _ _) ?_
   refine bh 1 ?_
   refine γ.pure (cJ _ _) rfl ?_
   refine γ.pure (bd _ _) rfl ?_
   exact And.intro (aI (by simp)) rfl
 ·rw[Qk hk]
  refine φ.Γ ?_ rfl
  refine γ.ξ ζ η Tryz.func126 rfl rfl ?_
  refine υ bI (by decide+kernel) ?_
  refine γ.pure (bj op) rfl ?_
  refine And.intro (fun j hj=>by first|(cases hj;done)|exact χ.append _ _ _) ?_
  refine U (fun c=> ?_) (fun c=>absurd (c.symm.trans (P3 hk)) (by decide))
  exact And.intro rfl rfl
end Go.Proofs.YtcogcbplmkcojaaGreatDoor
