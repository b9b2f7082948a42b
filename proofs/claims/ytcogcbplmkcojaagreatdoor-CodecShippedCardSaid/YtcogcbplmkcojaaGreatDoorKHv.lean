/-
  How long a form is (walk).
-/
import Derived.Test.YtcogcbplmkcojaaGreatDoorKHo
namespace Go.Proofs.YtcogcbplmkcojaaGreatDoor
open Go.IntWalk
set_option maxRecDepth 100000
set_option linter.unusedVariables false
set_option linter.unusedSimpArgs false
set_option maxHeartbeats 1000000
def Nj:Ord:=(.op 0 [] (.op 1 [] (.op 2 [1,0] (.op 3 [1,0] (.op 4 [3,2,1,0] (.op 5 [1,0] (.op 6 [1,0] (.op 7 [] (.op 8 [] (.op 9 [] (.op 10 [] .nil)))))))))))
theorem JJ(d:ο)(hd:d.ok)(i:Nat)(f:Ψ)(hi:d.forms[i]?=some f)(hs:fP f.pieces≤2000000000000)(hG:bG d f):φ Tryz.prog 18 [ax d,.int .i64 i] (.t (.int .i64 (((bf f.pieces).length/8:Nat):Int))):=by
 have hf:f.ok:=hd.2.2.2.2.2.2.2.2.2.2.2.1 f (List.mem_of_getElem? hi)
 have qu:=(List.getElem?_eq_some_iff.1 hi).1
 have hle:=hG.le
 refine φ.Γ ?_ rfl
 refine γ.ξ ζ η Tryz.func18 rfl rfl ?_
 refine γ.pure (cJ _ _) rfl ?_
 refine U (fun c=> ?_) (fun _=> ?_)
 ·exact absurd ⟨by omega,by omega⟩ (p6 (vA c))
 refine υ Nj (by decide+kernel) ?_
 refine ν (show(d.forms.map ah)[((i:Nat):Int).toNat]?=some (ah f)from by rw[Int.toNat_natCast,List.getElem?_map,hi];rfl) ?_
 refine γ.cH (BV d f hd hf hs) rfl ⟨.refl _,.refl _,trivial⟩ ?_
 rintro _ (⟨rfl,hn⟩|⟨R,rfl,_,hP⟩)
 ·exact absurd hG hn
 refine And.intro (fun j hj=>by first|(cases hj;done)|exact χ.append _ _ _|exact χ.refl _ _) ?_
 have hl:(R.map bF).length=(bf f.pieces).length:=by rw[List.length_map,hP.1]
 refine ε rfl ?_
 refine δ (n:=(((bf f.pieces).length/8:Nat):Int)) (show IntKind.i64.wrap ((((R.map bF).length:Nat):Int).tdiv 8)=_ from by rw[hl,Int.tdiv_eq_ediv_of_nonneg (by omega),IntKind.wrap_i64];omega) ?_
 refine And.intro (fun j hj=>by first|(cases hj;done)|exact χ.append _ _ _|exact χ.refl _ _) ?_
 exact And.intro rfl rfl
end Go.Proofs.YtcogcbplmkcojaaGreatDoor
