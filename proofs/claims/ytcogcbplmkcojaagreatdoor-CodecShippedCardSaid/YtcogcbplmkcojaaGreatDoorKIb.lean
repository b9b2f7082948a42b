/-
  A codec's pattern: the data; a bit that is set; the place of the next bit (walks).
-/
import Derived.Test.YtcogcbplmkcojaaGreatDoorKIa
namespace Go.Proofs.YtcogcbplmkcojaaGreatDoor
open Go.IntWalk
set_option maxRecDepth 100000
set_option linter.unusedVariables false
set_option linter.unusedSimpArgs false
set_option maxHeartbeats 1000000
def Nh:Ord:=(.op 0 [] (.op 1 [0] (.op 3 [1,0] (.op 4 [1,0] (.op 5 [1,0] (.op 6 [1,0] (.op 8 [6,5,4,3,1,0] (.op 2 [8,6,5,4,3] (.op 7 [8] (.op 9 [] .nil))))))))))
def oA:Ord:=(.op 0 [] (.op 1 [] (.op 2 [1,0] (.op 3 [2,1,0] (.op 4 [2,1,0] (.op 5 [4,3,2,1,0] (.op 6 [4,3,2,1,0] (.op 7 [2,1,0] (.op 8 [2,1,0] (.op 9 [2,1,0] (.op 10 [2,1,0] (.op 11 [] (.op 12 [] .nil)))))))))))))
def mL:Ord:=(.op 0 [] (.op 1 [] (.op 2 [1,0] (.op 3 [1,0] (.op 4 [] (.op 5 [] (.op 6 [5,4,3,2,1,0] (.op 7 [6,5,4,3,2,1,0] (.op 8 [6,5,4,3,2,1,0] (.op 9 [] (.op 10 [] .nil)))))))))))
def jd:Ord:=(.op 0 [] (.op 1 [0] (.op 2 [0] (.op 3 [2,1] (.op 4 [] (.op 5 [] (.op 6 [5,4,3,2,1,0] (.op 7 [5,4,3,2,1,0] (.op 8 [5,4,3,2,1,0] (.op 9 [] (.op 10 [9,8,7,6,5,4,3,2,1] (.op 11 [] (.op 12 [] .nil)))))))))))))
theorem bJ{ops:Array Oper}{s:St}{K:St→Prop}(D:Nat→List Nat)(σ:Ord)(h:dy ops (uc ops) σ [] []=true)(k:uJ va (γ Tryz.prog) ops D σ s K):Ai ops s K:=⟨D,σ,h,k⟩
def GJ(l:List Nat)(j:Nat):List Nat:=if l.contains j then[4]else[]
abbrev lK:Nat:= 48
def ng(sz m0 m1 w0 w1:Nat)(lz:Bool)(C:List (List Int)):T:= .agg [.int .i64 sz,.int .u64 m0,.int .u64 m1,.int .u64 w0,.int .u64 w1,.θ 1 (C.map fun c=> .θ 1 (c.map (T.int .i64))),.bool lz]
def nP(d:ο)(f:Ψ)(r:AV):Prop:=∃(m0 m1 w0 w1:Nat) (lz:Bool) (C:List (List Int)),r= .t (ng ((bf f.pieces).length/8) m0 m1 w0 w1 lz C)∧zK d f m0 m1 w0 w1 lz C
theorem nP.aJ{d:ο}{f:Ψ}:∀r,nP d f r→aJ r=true:=by rintro r ⟨_,_,_,_,_,_,rfl,_⟩;rfl
theorem Au{b:Int}(h:0≤b)(h2:b≤64):(decide (0≤b)&&decide (b≤b)&&decide (b*8≤140737488355328)&&decide (b≤9223372036854775807)&&true&&true&&true)=true:=by simp;omega
end Go.Proofs.YtcogcbplmkcojaaGreatDoor
