/-
  Descriptions rs data, and how they come in.
-/
import Derived.Test.YtcogcbplmkcojaaGreatDoorKGb
import Derived.Test.YtcogcbplmkcojaaGreatDoorKFb
import Derived.Test.YtcogcbplmkcojaaGreatDoorKFg
namespace Go.Proofs.YtcogcbplmkcojaaGreatDoor
open Go.IntWalk
set_option maxRecDepth 100000
set_option linter.unusedVariables false
set_option linter.unusedSimpArgs false
def aH(n:Int):Prop:= -9223372036854775808≤n∧n≤9223372036854775807
theorem So{n:Int}(h:(Lit.int .i64 n).wf=true):aH n:=Sn h
inductive aX:T→Prop
 |mk (op w a b:Int) (ks:List T) (ho:aH op) (hw:aH w) (ha:aH a) (hb:aH b) (hl:ks.length≤maxLen) (h:∀k∈ks,aX k):aX (.agg [.int .i64 op,.int .i64 w,.int .i64 a,.int .i64 b,.θ 5 ks])
structure jW where
 (name:List UInt8)
 (count:Int)
 (width:Int)
 (zero:Int)
def ec(x:jW):T:= .agg [.str x.name,.int .i64 x.count,.int .i64 x.width,.int .i64 x.zero]
def jW.ok(x:jW):Prop:=x.name.length≤reachBytes∧aH x.count∧aH x.width∧aH x.zero
structure dO where
 (name:List UInt8)
 (file:Int)
 (num:Int)
def bz(x:dO):T:= .agg [.str x.name,.int .i64 x.file,.int .i64 x.num]
def dO.ok(x:dO):Prop:=x.name.length≤reachBytes∧aH x.file∧aH x.num
structure cg where
 (name:List UInt8)
 (kind:Int)
 (file:Int)
 (bits:Int)
 (shift:Int)
 (plus:Int)
 (aY:List Int)
def aF(x:cg):T:= .agg [.str x.name,.int .i64 x.kind,.int .i64 x.file,.int .i64 x.bits,.int .i64 x.shift,.int .i64 x.plus,.θ 1 (x.aY.map (T.int .i64))]
def cg.ok(x:cg):Prop:=x.name.length≤reachBytes∧aH x.kind∧aH x.file∧aH x.bits∧aH x.shift∧aH x.plus∧x.aY.length≤maxLen∧(∀a∈x.aY,aH a)
structure cP where
 (name:List UInt8)
 (aU:Int)
def Λ(x:cP):T:= .agg [.str x.name,.int .i64 x.aU]
def cP.ok(x:cP):Prop:=x.name.length≤reachBytes∧aH x.aU
structure bK where
 (lit:List UInt8)
 (arg:Int)
 (hi:Int)
 (lo:Int)
def eb(x:bK):T:= .agg [.str x.lit,.int .i64 x.arg,.int .i64 x.hi,.int .i64 x.lo]
def bK.ok(x:bK):Prop:=x.lit.length≤reachBytes∧aH x.arg∧aH x.hi∧aH x.lo
structure Ψ where
 (name:List UInt8)
 (eE:List UInt8)
 (args:List cP)
 (pieces:List bK)
 (h_:List T)
def ah(x:Ψ):T:= .agg [.str x.name,.str x.eE,.θ 2 (x.args.map Λ),.θ 4 (x.pieces.map eb),.θ 5 x.h_]
def Ψ.ok(x:Ψ):Prop:=x.name.length≤reachBytes∧x.eE.length≤reachBytes∧x.args.length≤maxLen∧(∀a∈x.args,cP.ok a)∧x.pieces.length≤maxLen∧(∀a∈x.pieces,bK.ok a)∧x.h_.length≤maxLen∧(∀a∈x.h_,aX a)
structure jg where
 (name:List UInt8)
 (num:Int)
 (kind:Int)
 (bytes:Int)
 (aU:Int)
 (nL:Int)
 (ES IC ID pk:Int) (yk:List T)
 (sign:Int)
 (width:Int)
 (align:Int)
 (round:Int)
 (hi:Int)
 (lo:Int)
def eT(x:jg):T:= .agg [.str x.name,.int .i64 x.num,.int .i64 x.kind,.int .i64 x.bytes,.int .i64 x.aU,.int .i64 x.nL,.int .i64 x.ES,.int .i64 x.IC,.int .i64 x.ID,.int .i64 x.pk,.θ 5 x.yk,.int .i64 x.sign,.int .i64 x.width,.int .i64 x.align,.int .i64 x.round,.int .i64 x.hi,.int .i64 x.lo]
def jg.ok(x:jg):Prop:=x.name.length≤reachBytes∧aH x.num∧aH x.kind∧aH x.bytes∧aH x.aU∧aH x.nL∧aX (.agg [.int .i64 x.ES,.int .i64 x.IC,.int .i64 x.ID,.int .i64 x.pk,.θ 5 x.yk])∧aH x.sign∧aH x.width∧aH x.align∧aH x.round∧aH x.hi∧aH x.lo
structure qm where
 (mod:List UInt8)
 (aU:Int)
 (rel:Int)
 (fin:Bool)
def gf(x:qm):T:= .agg [.str x.mod,.int .i64 x.aU,.int .i64 x.rel,.bool x.fin]
def qm.ok(x:qm):Prop:=x.mod.length≤reachBytes∧aH x.aU∧aH x.rel
structure eD where
 (rel:Int)
 (form:Int)
 (to:Int)
def cX(x:eD):T:= .agg [.int .i64 x.rel,.int .i64 x.form,.int .i64 x.to]
def eD.ok(x:eD):Prop:=aH x.rel∧aH x.form∧aH x.to
structure kZ where
 (eE:List UInt8)
 (rel:Int)
 (lines:List (List UInt8))
def dv(x:kZ):T:= .agg [.str x.eE,.int .i64 x.rel,.θ 1 (x.lines.map T.str)]
def kZ.ok(x:kZ):Prop:=x.eE.length≤reachBytes∧aH x.rel∧x.lines.length≤maxLen∧(∀a∈x.lines,(fun s:List UInt8=>s.length≤reachBytes) a)
structure kY where
 (name:List UInt8)
 (num:Int)
def fK(x:kY):T:= .agg [.str x.name,.int .i64 x.num]
def kY.ok(x:kY):Prop:=x.name.length≤reachBytes∧aH x.num
structure ο where
 (name:List UInt8)
 (order:Int)
 (files:List jW)
 (ag:List dO)
 (flags:List (List UInt8))
 (classes:List cg)
 (forms:List Ψ)
 (aw:List jg)
 (uses:List qm)
 (av:List eD)
 (macros:List kZ)
 (aT:List kY)
 (aQ:List dO)
def ax(x:ο):T:= .agg [.str x.name,.int .i64 x.order,.θ 4 (x.files.map ec),.θ 3 (x.ag.map bz),.θ 1 (x.flags.map T.str),.θ 7 (x.classes.map aF),.θ 5 (x.forms.map ah),.θ 17 (x.aw.map eT),.θ 4 (x.uses.map gf),.θ 3 (x.av.map cX),.θ 3 (x.macros.map dv),.θ 2 (x.aT.map fK),.θ 3 (x.aQ.map bz)]
def ο.ok(x:ο):Prop:=x.name.length≤reachBytes∧aH x.order∧x.files.length≤maxLen∧(∀a∈x.files,jW.ok a)∧x.ag.length≤maxLen∧(∀a∈x.ag,dO.ok a)∧x.flags.length≤maxLen∧(∀a∈x.flags,(fun s:List UInt8=>s.length≤reachBytes) a)∧x.classes.length≤maxLen∧(∀a∈x.classes,cg.ok a)∧x.forms.length≤maxLen∧(∀a∈x.forms,Ψ.ok a)∧x.aw.length≤maxLen∧(∀a∈x.aw,jg.ok a)∧x.uses.length≤maxLen∧(∀a∈x.uses,qm.ok a)∧x.av.length≤maxLen∧(∀a∈x.av,eD.ok a)∧x.macros.length≤maxLen∧(∀a∈x.macros,kZ.ok a)∧x.aT.length≤maxLen∧(∀a∈x.aT,kY.ok a)∧x.aQ.length≤maxLen∧(∀a∈x.aQ,dO.ok a)
theorem QZ{cs:List T}(h:fG Tryz.prog 3 cs):∃n:Int,sx Tryz.prog 3 cs= .int .i64 n∧aH n:=by
 obtain⟨n,rfl,hw⟩:=h.Sj Tryz.underlying3
 exact⟨n,rfl,So hw⟩
end Go.Proofs.YtcogcbplmkcojaaGreatDoor
