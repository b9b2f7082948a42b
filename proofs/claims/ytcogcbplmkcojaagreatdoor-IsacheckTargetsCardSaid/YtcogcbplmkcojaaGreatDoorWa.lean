/-
  Descriptions rs data, and how they come in.
-/
import Derived.Test.YtcogcbplmkcojaaGreatDoorGb
import Derived.Test.YtcogcbplmkcojaaGreatDoorFb
import Derived.Test.YtcogcbplmkcojaaGreatDoorFg
namespace Go.Proofs.YtcogcbplmkcojaaGreatDoor
open Go.IntWalk
set_option maxRecDepth 100000
set_option linter.unusedVariables false
set_option linter.unusedSimpArgs false
def aK (n : Int) : Prop := -9223372036854775808 ≤ n ∧ n ≤ 9223372036854775807
inductive aW : T → Prop
 | mk (op w a b : Int) (ks : List T) (ho : aK op) (hw : aK w) (ha : aK a) (hb : aK b) (hl : ks.length ≤ maxLen) (h : ∀ k ∈ ks, aW k) : aW (.agg [.int .i64 op, .int .i64 w, .int .i64 a, .int .i64 b, .κ 5 ks])
structure h_ where
 (name : List UInt8)
 (count : Int)
 (width : Int)
 (zero : Int)
def dz (x : h_) : T := .agg [.str x.name, .int .i64 x.count, .int .i64 x.width, .int .i64 x.zero]
def h_.ok (x : h_) : Prop := x.name.length ≤ reachBytes ∧ aK x.count ∧ aK x.width ∧ aK x.zero
structure dw where
 (name : List UInt8)
 (file : Int)
 (num : Int)
def bl (x : dw) : T := .agg [.str x.name, .int .i64 x.file, .int .i64 x.num]
def dw.ok (x : dw) : Prop := x.name.length ≤ reachBytes ∧ aK x.file ∧ aK x.num
structure dN where
 (name : List UInt8)
 (kind : Int)
 (file : Int)
 (bits : Int)
 (shift : Int)
 (plus : Int)
 (bb : List Int)
def aV (x : dN) : T := .agg [.str x.name, .int .i64 x.kind, .int .i64 x.file, .int .i64 x.bits, .int .i64 x.shift, .int .i64 x.plus, .κ 1 (x.bb.map (T.int .i64))]
def dN.ok (x : dN) : Prop := x.name.length ≤ reachBytes ∧ aK x.kind ∧ aK x.file ∧ aK x.bits ∧ aK x.shift ∧ aK x.plus ∧ x.bb.length ≤ maxLen ∧ (∀ a ∈ x.bb, aK a)
structure cU where
 (name : List UInt8)
 (bn : Int)
def Φ (x : cU) : T := .agg [.str x.name, .int .i64 x.bn]
def cU.ok (x : cU) : Prop := x.name.length ≤ reachBytes ∧ aK x.bn
structure bw where
 (lit : List UInt8)
 (arg : Int)
 (hi : Int)
 (lo : Int)
def bZ (x : bw) : T := .agg [.str x.lit, .int .i64 x.arg, .int .i64 x.hi, .int .i64 x.lo]
def bw.ok (x : bw) : Prop := x.lit.length ≤ reachBytes ∧ aK x.arg ∧ aK x.hi ∧ aK x.lo
structure aj where
 (name : List UInt8)
 (ea : List UInt8)
 (args : List cU)
 (pieces : List bw)
 (gj : List T)
def ab (x : aj) : T := .agg [.str x.name, .str x.ea, .κ 2 (x.args.map Φ), .κ 4 (x.pieces.map bZ), .κ 5 x.gj]
def aj.ok (x : aj) : Prop := x.name.length ≤ reachBytes ∧ x.ea.length ≤ reachBytes ∧ x.args.length ≤ maxLen ∧ (∀ a ∈ x.args, cU.ok a) ∧ x.pieces.length ≤ maxLen ∧ (∀ a ∈ x.pieces, bw.ok a) ∧ x.gj.length ≤ maxLen ∧ (∀ a ∈ x.gj, aW a)
structure gY where
 (name : List UInt8)
 (num : Int)
 (kind : Int)
 (bytes : Int)
 (bn : Int)
 (lV : Int)
 (Bi DW DX ng : Int) (vt : List T)
 (sign : Int)
 (width : Int)
 (align : Int)
 (round : Int)
 (hi : Int)
 (lo : Int)
def ei (x : gY) : T := .agg [.str x.name, .int .i64 x.num, .int .i64 x.kind, .int .i64 x.bytes, .int .i64 x.bn, .int .i64 x.lV, .int .i64 x.Bi, .int .i64 x.DW, .int .i64 x.DX, .int .i64 x.ng, .κ 5 x.vt, .int .i64 x.sign, .int .i64 x.width, .int .i64 x.align, .int .i64 x.round, .int .i64 x.hi, .int .i64 x.lo]
def gY.ok (x : gY) : Prop := x.name.length ≤ reachBytes ∧ aK x.num ∧ aK x.kind ∧ aK x.bytes ∧ aK x.bn ∧ aK x.lV ∧ aW (.agg [.int .i64 x.Bi, .int .i64 x.DW, .int .i64 x.DX, .int .i64 x.ng, .κ 5 x.vt]) ∧ aK x.sign ∧ aK x.width ∧ aK x.align ∧ aK x.round ∧ aK x.hi ∧ aK x.lo
structure nX where
 (mod : List UInt8)
 (bn : Int)
 (rel : Int)
 (fin : Bool)
def fE (x : nX) : T := .agg [.str x.mod, .int .i64 x.bn, .int .i64 x.rel, .bool x.fin]
def nX.ok (x : nX) : Prop := x.mod.length ≤ reachBytes ∧ aK x.bn ∧ aK x.rel
structure d_ where
 (rel : Int)
 (form : Int)
 (to : Int)
def cG (x : d_) : T := .agg [.int .i64 x.rel, .int .i64 x.form, .int .i64 x.to]
def d_.ok (x : d_) : Prop := aK x.rel ∧ aK x.form ∧ aK x.to
structure jX where
 (ea : List UInt8)
 (rel : Int)
 (lines : List (List UInt8))
def db (x : jX) : T := .agg [.str x.ea, .int .i64 x.rel, .κ 1 (x.lines.map T.str)]
def jX.ok (x : jX) : Prop := x.ea.length ≤ reachBytes ∧ aK x.rel ∧ x.lines.length ≤ maxLen ∧ (∀ a ∈ x.lines, (fun s : List UInt8 => s.length ≤ reachBytes) a)
structure jW where
 (name : List UInt8)
 (num : Int)
def fk (x : jW) : T := .agg [.str x.name, .int .i64 x.num]
def jW.ok (x : jW) : Prop := x.name.length ≤ reachBytes ∧ aK x.num
structure τ where
 (name : List UInt8)
 (order : Int)
 (files : List h_)
 (aa : List dw)
 (flags : List (List UInt8))
 (classes : List dN)
 (forms : List aj)
 (au : List gY)
 (uses : List nX)
 (ar : List d_)
 (macros : List jX)
 (aR : List jW)
 (aN : List dw)
def aq (x : τ) : T := .agg [.str x.name, .int .i64 x.order, .κ 4 (x.files.map dz), .κ 3 (x.aa.map bl), .κ 1 (x.flags.map T.str), .κ 7 (x.classes.map aV), .κ 5 (x.forms.map ab), .κ 17 (x.au.map ei), .κ 4 (x.uses.map fE), .κ 3 (x.ar.map cG), .κ 3 (x.macros.map db), .κ 2 (x.aR.map fk), .κ 3 (x.aN.map bl)]
def τ.ok (x : τ) : Prop := x.name.length ≤ reachBytes ∧ aK x.order ∧ x.files.length ≤ maxLen ∧ (∀ a ∈ x.files, h_.ok a) ∧ x.aa.length ≤ maxLen ∧ (∀ a ∈ x.aa, dw.ok a) ∧ x.flags.length ≤ maxLen ∧ (∀ a ∈ x.flags, (fun s : List UInt8 => s.length ≤ reachBytes) a) ∧ x.classes.length ≤ maxLen ∧ (∀ a ∈ x.classes, dN.ok a) ∧ x.forms.length ≤ maxLen ∧ (∀ a ∈ x.forms, aj.ok a) ∧ x.au.length ≤ maxLen ∧ (∀ a ∈ x.au, gY.ok a) ∧ x.uses.length ≤ maxLen ∧ (∀ a ∈ x.uses, nX.ok a) ∧ x.ar.length ≤ maxLen ∧ (∀ a ∈ x.ar, d_.ok a) ∧ x.macros.length ≤ maxLen ∧ (∀ a ∈ x.macros, jX.ok a) ∧ x.aR.length ≤ maxLen ∧ (∀ a ∈ x.aR, jW.ok a) ∧ x.aN.length ≤ maxLen ∧ (∀ a ∈ x.aN, dw.ok a)
end Go.Proofs.YtcogcbplmkcojaaGreatDoor
