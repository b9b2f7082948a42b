/-
  The ground of the walks of this seat, part PA.
-/
import Derived.Test.YtcogcbplmkcojaaGreatDoorWa
import Derived.Test.YtcogcbplmkcojaaGreatDoorFg
import Derived.Test.YtcogcbplmkcojaaGreatDoorWc
import Derived.Test.YtcogcbplmkcojaaGreatDoorHa
namespace Go.Proofs.YtcogcbplmkcojaaGreatDoor
set_option maxRecDepth 100000
set_option linter.unusedVariables false
def eG (c : UInt8) : Bool := Nat.blt 32 c.toNat && Nat.blt c.toNat 127 && !(Nat.beq c.toNat 40) && !(Nat.beq c.toNat 41) && !(Nat.beq c.toNat 34) && !(Nat.beq c.toNat 59)
def tA (c : UInt8) : Bool := Nat.ble 48 c.toNat && Nat.ble c.toNat 57
def nM (c : UInt8) : Bool := Nat.ble 32 c.toNat && Nat.ble c.toNat 126 && !(Nat.beq c.toNat 34)
def j5 (c : UInt8) : Bool := !(Nat.beq c.toNat 10)
def aS (p : UInt8 → Bool) : List UInt8 → Nat
 | [] => 0
 | c :: r => match p c with | true => aS p r + 1 | false => 0
def jA : List UInt8 → List Nat → Bool
 | [], [] => true
 | c :: r, n :: m => match Nat.beq c.toNat n with | true => jA r m | false => false
 | _, _ => false
def mR : List UInt8 → List UInt8 → Bool
 | [], [] => true
 | c :: r, d :: q => match Nat.beq c.toNat d.toNat with | true => mR r q | false => false
 | _, _ => false
def gy : Nat → List UInt8 → Option Nat
 | n, [] => some n
 | n, c :: r => match tA c with | true => gy (n * 10 + (c.toNat - 48)) r | false => none
def u_ (s : List UInt8) : Option Int :=
 match s with
 | [] => none
 | c :: r =>
  match Nat.beq c.toNat 45 with
  | true =>
   (match r with
   | [] => none
   | z :: _ => match Nat.beq z.toNat 48 || !(Nat.ble r.length 18) with | true => none | false => match gy 0 r with | some n => some (-(n : Int)) | none => none)
  | false =>
   match (Nat.beq c.toNat 48 && Nat.blt 1 s.length) || !(Nat.ble s.length 18) with
   | true => none
   | false => match gy 0 s with | some n => some (n : Int) | none => none
structure eU where
 at_ : Nat
 kind : Nat
 num : Int
 word : List UInt8
def fH : Nat → List UInt8 → Nat → List eU → Option (List eU)
 | _, [], _, acc => some acc
 | 0, _ :: _, _, _ => none
 | f + 1, c :: r, a, acc =>
  match Nat.beq c.toNat 32 || Nat.beq c.toNat 10 with
  | true => fH f r (a + 1) acc
  | false =>
  match Nat.beq c.toNat 59 with
  | true => fH f (r.drop (aS j5 r)) (a + 1 + aS j5 r) acc
  | false =>
  match Nat.beq c.toNat 40 with
  | true => fH f r (a + 1) (⟨a, 4, 0, []⟩ :: acc)
  | false =>
  match Nat.beq c.toNat 41 with
  | true => fH f r (a + 1) (⟨a, 5, 0, []⟩ :: acc)
  | false =>
  match Nat.beq c.toNat 34 with
  | true =>
   (match r.drop (aS nM r) with
   | q :: r' => match Nat.beq q.toNat 34 with | true => fH f r' (a + aS nM r + 2) (⟨a, 3, 0, r.take (aS nM r)⟩ :: acc) | false => none
   | [] => none)
  | false =>
  match eG c with
  | false => none
  | true =>
   match Nat.beq c.toNat 45 || tA c with
   | true => (match u_ (c :: r.take (aS eG r)) with | some n => fH f (r.drop (aS eG r)) (a + 1 + aS eG r) (⟨a, 2, n, []⟩ :: acc) | none => none)
   | false => fH f (r.drop (aS eG r)) (a + 1 + aS eG r) (⟨a, 1, 0, c :: r.take (aS eG r)⟩ :: acc)
inductive ay where
 | word (w : List UInt8)
 | num (n : Int)
 | text (w : List UInt8)
 | list (l : List ay)
def tY (t : eU) : ay := match t.kind with | 1 => .word t.word | 2 => .num t.num | _ => .text t.word
def fK : List eU → List (List ay) → Option (List ay)
 | [], [l] => some l
 | [], _ => none
 | t :: ts, l :: st =>
  (match t.kind with
  | 5 => (match st with | m :: q => fK ts ((m ++ [.list l]) :: q) | [] => none)
  | 4 => (match Nat.blt st.length 10 with | true => fK ts ([] :: l :: st) | false => none)
  | _ => fK ts ((l ++ [tY t]) :: st))
 | _ :: _, [] => none
structure PS where
 d : τ
 rest : List ay
 args : List cU
def bt (s : PS) : Option (PS × List UInt8) := match s.rest with | .word w :: r => some (⟨s.d, r, s.args⟩, w) | _ => none
def pG (s : PS) : Option (PS × List UInt8) := match s.rest with | .text w :: r => some (⟨s.d, r, s.args⟩, w) | _ => none
def kS (s : PS) : Option (PS × Int) := match s.rest with | .num n :: r => some (⟨s.d, r, s.args⟩, n) | _ => none
def cd (s : PS) : Option (PS × Int) := match s.rest with | .num (.ofNat n) :: r => (match Nat.ble n 1000000000000000000 with | true => some (⟨s.d, r, s.args⟩, .ofNat n) | false => none) | _ => none
def cW (s : PS) : Option (PS × List ay) := match s.rest with | .list l :: r => some (⟨s.d, l, s.args⟩, r) | _ => none
def dR (s : PS) (w : List Nat) : Bool := match s.rest with | .word v :: _ => jA v w | _ => false
def g7 (s : PS) : PS := ⟨s.d, s.rest.tail, s.args⟩
def aJ (s : PS) : Bool := match s.rest with | [] => true | _ => false
def bE (s : PS) (k : Nat) : List (List UInt8) :=
 match k with
 | 1 => s.d.files.map (·.name) | 2 => s.d.aa.map (·.name) | 3 => s.d.flags | 4 => s.d.classes.map (·.name) | 5 => s.d.forms.map (·.name)
 | 6 => s.d.au.map (·.name) | 7 => s.args.map (·.name) | 8 => s.d.aR.map (·.name) | _ => s.d.aN.map (·.name)
def dS (k : Nat) : Nat := match k with | 1 => 8 | 2 => 256 | 3 => 16 | 4 => 64 | 5 => 512 | 6 => 128 | 7 => 6 | 8 => 64 | _ => 64
def iq (w : List UInt8) : Nat → List (List UInt8) → Option Nat
 | _, [] => none
 | n, x :: r => match mR x w with | true => some n | false => iq w (n + 1) r
def cH (w : List UInt8) : Nat → List (List Nat) → Option Nat
 | _, [] => none
 | n, x :: r => match jA w x with | true => some n | false => cH w (n + 1) r
def lC (s : PS) (k : Nat) (w : List UInt8) : Option Nat := iq w 0 (bE s k)
def bK (s : PS) (k : Nat) : Option (PS × Nat) :=
 match bt s with | some (s, w) => (match lC s k w with | some i => some (s, i) | none => none) | none => none
def dm (s : PS) (k : Nat) : Option (PS × List UInt8) :=
 match bt s with
 | some (s, w) => (match iq w 0 (bE s k) with | some _ => none | none => match Nat.blt (bE s k).length (dS k) with | true => some (s, w) | false => none)
 | none => none
def z8 : List (List Nat) := [[97, 100, 100], [115, 117, 98], [109, 117, 108], [97, 110, 100], [111, 114], [120, 111, 114], [115, 104, 108], [115, 104, 114], [115, 97, 114], [100, 105, 118, 117], [114, 101, 109, 117], [100, 105, 118, 115], [114, 101, 109, 115], [101, 113], [108, 116, 117], [108, 116, 115], [99, 97, 116]]
def wo : List (List Nat) := [[110, 111, 116], [110, 101, 103], [99], [105, 109, 109], [102, 108, 97, 103], [108, 100], [105, 102], [115, 120], [122, 120], [101, 120], [115, 101, 116], [115, 116], [106, 117, 109, 112], [116, 114, 97, 112], [115, 121, 115], [119, 104, 101, 110]]
def dQ (op w a b : Int) (ks : List T) : T := .agg [.int .i64 op, .int .i64 w, .int .i64 a, .int .i64 b, .κ 5 ks]
def pN (s : PS) : Option (PS × Int) :=
 match s.rest with
 | .num (.ofNat n) :: r => (match Nat.ble n 1000000000000000000 with | true => some (⟨s.d, r, s.args⟩, -1 - (n : Int)) | false => none)
 | .num _ :: _ => none
 | _ => match bK s 7 with | some (s, i) => some (s, (i : Int)) | none => none
def xi (s : PS) (head : List UInt8) : Option (PS × (Int × Int × Int × Int) × Nat) :=
 match cH head 0 [[110, 111, 116], [110, 101, 103], [99], [105, 109, 109], [102, 108, 97, 103], [108, 100], [105, 102], [115, 120], [122, 120], [101, 120]] with
 | some 0 => some (s, (18, 0, 0, 0), 1)
 | some 1 => some (s, (19, 0, 0, 0), 1)
 | some 2 => (match cd s with | some (s, w) => (match kS s with | some (s, a) => some (s, (20, w, a, 0), 0) | none => none) | none => none)
 | some 3 => (match bK s 7 with | some (s, a) => (match cd s with | some (s, w) => some (s, (22, w, (a : Int), 0), 0) | none => none) | none => none)
 | some 4 => (match bK s 3 with | some (s, a) => some (s, (25, 0, (a : Int), 0), 0) | none => none)
 | some 5 => (match cd s with | some (s, w) => some (s, (26, w, 0, 0), 1) | none => none)
 | some 6 => some (s, (27, 0, 0, 0), 3)
 | some 7 => (match cd s with | some (s, w) => some (s, (28, w, 0, 0), 1) | none => none)
 | some 8 => (match cd s with | some (s, w) => some (s, (29, w, 0, 0), 1) | none => none)
 | some 9 => (match cd s with | some (s, a) => (match cd s with | some (s, b) => some (s, (30, 0, a, b), 1) | none => none) | none => none)
 | some _ => none
 | none =>
  match cH head 0 wo with
  | some _ => none
  | none => match lC s 1 head with | some a => (match pN s with | some (s, b) => some (s, (21, 0, (a : Int), b), 0) | none => none) | none => none
def dU (term : PS → Option (PS × T)) : Nat → PS → List T → Option (PS × List T)
 | 0, s, ks => match aJ s with | true => some (s, ks) | false => none
 | n + 1, s, ks => match term s with | some (s, k) => dU term n s (ks ++ [k]) | none => none
def j2 : Nat → PS → Option (PS × T)
 | 0, _ => none
 | f + 1, s =>
  match s.rest with
  | .word w :: r => (match jA w [112, 99] with | true => some (⟨s.d, r, s.args⟩, dQ 23 0 0 0 []) | false => match jA w [110, 101, 120, 116] with | true => some (⟨s.d, r, s.args⟩, dQ 24 0 0 0 []) | false => none)
  | .list l :: r =>
   (match bt ⟨s.d, l, s.args⟩ with
   | none => none
   | some (s, head) =>
    (match cH head 0 z8 with
    | some i => (match dU (j2 f) 2 s [] with | some (s, ks) => some (⟨s.d, r, s.args⟩, dQ ((i : Int) + 1) 0 0 0 ks) | none => none)
    | none =>
     match xi s head with
     | some (s, (op, w, a, b), n) => (match dU (j2 f) n s [] with | some (s, ks) => some (⟨s.d, r, s.args⟩, dQ op w a b ks) | none => none)
     | none => none))
  | _ => none
def qb (Kx : PS → Option (PS × T)) : Nat → PS → List T → Option (PS × List T)
 | 0, _, _ => none
 | f + 1, s, ks => match aJ s with | true => some (s, ks) | false => match Kx s with | some (s, k) => qb Kx f s (ks ++ [k]) | none => none
def tv (term : PS → Option (PS × T)) (r : List ay) (x : Option (PS × (Int × Int × Int × Int) × Nat)) : Option (PS × T) :=
 match x with
 | some (s, (op, w, a, b), n) => (match dU term n s [] with | some (s, ks) => some (⟨s.d, r, s.args⟩, dQ op w a b ks) | none => none)
 | none => none
def j7 : Nat → PS → Option (PS × T)
 | 0, _ => none
 | f + 1, s =>
  match cW s with
  | none => none
  | some (s, r) =>
  match bt s with
  | none => none
  | some (s, head) =>
  match cH head 0 [[115, 101, 116], [115, 116], [106, 117, 109, 112], [116, 114, 97, 112], [115, 121, 115], [119, 104, 101, 110]] with
  | some 0 =>
   (match cW s with
   | none => none
   | some (t, inner) =>
    match bt t with
    | none => none
    | some (t, to) =>
     match jA to [102, 108, 97, 103] with
     | true => (match bK t 3 with | some (t, a) => (match aJ t with | true => tv (j2 f) r (some (⟨t.d, inner, t.args⟩, (32, 0, (a : Int), 0), 1)) | false => none) | none => none)
     | false => match lC t 1 to with | some a => (match pN t with | some (t, b) => (match aJ t with | true => tv (j2 f) r (some (⟨t.d, inner, t.args⟩, (31, 0, (a : Int), b), 1)) | false => none) | none => none) | none => none)
  | some 1 => (match cd s with | some (s, w) => tv (j2 f) r (some (s, (33, w, 0, 0), 2)) | none => none)
  | some 2 => tv (j2 f) r (some (s, (34, 0, 0, 0), 1))
  | some 3 => (match cd s with | some (s, a) => tv (j2 f) r (some (s, (35, 0, a, 0), 0)) | none => none)
  | some 4 => tv (j2 f) r (some (s, (36, 0, 0, 0), 0))
  | some 5 => (match j2 f s with | some (s, k) => (match qb (j7 f) 65 s [k] with | some (s, ks) => some (⟨s.d, r, s.args⟩, dQ 37 0 0 0 ks) | none => none) | none => none)
  | _ => none
def zF (KA : PS → Option (PS × (Int × Int × Int × Int) × List T)) (s : PS) : Option (PS × T) := match KA s with | some (s, (op, w, a, b), ks) => some (s, dQ op w a b ks) | none => none
def kI : Nat → PS → Option (PS × (Int × Int × Int × Int) × List T)
 | 0, _ => none
 | f + 1, s =>
  match s.rest with
  | .num n :: r => some (⟨s.d, r, s.args⟩, (20, 64, n, 0), [])
  | .word w :: r => (match cH w 0 [[83], [65], [80], [71], [84], [], [72]] with | some i => some (⟨s.d, r, s.args⟩, (38 + (i : Int), 0, 0, 0), []) | none => none)
  | .list l :: r =>
   (match bt ⟨s.d, l, s.args⟩ with
   | none => none
   | some (s, head) =>
    match cH head 0 [[97, 100, 100], [115, 117, 98], [112, 97, 103, 101]] with
    | some 0 => (match dU (zF (kI f)) 2 s [] with | some (s, ks) => some (⟨s.d, r, s.args⟩, (1, 0, 0, 0), ks) | none => none)
    | some 1 => (match dU (zF (kI f)) 2 s [] with | some (s, ks) => some (⟨s.d, r, s.args⟩, (2, 0, 0, 0), ks) | none => none)
    | some 2 => (match dU (zF (kI f)) 1 s [] with | some (s, ks) => some (⟨s.d, r, s.args⟩, (43, 0, 0, 0), ks) | none => none)
    | _ => none)
  | _ => none
def je (w : List UInt8) : Option Int := match u_ w with | some (.ofNat n) => (match Nat.ble n 99 with | true => some (.ofNat n) | false => none) | _ => none
def Aj (c : UInt8) : Bool := Nat.beq c.toNat 48 || Nat.beq c.toNat 49 || Nat.beq c.toNat 120
def da (c : UInt8) : Bool := !(Nat.beq c.toNat 91)
def er (c : UInt8) : Bool := !(Nat.beq c.toNat 58)
def tJ (s : PS) (arg : Nat) : Option Int := match s.args[arg]? with | some a => (match a.bn with | .ofNat k => (match s.d.classes[k]? with | some c => some c.bits | none => none) | _ => none) | none => none
def Fh (s : PS) (w : List UInt8) : Option bw :=
 match w with
 | [] => none
 | c :: r =>
  match Nat.beq c.toNat 46 with
  | true => (match r with | [] => none | _ :: _ => match Nat.beq (aS Aj r) r.length with | true => some ⟨r, -1, 0, 0⟩ | false => none)
  | false =>
   let at_ := aS da w
   match lC s 7 (w.take at_) with
   | none => none
   | some arg =>
    match Nat.beq at_ w.length with
    | true => (match tJ s arg with | some b => some ⟨[], (arg : Int), b - 1, 0⟩ | none => none)
    | false =>
     match Nat.beq at_ (w.length - 1) with
     | true => none
     | false =>
     match w.getLast? with
     | some e =>
      (match Nat.beq e.toNat 93 with
      | false => none
      | true =>
       let inner := (w.drop (at_ + 1)).take (w.length - 1 - (at_ + 1))
       let k := aS er inner
       match Nat.beq k inner.length with
       | true => (match je inner with | some h => some ⟨[], (arg : Int), h, h⟩ | none => none)
       | false => match je (inner.take k) with | some h => (match je (inner.drop (k + 1)) with | some l => some ⟨[], (arg : Int), h, l⟩ | none => none) | none => none)
     | none => none
def za (s : PS) (w : List UInt8) : Option bw := match Nat.ble w.length 65536 with | true => Fh s w | false => none
def oQ : Nat → PS → List bw → Option (PS × List bw)
 | 0, _, _ => none
 | f + 1, s, ps =>
  match aJ s with
  | true => some (s, ps)
  | false =>
   match bt s with
   | none => none
   | some (s, w) => match za s w with | none => none | some p => (match Nat.blt ps.length 64 with | true => oQ f s (ps ++ [p]) | false => none)
def oz : Nat → PS → Option PS
 | 0, _ => none
 | f + 1, s =>
  match aJ s with
  | true => some s
  | false =>
   match cW s with
   | none => none
   | some (u, inner) =>
    match dm u 7 with
    | none => none
    | some (u, name) =>
     match bK u 4 with
     | none => none
     | some (u, c) => match aJ u with | true => oz f ⟨u.d, inner, u.args ++ [⟨name, (c : Int)⟩]⟩ | false => none
def uX : Nat → PS → List T → Option (PS × List T)
 | 0, _, _ => none
 | f + 1, s, ks => match aJ s with | true => some (s, ks) | false => match j7 40 s with | some (s, k) => (match Nat.blt ks.length 64 with | true => uX f s (ks ++ [k]) | false => none) | none => none
def rS (s : PS) : Option PS :=
 match dm ⟨s.d, s.rest, []⟩ 5 with
 | none => none
 | some (s, name) =>
 match pG s with
 | none => none
 | some (s, ea) =>
 match cW s with
 | none => none
 | some (s, rest) =>
 match oz 65 s with
 | none => none
 | some s =>
 match cW ⟨s.d, rest, s.args⟩ with
 | none => none
 | some (s, rest) =>
 match oQ 66 s [] with
 | none => none
 | some (s, ps) =>
 match cW ⟨s.d, rest, s.args⟩ with
 | none => none
 | some (s, rest) =>
 match uX 66 s [] with
 | none => none
 | some (s, gj) => some ⟨{ s.d with forms := s.d.forms ++ [⟨name, ea, s.args, ps, gj⟩] }, rest, s.args⟩
def rV (s : PS) : Option PS :=
 match bt s with
 | none => none
 | some (_, name) =>
 match cH name 0 z8 with
 | some _ => none
 | none =>
 match cH name 0 wo with
 | some _ => none
 | none =>
 match dm s 1 with
 | none => none
 | some (s, name) =>
 match cd s with
 | none => none
 | some (s, count) =>
 match cd s with
 | none => none
 | some (s, width) =>
 match dR s [122, 101, 114, 111] with
 | true => (match cd (g7 s) with | some (s, z) => some ⟨{ s.d with files := s.d.files ++ [⟨name, count, width, z⟩] }, s.rest, s.args⟩ | none => none)
 | false => some ⟨{ s.d with files := s.d.files ++ [⟨name, count, width, -1⟩] }, s.rest, s.args⟩
def cM : Nat → PS → List Int → Option (PS × List Int)
 | 0, _, _ => none
 | f + 1, s, l => match aJ s with | true => some (s, l) | false => match kS s with | some (s, n) => (match Nat.blt l.length 8 with | true => cM f s (l ++ [n]) | false => none) | none => none
def pu (s : PS) : Option PS :=
 match dm s 4 with
 | none => none
 | some (s, name) =>
 match bt s with
 | none => none
 | some (s, kw) =>
 match cH kw 1 [[114, 101, 103], [117, 110, 115], [115, 103, 110], [112, 99], [110, 120]] with
 | none => none
 | some kind =>
 match (match kind with | 1 => (match bK s 1 with | some (s, f) => some (s, (f : Int)) | none => none) | _ => some (s, (0 : Int))) with
 | none => none
 | some (s, file) =>
 match cd s with
 | none => none
 | some (s, bits) =>
 match (match Nat.beq kind 1 && dR s [112, 108, 117, 115] with | true => cd (g7 s) | false => some (s, (0 : Int))) with
 | none => none
 | some (s, plus) =>
 match (match Nat.blt 1 kind && dR s [115, 104, 105, 102, 116] with | true => cd (g7 s) | false => some (s, (0 : Int))) with
 | none => none
 | some (s, shift) =>
 match (match dR s [101, 120, 99, 101, 112, 116] with | true => cM 10 (g7 s) [] | false => some (s, ([] : List Int))) with
 | none => none
 | some (s, bb) => some ⟨{ s.d with classes := s.d.classes ++ [⟨name, (kind : Int), file, bits, shift, plus, bb⟩] }, s.rest, s.args⟩
def jg : Nat → PS → List (List UInt8) → Option (PS × List (List UInt8))
 | 0, _, _ => none
 | f + 1, s, l => match aJ s with | true => some (s, l) | false => match pG s with | some (s, w) => (match Nat.blt l.length 8 with | true => jg f s (l ++ [w]) | false => none) | none => none
def oX (s : PS) : Option PS :=
 match Nat.blt s.d.macros.length 32 with
 | false => none
 | true =>
 match pG s with
 | none => none
 | some (s, ea) =>
 match (match dR s [110, 111, 110, 101] with | true => some (g7 s, (-1 : Int)) | false => match bK s 6 with | some (s, i) => some (s, (i : Int)) | none => none) with
 | none => none
 | some (s, rel) =>
 match cW s with
 | none => none
 | some (s, rest) =>
 match jg 10 s [] with
 | none => none
 | some (s, lines) => some ⟨{ s.d with macros := s.d.macros ++ [⟨ea, rel, lines⟩] }, rest, s.args⟩
def uO (s : PS) : Option PS :=
 match Nat.blt s.d.uses.length 128 with
 | false => none
 | true =>
 match bt s with
 | none => none
 | some (s, m) =>
 match bK s 4 with
 | none => none
 | some (s, c) =>
 match bK s 6 with
 | none => none
 | some (s, r) =>
 let mod := match jA m [110, 111, 110, 101] with | true => [] | false => m
 match dR s [101, 110, 100] with
 | true => some ⟨{ s.d with uses := s.d.uses ++ [⟨mod, (c : Int), (r : Int), true⟩] }, s.rest.tail, s.args⟩
 | false => some ⟨{ s.d with uses := s.d.uses ++ [⟨mod, (c : Int), (r : Int), false⟩] }, s.rest, s.args⟩
structure jZ where
 sign : Int
 width : Int
 align : Int
 round : Int
 hi : Int
 lo : Int
 seen : List Nat
def ct : Nat → PS → jZ → Option (PS × jZ)
 | 0, _, _ => none
 | f + 1, s, c =>
  match aJ s with
  | true => some (s, c)
  | false =>
   match cW s with
   | none => none
   | some (t, rest) =>
    match bt t with
    | none => none
    | some (t, head) =>
     match cH head 0 [[115, 105, 103, 110, 101, 100], [117, 110, 115, 105, 103, 110, 101, 100], [101, 105, 116, 104, 101, 114], [97, 108, 105, 103, 110], [114, 111, 117, 110, 100], [115, 108, 105, 99, 101]] with
     | none => none
     | some i =>
      let k := match Nat.blt i 3 with | true => 0 | false => i - 2
      match c.seen.contains k with
      | true => none
      | false =>
       match cd t with
       | none => none
       | some (t, n) =>
        match (match i with
         | 3 => some (t, ({ c with align := n, seen := k :: c.seen } : jZ))
         | 4 => some (t, { c with round := n, seen := k :: c.seen })
         | 5 => (match cd t with | some (t, lo) => some (t, { c with hi := n, lo := lo, seen := k :: c.seen }) | none => none)
         | _ => some (t, { c with sign := (i : Int) + 1, width := n, seen := k :: c.seen })) with
        | none => none
        | some (t, c) => match aJ t with | true => ct f ⟨t.d, rest, t.args⟩ c | false => none
def zS (s : PS) : Option PS :=
 match dm s 6 with
 | none => none
 | some (s, name) =>
 match cd s with
 | none => none
 | some (s, num) =>
 match bt s with
 | none => none
 | some (s, kw) =>
 match cH kw 1 [[110, 111, 110, 101], [100, 97, 116, 97], [105, 110, 115, 110], [112, 97, 105, 114]] with
 | none => none
 | some kind =>
 match (match kind with | 2 => cd s | _ => some (s, (0 : Int))) with
 | none => none
 | some (s, bytes) =>
 match (match Nat.beq kind 3 || Nat.beq kind 4 with | true => (match bK s 4 with | some (s, c) => some (s, (c : Int)) | none => none) | false => some (s, (0 : Int))) with
 | none => none
 | some (s, bn) =>
 match (match kind with | 4 => (match bK s 4 with | some (s, c) => some (s, (c : Int)) | none => none) | _ => some (s, (0 : Int))) with
 | none => none
 | some (s, lV) =>
 match kind with
 | 1 => some ⟨{ s.d with au := s.d.au ++ [⟨name, num, 1, bytes, bn, lV, 0, 0, 0, 0, [], 0, 0, 0, 0, -1, 0⟩] }, s.rest, s.args⟩
 | _ =>
  match kI 40 s with
  | none => none
  | some (s, (op, w, a, b), ks) =>
   match ct 10 s ⟨0, 0, 0, 0, -1, 0, []⟩ with
   | none => none
   | some (s, c) => some ⟨{ s.d with au := s.d.au ++ [⟨name, num, (kind : Int), bytes, bn, lV, op, w, a, b, ks, c.sign, c.width, c.align, c.round, c.hi, c.lo⟩] }, s.rest, s.args⟩
def nK (s : PS) (k : Nat) : Option (PS × dw) :=
 match dm s k with
 | none => none
 | some (s, name) =>
 match bK s 1 with
 | none => none
 | some (s, f) => match cd s with | some (s, n) => some (s, ⟨name, (f : Int), n⟩) | none => none
def v9 (s : PS) (first : Bool) : Option PS :=
 match cW s with
 | none => none
 | some (s, _) =>
 match bt s with
 | none => none
 | some (s, head) =>
 match (match cH head 0 [[105, 115, 97], [102, 105, 108, 101], [97, 108, 105, 97, 115], [114, 101, 103], [102, 108, 97, 103], [99, 108, 97, 115, 115], [102, 111, 114, 109], [109, 97, 99, 114, 111], [114, 101, 108], [117, 115, 101], [114, 101, 108, 97, 120], [110, 117, 109]] with
  | some 0 =>
   (match first with
   | false => none
   | true => match bt s with
    | none => none
    | some (s, name) => match bt s with
     | none => none
     | some (s, order) => match jA order [119, 111, 114, 100] with
      | true => some (⟨{ s.d with name := name, order := 1 }, s.rest, s.args⟩ : PS)
      | false => match jA order [98, 121, 116, 101, 115] with | true => some ⟨{ s.d with name := name, order := 2 }, s.rest, s.args⟩ | false => none)
  | some (k + 1) =>
   (match first with
   | true => none
   | false => match k with
    | 0 => rV s
    | 1 => (match nK s 2 with | some (s, x) => some ⟨{ s.d with aa := s.d.aa ++ [x] }, s.rest, s.args⟩ | none => none)
    | 2 => (match nK s 9 with | some (s, x) => some ⟨{ s.d with aN := s.d.aN ++ [x] }, s.rest, s.args⟩ | none => none)
    | 3 => (match dm s 3 with | some (s, w) => some ⟨{ s.d with flags := s.d.flags ++ [w] }, s.rest, s.args⟩ | none => none)
    | 4 => pu s
    | 5 => rS s
    | 6 => oX s
    | 7 => zS s
    | 8 => uO s
    | 9 => (match Nat.blt s.d.ar.length 16 with
     | false => none
     | true => match bK s 6 with
      | none => none
      | some (s, r) => match bK s 5 with
       | none => none
       | some (s, f) => match bK s 6 with | some (s, t) => some ⟨{ s.d with ar := s.d.ar ++ [⟨(r : Int), (f : Int), (t : Int)⟩] }, s.rest, s.args⟩ | none => none)
    | 10 => (match dm s 8 with | some (s, w) => (match kS s with | some (s, n) => some ⟨{ s.d with aR := s.d.aR ++ [⟨w, n⟩] }, s.rest, s.args⟩ | none => none) | none => none)
    | _ => none)
  | none => none) with
 | none => none
 | some s => match aJ s with | true => some s | false => none
def oZ : List ay → PS → Bool → Option PS
 | [], s, _ => some s
 | t :: r, s, first => match v9 ⟨s.d, [t], s.args⟩ first with | some s => oZ r s false | none => none
def Ky : τ := ⟨[], 0, [], [], [], [], [], [], [], [], [], [], []⟩
def lA (text : List UInt8) : Option τ :=
 match Nat.ble text.length 65536 with
 | false => none
 | true =>
 match fH text.length text 0 [] with
 | none => none
 | some L_ =>
  match fK L_.reverse [[]] with
  | none => none
  | some [] => none
  | some (t :: r) => match oZ (t :: r) ⟨Ky, [], []⟩ true with | some s => some s.d | none => none
end Go.Proofs.YtcogcbplmkcojaaGreatDoor
namespace Go.Proofs.YtcogcbplmkcojaaGreatDoor
open Go.IntWalk
set_option maxRecDepth 100000
set_option linter.unusedVariables false
set_option linter.unusedSimpArgs false
set_option maxHeartbeats 2000000
theorem γ.gc {P : Program} {f : FuncId} {args : List AV} {H : AH} {Q Q' : AV → AH → Prop} (h : γ P f args H Q) (k : ∀ r H', Q r H' → ∃ r' Bu, aX H.length ⟨[(0, r)], H'⟩ ⟨[(0, r')], Bu⟩ ∧ Q' r' Bu) : γ P f args H Q' := by
 intro B c w vs hs hl hr
 refine (h B c w vs hs hl hr).mono ?_
 rintro e w' ⟨v, c', r, H', he, cY, aF, tk, dD, hq⟩
 obtain ⟨r', Bu, hw, AE⟩ := k r H' hq
 have P6 : Sat ⟨1, B, w, c, H, []⟩ c' ⟨[(0, r)], H'⟩ { tmps := #[v], defers := [] } w' := by
  refine ⟨fun t => ?_, aF, rfl, rfl, tk, dD⟩
  rw [e9]
  by_cases ht : 0 = t
  ·subst ht; rw [if_pos rfl]; exact cY
  ·rw [if_neg ht]; exact .bj _
 obtain ⟨SL, DC⟩ := hw ⟨1, B, w, c, H, []⟩ c' { tmps := #[v], defers := [] } w' rfl P6
 have h0 := DC.env 0
 rw [e9, if_pos rfl] at h0
 exact ⟨v, SL, r', Bu, he, h0, DC.hs, DC.ev, DC.below, AE⟩
theorem ax {ops : Array Oper} {s : St} {K : St → Prop} (D : Nat → List Nat) (σ : Ord) (h : dv ops (vW ops) σ [] [] = true) (k : uv xg (γ Tryz.prog) ops D σ s K) : C8 ops s K := ⟨D, σ, h, k⟩
def dB (b : Nat) (l : List Nat) (j : Nat) : List Nat := if l.contains j then [b] else []
def yd : Ord := (.op 0 [] (.op 1 [0] (.op 2 [1] (.op 3 [] .nil))))
def FD : Ord := (.op 0 [] (.op 1 [0] (.op 2 [0] (.op 3 [2, 1] (.op 4 [] .nil)))))
mutual
def kB : ay → T
 | .word w => .agg [.int .i64 1, .str w, .int .i64 0, .κ 4 []]
 | .num n => .agg [.int .i64 2, .str [], .int .i64 n, .κ 4 []]
 | .text w => .agg [.int .i64 3, .str w, .int .i64 0, .κ 4 []]
 | .list l => .agg [.int .i64 4, .str [], .int .i64 0, .κ 4 (ω l)]
def ω : List ay → List T
 | [] => []
 | t :: r => kB t :: ω r
end
theorem om : ∀ l : List ay, ω l = l.map kB
 | [] => rfl
 | t :: r => by rw [ω, om r, List.map_cons]
def dH (d : τ) : AH := [.arr 152 4 true 0 (.ts (d.files.map dz)), .arr 139 3 true 0 (.ts (d.aa.map bl)), .arr 9 1 true 0 (.ts (d.flags.map T.str)), .arr 95 7 true 0 (.ts (d.classes.map aV)),
 .arr 45 5 true 0 (.ts (d.forms.map ab)), .arr 167 17 true 0 (.ts (d.au.map ei)), .arr 164 4 true 0 (.ts (d.uses.map fE)), .arr 145 3 true 0 (.ts (d.ar.map cG)), .arr 173 3 true 0 (.ts (d.macros.map db)),
 .arr 147 2 true 0 (.ts (d.aR.map fk)), .arr 139 3 true 0 (.ts (d.aN.map bl))]
def ec (d : τ) (rest args : List T) : List AV := [.t (.str d.name), .t (.int .i64 d.order), .sl 0 0 0 d.files.length, .sl 1 0 0 d.aa.length, .sl 2 0 0 d.flags.length, .sl 3 0 0 d.classes.length, .sl 4 0 0 d.forms.length, .sl 5 0 0 d.au.length, .sl 6 0 0 d.uses.length, .sl 7 0 0 d.ar.length, .sl 8 0 0 d.macros.length, .sl 9 0 0 d.aR.length, .sl 10 0 0 d.aN.length, .t (.κ 4 rest), .t (.κ 2 args), .t (.int .i64 0)]
def dO (s : PS) : AV := .agg (ec s.d (ω s.rest) (s.args.map Φ))
theorem Ba (d : τ) : (dH d).all (Al 11) = true := rfl
theorem θ {f : FuncId} {args : List AV} {d : τ} {X : AV} {H : AH} {Q : AV → AH → Prop} (h : γ Tryz.prog f args (dH d) (fun r H' => r = X ∧ H' = dH d)) (e : H.take 11 = dH d) (ha : args.all (sW 11) = true) (k : Q X H) : γ Tryz.prog f args H Q := by
 have e2 : H = dH d ++ H.drop 11 := by rw [← e, List.take_append_drop]
 have := γ.frame (H := dH d) h (H.drop 11) (Q := Q) ha (Ba d) (by
  rintro r H' ⟨rfl, rfl⟩
  exact ⟨rfl, by rw [← e2]; exact k⟩)
 rwa [← e2] at this
theorem bx {f : FuncId} {args : List AV} {d : τ} {X : AV} (h : γ Tryz.prog f args (dH d) (fun r H' => aX 11 ⟨[(0, r)], H'⟩ ⟨[(0, X)], dH d⟩)) : γ Tryz.prog f args (dH d) (fun r H' => r = X ∧ H' = dH d) :=
 h.gc fun r H' hw => ⟨X, dH d, hw, rfl, rfl⟩
theorem Ω {s s' : St} (h : w8 11 [0, 1, 2, 3, 4, 5, 6, 7, 8, 9, 10] s.H s.env s'.env) (hB : zj 11 [0, 1, 2, 3, 4, 5, 6, 7, 8, 9, 10] s.H 0 [0, 1, 2, 3, 4, 5, 6, 7, 8, 9, 10] s'.H) : aX 11 s s' := π _ rfl h hB
theorem Δ (d : τ) (r a : List T) {b : Bool} (hb : b = false) (e : Int) : γ Tryz.prog 50 [.agg (ec d r a), .t (.bool b), .t (.int .i64 e)] (dH d) (fun v H => v = .agg (ec d r a) ∧ H = dH d) := by
 subst hb
 refine bx ?_
 refine γ.ο ζ η Tryz.func50 rfl rfl ?_
 refine Ω ?_ ?_
 ·exact ⟨rfl, trivial⟩
 ·exact ⟨rfl, rfl, rfl, rfl, rfl, rfl, rfl, rfl, rfl, rfl, rfl, trivial⟩
def tC (op : Int) (w : List UInt8) (n : Int) (ks : List T) : List AV := [.t (.int .i64 op), .t (.str w), .t (.int .i64 n), .t (.κ 4 ks)]
def tT (op : Int) (w : List UInt8) (n : Int) (ks : List T) : T := .agg [.int .i64 op, .str w, .int .i64 n, .κ 4 ks]
theorem jl {α : Type} (x : α) (r : List α) : ((x :: r).drop 1).take ((x :: r).length - 1) = r := by simp
theorem fr {α : Type} (x : α) (r : List α) : (decide ((0 : Int) ≤ 1) && decide ((1 : Int) ≤ (((x :: r).length : Nat) : Int))) = true := by simp; omega
theorem dj (d : τ) (op : Int) (w : List UInt8) (n : Int) (ks r a : List T) {k : Int} (hk : k = 0 ∨ op = k) :
 γ Tryz.prog 60 [.agg (ec d (tT op w n ks :: r) a), .t (.int .i64 k)] (dH d)
  (fun v H => v = .ao [.agg (ec d r a), .agg (tC op w n ks)] ∧ H = dH d) := by
 refine bx ?_
 refine γ.ο ζ η Tryz.func60 rfl rfl ?_
 refine θ (Δ d _ a ?hb 41) (by rfl) (by rfl) ?_
 case hb => simp; omega
 have tj := congrArg (fun l => some (AV.ao [.agg (ec d l a), .agg (tC op w n ks)])) (jl (tT op w n ks) r)
 refine U (fun ck => ?_) (fun ck => ?_)
 ·refine θ (Δ d _ a ?hb 41) (by rfl) (by rfl) ?_
  case hb =>
   have ck : ¬ k = 0 := by simpa using ck
   rcases hk with h | h
   ·exact absurd h ck
   ·simp [h]
  refine ε (fr _ _) ?_
  refine ax (dB 12 [1]) yd (by decide +kernel) ?_
  refine And.intro (fun j hj => by rw [List.mem_singleton.1 hj]; exact ψ.set (b := 12) _ (List.mem_singleton.2 rfl)) ?_
  refine And.intro (fun j hj => by cases hj) ?_
  refine Ω ?_ ?_
  ·exact ⟨tj, trivial⟩
  ·exact ⟨rfl, rfl, rfl, rfl, rfl, rfl, rfl, rfl, rfl, rfl, rfl, trivial⟩
 ·refine θ (Δ d _ a rfl 41) (by rfl) (by rfl) ?_
  refine ε (fr _ _) ?_
  refine ax (dB 12 [1]) yd (by decide +kernel) ?_
  refine And.intro (fun j hj => by rw [List.mem_singleton.1 hj]; exact ψ.set (b := 12) _ (List.mem_singleton.2 rfl)) ?_
  refine And.intro (fun j hj => by cases hj) ?_
  refine Ω ?_ ?_
  ·exact ⟨tj, trivial⟩
  ·exact ⟨rfl, rfl, rfl, rfl, rfl, rfl, rfl, rfl, rfl, rfl, rfl, trivial⟩
end Go.Proofs.YtcogcbplmkcojaaGreatDoor
namespace Go.Proofs.YtcogcbplmkcojaaGreatDoor
open Go.IntWalk
set_option maxRecDepth 100000
set_option linter.unusedVariables false
set_option linter.unusedSimpArgs false
set_option maxHeartbeats 2000000
theorem nF {n : Nat} (h : n ≤ 1000000) : eK n 16 = true := by simp [eK]; omega
def sz (d : τ) (rest args : List T) : T := .agg [.str d.name, .int .i64 d.order, .κ 4 (d.files.map dz), .κ 3 (d.aa.map bl), .κ 1 (d.flags.map T.str), .κ 7 (d.classes.map aV), .κ 5 (d.forms.map ab), .κ 17 (d.au.map ei), .κ 4 (d.uses.map fE), .κ 3 (d.ar.map cG), .κ 3 (d.macros.map db), .κ 2 (d.aR.map fk), .κ 3 (d.aN.map bl), .κ 4 rest, .κ 2 args, .int .i64 0]
theorem nt : ∀ (a b : List UInt8), mR a b = true ↔ a = b
 | [], [] => by simp [mR]
 | [], _ :: _ => by simp [mR]
 | _ :: _, [] => by simp [mR]
 | c :: r, e :: q => by
  simp only [mR]
  by_cases h : c.toNat = e.toNat
  ·rw [h, Nat.beq_refl]
   have h2 : c = e := UInt8.toNat.inj h
   simp [h2, nt r q]
  ·have : Nat.beq c.toNat e.toNat = false := by
    cases hb : Nat.beq c.toNat e.toNat
    ·rfl
    ·exact absurd (Nat.eq_of_beq_eq_true hb) h
   rw [this]
   have h2 : ¬ c = e := fun e2 => h (by rw [e2])
   simp [h2]
theorem qp (w : List UInt8) : ∀ (l : List (List UInt8)) (n : Nat), (iq w n l = none ∧ ∀ x ∈ l, ¬ x = w) ∨ ∃ i, iq w n l = some (n + i) ∧ l[i]? = some w ∧ ∀ x ∈ l.take i, ¬ x = w
 | [], n => .inl ⟨rfl, by simp⟩
 | x :: r, n => by
  unfold iq
  cases h : mR x w with
  | true => exact .inr ⟨0, rfl, by rw [(nt x w).1 h]; rfl, by simp⟩
  | false =>
   have hx : ¬ x = w := fun e => by rw [(nt x w).2 e] at h; cases h
   rcases qp w r (n + 1) with ⟨h1, h2⟩ | ⟨i, h1, h2, h3⟩
   ·exact .inl ⟨h1, fun y hy => (List.mem_cons.1 hy).elim (fun e => e ▸ hx) (h2 y)⟩
   ·exact .inr ⟨i + 1, by rw [show n + (i + 1) = n + 1 + i by omega]; exact h1, h2, fun y hy => by
     rw [List.take_succ_cons] at hy
     exact (List.mem_cons.1 hy).elim (fun e => e ▸ hx) (h3 y)⟩
def fT (w : List UInt8) (l : List (List UInt8)) : Int := match iq w 0 l with | some i => i | none => -1
theorem cx (l : List (List UInt8)) (w : List UInt8) (hl : l.length ≤ 9223372036854775807) : φ Tryz.prog 110 [.κ 1 (l.map T.str), .str w] (.t (.int .i64 (fT w l))) := by
 have eT : (l.map T.str).length = l.length := by simp
 refine φ.Λ ?_ rfl
 refine γ.ο ζ η Tryz.func110 rfl rfl ?_
 refine ak (fun i : Nat => i ≤ l.length ∧ ∀ x ∈ l.take i, ¬ x = w) (fun i => ⟨[(1, .t (.str w)), (7, .t (.κ 1 (l.map T.str))), (8, .t (.int .i64 (l.length : Int))), (9, .t (.int .i64 i))], []⟩)
  (fun i => l.length - i) 0 ⟨Nat.zero_le _, by simp⟩ ?_ (fun i ⟨hi, hP⟩ => ?_)
 ·exact a8 ⟨rfl, rfl, congrArg (fun n : Nat => AV.t (.int .i64 (n : Int))) eT, rfl, trivial⟩ rfl
 have fin : ∀ i x, l[i]? = some x → x = w → (∀ x ∈ l.take i, ¬ x = w) → fT w l = (i : Int) := fun i x hx e hP => by
  unfold fT
  rcases qp w l 0 with ⟨_, h2⟩ | ⟨j, h1, h2, h3⟩
  ·exact absurd e (h2 x (List.mem_of_getElem? hx))
  ·rw [h1]
   have : i = j := by
    rcases Nat.lt_trichotomy i j with h | h | h
    ·exact absurd e (h3 x (List.mem_of_getElem? (i := i) (by rw [List.getElem?_take, if_pos h]; exact hx)))
    ·exact h
    ·exact absurd rfl (hP w (List.mem_of_getElem? (i := j) (by rw [List.getElem?_take, if_pos h]; exact h2)))
   rw [this]; simp
 refine U (fun c => ?_) (fun c => ?_)
 ·have c : i < l.length := dn c
  obtain ⟨x, hx, cX⟩ := get_some (R := l) (i := i) c
  refine ξ (show (l.map T.str)[((i : Nat) : Int).toNat]? = some (T.str x) from by rw [Int.toNat_natCast, List.getElem?_map, hx]; rfl) ?_
  refine U (fun c2 => ?_) (fun c2 => ?_)
  ·have c2 : x = w := by simpa using c2
   exact And.intro (congrArg (fun n => some (T.int .i64 n)) (fin i x hx c2 hP).symm) rfl
  ·have c2 : ¬ x = w := by simpa using c2
   refine δ (n := ((i + 1 : Nat) : Int)) (ag (n := i + 1) (by omega)) ?_
   conv => whnf
   exact ⟨⟨i + 1, c, eh hx hP c2⟩, π [] rfl ⟨rfl, rfl, rfl, rfl, trivial⟩ trivial, by show l.length - (i + 1) < l.length - i; omega⟩
 ·have c : i = l.length := by have := dE c; omega
  rw [c, List.take_length] at hP
  refine And.intro (congrArg (fun n => some (T.int .i64 n)) (show (-1 : Int) = fT w l from ?_)) rfl
  unfold fT
  rcases qp w l 0 with ⟨h1, _⟩ | ⟨j, _, h2, _⟩
  ·rw [h1]
  ·exact absurd rfl (hP w (List.mem_of_getElem? h2))
theorem Lo (d : τ) (r : List T) (a : List cU) (hl : d.files.length ≤ 100000) : φ Tryz.prog 114 [sz d r (a.map Φ), .int .i64 1] (.ao [.own 9 1 false ((d.files.map (·.name)).map T.str), .t (.int .i64 8)]) := by
 refine φ.fR ?_ rfl
 refine γ.ο ζ η Tryz.func114 rfl rfl ?_
 have hm : (d.files.map dz).length = d.files.length := List.length_map _
 refine ak (fun i : Nat => i ≤ d.files.length) (fun i => ⟨[(6, .sl 0 0 0 i), (29, .t (.κ 4 (d.files.map dz))), (30, .t (.int .i64 (d.files.length : Int))), (31, .t (.int .i64 i))], [.arr 9 1 false 0 (.ts (((d.files.take i).map (·.name)).map T.str))]⟩)
  (fun i => d.files.length - i) 0 (Nat.zero_le _) ?_ (fun i hi => ?_)
 ·exact π [2] rfl ⟨rfl, rfl, congrArg (fun n : Nat => some (AV.t (.int .i64 (n : Int)))) hm, rfl, trivial⟩ ⟨rfl, trivial⟩
 have hi : i ≤ d.files.length := hi
 refine U (fun c => ?_) (fun c => ?_)
 ·have c : i < d.files.length := dn c
  obtain ⟨x, hx, _⟩ := get_some (R := d.files) (i := i) c
  refine ξ (show (d.files.map dz)[((i : Nat) : Int).toNat]? = some (dz x) from by rw [Int.toNat_natCast, List.getElem?_map, hx]; rfl) ?_
  refine Or.inl (And.intro (show i = (((d.files.take i).map (·.name)).map T.str).length by simp; omega) (ε (nF (n := i + 1) (by omega)) ?_))
  refine δ (n := ((i + 1 : Nat) : Int)) (ag (n := i + 1) (by omega)) ?_
  conv => whnf
  exact ⟨⟨i + 1, c⟩, π [0] rfl ⟨rfl, rfl, rfl, rfl, trivial⟩ ⟨congrArg (fun l => some (Ψ.arr 9 1 false 0 (.ts l))) (show (((d.files.take i).map (·.name)).map T.str) ++ [T.str x.name] = (((d.files.take (i + 1)).map (·.name)).map T.str) by rw [List.take_add_one, hx]; simp), trivial⟩, by show d.files.length - (i + 1) < d.files.length - i; omega⟩
 ·have c : i = d.files.length := by have := dE c; omega
  exact And.intro ⟨⟨_, rfl, rfl, by simp; omega, by rw [c, List.take_length]; exact .refl _⟩, ⟨_, _, rfl, .refl _⟩, trivial⟩ rfl
theorem Ln (d : τ) (r : List T) (a : List cU) (hl : d.aa.length ≤ 100000) : φ Tryz.prog 114 [sz d r (a.map Φ), .int .i64 2] (.ao [.own 9 1 false ((d.aa.map (·.name)).map T.str), .t (.int .i64 256)]) := by
 refine φ.fR ?_ rfl
 refine γ.ο ζ η Tryz.func114 rfl rfl ?_
 have hm : (d.aa.map bl).length = d.aa.length := List.length_map _
 refine ak (fun i : Nat => i ≤ d.aa.length) (fun i => ⟨[(6, .sl 0 0 0 i), (46, .t (.κ 3 (d.aa.map bl))), (47, .t (.int .i64 (d.aa.length : Int))), (48, .t (.int .i64 i))], [.arr 9 1 false 0 (.ts (((d.aa.take i).map (·.name)).map T.str))]⟩)
  (fun i => d.aa.length - i) 0 (Nat.zero_le _) ?_ (fun i hi => ?_)
 ·exact π [2] rfl ⟨rfl, rfl, congrArg (fun n : Nat => some (AV.t (.int .i64 (n : Int)))) hm, rfl, trivial⟩ ⟨rfl, trivial⟩
 have hi : i ≤ d.aa.length := hi
 refine U (fun c => ?_) (fun c => ?_)
 ·have c : i < d.aa.length := dn c
  obtain ⟨x, hx, _⟩ := get_some (R := d.aa) (i := i) c
  refine ξ (show (d.aa.map bl)[((i : Nat) : Int).toNat]? = some (bl x) from by rw [Int.toNat_natCast, List.getElem?_map, hx]; rfl) ?_
  refine Or.inl (And.intro (show i = (((d.aa.take i).map (·.name)).map T.str).length by simp; omega) (ε (nF (n := i + 1) (by omega)) ?_))
  refine δ (n := ((i + 1 : Nat) : Int)) (ag (n := i + 1) (by omega)) ?_
  conv => whnf
  exact ⟨⟨i + 1, c⟩, π [0] rfl ⟨rfl, rfl, rfl, rfl, trivial⟩ ⟨congrArg (fun l => some (Ψ.arr 9 1 false 0 (.ts l))) (show (((d.aa.take i).map (·.name)).map T.str) ++ [T.str x.name] = (((d.aa.take (i + 1)).map (·.name)).map T.str) by rw [List.take_add_one, hx]; simp), trivial⟩, by show d.aa.length - (i + 1) < d.aa.length - i; omega⟩
 ·have c : i = d.aa.length := by have := dE c; omega
  exact And.intro ⟨⟨_, rfl, rfl, by simp; omega, by rw [c, List.take_length]; exact .refl _⟩, ⟨_, _, rfl, .refl _⟩, trivial⟩ rfl
theorem Lm (d : τ) (r : List T) (a : List cU) (hl : d.classes.length ≤ 100000) : φ Tryz.prog 114 [sz d r (a.map Φ), .int .i64 4] (.ao [.own 9 1 false ((d.classes.map (·.name)).map T.str), .t (.int .i64 64)]) := by
 refine φ.fR ?_ rfl
 refine γ.ο ζ η Tryz.func114 rfl rfl ?_
 have hm : (d.classes.map aV).length = d.classes.length := List.length_map _
 refine ak (fun i : Nat => i ≤ d.classes.length) (fun i => ⟨[(6, .sl 0 0 0 i), (68, .t (.κ 7 (d.classes.map aV))), (69, .t (.int .i64 (d.classes.length : Int))), (70, .t (.int .i64 i))], [.arr 9 1 false 0 (.ts (((d.classes.take i).map (·.name)).map T.str))]⟩)
  (fun i => d.classes.length - i) 0 (Nat.zero_le _) ?_ (fun i hi => ?_)
 ·exact π [2] rfl ⟨rfl, rfl, congrArg (fun n : Nat => some (AV.t (.int .i64 (n : Int)))) hm, rfl, trivial⟩ ⟨rfl, trivial⟩
 have hi : i ≤ d.classes.length := hi
 refine U (fun c => ?_) (fun c => ?_)
 ·have c : i < d.classes.length := dn c
  obtain ⟨x, hx, _⟩ := get_some (R := d.classes) (i := i) c
  refine ξ (show (d.classes.map aV)[((i : Nat) : Int).toNat]? = some (aV x) from by rw [Int.toNat_natCast, List.getElem?_map, hx]; rfl) ?_
  refine Or.inl (And.intro (show i = (((d.classes.take i).map (·.name)).map T.str).length by simp; omega) (ε (nF (n := i + 1) (by omega)) ?_))
  refine δ (n := ((i + 1 : Nat) : Int)) (ag (n := i + 1) (by omega)) ?_
  conv => whnf
  exact ⟨⟨i + 1, c⟩, π [0] rfl ⟨rfl, rfl, rfl, rfl, trivial⟩ ⟨congrArg (fun l => some (Ψ.arr 9 1 false 0 (.ts l))) (show (((d.classes.take i).map (·.name)).map T.str) ++ [T.str x.name] = (((d.classes.take (i + 1)).map (·.name)).map T.str) by rw [List.take_add_one, hx]; simp), trivial⟩, by show d.classes.length - (i + 1) < d.classes.length - i; omega⟩
 ·have c : i = d.classes.length := by have := dE c; omega
  exact And.intro ⟨⟨_, rfl, rfl, by simp; omega, by rw [c, List.take_length]; exact .refl _⟩, ⟨_, _, rfl, .refl _⟩, trivial⟩ rfl
theorem Ll (d : τ) (r : List T) (a : List cU) (hl : d.forms.length ≤ 100000) : φ Tryz.prog 114 [sz d r (a.map Φ), .int .i64 5] (.ao [.own 9 1 false ((d.forms.map (·.name)).map T.str), .t (.int .i64 512)]) := by
 refine φ.fR ?_ rfl
 refine γ.ο ζ η Tryz.func114 rfl rfl ?_
 have hm : (d.forms.map ab).length = d.forms.length := List.length_map _
 refine ak (fun i : Nat => i ≤ d.forms.length) (fun i => ⟨[(6, .sl 0 0 0 i), (85, .t (.κ 5 (d.forms.map ab))), (86, .t (.int .i64 (d.forms.length : Int))), (87, .t (.int .i64 i))], [.arr 9 1 false 0 (.ts (((d.forms.take i).map (·.name)).map T.str))]⟩)
  (fun i => d.forms.length - i) 0 (Nat.zero_le _) ?_ (fun i hi => ?_)
 ·exact π [2] rfl ⟨rfl, rfl, congrArg (fun n : Nat => some (AV.t (.int .i64 (n : Int)))) hm, rfl, trivial⟩ ⟨rfl, trivial⟩
 have hi : i ≤ d.forms.length := hi
 refine U (fun c => ?_) (fun c => ?_)
 ·have c : i < d.forms.length := dn c
  obtain ⟨x, hx, _⟩ := get_some (R := d.forms) (i := i) c
  refine ξ (show (d.forms.map ab)[((i : Nat) : Int).toNat]? = some (ab x) from by rw [Int.toNat_natCast, List.getElem?_map, hx]; rfl) ?_
  refine Or.inl (And.intro (show i = (((d.forms.take i).map (·.name)).map T.str).length by simp; omega) (ε (nF (n := i + 1) (by omega)) ?_))
  refine δ (n := ((i + 1 : Nat) : Int)) (ag (n := i + 1) (by omega)) ?_
  conv => whnf
  exact ⟨⟨i + 1, c⟩, π [0] rfl ⟨rfl, rfl, rfl, rfl, trivial⟩ ⟨congrArg (fun l => some (Ψ.arr 9 1 false 0 (.ts l))) (show (((d.forms.take i).map (·.name)).map T.str) ++ [T.str x.name] = (((d.forms.take (i + 1)).map (·.name)).map T.str) by rw [List.take_add_one, hx]; simp), trivial⟩, by show d.forms.length - (i + 1) < d.forms.length - i; omega⟩
 ·have c : i = d.forms.length := by have := dE c; omega
  exact And.intro ⟨⟨_, rfl, rfl, by simp; omega, by rw [c, List.take_length]; exact .refl _⟩, ⟨_, _, rfl, .refl _⟩, trivial⟩ rfl
theorem Lk (d : τ) (r : List T) (a : List cU) (hl : d.au.length ≤ 100000) : φ Tryz.prog 114 [sz d r (a.map Φ), .int .i64 6] (.ao [.own 9 1 false ((d.au.map (·.name)).map T.str), .t (.int .i64 128)]) := by
 refine φ.fR ?_ rfl
 refine γ.ο ζ η Tryz.func114 rfl rfl ?_
 have hm : (d.au.map ei).length = d.au.length := List.length_map _
 refine ak (fun i : Nat => i ≤ d.au.length) (fun i => ⟨[(6, .sl 0 0 0 i), (102, .t (.κ 17 (d.au.map ei))), (103, .t (.int .i64 (d.au.length : Int))), (104, .t (.int .i64 i))], [.arr 9 1 false 0 (.ts (((d.au.take i).map (·.name)).map T.str))]⟩)
  (fun i => d.au.length - i) 0 (Nat.zero_le _) ?_ (fun i hi => ?_)
 ·exact π [2] rfl ⟨rfl, rfl, congrArg (fun n : Nat => some (AV.t (.int .i64 (n : Int)))) hm, rfl, trivial⟩ ⟨rfl, trivial⟩
 have hi : i ≤ d.au.length := hi
 refine U (fun c => ?_) (fun c => ?_)
 ·have c : i < d.au.length := dn c
  obtain ⟨x, hx, _⟩ := get_some (R := d.au) (i := i) c
  refine ξ (show (d.au.map ei)[((i : Nat) : Int).toNat]? = some (ei x) from by rw [Int.toNat_natCast, List.getElem?_map, hx]; rfl) ?_
  refine Or.inl (And.intro (show i = (((d.au.take i).map (·.name)).map T.str).length by simp; omega) (ε (nF (n := i + 1) (by omega)) ?_))
  refine δ (n := ((i + 1 : Nat) : Int)) (ag (n := i + 1) (by omega)) ?_
  conv => whnf
  exact ⟨⟨i + 1, c⟩, π [0] rfl ⟨rfl, rfl, rfl, rfl, trivial⟩ ⟨congrArg (fun l => some (Ψ.arr 9 1 false 0 (.ts l))) (show (((d.au.take i).map (·.name)).map T.str) ++ [T.str x.name] = (((d.au.take (i + 1)).map (·.name)).map T.str) by rw [List.take_add_one, hx]; simp), trivial⟩, by show d.au.length - (i + 1) < d.au.length - i; omega⟩
 ·have c : i = d.au.length := by have := dE c; omega
  exact And.intro ⟨⟨_, rfl, rfl, by simp; omega, by rw [c, List.take_length]; exact .refl _⟩, ⟨_, _, rfl, .refl _⟩, trivial⟩ rfl
theorem Lj (d : τ) (r : List T) (a : List cU) (hl : a.length ≤ 100000) : φ Tryz.prog 114 [sz d r (a.map Φ), .int .i64 7] (.ao [.own 9 1 false ((a.map (·.name)).map T.str), .t (.int .i64 6)]) := by
 refine φ.fR ?_ rfl
 refine γ.ο ζ η Tryz.func114 rfl rfl ?_
 have hm : (a.map Φ).length = a.length := List.length_map _
 refine ak (fun i : Nat => i ≤ a.length) (fun i => ⟨[(6, .sl 0 0 0 i), (118, .t (.κ 2 (a.map Φ))), (119, .t (.int .i64 (a.length : Int))), (120, .t (.int .i64 i))], [.arr 9 1 false 0 (.ts (((a.take i).map (·.name)).map T.str))]⟩)
  (fun i => a.length - i) 0 (Nat.zero_le _) ?_ (fun i hi => ?_)
 ·exact π [2] rfl ⟨rfl, rfl, congrArg (fun n : Nat => some (AV.t (.int .i64 (n : Int)))) hm, rfl, trivial⟩ ⟨rfl, trivial⟩
 have hi : i ≤ a.length := hi
 refine U (fun c => ?_) (fun c => ?_)
 ·have c : i < a.length := dn c
  obtain ⟨x, hx, _⟩ := get_some (R := a) (i := i) c
  refine ξ (show (a.map Φ)[((i : Nat) : Int).toNat]? = some (Φ x) from by rw [Int.toNat_natCast, List.getElem?_map, hx]; rfl) ?_
  refine Or.inl (And.intro (show i = (((a.take i).map (·.name)).map T.str).length by simp; omega) (ε (nF (n := i + 1) (by omega)) ?_))
  refine δ (n := ((i + 1 : Nat) : Int)) (ag (n := i + 1) (by omega)) ?_
  conv => whnf
  exact ⟨⟨i + 1, c⟩, π [0] rfl ⟨rfl, rfl, rfl, rfl, trivial⟩ ⟨congrArg (fun l => some (Ψ.arr 9 1 false 0 (.ts l))) (show (((a.take i).map (·.name)).map T.str) ++ [T.str x.name] = (((a.take (i + 1)).map (·.name)).map T.str) by rw [List.take_add_one, hx]; simp), trivial⟩, by show a.length - (i + 1) < a.length - i; omega⟩
 ·have c : i = a.length := by have := dE c; omega
  exact And.intro ⟨⟨_, rfl, rfl, by simp; omega, by rw [c, List.take_length]; exact .refl _⟩, ⟨_, _, rfl, .refl _⟩, trivial⟩ rfl
theorem Li (d : τ) (r : List T) (a : List cU) (hl : d.aR.length ≤ 100000) : φ Tryz.prog 114 [sz d r (a.map Φ), .int .i64 8] (.ao [.own 9 1 false ((d.aR.map (·.name)).map T.str), .t (.int .i64 64)]) := by
 refine φ.fR ?_ rfl
 refine γ.ο ζ η Tryz.func114 rfl rfl ?_
 have hm : (d.aR.map fk).length = d.aR.length := List.length_map _
 refine ak (fun i : Nat => i ≤ d.aR.length) (fun i => ⟨[(6, .sl 0 0 0 i), (135, .t (.κ 2 (d.aR.map fk))), (136, .t (.int .i64 (d.aR.length : Int))), (137, .t (.int .i64 i))], [.arr 9 1 false 0 (.ts (((d.aR.take i).map (·.name)).map T.str))]⟩)
  (fun i => d.aR.length - i) 0 (Nat.zero_le _) ?_ (fun i hi => ?_)
 ·exact π [2] rfl ⟨rfl, rfl, congrArg (fun n : Nat => some (AV.t (.int .i64 (n : Int)))) hm, rfl, trivial⟩ ⟨rfl, trivial⟩
 have hi : i ≤ d.aR.length := hi
 refine U (fun c => ?_) (fun c => ?_)
 ·have c : i < d.aR.length := dn c
  obtain ⟨x, hx, _⟩ := get_some (R := d.aR) (i := i) c
  refine ξ (show (d.aR.map fk)[((i : Nat) : Int).toNat]? = some (fk x) from by rw [Int.toNat_natCast, List.getElem?_map, hx]; rfl) ?_
  refine Or.inl (And.intro (show i = (((d.aR.take i).map (·.name)).map T.str).length by simp; omega) (ε (nF (n := i + 1) (by omega)) ?_))
  refine δ (n := ((i + 1 : Nat) : Int)) (ag (n := i + 1) (by omega)) ?_
  conv => whnf
  exact ⟨⟨i + 1, c⟩, π [0] rfl ⟨rfl, rfl, rfl, rfl, trivial⟩ ⟨congrArg (fun l => some (Ψ.arr 9 1 false 0 (.ts l))) (show (((d.aR.take i).map (·.name)).map T.str) ++ [T.str x.name] = (((d.aR.take (i + 1)).map (·.name)).map T.str) by rw [List.take_add_one, hx]; simp), trivial⟩, by show d.aR.length - (i + 1) < d.aR.length - i; omega⟩
 ·have c : i = d.aR.length := by have := dE c; omega
  exact And.intro ⟨⟨_, rfl, rfl, by simp; omega, by rw [c, List.take_length]; exact .refl _⟩, ⟨_, _, rfl, .refl _⟩, trivial⟩ rfl
theorem Lh (d : τ) (r : List T) (a : List cU) (hl : d.aN.length ≤ 100000) : φ Tryz.prog 114 [sz d r (a.map Φ), .int .i64 9] (.ao [.own 9 1 false ((d.aN.map (·.name)).map T.str), .t (.int .i64 64)]) := by
 refine φ.fR ?_ rfl
 refine γ.ο ζ η Tryz.func114 rfl rfl ?_
 have hm : (d.aN.map bl).length = d.aN.length := List.length_map _
 refine ak (fun i : Nat => i ≤ d.aN.length) (fun i => ⟨[(6, .sl 0 0 0 i), (150, .t (.κ 3 (d.aN.map bl))), (151, .t (.int .i64 (d.aN.length : Int))), (152, .t (.int .i64 i))], [.arr 9 1 false 0 (.ts (((d.aN.take i).map (·.name)).map T.str))]⟩)
  (fun i => d.aN.length - i) 0 (Nat.zero_le _) ?_ (fun i hi => ?_)
 ·exact π [2] rfl ⟨rfl, rfl, congrArg (fun n : Nat => some (AV.t (.int .i64 (n : Int)))) hm, rfl, trivial⟩ ⟨rfl, trivial⟩
 have hi : i ≤ d.aN.length := hi
 refine U (fun c => ?_) (fun c => ?_)
 ·have c : i < d.aN.length := dn c
  obtain ⟨x, hx, _⟩ := get_some (R := d.aN) (i := i) c
  refine ξ (show (d.aN.map bl)[((i : Nat) : Int).toNat]? = some (bl x) from by rw [Int.toNat_natCast, List.getElem?_map, hx]; rfl) ?_
  refine Or.inl (And.intro (show i = (((d.aN.take i).map (·.name)).map T.str).length by simp; omega) (ε (nF (n := i + 1) (by omega)) ?_))
  refine δ (n := ((i + 1 : Nat) : Int)) (ag (n := i + 1) (by omega)) ?_
  conv => whnf
  exact ⟨⟨i + 1, c⟩, π [0] rfl ⟨rfl, rfl, rfl, rfl, trivial⟩ ⟨congrArg (fun l => some (Ψ.arr 9 1 false 0 (.ts l))) (show (((d.aN.take i).map (·.name)).map T.str) ++ [T.str x.name] = (((d.aN.take (i + 1)).map (·.name)).map T.str) by rw [List.take_add_one, hx]; simp), trivial⟩, by show d.aN.length - (i + 1) < d.aN.length - i; omega⟩
 ·have c : i = d.aN.length := by have := dE c; omega
  exact And.intro ⟨⟨_, rfl, rfl, by simp; omega, by rw [c, List.take_length]; exact .refl _⟩, ⟨_, _, rfl, .refl _⟩, trivial⟩ rfl
end Go.Proofs.YtcogcbplmkcojaaGreatDoor
namespace Go.Proofs.YtcogcbplmkcojaaGreatDoor
open Go.IntWalk
set_option maxRecDepth 100000
set_option linter.unusedVariables false
set_option linter.unusedSimpArgs false
set_option maxHeartbeats 2000000
def FC : Ord := (.op 0 [] (.op 1 [0] (.op 2 [0] (.op 3 [0] (.op 5 [3, 2, 1, 0] (.op 6 [3, 2, 1, 0] (.op 4 [6, 5] (.op 7 [6, 5] (.op 8 [] .nil)))))))))
def ye : Ord := (.op 0 [] (.op 1 [0] (.op 2 [1, 0] (.op 3 [0] (.op 4 [0] (.op 5 [] (.op 6 [] .nil)))))))
theorem iO {s s' : PS} {w : List UInt8} (h : bt s = some (s', w)) : ∃ r, s.rest = .word w :: r ∧ s' = ⟨s.d, r, s.args⟩ := by
 unfold bt at h
 split at h
 ·simp only [Option.some.injEq, Prod.mk.injEq] at h
  obtain ⟨rfl, rfl⟩ := h
  exact ⟨_, by assumption, rfl⟩
 ·cases h
theorem lu {s s' : PS} {w : List UInt8} (h : pG s = some (s', w)) : ∃ r, s.rest = .text w :: r ∧ s' = ⟨s.d, r, s.args⟩ := by
 unfold pG at h
 split at h
 ·simp only [Option.some.injEq, Prod.mk.injEq] at h
  obtain ⟨rfl, rfl⟩ := h
  exact ⟨_, by assumption, rfl⟩
 ·cases h
theorem iH {s s' : PS} {n : Int} (h : kS s = some (s', n)) : ∃ r, s.rest = .num n :: r ∧ s' = ⟨s.d, r, s.args⟩ := by
 unfold kS at h
 split at h
 ·simp only [Option.some.injEq, Prod.mk.injEq] at h
  obtain ⟨rfl, rfl⟩ := h
  exact ⟨_, by assumption, rfl⟩
 ·cases h
theorem pQ {s s' : PS} {n : Int} (h : cd s = some (s', n)) : ∃ r, s.rest = .num n :: r ∧ s' = ⟨s.d, r, s.args⟩ ∧ 0 ≤ n ∧ n ≤ 1000000000000000000 := by
 unfold cd at h
 split at h
 ·rename_i m r hr
  cases hb : Nat.ble m 1000000000000000000 with
  | false => rw [hb] at h; cases h
  | true =>
   rw [hb] at h
   simp only [Option.some.injEq, Prod.mk.injEq] at h
   obtain ⟨rfl, rfl⟩ := h
   have hb := Nat.le_of_ble_eq_true hb
   exact ⟨_, hr, rfl, Int.natCast_nonneg _, by show (m : Int) ≤ 1000000000000000000; omega⟩
 ·cases h
theorem aH {s s' : PS} {r : List ay} (h : cW s = some (s', r)) : ∃ l, s.rest = .list l :: r ∧ s' = ⟨s.d, l, s.args⟩ := by
 unfold cW at h
 split at h
 ·simp only [Option.some.injEq, Prod.mk.injEq] at h
  obtain ⟨rfl, rfl⟩ := h
  exact ⟨_, by assumption, rfl⟩
 ·cases h
theorem A8 {s : PS} (h : aJ s = true) : s.rest = [] := by
 unfold aJ at h
 split at h
 ·assumption
 ·cases h
theorem bo {s s' : PS} {w : List UInt8} (h : bt s = some (s', w)) : γ Tryz.prog 49 [dO s] (dH s.d) (fun v H => v = .ao [dO s', .t (.str w)] ∧ H = dH s.d) := by
 obtain ⟨r, hr, rfl⟩ := iO h
 obtain ⟨d, rest, a⟩ := s
 obtain rfl : rest = _ := hr
 refine bx ?_
 refine γ.ο ζ η Tryz.func49 rfl rfl ?_
 refine θ (dj d 1 w 0 [] (ω r) (a.map Φ) (.inr rfl)) (by rfl) (by rfl) ?_
 refine ax (dB 12 [1, 2]) FD (by decide +kernel) ?_
 refine And.intro (fun j hj => by simp only [List.mem_cons, List.not_mem_nil, or_false] at hj; rcases hj with rfl | rfl <;> exact ψ.set (b := 12) _ (List.mem_singleton.2 rfl)) ?_
 refine And.intro (fun j hj => by cases hj) ?_
 refine Ω ?_ ?_
 ·exact ⟨rfl, trivial⟩
 ·exact ⟨rfl, rfl, rfl, rfl, rfl, rfl, rfl, rfl, rfl, rfl, rfl, trivial⟩
theorem bV {s s' : PS} {r : List ay} (h : cW s = some (s', r)) : γ Tryz.prog 48 [dO s] (dH s.d) (fun v H => v = .ao [dO s', .t (.κ 4 (ω r))] ∧ H = dH s.d) := by
 obtain ⟨l, hr, rfl⟩ := aH h
 obtain ⟨d, rest, a⟩ := s
 obtain rfl : rest = _ := hr
 refine bx ?_
 refine γ.ο ζ η Tryz.func48 rfl rfl ?_
 refine θ (dj d 4 [] 0 (ω l) (ω r) (a.map Φ) (.inr rfl)) (by rfl) (by rfl) ?_
 refine Ω ?_ ?_
 ·exact ⟨rfl, trivial⟩
 ·exact ⟨rfl, rfl, rfl, rfl, rfl, rfl, rfl, rfl, rfl, rfl, rfl, trivial⟩
theorem cS {s s' : PS} {n : Int} (h : cd s = some (s', n)) : γ Tryz.prog 54 [dO s] (dH s.d) (fun v H => v = .ao [dO s', .t (.int .i64 n)] ∧ H = dH s.d) := by
 obtain ⟨r, hr, rfl, hn, _⟩ := pQ h
 obtain ⟨d, rest, a⟩ := s
 obtain rfl : rest = _ := hr
 refine bx ?_
 refine γ.ο ζ η Tryz.func54 rfl rfl ?_
 refine θ (dj d 2 [] n [] (ω r) (a.map Φ) (.inr rfl)) (by rfl) (by rfl) ?_
 refine ax (dB 12 [5, 6]) FC (by decide +kernel) ?_
 refine θ (Δ d _ _ ?hb 41) (by rfl) (by rfl) ?_
 case hb => simp; omega
 refine And.intro (fun j hj => ψ.refl _ _) ?_
 refine And.intro (fun j hj => by simp only [List.mem_cons, List.not_mem_nil, or_false] at hj; rcases hj with rfl | rfl <;> exact ψ.set (b := 12) _ (List.mem_singleton.2 rfl)) ?_
 refine And.intro (fun j hj => by cases hj) ?_
 refine Ω ?_ ?_
 ·exact ⟨rfl, trivial⟩
 ·exact ⟨rfl, rfl, rfl, rfl, rfl, rfl, rfl, rfl, rfl, rfl, rfl, trivial⟩
theorem cJ {s : PS} (h : aJ s = true) : γ Tryz.prog 61 [dO s] (dH s.d) (fun v H => v = dO s ∧ H = dH s.d) := by
 have hr := A8 h
 obtain ⟨d, rest, a⟩ := s
 obtain rfl : rest = _ := hr
 refine bx ?_
 refine γ.ο ζ η Tryz.func61 rfl rfl ?_
 refine θ (Δ d _ _ ?hb 41) (by rfl) (by rfl) ?_
 case hb => simp [ω]
 refine Ω ?_ ?_
 ·exact ⟨rfl, trivial⟩
 ·exact ⟨rfl, rfl, rfl, rfl, rfl, rfl, rfl, rfl, rfl, rfl, rfl, trivial⟩
theorem wG (w : List UInt8) : ∀ v : List UInt8, jA v (w.map (·.toNat)) = (v == w) := by
 induction w with
 | nil => intro v; cases v <;> rfl
 | cons c w ih =>
  intro v
  cases v with
  | nil => rfl
  | cons x v =>
   simp only [List.map_cons, jA]
   by_cases h : x.toNat = c.toNat
   ·have h2 : x = c := UInt8.toNat.inj h
    subst h2
    rw [Nat.beq_refl]
    simp [ih v]
   ·have : Nat.beq x.toNat c.toNat = false := by
     cases hb : Nat.beq x.toNat c.toNat
     ·rfl
     ·exact absurd (Nat.eq_of_beq_eq_true hb) h
    rw [this]
    have h2 : ¬ x = c := fun e => h (by rw [e])
    simp [h2]
theorem eI {n : Nat} : decide (((n + 1 : Nat) : Int) > 0) = true := decide_eq_true (by omega)
theorem j4 (s : PS) (w : List UInt8) (wn : List Nat) (hw : w.map (·.toNat) = wn) : γ Tryz.prog 113 [dO s, .t (.str w)] (dH s.d) (fun v H => v = .t (.bool (dR s wn)) ∧ H = dH s.d) := by
 obtain ⟨d, rest, a⟩ := s
 subst hw
 refine bx ?_
 refine γ.ο ζ η Tryz.func113 rfl rfl ?_
 cases rest with
 | nil =>
  refine Ω ?_ ?_
  ·exact ⟨rfl, trivial⟩
  ·exact ⟨rfl, rfl, rfl, rfl, rfl, rfl, rfl, rfl, rfl, rfl, rfl, trivial⟩
 | cons t r =>
  refine U (fun c => ?_) (fun c => absurd (eI.symm.trans c) (by decide))
  cases t with
  | word v =>
   refine Ω ?_ ?_
   ·exact ⟨congrArg (fun b => some (AV.t (T.bool b))) (show (v == w) = jA v (w.map (·.toNat)) from (wG w v).symm), trivial⟩
   ·exact ⟨rfl, rfl, rfl, rfl, rfl, rfl, rfl, rfl, rfl, rfl, rfl, trivial⟩
  | num n =>
   refine Ω ?_ ?_
   ·exact ⟨rfl, trivial⟩
   ·exact ⟨rfl, rfl, rfl, rfl, rfl, rfl, rfl, rfl, rfl, rfl, rfl, trivial⟩
  | text v =>
   refine Ω ?_ ?_
   ·exact ⟨rfl, trivial⟩
   ·exact ⟨rfl, rfl, rfl, rfl, rfl, rfl, rfl, rfl, rfl, rfl, rfl, trivial⟩
  | list l =>
   refine Ω ?_ ?_
   ·exact ⟨rfl, trivial⟩
   ·exact ⟨rfl, rfl, rfl, rfl, rfl, rfl, rfl, rfl, rfl, rfl, rfl, trivial⟩
theorem uR {α β : Type} (f : α → β) (l : List α) : ((l.map f).drop 0).take l.length = l.map f := by rw [List.drop_zero, List.take_of_length_le (by simp)]
theorem ER (d : τ) (r a : List T) : T.agg [.str d.name, .int .i64 d.order, .κ 4 (((d.files.map dz).drop 0).take d.files.length), .κ 3 (((d.aa.map bl).drop 0).take d.aa.length), .κ 1 (((d.flags.map T.str).drop 0).take d.flags.length), .κ 7 (((d.classes.map aV).drop 0).take d.classes.length), .κ 5 (((d.forms.map ab).drop 0).take d.forms.length), .κ 17 (((d.au.map ei).drop 0).take d.au.length), .κ 4 (((d.uses.map fE).drop 0).take d.uses.length), .κ 3 (((d.ar.map cG).drop 0).take d.ar.length), .κ 3 (((d.macros.map db).drop 0).take d.macros.length), .κ 2 (((d.aR.map fk).drop 0).take d.aR.length), .κ 3 (((d.aN.map bl).drop 0).take d.aN.length), .κ 4 r, .κ 2 a, .int .i64 0] = sz d r a := by
 unfold sz
 simp only [uR]
theorem iQ (k : Nat) (l : List T) : bu (.vec k ((l.drop 0).take l.length)) (.κ k l) := by
 rw [List.drop_zero, List.take_length]; exact .vec k l
theorem wE (N : List (List UInt8)) (m : Int) : Flat (.ao [.own 9 1 false (N.map T.str), .t (.int .i64 m)]) :=
 ⟨fun x hx => (by obtain ⟨s, _, rfl⟩ := List.mem_map.1 hx; rfl), rfl, trivial⟩
def cE (s : PS) : Prop := s.d.files.length ≤ 100000 ∧ s.d.aa.length ≤ 100000 ∧ s.d.flags.length ≤ 100000 ∧ s.d.classes.length ≤ 100000 ∧ s.d.forms.length ≤ 100000 ∧ s.d.au.length ≤ 100000 ∧ s.d.aR.length ≤ 100000 ∧ s.d.aN.length ≤ 100000 ∧ s.args.length ≤ 100000
theorem Ac (s : PS) (hs : cE s) (k : Nat) (hk : 1 ≤ k ∧ k ≤ 9 ∧ k ≠ 3) : φ Tryz.prog 114 [sz s.d (ω s.rest) (s.args.map Φ), .int .i64 k] (.ao [.own 9 1 false ((bE s k).map T.str), .t (.int .i64 (dS k))]) ∧ (bE s k).length ≤ 100000 := by
 obtain ⟨h1, h2, h3, h4, h5, h6, h8, h9, h7⟩ := hs
 have : k = 1 ∨ k = 2 ∨ k = 4 ∨ k = 5 ∨ k = 6 ∨ k = 7 ∨ k = 8 ∨ k = 9 := by omega
 rcases this with rfl | rfl | rfl | rfl | rfl | rfl | rfl | rfl
 ·exact ⟨Lo s.d _ s.args h1, by simp only [bE, List.length_map]; exact h1⟩
 ·exact ⟨Ln s.d _ s.args h2, by simp only [bE, List.length_map]; exact h2⟩
 ·exact ⟨Lm s.d _ s.args h4, by simp only [bE, List.length_map]; exact h4⟩
 ·exact ⟨Ll s.d _ s.args h5, by simp only [bE, List.length_map]; exact h5⟩
 ·exact ⟨Lk s.d _ s.args h6, by simp only [bE, List.length_map]; exact h6⟩
 ·exact ⟨Lj s.d _ s.args h7, by simp only [bE, List.length_map]; exact h7⟩
 ·exact ⟨Li s.d _ s.args h8, by simp only [bE, List.length_map]; exact h8⟩
 ·exact ⟨Lh s.d _ s.args h9, by simp only [bE, List.length_map]; exact h9⟩
theorem rJ (s : PS) (hs : cE s) {k : Nat} (hk : 1 ≤ k ∧ k ≤ 9 ∧ k ≠ 3) {w : List UInt8} {i : Nat} (hi : lC s k w = some i) : γ Tryz.prog 115 [dO s, .t (.int .i64 k), .t (.str w)] (dH s.d) (fun v H => v = .ao [dO s, .t (.int .i64 i)] ∧ H = dH s.d) := by
 obtain ⟨hN, hl⟩ := Ac s hs k hk
 obtain ⟨N, AU⟩ : ∃ N, N = bE s k := ⟨_, rfl⟩
 have he : fT w N = (i : Int) := by unfold fT; rw [AU, show iq w 0 (bE s k) = some i from hi]
 have hX := cx N w (by rw [AU]; omega)
 rw [← AU] at hN hl
 rw [he] at hX
 obtain ⟨mz, hm⟩ : ∃ m : Int, m = dS k := ⟨_, rfl⟩
 rw [← hm] at hN
 obtain ⟨d, rest, a⟩ := s
 refine bx ?_
 refine γ.ο ζ η Tryz.func115 rfl rfl ?_
 refine γ.bU hN rfl ⟨.of_eq (ER _ _ _), .refl _, trivial⟩ (wE _ _) ?_
 refine γ.bU hX rfl ⟨iQ 1 _, .refl _, trivial⟩ rfl ?_
 refine θ (Δ d _ _ ?hb 42) (by rfl) (by rfl) ?_
 case hb => simp
 refine Ω ?_ ?_
 ·exact ⟨rfl, trivial⟩
 ·exact ⟨rfl, rfl, rfl, rfl, rfl, rfl, rfl, rfl, rfl, rfl, rfl, trivial⟩
theorem m6 {s s' : PS} {k i : Nat} (h : bK s k = some (s', i)) : ∃ w, bt s = some (s', w) ∧ lC s' k w = some i := by
 unfold bK at h
 split at h
 ·split at h
  ·rename_i e1 _ _ e2
   cases h
   exact ⟨_, e1, e2⟩
  ·cases h
 ·cases h
theorem aQ {s s' : PS} {w : List UInt8} (h : bt s = some (s', w)) : s'.d = s.d ∧ s'.args = s.args := by
 obtain ⟨r, _, rfl⟩ := iO h; exact ⟨rfl, rfl⟩
theorem cE.same {s s' : PS} (h : cE s) (e : s'.d = s.d ∧ s'.args = s.args) : cE s' := by unfold cE; rw [e.1, e.2]; exact h
theorem yj (s : PS) : γ Tryz.prog 114 [dO s, .t (.int .i64 3)] (dH s.d) (fun v H => v = .ao [.sl 2 0 0 s.d.flags.length, .t (.int .i64 16)] ∧ H = dH s.d) := by
 obtain ⟨d, rest, a⟩ := s
 refine bx ?_
 refine γ.ο ζ η Tryz.func114 rfl rfl ?_
 refine Ω ?_ ?_
 ·exact ⟨rfl, trivial⟩
 ·exact ⟨rfl, rfl, rfl, rfl, rfl, rfl, rfl, rfl, rfl, rfl, rfl, trivial⟩
theorem xR (k : Nat) (f : List UInt8 → T) (l : List (List UInt8)) : bu (.κ k (((l.map f).drop 0).take l.length)) (.κ k (l.map f)) := by
 rw [uR]; exact .refl _
theorem FH (s : PS) (hs : cE s) {w : List UInt8} {i : Nat} (hi : lC s 3 w = some i) : γ Tryz.prog 115 [dO s, .t (.int .i64 3), .t (.str w)] (dH s.d) (fun v H => v = .ao [dO s, .t (.int .i64 i)] ∧ H = dH s.d) := by
 have he : fT w s.d.flags = (i : Int) := by unfold fT; rw [show iq w 0 s.d.flags = some i from hi]
 have hX := cx s.d.flags w (by have := hs.2.2.1; omega)
 rw [he] at hX
 have hN := yj s
 obtain ⟨d, rest, a⟩ := s
 refine bx ?_
 refine γ.ο ζ η Tryz.func115 rfl rfl ?_
 refine θ hN (by rfl) (by rfl) ?_
 refine γ.bU hX rfl ⟨xR 1 T.str _, .refl _, trivial⟩ rfl ?_
 refine θ (Δ d _ _ ?hb 42) (by rfl) (by rfl) ?_
 case hb => simp
 refine Ω ?_ ?_
 ·exact ⟨rfl, trivial⟩
 ·exact ⟨rfl, rfl, rfl, rfl, rfl, rfl, rfl, rfl, rfl, rfl, rfl, trivial⟩
theorem sS (s : PS) (hs : cE s) {k : Nat} (hk : 1 ≤ k ∧ k ≤ 9) {w : List UInt8} {i : Nat} (hi : lC s k w = some i) : γ Tryz.prog 115 [dO s, .t (.int .i64 k), .t (.str w)] (dH s.d) (fun v H => v = .ao [dO s, .t (.int .i64 i)] ∧ H = dH s.d) := by
 by_cases h3 : k = 3
 ·subst h3; exact FH s hs hi
 ·exact rJ s hs ⟨hk.1, hk.2, h3⟩ hi
theorem dX {s s' : PS} (hs : cE s) {k : Nat} (hk : 1 ≤ k ∧ k ≤ 9) {i : Nat} (h : bK s k = some (s', i)) : γ Tryz.prog 53 [dO s, .t (.int .i64 k)] (dH s.d) (fun v H => v = .ao [dO s', .t (.int .i64 i)] ∧ H = dH s.d) := by
 obtain ⟨w, hw, hi⟩ := m6 h
 have hW := bo hw
 have hN := sS s' (hs.same (aQ hw)) hk hi
 rw [(aQ hw).1] at hN
 obtain ⟨r, hr, rfl⟩ := iO hw
 obtain ⟨d, rest, a⟩ := s
 refine bx ?_
 refine γ.ο ζ η Tryz.func53 rfl rfl ?_
 refine θ hW (by rfl) (by rfl) ?_
 refine θ hN (by rfl) (by rfl) ?_
 refine Ω ?_ ?_
 ·exact ⟨rfl, trivial⟩
 ·exact ⟨rfl, rfl, rfl, rfl, rfl, rfl, rfl, rfl, rfl, rfl, rfl, trivial⟩
theorem cP {s s' : PS} {k : Nat} {w : List UInt8} (h : dm s k = some (s', w)) : bt s = some (s', w) ∧ iq w 0 (bE s' k) = none ∧ (bE s' k).length < dS k := by
 unfold dm at h
 split at h
 ·rename_i e1
  split at h
  ·cases h
  ·rename_i e2
   split at h
   ·rename_i e3
    cases h
    exact ⟨e1, e2, by rwa [Nat.blt_eq] at e3⟩
   ·cases h
 ·cases h
theorem fw {s s' : PS} (hs : cE s) {k : Nat} (hk : 1 ≤ k ∧ k ≤ 9) {w : List UInt8} (h : dm s k = some (s', w)) : γ Tryz.prog 52 [dO s, .t (.int .i64 k)] (dH s.d) (fun v H => v = .ao [dO s', .t (.str w)] ∧ H = dH s.d) := by
 obtain ⟨hw, hi, χ⟩ := cP h
 have hW := bo hw
 have aF := hs.same (aQ hw)
 by_cases h3 : k = 3
 ·subst h3
  have he : fT w s'.d.flags = -1 := by unfold fT; rw [show iq w 0 s'.d.flags = none from hi]
  have hX := cx s'.d.flags w (by have := aF.2.2.1; omega)
  rw [he] at hX
  have hN := yj s'
  have χ : s'.d.flags.length < 16 := χ
  obtain ⟨r, hr, rfl⟩ := iO hw
  obtain ⟨d, rest, a⟩ := s
  refine bx ?_
  refine γ.ο ζ η Tryz.func52 rfl rfl ?_
  refine θ hW (by rfl) (by rfl) ?_
  refine θ hN (by rfl) (by rfl) ?_
  refine υ ye (by decide +kernel) ?_
  refine γ.bU hX rfl ⟨xR 1 T.str _, .refl _, trivial⟩ rfl ?_
  refine And.intro (fun j hj => ψ.refl _ _) ?_
  refine θ (Δ d _ _ ?hb 42) (by rfl) (by rfl) ?_
  case hb => rfl
  refine And.intro (fun j hj => by cases hj) ?_
  refine And.intro (fun j hj => by cases hj) ?_
  refine θ (Δ d _ _ ?hb 43) (by rfl) (by rfl) ?_
  case hb => exact decide_eq_false (by have : d.flags.length < 16 := χ; omega)
  refine Ω ?_ ?_
  ·exact ⟨rfl, trivial⟩
  ·exact ⟨rfl, rfl, rfl, rfl, rfl, rfl, rfl, rfl, rfl, rfl, rfl, trivial⟩
 ·obtain ⟨hN, hl⟩ := Ac s' aF k ⟨hk.1, hk.2, h3⟩
  obtain ⟨N, AU⟩ : ∃ N, N = bE s' k := ⟨_, rfl⟩
  have he : fT w N = -1 := by unfold fT; rw [AU, hi]
  have hX := cx N w (by rw [AU]; omega)
  rw [← AU] at hN hl χ
  rw [he] at hX
  obtain ⟨mz, hm⟩ : ∃ m : Int, m = dS k := ⟨_, rfl⟩
  rw [← hm] at hN
  obtain ⟨r, hr, rfl⟩ := iO hw
  obtain ⟨d, rest, a⟩ := s
  refine bx ?_
  refine γ.ο ζ η Tryz.func52 rfl rfl ?_
  refine θ hW (by rfl) (by rfl) ?_
  refine γ.bU hN rfl ⟨.of_eq (ER _ _ _), .refl _, trivial⟩ (wE _ _) ?_
  refine υ ye (by decide +kernel) ?_
  refine γ.bU hX rfl ⟨iQ 1 _, .refl _, trivial⟩ rfl ?_
  refine And.intro (fun j hj => ψ.refl _ _) ?_
  refine θ (Δ d _ _ ?hb 42) (by rfl) (by rfl) ?_
  case hb => rfl
  refine And.intro (fun j hj => by cases hj) ?_
  refine And.intro (fun j hj => by cases hj) ?_
  refine θ (Δ d _ _ ?hb 43) (by rfl) (by rfl) ?_
  case hb => exact decide_eq_false (by have : (N.map T.str).length = N.length := List.length_map _; omega)
  refine Ω ?_ ?_
  ·exact ⟨rfl, trivial⟩
  ·exact ⟨rfl, rfl, rfl, rfl, rfl, rfl, rfl, rfl, rfl, rfl, rfl, trivial⟩
end Go.Proofs.YtcogcbplmkcojaaGreatDoor
namespace Go.Proofs.YtcogcbplmkcojaaGreatDoor
open Go.IntWalk
set_option maxRecDepth 100000
set_option linter.unusedVariables false
set_option linter.unusedSimpArgs false
set_option maxHeartbeats 4000000
def pO : Ord := (.op 0 [] (.op 2 [0] (.op 1 [2] (.op 3 [2] (.op 4 [] .nil)))))
def vN : Ord := (.op 0 [] (.op 1 [0] (.op 2 [1] (.op 3 [] .nil))))
theorem nl {k0 : Nat} {r X : AV} {H : AH} (hX : et [] H H r X) : aX k0 ⟨[(0, r)], H⟩ ⟨[(0, X)], H⟩ := by
 refine kN [] rfl (fun b az hb => .inr ⟨by simp, az, hb, .same _⟩) (fun t => ?_)
 rw [e9, e9]
 by_cases ht : 0 = t
 ·rw [if_pos ht, if_pos ht]; exact .inr hX
 ·rw [if_neg ht, if_neg ht]; exact .inl rfl
theorem jF {k0 : Nat} {r X : AV} {H : AH} (b : Nat) (hX : et [b] H (H.set b .dead) r X) : aX k0 ⟨[(0, r)], H⟩ ⟨[(0, X)], H.set b .dead⟩ := by
 refine kN [b] (by simp) (fun b' az hb => ?_) (fun t => ?_)
 ·have hb : (H.set b .dead)[b']? = some az := hb
  rw [List.getElem?_set] at hb
  split at hb
  ·split at hb
   ·exact .inl (Option.some.inj hb).symm
   ·cases hb
  ·next h => exact .inr ⟨by simp; exact fun e => h e.symm, az, hb, .same _⟩
 ·rw [e9, e9]
  by_cases ht : 0 = t
  ·rw [if_pos ht, if_pos ht]; exact .inr hX
  ·rw [if_neg ht, if_neg ht]; exact .inl rfl
theorem gC {ids : List Nat} {H H' : AH} {a b b' : AV} (h : et ids H H' b b') : et ids H H' (.ao [a, b]) (.ao [a, b']) :=
 .ao _ _ rfl fun i x x' hx aP => by
  match i with
  | 0 => cases hx; cases aP; exact .same _
  | 1 => cases hx; cases aP; exact h
  | i + 2 => cases hx
theorem kF {ids : List Nat} {H H' : AH} {a b c d y y' : AV} (h : et ids H H' y y') : et ids H H' (.agg [a, b, c, d, y]) (.agg [a, b, c, d, y']) :=
 .agg _ _ rfl fun i x x' hx aP => by
  match i with
  | 0 => cases hx; cases aP; exact .same _
  | 1 => cases hx; cases aP; exact .same _
  | 2 => cases hx; cases aP; exact .same _
  | 3 => cases hx; cases aP; exact .same _
  | 4 => cases hx; cases aP; exact h
  | i + 5 => cases hx
def xS (op w a b : Int) (ks : List T) : List AV := [.t (.int .i64 op), .t (.int .i64 w), .t (.int .i64 a), .t (.int .i64 b), .t (.κ 5 ks)]
def zD (op w a b : Int) : List AV := [.t (.int .i64 op), .t (.int .i64 w), .t (.int .i64 a), .t (.int .i64 b), .t .av]
def bz (f : FuncId) (s s' : PS) (op w a b : Int) (ks : List T) : Prop := γ Tryz.prog f [dO s] (dH s.d) (fun v H => v = .ao [dO s', .agg (xS op w a b ks)] ∧ H = dH s.d)
def Ξ (s s' : PS) : Prop := s'.d = s.d ∧ s'.args = s.args
theorem Ξ.trans {s t u : PS} (h : Ξ s t) (k : Ξ t u) : Ξ s u := ⟨k.1.trans h.1, k.2.trans h.2⟩
theorem Mz (s : PS)  (op w a b : Int)  (he : aJ s = true) :
 γ Tryz.prog 163 [dO s, .agg (zD op w a b), .t (.int .i64 0)] (dH s.d) (fun v H => v = .ao [dO s, .agg (xS op w a b [])] ∧ H = dH s.d) := by
 have hE := cJ he
 obtain ⟨d, r0, g0⟩ := s
 refine bx ?_
 refine γ.ο ζ η Tryz.func163 rfl rfl ?_
 refine bd 1 ?_
 refine ax (dB 13 [2]) pO (by decide +kernel) ?_
 refine θ hE (by rfl) (by rfl) ?_
 refine And.intro (fun j hj => ψ.refl _ _) ?_
 refine And.intro (fun j hj => by rw [List.mem_singleton.1 hj]; exact ψ.set (b := 13) _ (List.mem_singleton.2 rfl)) ?_
 refine And.intro (fun j hj => by cases hj) ?_
 refine aX.trans (nl (gC (kF (.sub _ _ (.av 5))))) (Ω ?_ ?_)
 ·exact ⟨rfl, trivial⟩
 ·exact ⟨rfl, rfl, rfl, rfl, rfl, rfl, rfl, rfl, rfl, rfl, rfl, trivial⟩
theorem My (s : PS) {t1 : PS} (op w a b : Int) {o1 w1 a1 b1 : Int} {l1 : List T} (h1 : bz 162 s t1 o1 w1 a1 b1 l1) (e1 : t1.d = s.d) (he : aJ t1 = true) :
 γ Tryz.prog 163 [dO s, .agg (zD op w a b), .t (.int .i64 1)] (dH s.d) (fun v H => v = .ao [dO t1, .agg (xS op w a b [dQ o1 w1 a1 b1 l1])] ∧ H = dH s.d) := by
 have hE := cJ he
 unfold bz at h1
 obtain ⟨d, r0, g0⟩ := s
 obtain ⟨d1, r1, g1⟩ := t1
 obtain rfl : d = d1 := e1.symm
 refine bx ?_
 refine γ.ο ζ η Tryz.func163 rfl rfl ?_
 refine bd 2 ?_
 refine θ h1 (by rfl) (by rfl) ?_
 refine ax (dB 13 [2]) pO (by decide +kernel) ?_
 refine θ hE (by rfl) (by rfl) ?_
 refine And.intro (fun j hj => ψ.refl _ _) ?_
 refine And.intro (fun j hj => by rw [List.mem_singleton.1 hj]; exact ψ.set (b := 13) _ (List.mem_singleton.2 rfl)) ?_
 refine And.intro (fun j hj => by cases hj) ?_
 refine aX.trans (jF 18 (gC (kF (.ff _ _ _ [18] 32 rfl (.refl _) (fun b hb => hb))))) (Ω ?_ ?_)
 ·exact ⟨rfl, trivial⟩
 ·exact ⟨rfl, rfl, rfl, rfl, rfl, rfl, rfl, rfl, rfl, rfl, rfl, trivial⟩
theorem Mx (s : PS) {t1 : PS} {t2 : PS} (op w a b : Int) {o1 w1 a1 b1 : Int} {l1 : List T} (h1 : bz 162 s t1 o1 w1 a1 b1 l1) (e1 : t1.d = s.d) {o2 w2 a2 b2 : Int} {l2 : List T} (h2 : bz 162 t1 t2 o2 w2 a2 b2 l2) (e2 : t2.d = s.d) (he : aJ t2 = true) :
 γ Tryz.prog 163 [dO s, .agg (zD op w a b), .t (.int .i64 2)] (dH s.d) (fun v H => v = .ao [dO t2, .agg (xS op w a b [dQ o1 w1 a1 b1 l1, dQ o2 w2 a2 b2 l2])] ∧ H = dH s.d) := by
 have hE := cJ he
 unfold bz at h1
 unfold bz at h2
 obtain ⟨d, r0, g0⟩ := s
 obtain ⟨d1, r1, g1⟩ := t1
 obtain rfl : d = d1 := e1.symm
 obtain ⟨d2, r2, g2⟩ := t2
 obtain rfl : d = d2 := e2.symm
 refine bx ?_
 refine γ.ο ζ η Tryz.func163 rfl rfl ?_
 refine bd 3 ?_
 refine θ h1 (by rfl) (by rfl) ?_
 refine θ h2 (by rfl) (by rfl) ?_
 refine Or.inl (And.intro rfl (ε rfl ?_))
 refine ax (dB 13 [2]) pO (by decide +kernel) ?_
 refine θ hE (by rfl) (by rfl) ?_
 refine And.intro (fun j hj => ψ.refl _ _) ?_
 refine And.intro (fun j hj => by rw [List.mem_singleton.1 hj]; exact ψ.set (b := 13) _ (List.mem_singleton.2 rfl)) ?_
 refine And.intro (fun j hj => by cases hj) ?_
 refine aX.trans (jF 18 (gC (kF (.ff _ _ _ [18] 32 rfl (.refl _) (fun b hb => hb))))) (Ω ?_ ?_)
 ·exact ⟨rfl, trivial⟩
 ·exact ⟨rfl, rfl, rfl, rfl, rfl, rfl, rfl, rfl, rfl, rfl, rfl, trivial⟩
theorem Mw (s : PS) {t1 : PS} {t2 : PS} {t3 : PS} (op w a b : Int) {o1 w1 a1 b1 : Int} {l1 : List T} (h1 : bz 162 s t1 o1 w1 a1 b1 l1) (e1 : t1.d = s.d) {o2 w2 a2 b2 : Int} {l2 : List T} (h2 : bz 162 t1 t2 o2 w2 a2 b2 l2) (e2 : t2.d = s.d) {o3 w3 a3 b3 : Int} {l3 : List T} (h3 : bz 162 t2 t3 o3 w3 a3 b3 l3) (e3 : t3.d = s.d) (he : aJ t3 = true) :
 γ Tryz.prog 163 [dO s, .agg (zD op w a b), .t (.int .i64 3)] (dH s.d) (fun v H => v = .ao [dO t3, .agg (xS op w a b [dQ o1 w1 a1 b1 l1, dQ o2 w2 a2 b2 l2, dQ o3 w3 a3 b3 l3])] ∧ H = dH s.d) := by
 have hE := cJ he
 unfold bz at h1
 unfold bz at h2
 unfold bz at h3
 obtain ⟨d, r0, g0⟩ := s
 obtain ⟨d1, r1, g1⟩ := t1
 obtain rfl : d = d1 := e1.symm
 obtain ⟨d2, r2, g2⟩ := t2
 obtain rfl : d = d2 := e2.symm
 obtain ⟨d3, r3, g3⟩ := t3
 obtain rfl : d = d3 := e3.symm
 refine bx ?_
 refine γ.ο ζ η Tryz.func163 rfl rfl ?_
 refine bd 4 ?_
 refine θ h1 (by rfl) (by rfl) ?_
 refine θ h2 (by rfl) (by rfl) ?_
 refine Or.inl (And.intro rfl (ε rfl ?_))
 refine θ h3 (by rfl) (by rfl) ?_
 refine Or.inl (And.intro rfl (ε rfl ?_))
 refine ax (dB 13 [2]) pO (by decide +kernel) ?_
 refine θ hE (by rfl) (by rfl) ?_
 refine And.intro (fun j hj => ψ.refl _ _) ?_
 refine And.intro (fun j hj => by rw [List.mem_singleton.1 hj]; exact ψ.set (b := 13) _ (List.mem_singleton.2 rfl)) ?_
 refine And.intro (fun j hj => by cases hj) ?_
 refine aX.trans (jF 18 (gC (kF (.ff _ _ _ [18] 32 rfl (.refl _) (fun b hb => hb))))) (Ω ?_ ?_)
 ·exact ⟨rfl, trivial⟩
 ·exact ⟨rfl, rfl, rfl, rfl, rfl, rfl, rfl, rfl, rfl, rfl, rfl, trivial⟩
end Go.Proofs.YtcogcbplmkcojaaGreatDoor
