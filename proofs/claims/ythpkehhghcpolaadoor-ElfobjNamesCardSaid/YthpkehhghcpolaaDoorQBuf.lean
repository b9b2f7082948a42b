/-
  A bytes.Buffer that is only written, as a walk's memory holds it: what is written stands behind.
-/
import Derived.Test.YthpkehhghcpolaaDoorQHeap
import Derived.Lib.Bytealg
namespace Go.Proofs.YthpkehhghcpolaaDoor
open Go.RowKit
set_option linter.unusedVariables false
set_option linter.unusedSimpArgs false

/-- What is written: data, or part of an own row. -/
noncomputable def srcB (e : TypeId) (h : NH) : AV → Option (List T)
  | .t (.vec 1 l) => some l
  | .sl k g i n =>
    match h.hp.get k with
    | some (.arr e' 1 z gen (.ts l)) => (match Nat.beq e e' && Nat.beq g gen && Nat.ble (Nat.add i n) l.length && (!z || Nat.ble 1 l.length) with | true => some ((l.drop i).take n) | false => none)
    | _ => none
  | _ => none

def put3 (x y z : AV) : Nat → List AV → List AV
  | 0, _ :: _ :: _ :: r => x :: y :: z :: r
  | n + 1, a :: r => a :: put3 x y z n r
  | _, l => l

def get3 : Nat → List AV → Option (AV × AV × AV)
  | 0, x :: y :: z :: _ => some (x, y, z)
  | n + 1, _ :: r => get3 n r
  | _, _ => none

noncomputable def isZ : AV → Bool
  | .t (.int .i64 n) => (match n with | .ofNat k => Nat.beq k 0 | _ => false)
  | _ => false

noncomputable def isLr : AV → Bool
  | .t (.int .i8 n) => true
  | _ => false

/-- The buffer at cell o of variable b, with those bytes behind. -/
noncomputable def bufPut (e : TypeId) (b o : Nat) (p : List T) (h : NH) : Option NH :=
  match h.hp.get b with
  | some (.box cells) =>
    match get3 o cells with
    | some (x, y, z) =>
      match isZ y && isLr z && Nat.ble p.length 1000000 with
      | false => none
      | true =>
        match x with
        | .t .nils =>
          match Nat.ble 1 p.length with
          | false => none
          | true =>
          (match nstp none [] h .junk (.push (.arr e 1 false 2 (.ts p))) with
          | some s1 => (match nstp none [] s1.h .junk (.set b (.box (put3 (.sl h.len 2 0 p.length) (.t (.int .i64 0)) (.t (.int .i8 0)) o cells))) with | some s2 => some s2.h | none => none)
          | none => none)
        | .sl k g i n =>
          (match h.hp.get k with
          | some (.arr e' 1 false gen (.ts l)) =>
            (match Nat.beq e e' && Nat.beq g gen && Nat.beq i 0 && Nat.beq n l.length && Nat.ble 1 n && Nat.ble n 1000000 with
            | true =>
              (match nstp none [] h .junk (.set k (.arr e 1 false (Nat.sub (Nat.add gen 2) (Nat.mod gen 2)) (.ts (l ++ p)))) with
              | some s1 => (match nstp none [] s1.h .junk (.set b (.box (put3 (.sl k (Nat.sub (Nat.add gen 2) (Nat.mod gen 2)) 0 (l ++ p).length) (.t (.int .i64 0)) (.t (.int .i8 0)) o cells))) with | some s2 => some s2.h | none => none)
              | none => none)
            | false => none)
          | _ => none)
        | _ => none
    | none => none
  | _ => none

/-- The functions that write, by number. -/
structure BufFs where
  e : TypeId
  write : FuncId
  writeString : FuncId
  writeByte : FuncId

def numT : Nat → T := fun n => .int .i64 n

noncomputable def bufExt (q : BufFs) : CallN := fun f args h =>
  match args with
  | [.ptr b g i o, x] =>
    (match Nat.beq f q.write with
    | true => (match srcB q.e h x with
      | some p => (match bufPut q.e b o p h with | some h' => some (.tup [.t (.int .i64 (.ofNat p.length)), .t .nili], h') | none => none)
      | none => none)
    | false =>
    match Nat.beq f q.writeString with
    | true => (match x with
      | .t (.str s) => (match bufPut q.e b o (s.map fun c => .int .u8 (.ofNat c.toNat)) h with | some h' => some (.tup [.t (.int .i64 (.ofNat s.length)), .t .nili], h') | none => none)
      | _ => none)
    | false =>
    match Nat.beq f q.writeByte with
    | true => (match x with
      | .t (.int .u8 n) => (match bufPut q.e b o [.int .u8 n] h with | some h' => some (.t .nili, h') | none => none)
      | _ => none)
    | false => none)
  | _ => none

/-- Bytes, if all of them are. -/
def toU1 (x : T) (go : Option (List UInt8)) : Option (List UInt8) :=
  match x with
  | .int .u8 (.ofNat n) => (match Nat.ble n 255, go with | true, some r => some (UInt8.ofNat n :: r) | _, _ => none)
  | _ => none

noncomputable def toU (l : List T) : Option (List UInt8) :=
  @List.rec T (fun _ => Option (List UInt8)) (some []) (fun x _ go => toU1 x go) l

theorem toU1_ok {x : T} {go : Option (List UInt8)} {bs : List UInt8} (h : toU1 x go = some bs) : ∃ n r, x = .int .u8 (Int.ofNat n) ∧ n ≤ 255 ∧ go = some r ∧ bs = UInt8.ofNat n :: r := by
  unfold toU1 at h
  split at h
  · split at h
    · rename_i r hn
      cases h
      exact ⟨_, _, rfl, Nat.le_of_ble_eq_true hn, rfl, rfl⟩
    · cases h
  · cases h

theorem toU_ok : ∀ {l : List T} {bs : List UInt8}, toU l = some bs → l = bs.map fun c => T.int .u8 (c.toNat : Int)
  | [], bs, h => by cases h; rfl
  | x :: r, bs, h => by
    obtain ⟨n, r', rfl, hn, hr, rfl⟩ := toU1_ok (show toU1 x (toU r) = some bs from h)
    rw [toU_ok hr]
    simp only [List.map_cons, List.cons.injEq, and_true, T.int.injEq, true_and]
    show (n : Int) = ((UInt8.ofNat n).toNat : Int)
    rw [UInt8.toNat_ofNat']
    omega

/-- Where a byte is in bytes that are read. -/
noncomputable def ixExt (g : FuncId) : CallN := fun f args h =>
  match Nat.beq f g with
  | true =>
    (match nsnapL 32 h.hp.get args with
    | some ([.vec 1 l, .int .u8 (.ofNat c)], _) => (match Nat.ble c 255, toU l with
      | true, some bs => fI (Lib.indexByte bs (UInt8.ofNat c)) fun r => some (.t (.int .i64 r), h)
      | _, _ => none)
    | _ => none)
  | false => none

end Go.Proofs.YthpkehhghcpolaaDoor
