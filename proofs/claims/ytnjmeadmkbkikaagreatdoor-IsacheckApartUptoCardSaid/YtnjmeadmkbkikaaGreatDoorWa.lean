/-
  Descriptions rs data, and how they come in.
-/
import Derived.Test.YtnjmeadmkbkikaaGreatDoorGb
import Derived.Test.YtnjmeadmkbkikaaGreatDoorFb
import Derived.Test.YtnjmeadmkbkikaaGreatDoorFg
namespace Go.Proofs.YtnjmeadmkbkikaaGreatDoor
open Go.IntWalk
set_option maxRecDepth 100000
set_option linter.unusedVariables false
set_option linter.unusedSimpArgs false

def I64 (n : Int) : Prop := -9223372036854775808 ≤ n ∧ n ≤ 9223372036854775807

theorem i64_of {n : Int} (h : (Lit.int .i64 n).wf = true) : I64 n := i64_wf h

/-- A term. -/
inductive IsTerm : T → Prop
  | mk (op w a b : Int) (ks : List T) (ho : I64 op) (hw : I64 w) (ha : I64 a) (hb : I64 b) (hl : ks.length ≤ maxLen) (h : ∀ k ∈ ks, IsTerm k) : IsTerm (.agg [.int .i64 op, .int .i64 w, .int .i64 a, .int .i64 b, .vecd 5 ks])

theorem slice_open {α : Type} {P : Program} {t e : TypeId} {k : Nat} (f : α → T) (Q : α → Prop) (ht : P.underlying t = some (.slice e)) (hc : P.cellsOf e = k)
    (hq : ∀ c, HasT P e c → ∃ a, Q a ∧ SubT (mkElem k c) (f a)) {y : T} (hy : HasT P t [y]) : ∃ rs : List α, rs.length ≤ maxLen ∧ (∀ a ∈ rs, Q a) ∧ SubT y (.vecd k (rs.map f)) := by
  rcases hy.slice' ht with h0 | ⟨l, ⟨hl, _⟩, hh, h0⟩
  · obtain rfl : y = .nils := by simpa using h0
    exact ⟨[], by simp, by simp, .nils k⟩
  · rw [hc] at h0
    obtain rfl : y = .vec k (l.map (mkElem k)) := by simpa using h0
    have key : ∀ l : List (List T), (∀ (i : Nat) c, l[i]? = some c → HasT P e c) → ∃ rs : List α, rs.length = l.length ∧ (∀ a ∈ rs, Q a) ∧ SubC (l.map (mkElem k)) (rs.map f) := by
      intro l
      induction l with
      | nil => intro _; exact ⟨[], rfl, by simp, .refl _⟩
      | cons c l ih =>
        intro hh
        obtain ⟨a, q, s⟩ := hq c (hh 0 c rfl)
        obtain ⟨rs, e1, e2, e3⟩ := ih fun i c hi => hh (i + 1) c hi
        refine ⟨a :: rs, by simp [e1], fun x hx => ?_, ?_⟩
        · rcases List.mem_cons.1 hx with rfl | hx
          · exact q
          · exact e2 x hx
        · exact SubC.append (a := [mkElem k c]) (c := [f a]) (.of_sub rfl fun i e e' a b => by
            cases i with
            | zero => simp at a b; subst a b; exact s
            | succ i => simp at a) e3
    obtain ⟨rs, e1, e2, e3⟩ := key l hh
    exact ⟨rs, by rw [e1]; exact hl, e2, e3.toVecD k⟩

theorem int_open {P : Program} {t : TypeId} (ht : P.underlying t = some (.int .i64)) {y : T} (h : HasT P t [y]) : ∃ n, y = .int .i64 n ∧ I64 n := by
  obtain ⟨n, e, w⟩ := h.int' ht
  exact ⟨n, by simpa using e, i64_of w⟩
theorem str_open {P : Program} {t : TypeId} (ht : P.underlying t = some .string) {y : T} (h : HasT P t [y]) : ∃ s, y = .str s ∧ s.length ≤ reachBytes := by
  obtain ⟨s, e, w⟩ := h.str' ht
  exact ⟨s, by simpa using e, w⟩
theorem bool_open {P : Program} {t : TypeId} (ht : P.underlying t = some .bool) {y : T} (h : HasT P t [y]) : ∃ b, y = .bool b := by
  obtain ⟨b, e⟩ := h.bool' ht
  exact ⟨b, by simpa using e⟩
theorem int_el {c : List T} (h : HasT Tryz.prog 3 c) : ∃ n, I64 n ∧ SubT (mkElem 1 c) (T.int .i64 n) := by
  obtain ⟨n, rfl, w⟩ := h.int' Tryz.underlying3
  exact ⟨n, i64_of w, .refl _⟩
theorem string_el {c : List T} (h : HasT Tryz.prog 9 c) : ∃ n : List UInt8, n.length ≤ reachBytes ∧ SubT (mkElem 1 c) (T.str n) := by
  obtain ⟨n, rfl, w⟩ := h.str' Tryz.underlying9
  exact ⟨n, w, .refl _⟩
theorem term_open : ∀ {t : TypeId} {c : List T}, HasT Tryz.prog t c → (t = 79 → ∃ x, IsTerm x ∧ SubT (mkElem 5 c) x) ∧
    (t = 41 → ∃ y, c = [y] ∧ ∃ ks : List T, ks.length ≤ maxLen ∧ (∀ k ∈ ks, IsTerm k) ∧ SubT y (.vecd 5 ks)) := by
  intro t c h
  induction h with
  | bool ht b => exact ⟨fun e => (by subst e; rw [Tryz.underlying79] at ht; cases ht), fun e => (by subst e; rw [Tryz.underlying41] at ht; cases ht)⟩
  | int ht n hw => exact ⟨fun e => (by subst e; rw [Tryz.underlying79] at ht; cases ht), fun e => (by subst e; rw [Tryz.underlying41] at ht; cases ht)⟩
  | str ht s hl => exact ⟨fun e => (by subst e; rw [Tryz.underlying79] at ht; cases ht), fun e => (by subst e; rw [Tryz.underlying41] at ht; cases ht)⟩
  | nils ht => exact ⟨fun e => (by subst e; rw [Tryz.underlying79] at ht; cases ht), fun e => ⟨_, rfl, [], by simp, by simp, .nils 5⟩⟩
  | @vec t e ht l hl hb hh ih =>
    refine ⟨fun e => (by subst e; rw [Tryz.underlying79] at ht; cases ht), fun e => ?_⟩
    subst e
    rw [Tryz.underlying41] at ht
    obtain rfl := (TypeDesc.slice.inj (Option.some.inj ht))
    have hc : Tryz.prog.cellsOf 79 = 5 := by kernel_rfl
    rw [hc]
    have key : ∀ l : List (List T), (∀ (i : Nat) c, l[i]? = some c → ∃ x, IsTerm x ∧ SubT (mkElem 5 c) x) → ∃ rs : List T, rs.length = l.length ∧ (∀ a ∈ rs, IsTerm a) ∧ SubC (l.map (mkElem 5)) rs := by
      intro l
      induction l with
      | nil => intro _; exact ⟨[], rfl, by simp, .refl _⟩
      | cons c l ih =>
        intro hh
        obtain ⟨a, q, s⟩ := hh 0 c rfl
        obtain ⟨rs, e1, e2, e3⟩ := ih fun i c hi => hh (i + 1) c hi
        refine ⟨a :: rs, by simp [e1], fun x hx => ?_, ?_⟩
        · rcases List.mem_cons.1 hx with rfl | hx
          · exact q
          · exact e2 x hx
        · exact SubC.append (a := [mkElem 5 c]) (c := [a]) (.of_sub rfl fun i e e' a b => by
            cases i with
            | zero => simp at a b; subst a b; exact s
            | succ i => simp at a) e3
    obtain ⟨rs, e1, e2, e3⟩ := key l fun i c hi => (ih i c hi).1 rfl
    exact ⟨_, rfl, rs, by rw [e1]; exact hl, e2, e3.toVecD 5⟩
  | @struct t fs ht cs hl hh ih =>
    refine ⟨fun e => ?_, fun e => (by subst e; rw [Tryz.underlying41] at ht; cases ht)⟩
    subst e
    rw [Tryz.underlying79] at ht
    obtain rfl := (TypeDesc.struct.inj (Option.some.inj ht))
    rw [show Tryz.prog.cellsOf 79 = 5 by kernel_rfl] at hl
    match cs, hl with
    | [c0, c1, c2, c3, c4], _ =>
      have k0 := hh _ List.mem_cons_self
      have k1 := hh _ (List.mem_cons_of_mem _ List.mem_cons_self)
      have k2 := hh _ (List.mem_cons_of_mem _ (List.mem_cons_of_mem _ List.mem_cons_self))
      have k3 := hh _ (List.mem_cons_of_mem _ (List.mem_cons_of_mem _ (List.mem_cons_of_mem _ List.mem_cons_self)))
      have k4 := (ih _ (List.mem_cons_of_mem _ (List.mem_cons_of_mem _ (List.mem_cons_of_mem _ (List.mem_cons_of_mem _ List.mem_cons_self))))).2 rfl
      simp only [show Tryz.prog.cellsOf 3 = 1 by kernel_rfl, show Tryz.prog.cellsOf 41 = 1 by kernel_rfl, List.drop_zero, List.drop_succ_cons, List.take_succ_cons, List.take_zero] at k0 k1 k2 k3 k4
      obtain ⟨n0, rfl, b0⟩ := int_open Tryz.underlying3 k0
      obtain ⟨n1, rfl, b1⟩ := int_open Tryz.underlying3 k1
      obtain ⟨n2, rfl, b2⟩ := int_open Tryz.underlying3 k2
      obtain ⟨n3, rfl, b3⟩ := int_open Tryz.underlying3 k3
      obtain ⟨y, e4, ks, l4, q4, s4⟩ := k4
      obtain rfl : c4 = y := by simpa using e4
      exact ⟨_, .mk n0 n1 n2 n3 ks b0 b1 b2 b3 l4 q4, .aggS ⟨.refl _, .refl _, .refl _, .refl _, s4, trivial⟩⟩
  | array ht => exact ⟨fun e => (by subst e; rw [Tryz.underlying79] at ht; cases ht), fun e => (by subst e; rw [Tryz.underlying41] at ht; cases ht)⟩

theorem term_el {c : List T} (h : HasT Tryz.prog 79 c) : ∃ x, IsTerm x ∧ SubT (mkElem 5 c) (id x) := (term_open h).1 rfl

structure FileD where
  (name : List UInt8)
  (count : Int)
  (width : Int)
  (zero : Int)
def fileT (x : FileD) : T := .agg [.str x.name, .int .i64 x.count, .int .i64 x.width, .int .i64 x.zero]
def FileD.ok (x : FileD) : Prop := x.name.length ≤ reachBytes ∧ I64 x.count ∧ I64 x.width ∧ I64 x.zero

theorem file_cells {cs : List T} (h : HasT Tryz.prog 128 cs) : ∃ x : FileD, x.ok ∧ SubT (.agg cs) (fileT x) := by
  obtain ⟨hl, hf⟩ := h.struct' Tryz.underlying128
  rw [show Tryz.prog.cellsOf 128 = 4 by kernel_rfl] at hl
  match cs, hl with
  | [c0, c1, c2, c3], _ =>
    have k0 := hf _ List.mem_cons_self
    have k1 := hf _ (List.mem_cons_of_mem _ List.mem_cons_self)
    have k2 := hf _ (List.mem_cons_of_mem _ (List.mem_cons_of_mem _ List.mem_cons_self))
    have k3 := hf _ (List.mem_cons_of_mem _ (List.mem_cons_of_mem _ (List.mem_cons_of_mem _ List.mem_cons_self)))
    simp only [show Tryz.prog.cellsOf 3 = 1 by kernel_rfl, show Tryz.prog.cellsOf 9 = 1 by kernel_rfl, List.drop_zero, List.drop_succ_cons, List.take_succ_cons, List.take_zero] at k0 k1 k2 k3
    obtain ⟨n0, rfl, b0⟩ := str_open Tryz.underlying9 k0
    obtain ⟨n1, rfl, b1⟩ := int_open Tryz.underlying3 k1
    obtain ⟨n2, rfl, b2⟩ := int_open Tryz.underlying3 k2
    obtain ⟨n3, rfl, b3⟩ := int_open Tryz.underlying3 k3
    exact ⟨⟨n0, n1, n2, n3⟩, ⟨b0, b1, b2, b3⟩, .aggS ⟨.refl _, .refl _, .refl _, .refl _, trivial⟩⟩

theorem file_el {c : List T} (h : HasT Tryz.prog 128 c) : ∃ x : FileD, x.ok ∧ SubT (mkElem 4 c) (fileT x) := file_cells h

structure AliasD where
  (name : List UInt8)
  (file : Int)
  (num : Int)
def aliasT (x : AliasD) : T := .agg [.str x.name, .int .i64 x.file, .int .i64 x.num]
def AliasD.ok (x : AliasD) : Prop := x.name.length ≤ reachBytes ∧ I64 x.file ∧ I64 x.num

theorem alias_cells {cs : List T} (h : HasT Tryz.prog 132 cs) : ∃ x : AliasD, x.ok ∧ SubT (.agg cs) (aliasT x) := by
  obtain ⟨hl, hf⟩ := h.struct' Tryz.underlying132
  rw [show Tryz.prog.cellsOf 132 = 3 by kernel_rfl] at hl
  match cs, hl with
  | [c0, c1, c2], _ =>
    have k0 := hf _ List.mem_cons_self
    have k1 := hf _ (List.mem_cons_of_mem _ List.mem_cons_self)
    have k2 := hf _ (List.mem_cons_of_mem _ (List.mem_cons_of_mem _ List.mem_cons_self))
    simp only [show Tryz.prog.cellsOf 3 = 1 by kernel_rfl, show Tryz.prog.cellsOf 9 = 1 by kernel_rfl, List.drop_zero, List.drop_succ_cons, List.take_succ_cons, List.take_zero] at k0 k1 k2
    obtain ⟨n0, rfl, b0⟩ := str_open Tryz.underlying9 k0
    obtain ⟨n1, rfl, b1⟩ := int_open Tryz.underlying3 k1
    obtain ⟨n2, rfl, b2⟩ := int_open Tryz.underlying3 k2
    exact ⟨⟨n0, n1, n2⟩, ⟨b0, b1, b2⟩, .aggS ⟨.refl _, .refl _, .refl _, trivial⟩⟩

theorem alias_el {c : List T} (h : HasT Tryz.prog 132 c) : ∃ x : AliasD, x.ok ∧ SubT (mkElem 3 c) (aliasT x) := alias_cells h

structure ClassD where
  (name : List UInt8)
  (kind : Int)
  (file : Int)
  (bits : Int)
  (shift : Int)
  (plus : Int)
  (excl : List Int)
def classT (x : ClassD) : T := .agg [.str x.name, .int .i64 x.kind, .int .i64 x.file, .int .i64 x.bits, .int .i64 x.shift, .int .i64 x.plus, .vecd 1 (x.excl.map (T.int .i64))]
def ClassD.ok (x : ClassD) : Prop := x.name.length ≤ reachBytes ∧ I64 x.kind ∧ I64 x.file ∧ I64 x.bits ∧ I64 x.shift ∧ I64 x.plus ∧ x.excl.length ≤ maxLen ∧ (∀ a ∈ x.excl, I64 a)

theorem class_cells {cs : List T} (h : HasT Tryz.prog 63 cs) : ∃ x : ClassD, x.ok ∧ SubT (.agg cs) (classT x) := by
  obtain ⟨hl, hf⟩ := h.struct' Tryz.underlying63
  rw [show Tryz.prog.cellsOf 63 = 7 by kernel_rfl] at hl
  match cs, hl with
  | [c0, c1, c2, c3, c4, c5, c6], _ =>
    have k0 := hf _ List.mem_cons_self
    have k1 := hf _ (List.mem_cons_of_mem _ List.mem_cons_self)
    have k2 := hf _ (List.mem_cons_of_mem _ (List.mem_cons_of_mem _ List.mem_cons_self))
    have k3 := hf _ (List.mem_cons_of_mem _ (List.mem_cons_of_mem _ (List.mem_cons_of_mem _ List.mem_cons_self)))
    have k4 := hf _ (List.mem_cons_of_mem _ (List.mem_cons_of_mem _ (List.mem_cons_of_mem _ (List.mem_cons_of_mem _ List.mem_cons_self))))
    have k5 := hf _ (List.mem_cons_of_mem _ (List.mem_cons_of_mem _ (List.mem_cons_of_mem _ (List.mem_cons_of_mem _ (List.mem_cons_of_mem _ List.mem_cons_self)))))
    have k6 := hf _ (List.mem_cons_of_mem _ (List.mem_cons_of_mem _ (List.mem_cons_of_mem _ (List.mem_cons_of_mem _ (List.mem_cons_of_mem _ (List.mem_cons_of_mem _ List.mem_cons_self))))))
    simp only [show Tryz.prog.cellsOf 46 = 1 by kernel_rfl, show Tryz.prog.cellsOf 3 = 1 by kernel_rfl, show Tryz.prog.cellsOf 9 = 1 by kernel_rfl, List.drop_zero, List.drop_succ_cons, List.take_succ_cons, List.take_zero] at k0 k1 k2 k3 k4 k5 k6
    obtain ⟨n0, rfl, b0⟩ := str_open Tryz.underlying9 k0
    obtain ⟨n1, rfl, b1⟩ := int_open Tryz.underlying3 k1
    obtain ⟨n2, rfl, b2⟩ := int_open Tryz.underlying3 k2
    obtain ⟨n3, rfl, b3⟩ := int_open Tryz.underlying3 k3
    obtain ⟨n4, rfl, b4⟩ := int_open Tryz.underlying3 k4
    obtain ⟨n5, rfl, b5⟩ := int_open Tryz.underlying3 k5
    obtain ⟨n6, l6, q6, s6⟩ := slice_open (T.int .i64) I64 Tryz.underlying46 (k := 1) (by kernel_rfl) (fun c h => int_el h) k6
    exact ⟨⟨n0, n1, n2, n3, n4, n5, n6⟩, ⟨b0, b1, b2, b3, b4, b5, l6, q6⟩, .aggS ⟨.refl _, .refl _, .refl _, .refl _, .refl _, .refl _, s6, trivial⟩⟩

theorem class_el {c : List T} (h : HasT Tryz.prog 63 c) : ∃ x : ClassD, x.ok ∧ SubT (mkElem 7 c) (classT x) := class_cells h

structure ArgD where
  (name : List UInt8)
  (cls : Int)
def argT (x : ArgD) : T := .agg [.str x.name, .int .i64 x.cls]
def ArgD.ok (x : ArgD) : Prop := x.name.length ≤ reachBytes ∧ I64 x.cls

theorem arg_cells {cs : List T} (h : HasT Tryz.prog 55 cs) : ∃ x : ArgD, x.ok ∧ SubT (.agg cs) (argT x) := by
  obtain ⟨hl, hf⟩ := h.struct' Tryz.underlying55
  rw [show Tryz.prog.cellsOf 55 = 2 by kernel_rfl] at hl
  match cs, hl with
  | [c0, c1], _ =>
    have k0 := hf _ List.mem_cons_self
    have k1 := hf _ (List.mem_cons_of_mem _ List.mem_cons_self)
    simp only [show Tryz.prog.cellsOf 3 = 1 by kernel_rfl, show Tryz.prog.cellsOf 9 = 1 by kernel_rfl, List.drop_zero, List.drop_succ_cons, List.take_succ_cons, List.take_zero] at k0 k1
    obtain ⟨n0, rfl, b0⟩ := str_open Tryz.underlying9 k0
    obtain ⟨n1, rfl, b1⟩ := int_open Tryz.underlying3 k1
    exact ⟨⟨n0, n1⟩, ⟨b0, b1⟩, .aggS ⟨.refl _, .refl _, trivial⟩⟩

theorem arg_el {c : List T} (h : HasT Tryz.prog 55 c) : ∃ x : ArgD, x.ok ∧ SubT (mkElem 2 c) (argT x) := arg_cells h

structure PieceD where
  (lit : List UInt8)
  (arg : Int)
  (hi : Int)
  (lo : Int)
def pieceT (x : PieceD) : T := .agg [.str x.lit, .int .i64 x.arg, .int .i64 x.hi, .int .i64 x.lo]
def PieceD.ok (x : PieceD) : Prop := x.lit.length ≤ reachBytes ∧ I64 x.arg ∧ I64 x.hi ∧ I64 x.lo

theorem piece_cells {cs : List T} (h : HasT Tryz.prog 171 cs) : ∃ x : PieceD, x.ok ∧ SubT (.agg cs) (pieceT x) := by
  obtain ⟨hl, hf⟩ := h.struct' Tryz.underlying171
  rw [show Tryz.prog.cellsOf 171 = 4 by kernel_rfl] at hl
  match cs, hl with
  | [c0, c1, c2, c3], _ =>
    have k0 := hf _ List.mem_cons_self
    have k1 := hf _ (List.mem_cons_of_mem _ List.mem_cons_self)
    have k2 := hf _ (List.mem_cons_of_mem _ (List.mem_cons_of_mem _ List.mem_cons_self))
    have k3 := hf _ (List.mem_cons_of_mem _ (List.mem_cons_of_mem _ (List.mem_cons_of_mem _ List.mem_cons_self)))
    simp only [show Tryz.prog.cellsOf 3 = 1 by kernel_rfl, show Tryz.prog.cellsOf 9 = 1 by kernel_rfl, List.drop_zero, List.drop_succ_cons, List.take_succ_cons, List.take_zero] at k0 k1 k2 k3
    obtain ⟨n0, rfl, b0⟩ := str_open Tryz.underlying9 k0
    obtain ⟨n1, rfl, b1⟩ := int_open Tryz.underlying3 k1
    obtain ⟨n2, rfl, b2⟩ := int_open Tryz.underlying3 k2
    obtain ⟨n3, rfl, b3⟩ := int_open Tryz.underlying3 k3
    exact ⟨⟨n0, n1, n2, n3⟩, ⟨b0, b1, b2, b3⟩, .aggS ⟨.refl _, .refl _, .refl _, .refl _, trivial⟩⟩

theorem piece_el {c : List T} (h : HasT Tryz.prog 171 c) : ∃ x : PieceD, x.ok ∧ SubT (mkElem 4 c) (pieceT x) := piece_cells h

structure FormD where
  (name : List UInt8)
  (syn : List UInt8)
  (args : List ArgD)
  (pieces : List PieceD)
  (sem : List T)
def formT (x : FormD) : T := .agg [.str x.name, .str x.syn, .vecd 2 (x.args.map argT), .vecd 4 (x.pieces.map pieceT), .vecd 5 x.sem]
def FormD.ok (x : FormD) : Prop := x.name.length ≤ reachBytes ∧ x.syn.length ≤ reachBytes ∧ x.args.length ≤ maxLen ∧ (∀ a ∈ x.args, ArgD.ok a) ∧ x.pieces.length ≤ maxLen ∧ (∀ a ∈ x.pieces, PieceD.ok a) ∧ x.sem.length ≤ maxLen ∧ (∀ a ∈ x.sem, IsTerm a)

theorem form_cells {cs : List T} (h : HasT Tryz.prog 43 cs) : ∃ x : FormD, x.ok ∧ SubT (.agg cs) (formT x) := by
  obtain ⟨hl, hf⟩ := h.struct' Tryz.underlying43
  rw [show Tryz.prog.cellsOf 43 = 5 by kernel_rfl] at hl
  match cs, hl with
  | [c0, c1, c2, c3, c4], _ =>
    have k0 := hf _ List.mem_cons_self
    have k1 := hf _ (List.mem_cons_of_mem _ List.mem_cons_self)
    have k2 := hf _ (List.mem_cons_of_mem _ (List.mem_cons_of_mem _ List.mem_cons_self))
    have k3 := hf _ (List.mem_cons_of_mem _ (List.mem_cons_of_mem _ (List.mem_cons_of_mem _ List.mem_cons_self)))
    have k4 := hf _ (List.mem_cons_of_mem _ (List.mem_cons_of_mem _ (List.mem_cons_of_mem _ (List.mem_cons_of_mem _ List.mem_cons_self))))
    simp only [show Tryz.prog.cellsOf 39 = 1 by kernel_rfl, show Tryz.prog.cellsOf 40 = 1 by kernel_rfl, show Tryz.prog.cellsOf 41 = 1 by kernel_rfl, show Tryz.prog.cellsOf 9 = 1 by kernel_rfl, List.drop_zero, List.drop_succ_cons, List.take_succ_cons, List.take_zero] at k0 k1 k2 k3 k4
    obtain ⟨n0, rfl, b0⟩ := str_open Tryz.underlying9 k0
    obtain ⟨n1, rfl, b1⟩ := str_open Tryz.underlying9 k1
    obtain ⟨n2, l2, q2, s2⟩ := slice_open argT ArgD.ok Tryz.underlying39 (k := 2) (by kernel_rfl) (fun c h => arg_el h) k2
    obtain ⟨n3, l3, q3, s3⟩ := slice_open pieceT PieceD.ok Tryz.underlying40 (k := 4) (by kernel_rfl) (fun c h => piece_el h) k3
    obtain ⟨n4, l4, q4, s4⟩ := slice_open id IsTerm Tryz.underlying41 (k := 5) (by kernel_rfl) (fun c h => term_el h) k4
    rw [List.map_id] at s4
    exact ⟨⟨n0, n1, n2, n3, n4⟩, ⟨b0, b1, l2, q2, l3, q3, l4, q4⟩, .aggS ⟨.refl _, .refl _, s2, s3, s4, trivial⟩⟩

theorem form_el {c : List T} (h : HasT Tryz.prog 43 c) : ∃ x : FormD, x.ok ∧ SubT (mkElem 5 c) (formT x) := form_cells h

structure RelD where
  (name : List UInt8)
  (num : Int)
  (kind : Int)
  (bytes : Int)
  (cls : Int)
  (cls2 : Int)
  (calcOp calcW calcA calcB : Int) (calcKids : List T)
  (sign : Int)
  (width : Int)
  (align : Int)
  (round : Int)
  (hi : Int)
  (lo : Int)
def relT (x : RelD) : T := .agg [.str x.name, .int .i64 x.num, .int .i64 x.kind, .int .i64 x.bytes, .int .i64 x.cls, .int .i64 x.cls2, .int .i64 x.calcOp, .int .i64 x.calcW, .int .i64 x.calcA, .int .i64 x.calcB, .vecd 5 x.calcKids, .int .i64 x.sign, .int .i64 x.width, .int .i64 x.align, .int .i64 x.round, .int .i64 x.hi, .int .i64 x.lo]
def RelD.ok (x : RelD) : Prop := x.name.length ≤ reachBytes ∧ I64 x.num ∧ I64 x.kind ∧ I64 x.bytes ∧ I64 x.cls ∧ I64 x.cls2 ∧ IsTerm (.agg [.int .i64 x.calcOp, .int .i64 x.calcW, .int .i64 x.calcA, .int .i64 x.calcB, .vecd 5 x.calcKids]) ∧ I64 x.sign ∧ I64 x.width ∧ I64 x.align ∧ I64 x.round ∧ I64 x.hi ∧ I64 x.lo

theorem rel_cells {cs : List T} (h : HasT Tryz.prog 145 cs) : ∃ x : RelD, x.ok ∧ SubT (.agg cs) (relT x) := by
  obtain ⟨hl, hf⟩ := h.struct' Tryz.underlying145
  rw [show Tryz.prog.cellsOf 145 = 17 by kernel_rfl] at hl
  match cs, hl with
  | [c0, c1, c2, c3, c4, c5, c6, c7, c8, c9, c10, c11, c12, c13, c14, c15, c16], _ =>
    have k0 := hf _ List.mem_cons_self
    have k1 := hf _ (List.mem_cons_of_mem _ List.mem_cons_self)
    have k2 := hf _ (List.mem_cons_of_mem _ (List.mem_cons_of_mem _ List.mem_cons_self))
    have k3 := hf _ (List.mem_cons_of_mem _ (List.mem_cons_of_mem _ (List.mem_cons_of_mem _ List.mem_cons_self)))
    have k4 := hf _ (List.mem_cons_of_mem _ (List.mem_cons_of_mem _ (List.mem_cons_of_mem _ (List.mem_cons_of_mem _ List.mem_cons_self))))
    have k5 := hf _ (List.mem_cons_of_mem _ (List.mem_cons_of_mem _ (List.mem_cons_of_mem _ (List.mem_cons_of_mem _ (List.mem_cons_of_mem _ List.mem_cons_self)))))
    have k6 := hf _ (List.mem_cons_of_mem _ (List.mem_cons_of_mem _ (List.mem_cons_of_mem _ (List.mem_cons_of_mem _ (List.mem_cons_of_mem _ (List.mem_cons_of_mem _ List.mem_cons_self))))))
    have k7 := hf _ (List.mem_cons_of_mem _ (List.mem_cons_of_mem _ (List.mem_cons_of_mem _ (List.mem_cons_of_mem _ (List.mem_cons_of_mem _ (List.mem_cons_of_mem _ (List.mem_cons_of_mem _ List.mem_cons_self)))))))
    have k8 := hf _ (List.mem_cons_of_mem _ (List.mem_cons_of_mem _ (List.mem_cons_of_mem _ (List.mem_cons_of_mem _ (List.mem_cons_of_mem _ (List.mem_cons_of_mem _ (List.mem_cons_of_mem _ (List.mem_cons_of_mem _ List.mem_cons_self))))))))
    have k9 := hf _ (List.mem_cons_of_mem _ (List.mem_cons_of_mem _ (List.mem_cons_of_mem _ (List.mem_cons_of_mem _ (List.mem_cons_of_mem _ (List.mem_cons_of_mem _ (List.mem_cons_of_mem _ (List.mem_cons_of_mem _ (List.mem_cons_of_mem _ List.mem_cons_self)))))))))
    have k10 := hf _ (List.mem_cons_of_mem _ (List.mem_cons_of_mem _ (List.mem_cons_of_mem _ (List.mem_cons_of_mem _ (List.mem_cons_of_mem _ (List.mem_cons_of_mem _ (List.mem_cons_of_mem _ (List.mem_cons_of_mem _ (List.mem_cons_of_mem _ (List.mem_cons_of_mem _ List.mem_cons_self))))))))))
    have k11 := hf _ (List.mem_cons_of_mem _ (List.mem_cons_of_mem _ (List.mem_cons_of_mem _ (List.mem_cons_of_mem _ (List.mem_cons_of_mem _ (List.mem_cons_of_mem _ (List.mem_cons_of_mem _ (List.mem_cons_of_mem _ (List.mem_cons_of_mem _ (List.mem_cons_of_mem _ (List.mem_cons_of_mem _ List.mem_cons_self)))))))))))
    have k12 := hf _ (List.mem_cons_of_mem _ (List.mem_cons_of_mem _ (List.mem_cons_of_mem _ (List.mem_cons_of_mem _ (List.mem_cons_of_mem _ (List.mem_cons_of_mem _ (List.mem_cons_of_mem _ (List.mem_cons_of_mem _ (List.mem_cons_of_mem _ (List.mem_cons_of_mem _ (List.mem_cons_of_mem _ (List.mem_cons_of_mem _ List.mem_cons_self))))))))))))
    simp only [show Tryz.prog.cellsOf 79 = 5 by kernel_rfl, show Tryz.prog.cellsOf 3 = 1 by kernel_rfl, show Tryz.prog.cellsOf 9 = 1 by kernel_rfl, List.drop_zero, List.drop_succ_cons, List.take_succ_cons, List.take_zero] at k0 k1 k2 k3 k4 k5 k6 k7 k8 k9 k10 k11 k12
    obtain ⟨n0, rfl, b0⟩ := str_open Tryz.underlying9 k0
    obtain ⟨n1, rfl, b1⟩ := int_open Tryz.underlying3 k1
    obtain ⟨n2, rfl, b2⟩ := int_open Tryz.underlying3 k2
    obtain ⟨n3, rfl, b3⟩ := int_open Tryz.underlying3 k3
    obtain ⟨n4, rfl, b4⟩ := int_open Tryz.underlying3 k4
    obtain ⟨n5, rfl, b5⟩ := int_open Tryz.underlying3 k5
    obtain ⟨x6, q6, s6⟩ := term_el k6
    obtain ⟨m0, m1, m2, m3, mk, p0, p1, p2, p3, pl, ph⟩ := q6
    have sc6 := s6.cells.2
    obtain ⟨n7, rfl, b7⟩ := int_open Tryz.underlying3 k7
    obtain ⟨n8, rfl, b8⟩ := int_open Tryz.underlying3 k8
    obtain ⟨n9, rfl, b9⟩ := int_open Tryz.underlying3 k9
    obtain ⟨n10, rfl, b10⟩ := int_open Tryz.underlying3 k10
    obtain ⟨n11, rfl, b11⟩ := int_open Tryz.underlying3 k11
    obtain ⟨n12, rfl, b12⟩ := int_open Tryz.underlying3 k12
    exact ⟨⟨n0, n1, n2, n3, n4, n5, m0, m1, m2, m3, mk, n7, n8, n9, n10, n11, n12⟩, ⟨b0, b1, b2, b3, b4, b5, .mk m0 m1 m2 m3 mk p0 p1 p2 p3 pl ph, b7, b8, b9, b10, b11, b12⟩, .aggS ⟨.refl _, .refl _, .refl _, .refl _, .refl _, .refl _, (sc6 0 _ _ rfl rfl), (sc6 1 _ _ rfl rfl), (sc6 2 _ _ rfl rfl), (sc6 3 _ _ rfl rfl), (sc6 4 _ _ rfl rfl), .refl _, .refl _, .refl _, .refl _, .refl _, .refl _, trivial⟩⟩

theorem rel_el {c : List T} (h : HasT Tryz.prog 145 c) : ∃ x : RelD, x.ok ∧ SubT (mkElem 17 c) (relT x) := rel_cells h

structure UseD where
  (mod : List UInt8)
  (cls : Int)
  (rel : Int)
  (fin : Bool)
def useT (x : UseD) : T := .agg [.str x.mod, .int .i64 x.cls, .int .i64 x.rel, .bool x.fin]
def UseD.ok (x : UseD) : Prop := x.mod.length ≤ reachBytes ∧ I64 x.cls ∧ I64 x.rel

theorem use_cells {cs : List T} (h : HasT Tryz.prog 142 cs) : ∃ x : UseD, x.ok ∧ SubT (.agg cs) (useT x) := by
  obtain ⟨hl, hf⟩ := h.struct' Tryz.underlying142
  rw [show Tryz.prog.cellsOf 142 = 4 by kernel_rfl] at hl
  match cs, hl with
  | [c0, c1, c2, c3], _ =>
    have k0 := hf _ List.mem_cons_self
    have k1 := hf _ (List.mem_cons_of_mem _ List.mem_cons_self)
    have k2 := hf _ (List.mem_cons_of_mem _ (List.mem_cons_of_mem _ List.mem_cons_self))
    have k3 := hf _ (List.mem_cons_of_mem _ (List.mem_cons_of_mem _ (List.mem_cons_of_mem _ List.mem_cons_self)))
    simp only [show Tryz.prog.cellsOf 4 = 1 by kernel_rfl, show Tryz.prog.cellsOf 3 = 1 by kernel_rfl, show Tryz.prog.cellsOf 9 = 1 by kernel_rfl, List.drop_zero, List.drop_succ_cons, List.take_succ_cons, List.take_zero] at k0 k1 k2 k3
    obtain ⟨n0, rfl, b0⟩ := str_open Tryz.underlying9 k0
    obtain ⟨n1, rfl, b1⟩ := int_open Tryz.underlying3 k1
    obtain ⟨n2, rfl, b2⟩ := int_open Tryz.underlying3 k2
    obtain ⟨n3, rfl⟩ := bool_open Tryz.underlying4 k3
    exact ⟨⟨n0, n1, n2, n3⟩, ⟨b0, b1, b2⟩, .aggS ⟨.refl _, .refl _, .refl _, .refl _, trivial⟩⟩

theorem use_el {c : List T} (h : HasT Tryz.prog 142 c) : ∃ x : UseD, x.ok ∧ SubT (mkElem 4 c) (useT x) := use_cells h

structure RelaxedD where
  (rel : Int)
  (form : Int)
  (to : Int)
def relaxedT (x : RelaxedD) : T := .agg [.int .i64 x.rel, .int .i64 x.form, .int .i64 x.to]
def RelaxedD.ok (x : RelaxedD) : Prop := I64 x.rel ∧ I64 x.form ∧ I64 x.to

theorem relaxed_cells {cs : List T} (h : HasT Tryz.prog 148 cs) : ∃ x : RelaxedD, x.ok ∧ SubT (.agg cs) (relaxedT x) := by
  obtain ⟨hl, hf⟩ := h.struct' Tryz.underlying148
  rw [show Tryz.prog.cellsOf 148 = 3 by kernel_rfl] at hl
  match cs, hl with
  | [c0, c1, c2], _ =>
    have k0 := hf _ List.mem_cons_self
    have k1 := hf _ (List.mem_cons_of_mem _ List.mem_cons_self)
    have k2 := hf _ (List.mem_cons_of_mem _ (List.mem_cons_of_mem _ List.mem_cons_self))
    simp only [show Tryz.prog.cellsOf 3 = 1 by kernel_rfl, List.drop_zero, List.drop_succ_cons, List.take_succ_cons, List.take_zero] at k0 k1 k2
    obtain ⟨n0, rfl, b0⟩ := int_open Tryz.underlying3 k0
    obtain ⟨n1, rfl, b1⟩ := int_open Tryz.underlying3 k1
    obtain ⟨n2, rfl, b2⟩ := int_open Tryz.underlying3 k2
    exact ⟨⟨n0, n1, n2⟩, ⟨b0, b1, b2⟩, .aggS ⟨.refl _, .refl _, .refl _, trivial⟩⟩

theorem relaxed_el {c : List T} (h : HasT Tryz.prog 148 c) : ∃ x : RelaxedD, x.ok ∧ SubT (mkElem 3 c) (relaxedT x) := relaxed_cells h

structure MacroD where
  (syn : List UInt8)
  (rel : Int)
  (lines : List (List UInt8))
def macroT (x : MacroD) : T := .agg [.str x.syn, .int .i64 x.rel, .vecd 1 (x.lines.map T.str)]
def MacroD.ok (x : MacroD) : Prop := x.syn.length ≤ reachBytes ∧ I64 x.rel ∧ x.lines.length ≤ maxLen ∧ (∀ a ∈ x.lines, (fun s : List UInt8 => s.length ≤ reachBytes) a)

theorem macro_cells {cs : List T} (h : HasT Tryz.prog 153 cs) : ∃ x : MacroD, x.ok ∧ SubT (.agg cs) (macroT x) := by
  obtain ⟨hl, hf⟩ := h.struct' Tryz.underlying153
  rw [show Tryz.prog.cellsOf 153 = 3 by kernel_rfl] at hl
  match cs, hl with
  | [c0, c1, c2], _ =>
    have k0 := hf _ List.mem_cons_self
    have k1 := hf _ (List.mem_cons_of_mem _ List.mem_cons_self)
    have k2 := hf _ (List.mem_cons_of_mem _ (List.mem_cons_of_mem _ List.mem_cons_self))
    simp only [show Tryz.prog.cellsOf 24 = 1 by kernel_rfl, show Tryz.prog.cellsOf 3 = 1 by kernel_rfl, show Tryz.prog.cellsOf 9 = 1 by kernel_rfl, List.drop_zero, List.drop_succ_cons, List.take_succ_cons, List.take_zero] at k0 k1 k2
    obtain ⟨n0, rfl, b0⟩ := str_open Tryz.underlying9 k0
    obtain ⟨n1, rfl, b1⟩ := int_open Tryz.underlying3 k1
    obtain ⟨n2, l2, q2, s2⟩ := slice_open T.str (fun s : List UInt8 => s.length ≤ reachBytes) Tryz.underlying24 (k := 1) (by kernel_rfl) (fun c h => string_el h) k2
    exact ⟨⟨n0, n1, n2⟩, ⟨b0, b1, l2, q2⟩, .aggS ⟨.refl _, .refl _, s2, trivial⟩⟩

theorem macro_el {c : List T} (h : HasT Tryz.prog 153 c) : ∃ x : MacroD, x.ok ∧ SubT (mkElem 3 c) (macroT x) := macro_cells h

structure NamedD where
  (name : List UInt8)
  (num : Int)
def namedT (x : NamedD) : T := .agg [.str x.name, .int .i64 x.num]
def NamedD.ok (x : NamedD) : Prop := x.name.length ≤ reachBytes ∧ I64 x.num

theorem named_cells {cs : List T} (h : HasT Tryz.prog 208 cs) : ∃ x : NamedD, x.ok ∧ SubT (.agg cs) (namedT x) := by
  obtain ⟨hl, hf⟩ := h.struct' Tryz.underlying208
  rw [show Tryz.prog.cellsOf 208 = 2 by kernel_rfl] at hl
  match cs, hl with
  | [c0, c1], _ =>
    have k0 := hf _ List.mem_cons_self
    have k1 := hf _ (List.mem_cons_of_mem _ List.mem_cons_self)
    simp only [show Tryz.prog.cellsOf 3 = 1 by kernel_rfl, show Tryz.prog.cellsOf 9 = 1 by kernel_rfl, List.drop_zero, List.drop_succ_cons, List.take_succ_cons, List.take_zero] at k0 k1
    obtain ⟨n0, rfl, b0⟩ := str_open Tryz.underlying9 k0
    obtain ⟨n1, rfl, b1⟩ := int_open Tryz.underlying3 k1
    exact ⟨⟨n0, n1⟩, ⟨b0, b1⟩, .aggS ⟨.refl _, .refl _, trivial⟩⟩

theorem named_el {c : List T} (h : HasT Tryz.prog 208 c) : ∃ x : NamedD, x.ok ∧ SubT (mkElem 2 c) (namedT x) := named_cells h

structure DescD where
  (name : List UInt8)
  (order : Int)
  (files : List FileD)
  (aliases : List AliasD)
  (flags : List (List UInt8))
  (classes : List ClassD)
  (forms : List FormD)
  (rels : List RelD)
  (uses : List UseD)
  (relaxes : List RelaxedD)
  (macros : List MacroD)
  (nums : List NamedD)
  (regs : List AliasD)
def descT (x : DescD) : T := .agg [.str x.name, .int .i64 x.order, .vecd 4 (x.files.map fileT), .vecd 3 (x.aliases.map aliasT), .vecd 1 (x.flags.map T.str), .vecd 7 (x.classes.map classT), .vecd 5 (x.forms.map formT), .vecd 17 (x.rels.map relT), .vecd 4 (x.uses.map useT), .vecd 3 (x.relaxes.map relaxedT), .vecd 3 (x.macros.map macroT), .vecd 2 (x.nums.map namedT), .vecd 3 (x.regs.map aliasT)]
def DescD.ok (x : DescD) : Prop := x.name.length ≤ reachBytes ∧ I64 x.order ∧ x.files.length ≤ maxLen ∧ (∀ a ∈ x.files, FileD.ok a) ∧ x.aliases.length ≤ maxLen ∧ (∀ a ∈ x.aliases, AliasD.ok a) ∧ x.flags.length ≤ maxLen ∧ (∀ a ∈ x.flags, (fun s : List UInt8 => s.length ≤ reachBytes) a) ∧ x.classes.length ≤ maxLen ∧ (∀ a ∈ x.classes, ClassD.ok a) ∧ x.forms.length ≤ maxLen ∧ (∀ a ∈ x.forms, FormD.ok a) ∧ x.rels.length ≤ maxLen ∧ (∀ a ∈ x.rels, RelD.ok a) ∧ x.uses.length ≤ maxLen ∧ (∀ a ∈ x.uses, UseD.ok a) ∧ x.relaxes.length ≤ maxLen ∧ (∀ a ∈ x.relaxes, RelaxedD.ok a) ∧ x.macros.length ≤ maxLen ∧ (∀ a ∈ x.macros, MacroD.ok a) ∧ x.nums.length ≤ maxLen ∧ (∀ a ∈ x.nums, NamedD.ok a) ∧ x.regs.length ≤ maxLen ∧ (∀ a ∈ x.regs, AliasD.ok a)

theorem desc_cells {cs : List T} (h : HasT Tryz.prog 33 cs) : ∃ x : DescD, x.ok ∧ SubT (.agg cs) (descT x) := by
  obtain ⟨hl, hf⟩ := h.struct' Tryz.underlying33
  rw [show Tryz.prog.cellsOf 33 = 13 by kernel_rfl] at hl
  match cs, hl with
  | [c0, c1, c2, c3, c4, c5, c6, c7, c8, c9, c10, c11, c12], _ =>
    have k0 := hf _ List.mem_cons_self
    have k1 := hf _ (List.mem_cons_of_mem _ List.mem_cons_self)
    have k2 := hf _ (List.mem_cons_of_mem _ (List.mem_cons_of_mem _ List.mem_cons_self))
    have k3 := hf _ (List.mem_cons_of_mem _ (List.mem_cons_of_mem _ (List.mem_cons_of_mem _ List.mem_cons_self)))
    have k4 := hf _ (List.mem_cons_of_mem _ (List.mem_cons_of_mem _ (List.mem_cons_of_mem _ (List.mem_cons_of_mem _ List.mem_cons_self))))
    have k5 := hf _ (List.mem_cons_of_mem _ (List.mem_cons_of_mem _ (List.mem_cons_of_mem _ (List.mem_cons_of_mem _ (List.mem_cons_of_mem _ List.mem_cons_self)))))
    have k6 := hf _ (List.mem_cons_of_mem _ (List.mem_cons_of_mem _ (List.mem_cons_of_mem _ (List.mem_cons_of_mem _ (List.mem_cons_of_mem _ (List.mem_cons_of_mem _ List.mem_cons_self))))))
    have k7 := hf _ (List.mem_cons_of_mem _ (List.mem_cons_of_mem _ (List.mem_cons_of_mem _ (List.mem_cons_of_mem _ (List.mem_cons_of_mem _ (List.mem_cons_of_mem _ (List.mem_cons_of_mem _ List.mem_cons_self)))))))
    have k8 := hf _ (List.mem_cons_of_mem _ (List.mem_cons_of_mem _ (List.mem_cons_of_mem _ (List.mem_cons_of_mem _ (List.mem_cons_of_mem _ (List.mem_cons_of_mem _ (List.mem_cons_of_mem _ (List.mem_cons_of_mem _ List.mem_cons_self))))))))
    have k9 := hf _ (List.mem_cons_of_mem _ (List.mem_cons_of_mem _ (List.mem_cons_of_mem _ (List.mem_cons_of_mem _ (List.mem_cons_of_mem _ (List.mem_cons_of_mem _ (List.mem_cons_of_mem _ (List.mem_cons_of_mem _ (List.mem_cons_of_mem _ List.mem_cons_self)))))))))
    have k10 := hf _ (List.mem_cons_of_mem _ (List.mem_cons_of_mem _ (List.mem_cons_of_mem _ (List.mem_cons_of_mem _ (List.mem_cons_of_mem _ (List.mem_cons_of_mem _ (List.mem_cons_of_mem _ (List.mem_cons_of_mem _ (List.mem_cons_of_mem _ (List.mem_cons_of_mem _ List.mem_cons_self))))))))))
    have k11 := hf _ (List.mem_cons_of_mem _ (List.mem_cons_of_mem _ (List.mem_cons_of_mem _ (List.mem_cons_of_mem _ (List.mem_cons_of_mem _ (List.mem_cons_of_mem _ (List.mem_cons_of_mem _ (List.mem_cons_of_mem _ (List.mem_cons_of_mem _ (List.mem_cons_of_mem _ (List.mem_cons_of_mem _ List.mem_cons_self)))))))))))
    have k12 := hf _ (List.mem_cons_of_mem _ (List.mem_cons_of_mem _ (List.mem_cons_of_mem _ (List.mem_cons_of_mem _ (List.mem_cons_of_mem _ (List.mem_cons_of_mem _ (List.mem_cons_of_mem _ (List.mem_cons_of_mem _ (List.mem_cons_of_mem _ (List.mem_cons_of_mem _ (List.mem_cons_of_mem _ (List.mem_cons_of_mem _ List.mem_cons_self))))))))))))
    simp only [show Tryz.prog.cellsOf 23 = 1 by kernel_rfl, show Tryz.prog.cellsOf 25 = 1 by kernel_rfl, show Tryz.prog.cellsOf 22 = 1 by kernel_rfl, show Tryz.prog.cellsOf 26 = 1 by kernel_rfl, show Tryz.prog.cellsOf 30 = 1 by kernel_rfl, show Tryz.prog.cellsOf 31 = 1 by kernel_rfl, show Tryz.prog.cellsOf 29 = 1 by kernel_rfl, show Tryz.prog.cellsOf 27 = 1 by kernel_rfl, show Tryz.prog.cellsOf 28 = 1 by kernel_rfl, show Tryz.prog.cellsOf 24 = 1 by kernel_rfl, show Tryz.prog.cellsOf 3 = 1 by kernel_rfl, show Tryz.prog.cellsOf 9 = 1 by kernel_rfl, List.drop_zero, List.drop_succ_cons, List.take_succ_cons, List.take_zero] at k0 k1 k2 k3 k4 k5 k6 k7 k8 k9 k10 k11 k12
    obtain ⟨n0, rfl, b0⟩ := str_open Tryz.underlying9 k0
    obtain ⟨n1, rfl, b1⟩ := int_open Tryz.underlying3 k1
    obtain ⟨n2, l2, q2, s2⟩ := slice_open fileT FileD.ok Tryz.underlying22 (k := 4) (by kernel_rfl) (fun c h => file_el h) k2
    obtain ⟨n3, l3, q3, s3⟩ := slice_open aliasT AliasD.ok Tryz.underlying23 (k := 3) (by kernel_rfl) (fun c h => alias_el h) k3
    obtain ⟨n4, l4, q4, s4⟩ := slice_open T.str (fun s : List UInt8 => s.length ≤ reachBytes) Tryz.underlying24 (k := 1) (by kernel_rfl) (fun c h => string_el h) k4
    obtain ⟨n5, l5, q5, s5⟩ := slice_open classT ClassD.ok Tryz.underlying25 (k := 7) (by kernel_rfl) (fun c h => class_el h) k5
    obtain ⟨n6, l6, q6, s6⟩ := slice_open formT FormD.ok Tryz.underlying26 (k := 5) (by kernel_rfl) (fun c h => form_el h) k6
    obtain ⟨n7, l7, q7, s7⟩ := slice_open relT RelD.ok Tryz.underlying27 (k := 17) (by kernel_rfl) (fun c h => rel_el h) k7
    obtain ⟨n8, l8, q8, s8⟩ := slice_open useT UseD.ok Tryz.underlying28 (k := 4) (by kernel_rfl) (fun c h => use_el h) k8
    obtain ⟨n9, l9, q9, s9⟩ := slice_open relaxedT RelaxedD.ok Tryz.underlying29 (k := 3) (by kernel_rfl) (fun c h => relaxed_el h) k9
    obtain ⟨n10, l10, q10, s10⟩ := slice_open macroT MacroD.ok Tryz.underlying30 (k := 3) (by kernel_rfl) (fun c h => macro_el h) k10
    obtain ⟨n11, l11, q11, s11⟩ := slice_open namedT NamedD.ok Tryz.underlying31 (k := 2) (by kernel_rfl) (fun c h => named_el h) k11
    obtain ⟨n12, l12, q12, s12⟩ := slice_open aliasT AliasD.ok Tryz.underlying23 (k := 3) (by kernel_rfl) (fun c h => alias_el h) k12
    exact ⟨⟨n0, n1, n2, n3, n4, n5, n6, n7, n8, n9, n10, n11, n12⟩, ⟨b0, b1, l2, q2, l3, q3, l4, q4, l5, q5, l6, q6, l7, q7, l8, q8, l9, q9, l10, q10, l11, q11, l12, q12⟩, .aggS ⟨.refl _, .refl _, s2, s3, s4, s5, s6, s7, s8, s9, s10, s11, s12, trivial⟩⟩

theorem desc_arg {cs : List T} (h : HasT Tryz.prog 33 cs) : ∃ x : DescD, x.ok ∧ SubT (argOf Tryz.prog 33 cs) (descT x) := by
  have ea : argOf Tryz.prog 33 cs = .agg cs := by unfold argOf; rw [Tryz.underlying33]
  rw [ea]
  exact desc_cells h

end Go.Proofs.YtnjmeadmkbkikaaGreatDoor
