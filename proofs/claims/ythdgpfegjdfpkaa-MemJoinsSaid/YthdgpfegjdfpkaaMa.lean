/-
  Regions as data, how they come in, and their copies.
-/
import Derived.Test.YthdgpfegjdfpkaaGm
namespace Go.Proofs.Ythdgpfegjdfpkaa
open Go.IntWalk
set_option maxRecDepth 100000
set_option linter.unusedVariables false
set_option linter.unusedSimpArgs false

def I64 (n : Int) : Prop := -9223372036854775808 ≤ n ∧ n ≤ 9223372036854775807
theorem i64_of {n : Int} (h : (Lit.int .i64 n).wf = true) : I64 n := i64_wf h

def U (bs : List UInt8) : List T := bs.map fun c => T.int .u8 c.toNat
theorem U_len (bs : List UInt8) : (U bs).length = bs.length := by simp [U]
theorem U_get (bs : List UInt8) (k : Nat) (h : k < bs.length) : (U bs)[k]? = some (.int .u8 (bs[k]'h).toNat) := by simp [U, List.getElem?_map, h]

/-- A region: its address, its permissions, its bytes. -/
structure RegD where
  at_ : Nat
  perm : Int
  bs : List UInt8
def regT (r : RegD) : T := .agg [.int .u64 r.at_, .int .i64 r.perm, .vecd 1 (U r.bs)]
def RegD.ok (r : RegD) : Prop := r.at_ < 18446744073709551616 ∧ I64 r.perm ∧ r.bs.length ≤ 140737488351232

theorem slice_open {α : Type} {P : Program} {t e : TypeId} {k : Nat} (f : α → T) (Q : α → Prop) (ht : P.underlying t = some (.slice e)) (hc : P.cellsOf e = k)
    (hq : ∀ c, HasT P e c → ∃ a, Q a ∧ SubT (mkElem k c) (f a)) {y : T} (hy : HasT P t [y]) : ∃ rs : List α, (rs.length ≤ maxLen ∧ rs.length * P.bytesOf e ≤ reachBytes) ∧ (∀ a ∈ rs, Q a) ∧ SubT y (.vecd k (rs.map f)) := by
  rcases hy.slice' ht with h0 | ⟨l, ⟨hl, hl2⟩, hh, h0⟩
  · obtain rfl : y = .nils := by simpa using h0
    exact ⟨[], by simp, by simp, .nils k⟩
  · rw [hc] at h0
    obtain rfl : y = .vec k (l.map (mkElem k)) := by simpa using h0
    have key : ∀ l : List (List T), (∀ (i : Nat) c, l[i]? = some c → HasT P e c) → ∃ rs : List α, rs.length = l.length ∧ (∀ a ∈ rs, Q a) ∧ SubC (l.map (mkElem k)) (rs.map f) := by
      intro l
      induction l with
      | nil => intro _; exact ⟨[], rfl, by simp, .refl _⟩
      | cons c l ih =>
        intro hh
        obtain ⟨a, q, s⟩ := hq c (hh 0 c rfl)
        obtain ⟨rs, e1, e2, e3⟩ := ih fun i c hi => hh (i + 1) c hi
        refine ⟨a :: rs, by simp [e1], fun x hx => ?_, ?_⟩
        · rcases List.mem_cons.1 hx with rfl | hx
          · exact q
          · exact e2 x hx
        · exact SubC.append (a := [mkElem k c]) (c := [f a]) (.of_sub rfl fun i e e' a b => by
            cases i with
            | zero => simp at a b; subst a b; exact s
            | succ i => simp at a) e3
    obtain ⟨rs, e1, e2, e3⟩ := key l hh
    exact ⟨rs, by rw [e1]; exact ⟨hl, hl2⟩, e2, e3.toVecD k⟩

theorem reg_el {c : List T} (h : HasT Try.prog 41 c) : ∃ x : RegD, x.ok ∧ SubT (mkElem 3 c) (regT x) := by
  obtain ⟨hl, hf⟩ := h.struct' Try.underlying41
  rw [show Try.prog.cellsOf 41 = 3 by kernel_rfl] at hl
  match c, hl with
  | [c0, c1, c2], _ =>
    have k0 := hf _ List.mem_cons_self
    have k1 := hf _ (List.mem_cons_of_mem _ List.mem_cons_self)
    have k2 := hf _ (List.mem_cons_of_mem _ (List.mem_cons_of_mem _ List.mem_cons_self))
    simp only [show Try.prog.cellsOf 23 = 1 by kernel_rfl, show Try.prog.cellsOf 3 = 1 by kernel_rfl, show Try.prog.cellsOf 39 = 1 by kernel_rfl, List.drop_zero, List.drop_succ_cons, List.take_succ_cons, List.take_zero] at k0 k1 k2
    obtain ⟨n0, e0, w0⟩ := k0.int' Try.underlying23
    obtain ⟨n1, e1, w1⟩ := k1.int' Try.underlying3
    simp only [List.cons.injEq, and_true] at e0 e1
    subst e0 e1
    simp only [Lit.wf, Bool.and_eq_true, decide_eq_true_eq] at w0
    have w0 : 0 ≤ n0 ∧ n0 ≤ 18446744073709551615 := w0
    obtain ⟨a, rfl⟩ : ∃ a : Nat, n0 = a := ⟨n0.toNat, by omega⟩
    have ha : a < 18446744073709551616 := by omega
    rcases k2.bytes' Try.underlying39 Try.underlying5 (by kernel_rfl) (by kernel_rfl) with e2 | ⟨bs, hbs, e2⟩
    · simp only [List.cons.injEq, and_true] at e2
      subst e2
      exact ⟨⟨a, n1, []⟩, ⟨ha, i64_of w1, by simp⟩, .aggS ⟨.refl _, .refl _, .nils 1, trivial⟩⟩
    · simp only [List.cons.injEq, and_true] at e2
      subst e2
      exact ⟨⟨a, n1, bs⟩, ⟨ha, i64_of w1, hbs⟩, .aggS ⟨.refl _, .refl _, .vec 1 _, trivial⟩⟩

/-- The regions that come in. -/
theorem regs_arg {cs : List T} (h : HasT Try.prog 22 cs) : ∃ rs : List RegD, rs.length ≤ 3518437208883 ∧ (∀ r ∈ rs, r.ok) ∧ SubT (argOf Try.prog 22 cs) (.vecd 3 (rs.map regT)) := by
  have one : ∃ y, cs = [y] := by
    rcases h.slice' Try.underlying22 with rfl | ⟨_, _, _, rfl⟩
    · exact ⟨_, rfl⟩
    · exact ⟨_, rfl⟩
  obtain ⟨y, rfl⟩ := one
  have e : argOf Try.prog 22 [y] = y := by unfold argOf; rw [Try.underlying22]; rfl
  rw [e]
  obtain ⟨rs, ⟨_, h1⟩, h2, h3⟩ := slice_open regT RegD.ok Try.underlying22 (k := 3) (by kernel_rfl) (fun c hc => reg_el hc) h
  refine ⟨rs, ?_, h2, h3⟩
  rw [show Try.prog.bytesOf 41 = 40 by kernel_rfl] at h1
  simp only [reachBytes] at h1
  omega

end Go.Proofs.Ythdgpfegjdfpkaa
