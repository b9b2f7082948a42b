/-
  The program headers of a sound executable's file are right (plain).
-/
import Derived.Test.YthpkehhghcpolaaDoorExa
namespace Go.Proofs.YthpkehhghcpolaaDoor
open Go.IntWalk
set_option linter.unusedVariables false

theorem i64_band {a b : Nat} (ha : a < 4611686018427387904) (hb : b < 4611686018427387904) : bitsOp .and .i64 (a : Int) (b : Int) = ((a &&& b : Nat) : Int) := by
  have e : bitsOp .and .i64 (a : Int) (b : Int) = IntKind.i64.wrap ((BitVec.ofInt 64 (a : Int) &&& BitVec.ofInt 64 (b : Int)).toNat : Int) := rfl
  have h1 : (BitVec.ofInt 64 (a : Int)).toNat = a := by rw [BitVec.toNat_ofInt]; omega
  have h2 : (BitVec.ofInt 64 (b : Int)).toNat = b := by rw [BitVec.toNat_ofInt]; omega
  have h3 : a &&& b ≤ a := Nat.and_le_left
  rw [e, BitVec.toNat_and, h1, h2, i64_nat (by omega)]

theorem tls_pow {t : SegD} (h : TlsOK t) : ∃ j, j < 64 ∧ t.s.toNat = 2 ^ j := by
  have h1 := h.s1
  have h2 := h.s2
  have h3 := h.p
  obtain ⟨n, hn⟩ := Int.eq_ofNat_of_zero_le (show 0 ≤ t.s by omega)
  rw [hn] at h1 h2 h3 ⊢
  have e : IntKind.i64.wrap ((n : Int) - 1) = ((n - 1 : Nat) : Int) := by rw [i64_int (by omega) (by omega)]; omega
  rw [e, i64_band (by omega) (by omega)] at h3
  rw [Int.toNat_natCast]
  exact (pow64 (by omega) (by omega)).1 (by omega)

theorem hds_len (x : ExeD) : (hdsOf x).length = x.ss.length + x.ts.length := by simp [hdsOf]

theorem hds_ss (x : ExeD) (i : Nat) (h : i < x.ss.length) : (hdsOf x)[i]'(by rw [hds_len]; omega) = ⟨1, x.ss[i].f.toNat, x.ss[i].v.toNat, x.ss[i].s.toNat, 4096, x.ss[i].d⟩ := by
  simp only [hdsOf]
  rw [List.getElem_append_left (by simpa using h)]
  simp

theorem hds_ts (x : ExeD) (i : Nat) (h0 : x.ss.length ≤ i) (h : i < x.ss.length + x.ts.length) : (hdsOf x)[i]'(by rw [hds_len]; omega) = ⟨7, 4, (x.ts[i - x.ss.length]'(by omega)).f.toNat, (x.ts[i - x.ss.length]'(by omega)).v.toNat, (x.ts[i - x.ss.length]'(by omega)).s.toNat, (x.ts[i - x.ss.length]'(by omega)).d⟩ := by
  simp only [hdsOf]
  rw [List.getElem_append_right (by simpa using h0)]
  simp

theorem hd_ok (x : ExeD) (hx : SoundP x) (i : Nat) (hi : i < (hdsOf x).length) : HdOK (hdsOf x)[i] := by
  have hi' : i < x.ss.length + x.ts.length := by rw [← hds_len]; exact hi
  by_cases h : i < x.ss.length
  · rw [hds_ss x i h]
    have q := hx.ss i h
    have a := q.f0; have b := q.f7; have c := addrB_iff.mp q.v; have d := q.s1; have e := q.s2; have f := q.d
    exact ⟨.inl rfl, by simp only; omega, by simp only; omega, by simp only; omega, by simp only; omega, 12, by omega, rfl⟩
  · rw [hds_ts x i (by omega) hi']
    have q := hx.ts (i - x.ss.length) (by omega)
    have c := addrB_iff.mp q.f; have d := q.v0; have e := q.v1; have f := q.d
    exact ⟨.inr rfl, by simp only; omega, by simp only; omega, by simp only; omega, by simp only; omega, tls_pow q⟩

theorem seg_next (x : ExeD) (hx : SoundP x) (i : Nat) (h : i + 1 < x.ss.length) : x.ss[i].v + x.ss[i].s ≤ x.ss[i + 1].v := by
  have q := (hx.ss (i + 1) h).n
  simp only [nxt, List.getElem?_eq_getElem (show i < x.ss.length by omega)] at q
  omega

end Go.Proofs.YthpkehhghcpolaaDoor
