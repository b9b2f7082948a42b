/-
  The ground of the walks of this seat, part PU.
-/
import Derived.Test.YtcogcbplmkcojaaGreatDoorPQ
import Derived.Test.YtcogcbplmkcojaaGreatDoorFg
namespace Go.Proofs.YtcogcbplmkcojaaGreatDoor
open Go.IntWalk
set_option maxRecDepth 100000
set_option linter.unusedVariables false
set_option linter.unusedSimpArgs false
set_option maxHeartbeats 4000000
def ib (t : eU) : T := .agg [.int .i64 t.at_, .int .i64 t.kind, .int .i64 t.num, .int .i64 0, .str t.word]
def LZ : List AV := [.t (.int .i64 0), .t (.int .i64 0), .t (.int .i64 0), .t (.int .i64 0), .t (.str [])]
theorem K0 {c : UInt8} (h : nM c = true) : 32 ≤ c.toNat ∧ c.toNat ≤ 126 ∧ c.toNat ≠ 34 := by
 unfold nM at h
 simp only [im, sR, Bool.and_eq_true, Bool.not_eq_true', decide_eq_true_eq, decide_eq_false_iff_not] at h
 exact ⟨h.1.1, h.1.2, h.2⟩
theorem jP {l : List UInt8} {i j : Nat} : (l.drop i)[j]? = l[i + j]? := by rw [List.getElem?_drop]
theorem EN {s : List UInt8} (hs : s.length ≤ 65536) {i n : Nat} (hi : i < s.length) (hn : n = aS nM (s.drop (i + 1))) (hq : s[i + 1 + n]? = some 34) :
 φ Tryz.prog 107 [.str s, .int .i64 i] (.ao [.t (ib ⟨i, 3, 0, (s.drop (i + 1)).take n⟩), .t (.int .i64 (i + 1 + n + 1 : Nat))]) := by
 have χ : i + 1 + n < s.length := (List.getElem?_eq_some_iff.1 hq).1
 have cT := gJ nM (s.drop (i + 1))
 rw [← hn] at cT
 refine φ.Λ ?_ rfl
 refine γ.ο ζ η Tryz.func107 rfl rfl ?_
 refine δ (n := ((i + 1 : Nat) : Int)) (ag (n := i + 1) (by omega)) ?_
 refine ak (fun j : Nat => i + 1 ≤ j ∧ j ≤ i + 1 + n) (fun j => ⟨[(0, .t (.str s)), (1, .t (.int .i64 i)), (4, .ptr 0 0 0 0), (6, .t (.int .i64 j))], [.box LZ]⟩) (fun j => s.length - j) (i + 1) ⟨Nat.le_refl _, by omega⟩ ?_ (fun j ⟨pk, pX⟩ => ?_)
 ·exact π [0] rfl ⟨rfl, rfl, rfl, rfl, trivial⟩ ⟨rfl, trivial⟩
 have pk : i + 1 ≤ j := pk
 have pX : j ≤ i + 1 + n := pX
 refine U (fun c => ?_) (fun c => absurd (dE c) (by omega))
 obtain ⟨x, hx, cX⟩ := get_some (R := s) (i := j) (by omega)
 have eZ : s[((j : Nat) : Int).toNat]? = some x := by rw [Int.toNat_natCast]; exact hx
 by_cases he : j = i + 1 + n
 ·subst he
  rw [hx] at hq
  obtain rfl := Option.some.inj hq
  refine ξ eZ ?_
  refine ξ eZ ?_
  refine δ (n := ((i + 1 : Nat) : Int)) (ag (n := i + 1) (by omega)) ?_
  refine ε (by simp; omega) ?_
  refine ε (by simp; omega) ?_
  refine δ (n := ((i + 1 + n + 1 : Nat) : Int)) (ag (n := i + 1 + n + 1) (by omega)) ?_
  exact And.intro ⟨congrArg (fun l => some (T.agg [.int .i64 i, .int .i64 3, .int .i64 0, .int .i64 0, .str l])) (show (s.drop (i + 1)).take (i + 1 + n - (i + 1)) = (s.drop (i + 1)).take n by rw [Nat.add_sub_cancel_left]), rfl, trivial⟩ rfl
 ·have Ay := K0 (cT (j - (i + 1)) x (by omega) (by rw [jP, show i + 1 + (j - (i + 1)) = j by omega]; exact hx))
  refine ξ eZ ?_
  refine U (fun _ => ?_) (fun c => absurd (su (k := 10) c) (by omega))
  refine ξ eZ ?_
  refine U (fun c => absurd (eV (k := 34) c) Ay.2.2) (fun _ => ?_)
  refine ξ eZ ?_
  refine U (fun c => absurd (of_decide_eq_true c) (by omega)) (fun _ => ?_)
  refine ξ eZ ?_
  refine U (fun c => absurd (of_decide_eq_true c) (by omega)) (fun _ => ?_)
  refine δ (n := ((j + 1 : Nat) : Int)) (ag (n := j + 1) (by omega)) ?_
  conv => whnf
  exact ⟨⟨j + 1, by omega, by omega⟩, π [0] rfl ⟨rfl, rfl, rfl, rfl, trivial⟩ ⟨rfl, trivial⟩, by show s.length - (j + 1) < s.length - j; omega⟩
inductive Qt (f : Nat) (c : UInt8) (r : List UInt8) (a : Nat) (acc out : List eU) : Prop where
 | blank (h : c = 32 ∨ c = 10) (k : fH f r (a + 1) acc = some out)
 | line (h : c = 59) (k : fH f (r.drop (aS j5 r)) (a + 1 + aS j5 r) acc = some out)
 | op (h : c = 40) (k : fH f r (a + 1) (⟨a, 4, 0, []⟩ :: acc) = some out)
 | cl (h : c = 41) (k : fH f r (a + 1) (⟨a, 5, 0, []⟩ :: acc) = some out)
 | text (n : Nat) (hn : n = aS nM r) (h : c = 34) (hq : r[n]? = some 34) (k : fH f (r.drop (n + 1)) (a + 1 + n + 1) (⟨a, 3, 0, r.take n⟩ :: acc) = some out)
 | num (n : Nat) (hn : n = aS eG r) (h : eG c = true) (hd : c.toNat = 45 ∨ 48 ≤ c.toNat ∧ c.toNat ≤ 57) (v : Int) (hv : u_ (c :: r.take n) = some v) (k : fH f (r.drop n) (a + 1 + n) (⟨a, 2, v, []⟩ :: acc) = some out)
 | word (n : Nat) (hn : n = aS eG r) (h : eG c = true) (hd : ¬ (c.toNat = 45 ∨ 48 ≤ c.toNat ∧ c.toNat ≤ 57)) (k : fH f (r.drop n) (a + 1 + n) (⟨a, 1, 0, c :: r.take n⟩ :: acc) = some out)
theorem vd {f : Nat} {c : UInt8} {r : List UInt8} {a : Nat} {acc out : List eU} (h : fH (f + 1) (c :: r) a acc = some out) : Qt f c r a acc out := by
 unfold fH at h
 simp only [im] at h
 split at h
 ·rename_i e
  simp only [Bool.or_eq_true, decide_eq_true_eq] at e
  exact .blank (e.imp (fun e => UInt8.toNat.inj e) (fun e => UInt8.toNat.inj e)) h
 split at h
 ·rename_i e
  simp only [decide_eq_true_eq] at e
  exact .line (UInt8.toNat.inj e) h
 split at h
 ·rename_i e
  simp only [decide_eq_true_eq] at e
  exact .op (UInt8.toNat.inj e) h
 split at h
 ·rename_i e
  simp only [decide_eq_true_eq] at e
  exact .cl (UInt8.toNat.inj e) h
 split at h
 ·rename_i e
  simp only [decide_eq_true_eq] at e
  split at h
  ·rename_i q r' hq
   split at h
   ·rename_i e2
    simp only [decide_eq_true_eq] at e2
    obtain rfl : q = 34 := UInt8.toNat.inj e2
    have h0 : r[aS nM r]? = some 34 := by
     have := congrArg (·[0]?) hq
     simpa using this
    have h1 : r.drop (aS nM r + 1) = r' := by rw [← List.drop_drop, hq]; rfl
    refine .text _ rfl (UInt8.toNat.inj e) h0 ?_
    rw [h1, show a + 1 + aS nM r + 1 = a + aS nM r + 2 by omega]
    exact h
   ·cases h
  ·cases h
 split at h
 ·cases h
 rename_i hr
 split at h
 ·rename_i e
  simp only [tA, sR, Bool.or_eq_true, Bool.and_eq_true, decide_eq_true_eq] at e
  split at h
  ·rename_i v hv
   exact .num _ rfl hr e v hv h
  ·cases h
 ·rename_i e
  simp only [tA, sR, Bool.or_eq_false_iff, Bool.and_eq_false_iff, decide_eq_false_iff_not] at e
  exact .word _ rfl hr (by omega) h
end Go.Proofs.YtcogcbplmkcojaaGreatDoor
namespace Go.Proofs.YtcogcbplmkcojaaGreatDoor
open Go.IntWalk
set_option maxRecDepth 100000
set_option linter.unusedVariables false
set_option linter.unusedSimpArgs false
set_option maxHeartbeats 4000000
theorem ia (acc : List eU) (t : eU) : some (Ψ.arr 131 5 false 0 (.ts (acc.reverse.map ib ++ [ib t]))) = some (Ψ.arr 131 5 false 0 (.ts ((t :: acc).reverse.map ib))) := by rw [List.reverse_cons, List.map_append]; rfl
theorem BX {s : List UInt8} {i n : Nat} {c : UInt8} (hc : s[i]? = some c) : (s.drop i).take (i + 1 + n - i) = c :: (s.drop (i + 1)).take n := by
 rw [drop_cons hc, show i + 1 + n - i = n + 1 by omega, List.take_succ_cons]
theorem IU {c : UInt8} (h : j5 c = true) : c.toNat ≠ 10 := by
 unfold j5 at h
 simpa [im] using h
theorem IV {c : UInt8} (h : j5 c = false) : c.toNat = 10 := by
 unfold j5 at h
 simpa [im] using h
theorem B5 {c : UInt8} (h : eG c = true) : 32 < c.toNat ∧ c.toNat < 127 ∧ c.toNat ≠ 40 ∧ c.toNat ≠ 41 ∧ c.toNat ≠ 34 ∧ c.toNat ≠ 59 := by
 unfold eG at h
 simp only [im, IP, Bool.and_eq_true, Bool.not_eq_true', decide_eq_true_eq, decide_eq_false_iff_not] at h
 omega
theorem k_ : ∀ (f : Nat) (r : List UInt8) (a : Nat) (acc : List eU) {out : List eU}, fH f r a acc = some out → acc.length ≤ a → out.length ≤ a + r.length
 | f, [], a, acc, out, h, hl => by
  have hx : acc = out := by
   cases f <;> (unfold fH at h; exact Option.some.inj h)
  subst hx
  omega
 | 0, _ :: _, a, acc, out, h, _ => by cases h
 | f + 1, c :: r, a, acc, out, h, hl => by
  have e : (c :: r).length = r.length + 1 := rfl
  rcases vd h with ⟨_, k⟩ | ⟨_, k⟩ | ⟨_, k⟩ | ⟨_, k⟩ | ⟨n, _, _, hq, k⟩ | ⟨n, hn, _, _, v, _, k⟩ | ⟨n, hn, _, _, k⟩
  ·have := k_ f _ _ _ k (by omega); omega
  ·have h1 := fP j5 r
   have := k_ f _ _ _ k (by omega)
   rw [List.length_drop] at this
   omega
  ·have := k_ f _ _ _ k (by rw [List.length_cons]; omega); omega
  ·have := k_ f _ _ _ k (by rw [List.length_cons]; omega); omega
  ·have h1 : n < r.length := (List.getElem?_eq_some_iff.1 hq).1
   have := k_ f _ _ _ k (by rw [List.length_cons]; omega)
   rw [List.length_drop] at this
   omega
  ·have h1 := fP eG r
   rw [← hn] at h1
   have := k_ f _ _ _ k (by rw [List.length_cons]; omega)
   rw [List.length_drop] at this
   omega
  ·have h1 := fP eG r
   rw [← hn] at h1
   have := k_ f _ _ _ k (by rw [List.length_cons]; omega)
   rw [List.length_drop] at this
   omega
theorem BB {s : List UInt8} (hs : s.length ≤ 65536) {out : List eU} (h : fH s.length s 0 [] = some out) : φ Tryz.prog 47 [.str s] (.own 131 5 false (out.reverse.map ib)) ∧ out.length ≤ 65536 := by
 refine ⟨?_, by have := k_ _ _ _ _ h (Nat.zero_le _); omega⟩
 refine φ.fR ?_ rfl
 refine γ.ο ζ η Tryz.func47 rfl rfl ?_
 refine ak (fun x : Nat × Nat × List eU => fH x.1 (s.drop x.2.1) x.2.1 x.2.2 = some out ∧ x.2.1 ≤ s.length ∧ x.2.2.length ≤ x.2.1) (fun x : Nat × Nat × List eU => ⟨[(0, .t (.str s)), (3, .sl 0 0 0 x.2.2.length), (4, .t (.int .i64 (x.2.1 : Nat)))], [.arr 131 5 false 0 (.ts (x.2.2.reverse.map ib))]⟩) (fun x => s.length - x.2.1) (s.length, 0, []) ⟨h, Nat.zero_le _, Nat.le_refl _⟩ ?_ (fun ⟨f, i, acc⟩ ⟨hx, hi, Nx⟩ => ?_)
 ·exact π [1] rfl ⟨rfl, rfl, rfl, trivial⟩ ⟨rfl, trivial⟩
 have hx : fH f (s.drop i) i acc = some out := hx
 have hi : i ≤ s.length := hi
 have Nx : acc.length ≤ i := Nx
 refine U (fun c => ?_) (fun c => ?_)
 ·have cm : i < s.length := dn c
  clear c
  obtain ⟨x, ji, cX⟩ := get_some (R := s) (i := i) cm
  have eZ : s[((i : Nat) : Int).toNat]? = some x := by rw [Int.toNat_natCast]; exact ji
  rw [drop_cons ji] at hx
  cases f with
  | zero => cases hx
  | succ f =>
  have bX : acc.length + 1 ≤ 100000 := by omega
  have og : acc.length = (acc.reverse.map ib).length := by simp
  refine ξ eZ ?_
  refine δ (n := ((i + 1 : Nat) : Int)) (ag (n := i + 1) (by omega)) ?_
  rcases vd hx with ⟨h, k⟩ | ⟨h, k⟩ | ⟨h, k⟩ | ⟨h, k⟩ | ⟨n, hn, h, hq, k⟩ | ⟨n, hn, h, hd, v, hv, k⟩ | ⟨n, hn, h, hd, k⟩
  ·rcases h with rfl | rfl
   ·refine δ (n := ((i + 1 : Nat) : Int)) (ag (n := i + 1) (by omega)) ?_
    conv => whnf
    exact ⟨⟨(f, i + 1, acc), k, by show i + 1 ≤ s.length; omega, by show acc.length ≤ i + 1; omega⟩, π [0] rfl ⟨rfl, rfl, rfl, trivial⟩ ⟨rfl, trivial⟩, by show s.length - (i + 1) < s.length - i; omega⟩
   ·refine δ (n := ((i + 1 : Nat) : Int)) (ag (n := i + 1) (by omega)) ?_
    conv => whnf
    exact ⟨⟨(f, i + 1, acc), k, by show i + 1 ≤ s.length; omega, by show acc.length ≤ i + 1; omega⟩, π [0] rfl ⟨rfl, rfl, rfl, trivial⟩ ⟨rfl, trivial⟩, by show s.length - (i + 1) < s.length - i; omega⟩
  ·subst h
   obtain ⟨n, hn⟩ : ∃ n, n = aS j5 (s.drop (i + 1)) := ⟨_, rfl⟩
   have hle := fP j5 (s.drop (i + 1))
   have cT := gJ j5 (s.drop (i + 1))
   have gP := iS j5 (s.drop (i + 1))
   rw [← hn] at k hle cT gP
   rw [List.length_drop] at hle
   rw [List.drop_drop] at k
   refine ak (fun j : Nat => i ≤ j ∧ j ≤ i + 1 + n) (fun j => ⟨[(0, .t (.str s)), (3, .sl 0 0 0 acc.length), (4, .t (.int .i64 (j : Nat)))], [.arr 131 5 false 0 (.ts (acc.reverse.map ib))]⟩) (fun j => s.length - j) i ⟨Nat.le_refl _, by omega⟩ ?_ (fun j ⟨pk, pX⟩ => ?_)
   ·exact π [0] rfl ⟨rfl, rfl, rfl, trivial⟩ ⟨rfl, trivial⟩
   have pk : i ≤ j := pk
   have pX : j ≤ i + 1 + n := pX
   refine U (fun cj => ?_) (fun cj => ?_)
   ·have cj : j < s.length := dn cj
    obtain ⟨y, hy, _⟩ := get_some (R := s) (i := j) cj
    have Gj : s[((j : Nat) : Int).toNat]? = some y := by rw [Int.toNat_natCast]; exact hy
    refine ξ Gj ?_
    refine U (fun e => ?_) (fun e => ?_)
    ·have e := uP (k := 10) e
     have χ : j < i + 1 + n := by
      rcases Nat.lt_or_ge j (i + 1 + n) with h1 | h1
      ·exact h1
      ·obtain rfl : j = i + 1 + n := by omega
       exact absurd (IV (gP y (by rw [jP]; exact hy))) e
     refine δ (n := ((j + 1 : Nat) : Int)) (ag (n := j + 1) (by omega)) ?_
     conv => whnf
     exact ⟨⟨j + 1, by omega, by omega⟩, π [0] rfl ⟨rfl, rfl, rfl, trivial⟩ ⟨rfl, trivial⟩, by show s.length - (j + 1) < s.length - j; omega⟩
    ·have e := su (k := 10) e
     have : j = i + 1 + n := by
      rcases Nat.lt_or_ge j (i + 1 + n) with h1 | h1
      ·rcases Nat.eq_or_lt_of_le pk with h2 | h2
       ·subst h2
        rw [ji] at hy
        obtain rfl := Option.some.inj hy
        exact absurd e (by decide)
       ·exact absurd e (IU (cT (j - (i + 1)) y (by omega) (by rw [jP, show i + 1 + (j - (i + 1)) = j by omega]; exact hy)))
      ·omega
     subst this
     conv => whnf
     exact ⟨⟨(f, i + 1 + n, acc), k, by show i + 1 + n ≤ s.length; omega, by show acc.length ≤ i + 1 + n; omega⟩, π [0] rfl ⟨rfl, rfl, rfl, trivial⟩ ⟨rfl, trivial⟩, by show s.length - (i + 1 + n) < s.length - i; omega⟩
   ·have cj : s.length ≤ j := dE cj
    obtain rfl : j = i + 1 + n := by omega
    conv => whnf
    exact ⟨⟨(f, i + 1 + n, acc), k, by show i + 1 + n ≤ s.length; omega, by show acc.length ≤ i + 1 + n; omega⟩, π [0] rfl ⟨rfl, rfl, rfl, trivial⟩ ⟨rfl, trivial⟩, by show s.length - (i + 1 + n) < s.length - i; omega⟩
  ·subst h
   refine Or.inl (And.intro og (ε (cg bX rfl) ?_))
   conv => whnf
   exact ⟨⟨(f, i + 1, ⟨i, 4, 0, []⟩ :: acc), k, by show i + 1 ≤ s.length; omega, by show acc.length + 1 ≤ i + 1; omega⟩, π [0] rfl ⟨rfl, rfl, rfl, trivial⟩ ⟨ia acc ⟨i, 4, 0, []⟩, trivial⟩, by show s.length - (i + 1) < s.length - i; omega⟩
  ·subst h
   refine Or.inl (And.intro og (ε (cg bX rfl) ?_))
   conv => whnf
   exact ⟨⟨(f, i + 1, ⟨i, 5, 0, []⟩ :: acc), k, by show i + 1 ≤ s.length; omega, by show acc.length + 1 ≤ i + 1; omega⟩, π [0] rfl ⟨rfl, rfl, rfl, trivial⟩ ⟨ia acc ⟨i, 5, 0, []⟩, trivial⟩, by show s.length - (i + 1) < s.length - i; omega⟩
  ·subst h
   rw [jP] at hq
   rw [List.drop_drop] at k
   have χ : i + 1 + n < s.length := (List.getElem?_eq_some_iff.1 hq).1
   have hT := EN hs cm hn hq
   refine γ.pure hT rfl ?_
   refine Or.inl (And.intro og (ε (cg bX rfl) ?_))
   conv => whnf
   exact ⟨⟨(f, i + 1 + n + 1, ⟨i, 3, 0, (s.drop (i + 1)).take n⟩ :: acc), k, by show i + 1 + n + 1 ≤ s.length; omega, by show acc.length + 1 ≤ i + 1 + n + 1; omega⟩, π [0] rfl ⟨rfl, rfl, rfl, trivial⟩ ⟨ia acc ⟨i, 3, 0, (s.drop (i + 1)).take n⟩, trivial⟩, by show s.length - (i + 1 + n + 1) < s.length - i; omega⟩
  ·have hr := B5 h
   have hle := fP eG (s.drop (i + 1))
   have cT := gJ eG (s.drop (i + 1))
   have gP := iS eG (s.drop (i + 1))
   rw [← hn] at hle cT gP
   rw [List.length_drop] at hle
   rw [List.drop_drop] at k
   have GA := tZ x
   rw [h] at GA
   have hW : (s.drop i).take (i + 1 + n - i) = x :: (s.drop (i + 1)).take n := BX ji
   refine U (fun e => absurd (eV (k := 32) e) (by omega)) (fun _ => ?_)
   refine U (fun e => absurd (eV (k := 10) e) (by omega)) (fun _ => ?_)
   refine U (fun e => absurd (eV (k := 59) e) (by omega)) (fun _ => ?_)
   refine U (fun e => absurd (eV (k := 40) e) (by omega)) (fun _ => ?_)
   refine U (fun e => absurd (eV (k := 41) e) (by omega)) (fun _ => ?_)
   refine U (fun e => absurd (eV (k := 34) e) (by omega)) (fun _ => ?_)
   refine γ.pure GA rfl ?_
   refine ak (fun j : Nat => i + 1 ≤ j ∧ j ≤ i + 1 + n) (fun j => ⟨[(0, .t (.str s)), (3, .sl 0 0 0 acc.length), (4, .t (.int .i64 (i : Nat))), (5, .t (.int .u8 x.toNat)), (6, .ptr 1 0 0 0), (7, .t (.int .i64 (j : Nat)))], [.arr 131 5 false 0 (.ts (acc.reverse.map ib)), .box [.t (.int .i64 i), .t (.int .i64 6), .t (.int .i64 0), .t (.int .i64 i), .t (.str [])]]⟩) (fun j => s.length - j) (i + 1) ⟨Nat.le_refl _, by omega⟩ ?_ (fun j ⟨pk, pX⟩ => ?_)
   ·exact π [0, 1] rfl ⟨rfl, rfl, rfl, rfl, rfl, rfl, trivial⟩ ⟨rfl, rfl, trivial⟩
   have pk : i + 1 ≤ j := pk
   have pX : j ≤ i + 1 + n := pX
   refine U (fun cj => ?_) (fun cj => ?_)
   ·have cj : j < s.length := dn cj
    obtain ⟨y, hy, _⟩ := get_some (R := s) (i := j) cj
    have Gj : s[((j : Nat) : Int).toNat]? = some y := by rw [Int.toNat_natCast]; exact hy
    have wA := tZ y
    refine ξ Gj ?_
    cases mb : eG y with
    | true =>
     rw [mb] at wA
     refine γ.pure wA rfl ?_
     have χ : j < i + 1 + n := by
      rcases Nat.lt_or_ge j (i + 1 + n) with h1 | h1
      ·exact h1
      ·obtain rfl : j = i + 1 + n := by omega
       have := gP y (by rw [jP]; exact hy)
       rw [mb] at this
       cases this
     refine δ (n := ((j + 1 : Nat) : Int)) (ag (n := j + 1) (by omega)) ?_
     conv => whnf
     exact ⟨⟨j + 1, by omega, by omega⟩, π [0, 1] rfl ⟨rfl, rfl, rfl, rfl, rfl, rfl, trivial⟩ ⟨rfl, rfl, trivial⟩, by show s.length - (j + 1) < s.length - j; omega⟩
    | false =>
     rw [mb] at wA
     refine γ.pure wA rfl ?_
     have : j = i + 1 + n := by
      rcases Nat.lt_or_ge j (i + 1 + n) with h1 | h1
      ·have := cT (j - (i + 1)) y (by omega) (by rw [jP, show i + 1 + (j - (i + 1)) = j by omega]; exact hy)
       rw [mb] at this
       cases this
      ·omega
     subst this
     refine ε (by simp; omega) ?_
     refine ε (by simp; omega) ?_
     have hN : φ Tryz.prog 109 [.str ((s.drop i).take (i + 1 + n - i))] (.ao [.t (.int .i64 v), .t (.bool true)]) := by rw [hW]; exact ql hv
     refine U (fun e => ?_) (fun e => ?_)
     ·refine γ.pure hN rfl ?_
      refine Or.inl (And.intro og (ε (cg bX rfl) ?_))
      conv => whnf
      exact ⟨⟨(f, i + 1 + n, ⟨i, 2, v, []⟩ :: acc), k, by show i + 1 + n ≤ s.length; omega, by show acc.length + 1 ≤ i + 1 + n; omega⟩, π [0] rfl ⟨rfl, rfl, rfl, trivial⟩ ⟨ia acc ⟨i, 2, v, []⟩, trivial⟩, by show s.length - (i + 1 + n) < s.length - i; omega⟩
     ·have e := vA (k := 45) e
      refine U (fun _ => ?_) (fun c => absurd (of_decide_eq_false c) (by omega))
      refine U (fun _ => ?_) (fun c => absurd (of_decide_eq_false c) (by omega))
      refine γ.pure hN rfl ?_
      refine Or.inl (And.intro og (ε (cg bX rfl) ?_))
      conv => whnf
      exact ⟨⟨(f, i + 1 + n, ⟨i, 2, v, []⟩ :: acc), k, by show i + 1 + n ≤ s.length; omega, by show acc.length + 1 ≤ i + 1 + n; omega⟩, π [0] rfl ⟨rfl, rfl, rfl, trivial⟩ ⟨ia acc ⟨i, 2, v, []⟩, trivial⟩, by show s.length - (i + 1 + n) < s.length - i; omega⟩
   ·have cj : s.length ≤ j := dE cj
    obtain rfl : j = i + 1 + n := by omega
    refine ε (by simp; omega) ?_
    refine ε (by simp; omega) ?_
    have hN : φ Tryz.prog 109 [.str ((s.drop i).take (i + 1 + n - i))] (.ao [.t (.int .i64 v), .t (.bool true)]) := by rw [hW]; exact ql hv
    refine U (fun e => ?_) (fun e => ?_)
    ·refine γ.pure hN rfl ?_
     refine Or.inl (And.intro og (ε (cg bX rfl) ?_))
     conv => whnf
     exact ⟨⟨(f, i + 1 + n, ⟨i, 2, v, []⟩ :: acc), k, by show i + 1 + n ≤ s.length; omega, by show acc.length + 1 ≤ i + 1 + n; omega⟩, π [0] rfl ⟨rfl, rfl, rfl, trivial⟩ ⟨ia acc ⟨i, 2, v, []⟩, trivial⟩, by show s.length - (i + 1 + n) < s.length - i; omega⟩
    ·have e := vA (k := 45) e
     refine U (fun _ => ?_) (fun c => absurd (of_decide_eq_false c) (by omega))
     refine U (fun _ => ?_) (fun c => absurd (of_decide_eq_false c) (by omega))
     refine γ.pure hN rfl ?_
     refine Or.inl (And.intro og (ε (cg bX rfl) ?_))
     conv => whnf
     exact ⟨⟨(f, i + 1 + n, ⟨i, 2, v, []⟩ :: acc), k, by show i + 1 + n ≤ s.length; omega, by show acc.length + 1 ≤ i + 1 + n; omega⟩, π [0] rfl ⟨rfl, rfl, rfl, trivial⟩ ⟨ia acc ⟨i, 2, v, []⟩, trivial⟩, by show s.length - (i + 1 + n) < s.length - i; omega⟩
  ·have hr := B5 h
   have hle := fP eG (s.drop (i + 1))
   have cT := gJ eG (s.drop (i + 1))
   have gP := iS eG (s.drop (i + 1))
   rw [← hn] at hle cT gP
   rw [List.length_drop] at hle
   rw [List.drop_drop] at k
   have GA := tZ x
   rw [h] at GA
   have hW : (s.drop i).take (i + 1 + n - i) = x :: (s.drop (i + 1)).take n := BX ji
   refine U (fun e => absurd (eV (k := 32) e) (by omega)) (fun _ => ?_)
   refine U (fun e => absurd (eV (k := 10) e) (by omega)) (fun _ => ?_)
   refine U (fun e => absurd (eV (k := 59) e) (by omega)) (fun _ => ?_)
   refine U (fun e => absurd (eV (k := 40) e) (by omega)) (fun _ => ?_)
   refine U (fun e => absurd (eV (k := 41) e) (by omega)) (fun _ => ?_)
   refine U (fun e => absurd (eV (k := 34) e) (by omega)) (fun _ => ?_)
   refine γ.pure GA rfl ?_
   refine ak (fun j : Nat => i + 1 ≤ j ∧ j ≤ i + 1 + n) (fun j => ⟨[(0, .t (.str s)), (3, .sl 0 0 0 acc.length), (4, .t (.int .i64 (i : Nat))), (5, .t (.int .u8 x.toNat)), (6, .ptr 1 0 0 0), (7, .t (.int .i64 (j : Nat)))], [.arr 131 5 false 0 (.ts (acc.reverse.map ib)), .box [.t (.int .i64 i), .t (.int .i64 6), .t (.int .i64 0), .t (.int .i64 i), .t (.str [])]]⟩) (fun j => s.length - j) (i + 1) ⟨Nat.le_refl _, by omega⟩ ?_ (fun j ⟨pk, pX⟩ => ?_)
   ·exact π [0, 1] rfl ⟨rfl, rfl, rfl, rfl, rfl, rfl, trivial⟩ ⟨rfl, rfl, trivial⟩
   have pk : i + 1 ≤ j := pk
   have pX : j ≤ i + 1 + n := pX
   refine U (fun cj => ?_) (fun cj => ?_)
   ·have cj : j < s.length := dn cj
    obtain ⟨y, hy, _⟩ := get_some (R := s) (i := j) cj
    have Gj : s[((j : Nat) : Int).toNat]? = some y := by rw [Int.toNat_natCast]; exact hy
    have wA := tZ y
    refine ξ Gj ?_
    cases mb : eG y with
    | true =>
     rw [mb] at wA
     refine γ.pure wA rfl ?_
     have χ : j < i + 1 + n := by
      rcases Nat.lt_or_ge j (i + 1 + n) with h1 | h1
      ·exact h1
      ·obtain rfl : j = i + 1 + n := by omega
       have := gP y (by rw [jP]; exact hy)
       rw [mb] at this
       cases this
     refine δ (n := ((j + 1 : Nat) : Int)) (ag (n := j + 1) (by omega)) ?_
     conv => whnf
     exact ⟨⟨j + 1, by omega, by omega⟩, π [0, 1] rfl ⟨rfl, rfl, rfl, rfl, rfl, rfl, trivial⟩ ⟨rfl, rfl, trivial⟩, by show s.length - (j + 1) < s.length - j; omega⟩
    | false =>
     rw [mb] at wA
     refine γ.pure wA rfl ?_
     have : j = i + 1 + n := by
      rcases Nat.lt_or_ge j (i + 1 + n) with h1 | h1
      ·have := cT (j - (i + 1)) y (by omega) (by rw [jP, show i + 1 + (j - (i + 1)) = j by omega]; exact hy)
       rw [mb] at this
       cases this
      ·omega
     subst this
     refine ε (by simp; omega) ?_
     refine ε (by simp; omega) ?_
     refine U (fun e => absurd (eV (k := 45) e) (by omega)) (fun _ => ?_)
     refine U (fun e => ?_) (fun e => ?_)
     ·have e := of_decide_eq_true e
      refine U (fun e2 => absurd (of_decide_eq_true e2) (by omega)) (fun _ => ?_)
      refine Or.inl (And.intro og (ε (cg bX rfl) ?_))
      conv => whnf
      exact ⟨⟨(f, i + 1 + n, ⟨i, 1, 0, x :: (s.drop (i + 1)).take n⟩ :: acc), k, by show i + 1 + n ≤ s.length; omega, by show acc.length + 1 ≤ i + 1 + n; omega⟩, π [0] rfl ⟨rfl, rfl, rfl, trivial⟩ ⟨(congrArg (fun w => some (Ψ.arr 131 5 false 0 (.ts (acc.reverse.map ib ++ [ib ⟨i, 1, 0, w⟩])))) hW).trans (ia acc ⟨i, 1, 0, x :: (s.drop (i + 1)).take n⟩), trivial⟩, by show s.length - (i + 1 + n) < s.length - i; omega⟩
     ·refine Or.inl (And.intro og (ε (cg bX rfl) ?_))
      conv => whnf
      exact ⟨⟨(f, i + 1 + n, ⟨i, 1, 0, x :: (s.drop (i + 1)).take n⟩ :: acc), k, by show i + 1 + n ≤ s.length; omega, by show acc.length + 1 ≤ i + 1 + n; omega⟩, π [0] rfl ⟨rfl, rfl, rfl, trivial⟩ ⟨(congrArg (fun w => some (Ψ.arr 131 5 false 0 (.ts (acc.reverse.map ib ++ [ib ⟨i, 1, 0, w⟩])))) hW).trans (ia acc ⟨i, 1, 0, x :: (s.drop (i + 1)).take n⟩), trivial⟩, by show s.length - (i + 1 + n) < s.length - i; omega⟩
   ·have cj : s.length ≤ j := dE cj
    obtain rfl : j = i + 1 + n := by omega
    refine ε (by simp; omega) ?_
    refine ε (by simp; omega) ?_
    refine U (fun e => absurd (eV (k := 45) e) (by omega)) (fun _ => ?_)
    refine U (fun e => ?_) (fun e => ?_)
    ·have e := of_decide_eq_true e
     refine U (fun e2 => absurd (of_decide_eq_true e2) (by omega)) (fun _ => ?_)
     refine Or.inl (And.intro og (ε (cg bX rfl) ?_))
     conv => whnf
     exact ⟨⟨(f, i + 1 + n, ⟨i, 1, 0, x :: (s.drop (i + 1)).take n⟩ :: acc), k, by show i + 1 + n ≤ s.length; omega, by show acc.length + 1 ≤ i + 1 + n; omega⟩, π [0] rfl ⟨rfl, rfl, rfl, trivial⟩ ⟨(congrArg (fun w => some (Ψ.arr 131 5 false 0 (.ts (acc.reverse.map ib ++ [ib ⟨i, 1, 0, w⟩])))) hW).trans (ia acc ⟨i, 1, 0, x :: (s.drop (i + 1)).take n⟩), trivial⟩, by show s.length - (i + 1 + n) < s.length - i; omega⟩
    ·refine Or.inl (And.intro og (ε (cg bX rfl) ?_))
     conv => whnf
     exact ⟨⟨(f, i + 1 + n, ⟨i, 1, 0, x :: (s.drop (i + 1)).take n⟩ :: acc), k, by show i + 1 + n ≤ s.length; omega, by show acc.length + 1 ≤ i + 1 + n; omega⟩, π [0] rfl ⟨rfl, rfl, rfl, trivial⟩ ⟨(congrArg (fun w => some (Ψ.arr 131 5 false 0 (.ts (acc.reverse.map ib ++ [ib ⟨i, 1, 0, w⟩])))) hW).trans (ia acc ⟨i, 1, 0, x :: (s.drop (i + 1)).take n⟩), trivial⟩, by show s.length - (i + 1 + n) < s.length - i; omega⟩
 ·have c : s.length ≤ i := dE c
  have c : i = s.length := by omega
  subst c
  rw [List.drop_length] at hx
  have hx : acc = out := by
   cases f <;> (unfold fH at hx; exact Option.some.inj hx)
  subst hx
  exact ⟨_, rfl, rfl, by simp, .refl _⟩
end Go.Proofs.YtcogcbplmkcojaaGreatDoor
namespace Go.Proofs.YtcogcbplmkcojaaGreatDoor
open Go.IntWalk
set_option maxRecDepth 100000
set_option linter.unusedVariables false
set_option linter.unusedSimpArgs false
set_option maxHeartbeats 4000000
def Fl : Ord := (.op 0 [] (.race (.op 1 [] (.op 2 [] (.op 3 [] .nil))) (.op 2 [] (.op 1 [] (.op 3 [] .nil)))))
def Fk : Ord := (.op 0 [] (.op 1 [0] (.op 2 [0] (.op 3 [2, 1, 0] (.op 4 [3, 2, 1, 0] (.op 5 [3, 2, 1, 0] (.op 6 [2, 1, 0] (.op 7 [2, 1, 0] (.op 8 [7, 6, 5, 4, 3, 2, 1, 0] (.op 9 [8, 2, 1, 0] (.op 10 [9, 8, 7, 6, 5, 4, 3, 2, 1, 0] (.op 11 [] (.op 12 [] (.op 13 [] .nil))))))))))))))
def Fj : Ord := (.op 0 [] (.op 1 [0] (.op 2 [0] (.op 3 [2, 1, 0] (.op 4 [3, 2, 1, 0] (.op 5 [3, 2, 1, 0] (.op 6 [2, 1, 0] (.op 7 [2, 1, 0] (.op 8 [7, 6, 5, 4, 3, 2, 1, 0] (.op 9 [7, 6, 5, 4, 3, 2, 1, 0] (.op 10 [2, 1, 0] (.op 11 [] (.op 12 [] .nil)))))))))))))
def Fi : Ord := (.op 0 [] (.op 1 [0] (.op 2 [] (.op 3 [] (.op 4 [3, 2, 1, 0] (.op 5 [3, 2, 1, 0] (.op 6 [5, 4, 3, 2, 1, 0] (.op 7 [5, 4, 3, 2, 1, 0] (.op 8 [7, 6, 5, 4, 3, 2, 1, 0] (.op 9 [7, 6, 5, 4, 3, 2, 1, 0] (.op 10 [3, 2, 1, 0] (.op 11 [10, 9, 8, 7, 6, 5, 4] (.op 12 [11, 10, 9, 8, 7, 6, 5, 4, 3, 2, 1, 0] (.op 13 [] (.op 14 [] (.op 16 [14] (.race (.op 15 [16] (.op 17 [14] .nil)) (.op 17 [14] (.op 15 [16] .nil)))))))))))))))))))
def ul (t : eU) : Prop := (t.kind = 1 ∧ t.num = 0) ∨ (t.kind = 2 ∧ t.word = []) ∨ (t.kind = 3 ∧ t.num = 0) ∨ t.kind = 4 ∨ t.kind = 5
theorem EM {t : eU} (h : ul t) : ((t.kind = 1 ∧ t.num = 0) ∨ (t.kind = 2 ∧ t.word = []) ∨ (t.kind = 3 ∧ t.num = 0)) ∨ t.kind = 4 ∨ t.kind = 5 := by
 rcases h with h | h | h | h | h
 ·exact .inl (.inl h)
 ·exact .inl (.inr (.inl h))
 ·exact .inl (.inr (.inr h))
 ·exact .inr (.inl h)
 ·exact .inr (.inr h)
theorem kZ : ∀ (f : Nat) (r : List UInt8) (a : Nat) (acc : List eU) {out : List eU}, fH f r a acc = some out → (∀ t ∈ acc, ul t) → ∀ t ∈ out, ul t
 | f, [], a, acc, out, h, hl => by
  have hx : acc = out := by
   cases f <;> (unfold fH at h; exact Option.some.inj h)
  subst hx
  exact hl
 | 0, _ :: _, a, acc, out, h, _ => by cases h
 | f + 1, c :: r, a, acc, out, h, hl => by
  have more : ∀ {x : eU}, ul x → ∀ t ∈ x :: acc, ul t := fun hx t ht => by
   rcases List.mem_cons.1 ht with rfl | ht
   ·exact hx
   ·exact hl t ht
  rcases vd h with ⟨_, k⟩ | ⟨_, k⟩ | ⟨_, k⟩ | ⟨_, k⟩ | ⟨n, _, _, hq, k⟩ | ⟨n, hn, _, _, v, _, k⟩ | ⟨n, hn, _, _, k⟩
  ·exact kZ f _ _ _ k hl
  ·exact kZ f _ _ _ k hl
  ·exact kZ f _ _ _ k (more (.inr (.inr (.inr (.inl rfl)))))
  ·exact kZ f _ _ _ k (more (.inr (.inr (.inr (.inr rfl)))))
  ·exact kZ f _ _ _ k (more (.inr (.inr (.inl ⟨rfl, rfl⟩))))
  ·exact kZ f _ _ _ k (more (.inr (.inl ⟨rfl, rfl⟩)))
  ·exact kZ f _ _ _ k (more (.inl ⟨rfl, rfl⟩))
def i_ (l m : List T) : Prop := l.length = m.length ∧ ∀ (i : Nat) e e', l[i]? = some e → m[i]? = some e' → bu e e'
theorem i_.nil : i_ [] [] := ⟨rfl, fun i e e' h => by cases h⟩
theorem i_.deep {l m : List T} (h : i_ l m) (s : Nat) : bu (.vec s l) (.κ s m) :=
 .trans _ _ _ (.deep s l m h.1 (fun i e e' he kr => (h.2 i e e' he kr).cells.1) (fun i e e' j c d he kr hc hd => (h.2 i e e' he kr).cells.2 j c d hc hd)) (.vec s m)
theorem i_.snoc {l m : List T} (h : i_ l m) {x y : T} (k : bu x y) : i_ (l ++ [x]) (m ++ [y]) := by
 refine ⟨by simp [h.1], fun i e e' he kr => ?_⟩
 by_cases hi : i < l.length
 ·rw [List.getElem?_append_left hi] at he
  rw [List.getElem?_append_left (by have := h.1; omega)] at kr
  exact h.2 i e e' he kr
 ·rw [List.getElem?_append_right (by omega)] at he
  rw [List.getElem?_append_right (by have := h.1; omega)] at kr
  have := h.1
  have tg : i - l.length = 0 := by have := ι he; simp at this; omega
  have kf : i - m.length = 0 := by omega
  rw [tg] at he
  rw [kf] at kr
  simp at he kr
  subst he
  subst kr
  exact k
theorem uw (l : List ay) (t : ay) : ω (l ++ [t]) = ω l ++ [kB t] := by simp [om]
def JZ (t : eU) : T := .agg [.int .i64 t.kind, .str t.word, .int .i64 t.num, .av]
def Ds (l : List T) : T := .agg [.int .i64 4, .str [], .int .i64 0, .vec 4 l]
theorem C0 {a b c d a' b' c' d' : T} (h1 : bu a a') (h2 : bu b b') (h3 : bu c c') (h4 : bu d d') : bu (.agg [a, b, c, d]) (.agg [a', b', c', d']) :=
 .agg _ _ rfl fun i x y hx hy => by
  match i, hx, hy with
  | 0, hx, hy => cases hx; cases hy; exact h1
  | 1, hx, hy => cases hx; cases hy; exact h2
  | 2, hx, hy => cases hx; cases hy; exact h3
  | 3, hx, hy => cases hx; cases hy; exact h4
  | i + 4, hx, hy => cases hx
theorem IT {l : List T} {b : List ay} (h : i_ l (ω b)) : bu (Ds l) (kB (.list b)) := C0 (.refl _) (.refl _) (.refl _) (h.deep 4)
abbrev y9 : Nat := 68
abbrev Mb : Nat := 62
def oH : T := .agg [.int .i64 0, .str [], .int .i64 0, .av]
def oN (n : Nat) (R : Nat → List T) (k : Nat) : Ψ := match Nat.blt k n with | true => .arr y9 4 false 0 (.ts (R k)) | false => .dead
def Md (N : Nat → Nat) : Nat → Nat → List AV
 | 0, _ => []
 | m + 1, k => .sl (k + 1) 0 0 (N k) :: Md N m (k + 1)
def PW (n : Nat) (R : Nat → List T) (N : Nat → Nat) (K : List T) : AH := [.arr Mb 1 false 0 (.vs (Md N n 0)), oN n R 0, oN n R 1, oN n R 2, oN n R 3, oN n R 4, oN n R 5, oN n R 6, oN n R 7, oN n R 8, oN n R 9, oN n R 10, .arr 131 5 false 0 (.ts K)]
def mo (R : Nat → List T) (n : Nat) (l : List T) : Nat → List T := fun k => match Nat.beq k n with | true => l | false => R k
def mr (N : Nat → Nat) (n : Nat) (l : Nat) : Nat → Nat := fun k => match Nat.beq k n with | true => l | false => N k
def il (b : Nat → List ay) (n : Nat) (l : List ay) : Nat → List ay := fun k => match Nat.beq k n with | true => l | false => b k
theorem wM {k n : Nat} (h : k ≠ n) : Nat.beq k n = false := by
 cases hb : Nat.beq k n
 ·rfl
 ·exact absurd (Nat.eq_of_beq_eq_true hb) h
def xj (l : List T) (k : Nat) (x : T) : List T := (l ++ [oH]).set (0 + ((k : Nat) : Int).toNat) x
theorem C3 {l : List T} {k : Nat} (h : k = l.length) (x : T) : xj l k x = l ++ [x] := by
 unfold xj
 rw [Nat.zero_add, Int.toNat_natCast, h]
 simp
theorem tr {l : List T} {k : Nat} (z : T) (h : k = l.length) : (l ++ [z])[0 + ((k : Nat) : Int).toNat]? = some z := by rw [Nat.zero_add, Int.toNat_natCast, h]; simp
def qX {n : Nat} {N : Nat → Nat} {R : Nat → List T} (_ : N n = (R n).length) : Nat := n + 1
def OT {n : Nat} {N : Nat → Nat} {R : Nat → List T} (h : N n = (R n).length) (j : Nat) : List Nat := match Nat.beq j 16 with | true => [qX h] | false => match Nat.beq j 14 with | true => [0] | false => []
theorem lT {ops : Array Oper} {s : St} {K : St → Prop} (D : Nat → List Nat) (σ : Ord) (h : dv ops (vW ops) σ [] [] = true) (k : uv xg (γ Tryz.prog) ops D σ s K) : C8 ops s K := ⟨D, σ, h, k⟩
def ie (b : Nat → List ay) : Nat → List (List ay)
 | 0 => []
 | n + 1 => b n :: ie b n
theorem zH (b : Nat → List ay) : ∀ n, (ie b n).length = n
 | 0 => rfl
 | n + 1 => congrArg (· + 1) (zH b n)
theorem rl (b : Nat → List ay) (l : List ay) : ∀ (n p : Nat), n ≤ p → ie (il b p l) n = ie b n
 | 0, p, _ => rfl
 | n + 1, p, h => by
  show il b p l n :: ie (il b p l) n = b n :: ie b n
  rw [rl b l n p (by omega)]
  congr 1
  unfold il
  rw [wM (by omega)]
theorem oD (b : Nat → List ay) (n : Nat) (l : List ay) : il b n l n = l := by unfold il; rw [Nat.beq_refl]
theorem xu (b : Nat → List ay) {k n : Nat} (h : k ≠ n) (l : List ay) : il b n l k = b k := by unfold il; rw [wM h]
theorem xq (b : Nat → List T) (n : Nat) (l : List T) : mo b n l n = l := by unfold mo; rw [Nat.beq_refl]
theorem xp (b : Nat → List T) {k n : Nat} (h : k ≠ n) (l : List T) : mo b n l k = b k := by unfold mo; rw [wM h]
theorem xt (b : Nat → Nat) (n : Nat) (l : Nat) : mr b n l n = l := by unfold mr; rw [Nat.beq_refl]
theorem xr (b : Nat → Nat) {k n : Nat} (h : k ≠ n) (l : Nat) : mr b n l k = b k := by unfold mr; rw [wM h]
def uT : List (List ay) → Nat
 | [] => 0
 | l :: r => l.length + uT r
theorem rj : ∀ (ts : List eU) (st : List (List ay)) {cF : List ay}, fK ts st = some cF → cF.length ≤ uT st + ts.length
 | [], [l], cF, h => by cases h; simp [uT]
 | [], [], cF, h => by cases h
 | [], _ :: _ :: _, cF, h => by cases h
 | t :: ts, [], cF, h => by cases h
 | t :: ts, l :: st, cF, h => by
  unfold fK at h
  split at h
  ·split at h
   ·rename_i m q
    have := rj ts _ h
    simp only [uT, List.length_append, List.length_cons, List.length_nil] at this ⊢
    omega
   ·cases h
  ·split at h
   ·have := rj ts _ h
    simp only [uT, List.length_cons, List.length_nil] at this ⊢
    omega
   ·cases h
  ·have := rj ts _ h
   simp only [uT, List.length_append, List.length_cons, List.length_nil] at this ⊢
   omega
structure PV where
 n : Nat
 R : Nat → List T
 N : Nat → Nat
 i : Nat
 m : Nat
def qY (TK : List eU) (cF : List ay) (x : PV) : Prop :=
 ∃ b : Nat → List ay, fK (TK.drop x.i) (ie b x.n) = some cF ∧ 1 ≤ x.n ∧ x.n ≤ 11 ∧ x.i ≤ TK.length ∧ x.m ≤ x.i ∧ ∀ k, k < x.n → x.N k = (x.R k).length ∧ x.N k ≤ x.i ∧ i_ (x.R k) (ω (b k))
theorem qY.leaf {TK : List eU} {cF : List ay} {n i m : Nat} {R : Nat → List T} {N : Nat → Nat} {b : Nat → List ay} {t : eU} (hx : fK (t :: TK.drop (i + 1)) (ie b (n + 1)) = some cF) (hn : n + 1 ≤ 11) (hi : i ≤ TK.length) (kf : i + 1 ≤ TK.length) (hm : m ≤ i)
 (hk : ∀ k, k < n + 1 → N k = (R k).length ∧ N k ≤ i ∧ i_ (R k) (ω (b k))) (ht : (t.kind = 1 ∧ t.num = 0) ∨ (t.kind = 2 ∧ t.word = []) ∨ (t.kind = 3 ∧ t.num = 0)) : qY TK cF ⟨n + 1, mo R n (xj (R n) (N n) (JZ t)), mr N n (N n + 1), i + 1, m + 1⟩ := by
 have kE : fK (TK.drop (i + 1)) ((b n ++ [tY t]) :: ie b n) = some cF ∧ bu (JZ t) (kB (tY t)) := by
  obtain ⟨at_, kd, num, w⟩ := t
  rcases ht with ⟨e, e0⟩ | ⟨e, e0⟩ | ⟨e, e0⟩
  ·obtain rfl : kd = 1 := e
   obtain rfl : num = 0 := e0
   exact ⟨hx, C0 (.refl _) (.refl _) (.refl _) (.av 4)⟩
  ·obtain rfl : kd = 2 := e
   obtain rfl : w = [] := e0
   exact ⟨hx, C0 (.refl _) (.refl _) (.refl _) (.av 4)⟩
  ·obtain rfl : kd = 3 := e
   obtain rfl : num = 0 := e0
   exact ⟨hx, C0 (.refl _) (.refl _) (.refl _) (.av 4)⟩
 obtain ⟨h0, h1, h2⟩ := hk n (Nat.lt_succ_self n)
 refine ⟨il b n (b n ++ [tY t]), ?_, by show 1 ≤ n + 1; omega, hn, kf, by show m + 1 ≤ i + 1; omega, fun k uF => ?_⟩
 ·show fK (TK.drop (i + 1)) (il b n (b n ++ [tY t]) n :: ie (il b n (b n ++ [tY t])) n) = some cF
  rw [oD, rl _ _ _ _ (Nat.le_refl n)]
  exact kE.1
 ·show mr N n (N n + 1) k = (mo R n _ k).length ∧ mr N n (N n + 1) k ≤ i + 1 ∧ i_ (mo R n _ k) (ω (il b n _ k))
  by_cases e : k = n
  ·subst e
   rw [xt, xq, oD, C3 h0, uw]
   exact ⟨by simp [h0], by omega, h2.snoc kE.2⟩
  ·rw [xr _ e, xp _ e, xu _ e]
   obtain ⟨a1, a2, a3⟩ := hk k uF
   exact ⟨a1, by omega, a3⟩
theorem qY.QB {TK : List eU} {cF : List ay} {n i m : Nat} {R : Nat → List T} {N : Nat → Nat} {b : Nat → List ay} {t : eU} (hx : fK (t :: TK.drop (i + 1)) (ie b (n + 1)) = some cF) (kf : i + 1 ≤ TK.length) (hm : m ≤ i)
 (hk : ∀ k, k < n + 1 → N k = (R k).length ∧ N k ≤ i ∧ i_ (R k) (ω (b k))) (ht : t.kind = 4) : n < 10 ∧ qY TK cF ⟨n + 2, mo R (n + 1) [], mr N (n + 1) 0, i + 1, m + 1⟩ := by
 obtain ⟨at_, kd, num, w⟩ := t
 obtain rfl : kd = 4 := ht
 have hx : (match Nat.blt (ie b n).length 10 with | true => fK (TK.drop (i + 1)) ([] :: b n :: ie b n) | false => none) = some cF := hx
 rw [zH] at hx
 cases hb : Nat.blt n 10 with
 | false => rw [hb] at hx; cases hx
 | true =>
  rw [hb] at hx
  have hx : fK (TK.drop (i + 1)) ([] :: ie b (n + 1)) = some cF := hx
  rw [Nat.blt_eq] at hb
  refine ⟨hb, il b (n + 1) [], ?_, by show 1 ≤ n + 2; omega, by show n + 2 ≤ 11; omega, kf, by show m + 1 ≤ i + 1; omega, fun k uF => ?_⟩
  ·show fK (TK.drop (i + 1)) (il b (n + 1) [] (n + 1) :: ie (il b (n + 1) []) (n + 1)) = some cF
   rw [oD, rl _ _ _ _ (Nat.le_refl _)]
   exact hx
  ·have uF : k < n + 2 := uF
   show mr N (n + 1) 0 k = (mo R (n + 1) [] k).length ∧ mr N (n + 1) 0 k ≤ i + 1 ∧ i_ (mo R (n + 1) [] k) (ω (il b (n + 1) [] k))
   by_cases e : k = n + 1
   ·subst e
    rw [xt, xq, oD]
    exact ⟨rfl, Nat.zero_le _, .nil⟩
   ·rw [xr _ e, xp _ e, xu _ e]
    obtain ⟨a1, a2, a3⟩ := hk k (by omega)
    exact ⟨a1, by omega, a3⟩
theorem qY.bn {TK : List eU} {cF : List ay} {n i m : Nat} {R : Nat → List T} {N : Nat → Nat} {b : Nat → List ay} {t : eU} (hx : fK (t :: TK.drop (i + 1)) (ie b (n + 1)) = some cF) (hn : n + 1 ≤ 11) (kf : i + 1 ≤ TK.length) (hm : m ≤ i)
 (hk : ∀ k, k < n + 1 → N k = (R k).length ∧ N k ≤ i ∧ i_ (R k) (ω (b k))) (ht : t.kind = 5) : ∃ p, n = p + 1 ∧ qY TK cF ⟨p + 1, mo R p (R p ++ [Ds (R (p + 1))]), mr N p (N p + 1), i + 1, m⟩ := by
 obtain ⟨at_, kd, num, w⟩ := t
 obtain rfl : kd = 5 := ht
 cases n with
 | zero => cases hx
 | succ p =>
  have hx : fK (TK.drop (i + 1)) ((b p ++ [.list (b (p + 1))]) :: ie b p) = some cF := hx
  refine ⟨p, rfl, il b p (b p ++ [.list (b (p + 1))]), ?_, by show 1 ≤ p + 1; omega, by show p + 1 ≤ 11; omega, kf, by show m ≤ i + 1; omega, fun k uF => ?_⟩
  ·show fK (TK.drop (i + 1)) (il b p _ p :: ie (il b p _) p) = some cF
   rw [oD, rl _ _ _ _ (Nat.le_refl _)]
   exact hx
  ·have uF : k < p + 1 := uF
   show mr N p (N p + 1) k = (mo R p _ k).length ∧ mr N p (N p + 1) k ≤ i + 1 ∧ i_ (mo R p _ k) (ω (il b p _ k))
   by_cases e : k = p
   ·subst e
    obtain ⟨a1, a2, a3⟩ := hk k (by omega)
    rw [xt, xq, oD, uw]
    exact ⟨by simp [a1], by omega, a3.snoc (IT (hk (k + 1) (by omega)).2.2)⟩
   ·rw [xr _ e, xp _ e, xu _ e]
    obtain ⟨a1, a2, a3⟩ := hk k (by omega)
    exact ⟨a1, by omega, a3⟩
theorem qY.fin {TK : List eU} {cF : List ay} {n i m : Nat} {R : Nat → List T} {N : Nat → Nat} (h : qY TK cF ⟨n + 1, R, N, i, m⟩) (hi : i = TK.length) : n = 0 ∧ N 0 = (R 0).length ∧ i_ (R 0) (ω cF) := by
 obtain ⟨b, hx, _, _, _, _, hk⟩ := h
 have hx : fK (TK.drop i) (b n :: ie b n) = some cF := hx
 rw [hi, List.drop_length] at hx
 cases n with
 | zero =>
  have hx : some (b 0) = some cF := hx
  cases hx
  obtain ⟨a1, a2, a3⟩ := hk 0 (Nat.lt_succ_self 0)
  exact ⟨rfl, a1, a3⟩
 | succ n => cases hx
def Oy {n : Nat} {N : Nat → Nat} {R : Nat → List T} (_ : N n = (R n).length) : List Nat := (List.range 13).map fun k => match Nat.beq k (n + 2) with | true => 14 | false => k
def N7 {n : Nat} {N : Nat → Nat} {R : Nat → List T} (h : N n = (R n).length) (j : Nat) : List Nat := match Nat.ble j 2 with | true => [qX h] | false => []
theorem zz {k0 : Nat} {env env' : List (Nat × AV)} {H : AH} (h : zk env env') : aX k0 ⟨env, H⟩ ⟨env', H⟩ := a8 h rfl
theorem EO {l : List T} {k : Nat} (h : k = l.length) : (l.drop 0).take k = l := by rw [h, List.drop_zero, List.take_length]
theorem E0 {l : List T} {k : Nat} (h : k = l.length) (x : AV) : (((l ++ [oH]).map AV.t).set (0 + ((k : Nat) : Int).toNat) x) = l.map AV.t ++ [x] := by
 rw [Nat.zero_add, Int.toNat_natCast, h]
 simp
def Dv {n : Nat} {N : Nat → Nat} {R : Nat → List T} (_ : N n = (R n).length) : List AV := [.t (.int .i64 4), .t (.str []), .t (.int .i64 0), .sl (n + 1) 0 0 (N n)]
def FP {n : Nat} {N : Nat → Nat} {R : Nat → List T} (_ : N n = (R n).length) : T := Ds (R n)
def rowOf {n : Nat} {N : Nat → Nat} {R : Nat → List T} (_ : N n = (R n).length) : List T := R n
def NZ {n : Nat} {N : Nat → Nat} {R : Nat → List T} (_ : N n = (R n).length) (m i : Nat) (K : List T) : List (Nat × AV) := [(5, .sl 0 0 0 (n + 1)), (6, .t (.int .i64 (m : Nat))), (17, .sl 12 0 0 K.length), (18, .t (.int .i64 (K.length : Nat))), (19, .t (.int .i64 ((i + 1 : Nat) : Int)))]
theorem i_.c {l m : List T} (h : i_ l m) : ja l m := ja.FF h.1 h.2
theorem BJ {s : List UInt8} (hs : s.length ≤ 65536) {out : List eU} (h : fH s.length s 0 [] = some out) {cF : List ay} (qq : fK out.reverse [[]] = some cF) : φ Tryz.prog 20 [.str s] (.ao [.own y9 4 false (ω cF), .t (.int .i64 0), .t (.int .i64 0)]) ∧ cF.length ≤ 65536 := by
 obtain ⟨hT, P8⟩ := BB hs h
 have de := kZ _ _ _ _ h (fun t ht => by cases ht)
 obtain ⟨TK, Nz⟩ : ∃ TK, TK = out.reverse := ⟨_, rfl⟩
 have de : ∀ t ∈ TK, ul t := fun t ht => de t (by rw [Nz] at ht; exact List.mem_reverse.1 ht)
 have RJ : TK.length ≤ 65536 := by rw [Nz]; simpa using P8
 rw [← Nz] at hT qq
 obtain ⟨K, hK⟩ : ∃ K, K = TK.map ib := ⟨_, rfl⟩
 have Ty : K.length = TK.length := by rw [hK]; simp
 rw [← hK] at hT
 have Q6 := rj TK [[]] qq
 refine ⟨?_, by have : uT [[]] = 0 := rfl; omega⟩
 refine φ.fR ?_ rfl
 refine γ.ο ζ η Tryz.func20 rfl rfl ?_
 refine U (fun c => absurd (of_decide_eq_true c) (by omega)) (fun _ => ?_)
 refine γ.pure hT rfl ?_
 refine ak (fun x : PV => qY TK cF x) (fun x => ⟨[(5, .sl 0 0 0 x.n), (6, .t (.int .i64 (x.m : Nat))), (17, .sl 12 0 0 K.length), (18, .t (.int .i64 (K.length : Nat))), (19, .t (.int .i64 (x.i : Nat)))], PW x.n x.R x.N K⟩) (fun x => K.length - x.i) ⟨1, fun _ => [], fun _ => 0, 0, 0⟩ ⟨fun _ => [], qq, by decide, by decide, Nat.zero_le _, Nat.le_refl _, fun k _ => ⟨rfl, Nat.le_refl _, .nil⟩⟩ ?_ (fun ⟨n, R, N, i, m⟩ hx => ?_)
 ·exact aX.trans (aX.more [.dead, .dead, .dead, .dead, .dead, .dead, .dead, .dead, .dead, .dead]) (π [2, 1, 4, 5, 6, 7, 8, 9, 10, 11, 12, 13, 3] rfl ⟨rfl, rfl, rfl, rfl, rfl, trivial⟩ ⟨rfl, rfl, rfl, rfl, rfl, rfl, rfl, rfl, rfl, rfl, rfl, rfl, rfl, trivial⟩)
 have cT := hx
 obtain ⟨b, hx, Pf, DH, hi, hm, hk⟩ := hx
 have hx : fK (TK.drop i) (ie b n) = some cF := hx
 have Pf : 1 ≤ n := Pf
 have DH : n ≤ 11 := DH
 have hi : i ≤ TK.length := hi
 have hm : m ≤ i := hm
 have hk : ∀ k, k < n → N k = (R k).length ∧ N k ≤ i ∧ i_ (R k) (ω (b k)) := hk
 refine U (fun c => ?_) (fun c => ?_)
 ·have Ro : i < K.length := dn c
  clear c
  obtain ⟨t, pg, J3⟩ := get_some (R := TK) (i := i) (by omega)
  have me : K[0 + ((i : Nat) : Int).toNat]? = some (ib t) := by rw [Nat.zero_add, Int.toNat_natCast, hK, List.getElem?_map, pg]; rfl
  have hd : TK.drop i = t :: TK.drop (i + 1) := by
   rw [List.drop_eq_getElem_cons (by omega)]
   congr 1
   rw [List.getElem?_eq_getElem (by omega)] at pg
   exact Option.some.inj pg
  rw [hd] at hx
  refine ε (pb rfl (Int.natCast_nonneg i) (by show ((i : Nat) : Int) < (K.length : Int); omega)) ?_
  refine ξ me ?_
  have AJ : IntKind.i64.wrap ((m + 1 : Nat) : Int) = ((m + 1 : Nat) : Int) := ag (n := m + 1) (by omega)
  have kf : IntKind.i64.wrap ((i + 1 : Nat) : Int) = ((i + 1 : Nat) : Int) := ag (n := i + 1) (by omega)
  have Nt : ¬ ((m + 1 : Nat) : Int) > 65536 := by omega
  obtain ⟨n, rfl⟩ : ∃ p, n = p + 1 := ⟨n - 1, by omega⟩
  have mh : N n = (R n).length := (hk n (Nat.lt_succ_self n)).1
  have bX : N n + 1 ≤ 100000 := by have := (hk n (Nat.lt_succ_self n)).2.1; omega
  rcases EM (de t J3) with e | e | e
  ·have kE := qY.leaf (m := m) hx DH hi (by omega) hm hk e
   have Gi : t.kind ≤ 3 := by omega
   clear de pg J3 hd hx qq h hk e
   obtain ⟨at_, kd, num, w⟩ := t
   have Gi : kd ≤ 3 := Gi
   have h6 : ¬ (kd : Int) = 6 := by omega
   have h5 : ¬ (kd : Int) = 5 := by omega
   have h4 : ¬ (kd : Int) = 4 := by omega
   have hn : n = 0 ∨ n = 1 ∨ n = 2 ∨ n = 3 ∨ n = 4 ∨ n = 5 ∨ n = 6 ∨ n = 7 ∨ n = 8 ∨ n = 9 ∨ n = 10 := by omega
   rcases hn with rfl | rfl | rfl | rfl | rfl | rfl | rfl | rfl | rfl | rfl | rfl <;>
   (refine U (fun c => absurd (beq_iff_eq.1 c) h6) (fun _ => ?_)
    refine U (fun c => absurd (beq_iff_eq.1 c) h5) (fun _ => ?_)
    refine U (fun c => absurd (beq_iff_eq.1 c) h5) (fun _ => ?_)
    refine δ AJ ?_
    refine U (fun c => absurd (of_decide_eq_true c) Nt) (fun _ => ?_)
    refine U (fun c => absurd (beq_iff_eq.1 c) h4) (fun _ => ?_)
    refine U (fun c => absurd (beq_iff_eq.1 c) h4) (fun _ => ?_)
    refine lT (OT mh) Fi (by decide +kernel) ?_
    refine Or.inl (And.intro mh (ε (cg bX rfl) ?_))
    refine And.intro (fun j hj => by cases hj) ?_
    refine ε (pb rfl (Int.natCast_nonneg _) (Int.ofNat_lt.2 (Nat.lt_succ_self _))) ?_
    refine And.intro ?_ ?_
    ·conv => whnf
     refine ξ (tr oH mh) ?_
     refine And.intro (fun j hj => by rw [List.mem_singleton.1 hj]; exact ψ.set (b := qX mh) _ (List.mem_singleton.2 rfl)) ?_
     refine And.intro (fun j hj => by rw [List.mem_singleton.1 hj]; exact ψ.set (b := 0) _ (List.mem_singleton.2 rfl)) ?_
     refine δ kf ?_
     conv => whnf
     exact ⟨⟨_, kE⟩, π [0, 1, 2, 3, 4, 5, 6, 7, 8, 9, 10, 11, 12] rfl ⟨rfl, rfl, rfl, rfl, rfl, trivial⟩ ⟨rfl, rfl, rfl, rfl, rfl, rfl, rfl, rfl, rfl, rfl, rfl, rfl, rfl, trivial⟩, by show K.length - (i + 1) < K.length - i; omega⟩
    ·refine And.intro (fun j hj => by rw [List.mem_singleton.1 hj]; exact ψ.set (b := 0) _ (List.mem_singleton.2 rfl)) ?_
     conv => whnf
     refine ξ (tr oH mh) ?_
     refine And.intro (fun j hj => by rw [List.mem_singleton.1 hj]; exact ψ.set (b := qX mh) _ (List.mem_singleton.2 rfl)) ?_
     refine δ kf ?_
     conv => whnf
     exact ⟨⟨_, kE⟩, π [0, 1, 2, 3, 4, 5, 6, 7, 8, 9, 10, 11, 12] rfl ⟨rfl, rfl, rfl, rfl, rfl, trivial⟩ ⟨rfl, rfl, rfl, rfl, rfl, rfl, rfl, rfl, rfl, rfl, rfl, rfl, rfl, trivial⟩, by show K.length - (i + 1) < K.length - i; omega⟩)
  ·obtain ⟨χ, kE⟩ := qY.QB (m := m) hx (by omega) hm hk e
   clear de pg J3 hd hx qq h hk cT
   obtain ⟨at_, kd, num, w⟩ := t
   obtain rfl : kd = 4 := e
   have hn : n = 0 ∨ n = 1 ∨ n = 2 ∨ n = 3 ∨ n = 4 ∨ n = 5 ∨ n = 6 ∨ n = 7 ∨ n = 8 ∨ n = 9 := by omega
   rcases hn with rfl | rfl | rfl | rfl | rfl | rfl | rfl | rfl | rfl | rfl <;>
   (refine δ AJ ?_
    refine U (fun c => absurd (of_decide_eq_true c) Nt) (fun _ => ?_)
    refine Or.inl (And.intro rfl (ε (cg (Nat.le_of_ble_eq_true rfl) rfl) ?_))
    refine δ kf ?_
    conv => whnf
    exact ⟨⟨_, kE⟩, π (Oy mh) rfl ⟨rfl, rfl, rfl, rfl, rfl, trivial⟩ ⟨rfl, rfl, rfl, rfl, rfl, rfl, rfl, rfl, rfl, rfl, rfl, rfl, rfl, trivial⟩, by show K.length - (i + 1) < K.length - i; omega⟩)
  ·obtain ⟨p, rfl, kE⟩ := qY.bn (m := m) hx DH (by omega) hm hk e
   have p8 : N p = (R p).length := (hk p (by omega)).1
   have Pk : N p + 1 ≤ 100000 := by have := (hk p (by omega)).2.1; omega
   clear de pg J3 hd hx qq h hk cT
   obtain ⟨at_, kd, num, w⟩ := t
   obtain rfl : kd = 5 := e
   have hn : p = 0 ∨ p = 1 ∨ p = 2 ∨ p = 3 ∨ p = 4 ∨ p = 5 ∨ p = 6 ∨ p = 7 ∨ p = 8 ∨ p = 9 := by omega
   rcases hn with rfl | rfl | rfl | rfl | rfl | rfl | rfl | rfl | rfl | rfl <;>
   (refine lT (fun _ => []) Fl (by decide +kernel) ?_
    refine And.intro ?_ ?_
    ·refine And.intro (fun j hj => by cases hj) ?_
     refine And.intro (fun j hj => by cases hj) ?_
     refine lT (N7 p8) Fj (by decide +kernel) ?_
     refine Or.inl (And.intro p8 (ε (cg Pk rfl) ?_))
     refine And.intro (fun j hj => by simp only [List.mem_cons, List.not_mem_nil, or_false] at hj; rcases hj with rfl | rfl | rfl <;> exact ψ.set (b := qX p8) _ (List.mem_singleton.2 rfl)) ?_
     refine And.intro (fun j hj => by cases hj) ?_
     refine δ kf ?_
     conv => whnf
     refine ⟨⟨_, kE⟩, ?_, by show K.length - (i + 1) < K.length - i; omega⟩
     exact aX.trans (gI (qX p8) [qX mh] (A := rowOf p8) (cs := Dv mh) (gU (FP mh)) (rfl) rfl rfl (fun j y t hy ht => by
      match j, hy, ht with
      | 0, hy, ht => cases hy; cases ht; exact .same _
      | 1, hy, ht => cases hy; cases ht; exact .same _
      | 2, hy, ht => cases hy; cases ht; exact .same _
      | 3, hy, ht => cases hy; cases ht; exact .ff _ _ _ [qX mh] 32 rfl (.of_eq (congrArg (T.vec 4) (EO mh))) (fun b hb => hb)
      | j + 4, hy, ht => cases hy)) (aX.trans (zz (env' := NZ p8 m i K) ⟨rfl, rfl, rfl, rfl, rfl, trivial⟩) (aX.trans (zA 0 (qX p8) rfl rfl rfl rfl rfl rfl rfl) (π [0, 1, 2, 3, 4, 5, 6, 7, 8, 9, 10, 11, 12] rfl ⟨rfl, rfl, rfl, rfl, rfl, trivial⟩ ⟨rfl, rfl, rfl, rfl, rfl, rfl, rfl, rfl, rfl, rfl, rfl, rfl, rfl, trivial⟩)))
    ·refine And.intro (fun j hj => by cases hj) ?_
     refine And.intro (fun j hj => by cases hj) ?_
     refine lT (fun _ => []) Fk (by decide +kernel) ?_
     refine Or.inl (And.intro p8 (ε (cg Pk rfl) ?_))
     refine And.intro (fun j hj => by cases hj) ?_
     refine And.intro (fun j hj => by cases hj) ?_
     refine ε (pb rfl (Int.natCast_nonneg _) (Int.ofNat_lt.2 (Nat.lt_succ_self _))) ?_
     refine ξ (tr oH p8) ?_
     refine δ kf ?_
     conv => whnf
     refine ⟨⟨_, kE⟩, ?_, by show K.length - (i + 1) < K.length - i; omega⟩
     exact aX.trans (gI (qX p8) [qX mh] (A := rowOf p8) (cs := Dv mh) (gU (FP mh)) (congrArg (fun l => some (Ψ.arr y9 4 false 2 (.vs l))) (E0 p8 (AV.agg (Dv mh)))) rfl rfl (fun j y t hy ht => by
      match j, hy, ht with
      | 0, hy, ht => cases hy; cases ht; exact .same _
      | 1, hy, ht => cases hy; cases ht; exact .same _
      | 2, hy, ht => cases hy; cases ht; exact .same _
      | 3, hy, ht => cases hy; cases ht; exact .ff _ _ _ [qX mh] 32 rfl (.of_eq (congrArg (T.vec 4) (EO mh))) (fun b hb => hb)
      | j + 4, hy, ht => cases hy)) (aX.trans (zz (env' := NZ p8 m i K) ⟨rfl, rfl, rfl, rfl, rfl, trivial⟩) (aX.trans (zA 0 (qX p8) rfl rfl rfl rfl rfl rfl rfl) (π [0, 1, 2, 3, 4, 5, 6, 7, 8, 9, 10, 11, 12] rfl ⟨rfl, rfl, rfl, rfl, rfl, trivial⟩ ⟨rfl, rfl, rfl, rfl, rfl, rfl, rfl, rfl, rfl, rfl, rfl, rfl, rfl, trivial⟩))))
 ·have Ro : K.length ≤ i := dE c
  obtain ⟨n, rfl⟩ : ∃ p, n = p + 1 := ⟨n - 1, by omega⟩
  obtain ⟨rfl, h0, hS⟩ := qY.fin cT (by omega)
  exact And.intro ⟨⟨_, rfl, rfl, h0, hS.c⟩, ⟨_, _, rfl, .refl _⟩, ⟨_, _, rfl, .refl _⟩, trivial⟩ rfl
end Go.Proofs.YtcogcbplmkcojaaGreatDoor
namespace Go.Proofs.YtcogcbplmkcojaaGreatDoor
open Go.IntWalk
set_option maxRecDepth 100000
set_option linter.unusedVariables false
set_option linter.unusedSimpArgs false
set_option maxHeartbeats 4000000
def xw : Nat → List (Nat × Nat × Nat) → List AV → List AV
 | _, [], cs => cs
 | k, p :: r, cs => xw (k + 1) r (cs.set p.1 (.sl k 0 0 0))
def JW : Nat → List (Nat × Nat × Nat) → List AV → Prop
 | _, [], _ => True
 | k, p :: r, cs => cs[p.1]? = some (.t .av) ∧ JW (k + 1) r (cs.set p.1 (.sl k 0 0 0))
theorem xQ {k0 : Nat} {env : List (Nat × AV)} (b : Nat) : ∀ (l : List (Nat × Nat × Nat)) {cs : List AV} {H : AH}, H[b]? = some (.box cs) → JW H.length l cs → aX k0 ⟨env, H⟩ ⟨env, H.set b (.box (xw H.length l cs)) ++ l.map fun p => .arr p.2.1 p.2.2 true 0 (.ts [])⟩
 | [], cs, H, hb, _ => by
  have hl := ι hb
  have : H.set b (.box cs) = H := by
   refine List.ext_getElem? fun j => ?_
   rw [List.getElem?_set]
   split
   ·rename_i e
    subst e
    exact hb.symm
   ·rfl
  show aX k0 ⟨env, H⟩ ⟨env, H.set b (.box cs) ++ []⟩
  rw [List.append_nil, this]
  exact fun O c a w _ hs => ⟨c, hs⟩
 | p :: r, cs, H, hb, ⟨h1, h2⟩ => by
  have hl := ι hb
  refine aX.trans (iP b p.1 p.2.1 p.2.2 hb h1) ?_
  have hlen : (H.set b (.box (cs.set p.1 (.sl H.length 0 0 0))) ++ [Ψ.arr p.2.1 p.2.2 true 0 (.ts [])]).length = H.length + 1 := by simp
  have h := xQ (k0 := k0) (env := env) b r (cs := cs.set p.1 (.sl H.length 0 0 0)) (H := H.set b (.box (cs.set p.1 (.sl H.length 0 0 0))) ++ [Ψ.arr p.2.1 p.2.2 true 0 (.ts [])]) (by rw [List.getElem?_append_left (by simpa using hl), List.getElem?_set_self hl]) (by rw [hlen]; exact h2)
  rw [hlen] at h
  have e : (H.set b (.box (cs.set p.1 (.sl H.length 0 0 0))) ++ [Ψ.arr p.2.1 p.2.2 true 0 (.ts [])]).set b (.box (xw (H.length + 1) r (cs.set p.1 (.sl H.length 0 0 0)))) ++ (r.map fun p => Ψ.arr p.2.1 p.2.2 true 0 (.ts [])) = H.set b (.box (xw H.length (p :: r) cs)) ++ ((p :: r).map fun p => Ψ.arr p.2.1 p.2.2 true 0 (.ts [])) := by
   rw [List.set_append_left _ _ (by simpa using hl), List.set_set, List.append_assoc]
   rfl
  rw [e] at h
  exact h
theorem γ.Lz {P : Program} {f : FuncId} {args : List AV} {H : AH} {Q : AV → AH → Prop} (b : Nat) (args' : List AV) (h : γ P f args' (H.set b .dead) Q) (ha : args'.length = args.length) (fM : ∀ (i : Nat) a a', args[i]? = some a → args'[i]? = some a' → et [b] H (H.set b .dead) a a') : γ P f args H Q := by
 refine γ.JQ [b] h (by simp) (fun b' az aC => ?_) ha fM
 rw [List.getElem?_set] at aC
 split at aC
 ·split at aC
  ·exact .inl (Option.some.inj aC).symm
  ·cases aC
 ·next h => exact .inr ⟨by simp; exact fun e => h e.symm, az, aC, .same _⟩
theorem EI {k0 : Nat} {r X : AV} {H : AH} (ids : List Nat) (hX : et ids H (gw 999 .dead ids 0 H) r X) : aX k0 ⟨[(0, r)], H⟩ ⟨[(0, X)], gw 999 .dead ids 0 H⟩ := by
 refine kN ids (nx _ _ _ _ _) (fun b' az aC => ?_) (fun t => ?_)
 ·replace aC : (gw 999 .dead ids 0 H)[b']? = some az := aC
  rw [ny, Nat.zero_add, Option.map_eq_some_iff] at aC
  obtain ⟨x, hx, aP⟩ := aC
  split at aP
  ·exact .inl aP.symm
  ·split at aP
   ·exact .inl aP.symm
   ·rename_i e2
    subst aP
    refine .inr ⟨fun hm => ?_, x, hx, .same _⟩
    have := List.any_eq_false.1 e2 b' hm
    simp at this
 ·rw [e9, e9]
  by_cases ht : 0 = t
  ·rw [if_pos ht, if_pos ht]; exact .inr hX
  ·rw [if_neg ht, if_neg ht]; exact .inl rfl
def L0 : List AV := [.t (.str []), .t (.int .i64 0), .t .av, .t .av, .t .av, .t .av, .t .av, .t .av, .t .av, .t .av, .t .av, .t .av, .t .av]
theorem NM {ids : List Nat} {H H' : AH} {d : τ} {y : AV} {r a : List T} (h : et ids H H' y (.t (.κ 4 r))) : et ids H H' (.agg ((ec d r a).set 13 y)) (.agg (ec d r a)) :=
 .agg _ _ rfl fun i x x' hx aP => by
  match i, hx, aP with
  | 0, hx, aP => cases hx; cases aP; exact .same _
  | 1, hx, aP => cases hx; cases aP; exact .same _
  | 2, hx, aP => cases hx; cases aP; exact .same _
  | 3, hx, aP => cases hx; cases aP; exact .same _
  | 4, hx, aP => cases hx; cases aP; exact .same _
  | 5, hx, aP => cases hx; cases aP; exact .same _
  | 6, hx, aP => cases hx; cases aP; exact .same _
  | 7, hx, aP => cases hx; cases aP; exact .same _
  | 8, hx, aP => cases hx; cases aP; exact .same _
  | 9, hx, aP => cases hx; cases aP; exact .same _
  | 10, hx, aP => cases hx; cases aP; exact .same _
  | 11, hx, aP => cases hx; cases aP; exact .same _
  | 12, hx, aP => cases hx; cases aP; exact .same _
  | 13, hx, aP => cases hx; cases aP; exact h
  | 14, hx, aP => cases hx; cases aP; exact .same _
  | 15, hx, aP => cases hx; cases aP; exact .same _
  | i + 16, hx, aP => cases hx
theorem Ly {ids : List Nat} {H H' : AH} {a a' b c : AV} (h : et ids H H' a a') : et ids H H' (.ao [a, b, c]) (.ao [a', b, c]) :=
 .ao _ _ rfl fun i x x' hx aP => by
  match i, hx, aP with
  | 0, hx, aP => cases hx; cases aP; exact h
  | 1, hx, aP => cases hx; cases aP; exact .same _
  | 2, hx, aP => cases hx; cases aP; exact .same _
  | i + 3, hx, aP => cases hx
theorem Jy (d : τ) : T.agg [.str d.name, .int .i64 d.order, .κ 4 (((d.files.map dz).drop 0).take d.files.length), .κ 3 (((d.aa.map bl).drop 0).take d.aa.length), .κ 1 (((d.flags.map T.str).drop 0).take d.flags.length), .κ 7 (((d.classes.map aV).drop 0).take d.classes.length), .κ 5 (((d.forms.map ab).drop 0).take d.forms.length), .κ 17 (((d.au.map ei).drop 0).take d.au.length), .κ 4 (((d.uses.map fE).drop 0).take d.uses.length), .κ 3 (((d.ar.map cG).drop 0).take d.ar.length), .κ 3 (((d.macros.map db).drop 0).take d.macros.length), .κ 2 (((d.aR.map fk).drop 0).take d.aR.length), .κ 3 (((d.aN.map bl).drop 0).take d.aN.length)] = aq d := by
 unfold aq
 simp only [uR]
structure SM where
 i : Nat
 s : PS
theorem Da {text : List UInt8} {d : τ} (h : lA text = some d) : γ Tryz.prog 9 [.t (.str text)] [] (fun v H => v = .ao [.t (aq d), .t (.int .i64 0), .t (.int .i64 0)] ∧ H = []) := by
 unfold lA at h
 split at h
 ·cases h
 rename_i hlen
 have hlen := Nat.le_of_ble_eq_true hlen
 split at h
 ·cases h
 rename_i L_ M2
 split at h
 ·cases h
 ·cases h
 rename_i t0 r0 J2
 split at h
 rotate_left 1
 ·cases h
 rename_i sf AM
 cases h
 obtain ⟨h3, hr⟩ := BJ hlen M2 J2
 obtain ⟨cF, qq⟩ : ∃ cF, cF = t0 :: r0 := ⟨_, rfl⟩
 have MP : 0 < cF.length := by rw [qq]; simp
 rw [← qq] at AM hr
 rw [← qq] at h3
 have RJ : (ω cF).length = cF.length := by rw [om]; simp
 refine γ.gc (Q := fun r H' => aX 0 ⟨[(0, r)], H'⟩ ⟨[(0, .ao [.t (aq sf.d), .t (.int .i64 0), .t (.int .i64 0)])], []⟩) ?_ (fun r H' hw => ⟨_, _, hw, rfl, rfl⟩)
 refine γ.ο ζ η Tryz.func9 rfl rfl ?_
 refine γ.pure h3 rfl ?_
 refine U (fun c => absurd (beq_iff_eq.1 c) (by omega)) (fun _ => ?_)
 refine ak (fun x : SM => x.i ≤ cF.length ∧ gB x.s ∧ oZ (cF.drop x.i) x.s (((x.i : Nat) : Int) == 0) = some sf) (fun x => ⟨[(2, .ptr 11 0 0 0), (3, .t (.int .i64 0)), (4, .t (.int .i64 0)), (8, .ptr 13 0 0 0), (27, .sl 12 0 0 (ω cF).length), (28, .t (.int .i64 ((ω cF).length : Nat))), (29, .t (.int .i64 (x.i : Nat)))], pt x.s.d [.box L0, .arr y9 4 false 0 (.ts (ω cF)), .box (ec x.s.d (ω x.s.rest) (x.s.args.map Φ))]⟩) (fun x => cF.length - x.i) ⟨0, ⟨Ky, [], []⟩⟩ ⟨Nat.zero_le _, ⟨⟨by decide, by decide, by decide, by decide, by decide, by decide, by decide, by decide, by decide⟩, fun c hc => by cases hc⟩, AM⟩ ?_ (fun ⟨i, s⟩ ⟨hi, hI, hx⟩ => ?_)
 ·refine aX.trans (xQ (cs := cQ) 2 [(2, 152, 4), (3, 139, 3), (4, 9, 1), (5, 95, 7), (6, 45, 5), (7, 167, 17), (8, 164, 4), (9, 145, 3), (10, 173, 3), (11, 147, 2), (12, 139, 3)] rfl ⟨rfl, rfl, rfl, rfl, rfl, rfl, rfl, rfl, rfl, rfl, rfl, trivial⟩) ?_
  refine aX.trans (ss (cs := xw 3 [(2, 152, 4), (3, 139, 3), (4, 9, 1), (5, 95, 7), (6, 45, 5), (7, 167, 17), (8, 164, 4), (9, 145, 3), (10, 173, 3), (11, 147, 2), (12, 139, 3)] cQ) 2 13 [] (.κ 4 []) rfl rfl rfl (.sub _ _ (.av 4))) ?_
  refine aX.trans (ss (cs := (xw 3 [(2, 152, 4), (3, 139, 3), (4, 9, 1), (5, 95, 7), (6, 45, 5), (7, 167, 17), (8, 164, 4), (9, 145, 3), (10, 173, 3), (11, 147, 2), (12, 139, 3)] cQ).set 13 (.t (.κ 4 []))) 2 14 [] (.κ 2 []) rfl rfl rfl (.sub _ _ (.av 2))) ?_
  exact π [3, 4, 5, 6, 7, 8, 9, 10, 11, 12, 13, 0, 1, 2] rfl ⟨rfl, rfl, rfl, rfl, rfl, rfl, rfl, trivial⟩ ⟨rfl, rfl, rfl, rfl, rfl, rfl, rfl, rfl, rfl, rfl, rfl, rfl, rfl, rfl, trivial⟩
 have hi : i ≤ cF.length := hi
 have hx : oZ (cF.drop i) s (((i : Nat) : Int) == 0) = some sf := hx
 refine U (fun c => ?_) (fun c => ?_)
 ·have c : i < (ω cF).length := dn c
  obtain ⟨t, pg, _⟩ := get_some (R := cF) (i := i) (by omega)
  have hd : cF.drop i = t :: cF.drop (i + 1) := by
   rw [List.drop_eq_getElem_cons (by omega)]
   congr 1
   rw [List.getElem?_eq_getElem (by omega)] at pg
   exact Option.some.inj pg
  rw [hd] at hx
  have hx : (match v9 ⟨s.d, [t], s.args⟩ (((i : Nat) : Int) == 0) with | some s => oZ (cF.drop (i + 1)) s false | none => none) = some sf := hx
  cases qN : v9 ⟨s.d, [t], s.args⟩ (((i : Nat) : Int) == 0) with
  | none => rw [qN] at hx; cases hx
  | some s1 =>
  rw [qN] at hx
  have fx : oZ (cF.drop (i + 1)) s1 false = some sf := hx
  obtain ⟨l, rfl⟩ : ∃ l, t = .list l := by
   cases t with
   | list l => exact ⟨l, rfl⟩
   | word w => have qN : none = some s1 := qN; cases qN
   | num w => have qN : none = some s1 := qN; cases qN
   | text w => have qN : none = some s1 := qN; cases qN
  obtain ⟨k, hk, OK, NB⟩ := Lw (hI.same (s' := ⟨s.d, [.list l], s.args⟩) ⟨rfl, rfl⟩) qN
  have hf : ((((i + 1 : Nat) : Int)) == 0) = false := by simp; omega
  rw [← hf] at fx
  have me : (ω cF)[0 + ((i : Nat) : Int).toNat]? = some (kB (.list l)) := by rw [Nat.zero_add, Int.toNat_natCast, om, List.getElem?_map, pg]; rfl
  have kf : IntKind.i64.wrap ((i + 1 : Nat) : Int) = ((i + 1 : Nat) : Int) := ag (n := i + 1) (by omega)
  have kE : (i + 1 ≤ cF.length ∧ gB s1 ∧ oZ (cF.drop (i + 1)) s1 (((i + 1 : Nat) : Int) == 0) = some sf) := ⟨by omega, NB, fx⟩
  refine ε (pb rfl (Int.natCast_nonneg i) (by show ((i : Nat) : Int) < ((ω cF).length : Int); omega)) ?_
  refine ξ me ?_
  have sk : cF.length - (i + 1) < cF.length - i := by omega
  clear hx qN hd pg AM J2 M2 h3 hI
  have hk : k = 0 ∨ k = 1 ∨ k = 2 ∨ k = 3 ∨ k = 4 ∨ k = 5 ∨ k = 6 ∨ k = 7 ∨ k = 8 ∨ k = 9 ∨ k = 10 ∨ k = 11 := by omega
  rcases hk with rfl | rfl | rfl | rfl | rfl | rfl | rfl | rfl | rfl | rfl | rfl | rfl <;>
  (refine γ.Lz 15 [dO ⟨s.d, [.list l], s.args⟩, .t (.bool (((i : Nat) : Int) == 0))] ?_ rfl (fun j a a' ha p6 => ?_)
   ·refine DR OK rfl rfl (Ba _) (by rfl) rfl ?_
    refine δ kf ?_
    conv => whnf
    exact ⟨⟨⟨i + 1, s1⟩, kE⟩, π [0, 1, 2, 3, 4, 5, 6, 7, 8, 9, 10, 11, 12, 13] rfl ⟨rfl, rfl, rfl, rfl, rfl, rfl, rfl, trivial⟩ ⟨rfl, rfl, rfl, rfl, rfl, rfl, rfl, rfl, rfl, rfl, rfl, rfl, rfl, rfl, trivial⟩, sk⟩
   ·match j, ha, p6 with
    | 0, ha, p6 =>
     cases ha
     cases p6
     exact NM (.ff _ _ _ [15] 32 rfl (.vec 4 _) (fun b hb => hb))
    | 1, ha, p6 => cases ha; cases p6; exact .same _
    | j + 2, ha, p6 => cases ha)
 ·have c : (ω cF).length ≤ i := dE c
  have c : i = cF.length := by omega
  subst c
  rw [List.drop_length] at hx
  cases hx
  refine aX.trans (EI [0, 1, 2, 3, 4, 5, 6, 7, 8, 9, 10] (Ly (.ff _ _ _ _ 64 rfl (.of_eq (Jy sf.d)) (fun b hb => hb)))) ?_
  exact π [] rfl ⟨rfl, trivial⟩ trivial
end Go.Proofs.YtcogcbplmkcojaaGreatDoor
