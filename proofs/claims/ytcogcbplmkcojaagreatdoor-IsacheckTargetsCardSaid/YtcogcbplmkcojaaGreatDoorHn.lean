/-
  Is a form's operand excepted by the other's literals? Are two forms apart? (walks)
-/
import Derived.Test.YtcogcbplmkcojaaGreatDoorHm
namespace Go.Proofs.YtcogcbplmkcojaaGreatDoor
open Go.IntWalk
set_option maxRecDepth 100000
set_option linter.unusedVariables false
set_option linter.unusedSimpArgs false
set_option maxHeartbeats 1000000
def ya : Ord := (.op 0 [] (.op 1 [] (.op 2 [] (.op 3 [] (.op 4 [3, 2] (.op 5 [4, 3, 2] (.op 6 [3, 2] (.op 7 [] (.op 8 [] .nil)))))))))
def z5 : Ord := (.op 0 [] (.op 1 [0] (.op 2 [] (.op 3 [] (.op 4 [3, 2, 1, 0] (.op 5 [4, 3, 2, 1, 0] (.op 6 [3, 2, 1, 0] (.op 7 [3, 2, 1, 0] (.op 8 [] (.op 9 [8, 7, 6, 5, 4, 3, 2, 1, 0] (.op 10 [9, 8, 7, 6, 5, 4, 3, 2, 1, 0] (.op 11 [8, 7, 6, 5, 4, 3, 2, 1, 0] (.op 12 [8, 7, 6, 5, 4, 3, 2, 1, 0] (.op 13 [12, 11, 10, 9, 8, 7, 6, 5, 4, 3, 2, 1, 0] (.op 14 [13, 12, 11, 10, 9, 8, 7, 6, 5, 4, 3, 2, 1, 0] (.op 15 [12, 11, 10, 9, 8, 7, 6, 5, 4, 3, 2, 1, 0] (.op 16 [12, 11, 10, 9, 8, 7, 6, 5, 4, 3, 2, 1, 0] (.op 17 [8, 7, 6, 5, 4, 3, 2, 1, 0] (.op 18 [] (.op 19 [] .nil))))))))))))))))))))
theorem y8 (l : List Int) (v : Int) (hl : l.length ≤ 9223372036854775807) : φ Tryz.prog 127 [.κ 1 (l.map (T.int .i64)), .int .i64 v] (.t (.bool (decide (v ∈ l)))) := by
 have eT : (l.map (T.int .i64)).length = l.length := by simp
 refine φ.Λ ?_ rfl
 refine γ.ο ζ η Tryz.func127 rfl rfl ?_
 refine γ.ο ζ η Tryz.func170 rfl rfl ?_
 refine ak (fun i : Nat => i ≤ l.length ∧ ∀ x ∈ l.take i, ¬ x = v) (fun i => ⟨[(0, .t (.κ 1 (l.map (T.int .i64)))), (1, .t (.int .i64 v)), (7, .t (.int .i64 ((l.map (T.int .i64)).length : Int))), (8, .t (.int .i64 i))], []⟩)
  (fun i => l.length - i) 0 ⟨Nat.zero_le _, by simp⟩ ?_ (fun i hi => ?_)
 ·exact a8 ⟨rfl, rfl, rfl, rfl, trivial⟩ rfl
 obtain ⟨hi, hP⟩ := hi
 refine U (fun c => ?_) (fun c => ?_)
 ·have c : i < l.length := by have := dn c; omega
  obtain ⟨x, hx, cX⟩ := get_some (R := l) (i := i) c
  refine ξ (show (l.map (T.int .i64))[((i : Nat) : Int).toNat]? = some (T.int .i64 x) from by rw [Int.toNat_natCast, List.getElem?_map, hx]; rfl) ?_
  refine U (fun c2 => ?_) (fun c2 => ?_)
  ·have c2 : v = x := by simpa using c2
   exact And.intro (congrArg (fun b => some (T.bool b)) (by rw [show decide (v ∈ l) = true from decide_eq_true (by rw [c2]; exact cX)]; exact decide_eq_true (by omega))) rfl
  ·have c2 : ¬ v = x := by simpa using c2
   refine δ (n := ((i + 1 : Nat) : Int)) (ag (n := i + 1) (by omega)) ?_
   conv => whnf
   exact ⟨⟨i + 1, c, eh hx hP fun e => c2 e.symm⟩, π [] rfl ⟨rfl, rfl, rfl, rfl, trivial⟩ trivial, by show l.length - (i + 1) < l.length - i; omega⟩
 ·have c : i = l.length := by have := dE c; omega
  rw [c, List.take_length] at hP
  exact And.intro (congrArg (fun b => some (T.bool b)) (show decide ((-1 : Int) ≥ 0) = decide (v ∈ l) from by rw [decide_eq_false (fun h => hP v h rfl)]; rfl)) rfl
def kK (d : τ) (A B : List Θ) (i : Nat) (p : Nat) (wh : Bool) (n : Nat) : Prop :=
 p ≤ A.length ∧ n < 18446744073709551616 ∧ (wh = true → (∀ (q : Nat) (x : Θ), q < p → A[q]? = some x → x.arg = (i : Int) → ∃ y : Θ, B[q]? = some y ∧ gb y) ∧ e_ A i (gl B) p n) ∧
 (wh = false → ∃ (q : Nat) (x : Θ), A[q]? = some x ∧ x.arg = (i : Int) ∧ ¬ ∃ y : Θ, B[q]? = some y ∧ gb y)
theorem AR {d : τ} (hd : d.ok) (k : dN) (hm : k ∈ d.classes) : k.bb.length ≤ maxLen := (hd.2.2.2.2.2.2.2.2.2.1 k hm).2.2.2.2.2.2.1
def JB (k : dN) : List AV := [.t (.str k.name), .t (.int .i64 k.kind), .t (.int .i64 k.file), .t (.int .i64 k.bits), .t (.int .i64 k.shift), .t (.int .i64 k.plus), .t (.κ 1 (k.bb.map (T.int .i64)))]
def PM (d : τ) (f : aj) (A B : List Θ) (i p : Nat) (wh : Bool) (n : Nat) : List (Nat × AV) := [(2, .t (.κ 3 (A.map aA))), (3, .t (.κ 3 (B.map aA))), (4, .ptr 0 0 0 0), (17, .t (.κ 2 (f.args.map Φ))), (18, .t (.int .i64 ((f.args.map Φ).length : Int))), (19, .t (.int .i64 i)), (9, .t (.int .i64 i)), (11, .ptr 1 0 0 0), (12, .t (.int .u64 n)), (13, .t (.bool wh)), (31, .t (.κ 3 (A.map aA))), (32, .t (.int .i64 ((A.map aA).length : Int))), (33, .t (.int .i64 p))]
theorem Lp {b : Θ} (h : gb b) : φ Tryz.prog 68 [aA b] (.t (.bool true)) := by
 have := oY b
 rwa [show decide (b.arg < 0 ∧ b.lit ≠ 120) = true from decide_eq_true h] at this
theorem Ms {b : Θ} (h : ¬ gb b) : φ Tryz.prog 68 [aA b] (.t (.bool false)) := by
 have := oY b
 rwa [show decide (b.arg < 0 ∧ b.lit ≠ 120) = false from decide_eq_false h] at this
theorem oA.op {d : τ} {f : aj} {x : Θ} {i : Nat} {a : cU} {k : dN} (h : oA d f x) (hx : x.arg = (i : Int)) (ha : f.args[i]? = some a) (hk : cV d.classes a.bn = some k) : ∃ m : Nat, x.num = (m : Int) ∧ (m : Int) < k.bits ∧ x.lit = 0 := by
 rcases h with ⟨h, _⟩ | ⟨h0, j, a', k', m, h1, h2, h3, h4, h5, _⟩
 ·omega
 ·obtain rfl : i = j := by omega
  rw [ha] at h2
  obtain rfl := Option.some.inj h2
  rw [hk] at h3
  obtain rfl := Option.some.inj h3
  exact ⟨m, h4, h5, h0⟩
theorem kK.off {d : τ} {A B : List Θ} {i p n : Nat} {wh : Bool} (h : kK d A B i p wh n) (hp : p < A.length) (hw : ∃ (q : Nat) (x : Θ), A[q]? = some x ∧ x.arg = (i : Int) ∧ ¬ ∃ y : Θ, B[q]? = some y ∧ gb y) : kK d A B i (p + 1) false n := ⟨hp, h.2.1, fun e => (by cases e), fun _ => hw⟩
theorem kK.skip {d : τ} {A B : List Θ} {i p n : Nat} {wh : Bool} {x : Θ} (h : kK d A B i p wh n) (hx : A[p]? = some x) (hp : p < A.length) (hs : x.arg = (i : Int) → (∃ y : Θ, B[p]? = some y ∧ gb y) ∧ gl B p = false) : kK d A B i (p + 1) wh n :=
 ⟨hp, h.2.1, fun e => ⟨fun q z hq hz J1 => by
  by_cases e2 : q = p
  ·subst e2
   obtain rfl : x = z := by rw [hx] at hz; exact Option.some.inj hz
   exact (hs J1).1
  ·exact (h.2.2.1 e).1 q z (by omega) hz J1, (h.2.2.1 e).2.skip hx fun hi => (hs hi).2⟩, h.2.2.2⟩
theorem kK.set {d : τ} {A B : List Θ} {i p n m : Nat} {wh : Bool} {x : Θ} (h : kK d A B i p wh n) (hx : A[p]? = some x) (hp : p < A.length) (hi : x.arg = (i : Int)) (hm : x.num = (m : Int)) (mG : m < 64) (hy : ∃ y : Θ, B[p]? = some y ∧ gb y) (ho : gl B p = true) : kK d A B i (p + 1) wh (n ||| 2 ^ m) :=
 ⟨hp, vQ h.2.1 mG, fun e => ⟨fun q z hq hz J1 => by
  by_cases e2 : q = p
  ·subst e2; exact hy
  ·exact (h.2.2.1 e).1 q z (by omega) hz J1, (h.2.2.1 e).2.set hx hi hm ho⟩, h.2.2.2⟩
def Ea (d : τ) (f : aj) (A B : List Θ) (i : Nat) : Prop :=
 ∃ (a : cU) (k : dN) (n : Nat), f.args[i]? = some a ∧ cV d.classes a.bn = some k ∧ (∀ (p : Nat) (x : Θ), A[p]? = some x → x.arg = (i : Int) → ∃ y : Θ, B[p]? = some y ∧ gb y) ∧ jc A i (gl B) n ∧ eo k n ∈ k.bb
theorem tx (d : τ) (f : aj) (hd : d.ok) (hG : di d f) (A B : List Θ) (hA : A = aE d f) (PD : B.length ≤ 120) : af Tryz.prog 75 [aq d, ab f, .κ 3 (A.map aA), .κ 3 (B.map aA)] (aO (HA d f A B)) := by
 have R5 : A.length ≤ 120 := by rw [hA, iA]; exact hG.le
 have PG : ∀ (p : Nat) (x : Θ), A[p]? = some x → oA d f x := fun p x h => hG.FX (by rw [← hA]; exact h)
 have M0 : (A.map aA).length = A.length := by simp
 have Tm : (B.map aA).length = B.length := by simp
 have Gd : (f.args.map Φ).length = f.args.length := by simp
 have Ps := hG.args
 refine af.Λ ?_ aO.aL
 refine γ.ο ζ η Tryz.func75 rfl rfl ?_
 refine ak (fun i : Nat => i ≤ f.args.length ∧ ∀ j, j < i → ¬ Ea d f A B j) (fun i => ⟨[(2, .t (.κ 3 (A.map aA))), (3, .t (.κ 3 (B.map aA))), (4, .ptr 0 0 0 0), (17, .t (.κ 2 (f.args.map Φ))), (18, .t (.int .i64 ((f.args.map Φ).length : Int))), (19, .t (.int .i64 i))], [.box (b_ d)]⟩)
  (fun i => f.args.length - i) 0 ⟨Nat.zero_le _, fun j h => absurd h (Nat.not_lt_zero _)⟩ ?_ (fun i ⟨hi, hN⟩ => ?_)
 ·exact π [0] rfl ⟨rfl, rfl, rfl, rfl, rfl, rfl, trivial⟩ ⟨rfl, trivial⟩
 have hi : i ≤ f.args.length := hi
 refine U (fun c => ?_) (fun c => ?_)
 rotate_left 1
 ·have c : i = f.args.length := by have := dE c; omega
  exact ae fun h => by
   obtain ⟨j, a, h1⟩ := h
   have := h1
   obtain ⟨k, n, h2, h3⟩ := this
   exact hN j (by have := (List.getElem?_eq_some_iff.1 h2).1; omega) ⟨a, h1⟩
 have c : i < f.args.length := by have := dn c; omega
 obtain ⟨a, ha, wv⟩ := get_some (R := f.args) (i := i) c
 obtain ⟨k, hk, de⟩ := hG.CK a wv
 have cm := oy hk
 obtain ⟨k2, dA, Gg, pW⟩ := cN cm
 obtain rfl : k = k2 := by rw [hk] at dA; exact Option.some.inj dA
 have Nn : k.bb.length ≤ 9223372036854775807 := du (AR hd k Gg)
 refine ξ (show (f.args.map Φ)[((i : Nat) : Int).toNat]? = some (Φ a) from by rw [Int.toNat_natCast, List.getElem?_map, ha]; rfl) ?_
 refine ε (gn rfl cm.1) ?_
 refine ξ (bW pW) ?_
 refine dW (fun e s' => e = .exit 2 ∧ ∃ (p : Nat) (wh : Bool) (n : Nat), kK d A B i p wh n ∧ p = A.length ∧ s' = ⟨(34, .t (.bool (decide ((p : Int) < ((A.map aA).length : Int))))) :: PM d f A B i p wh n, [.box (b_ d), .box (JB k)]⟩) (fun Q' hq => ?_) ?_
 ·refine ak (fun s : Nat × Bool × Nat => kK d A B i s.1 s.2.1 s.2.2) (fun s => ⟨PM d f A B i s.1 s.2.1 s.2.2, [.box (b_ d), .box (JB k)]⟩)
   (fun s => A.length - s.1) (0, true, 0) ⟨Nat.zero_le _, by decide, fun _ => ⟨fun q x h => absurd h (Nat.not_lt_zero _), e_.zero _ _ _⟩, fun h => by cases h⟩ ?_ (fun ⟨p, wh, n⟩ hp => ?_)
  ·exact π [0, 2] rfl ⟨rfl, rfl, rfl, rfl, rfl, rfl, rfl, rfl, rfl, rfl, rfl, rfl, rfl, trivial⟩ ⟨rfl, rfl, trivial⟩
  have hp : kK d A B i p wh n := hp
  refine U (fun cp => ?_) (fun cp => ?_)
  ·have cq : p < A.length := by have := dn cp; omega
   obtain ⟨x, hx, cX⟩ := get_some (R := A) (i := p) cq
   refine ξ (show (A.map aA)[((p : Nat) : Int).toNat]? = some (aA x) from by rw [Int.toNat_natCast, List.getElem?_map, hx]; rfl) ?_
   refine U (fun ce => ?_) (fun ce => ?_)
   ·have ce : x.arg = (i : Int) := by simpa using ce
    obtain ⟨m, hm, ph, _⟩ := (PG p x hx).op ce ha hk
    have mG : m < 64 := by rcases de with h | h | h <;> omega
    cases wh with
    | false =>
     refine δ (n := ((p + 1 : Nat) : Int)) (ag (n := p + 1) (by omega)) ?_
     conv => whnf
     exact ⟨⟨(p + 1, false, n), hp.off cq (hp.2.2.2 rfl)⟩, π [0, 1] rfl ⟨rfl, rfl, rfl, rfl, rfl, rfl, rfl, rfl, rfl, rfl, rfl, rfl, rfl, trivial⟩ ⟨rfl, rfl, trivial⟩, by show A.length - (p + 1) < A.length - p; omega⟩
    | true =>
     refine U (fun cb => ?_) (fun cb => ?_)
     ·have cb : p < B.length := by have := dn cb; omega
      obtain ⟨y, hy, QS⟩ := get_some (R := B) (i := p) cb
      refine ξ (show (B.map aA)[((p : Nat) : Int).toNat]? = some (aA y) from by rw [Int.toNat_natCast, List.getElem?_map, hy]; rfl) ?_
      by_cases hl : gb y
      ·refine γ.b9 (Lp hl) rfl ⟨.refl _, trivial⟩ ?_
       refine ξ (show (B.map aA)[((p : Nat) : Int).toNat]? = some (aA y) from by rw [Int.toNat_natCast, List.getElem?_map, hy]; rfl) ?_
       refine U (fun iL => ?_) (fun iL => ?_)
       ·have iL : y.lit = 49 := tP.1 iL
        refine ε (decide_eq_true (show (0 : Int) ≤ x.num by omega)) ?_
        refine δ (n := ((2 ^ m : Nat) : Int)) (qy hm mG) ?_
        refine δ (n := ((n ||| 2 ^ m : Nat) : Int)) (vB hp.2.1 (rA mG)) ?_
        refine δ (n := ((p + 1 : Nat) : Int)) (ag (n := p + 1) (by omega)) ?_
        conv => whnf
        exact ⟨⟨(p + 1, true, n ||| 2 ^ m), hp.set hx cq ce hm mG ⟨y, hy, hl⟩ (by unfold gl; rw [hy]; exact decide_eq_true iL)⟩, π [0, 1] rfl ⟨rfl, rfl, rfl, rfl, rfl, rfl, rfl, rfl, rfl, rfl, rfl, rfl, rfl, trivial⟩ ⟨rfl, rfl, trivial⟩, by show A.length - (p + 1) < A.length - p; omega⟩
       ·have iL : ¬ y.lit = 49 := fun e => by rw [tP.2 e] at iL; cases iL
        refine δ (n := ((p + 1 : Nat) : Int)) (ag (n := p + 1) (by omega)) ?_
        conv => whnf
        exact ⟨⟨(p + 1, true, n), hp.skip hx cq fun _ => ⟨⟨y, hy, hl⟩, by unfold gl; rw [hy]; exact decide_eq_false iL⟩⟩, π [0, 1] rfl ⟨rfl, rfl, rfl, rfl, rfl, rfl, rfl, rfl, rfl, rfl, rfl, rfl, rfl, trivial⟩ ⟨rfl, rfl, trivial⟩, by show A.length - (p + 1) < A.length - p; omega⟩
      ·refine γ.b9 (Ms hl) rfl ⟨.refl _, trivial⟩ ?_
       refine δ (n := ((p + 1 : Nat) : Int)) (ag (n := p + 1) (by omega)) ?_
       conv => whnf
       exact ⟨⟨(p + 1, false, n), hp.off cq ⟨p, x, hx, ce, fun ⟨y2, h1, h2⟩ => by rw [hy] at h1; cases h1; exact hl h2⟩⟩, π [0, 1] rfl ⟨rfl, rfl, rfl, rfl, rfl, rfl, rfl, rfl, rfl, rfl, rfl, rfl, rfl, trivial⟩ ⟨rfl, rfl, trivial⟩, by show A.length - (p + 1) < A.length - p; omega⟩
     ·have cb : ¬ p < B.length := by have := dE cb; omega
      refine δ (n := ((p + 1 : Nat) : Int)) (ag (n := p + 1) (by omega)) ?_
      conv => whnf
      exact ⟨⟨(p + 1, false, n), hp.off cq ⟨p, x, hx, ce, fun ⟨y2, h1, h2⟩ => cb (List.getElem?_eq_some_iff.1 h1).1⟩⟩, π [0, 1] rfl ⟨rfl, rfl, rfl, rfl, rfl, rfl, rfl, rfl, rfl, rfl, rfl, rfl, rfl, trivial⟩ ⟨rfl, rfl, trivial⟩, by show A.length - (p + 1) < A.length - p; omega⟩
   ·have ce : ¬ x.arg = (i : Int) := by simpa using ce
    refine δ (n := ((p + 1 : Nat) : Int)) (ag (n := p + 1) (by omega)) ?_
    conv => whnf
    exact ⟨⟨(p + 1, wh, n), hp.skip hx cq fun e => absurd e ce⟩, π [0, 1] rfl ⟨rfl, rfl, rfl, rfl, rfl, rfl, rfl, rfl, rfl, rfl, rfl, rfl, rfl, trivial⟩ ⟨rfl, rfl, trivial⟩, by show A.length - (p + 1) < A.length - p; omega⟩
  ·have cp : p = A.length := by have := dE cp; have := hp.1; omega
   exact hq _ _ ⟨rfl, p, wh, n, hp, cp, rfl⟩
 rintro _ _ ⟨rfl, p, wh, n, hp, rfl, rfl⟩
 have Ka : ¬ Ea d f A B i → i + 1 ≤ f.args.length ∧ ∀ j, j < i + 1 → ¬ Ea d f A B j := fun h => ⟨c, fun j hj => by
  by_cases e : j = i
  ·rw [e]; exact h
  ·exact hN j (by omega)⟩
 cases wh with
 | false =>
  have MV := Ka fun ⟨_, _, _, _, _, h, _⟩ => by
   obtain ⟨q, x, h1, h2, h3⟩ := hp.2.2.2 rfl
   exact h3 (h q x h1 h2)
  refine υ ya (by decide +kernel) ?_
  refine And.intro (fun j hj => by first | (cases hj; done) | exact ψ.append _ _ _ | exact ψ.refl _ _) ?_
  refine And.intro (fun j hj => by first | (cases hj; done) | exact ψ.append _ _ _ | exact ψ.refl _ _) ?_
  refine δ (n := ((i + 1 : Nat) : Int)) (ag (n := i + 1) (by omega)) ?_
  conv => whnf
  exact ⟨⟨i + 1, MV⟩, π [0] rfl ⟨rfl, rfl, rfl, rfl, rfl, rfl, trivial⟩ ⟨rfl, trivial⟩, by show f.args.length - (i + 1) < f.args.length - i; omega⟩
 | true =>
  obtain ⟨h1, h2⟩ := hp.2.2.1 rfl
  have hn := h2.lt (k := k.bits.toNat) fun q x hq hx => by
   obtain ⟨m, hm, ph, _⟩ := (PG q x hq).op hx ha hk
   omega
  refine υ ya (by decide +kernel) ?_
  refine γ.b9 (CY d k de n hn) rfl ⟨.refl _, .refl _, trivial⟩ ?_
  refine And.intro (fun j hj => by first | (cases hj; done) | exact ψ.append _ _ _ | exact ψ.refl _ _) ?_
  refine γ.b9 (y8 k.bb (eo k n) Nn) rfl ⟨.refl _, .refl _, trivial⟩ ?_
  refine And.intro (fun j hj => by first | (cases hj; done) | exact ψ.append _ _ _ | exact ψ.refl _ _) ?_
  refine U (fun ce => ?_) (fun ce => ?_)
  ·have ce : eo k n ∈ k.bb := of_decide_eq_true ce
   exact aU ⟨fun _ => ⟨i, a, k, n, ha, hk, fun q x hq hx => h1 q x (List.getElem?_eq_some_iff.1 hq).1 hq hx, h2.all, ce⟩, fun _ => rfl⟩
  have ce : ¬ eo k n ∈ k.bb := of_decide_eq_false ce
  have MV := Ka fun ⟨a', k', n', h3, h4, _, h5, h6⟩ => by
   rw [ha] at h3; cases h3
   cases sa hk h4
   cases h5.oJ h2.all
   exact ce h6
  refine δ (n := ((i + 1 : Nat) : Int)) (ag (n := i + 1) (by omega)) ?_
  conv => whnf
  exact ⟨⟨i + 1, MV⟩, π [0] rfl ⟨rfl, rfl, rfl, rfl, rfl, rfl, trivial⟩ ⟨rfl, trivial⟩, by show f.args.length - (i + 1) < f.args.length - i; omega⟩
theorem yU (d : τ) (f g : aj) (hd : d.ok) (hf : di d f) (hg : di d g) {a0 a1 u0 u1 b0 b1 v0 v1 : Nat} (Gz : ee (aE d f) (aE d f).length a0 a1 u0 u1) (Gy : ee (aE d g) (aE d g).length b0 b1 v0 v1) :
 af Tryz.prog 27 [aq d, ab f, ab g, rC (.vec 3 ((aE d f).map aA)) a0 a1 u0 u1, rC (.vec 3 ((aE d g).map aA)) b0 b1 v0 v1] (aO (iG d f g)) := by
 have yA : (aE d f).length ≤ 120 := by rw [iA]; exact hf.le
 have Nc : (aE d g).length ≤ 120 := by rw [iA]; exact hg.le
 obtain ⟨yF, PH, _⟩ := Gz.jv
 obtain ⟨Py, Px, _⟩ := Gz.want
 obtain ⟨R4, R1, _⟩ := Gy.jv
 obtain ⟨Pw, Pv, _⟩ := Gy.want
 have RW := tx d f hd hf (aE d f) (aE d g) rfl Nc
 have RV := tx d g hd hg (aE d g) (aE d f) rfl yA
 refine af.Λ ?_ aO.aL
 refine γ.ο ζ η Tryz.func27 rfl rfl ?_
 refine bd 3 ?_
 refine υ z5 (by decide +kernel) ?_
 refine δ (n := ((a0 &&& b0 : Nat) : Int)) (vC yF R4) ?_
 refine δ (n := ((u0 ^^^ v0 : Nat) : Int)) (EJ Py Pw) ?_
 refine δ (n := ((a0 &&& b0 &&& (u0 ^^^ v0) : Nat) : Int)) (vC (Nat.lt_of_le_of_lt Nat.and_le_left yF) (Nat.xor_lt_two_pow (n := 64) Py Pw)) ?_
 refine U (fun c => ?_) (fun c0 => ?_)
 ·exact aU ⟨fun _ => .inl (Jw Gz Gy (by intro e; rw [e] at c; cases c)), fun _ => rfl⟩
 have c0 : a0 &&& b0 &&& (u0 ^^^ v0) = 0 := by have : (((a0 &&& b0 &&& (u0 ^^^ v0) : Nat) : Int) != 0) = false := c0
                                               simp at this; omega
 refine υ z5 (by decide +kernel) ?_
 refine δ (n := ((a1 &&& b1 : Nat) : Int)) (vC PH R1) ?_
 refine δ (n := ((u1 ^^^ v1 : Nat) : Int)) (EJ Px Pv) ?_
 refine δ (n := ((a1 &&& b1 &&& (u1 ^^^ v1) : Nat) : Int)) (vC (Nat.lt_of_le_of_lt Nat.and_le_left PH) (Nat.xor_lt_two_pow (n := 64) Px Pv)) ?_
 refine U (fun c => ?_) (fun c1 => ?_)
 ·exact aU ⟨fun _ => .inl (GS Gz Gy (by intro e; rw [e] at c; cases c)), fun _ => rfl⟩
 have c1 : a1 &&& b1 &&& (u1 ^^^ v1) = 0 := by have : (((a1 &&& b1 &&& (u1 ^^^ v1) : Nat) : Int) != 0) = false := c1
                                               simp at this; omega
 have sj := GR Gz Gy (by omega) c0 c1
 refine γ.cD RW rfl ⟨.refl _, .refl _, .vec 3 _, .vec 3 _, trivial⟩ ?_
 rintro _ ⟨e1, rfl, p1⟩
 cases e1 with
 | true => exact aU ⟨fun _ => .inr (.inl (p1.1 rfl)), fun _ => rfl⟩
 | false =>
  refine γ.cD RV rfl ⟨.refl _, .refl _, .vec 3 _, .vec 3 _, trivial⟩ ?_
  rintro _ ⟨e2, rfl, p2⟩
  exact aU ⟨fun h => .inr (.inr (p2.1 h)), fun h => by
   rcases h with h | h | h
   ·exact absurd h sj
   ·exact absurd (p1.2 h) (by decide)
   ·exact p2.2 h⟩
end Go.Proofs.YtcogcbplmkcojaaGreatDoor
