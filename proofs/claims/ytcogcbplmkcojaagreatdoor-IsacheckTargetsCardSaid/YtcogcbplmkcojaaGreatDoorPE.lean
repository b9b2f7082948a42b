/-
  The ground of the walks of this seat, part PE.
-/
import Derived.Test.YtcogcbplmkcojaaGreatDoorPA
namespace Go.Proofs.YtcogcbplmkcojaaGreatDoor
open Go.IntWalk
set_option maxRecDepth 100000
set_option linter.unusedVariables false
set_option linter.unusedSimpArgs false
set_option maxHeartbeats 4000000
def Fy : Ord := (.op 0 [] (.op 1 [0] (.op 2 [1] (.op 3 [] (.op 4 [] .nil)))))
def Fx : Ord := (.op 0 [] (.op 1 [0] (.op 2 [1] (.op 3 [] (.op 4 [] .nil)))))
def Dk : Ord := (.op 0 [] (.op 1 [0] (.op 2 [1] (.op 3 [] (.op 4 [] .nil)))))
def Dj : Ord := (.op 0 [] (.op 1 [0] (.op 2 [1] (.op 3 [] (.op 4 [] .nil)))))
def Di : Ord := (.op 0 [] (.op 1 [0] (.op 2 [1] (.op 3 [] (.op 4 [] .nil)))))
def Dh : Ord := (.op 0 [] (.op 1 [0] (.op 2 [1] (.op 3 [] (.op 4 [] .nil)))))
def Dg : Ord := (.op 0 [] (.op 1 [0] (.op 2 [1] (.op 3 [] (.op 4 [] .nil)))))
def vM : Ord := (.op 0 [] (.op 1 [0] (.op 2 [1] (.op 3 [] (.op 4 [] .nil)))))
def Df : Ord := (.op 0 [] (.op 1 [0] (.op 2 [1] (.op 3 [] (.op 4 [] .nil)))))
def De : Ord := (.op 0 [] (.op 2 [0] (.op 1 [2, 0] (.op 3 [0] (.op 4 [0] (.op 5 [] (.op 6 [] .nil)))))))
def Dd : Ord := (.op 0 [] (.op 1 [0] (.op 2 [1] (.op 3 [] (.op 4 [] .nil)))))
theorem j6 : ∀ (w : List UInt8) (x : List Nat), jA w x = true → w = x.map UInt8.ofNat
 | [], [], _ => rfl
 | [], _ :: _, h => by simp [jA] at h
 | _ :: _, [], h => by simp [jA] at h
 | c :: w, n :: x, h => by
  simp only [jA] at h
  cases hb : Nat.beq c.toNat n with
  | false => rw [hb] at h; cases h
  | true =>
   rw [hb] at h
   have e : c.toNat = n := Nat.eq_of_beq_eq_true hb
   rw [List.map_cons, ← j6 w x h, ← e]
   simp
theorem aZ : ∀ (L : List (List Nat)) (w : List UInt8) (n j : Nat), cH w n L = some j → ∃ i x, j = n + i ∧ L[i]? = some x ∧ w = x.map UInt8.ofNat
 | [], w, n, j, h => by cases h
 | x :: r, w, n, j, h => by
  unfold cH at h
  cases hb : jA w x with
  | true => rw [hb] at h; cases h; exact ⟨0, x, rfl, rfl, j6 w x hb⟩
  | false =>
   rw [hb] at h
   obtain ⟨i, y, h1, h2, h3⟩ := aZ r w (n + 1) j h
   exact ⟨i + 1, y, by omega, h2, h3⟩
theorem mE (w : List UInt8) : ∀ (L : List (List UInt8)) (n : Nat), cH w n (L.map (·.map (·.toNat))) = iq w n L
 | [], _ => rfl
 | x :: r, n => by
  rw [List.map_cons]
  unfold cH iq
  rw [mE w r (n + 1), wG]
  have : (w == x) = mR x w := by
   cases h : mR x w with
   | true => rw [(nt x w).1 h]; simp
   | false =>
    have : ¬ w = x := fun e => by rw [e, (nt x x).2 rfl] at h; cases h
    simpa using this
  rw [this]
def sO : List (List UInt8) := z8.map (·.map UInt8.ofNat)
def qP : List (List UInt8) := wo.map (·.map UInt8.ofNat)
theorem z9 : sO.map (·.map (·.toNat)) = z8 := by decide
theorem AQ : qP.map (·.map (·.toNat)) = wo := by decide
theorem rH : φ Tryz.prog 111 [] (.own 9 1 false (sO.map T.str)) := by
 refine φ.fR ?_ rfl
 refine γ.ο ζ η Tryz.func111 rfl rfl ?_
 exact ⟨sO.map T.str, rfl, rfl, rfl, .refl _⟩
theorem rQ : φ Tryz.prog 112 [] (.own 9 1 false (qP.map T.str)) := by
 refine φ.fR ?_ rfl
 refine γ.ο ζ η Tryz.func112 rfl rfl ?_
 exact ⟨qP.map T.str, rfl, rfl, rfl, .refl _⟩
theorem m7 {s s' : PS} {k i : Nat} (h : bK s k = some (s', i)) : Ξ s s' := by
 obtain ⟨w, hw, _⟩ := m6 h; exact aQ hw
theorem gO {s s' : PS} {n : Int} (h : cd s = some (s', n)) : Ξ s s' := by
 obtain ⟨r, _, rfl, _, _⟩ := pQ h; exact ⟨rfl, rfl⟩
theorem ux {s s' : PS} (hs : cE s) {n : Int} (h : pN s = some (s', n)) : Ξ s s' ∧ γ Tryz.prog 161 [dO s] (dH s.d) (fun v H => v = .ao [dO s', .t (.int .i64 n)] ∧ H = dH s.d) := by
 unfold pN at h
 split at h
 ·rename_i m r hr
  cases hb : Nat.ble m 1000000000000000000 with
  | false => rw [hb] at h; cases h
  | true =>
   rw [hb] at h
   cases h
   have hn : cd s = some (⟨s.d, r, s.args⟩, .ofNat m) := by unfold cd; rw [hr]; simp only [hb]
   have hN := cS hn
   have hb := Nat.le_of_ble_eq_true hb
   obtain ⟨d, rest, a⟩ := s
   obtain rfl : rest = _ := hr
   refine ⟨⟨rfl, rfl⟩, ?_⟩
   refine bx ?_
   refine γ.ο ζ η Tryz.func161 rfl rfl ?_
   refine U (fun c => ?_) (fun c => absurd (eI.symm.trans c) (by decide))
   refine θ hN (by rfl) (by rfl) ?_
   refine δ (n := -1 - (m : Int)) (show IntKind.i64.wrap (-1 - ((m : Nat) : Int)) = _ from by rw [IntKind.wrap_i64]; omega) ?_
   refine Ω ?_ ?_
   ·exact ⟨rfl, trivial⟩
   ·exact ⟨rfl, rfl, rfl, rfl, rfl, rfl, rfl, rfl, rfl, rfl, rfl, trivial⟩
 ·cases h
 ·rename_i SV MY
  split at h
  ·rename_i s1 i hk
   cases h
   refine ⟨m7 hk, ?_⟩
   have hK := dX hs (k := 7) (by decide) hk
   obtain ⟨w, hw, _⟩ := m6 hk
   obtain ⟨r, hr, rfl⟩ := iO hw
   obtain ⟨d, rest, a⟩ := s
   obtain rfl : rest = _ := hr
   refine bx ?_
   refine γ.ο ζ η Tryz.func161 rfl rfl ?_
   refine U (fun c => ?_) (fun c => absurd (eI.symm.trans c) (by decide))
   refine θ hK (by rfl) (by rfl) ?_
   refine Ω ?_ ?_
   ·exact ⟨rfl, trivial⟩
   ·exact ⟨rfl, rfl, rfl, rfl, rfl, rfl, rfl, rfl, rfl, rfl, rfl, trivial⟩
  ·cases h
end Go.Proofs.YtcogcbplmkcojaaGreatDoor
namespace Go.Proofs.YtcogcbplmkcojaaGreatDoor
open Go.IntWalk
set_option maxRecDepth 100000
set_option linter.unusedVariables false
set_option linter.unusedSimpArgs false
set_option maxHeartbeats 4000000
theorem FY {s s' : PS} {n : Int} (h : kS s = some (s', n)) : Ξ s s' := by
 obtain ⟨r, _, rfl⟩ := iH h; exact ⟨rfl, rfl⟩
theorem MA {s s' : PS} {n : Int} (h : kS s = some (s', n)) : γ Tryz.prog 60 [dO s, .t (.int .i64 2)] (dH s.d) (fun v H => v = .ao [dO s', .agg (tC 2 [] n [])] ∧ H = dH s.d) := by
 obtain ⟨r, hr, rfl⟩ := iH h
 obtain ⟨d, rest, a⟩ := s
 obtain rfl : rest = _ := hr
 exact dj d 2 [] n [] (ω r) (a.map Φ) (.inr rfl)
def xM (s s' : PS) (head : List UInt8) (op w a b : Int) (n : Nat) : Prop := γ Tryz.prog 183 [dO s, .t (.str head)] (dH s.d) (fun v H => v = .ao [dO s', .agg (zD op w a b), .t (.int .i64 n)] ∧ H = dH s.d)
theorem EZ {s s' : PS} (hs : cE s) {head : List UInt8} {op w a b : Int} {n : Nat} (h : xi s head = some (s', (op, w, a, b), n)) : Ξ s s' ∧ n ≤ 3 ∧ xM s s' head op w a b n := by
 unfold xM
 unfold xi at h
 split at h
 ·rename_i e
  obtain ⟨i, x, q1, q2, q3⟩ := aZ _ _ _ _ e
  obtain rfl : i = 0 := by omega
  cases q2
  subst q3
  cases h
  obtain ⟨d, mT, g0⟩ := s
  refine ⟨⟨rfl, rfl⟩, by decide, ?_⟩
  refine bx ?_
  refine γ.ο ζ η Tryz.func183 rfl rfl ?_
  refine ax (dB 12 [1]) Fy (by decide +kernel) ?_
  refine And.intro (fun j hj => by rw [List.mem_singleton.1 hj]; exact ψ.set (b := 12) _ (List.mem_singleton.2 rfl)) ?_
  refine And.intro (fun j hj => by cases hj) ?_
  refine And.intro (fun j hj => by cases hj) ?_
  refine Ω ?_ ?_
  ·exact ⟨rfl, trivial⟩
  ·exact ⟨rfl, rfl, rfl, rfl, rfl, rfl, rfl, rfl, rfl, rfl, rfl, trivial⟩
 ·rename_i e
  obtain ⟨i, x, q1, q2, q3⟩ := aZ _ _ _ _ e
  obtain rfl : i = 1 := by omega
  cases q2
  subst q3
  cases h
  obtain ⟨d, mT, g0⟩ := s
  refine ⟨⟨rfl, rfl⟩, by decide, ?_⟩
  refine bx ?_
  refine γ.ο ζ η Tryz.func183 rfl rfl ?_
  refine ax (dB 12 [1]) Fx (by decide +kernel) ?_
  refine And.intro (fun j hj => by rw [List.mem_singleton.1 hj]; exact ψ.set (b := 12) _ (List.mem_singleton.2 rfl)) ?_
  refine And.intro (fun j hj => by cases hj) ?_
  refine And.intro (fun j hj => by cases hj) ?_
  refine Ω ?_ ?_
  ·exact ⟨rfl, trivial⟩
  ·exact ⟨rfl, rfl, rfl, rfl, rfl, rfl, rfl, rfl, rfl, rfl, rfl, trivial⟩
 ·rename_i e
  obtain ⟨i, x, q1, q2, q3⟩ := aZ _ _ _ _ e
  obtain rfl : i = 2 := by omega
  cases q2
  subst q3
  split at h
  rotate_left 1
  ·cases h
  rename_i s1 v1 h1
  split at h
  rotate_left 1
  ·cases h
  rename_i s2 v2 h2
  cases h
  have e1 := gO h1
  have e2 := FY h2
  have f2 := e1.trans e2
  have f1 := e1
  have c1 := cS h1
  have c2 := MA h2
  obtain ⟨d, mT, g0⟩ := s
  obtain ⟨d1, mS, g1⟩ := s1
  obtain rfl : d = d1 := f1.1.symm
  obtain ⟨d2, vJ, g2⟩ := s'
  obtain rfl : d = d2 := f2.1.symm
  refine ⟨f2, by decide, ?_⟩
  refine bx ?_
  refine γ.ο ζ η Tryz.func183 rfl rfl ?_
  refine θ c1 (by rfl) (by rfl) ?_
  refine θ c2 (by rfl) (by rfl) ?_
  refine ax (dB 12 [1]) Dk (by decide +kernel) ?_
  refine And.intro (fun j hj => by rw [List.mem_singleton.1 hj]; exact ψ.set (b := 12) _ (List.mem_singleton.2 rfl)) ?_
  refine And.intro (fun j hj => by cases hj) ?_
  refine And.intro (fun j hj => by cases hj) ?_
  refine Ω ?_ ?_
  ·exact ⟨rfl, trivial⟩
  ·exact ⟨rfl, rfl, rfl, rfl, rfl, rfl, rfl, rfl, rfl, rfl, rfl, trivial⟩
 ·rename_i e
  obtain ⟨i, x, q1, q2, q3⟩ := aZ _ _ _ _ e
  obtain rfl : i = 3 := by omega
  cases q2
  subst q3
  split at h
  rotate_left 1
  ·cases h
  rename_i s1 v1 h1
  split at h
  rotate_left 1
  ·cases h
  rename_i s2 v2 h2
  cases h
  have e1 := m7 h1
  have e2 := gO h2
  have f2 := e1.trans e2
  have f1 := e1
  have c1 := dX hs (k := 7) (by decide) h1
  have c2 := cS h2
  obtain ⟨d, mT, g0⟩ := s
  obtain ⟨d1, mS, g1⟩ := s1
  obtain rfl : d = d1 := f1.1.symm
  obtain ⟨d2, vJ, g2⟩ := s'
  obtain rfl : d = d2 := f2.1.symm
  refine ⟨f2, by decide, ?_⟩
  refine bx ?_
  refine γ.ο ζ η Tryz.func183 rfl rfl ?_
  refine θ c1 (by rfl) (by rfl) ?_
  refine θ c2 (by rfl) (by rfl) ?_
  refine ax (dB 12 [1]) Dj (by decide +kernel) ?_
  refine And.intro (fun j hj => by rw [List.mem_singleton.1 hj]; exact ψ.set (b := 12) _ (List.mem_singleton.2 rfl)) ?_
  refine And.intro (fun j hj => by cases hj) ?_
  refine And.intro (fun j hj => by cases hj) ?_
  refine Ω ?_ ?_
  ·exact ⟨rfl, trivial⟩
  ·exact ⟨rfl, rfl, rfl, rfl, rfl, rfl, rfl, rfl, rfl, rfl, rfl, trivial⟩
 ·rename_i e
  obtain ⟨i, x, q1, q2, q3⟩ := aZ _ _ _ _ e
  obtain rfl : i = 4 := by omega
  cases q2
  subst q3
  split at h
  rotate_left 1
  ·cases h
  rename_i s1 v1 h1
  cases h
  have e1 := m7 h1
  have f1 := e1
  have c1 := dX hs (k := 3) (by decide) h1
  obtain ⟨d, mT, g0⟩ := s
  obtain ⟨d1, mS, g1⟩ := s'
  obtain rfl : d = d1 := f1.1.symm
  refine ⟨f1, by decide, ?_⟩
  refine bx ?_
  refine γ.ο ζ η Tryz.func183 rfl rfl ?_
  refine θ c1 (by rfl) (by rfl) ?_
  refine ax (dB 12 [1]) Di (by decide +kernel) ?_
  refine And.intro (fun j hj => by rw [List.mem_singleton.1 hj]; exact ψ.set (b := 12) _ (List.mem_singleton.2 rfl)) ?_
  refine And.intro (fun j hj => by cases hj) ?_
  refine And.intro (fun j hj => by cases hj) ?_
  refine Ω ?_ ?_
  ·exact ⟨rfl, trivial⟩
  ·exact ⟨rfl, rfl, rfl, rfl, rfl, rfl, rfl, rfl, rfl, rfl, rfl, trivial⟩
 ·rename_i e
  obtain ⟨i, x, q1, q2, q3⟩ := aZ _ _ _ _ e
  obtain rfl : i = 5 := by omega
  cases q2
  subst q3
  split at h
  rotate_left 1
  ·cases h
  rename_i s1 v1 h1
  cases h
  have e1 := gO h1
  have f1 := e1
  have c1 := cS h1
  obtain ⟨d, mT, g0⟩ := s
  obtain ⟨d1, mS, g1⟩ := s'
  obtain rfl : d = d1 := f1.1.symm
  refine ⟨f1, by decide, ?_⟩
  refine bx ?_
  refine γ.ο ζ η Tryz.func183 rfl rfl ?_
  refine θ c1 (by rfl) (by rfl) ?_
  refine ax (dB 12 [1]) Dh (by decide +kernel) ?_
  refine And.intro (fun j hj => by rw [List.mem_singleton.1 hj]; exact ψ.set (b := 12) _ (List.mem_singleton.2 rfl)) ?_
  refine And.intro (fun j hj => by cases hj) ?_
  refine And.intro (fun j hj => by cases hj) ?_
  refine Ω ?_ ?_
  ·exact ⟨rfl, trivial⟩
  ·exact ⟨rfl, rfl, rfl, rfl, rfl, rfl, rfl, rfl, rfl, rfl, rfl, trivial⟩
 ·rename_i e
  obtain ⟨i, x, q1, q2, q3⟩ := aZ _ _ _ _ e
  obtain rfl : i = 6 := by omega
  cases q2
  subst q3
  cases h
  obtain ⟨d, mT, g0⟩ := s
  refine ⟨⟨rfl, rfl⟩, by decide, ?_⟩
  refine bx ?_
  refine γ.ο ζ η Tryz.func183 rfl rfl ?_
  refine ax (dB 12 [1]) Dg (by decide +kernel) ?_
  refine And.intro (fun j hj => by rw [List.mem_singleton.1 hj]; exact ψ.set (b := 12) _ (List.mem_singleton.2 rfl)) ?_
  refine And.intro (fun j hj => by cases hj) ?_
  refine And.intro (fun j hj => by cases hj) ?_
  refine Ω ?_ ?_
  ·exact ⟨rfl, trivial⟩
  ·exact ⟨rfl, rfl, rfl, rfl, rfl, rfl, rfl, rfl, rfl, rfl, rfl, trivial⟩
 ·rename_i e
  obtain ⟨i, x, q1, q2, q3⟩ := aZ _ _ _ _ e
  obtain rfl : i = 7 := by omega
  cases q2
  subst q3
  split at h
  rotate_left 1
  ·cases h
  rename_i s1 v1 h1
  cases h
  have e1 := gO h1
  have f1 := e1
  have c1 := cS h1
  obtain ⟨d, mT, g0⟩ := s
  obtain ⟨d1, mS, g1⟩ := s'
  obtain rfl : d = d1 := f1.1.symm
  refine ⟨f1, by decide, ?_⟩
  refine bx ?_
  refine γ.ο ζ η Tryz.func183 rfl rfl ?_
  refine θ c1 (by rfl) (by rfl) ?_
  refine ax (dB 12 [1]) vM (by decide +kernel) ?_
  refine And.intro (fun j hj => by rw [List.mem_singleton.1 hj]; exact ψ.set (b := 12) _ (List.mem_singleton.2 rfl)) ?_
  refine And.intro (fun j hj => by cases hj) ?_
  refine And.intro (fun j hj => by cases hj) ?_
  refine Ω ?_ ?_
  ·exact ⟨rfl, trivial⟩
  ·exact ⟨rfl, rfl, rfl, rfl, rfl, rfl, rfl, rfl, rfl, rfl, rfl, trivial⟩
 ·rename_i e
  obtain ⟨i, x, q1, q2, q3⟩ := aZ _ _ _ _ e
  obtain rfl : i = 8 := by omega
  cases q2
  subst q3
  split at h
  rotate_left 1
  ·cases h
  rename_i s1 v1 h1
  cases h
  have e1 := gO h1
  have f1 := e1
  have c1 := cS h1
  obtain ⟨d, mT, g0⟩ := s
  obtain ⟨d1, mS, g1⟩ := s'
  obtain rfl : d = d1 := f1.1.symm
  refine ⟨f1, by decide, ?_⟩
  refine bx ?_
  refine γ.ο ζ η Tryz.func183 rfl rfl ?_
  refine θ c1 (by rfl) (by rfl) ?_
  refine ax (dB 12 [1]) vM (by decide +kernel) ?_
  refine And.intro (fun j hj => by rw [List.mem_singleton.1 hj]; exact ψ.set (b := 12) _ (List.mem_singleton.2 rfl)) ?_
  refine And.intro (fun j hj => by cases hj) ?_
  refine And.intro (fun j hj => by cases hj) ?_
  refine Ω ?_ ?_
  ·exact ⟨rfl, trivial⟩
  ·exact ⟨rfl, rfl, rfl, rfl, rfl, rfl, rfl, rfl, rfl, rfl, rfl, trivial⟩
 ·rename_i e
  obtain ⟨i, x, q1, q2, q3⟩ := aZ _ _ _ _ e
  obtain rfl : i = 9 := by omega
  cases q2
  subst q3
  split at h
  rotate_left 1
  ·cases h
  rename_i s1 v1 h1
  split at h
  rotate_left 1
  ·cases h
  rename_i s2 v2 h2
  cases h
  have e1 := gO h1
  have e2 := gO h2
  have f2 := e1.trans e2
  have f1 := e1
  have c1 := cS h1
  have c2 := cS h2
  obtain ⟨d, mT, g0⟩ := s
  obtain ⟨d1, mS, g1⟩ := s1
  obtain rfl : d = d1 := f1.1.symm
  obtain ⟨d2, vJ, g2⟩ := s'
  obtain rfl : d = d2 := f2.1.symm
  refine ⟨f2, by decide, ?_⟩
  refine bx ?_
  refine γ.ο ζ η Tryz.func183 rfl rfl ?_
  refine θ c1 (by rfl) (by rfl) ?_
  refine θ c2 (by rfl) (by rfl) ?_
  refine ax (dB 12 [1]) Df (by decide +kernel) ?_
  refine And.intro (fun j hj => by rw [List.mem_singleton.1 hj]; exact ψ.set (b := 12) _ (List.mem_singleton.2 rfl)) ?_
  refine And.intro (fun j hj => by cases hj) ?_
  refine And.intro (fun j hj => by cases hj) ?_
  refine Ω ?_ ?_
  ·exact ⟨rfl, trivial⟩
  ·exact ⟨rfl, rfl, rfl, rfl, rfl, rfl, rfl, rfl, rfl, rfl, rfl, trivial⟩
 ·cases h
 ·rename_i e
  have uD : ∀ x : List UInt8, (head == x) = true → cH x 0 [[110, 111, 116], [110, 101, 103], [99], [105, 109, 109], [102, 108, 97, 103], [108, 100], [105, 102], [115, 120], [122, 120], [101, 120]] = none := fun x c => by rw [← show head = x by simpa using c]; exact e
  split at h
  ·cases h
  rename_i e2
  split at h
  rotate_left 1
  ·cases h
  rename_i i hn
  split at h
  rotate_left 1
  ·cases h
  rename_i s1 v1 hr
  cases h
  have hX := cx qP head (by decide)
  rw [show fT head qP = -1 by unfold fT; rw [← mE, AQ, e2]] at hX
  have c1 := sS s hs (k := 1) (by decide) hn
  obtain ⟨f1, c2⟩ := ux hs hr
  obtain ⟨d, mT, g0⟩ := s
  obtain ⟨d1, mS, g1⟩ := s'
  obtain rfl : d = d1 := f1.1.symm
  refine ⟨f1, by decide, ?_⟩
  refine bx ?_
  refine γ.ο ζ η Tryz.func183 rfl rfl ?_
  refine U (fun c => absurd (uD _ c) (by decide)) (fun _ => ?_)
  refine U (fun c => absurd (uD _ c) (by decide)) (fun _ => ?_)
  refine U (fun c => absurd (uD _ c) (by decide)) (fun _ => ?_)
  refine U (fun c => absurd (uD _ c) (by decide)) (fun _ => ?_)
  refine U (fun c => absurd (uD _ c) (by decide)) (fun _ => ?_)
  refine U (fun c => absurd (uD _ c) (by decide)) (fun _ => ?_)
  refine U (fun c => absurd (uD _ c) (by decide)) (fun _ => ?_)
  refine U (fun c => absurd (uD _ c) (by decide)) (fun _ => ?_)
  refine U (fun c => absurd (uD _ c) (by decide)) (fun _ => ?_)
  refine U (fun c => absurd (uD _ c) (by decide)) (fun _ => ?_)
  refine υ De (by decide +kernel) ?_
  refine γ.pure rQ rfl ?_
  refine And.intro (fun j hj => by first | (cases hj; done) | exact ψ.append _ _ _ | exact ψ.refl _ _) ?_
  refine γ.bU hX rfl ⟨iQ 1 _, .refl _, trivial⟩ rfl ?_
  refine And.intro (fun j hj => ψ.refl _ _) ?_
  refine θ (Δ d _ _ ?hb 41) (by rfl) (by rfl) ?_
  case hb => rfl
  refine And.intro (fun j hj => by cases hj) ?_
  refine And.intro (fun j hj => by cases hj) ?_
  refine θ c1 (by rfl) (by rfl) ?_
  refine θ c2 (by rfl) (by rfl) ?_
  refine ax (dB 12 [1]) Dd (by decide +kernel) ?_
  refine And.intro (fun j hj => by rw [List.mem_singleton.1 hj]; exact ψ.set (b := 12) _ (List.mem_singleton.2 rfl)) ?_
  refine And.intro (fun j hj => by cases hj) ?_
  refine And.intro (fun j hj => by cases hj) ?_
  refine Ω ?_ ?_
  ·exact ⟨rfl, trivial⟩
  ·exact ⟨rfl, rfl, rfl, rfl, rfl, rfl, rfl, rfl, rfl, rfl, rfl, trivial⟩
end Go.Proofs.YtcogcbplmkcojaaGreatDoor
namespace Go.Proofs.YtcogcbplmkcojaaGreatDoor
open Go.IntWalk
set_option maxRecDepth 100000
set_option linter.unusedVariables false
set_option linter.unusedSimpArgs false
set_option maxHeartbeats 4000000
def KE (f : Nat) : Prop := ∀ s s' t, cE s → j2 f s = some (s', t) → Ξ s s' ∧ ∃ op w a b ks, t = dQ op w a b ks ∧ bz 162 s s' op w a b ks
theorem jK {f : Nat} (ih : KE f) {s s' : PS} (hs : cE s) {n : Nat} (hn : n ≤ 3) (op w a b : Int) {ks : List T} (h : dU (j2 f) n s [] = some (s', ks)) :
 Ξ s s' ∧ γ Tryz.prog 163 [dO s, .agg (zD op w a b), .t (.int .i64 n)] (dH s.d) (fun v H => v = .ao [dO s', .agg (xS op w a b ks)] ∧ H = dH s.d) := by
 have key : ∀ n, n ≤ 3 → dU (j2 f) n s [] = some (s', ks) → Ξ s s' ∧ γ Tryz.prog 163 [dO s, .agg (zD op w a b), .t (.int .i64 n)] (dH s.d) (fun v H => v = .ao [dO s', .agg (xS op w a b ks)] ∧ H = dH s.d) := by
  intro n hn h
  match n with
  | 0 =>
   unfold dU at h
   split at h
   rotate_left 1
   ·cases h
   rename_i he
   cases h
   exact ⟨⟨rfl, rfl⟩, Mz s op w a b  he⟩
  | 1 =>
   unfold dU at h
   split at h
   rotate_left 1
   ·cases h
   rename_i t1 k1 h1
   obtain ⟨e1, o1, w1, a1, b1, l1, rfl, c1⟩ := ih s t1 k1 hs h1
   have f1 := e1
   unfold dU at h
   split at h
   rotate_left 1
   ·cases h
   rename_i he
   cases h
   exact ⟨f1, My s op w a b c1 f1.1 he⟩
  | 2 =>
   unfold dU at h
   split at h
   rotate_left 1
   ·cases h
   rename_i t1 k1 h1
   obtain ⟨e1, o1, w1, a1, b1, l1, rfl, c1⟩ := ih s t1 k1 hs h1
   have f1 := e1
   unfold dU at h
   split at h
   rotate_left 1
   ·cases h
   rename_i t2 k2 h2
   obtain ⟨e2, o2, w2, a2, b2, l2, rfl, c2⟩ := ih t1 t2 k2 (hs.same f1) h2
   have f2 := f1.trans e2
   unfold dU at h
   split at h
   rotate_left 1
   ·cases h
   rename_i he
   cases h
   exact ⟨f2, Mx s op w a b c1 f1.1 c2 f2.1 he⟩
  | 3 =>
   unfold dU at h
   split at h
   rotate_left 1
   ·cases h
   rename_i t1 k1 h1
   obtain ⟨e1, o1, w1, a1, b1, l1, rfl, c1⟩ := ih s t1 k1 hs h1
   have f1 := e1
   unfold dU at h
   split at h
   rotate_left 1
   ·cases h
   rename_i t2 k2 h2
   obtain ⟨e2, o2, w2, a2, b2, l2, rfl, c2⟩ := ih t1 t2 k2 (hs.same f1) h2
   have f2 := f1.trans e2
   unfold dU at h
   split at h
   rotate_left 1
   ·cases h
   rename_i t3 k3 h3
   obtain ⟨e3, o3, w3, a3, b3, l3, rfl, c3⟩ := ih t2 t3 k3 (hs.same f2) h3
   have f3 := f2.trans e3
   unfold dU at h
   split at h
   rotate_left 1
   ·cases h
   rename_i he
   cases h
   exact ⟨f3, Mw s op w a b c1 f1.1 c2 f2.1 c3 f3.1 he⟩
  | n + 4 => omega
 exact key n hn h
theorem mm : ∀ f, KE f := by
 intro f
 induction f with
 | zero => intro s s' t hs h; cases h
 | succ f ih =>
  intro s s' t hs h
  unfold j2 at h
  split at h
  ·rename_i w r hr
   obtain ⟨d, rest, g⟩ := s
   obtain rfl : rest = _ := hr
   split at h
   ·rename_i e
    cases h
    have e := j6 _ _ e
    subst e
    refine ⟨⟨rfl, rfl⟩, 23, 0, 0, 0, [], rfl, ?_⟩
    unfold bz
    refine bx ?_
    refine γ.ο ζ η Tryz.func162 rfl rfl ?_
    refine θ (dj d 1 _ 0 [] (ω r) (g.map Φ) (.inl rfl)) (by rfl) (by rfl) ?_
    refine aX.trans (nl (gC (kF (.sub _ _ (.av 5))))) (Ω ?_ ?_)
    ·exact ⟨rfl, trivial⟩
    ·exact ⟨rfl, rfl, rfl, rfl, rfl, rfl, rfl, rfl, rfl, rfl, rfl, trivial⟩
   ·split at h
    ·rename_i e
     cases h
     have e := j6 _ _ e
     subst e
     refine ⟨⟨rfl, rfl⟩, 24, 0, 0, 0, [], rfl, ?_⟩
     unfold bz
     refine bx ?_
     refine γ.ο ζ η Tryz.func162 rfl rfl ?_
     refine θ (dj d 1 _ 0 [] (ω r) (g.map Φ) (.inl rfl)) (by rfl) (by rfl) ?_
     refine aX.trans (nl (gC (kF (.sub _ _ (.av 5))))) (Ω ?_ ?_)
     ·exact ⟨rfl, trivial⟩
     ·exact ⟨rfl, rfl, rfl, rfl, rfl, rfl, rfl, rfl, rfl, rfl, rfl, trivial⟩
    ·cases h
  ·rename_i l r hr
   obtain ⟨d, rest, g⟩ := s
   obtain rfl : rest = _ := hr
   split at h
   ·cases h
   rename_i s1 head hw
   have hW := bo hw
   have f1 : Ξ ⟨d, l, g⟩ s1 := aQ hw
   have dd : cE s1 := hs.same f1
   split at h
   ·rename_i i hi
    split at h
    rotate_left 1
    ·cases h
    rename_i s2 ks hk
    cases h
    obtain ⟨e2, hK⟩ := jK ih dd (by decide) ((i : Int) + 1) 0 0 0 hk
    obtain ⟨j, x, q1, q2, _⟩ := aZ _ _ _ _ hi
    have hlen : z8.length = 17 := by decide
    have hj := (List.getElem?_eq_some_iff.1 q2).1
    have SX : i < 17 := by omega
    have hX := cx sO head (by decide)
    rw [show fT head sO = (i : Int) by unfold fT; rw [← mE, z9, hi]] at hX
    obtain ⟨d1, r1, g1⟩ := s1
    obtain rfl : d = d1 := f1.1.symm
    obtain rfl : g = g1 := f1.2.symm
    obtain ⟨d2, r2, g2⟩ := s2
    obtain rfl : d = d2 := e2.1.symm
    obtain rfl : g = g2 := e2.2.symm
    refine ⟨⟨rfl, rfl⟩, _, _, _, _, _, rfl, ?_⟩
    unfold bz
    refine bx ?_
    refine γ.ο ζ η Tryz.func162 rfl rfl ?_
    refine θ (dj d 4 [] 0 (ω l) (ω r) (g.map Φ) (.inl rfl)) (by rfl) (by rfl) ?_
    refine θ (Δ d _ _ rfl 41) (by rfl) (by rfl) ?_
    refine θ hW (by rfl) (by rfl) ?_
    refine γ.pure rH rfl ?_
    refine γ.bU hX rfl ⟨iQ 1 _, .refl _, trivial⟩ rfl ?_
    refine δ (n := (i : Int) + 1) (by rw [IntKind.wrap_i64]; omega) ?_
    refine θ hK (by rfl) (by rfl) ?_
    refine ax (dB 12 [1]) vN (by decide +kernel) ?_
    refine And.intro (fun j hj => by rw [List.mem_singleton.1 hj]; exact ψ.set (b := 12) _ (List.mem_singleton.2 rfl)) ?_
    refine And.intro (fun j hj => by cases hj) ?_
    refine Ω ?_ ?_
    ·exact ⟨rfl, trivial⟩
    ·exact ⟨rfl, rfl, rfl, rfl, rfl, rfl, rfl, rfl, rfl, rfl, rfl, trivial⟩
   ·rename_i hi
    split at h
    rotate_left 1
    ·cases h
    rename_i s2 op w a b n Q5
    split at h
    rotate_left 1
    ·cases h
    rename_i s3 ks hk
    cases h
    obtain ⟨e2, Rg, hS⟩ := EZ dd Q5
    obtain ⟨e3, hK⟩ := jK ih (dd.same e2) Rg op w a b hk
    unfold xM at hS
    have hX := cx sO head (by decide)
    rw [show fT head sO = -1 by unfold fT; rw [← mE, z9, hi]] at hX
    obtain ⟨d1, r1, g1⟩ := s1
    obtain rfl : d = d1 := f1.1.symm
    obtain rfl : g = g1 := f1.2.symm
    obtain ⟨d2, r2, g2⟩ := s2
    obtain rfl : d = d2 := e2.1.symm
    obtain rfl : g = g2 := e2.2.symm
    obtain ⟨d3, r3, g3⟩ := s3
    obtain rfl : d = d3 := e3.1.symm
    obtain rfl : g = g3 := e3.2.symm
    refine ⟨⟨rfl, rfl⟩, _, _, _, _, _, rfl, ?_⟩
    unfold bz
    refine bx ?_
    refine γ.ο ζ η Tryz.func162 rfl rfl ?_
    refine θ (dj d 4 [] 0 (ω l) (ω r) (g.map Φ) (.inl rfl)) (by rfl) (by rfl) ?_
    refine θ (Δ d _ _ rfl 41) (by rfl) (by rfl) ?_
    refine θ hW (by rfl) (by rfl) ?_
    refine γ.pure rH rfl ?_
    refine γ.bU hX rfl ⟨iQ 1 _, .refl _, trivial⟩ rfl ?_
    refine θ hS (by rfl) (by rfl) ?_
    refine θ hK (by rfl) (by rfl) ?_
    refine ax (dB 12 [1]) vN (by decide +kernel) ?_
    refine And.intro (fun j hj => by rw [List.mem_singleton.1 hj]; exact ψ.set (b := 12) _ (List.mem_singleton.2 rfl)) ?_
    refine And.intro (fun j hj => by cases hj) ?_
    refine Ω ?_ ?_
    ·exact ⟨rfl, trivial⟩
    ·exact ⟨rfl, rfl, rfl, rfl, rfl, rfl, rfl, rfl, rfl, rfl, rfl, trivial⟩
  ·cases h
end Go.Proofs.YtcogcbplmkcojaaGreatDoor
namespace Go.Proofs.YtcogcbplmkcojaaGreatDoor
open Go.IntWalk
set_option maxRecDepth 100000
set_option linter.unusedVariables false
set_option linter.unusedSimpArgs false
set_option maxHeartbeats 4000000
def iW : Ord := (.op 0 [] (.op 1 [0] (.op 2 [1] (.op 3 [] .nil))))
def Mk : Ord := (.op 0 [] (.op 2 [0] (.op 1 [2] (.op 3 [2] (.op 4 [] .nil)))))
theorem mI {term : PS → Option (PS × T)} {r : List ay} {s s' : PS} {op w a b : Int} {n : Nat} {t : T} (h : tv term r (some (s, (op, w, a, b), n)) = some (s', t)) : ∃ s3 ks, dU term n s [] = some (s3, ks) ∧ s' = ⟨s3.d, r, s3.args⟩ ∧ t = dQ op w a b ks := by
 unfold tv at h
 simp only at h
 split at h
 ·rename_i s3 ks hk
  cases h
  exact ⟨s3, ks, hk, rfl, rfl⟩
 ·cases h
def Qu (f : Nat) : Prop := ∀ s s' t, cE s → j7 f s = some (s', t) → Ξ s s' ∧ ∃ op w a b ks, t = dQ op w a b ks ∧ bz 117 s s' op w a b ks
def cQ : List AV := [.t (.str []), .t (.int .i64 0), .t .av, .t .av, .t .av, .t .av, .t .av, .t .av, .t .av, .t .av, .t .av, .t .av, .t .av, .t .av, .t .av, .t (.int .i64 0)]
def LY : List AV := [.t (.int .i64 0), .t (.int .i64 0), .t (.int .i64 0), .t (.int .i64 0), .t .av]
theorem OM {n : Nat} (h : n ≤ 100000) : eK n 56 = true := by simp [eK]; omega
theorem yK : ∀ f, Qu f := by
 intro f
 induction f with
 | zero => intro s s' t hs h; cases h
 | succ f ih =>
  intro s s' t hs h
  unfold j7 at h
  split at h
  ·cases h
  rename_i s1 r hi
  split at h
  ·cases h
  rename_i s2 head hw
  have hI := bV hi
  have hW := bo hw
  obtain ⟨l, hr, rfl⟩ := aH hi
  have f2 := aQ hw
  obtain ⟨d, rest, g⟩ := s
  obtain rfl : rest = _ := hr
  have dd : cE ⟨d, l, g⟩ := hs
  have fa : cE s2 := dd.same f2
  split at h
  ·rename_i e
   obtain ⟨i, x, q1, q2, q3⟩ := aZ _ _ _ _ e
   obtain rfl : i = 0 := by omega
   cases q2
   subst q3
   split at h
   ·cases h
   rename_i u1 inner tf
   split at h
   ·cases h
   rename_i u2 to O8
   have Kp := bV tf
   have Pu := bo O8
   obtain ⟨l2, yu, rfl⟩ := aH tf
   have g2 := aQ O8
   obtain ⟨d2, r2, So⟩ := s2
   obtain rfl : d = d2 := f2.1.symm
   obtain rfl : g = So := f2.2.symm
   obtain rfl : r2 = _ := yu
   have I5 : cE u2 := cE.same (s := ⟨d, l2, g⟩) hs g2
   split at h
   ·rename_i ef
    have ef := j6 _ _ ef
    subst ef
    split at h
    rotate_left 1
    ·cases h
    rename_i u3 a Gi
    split at h
    rotate_left 1
    ·cases h
    rename_i he
    have hE := cJ he
    have RR := dX I5 (k := 3) (by decide) Gi
    have g3 := m7 Gi
    obtain ⟨N0, Qx, NI⟩ := u2
    obtain rfl : d = N0 := (g2).1.symm
    obtain rfl : g = NI := (g2).2.symm
    obtain ⟨N3, Qy, NK⟩ := u3
    obtain rfl : d = N3 := (g3).1.symm
    obtain rfl : g = NK := (g3).2.symm
    obtain ⟨s3, ks, hk, rfl, rfl⟩ := mI h
    obtain ⟨e3, hK⟩ := jK (mm f) (show cE ⟨d, inner, g⟩ from hs) (n := 1) (by decide) 32 (0) ((a : Int)) (0) hk
    obtain ⟨d3, r3, tt⟩ := s3
    obtain rfl : d = d3 := (e3).1.symm
    obtain rfl : g = tt := (e3).2.symm
    refine ⟨⟨rfl, rfl⟩, _, _, _, _, _, rfl, ?_⟩
    unfold bz
    refine bx ?_
    refine γ.ο ζ η Tryz.func117 rfl rfl ?_
    refine θ hI (by rfl) (by rfl) ?_
    refine θ hW (by rfl) (by rfl) ?_
    refine θ Kp (by rfl) (by rfl) ?_
    refine θ Pu (by rfl) (by rfl) ?_
    refine θ RR (by rfl) (by rfl) ?_
    refine θ hE (by rfl) (by rfl) ?_
    refine θ hK (by rfl) (by rfl) ?_
    refine ax (dB 12 [1]) iW (by decide +kernel) ?_
    refine And.intro (fun j hj => by rw [List.mem_singleton.1 hj]; exact ψ.set (b := 12) _ (List.mem_singleton.2 rfl)) ?_
    refine And.intro (fun j hj => by cases hj) ?_
    refine Ω ?_ ?_
    ·exact ⟨rfl, trivial⟩
    ·exact ⟨rfl, rfl, rfl, rfl, rfl, rfl, rfl, rfl, rfl, rfl, rfl, trivial⟩
   ·rename_i ef
    have Re : ∀ x : List UInt8, (to == x) = true → jA x [102, 108, 97, 103] = false := fun x c => by rw [← show to = x by simpa using c]; exact ef
    split at h
    rotate_left 1
    ·cases h
    rename_i a hn
    split at h
    rotate_left 1
    ·cases h
    rename_i u3 b Q7
    split at h
    rotate_left 1
    ·cases h
    rename_i he
    have hE := cJ he
    have hN := sS u2 I5 (k := 1) (by decide) hn
    obtain ⟨g3, hR⟩ := ux I5 Q7
    obtain ⟨N0, Qx, NI⟩ := u2
    obtain rfl : d = N0 := (g2).1.symm
    obtain rfl : g = NI := (g2).2.symm
    obtain ⟨N3, Qy, NK⟩ := u3
    obtain rfl : d = N3 := (g3).1.symm
    obtain rfl : g = NK := (g3).2.symm
    obtain ⟨s3, ks, hk, rfl, rfl⟩ := mI h
    obtain ⟨e3, hK⟩ := jK (mm f) (show cE ⟨d, inner, g⟩ from hs) (n := 1) (by decide) 31 (0) ((a : Int)) (b) hk
    obtain ⟨d3, r3, tt⟩ := s3
    obtain rfl : d = d3 := (e3).1.symm
    obtain rfl : g = tt := (e3).2.symm
    refine ⟨⟨rfl, rfl⟩, _, _, _, _, _, rfl, ?_⟩
    unfold bz
    refine bx ?_
    refine γ.ο ζ η Tryz.func117 rfl rfl ?_
    refine θ hI (by rfl) (by rfl) ?_
    refine θ hW (by rfl) (by rfl) ?_
    refine θ Kp (by rfl) (by rfl) ?_
    refine θ Pu (by rfl) (by rfl) ?_
    refine U (fun c => absurd (Re _ c) (by decide)) (fun _ => ?_)
    refine θ hN (by rfl) (by rfl) ?_
    refine θ hR (by rfl) (by rfl) ?_
    refine θ hE (by rfl) (by rfl) ?_
    refine θ hK (by rfl) (by rfl) ?_
    refine ax (dB 12 [1]) iW (by decide +kernel) ?_
    refine And.intro (fun j hj => by rw [List.mem_singleton.1 hj]; exact ψ.set (b := 12) _ (List.mem_singleton.2 rfl)) ?_
    refine And.intro (fun j hj => by cases hj) ?_
    refine Ω ?_ ?_
    ·exact ⟨rfl, trivial⟩
    ·exact ⟨rfl, rfl, rfl, rfl, rfl, rfl, rfl, rfl, rfl, rfl, rfl, trivial⟩
  ·rename_i e
   obtain ⟨i, x, q1, q2, q3⟩ := aZ _ _ _ _ e
   obtain rfl : i = 1 := by omega
   cases q2
   subst q3
   split at h
   rotate_left 1
   ·cases h
   rename_i s4 v hn
   have hN := cS hn
   have g4 := gO hn
   obtain ⟨d2, r2, g2⟩ := s2
   obtain rfl : d = d2 := (f2).1.symm
   obtain rfl : g = g2 := (f2).2.symm
   obtain ⟨s3, ks, hk, rfl, rfl⟩ := mI h
   obtain ⟨e3, hK⟩ := jK (mm f) (fa.same g4) (n := 2) (by decide) 33 (v) (0) (0) hk
   obtain ⟨d4, r4, GG⟩ := s4
   obtain rfl : d = d4 := (g4).1.symm
   obtain rfl : g = GG := (g4).2.symm
   obtain ⟨d3, r3, tt⟩ := s3
   obtain rfl : d = d3 := (e3).1.symm
   obtain rfl : g = tt := (e3).2.symm
   refine ⟨⟨rfl, rfl⟩, _, _, _, _, _, rfl, ?_⟩
   unfold bz
   refine bx ?_
   refine γ.ο ζ η Tryz.func117 rfl rfl ?_
   refine θ hI (by rfl) (by rfl) ?_
   refine θ hW (by rfl) (by rfl) ?_
   refine θ hN (by rfl) (by rfl) ?_
   refine θ hK (by rfl) (by rfl) ?_
   refine ax (dB 12 [1]) iW (by decide +kernel) ?_
   refine And.intro (fun j hj => by rw [List.mem_singleton.1 hj]; exact ψ.set (b := 12) _ (List.mem_singleton.2 rfl)) ?_
   refine And.intro (fun j hj => by cases hj) ?_
   refine Ω ?_ ?_
   ·exact ⟨rfl, trivial⟩
   ·exact ⟨rfl, rfl, rfl, rfl, rfl, rfl, rfl, rfl, rfl, rfl, rfl, trivial⟩
  ·rename_i e
   obtain ⟨i, x, q1, q2, q3⟩ := aZ _ _ _ _ e
   obtain rfl : i = 2 := by omega
   cases q2
   subst q3
   obtain ⟨d2, r2, g2⟩ := s2
   obtain rfl : d = d2 := (f2).1.symm
   obtain rfl : g = g2 := (f2).2.symm
   obtain ⟨s3, ks, hk, rfl, rfl⟩ := mI h
   obtain ⟨e3, hK⟩ := jK (mm f) fa (n := 1) (by decide) 34 (0) (0) (0) hk
   obtain ⟨d3, r3, tt⟩ := s3
   obtain rfl : d = d3 := (e3).1.symm
   obtain rfl : g = tt := (e3).2.symm
   refine ⟨⟨rfl, rfl⟩, _, _, _, _, _, rfl, ?_⟩
   unfold bz
   refine bx ?_
   refine γ.ο ζ η Tryz.func117 rfl rfl ?_
   refine θ hI (by rfl) (by rfl) ?_
   refine θ hW (by rfl) (by rfl) ?_
   refine θ hK (by rfl) (by rfl) ?_
   refine ax (dB 12 [1]) iW (by decide +kernel) ?_
   refine And.intro (fun j hj => by rw [List.mem_singleton.1 hj]; exact ψ.set (b := 12) _ (List.mem_singleton.2 rfl)) ?_
   refine And.intro (fun j hj => by cases hj) ?_
   refine Ω ?_ ?_
   ·exact ⟨rfl, trivial⟩
   ·exact ⟨rfl, rfl, rfl, rfl, rfl, rfl, rfl, rfl, rfl, rfl, rfl, trivial⟩
  ·rename_i e
   obtain ⟨i, x, q1, q2, q3⟩ := aZ _ _ _ _ e
   obtain rfl : i = 3 := by omega
   cases q2
   subst q3
   split at h
   rotate_left 1
   ·cases h
   rename_i s4 v hn
   have hN := cS hn
   have g4 := gO hn
   obtain ⟨d2, r2, g2⟩ := s2
   obtain rfl : d = d2 := (f2).1.symm
   obtain rfl : g = g2 := (f2).2.symm
   obtain ⟨s3, ks, hk, rfl, rfl⟩ := mI h
   obtain ⟨e3, hK⟩ := jK (mm f) (fa.same g4) (n := 0) (by decide) 35 (0) (v) (0) hk
   obtain ⟨d4, r4, GG⟩ := s4
   obtain rfl : d = d4 := (g4).1.symm
   obtain rfl : g = GG := (g4).2.symm
   obtain ⟨d3, r3, tt⟩ := s3
   obtain rfl : d = d3 := (e3).1.symm
   obtain rfl : g = tt := (e3).2.symm
   refine ⟨⟨rfl, rfl⟩, _, _, _, _, _, rfl, ?_⟩
   unfold bz
   refine bx ?_
   refine γ.ο ζ η Tryz.func117 rfl rfl ?_
   refine θ hI (by rfl) (by rfl) ?_
   refine θ hW (by rfl) (by rfl) ?_
   refine θ hN (by rfl) (by rfl) ?_
   refine θ hK (by rfl) (by rfl) ?_
   refine ax (dB 12 [1]) iW (by decide +kernel) ?_
   refine And.intro (fun j hj => by rw [List.mem_singleton.1 hj]; exact ψ.set (b := 12) _ (List.mem_singleton.2 rfl)) ?_
   refine And.intro (fun j hj => by cases hj) ?_
   refine Ω ?_ ?_
   ·exact ⟨rfl, trivial⟩
   ·exact ⟨rfl, rfl, rfl, rfl, rfl, rfl, rfl, rfl, rfl, rfl, rfl, trivial⟩
  ·rename_i e
   obtain ⟨i, x, q1, q2, q3⟩ := aZ _ _ _ _ e
   obtain rfl : i = 4 := by omega
   cases q2
   subst q3
   obtain ⟨d2, r2, g2⟩ := s2
   obtain rfl : d = d2 := (f2).1.symm
   obtain rfl : g = g2 := (f2).2.symm
   obtain ⟨s3, ks, hk, rfl, rfl⟩ := mI h
   obtain ⟨e3, hK⟩ := jK (mm f) fa (n := 0) (by decide) 36 (0) (0) (0) hk
   obtain ⟨d3, r3, tt⟩ := s3
   obtain rfl : d = d3 := (e3).1.symm
   obtain rfl : g = tt := (e3).2.symm
   refine ⟨⟨rfl, rfl⟩, _, _, _, _, _, rfl, ?_⟩
   unfold bz
   refine bx ?_
   refine γ.ο ζ η Tryz.func117 rfl rfl ?_
   refine θ hI (by rfl) (by rfl) ?_
   refine θ hW (by rfl) (by rfl) ?_
   refine θ hK (by rfl) (by rfl) ?_
   refine ax (dB 12 [1]) iW (by decide +kernel) ?_
   refine And.intro (fun j hj => by rw [List.mem_singleton.1 hj]; exact ψ.set (b := 12) _ (List.mem_singleton.2 rfl)) ?_
   refine And.intro (fun j hj => by cases hj) ?_
   refine Ω ?_ ?_
   ·exact ⟨rfl, trivial⟩
   ·exact ⟨rfl, rfl, rfl, rfl, rfl, rfl, rfl, rfl, rfl, rfl, rfl, trivial⟩
  ·rename_i e
   obtain ⟨i, x, q1, q2, q3⟩ := aZ _ _ _ _ e
   obtain rfl : i = 5 := by omega
   cases q2
   subst q3
   split at h
   rotate_left 1
   ·cases h
   rename_i s4 k hk
   split at h
   rotate_left 1
   ·cases h
   rename_i s5 ks Pm
   cases h
   obtain ⟨g4, o, w, a, b, l, rfl, hT⟩ := mm f s2 s4 k fa hk
   unfold bz at hT
   obtain ⟨d2, r2, g2⟩ := s2
   obtain rfl : d = d2 := (f2).1.symm
   obtain rfl : g = g2 := (f2).2.symm
   obtain ⟨d4, r4, GG⟩ := s4
   obtain rfl : d = d4 := (g4).1.symm
   obtain rfl : g = GG := (g4).2.symm
   have tj : ∀ (n : Nat) (R : List ay) (K : List T), qb (j7 f) n ⟨d, R, g⟩ K = some (s5, ks) → Ξ ⟨d, R, g⟩ s5 := by
    intro n
    induction n with
    | zero => intro R K h; cases h
    | succ n F1 =>
     intro R K h
     unfold qb at h
     split at h
     ·cases h; exact ⟨rfl, rfl⟩
     ·split at h
      ·rename_i s6 k6 h6
       obtain ⟨e6, _⟩ := ih ⟨d, R, g⟩ s6 k6 hs h6
       obtain ⟨d6, r6, g6⟩ := s6
       obtain rfl : d = d6 := e6.1.symm
       obtain rfl : g = g6 := e6.2.symm
       exact F1 r6 _ h
      ·cases h
   have e5 := tj _ _ _ Pm
   obtain ⟨d5, r5, g5⟩ := s5
   obtain rfl : d = d5 := (e5).1.symm
   obtain rfl : g = g5 := (e5).2.symm
   refine ⟨⟨rfl, rfl⟩, _, _, _, _, _, rfl, ?_⟩
   unfold bz
   refine bx ?_
   refine γ.ο ζ η Tryz.func117 rfl rfl ?_
   refine θ hI (by rfl) (by rfl) ?_
   refine θ hW (by rfl) (by rfl) ?_
   refine θ hT (by rfl) (by rfl) ?_
   refine ak (fun x : Nat × List ay × List T × Int × Int × Int × Int × List T => qb (j7 f) x.1 ⟨d, x.2.1, g⟩ x.2.2.1 = some (⟨d, r5, g⟩, ks) ∧ x.2.2.1.length + x.1 ≤ 70) (fun x : Nat × List ay × List T × Int × Int × Int × Int × List T => ⟨[(1, .ptr 11 0 0 0), (2, .ptr 12 0 0 0), (3, .ptr 13 0 0 0), (4, .ptr 14 0 0 0), (5, .t (.κ 4 (ω r))), (7, .t (.int .i64 0)), (11, .ptr 15 0 0 0), (12, .ptr 16 0 0 0)], dH d ++ [.box (ec d (ω r2) (g.map Φ)), .box cQ, .box LY, .box [.t (.int .i64 37), .t (.int .i64 0), .t (.int .i64 0), .t (.int .i64 0), .sl 17 0 0 x.2.2.1.length], .box (ec d (ω x.2.1) (g.map Φ)), .box (xS x.2.2.2.1 x.2.2.2.2.1 x.2.2.2.2.2.1 x.2.2.2.2.2.2.1 x.2.2.2.2.2.2.2), .arr 81 5 true 0 (.ts x.2.2.1)]⟩)
    (fun x => x.1) (65, r4, [dQ o w a b l], o, w, a, b, l) ⟨Pm, (by show 1 + 65 ≤ 70; decide)⟩ ?_ (fun ⟨n, R, K, o1, w1, a1, b1, l1⟩ ⟨hx, hl⟩ => ?_)
   ·exact π [0, 1, 2, 3, 4, 5, 6, 7, 8, 9, 10, 11, 12, 13, 14, 15, 16, 18] rfl ⟨rfl, rfl, rfl, rfl, rfl, rfl, rfl, rfl, trivial⟩ ⟨rfl, rfl, rfl, rfl, rfl, rfl, rfl, rfl, rfl, rfl, rfl, rfl, rfl, rfl, rfl, rfl, rfl, rfl, trivial⟩
   have hx : qb (j7 f) n ⟨d, R, g⟩ K = some (⟨d, r5, g⟩, ks) := hx
   have hl : K.length + n ≤ 70 := hl
   cases n with
   | zero => cases hx
   | succ n =>
    unfold qb at hx
    cases R with
    | nil =>
     cases hx
     have Qh : γ Tryz.prog 61 [dO ⟨d, [], g⟩] (dH d) (fun v H => v = dO ⟨d, [], g⟩ ∧ H = dH d) := cJ (s := ⟨d, [], g⟩) rfl
     refine γ.ο ζ η Tryz.func163 rfl rfl ?_
     refine bd 1 ?_
     refine ax (dB 20 [2]) Mk (by decide +kernel) ?_
     refine θ Qh (by rfl) (by rfl) ?_
     refine And.intro (fun j hj => ψ.refl _ _) ?_
     refine And.intro (fun j hj => by rw [List.mem_singleton.1 hj]; exact ψ.set (b := 20) _ (List.mem_singleton.2 rfl)) ?_
     refine And.intro (fun j hj => by cases hj) ?_
     refine ax (dB 12 [1]) iW (by decide +kernel) ?_
     refine And.intro (fun j hj => by rw [List.mem_singleton.1 hj]; exact ψ.set (b := 12) _ (List.mem_singleton.2 rfl)) ?_
     refine And.intro (fun j hj => by cases hj) ?_
     refine aX.trans (jF 17 (gC (kF (.ff _ _ _ [17] 32 rfl (.of_eq (congrArg (T.κ 5) (by rw [List.drop_zero, List.take_length]))) (fun b hb => hb))))) (Ω ?_ ?_)
     ·exact ⟨rfl, trivial⟩
     ·exact ⟨rfl, rfl, rfl, rfl, rfl, rfl, rfl, rfl, rfl, rfl, rfl, trivial⟩
    | cons t0 R0 =>
     have hx : (match j7 f ⟨d, t0 :: R0, g⟩ with | some (s, k) => qb (j7 f) n s (K ++ [k]) | none => none) = some (⟨d, r5, g⟩, ks) := hx
     split at hx
     rotate_left 1
     ·cases hx
     rename_i s6 k6 h6
     obtain ⟨e6, o6, w6, a6, b6, l6, rfl, PC⟩ := ih ⟨d, t0 :: R0, g⟩ s6 k6 hs h6
     unfold bz at PC
     obtain ⟨d6, r6, g6⟩ := s6
     obtain rfl : d = d6 := (e6).1.symm
     obtain rfl : g = g6 := (e6).2.symm
     refine U (fun c => ?_) (fun c => absurd (eI.symm.trans c) (by decide))
     refine θ PC (by rfl) (by rfl) ?_
     refine Or.inl (And.intro rfl (ε (OM (n := K.length + 1) (by omega)) ?_))
     conv => whnf
     have eN : K.length + 1 = (K ++ [dQ o6 w6 a6 b6 l6]).length := by simp
     exact ⟨⟨(n, r6, K ++ [dQ o6 w6 a6 b6 l6], o6, w6, a6, b6, l6), hx, by show (K ++ [dQ o6 w6 a6 b6 l6]).length + n ≤ 70; rw [← eN]; omega⟩, π [0, 1, 2, 3, 4, 5, 6, 7, 8, 9, 10, 11, 12, 13, 14, 15, 16, 17] rfl ⟨rfl, rfl, rfl, rfl, rfl, rfl, rfl, rfl, trivial⟩ ⟨rfl, rfl, rfl, rfl, rfl, rfl, rfl, rfl, rfl, rfl, rfl, rfl, rfl, rfl, congrArg (fun m : Nat => some (Ψ.box [.t (.int .i64 37), .t (.int .i64 0), .t (.int .i64 0), .t (.int .i64 0), .sl 17 0 0 m])) eN, rfl, rfl, rfl, trivial⟩, Nat.lt_succ_self n⟩
  ·cases h
end Go.Proofs.YtcogcbplmkcojaaGreatDoor
namespace Go.Proofs.YtcogcbplmkcojaaGreatDoor
open Go.IntWalk
set_option maxRecDepth 100000
set_option linter.unusedVariables false
set_option linter.unusedSimpArgs false
set_option maxHeartbeats 2000000
theorem im (a b : Nat) : Nat.beq a b = decide (a = b) := by
 by_cases h : a = b
 ·subst h; rw [Nat.beq_refl]; simp
 ·rw [decide_eq_false h]
  cases hb : Nat.beq a b
  ·rfl
  ·exact absurd (Nat.eq_of_beq_eq_true hb) h
theorem sR (a b : Nat) : Nat.ble a b = decide (a ≤ b) := by
 by_cases h : a ≤ b
 ·rw [decide_eq_true h]; rw [Nat.ble_eq]; exact h
 ·rw [decide_eq_false h]
  cases hb : Nat.ble a b
  ·rfl
  ·exact absurd (Nat.le_of_ble_eq_true hb) h
theorem IP (a b : Nat) : Nat.blt a b = decide (a < b) := sR (a + 1) b
theorem uZ (c : UInt8) : eG c = true ↔ 32 < c.toNat ∧ c.toNat < 127 ∧ c.toNat ≠ 40 ∧ c.toNat ≠ 41 ∧ c.toNat ≠ 34 ∧ c.toNat ≠ 59 := by
 unfold eG
 simp only [IP, im, Bool.and_eq_true, decide_eq_true_eq, Bool.not_eq_true', decide_eq_false_iff_not]
 omega
theorem sI {c : UInt8} (h : ¬ (32 < c.toNat ∧ c.toNat < 127 ∧ c.toNat ≠ 40 ∧ c.toNat ≠ 41 ∧ c.toNat ≠ 34 ∧ c.toNat ≠ 59)) : some (T.bool false) = some (T.bool (eG c)) := by
 cases hb : eG c
 ·rfl
 ·exact absurd ((uZ c).1 hb) h
theorem uP {c : UInt8} {k : Nat} (h : (((c.toNat : Nat) : Int) != (k : Int)) = true) : c.toNat ≠ k := by simp at h; omega
theorem su {c : UInt8} {k : Nat} (h : (((c.toNat : Nat) : Int) != (k : Int)) = false) : c.toNat = k := by simp at h; omega
theorem eV {c : UInt8} {k : Nat} (h : (((c.toNat : Nat) : Int) == (k : Int)) = true) : c.toNat = k := by simp at h; omega
theorem vA {c : UInt8} {k : Nat} (h : (((c.toNat : Nat) : Int) == (k : Int)) = false) : c.toNat ≠ k := by simp at h; omega
theorem tZ (c : UInt8) : φ Tryz.prog 108 [.int .u8 c.toNat] (.t (.bool (eG c))) := by
 refine φ.Λ ?_ rfl
 refine γ.ο ζ η Tryz.func108 rfl rfl ?_
 refine U (fun c1 => ?_) (fun c1 => ?_)
 rotate_left 1
 ·exact And.intro (sI fun h => by have := of_decide_eq_false c1; omega) rfl
 have c1 := of_decide_eq_true c1
 refine U (fun c2 => ?_) (fun c2 => ?_)
 rotate_left 1
 ·exact And.intro (sI fun h => by have := of_decide_eq_false c2; omega) rfl
 have c2 := of_decide_eq_true c2
 refine U (fun c3 => ?_) (fun c3 => ?_)
 rotate_left 1
 ·exact And.intro (sI fun h => by have := su (k := 40) c3; omega) rfl
 have c3 := uP (k := 40) c3
 refine U (fun c4 => ?_) (fun c4 => ?_)
 rotate_left 1
 ·exact And.intro (sI fun h => by have := su (k := 41) c4; omega) rfl
 have c4 := uP (k := 41) c4
 refine U (fun c5 => ?_) (fun c5 => ?_)
 rotate_left 1
 ·exact And.intro (sI fun h => by have := su (k := 34) c5; omega) rfl
 have c5 := uP (k := 34) c5
 refine And.intro (congrArg (fun b => some (T.bool b)) ?_) rfl
 show (((c.toNat : Nat) : Int) != 59) = eG c
 by_cases h : c.toNat = 59
 ·have e : eG c = false := by
   cases hb : eG c
   ·rfl
   ·exact absurd h ((uZ c).1 hb).2.2.2.2.2
  rw [e, h]; rfl
 ·rw [(uZ c).2 ⟨by omega, by omega, c3, c4, c5, h⟩]
  simp; omega
theorem pq : ∀ (r : List UInt8) (a m : Nat), gy a r = some m → a ≤ m ∧ m < (a + 1) * 10 ^ r.length ∧ ∀ c ∈ r, 48 ≤ c.toNat ∧ c.toNat ≤ 57
 | [], a, m, h => by cases h; exact ⟨Nat.le_refl _, by simp, by simp⟩
 | c :: r, a, m, h => by
  unfold gy at h
  cases hd : tA c with
  | false => rw [hd] at h; cases h
  | true =>
   rw [hd] at h
   obtain ⟨h1, h2, h3⟩ := pq r _ _ h
   have hc : 48 ≤ c.toNat ∧ c.toNat ≤ 57 := by
    unfold tA at hd
    simp only [sR, Bool.and_eq_true, decide_eq_true_eq] at hd
    exact hd
   refine ⟨by omega, ?_, fun x hx => ?_⟩
   ·have : (a * 10 + (c.toNat - 48) + 1) * 10 ^ r.length ≤ ((a + 1) * 10) * 10 ^ r.length := Nat.mul_le_mul_right _ (by omega)
    rw [List.length_cons, Nat.pow_succ, Nat.mul_comm (10 ^ r.length) 10, ← Nat.mul_assoc]
    omega
   ·rcases List.mem_cons.1 hx with rfl | hx
    ·exact hc
    ·exact h3 x hx
theorem FG {s : List UInt8} {n : Int} (h : u_ s = some n) : ∃ (c : UInt8) (d : List UInt8) (m : Nat), gy 0 (c :: d) = some m ∧ d.length ≤ 17 ∧
 ((s = c :: d ∧ n = m ∧ c.toNat ≠ 45 ∧ ¬ (c.toNat = 48 ∧ 0 < d.length)) ∨ (∃ z : UInt8, z.toNat = 45 ∧ s = z :: c :: d ∧ n = -(m : Int) ∧ c.toNat ≠ 48)) := by
 unfold u_ at h
 split at h
 ·cases h
 rename_i c r
 split at h
 ·rename_i e
  split at h
  ·cases h
  rename_i z r2
  split at h
  ·cases h
  rename_i e2
  split at h
  ·rename_i m hm
   cases h
   simp only [im, sR, Bool.or_eq_false_iff, decide_eq_true_eq, decide_eq_false_iff_not, Bool.not_eq_false', List.length_cons] at e e2
   exact ⟨z, r2, m, hm, by omega, .inr ⟨c, e, rfl, rfl, by omega⟩⟩
  ·cases h
 ·rename_i e
  split at h
  ·cases h
  rename_i e2
  split at h
  ·rename_i m hm
   cases h
   simp only [im, sR, IP, Bool.or_eq_false_iff, Bool.and_eq_false_iff, decide_eq_true_eq, decide_eq_false_iff_not, Bool.not_eq_false', List.length_cons] at e e2
   exact ⟨c, r, m, hm, by omega, .inl ⟨rfl, rfl, e, by omega⟩⟩
  ·cases h
theorem xE {c : UInt8} (h : 48 ≤ c.toNat ∧ c.toNat ≤ 57) : tA c = true := by unfold tA; simp [sR, h]
theorem Oo {r : List UInt8} (h : r.length ≤ 18) : 10 ^ r.length ≤ 1000000000000000000 := Nat.pow_le_pow_right (n := 10) (by decide) h
theorem ql {s : List UInt8} {n : Int} (h : u_ s = some n) : φ Tryz.prog 109 [.str s] (.ao [.t (.int .i64 n), .t (.bool true)]) := by
 obtain ⟨c0, d0, m, hm, hl, hs⟩ := FG h
 obtain ⟨d, hd⟩ : ∃ d, d = c0 :: d0 := ⟨_, rfl⟩
 have Ts : d.length = d0.length + 1 := by rw [hd]; rfl
 rw [← hd] at hm
 obtain ⟨_, χ, DN⟩ := pq d 0 m hm
 have hp := Oo (r := d) (by omega)
 have SW : m < 1000000000000000000 := by omega
 have TY := DN c0 (by rw [hd]; exact List.mem_cons_self)
 rcases hs with ⟨rfl, rfl, aw, hz⟩ | ⟨z, hz, rfl, rfl, aw⟩
 ·rw [← hd]
  have ke : decide (((d.length : Nat) : Int) > 0) = true := decide_eq_true (by omega)
  have ti : d[0]? = some c0 := by rw [hd]; rfl
  refine φ.Λ ?_ rfl
  refine γ.ο ζ η Tryz.func109 rfl rfl ?_
  refine U (fun c => ?_) (fun c => absurd (ke.symm.trans c) (by decide))
  refine ξ ti ?_
  refine U (fun c => absurd (eV (k := 45) c) aw) (fun _ => ?_)
  refine U (fun c => absurd (of_decide_eq_true c) (by omega)) (fun _ => ?_)
  refine U (fun c => absurd (of_decide_eq_true c) (by omega)) (fun _ => ?_)
  refine ξ ti ?_
  refine U (fun c8 => ?_) (fun c8 => ?_)
  ·refine U (fun c => absurd (of_decide_eq_true c) (by have := eV (k := 48) c8; omega)) (fun _ => ?_)
   refine ak (fun x : Nat × Nat => x.1 ≤ d.length ∧ gy x.2 (d.drop x.1) = some m) (fun x => ⟨[(0, .t (.str d)), (4, .t (.str d)), (5, .t (.int .i64 x.2)), (6, .t (.int .i64 x.1))], []⟩) (fun x => d.length - x.1) (0, 0) ⟨Nat.zero_le _, by simpa using hm⟩ ?_ (fun ⟨i, acc⟩ ⟨hi, hx⟩ => ?_)
   ·exact a8 ⟨rfl, congrArg (fun l => AV.t (.str l)) rfl, rfl, rfl, trivial⟩ rfl
   have hi : i ≤ d.length := hi
   have hx : gy acc (d.drop i) = some m := hx
   refine U (fun c => ?_) (fun c => ?_)
   ·have c : i < d.length := dn c
    obtain ⟨x, ji, cX⟩ := get_some (R := d) (i := i) c
    have Ay := DN x cX
    have e : d.drop i = x :: d.drop (i + 1) := by rw [List.drop_eq_getElem_cons c]; congr 1; rw [List.getElem?_eq_getElem c] at ji; exact Option.some.inj ji
    rw [e] at hx
    unfold gy at hx
    rw [xE Ay] at hx
    have hx : gy (acc * 10 + (x.toNat - 48)) (d.drop (i + 1)) = some m := hx
    have hle := (pq _ _ _ hx).1
    have eZ : d[((i : Nat) : Int).toNat]? = some x := by rw [Int.toNat_natCast]; exact ji
    refine ξ eZ ?_
    refine U (fun c => absurd (of_decide_eq_true c) (by omega)) (fun _ => ?_)
    refine ξ eZ ?_
    refine U (fun c => absurd (of_decide_eq_true c) (by omega)) (fun _ => ?_)
    refine δ (n := ((acc * 10 : Nat) : Int)) (show IntKind.i64.wrap (((acc : Nat) : Int) * 10) = _ from by rw [IntKind.wrap_i64]; omega) ?_
    refine ξ eZ ?_
    refine δ (n := ((x.toNat - 48 : Nat) : Int)) (show IntKind.u8.wrap (((x.toNat : Nat) : Int) - 48) = _ from by rw [IntKind.wrap_u8]; omega) ?_
    refine δ (n := ((x.toNat - 48 : Nat) : Int)) (ag (by omega)) ?_
    refine δ (n := ((acc * 10 + (x.toNat - 48) : Nat) : Int)) (show IntKind.i64.wrap (((acc * 10 : Nat) : Int) + ((x.toNat - 48 : Nat) : Int)) = _ from by rw [IntKind.wrap_i64]; omega) ?_
    refine δ (n := ((i + 1 : Nat) : Int)) (ag (n := i + 1) (by omega)) ?_
    conv => whnf
    exact ⟨⟨(i + 1, acc * 10 + (x.toNat - 48)), c, hx⟩, a8 ⟨rfl, rfl, rfl, rfl, trivial⟩ rfl, by show d.length - (i + 1) < d.length - i; omega⟩
   ·have c : i = d.length := by have := dE c; omega
    rw [c, List.drop_length] at hx
    cases hx
    refine U (fun c => absurd (of_decide_eq_true c) (by omega)) (fun _ => ?_)
    exact And.intro ⟨rfl, rfl, trivial⟩ rfl
  ·skip
   refine ak (fun x : Nat × Nat => x.1 ≤ d.length ∧ gy x.2 (d.drop x.1) = some m) (fun x => ⟨[(0, .t (.str d)), (4, .t (.str d)), (5, .t (.int .i64 x.2)), (6, .t (.int .i64 x.1))], []⟩) (fun x => d.length - x.1) (0, 0) ⟨Nat.zero_le _, by simpa using hm⟩ ?_ (fun ⟨i, acc⟩ ⟨hi, hx⟩ => ?_)
   ·exact a8 ⟨rfl, congrArg (fun l => AV.t (.str l)) rfl, rfl, rfl, trivial⟩ rfl
   have hi : i ≤ d.length := hi
   have hx : gy acc (d.drop i) = some m := hx
   refine U (fun c => ?_) (fun c => ?_)
   ·have c : i < d.length := dn c
    obtain ⟨x, ji, cX⟩ := get_some (R := d) (i := i) c
    have Ay := DN x cX
    have e : d.drop i = x :: d.drop (i + 1) := by rw [List.drop_eq_getElem_cons c]; congr 1; rw [List.getElem?_eq_getElem c] at ji; exact Option.some.inj ji
    rw [e] at hx
    unfold gy at hx
    rw [xE Ay] at hx
    have hx : gy (acc * 10 + (x.toNat - 48)) (d.drop (i + 1)) = some m := hx
    have hle := (pq _ _ _ hx).1
    have eZ : d[((i : Nat) : Int).toNat]? = some x := by rw [Int.toNat_natCast]; exact ji
    refine ξ eZ ?_
    refine U (fun c => absurd (of_decide_eq_true c) (by omega)) (fun _ => ?_)
    refine ξ eZ ?_
    refine U (fun c => absurd (of_decide_eq_true c) (by omega)) (fun _ => ?_)
    refine δ (n := ((acc * 10 : Nat) : Int)) (show IntKind.i64.wrap (((acc : Nat) : Int) * 10) = _ from by rw [IntKind.wrap_i64]; omega) ?_
    refine ξ eZ ?_
    refine δ (n := ((x.toNat - 48 : Nat) : Int)) (show IntKind.u8.wrap (((x.toNat : Nat) : Int) - 48) = _ from by rw [IntKind.wrap_u8]; omega) ?_
    refine δ (n := ((x.toNat - 48 : Nat) : Int)) (ag (by omega)) ?_
    refine δ (n := ((acc * 10 + (x.toNat - 48) : Nat) : Int)) (show IntKind.i64.wrap (((acc * 10 : Nat) : Int) + ((x.toNat - 48 : Nat) : Int)) = _ from by rw [IntKind.wrap_i64]; omega) ?_
    refine δ (n := ((i + 1 : Nat) : Int)) (ag (n := i + 1) (by omega)) ?_
    conv => whnf
    exact ⟨⟨(i + 1, acc * 10 + (x.toNat - 48)), c, hx⟩, a8 ⟨rfl, rfl, rfl, rfl, trivial⟩ rfl, by show d.length - (i + 1) < d.length - i; omega⟩
   ·have c : i = d.length := by have := dE c; omega
    rw [c, List.drop_length] at hx
    cases hx
    refine U (fun c => absurd (of_decide_eq_true c) (by omega)) (fun _ => ?_)
    exact And.intro ⟨rfl, rfl, trivial⟩ rfl
 ·rw [← hd]
  have hD : ((z :: d).drop 1).take ((z :: d).length - 1) = d := jl z d
  have ti : (((z :: d).drop 1).take ((z :: d).length - 1))[0]? = some c0 := by rw [hD, hd]; rfl
  have sm : (((z :: d).drop 1).take ((z :: d).length - 1)).length = d.length := by rw [hD]
  refine φ.Λ ?_ rfl
  refine γ.ο ζ η Tryz.func109 rfl rfl ?_
  refine U (fun c => ?_) (fun c => absurd (eI.symm.trans c) (by decide))
  refine U (fun _ => ?_) (fun c => absurd hz (vA (k := 45) c))
  refine ε (fr z d) ?_
  refine U (fun c => absurd (show (((((z :: d).drop 1).take ((z :: d).length - 1)).length : Nat) : Int) < 1 from of_decide_eq_true c) (by rw [sm]; omega)) (fun _ => ?_)
  refine U (fun c => absurd (show (((((z :: d).drop 1).take ((z :: d).length - 1)).length : Nat) : Int) > 18 from of_decide_eq_true c) (by rw [sm]; omega)) (fun _ => ?_)
  refine ξ ti ?_
  refine U (fun c8 => absurd (eV (k := 48) c8) aw) (fun c8 => ?_)
  refine ak (fun x : Nat × Nat => x.1 ≤ d.length ∧ gy x.2 (d.drop x.1) = some m) (fun x => ⟨[(0, .t (.str (z :: d))), (4, .t (.str d)), (5, .t (.int .i64 x.2)), (6, .t (.int .i64 x.1))], []⟩) (fun x => d.length - x.1) (0, 0) ⟨Nat.zero_le _, by simpa using hm⟩ ?_ (fun ⟨i, acc⟩ ⟨hi, hx⟩ => ?_)
  ·exact a8 ⟨rfl, congrArg (fun l => AV.t (.str l)) hD, rfl, rfl, trivial⟩ rfl
  have hi : i ≤ d.length := hi
  have hx : gy acc (d.drop i) = some m := hx
  refine U (fun c => ?_) (fun c => ?_)
  ·have c : i < d.length := dn c
   obtain ⟨x, ji, cX⟩ := get_some (R := d) (i := i) c
   have Ay := DN x cX
   have e : d.drop i = x :: d.drop (i + 1) := by rw [List.drop_eq_getElem_cons c]; congr 1; rw [List.getElem?_eq_getElem c] at ji; exact Option.some.inj ji
   rw [e] at hx
   unfold gy at hx
   rw [xE Ay] at hx
   have hx : gy (acc * 10 + (x.toNat - 48)) (d.drop (i + 1)) = some m := hx
   have hle := (pq _ _ _ hx).1
   have eZ : d[((i : Nat) : Int).toNat]? = some x := by rw [Int.toNat_natCast]; exact ji
   refine ξ eZ ?_
   refine U (fun c => absurd (of_decide_eq_true c) (by omega)) (fun _ => ?_)
   refine ξ eZ ?_
   refine U (fun c => absurd (of_decide_eq_true c) (by omega)) (fun _ => ?_)
   refine δ (n := ((acc * 10 : Nat) : Int)) (show IntKind.i64.wrap (((acc : Nat) : Int) * 10) = _ from by rw [IntKind.wrap_i64]; omega) ?_
   refine ξ eZ ?_
   refine δ (n := ((x.toNat - 48 : Nat) : Int)) (show IntKind.u8.wrap (((x.toNat : Nat) : Int) - 48) = _ from by rw [IntKind.wrap_u8]; omega) ?_
   refine δ (n := ((x.toNat - 48 : Nat) : Int)) (ag (by omega)) ?_
   refine δ (n := ((acc * 10 + (x.toNat - 48) : Nat) : Int)) (show IntKind.i64.wrap (((acc * 10 : Nat) : Int) + ((x.toNat - 48 : Nat) : Int)) = _ from by rw [IntKind.wrap_i64]; omega) ?_
   refine δ (n := ((i + 1 : Nat) : Int)) (ag (n := i + 1) (by omega)) ?_
   conv => whnf
   exact ⟨⟨(i + 1, acc * 10 + (x.toNat - 48)), c, hx⟩, a8 ⟨rfl, rfl, rfl, rfl, trivial⟩ rfl, by show d.length - (i + 1) < d.length - i; omega⟩
  ·have c : i = d.length := by have := dE c; omega
   rw [c, List.drop_length] at hx
   cases hx
   refine U (fun _ => ?_) (fun c => absurd (of_decide_eq_false c) (by rw [List.length_cons]; omega))
   refine δ (n := -(m : Int)) (by rw [IntKind.wrap_i64]; omega) ?_
   exact And.intro ⟨rfl, rfl, trivial⟩ rfl
end Go.Proofs.YtcogcbplmkcojaaGreatDoor
