/-
  The ground of the walks of this seat, part PJ.
-/
import Derived.Test.YtcogcbplmkcojaaGreatDoorPE
import Derived.Test.YtcogcbplmkcojaaGreatDoorHi
namespace Go.Proofs.YtcogcbplmkcojaaGreatDoor
open Go.IntWalk
set_option maxRecDepth 100000
set_option linter.unusedVariables false
set_option linter.unusedSimpArgs false
set_option maxHeartbeats 4000000
def FB : Ord := (.op 0 [] (.op 1 [0] (.op 2 [1, 0] (.op 3 [0] (.op 4 [0] (.op 5 [0] (.op 6 [0] (.op 7 [6, 0] (.op 8 [0] (.op 9 [0] (.op 10 [0] (.op 11 [0] (.op 12 [0] (.op 13 [12, 0] (.op 14 [0] (.op 15 [0] (.op 16 [0] (.op 17 [] (.op 18 [] .nil)))))))))))))))))))
def FA : Ord := (.op 0 [] (.op 1 [0] (.op 2 [0] (.op 3 [0] (.op 5 [3, 2, 1, 0] (.op 6 [3, 2, 1, 0] (.op 7 [3, 2, 1, 0] (.op 4 [7, 6, 5] (.op 8 [7, 6, 5] (.op 9 [] .nil))))))))))
def rF : Ord := (.op 0 [] (.op 1 [0] (.op 2 [1, 0] (.op 3 [0] (.op 4 [] (.op 5 [] (.op 6 [] (.op 7 [6] (.op 8 [7] (.op 9 [] .nil))))))))))
def Dl : Ord := (.op 0 [] (.op 1 [0] (.op 2 [1, 0] (.op 3 [1, 0] (.op 4 [1, 0] (.op 5 [4, 3, 2, 1, 0] (.op 6 [4, 3, 2, 1, 0] (.op 7 [6, 5, 4, 3, 2, 1, 0] (.op 8 [4, 3, 2, 1, 0] (.op 9 [4, 3, 2, 1, 0] (.op 10 [4, 3, 2, 1, 0] (.op 11 [1, 0] (.op 12 [1, 0] (.op 13 [1, 0] (.op 14 [1, 0] (.op 15 [0] (.op 16 [15, 14, 13, 12, 11, 10, 9, 8, 7, 6, 5, 4, 3, 2, 1] (.op 17 [] .nil))))))))))))))))))
def vP : Ord := (.op 0 [] (.op 1 [0] (.op 2 [1, 0] (.op 3 [1, 0] (.op 4 [1, 0] (.op 5 [0] (.op 6 [0] (.op 7 [0] (.op 8 [0] (.op 9 [8, 0] (.op 10 [8, 0] (.op 11 [8, 0] (.op 12 [0] (.op 13 [0] (.op 14 [] (.op 15 [] .nil))))))))))))))))
def vO : Ord := (.op 0 [] (.op 1 [0] (.op 2 [0] (.op 3 [0] (.op 4 [0] (.op 5 [0] (.op 6 [0] (.op 8 [6, 5, 4, 3, 2, 1, 0] (.op 7 [8] (.op 9 [8] (.op 10 [] .nil)))))))))))
theorem fP (p : UInt8 → Bool) : ∀ l : List UInt8, aS p l ≤ l.length
 | [] => Nat.le_refl _
 | c :: r => by
  unfold aS
  cases p c
  ·exact Nat.zero_le _
  ·exact Nat.succ_le_succ (fP p r)
theorem gJ (p : UInt8 → Bool) : ∀ (l : List UInt8) (j : Nat) x, j < aS p l → l[j]? = some x → p x = true
 | [], j, x, h, _ => by simp [aS] at h
 | c :: r, j, x, h, hx => by
  unfold aS at h
  cases hp : p c with
  | false => rw [hp] at h; exact absurd h (Nat.not_lt_zero _)
  | true =>
   rw [hp] at h
   cases j with
   | zero => cases hx; exact hp
   | succ j => exact gJ p r j x (Nat.lt_of_succ_lt_succ h) hx
theorem iS (p : UInt8 → Bool) : ∀ (l : List UInt8) x, l[aS p l]? = some x → p x = false
 | [], x, h => by cases h
 | c :: r, x, h => by
  unfold aS at h
  cases hp : p c with
  | false => rw [hp] at h; cases h; exact hp
  | true => rw [hp] at h; exact iS p r x h
theorem BD {w : List UInt8} {h : Int} (e : je w = some h) : u_ w = some h ∧ 0 ≤ h ∧ h ≤ 99 := by
 unfold je at e
 split at e
 ·rename_i n hn
  split at e
  ·rename_i hb
   cases e
   have := Nat.le_of_ble_eq_true hb
   exact ⟨hn, Int.natCast_nonneg _, by show (n : Int) ≤ 99; omega⟩
  ·cases e
 ·cases e
theorem rn {w : List UInt8} {h : Int} (e : je w = some h) : φ Tryz.prog 160 [.str w] (.ao [.t (.int .i64 h), .t (.bool true)]) := by
 obtain ⟨h1, h2, h3⟩ := BD e
 refine φ.Λ ?_ rfl
 refine γ.ο ζ η Tryz.func160 rfl rfl ?_
 refine γ.pure (ql h1) rfl ?_
 refine U (fun _ => ?_) (fun c => absurd (of_decide_eq_false c) (by omega))
 exact And.intro ⟨rfl, (show some (T.bool (decide (h ≤ 99))) = some (T.bool true) from by rw [decide_eq_true h3]), trivial⟩ rfl
structure KG (s : PS) (w : List UInt8) (p : bw) : Prop where
 ex : ∃ r, r ≠ [] ∧ w = 46 :: r ∧ (∀ c ∈ r, Aj c = true) ∧ p = ⟨r, -1, 0, 0⟩
structure zh (s : PS) (w : List UInt8) (p : bw) (arg : Nat) : Prop where
 hd : ∃ c r, w = c :: r ∧ c.toNat ≠ 46
 nm : lC s 7 (w.take (aS da w)) = some arg
 ex : (aS da w = w.length ∧ ∃ b, tJ s arg = some b ∧ p = ⟨[], (arg : Int), b - 1, 0⟩) ∨
  (aS da w + 1 < w.length ∧ w[w.length - 1]? = some 93 ∧ ∃ inner, inner = (w.drop (aS da w + 1)).take (w.length - 1 - (aS da w + 1)) ∧
   ((aS er inner = inner.length ∧ ∃ h, je inner = some h ∧ p = ⟨[], (arg : Int), h, h⟩) ∨
    (aS er inner < inner.length ∧ ∃ h l, je (inner.take (aS er inner)) = some h ∧ je (inner.drop (aS er inner + 1)) = some l ∧ p = ⟨[], (arg : Int), h, l⟩)))
theorem C_ {s : PS} {w : List UInt8} {p : bw} (h : za s w = some p) : w.length ≤ 65536 ∧ (KG s w p ∨ ∃ arg, zh s w p arg) := by
 unfold za at h
 split at h
 rotate_left 1
 ·cases h
 rename_i hlen
 refine ⟨Nat.le_of_ble_eq_true hlen, ?_⟩
 unfold Fh at h
 split at h
 ·cases h
 rename_i c r
 split at h
 ·rename_i hc
  split at h
  ·cases h
  rename_i c1 r1
  split at h
  rotate_left 1
  ·cases h
  rename_i iI
  cases h
  have hc : c = 46 := UInt8.toNat.inj (Nat.eq_of_beq_eq_true hc)
  have iI := Nat.eq_of_beq_eq_true iI
  refine .inl ⟨c1 :: r1, by simp, by rw [hc], fun x hx => ?_, rfl⟩
  obtain ⟨j, hj⟩ := List.getElem?_of_mem hx
  exact gJ Aj _ j x (by rw [iI]; exact (List.getElem?_eq_some_iff.1 hj).1) hj
 ·rename_i hc
  have hc : c.toNat ≠ 46 := by rw [im, decide_eq_false_iff_not] at hc; exact hc
  simp only at h
  split at h
  ·cases h
  rename_i arg hn
  refine .inr ⟨arg, ⟨c, r, rfl, hc⟩, hn, ?_⟩
  have hle := fP da (c :: r)
  split at h
  ·rename_i e
   split at h
   ·rename_i b hb
    cases h
    exact .inl ⟨Nat.eq_of_beq_eq_true e, b, hb, rfl⟩
   ·cases h
  ·rename_i e
   split at h
   ·cases h
   rename_i e2
   rw [im, decide_eq_false_iff_not] at e e2
   split at h
   rotate_left 1
   ·cases h
   rename_i z hz
   split at h
   ·cases h
   rename_i e3
   have e3 : z = 93 := UInt8.toNat.inj (Nat.eq_of_beq_eq_true e3)
   refine .inr ⟨by omega, by rw [← e3, ← hz, List.getLast?_eq_getElem?], _, rfl, ?_⟩
   have hk := fP er (((c :: r).drop (aS da (c :: r) + 1)).take ((c :: r).length - 1 - (aS da (c :: r) + 1)))
   split at h
   ·rename_i e4
    split at h
    ·rename_i hh hs
     cases h
     exact .inl ⟨Nat.eq_of_beq_eq_true e4, hh, hs, rfl⟩
    ·cases h
   ·rename_i e4
    rw [im, decide_eq_false_iff_not] at e4
    split at h
    ·rename_i hh hs
     split at h
     ·rename_i ll hl
      cases h
      exact .inr ⟨by omega, hh, ll, hs, hl, rfl⟩
     ·cases h
    ·cases h
def qu : List AV := [.t (.str []), .t (.int .i64 0), .t (.int .i64 0), .t (.int .i64 0)]
def O0 (p : bw) : List AV := [.t (.str p.lit), .t (.int .i64 p.arg), .t (.int .i64 p.hi), .t (.int .i64 p.lo)]
def ni (s : PS) (w : List UInt8) (p : bw) : Prop := γ Tryz.prog 116 [dO s, .t (.str w)] (dH s.d) (fun v H => v = .ao [dO s, .agg (O0 p)] ∧ H = dH s.d)
theorem Dr {c : UInt8} (h : Aj c = true) : c = 48 ∨ c = 49 ∨ c = 120 := by
 unfold Aj at h
 simp only [im, Bool.or_eq_true, decide_eq_true_eq] at h
 rcases h with (h | h) | h
 ·exact .inl (UInt8.toNat.inj h)
 ·exact .inr (.inl (UInt8.toNat.inj h))
 ·exact .inr (.inr (UInt8.toNat.inj h))
theorem Mj {s : PS} {w : List UInt8} {p : bw} (hw : w.length ≤ 65536) (h : KG s w p) : ni s w p := by
 obtain ⟨r, hr, rfl, hl, rfl⟩ := h.ex
 obtain ⟨w, F5⟩ : ∃ w, w = (46 : UInt8) :: r := ⟨_, rfl⟩
 have Q6 : 0 < r.length := List.length_pos_iff.2 hr
 have Ta : w.length = r.length + 1 := by rw [F5]; rfl
 rw [← F5] at hw ⊢
 have h0 : w[0]? = some 46 := by rw [F5]; rfl
 have hT : (w.drop 1).take (w.length - 1) = r := by rw [F5]; exact jl _ _
 obtain ⟨d, rest, g⟩ := s
 unfold ni
 refine bx ?_
 refine γ.ο ζ η Tryz.func116 rfl rfl ?_
 refine ξ h0 ?_
 refine ak (fun i : Nat => 1 ≤ i ∧ i ≤ w.length) (fun i => ⟨[(1, .t (.str w)), (2, .ptr 11 0 0 0), (4, .ptr 12 0 0 0), (5, .ptr 13 0 0 0), (6, .t (.int .i64 i))], dH d ++ [.box (ec d (ω rest) (g.map Φ)), .box cQ, .box qu]⟩) (fun i => w.length - i) 1 ⟨Nat.le_refl _, by omega⟩ ?_ (fun i ⟨kf, tf⟩ => ?_)
 ·exact π [0, 1, 2, 3, 4, 5, 6, 7, 8, 9, 10, 11, 12, 13] rfl ⟨rfl, rfl, rfl, rfl, rfl, trivial⟩ ⟨rfl, rfl, rfl, rfl, rfl, rfl, rfl, rfl, rfl, rfl, rfl, rfl, rfl, rfl, trivial⟩
 refine U (fun c => ?_) (fun c => ?_)
 ·have c : i < w.length := dn c
  obtain ⟨j, hj⟩ : ∃ j, i = j + 1 := ⟨i - 1, by omega⟩
  obtain ⟨x, hx, cX⟩ := get_some (R := r) (i := j) (by omega)
  have eZ : w[((i : Nat) : Int).toNat]? = some x := by rw [Int.toNat_natCast, hj, F5]; exact hx
  refine υ FB (by decide +kernel) ?_
  rcases Dr (hl x cX) with rfl | rfl | rfl
  ·refine ξ eZ ?_
   refine θ (Δ d _ _ rfl 41) (by rfl) (by rfl) ?_
   refine And.intro (fun j hj => by cases hj) ?_
   refine And.intro (fun j hj => by cases hj) ?_
   refine δ (n := ((i + 1 : Nat) : Int)) (ag (n := i + 1) (by omega)) ?_
   conv => whnf
   exact ⟨⟨i + 1, by omega, c⟩, π [0, 1, 2, 3, 4, 5, 6, 7, 8, 9, 10, 11, 12, 13] rfl ⟨rfl, rfl, rfl, rfl, rfl, trivial⟩ ⟨rfl, rfl, rfl, rfl, rfl, rfl, rfl, rfl, rfl, rfl, rfl, rfl, rfl, rfl, trivial⟩, by show w.length - (i + 1) < w.length - i; omega⟩
  ·refine ξ eZ ?_
   refine ξ eZ ?_
   refine θ (Δ d _ _ rfl 41) (by rfl) (by rfl) ?_
   refine And.intro (fun j hj => by cases hj) ?_
   refine And.intro (fun j hj => by cases hj) ?_
   refine δ (n := ((i + 1 : Nat) : Int)) (ag (n := i + 1) (by omega)) ?_
   conv => whnf
   exact ⟨⟨i + 1, by omega, c⟩, π [0, 1, 2, 3, 4, 5, 6, 7, 8, 9, 10, 11, 12, 13] rfl ⟨rfl, rfl, rfl, rfl, rfl, trivial⟩ ⟨rfl, rfl, rfl, rfl, rfl, rfl, rfl, rfl, rfl, rfl, rfl, rfl, rfl, rfl, trivial⟩, by show w.length - (i + 1) < w.length - i; omega⟩
  ·refine ξ eZ ?_
   refine ξ eZ ?_
   refine ξ eZ ?_
   refine θ (Δ d _ _ rfl 41) (by rfl) (by rfl) ?_
   refine And.intro (fun j hj => by cases hj) ?_
   refine And.intro (fun j hj => by cases hj) ?_
   refine δ (n := ((i + 1 : Nat) : Int)) (ag (n := i + 1) (by omega)) ?_
   conv => whnf
   exact ⟨⟨i + 1, by omega, c⟩, π [0, 1, 2, 3, 4, 5, 6, 7, 8, 9, 10, 11, 12, 13] rfl ⟨rfl, rfl, rfl, rfl, rfl, trivial⟩ ⟨rfl, rfl, rfl, rfl, rfl, rfl, rfl, rfl, rfl, rfl, rfl, rfl, rfl, rfl, trivial⟩, by show w.length - (i + 1) < w.length - i; omega⟩
 ·refine ax (dB 12 [7, 6, 5]) FA (by decide +kernel) ?_
  refine ε (show (decide ((0 : Int) ≤ 1) && decide ((1 : Int) ≤ ((w.length : Nat) : Int))) = true from by simp; omega) ?_
  refine θ (Δ d _ _ ?hb 41) (by rfl) (by rfl) ?_
  case hb => simp; omega
  refine And.intro (fun j hj => ψ.refl _ _) ?_
  refine And.intro (fun j hj => by simp only [List.mem_cons, List.not_mem_nil, or_false] at hj; rcases hj with rfl | rfl | rfl <;> exact ψ.set (b := 12) _ (List.mem_singleton.2 rfl)) ?_
  refine And.intro (fun j hj => by cases hj) ?_
  refine Ω ?_ ?_
  ·exact ⟨congrArg (fun l => some (AV.ao [.agg (ec d (ω rest) (g.map Φ)), .agg (O0 ⟨l, -1, 0, 0⟩)])) hT, trivial⟩
  ·exact ⟨rfl, rfl, rfl, rfl, rfl, rfl, rfl, rfl, rfl, rfl, rfl, trivial⟩
theorem BS {s : PS} {arg : Nat} {b : Int} (h : tJ s arg = some b) : ∃ a k, s.args[arg]? = some a ∧ (0 ≤ a.bn ∧ a.bn < s.d.classes.length) ∧ s.d.classes[a.bn.toNat]? = some k ∧ k.bits = b := by
 unfold tJ at h
 split at h
 ·rename_i a ha
  split at h
  ·rename_i k hk
   split at h
   ·rename_i c hc
    cases h
    refine ⟨a, c, ha, ?_, ?_, rfl⟩
    ·have := (List.getElem?_eq_some_iff.1 hc).1
     rw [hk]
     exact ⟨Int.natCast_nonneg _, by show (k : Int) < _; omega⟩
    ·rw [hk]; exact hc
   ·cases h
  ·cases h
 ·cases h
theorem Ld {s : PS} (hs : cE s) (hb : ∀ c ∈ s.d.classes, 0 ≤ c.bits ∧ c.bits ≤ 1000000000000000000) {w : List UInt8} {p : bw} {arg : Nat} (hw : w.length ≤ 65536) (h : zh s w p arg) (he : aS da w = w.length) {b : Int} (Nu : tJ s arg = some b) : ni s w ⟨[], (arg : Int), b - 1, 0⟩ := by
 obtain ⟨c, r, F6, hc⟩ := h.hd
 have h0 : w[0]? = some c := by rw [F6]; rfl
 have hle := fP da w
 have cT := gJ da w
 have gP := iS da w
 have yC := rJ s hs (k := 7) (by decide) h.nm
 obtain ⟨a, k, ha, cm, hk, rfl⟩ := BS Nu
 have To := hb k (List.mem_of_getElem? hk)
 obtain ⟨at_, AS⟩ : ∃ a, a = aS da w := ⟨_, rfl⟩
 rw [← AS] at hle cT gP yC he
 obtain ⟨d, rest, g⟩ := s
 unfold ni
 refine bx ?_
 refine γ.ο ζ η Tryz.func116 rfl rfl ?_
 refine ξ h0 ?_
 refine U (fun e => absurd (eV (k := 46) e) hc) (fun _ => ?_)
 refine ak (fun i : Nat => i ≤ at_) (fun i => ⟨[(1, .t (.str w)), (2, .ptr 11 0 0 0), (4, .ptr 12 0 0 0), (5, .ptr 13 0 0 0), (7, .t (.int .i64 i))], dH d ++ [.box (ec d (ω rest) (g.map Φ)), .box cQ, .box qu]⟩) (fun i => w.length - i) 0 (Nat.zero_le _) ?_ (fun i hi => ?_)
 ·exact π [0, 1, 2, 3, 4, 5, 6, 7, 8, 9, 10, 11, 12, 13] rfl ⟨rfl, rfl, rfl, rfl, rfl, trivial⟩ ⟨rfl, rfl, rfl, rfl, rfl, rfl, rfl, rfl, rfl, rfl, rfl, rfl, rfl, rfl, trivial⟩
 have hi : i ≤ at_ := hi
 refine U (fun c => ?_) (fun c => ?_)
 ·have c : i < w.length := dn c
  obtain ⟨x, hx, cX⟩ := get_some (R := w) (i := i) c
  refine ξ (show w[((i : Nat) : Int).toNat]? = some x from by rw [Int.toNat_natCast]; exact hx) ?_
  refine U (fun jR => ?_) (fun jR => ?_)
  ·have jR := uP (k := 91) jR
   have χ : i < at_ := by
    rcases Nat.lt_or_ge i at_ with h | h
    ·exact h
    ·obtain rfl : i = at_ := by omega
     have := gP x hx
     unfold da at this
     rw [im, decide_eq_false jR] at this
     cases this
   refine δ (n := ((i + 1 : Nat) : Int)) (ag (n := i + 1) (by omega)) ?_
   conv => whnf
   exact ⟨⟨i + 1, χ⟩, π [0, 1, 2, 3, 4, 5, 6, 7, 8, 9, 10, 11, 12, 13] rfl ⟨rfl, rfl, rfl, rfl, rfl, trivial⟩ ⟨rfl, rfl, rfl, rfl, rfl, rfl, rfl, rfl, rfl, rfl, rfl, rfl, rfl, rfl, trivial⟩, by show w.length - (i + 1) < w.length - i; omega⟩
  ·have jR := su (k := 91) jR
   have AT : i = at_ := by
    rcases Nat.lt_or_ge i at_ with h | h
    ·have := cT i x h hx
     unfold da at this
     rw [im, decide_eq_true jR] at this
     cases this
    ·omega
   omega
 ·have c : w.length ≤ i := by have := dE c; omega
  obtain rfl : i = at_ := by omega
  refine ax (dB 11 [7]) rF (by decide +kernel) ?_
  refine ε (show (decide ((0 : Int) ≤ ((i : Nat) : Int)) && decide (((i : Nat) : Int) ≤ ((w.length : Nat) : Int))) = true from by simp; omega) ?_
  refine θ yC (by rfl) (by rfl) ?_
  refine And.intro (fun j hj => by cases hj) ?_
  refine And.intro (fun j hj => by rw [List.mem_singleton.1 hj]; exact ψ.set (b := 11) _ (List.mem_singleton.2 rfl)) ?_
  refine And.intro (fun j hj => by cases hj) ?_
  refine U (fun _ => ?_) (fun c => absurd (show ((i : Nat) : Int) = ((w.length : Nat) : Int) by rw [he]) (by simpa using c))
  refine ax (dB 12 [15, 14, 13, 12, 11, 10, 9, 8, 7, 6, 5, 4, 3, 2, 1]) Dl (by decide +kernel) ?_
  refine ξ (show (g.map Φ)[((arg : Nat) : Int).toNat]? = some (Φ a) from by rw [Int.toNat_natCast, List.getElem?_map, show g[arg]? = some a from ha]; rfl) ?_
  refine ε (pb rfl cm.1 cm.2) ?_
  refine ξ (show (d.classes.map aV)[0 + a.bn.toNat]? = some (aV k) from by rw [Nat.zero_add, List.getElem?_map, show d.classes[a.bn.toNat]? = some k from hk]; rfl) ?_
  refine δ (n := k.bits - 1) (by rw [IntKind.wrap_i64]; omega) ?_
  refine And.intro (fun j hj => by simp only [List.mem_cons, List.not_mem_nil, or_false] at hj; rcases hj with rfl | rfl | rfl | rfl | rfl | rfl | rfl | rfl | rfl | rfl | rfl | rfl | rfl | rfl | rfl <;> exact ψ.set (b := 12) _ (List.mem_singleton.2 rfl)) ?_
  refine And.intro (fun j hj => by cases hj) ?_
  refine Ω ?_ ?_
  ·exact ⟨rfl, trivial⟩
  ·exact ⟨rfl, rfl, rfl, rfl, rfl, rfl, rfl, rfl, rfl, rfl, rfl, trivial⟩
def nG (l : List UInt8) (m : Nat) : Int := if aS er (l.drop m) = (l.drop m).length then -1 else ((m + aS er (l.drop m) : Nat) : Int)
theorem Cy (l : List UInt8) : nG l l.length = -1 := by unfold nG; simp [aS]
theorem A5 (l : List UInt8) : nG l 0 = if aS er l = l.length then -1 else ((aS er l : Nat) : Int) := by unfold nG; simp
theorem drop_cons {l : List UInt8} {m : Nat} {x : UInt8} (hx : l[m]? = some x) : l.drop m = x :: l.drop (m + 1) := by
 have c := (List.getElem?_eq_some_iff.1 hx).1
 rw [List.drop_eq_getElem_cons c]
 congr 1
 rw [List.getElem?_eq_getElem c] at hx
 exact Option.some.inj hx
theorem Cw {l : List UInt8} {m : Nat} {x : UInt8} (hx : l[m]? = some x) (h : x.toNat = 58) : nG l m = (m : Int) := by
 unfold nG
 rw [drop_cons hx]
 have : er x = false := by unfold er; rw [im, decide_eq_true h]; rfl
 simp [aS, this]
theorem A6 {l : List UInt8} {m : Nat} {x : UInt8} (hx : l[m]? = some x) (h : x.toNat ≠ 58) : nG l m = nG l (m + 1) := by
 unfold nG
 rw [drop_cons hx]
 have : er x = true := by unfold er; rw [im, decide_eq_false h]; rfl
 simp only [aS, this, List.length_cons, Nat.add_right_cancel_iff]
 split
 ·rfl
 ·congr 1; omega
theorem Lc {s : PS} (hs : cE s) {w : List UInt8} {p : bw} {arg : Nat} (hw : w.length ≤ 65536) (h : zh s w p arg) (he : aS da w + 1 < w.length) (Cr : w[w.length - 1]? = some 93) {inner : List UInt8} (aG : inner = (w.drop (aS da w + 1)).take (w.length - 1 - (aS da w + 1))) (hk : aS er inner = inner.length) {hh : Int} (kc : je inner = some hh) : ni s w ⟨[], (arg : Int), hh, hh⟩ := by
 obtain ⟨c, r, F6, hc⟩ := h.hd
 have h0 : w[0]? = some c := by rw [F6]; rfl
 have hle := fP da w
 have cT := gJ da w
 have gP := iS da w
 have yC := rJ s hs (k := 7) (by decide) h.nm
 obtain ⟨at_, AS⟩ : ∃ a, a = aS da w := ⟨_, rfl⟩
 rw [← AS] at hle cT gP yC he aG
 have wm : inner.length ≤ w.length := by rw [aG, List.length_take, List.length_drop]; omega
 obtain ⟨d, rest, g⟩ := s
 unfold ni
 refine bx ?_
 refine γ.ο ζ η Tryz.func116 rfl rfl ?_
 refine ξ h0 ?_
 refine U (fun e => absurd (eV (k := 46) e) hc) (fun _ => ?_)
 refine ak (fun i : Nat => i ≤ at_) (fun i => ⟨[(1, .t (.str w)), (2, .ptr 11 0 0 0), (4, .ptr 12 0 0 0), (5, .ptr 13 0 0 0), (7, .t (.int .i64 i))], dH d ++ [.box (ec d (ω rest) (g.map Φ)), .box cQ, .box qu]⟩) (fun i => w.length - i) 0 (Nat.zero_le _) ?_ (fun i hi => ?_)
 ·exact π [0, 1, 2, 3, 4, 5, 6, 7, 8, 9, 10, 11, 12, 13] rfl ⟨rfl, rfl, rfl, rfl, rfl, trivial⟩ ⟨rfl, rfl, rfl, rfl, rfl, rfl, rfl, rfl, rfl, rfl, rfl, rfl, rfl, rfl, trivial⟩
 have hi : i ≤ at_ := hi
 refine U (fun c => ?_) (fun c => ?_)
 ·have c : i < w.length := dn c
  obtain ⟨x, hx, cX⟩ := get_some (R := w) (i := i) c
  refine ξ (show w[((i : Nat) : Int).toNat]? = some x from by rw [Int.toNat_natCast]; exact hx) ?_
  refine U (fun jR => ?_) (fun jR => ?_)
  ·have jR := uP (k := 91) jR
   have χ : i < at_ := by
    rcases Nat.lt_or_ge i at_ with h | h
    ·exact h
    ·obtain rfl : i = at_ := by omega
     have := gP x hx
     unfold da at this
     rw [im, decide_eq_false jR] at this
     cases this
   refine δ (n := ((i + 1 : Nat) : Int)) (ag (n := i + 1) (by omega)) ?_
   conv => whnf
   exact ⟨⟨i + 1, χ⟩, π [0, 1, 2, 3, 4, 5, 6, 7, 8, 9, 10, 11, 12, 13] rfl ⟨rfl, rfl, rfl, rfl, rfl, trivial⟩ ⟨rfl, rfl, rfl, rfl, rfl, rfl, rfl, rfl, rfl, rfl, rfl, rfl, rfl, rfl, trivial⟩, by show w.length - (i + 1) < w.length - i; omega⟩
  ·have jR := su (k := 91) jR
   have AT : i = at_ := by
    rcases Nat.lt_or_ge i at_ with h | h
    ·have := cT i x h hx
     unfold da at this
     rw [im, decide_eq_true jR] at this
     cases this
    ·omega
   subst AT
   refine ax (dB 11 [7]) rF (by decide +kernel) ?_
   refine ε (show (decide ((0 : Int) ≤ ((i : Nat) : Int)) && decide (((i : Nat) : Int) ≤ ((w.length : Nat) : Int))) = true from by simp; omega) ?_
   refine θ yC (by rfl) (by rfl) ?_
   refine And.intro (fun j hj => by cases hj) ?_
   refine And.intro (fun j hj => by rw [List.mem_singleton.1 hj]; exact ψ.set (b := 11) _ (List.mem_singleton.2 rfl)) ?_
   refine And.intro (fun j hj => by cases hj) ?_
   refine U (fun c => absurd (show ((i : Nat) : Int) = ((w.length : Nat) : Int) from by simpa using c) (by omega)) (fun _ => ?_)
   refine υ vP (by decide +kernel) ?_
   refine δ (n := ((w.length - 1 : Nat) : Int)) (by rw [IntKind.wrap_i64]; omega) ?_
   refine ξ (show w[((w.length - 1 : Nat) : Int).toNat]? = some 93 from by rw [Int.toNat_natCast]; exact Cr) ?_
   refine δ (n := ((w.length - 1 : Nat) : Int)) (by rw [IntKind.wrap_i64]; omega) ?_
   refine θ (Δ d _ _ ?hb 41) (by rfl) (by rfl) ?_
   case hb => simp; omega
   refine And.intro (fun j hj => by cases hj) ?_
   refine And.intro (fun j hj => by cases hj) ?_
   refine δ (n := ((i + 1 : Nat) : Int)) (ag (n := i + 1) (by omega)) ?_
   refine δ (n := ((w.length - 1 : Nat) : Int)) (by rw [IntKind.wrap_i64]; omega) ?_
   refine ε (show (decide ((0 : Int) ≤ ((w.length - 1 : Nat) : Int)) && decide (((w.length - 1 : Nat) : Int) ≤ ((w.length : Nat) : Int))) = true from by simp) ?_
   refine ε (show (decide ((0 : Int) ≤ ((i + 1 : Nat) : Int)) && decide (((i + 1 : Nat) : Int) ≤ ((((w.length - 1 : Nat) : Int).toNat : Nat) : Int))) = true from by simp; omega) ?_
   refine δ (n := (inner.length : Int) - 1) (show IntKind.i64.wrap (((((w.drop (((i + 1 : Nat) : Int).toNat)).take ((((w.length - 1 : Nat) : Int).toNat) - (((i + 1 : Nat) : Int).toNat))).length : Nat) : Int) - 1) = _ from by rw [Int.toNat_natCast, Int.toNat_natCast, ← aG, IntKind.wrap_i64]; omega) ?_
   refine ak (fun x : Nat × Int => x.1 ≤ inner.length ∧ x.2 = nG inner x.1) (fun x => ⟨[(2, .ptr 11 0 0 0), (4, .ptr 12 0 0 0), (5, .ptr 13 0 0 0), (9, .t (.str inner)), (10, .ptr 14 0 0 0), (11, .t (.int .i64 x.2)), (12, .t (.int .i64 ((x.1 : Int) - 1)))], dH d ++ [.box (ec d (ω rest) (g.map Φ)), .box cQ, .box qu, .box [.t (.str []), .t (.int .i64 arg), .t (.int .i64 0), .t (.int .i64 0)]]⟩) (fun x => x.1) (inner.length, -1) ⟨Nat.le_refl _, (Cy inner).symm⟩ ?_ (fun ⟨m, v⟩ ⟨hm, hv⟩ => ?_)
   ·exact π [0, 1, 2, 3, 4, 5, 6, 7, 8, 9, 10, 11, 12, 13, 14] rfl ⟨rfl, rfl, rfl, congrArg (fun l => some (AV.t (.str l))) aG.symm, rfl, rfl, rfl, trivial⟩ ⟨rfl, rfl, rfl, rfl, rfl, rfl, rfl, rfl, rfl, rfl, rfl, rfl, rfl, rfl, rfl, trivial⟩
   have hm : m ≤ inner.length := hm
   have hv : v = nG inner m := hv
   refine U (fun c => ?_) (fun c => ?_)
   ·have c := of_decide_eq_true c
    obtain ⟨m', Ge⟩ : ∃ m', m = m' + 1 := ⟨m - 1, by omega⟩
    obtain ⟨x, hx, _⟩ := get_some (R := inner) (i := m') (by omega)
    refine ε (decide_eq_true (by omega)) ?_
    refine ξ (show inner[((m : Int) - 1).toNat]? = some x from by rw [show ((m : Int) - 1).toNat = m' by omega]; exact hx) ?_
    refine U (fun pv => ?_) (fun pv => ?_)
    ·have pv := eV (k := 58) pv
     refine δ (n := ((m' : Nat) : Int) - 1) (show IntKind.i64.wrap (((m : Nat) : Int) - 1 - 1) = _ from by rw [IntKind.wrap_i64]; omega) ?_
     conv => whnf
     exact ⟨⟨(m', (m : Int) - 1), by show m' ≤ _; omega, by show (m : Int) - 1 = nG inner m'; rw [Cw hx pv]; omega⟩, π [0, 1, 2, 3, 4, 5, 6, 7, 8, 9, 10, 11, 12, 13, 14] rfl ⟨rfl, rfl, rfl, rfl, rfl, rfl, rfl, trivial⟩ ⟨rfl, rfl, rfl, rfl, rfl, rfl, rfl, rfl, rfl, rfl, rfl, rfl, rfl, rfl, rfl, trivial⟩, by show m' < m; omega⟩
    ·have pv := vA (k := 58) pv
     refine δ (n := ((m' : Nat) : Int) - 1) (show IntKind.i64.wrap (((m : Nat) : Int) - 1 - 1) = _ from by rw [IntKind.wrap_i64]; omega) ?_
     conv => whnf
     exact ⟨⟨(m', v), by show m' ≤ _; omega, by show v = nG inner m'; rw [A6 hx pv, ← Ge]; exact hv⟩, π [0, 1, 2, 3, 4, 5, 6, 7, 8, 9, 10, 11, 12, 13, 14] rfl ⟨rfl, rfl, rfl, rfl, rfl, rfl, rfl, trivial⟩ ⟨rfl, rfl, rfl, rfl, rfl, rfl, rfl, rfl, rfl, rfl, rfl, rfl, rfl, rfl, rfl, trivial⟩, by show m' < m; omega⟩
   ·have c := of_decide_eq_false c
    obtain rfl : m = 0 := by omega
    have qK : v < 0 := by rw [hv, A5, if_pos hk]; decide
    refine U (fun _ => ?_) (fun c => absurd (of_decide_eq_false c) (by omega))
    refine γ.pure (rn kc) rfl ?_
    refine ax (dB 12 [8]) vO (by decide +kernel) ?_
    refine θ (Δ d _ _ rfl 41) (by rfl) (by rfl) ?_
    refine And.intro (fun j hj => ψ.refl _ _) ?_
    refine And.intro (fun j hj => by rw [List.mem_singleton.1 hj]; exact ψ.set (b := 12) _ (List.mem_singleton.2 rfl)) ?_
    refine And.intro (fun j hj => by cases hj) ?_
    refine Ω ?_ ?_
    ·exact ⟨rfl, trivial⟩
    ·exact ⟨rfl, rfl, rfl, rfl, rfl, rfl, rfl, rfl, rfl, rfl, rfl, trivial⟩
 ·have c : w.length ≤ i := by have := dE c; omega
  omega
theorem Lb {s : PS} (hs : cE s) {w : List UInt8} {p : bw} {arg : Nat} (hw : w.length ≤ 65536) (h : zh s w p arg) (he : aS da w + 1 < w.length) (Cr : w[w.length - 1]? = some 93) {inner : List UInt8} (aG : inner = (w.drop (aS da w + 1)).take (w.length - 1 - (aS da w + 1))) (hk : aS er inner < inner.length) {hh ll : Int} (kc : je (inner.take (aS er inner)) = some hh) (J5 : je (inner.drop (aS er inner + 1)) = some ll) : ni s w ⟨[], (arg : Int), hh, ll⟩ := by
 obtain ⟨c, r, F6, hc⟩ := h.hd
 have h0 : w[0]? = some c := by rw [F6]; rfl
 have hle := fP da w
 have cT := gJ da w
 have gP := iS da w
 have yC := rJ s hs (k := 7) (by decide) h.nm
 obtain ⟨at_, AS⟩ : ∃ a, a = aS da w := ⟨_, rfl⟩
 rw [← AS] at hle cT gP yC he aG
 have wm : inner.length ≤ w.length := by rw [aG, List.length_take, List.length_drop]; omega
 obtain ⟨d, rest, g⟩ := s
 unfold ni
 refine bx ?_
 refine γ.ο ζ η Tryz.func116 rfl rfl ?_
 refine ξ h0 ?_
 refine U (fun e => absurd (eV (k := 46) e) hc) (fun _ => ?_)
 refine ak (fun i : Nat => i ≤ at_) (fun i => ⟨[(1, .t (.str w)), (2, .ptr 11 0 0 0), (4, .ptr 12 0 0 0), (5, .ptr 13 0 0 0), (7, .t (.int .i64 i))], dH d ++ [.box (ec d (ω rest) (g.map Φ)), .box cQ, .box qu]⟩) (fun i => w.length - i) 0 (Nat.zero_le _) ?_ (fun i hi => ?_)
 ·exact π [0, 1, 2, 3, 4, 5, 6, 7, 8, 9, 10, 11, 12, 13] rfl ⟨rfl, rfl, rfl, rfl, rfl, trivial⟩ ⟨rfl, rfl, rfl, rfl, rfl, rfl, rfl, rfl, rfl, rfl, rfl, rfl, rfl, rfl, trivial⟩
 have hi : i ≤ at_ := hi
 refine U (fun c => ?_) (fun c => ?_)
 ·have c : i < w.length := dn c
  obtain ⟨x, hx, cX⟩ := get_some (R := w) (i := i) c
  refine ξ (show w[((i : Nat) : Int).toNat]? = some x from by rw [Int.toNat_natCast]; exact hx) ?_
  refine U (fun jR => ?_) (fun jR => ?_)
  ·have jR := uP (k := 91) jR
   have χ : i < at_ := by
    rcases Nat.lt_or_ge i at_ with h | h
    ·exact h
    ·obtain rfl : i = at_ := by omega
     have := gP x hx
     unfold da at this
     rw [im, decide_eq_false jR] at this
     cases this
   refine δ (n := ((i + 1 : Nat) : Int)) (ag (n := i + 1) (by omega)) ?_
   conv => whnf
   exact ⟨⟨i + 1, χ⟩, π [0, 1, 2, 3, 4, 5, 6, 7, 8, 9, 10, 11, 12, 13] rfl ⟨rfl, rfl, rfl, rfl, rfl, trivial⟩ ⟨rfl, rfl, rfl, rfl, rfl, rfl, rfl, rfl, rfl, rfl, rfl, rfl, rfl, rfl, trivial⟩, by show w.length - (i + 1) < w.length - i; omega⟩
  ·have jR := su (k := 91) jR
   have AT : i = at_ := by
    rcases Nat.lt_or_ge i at_ with h | h
    ·have := cT i x h hx
     unfold da at this
     rw [im, decide_eq_true jR] at this
     cases this
    ·omega
   subst AT
   refine ax (dB 11 [7]) rF (by decide +kernel) ?_
   refine ε (show (decide ((0 : Int) ≤ ((i : Nat) : Int)) && decide (((i : Nat) : Int) ≤ ((w.length : Nat) : Int))) = true from by simp; omega) ?_
   refine θ yC (by rfl) (by rfl) ?_
   refine And.intro (fun j hj => by cases hj) ?_
   refine And.intro (fun j hj => by rw [List.mem_singleton.1 hj]; exact ψ.set (b := 11) _ (List.mem_singleton.2 rfl)) ?_
   refine And.intro (fun j hj => by cases hj) ?_
   refine U (fun c => absurd (show ((i : Nat) : Int) = ((w.length : Nat) : Int) from by simpa using c) (by omega)) (fun _ => ?_)
   refine υ vP (by decide +kernel) ?_
   refine δ (n := ((w.length - 1 : Nat) : Int)) (by rw [IntKind.wrap_i64]; omega) ?_
   refine ξ (show w[((w.length - 1 : Nat) : Int).toNat]? = some 93 from by rw [Int.toNat_natCast]; exact Cr) ?_
   refine δ (n := ((w.length - 1 : Nat) : Int)) (by rw [IntKind.wrap_i64]; omega) ?_
   refine θ (Δ d _ _ ?hb 41) (by rfl) (by rfl) ?_
   case hb => simp; omega
   refine And.intro (fun j hj => by cases hj) ?_
   refine And.intro (fun j hj => by cases hj) ?_
   refine δ (n := ((i + 1 : Nat) : Int)) (ag (n := i + 1) (by omega)) ?_
   refine δ (n := ((w.length - 1 : Nat) : Int)) (by rw [IntKind.wrap_i64]; omega) ?_
   refine ε (show (decide ((0 : Int) ≤ ((w.length - 1 : Nat) : Int)) && decide (((w.length - 1 : Nat) : Int) ≤ ((w.length : Nat) : Int))) = true from by simp) ?_
   refine ε (show (decide ((0 : Int) ≤ ((i + 1 : Nat) : Int)) && decide (((i + 1 : Nat) : Int) ≤ ((((w.length - 1 : Nat) : Int).toNat : Nat) : Int))) = true from by simp; omega) ?_
   refine δ (n := (inner.length : Int) - 1) (show IntKind.i64.wrap (((((w.drop (((i + 1 : Nat) : Int).toNat)).take ((((w.length - 1 : Nat) : Int).toNat) - (((i + 1 : Nat) : Int).toNat))).length : Nat) : Int) - 1) = _ from by rw [Int.toNat_natCast, Int.toNat_natCast, ← aG, IntKind.wrap_i64]; omega) ?_
   refine ak (fun x : Nat × Int => x.1 ≤ inner.length ∧ x.2 = nG inner x.1) (fun x => ⟨[(2, .ptr 11 0 0 0), (4, .ptr 12 0 0 0), (5, .ptr 13 0 0 0), (9, .t (.str inner)), (10, .ptr 14 0 0 0), (11, .t (.int .i64 x.2)), (12, .t (.int .i64 ((x.1 : Int) - 1)))], dH d ++ [.box (ec d (ω rest) (g.map Φ)), .box cQ, .box qu, .box [.t (.str []), .t (.int .i64 arg), .t (.int .i64 0), .t (.int .i64 0)]]⟩) (fun x => x.1) (inner.length, -1) ⟨Nat.le_refl _, (Cy inner).symm⟩ ?_ (fun ⟨m, v⟩ ⟨hm, hv⟩ => ?_)
   ·exact π [0, 1, 2, 3, 4, 5, 6, 7, 8, 9, 10, 11, 12, 13, 14] rfl ⟨rfl, rfl, rfl, congrArg (fun l => some (AV.t (.str l))) aG.symm, rfl, rfl, rfl, trivial⟩ ⟨rfl, rfl, rfl, rfl, rfl, rfl, rfl, rfl, rfl, rfl, rfl, rfl, rfl, rfl, rfl, trivial⟩
   have hm : m ≤ inner.length := hm
   have hv : v = nG inner m := hv
   refine U (fun c => ?_) (fun c => ?_)
   ·have c := of_decide_eq_true c
    obtain ⟨m', Ge⟩ : ∃ m', m = m' + 1 := ⟨m - 1, by omega⟩
    obtain ⟨x, hx, _⟩ := get_some (R := inner) (i := m') (by omega)
    refine ε (decide_eq_true (by omega)) ?_
    refine ξ (show inner[((m : Int) - 1).toNat]? = some x from by rw [show ((m : Int) - 1).toNat = m' by omega]; exact hx) ?_
    refine U (fun pv => ?_) (fun pv => ?_)
    ·have pv := eV (k := 58) pv
     refine δ (n := ((m' : Nat) : Int) - 1) (show IntKind.i64.wrap (((m : Nat) : Int) - 1 - 1) = _ from by rw [IntKind.wrap_i64]; omega) ?_
     conv => whnf
     exact ⟨⟨(m', (m : Int) - 1), by show m' ≤ _; omega, by show (m : Int) - 1 = nG inner m'; rw [Cw hx pv]; omega⟩, π [0, 1, 2, 3, 4, 5, 6, 7, 8, 9, 10, 11, 12, 13, 14] rfl ⟨rfl, rfl, rfl, rfl, rfl, rfl, rfl, trivial⟩ ⟨rfl, rfl, rfl, rfl, rfl, rfl, rfl, rfl, rfl, rfl, rfl, rfl, rfl, rfl, rfl, trivial⟩, by show m' < m; omega⟩
    ·have pv := vA (k := 58) pv
     refine δ (n := ((m' : Nat) : Int) - 1) (show IntKind.i64.wrap (((m : Nat) : Int) - 1 - 1) = _ from by rw [IntKind.wrap_i64]; omega) ?_
     conv => whnf
     exact ⟨⟨(m', v), by show m' ≤ _; omega, by show v = nG inner m'; rw [A6 hx pv, ← Ge]; exact hv⟩, π [0, 1, 2, 3, 4, 5, 6, 7, 8, 9, 10, 11, 12, 13, 14] rfl ⟨rfl, rfl, rfl, rfl, rfl, rfl, rfl, trivial⟩ ⟨rfl, rfl, rfl, rfl, rfl, rfl, rfl, rfl, rfl, rfl, rfl, rfl, rfl, rfl, rfl, trivial⟩, by show m' < m; omega⟩
   ·have c := of_decide_eq_false c
    obtain rfl : m = 0 := by omega
    have qK : v = ((aS er inner : Nat) : Int) := by rw [hv, A5, if_neg (by omega)]
    have QY : v.toNat = aS er inner := by rw [qK, Int.toNat_natCast]
    refine U (fun c => absurd (of_decide_eq_true c) (by omega)) (fun _ => ?_)
    refine ε (show (decide ((0 : Int) ≤ v) && decide (v ≤ ((inner.length : Nat) : Int))) = true from by simp; omega) ?_
    refine γ.pure (rn (w := (inner.drop 0).take (v.toNat - 0)) (by rw [QY]; exact kc)) rfl ?_
    refine δ (n := v + 1) (by rw [IntKind.wrap_i64]; omega) ?_
    refine ε (show (decide ((0 : Int) ≤ v + 1) && decide (v + 1 ≤ ((inner.length : Nat) : Int))) = true from by simp; omega) ?_
    refine γ.pure (rn (w := (inner.drop (v + 1).toNat).take (inner.length - (v + 1).toNat)) (by rw [show (v + 1).toNat = aS er inner + 1 by omega, List.take_of_length_le (by simp)]; exact J5)) rfl ?_
    refine ax (dB 12 [8]) vO (by decide +kernel) ?_
    refine θ (Δ d _ _ rfl 41) (by rfl) (by rfl) ?_
    refine And.intro (fun j hj => ψ.refl _ _) ?_
    refine And.intro (fun j hj => by rw [List.mem_singleton.1 hj]; exact ψ.set (b := 12) _ (List.mem_singleton.2 rfl)) ?_
    refine And.intro (fun j hj => by cases hj) ?_
    refine Ω ?_ ?_
    ·exact ⟨rfl, trivial⟩
    ·exact ⟨rfl, rfl, rfl, rfl, rfl, rfl, rfl, rfl, rfl, rfl, rfl, trivial⟩
 ·have c : w.length ≤ i := by have := dE c; omega
  omega
theorem La {s : PS} (hs : cE s) (hb : ∀ c ∈ s.d.classes, 0 ≤ c.bits ∧ c.bits ≤ 1000000000000000000) {w : List UInt8} {p : bw} (h : za s w = some p) : ni s w p := by
 obtain ⟨hw, h | ⟨arg, h⟩⟩ := C_ h
 ·exact Mj hw h
 ·rcases h.ex with ⟨he, b, Nu, rfl⟩ | ⟨he, Cr, inner, aG, ⟨hk, hh, kc, rfl⟩ | ⟨hk, hh, ll, kc, J5, rfl⟩⟩
  ·exact Ld hs hb hw h he Nu
  ·exact Lc hs hw h he Cr aG hk kc
  ·exact Lb hs hw h he Cr aG hk kc J5
end Go.Proofs.YtcogcbplmkcojaaGreatDoor
namespace Go.Proofs.YtcogcbplmkcojaaGreatDoor
open Go.IntWalk
set_option maxRecDepth 100000
set_option linter.unusedVariables false
set_option linter.unusedSimpArgs false
set_option maxHeartbeats 4000000
def Fz : Ord := (.op 0 [] (.op 1 [0] (.op 2 [0] (.op 3 [0] (.op 4 [3, 2, 1] (.op 5 [] .nil))))))
def rE : Ord := (.op 0 [] (.op 1 [0] (.op 2 [1] (.op 3 [] .nil))))
def OV (f : Nat) : Prop := ∀ s s' op w a b ks, kI f s = some (s', (op, w, a, b), ks) → Ξ s s' ∧ bz 118 s s' op w a b ks
def JK : List (List UInt8) := [[83], [65], [80], [71], [84], [], [72]]
theorem np {KA : PS → Option (PS × (Int × Int × Int × Int) × List T)} {s s' : PS} {t : T} (h : zF KA s = some (s', t)) : ∃ op w a b ks, KA s = some (s', (op, w, a, b), ks) ∧ t = dQ op w a b ks := by
 unfold zF at h
 split at h
 ·cases h
  exact ⟨_, _, _, _, _, by assumption, rfl⟩
 ·cases h
theorem Qi {n : Nat} : decide (((n : Nat) : Int) < 0) = false := decide_eq_false (by omega)
theorem Jf {h : List UInt8} (e : cH h 0 [[97, 100, 100], [115, 117, 98], [112, 97, 103, 101]] = some 0) : h = [97, 100, 100] := by
 obtain ⟨j, x, q1, q2, q3⟩ := aZ _ _ _ _ e
 obtain rfl : j = 0 := by omega
 cases q2
 exact q3
theorem Je {h : List UInt8} (e : cH h 0 [[97, 100, 100], [115, 117, 98], [112, 97, 103, 101]] = some 1) : h = [115, 117, 98] := by
 obtain ⟨j, x, q1, q2, q3⟩ := aZ _ _ _ _ e
 obtain rfl : j = 1 := by omega
 cases q2
 exact q3
theorem Gr {h : List UInt8} (e : cH h 0 [[97, 100, 100], [115, 117, 98], [112, 97, 103, 101]] = some 2) : h = [112, 97, 103, 101] := by
 obtain ⟨j, x, q1, q2, q3⟩ := aZ _ _ _ _ e
 obtain rfl : j = 2 := by omega
 cases q2
 exact q3
theorem JJ (d : τ) (l r : List ay) (g : List cU) {s1 : PS} (hw : bt ⟨d, l, g⟩ = some (s1, [97, 100, 100])) {t1 : PS} {o1 w1 a1 b1 : Int} {l1 : List T} (h1 : bz 118 s1 t1 o1 w1 a1 b1 l1) (e1 : Ξ s1 t1) {t2 : PS} {o2 w2 a2 b2 : Int} {l2 : List T} (h2 : bz 118 t1 t2 o2 w2 a2 b2 l2) (e2 : Ξ t1 t2) (he : aJ t2 = true) :
 bz 118 ⟨d, .list l :: r, g⟩ ⟨d, r, g⟩ 1 0 0 0 [dQ o1 w1 a1 b1 l1, dQ o2 w2 a2 b2 l2] := by
 have hE := cJ he
 have hW := bo hw
 have e0 : Ξ ⟨d, l, g⟩ s1 := aQ hw
 unfold bz at h1
 unfold bz at h2
 obtain ⟨d0, r0, g0⟩ := s1
 obtain rfl : d = d0 := e0.1.symm
 obtain rfl : g = g0 := e0.2.symm
 obtain ⟨d1, r1, g1⟩ := t1
 obtain rfl : d = d1 := e1.1.symm
 obtain rfl : g = g1 := e1.2.symm
 obtain ⟨d2, r2, g2⟩ := t2
 obtain rfl : d = d2 := e2.1.symm
 obtain rfl : g = g2 := e2.2.symm
 unfold bz
 refine bx ?_
 refine γ.ο ζ η Tryz.func118 rfl rfl ?_
 refine θ (dj d 4 [] 0 (ω l) (ω r) (g.map Φ) (.inl rfl)) (by rfl) (by rfl) ?_
 refine θ (Δ d _ _ rfl 41) (by rfl) (by rfl) ?_
 refine θ hW (by rfl) (by rfl) ?_
 refine bd 3 ?_
 refine θ h1 (by rfl) (by rfl) ?_
 refine θ h2 (by rfl) (by rfl) ?_
 refine Or.inl (And.intro rfl (ε rfl ?_))
 refine θ hE (by rfl) (by rfl) ?_
 refine ax (dB 12 [1]) rE (by decide +kernel) ?_
 refine And.intro (fun j hj => by rw [List.mem_singleton.1 hj]; exact ψ.set (b := 12) _ (List.mem_singleton.2 rfl)) ?_
 refine And.intro (fun j hj => by cases hj) ?_
 refine aX.trans (jF 19 (gC (kF (.ff _ _ _ [19] 32 rfl (.refl _) (fun b hb => hb))))) (Ω ?_ ?_)
 ·exact ⟨rfl, trivial⟩
 ·exact ⟨rfl, rfl, rfl, rfl, rfl, rfl, rfl, rfl, rfl, rfl, rfl, trivial⟩
theorem JH (d : τ) (l r : List ay) (g : List cU) {s1 : PS} (hw : bt ⟨d, l, g⟩ = some (s1, [115, 117, 98])) {t1 : PS} {o1 w1 a1 b1 : Int} {l1 : List T} (h1 : bz 118 s1 t1 o1 w1 a1 b1 l1) (e1 : Ξ s1 t1) {t2 : PS} {o2 w2 a2 b2 : Int} {l2 : List T} (h2 : bz 118 t1 t2 o2 w2 a2 b2 l2) (e2 : Ξ t1 t2) (he : aJ t2 = true) :
 bz 118 ⟨d, .list l :: r, g⟩ ⟨d, r, g⟩ 2 0 0 0 [dQ o1 w1 a1 b1 l1, dQ o2 w2 a2 b2 l2] := by
 have hE := cJ he
 have hW := bo hw
 have e0 : Ξ ⟨d, l, g⟩ s1 := aQ hw
 unfold bz at h1
 unfold bz at h2
 obtain ⟨d0, r0, g0⟩ := s1
 obtain rfl : d = d0 := e0.1.symm
 obtain rfl : g = g0 := e0.2.symm
 obtain ⟨d1, r1, g1⟩ := t1
 obtain rfl : d = d1 := e1.1.symm
 obtain rfl : g = g1 := e1.2.symm
 obtain ⟨d2, r2, g2⟩ := t2
 obtain rfl : d = d2 := e2.1.symm
 obtain rfl : g = g2 := e2.2.symm
 unfold bz
 refine bx ?_
 refine γ.ο ζ η Tryz.func118 rfl rfl ?_
 refine θ (dj d 4 [] 0 (ω l) (ω r) (g.map Φ) (.inl rfl)) (by rfl) (by rfl) ?_
 refine θ (Δ d _ _ rfl 41) (by rfl) (by rfl) ?_
 refine θ hW (by rfl) (by rfl) ?_
 refine bd 3 ?_
 refine θ h1 (by rfl) (by rfl) ?_
 refine θ h2 (by rfl) (by rfl) ?_
 refine Or.inl (And.intro rfl (ε rfl ?_))
 refine θ hE (by rfl) (by rfl) ?_
 refine ax (dB 12 [1]) rE (by decide +kernel) ?_
 refine And.intro (fun j hj => by rw [List.mem_singleton.1 hj]; exact ψ.set (b := 12) _ (List.mem_singleton.2 rfl)) ?_
 refine And.intro (fun j hj => by cases hj) ?_
 refine aX.trans (jF 19 (gC (kF (.ff _ _ _ [19] 32 rfl (.refl _) (fun b hb => hb))))) (Ω ?_ ?_)
 ·exact ⟨rfl, trivial⟩
 ·exact ⟨rfl, rfl, rfl, rfl, rfl, rfl, rfl, rfl, rfl, rfl, rfl, trivial⟩
theorem G2 (d : τ) (l r : List ay) (g : List cU) {s1 : PS} (hw : bt ⟨d, l, g⟩ = some (s1, [112, 97, 103, 101])) {t1 : PS} {o1 w1 a1 b1 : Int} {l1 : List T} (h1 : bz 118 s1 t1 o1 w1 a1 b1 l1) (e1 : Ξ s1 t1) (he : aJ t1 = true) :
 bz 118 ⟨d, .list l :: r, g⟩ ⟨d, r, g⟩ 43 0 0 0 [dQ o1 w1 a1 b1 l1] := by
 have hE := cJ he
 have hW := bo hw
 have e0 : Ξ ⟨d, l, g⟩ s1 := aQ hw
 unfold bz at h1
 obtain ⟨d0, r0, g0⟩ := s1
 obtain rfl : d = d0 := e0.1.symm
 obtain rfl : g = g0 := e0.2.symm
 obtain ⟨d1, r1, g1⟩ := t1
 obtain rfl : d = d1 := e1.1.symm
 obtain rfl : g = g1 := e1.2.symm
 unfold bz
 refine bx ?_
 refine γ.ο ζ η Tryz.func118 rfl rfl ?_
 refine θ (dj d 4 [] 0 (ω l) (ω r) (g.map Φ) (.inl rfl)) (by rfl) (by rfl) ?_
 refine θ (Δ d _ _ rfl 41) (by rfl) (by rfl) ?_
 refine θ hW (by rfl) (by rfl) ?_
 refine bd 2 ?_
 refine θ h1 (by rfl) (by rfl) ?_
 refine θ hE (by rfl) (by rfl) ?_
 refine ax (dB 12 [1]) rE (by decide +kernel) ?_
 refine And.intro (fun j hj => by rw [List.mem_singleton.1 hj]; exact ψ.set (b := 12) _ (List.mem_singleton.2 rfl)) ?_
 refine And.intro (fun j hj => by cases hj) ?_
 refine aX.trans (jF 19 (gC (kF (.ff _ _ _ [19] 32 rfl (.refl _) (fun b hb => hb))))) (Ω ?_ ?_)
 ·exact ⟨rfl, trivial⟩
 ·exact ⟨rfl, rfl, rfl, rfl, rfl, rfl, rfl, rfl, rfl, rfl, rfl, trivial⟩
theorem oF : ∀ f, OV f := by
 intro f
 induction f with
 | zero => intro s s' op w a b ks h; cases h
 | succ f ih =>
  intro s s' op w a b ks h
  obtain ⟨d, rest, g⟩ := s
  unfold kI at h
  split at h
  ·rename_i n r hr
   obtain rfl : rest = _ := hr
   cases h
   refine ⟨⟨rfl, rfl⟩, ?_⟩
   unfold bz
   refine bx ?_
   refine γ.ο ζ η Tryz.func118 rfl rfl ?_
   refine θ (dj d 2 [] _ [] (ω r) (g.map Φ) (.inl rfl)) (by rfl) (by rfl) ?_
   refine ax (dB 12 [3, 2, 1]) Fz (by decide +kernel) ?_
   refine And.intro (fun j hj => by simp only [List.mem_cons, List.not_mem_nil, or_false] at hj; rcases hj with rfl | rfl | rfl <;> exact ψ.set (b := 12) _ (List.mem_singleton.2 rfl)) ?_
   refine And.intro (fun j hj => by cases hj) ?_
   refine aX.trans (nl (gC (kF (.sub _ _ (.av 5))))) (Ω ?_ ?_)
   ·exact ⟨rfl, trivial⟩
   ·exact ⟨rfl, rfl, rfl, rfl, rfl, rfl, rfl, rfl, rfl, rfl, rfl, trivial⟩
  ·rename_i w0 r hr
   obtain rfl : rest = _ := hr
   split at h
   rotate_left 1
   ·cases h
   rename_i i hi
   cases h
   refine ⟨⟨rfl, rfl⟩, ?_⟩
   obtain ⟨j, x, q1, q2, _⟩ := aZ _ _ _ _ hi
   have hj := (List.getElem?_eq_some_iff.1 q2).1
   have Tp : i < 7 := by have hj : j < 7 := hj; omega
   have hX := cx JK w0 (by decide)
   rw [show fT w0 JK = (i : Int) by unfold fT; rw [← mE, show JK.map (fun w => w.map (·.toNat)) = [[83], [65], [80], [71], [84], [], [72]] from rfl, hi]] at hX
   unfold bz
   refine bx ?_
   refine γ.ο ζ η Tryz.func118 rfl rfl ?_
   refine θ (dj d 1 w0 0 [] (ω r) (g.map Φ) (.inl rfl)) (by rfl) (by rfl) ?_
   refine γ.bU hX rfl ⟨.vec 1 _, .refl _, trivial⟩ rfl ?_
   refine θ (Δ d _ _ Qi 41) (by rfl) (by rfl) ?_
   refine δ (n := 38 + (i : Int)) (by rw [IntKind.wrap_i64]; omega) ?_
   refine aX.trans (nl (gC (kF (.sub _ _ (.av 5))))) (Ω ?_ ?_)
   ·exact ⟨rfl, trivial⟩
   ·exact ⟨rfl, rfl, rfl, rfl, rfl, rfl, rfl, rfl, rfl, rfl, rfl, trivial⟩
  ·rename_i l r hr
   obtain rfl : rest = _ := hr
   split at h
   ·cases h
   rename_i s1 head hw
   have f1 : Ξ ⟨d, l, g⟩ s1 := aQ hw
   split at h
   ·rename_i e
    split at h
    rotate_left 1
    ·cases h
    rename_i s2 ks hk
    cases h
    obtain rfl := Jf e
    unfold dU at hk
    split at hk
    rotate_left 1
    ·cases hk
    rename_i t1 k1 h1
    obtain ⟨o1, w1, a1, b1, l1, q1, rfl⟩ := np h1
    obtain ⟨e1, c1⟩ := ih _ _ _ _ _ _ _ q1
    unfold dU at hk
    split at hk
    rotate_left 1
    ·cases hk
    rename_i t2 k2 h2
    obtain ⟨o2, w2, a2, b2, l2, q2, rfl⟩ := np h2
    obtain ⟨e2, c2⟩ := ih _ _ _ _ _ _ _ q2
    unfold dU at hk
    split at hk
    rotate_left 1
    ·cases hk
    rename_i he
    cases hk
    have z := ((f1.trans e1).trans e2)
    refine ⟨⟨z.1, z.2⟩, ?_⟩
    have z2 := JJ d l r g hw c1 e1 c2 e2 he
    rw [z.1, z.2]
    exact z2
   ·rename_i e
    split at h
    rotate_left 1
    ·cases h
    rename_i s2 ks hk
    cases h
    obtain rfl := Je e
    unfold dU at hk
    split at hk
    rotate_left 1
    ·cases hk
    rename_i t1 k1 h1
    obtain ⟨o1, w1, a1, b1, l1, q1, rfl⟩ := np h1
    obtain ⟨e1, c1⟩ := ih _ _ _ _ _ _ _ q1
    unfold dU at hk
    split at hk
    rotate_left 1
    ·cases hk
    rename_i t2 k2 h2
    obtain ⟨o2, w2, a2, b2, l2, q2, rfl⟩ := np h2
    obtain ⟨e2, c2⟩ := ih _ _ _ _ _ _ _ q2
    unfold dU at hk
    split at hk
    rotate_left 1
    ·cases hk
    rename_i he
    cases hk
    have z := ((f1.trans e1).trans e2)
    refine ⟨⟨z.1, z.2⟩, ?_⟩
    have z2 := JH d l r g hw c1 e1 c2 e2 he
    rw [z.1, z.2]
    exact z2
   ·rename_i e
    split at h
    rotate_left 1
    ·cases h
    rename_i s2 ks hk
    cases h
    obtain rfl := Gr e
    unfold dU at hk
    split at hk
    rotate_left 1
    ·cases hk
    rename_i t1 k1 h1
    obtain ⟨o1, w1, a1, b1, l1, q1, rfl⟩ := np h1
    obtain ⟨e1, c1⟩ := ih _ _ _ _ _ _ _ q1
    unfold dU at hk
    split at hk
    rotate_left 1
    ·cases hk
    rename_i he
    cases hk
    have z := (f1.trans e1)
    refine ⟨⟨z.1, z.2⟩, ?_⟩
    have z2 := G2 d l r g hw c1 e1 he
    rw [z.1, z.2]
    exact z2
   ·cases h
  ·cases h
end Go.Proofs.YtcogcbplmkcojaaGreatDoor
namespace Go.Proofs.YtcogcbplmkcojaaGreatDoor
open Go.IntWalk
set_option maxRecDepth 100000
set_option linter.unusedVariables false
set_option linter.unusedSimpArgs false
set_option maxHeartbeats 4000000
def gK (k b : Nat) : Nat := match Nat.beq k b with | true => 2 | false => 0
def tB (k : Nat) (d : τ) : AH := [.arr 152 4 true (gK k 0) (.ts (d.files.map dz)),
 .arr 139 3 true (gK k 1) (.ts (d.aa.map bl)),
 .arr 9 1 true (gK k 2) (.ts (d.flags.map T.str)),
 .arr 95 7 true (gK k 3) (.ts (d.classes.map aV)),
 .arr 45 5 true (gK k 4) (.ts (d.forms.map ab)),
 .arr 167 17 true (gK k 5) (.ts (d.au.map ei)),
 .arr 164 4 true (gK k 6) (.ts (d.uses.map fE)),
 .arr 145 3 true (gK k 7) (.ts (d.ar.map cG)),
 .arr 173 3 true (gK k 8) (.ts (d.macros.map db)),
 .arr 147 2 true (gK k 9) (.ts (d.aR.map fk)),
 .arr 139 3 true (gK k 10) (.ts (d.aN.map bl))]
def Me (k : Nat) (d : τ) (rest args : List T) : List AV := [.t (.str d.name), .t (.int .i64 d.order), .sl 0 (gK k 0) 0 d.files.length, .sl 1 (gK k 1) 0 d.aa.length, .sl 2 (gK k 2) 0 d.flags.length, .sl 3 (gK k 3) 0 d.classes.length, .sl 4 (gK k 4) 0 d.forms.length, .sl 5 (gK k 5) 0 d.au.length, .sl 6 (gK k 6) 0 d.uses.length, .sl 7 (gK k 7) 0 d.ar.length, .sl 8 (gK k 8) 0 d.macros.length, .sl 9 (gK k 9) 0 d.aR.length, .sl 10 (gK k 10) 0 d.aN.length, .t (.κ 4 rest), .t (.κ 2 args), .t (.int .i64 0)]
def qf (k : Nat) (s : PS) : AV := .agg (Me k s.d (ω s.rest) (s.args.map Φ))
def cZ (f : FuncId) (k : Nat) (s s' : PS) : Prop := γ Tryz.prog f [dO s] (dH s.d) (fun v H => v = qf k s' ∧ H = tB k s'.d)
theorem LK (k : Nat) (d : τ) : (tB k d).all (Al 11) = true := rfl
theorem DR {f : FuncId} {args : List AV} {H0 H1 : AH} {X : AV} {H : AH} {Q : AV → AH → Prop} (h : γ Tryz.prog f args H0 (fun r H' => r = X ∧ H' = H1)) (hl : H0.length = 11) (pj : H1.length = 11) (hb : H0.all (Al 11) = true) (e : H.take 11 = H0) (ha : args.all (sW 11) = true) (k : Q X (H1 ++ H.drop 11)) : γ Tryz.prog f args H Q := by
 have e2 : H = H0 ++ H.drop 11 := by rw [← e, List.take_append_drop]
 have := γ.frame (H := H0) h (H.drop 11) (Q := Q) (by rw [hl]; exact ha) (by rw [hl]; exact hb) (by
  rintro r H' ⟨rfl, rfl⟩
  exact ⟨by rw [pj, hl], k⟩)
 rwa [← e2] at this
theorem fj {f : FuncId} {args : List AV} {k : Nat} {d : τ} {X : AV} {H : AH} {Q : AV → AH → Prop} (h : γ Tryz.prog f args (tB k d) (fun r H' => r = X ∧ H' = tB k d)) (e : H.take 11 = tB k d) (ha : args.all (sW 11) = true) (q : Q X H) : γ Tryz.prog f args H Q := by
 refine DR h rfl rfl (LK k d) e ha ?_
 rw [← e, List.take_append_drop]
 exact q
theorem ub {f : FuncId} {s s' : PS} {k : Nat} {H : AH} {Q : AV → AH → Prop} (h : cZ f k s s') (e : H.take 11 = dH s.d) (q : Q (qf k s') (tB k s'.d ++ H.drop 11)) : γ Tryz.prog f [dO s] H Q :=
 DR h rfl rfl (Ba _) e rfl q
theorem aT {f : FuncId} {args : List AV} {H H1 : AH} {X : AV} (h : γ Tryz.prog f args H (fun r H' => aX H.length ⟨[(0, r)], H'⟩ ⟨[(0, X)], H1⟩)) : γ Tryz.prog f args H (fun r H' => r = X ∧ H' = H1) :=
 h.gc fun r H' hw => ⟨X, H1, hw, rfl, rfl⟩
theorem bM {α : Type} (f : α → T) (l : List α) (x : α) {ty : TypeId} {e g : Nat} : some (Ψ.arr ty e true g (.ts (l.map f ++ [f x]))) = some (Ψ.arr ty e true g (.ts ((l ++ [x]).map f))) := by rw [List.map_append]; rfl
theorem cg {n k : Nat} (hn : n ≤ 100000) (hk : Nat.ble k 1000 = true) : eK n k = true := by
 have hk := Nat.le_of_ble_eq_true hk
 have : n * k ≤ 100000 * 1000 := Nat.mul_le_mul hn hk
 simp [eK]; omega
theorem both (f : Nat → List T → Option AV) {n n' : Nat} {l l' : List T} (h : n = n') (k : l = l') : f n l = f n' l' := by rw [h, k]
theorem bI {α : Type} (l : List α) (x : α) : l.length + 1 = (l ++ [x]).length := by simp
theorem jO (k : Nat) (hk : k < 11) (d : τ) (r a : List T) {b : Bool} (hb : b = false) (e : Int) : γ Tryz.prog 50 [.agg (Me k d r a), .t (.bool b), .t (.int .i64 e)] (tB k d) (fun v H => v = .agg (Me k d r a) ∧ H = tB k d) := by
 subst hb
 match k with
 | 0 =>
  refine aT ?_
  refine γ.ο ζ η Tryz.func50 rfl rfl ?_
  refine Ω ?_ ?_
  ·exact ⟨rfl, trivial⟩
  ·exact ⟨rfl, rfl, rfl, rfl, rfl, rfl, rfl, rfl, rfl, rfl, rfl, trivial⟩
 | 1 =>
  refine aT ?_
  refine γ.ο ζ η Tryz.func50 rfl rfl ?_
  refine Ω ?_ ?_
  ·exact ⟨rfl, trivial⟩
  ·exact ⟨rfl, rfl, rfl, rfl, rfl, rfl, rfl, rfl, rfl, rfl, rfl, trivial⟩
 | 2 =>
  refine aT ?_
  refine γ.ο ζ η Tryz.func50 rfl rfl ?_
  refine Ω ?_ ?_
  ·exact ⟨rfl, trivial⟩
  ·exact ⟨rfl, rfl, rfl, rfl, rfl, rfl, rfl, rfl, rfl, rfl, rfl, trivial⟩
 | 3 =>
  refine aT ?_
  refine γ.ο ζ η Tryz.func50 rfl rfl ?_
  refine Ω ?_ ?_
  ·exact ⟨rfl, trivial⟩
  ·exact ⟨rfl, rfl, rfl, rfl, rfl, rfl, rfl, rfl, rfl, rfl, rfl, trivial⟩
 | 4 =>
  refine aT ?_
  refine γ.ο ζ η Tryz.func50 rfl rfl ?_
  refine Ω ?_ ?_
  ·exact ⟨rfl, trivial⟩
  ·exact ⟨rfl, rfl, rfl, rfl, rfl, rfl, rfl, rfl, rfl, rfl, rfl, trivial⟩
 | 5 =>
  refine aT ?_
  refine γ.ο ζ η Tryz.func50 rfl rfl ?_
  refine Ω ?_ ?_
  ·exact ⟨rfl, trivial⟩
  ·exact ⟨rfl, rfl, rfl, rfl, rfl, rfl, rfl, rfl, rfl, rfl, rfl, trivial⟩
 | 6 =>
  refine aT ?_
  refine γ.ο ζ η Tryz.func50 rfl rfl ?_
  refine Ω ?_ ?_
  ·exact ⟨rfl, trivial⟩
  ·exact ⟨rfl, rfl, rfl, rfl, rfl, rfl, rfl, rfl, rfl, rfl, rfl, trivial⟩
 | 7 =>
  refine aT ?_
  refine γ.ο ζ η Tryz.func50 rfl rfl ?_
  refine Ω ?_ ?_
  ·exact ⟨rfl, trivial⟩
  ·exact ⟨rfl, rfl, rfl, rfl, rfl, rfl, rfl, rfl, rfl, rfl, rfl, trivial⟩
 | 8 =>
  refine aT ?_
  refine γ.ο ζ η Tryz.func50 rfl rfl ?_
  refine Ω ?_ ?_
  ·exact ⟨rfl, trivial⟩
  ·exact ⟨rfl, rfl, rfl, rfl, rfl, rfl, rfl, rfl, rfl, rfl, rfl, trivial⟩
 | 9 =>
  refine aT ?_
  refine γ.ο ζ η Tryz.func50 rfl rfl ?_
  refine Ω ?_ ?_
  ·exact ⟨rfl, trivial⟩
  ·exact ⟨rfl, rfl, rfl, rfl, rfl, rfl, rfl, rfl, rfl, rfl, rfl, trivial⟩
 | 10 =>
  refine aT ?_
  refine γ.ο ζ η Tryz.func50 rfl rfl ?_
  refine Ω ?_ ?_
  ·exact ⟨rfl, trivial⟩
  ·exact ⟨rfl, rfl, rfl, rfl, rfl, rfl, rfl, rfl, rfl, rfl, rfl, trivial⟩
 | k + 11 => omega
theorem lS (k : Nat) (hk : k < 11) {s : PS} (h : aJ s = true) : γ Tryz.prog 61 [qf k s] (tB k s.d) (fun v H => v = qf k s ∧ H = tB k s.d) := by
 have hr := A8 h
 obtain ⟨d, rest, a⟩ := s
 obtain rfl : rest = _ := hr
 match k with
 | 0 =>
  refine aT ?_
  refine γ.ο ζ η Tryz.func61 rfl rfl ?_
  refine fj (k := 0) (jO 0 (by decide) d _ _ ?hb 41) (by rfl) (by rfl) ?_
  case hb => simp [ω]
  refine Ω ?_ ?_
  ·exact ⟨rfl, trivial⟩
  ·exact ⟨rfl, rfl, rfl, rfl, rfl, rfl, rfl, rfl, rfl, rfl, rfl, trivial⟩
 | 1 =>
  refine aT ?_
  refine γ.ο ζ η Tryz.func61 rfl rfl ?_
  refine fj (k := 1) (jO 1 (by decide) d _ _ ?hb 41) (by rfl) (by rfl) ?_
  case hb => simp [ω]
  refine Ω ?_ ?_
  ·exact ⟨rfl, trivial⟩
  ·exact ⟨rfl, rfl, rfl, rfl, rfl, rfl, rfl, rfl, rfl, rfl, rfl, trivial⟩
 | 2 =>
  refine aT ?_
  refine γ.ο ζ η Tryz.func61 rfl rfl ?_
  refine fj (k := 2) (jO 2 (by decide) d _ _ ?hb 41) (by rfl) (by rfl) ?_
  case hb => simp [ω]
  refine Ω ?_ ?_
  ·exact ⟨rfl, trivial⟩
  ·exact ⟨rfl, rfl, rfl, rfl, rfl, rfl, rfl, rfl, rfl, rfl, rfl, trivial⟩
 | 3 =>
  refine aT ?_
  refine γ.ο ζ η Tryz.func61 rfl rfl ?_
  refine fj (k := 3) (jO 3 (by decide) d _ _ ?hb 41) (by rfl) (by rfl) ?_
  case hb => simp [ω]
  refine Ω ?_ ?_
  ·exact ⟨rfl, trivial⟩
  ·exact ⟨rfl, rfl, rfl, rfl, rfl, rfl, rfl, rfl, rfl, rfl, rfl, trivial⟩
 | 4 =>
  refine aT ?_
  refine γ.ο ζ η Tryz.func61 rfl rfl ?_
  refine fj (k := 4) (jO 4 (by decide) d _ _ ?hb 41) (by rfl) (by rfl) ?_
  case hb => simp [ω]
  refine Ω ?_ ?_
  ·exact ⟨rfl, trivial⟩
  ·exact ⟨rfl, rfl, rfl, rfl, rfl, rfl, rfl, rfl, rfl, rfl, rfl, trivial⟩
 | 5 =>
  refine aT ?_
  refine γ.ο ζ η Tryz.func61 rfl rfl ?_
  refine fj (k := 5) (jO 5 (by decide) d _ _ ?hb 41) (by rfl) (by rfl) ?_
  case hb => simp [ω]
  refine Ω ?_ ?_
  ·exact ⟨rfl, trivial⟩
  ·exact ⟨rfl, rfl, rfl, rfl, rfl, rfl, rfl, rfl, rfl, rfl, rfl, trivial⟩
 | 6 =>
  refine aT ?_
  refine γ.ο ζ η Tryz.func61 rfl rfl ?_
  refine fj (k := 6) (jO 6 (by decide) d _ _ ?hb 41) (by rfl) (by rfl) ?_
  case hb => simp [ω]
  refine Ω ?_ ?_
  ·exact ⟨rfl, trivial⟩
  ·exact ⟨rfl, rfl, rfl, rfl, rfl, rfl, rfl, rfl, rfl, rfl, rfl, trivial⟩
 | 7 =>
  refine aT ?_
  refine γ.ο ζ η Tryz.func61 rfl rfl ?_
  refine fj (k := 7) (jO 7 (by decide) d _ _ ?hb 41) (by rfl) (by rfl) ?_
  case hb => simp [ω]
  refine Ω ?_ ?_
  ·exact ⟨rfl, trivial⟩
  ·exact ⟨rfl, rfl, rfl, rfl, rfl, rfl, rfl, rfl, rfl, rfl, rfl, trivial⟩
 | 8 =>
  refine aT ?_
  refine γ.ο ζ η Tryz.func61 rfl rfl ?_
  refine fj (k := 8) (jO 8 (by decide) d _ _ ?hb 41) (by rfl) (by rfl) ?_
  case hb => simp [ω]
  refine Ω ?_ ?_
  ·exact ⟨rfl, trivial⟩
  ·exact ⟨rfl, rfl, rfl, rfl, rfl, rfl, rfl, rfl, rfl, rfl, rfl, trivial⟩
 | 9 =>
  refine aT ?_
  refine γ.ο ζ η Tryz.func61 rfl rfl ?_
  refine fj (k := 9) (jO 9 (by decide) d _ _ ?hb 41) (by rfl) (by rfl) ?_
  case hb => simp [ω]
  refine Ω ?_ ?_
  ·exact ⟨rfl, trivial⟩
  ·exact ⟨rfl, rfl, rfl, rfl, rfl, rfl, rfl, rfl, rfl, rfl, rfl, trivial⟩
 | 10 =>
  refine aT ?_
  refine γ.ο ζ η Tryz.func61 rfl rfl ?_
  refine fj (k := 10) (jO 10 (by decide) d _ _ ?hb 41) (by rfl) (by rfl) ?_
  case hb => simp [ω]
  refine Ω ?_ ?_
  ·exact ⟨rfl, trivial⟩
  ·exact ⟨rfl, rfl, rfl, rfl, rfl, rfl, rfl, rfl, rfl, rfl, rfl, trivial⟩
 | k + 11 => omega
theorem bO {s s' : PS} {k i : Nat} (h : bK s k = some (s', i)) : Ξ s s' := by
 obtain ⟨w, hw, _⟩ := m6 h
 exact aQ hw
theorem f_ {s : PS} {w : List Nat} (h : dR s w = true) : ∃ t r, s.rest = t :: r := by
 unfold dR at h
 split at h
 ·exact ⟨_, _, by assumption⟩
 ·cases h
theorem L6 {s s' : PS} (hs : cE s) (h : uO s = some s') : cZ 59 6 s s' := by
 unfold uO at h
 split at h
 ·cases h
 rename_i χ
 rw [Nat.blt_eq] at χ
 split at h
 ·cases h
 rename_i s1 m hm
 split at h
 ·cases h
 rename_i s2 c hc
 split at h
 ·cases h
 rename_i s3 r hr
 have f1 : Ξ s s1 := aQ hm
 have f2 : Ξ s s2 := f1.trans (bO hc)
 have f3 : Ξ s s3 := f2.trans (bO hr)
 have h1 := bo hm
 have h2 := dX (hs.same f1) (by decide) hc
 have h3 := dX (hs.same f2) (by decide) hr
 have hP := j4 s3 [101, 110, 100] _ rfl
 obtain ⟨d, r0, g⟩ := s
 obtain ⟨d1, r1, g1⟩ := s1
 obtain rfl : d = d1 := f1.1.symm
 obtain rfl : g = g1 := f1.2.symm
 obtain ⟨d2, r2, g2⟩ := s2
 obtain rfl : d = d2 := f2.1.symm
 obtain rfl : g = g2 := f2.2.symm
 obtain ⟨d3, r3, g3⟩ := s3
 obtain rfl : d = d3 := f3.1.symm
 obtain rfl : g = g3 := f3.2.symm
 have χ : d.uses.length < 128 := χ
 have bX : d.uses.length + 1 ≤ 100000 := by omega
 have rR : decide (((d.uses.length : Nat) : Int) ≥ 128) = false := decide_eq_false (by omega)
 unfold cZ
 simp only at h
 split at h
 ·rename_i hp
  have hp : dR ⟨d, r3, g⟩ [101, 110, 100] = true := hp
  rw [show List.map (fun x => UInt8.toNat x) [101, 110, 100] = [101, 110, 100] from rfl, hp] at hP
  obtain ⟨t0, r4, e4⟩ := f_ hp
  obtain rfl : r3 = _ := e4
  cases h
  cases AK : jA m [110, 111, 110, 101] with
  | true =>
   have AJ := j6 _ _ AK
   subst AJ
   refine aT ?_
   refine γ.ο ζ η Tryz.func59 rfl rfl ?_
   refine θ (Δ d _ _ rR 43) (by rfl) (by rfl) ?_
   refine θ h1 (by rfl) (by rfl) ?_
   refine θ h2 (by rfl) (by rfl) ?_
   refine θ h3 (by rfl) (by rfl) ?_
   refine θ hP (by rfl) (by rfl) ?_
   refine ε (fr _ _) ?_
   refine Or.inl (And.intro (List.length_map _).symm (ε (cg bX rfl) ?_))
   refine Ω ?_ ?_
   ·exact ⟨both (fun (n : Nat) (l : List T) => some (AV.agg [.t (.str d.name), .t (.int .i64 d.order), .sl 0 0 0 d.files.length, .sl 1 0 0 d.aa.length, .sl 2 0 0 d.flags.length, .sl 3 0 0 d.classes.length, .sl 4 0 0 d.forms.length, .sl 5 0 0 d.au.length, .sl 6 2 0 n, .sl 7 0 0 d.ar.length, .sl 8 0 0 d.macros.length, .sl 9 0 0 d.aR.length, .sl 10 0 0 d.aN.length, .t (.κ 4 l), .t (.κ 2 (g.map Φ)), .t (.int .i64 0)])) (bI d.uses ⟨[], (c : Int), (r : Int), true⟩) (jl (kB t0) (ω r4)), trivial⟩
   ·exact ⟨rfl, rfl, rfl, rfl, rfl, rfl, bM fE d.uses ⟨[], (c : Int), (r : Int), true⟩, rfl, rfl, rfl, rfl, trivial⟩
  | false =>
   refine aT ?_
   refine γ.ο ζ η Tryz.func59 rfl rfl ?_
   refine θ (Δ d _ _ rR 43) (by rfl) (by rfl) ?_
   refine θ h1 (by rfl) (by rfl) ?_
   refine U (fun c => absurd c (by have := wG [110, 111, 110, 101] m; rw [show List.map (fun x => UInt8.toNat x) [110, 111, 110, 101] = [110, 111, 110, 101] from rfl, AK] at this; rw [← this]; decide)) (fun _ => ?_)
   refine θ h2 (by rfl) (by rfl) ?_
   refine θ h3 (by rfl) (by rfl) ?_
   refine θ hP (by rfl) (by rfl) ?_
   refine ε (fr _ _) ?_
   refine Or.inl (And.intro (List.length_map _).symm (ε (cg bX rfl) ?_))
   refine Ω ?_ ?_
   ·exact ⟨both (fun (n : Nat) (l : List T) => some (AV.agg [.t (.str d.name), .t (.int .i64 d.order), .sl 0 0 0 d.files.length, .sl 1 0 0 d.aa.length, .sl 2 0 0 d.flags.length, .sl 3 0 0 d.classes.length, .sl 4 0 0 d.forms.length, .sl 5 0 0 d.au.length, .sl 6 2 0 n, .sl 7 0 0 d.ar.length, .sl 8 0 0 d.macros.length, .sl 9 0 0 d.aR.length, .sl 10 0 0 d.aN.length, .t (.κ 4 l), .t (.κ 2 (g.map Φ)), .t (.int .i64 0)])) (bI d.uses ⟨m, (c : Int), (r : Int), true⟩) (jl (kB t0) (ω r4)), trivial⟩
   ·exact ⟨rfl, rfl, rfl, rfl, rfl, rfl, bM fE d.uses ⟨m, (c : Int), (r : Int), true⟩, rfl, rfl, rfl, rfl, trivial⟩
 ·rename_i hp
  have hp : dR ⟨d, r3, g⟩ [101, 110, 100] = false := hp
  rw [show List.map (fun x => UInt8.toNat x) [101, 110, 100] = [101, 110, 100] from rfl, hp] at hP
  cases h
  cases AK : jA m [110, 111, 110, 101] with
  | true =>
   have AJ := j6 _ _ AK
   subst AJ
   refine aT ?_
   refine γ.ο ζ η Tryz.func59 rfl rfl ?_
   refine θ (Δ d _ _ rR 43) (by rfl) (by rfl) ?_
   refine θ h1 (by rfl) (by rfl) ?_
   refine θ h2 (by rfl) (by rfl) ?_
   refine θ h3 (by rfl) (by rfl) ?_
   refine θ hP (by rfl) (by rfl) ?_
   refine Or.inl (And.intro (List.length_map _).symm (ε (cg bX rfl) ?_))
   refine Ω ?_ ?_
   ·exact ⟨congrArg (fun n : Nat => some (AV.agg [.t (.str d.name), .t (.int .i64 d.order), .sl 0 0 0 d.files.length, .sl 1 0 0 d.aa.length, .sl 2 0 0 d.flags.length, .sl 3 0 0 d.classes.length, .sl 4 0 0 d.forms.length, .sl 5 0 0 d.au.length, .sl 6 2 0 n, .sl 7 0 0 d.ar.length, .sl 8 0 0 d.macros.length, .sl 9 0 0 d.aR.length, .sl 10 0 0 d.aN.length, .t (.κ 4 (ω r3)), .t (.κ 2 (g.map Φ)), .t (.int .i64 0)])) (bI d.uses ⟨[], (c : Int), (r : Int), false⟩), trivial⟩
   ·exact ⟨rfl, rfl, rfl, rfl, rfl, rfl, bM fE d.uses ⟨[], (c : Int), (r : Int), false⟩, rfl, rfl, rfl, rfl, trivial⟩
  | false =>
   refine aT ?_
   refine γ.ο ζ η Tryz.func59 rfl rfl ?_
   refine θ (Δ d _ _ rR 43) (by rfl) (by rfl) ?_
   refine θ h1 (by rfl) (by rfl) ?_
   refine U (fun c => absurd c (by have := wG [110, 111, 110, 101] m; rw [show List.map (fun x => UInt8.toNat x) [110, 111, 110, 101] = [110, 111, 110, 101] from rfl, AK] at this; rw [← this]; decide)) (fun _ => ?_)
   refine θ h2 (by rfl) (by rfl) ?_
   refine θ h3 (by rfl) (by rfl) ?_
   refine θ hP (by rfl) (by rfl) ?_
   refine Or.inl (And.intro (List.length_map _).symm (ε (cg bX rfl) ?_))
   refine Ω ?_ ?_
   ·exact ⟨congrArg (fun n : Nat => some (AV.agg [.t (.str d.name), .t (.int .i64 d.order), .sl 0 0 0 d.files.length, .sl 1 0 0 d.aa.length, .sl 2 0 0 d.flags.length, .sl 3 0 0 d.classes.length, .sl 4 0 0 d.forms.length, .sl 5 0 0 d.au.length, .sl 6 2 0 n, .sl 7 0 0 d.ar.length, .sl 8 0 0 d.macros.length, .sl 9 0 0 d.aR.length, .sl 10 0 0 d.aN.length, .t (.κ 4 (ω r3)), .t (.κ 2 (g.map Φ)), .t (.int .i64 0)])) (bI d.uses ⟨m, (c : Int), (r : Int), false⟩), trivial⟩
   ·exact ⟨rfl, rfl, rfl, rfl, rfl, rfl, bM fE d.uses ⟨m, (c : Int), (r : Int), false⟩, rfl, rfl, rfl, rfl, trivial⟩
end Go.Proofs.YtcogcbplmkcojaaGreatDoor
namespace Go.Proofs.YtcogcbplmkcojaaGreatDoor
open Go.IntWalk
set_option maxRecDepth 100000
set_option linter.unusedVariables false
set_option linter.unusedSimpArgs false
set_option maxHeartbeats 4000000
def yf : Ord := (.op 0 [] (.op 2 [0] (.op 1 [2, 0] (.op 3 [0] (.op 4 [0] (.op 5 [0] (.op 7 [0] (.op 6 [7, 0] (.op 8 [0] (.op 9 [0] (.op 10 [0] (.op 11 [] (.op 12 [] .nil)))))))))))))
theorem cu {s s' : PS} {n : Int} (h : cd s = some (s', n)) : Ξ s s' := by
 obtain ⟨r, _, rfl, _⟩ := pQ h
 exact ⟨rfl, rfl⟩
theorem FZ {s s' : PS} {n : Int} (h : kS s = some (s', n)) : Ξ s s' := by
 obtain ⟨r, _, rfl⟩ := iH h
 exact ⟨rfl, rfl⟩
theorem xf {s s' : PS} {w : List UInt8} (h : pG s = some (s', w)) : Ξ s s' := by
 obtain ⟨r, _, rfl⟩ := lu h
 exact ⟨rfl, rfl⟩
theorem bG {s s' : PS} {k : Nat} {w : List UInt8} (h : dm s k = some (s', w)) : Ξ s s' := aQ (cP h).1
theorem γ.GP {P : Program} {f : FuncId} {args args' : List AV} {H : AH} {Q : AV → AH → Prop} (e : args = args') (h : γ P f args' H Q) : γ P f args H Q := e ▸ h
theorem yq {w : List UInt8} {L : List (List UInt8)} {M : List (List Nat)} (hM : L.map (fun v => v.map (·.toNat)) = M) (h : cH w 0 M = none) : fT w L = -1 := by
 unfold fT; rw [← mE, hM, h]
theorem ua {f : FuncId} {d : τ} {x : T} {r a : List T} {more : List AV} {X : AV} {H : AH} {Q : AV → AH → Prop} (h : γ Tryz.prog f (.agg (ec d r a) :: more) (dH d) (fun r H' => r = X ∧ H' = dH d)) (e : H.take 11 = dH d) (ha : more.all (sW 11) = true) (k : Q X H) : γ Tryz.prog f (.agg (ec d (((x :: r).drop 1).take ((x :: r).length - 1)) a) :: more) H Q := by
 rw [jl]
 refine θ h e ?_ k
 rw [List.all_cons, ha]; rfl
theorem LC {s s' : PS} (hs : cE s) (h : rV s = some s') : cZ 51 0 s s' := by
 unfold rV at h
 split at h
 ·cases h
 rename_i s0 name hn
 split at h
 ·cases h
 rename_i ho
 split at h
 ·cases h
 rename_i hh
 split at h
 ·cases h
 rename_i s1 nm hf
 split at h
 ·cases h
 rename_i s2 count hc
 split at h
 ·cases h
 rename_i s3 width hw
 have f0 : Ξ s s0 := aQ hn
 have f1 : Ξ s s1 := bG hf
 have f2 : Ξ s s2 := f1.trans (cu hc)
 have f3 : Ξ s s3 := f2.trans (cu hw)
 have h0 := bo hn
 have h1 := fw hs (by decide) hf
 have h2 := cS hc
 have h3 := cS hw
 have hP := j4 s3 [122, 101, 114, 111] _ rfl
 have χ : s.d.files.length + 1 ≤ 100000 := by
  have := (cP hf).2.2
  have : s1.d.files.length < 8 := by simpa [bE, dS] using this
  rw [f1.1] at this
  omega
 have hX := cx sO name (by decide)
 rw [yq z9 ho] at hX
 have hY := cx qP name (by decide)
 rw [yq AQ hh] at hY
 obtain ⟨d, r0, g⟩ := s
 obtain ⟨d0, rz, g0⟩ := s0
 obtain rfl : d = d0 := f0.1.symm
 obtain rfl : g = g0 := f0.2.symm
 obtain ⟨d1, r1, g1⟩ := s1
 obtain rfl : d = d1 := f1.1.symm
 obtain rfl : g = g1 := f1.2.symm
 obtain ⟨d2, r2, g2⟩ := s2
 obtain rfl : d = d2 := f2.1.symm
 obtain rfl : g = g2 := f2.2.symm
 obtain ⟨d3, r3, g3⟩ := s3
 obtain rfl : d = d3 := f3.1.symm
 obtain rfl : g = g3 := f3.2.symm
 have χ : d.files.length + 1 ≤ 100000 := χ
 unfold cZ
 split at h
 ·rename_i hp
  have hp : dR ⟨d, r3, g⟩ [122, 101, 114, 111] = true := hp
  rw [show List.map (fun x => UInt8.toNat x) [122, 101, 114, 111] = [122, 101, 114, 111] from rfl, hp] at hP
  obtain ⟨t0, r4, e4⟩ := f_ hp
  obtain rfl : r3 = _ := e4
  split at h
  rotate_left 1
  ·cases h
  rename_i s5 z hz
  cases h
  have hz : cd ⟨d, r4, g⟩ = some (s5, z) := hz
  have h5 := cS hz
  have f5 : Ξ ⟨d, r4, g⟩ s5 := cu hz
  obtain ⟨d5, r5, g5⟩ := s5
  obtain rfl : d = d5 := f5.1.symm
  obtain rfl : g = g5 := f5.2.symm
  refine aT ?_
  refine γ.ο ζ η Tryz.func51 rfl rfl ?_
  refine θ h0 (by rfl) (by rfl) ?_
  refine υ yf (by decide +kernel) ?_
  refine γ.pure rH rfl ?_
  refine And.intro (fun j hj => ψ.append _ _ _) ?_
  refine γ.bU hX rfl ⟨iQ 1 _, .refl _, trivial⟩ rfl ?_
  refine And.intro (fun j hj => ψ.refl _ _) ?_
  refine γ.pure rQ rfl ?_
  refine And.intro (fun j hj => ψ.append _ _ _) ?_
  refine γ.bU hY rfl ⟨iQ 1 _, .refl _, trivial⟩ rfl ?_
  refine And.intro (fun j hj => ψ.refl _ _) ?_
  refine θ (Δ d _ _ rfl 42) (by rfl) (by rfl) ?_
  refine And.intro (fun j hj => by cases hj) ?_
  refine And.intro (fun j hj => by cases hj) ?_
  refine θ h1 (by rfl) (by rfl) ?_
  refine θ h2 (by rfl) (by rfl) ?_
  refine θ h3 (by rfl) (by rfl) ?_
  refine θ hP (by rfl) (by rfl) ?_
  refine ε (fr _ _) ?_
  refine ua h5 (by rfl) rfl ?_
  refine Or.inl (And.intro (List.length_map _).symm (ε (cg χ rfl) ?_))
  refine Ω ?_ ?_
  ·exact ⟨congrArg (fun n : Nat => some (AV.agg [.t (.str d.name), .t (.int .i64 d.order), .sl 0 2 0 n, .sl 1 0 0 d.aa.length, .sl 2 0 0 d.flags.length, .sl 3 0 0 d.classes.length, .sl 4 0 0 d.forms.length, .sl 5 0 0 d.au.length, .sl 6 0 0 d.uses.length, .sl 7 0 0 d.ar.length, .sl 8 0 0 d.macros.length, .sl 9 0 0 d.aR.length, .sl 10 0 0 d.aN.length, .t (.κ 4 (ω r5)), .t (.κ 2 (g.map Φ)), .t (.int .i64 0)])) (bI d.files ⟨nm, count, width, z⟩), trivial⟩
  ·exact ⟨bM dz d.files ⟨nm, count, width, z⟩, rfl, rfl, rfl, rfl, rfl, rfl, rfl, rfl, rfl, rfl, trivial⟩
 ·rename_i hp
  have hp : dR ⟨d, r3, g⟩ [122, 101, 114, 111] = false := hp
  rw [show List.map (fun x => UInt8.toNat x) [122, 101, 114, 111] = [122, 101, 114, 111] from rfl, hp] at hP
  cases h
  refine aT ?_
  refine γ.ο ζ η Tryz.func51 rfl rfl ?_
  refine θ h0 (by rfl) (by rfl) ?_
  refine υ yf (by decide +kernel) ?_
  refine γ.pure rH rfl ?_
  refine And.intro (fun j hj => ψ.append _ _ _) ?_
  refine γ.bU hX rfl ⟨iQ 1 _, .refl _, trivial⟩ rfl ?_
  refine And.intro (fun j hj => ψ.refl _ _) ?_
  refine γ.pure rQ rfl ?_
  refine And.intro (fun j hj => ψ.append _ _ _) ?_
  refine γ.bU hY rfl ⟨iQ 1 _, .refl _, trivial⟩ rfl ?_
  refine And.intro (fun j hj => ψ.refl _ _) ?_
  refine θ (Δ d _ _ rfl 42) (by rfl) (by rfl) ?_
  refine And.intro (fun j hj => by cases hj) ?_
  refine And.intro (fun j hj => by cases hj) ?_
  refine θ h1 (by rfl) (by rfl) ?_
  refine θ h2 (by rfl) (by rfl) ?_
  refine θ h3 (by rfl) (by rfl) ?_
  refine θ hP (by rfl) (by rfl) ?_
  refine Or.inl (And.intro (List.length_map _).symm (ε (cg χ rfl) ?_))
  refine Ω ?_ ?_
  ·exact ⟨congrArg (fun n : Nat => some (AV.agg [.t (.str d.name), .t (.int .i64 d.order), .sl 0 2 0 n, .sl 1 0 0 d.aa.length, .sl 2 0 0 d.flags.length, .sl 3 0 0 d.classes.length, .sl 4 0 0 d.forms.length, .sl 5 0 0 d.au.length, .sl 6 0 0 d.uses.length, .sl 7 0 0 d.ar.length, .sl 8 0 0 d.macros.length, .sl 9 0 0 d.aR.length, .sl 10 0 0 d.aN.length, .t (.κ 4 (ω r3)), .t (.κ 2 (g.map Φ)), .t (.int .i64 0)])) (bI d.files ⟨nm, count, width, -1⟩), trivial⟩
  ·exact ⟨bM dz d.files ⟨nm, count, width, -1⟩, rfl, rfl, rfl, rfl, rfl, rfl, rfl, rfl, rfl, rfl, trivial⟩
end Go.Proofs.YtcogcbplmkcojaaGreatDoor
namespace Go.Proofs.YtcogcbplmkcojaaGreatDoor
open Go.IntWalk
set_option maxRecDepth 100000
set_option linter.unusedVariables false
set_option linter.unusedSimpArgs false
set_option maxHeartbeats 4000000
theorem iP {k0 : Nat} {env : List (Nat × AV)} {H : AH} (b i : Nat) {cs : List AV} (e s : Nat) (hb : H[b]? = some (.box cs)) (hi : cs[i]? = some (.t .av)) : aX k0 ⟨env, H⟩ ⟨env, H.set b (.box (cs.set i (.sl H.length 0 0 0))) ++ [.arr e s true 0 (.ts [])]⟩ := by
 refine aX.trans (HX (.arr e s true 0 (.ts []))) ?_
 have χ : b < H.length := (List.getElem?_eq_some_iff.1 hb).1
 refine kN [] (by simp) (fun b' az aC => .inr ⟨by simp, ?_⟩) (fun t => .inr (.same _))
 replace aC : (H.set b (.box (cs.set i (.sl H.length 0 0 0))) ++ [Ψ.arr e s true 0 (.ts [])])[b']? = some az := aC
 show ∃ ν, (H ++ [Ψ.arr e s true 0 (.ts [])])[b']? = some ν ∧ _
 by_cases h1 : b' < H.length
 ·rw [List.getElem?_append_left (by simpa using h1), List.getElem?_set] at aC
  rw [List.getElem?_append_left h1]
  split at aC
  ·rename_i e1
   subst e1
   obtain rfl := Option.some.inj aC
   refine ⟨_, hb, .box _ _ (by simp) fun j x x' hx aP => ?_⟩
   rw [List.getElem?_set] at aP
   split at aP
   ·rename_i e2
    subst e2
    split at aP
    ·obtain rfl := Option.some.inj aP
     rw [hi] at hx
     obtain rfl := Option.some.inj hx
     refine .nil _ e s ?_
     rw [List.getElem?_append_right (by simp)]
     simp
    ·cases aP
   ·rw [hx] at aP
    obtain rfl := Option.some.inj aP
    exact .same _
  ·exact ⟨az, aC, .same _⟩
 ·rw [List.getElem?_append_right (by simp; omega)] at aC
  rw [List.getElem?_append_right (by omega)]
  simp only [List.length_set] at aC
  exact ⟨az, aC, .same _⟩
def gw (b : Nat) (new : Ψ) (ids : List Nat) : Nat → AH → AH
 | _, [] => []
 | i, x :: r => (match Nat.beq i b with | true => new | false => match ids.any (Nat.beq i) with | true => .dead | false => x) :: gw b new ids (i + 1) r
theorem ny (b : Nat) (new : Ψ) (ids : List Nat) : ∀ (H : AH) (i j : Nat), (gw b new ids i H)[j]? = H[j]?.map fun x => match Nat.beq (i + j) b with | true => new | false => match ids.any (Nat.beq (i + j)) with | true => .dead | false => x
 | [], i, j => by simp [gw]
 | x :: r, i, 0 => by simp [gw]
 | x :: r, i, j + 1 => by
  rw [gw, List.getElem?_cons_succ, List.getElem?_cons_succ, ny b new ids r (i + 1) j, show i + 1 + j = i + (j + 1) by omega]
theorem nx (b : Nat) (new : Ψ) (ids : List Nat) : ∀ (H : AH) (i : Nat), (gw b new ids i H).length = H.length
 | [], i => rfl
 | x :: r, i => by simp [gw, nx b new ids r]
theorem gI {k0 : Nat} {env : List (Nat × AV)} {H : AH} (b : Nat) (ids : List Nat) {e s : Nat} {z : Bool} {g : Nat} {A : List T} {cs : List AV} (ts : List T) (hb : H[b]? = some (.arr e s z g (.vs (A.map .t ++ [.agg cs])))) (Nb : ids.any (Nat.beq b) = false) (hl : ts.length = cs.length)
 (h : ∀ (j : Nat) y t, cs[j]? = some y → ts[j]? = some t → et ids H (gw b (.arr e s z g (.ts (A ++ [.agg ts]))) ids 0 H) y (.t t)) : aX k0 ⟨env, H⟩ ⟨env, gw b (.arr e s z g (.ts (A ++ [.agg ts]))) ids 0 H⟩ := by
 have I9 : b ∉ ids := fun hm => by
  have := List.any_eq_false.1 Nb b hm
  simp at this
 refine kN ids (nx _ _ _ _ _) (fun b' az aC => ?_) (fun t => .inr (.same _))
 have aC : (gw b (.arr e s z g (.ts (A ++ [.agg ts]))) ids 0 H)[b']? = some az := aC
 rw [ny, Nat.zero_add, Option.map_eq_some_iff] at aC
 obtain ⟨x, hx, aP⟩ := aC
 split at aP
 ·rename_i e1
  obtain rfl := Nat.eq_of_beq_eq_true e1
  subst aP
  exact .inr ⟨I9, _, hb, Jo e s z g A cs ts hl h⟩
 ·split at aP
  ·exact .inl aP.symm
  ·rename_i e2
   subst aP
   refine .inr ⟨fun hm => ?_, x, hx, .same _⟩
   have := List.any_eq_false.1 e2 b' hm
   simp at this
def pt (d : τ) (l : AH) : AH := dH d ++ l
def gU : T → List T | .agg l => l | _ => []
theorem IS {s s' : PS} (hs : cE s) (h : oX s = some s') : cZ 57 8 s s' := by
 unfold oX at h
 split at h
 ·cases h
 rename_i χ
 rw [Nat.blt_eq] at χ
 split at h
 ·cases h
 rename_i s1 ea AA
 obtain ⟨q1, e1, rfl⟩ := lu AA
 obtain ⟨d, r0, g⟩ := s
 obtain rfl : r0 = _ := e1
 have χ : d.macros.length < 32 := χ
 have M1 : d.macros.length + 1 ≤ 100000 := by omega
 have rR : decide (((d.macros.length : Nat) : Int) ≥ 32) = false := decide_eq_false (by omega)
 have dd : cE ⟨d, q1, g⟩ := hs.same ⟨rfl, rfl⟩
 have hP := j4 ⟨d, q1, g⟩ [110, 111, 110, 101] _ rfl
 simp only at h
 unfold cZ
 split at h
 ·cases h
 rename_i s2 rel mF
 split at mF
 ·rename_i hp
  cases mF
  rw [show List.map (fun x => UInt8.toNat x) [110, 111, 110, 101] = [110, 111, 110, 101] from rfl, hp] at hP
  obtain ⟨t0, q2, e2⟩ := f_ hp
  obtain rfl : q1 = _ := e2
  split at h
  ·cases h
  rename_i s3 rest aG
  split at h
  ·cases h
  rename_i s4 lines sm
  cases h
  have h3 := bV aG
  obtain ⟨q3, e3, rfl⟩ := aH aG
  refine aT ?_
  refine γ.ο ζ η Tryz.func57 rfl rfl ?_
  refine θ (Δ d _ _ rR 43) (by rfl) (by rfl) ?_
  refine θ (dj d 3 ea 0 [] _ (g.map Φ) (.inr rfl)) (by rfl) (by rfl) ?_
  refine θ hP (by rfl) (by rfl) ?_
  refine ε (fr _ _) ?_
  refine ua h3 (by rfl) rfl ?_
  refine ak (fun x : Nat × List ay × List (List UInt8) => jg x.1 ⟨d, x.2.1, g⟩ x.2.2 = some (s4, lines)) (fun x : Nat × List ay × List (List UInt8) => ⟨[(1, .ptr 11 0 0 0), (2, .ptr 12 0 0 0), (3, .ptr 13 0 0 0), (5, .t (.κ 4 (ω rest)))], dH d ++ [.box (ec d (ω x.2.1) (g.map Φ)), .box cQ, .box [.t (.str ea), .t (.int .i64 (-1)), .sl 14 0 0 x.2.2.length], .arr 9 1 true 0 (.ts (x.2.2.map T.str))]⟩) (fun x => x.1) (10, q3, []) sm ?_ (fun ⟨n, R, L⟩ hx => ?_)
  ·refine aX.trans (π (s' := ⟨[(1, .ptr 11 0 0 0), (2, .ptr 12 0 0 0), (3, .ptr 13 0 0 0), (5, .t (.κ 4 (ω rest)))], pt d [.box (ec d (ω q3) (g.map Φ)), .box cQ, .box [.t (.str ea), .t (.int .i64 (-1)), .t .av]]⟩) [0, 1, 2, 3, 4, 5, 6, 7, 8, 9, 10, 11, 12, 13] rfl ⟨rfl, rfl, rfl, rfl, trivial⟩ ⟨rfl, rfl, rfl, rfl, rfl, rfl, rfl, rfl, rfl, rfl, rfl, rfl, rfl, rfl, trivial⟩) ?_
   exact iP (cs := [.t (.str ea), .t (.int .i64 (-1)), .t .av]) 13 2 _ _ rfl rfl
  have hx : jg n ⟨d, R, g⟩ L = some (s4, lines) := hx
  cases n with
  | zero => cases hx
  | succ n =>
   unfold jg at hx
   cases R with
   | nil =>
    cases hx
    refine Or.inl (And.intro (List.length_map _).symm (ε (cg M1 rfl) ?_))
    refine aX.trans (gI 8 [14] (A := d.macros.map db) (gU (db ⟨ea, (-1), lines⟩)) rfl rfl rfl (fun j y t hy ht => by
     match j, hy, ht with
     | 0, hy, ht => cases hy; cases ht; exact .same _
     | 1, hy, ht => cases hy; cases ht; exact .same _
     | 2, hy, ht => cases hy; cases ht; exact .ff _ _ _ [14] 32 rfl (.of_eq (congrArg (T.κ _) (by rw [List.drop_zero]; exact List.take_of_length_le (by simp)))) (fun b hb => hb)
     | j + 3, hy, ht => cases hy)) ?_
    refine Ω ?_ ?_
    ·exact ⟨congrArg (fun n : Nat => some (AV.agg [.t (.str d.name), .t (.int .i64 d.order), .sl 0 0 0 d.files.length, .sl 1 0 0 d.aa.length, .sl 2 0 0 d.flags.length, .sl 3 0 0 d.classes.length, .sl 4 0 0 d.forms.length, .sl 5 0 0 d.au.length, .sl 6 0 0 d.uses.length, .sl 7 0 0 d.ar.length, .sl 8 2 0 n, .sl 9 0 0 d.aR.length, .sl 10 0 0 d.aN.length, .t (.κ 4 (ω rest)), .t (.κ 2 (g.map Φ)), .t (.int .i64 0)])) (bI d.macros ⟨ea, (-1), lines⟩), trivial⟩
    ·exact ⟨rfl, rfl, rfl, rfl, rfl, rfl, rfl, rfl, bM db d.macros ⟨ea, (-1), lines⟩, rfl, rfl, trivial⟩
   | cons t0 R0 =>
    have hx : (match pG ⟨d, t0 :: R0, g⟩ with | some (s, w) => (match Nat.blt L.length 8 with | true => jg n s (L ++ [w]) | false => none) | none => none) = some (s4, lines) := hx
    split at hx
    rotate_left 1
    ·cases hx
    rename_i s5 w hw
    split at hx
    rotate_left 1
    ·cases hx
    rename_i pi
    rw [Nat.blt_eq] at pi
    obtain ⟨q5, e5, rfl⟩ := lu hw
    obtain ⟨rfl, rfl⟩ := List.cons.inj e5
    have pn : decide (((L.length : Nat) : Int) ≥ 8) = false := decide_eq_false (by omega)
    refine U (fun c => ?_) (fun c => absurd (eI.symm.trans c) (by decide))
    refine θ (dj d 3 w 0 [] (ω R0) (g.map Φ) (.inr rfl)) (by rfl) (by rfl) ?_
    refine θ (Δ d _ _ pn 43) (by rfl) (by rfl) ?_
    refine Or.inl (And.intro (List.length_map _).symm (ε (cg (n := L.length + 1) (by omega) rfl) ?_))
    conv => whnf
    exact ⟨⟨(n, R0, L ++ [w]), hx⟩, π [0, 1, 2, 3, 4, 5, 6, 7, 8, 9, 10, 11, 12, 13, 14] rfl ⟨rfl, rfl, rfl, rfl, trivial⟩ ⟨rfl, rfl, rfl, rfl, rfl, rfl, rfl, rfl, rfl, rfl, rfl, rfl, rfl, congrArg (fun m : Nat => some (Ψ.box [.t (.str ea), .t (.int .i64 (-1)), .sl 14 0 0 m])) (bI L w), bM T.str L w, trivial⟩, Nat.lt_succ_self n⟩
 ·rename_i hp
  split at mF
  rotate_left 1
  ·cases mF
  rename_i s9 i9 Pg
  cases mF
  have hK := dX dd (by decide) Pg
  have f9 : Ξ ⟨d, q1, g⟩ s2 := bO Pg
  obtain ⟨d9, r9, g9⟩ := s2
  obtain rfl : d = d9 := f9.1.symm
  obtain rfl : g = g9 := f9.2.symm
  rw [show List.map (fun x => UInt8.toNat x) [110, 111, 110, 101] = [110, 111, 110, 101] from rfl, hp] at hP
  split at h
  ·cases h
  rename_i s3 rest aG
  split at h
  ·cases h
  rename_i s4 lines sm
  cases h
  have h3 := bV aG
  obtain ⟨q3, e3, rfl⟩ := aH aG
  refine aT ?_
  refine γ.ο ζ η Tryz.func57 rfl rfl ?_
  refine θ (Δ d _ _ rR 43) (by rfl) (by rfl) ?_
  refine θ (dj d 3 ea 0 [] (ω q1) (g.map Φ) (.inr rfl)) (by rfl) (by rfl) ?_
  refine θ hP (by rfl) (by rfl) ?_
  refine θ hK (by rfl) (by rfl) ?_
  refine θ h3 (by rfl) (by rfl) ?_
  refine ak (fun x : Nat × List ay × List (List UInt8) => jg x.1 ⟨d, x.2.1, g⟩ x.2.2 = some (s4, lines)) (fun x : Nat × List ay × List (List UInt8) => ⟨[(1, .ptr 11 0 0 0), (2, .ptr 12 0 0 0), (3, .ptr 13 0 0 0), (5, .t (.κ 4 (ω rest)))], dH d ++ [.box (ec d (ω x.2.1) (g.map Φ)), .box cQ, .box [.t (.str ea), .t (.int .i64 (i9 : Int)), .sl 14 0 0 x.2.2.length], .arr 9 1 true 0 (.ts (x.2.2.map T.str))]⟩) (fun x => x.1) (10, q3, []) sm ?_ (fun ⟨n, R, L⟩ hx => ?_)
  ·refine aX.trans (π (s' := ⟨[(1, .ptr 11 0 0 0), (2, .ptr 12 0 0 0), (3, .ptr 13 0 0 0), (5, .t (.κ 4 (ω rest)))], pt d [.box (ec d (ω q3) (g.map Φ)), .box cQ, .box [.t (.str ea), .t (.int .i64 (i9 : Int)), .t .av]]⟩) [0, 1, 2, 3, 4, 5, 6, 7, 8, 9, 10, 11, 12, 13] rfl ⟨rfl, rfl, rfl, rfl, trivial⟩ ⟨rfl, rfl, rfl, rfl, rfl, rfl, rfl, rfl, rfl, rfl, rfl, rfl, rfl, rfl, trivial⟩) ?_
   exact iP (cs := [.t (.str ea), .t (.int .i64 (i9 : Int)), .t .av]) 13 2 _ _ rfl rfl
  have hx : jg n ⟨d, R, g⟩ L = some (s4, lines) := hx
  cases n with
  | zero => cases hx
  | succ n =>
   unfold jg at hx
   cases R with
   | nil =>
    cases hx
    refine Or.inl (And.intro (List.length_map _).symm (ε (cg M1 rfl) ?_))
    refine aX.trans (gI 8 [14] (A := d.macros.map db) (gU (db ⟨ea, (i9 : Int), lines⟩)) rfl rfl rfl (fun j y t hy ht => by
     match j, hy, ht with
     | 0, hy, ht => cases hy; cases ht; exact .same _
     | 1, hy, ht => cases hy; cases ht; exact .same _
     | 2, hy, ht => cases hy; cases ht; exact .ff _ _ _ [14] 32 rfl (.of_eq (congrArg (T.κ _) (by rw [List.drop_zero]; exact List.take_of_length_le (by simp)))) (fun b hb => hb)
     | j + 3, hy, ht => cases hy)) ?_
    refine Ω ?_ ?_
    ·exact ⟨congrArg (fun n : Nat => some (AV.agg [.t (.str d.name), .t (.int .i64 d.order), .sl 0 0 0 d.files.length, .sl 1 0 0 d.aa.length, .sl 2 0 0 d.flags.length, .sl 3 0 0 d.classes.length, .sl 4 0 0 d.forms.length, .sl 5 0 0 d.au.length, .sl 6 0 0 d.uses.length, .sl 7 0 0 d.ar.length, .sl 8 2 0 n, .sl 9 0 0 d.aR.length, .sl 10 0 0 d.aN.length, .t (.κ 4 (ω rest)), .t (.κ 2 (g.map Φ)), .t (.int .i64 0)])) (bI d.macros ⟨ea, (i9 : Int), lines⟩), trivial⟩
    ·exact ⟨rfl, rfl, rfl, rfl, rfl, rfl, rfl, rfl, bM db d.macros ⟨ea, (i9 : Int), lines⟩, rfl, rfl, trivial⟩
   | cons t0 R0 =>
    have hx : (match pG ⟨d, t0 :: R0, g⟩ with | some (s, w) => (match Nat.blt L.length 8 with | true => jg n s (L ++ [w]) | false => none) | none => none) = some (s4, lines) := hx
    split at hx
    rotate_left 1
    ·cases hx
    rename_i s5 w hw
    split at hx
    rotate_left 1
    ·cases hx
    rename_i pi
    rw [Nat.blt_eq] at pi
    obtain ⟨q5, e5, rfl⟩ := lu hw
    obtain ⟨rfl, rfl⟩ := List.cons.inj e5
    have pn : decide (((L.length : Nat) : Int) ≥ 8) = false := decide_eq_false (by omega)
    refine U (fun c => ?_) (fun c => absurd (eI.symm.trans c) (by decide))
    refine θ (dj d 3 w 0 [] (ω R0) (g.map Φ) (.inr rfl)) (by rfl) (by rfl) ?_
    refine θ (Δ d _ _ pn 43) (by rfl) (by rfl) ?_
    refine Or.inl (And.intro (List.length_map _).symm (ε (cg (n := L.length + 1) (by omega) rfl) ?_))
    conv => whnf
    exact ⟨⟨(n, R0, L ++ [w]), hx⟩, π [0, 1, 2, 3, 4, 5, 6, 7, 8, 9, 10, 11, 12, 13, 14] rfl ⟨rfl, rfl, rfl, rfl, trivial⟩ ⟨rfl, rfl, rfl, rfl, rfl, rfl, rfl, rfl, rfl, rfl, rfl, rfl, rfl, congrArg (fun m : Nat => some (Ψ.box [.t (.str ea), .t (.int .i64 (i9 : Int)), .sl 14 0 0 m])) (bI L w), bM T.str L w, trivial⟩, Nat.lt_succ_self n⟩
end Go.Proofs.YtcogcbplmkcojaaGreatDoor
