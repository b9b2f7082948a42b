/-
  The bits of a form's pattern (walk).
-/
import Derived.Test.YtcogcbplmkcojaaGreatDoorHi
namespace Go.Proofs.YtcogcbplmkcojaaGreatDoor
open Go.IntWalk
set_option maxRecDepth 100000
set_option linter.unusedVariables false
set_option linter.unusedSimpArgs false
set_option maxHeartbeats 1000000
def Ft : Ord := (.op 0 [] (.op 1 [] (.op 2 [1, 0] (.op 3 [1, 0] (.op 4 [1, 0] (.op 5 [] (.op 6 [] (.op 7 [] (.op 8 [] (.op 9 [] (.op 10 [] (.op 11 [] (.op 12 [] (.op 13 [] (.op 14 [] (.op 15 [14, 13] (.op 16 [14, 13] (.op 17 [] (.op 18 [] (.op 19 [] (.op 20 [] (.op 21 [] (.op 22 [21, 20] (.op 23 [21, 20] (.op 24 [21, 20] (.op 25 [24, 23, 22, 21, 20] (.op 26 [24, 23, 22, 21, 20] (.op 27 [26, 25, 24, 23, 22, 21, 20] (.op 28 [26, 25, 24, 23, 22, 21, 20] (.op 29 [24, 23, 22, 21, 20] (.op 30 [24, 23, 22, 21, 20] (.op 31 [24, 23, 22, 21, 20] (.op 32 [21, 20] (.op 33 [21, 20] (.op 34 [21, 20] (.op 35 [] (.op 36 [] .nil)))))))))))))))))))))))))))))))))))))
def Fs : Ord := (.op 0 [] (.op 1 [0] (.op 2 [] (.op 3 [] (.op 4 [3, 2, 1, 0] (.op 5 [3, 2, 1, 0] (.op 6 [3, 2, 1, 0] (.op 7 [6, 5, 4, 3, 2, 1, 0] (.op 8 [6, 5, 4, 3, 2, 1, 0] (.op 9 [3, 2, 1, 0] (.op 10 [3, 2, 1, 0] (.op 11 [3, 2, 1, 0] (.op 12 [] .nil)))))))))))))
theorem yR (d : τ) (f : aj) (hd : d.ok) (hf : f.ok) (hs : fO f.pieces ≤ 2000000000000) : af Tryz.prog 46 [aq d, ab f] (w5 d f) := by
 have hA : af Tryz.prog 103 [.κ 2 (f.args.map Φ), .fn (.func 104) [] [lW d]] (aO (∀ x ∈ f.args, uu d x)) :=
  D6 _ (lW d) f.args (uu d) (du hf.2.2.1) fun x _ => LV d x
 refine af.Λ ?_ w5.aL
 refine γ.ο ζ η Tryz.func46 rfl rfl ?_
 refine U (fun c1 => ?_) (fun c1 => ?_)
 ·exact kR rfl fun h => by have := h.args; have := of_decide_eq_true c1; rw [List.length_map] at this; omega
 have c1 : f.args.length ≤ 6 := by have := df c1; rw [List.length_map] at this; omega
 refine γ.vH hA rfl ⟨.refl _, .refl _, trivial⟩ aO.flat ?_
 rintro _ ⟨bA, rfl, pA⟩
 refine U (fun c2 => ?_) (fun c2 => ?_)
 ·have c2 : bA = false := by simpa using c2
  exact kR rfl fun h => absurd (pA.2 h.CK) (by rw [c2]; decide)
 have fM := pA.1 (by simpa using c2)
 have eT : (f.args.map Φ).length = f.args.length := by simp
 refine ε (JY (n := (f.args.map Φ).length) (z := 64) (by omega) (by omega)) ?_
 refine U (fun c => absurd (of_decide_eq_true c) (by omega)) (fun _ => ?_)
 refine ε (JY (n := (f.args.map Φ).length) (z := 8) (by omega) (by omega)) ?_
 refine U (fun c => absurd (of_decide_eq_true c) (by omega)) (fun _ => ?_)
 have MR : (f.pieces.map bZ).length = f.pieces.length := by simp
 have MT : f.pieces.length ≤ 9223372036854775807 := du hf.2.2.2.2.1
 have DG : (((f.args.map Φ).length : Nat) : Int).toNat = f.args.length := by rw [Int.toNat_natCast, eT]
 have oa : List.replicate (((f.args.map Φ).length : Nat) : Int).toNat (nJ (List.replicate 64 false)) = (List.replicate f.args.length (List.replicate 64 false)).map nJ := by rw [DG, List.map_replicate]
 have ME : List.replicate (((f.args.map Φ).length : Nat) : Int).toNat (T.int .i64 0) = (List.replicate f.args.length (0 : Int)).map (T.int .i64) := by rw [DG, List.map_replicate]
 refine dW (fun e s' => (e = .exit 0 ∧ ∃ (i : Nat) (B : List Θ) (S : List (List Bool)) (C : List Int), JO d f i B S C ∧ i = f.pieces.length ∧ s' = ⟨[(37, .t (.bool (decide ((i : Int) < ((f.pieces.map bZ).length : Int))))), (2, .ptr 0 0 0 0), (3, .ptr 1 0 0 0), (5, .sl 2 0 0 B.length), (6, .sl 3 0 0 f.args.length), (7, .sl 4 0 0 f.args.length), (34, .t (.κ 4 (f.pieces.map bZ))), (35, .t (.int .i64 ((f.pieces.map bZ).length : Int))), (36, .t (.int .i64 i))], wL d f B S C⟩) ∨
  (e = .ret ∧ ¬ di d f ∧ ∃ env H b, s' = ⟨(4, .sl b 0 0 0) :: env, H⟩ ∧ H[b]? = some (.arr lz 3 true 0 (.ts [])))) (fun Q' hq => ?_) ?_
 ·refine ak (fun s : Nat × List Θ × List (List Bool) × List Int => match s with | (i, B, S, C) => JO d f i B S C) (fun s => ⟨[(2, .ptr 0 0 0 0), (3, .ptr 1 0 0 0), (5, .sl 2 0 0 s.2.1.length), (6, .sl 3 0 0 f.args.length), (7, .sl 4 0 0 f.args.length), (34, .t (.κ 4 (f.pieces.map bZ))), (35, .t (.int .i64 ((f.pieces.map bZ).length : Int))), (36, .t (.int .i64 s.1))], wL d f s.2.1 s.2.2.1 s.2.2.2⟩)
   (fun s => f.pieces.length - s.1) (0, [], List.replicate f.args.length (List.replicate 64 false), List.replicate f.args.length 0)
   ⟨Nat.zero_le _, by simp, rfl, Oj, Qn, List.Pairwise.nil⟩ ?_ (fun ⟨i, B, S, C⟩ hi => ?_)
  ·exact π [0, 1, 3, 4, 5] rfl ⟨rfl, rfl, rfl, congrArg (fun k : Nat => some (AV.sl 3 0 0 k)) DG, congrArg (fun k : Nat => some (AV.sl 4 0 0 k)) DG, rfl, rfl, rfl, trivial⟩ ⟨rfl, rfl, rfl, congrArg (fun l => some (Ψ.arr H7 64 false 0 (.ts l))) oa, congrArg (fun l => some (Ψ.arr tI 1 false 0 (.ts l))) ME, trivial⟩
  have hi : JO d f i B S C := hi
  obtain ⟨hi, AF, hB, hS, hC, hD⟩ := hi
  have PD : B.length ≤ fO (f.pieces.take i) := by rw [hB]; exact zU fM AF
  refine U (fun c => ?_) (fun c => ?_)
  ·have c : i < f.pieces.length := by have := dn c; omega
   obtain ⟨p, hp, tb⟩ := get_some (R := f.pieces) (i := i) c
   have xB : p.lit.length ≤ reachBytes := (hf.2.2.2.2.2.1 p tb).1
   have Td : fO (f.pieces.take (i + 1)) = fO (f.pieces.take i) + mu p := EQ hp
   have Cj : bN (f.pieces.take (i + 1)) = B ++ eW p := by rw [hB]; exact xY hp
   have SN : mu p = p.lit.length + 64 := rfl
   have hle := EP f.pieces (i + 1)
   refine ξ (show (f.pieces.map bZ)[((i : Nat) : Int).toNat]? = some (bZ p) from by rw [Int.toNat_natCast, List.getElem?_map, hp]; rfl) ?_
   refine U (fun ca => ?_) (fun ca => ?_)
   ·have ca : p.arg = -1 := by simpa using ca
    have ta : eW p = p.lit.map bm := by rw [eW, if_pos ca]
    refine U (fun ce => ?_) (fun ce => ?_)
    ·exact hq _ _ (.inr ⟨rfl, fun h => by
      rcases h.x5 p tb with ⟨_, h2, _⟩ | ⟨h2, _⟩
      ·exact h2 (by simpa using ce)
      ·exact h2 ca, _, _, _, rfl, rfl⟩)
    have ce : p.lit ≠ [] := by intro e; rw [e] at ce; cases ce
    refine γ.g_ (EK p.lit xB) rfl ?_
    rintro _ ⟨q, rfl, MO, Ra, _, Q_⟩
    refine U (fun cq => ?_) (fun cq => ?_)
    ·exact hq _ _ (.inr ⟨rfl, fun h => by
      obtain ⟨z, hz, O5⟩ := Q_ (by simpa using cq)
      rcases h.x5 p tb with ⟨_, _, h2⟩ | ⟨h2, _⟩
      ·rw [h2 z hz] at O5; cases O5
      ·exact h2 ca, _, _, _, rfl, rfl⟩)
    have cq : q = [] := by simpa using cq
    have gx : ∀ x ∈ p.lit, rN x = true := fun x hx => (Ra x hx).elim (fun h => by rw [cq] at h; cases h) id
    refine ak (fun s : Nat × List Θ => s.1 ≤ p.lit.length ∧ s.2 = B ++ (p.lit.take s.1).map bm) (fun s => ⟨[(9, .ptr 5 0 0 0), (54, .ptr 6 0 0 0), (2, .ptr 0 0 0 0), (3, .ptr 1 0 0 0), (5, .sl 2 0 0 s.2.length), (6, .sl 3 0 0 f.args.length), (7, .sl 4 0 0 f.args.length), (34, .t (.κ 4 (f.pieces.map bZ))), (35, .t (.int .i64 ((f.pieces.map bZ).length : Int))), (36, .t (.int .i64 i))], wL d f s.2 S C ++ [.box [.t (.str p.lit), .t (.int .i64 p.arg), .t (.int .i64 p.hi), .t (.int .i64 p.lo)], .iter p.lit s.1]⟩)
     (fun s => p.lit.length - s.1) (0, B) ⟨Nat.zero_le _, by simp⟩ ?_ (fun ⟨j, B2⟩ hj => ?_)
    ·exact a8 ⟨rfl, rfl, rfl, rfl, rfl, rfl, rfl, rfl, rfl, rfl, trivial⟩ rfl
    have hj : j ≤ p.lit.length ∧ B2 = B ++ (p.lit.take j).map bm := hj
    obtain ⟨hj, fV⟩ := hj
    have NE : B2.length = B.length + j := by rw [fV]; simp; omega
    by_cases fy : j < p.lit.length
    ·obtain ⟨x, hx, cX⟩ := get_some (R := p.lit) (i := j) fy
     have O7 := gx x cX
     have Oz : x.toNat < 128 := by unfold rN at O7; simp at O7; omega
     conv => whnf
     have aP : p.lit[((j, B2) : Nat × List Θ).fst]? = some x := hx
     rw [aP]
     refine ε (show Nat.blt x.toNat 128 = true from by simpa [Nat.blt_eq] using Oz) ?_
     refine ξ (show p.lit[((j : Nat) : Int).toNat]? = some x from by rw [Int.toNat_natCast]; exact hx) ?_
     refine Or.inl (And.intro (by simp [Sq.length]) (ε (qT (n := B2.length + 1) (by omega)) ?_))
     conv => whnf
     have eR : B2.map aA ++ [aA (bm x)] = (B2 ++ [bm x]).map aA := by simp
     have eN : B2.length + 1 = (B2 ++ [bm x]).length := by simp
     exact ⟨⟨(j + 1, B2 ++ [bm x]), ⟨fy, by show B2 ++ [bm x] = B ++ (p.lit.take (j + 1)).map bm; rw [fV, List.take_add_one, hx]; simp⟩⟩,
      π [0, 1, 2, 3, 4, 5, 6] rfl ⟨rfl, rfl, rfl, rfl, (show some (AV.sl 2 0 0 (B2.length + 1)) = some (AV.sl 2 0 0 (B2 ++ [bm x]).length) from by rw [eN]), rfl, rfl, rfl, rfl, rfl, trivial⟩ ⟨rfl, rfl, congrArg (fun l => some (Ψ.arr lz 3 true 0 (.ts l))) eR, rfl, rfl, rfl, rfl, trivial⟩, by show p.lit.length - (j + 1) < p.lit.length - j; omega⟩
    ·have fy : j = p.lit.length := by omega
     conv => whnf
     have aP : p.lit[((j, B2) : Nat × List Θ).fst]? = none := List.getElem?_eq_none (by show p.lit.length ≤ j; omega)
     rw [aP]
     refine δ (n := ((i + 1 : Nat) : Int)) (ag (n := i + 1) (by omega)) ?_
     conv => whnf
     exact ⟨⟨(i + 1, B2, S, C), ⟨c, eh hp AF (.inl ⟨ca, ce, gx⟩), by show B2 = bN (f.pieces.take (i + 1)); rw [Cj, ta, fV, fy, List.take_length], by rw [fV]; exact hS.lit _, by rw [fV]; exact hC.lit _, by rw [fV]; exact hD.lit _⟩⟩,
      π [0, 1, 2, 3, 4] rfl ⟨rfl, rfl, rfl, rfl, rfl, rfl, rfl, rfl, trivial⟩ ⟨rfl, rfl, rfl, rfl, rfl, trivial⟩, by show f.pieces.length - (i + 1) < f.pieces.length - i; omega⟩
   ·have ca : ¬ p.arg = -1 := by simpa using ca
    refine υ Ft (by decide +kernel) ?_
    refine γ.pure (bQ _ _) rfl ?_
    refine And.intro (fun j hj => by first | (cases hj; done) | exact ψ.append _ _ _ | exact ψ.refl _ _) ?_
    refine U (fun c3 => ?_) (fun c3 => ?_)
    ·exact hq _ _ (.inr ⟨rfl, fun h => by
      rcases h.x5 p tb with ⟨h2, _⟩ | ⟨_, g, k, hg, _⟩
      ·exact ca h2
      ·exact lZ (pU c3) (oy hg), _, _, _, rfl, rfl⟩)
    have h3 := oh (nf c3)
    obtain ⟨g, hg, yz, fq⟩ := cN h3
    obtain ⟨k, hk, Qa⟩ := fM g yz
    have cm : 0 ≤ g.bn ∧ g.bn < d.classes.length := by
     by_cases h : 0 ≤ g.bn ∧ g.bn < d.classes.length
     ·exact h
     ·rw [iD h] at hk; cases hk
    obtain ⟨k2, dA, _, pW⟩ := cN cm
    obtain rfl : k = k2 := by rw [hk] at dA; cases dA; rfl
    have gx : k.bits ≤ 64 := by rcases Qa with h | h | h <;> omega
    refine U (fun c4 => ?_) (fun c4 => ?_)
    ·exact hq _ _ (.inr ⟨rfl, fun h => by
      have c4 : p.lo < 0 := by simpa using c4
      rcases h.x5 p tb with ⟨h2, _⟩ | ⟨_, g, k, _, _, h2, h3, h4⟩
      ·exact ca h2
      ·omega, _, _, _, rfl, rfl⟩)
    have c4 : ¬ p.lo < 0 := by simpa using c4
    refine U (fun c5 => ?_) (fun c5 => ?_)
    ·exact hq _ _ (.inr ⟨rfl, fun h => by
      have c5 : p.lo > p.hi := by simpa using c5
      rcases h.x5 p tb with ⟨h2, _⟩ | ⟨_, g, k, _, _, h2, h3, h4⟩
      ·exact ca h2
      ·omega, _, _, _, rfl, rfl⟩)
    have c5 : ¬ p.lo > p.hi := by simpa using c5
    refine ε (gn rfl h3.1) ?_
    refine ξ (bW fq) ?_
    refine ε (gn rfl cm.1) ?_
    refine ξ (bW pW) ?_
    refine U (fun c6 => ?_) (fun c6 => ?_)
    ·exact hq _ _ (.inr ⟨rfl, fun h => by
      have c6 : p.hi ≥ k.bits := by simpa using c6
      rcases h.x5 p tb with ⟨h2, _⟩ | ⟨_, g', k', dP, iw, h2, h3, h4⟩
      ·exact ca h2
      ·rw [hg] at dP; cases dP
       rw [hk] at iw; cases iw
       omega, _, _, _, rfl, rfl⟩)
    have c6 : ¬ p.hi ≥ k.bits := by simpa using c6
    have P7 : mK d f p := .inr ⟨ca, g, k, hg, hk, by omega, by omega, by omega⟩
    obtain ⟨T0, Gx⟩ : ∃ T0, T0 = qD p := ⟨_, rfl⟩
    have RK : T0 = (p.hi - p.lo + 1).toNat := Gx
    have ta : eW p = dL p.arg p.hi T0 := by rw [eW, if_neg ca, Gx]
    obtain ⟨ai, qR⟩ : ∃ ai : Nat, p.arg = ai := ⟨p.arg.toNat, by omega⟩
    refine ak (fun s : Nat × List Θ × List (List Bool) × List Int => match s with | (m, B2, S2, C2) => (m ≤ T0 ∧ B2 = B ++ dL p.arg p.hi m ∧ kx S2 B2 f.args.length ∧ nk C2 B2 f.args.length ∧ mL B2)) (fun s => ⟨[(9, .ptr 5 0 0 0), (11, .t (.int .i64 (p.hi - s.1))), (2, .ptr 0 0 0 0), (3, .ptr 1 0 0 0), (5, .sl 2 0 0 s.2.1.length), (6, .sl 3 0 0 f.args.length), (7, .sl 4 0 0 f.args.length), (34, .t (.κ 4 (f.pieces.map bZ))), (35, .t (.int .i64 ((f.pieces.map bZ).length : Int))), (36, .t (.int .i64 i))], wL d f s.2.1 s.2.2.1 s.2.2.2 ++ [.box [.t (.str p.lit), .t (.int .i64 p.arg), .t (.int .i64 p.hi), .t (.int .i64 p.lo)]]⟩)
     (fun s => T0 - s.1) (0, B, S, C) ⟨Nat.zero_le _, by simp [dL], hS, hC, hD⟩ ?_ (fun ⟨m, B2, S2, C2⟩ hm => ?_)
    ·exact a8 ⟨rfl, by show AV.t (T.int .i64 p.hi) = AV.t (T.int .i64 (p.hi - ((0 : Nat) : Int))); simp, rfl, rfl, rfl, rfl, rfl, rfl, rfl, rfl, trivial⟩ rfl
    have hm : (m ≤ T0 ∧ B2 = B ++ dL p.arg p.hi m ∧ kx S2 B2 f.args.length ∧ nk C2 B2 f.args.length ∧ mL B2) := hm
    obtain ⟨hm, fV, Cp, Kt, Ks⟩ := hm
    have NE : B2.length = B.length + m := by rw [fV, List.length_append, ou]
    have Tu := Cp.1
    have RY := Kt.1
    refine U (fun c7 => ?_) (fun c7 => ?_)
    ·have c7 : p.hi - (m : Int) ≥ p.lo := of_decide_eq_true c7
     obtain ⟨o, ho⟩ : ∃ o : Nat, p.hi - (m : Int) = o := ⟨(p.hi - m).toNat, by omega⟩
     obtain ⟨r, hr, Te⟩ := get_some (R := S2) (i := ai) (by omega)
     have SU := (Cp.2 ai r hr).1
     obtain ⟨v, hv, _⟩ := get_some (R := r) (i := o) (by omega)
     refine ε (pb rfl h3.1 (by omega)) ?_
     refine ε (sX (by omega) (by omega)) ?_
     conv => whnf
     refine p_ (by rfl) ?_
     refine ξ (mA qR hr) ?_
     refine ξ (JF ho hv) ?_
     refine U (fun c8 => ?_) (fun c8 => ?_)
     ·have c8 : v = true := by simpa using c8
      have Gc : ¬ di d f := fun h => by
       have O9 := (Cp.2 ai r hr).2 o v hv
       have e1 : bN f.pieces = bN (f.pieces.take (i + 1)) ++ bN (f.pieces.drop (i + 1)) := by rw [← ru, List.take_append_drop]
       have e2 : dL p.arg p.hi T0 = dL p.arg p.hi m ++ ([⟨0, p.arg, p.hi - (m : Int)⟩] ++ (dL p.arg p.hi T0).drop (m + 1)) := by
        have e3 : (dL p.arg p.hi T0).take (m + 1) = dL p.arg p.hi (m + 1) := by
         unfold dL; rw [← List.map_take, List.take_range, Nat.min_eq_left (by omega)]
        rw [← List.append_assoc, ← qk, ← e3, List.take_append_drop]
       obtain ⟨D0, RX⟩ : ∃ D0, D0 = (dL p.arg p.hi T0).drop (m + 1) := ⟨_, rfl⟩
       rw [← RX] at e2
       have e4 : bN f.pieces = (B2 ++ [⟨0, p.arg, p.hi - (m : Int)⟩]) ++ (D0 ++ bN (f.pieces.drop (i + 1))) := by
        rw [e1, Cj, ta, fV, e2]; simp
       rw [h.N2.fresh e4 ⟨qR, ho⟩] at O9
       rw [O9] at c8; cases c8
      exact hq _ _ (.inr ⟨rfl, Gc, _, _, _, rfl, rfl⟩)
     refine ε (pb rfl h3.1 (by omega)) ?_
     refine ε (sX (by omega) (by omega)) ?_
     conv => whnf
     refine p_ (by rfl) ?_
     refine ξ (mA qR hr) ?_
     refine ε (show (true && Nat.ble ((0 + (p.hi - (m : Int)).toNat * 1) + 1) (r.map T.bool).length && true) = true from LS ho (by omega)) ?_
     obtain ⟨cv, Kj, _⟩ := get_some (R := C2) (i := ai) (by omega)
     have SZ := Kt.2 ai cv Kj
     have SY := LO B2 ai
     refine ε (pb rfl h3.1 (by omega)) ?_
     refine ξ (mA qR Kj) ?_
     refine δ (n := cv + 1) (by rw [IntKind.wrap_i64]; omega) ?_
     refine ε (pb rfl h3.1 (by omega)) ?_
     refine ξ (mA qR Kj) ?_
     refine Or.inl (And.intro (by simp [Sq.length]) (ε (qT (n := B2.length + 1) (by omega)) ?_))
     refine δ (n := p.hi - ((m + 1 : Nat) : Int)) (show IntKind.i64.wrap (p.hi - (m : Int) - 1) = _ from by have := hf.2.2.2.2.2.1 p tb; have h1 := this.2.2.1.1; have h2 := this.2.2.1.2; rw [IntKind.wrap_i64]; omega) ?_
     obtain ⟨nb, Cm⟩ : ∃ nb : Θ, nb = ⟨0, p.arg, p.hi - (m : Int)⟩ := ⟨_, rfl⟩
     have I_ : nb.arg = (ai : Int) ∧ nb.num = (o : Int) := by rw [Cm]; exact ⟨qR, ho⟩
     have eR : B2.map aA ++ [.agg [.int .u8 0, .int .i64 p.arg, .int .i64 (p.hi - (m : Int))]] = (B2 ++ [nb]).map aA := by rw [Cm, List.map_append]; rfl
     have eN : B2.length + 1 = (B2 ++ [nb]).length := by simp
     have eS := Ie (S := S2) (r := r) qR ho
     have eC := K2 (C := C2) (v := cv + 1) qR
     conv => whnf
     exact ⟨⟨(m + 1, B2 ++ [nb], S2.set ai (r.set o true), C2.set ai (cv + 1)), ⟨by omega, by show B2 ++ [nb] = B ++ dL p.arg p.hi (m + 1); rw [fV, qk, List.append_assoc, Cm], Cp.op hr (by omega) I_, Kt.op Kj I_.1, Ks.op I_ (by rw [← (Cp.2 ai r hr).2 o v hv]; simpa using c8)⟩⟩,
      π [0, 1, 2, 3, 4, 5] rfl ⟨rfl, rfl, rfl, rfl, (show some (AV.sl 2 0 0 (B2.length + 1)) = some (AV.sl 2 0 0 (B2 ++ [nb]).length) from by rw [eN]), rfl, rfl, rfl, rfl, rfl, trivial⟩ ⟨rfl, rfl, congrArg (fun l => some (Ψ.arr lz 3 true 0 (.ts l))) eR, congrArg (fun l => some (Ψ.arr H7 64 false 0 (.ts l))) eS, congrArg (fun l => some (Ψ.arr tI 1 false 0 (.ts l))) eC, rfl, trivial⟩, by show T0 - (m + 1) < T0 - m; omega⟩
    ·have c7 : ¬ p.hi - (m : Int) ≥ p.lo := of_decide_eq_false c7
     refine δ (n := ((i + 1 : Nat) : Int)) (ag (n := i + 1) (by omega)) ?_
     conv => whnf
     exact ⟨⟨(i + 1, B2, S2, C2), ⟨c, eh hp AF P7, by show B2 = bN (f.pieces.take (i + 1)); rw [Cj, ta, fV, show m = T0 by omega], Cp, Kt, Ks⟩⟩,
      π [0, 1, 2, 3, 4] rfl ⟨rfl, rfl, rfl, rfl, rfl, rfl, rfl, rfl, trivial⟩ ⟨rfl, rfl, rfl, rfl, rfl, trivial⟩, by show f.pieces.length - (i + 1) < f.pieces.length - i; omega⟩
  ·have c : i = f.pieces.length := by have := dE c; omega
   exact hq _ _ (.inl ⟨rfl, i, B, S, C, ⟨hi, AF, hB, hS, hC, hD⟩, c, rfl⟩)
 rintro _ _ (⟨rfl, i, B, S, C, ⟨hi, AF, hB, hS, hC, hD⟩, Gn, rfl⟩ | ⟨rfl, Gc, env, H, b, rfl, hb⟩)
 ·have RY := hC.1
  refine ak (fun j : Nat => j ≤ f.args.length ∧ ∀ i a k, i < j → f.args[i]? = some a → cV d.classes a.bn = some k → (nU B i : Int) = k.bits) (fun j => ⟨[(2, .ptr 0 0 0 0), (3, .ptr 1 0 0 0), (5, .sl 2 0 0 B.length), (7, .sl 4 0 0 f.args.length), (140, .t (.κ 2 (f.args.map Φ))), (141, .t (.int .i64 ((f.args.map Φ).length : Int))), (142, .t (.int .i64 j))], wL d f B S C⟩)
   (fun j => f.args.length - j) 0 ⟨Nat.zero_le _, fun i _ _ h => absurd h (Nat.not_lt_zero _)⟩ ?_ (fun j ⟨hj, M9⟩ => ?_)
  ·exact a8 ⟨rfl, rfl, rfl, rfl, rfl, rfl, rfl, trivial⟩ rfl
  refine U (fun c => ?_) (fun c => ?_)
  ·have c : j < f.args.length := by have := dn c; omega
   obtain ⟨a, ha, wv⟩ := get_some (R := f.args) (i := j) c
   obtain ⟨k, hk, _⟩ := fM a wv
   have cm : 0 ≤ a.bn ∧ a.bn < d.classes.length := by
    by_cases h : 0 ≤ a.bn ∧ a.bn < d.classes.length
    ·exact h
    ·rw [iD h] at hk; cases hk
   obtain ⟨k2, dA, _, pW⟩ := cN cm
   obtain rfl : k = k2 := by rw [hk] at dA; exact Option.some.inj dA
   obtain ⟨v, hv, _⟩ := get_some (R := C) (i := j) (by omega)
   refine ξ (show (f.args.map Φ)[((j : Nat) : Int).toNat]? = some (Φ a) from by rw [Int.toNat_natCast, List.getElem?_map, ha]; rfl) ?_
   refine υ Fs (by decide +kernel) ?_
   refine ε (mD rfl (by omega)) ?_
   refine ξ (iX hv) ?_
   refine ε (gn rfl cm.1) ?_
   refine ξ (bW pW) ?_
   refine U (fun cv => ?_) (fun cv => ?_)
   ·exact kR rfl fun h => by
     have h1 := h.SK j a k ha hk
     have h2 := hC.2 j v hv
     rw [hB, Gn, List.take_length] at h2
     have h3 : ¬ v = k.bits := by simpa using cv
     exact h3 (by rw [h2, h1])
   have cv : v = k.bits := by simpa using cv
   refine δ (n := ((j + 1 : Nat) : Int)) (ag (n := j + 1) (by omega)) ?_
   conv => whnf
   exact ⟨⟨j + 1, c, fun i a' k' Gm p6 iw => by
    by_cases e : i = j
    ·subst e
     obtain rfl : a = a' := by rw [ha] at p6; exact Option.some.inj p6
     obtain rfl : k = k' := by rw [hk] at iw; exact Option.some.inj iw
     rw [← cv]; exact (hC.2 i v hv).symm
    ·exact M9 i a' k' (by omega) p6 iw⟩, π [0, 1, 2, 3, 4] rfl ⟨rfl, rfl, rfl, rfl, rfl, rfl, rfl, trivial⟩ ⟨rfl, rfl, rfl, rfl, rfl, trivial⟩, by show f.args.length - (j + 1) < f.args.length - j; omega⟩
  ·obtain ⟨N, hN⟩ : ∃ N, N = B.length := ⟨_, rfl⟩
   obtain ⟨m, hm⟩ : ∃ m, m = B.length % 8 := ⟨_, rfl⟩
   refine ε rfl ?_
   refine δ (n := ((m : Nat) : Int)) (show ((B.length : Nat) : Int).tmod 8 = _ from by rw [Int.tmod_eq_emod_of_nonneg (by omega)]; omega) ?_
   refine U (fun e1 => ?_) (fun e1 => ?_)
   ·exact kR rfl (fun h => by
     have h1 := h.m8
     rw [hB, Gn, List.take_length] at hm
     have e1 : ((m : Int) != 0) = true := e1
     simp at e1
     omega)
   refine U (fun e2 => ?_) (fun e2 => ?_)
   ·exact kR rfl (fun h => by
     have h1 := h.ge
     have e2 := of_decide_eq_true (show decide ((B.length : Int) < 8) = true from e2)
     rw [hB, Gn, List.take_length] at e2
     omega)
   refine U (fun e3 => ?_) (fun e3 => ?_)
   ·exact kR rfl (fun h => by
     have h1 := h.le
     have e3 := of_decide_eq_true (show decide ((B.length : Int) > 120) = true from e3)
     rw [hB, Gn, List.take_length] at e3
     omega)
   have e1 : m = 0 := by have : ((m : Int) != 0) = false := e1
                         simp at this; omega
   have e2 : 8 ≤ B.length := by have := df (show decide ((B.length : Int) < 8) = false from e2); omega
   have e3 : B.length ≤ 120 := by have := df (show decide ((B.length : Int) > 120) = false from e3); omega
   refine γ.cD (BH d B (by omega) (by omega)) rfl ⟨.refl _, .of_eq (congrArg (T.κ 3) (show ((B.map aA).drop 0).take B.length = B.map aA by rw [List.drop_zero, List.take_of_length_le (by simp)])), trivial⟩ ?_
   rintro _ ⟨R, rfl, hR⟩
   have hj : j = f.args.length := by have := dE c; omega
   rw [Gn, List.take_length] at AF hB
   rw [hB] at hR e2 e3 hD M9 hm
   exact ⟨_, .inr ⟨R, rfl, ⟨c1, fM, AF, hD, fun i a k ha => M9 i a k (by have := (List.getElem?_eq_some_iff.1 ha).1; omega) ha, by omega, e2, e3⟩, hR⟩, R.map aA, rfl, rfl, rfl, .refl _⟩
 ·exact kR hb Gc
end Go.Proofs.YtcogcbplmkcojaaGreatDoor
