/-
  The document's function for a pattern as it is written (walk).
-/
import Derived.Test.YtcogcbplmkcojaaGreatDoorHp
namespace Go.Proofs.YtcogcbplmkcojaaGreatDoor
open Go.IntWalk
set_option maxRecDepth 100000
set_option linter.unusedVariables false
set_option linter.unusedSimpArgs false
set_option maxHeartbeats 1000000
def Iw : Ord := (.op 0 [] (.op 1 [] (.op 2 [1, 0] (.op 3 [1, 0] (.op 4 [1, 0] (.op 5 [] (.op 6 [] (.op 7 [] (.op 8 [] (.op 9 [8] (.op 10 [8] (.op 11 [10, 9, 8] (.op 12 [10, 9, 8] (.op 13 [8] (.op 14 [8] (.op 15 [] (.op 16 [] (.op 17 [] .nil))))))))))))))))))
def Fo : Ord := (.op 0 [] (.op 1 [] (.op 2 [1, 0] (.op 3 [1, 0] (.op 4 [1, 0] (.op 5 [] (.op 6 [] (.op 7 [] (.op 8 [] (.op 9 [] (.op 10 [] (.op 11 [] (.op 12 [] (.op 13 [] (.op 14 [] (.op 15 [14, 13] (.op 16 [14, 13] (.op 17 [] (.op 18 [] (.op 19 [] (.op 20 [] (.op 21 [] (.op 22 [21, 20] (.op 23 [21, 20] (.op 24 [23, 22, 21, 20] (.op 25 [23, 22, 21, 20] (.op 26 [25, 24, 23, 22, 21, 20] (.op 27 [25, 24, 23, 22, 21, 20] (.op 28 [23, 22, 21, 20] (.op 29 [23, 22, 21, 20] (.op 30 [23, 22, 21, 20] (.op 31 [21, 20] (.op 32 [21, 20] (.op 33 [21, 20] (.op 34 [] (.op 35 [] .nil))))))))))))))))))))))))))))))))))))
def Fm : Ord := (.op 0 [] (.op 1 [] (.op 2 [1, 0] (.op 3 [1, 0] (.op 4 [3, 2] (.op 5 [] (.op 6 [] (.op 7 [] (.op 8 [7, 6, 5, 4, 3, 2] (.op 9 [] (.op 10 [] .nil)))))))))))
abbrev fF : Nat := 90
def CM (f : aj) (r : AV) : Prop := r = .ao [.own fF 3 true [], .t (.bool false)] ∨ ∃ b : Bool, r = .ao [.own fF 3 false ((bN f.pieces).map aA), .t (.bool b)]
theorem CM.aL {f : aj} : ∀ r, CM f r → aL r = true := by rintro r (rfl | ⟨_, rfl⟩) <;> rfl
theorem tU {f : aj} {H : AH} {b : Nat} (hb : H[b]? = some (.arr fF 3 true 0 (.ts []))) : ∃ r, CM f r ∧ j8 r (.ao [.sl b 0 0 0, .t (.bool false)]) H :=
 ⟨_, .inl rfl, ⟨⟨[], hb, rfl, rfl, .refl _⟩, ⟨_, _, rfl, .refl _⟩, trivial⟩, rfl⟩
abbrev sy : Nat := 227
def rX (cs : List Int) : T := .agg (cs.map (T.int .i64))
theorem CF {cs : List Int} {a n : Int} {i m : Nat} (hc : cs.length = 384) (ha : a = (i : Int)) (hn : n = (m : Int)) (hi : i < 6) (hm : m < 64) : ∃ v, (cs.map (T.int .i64))[0 + a.toNat * 64 + n.toNat * 1]? = some (T.int .i64 v) ∧ 0 + a.toNat * 64 + n.toNat * 1 < cs.length := by
 have hl : i * 64 + m < cs.length := by omega
 refine ⟨cs[i * 64 + m], ?_, by omega⟩
 have e : 0 + a.toNat * 64 + n.toNat * 1 = i * 64 + m := by omega
 rw [e, List.getElem?_map, List.getElem?_eq_getElem hl]; rfl
theorem N9 {cs : List Int} {o : Nat} (h : o < cs.length) : (true && Nat.ble (o + 1) (cs.map (T.int .i64)).length && true) = true := by
 have : Nat.ble (o + 1) (cs.map (T.int .i64)).length = true := by rw [Nat.ble_eq, List.length_map]; omega
 rw [this]; rfl
theorem LM {cs : List Int} {o : Nat} {v : Int} : setCells (rX cs) o [T.int .i64 v] = rX (cs.set o v) := by
 show T.agg (setAt (cs.map (T.int .i64)) o [T.int .i64 v]) = _
 rw [xT, ← List.map_set]; rfl
theorem zx (d : τ) (f : aj) (hd : d.ok) (hf : f.ok) (hG : di d f) : af Tryz.prog 87 [aq d, ab f] (CM f) := by
 have Gd : (f.args.map Φ).length = f.args.length := by simp
 have Tk : (f.pieces.map bZ).length = f.pieces.length := by simp
 have Ps := hG.args
 have MT : f.pieces.length ≤ 9223372036854775807 := du hf.2.2.2.2.1
 refine af.Λ ?_ CM.aL
 refine γ.ο ζ η Tryz.func87 rfl rfl ?_
 refine U (fun c => ?_) (fun _ => ?_)
 ·exact tU rfl
 refine dW (fun e s' => (e = .exit 0 ∧ ∃ i : Nat, s' = ⟨[(28, .t (.bool (decide ((i : Int) < ((f.args.map Φ).length : Int))))), (2, .ptr 0 0 0 0), (3, .ptr 1 0 0 0), (6, .sl 2 0 0 0), (25, .t (.κ 2 (f.args.map Φ))), (26, .t (.int .i64 ((f.args.map Φ).length : Int))), (27, .t (.int .i64 i))], [.box (b_ d), .box (eO f), .arr fF 3 false 0 (.ts (([] : List Θ).map aA))]⟩) ∨
  (e = .ret ∧ ∃ env H b, s' = ⟨(5, .t (.bool false)) :: (4, .sl b 0 0 0) :: env, H⟩ ∧ H[b]? = some (.arr fF 3 true 0 (.ts [])))) (fun Hz HQ => ?_) ?_
 ·refine ak (fun i : Nat => i ≤ f.args.length) (fun i => ⟨[(2, .ptr 0 0 0 0), (3, .ptr 1 0 0 0), (6, .sl 2 0 0 0), (25, .t (.κ 2 (f.args.map Φ))), (26, .t (.int .i64 ((f.args.map Φ).length : Int))), (27, .t (.int .i64 i))], [.box (b_ d), .box (eO f), .arr fF 3 false 0 (.ts (([] : List Θ).map aA))]⟩)
   (fun i => f.args.length - i) 0 (Nat.zero_le _) ?_ (fun i hi => ?_)
  ·exact π [0, 1, 3] rfl ⟨rfl, rfl, rfl, rfl, rfl, rfl, trivial⟩ ⟨rfl, rfl, rfl, trivial⟩
  refine U (fun c => ?_) (fun c => ?_)
  ·have c : i < f.args.length := by have := dn c; omega
   obtain ⟨a, ha, wv⟩ := get_some (R := f.args) (i := i) c
   obtain ⟨k, hk, de⟩ := hG.CK a wv
   have cm := oy hk
   obtain ⟨k2, dA, _, pW⟩ := cN cm
   obtain rfl : k = k2 := by rw [hk] at dA; exact Option.some.inj dA
   refine ξ (show (f.args.map Φ)[((i : Nat) : Int).toNat]? = some (Φ a) from by rw [Int.toNat_natCast, List.getElem?_map, ha]; rfl) ?_
   refine υ Iw (by decide +kernel) ?_
   refine γ.pure (rB _ _) rfl ?_
   refine And.intro (fun j hj => by first | (cases hj; done) | exact ψ.append _ _ _ | exact ψ.refl _ _) ?_
   refine U (fun c2 => ?_) (fun c2 => ?_)
   ·refine And.intro (fun j hj => by first | (cases hj; done) | exact ψ.append _ _ _ | exact ψ.refl _ _) ?_
    exact HQ _ _ (.inr ⟨rfl, _, _, _, rfl, rfl⟩)
   refine ε (gn rfl cm.1) ?_
   refine ξ (bW pW) ?_
   refine γ.b9 (Bf d k de) rfl ⟨.refl _, .refl _, trivial⟩ ?_
   refine And.intro (fun j hj => by first | (cases hj; done) | exact ψ.append _ _ _ | exact ψ.refl _ _) ?_
   refine δ (n := ((i + 1 : Nat) : Int)) (ag (n := i + 1) (by omega)) ?_
   conv => whnf
   exact ⟨⟨i + 1, c⟩, π [0, 1, 2] rfl ⟨rfl, rfl, rfl, rfl, rfl, rfl, trivial⟩ ⟨rfl, rfl, rfl, trivial⟩, by show f.args.length - (i + 1) < f.args.length - i; omega⟩
  ·exact HQ _ _ (.inl ⟨rfl, i, rfl⟩)
 rintro _ _ (⟨rfl, i0, rfl⟩ | ⟨rfl, env, H, b, rfl, hb⟩)
 rotate_left 1
 ·exact tU hb
 refine dW (fun e s' => (e = .exit 2 ∧ ∃ i : Nat, s' = ⟨[(54, .t (.bool (decide ((i : Int) < ((f.pieces.map bZ).length : Int))))), (2, .ptr 0 0 0 0), (3, .ptr 1 0 0 0), (6, .sl 2 0 0 (bN f.pieces).length), (51, .t (.κ 4 (f.pieces.map bZ))), (52, .t (.int .i64 ((f.pieces.map bZ).length : Int))), (53, .t (.int .i64 i))], [.box (b_ d), .box (eO f), .arr fF 3 false 0 (.ts ((bN f.pieces).map aA))]⟩) ∨
  (e = .ret ∧ ∃ env H b, s' = ⟨(5, .t (.bool false)) :: (4, .sl b 0 0 0) :: env, H⟩ ∧ H[b]? = some (.arr fF 3 true 0 (.ts [])))) (fun Hz HQ => ?_) ?_
 ·refine ak (fun s : Nat × List Θ => s.1 ≤ f.pieces.length ∧ s.2 = bN (f.pieces.take s.1)) (fun s => ⟨[(2, .ptr 0 0 0 0), (3, .ptr 1 0 0 0), (6, .sl 2 0 0 s.2.length), (51, .t (.κ 4 (f.pieces.map bZ))), (52, .t (.int .i64 ((f.pieces.map bZ).length : Int))), (53, .t (.int .i64 s.1))], [.box (b_ d), .box (eO f), .arr fF 3 false 0 (.ts (s.2.map aA))]⟩)
   (fun s => f.pieces.length - s.1) (0, []) ⟨Nat.zero_le _, rfl⟩ ?_ (fun ⟨i, B⟩ ⟨hi, hB⟩ => ?_)
  ·exact a8 ⟨rfl, rfl, rfl, rfl, rfl, rfl, trivial⟩ rfl
  have hi : i ≤ f.pieces.length := hi
  have hB : B = bN (f.pieces.take i) := hB
  refine U (fun c => ?_) (fun c => ?_)
  ·have c : i < f.pieces.length := by have := dn c; omega
   obtain ⟨p, hp, MR⟩ := get_some (R := f.pieces) (i := i) c
   have Cj : bN (f.pieces.take (i + 1)) = B ++ eW p := by rw [hB]; exact xY hp
   have hle : B.length + (eW p).length ≤ 120 := by
    have e : bN f.pieces = bN (f.pieces.take (i + 1)) ++ bN (f.pieces.drop (i + 1)) := by rw [← ru, List.take_append_drop]
    have := hG.le
    rw [e, Cj, List.length_append, List.length_append] at this
    omega
   have nS : (fun s : Nat × List Θ => s.1 ≤ f.pieces.length ∧ s.2 = bN (f.pieces.take s.1)) (i + 1, B ++ eW p) := ⟨c, Cj.symm⟩
   refine ξ (show (f.pieces.map bZ)[((i : Nat) : Int).toNat]? = some (bZ p) from by rw [Int.toNat_natCast, List.getElem?_map, hp]; rfl) ?_
   rcases hG.x5 p MR with ⟨ca, ce, gx⟩ | ⟨ca, g, k, hg, hk, h1, h2, h3⟩
   ·have ta : eW p = p.lit.map bm := by rw [eW, if_pos ca]
    have MQ : (eW p).length = p.lit.length := by rw [ta, List.length_map]
    refine U (fun _ => ?_) (fun c => absurd ca (by simpa using c))
    refine U (fun _ => ?_) (fun _ => ?_)
    ·exact HQ _ _ (.inr ⟨rfl, _, _, _, rfl, rfl⟩)
    refine dW (fun e s' => (e = .exit 4 ∧ ∃ (b0 b1 b2 b3 b4 : AV) (j : Nat), s' = ⟨[(67, b0), (66, b1), (65, b2), (64, b3), (63, b4), (2, .ptr 0 0 0 0), (3, .ptr 1 0 0 0), (10, .ptr 3 0 0 0), (51, .t (.κ 4 (f.pieces.map bZ))), (52, .t (.int .i64 ((f.pieces.map bZ).length : Int))), (53, .t (.int .i64 i)), (6, .sl 2 0 0 (B ++ eW p).length), (11, .t (.int .i64 j))], [.box (b_ d), .box (eO f), .arr fF 3 false 0 (.ts ((B ++ eW p).map aA))] ++ [.box [.t (.str p.lit), .t (.int .i64 p.arg), .t (.int .i64 p.hi), .t (.int .i64 p.lo)]]⟩) ∨
     (e = .ret ∧ ∃ env H b, s' = ⟨(5, .t (.bool false)) :: (4, .sl b 0 0 0) :: env, H⟩ ∧ H[b]? = some (.arr fF 3 true 0 (.ts [])))) (fun KI yv => ?_) ?_
    ·refine ak (fun s : Nat × List Θ => s.1 ≤ p.lit.length ∧ s.2 = B ++ (p.lit.take s.1).map bm) (fun s => ⟨[(2, .ptr 0 0 0 0), (3, .ptr 1 0 0 0), (10, .ptr 3 0 0 0), (51, .t (.κ 4 (f.pieces.map bZ))), (52, .t (.int .i64 ((f.pieces.map bZ).length : Int))), (53, .t (.int .i64 i)), (6, .sl 2 0 0 s.2.length), (11, .t (.int .i64 s.1))], [.box (b_ d), .box (eO f), .arr fF 3 false 0 (.ts (s.2.map aA))] ++ [.box [.t (.str p.lit), .t (.int .i64 p.arg), .t (.int .i64 p.hi), .t (.int .i64 p.lo)]]⟩)
      (fun s => p.lit.length - s.1) (0, B) ⟨Nat.zero_le _, by simp⟩ ?_ (fun ⟨j, B2⟩ ⟨hj, fV⟩ => ?_)
     ·exact a8 ⟨rfl, rfl, rfl, rfl, rfl, rfl, rfl, rfl, trivial⟩ rfl
     have hj : j ≤ p.lit.length := hj
     have fV : B2 = B ++ (p.lit.take j).map bm := fV
     have NE : B2.length = B.length + j := by rw [fV]; simp; omega
     refine U (fun cj => ?_) (fun cj => ?_)
     ·have fy : j < p.lit.length := dn cj
      obtain ⟨x, hx, cX⟩ := get_some (R := p.lit) (i := j) fy
      refine ξ (show p.lit[((j : Nat) : Int).toNat]? = some x from by rw [Int.toNat_natCast]; exact hx) ?_
      refine U (fun _ => ?_) (fun _ => ?_)
      ·refine ξ (show p.lit[((j : Nat) : Int).toNat]? = some x from by rw [Int.toNat_natCast]; exact hx) ?_
       refine U (fun _ => ?_) (fun _ => ?_)
       ·refine ξ (show p.lit[((j : Nat) : Int).toNat]? = some x from by rw [Int.toNat_natCast]; exact hx) ?_
        refine U (fun _ => ?_) (fun _ => ?_)
        ·exact yv _ _ (.inr ⟨rfl, _, _, _, rfl, rfl⟩)
        ·skip
         refine ξ (show p.lit[((j : Nat) : Int).toNat]? = some x from by rw [Int.toNat_natCast]; exact hx) ?_
         refine Or.inl (And.intro (by simp [Sq.length]) (ε (qT (n := B2.length + 1) (by omega)) ?_))
         refine δ (n := ((j + 1 : Nat) : Int)) (ag (n := j + 1) (by omega)) ?_
         have eR : B2.map aA ++ [aA (bm x)] = (B2 ++ [bm x]).map aA := by simp
         have eN : B2.length + 1 = (B2 ++ [bm x]).length := by simp
         conv => whnf
         exact ⟨⟨(j + 1, B2 ++ [bm x]), ⟨fy, by show B2 ++ [bm x] = B ++ (p.lit.take (j + 1)).map bm; rw [fV, List.take_add_one, hx]; simp⟩⟩,
          π [0, 1, 2, 3] rfl ⟨rfl, rfl, rfl, rfl, rfl, rfl, (show some (AV.sl 2 0 0 (B2.length + 1)) = some (AV.sl 2 0 0 (B2 ++ [bm x]).length) from by rw [eN]), rfl, trivial⟩ ⟨rfl, rfl, congrArg (fun l => some (Ψ.arr fF 3 false 0 (.ts l))) eR, rfl, trivial⟩, by show p.lit.length - (j + 1) < p.lit.length - j; omega⟩
       ·skip
        refine ξ (show p.lit[((j : Nat) : Int).toNat]? = some x from by rw [Int.toNat_natCast]; exact hx) ?_
        refine Or.inl (And.intro (by simp [Sq.length]) (ε (qT (n := B2.length + 1) (by omega)) ?_))
        refine δ (n := ((j + 1 : Nat) : Int)) (ag (n := j + 1) (by omega)) ?_
        have eR : B2.map aA ++ [aA (bm x)] = (B2 ++ [bm x]).map aA := by simp
        have eN : B2.length + 1 = (B2 ++ [bm x]).length := by simp
        conv => whnf
        exact ⟨⟨(j + 1, B2 ++ [bm x]), ⟨fy, by show B2 ++ [bm x] = B ++ (p.lit.take (j + 1)).map bm; rw [fV, List.take_add_one, hx]; simp⟩⟩,
         π [0, 1, 2, 3] rfl ⟨rfl, rfl, rfl, rfl, rfl, rfl, (show some (AV.sl 2 0 0 (B2.length + 1)) = some (AV.sl 2 0 0 (B2 ++ [bm x]).length) from by rw [eN]), rfl, trivial⟩ ⟨rfl, rfl, congrArg (fun l => some (Ψ.arr fF 3 false 0 (.ts l))) eR, rfl, trivial⟩, by show p.lit.length - (j + 1) < p.lit.length - j; omega⟩
      ·skip
       refine ξ (show p.lit[((j : Nat) : Int).toNat]? = some x from by rw [Int.toNat_natCast]; exact hx) ?_
       refine Or.inl (And.intro (by simp [Sq.length]) (ε (qT (n := B2.length + 1) (by omega)) ?_))
       refine δ (n := ((j + 1 : Nat) : Int)) (ag (n := j + 1) (by omega)) ?_
       have eR : B2.map aA ++ [aA (bm x)] = (B2 ++ [bm x]).map aA := by simp
       have eN : B2.length + 1 = (B2 ++ [bm x]).length := by simp
       conv => whnf
       exact ⟨⟨(j + 1, B2 ++ [bm x]), ⟨fy, by show B2 ++ [bm x] = B ++ (p.lit.take (j + 1)).map bm; rw [fV, List.take_add_one, hx]; simp⟩⟩,
        π [0, 1, 2, 3] rfl ⟨rfl, rfl, rfl, rfl, rfl, rfl, (show some (AV.sl 2 0 0 (B2.length + 1)) = some (AV.sl 2 0 0 (B2 ++ [bm x]).length) from by rw [eN]), rfl, trivial⟩ ⟨rfl, rfl, congrArg (fun l => some (Ψ.arr fF 3 false 0 (.ts l))) eR, rfl, trivial⟩, by show p.lit.length - (j + 1) < p.lit.length - j; omega⟩
     ·have fy : j = p.lit.length := by have := dE cj; omega
      have e : B2 = B ++ eW p := by rw [fV, ta, fy, List.take_length]
      exact yv _ _ (.inl ⟨rfl, _, _, _, _, _, j, by rw [← e]; rfl⟩)
    rintro _ _ (⟨rfl, b0, b1, b2, b3, b4, j, rfl⟩ | ⟨rfl, env, H, b, rfl, hb⟩)
    ·skip
     refine δ (n := ((i + 1 : Nat) : Int)) (ag (n := i + 1) (by omega)) ?_
     conv => whnf
     exact ⟨⟨(i + 1, B ++ eW p), nS⟩, π [0, 1, 2] rfl ⟨rfl, rfl, rfl, rfl, rfl, rfl, trivial⟩ ⟨rfl, rfl, rfl, trivial⟩, by show f.pieces.length - (i + 1) < f.pieces.length - i; omega⟩
    ·exact HQ _ _ (.inr ⟨rfl, _, _, _, rfl, hb⟩)
   ·have ta : eW p = dL p.arg p.hi (qD p) := by rw [eW, if_neg ca]
    obtain ⟨T0, Gx⟩ : ∃ T0, T0 = qD p := ⟨_, rfl⟩
    have RK : T0 = (p.hi - p.lo + 1).toNat := Gx
    rw [← Gx] at ta
    have MQ : (eW p).length = T0 := by rw [ta, ou]
    have Pc := oy hg
    obtain ⟨g2, kg, yz, fq⟩ := cN Pc
    obtain rfl : g = g2 := by rw [hg] at kg; exact Option.some.inj kg
    have cm := oy hk
    obtain ⟨k2, dA, _, pW⟩ := cN cm
    obtain rfl : k = k2 := by rw [hk] at dA; exact Option.some.inj dA
    refine U (fun c => absurd (show p.arg = -1 by simpa using c) ca) (fun _ => ?_)
    refine υ Fo (by decide +kernel) ?_
    refine γ.pure (rB _ _) rfl ?_
    refine And.intro (fun j hj => by first | (cases hj; done) | exact ψ.append _ _ _ | exact ψ.refl _ _) ?_
    refine U (fun _ => ?_) (fun _ => ?_)
    ·exact HQ _ _ (.inr ⟨rfl, _, _, _, rfl, rfl⟩)
    refine U (fun _ => ?_) (fun _ => ?_)
    ·exact HQ _ _ (.inr ⟨rfl, _, _, _, rfl, rfl⟩)
    refine U (fun _ => ?_) (fun _ => ?_)
    ·exact HQ _ _ (.inr ⟨rfl, _, _, _, rfl, rfl⟩)
    refine ε (gn rfl Pc.1) ?_
    refine ξ (bW fq) ?_
    refine ε (gn rfl cm.1) ?_
    refine ξ (bW pW) ?_
    refine U (fun _ => ?_) (fun _ => ?_)
    ·exact HQ _ _ (.inr ⟨rfl, _, _, _, rfl, rfl⟩)
    refine dW (fun e s' => (e = .exit 6 ∧ ∃ (b0 b1 b2 b3 : AV) (z : Int), s' = ⟨[(138, b0), (137, b1), (136, b2), (135, b3), (2, .ptr 0 0 0 0), (3, .ptr 1 0 0 0), (10, .ptr 3 0 0 0), (51, .t (.κ 4 (f.pieces.map bZ))), (52, .t (.int .i64 ((f.pieces.map bZ).length : Int))), (53, .t (.int .i64 i)), (6, .sl 2 0 0 (B ++ eW p).length), (12, .t (.int .i64 z))], [.box (b_ d), .box (eO f), .arr fF 3 false 0 (.ts ((B ++ eW p).map aA))] ++ [.box [.t (.str p.lit), .t (.int .i64 p.arg), .t (.int .i64 p.hi), .t (.int .i64 p.lo)]]⟩)) (fun KI yv => ?_) ?_
    ·refine ak (fun s : Nat × List Θ => s.1 ≤ T0 ∧ s.2 = B ++ dL p.arg p.hi s.1) (fun s => ⟨[(2, .ptr 0 0 0 0), (3, .ptr 1 0 0 0), (10, .ptr 3 0 0 0), (51, .t (.κ 4 (f.pieces.map bZ))), (52, .t (.int .i64 ((f.pieces.map bZ).length : Int))), (53, .t (.int .i64 i)), (6, .sl 2 0 0 s.2.length), (12, .t (.int .i64 (p.hi - s.1)))], [.box (b_ d), .box (eO f), .arr fF 3 false 0 (.ts (s.2.map aA))] ++ [.box [.t (.str p.lit), .t (.int .i64 p.arg), .t (.int .i64 p.hi), .t (.int .i64 p.lo)]]⟩)
      (fun s => T0 - s.1) (0, B) ⟨Nat.zero_le _, by simp [dL]⟩ ?_ (fun ⟨m, B2⟩ ⟨hm, fV⟩ => ?_)
     ·exact a8 ⟨rfl, rfl, rfl, rfl, rfl, rfl, rfl, by show AV.t (T.int .i64 p.hi) = AV.t (T.int .i64 (p.hi - ((0 : Nat) : Int))); simp, trivial⟩ rfl
     have hm : m ≤ T0 := hm
     have fV : B2 = B ++ dL p.arg p.hi m := fV
     have NE : B2.length = B.length + m := by rw [fV, List.length_append, ou]
     refine U (fun cj => ?_) (fun cj => ?_)
     ·have cj : p.hi - (m : Int) ≥ p.lo := of_decide_eq_true cj
      refine Or.inl (And.intro (by simp [Sq.length]) (ε (qT (n := B2.length + 1) (by omega)) ?_))
      have AG := (hf.2.2.2.2.2.1 p MR).2.2.1
      refine δ (n := p.hi - ((m + 1 : Nat) : Int)) (show IntKind.i64.wrap (p.hi - (m : Int) - 1) = _ from by have h1 := AG.1; have h2 := AG.2; rw [IntKind.wrap_i64]; omega) ?_
      obtain ⟨nb, Cm⟩ : ∃ nb : Θ, nb = ⟨0, p.arg, p.hi - (m : Int)⟩ := ⟨_, rfl⟩
      have eR : B2.map aA ++ [.agg [.int .u8 0, .int .i64 p.arg, .int .i64 (p.hi - (m : Int))]] = (B2 ++ [nb]).map aA := by rw [Cm, List.map_append]; rfl
      have eN : B2.length + 1 = (B2 ++ [nb]).length := by simp
      conv => whnf
      exact ⟨⟨(m + 1, B2 ++ [nb]), ⟨by omega, by show B2 ++ [nb] = B ++ dL p.arg p.hi (m + 1); rw [fV, qk, List.append_assoc, Cm]⟩⟩,
       π [0, 1, 2, 3] rfl ⟨rfl, rfl, rfl, rfl, rfl, rfl, (show some (AV.sl 2 0 0 (B2.length + 1)) = some (AV.sl 2 0 0 (B2 ++ [nb]).length) from by rw [eN]), rfl, trivial⟩ ⟨rfl, rfl, congrArg (fun l => some (Ψ.arr fF 3 false 0 (.ts l))) eR, rfl, trivial⟩, by show T0 - (m + 1) < T0 - m; omega⟩
     ·have cj : ¬ p.hi - (m : Int) ≥ p.lo := of_decide_eq_false cj
      have e : B2 = B ++ eW p := by rw [fV, ta, show m = T0 by omega]
      exact yv _ _ ⟨rfl, _, _, _, _, p.hi - (m : Int), by rw [← e]⟩
    rintro _ _ ⟨rfl, b0, b1, b2, b3, z, rfl⟩
    refine δ (n := ((i + 1 : Nat) : Int)) (ag (n := i + 1) (by omega)) ?_
    conv => whnf
    exact ⟨⟨(i + 1, B ++ eW p), nS⟩, π [0, 1, 2] rfl ⟨rfl, rfl, rfl, rfl, rfl, rfl, trivial⟩ ⟨rfl, rfl, rfl, trivial⟩, by show f.pieces.length - (i + 1) < f.pieces.length - i; omega⟩
  ·have c : i = f.pieces.length := by have := dE c; omega
   have e : B = bN f.pieces := by rw [hB, c, List.take_length]
   exact HQ _ _ (.inl ⟨rfl, i, by rw [← e]⟩)
 rintro _ _ (⟨rfl, i1, rfl⟩ | ⟨rfl, env, H, b, rfl, hb⟩)
 rotate_left 1
 ·exact tU hb
 obtain ⟨R, hR⟩ : ∃ R, R = bN f.pieces := ⟨_, rfl⟩
 have Tv : R.length ≤ 120 := by rw [hR]; exact hG.le
 refine dW (fun e s' => (e = .exit 8 ∧ ∃ (b0 : AV) (i : Nat) (cs : List Int), cs.length = 384 ∧ s' = ⟨[(153, b0), (2, .ptr 0 0 0 0), (3, .ptr 1 0 0 0), (6, .sl 2 0 0 R.length), (13, .ptr 3 0 0 0), (150, .sl 2 0 0 R.length), (151, .t (.int .i64 (R.length : Int))), (152, .t (.int .i64 i))], [.box (b_ d), .box (eO f), .arr fF 3 false 0 (.ts (R.map aA)), .arr sy 384 false 0 (.ts [rX cs])]⟩)) (fun Hz HQ => ?_) ?_
 ·refine ak (fun s : Nat × List Int => s.1 ≤ R.length ∧ s.2.length = 384) (fun s => ⟨[(2, .ptr 0 0 0 0), (3, .ptr 1 0 0 0), (6, .sl 2 0 0 R.length), (13, .ptr 3 0 0 0), (150, .sl 2 0 0 R.length), (151, .t (.int .i64 (R.length : Int))), (152, .t (.int .i64 s.1))], [.box (b_ d), .box (eO f), .arr fF 3 false 0 (.ts (R.map aA)), .arr sy 384 false 0 (.ts [rX s.2])]⟩)
   (fun s => R.length - s.1) (0, List.replicate 384 0) ⟨Nat.zero_le _, List.length_replicate⟩ ?_ (fun ⟨i, cs⟩ ⟨hi, iK⟩ => ?_)
  ·rw [hR]
   exact a8 ⟨rfl, rfl, rfl, rfl, rfl, rfl, rfl, trivial⟩ rfl
  have hi : i ≤ R.length := hi
  have iK : cs.length = 384 := iK
  refine U (fun c => ?_) (fun c => ?_)
  ·have c : i < R.length := by have := dn c; omega
   obtain ⟨x, hx, cX⟩ := get_some (R := R) (i := i) c
   have ji := hG.J0 x (by rw [← hR]; exact cX)
   refine ε (mD rfl (by omega)) ?_
   refine ξ (iX hx) ?_
   refine U (fun c0 => ?_) (fun c0 => ?_)
   ·have c0 : x.lit = 0 := by have : (((x.lit : Nat) : Int) == 0) = true := c0
                              simp at this; omega
    obtain ⟨ai, a, k, m, ha, qR, Pq, hm, ph, de⟩ : ∃ (i : Nat) (a : cU) (k : dN) (m : Nat), x.arg = (i : Int) ∧ f.args[i]? = some a ∧ cV d.classes a.bn = some k ∧ x.num = (m : Int) ∧ (m : Int) < k.bits ∧ iF d k := by
     rcases ji with ⟨_, _, h⟩ | ⟨_, h⟩
     ·omega
     ·exact h
    have og := (List.getElem?_eq_some_iff.1 qR).1
    have mG : m < 64 := by rcases de with h | h | h <;> omega
    obtain ⟨v, hv, mc⟩ := CF iK ha hm (by omega) mG
    obtain ⟨g, hg⟩ : ∃ g, IntKind.i64.wrap (v + 1) = g := ⟨_, rfl⟩
    refine υ Fm (by decide +kernel) ?_
    refine ε (sX (by omega) (by omega)) ?_
    conv => whnf
    refine p_ (by rfl) ?_
    refine ε (sX (by omega) (by omega)) ?_
    conv => whnf
    refine p_ (by rfl) ?_
    refine ξ hv ?_
    refine δ hg ?_
    refine ε (sX (by omega) (by omega)) ?_
    conv => whnf
    refine p_ (by rfl) ?_
    refine ε (sX (by omega) (by omega)) ?_
    conv => whnf
    refine p_ (by rfl) ?_
    refine ε (N9 mc) ?_
    refine And.intro (fun j hj => by cases hj) ?_
    refine δ (n := ((i + 1 : Nat) : Int)) (ag (n := i + 1) (by omega)) ?_
    conv => whnf
    exact ⟨⟨(i + 1, cs.set (0 + x.arg.toNat * 64 + x.num.toNat * 1) g), ⟨by omega, by simp [iK]⟩⟩, π [0, 1, 2, 3] rfl ⟨rfl, rfl, rfl, rfl, rfl, rfl, rfl, trivial⟩ ⟨rfl, rfl, rfl, congrArg (fun l => some (Ψ.arr sy 384 false 0 (.ts [l]))) LM, trivial⟩, by show R.length - (i + 1) < R.length - i; omega⟩
   ·skip
    refine δ (n := ((i + 1 : Nat) : Int)) (ag (n := i + 1) (by omega)) ?_
    conv => whnf
    exact ⟨⟨(i + 1, cs), ⟨by omega, by simp [iK]⟩⟩, π [0, 1, 2, 3] rfl ⟨rfl, rfl, rfl, rfl, rfl, rfl, rfl, trivial⟩ ⟨rfl, rfl, rfl, rfl, trivial⟩, by show R.length - (i + 1) < R.length - i; omega⟩
  ·exact HQ _ _ ⟨rfl, _, i, cs, iK, rfl⟩
 rintro _ _ ⟨rfl, b0, i2, cs, iK, rfl⟩
 refine dW (fun e s' => (e = .exit 10 ∧ ∃ (b0 : AV) (i : Nat), s' = ⟨[(174, b0), (2, .ptr 0 0 0 0), (6, .sl 2 0 0 R.length), (13, .ptr 3 0 0 0), (171, .t (.κ 2 (f.args.map Φ))), (172, .t (.int .i64 ((f.args.map Φ).length : Int))), (173, .t (.int .i64 i))], [.box (b_ d), .box (eO f), .arr fF 3 false 0 (.ts (R.map aA)), .arr sy 384 false 0 (.ts [rX cs])]⟩) ∨
  (e = .ret ∧ ∃ env H b, s' = ⟨(5, .t (.bool false)) :: (4, .sl b 0 0 0) :: env, H⟩ ∧ H[b]? = some (.arr fF 3 true 0 (.ts [])))) (fun Hz HQ => ?_) ?_
 ·refine ak (fun i : Nat => i ≤ f.args.length) (fun i => ⟨[(2, .ptr 0 0 0 0), (6, .sl 2 0 0 R.length), (13, .ptr 3 0 0 0), (171, .t (.κ 2 (f.args.map Φ))), (172, .t (.int .i64 ((f.args.map Φ).length : Int))), (173, .t (.int .i64 i))], [.box (b_ d), .box (eO f), .arr fF 3 false 0 (.ts (R.map aA)), .arr sy 384 false 0 (.ts [rX cs])]⟩)
   (fun i => f.args.length - i) 0 (Nat.zero_le _) ?_ (fun i hi => ?_)
  ·exact a8 ⟨rfl, rfl, rfl, rfl, rfl, rfl, trivial⟩ rfl
  have hi : i ≤ f.args.length := hi
  refine U (fun c => ?_) (fun c => ?_)
  ·have c : i < f.args.length := by have := dn c; omega
   obtain ⟨a, ha, wv⟩ := get_some (R := f.args) (i := i) c
   obtain ⟨k, hk, de⟩ := hG.CK a wv
   have cm := oy hk
   obtain ⟨k2, dA, _, pW⟩ := cN cm
   obtain rfl : k = k2 := by rw [hk] at dA; exact Option.some.inj dA
   have hb : 1 ≤ k.bits ∧ k.bits ≤ 64 := by rcases de with h | h | h <;> omega
   refine ξ (show (f.args.map Φ)[((i : Nat) : Int).toNat]? = some (Φ a) from by rw [Int.toNat_natCast, List.getElem?_map, ha]; rfl) ?_
   refine dW (fun e s' => (e = .exit 12 ∧ ∃ (b0 b1 b2 b3 b4 b5 b6 b7 b8 : AV) (n : Nat), s' = ⟨[(186, b0), (185, b1), (184, b2), (183, b3), (182, b4), (181, b5), (180, b6), (179, b7), (178, b8), (2, .ptr 0 0 0 0), (6, .sl 2 0 0 R.length), (13, .ptr 3 0 0 0), (171, .t (.κ 2 (f.args.map Φ))), (172, .t (.int .i64 ((f.args.map Φ).length : Int))), (173, .t (.int .i64 i)), (16, .t (.int .i64 i)), (17, .ptr 4 0 0 0), (18, .t (.int .i64 n))], [.box (b_ d), .box (eO f), .arr fF 3 false 0 (.ts (R.map aA)), .arr sy 384 false 0 (.ts [rX cs])] ++ [.box [.t (.str a.name), .t (.int .i64 a.bn)]]⟩) ∨
    (e = .ret ∧ ∃ env H b, s' = ⟨(5, .t (.bool false)) :: (4, .sl b 0 0 0) :: env, H⟩ ∧ H[b]? = some (.arr fF 3 true 0 (.ts [])))) (fun S5 KI => ?_) ?_
   ·refine ak (fun n : Nat => (n : Int) ≤ k.bits) (fun n => ⟨[(2, .ptr 0 0 0 0), (6, .sl 2 0 0 R.length), (13, .ptr 3 0 0 0), (171, .t (.κ 2 (f.args.map Φ))), (172, .t (.int .i64 ((f.args.map Φ).length : Int))), (173, .t (.int .i64 i)), (16, .t (.int .i64 i)), (17, .ptr 4 0 0 0), (18, .t (.int .i64 n))], [.box (b_ d), .box (eO f), .arr fF 3 false 0 (.ts (R.map aA)), .arr sy 384 false 0 (.ts [rX cs])] ++ [.box [.t (.str a.name), .t (.int .i64 a.bn)]]⟩)
     (fun n => (k.bits - n).toNat) 0 (by show ((0 : Nat) : Int) ≤ k.bits; omega) ?_ (fun n hn => ?_)
    ·exact a8 ⟨rfl, rfl, rfl, rfl, rfl, rfl, rfl, rfl, rfl, trivial⟩ rfl
    have hn : (n : Int) ≤ k.bits := hn
    refine ε (gn rfl cm.1) ?_
    refine ξ (bW pW) ?_
    refine U (fun cn => ?_) (fun cn => ?_)
    ·have cn : (n : Int) < k.bits := of_decide_eq_true cn
     obtain ⟨v, hv, mc⟩ := CF iK (a := ((i : Nat) : Int)) (n := ((n : Nat) : Int)) rfl rfl (by omega) (by omega)
     refine ε (sX (by omega) (by omega)) ?_
     conv => whnf
     refine p_ (by rfl) ?_
     refine ε (sX (by omega) (by omega)) ?_
     conv => whnf
     refine p_ (by rfl) ?_
     refine ξ hv ?_
     refine U (fun _ => ?_) (fun _ => ?_)
     ·exact KI _ _ (.inr ⟨rfl, _, _, _, rfl, rfl⟩)
     refine δ (n := ((n + 1 : Nat) : Int)) (ag (n := n + 1) (by omega)) ?_
     conv => whnf
     exact ⟨⟨n + 1, by show ((n + 1 : Nat) : Int) ≤ k.bits; omega⟩, π [0, 1, 2, 3, 4] rfl ⟨rfl, rfl, rfl, rfl, rfl, rfl, rfl, rfl, rfl, trivial⟩ ⟨rfl, rfl, rfl, rfl, rfl, trivial⟩, by show (k.bits - ((n + 1 : Nat) : Int)).toNat < (k.bits - (n : Int)).toNat; omega⟩
    ·exact KI _ _ (.inl ⟨rfl, _, _, _, _, _, _, _, _, _, n, rfl⟩)
   rintro _ _ (⟨rfl, b0, b1, b2, b3, b4, b5, b6, b7, b8, n, rfl⟩ | ⟨rfl, env, H, b, rfl, hb⟩)
   ·refine δ (n := ((i + 1 : Nat) : Int)) (ag (n := i + 1) (by omega)) ?_
    conv => whnf
    exact ⟨⟨i + 1, c⟩, π [0, 1, 2, 3] rfl ⟨rfl, rfl, rfl, rfl, rfl, rfl, trivial⟩ ⟨rfl, rfl, rfl, rfl, trivial⟩, by show f.args.length - (i + 1) < f.args.length - i; omega⟩
   ·exact HQ _ _ (.inr ⟨rfl, _, _, _, rfl, hb⟩)
  ·exact HQ _ _ (.inl ⟨rfl, _, i, rfl⟩)
 rintro _ _ (⟨rfl, b1, i3, rfl⟩ | ⟨rfl, env, H, b, rfl, hb⟩)
 rotate_left 1
 ·exact tU hb
 have fin : ∀ (b : Bool), ∃ r, CM f r ∧ j8 r (.ao [.sl 2 0 0 R.length, .t (.bool b)]) [.box (b_ d), .box (eO f), .arr fF 3 false 0 (.ts (R.map aA)), .arr sy 384 false 0 (.ts [rX cs])] := fun b =>
  ⟨_, .inr ⟨b, rfl⟩, ⟨⟨R.map aA, rfl, rfl, by simp, by rw [hR]; exact .refl _⟩, ⟨_, _, rfl, .refl _⟩, trivial⟩, rfl⟩
 obtain ⟨m, hm⟩ : ∃ m, m = R.length % 8 := ⟨_, rfl⟩
 refine ε rfl ?_
 refine δ (n := ((m : Nat) : Int)) (show ((R.length : Nat) : Int).tmod 8 = _ from by rw [Int.tmod_eq_emod_of_nonneg (by omega)]; omega) ?_
 refine U (fun _ => ?_) (fun _ => ?_)
 ·refine U (fun _ => ?_) (fun _ => ?_)
  ·exact fin _
  ·exact fin _
 ·exact fin _
end Go.Proofs.YtcogcbplmkcojaaGreatDoor
