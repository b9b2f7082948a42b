/-
  The ground of the walks of this seat, part PQ.
-/
import Derived.Test.YtcogcbplmkcojaaGreatDoorPO
namespace Go.Proofs.YtcogcbplmkcojaaGreatDoor
open Go.IntWalk
set_option maxRecDepth 100000
set_option linter.unusedVariables false
set_option linter.unusedSimpArgs false
set_option maxHeartbeats 4000000
def Dm : Ord := (.op 0 [] (.op 1 [0] (.op 2 [0] (.op 4 [2, 1, 0] (.op 5 [2, 1, 0] (.op 3 [5, 4] (.op 6 [] (.op 7 [] (.op 8 [] .nil)))))))))
theorem γ.OU {P : Program} {f : FuncId} {args args' : List AV} {H : AH} {Q : AV → AH → Prop} (h : γ P f args' H Q) (ha : args'.length = args.length) (fM : ∀ (i : Nat) a a', args[i]? = some a → args'[i]? = some a' → et [] H H a a') : γ P f args H Q :=
 γ.JQ [] h rfl (fun b az hb => .inr ⟨by simp, az, hb, .same _⟩) ha fM
def Qw (d : τ) (r : List T) : List AV := [.t (.str d.name), .t (.int .i64 d.order), .sl 0 0 0 d.files.length, .sl 1 0 0 d.aa.length, .sl 2 0 0 d.flags.length, .sl 3 0 0 d.classes.length, .sl 4 0 0 d.forms.length, .sl 5 0 0 d.au.length, .sl 6 0 0 d.uses.length, .sl 7 0 0 d.ar.length, .sl 8 0 0 d.macros.length, .sl 9 0 0 d.aR.length, .sl 10 0 0 d.aN.length, .t (.κ 4 r), .t .av, .t (.int .i64 0)]
theorem OL {f : FuncId} {d : τ} {r : List T} {more : List AV} {X : AV} {H : AH} {Q : AV → AH → Prop} (h : γ Tryz.prog f (.agg (ec d r []) :: more) (dH d) (fun r H' => r = X ∧ H' = dH d)) (e : H.take 11 = dH d) (ha : more.all (sW 11) = true) (k : Q X H) : γ Tryz.prog f (.agg (Qw d r) :: more) H Q := by
 refine γ.OU (args' := .agg (ec d r []) :: more) (θ h e (by rw [List.all_cons, ha]; rfl) k) rfl fun i a a' hi eJ => ?_
 cases i with
 | zero =>
  cases hi
  cases eJ
  refine .agg _ _ rfl fun j x x' hx aP => ?_
  match j, hx, aP with
  | 0, hx, aP => cases hx; cases aP; exact .same _
  | 1, hx, aP => cases hx; cases aP; exact .same _
  | 2, hx, aP => cases hx; cases aP; exact .same _
  | 3, hx, aP => cases hx; cases aP; exact .same _
  | 4, hx, aP => cases hx; cases aP; exact .same _
  | 5, hx, aP => cases hx; cases aP; exact .same _
  | 6, hx, aP => cases hx; cases aP; exact .same _
  | 7, hx, aP => cases hx; cases aP; exact .same _
  | 8, hx, aP => cases hx; cases aP; exact .same _
  | 9, hx, aP => cases hx; cases aP; exact .same _
  | 10, hx, aP => cases hx; cases aP; exact .same _
  | 11, hx, aP => cases hx; cases aP; exact .same _
  | 12, hx, aP => cases hx; cases aP; exact .same _
  | 13, hx, aP => cases hx; cases aP; exact .same _
  | 14, hx, aP => cases hx; cases aP; exact .sub _ _ (.av 2)
  | 15, hx, aP => cases hx; cases aP; exact .same _
  | j + 16, hx, aP => cases hx
 | succ i =>
  have hi : more[i]? = some a := hi
  have eJ : more[i]? = some a' := eJ
  rw [hi] at eJ
  cases eJ
  exact .same _
theorem ss {k0 : Nat} {env : List (Nat × AV)} {H : AH} (b i : Nat) (ids : List Nat) {cs : List AV} {x : AV} (t : T) (hb : H[b]? = some (.box cs)) (Nb : ids.any (Nat.beq b) = false) (hi : cs[i]? = some x) (h : et ids H (gw b (.box (cs.set i (.t t))) ids 0 H) x (.t t)) : aX k0 ⟨env, H⟩ ⟨env, gw b (.box (cs.set i (.t t))) ids 0 H⟩ := by
 have I9 : b ∉ ids := fun hm => by
  have := List.any_eq_false.1 Nb b hm
  simp at this
 refine kN ids (nx _ _ _ _ _) (fun b' az aC => ?_) (fun t => .inr (.same _))
 replace aC : (gw b (.box (cs.set i (.t t))) ids 0 H)[b']? = some az := aC
 rw [ny, Nat.zero_add, Option.map_eq_some_iff] at aC
 obtain ⟨y, hy, s_⟩ := aC
 split at s_
 ·rename_i e1
  obtain rfl := Nat.eq_of_beq_eq_true e1
  subst s_
  refine .inr ⟨I9, _, hb, .box _ _ (by simp) fun j u u' hu Az => ?_⟩
  rw [List.getElem?_set] at Az
  split at Az
  ·rename_i e2
   subst e2
   split at Az
   ·obtain rfl := Option.some.inj Az
    rw [hi] at hu
    obtain rfl := Option.some.inj hu
    exact h
   ·cases Az
  ·rw [hu] at Az
   obtain rfl := Option.some.inj Az
   exact .same _
 ·split at s_
  ·exact .inl s_.symm
  ·rename_i e2
   subst s_
   refine .inr ⟨fun hm => ?_, y, hy, .same _⟩
   have := List.any_eq_false.1 e2 b' hm
   simp at this
theorem G_ (G : List cU) (a : cU) : bu (.vec 2 (((([] ++ G.map Φ) ++ [Φ a]).drop 0).take (0 + (G.map Φ).length + 1))) (.κ 2 ((G ++ [a]).map Φ)) := by
 rw [List.drop_zero, List.take_of_length_le (by simp), List.map_append, List.nil_append]; exact .vec 2 _
theorem xI : ∀ (n : Nat) (s : PS) {s' : PS}, oz n s = some s' → s'.d = s.d
 | 0, s, s', h => by cases h
 | n + 1, s, s', h => by
  unfold oz at h
  split at h
  ·cases h; rfl
  ·split at h
   ·cases h
   rename_i u inner hu
   split at h
   ·cases h
   rename_i u2 name hf
   split at h
   ·cases h
   rename_i u3 c hk
   split at h
   ·obtain ⟨l, _, rfl⟩ := aH hu
    have := xI n _ h
    rw [this]
    exact (Ξ.trans (bG hf) (bO hk)).1
   ·cases h
theorem u9 : ∀ (n : Nat) (s : PS) (l : List bw) {s' : PS} {l' : List bw}, oQ n s l = some (s', l') → Ξ s s'
 | 0, s, l, s', l', h => by cases h
 | n + 1, s, l, s', l', h => by
  unfold oQ at h
  split at h
  ·cases h; exact ⟨rfl, rfl⟩
  ·split at h
   ·cases h
   rename_i u w hw
   split at h
   ·cases h
   split at h
   ·exact Ξ.trans (aQ hw) (u9 n u _ h)
   ·cases h
theorem LA {s s' : PS} (hs : cE s) (hb : ∀ c ∈ s.d.classes, 0 ≤ c.bits ∧ c.bits ≤ 1000000000000000000) (h : rS s = some s') : cZ 56 4 s s' := by
 unfold rS at h
 split at h
 ·cases h
 rename_i s1 name hf
 split at h
 ·cases h
 rename_i s2 ea AA
 split at h
 ·cases h
 rename_i s3 mS kf
 split at h
 ·cases h
 rename_i s4 fM
 split at h
 ·cases h
 rename_i s5 vJ tf
 split at h
 ·cases h
 rename_i s6 ps J9
 split at h
 ·cases h
 rename_i s7 rq Ke
 split at h
 ·cases h
 rename_i s8 gj I6
 cases h
 obtain ⟨d, r0, g0⟩ := s
 have ke : cE ⟨d, r0, []⟩ := ⟨hs.1, hs.2.1, hs.2.2.1, hs.2.2.2.1, hs.2.2.2.2.1, hs.2.2.2.2.2.1, hs.2.2.2.2.2.2.1, hs.2.2.2.2.2.2.2.1, Nat.zero_le _⟩
 have f1 : Ξ ⟨d, r0, []⟩ s1 := bG hf
 have h1 := fw ke (by decide) hf
 have χ : d.forms.length + 1 ≤ 100000 := by
  have := (cP hf).2.2
  have : s1.d.forms.length < 512 := by simpa [bE, dS] using this
  rw [f1.1] at this
  have : d.forms.length < 512 := this
  omega
 obtain ⟨q2, e2, rfl⟩ := lu AA
 have NB := bV kf
 obtain ⟨q3, e3, rfl⟩ := aH kf
 have e4 := xI _ _ fM
 have Kp := bV tf
 obtain ⟨q5, e5, rfl⟩ := aH tf
 have e6 := u9 _ _ _ J9
 have RS := bV Ke
 obtain ⟨q7, e7, rfl⟩ := aH Ke
 obtain ⟨d1, r1, g1⟩ := s1
 obtain rfl : d = d1 := f1.1.symm
 obtain rfl : [] = g1 := f1.2.symm
 obtain ⟨d4, r4, G4⟩ := s4
 obtain rfl : d = d4 := e4.symm
 obtain rfl : mS = _ := e5
 obtain ⟨d6, r6, G6⟩ := s6
 obtain rfl : d = d6 := e6.1.symm
 obtain rfl : G4 = G6 := e6.2.symm
 obtain rfl : vJ = _ := e7
 obtain rfl : r1 = _ := e2
 obtain rfl : q2 = _ := e3
 unfold cZ
 refine aT ?_
 refine γ.ο ζ η Tryz.func56 rfl rfl ?_
 refine OL h1 (by rfl) (by rfl) ?_
 refine θ (dj d 3 ea 0 [] _ ([].map Φ) (.inr rfl)) (by rfl) (by rfl) ?_
 refine θ NB (by rfl) (by rfl) ?_
 refine ak (fun x : Nat × List ay × List cU => oz x.1 ⟨d, x.2.1, x.2.2⟩ = some ⟨d, r4, G4⟩ ∧ x.2.2.length ≤ 100000) (fun x : Nat × List ay × List cU => ⟨[(1, .ptr 11 0 0 0), (2, .ptr 12 0 0 0), (3, .ptr 13 0 0 0), (5, .t (.κ 4 (ω (.list q5 :: .list q7 :: rq))))], pt d [.box (ec d (ω x.2.1) (x.2.2.map Φ)), .box cQ, .box [.t (.str name), .t (.str ea), .t .av, .t .av, .t .av]]⟩) (fun x => x.1) (65, q3, []) ⟨fM, Nat.zero_le _⟩ ?_ (fun ⟨n, R, G⟩ ⟨hx, hG⟩ => ?_)
 ·exact π [0, 1, 2, 3, 4, 5, 6, 7, 8, 9, 10, 11, 12, 13] rfl ⟨rfl, rfl, rfl, rfl, trivial⟩ ⟨rfl, rfl, rfl, rfl, rfl, rfl, rfl, rfl, rfl, rfl, rfl, rfl, rfl, rfl, trivial⟩
 have hx : oz n ⟨d, R, G⟩ = some ⟨d, r4, G4⟩ := hx
 have hG : G.length ≤ 100000 := hG
 have J8 : ∀ r, cE ⟨d, r, G⟩ := fun r => ⟨hs.1, hs.2.1, hs.2.2.1, hs.2.2.2.1, hs.2.2.2.2.1, hs.2.2.2.2.2.1, hs.2.2.2.2.2.2.1, hs.2.2.2.2.2.2.2.1, hG⟩
 cases n with
 | zero => cases hx
 | succ n =>
  unfold oz at hx
  cases R with
  | cons t0 R0 =>
   rw [show aJ (⟨d, t0 :: R0, G⟩ : PS) = false from rfl] at hx
   dsimp only at hx
   split at hx
   ·cases hx
   rename_i u1 inner aG
   split at hx
   ·cases hx
   rename_i u2 nm Nj
   split at hx
   ·cases hx
   rename_i u3 c uF
   split at hx
   rotate_left 1
   ·cases hx
   rename_i he
   have k1 := bV aG
   obtain ⟨l0, e0, rfl⟩ := aH aG
   obtain ⟨rfl, rfl⟩ := List.cons.inj e0
   have p2 : Ξ ⟨d, l0, G⟩ u2 := bG Nj
   have p3 : Ξ ⟨d, l0, G⟩ u3 := p2.trans (bO uF)
   have k2 := fw (J8 _) (by decide) Nj
   have k3 := dX ((J8 l0).same p2) (by decide) uF
   have k4 := cJ he
   have TB : G.length < 6 := by
    have := (cP Nj).2.2
    have : u2.args.length < 6 := by simpa [bE, dS] using this
    rw [p2.2] at this
    exact this
   obtain ⟨Bc, Mi, AX⟩ := u2
   obtain rfl : d = Bc := p2.1.symm
   obtain rfl : G = AX := p2.2.symm
   obtain ⟨Bb, ij, AW⟩ := u3
   obtain rfl : d = Bb := p3.1.symm
   obtain rfl : G = AW := p3.2.symm
   refine U (fun _ => ?_) (fun c => absurd (eI.symm.trans c) (by decide))
   refine θ k1 (by rfl) (by rfl) ?_
   refine θ k2 (by rfl) (by rfl) ?_
   refine θ k3 (by rfl) (by rfl) ?_
   refine θ k4 (by rfl) (by rfl) ?_
   refine ax (dB 16 [5, 4]) Dm (by decide +kernel) ?_
   refine Or.inl (And.intro rfl (ε (cg (n := 0 + (Sq.ts (G.map Φ)).length) (by simp [Sq.length]; omega) rfl) ?_))
   refine And.intro (fun j hj => by simp only [List.mem_cons, List.not_mem_nil, or_false] at hj; rcases hj with rfl | rfl <;> exact ψ.set (b := 16) _ (List.mem_singleton.2 rfl)) ?_
   refine Or.inl (And.intro (by rw [Sq.ez]; rfl) (ε (cg (n := 0 + (Sq.ts (G.map Φ)).length + 1) (by simp [Sq.length]; omega) rfl) ?_))
   refine And.intro (fun j hj => by cases hj) ?_
   refine And.intro (fun j hj => by cases hj) ?_
   conv => whnf
   exact ⟨⟨(n, R0, G ++ [⟨nm, (c : Int)⟩]), hx, by show (G ++ [_]).length ≤ 100000; simp; omega⟩, aX.trans (ss 11 14 [16] (T.κ 2 (List.map Φ (List.append G [cU.mk nm (c : Int)]))) rfl rfl rfl (.ff _ _ _ [16] 32 rfl (G_ G (cU.mk nm (c : Int))) (fun b hb => hb))) (π [0, 1, 2, 3, 4, 5, 6, 7, 8, 9, 10, 11, 12, 13] rfl ⟨rfl, rfl, rfl, rfl, trivial⟩ ⟨rfl, rfl, rfl, rfl, rfl, rfl, rfl, rfl, rfl, rfl, rfl, rfl, rfl, rfl, trivial⟩), Nat.lt_succ_self n⟩
  | nil =>
   cases hx
   refine θ Kp (by rfl) (by rfl) ?_
   refine ak (fun x : Nat × List ay × List bw => oQ x.1 ⟨d, x.2.1, G4⟩ x.2.2 = some (⟨d, r6, G4⟩, ps)) (fun x : Nat × List ay × List bw => ⟨[(1, .ptr 11 0 0 0), (2, .ptr 12 0 0 0), (3, .ptr 13 0 0 0), (5, .t (.κ 4 (ω (.list q7 :: rq))))], pt d [.box (ec d (ω x.2.1) (G4.map Φ)), .box cQ, .box [.t (.str name), .t (.str ea), .t (.κ 2 (G4.map Φ)), .sl 14 0 0 x.2.2.length, .t .av], .arr 198 4 true 0 (.ts (x.2.2.map bZ))]⟩) (fun x => x.1) (66, q5, []) J9 ?_ (fun ⟨n2, R2, P⟩ fx => ?_)
   ·refine aX.trans (π (s' := ⟨[(1, .ptr 11 0 0 0), (2, .ptr 12 0 0 0), (3, .ptr 13 0 0 0), (5, .t (.κ 4 (ω (.list q7 :: rq))))], pt d [.box (ec d (ω q5) (G4.map Φ)), .box cQ, .box [.t (.str name), .t (.str ea), .t (.κ 2 (G4.map Φ)), .t .av, .t .av]]⟩) [0, 1, 2, 3, 4, 5, 6, 7, 8, 9, 10, 11, 12, 13] rfl ⟨rfl, rfl, rfl, rfl, trivial⟩ ⟨rfl, rfl, rfl, rfl, rfl, rfl, rfl, rfl, rfl, rfl, rfl, rfl, rfl, rfl, trivial⟩) ?_
    exact iP (cs := [.t (.str name), .t (.str ea), .t (.κ 2 (G4.map Φ)), .t .av, .t .av]) 13 3 _ _ rfl rfl
   have fx : oQ n2 ⟨d, R2, G4⟩ P = some (⟨d, r6, G4⟩, ps) := fx
   cases n2 with
   | zero => cases fx
   | succ n2 =>
    unfold oQ at fx
    cases R2 with
    | cons t0 R0 =>
     rw [show aJ (⟨d, t0 :: R0, G4⟩ : PS) = false from rfl] at fx
     dsimp only at fx
     split at fx
     ·cases fx
     rename_i u1 w hw
     split at fx
     ·cases fx
     rename_i p hp
     split at fx
     rotate_left 1
     ·cases fx
     rename_i pi
     rw [Nat.blt_eq] at pi
     have k1 := bo hw
     obtain ⟨l0, e0, rfl⟩ := iO hw
     obtain ⟨rfl, rfl⟩ := List.cons.inj e0
     have k2 := La (s := ⟨d, R0, G4⟩) (J8 R0) hb hp
     unfold ni at k2
     have pn : decide (((P.length : Nat) : Int) ≥ 64) = false := decide_eq_false (by omega)
     refine U (fun c => ?_) (fun c => absurd (eI.symm.trans c) (by decide))
     refine θ k1 (by rfl) (by rfl) ?_
     refine θ k2 (by rfl) (by rfl) ?_
     refine θ (Δ d _ _ pn 43) (by rfl) (by rfl) ?_
     refine Or.inl (And.intro (List.length_map _).symm (ε (cg (n := P.length + 1) (by omega) rfl) ?_))
     conv => whnf
     exact ⟨⟨(n2, R0, P ++ [p]), fx⟩, π [0, 1, 2, 3, 4, 5, 6, 7, 8, 9, 10, 11, 12, 13, 14] rfl ⟨rfl, rfl, rfl, rfl, trivial⟩ ⟨rfl, rfl, rfl, rfl, rfl, rfl, rfl, rfl, rfl, rfl, rfl, rfl, rfl, congrArg (fun m : Nat => some (Ψ.box [.t (.str name), .t (.str ea), .t (.κ 2 (G4.map Φ)), .sl 14 0 0 m, .t .av])) (bI P p), bM bZ P p, trivial⟩, Nat.lt_succ_self n2⟩
    | nil =>
     cases fx
     refine θ RS (by rfl) (by rfl) ?_
     refine ak (fun x : Nat × List ay × List T => uX x.1 ⟨d, x.2.1, G4⟩ x.2.2 = some (s8, gj)) (fun x : Nat × List ay × List T => ⟨[(1, .ptr 11 0 0 0), (2, .ptr 12 0 0 0), (3, .ptr 13 0 0 0), (5, .t (.κ 4 (ω rq)))], pt d [.box (ec d (ω x.2.1) (G4.map Φ)), .box cQ, .box [.t (.str name), .t (.str ea), .t (.κ 2 (G4.map Φ)), .sl 14 0 0 ps.length, .sl 15 0 0 x.2.2.length], .arr 198 4 true 0 (.ts (ps.map bZ)), .arr 81 5 true 0 (.ts x.2.2)]⟩) (fun x => x.1) (66, q7, []) I6 ?_ (fun ⟨n3, R3, K⟩ si => ?_)
     ·refine aX.trans (π (s' := ⟨[(1, .ptr 11 0 0 0), (2, .ptr 12 0 0 0), (3, .ptr 13 0 0 0), (5, .t (.κ 4 (ω rq)))], pt d [.box (ec d (ω q7) (G4.map Φ)), .box cQ, .box [.t (.str name), .t (.str ea), .t (.κ 2 (G4.map Φ)), .sl 14 0 0 ps.length, .t .av], .arr 198 4 true 0 (.ts (ps.map bZ))]⟩) [0, 1, 2, 3, 4, 5, 6, 7, 8, 9, 10, 11, 12, 13, 14] rfl ⟨rfl, rfl, rfl, rfl, trivial⟩ ⟨rfl, rfl, rfl, rfl, rfl, rfl, rfl, rfl, rfl, rfl, rfl, rfl, rfl, rfl, rfl, trivial⟩) ?_
      exact iP (cs := [.t (.str name), .t (.str ea), .t (.κ 2 (G4.map Φ)), .sl 14 0 0 ps.length, .t .av]) 13 4 _ _ rfl rfl
     have si : uX n3 ⟨d, R3, G4⟩ K = some (s8, gj) := si
     cases n3 with
     | zero => cases si
     | succ n3 =>
      unfold uX at si
      cases R3 with
      | cons t0 R0 =>
       rw [show aJ (⟨d, t0 :: R0, G4⟩ : PS) = false from rfl] at si
       dsimp only at si
       split at si
       rotate_left 1
       ·cases si
       rename_i u1 k hk
       split at si
       rotate_left 1
       ·cases si
       rename_i pi
       rw [Nat.blt_eq] at pi
       obtain ⟨p1, o1, w1, a1, b1, l1, rfl, k1⟩ := yK 40 _ _ _ (J8 (t0 :: R0)) hk
       unfold bz at k1
       obtain ⟨N8, QA, Sr⟩ := u1
       obtain rfl : d = N8 := p1.1.symm
       obtain rfl : G4 = Sr := p1.2.symm
       have pn : decide (((K.length : Nat) : Int) ≥ 64) = false := decide_eq_false (by omega)
       refine U (fun c => ?_) (fun c => absurd (eI.symm.trans c) (by decide))
       refine θ k1 (by rfl) (by rfl) ?_
       refine θ (Δ d _ _ pn 43) (by rfl) (by rfl) ?_
       refine Or.inl (And.intro rfl (ε (cg (n := K.length + 1) (by omega) rfl) ?_))
       conv => whnf
       exact ⟨⟨(n3, QA, K ++ [dQ o1 w1 a1 b1 l1]), si⟩, π [0, 1, 2, 3, 4, 5, 6, 7, 8, 9, 10, 11, 12, 13, 14, 15] rfl ⟨rfl, rfl, rfl, rfl, trivial⟩ ⟨rfl, rfl, rfl, rfl, rfl, rfl, rfl, rfl, rfl, rfl, rfl, rfl, rfl, congrArg (fun m : Nat => some (Ψ.box [.t (.str name), .t (.str ea), .t (.κ 2 (G4.map Φ)), .sl 14 0 0 ps.length, .sl 15 0 0 m])) (bI K (dQ o1 w1 a1 b1 l1)), rfl, rfl, trivial⟩, Nat.lt_succ_self n3⟩
      | nil =>
       cases si
       refine Or.inl (And.intro (List.length_map _).symm (ε (cg χ rfl) ?_))
       refine aX.trans (gI 4 [14, 15] (A := d.forms.map ab) (gU (ab ⟨name, ea, G4, ps, gj⟩)) rfl rfl rfl (fun j y t hy ht => by
        match j, hy, ht with
        | 0, hy, ht => cases hy; cases ht; exact .same _
        | 1, hy, ht => cases hy; cases ht; exact .same _
        | 2, hy, ht => cases hy; cases ht; exact .same _
        | 3, hy, ht => cases hy; cases ht; exact .ff _ _ _ [14] 32 rfl (.of_eq (congrArg (T.κ _) (by rw [List.drop_zero]; exact List.take_of_length_le (by simp)))) (fun b hb => by simp at hb; simp [hb])
        | 4, hy, ht => cases hy; cases ht; exact .ff _ _ _ [15] 32 rfl (.of_eq (congrArg (T.κ _) (by rw [List.drop_zero]; exact List.take_of_length_le (by simp)))) (fun b hb => by simp at hb; simp [hb])
        | j + 5, hy, ht => cases hy)) ?_
       refine Ω ?_ ?_
       ·exact ⟨congrArg (fun n : Nat => some (AV.agg [.t (.str d.name), .t (.int .i64 d.order), .sl 0 0 0 d.files.length, .sl 1 0 0 d.aa.length, .sl 2 0 0 d.flags.length, .sl 3 0 0 d.classes.length, .sl 4 2 0 n, .sl 5 0 0 d.au.length, .sl 6 0 0 d.uses.length, .sl 7 0 0 d.ar.length, .sl 8 0 0 d.macros.length, .sl 9 0 0 d.aR.length, .sl 10 0 0 d.aN.length, .t (.κ 4 (ω rq)), .t (.κ 2 (G4.map Φ)), .t (.int .i64 0)])) (bI d.forms ⟨name, ea, G4, ps, gj⟩), trivial⟩
       ·exact ⟨rfl, rfl, rfl, rfl, bM ab d.forms ⟨name, ea, G4, ps, gj⟩, rfl, rfl, rfl, rfl, rfl, rfl, trivial⟩
end Go.Proofs.YtcogcbplmkcojaaGreatDoor
namespace Go.Proofs.YtcogcbplmkcojaaGreatDoor
open Go.IntWalk
set_option maxRecDepth 100000
set_option linter.unusedVariables false
set_option linter.unusedSimpArgs false
set_option maxHeartbeats 4000000
def eg (s : PS) (first : Bool) (k : Nat) (s' : PS) : Prop := γ Tryz.prog 21 [dO s, .t (.bool first)] (dH s.d) (fun v H => v = qf k s' ∧ H = tB k s'.d)
theorem FW {s s1 s2 s3 : PS} {x : List ay} (aG : cW s = some (s1, x)) (hw : bt s1 = some (s2, [102, 105, 108, 101])) (hf : cZ 51 0 s2 s3) (he : aJ s3 = true) : eg s false 0 s3 := by
 have k1 := bV aG
 have k2 := bo hw
 have p2 : Ξ s1 s2 := aQ hw
 obtain ⟨l0, e0, rfl⟩ := aH aG
 obtain ⟨d, r0, g⟩ := s
 obtain ⟨d2, r2, g2⟩ := s2
 obtain rfl : d = d2 := p2.1.symm
 obtain rfl : g = g2 := p2.2.symm
 unfold eg
 refine aT ?_
 refine γ.ο ζ η Tryz.func21 rfl rfl ?_
 refine θ k1 (by rfl) (by rfl) ?_
 refine θ k2 (by rfl) (by rfl) ?_
 refine θ (Δ d _ _ rfl 41) (by rfl) (by rfl) ?_
 refine ub hf (by rfl) ?_
 refine fj (k := 0) (lS 0 (by decide) he) (by rfl) (by rfl) ?_
 refine Ω ?_ ?_
 ·exact ⟨rfl, trivial⟩
 ·exact ⟨rfl, rfl, rfl, rfl, rfl, rfl, rfl, rfl, rfl, rfl, rfl, trivial⟩
theorem Dy {s s1 s2 s3 : PS} {x : List ay} (aG : cW s = some (s1, x)) (hw : bt s1 = some (s2, [99, 108, 97, 115, 115])) (hf : cZ 55 3 s2 s3) (he : aJ s3 = true) : eg s false 3 s3 := by
 have k1 := bV aG
 have k2 := bo hw
 have p2 : Ξ s1 s2 := aQ hw
 obtain ⟨l0, e0, rfl⟩ := aH aG
 obtain ⟨d, r0, g⟩ := s
 obtain ⟨d2, r2, g2⟩ := s2
 obtain rfl : d = d2 := p2.1.symm
 obtain rfl : g = g2 := p2.2.symm
 unfold eg
 refine aT ?_
 refine γ.ο ζ η Tryz.func21 rfl rfl ?_
 refine θ k1 (by rfl) (by rfl) ?_
 refine θ k2 (by rfl) (by rfl) ?_
 refine θ (Δ d _ _ rfl 41) (by rfl) (by rfl) ?_
 refine ub hf (by rfl) ?_
 refine fj (k := 3) (lS 3 (by decide) he) (by rfl) (by rfl) ?_
 refine Ω ?_ ?_
 ·exact ⟨rfl, trivial⟩
 ·exact ⟨rfl, rfl, rfl, rfl, rfl, rfl, rfl, rfl, rfl, rfl, rfl, trivial⟩
theorem FU {s s1 s2 s3 : PS} {x : List ay} (aG : cW s = some (s1, x)) (hw : bt s1 = some (s2, [102, 111, 114, 109])) (hf : cZ 56 4 s2 s3) (he : aJ s3 = true) : eg s false 4 s3 := by
 have k1 := bV aG
 have k2 := bo hw
 have p2 : Ξ s1 s2 := aQ hw
 obtain ⟨l0, e0, rfl⟩ := aH aG
 obtain ⟨d, r0, g⟩ := s
 obtain ⟨d2, r2, g2⟩ := s2
 obtain rfl : d = d2 := p2.1.symm
 obtain rfl : g = g2 := p2.2.symm
 unfold eg
 refine aT ?_
 refine γ.ο ζ η Tryz.func21 rfl rfl ?_
 refine θ k1 (by rfl) (by rfl) ?_
 refine θ k2 (by rfl) (by rfl) ?_
 refine θ (Δ d _ _ rfl 41) (by rfl) (by rfl) ?_
 refine ub hf (by rfl) ?_
 refine fj (k := 4) (lS 4 (by decide) he) (by rfl) (by rfl) ?_
 refine Ω ?_ ?_
 ·exact ⟨rfl, trivial⟩
 ·exact ⟨rfl, rfl, rfl, rfl, rfl, rfl, rfl, rfl, rfl, rfl, rfl, trivial⟩
theorem Dx {s s1 s2 s3 : PS} {x : List ay} (aG : cW s = some (s1, x)) (hw : bt s1 = some (s2, [109, 97, 99, 114, 111])) (hf : cZ 57 8 s2 s3) (he : aJ s3 = true) : eg s false 8 s3 := by
 have k1 := bV aG
 have k2 := bo hw
 have p2 : Ξ s1 s2 := aQ hw
 obtain ⟨l0, e0, rfl⟩ := aH aG
 obtain ⟨d, r0, g⟩ := s
 obtain ⟨d2, r2, g2⟩ := s2
 obtain rfl : d = d2 := p2.1.symm
 obtain rfl : g = g2 := p2.2.symm
 unfold eg
 refine aT ?_
 refine γ.ο ζ η Tryz.func21 rfl rfl ?_
 refine θ k1 (by rfl) (by rfl) ?_
 refine θ k2 (by rfl) (by rfl) ?_
 refine θ (Δ d _ _ rfl 41) (by rfl) (by rfl) ?_
 refine ub hf (by rfl) ?_
 refine fj (k := 8) (lS 8 (by decide) he) (by rfl) (by rfl) ?_
 refine Ω ?_ ?_
 ·exact ⟨rfl, trivial⟩
 ·exact ⟨rfl, rfl, rfl, rfl, rfl, rfl, rfl, rfl, rfl, rfl, rfl, trivial⟩
theorem IY {s s1 s2 s3 : PS} {x : List ay} (aG : cW s = some (s1, x)) (hw : bt s1 = some (s2, [114, 101, 108])) (hf : cZ 58 5 s2 s3) (he : aJ s3 = true) : eg s false 5 s3 := by
 have k1 := bV aG
 have k2 := bo hw
 have p2 : Ξ s1 s2 := aQ hw
 obtain ⟨l0, e0, rfl⟩ := aH aG
 obtain ⟨d, r0, g⟩ := s
 obtain ⟨d2, r2, g2⟩ := s2
 obtain rfl : d = d2 := p2.1.symm
 obtain rfl : g = g2 := p2.2.symm
 unfold eg
 refine aT ?_
 refine γ.ο ζ η Tryz.func21 rfl rfl ?_
 refine θ k1 (by rfl) (by rfl) ?_
 refine θ k2 (by rfl) (by rfl) ?_
 refine θ (Δ d _ _ rfl 41) (by rfl) (by rfl) ?_
 refine ub hf (by rfl) ?_
 refine fj (k := 5) (lS 5 (by decide) he) (by rfl) (by rfl) ?_
 refine Ω ?_ ?_
 ·exact ⟨rfl, trivial⟩
 ·exact ⟨rfl, rfl, rfl, rfl, rfl, rfl, rfl, rfl, rfl, rfl, rfl, trivial⟩
theorem IX {s s1 s2 s3 : PS} {x : List ay} (aG : cW s = some (s1, x)) (hw : bt s1 = some (s2, [117, 115, 101])) (hf : cZ 59 6 s2 s3) (he : aJ s3 = true) : eg s false 6 s3 := by
 have k1 := bV aG
 have k2 := bo hw
 have p2 : Ξ s1 s2 := aQ hw
 obtain ⟨l0, e0, rfl⟩ := aH aG
 obtain ⟨d, r0, g⟩ := s
 obtain ⟨d2, r2, g2⟩ := s2
 obtain rfl : d = d2 := p2.1.symm
 obtain rfl : g = g2 := p2.2.symm
 unfold eg
 refine aT ?_
 refine γ.ο ζ η Tryz.func21 rfl rfl ?_
 refine θ k1 (by rfl) (by rfl) ?_
 refine θ k2 (by rfl) (by rfl) ?_
 refine θ (Δ d _ _ rfl 41) (by rfl) (by rfl) ?_
 refine ub hf (by rfl) ?_
 refine fj (k := 6) (lS 6 (by decide) he) (by rfl) (by rfl) ?_
 refine Ω ?_ ?_
 ·exact ⟨rfl, trivial⟩
 ·exact ⟨rfl, rfl, rfl, rfl, rfl, rfl, rfl, rfl, rfl, rfl, rfl, trivial⟩
theorem FT {s s1 s2 s3 s4 : PS} {x : List ay} {nm : List UInt8} (aG : cW s = some (s1, x)) (hw : bt s1 = some (s2, [105, 115, 97])) (h3 : bt s2 = some (s3, nm)) (h4 : bt s3 = some (s4, [119, 111, 114, 100])) (he : aJ s4 = true) : eg s true 11 ⟨{ s.d with name := nm, order := 1 }, s4.rest, s.args⟩ := by
 have k1 := bV aG
 have k2 := bo hw
 have p2 : Ξ s1 s2 := aQ hw
 obtain ⟨l0, e0, rfl⟩ := aH aG
 obtain ⟨d, r0, g⟩ := s
 obtain ⟨d2, r2, g2⟩ := s2
 obtain rfl : d = d2 := p2.1.symm
 obtain rfl : g = g2 := p2.2.symm
 have k3 := bo h3
 have p3 : Ξ ⟨d, r2, g⟩ s3 := aQ h3
 have k4 := bo h4
 have p4 : Ξ ⟨d, r2, g⟩ s4 := p3.trans (aQ h4)
 obtain ⟨d3, r3, g3⟩ := s3
 obtain rfl : d = d3 := p3.1.symm
 obtain rfl : g = g3 := p3.2.symm
 obtain ⟨d4, r4, g4⟩ := s4
 obtain rfl : d = d4 := p4.1.symm
 obtain rfl : g = g4 := p4.2.symm
 unfold eg
 refine aT ?_
 refine γ.ο ζ η Tryz.func21 rfl rfl ?_
 refine θ k1 (by rfl) (by rfl) ?_
 refine θ k2 (by rfl) (by rfl) ?_
 refine θ (Δ d _ _ rfl 41) (by rfl) (by rfl) ?_
 refine θ k3 (by rfl) (by rfl) ?_
 refine θ k4 (by rfl) (by rfl) ?_
 refine θ (Δ d _ _ rfl 41) (by rfl) (by rfl) ?_
 refine θ (cJ (s := ⟨{ d with name := nm, order := 1 }, r4, g⟩) he) (by rfl) (by rfl) ?_
 refine Ω ?_ ?_
 ·exact ⟨rfl, trivial⟩
 ·exact ⟨rfl, rfl, rfl, rfl, rfl, rfl, rfl, rfl, rfl, rfl, rfl, trivial⟩
theorem FR {s s1 s2 s3 s4 : PS} {x : List ay} {nm : List UInt8} (aG : cW s = some (s1, x)) (hw : bt s1 = some (s2, [105, 115, 97])) (h3 : bt s2 = some (s3, nm)) (h4 : bt s3 = some (s4, [98, 121, 116, 101, 115])) (he : aJ s4 = true) : eg s true 11 ⟨{ s.d with name := nm, order := 2 }, s4.rest, s.args⟩ := by
 have k1 := bV aG
 have k2 := bo hw
 have p2 : Ξ s1 s2 := aQ hw
 obtain ⟨l0, e0, rfl⟩ := aH aG
 obtain ⟨d, r0, g⟩ := s
 obtain ⟨d2, r2, g2⟩ := s2
 obtain rfl : d = d2 := p2.1.symm
 obtain rfl : g = g2 := p2.2.symm
 have k3 := bo h3
 have p3 : Ξ ⟨d, r2, g⟩ s3 := aQ h3
 have k4 := bo h4
 have p4 : Ξ ⟨d, r2, g⟩ s4 := p3.trans (aQ h4)
 obtain ⟨d3, r3, g3⟩ := s3
 obtain rfl : d = d3 := p3.1.symm
 obtain rfl : g = g3 := p3.2.symm
 obtain ⟨d4, r4, g4⟩ := s4
 obtain rfl : d = d4 := p4.1.symm
 obtain rfl : g = g4 := p4.2.symm
 unfold eg
 refine aT ?_
 refine γ.ο ζ η Tryz.func21 rfl rfl ?_
 refine θ k1 (by rfl) (by rfl) ?_
 refine θ k2 (by rfl) (by rfl) ?_
 refine θ (Δ d _ _ rfl 41) (by rfl) (by rfl) ?_
 refine θ k3 (by rfl) (by rfl) ?_
 refine θ k4 (by rfl) (by rfl) ?_
 refine θ (Δ d _ _ rfl 41) (by rfl) (by rfl) ?_
 refine θ (cJ (s := ⟨{ d with name := nm, order := 2 }, r4, g⟩) he) (by rfl) (by rfl) ?_
 refine Ω ?_ ?_
 ·exact ⟨rfl, trivial⟩
 ·exact ⟨rfl, rfl, rfl, rfl, rfl, rfl, rfl, rfl, rfl, rfl, rfl, trivial⟩
theorem Dz {s s1 s2 s3 s4 s5 : PS} {x : List ay} {nm : List UInt8} {i : Nat} {n : Int} (hs : cE s) (aG : cW s = some (s1, x)) (hw : bt s1 = some (s2, [97, 108, 105, 97, 115])) (h3 : dm s2 2 = some (s3, nm)) (h4 : bK s3 1 = some (s4, i)) (h5 : cd s4 = some (s5, n)) (he : aJ s5 = true) : eg s false 1 ⟨{ s.d with aa := s.d.aa ++ [⟨nm, (i : Int), n⟩] }, s5.rest, s.args⟩ := by
 have k1 := bV aG
 have k2 := bo hw
 have p2 : Ξ s1 s2 := aQ hw
 obtain ⟨l0, e0, rfl⟩ := aH aG
 obtain ⟨d, r0, g⟩ := s
 obtain ⟨d2, r2, g2⟩ := s2
 obtain rfl : d = d2 := p2.1.symm
 obtain rfl : g = g2 := p2.2.symm
 have k3 := fw (hs.same ⟨p2.1, p2.2⟩) (by decide) h3
 have p3 : Ξ ⟨d, r2, g⟩ s3 := bG h3
 have k4 := dX (hs.same ⟨p3.1, p3.2⟩) (by decide) h4
 have p4 : Ξ ⟨d, r2, g⟩ s4 := p3.trans (bO h4)
 have k5 := cS h5
 have p5 : Ξ ⟨d, r2, g⟩ s5 := p4.trans (cu h5)
 have χ : d.aa.length + 1 ≤ 100000 := by
  have := (cP h3).2.2
  have : s3.d.aa.length < 256 := by simpa [bE, dS] using this
  rw [p3.1] at this
  have : d.aa.length < 256 := this
  omega
 obtain ⟨d3, r3, g3⟩ := s3
 obtain rfl : d = d3 := p3.1.symm
 obtain rfl : g = g3 := p3.2.symm
 obtain ⟨d4, r4, g4⟩ := s4
 obtain rfl : d = d4 := p4.1.symm
 obtain rfl : g = g4 := p4.2.symm
 obtain ⟨d5, r5, g5⟩ := s5
 obtain rfl : d = d5 := p5.1.symm
 obtain rfl : g = g5 := p5.2.symm
 unfold eg
 refine aT ?_
 refine γ.ο ζ η Tryz.func21 rfl rfl ?_
 refine θ k1 (by rfl) (by rfl) ?_
 refine θ k2 (by rfl) (by rfl) ?_
 refine θ (Δ d _ _ rfl 41) (by rfl) (by rfl) ?_
 refine θ k3 (by rfl) (by rfl) ?_
 refine θ k4 (by rfl) (by rfl) ?_
 refine θ k5 (by rfl) (by rfl) ?_
 refine Or.inl (And.intro (List.length_map _).symm (ε (cg χ rfl) ?_))
 refine γ.GP (args' := [qf 1 ⟨{ d with aa := d.aa ++ [(⟨nm, (i : Int), n⟩ : dw)] }, r5, g⟩]) (congrArg (fun n : Nat => [AV.agg [.t (.str d.name), .t (.int .i64 d.order), .sl 0 0 0 d.files.length, .sl 1 2 0 n, .sl 2 0 0 d.flags.length, .sl 3 0 0 d.classes.length, .sl 4 0 0 d.forms.length, .sl 5 0 0 d.au.length, .sl 6 0 0 d.uses.length, .sl 7 0 0 d.ar.length, .sl 8 0 0 d.macros.length, .sl 9 0 0 d.aR.length, .sl 10 0 0 d.aN.length, .t (.κ 4 (ω r5)), .t (.κ 2 (g.map Φ)), .t (.int .i64 0)]]) (bI d.aa (⟨nm, (i : Int), n⟩ : dw))) ?_
 refine fj (k := 1) (lS 1 (by decide) (s := ⟨{ d with aa := d.aa ++ [(⟨nm, (i : Int), n⟩ : dw)] }, r5, g⟩) he) (congrArg (fun l : List T => [Ψ.arr 152 4 true 0 (.ts (d.files.map dz)), Ψ.arr 139 3 true 2 (.ts l), Ψ.arr 9 1 true 0 (.ts (d.flags.map T.str)), Ψ.arr 95 7 true 0 (.ts (d.classes.map aV)), Ψ.arr 45 5 true 0 (.ts (d.forms.map ab)), Ψ.arr 167 17 true 0 (.ts (d.au.map ei)), Ψ.arr 164 4 true 0 (.ts (d.uses.map fE)), Ψ.arr 145 3 true 0 (.ts (d.ar.map cG)), Ψ.arr 173 3 true 0 (.ts (d.macros.map db)), Ψ.arr 147 2 true 0 (.ts (d.aR.map fk)), Ψ.arr 139 3 true 0 (.ts (d.aN.map bl))]) (List.map_append (f := bl) (l₁ := d.aa) (l₂ := [(⟨nm, (i : Int), n⟩ : dw)])).symm) rfl ?_
 refine Ω ?_ ?_
 ·exact ⟨rfl, trivial⟩
 ·exact ⟨rfl, bM bl d.aa (⟨nm, (i : Int), n⟩ : dw), rfl, rfl, rfl, rfl, rfl, rfl, rfl, rfl, rfl, trivial⟩
theorem IZ {s s1 s2 s3 s4 s5 : PS} {x : List ay} {nm : List UInt8} {i : Nat} {n : Int} (hs : cE s) (aG : cW s = some (s1, x)) (hw : bt s1 = some (s2, [114, 101, 103])) (h3 : dm s2 9 = some (s3, nm)) (h4 : bK s3 1 = some (s4, i)) (h5 : cd s4 = some (s5, n)) (he : aJ s5 = true) : eg s false 10 ⟨{ s.d with aN := s.d.aN ++ [⟨nm, (i : Int), n⟩] }, s5.rest, s.args⟩ := by
 have k1 := bV aG
 have k2 := bo hw
 have p2 : Ξ s1 s2 := aQ hw
 obtain ⟨l0, e0, rfl⟩ := aH aG
 obtain ⟨d, r0, g⟩ := s
 obtain ⟨d2, r2, g2⟩ := s2
 obtain rfl : d = d2 := p2.1.symm
 obtain rfl : g = g2 := p2.2.symm
 have k3 := fw (hs.same ⟨p2.1, p2.2⟩) (by decide) h3
 have p3 : Ξ ⟨d, r2, g⟩ s3 := bG h3
 have k4 := dX (hs.same ⟨p3.1, p3.2⟩) (by decide) h4
 have p4 : Ξ ⟨d, r2, g⟩ s4 := p3.trans (bO h4)
 have k5 := cS h5
 have p5 : Ξ ⟨d, r2, g⟩ s5 := p4.trans (cu h5)
 have χ : d.aN.length + 1 ≤ 100000 := by
  have := (cP h3).2.2
  have : s3.d.aN.length < 64 := by simpa [bE, dS] using this
  rw [p3.1] at this
  have : d.aN.length < 64 := this
  omega
 obtain ⟨d3, r3, g3⟩ := s3
 obtain rfl : d = d3 := p3.1.symm
 obtain rfl : g = g3 := p3.2.symm
 obtain ⟨d4, r4, g4⟩ := s4
 obtain rfl : d = d4 := p4.1.symm
 obtain rfl : g = g4 := p4.2.symm
 obtain ⟨d5, r5, g5⟩ := s5
 obtain rfl : d = d5 := p5.1.symm
 obtain rfl : g = g5 := p5.2.symm
 unfold eg
 refine aT ?_
 refine γ.ο ζ η Tryz.func21 rfl rfl ?_
 refine θ k1 (by rfl) (by rfl) ?_
 refine θ k2 (by rfl) (by rfl) ?_
 refine θ (Δ d _ _ rfl 41) (by rfl) (by rfl) ?_
 refine θ k3 (by rfl) (by rfl) ?_
 refine θ k4 (by rfl) (by rfl) ?_
 refine θ k5 (by rfl) (by rfl) ?_
 refine Or.inl (And.intro (List.length_map _).symm (ε (cg χ rfl) ?_))
 refine γ.GP (args' := [qf 10 ⟨{ d with aN := d.aN ++ [(⟨nm, (i : Int), n⟩ : dw)] }, r5, g⟩]) (congrArg (fun n : Nat => [AV.agg [.t (.str d.name), .t (.int .i64 d.order), .sl 0 0 0 d.files.length, .sl 1 0 0 d.aa.length, .sl 2 0 0 d.flags.length, .sl 3 0 0 d.classes.length, .sl 4 0 0 d.forms.length, .sl 5 0 0 d.au.length, .sl 6 0 0 d.uses.length, .sl 7 0 0 d.ar.length, .sl 8 0 0 d.macros.length, .sl 9 0 0 d.aR.length, .sl 10 2 0 n, .t (.κ 4 (ω r5)), .t (.κ 2 (g.map Φ)), .t (.int .i64 0)]]) (bI d.aN (⟨nm, (i : Int), n⟩ : dw))) ?_
 refine fj (k := 10) (lS 10 (by decide) (s := ⟨{ d with aN := d.aN ++ [(⟨nm, (i : Int), n⟩ : dw)] }, r5, g⟩) he) (congrArg (fun l : List T => [Ψ.arr 152 4 true 0 (.ts (d.files.map dz)), Ψ.arr 139 3 true 0 (.ts (d.aa.map bl)), Ψ.arr 9 1 true 0 (.ts (d.flags.map T.str)), Ψ.arr 95 7 true 0 (.ts (d.classes.map aV)), Ψ.arr 45 5 true 0 (.ts (d.forms.map ab)), Ψ.arr 167 17 true 0 (.ts (d.au.map ei)), Ψ.arr 164 4 true 0 (.ts (d.uses.map fE)), Ψ.arr 145 3 true 0 (.ts (d.ar.map cG)), Ψ.arr 173 3 true 0 (.ts (d.macros.map db)), Ψ.arr 147 2 true 0 (.ts (d.aR.map fk)), Ψ.arr 139 3 true 2 (.ts l)]) (List.map_append (f := bl) (l₁ := d.aN) (l₂ := [(⟨nm, (i : Int), n⟩ : dw)])).symm) rfl ?_
 refine Ω ?_ ?_
 ·exact ⟨rfl, trivial⟩
 ·exact ⟨rfl, rfl, rfl, rfl, rfl, rfl, rfl, rfl, rfl, rfl, bM bl d.aN (⟨nm, (i : Int), n⟩ : dw), trivial⟩
theorem FV {s s1 s2 s3 : PS} {x : List ay} {nm : List UInt8} (hs : cE s) (aG : cW s = some (s1, x)) (hw : bt s1 = some (s2, [102, 108, 97, 103])) (h3 : dm s2 3 = some (s3, nm)) (he : aJ s3 = true) : eg s false 2 ⟨{ s.d with flags := s.d.flags ++ [nm] }, s3.rest, s.args⟩ := by
 have k1 := bV aG
 have k2 := bo hw
 have p2 : Ξ s1 s2 := aQ hw
 obtain ⟨l0, e0, rfl⟩ := aH aG
 obtain ⟨d, r0, g⟩ := s
 obtain ⟨d2, r2, g2⟩ := s2
 obtain rfl : d = d2 := p2.1.symm
 obtain rfl : g = g2 := p2.2.symm
 have k3 := fw (hs.same ⟨p2.1, p2.2⟩) (by decide) h3
 have p3 : Ξ ⟨d, r2, g⟩ s3 := bG h3
 have χ : d.flags.length + 1 ≤ 100000 := by
  have := (cP h3).2.2
  have : s3.d.flags.length < 16 := by simpa [bE, dS] using this
  rw [p3.1] at this
  have : d.flags.length < 16 := this
  omega
 obtain ⟨d3, r3, g3⟩ := s3
 obtain rfl : d = d3 := p3.1.symm
 obtain rfl : g = g3 := p3.2.symm
 unfold eg
 refine aT ?_
 refine γ.ο ζ η Tryz.func21 rfl rfl ?_
 refine θ k1 (by rfl) (by rfl) ?_
 refine θ k2 (by rfl) (by rfl) ?_
 refine θ (Δ d _ _ rfl 41) (by rfl) (by rfl) ?_
 refine θ k3 (by rfl) (by rfl) ?_
 refine Or.inl (And.intro (List.length_map _).symm (ε (cg χ rfl) ?_))
 refine γ.GP (args' := [qf 2 ⟨{ d with flags := d.flags ++ [nm] }, r3, g⟩]) (congrArg (fun n : Nat => [AV.agg [.t (.str d.name), .t (.int .i64 d.order), .sl 0 0 0 d.files.length, .sl 1 0 0 d.aa.length, .sl 2 2 0 n, .sl 3 0 0 d.classes.length, .sl 4 0 0 d.forms.length, .sl 5 0 0 d.au.length, .sl 6 0 0 d.uses.length, .sl 7 0 0 d.ar.length, .sl 8 0 0 d.macros.length, .sl 9 0 0 d.aR.length, .sl 10 0 0 d.aN.length, .t (.κ 4 (ω r3)), .t (.κ 2 (g.map Φ)), .t (.int .i64 0)]]) (bI d.flags nm)) ?_
 refine fj (k := 2) (lS 2 (by decide) (s := ⟨{ d with flags := d.flags ++ [nm] }, r3, g⟩) he) (congrArg (fun l : List T => [Ψ.arr 152 4 true 0 (.ts (d.files.map dz)), Ψ.arr 139 3 true 0 (.ts (d.aa.map bl)), Ψ.arr 9 1 true 2 (.ts l), Ψ.arr 95 7 true 0 (.ts (d.classes.map aV)), Ψ.arr 45 5 true 0 (.ts (d.forms.map ab)), Ψ.arr 167 17 true 0 (.ts (d.au.map ei)), Ψ.arr 164 4 true 0 (.ts (d.uses.map fE)), Ψ.arr 145 3 true 0 (.ts (d.ar.map cG)), Ψ.arr 173 3 true 0 (.ts (d.macros.map db)), Ψ.arr 147 2 true 0 (.ts (d.aR.map fk)), Ψ.arr 139 3 true 0 (.ts (d.aN.map bl))]) (List.map_append (f := T.str) (l₁ := d.flags) (l₂ := [nm])).symm) rfl ?_
 refine Ω ?_ ?_
 ·exact ⟨rfl, trivial⟩
 ·exact ⟨rfl, rfl, bM T.str d.flags nm, rfl, rfl, rfl, rfl, rfl, rfl, rfl, rfl, trivial⟩
theorem Dw {s s1 s2 s3 s4 s5 : PS} {x : List ay} {a b c : Nat} (hs : cE s) (aG : cW s = some (s1, x)) (hw : bt s1 = some (s2, [114, 101, 108, 97, 120])) (hl : s2.d.ar.length < 16) (h3 : bK s2 6 = some (s3, a)) (h4 : bK s3 5 = some (s4, b)) (h5 : bK s4 6 = some (s5, c)) (he : aJ s5 = true) : eg s false 7 ⟨{ s.d with ar := s.d.ar ++ [⟨(a : Int), (b : Int), (c : Int)⟩] }, s5.rest, s.args⟩ := by
 have k1 := bV aG
 have k2 := bo hw
 have p2 : Ξ s1 s2 := aQ hw
 obtain ⟨l0, e0, rfl⟩ := aH aG
 obtain ⟨d, r0, g⟩ := s
 obtain ⟨d2, r2, g2⟩ := s2
 obtain rfl : d = d2 := p2.1.symm
 obtain rfl : g = g2 := p2.2.symm
 have k3 := dX (hs.same ⟨p2.1, p2.2⟩) (by decide) h3
 have p3 : Ξ ⟨d, r2, g⟩ s3 := bO h3
 have k4 := dX (hs.same ⟨p3.1, p3.2⟩) (by decide) h4
 have p4 : Ξ ⟨d, r2, g⟩ s4 := p3.trans (bO h4)
 have k5 := dX (hs.same ⟨p4.1, p4.2⟩) (by decide) h5
 have p5 : Ξ ⟨d, r2, g⟩ s5 := p4.trans (bO h5)
 have hl : d.ar.length < 16 := hl
 have rR : decide (((d.ar.length : Nat) : Int) ≥ 16) = false := decide_eq_false (by omega)
 have χ : d.ar.length + 1 ≤ 100000 := by omega
 obtain ⟨d3, r3, g3⟩ := s3
 obtain rfl : d = d3 := p3.1.symm
 obtain rfl : g = g3 := p3.2.symm
 obtain ⟨d4, r4, g4⟩ := s4
 obtain rfl : d = d4 := p4.1.symm
 obtain rfl : g = g4 := p4.2.symm
 obtain ⟨d5, r5, g5⟩ := s5
 obtain rfl : d = d5 := p5.1.symm
 obtain rfl : g = g5 := p5.2.symm
 unfold eg
 refine aT ?_
 refine γ.ο ζ η Tryz.func21 rfl rfl ?_
 refine θ k1 (by rfl) (by rfl) ?_
 refine θ k2 (by rfl) (by rfl) ?_
 refine θ (Δ d _ _ rfl 41) (by rfl) (by rfl) ?_
 refine θ (Δ d _ _ rR 43) (by rfl) (by rfl) ?_
 refine θ k3 (by rfl) (by rfl) ?_
 refine θ k4 (by rfl) (by rfl) ?_
 refine θ k5 (by rfl) (by rfl) ?_
 refine Or.inl (And.intro (List.length_map _).symm (ε (cg χ rfl) ?_))
 refine γ.GP (args' := [qf 7 ⟨{ d with ar := d.ar ++ [(⟨(a : Int), (b : Int), (c : Int)⟩ : d_)] }, r5, g⟩]) (congrArg (fun n : Nat => [AV.agg [.t (.str d.name), .t (.int .i64 d.order), .sl 0 0 0 d.files.length, .sl 1 0 0 d.aa.length, .sl 2 0 0 d.flags.length, .sl 3 0 0 d.classes.length, .sl 4 0 0 d.forms.length, .sl 5 0 0 d.au.length, .sl 6 0 0 d.uses.length, .sl 7 2 0 n, .sl 8 0 0 d.macros.length, .sl 9 0 0 d.aR.length, .sl 10 0 0 d.aN.length, .t (.κ 4 (ω r5)), .t (.κ 2 (g.map Φ)), .t (.int .i64 0)]]) (bI d.ar (⟨(a : Int), (b : Int), (c : Int)⟩ : d_))) ?_
 refine fj (k := 7) (lS 7 (by decide) (s := ⟨{ d with ar := d.ar ++ [(⟨(a : Int), (b : Int), (c : Int)⟩ : d_)] }, r5, g⟩) he) (congrArg (fun l : List T => [Ψ.arr 152 4 true 0 (.ts (d.files.map dz)), Ψ.arr 139 3 true 0 (.ts (d.aa.map bl)), Ψ.arr 9 1 true 0 (.ts (d.flags.map T.str)), Ψ.arr 95 7 true 0 (.ts (d.classes.map aV)), Ψ.arr 45 5 true 0 (.ts (d.forms.map ab)), Ψ.arr 167 17 true 0 (.ts (d.au.map ei)), Ψ.arr 164 4 true 0 (.ts (d.uses.map fE)), Ψ.arr 145 3 true 2 (.ts l), Ψ.arr 173 3 true 0 (.ts (d.macros.map db)), Ψ.arr 147 2 true 0 (.ts (d.aR.map fk)), Ψ.arr 139 3 true 0 (.ts (d.aN.map bl))]) (List.map_append (f := cG) (l₁ := d.ar) (l₂ := [(⟨(a : Int), (b : Int), (c : Int)⟩ : d_)])).symm) rfl ?_
 refine Ω ?_ ?_
 ·exact ⟨rfl, trivial⟩
 ·exact ⟨rfl, rfl, rfl, rfl, rfl, rfl, rfl, bM cG d.ar (⟨(a : Int), (b : Int), (c : Int)⟩ : d_), rfl, rfl, rfl, trivial⟩
theorem I0 {s s1 s2 s3 s4 : PS} {x : List ay} {nm : List UInt8} {n : Int} (hs : cE s) (aG : cW s = some (s1, x)) (hw : bt s1 = some (s2, [110, 117, 109])) (h3 : dm s2 8 = some (s3, nm)) (h4 : kS s3 = some (s4, n)) (he : aJ s4 = true) : eg s false 9 ⟨{ s.d with aR := s.d.aR ++ [⟨nm, n⟩] }, s4.rest, s.args⟩ := by
 have k1 := bV aG
 have k2 := bo hw
 have p2 : Ξ s1 s2 := aQ hw
 obtain ⟨l0, e0, rfl⟩ := aH aG
 obtain ⟨d, r0, g⟩ := s
 obtain ⟨d2, r2, g2⟩ := s2
 obtain rfl : d = d2 := p2.1.symm
 obtain rfl : g = g2 := p2.2.symm
 have k3 := fw (hs.same ⟨p2.1, p2.2⟩) (by decide) h3
 have p3 : Ξ ⟨d, r2, g⟩ s3 := bG h3
 have χ : d.aR.length + 1 ≤ 100000 := by
  have := (cP h3).2.2
  have : s3.d.aR.length < 64 := by simpa [bE, dS] using this
  rw [p3.1] at this
  have : d.aR.length < 64 := this
  omega
 obtain ⟨r4, e4, rfl⟩ := iH h4
 obtain ⟨d3, r3, g3⟩ := s3
 obtain rfl : d = d3 := p3.1.symm
 obtain rfl : g = g3 := p3.2.symm
 obtain rfl : r3 = _ := e4
 unfold eg
 refine aT ?_
 refine γ.ο ζ η Tryz.func21 rfl rfl ?_
 refine θ k1 (by rfl) (by rfl) ?_
 refine θ k2 (by rfl) (by rfl) ?_
 refine θ (Δ d _ _ rfl 41) (by rfl) (by rfl) ?_
 refine θ k3 (by rfl) (by rfl) ?_
 refine θ (dj d 2 [] n [] (ω r4) (g.map Φ) (.inr rfl)) (by rfl) (by rfl) ?_
 refine Or.inl (And.intro (List.length_map _).symm (ε (cg χ rfl) ?_))
 refine γ.GP (args' := [qf 9 ⟨{ d with aR := d.aR ++ [(⟨nm, n⟩ : jW)] }, r4, g⟩]) (congrArg (fun n : Nat => [AV.agg [.t (.str d.name), .t (.int .i64 d.order), .sl 0 0 0 d.files.length, .sl 1 0 0 d.aa.length, .sl 2 0 0 d.flags.length, .sl 3 0 0 d.classes.length, .sl 4 0 0 d.forms.length, .sl 5 0 0 d.au.length, .sl 6 0 0 d.uses.length, .sl 7 0 0 d.ar.length, .sl 8 0 0 d.macros.length, .sl 9 2 0 n, .sl 10 0 0 d.aN.length, .t (.κ 4 (ω r4)), .t (.κ 2 (g.map Φ)), .t (.int .i64 0)]]) (bI d.aR (⟨nm, n⟩ : jW))) ?_
 refine fj (k := 9) (lS 9 (by decide) (s := ⟨{ d with aR := d.aR ++ [(⟨nm, n⟩ : jW)] }, r4, g⟩) he) (congrArg (fun l : List T => [Ψ.arr 152 4 true 0 (.ts (d.files.map dz)), Ψ.arr 139 3 true 0 (.ts (d.aa.map bl)), Ψ.arr 9 1 true 0 (.ts (d.flags.map T.str)), Ψ.arr 95 7 true 0 (.ts (d.classes.map aV)), Ψ.arr 45 5 true 0 (.ts (d.forms.map ab)), Ψ.arr 167 17 true 0 (.ts (d.au.map ei)), Ψ.arr 164 4 true 0 (.ts (d.uses.map fE)), Ψ.arr 145 3 true 0 (.ts (d.ar.map cG)), Ψ.arr 173 3 true 0 (.ts (d.macros.map db)), Ψ.arr 147 2 true 2 (.ts l), Ψ.arr 139 3 true 0 (.ts (d.aN.map bl))]) (List.map_append (f := fk) (l₁ := d.aR) (l₂ := [(⟨nm, n⟩ : jW)])).symm) rfl ?_
 refine Ω ?_ ?_
 ·exact ⟨rfl, trivial⟩
 ·exact ⟨rfl, rfl, rfl, rfl, rfl, rfl, rfl, rfl, rfl, bM fk d.aR (⟨nm, n⟩ : jW), rfl, trivial⟩
end Go.Proofs.YtcogcbplmkcojaaGreatDoor
namespace Go.Proofs.YtcogcbplmkcojaaGreatDoor
open Go.IntWalk
set_option maxRecDepth 100000
set_option linter.unusedVariables false
set_option linter.unusedSimpArgs false
set_option maxHeartbeats 4000000
theorem ug : ∀ (n : Nat) (s : PS) (c : jZ) {s' : PS} {c' : jZ}, ct n s c = some (s', c') → Ξ s s'
 | 0, s, c, s', c', h => by cases h
 | n + 1, s, c, s', c', h => by
  unfold ct at h
  split at h
  ·cases h; exact ⟨rfl, rfl⟩
  split at h
  ·cases h
  rename_i t rest aG
  split at h
  ·cases h
  rename_i t2 head hw
  split at h
  ·cases h
  rename_i i hi
  dsimp only at h
  split at h
  ·cases h
  split at h
  ·cases h
  rename_i t3 m hm
  split at h
  ·cases h
  rename_i t4 c4 h4
  split at h
  rotate_left 1
  ·cases h
  obtain ⟨l, e, rfl⟩ := aH aG
  have p3 : Ξ s t3 := Ξ.trans (s := s) (t := ⟨s.d, l, s.args⟩) ⟨rfl, rfl⟩ (Ξ.trans (aQ hw) (cu hm))
  have p4 : Ξ t3 t4 := by
   split at h4
   ·cases h4; exact ⟨rfl, rfl⟩
   ·cases h4; exact ⟨rfl, rfl⟩
   ·split at h4
    ·rename_i t5 lo lM
     cases h4
     exact cu lM
    ·cases h4
   ·cases h4; exact ⟨rfl, rfl⟩
  have p := p3.trans p4
  have := ug n _ _ h
  exact ⟨this.1.trans p.1, this.2.trans p.2⟩
theorem E1 : ∀ (n : Nat) (s : PS) (l : List T) {s' : PS} {l' : List T}, cE s → uX n s l = some (s', l') → Ξ s s'
 | 0, s, l, s', l', _, h => by cases h
 | n + 1, s, l, s', l', hs, h => by
  unfold uX at h
  split at h
  ·cases h; exact ⟨rfl, rfl⟩
  ·split at h
   rotate_left 1
   ·cases h
   rename_i u k hk
   split at h
   ·have p := (yK 40 _ _ _ hs hk).1
    exact p.trans (E1 n u _ (hs.same p) h)
   ·cases h
theorem Ak : ∀ (n : Nat) (s : PS) (l : List (List UInt8)) {s' : PS} {l' : List (List UInt8)}, jg n s l = some (s', l') → Ξ s s'
 | 0, s, l, s', l', h => by cases h
 | n + 1, s, l, s', l', h => by
  unfold jg at h
  split at h
  ·cases h; exact ⟨rfl, rfl⟩
  ·split at h
   rotate_left 1
   ·cases h
   rename_i u w hw
   split at h
   ·exact (xf hw).trans (Ak n u _ h)
   ·cases h
def gB (s : PS) : Prop := cE s ∧ ∀ c ∈ s.d.classes, 0 ≤ c.bits ∧ c.bits ≤ 1000000000000000000
theorem gB.same {s s' : PS} (h : gB s) (e : Ξ s s') : gB s' := ⟨h.1.same e, by rw [e.1]; exact h.2⟩
theorem iZ {s s' : PS} {k : Nat} {w : List UInt8} (h : dm s k = some (s', w)) : (bE s' k).length < dS k := (cP h).2.2
theorem yT : ∀ (n : Nat) (s : PS) {s' : PS}, oz n s = some s' → s.args.length ≤ 100000 → s'.args.length ≤ 100000
 | 0, s, s', h, _ => by cases h
 | n + 1, s, s', h, hl => by
  unfold oz at h
  split at h
  ·cases h; exact hl
  ·split at h
   ·cases h
   rename_i u inner hu
   split at h
   ·cases h
   rename_i u2 name hf
   split at h
   ·cases h
   rename_i u3 c hk
   split at h
   ·refine yT n _ h ?_
    have h1 := iZ hf
    have : u2.args.length < 6 := by simpa [bE, dS] using h1
    show (u3.args ++ [_]).length ≤ 100000
    rw [(bO hk).2]
    simp; omega
   ·cases h
theorem E4 {s s' : PS} (hs : gB s) (h : zS s = some s') : cZ 58 5 s s' ∧ gB s' := by
 unfold zS at h
 split at h
 ·cases h
 rename_i s1 name hf
 split at h
 ·cases h
 rename_i s2 num gA
 split at h
 ·cases h
 rename_i s3 kw gQ
 split at h
 ·cases h
 rename_i kind fh
 split at h
 ·cases h
 rename_i s4 bytes mg
 split at h
 ·cases h
 rename_i s5 bn cm
 split at h
 ·cases h
 rename_i s6 lV jN
 have f3 : Ξ s s3 := ((bG hf).trans (cu gA)).trans (aQ gQ)
 have hk := qB fh
 have χ : s.d.au.length + 1 ≤ 100000 := by
  have := iZ hf
  have : s1.d.au.length < 128 := by simpa [bE, dS] using this
  rw [(bG hf).1] at this
  omega
 have hI : ∀ (x : gY) (r : List ay), gB ⟨{ s.d with au := s.d.au ++ [x] }, r, s.args⟩ := fun x r => ⟨⟨hs.1.1, hs.1.2.1, hs.1.2.2.1, hs.1.2.2.2.1, hs.1.2.2.2.2.1, by show (s.d.au ++ [x]).length ≤ 100000; simp; omega, hs.1.2.2.2.2.2.2.1, hs.1.2.2.2.2.2.2.2.1, hs.1.2.2.2.2.2.2.2.2⟩, hs.2⟩
 have : kind = 1 ∨ kind = 2 ∨ kind = 3 ∨ kind = 4 := by omega
 rcases this with rfl | rfl | rfl | rfl
 ·have mg : some (s3, (0 : Int)) = some (s4, bytes) := mg
  cases mg
  have cm : some (s3, (0 : Int)) = some (s5, bn) := cm
  cases cm
  have jN : some (s3, (0 : Int)) = some (s6, lV) := jN
  cases jN
  cases h
  rw [f3.1, f3.2]
  exact ⟨On hs.1 hf gA gQ fh, hI _ _⟩
 ·have mg : cd s3 = some (s4, bytes) := mg
  have cm : some (s4, (0 : Int)) = some (s5, bn) := cm
  cases cm
  have jN : some (s4, (0 : Int)) = some (s6, lV) := jN
  cases jN
  have h : (match kI 40 s4 with | none => none | some (s, (op, w, a, b), ks) => match ct 10 s ⟨0, 0, 0, 0, -1, 0, []⟩ with | none => none | some (s, c) => some (⟨{ s.d with au := s.d.au ++ [⟨name, num, ((2 : Nat) : Int), bytes, 0, 0, op, w, a, b, ks, c.sign, c.width, c.align, c.round, c.hi, c.lo⟩] }, s.rest, s.args⟩ : PS)) = some s' := h
  split at h
  ·cases h
  rename_i s8 op w a b ks jz
  split at h
  ·cases h
  rename_i s9 c9 kh
  cases h
  have p := ((f3.trans (cu mg)).trans (oF 40 _ _ _ _ _ _ _ jz).1).trans (ug _ _ _ kh)
  rw [p.1, p.2]
  exact ⟨Om hs.1 hf gA gQ fh mg jz kh, hI _ _⟩
 ·have mg : some (s3, (0 : Int)) = some (s4, bytes) := mg
  cases mg
  have cm : (match bK s3 4 with | some (s, c) => some (s, (c : Int)) | none => none) = some (s5, bn) := cm
  split at cm
  rotate_left 1
  ·cases cm
  rename_i Mg cl Gt
  cases cm
  have jN : some (s5, (0 : Int)) = some (s6, lV) := jN
  cases jN
  have h : (match kI 40 s5 with | none => none | some (s, (op, w, a, b), ks) => match ct 10 s ⟨0, 0, 0, 0, -1, 0, []⟩ with | none => none | some (s, c) => some (⟨{ s.d with au := s.d.au ++ [⟨name, num, ((3 : Nat) : Int), 0, (cl : Int), 0, op, w, a, b, ks, c.sign, c.width, c.align, c.round, c.hi, c.lo⟩] }, s.rest, s.args⟩ : PS)) = some s' := h
  split at h
  ·cases h
  rename_i s8 op w a b ks jz
  split at h
  ·cases h
  rename_i s9 c9 kh
  cases h
  have p := ((f3.trans (bO Gt)).trans (oF 40 _ _ _ _ _ _ _ jz).1).trans (ug _ _ _ kh)
  rw [p.1, p.2]
  exact ⟨Ol hs.1 hf gA gQ fh Gt jz kh, hI _ _⟩
 ·have mg : some (s3, (0 : Int)) = some (s4, bytes) := mg
  cases mg
  have cm : (match bK s3 4 with | some (s, c) => some (s, (c : Int)) | none => none) = some (s5, bn) := cm
  split at cm
  rotate_left 1
  ·cases cm
  rename_i Mg cl Gt
  cases cm
  have jN : (match bK s5 4 with | some (s, c) => some (s, (c : Int)) | none => none) = some (s6, lV) := jN
  split at jN
  rotate_left 1
  ·cases jN
  rename_i S6 Bh Po
  cases jN
  have h : (match kI 40 s6 with | none => none | some (s, (op, w, a, b), ks) => match ct 10 s ⟨0, 0, 0, 0, -1, 0, []⟩ with | none => none | some (s, c) => some (⟨{ s.d with au := s.d.au ++ [⟨name, num, ((4 : Nat) : Int), 0, (cl : Int), (Bh : Int), op, w, a, b, ks, c.sign, c.width, c.align, c.round, c.hi, c.lo⟩] }, s.rest, s.args⟩ : PS)) = some s' := h
  split at h
  ·cases h
  rename_i s8 op w a b ks jz
  split at h
  ·cases h
  rename_i s9 c9 kh
  cases h
  have p := (((f3.trans (bO Gt)).trans (bO Po)).trans (oF 40 _ _ _ _ _ _ _ jz).1).trans (ug _ _ _ kh)
  rw [p.1, p.2]
  exact ⟨Ok hs.1 hf gA gQ fh Gt Po jz kh, hI _ _⟩
theorem Js {s s' : PS} (hs : gB s) (h : rV s = some s') : gB s' := by
 unfold rV at h
 split at h
 ·cases h
 rename_i s0 name hn
 split at h
 ·cases h
 split at h
 ·cases h
 split at h
 ·cases h
 rename_i s1 nm hf
 split at h
 ·cases h
 rename_i s2 count hc
 split at h
 ·cases h
 rename_i s3 width hw
 have p : Ξ s s3 := ((bG hf).trans (cu hc)).trans (cu hw)
 have χ : s.d.files.length + 1 ≤ 100000 := by
  have := iZ hf
  have : s1.d.files.length < 8 := by simpa [bE, dS] using this
  rw [(bG hf).1] at this
  omega
 have hI : ∀ (x : h_) (r : List ay), gB ⟨{ s.d with files := s.d.files ++ [x] }, r, s.args⟩ := fun x r => ⟨⟨by show (s.d.files ++ [x]).length ≤ 100000; simp; omega, hs.1.2.1, hs.1.2.2.1, hs.1.2.2.2.1, hs.1.2.2.2.2.1, hs.1.2.2.2.2.2.1, hs.1.2.2.2.2.2.2.1, hs.1.2.2.2.2.2.2.2.1, hs.1.2.2.2.2.2.2.2.2⟩, hs.2⟩
 split at h
 ·split at h
  rotate_left 1
  ·cases h
  rename_i s5 z hz
  cases h
  have ir : Ξ s3 s5 := cu (s := g7 s3) hz
  have p := p.trans ir
  rw [p.1, p.2]
  exact hI _ _
 ·cases h
  rw [p.1, p.2]
  exact hI _ _
theorem GY {s s' : PS} (hs : gB s) (h : pu s = some s') : gB s' := by
 unfold pu at h
 split at h
 ·cases h
 rename_i s1 name hf
 split at h
 ·cases h
 rename_i s2 kw gQ
 split at h
 ·cases h
 rename_i kind fh
 split at h
 ·cases h
 rename_i s3 file fA
 split at h
 ·cases h
 rename_i s4 bits gx
 split at h
 ·cases h
 rename_i s5 plus m9
 split at h
 ·cases h
 rename_i s6 shift kq
 split at h
 ·cases h
 rename_i s7 bb hex
 cases h
 have f2 : Ξ s s2 := (bG hf).trans (aQ gQ)
 have f3 : Ξ s2 s3 := by
  split at fA
  ·split at fA
   ·rename_i hk
    cases fA
    exact bO hk
   ·cases fA
  ·cases fA; exact ⟨rfl, rfl⟩
 have f67 : Ξ s6 s7 := by
  cases hp : dR s6 [101, 120, 99, 101, 112, 116] with
  | true => rw [hp] at hex; exact (tz _ (g7 s6) _ hex)
  | false => rw [hp] at hex; cases hex; exact ⟨rfl, rfl⟩
 have p : Ξ s s7 := ((((f2.trans f3).trans (cu gx)).trans (rG m9)).trans (rG kq)).trans f67
 have χ : s.d.classes.length + 1 ≤ 100000 := by
  have := iZ hf
  have : s1.d.classes.length < 64 := by simpa [bE, dS] using this
  rw [(bG hf).1] at this
  omega
 obtain ⟨_, _, _, Cn, kt⟩ := pQ gx
 rw [p.1, p.2]
 refine ⟨⟨hs.1.1, hs.1.2.1, hs.1.2.2.1, by show (s.d.classes ++ [_]).length ≤ 100000; simp; omega, hs.1.2.2.2.2.1, hs.1.2.2.2.2.2.1, hs.1.2.2.2.2.2.2.1, hs.1.2.2.2.2.2.2.2.1, hs.1.2.2.2.2.2.2.2.2⟩, fun c hc => ?_⟩
 have hc : c ∈ s.d.classes ++ [_] := hc
 rcases List.mem_append.1 hc with hc | hc
 ·exact hs.2 c hc
 ·rw [List.mem_singleton.1 hc]
  exact ⟨Cn, kt⟩
theorem Jp {s s' : PS} (hs : gB s) (h : rS s = some s') : gB s' := by
 unfold rS at h
 split at h
 ·cases h
 rename_i s1 name hf
 split at h
 ·cases h
 rename_i s2 ea AA
 split at h
 ·cases h
 rename_i s3 mS kf
 split at h
 ·cases h
 rename_i s4 fM
 split at h
 ·cases h
 rename_i s5 vJ tf
 split at h
 ·cases h
 rename_i s6 ps J9
 split at h
 ·cases h
 rename_i s7 rq Ke
 split at h
 ·cases h
 rename_i s8 gj I6
 cases h
 have f1 : Ξ ⟨s.d, s.rest, []⟩ s1 := bG hf
 have χ : s.d.forms.length + 1 ≤ 100000 := by
  have := iZ hf
  have : s1.d.forms.length < 512 := by simpa [bE, dS] using this
  rw [f1.1] at this
  have : s.d.forms.length < 512 := this
  omega
 have f2 : Ξ ⟨s.d, s.rest, []⟩ s2 := f1.trans (xf AA)
 obtain ⟨l3, e3, rfl⟩ := aH kf
 have e4 := xI _ _ fM
 have hG : s4.args.length ≤ 100000 := yT _ _ fM (by show s2.args.length ≤ 100000; rw [f2.2]; exact Nat.zero_le _)
 obtain ⟨l5, e5, rfl⟩ := aH tf
 have e6 := u9 _ _ _ J9
 obtain ⟨l7, e7, rfl⟩ := aH Ke
 have e8 : Ξ s6 s8 := E1 _ ⟨s6.d, l7, s6.args⟩ _ (by
  have bH : cE ⟨s6.d, l7, s6.args⟩ := by
   have hd : s6.d = s.d := e6.1.trans (e4.trans f2.1)
   have hg : s6.args = s4.args := e6.2
   rw [hd, hg]
   exact ⟨hs.1.1, hs.1.2.1, hs.1.2.2.1, hs.1.2.2.2.1, hs.1.2.2.2.2.1, hs.1.2.2.2.2.2.1, hs.1.2.2.2.2.2.2.1, hs.1.2.2.2.2.2.2.2.1, hG⟩
  exact bH) I6
 have hd : s8.d = s.d := e8.1.trans (e6.1.trans (e4.trans f2.1))
 have hg : s8.args = s4.args := e8.2.trans e6.2
 rw [hd, hg]
 exact ⟨⟨hs.1.1, hs.1.2.1, hs.1.2.2.1, hs.1.2.2.2.1, by show (s.d.forms ++ [_]).length ≤ 100000; simp; omega, hs.1.2.2.2.2.2.1, hs.1.2.2.2.2.2.2.1, hs.1.2.2.2.2.2.2.2.1, hG⟩, hs.2⟩
theorem FM {s s' : PS} (hs : gB s) (h : oX s = some s') : gB s' := by
 unfold oX at h
 split at h
 ·cases h
 split at h
 ·cases h
 rename_i s1 ea AA
 split at h
 ·cases h
 rename_i s2 rel mF
 split at h
 ·cases h
 rename_i s3 rest aG
 split at h
 ·cases h
 rename_i s4 lines sm
 cases h
 have f2 : Ξ s1 s2 := by
  cases hp : dR s1 [110, 111, 110, 101] with
  | true => rw [hp] at mF; cases mF; exact ⟨rfl, rfl⟩
  | false =>
   rw [hp] at mF
   dsimp only at mF
   split at mF
   ·rename_i hk
    cases mF
    exact bO hk
   ·cases mF
 obtain ⟨l3, e3, rfl⟩ := aH aG
 have f4 : Ξ s2 s4 := Ak _ ⟨s2.d, l3, s2.args⟩ _ sm
 have p : Ξ s s4 := ((xf AA).trans f2).trans f4
 rw [p.1, p.2]
 exact ⟨hs.1, hs.2⟩
theorem KX {s s' : PS} (hs : gB s) (h : uO s = some s') : gB s' := by
 unfold uO at h
 split at h
 ·cases h
 split at h
 ·cases h
 rename_i s1 m hm
 split at h
 ·cases h
 rename_i s2 c hc
 split at h
 ·cases h
 rename_i s3 r hr
 have p0 : Ξ s s1 := aQ hm
 have p : Ξ s s3 := (p0.trans (bO hc)).trans (bO hr)
 dsimp only at h
 split at h
 ·cases h
  rw [p.1, p.2]
  exact ⟨hs.1, hs.2⟩
 ·cases h
  rw [p.1, p.2]
  exact ⟨hs.1, hs.2⟩
theorem Lw {s s' : PS} {first : Bool} (hs : gB s) (h : v9 s first = some s') : ∃ k, k ≤ 11 ∧ eg s first k s' ∧ gB s' := by
 unfold v9 at h
 split at h
 ·cases h
 rename_i s1 x aG
 split at h
 ·cases h
 rename_i s2 head hw
 have p2 : Ξ s s2 := by
  obtain ⟨l, e, rfl⟩ := aH aG
  exact aQ (s := ⟨s.d, l, s.args⟩) hw
 have fa : gB s2 := hs.same p2
 cases Jc : cH head 0 [[105, 115, 97], [102, 105, 108, 101], [97, 108, 105, 97, 115], [114, 101, 103], [102, 108, 97, 103], [99, 108, 97, 115, 115], [102, 111, 114, 109], [109, 97, 99, 114, 111], [114, 101, 108], [117, 115, 101], [114, 101, 108, 97, 120], [110, 117, 109]] with
 | none => rw [Jc] at h; cases h
 | some j =>
 rw [Jc] at h
 obtain ⟨i, v, e1, q2, q3⟩ := aZ _ _ _ _ Jc
 match i, q2 with
 | 0, q2 =>
  cases q2
  subst q3
  obtain rfl : j = 0 := by omega
  cases first with
  | false => cases h
  | true =>
  have h : (match (match bt s2 with | none => none | some (s, name) => match bt s with | none => none | some (s, order) => match jA order [119, 111, 114, 100] with | true => some (⟨{ s.d with name := name, order := 1 }, s.rest, s.args⟩ : PS) | false => match jA order [98, 121, 116, 101, 115] with | true => some ⟨{ s.d with name := name, order := 2 }, s.rest, s.args⟩ | false => none) with | none => none | some s => match aJ s with | true => some s | false => none) = some s' := h
  cases h3 : bt s2 with
  | none => rw [h3] at h; cases h
  | some y =>
  obtain ⟨s3, nm⟩ := y
  rw [h3] at h
  dsimp only at h
  cases h4 : bt s3 with
  | none => rw [h4] at h; cases h
  | some y =>
  obtain ⟨s4, order⟩ := y
  rw [h4] at h
  dsimp only at h
  have p4 : Ξ s s4 := (p2.trans (aQ h3)).trans (aQ h4)
  cases ho : jA order [119, 111, 114, 100] with
  | true =>
   obtain rfl := j6 _ _ ho
   rw [ho] at h
   dsimp only at h
   split at h
   rotate_left 1
   ·cases h
   rename_i he
   cases h
   rw [p4.1, p4.2]
   exact ⟨11, Nat.le_refl _, FT aG hw h3 h4 he, ⟨hs.1, hs.2⟩⟩
  | false =>
   rw [ho] at h
   dsimp only at h
   cases MU : jA order [98, 121, 116, 101, 115] with
   | false => rw [MU] at h; cases h
   | true =>
    obtain rfl := j6 _ _ MU
    rw [MU] at h
    dsimp only at h
    split at h
    rotate_left 1
    ·cases h
    rename_i he
    cases h
    rw [p4.1, p4.2]
    exact ⟨11, Nat.le_refl _, FR aG hw h3 h4 he, ⟨hs.1, hs.2⟩⟩
 | 1, q2 =>
  cases q2
  subst q3
  obtain rfl : j = 1 := by omega
  cases first with
  | true => cases h
  | false =>
  have h : (match (rV s2) with | none => none | some s => match aJ s with | true => some s | false => none) = some s' := h
  cases hf : rV s2 with
  | none => rw [hf] at h; cases h
  | some s3 =>
  rw [hf] at h
  dsimp only at h
  split at h
  rotate_left 1
  ·cases h
  rename_i he
  cases h
  exact ⟨0, by decide, FW aG hw (LC fa.1 hf) he, Js fa hf⟩
 | 2, q2 =>
  cases q2
  subst q3
  obtain rfl : j = 2 := by omega
  cases first with
  | true => cases h
  | false =>
  have h : (match (match nK s2 2 with | some (s, x) => some ⟨{ s.d with aa := s.d.aa ++ [x] }, s.rest, s.args⟩ | none => none) with | none => none | some s => match aJ s with | true => some s | false => none) = some s' := h
  cases ha : nK s2 2 with
  | none => rw [ha] at h; cases h
  | some y =>
  obtain ⟨s5, al⟩ := y
  rw [ha] at h
  dsimp only at h
  split at h
  rotate_left 1
  ·cases h
  rename_i he
  cases h
  unfold nK at ha
  split at ha
  ·cases ha
  rename_i s3 nm h3
  split at ha
  ·cases ha
  rename_i s4 f h4
  split at ha
  rotate_left 1
  ·cases ha
  rename_i Mg n h5
  cases ha
  have χ : s.d.aa.length + 1 ≤ 100000 := by
   have := iZ h3
   have : s3.d.aa.length < 256 := by simpa [bE, dS] using this
   rw [(bG h3).1, p2.1] at this
   omega
  have p5 : Ξ s s5 := ((p2.trans (bG h3)).trans (bO h4)).trans (cu h5)
  rw [p5.1, p5.2]
  exact ⟨1, by decide, Dz hs.1 aG hw h3 h4 h5 he, ⟨⟨hs.1.1, (by show (s.d.aa ++ [_]).length ≤ 100000; simp; omega), hs.1.2.2.1, hs.1.2.2.2.1, hs.1.2.2.2.2.1, hs.1.2.2.2.2.2.1, hs.1.2.2.2.2.2.2.1, hs.1.2.2.2.2.2.2.2.1, hs.1.2.2.2.2.2.2.2.2⟩, hs.2⟩⟩
 | 3, q2 =>
  cases q2
  subst q3
  obtain rfl : j = 3 := by omega
  cases first with
  | true => cases h
  | false =>
  have h : (match (match nK s2 9 with | some (s, x) => some ⟨{ s.d with aN := s.d.aN ++ [x] }, s.rest, s.args⟩ | none => none) with | none => none | some s => match aJ s with | true => some s | false => none) = some s' := h
  cases ha : nK s2 9 with
  | none => rw [ha] at h; cases h
  | some y =>
  obtain ⟨s5, al⟩ := y
  rw [ha] at h
  dsimp only at h
  split at h
  rotate_left 1
  ·cases h
  rename_i he
  cases h
  unfold nK at ha
  split at ha
  ·cases ha
  rename_i s3 nm h3
  split at ha
  ·cases ha
  rename_i s4 f h4
  split at ha
  rotate_left 1
  ·cases ha
  rename_i Mg n h5
  cases ha
  have χ : s.d.aN.length + 1 ≤ 100000 := by
   have := iZ h3
   have : s3.d.aN.length < 64 := by simpa [bE, dS] using this
   rw [(bG h3).1, p2.1] at this
   omega
  have p5 : Ξ s s5 := ((p2.trans (bG h3)).trans (bO h4)).trans (cu h5)
  rw [p5.1, p5.2]
  exact ⟨10, by decide, IZ hs.1 aG hw h3 h4 h5 he, ⟨⟨hs.1.1, hs.1.2.1, hs.1.2.2.1, hs.1.2.2.2.1, hs.1.2.2.2.2.1, hs.1.2.2.2.2.2.1, hs.1.2.2.2.2.2.2.1, (by show (s.d.aN ++ [_]).length ≤ 100000; simp; omega), hs.1.2.2.2.2.2.2.2.2⟩, hs.2⟩⟩
 | 4, q2 =>
  cases q2
  subst q3
  obtain rfl : j = 4 := by omega
  cases first with
  | true => cases h
  | false =>
  have h : (match (match dm s2 3 with | some (s, w) => some ⟨{ s.d with flags := s.d.flags ++ [w] }, s.rest, s.args⟩ | none => none) with | none => none | some s => match aJ s with | true => some s | false => none) = some s' := h
  cases h3 : dm s2 3 with
  | none => rw [h3] at h; cases h
  | some y =>
  obtain ⟨s3, w⟩ := y
  rw [h3] at h
  dsimp only at h
  split at h
  rotate_left 1
  ·cases h
  rename_i he
  cases h
  have χ : s.d.flags.length + 1 ≤ 100000 := by
   have := iZ h3
   have : s3.d.flags.length < 16 := by simpa [bE, dS] using this
   rw [(bG h3).1, p2.1] at this
   omega
  have p3 : Ξ s s3 := p2.trans (bG h3)
  rw [p3.1, p3.2]
  exact ⟨2, by decide, FV hs.1 aG hw h3 he, ⟨⟨hs.1.1, hs.1.2.1, (by show (s.d.flags ++ [_]).length ≤ 100000; simp; omega), hs.1.2.2.2.1, hs.1.2.2.2.2.1, hs.1.2.2.2.2.2.1, hs.1.2.2.2.2.2.2.1, hs.1.2.2.2.2.2.2.2.1, hs.1.2.2.2.2.2.2.2.2⟩, hs.2⟩⟩
 | 5, q2 =>
  cases q2
  subst q3
  obtain rfl : j = 5 := by omega
  cases first with
  | true => cases h
  | false =>
  have h : (match (pu s2) with | none => none | some s => match aJ s with | true => some s | false => none) = some s' := h
  cases hf : pu s2 with
  | none => rw [hf] at h; cases h
  | some s3 =>
  rw [hf] at h
  dsimp only at h
  split at h
  rotate_left 1
  ·cases h
  rename_i he
  cases h
  exact ⟨3, by decide, Dy aG hw (JC fa.1 hf) he, GY fa hf⟩
 | 6, q2 =>
  cases q2
  subst q3
  obtain rfl : j = 6 := by omega
  cases first with
  | true => cases h
  | false =>
  have h : (match (rS s2) with | none => none | some s => match aJ s with | true => some s | false => none) = some s' := h
  cases hf : rS s2 with
  | none => rw [hf] at h; cases h
  | some s3 =>
  rw [hf] at h
  dsimp only at h
  split at h
  rotate_left 1
  ·cases h
  rename_i he
  cases h
  exact ⟨4, by decide, FU aG hw (LA fa.1 fa.2 hf) he, Jp fa hf⟩
 | 7, q2 =>
  cases q2
  subst q3
  obtain rfl : j = 7 := by omega
  cases first with
  | true => cases h
  | false =>
  have h : (match (oX s2) with | none => none | some s => match aJ s with | true => some s | false => none) = some s' := h
  cases hf : oX s2 with
  | none => rw [hf] at h; cases h
  | some s3 =>
  rw [hf] at h
  dsimp only at h
  split at h
  rotate_left 1
  ·cases h
  rename_i he
  cases h
  exact ⟨8, by decide, Dx aG hw (IS fa.1 hf) he, FM fa hf⟩
 | 8, q2 =>
  cases q2
  subst q3
  obtain rfl : j = 8 := by omega
  cases first with
  | true => cases h
  | false =>
  have h : (match (zS s2) with | none => none | some s => match aJ s with | true => some s | false => none) = some s' := h
  cases hf : zS s2 with
  | none => rw [hf] at h; cases h
  | some s3 =>
  rw [hf] at h
  dsimp only at h
  split at h
  rotate_left 1
  ·cases h
  rename_i he
  cases h
  exact ⟨5, by decide, IY aG hw ((E4 fa hf).1) he, (E4 fa hf).2⟩
 | 9, q2 =>
  cases q2
  subst q3
  obtain rfl : j = 9 := by omega
  cases first with
  | true => cases h
  | false =>
  have h : (match (uO s2) with | none => none | some s => match aJ s with | true => some s | false => none) = some s' := h
  cases hf : uO s2 with
  | none => rw [hf] at h; cases h
  | some s3 =>
  rw [hf] at h
  dsimp only at h
  split at h
  rotate_left 1
  ·cases h
  rename_i he
  cases h
  exact ⟨6, by decide, IX aG hw (L6 fa.1 hf) he, KX fa hf⟩
 | 10, q2 =>
  cases q2
  subst q3
  obtain rfl : j = 10 := by omega
  cases first with
  | true => cases h
  | false =>
  have h : (match (match Nat.blt s2.d.ar.length 16 with | false => none | true => match bK s2 6 with | none => none | some (s, r) => match bK s 5 with | none => none | some (s, f) => match bK s 6 with | some (s, t) => some ⟨{ s.d with ar := s.d.ar ++ [⟨(r : Int), (f : Int), (t : Int)⟩] }, s.rest, s.args⟩ | none => none) with | none => none | some s => match aJ s with | true => some s | false => none) = some s' := h
  cases hl : Nat.blt s2.d.ar.length 16 with
  | false => rw [hl] at h; cases h
  | true =>
  rw [hl] at h
  rw [Nat.blt_eq] at hl
  dsimp only at h
  cases h3 : bK s2 6 with
  | none => rw [h3] at h; cases h
  | some y =>
  obtain ⟨s3, a⟩ := y
  rw [h3] at h
  dsimp only at h
  cases h4 : bK s3 5 with
  | none => rw [h4] at h; cases h
  | some y =>
  obtain ⟨s4, b⟩ := y
  rw [h4] at h
  dsimp only at h
  cases h5 : bK s4 6 with
  | none => rw [h5] at h; cases h
  | some y =>
  obtain ⟨s5, c⟩ := y
  rw [h5] at h
  dsimp only at h
  split at h
  rotate_left 1
  ·cases h
  rename_i he
  cases h
  have p5 : Ξ s s5 := ((p2.trans (bO h3)).trans (bO h4)).trans (bO h5)
  rw [p5.1, p5.2]
  exact ⟨7, by decide, Dw hs.1 aG hw hl h3 h4 h5 he, hs.1, hs.2⟩
 | 11, q2 =>
  cases q2
  subst q3
  obtain rfl : j = 11 := by omega
  cases first with
  | true => cases h
  | false =>
  have h : (match (match dm s2 8 with | some (s, w) => (match kS s with | some (s, n) => some ⟨{ s.d with aR := s.d.aR ++ [⟨w, n⟩] }, s.rest, s.args⟩ | none => none) | none => none) with | none => none | some s => match aJ s with | true => some s | false => none) = some s' := h
  cases h3 : dm s2 8 with
  | none => rw [h3] at h; cases h
  | some y =>
  obtain ⟨s3, w⟩ := y
  rw [h3] at h
  dsimp only at h
  cases h4 : kS s3 with
  | none => rw [h4] at h; cases h
  | some y =>
  obtain ⟨s4, n⟩ := y
  rw [h4] at h
  dsimp only at h
  split at h
  rotate_left 1
  ·cases h
  rename_i he
  cases h
  have χ : s.d.aR.length + 1 ≤ 100000 := by
   have := iZ h3
   have : s3.d.aR.length < 64 := by simpa [bE, dS] using this
   rw [(bG h3).1, p2.1] at this
   omega
  have p4 : Ξ s s4 := (p2.trans (bG h3)).trans (FZ h4)
  rw [p4.1, p4.2]
  exact ⟨9, by decide, I0 hs.1 aG hw h3 h4 he, ⟨⟨hs.1.1, hs.1.2.1, hs.1.2.2.1, hs.1.2.2.2.1, hs.1.2.2.2.2.1, hs.1.2.2.2.2.2.1, (by show (s.d.aR ++ [_]).length ≤ 100000; simp; omega), hs.1.2.2.2.2.2.2.2.1, hs.1.2.2.2.2.2.2.2.2⟩, hs.2⟩⟩
 | i + 12, q2 => cases q2
end Go.Proofs.YtcogcbplmkcojaaGreatDoor
