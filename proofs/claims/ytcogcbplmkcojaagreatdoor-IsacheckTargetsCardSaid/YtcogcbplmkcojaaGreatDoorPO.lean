/-
  The ground of the walks of this seat, part PO.
-/
import Derived.Test.YtcogcbplmkcojaaGreatDoorPJ
namespace Go.Proofs.YtcogcbplmkcojaaGreatDoor
open Go.IntWalk
set_option maxRecDepth 100000
set_option linter.unusedVariables false
set_option linter.unusedSimpArgs false
set_option maxHeartbeats 4000000
theorem ln {k0 : Nat} {env : List (Nat × AV)} {H : AH} (b : Nat) {e s : Nat} {z : Bool} {g : Nat} {A : List T} {us : List T} (ts : List T) (hb : H[b]? = some (.arr e s z g (.ts (A ++ [.agg us])))) (hl : ts.length = us.length)
 (h : ∀ (j : Nat) y t, us[j]? = some y → ts[j]? = some t → bu y t) : aX k0 ⟨env, H⟩ ⟨env, gw b (.arr e s z g (.ts (A ++ [.agg ts]))) [] 0 H⟩ := by
 refine kN [] (nx _ _ _ _ _) (fun b' az aC => ?_) (fun t => .inr (.same _))
 replace aC : (gw b (.arr e s z g (.ts (A ++ [.agg ts]))) [] 0 H)[b']? = some az := aC
 rw [ny, Nat.zero_add, Option.map_eq_some_iff] at aC
 obtain ⟨x, hx, aP⟩ := aC
 split at aP
 ·rename_i e1
  obtain rfl := Nat.eq_of_beq_eq_true e1
  subst aP
  refine .inr ⟨by simp, _, hb, .arr e s z g _ _ (by simp [Sq.length]) fun i x' hi => ?_⟩
  simp only [Sq.get, Option.map_eq_some_iff] at hi ⊢
  obtain ⟨t, hi, rfl⟩ := hi
  by_cases χ : i < A.length
  ·rw [List.getElem?_append_left χ] at hi
   exact ⟨.t t, ⟨t, by rw [List.getElem?_append_left χ]; exact hi, rfl⟩, rfl, fun j y' hj => ⟨y', hj, .same _⟩⟩
  ·rw [List.getElem?_append_right (by omega)] at hi
   have tg : i - A.length = 0 := by have := ι hi; simp at this; omega
   rw [tg] at hi
   simp at hi
   subst hi
   refine ⟨.t (.agg us), ⟨_, by rw [List.getElem?_append_right (by omega), tg]; rfl, rfl⟩, by simp [AV.cells, hl], fun j y' hj => ?_⟩
   simp only [AV.cells, List.getElem?_map, Option.map_eq_some_iff] at hj
   obtain ⟨t, ht, rfl⟩ := hj
   have fy : j < us.length := by have := ι ht; omega
   exact ⟨.t us[j], by simp [AV.cells, List.getElem?_eq_getElem fy], .sub _ _ (h j _ t (List.getElem?_eq_getElem fy) ht)⟩
 ·subst aP
  exact .inr ⟨by simp, x, hx, .same _⟩
def Bg : List (List UInt8) := [[], [114, 101, 103], [117, 110, 115], [115, 103, 110], [112, 99], [110, 120]]
theorem tF {kw : List UInt8} {kind : Nat} (h : cH kw 1 [[114, 101, 103], [117, 110, 115], [115, 103, 110], [112, 99], [110, 120]] = some kind) : fT kw Bg = (kind : Int) ∧ 1 ≤ kind ∧ kind ≤ 5 := by
 obtain ⟨i, x, rfl, hx, rfl⟩ := aZ _ _ _ _ h
 match i, hx with
 | 0, hx => cases hx; exact ⟨by decide, by decide, by decide⟩
 | 1, hx => cases hx; exact ⟨by decide, by decide, by decide⟩
 | 2, hx => cases hx; exact ⟨by decide, by decide, by decide⟩
 | 3, hx => cases hx; exact ⟨by decide, by decide, by decide⟩
 | 4, hx => cases hx; exact ⟨by decide, by decide, by decide⟩
 | i + 5, hx => cases hx
theorem LQ {d : τ} {g : List cU} {r0 : List ay} {s1 s2 s3 s4 s5 s6 : PS} {name kw : List UInt8}  {bits plus : Int} {bb : List Int} (hs : cE ⟨d, r0, g⟩) (hf : dm ⟨d, r0, g⟩ 4 = some (s1, name)) (gQ : bt s1 = some (s2, kw)) (fh : cH kw 1 [[114, 101, 103], [117, 110, 115], [115, 103, 110], [112, 99], [110, 120]] = some 1)
 {file : Nat} (fA : bK s2 1 = some (s3, file))
 (gx : cd s3 = some (s4, bits)) (kT : (match dR s4 [112, 108, 117, 115] with | true => cd (g7 s4) | false => some (s4, (0 : Int))) = some (s5, plus))
 (hex : (match dR s5 [101, 120, 99, 101, 112, 116] with | true => cM 10 (g7 s5) [] | false => some (s5, ([] : List Int))) = some (s6, bb)) :
 cZ 55 3 ⟨d, r0, g⟩ ⟨{ d with classes := d.classes ++ [⟨name, 1, (file : Int), bits, 0, plus, bb⟩] }, s6.rest, g⟩ := by
 have f1 : Ξ ⟨d, r0, g⟩ s1 := bG hf
 have f2 : Ξ ⟨d, r0, g⟩ s2 := f1.trans (aQ gQ)
 have χ : d.classes.length + 1 ≤ 100000 := by
  have := (cP hf).2.2
  have : s1.d.classes.length < 64 := by simpa [bE, dS] using this
  rw [f1.1] at this
  have : d.classes.length < 64 := this
  omega
 have h1 := fw hs (by decide) hf
 have h2 := bo gQ
 obtain ⟨eZ, cI, Rl⟩ := tF fh
 have hX := cx Bg kw (by decide)
 rw [eZ] at hX
 have f3 : Ξ ⟨d, r0, g⟩ s3 := f2.trans (bO fA)
 have h3 := dX (hs.same f2) (by decide) fA
 have f4 : Ξ ⟨d, r0, g⟩ s4 := f3.trans (cu gx)
 have h4 := cS gx
 have hP := j4 s4 [112, 108, 117, 115] _ rfl
 obtain ⟨d1, r1, g1⟩ := s1
 obtain rfl : d = d1 := f1.1.symm
 obtain rfl : g = g1 := f1.2.symm
 obtain ⟨d2, r2, g2⟩ := s2
 obtain rfl : d = d2 := f2.1.symm
 obtain rfl : g = g2 := f2.2.symm
 obtain ⟨d3, r3, g3⟩ := s3
 obtain rfl : d = d3 := f3.1.symm
 obtain rfl : g = g3 := f3.2.symm
 obtain ⟨d4, r4, g4⟩ := s4
 obtain rfl : d = d4 := f4.1.symm
 obtain rfl : g = g4 := f4.2.symm
 cases hp : dR ⟨d, r4, g⟩ [112, 108, 117, 115] with
 | true =>
  rw [hp] at kT
  rw [show List.map (fun x => UInt8.toNat x) [112, 108, 117, 115] = [112, 108, 117, 115] from rfl, hp] at hP
  obtain ⟨t7, r7, Jv⟩ := f_ hp
  obtain rfl : r4 = _ := Jv
  have kT : cd ⟨d, r7, g⟩ = some (s5, plus) := kT
  have h5 := cS kT
  have f5 : Ξ ⟨d, r7, g⟩ s5 := cu kT
  obtain ⟨d5, r5, g5⟩ := s5
  obtain rfl : d = d5 := f5.1.symm
  obtain rfl : g = g5 := f5.2.symm
  have hQ := j4 ⟨d, r5, g⟩ [101, 120, 99, 101, 112, 116] _ rfl
  cases jy : dR ⟨d, r5, g⟩ [101, 120, 99, 101, 112, 116] with
  | true =>
   rw [jy] at hex
   rw [show List.map (fun x => UInt8.toNat x) [101, 120, 99, 101, 112, 116] = [101, 120, 99, 101, 112, 116] from rfl, jy] at hQ
   obtain ⟨te, re, vp⟩ := f_ jy
   obtain rfl : r5 = _ := vp
   have hex : cM 10 ⟨d, re, g⟩ [] = some (s6, bb) := hex
   unfold cZ
   refine aT ?_
   refine γ.ο ζ η Tryz.func55 rfl rfl ?_
   refine θ h1 (by rfl) (by rfl) ?_
   refine θ h2 (by rfl) (by rfl) ?_
   refine γ.bU hX rfl ⟨.vec 1 _, .refl _, trivial⟩ rfl ?_
   refine θ (Δ d _ _ rfl 41) (by rfl) (by rfl) ?_
   refine θ h3 (by rfl) (by rfl) ?_
   refine θ h4 (by rfl) (by rfl) ?_
   refine θ hP (by rfl) (by rfl) ?_
   refine ε (fr _ _) ?_
   refine ua h5 (by rfl) rfl ?_
   refine θ hQ (by rfl) (by rfl) ?_
   refine ε (fr _ _) ?_
   refine ak (fun x : Nat × List ay × List Int => cM x.1 ⟨d, x.2.1, g⟩ x.2.2 = some (s6, bb)) (fun x : Nat × List ay × List Int => ⟨[(1, .ptr 11 0 0 0), (2, .ptr 12 0 0 0), (3, .ptr 13 0 0 0)], dH d ++ [.box (ec d (ω x.2.1) (g.map Φ)), .box cQ, .box [.t (.str name), .t (.int .i64 1), .t (.int .i64 (file : Int)), .t (.int .i64 bits), .t (.int .i64 0), .t (.int .i64 plus), .sl 14 0 0 x.2.2.length], .arr 3 1 true 0 (.ts (x.2.2.map (T.int .i64)))]⟩) (fun x => x.1) (10, re, []) hex ?_ (fun ⟨n, R, L⟩ hx => ?_)
   ·refine aX.trans (π (s' := ⟨[(1, .ptr 11 0 0 0), (2, .ptr 12 0 0 0), (3, .ptr 13 0 0 0)], pt d [.box (ec d (ω re) (g.map Φ)), .box cQ, .box [.t (.str name), .t (.int .i64 1), .t (.int .i64 (file : Int)), .t (.int .i64 bits), .t (.int .i64 0), .t (.int .i64 plus), .t .av]]⟩) [0, 1, 2, 3, 4, 5, 6, 7, 8, 9, 10, 11, 12, 13] rfl ⟨rfl, rfl, rfl, trivial⟩ ⟨rfl, rfl, rfl, rfl, rfl, rfl, rfl, rfl, rfl, rfl, rfl, congrArg (fun l => some (Ψ.box (ec d l (g.map Φ)))) (jl (kB te) (ω re)), rfl, rfl, trivial⟩) ?_
    exact iP (cs := [.t (.str name), .t (.int .i64 1), .t (.int .i64 (file : Int)), .t (.int .i64 bits), .t (.int .i64 0), .t (.int .i64 plus), .t .av]) 13 6 _ _ rfl rfl
   have hx : cM n ⟨d, R, g⟩ L = some (s6, bb) := hx
   cases n with
   | zero => cases hx
   | succ n =>
    unfold cM at hx
    cases R with
    | nil =>
     cases hx
     refine Or.inl (And.intro (List.length_map _).symm (ε (cg χ rfl) ?_))
     refine aX.trans (gI 3 [14] (A := d.classes.map aV) (gU (aV ⟨name, 1, (file : Int), bits, 0, plus, bb⟩)) rfl rfl rfl (fun j y t hy ht => by
      match j, hy, ht with
      | 0, hy, ht => cases hy; cases ht; exact .same _
      | 1, hy, ht => cases hy; cases ht; exact .same _
      | 2, hy, ht => cases hy; cases ht; exact .same _
      | 3, hy, ht => cases hy; cases ht; exact .same _
      | 4, hy, ht => cases hy; cases ht; exact .same _
      | 5, hy, ht => cases hy; cases ht; exact .same _
      | 6, hy, ht => cases hy; cases ht; exact .ff _ _ _ [14] 32 rfl (.of_eq (congrArg (T.κ _) (by rw [List.drop_zero]; exact List.take_of_length_le (by simp)))) (fun b hb => hb)
      | j + 7, hy, ht => cases hy)) ?_
     refine Ω ?_ ?_
     ·exact ⟨congrArg (fun n : Nat => some (AV.agg [.t (.str d.name), .t (.int .i64 d.order), .sl 0 0 0 d.files.length, .sl 1 0 0 d.aa.length, .sl 2 0 0 d.flags.length, .sl 3 2 0 n, .sl 4 0 0 d.forms.length, .sl 5 0 0 d.au.length, .sl 6 0 0 d.uses.length, .sl 7 0 0 d.ar.length, .sl 8 0 0 d.macros.length, .sl 9 0 0 d.aR.length, .sl 10 0 0 d.aN.length, .t (.κ 4 (ω [])), .t (.κ 2 (g.map Φ)), .t (.int .i64 0)])) (bI d.classes ⟨name, 1, (file : Int), bits, 0, plus, bb⟩), trivial⟩
     ·exact ⟨rfl, rfl, rfl, bM aV d.classes ⟨name, 1, (file : Int), bits, 0, plus, bb⟩, rfl, rfl, rfl, rfl, rfl, rfl, rfl, trivial⟩
    | cons t0 R0 =>
     have hx : (match kS ⟨d, t0 :: R0, g⟩ with | some (s, n') => (match Nat.blt L.length 8 with | true => cM n s (L ++ [n']) | false => none) | none => none) = some (s6, bb) := hx
     split at hx
     rotate_left 1
     ·cases hx
     rename_i s5 w hw
     split at hx
     rotate_left 1
     ·cases hx
     rename_i pi
     rw [Nat.blt_eq] at pi
     obtain ⟨q5, e5, rfl⟩ := iH hw
     obtain ⟨rfl, rfl⟩ := List.cons.inj e5
     have pn : decide (((L.length : Nat) : Int) ≥ 8) = false := decide_eq_false (by omega)
     refine U (fun c => ?_) (fun c => absurd (eI.symm.trans c) (by decide))
     refine θ (dj d 2 [] w [] (ω R0) (g.map Φ) (.inr rfl)) (by rfl) (by rfl) ?_
     refine θ (Δ d _ _ pn 43) (by rfl) (by rfl) ?_
     refine Or.inl (And.intro (List.length_map _).symm (ε (cg (n := L.length + 1) (by omega) rfl) ?_))
     conv => whnf
     exact ⟨⟨(n, R0, L ++ [w]), hx⟩, π [0, 1, 2, 3, 4, 5, 6, 7, 8, 9, 10, 11, 12, 13, 14] rfl ⟨rfl, rfl, rfl, trivial⟩ ⟨rfl, rfl, rfl, rfl, rfl, rfl, rfl, rfl, rfl, rfl, rfl, rfl, rfl, congrArg (fun m : Nat => some (Ψ.box [.t (.str name), .t (.int .i64 1), .t (.int .i64 (file : Int)), .t (.int .i64 bits), .t (.int .i64 0), .t (.int .i64 plus), .sl 14 0 0 m])) (bI L w), bM (T.int .i64) L w, trivial⟩, Nat.lt_succ_self n⟩
  | false =>
   rw [jy] at hex
   rw [show List.map (fun x => UInt8.toNat x) [101, 120, 99, 101, 112, 116] = [101, 120, 99, 101, 112, 116] from rfl, jy] at hQ
   cases hex
   unfold cZ
   refine aT ?_
   refine γ.ο ζ η Tryz.func55 rfl rfl ?_
   refine θ h1 (by rfl) (by rfl) ?_
   refine θ h2 (by rfl) (by rfl) ?_
   refine γ.bU hX rfl ⟨.vec 1 _, .refl _, trivial⟩ rfl ?_
   refine θ (Δ d _ _ rfl 41) (by rfl) (by rfl) ?_
   refine θ h3 (by rfl) (by rfl) ?_
   refine θ h4 (by rfl) (by rfl) ?_
   refine θ hP (by rfl) (by rfl) ?_
   refine ε (fr _ _) ?_
   refine ua h5 (by rfl) rfl ?_
   refine θ hQ (by rfl) (by rfl) ?_
   refine Or.inl (And.intro (List.length_map _).symm (ε (cg χ rfl) ?_))
   refine aX.trans (ln 3 (A := d.classes.map aV) (gU (aV ⟨name, 1, (file : Int), bits, 0, plus, []⟩)) rfl rfl (fun j y t hy ht => by
    match j, hy, ht with
    | 0, hy, ht => cases hy; cases ht; exact .refl _
    | 1, hy, ht => cases hy; cases ht; exact .refl _
    | 2, hy, ht => cases hy; cases ht; exact .refl _
    | 3, hy, ht => cases hy; cases ht; exact .refl _
    | 4, hy, ht => cases hy; cases ht; exact .refl _
    | 5, hy, ht => cases hy; cases ht; exact .refl _
    | 6, hy, ht => cases hy; cases ht; exact (.av 1)
    | j + 7, hy, ht => cases hy)) ?_
   refine Ω ?_ ?_
   ·exact ⟨congrArg (fun n : Nat => some (AV.agg [.t (.str d.name), .t (.int .i64 d.order), .sl 0 0 0 d.files.length, .sl 1 0 0 d.aa.length, .sl 2 0 0 d.flags.length, .sl 3 2 0 n, .sl 4 0 0 d.forms.length, .sl 5 0 0 d.au.length, .sl 6 0 0 d.uses.length, .sl 7 0 0 d.ar.length, .sl 8 0 0 d.macros.length, .sl 9 0 0 d.aR.length, .sl 10 0 0 d.aN.length, .t (.κ 4 (ω r5)), .t (.κ 2 (g.map Φ)), .t (.int .i64 0)])) (bI d.classes ⟨name, 1, (file : Int), bits, 0, plus, []⟩), trivial⟩
   ·exact ⟨rfl, rfl, rfl, bM aV d.classes ⟨name, 1, (file : Int), bits, 0, plus, []⟩, rfl, rfl, rfl, rfl, rfl, rfl, rfl, trivial⟩
 | false =>
  rw [hp] at kT
  rw [show List.map (fun x => UInt8.toNat x) [112, 108, 117, 115] = [112, 108, 117, 115] from rfl, hp] at hP
  cases kT
  have hQ := j4 ⟨d, r4, g⟩ [101, 120, 99, 101, 112, 116] _ rfl
  cases jy : dR ⟨d, r4, g⟩ [101, 120, 99, 101, 112, 116] with
  | true =>
   rw [jy] at hex
   rw [show List.map (fun x => UInt8.toNat x) [101, 120, 99, 101, 112, 116] = [101, 120, 99, 101, 112, 116] from rfl, jy] at hQ
   obtain ⟨te, re, vp⟩ := f_ jy
   obtain rfl : r4 = _ := vp
   have hex : cM 10 ⟨d, re, g⟩ [] = some (s6, bb) := hex
   unfold cZ
   refine aT ?_
   refine γ.ο ζ η Tryz.func55 rfl rfl ?_
   refine θ h1 (by rfl) (by rfl) ?_
   refine θ h2 (by rfl) (by rfl) ?_
   refine γ.bU hX rfl ⟨.vec 1 _, .refl _, trivial⟩ rfl ?_
   refine θ (Δ d _ _ rfl 41) (by rfl) (by rfl) ?_
   refine θ h3 (by rfl) (by rfl) ?_
   refine θ h4 (by rfl) (by rfl) ?_
   refine θ hP (by rfl) (by rfl) ?_
   refine θ hQ (by rfl) (by rfl) ?_
   refine ε (fr _ _) ?_
   refine ak (fun x : Nat × List ay × List Int => cM x.1 ⟨d, x.2.1, g⟩ x.2.2 = some (s6, bb)) (fun x : Nat × List ay × List Int => ⟨[(1, .ptr 11 0 0 0), (2, .ptr 12 0 0 0), (3, .ptr 13 0 0 0)], dH d ++ [.box (ec d (ω x.2.1) (g.map Φ)), .box cQ, .box [.t (.str name), .t (.int .i64 1), .t (.int .i64 (file : Int)), .t (.int .i64 bits), .t (.int .i64 0), .t (.int .i64 0), .sl 14 0 0 x.2.2.length], .arr 3 1 true 0 (.ts (x.2.2.map (T.int .i64)))]⟩) (fun x => x.1) (10, re, []) hex ?_ (fun ⟨n, R, L⟩ hx => ?_)
   ·refine aX.trans (π (s' := ⟨[(1, .ptr 11 0 0 0), (2, .ptr 12 0 0 0), (3, .ptr 13 0 0 0)], pt d [.box (ec d (ω re) (g.map Φ)), .box cQ, .box [.t (.str name), .t (.int .i64 1), .t (.int .i64 (file : Int)), .t (.int .i64 bits), .t (.int .i64 0), .t (.int .i64 0), .t .av]]⟩) [0, 1, 2, 3, 4, 5, 6, 7, 8, 9, 10, 11, 12, 13] rfl ⟨rfl, rfl, rfl, trivial⟩ ⟨rfl, rfl, rfl, rfl, rfl, rfl, rfl, rfl, rfl, rfl, rfl, congrArg (fun l => some (Ψ.box (ec d l (g.map Φ)))) (jl (kB te) (ω re)), rfl, rfl, trivial⟩) ?_
    exact iP (cs := [.t (.str name), .t (.int .i64 1), .t (.int .i64 (file : Int)), .t (.int .i64 bits), .t (.int .i64 0), .t (.int .i64 0), .t .av]) 13 6 _ _ rfl rfl
   have hx : cM n ⟨d, R, g⟩ L = some (s6, bb) := hx
   cases n with
   | zero => cases hx
   | succ n =>
    unfold cM at hx
    cases R with
    | nil =>
     cases hx
     refine Or.inl (And.intro (List.length_map _).symm (ε (cg χ rfl) ?_))
     refine aX.trans (gI 3 [14] (A := d.classes.map aV) (gU (aV ⟨name, 1, (file : Int), bits, 0, 0, bb⟩)) rfl rfl rfl (fun j y t hy ht => by
      match j, hy, ht with
      | 0, hy, ht => cases hy; cases ht; exact .same _
      | 1, hy, ht => cases hy; cases ht; exact .same _
      | 2, hy, ht => cases hy; cases ht; exact .same _
      | 3, hy, ht => cases hy; cases ht; exact .same _
      | 4, hy, ht => cases hy; cases ht; exact .same _
      | 5, hy, ht => cases hy; cases ht; exact .same _
      | 6, hy, ht => cases hy; cases ht; exact .ff _ _ _ [14] 32 rfl (.of_eq (congrArg (T.κ _) (by rw [List.drop_zero]; exact List.take_of_length_le (by simp)))) (fun b hb => hb)
      | j + 7, hy, ht => cases hy)) ?_
     refine Ω ?_ ?_
     ·exact ⟨congrArg (fun n : Nat => some (AV.agg [.t (.str d.name), .t (.int .i64 d.order), .sl 0 0 0 d.files.length, .sl 1 0 0 d.aa.length, .sl 2 0 0 d.flags.length, .sl 3 2 0 n, .sl 4 0 0 d.forms.length, .sl 5 0 0 d.au.length, .sl 6 0 0 d.uses.length, .sl 7 0 0 d.ar.length, .sl 8 0 0 d.macros.length, .sl 9 0 0 d.aR.length, .sl 10 0 0 d.aN.length, .t (.κ 4 (ω [])), .t (.κ 2 (g.map Φ)), .t (.int .i64 0)])) (bI d.classes ⟨name, 1, (file : Int), bits, 0, 0, bb⟩), trivial⟩
     ·exact ⟨rfl, rfl, rfl, bM aV d.classes ⟨name, 1, (file : Int), bits, 0, 0, bb⟩, rfl, rfl, rfl, rfl, rfl, rfl, rfl, trivial⟩
    | cons t0 R0 =>
     have hx : (match kS ⟨d, t0 :: R0, g⟩ with | some (s, n') => (match Nat.blt L.length 8 with | true => cM n s (L ++ [n']) | false => none) | none => none) = some (s6, bb) := hx
     split at hx
     rotate_left 1
     ·cases hx
     rename_i s5 w hw
     split at hx
     rotate_left 1
     ·cases hx
     rename_i pi
     rw [Nat.blt_eq] at pi
     obtain ⟨q5, e5, rfl⟩ := iH hw
     obtain ⟨rfl, rfl⟩ := List.cons.inj e5
     have pn : decide (((L.length : Nat) : Int) ≥ 8) = false := decide_eq_false (by omega)
     refine U (fun c => ?_) (fun c => absurd (eI.symm.trans c) (by decide))
     refine θ (dj d 2 [] w [] (ω R0) (g.map Φ) (.inr rfl)) (by rfl) (by rfl) ?_
     refine θ (Δ d _ _ pn 43) (by rfl) (by rfl) ?_
     refine Or.inl (And.intro (List.length_map _).symm (ε (cg (n := L.length + 1) (by omega) rfl) ?_))
     conv => whnf
     exact ⟨⟨(n, R0, L ++ [w]), hx⟩, π [0, 1, 2, 3, 4, 5, 6, 7, 8, 9, 10, 11, 12, 13, 14] rfl ⟨rfl, rfl, rfl, trivial⟩ ⟨rfl, rfl, rfl, rfl, rfl, rfl, rfl, rfl, rfl, rfl, rfl, rfl, rfl, congrArg (fun m : Nat => some (Ψ.box [.t (.str name), .t (.int .i64 1), .t (.int .i64 (file : Int)), .t (.int .i64 bits), .t (.int .i64 0), .t (.int .i64 0), .sl 14 0 0 m])) (bI L w), bM (T.int .i64) L w, trivial⟩, Nat.lt_succ_self n⟩
  | false =>
   rw [jy] at hex
   rw [show List.map (fun x => UInt8.toNat x) [101, 120, 99, 101, 112, 116] = [101, 120, 99, 101, 112, 116] from rfl, jy] at hQ
   cases hex
   unfold cZ
   refine aT ?_
   refine γ.ο ζ η Tryz.func55 rfl rfl ?_
   refine θ h1 (by rfl) (by rfl) ?_
   refine θ h2 (by rfl) (by rfl) ?_
   refine γ.bU hX rfl ⟨.vec 1 _, .refl _, trivial⟩ rfl ?_
   refine θ (Δ d _ _ rfl 41) (by rfl) (by rfl) ?_
   refine θ h3 (by rfl) (by rfl) ?_
   refine θ h4 (by rfl) (by rfl) ?_
   refine θ hP (by rfl) (by rfl) ?_
   refine θ hQ (by rfl) (by rfl) ?_
   refine Or.inl (And.intro (List.length_map _).symm (ε (cg χ rfl) ?_))
   refine aX.trans (ln 3 (A := d.classes.map aV) (gU (aV ⟨name, 1, (file : Int), bits, 0, 0, []⟩)) rfl rfl (fun j y t hy ht => by
    match j, hy, ht with
    | 0, hy, ht => cases hy; cases ht; exact .refl _
    | 1, hy, ht => cases hy; cases ht; exact .refl _
    | 2, hy, ht => cases hy; cases ht; exact .refl _
    | 3, hy, ht => cases hy; cases ht; exact .refl _
    | 4, hy, ht => cases hy; cases ht; exact .refl _
    | 5, hy, ht => cases hy; cases ht; exact .refl _
    | 6, hy, ht => cases hy; cases ht; exact (.av 1)
    | j + 7, hy, ht => cases hy)) ?_
   refine Ω ?_ ?_
   ·exact ⟨congrArg (fun n : Nat => some (AV.agg [.t (.str d.name), .t (.int .i64 d.order), .sl 0 0 0 d.files.length, .sl 1 0 0 d.aa.length, .sl 2 0 0 d.flags.length, .sl 3 2 0 n, .sl 4 0 0 d.forms.length, .sl 5 0 0 d.au.length, .sl 6 0 0 d.uses.length, .sl 7 0 0 d.ar.length, .sl 8 0 0 d.macros.length, .sl 9 0 0 d.aR.length, .sl 10 0 0 d.aN.length, .t (.κ 4 (ω r4)), .t (.κ 2 (g.map Φ)), .t (.int .i64 0)])) (bI d.classes ⟨name, 1, (file : Int), bits, 0, 0, []⟩), trivial⟩
   ·exact ⟨rfl, rfl, rfl, bM aV d.classes ⟨name, 1, (file : Int), bits, 0, 0, []⟩, rfl, rfl, rfl, rfl, rfl, rfl, rfl, trivial⟩
theorem LP {d : τ} {g : List cU} {r0 : List ay} {s1 s2 s4 s5 s6 : PS} {name kw : List UInt8} {kind : Nat} {bits shift : Int} {bb : List Int} (hs : cE ⟨d, r0, g⟩) (hf : dm ⟨d, r0, g⟩ 4 = some (s1, name)) (gQ : bt s1 = some (s2, kw)) (fh : cH kw 1 [[114, 101, 103], [117, 110, 115], [115, 103, 110], [112, 99], [110, 120]] = some kind)
 (TD : 2 ≤ kind)
 (gx : cd s2 = some (s4, bits)) (kT : (match dR s4 [115, 104, 105, 102, 116] with | true => cd (g7 s4) | false => some (s4, (0 : Int))) = some (s5, shift))
 (hex : (match dR s5 [101, 120, 99, 101, 112, 116] with | true => cM 10 (g7 s5) [] | false => some (s5, ([] : List Int))) = some (s6, bb)) :
 cZ 55 3 ⟨d, r0, g⟩ ⟨{ d with classes := d.classes ++ [⟨name, (kind : Int), 0, bits, shift, 0, bb⟩] }, s6.rest, g⟩ := by
 have f1 : Ξ ⟨d, r0, g⟩ s1 := bG hf
 have f2 : Ξ ⟨d, r0, g⟩ s2 := f1.trans (aQ gQ)
 have χ : d.classes.length + 1 ≤ 100000 := by
  have := (cP hf).2.2
  have : s1.d.classes.length < 64 := by simpa [bE, dS] using this
  rw [f1.1] at this
  have : d.classes.length < 64 := this
  omega
 have h1 := fw hs (by decide) hf
 have h2 := bo gQ
 obtain ⟨eZ, cI, Rl⟩ := tF fh
 have hX := cx Bg kw (by decide)
 rw [eZ] at hX
 have f3 := f2
 have f4 : Ξ ⟨d, r0, g⟩ s4 := f3.trans (cu gx)
 have h4 := cS gx
 have hP := j4 s4 [115, 104, 105, 102, 116] _ rfl
 obtain ⟨d1, r1, g1⟩ := s1
 obtain rfl : d = d1 := f1.1.symm
 obtain rfl : g = g1 := f1.2.symm
 obtain ⟨d2, r2, g2⟩ := s2
 obtain rfl : d = d2 := f2.1.symm
 obtain rfl : g = g2 := f2.2.symm
 obtain ⟨d4, r4, g4⟩ := s4
 obtain rfl : d = d4 := f4.1.symm
 obtain rfl : g = g4 := f4.2.symm
 cases hp : dR ⟨d, r4, g⟩ [115, 104, 105, 102, 116] with
 | true =>
  rw [hp] at kT
  rw [show List.map (fun x => UInt8.toNat x) [115, 104, 105, 102, 116] = [115, 104, 105, 102, 116] from rfl, hp] at hP
  obtain ⟨t7, r7, Jv⟩ := f_ hp
  obtain rfl : r4 = _ := Jv
  have kT : cd ⟨d, r7, g⟩ = some (s5, shift) := kT
  have h5 := cS kT
  have f5 : Ξ ⟨d, r7, g⟩ s5 := cu kT
  obtain ⟨d5, r5, g5⟩ := s5
  obtain rfl : d = d5 := f5.1.symm
  obtain rfl : g = g5 := f5.2.symm
  have hQ := j4 ⟨d, r5, g⟩ [101, 120, 99, 101, 112, 116] _ rfl
  cases jy : dR ⟨d, r5, g⟩ [101, 120, 99, 101, 112, 116] with
  | true =>
   rw [jy] at hex
   rw [show List.map (fun x => UInt8.toNat x) [101, 120, 99, 101, 112, 116] = [101, 120, 99, 101, 112, 116] from rfl, jy] at hQ
   obtain ⟨te, re, vp⟩ := f_ jy
   obtain rfl : r5 = _ := vp
   have hex : cM 10 ⟨d, re, g⟩ [] = some (s6, bb) := hex
   unfold cZ
   refine aT ?_
   refine γ.ο ζ η Tryz.func55 rfl rfl ?_
   refine θ h1 (by rfl) (by rfl) ?_
   refine θ h2 (by rfl) (by rfl) ?_
   refine γ.bU hX rfl ⟨.vec 1 _, .refl _, trivial⟩ rfl ?_
   have k1 : decide ((kind : Int) < 1) = false := decide_eq_false (by omega)
   refine θ (Δ d _ _ k1 41) (by rfl) (by rfl) ?_
   refine U (fun c => absurd (of_decide_eq_true c) (by omega)) (fun _ => ?_)
   refine θ h4 (by rfl) (by rfl) ?_
   refine U (fun c => absurd (of_decide_eq_true c) (by omega)) (fun _ => ?_)
   refine U (fun _ => ?_) (fun c => absurd (of_decide_eq_false c) (by omega))
   refine θ hP (by rfl) (by rfl) ?_
   refine ε (fr _ _) ?_
   refine ua h5 (by rfl) rfl ?_
   refine θ hQ (by rfl) (by rfl) ?_
   refine ε (fr _ _) ?_
   refine ak (fun x : Nat × List ay × List Int => cM x.1 ⟨d, x.2.1, g⟩ x.2.2 = some (s6, bb)) (fun x : Nat × List ay × List Int => ⟨[(1, .ptr 11 0 0 0), (2, .ptr 12 0 0 0), (3, .ptr 13 0 0 0)], dH d ++ [.box (ec d (ω x.2.1) (g.map Φ)), .box cQ, .box [.t (.str name), .t (.int .i64 (kind : Int)), .t (.int .i64 0), .t (.int .i64 bits), .t (.int .i64 shift), .t (.int .i64 0), .sl 14 0 0 x.2.2.length], .arr 3 1 true 0 (.ts (x.2.2.map (T.int .i64)))]⟩) (fun x => x.1) (10, re, []) hex ?_ (fun ⟨n, R, L⟩ hx => ?_)
   ·refine aX.trans (π (s' := ⟨[(1, .ptr 11 0 0 0), (2, .ptr 12 0 0 0), (3, .ptr 13 0 0 0)], pt d [.box (ec d (ω re) (g.map Φ)), .box cQ, .box [.t (.str name), .t (.int .i64 (kind : Int)), .t (.int .i64 0), .t (.int .i64 bits), .t (.int .i64 shift), .t (.int .i64 0), .t .av]]⟩) [0, 1, 2, 3, 4, 5, 6, 7, 8, 9, 10, 11, 12, 13] rfl ⟨rfl, rfl, rfl, trivial⟩ ⟨rfl, rfl, rfl, rfl, rfl, rfl, rfl, rfl, rfl, rfl, rfl, congrArg (fun l => some (Ψ.box (ec d l (g.map Φ)))) (jl (kB te) (ω re)), rfl, rfl, trivial⟩) ?_
    exact iP (cs := [.t (.str name), .t (.int .i64 (kind : Int)), .t (.int .i64 0), .t (.int .i64 bits), .t (.int .i64 shift), .t (.int .i64 0), .t .av]) 13 6 _ _ rfl rfl
   have hx : cM n ⟨d, R, g⟩ L = some (s6, bb) := hx
   cases n with
   | zero => cases hx
   | succ n =>
    unfold cM at hx
    cases R with
    | nil =>
     cases hx
     refine Or.inl (And.intro (List.length_map _).symm (ε (cg χ rfl) ?_))
     refine aX.trans (gI 3 [14] (A := d.classes.map aV) (gU (aV ⟨name, (kind : Int), 0, bits, shift, 0, bb⟩)) rfl rfl rfl (fun j y t hy ht => by
      match j, hy, ht with
      | 0, hy, ht => cases hy; cases ht; exact .same _
      | 1, hy, ht => cases hy; cases ht; exact .same _
      | 2, hy, ht => cases hy; cases ht; exact .same _
      | 3, hy, ht => cases hy; cases ht; exact .same _
      | 4, hy, ht => cases hy; cases ht; exact .same _
      | 5, hy, ht => cases hy; cases ht; exact .same _
      | 6, hy, ht => cases hy; cases ht; exact .ff _ _ _ [14] 32 rfl (.of_eq (congrArg (T.κ _) (by rw [List.drop_zero]; exact List.take_of_length_le (by simp)))) (fun b hb => hb)
      | j + 7, hy, ht => cases hy)) ?_
     refine Ω ?_ ?_
     ·exact ⟨congrArg (fun n : Nat => some (AV.agg [.t (.str d.name), .t (.int .i64 d.order), .sl 0 0 0 d.files.length, .sl 1 0 0 d.aa.length, .sl 2 0 0 d.flags.length, .sl 3 2 0 n, .sl 4 0 0 d.forms.length, .sl 5 0 0 d.au.length, .sl 6 0 0 d.uses.length, .sl 7 0 0 d.ar.length, .sl 8 0 0 d.macros.length, .sl 9 0 0 d.aR.length, .sl 10 0 0 d.aN.length, .t (.κ 4 (ω [])), .t (.κ 2 (g.map Φ)), .t (.int .i64 0)])) (bI d.classes ⟨name, (kind : Int), 0, bits, shift, 0, bb⟩), trivial⟩
     ·exact ⟨rfl, rfl, rfl, bM aV d.classes ⟨name, (kind : Int), 0, bits, shift, 0, bb⟩, rfl, rfl, rfl, rfl, rfl, rfl, rfl, trivial⟩
    | cons t0 R0 =>
     have hx : (match kS ⟨d, t0 :: R0, g⟩ with | some (s, n') => (match Nat.blt L.length 8 with | true => cM n s (L ++ [n']) | false => none) | none => none) = some (s6, bb) := hx
     split at hx
     rotate_left 1
     ·cases hx
     rename_i s5 w hw
     split at hx
     rotate_left 1
     ·cases hx
     rename_i pi
     rw [Nat.blt_eq] at pi
     obtain ⟨q5, e5, rfl⟩ := iH hw
     obtain ⟨rfl, rfl⟩ := List.cons.inj e5
     have pn : decide (((L.length : Nat) : Int) ≥ 8) = false := decide_eq_false (by omega)
     refine U (fun c => ?_) (fun c => absurd (eI.symm.trans c) (by decide))
     refine θ (dj d 2 [] w [] (ω R0) (g.map Φ) (.inr rfl)) (by rfl) (by rfl) ?_
     refine θ (Δ d _ _ pn 43) (by rfl) (by rfl) ?_
     refine Or.inl (And.intro (List.length_map _).symm (ε (cg (n := L.length + 1) (by omega) rfl) ?_))
     conv => whnf
     exact ⟨⟨(n, R0, L ++ [w]), hx⟩, π [0, 1, 2, 3, 4, 5, 6, 7, 8, 9, 10, 11, 12, 13, 14] rfl ⟨rfl, rfl, rfl, trivial⟩ ⟨rfl, rfl, rfl, rfl, rfl, rfl, rfl, rfl, rfl, rfl, rfl, rfl, rfl, congrArg (fun m : Nat => some (Ψ.box [.t (.str name), .t (.int .i64 (kind : Int)), .t (.int .i64 0), .t (.int .i64 bits), .t (.int .i64 shift), .t (.int .i64 0), .sl 14 0 0 m])) (bI L w), bM (T.int .i64) L w, trivial⟩, Nat.lt_succ_self n⟩
  | false =>
   rw [jy] at hex
   rw [show List.map (fun x => UInt8.toNat x) [101, 120, 99, 101, 112, 116] = [101, 120, 99, 101, 112, 116] from rfl, jy] at hQ
   cases hex
   unfold cZ
   refine aT ?_
   refine γ.ο ζ η Tryz.func55 rfl rfl ?_
   refine θ h1 (by rfl) (by rfl) ?_
   refine θ h2 (by rfl) (by rfl) ?_
   refine γ.bU hX rfl ⟨.vec 1 _, .refl _, trivial⟩ rfl ?_
   have k1 : decide ((kind : Int) < 1) = false := decide_eq_false (by omega)
   refine θ (Δ d _ _ k1 41) (by rfl) (by rfl) ?_
   refine U (fun c => absurd (of_decide_eq_true c) (by omega)) (fun _ => ?_)
   refine θ h4 (by rfl) (by rfl) ?_
   refine U (fun c => absurd (of_decide_eq_true c) (by omega)) (fun _ => ?_)
   refine U (fun _ => ?_) (fun c => absurd (of_decide_eq_false c) (by omega))
   refine θ hP (by rfl) (by rfl) ?_
   refine ε (fr _ _) ?_
   refine ua h5 (by rfl) rfl ?_
   refine θ hQ (by rfl) (by rfl) ?_
   refine Or.inl (And.intro (List.length_map _).symm (ε (cg χ rfl) ?_))
   refine aX.trans (ln 3 (A := d.classes.map aV) (gU (aV ⟨name, (kind : Int), 0, bits, shift, 0, []⟩)) rfl rfl (fun j y t hy ht => by
    match j, hy, ht with
    | 0, hy, ht => cases hy; cases ht; exact .refl _
    | 1, hy, ht => cases hy; cases ht; exact .refl _
    | 2, hy, ht => cases hy; cases ht; exact .refl _
    | 3, hy, ht => cases hy; cases ht; exact .refl _
    | 4, hy, ht => cases hy; cases ht; exact .refl _
    | 5, hy, ht => cases hy; cases ht; exact .refl _
    | 6, hy, ht => cases hy; cases ht; exact (.av 1)
    | j + 7, hy, ht => cases hy)) ?_
   refine Ω ?_ ?_
   ·exact ⟨congrArg (fun n : Nat => some (AV.agg [.t (.str d.name), .t (.int .i64 d.order), .sl 0 0 0 d.files.length, .sl 1 0 0 d.aa.length, .sl 2 0 0 d.flags.length, .sl 3 2 0 n, .sl 4 0 0 d.forms.length, .sl 5 0 0 d.au.length, .sl 6 0 0 d.uses.length, .sl 7 0 0 d.ar.length, .sl 8 0 0 d.macros.length, .sl 9 0 0 d.aR.length, .sl 10 0 0 d.aN.length, .t (.κ 4 (ω r5)), .t (.κ 2 (g.map Φ)), .t (.int .i64 0)])) (bI d.classes ⟨name, (kind : Int), 0, bits, shift, 0, []⟩), trivial⟩
   ·exact ⟨rfl, rfl, rfl, bM aV d.classes ⟨name, (kind : Int), 0, bits, shift, 0, []⟩, rfl, rfl, rfl, rfl, rfl, rfl, rfl, trivial⟩
 | false =>
  rw [hp] at kT
  rw [show List.map (fun x => UInt8.toNat x) [115, 104, 105, 102, 116] = [115, 104, 105, 102, 116] from rfl, hp] at hP
  cases kT
  have hQ := j4 ⟨d, r4, g⟩ [101, 120, 99, 101, 112, 116] _ rfl
  cases jy : dR ⟨d, r4, g⟩ [101, 120, 99, 101, 112, 116] with
  | true =>
   rw [jy] at hex
   rw [show List.map (fun x => UInt8.toNat x) [101, 120, 99, 101, 112, 116] = [101, 120, 99, 101, 112, 116] from rfl, jy] at hQ
   obtain ⟨te, re, vp⟩ := f_ jy
   obtain rfl : r4 = _ := vp
   have hex : cM 10 ⟨d, re, g⟩ [] = some (s6, bb) := hex
   unfold cZ
   refine aT ?_
   refine γ.ο ζ η Tryz.func55 rfl rfl ?_
   refine θ h1 (by rfl) (by rfl) ?_
   refine θ h2 (by rfl) (by rfl) ?_
   refine γ.bU hX rfl ⟨.vec 1 _, .refl _, trivial⟩ rfl ?_
   have k1 : decide ((kind : Int) < 1) = false := decide_eq_false (by omega)
   refine θ (Δ d _ _ k1 41) (by rfl) (by rfl) ?_
   refine U (fun c => absurd (of_decide_eq_true c) (by omega)) (fun _ => ?_)
   refine θ h4 (by rfl) (by rfl) ?_
   refine U (fun c => absurd (of_decide_eq_true c) (by omega)) (fun _ => ?_)
   refine U (fun _ => ?_) (fun c => absurd (of_decide_eq_false c) (by omega))
   refine θ hP (by rfl) (by rfl) ?_
   refine θ hQ (by rfl) (by rfl) ?_
   refine ε (fr _ _) ?_
   refine ak (fun x : Nat × List ay × List Int => cM x.1 ⟨d, x.2.1, g⟩ x.2.2 = some (s6, bb)) (fun x : Nat × List ay × List Int => ⟨[(1, .ptr 11 0 0 0), (2, .ptr 12 0 0 0), (3, .ptr 13 0 0 0)], dH d ++ [.box (ec d (ω x.2.1) (g.map Φ)), .box cQ, .box [.t (.str name), .t (.int .i64 (kind : Int)), .t (.int .i64 0), .t (.int .i64 bits), .t (.int .i64 0), .t (.int .i64 0), .sl 14 0 0 x.2.2.length], .arr 3 1 true 0 (.ts (x.2.2.map (T.int .i64)))]⟩) (fun x => x.1) (10, re, []) hex ?_ (fun ⟨n, R, L⟩ hx => ?_)
   ·refine aX.trans (π (s' := ⟨[(1, .ptr 11 0 0 0), (2, .ptr 12 0 0 0), (3, .ptr 13 0 0 0)], pt d [.box (ec d (ω re) (g.map Φ)), .box cQ, .box [.t (.str name), .t (.int .i64 (kind : Int)), .t (.int .i64 0), .t (.int .i64 bits), .t (.int .i64 0), .t (.int .i64 0), .t .av]]⟩) [0, 1, 2, 3, 4, 5, 6, 7, 8, 9, 10, 11, 12, 13] rfl ⟨rfl, rfl, rfl, trivial⟩ ⟨rfl, rfl, rfl, rfl, rfl, rfl, rfl, rfl, rfl, rfl, rfl, congrArg (fun l => some (Ψ.box (ec d l (g.map Φ)))) (jl (kB te) (ω re)), rfl, rfl, trivial⟩) ?_
    exact iP (cs := [.t (.str name), .t (.int .i64 (kind : Int)), .t (.int .i64 0), .t (.int .i64 bits), .t (.int .i64 0), .t (.int .i64 0), .t .av]) 13 6 _ _ rfl rfl
   have hx : cM n ⟨d, R, g⟩ L = some (s6, bb) := hx
   cases n with
   | zero => cases hx
   | succ n =>
    unfold cM at hx
    cases R with
    | nil =>
     cases hx
     refine Or.inl (And.intro (List.length_map _).symm (ε (cg χ rfl) ?_))
     refine aX.trans (gI 3 [14] (A := d.classes.map aV) (gU (aV ⟨name, (kind : Int), 0, bits, 0, 0, bb⟩)) rfl rfl rfl (fun j y t hy ht => by
      match j, hy, ht with
      | 0, hy, ht => cases hy; cases ht; exact .same _
      | 1, hy, ht => cases hy; cases ht; exact .same _
      | 2, hy, ht => cases hy; cases ht; exact .same _
      | 3, hy, ht => cases hy; cases ht; exact .same _
      | 4, hy, ht => cases hy; cases ht; exact .same _
      | 5, hy, ht => cases hy; cases ht; exact .same _
      | 6, hy, ht => cases hy; cases ht; exact .ff _ _ _ [14] 32 rfl (.of_eq (congrArg (T.κ _) (by rw [List.drop_zero]; exact List.take_of_length_le (by simp)))) (fun b hb => hb)
      | j + 7, hy, ht => cases hy)) ?_
     refine Ω ?_ ?_
     ·exact ⟨congrArg (fun n : Nat => some (AV.agg [.t (.str d.name), .t (.int .i64 d.order), .sl 0 0 0 d.files.length, .sl 1 0 0 d.aa.length, .sl 2 0 0 d.flags.length, .sl 3 2 0 n, .sl 4 0 0 d.forms.length, .sl 5 0 0 d.au.length, .sl 6 0 0 d.uses.length, .sl 7 0 0 d.ar.length, .sl 8 0 0 d.macros.length, .sl 9 0 0 d.aR.length, .sl 10 0 0 d.aN.length, .t (.κ 4 (ω [])), .t (.κ 2 (g.map Φ)), .t (.int .i64 0)])) (bI d.classes ⟨name, (kind : Int), 0, bits, 0, 0, bb⟩), trivial⟩
     ·exact ⟨rfl, rfl, rfl, bM aV d.classes ⟨name, (kind : Int), 0, bits, 0, 0, bb⟩, rfl, rfl, rfl, rfl, rfl, rfl, rfl, trivial⟩
    | cons t0 R0 =>
     have hx : (match kS ⟨d, t0 :: R0, g⟩ with | some (s, n') => (match Nat.blt L.length 8 with | true => cM n s (L ++ [n']) | false => none) | none => none) = some (s6, bb) := hx
     split at hx
     rotate_left 1
     ·cases hx
     rename_i s5 w hw
     split at hx
     rotate_left 1
     ·cases hx
     rename_i pi
     rw [Nat.blt_eq] at pi
     obtain ⟨q5, e5, rfl⟩ := iH hw
     obtain ⟨rfl, rfl⟩ := List.cons.inj e5
     have pn : decide (((L.length : Nat) : Int) ≥ 8) = false := decide_eq_false (by omega)
     refine U (fun c => ?_) (fun c => absurd (eI.symm.trans c) (by decide))
     refine θ (dj d 2 [] w [] (ω R0) (g.map Φ) (.inr rfl)) (by rfl) (by rfl) ?_
     refine θ (Δ d _ _ pn 43) (by rfl) (by rfl) ?_
     refine Or.inl (And.intro (List.length_map _).symm (ε (cg (n := L.length + 1) (by omega) rfl) ?_))
     conv => whnf
     exact ⟨⟨(n, R0, L ++ [w]), hx⟩, π [0, 1, 2, 3, 4, 5, 6, 7, 8, 9, 10, 11, 12, 13, 14] rfl ⟨rfl, rfl, rfl, trivial⟩ ⟨rfl, rfl, rfl, rfl, rfl, rfl, rfl, rfl, rfl, rfl, rfl, rfl, rfl, congrArg (fun m : Nat => some (Ψ.box [.t (.str name), .t (.int .i64 (kind : Int)), .t (.int .i64 0), .t (.int .i64 bits), .t (.int .i64 0), .t (.int .i64 0), .sl 14 0 0 m])) (bI L w), bM (T.int .i64) L w, trivial⟩, Nat.lt_succ_self n⟩
  | false =>
   rw [jy] at hex
   rw [show List.map (fun x => UInt8.toNat x) [101, 120, 99, 101, 112, 116] = [101, 120, 99, 101, 112, 116] from rfl, jy] at hQ
   cases hex
   unfold cZ
   refine aT ?_
   refine γ.ο ζ η Tryz.func55 rfl rfl ?_
   refine θ h1 (by rfl) (by rfl) ?_
   refine θ h2 (by rfl) (by rfl) ?_
   refine γ.bU hX rfl ⟨.vec 1 _, .refl _, trivial⟩ rfl ?_
   have k1 : decide ((kind : Int) < 1) = false := decide_eq_false (by omega)
   refine θ (Δ d _ _ k1 41) (by rfl) (by rfl) ?_
   refine U (fun c => absurd (of_decide_eq_true c) (by omega)) (fun _ => ?_)
   refine θ h4 (by rfl) (by rfl) ?_
   refine U (fun c => absurd (of_decide_eq_true c) (by omega)) (fun _ => ?_)
   refine U (fun _ => ?_) (fun c => absurd (of_decide_eq_false c) (by omega))
   refine θ hP (by rfl) (by rfl) ?_
   refine θ hQ (by rfl) (by rfl) ?_
   refine Or.inl (And.intro (List.length_map _).symm (ε (cg χ rfl) ?_))
   refine aX.trans (ln 3 (A := d.classes.map aV) (gU (aV ⟨name, (kind : Int), 0, bits, 0, 0, []⟩)) rfl rfl (fun j y t hy ht => by
    match j, hy, ht with
    | 0, hy, ht => cases hy; cases ht; exact .refl _
    | 1, hy, ht => cases hy; cases ht; exact .refl _
    | 2, hy, ht => cases hy; cases ht; exact .refl _
    | 3, hy, ht => cases hy; cases ht; exact .refl _
    | 4, hy, ht => cases hy; cases ht; exact .refl _
    | 5, hy, ht => cases hy; cases ht; exact .refl _
    | 6, hy, ht => cases hy; cases ht; exact (.av 1)
    | j + 7, hy, ht => cases hy)) ?_
   refine Ω ?_ ?_
   ·exact ⟨congrArg (fun n : Nat => some (AV.agg [.t (.str d.name), .t (.int .i64 d.order), .sl 0 0 0 d.files.length, .sl 1 0 0 d.aa.length, .sl 2 0 0 d.flags.length, .sl 3 2 0 n, .sl 4 0 0 d.forms.length, .sl 5 0 0 d.au.length, .sl 6 0 0 d.uses.length, .sl 7 0 0 d.ar.length, .sl 8 0 0 d.macros.length, .sl 9 0 0 d.aR.length, .sl 10 0 0 d.aN.length, .t (.κ 4 (ω r4)), .t (.κ 2 (g.map Φ)), .t (.int .i64 0)])) (bI d.classes ⟨name, (kind : Int), 0, bits, 0, 0, []⟩), trivial⟩
   ·exact ⟨rfl, rfl, rfl, bM aV d.classes ⟨name, (kind : Int), 0, bits, 0, 0, []⟩, rfl, rfl, rfl, rfl, rfl, rfl, rfl, trivial⟩
theorem tz : ∀ (n : Nat) (s : PS) (l : List Int) {s' : PS} {l' : List Int}, cM n s l = some (s', l') → Ξ s s'
 | 0, s, l, s', l', h => by cases h
 | n + 1, s, l, s', l', h => by
  unfold cM at h
  split at h
  ·cases h; exact ⟨rfl, rfl⟩
  ·split at h
   ·rename_i t m ht
    split at h
    ·exact (FZ ht).trans (tz n t _ h)
    ·cases h
   ·cases h
theorem rG {s s' : PS} {b : Bool} {n : Int} (h : (match b with | true => cd (g7 s) | false => some (s, (0 : Int))) = some (s', n)) : Ξ s s' := by
 cases b with
 | true => exact cu (s := g7 s) h
 | false => cases h; exact ⟨rfl, rfl⟩
theorem JC {s s' : PS} (hs : cE s) (h : pu s = some s') : cZ 55 3 s s' := by
 unfold pu at h
 split at h
 ·cases h
 rename_i s1 name hf
 split at h
 ·cases h
 rename_i s2 kw gQ
 split at h
 ·cases h
 rename_i kind fh
 split at h
 ·cases h
 rename_i s3 file fA
 split at h
 ·cases h
 rename_i s4 bits gx
 split at h
 ·cases h
 rename_i s5 plus m9
 split at h
 ·cases h
 rename_i s6 shift kq
 split at h
 ·cases h
 rename_i s7 bb hex
 cases h
 have f2 : Ξ s s2 := (bG hf).trans (aQ gQ)
 have od := tF fh
 obtain ⟨d, r0, g⟩ := s
 have f67 : Ξ s6 s7 := by
  cases hp : dR s6 [101, 120, 99, 101, 112, 116] with
  | true => rw [hp] at hex; exact (tz _ (g7 s6) _ hex)
  | false => rw [hp] at hex; cases hex; exact ⟨rfl, rfl⟩
 by_cases h1 : kind = 1
 ·subst h1
  have fA : (match bK s2 1 with | some (s, f) => some (s, (f : Int)) | none => none) = some (s3, file) := fA
  split at fA
  rotate_left 1
  ·cases fA
  rename_i S7 f AP
  cases fA
  have m9 : (match dR s4 [112, 108, 117, 115] with | true => cd (g7 s4) | false => some (s4, (0 : Int))) = some (s5, plus) := m9
  have kq : some (s5, (0 : Int)) = some (s6, shift) := kq
  cases kq
  have e := ((((f2.trans (bO AP)).trans (cu gx)).trans (rG m9)).trans f67)
  have hd : s7.d = d := e.1
  have hg : s7.args = g := e.2
  rw [hd, hg]
  exact LQ hs hf gQ fh AP gx m9 hex
 ·have h2 : 2 ≤ kind := by omega
  have fA : some (s2, (0 : Int)) = some (s3, file) := by
   match kind, h1, fA with
   | 0, _, fA => exact fA
   | 1, h1, _ => exact absurd rfl h1
   | k + 2, _, fA => exact fA
  cases fA
  have kt : Nat.beq kind 1 = false := by
   cases hb : Nat.beq kind 1
   ·rfl
   ·exact absurd (Nat.eq_of_beq_eq_true hb) h1
  have iz : Nat.blt 1 kind = true := by rw [Nat.blt_eq]; omega
  rw [kt] at m9
  have m9 : some (s4, (0 : Int)) = some (s5, plus) := m9
  cases m9
  rw [iz] at kq
  have kq : (match dR s4 [115, 104, 105, 102, 116] with | true => cd (g7 s4) | false => some (s4, (0 : Int))) = some (s6, shift) := kq
  have e := (((f2.trans (cu gx)).trans (rG kq)).trans f67)
  have hd : s7.d = d := e.1
  have hg : s7.args = g := e.2
  rw [hd, hg]
  exact LP hs hf gQ fh h2 gx kq hex
end Go.Proofs.YtcogcbplmkcojaaGreatDoor
namespace Go.Proofs.YtcogcbplmkcojaaGreatDoor
open Go.IntWalk
set_option maxRecDepth 100000
set_option linter.unusedVariables false
set_option linter.unusedSimpArgs false
set_option maxHeartbeats 4000000
def cK : Ord := (.op 0 [] (.op 1 [0] (.op 2 [0] (.op 3 [0] (.op 4 [] (.op 5 [] .nil))))))
def zR : List (List UInt8) := [[], [110, 111, 110, 101], [100, 97, 116, 97], [105, 110, 115, 110], [112, 97, 105, 114]]
theorem qB {kw : List UInt8} {kind : Nat} (h : cH kw 1 [[110, 111, 110, 101], [100, 97, 116, 97], [105, 110, 115, 110], [112, 97, 105, 114]] = some kind) : fT kw zR = (kind : Int) ∧ 1 ≤ kind ∧ kind ≤ 4 := by
 obtain ⟨i, x, rfl, hx, rfl⟩ := aZ _ _ _ _ h
 match i, hx with
 | 0, hx => cases hx; exact ⟨by decide, by decide, by decide⟩
 | 1, hx => cases hx; exact ⟨by decide, by decide, by decide⟩
 | 2, hx => cases hx; exact ⟨by decide, by decide, by decide⟩
 | 3, hx => cases hx; exact ⟨by decide, by decide, by decide⟩
 | i + 4, hx => cases hx
def JD : List (List UInt8) := [[115, 105, 103, 110, 101, 100], [117, 110, 115, 105, 103, 110, 101, 100], [101, 105, 116, 104, 101, 114], [97, 108, 105, 103, 110], [114, 111, 117, 110, 100], [115, 108, 105, 99, 101]]
theorem On {d : τ} {g : List cU} {r0 : List ay} {s1 s2 s3 : PS} {name kw : List UInt8} {num : Int} (hs : cE ⟨d, r0, g⟩) (hf : dm ⟨d, r0, g⟩ 6 = some (s1, name)) (gA : cd s1 = some (s2, num)) (gQ : bt s2 = some (s3, kw)) (fh : cH kw 1 [[110, 111, 110, 101], [100, 97, 116, 97], [105, 110, 115, 110], [112, 97, 105, 114]] = some 1)
 : cZ 58 5 ⟨d, r0, g⟩ ⟨{ d with au := d.au ++ [⟨name, num, 1, 0, 0, 0, 0, 0, 0, 0, [], 0, 0, 0, 0, -1, 0⟩] }, s3.rest, g⟩ := by
 have f1 : Ξ ⟨d, r0, g⟩ s1 := bG hf
 have f2 : Ξ ⟨d, r0, g⟩ s2 := f1.trans (cu gA)
 have f3 : Ξ ⟨d, r0, g⟩ s3 := f2.trans (aQ gQ)
 have χ : d.au.length + 1 ≤ 100000 := by
  have := (cP hf).2.2
  have : s1.d.au.length < 128 := by simpa [bE, dS] using this
  rw [f1.1] at this
  have : d.au.length < 128 := this
  omega
 have h1 := fw hs (by decide) hf
 have h2 := cS gA
 have h3 := bo gQ
 obtain ⟨eZ, _, _⟩ := qB fh
 have hX := cx zR kw (by decide)
 rw [eZ] at hX
 obtain ⟨d1, r1, g1⟩ := s1
 obtain rfl : d = d1 := f1.1.symm
 obtain rfl : g = g1 := f1.2.symm
 obtain ⟨d2, r2, g2⟩ := s2
 obtain rfl : d = d2 := f2.1.symm
 obtain rfl : g = g2 := f2.2.symm
 obtain ⟨d3, r3, g3⟩ := s3
 obtain rfl : d = d3 := f3.1.symm
 obtain rfl : g = g3 := f3.2.symm
 unfold cZ
 refine aT ?_
 refine γ.ο ζ η Tryz.func58 rfl rfl ?_
 refine θ h1 (by rfl) (by rfl) ?_
 refine θ h2 (by rfl) (by rfl) ?_
 refine θ h3 (by rfl) (by rfl) ?_
 refine γ.bU hX rfl ⟨.vec 1 _, .refl _, trivial⟩ rfl ?_
 refine θ (Δ d _ _ rfl 41) (by rfl) (by rfl) ?_
 refine Or.inl (And.intro (List.length_map _).symm (ε (cg χ rfl) ?_))
 refine aX.trans (ln 5 (A := d.au.map ei) (gU (ei ⟨name, num, 1, 0, 0, 0, 0, 0, 0, 0, [], 0, 0, 0, 0, -1, 0⟩)) rfl rfl (fun j y t hy ht => by
  match j, hy, ht with
  | 0, hy, ht => cases hy; cases ht; exact .refl _
  | 1, hy, ht => cases hy; cases ht; exact .refl _
  | 2, hy, ht => cases hy; cases ht; exact .refl _
  | 3, hy, ht => cases hy; cases ht; exact .refl _
  | 4, hy, ht => cases hy; cases ht; exact .refl _
  | 5, hy, ht => cases hy; cases ht; exact .refl _
  | 6, hy, ht => cases hy; cases ht; exact .refl _
  | 7, hy, ht => cases hy; cases ht; exact .refl _
  | 8, hy, ht => cases hy; cases ht; exact .refl _
  | 9, hy, ht => cases hy; cases ht; exact .refl _
  | 10, hy, ht => cases hy; cases ht; exact (.av 5)
  | 11, hy, ht => cases hy; cases ht; exact .refl _
  | 12, hy, ht => cases hy; cases ht; exact .refl _
  | 13, hy, ht => cases hy; cases ht; exact .refl _
  | 14, hy, ht => cases hy; cases ht; exact .refl _
  | 15, hy, ht => cases hy; cases ht; exact .refl _
  | 16, hy, ht => cases hy; cases ht; exact .refl _
  | j + 17, hy, ht => cases hy)) ?_
 refine Ω ?_ ?_
 ·exact ⟨congrArg (fun n : Nat => some (AV.agg [.t (.str d.name), .t (.int .i64 d.order), .sl 0 0 0 d.files.length, .sl 1 0 0 d.aa.length, .sl 2 0 0 d.flags.length, .sl 3 0 0 d.classes.length, .sl 4 0 0 d.forms.length, .sl 5 2 0 n, .sl 6 0 0 d.uses.length, .sl 7 0 0 d.ar.length, .sl 8 0 0 d.macros.length, .sl 9 0 0 d.aR.length, .sl 10 0 0 d.aN.length, .t (.κ 4 (ω r3)), .t (.κ 2 (g.map Φ)), .t (.int .i64 0)])) (bI d.au ⟨name, num, 1, 0, 0, 0, 0, 0, 0, 0, [], 0, 0, 0, 0, -1, 0⟩), trivial⟩
 ·exact ⟨rfl, rfl, rfl, rfl, rfl, bM ei d.au ⟨name, num, 1, 0, 0, 0, 0, 0, 0, 0, [], 0, 0, 0, 0, -1, 0⟩, rfl, rfl, rfl, rfl, rfl, trivial⟩
theorem Om {d : τ} {g : List cU} {r0 : List ay} {s1 s2 s3 s4 s8 s9 : PS} {name kw : List UInt8} {num : Int} (hs : cE ⟨d, r0, g⟩) (hf : dm ⟨d, r0, g⟩ 6 = some (s1, name)) (gA : cd s1 = some (s2, num)) (gQ : bt s2 = some (s3, kw)) (fh : cH kw 1 [[110, 111, 110, 101], [100, 97, 116, 97], [105, 110, 115, 110], [112, 97, 105, 114]] = some 2)
 {G3 : Int} (mg : cd s3 = some (s4, G3))
 {op w a b : Int} {ks : List T} (jz : kI 40 s4 = some (s8, (op, w, a, b), ks)) {c9 : jZ} (kh : ct 10 s8 ⟨0, 0, 0, 0, -1, 0, []⟩ = some (s9, c9))
 : cZ 58 5 ⟨d, r0, g⟩ ⟨{ d with au := d.au ++ [⟨name, num, 2, G3, 0, 0, op, w, a, b, ks, c9.sign, c9.width, c9.align, c9.round, c9.hi, c9.lo⟩] }, s9.rest, g⟩ := by
 have f1 : Ξ ⟨d, r0, g⟩ s1 := bG hf
 have f2 : Ξ ⟨d, r0, g⟩ s2 := f1.trans (cu gA)
 have f3 : Ξ ⟨d, r0, g⟩ s3 := f2.trans (aQ gQ)
 have χ : d.au.length + 1 ≤ 100000 := by
  have := (cP hf).2.2
  have : s1.d.au.length < 128 := by simpa [bE, dS] using this
  rw [f1.1] at this
  have : d.au.length < 128 := this
  omega
 have h1 := fw hs (by decide) hf
 have h2 := cS gA
 have h3 := bo gQ
 obtain ⟨eZ, _, _⟩ := qB fh
 have hX := cx zR kw (by decide)
 rw [eZ] at hX
 have f4 : Ξ ⟨d, r0, g⟩ s4 := f3.trans (cu mg)
 have h4 := cS mg
 obtain ⟨GM, h8⟩ := oF 40 _ _ _ _ _ _ _ jz
 have f8 : Ξ ⟨d, r0, g⟩ s8 := f4.trans GM
 unfold bz at h8
 obtain ⟨d1, r1, g1⟩ := s1
 obtain rfl : d = d1 := f1.1.symm
 obtain rfl : g = g1 := f1.2.symm
 obtain ⟨d2, r2, g2⟩ := s2
 obtain rfl : d = d2 := f2.1.symm
 obtain rfl : g = g2 := f2.2.symm
 obtain ⟨d3, r3, g3⟩ := s3
 obtain rfl : d = d3 := f3.1.symm
 obtain rfl : g = g3 := f3.2.symm
 obtain ⟨d4, r4, g4⟩ := s4
 obtain rfl : d = d4 := f4.1.symm
 obtain rfl : g = g4 := f4.2.symm
 obtain ⟨d8, r8, g8⟩ := s8
 obtain rfl : d = d8 := f8.1.symm
 obtain rfl : g = g8 := f8.2.symm
 unfold cZ
 refine aT ?_
 refine γ.ο ζ η Tryz.func58 rfl rfl ?_
 refine θ h1 (by rfl) (by rfl) ?_
 refine θ h2 (by rfl) (by rfl) ?_
 refine θ h3 (by rfl) (by rfl) ?_
 refine γ.bU hX rfl ⟨.vec 1 _, .refl _, trivial⟩ rfl ?_
 refine θ (Δ d _ _ rfl 41) (by rfl) (by rfl) ?_
 refine θ h4 (by rfl) (by rfl) ?_
 refine θ h8 (by rfl) (by rfl) ?_
 refine ak (fun x : Nat × List ay × jZ => ct x.1 ⟨d, x.2.1, g⟩ x.2.2 = some (s9, c9)) (fun x : Nat × List ay × jZ => ⟨[(1, .ptr 11 0 0 0), (2, .ptr 12 0 0 0), (3, .ptr 13 0 0 0), (5, .ptr 14 0 0 0)], pt d [.box (ec d (ω x.2.1) (g.map Φ)), .box cQ, .box [.t (.str name), .t (.int .i64 num), .t (.int .i64 2), .t (.int .i64 G3), .t (.int .i64 0), .t (.int .i64 0), .t (.int .i64 op), .t (.int .i64 w), .t (.int .i64 a), .t (.int .i64 b), .t (.κ 5 ks), .t (.int .i64 x.2.2.sign), .t (.int .i64 x.2.2.width), .t (.int .i64 x.2.2.align), .t (.int .i64 x.2.2.round), .t (.int .i64 x.2.2.hi), .t (.int .i64 x.2.2.lo)], .box [.t (.bool (x.2.2.seen.contains 0)), .t (.bool (x.2.2.seen.contains 1)), .t (.bool (x.2.2.seen.contains 2)), .t (.bool (x.2.2.seen.contains 3)), .t (.bool (x.2.2.seen.contains 4))]]⟩) (fun x => x.1) (10, r8, ⟨0, 0, 0, 0, -1, 0, []⟩) kh ?_ (fun ⟨n, R, c⟩ hx => ?_)
 ·exact π [0, 1, 2, 3, 4, 5, 6, 7, 8, 9, 10, 11, 12, 13, 15] rfl ⟨rfl, rfl, rfl, rfl, trivial⟩ ⟨rfl, rfl, rfl, rfl, rfl, rfl, rfl, rfl, rfl, rfl, rfl, rfl, rfl, rfl, rfl, trivial⟩
 have hx : ct n ⟨d, R, g⟩ c = some (s9, c9) := hx
 cases n with
 | zero => cases hx
 | succ n =>
  unfold ct at hx
  cases R with
  | nil =>
   cases hx
   refine Or.inl (And.intro (List.length_map _).symm (ε (cg χ rfl) ?_))
   refine Ω ?_ ?_
   ·exact ⟨congrArg (fun n : Nat => some (AV.agg [.t (.str d.name), .t (.int .i64 d.order), .sl 0 0 0 d.files.length, .sl 1 0 0 d.aa.length, .sl 2 0 0 d.flags.length, .sl 3 0 0 d.classes.length, .sl 4 0 0 d.forms.length, .sl 5 2 0 n, .sl 6 0 0 d.uses.length, .sl 7 0 0 d.ar.length, .sl 8 0 0 d.macros.length, .sl 9 0 0 d.aR.length, .sl 10 0 0 d.aN.length, .t (.κ 4 (ω [])), .t (.κ 2 (g.map Φ)), .t (.int .i64 0)])) (bI d.au ⟨name, num, 2, G3, 0, 0, op, w, a, b, ks, c9.sign, c9.width, c9.align, c9.round, c9.hi, c9.lo⟩), trivial⟩
   ·exact ⟨rfl, rfl, rfl, rfl, rfl, bM ei d.au ⟨name, num, 2, G3, 0, 0, op, w, a, b, ks, c9.sign, c9.width, c9.align, c9.round, c9.hi, c9.lo⟩, rfl, rfl, rfl, rfl, rfl, trivial⟩
  | cons t0 R0 =>
   rw [show aJ (⟨d, t0 :: R0, g⟩ : PS) = false from rfl] at hx
   dsimp only at hx
   split at hx
   ·cases hx
   rename_i u1 inner aG
   split at hx
   ·cases hx
   rename_i u2 head yr
   split at hx
   ·cases hx
   rename_i i hi
   split at hx
   ·cases hx
   rename_i hc
   split at hx
   ·cases hx
   rename_i u3 m hm
   have k1 := bV aG
   have k2 := bo yr
   have k3 := cS hm
   have p2 : Ξ u1 u2 := aQ yr
   have p3 : Ξ u2 u3 := cu hm
   obtain ⟨l0, e0, rfl⟩ := aH aG
   obtain ⟨rfl, rfl⟩ := List.cons.inj e0
   obtain ⟨Bc, Mi, AX⟩ := u2
   obtain rfl : d = Bc := p2.1.symm
   obtain rfl : g = AX := p2.2.symm
   obtain ⟨Bb, ij, AW⟩ := u3
   obtain rfl : d = Bb := p3.1.symm
   obtain rfl : g = AW := p3.2.symm
   have hX := cx JD head (by decide)
   obtain ⟨i', x', e1, q2, q3⟩ := aZ _ _ _ _ hi
   refine U (fun _ => ?_) (fun c => absurd (eI.symm.trans c) (by decide))
   match i', q2 with
   | 0, q2 =>
    cases q2
    obtain rfl : i = 0 := by omega
    subst q3
    have hc : c.seen.contains 0 = false := hc
    have hx : (match aJ ⟨d, ij, g⟩ with | true => ct n ⟨d, R0, g⟩ { c with sign := 1, width := m, seen := 0 :: c.seen } | false => none) = some (s9, c9) := hx
    split at hx
    rotate_left 1
    ·cases hx
    rename_i he
    have k5 := cJ he
    refine θ k1 (by rfl) (by rfl) ?_
    refine θ k2 (by rfl) (by rfl) ?_
    refine γ.bU hX rfl ⟨.vec 1 _, .refl _, trivial⟩ rfl ?_
    refine θ (Δ d _ _ rfl 41) (by rfl) (by rfl) ?_
    refine υ cK (by decide +kernel) ?_
    refine θ (Δ d _ _ hc 41) (by rfl) (by rfl) ?_
    refine And.intro (fun j hj => by cases hj) ?_
    refine And.intro (fun j hj => by cases hj) ?_
    refine θ k3 (by rfl) (by rfl) ?_
    refine θ k5 (by rfl) (by rfl) ?_
    conv => whnf
    exact ⟨⟨(n, R0, { c with sign := 1, width := m, seen := 0 :: c.seen }), hx⟩, π [0, 1, 2, 3, 4, 5, 6, 7, 8, 9, 10, 11, 12, 13, 14] rfl ⟨rfl, rfl, rfl, rfl, trivial⟩ ⟨rfl, rfl, rfl, rfl, rfl, rfl, rfl, rfl, rfl, rfl, rfl, rfl, rfl, rfl, rfl, trivial⟩, Nat.lt_succ_self n⟩
   | 1, q2 =>
    cases q2
    obtain rfl : i = 1 := by omega
    subst q3
    have hc : c.seen.contains 0 = false := hc
    have hx : (match aJ ⟨d, ij, g⟩ with | true => ct n ⟨d, R0, g⟩ { c with sign := 2, width := m, seen := 0 :: c.seen } | false => none) = some (s9, c9) := hx
    split at hx
    rotate_left 1
    ·cases hx
    rename_i he
    have k5 := cJ he
    refine θ k1 (by rfl) (by rfl) ?_
    refine θ k2 (by rfl) (by rfl) ?_
    refine γ.bU hX rfl ⟨.vec 1 _, .refl _, trivial⟩ rfl ?_
    refine θ (Δ d _ _ rfl 41) (by rfl) (by rfl) ?_
    refine υ cK (by decide +kernel) ?_
    refine θ (Δ d _ _ hc 41) (by rfl) (by rfl) ?_
    refine And.intro (fun j hj => by cases hj) ?_
    refine And.intro (fun j hj => by cases hj) ?_
    refine θ k3 (by rfl) (by rfl) ?_
    refine θ k5 (by rfl) (by rfl) ?_
    conv => whnf
    exact ⟨⟨(n, R0, { c with sign := 2, width := m, seen := 0 :: c.seen }), hx⟩, π [0, 1, 2, 3, 4, 5, 6, 7, 8, 9, 10, 11, 12, 13, 14] rfl ⟨rfl, rfl, rfl, rfl, trivial⟩ ⟨rfl, rfl, rfl, rfl, rfl, rfl, rfl, rfl, rfl, rfl, rfl, rfl, rfl, rfl, rfl, trivial⟩, Nat.lt_succ_self n⟩
   | 2, q2 =>
    cases q2
    obtain rfl : i = 2 := by omega
    subst q3
    have hc : c.seen.contains 0 = false := hc
    have hx : (match aJ ⟨d, ij, g⟩ with | true => ct n ⟨d, R0, g⟩ { c with sign := 3, width := m, seen := 0 :: c.seen } | false => none) = some (s9, c9) := hx
    split at hx
    rotate_left 1
    ·cases hx
    rename_i he
    have k5 := cJ he
    refine θ k1 (by rfl) (by rfl) ?_
    refine θ k2 (by rfl) (by rfl) ?_
    refine γ.bU hX rfl ⟨.vec 1 _, .refl _, trivial⟩ rfl ?_
    refine θ (Δ d _ _ rfl 41) (by rfl) (by rfl) ?_
    refine υ cK (by decide +kernel) ?_
    refine θ (Δ d _ _ hc 41) (by rfl) (by rfl) ?_
    refine And.intro (fun j hj => by cases hj) ?_
    refine And.intro (fun j hj => by cases hj) ?_
    refine θ k3 (by rfl) (by rfl) ?_
    refine θ k5 (by rfl) (by rfl) ?_
    conv => whnf
    exact ⟨⟨(n, R0, { c with sign := 3, width := m, seen := 0 :: c.seen }), hx⟩, π [0, 1, 2, 3, 4, 5, 6, 7, 8, 9, 10, 11, 12, 13, 14] rfl ⟨rfl, rfl, rfl, rfl, trivial⟩ ⟨rfl, rfl, rfl, rfl, rfl, rfl, rfl, rfl, rfl, rfl, rfl, rfl, rfl, rfl, rfl, trivial⟩, Nat.lt_succ_self n⟩
   | 3, q2 =>
    cases q2
    obtain rfl : i = 3 := by omega
    subst q3
    have hc : c.seen.contains 1 = false := hc
    have hx : (match aJ ⟨d, ij, g⟩ with | true => ct n ⟨d, R0, g⟩ { c with align := m, seen := 1 :: c.seen } | false => none) = some (s9, c9) := hx
    split at hx
    rotate_left 1
    ·cases hx
    rename_i he
    have k5 := cJ he
    refine θ k1 (by rfl) (by rfl) ?_
    refine θ k2 (by rfl) (by rfl) ?_
    refine γ.bU hX rfl ⟨.vec 1 _, .refl _, trivial⟩ rfl ?_
    refine θ (Δ d _ _ rfl 41) (by rfl) (by rfl) ?_
    refine υ cK (by decide +kernel) ?_
    refine θ (Δ d _ _ hc 41) (by rfl) (by rfl) ?_
    refine And.intro (fun j hj => by cases hj) ?_
    refine And.intro (fun j hj => by cases hj) ?_
    refine θ k3 (by rfl) (by rfl) ?_
    refine θ k5 (by rfl) (by rfl) ?_
    conv => whnf
    exact ⟨⟨(n, R0, { c with align := m, seen := 1 :: c.seen }), hx⟩, π [0, 1, 2, 3, 4, 5, 6, 7, 8, 9, 10, 11, 12, 13, 14] rfl ⟨rfl, rfl, rfl, rfl, trivial⟩ ⟨rfl, rfl, rfl, rfl, rfl, rfl, rfl, rfl, rfl, rfl, rfl, rfl, rfl, rfl, rfl, trivial⟩, Nat.lt_succ_self n⟩
   | 4, q2 =>
    cases q2
    obtain rfl : i = 4 := by omega
    subst q3
    have hc : c.seen.contains 2 = false := hc
    have hx : (match aJ ⟨d, ij, g⟩ with | true => ct n ⟨d, R0, g⟩ { c with round := m, seen := 2 :: c.seen } | false => none) = some (s9, c9) := hx
    split at hx
    rotate_left 1
    ·cases hx
    rename_i he
    have k5 := cJ he
    refine θ k1 (by rfl) (by rfl) ?_
    refine θ k2 (by rfl) (by rfl) ?_
    refine γ.bU hX rfl ⟨.vec 1 _, .refl _, trivial⟩ rfl ?_
    refine θ (Δ d _ _ rfl 41) (by rfl) (by rfl) ?_
    refine υ cK (by decide +kernel) ?_
    refine θ (Δ d _ _ hc 41) (by rfl) (by rfl) ?_
    refine And.intro (fun j hj => by cases hj) ?_
    refine And.intro (fun j hj => by cases hj) ?_
    refine θ k3 (by rfl) (by rfl) ?_
    refine θ k5 (by rfl) (by rfl) ?_
    conv => whnf
    exact ⟨⟨(n, R0, { c with round := m, seen := 2 :: c.seen }), hx⟩, π [0, 1, 2, 3, 4, 5, 6, 7, 8, 9, 10, 11, 12, 13, 14] rfl ⟨rfl, rfl, rfl, rfl, trivial⟩ ⟨rfl, rfl, rfl, rfl, rfl, rfl, rfl, rfl, rfl, rfl, rfl, rfl, rfl, rfl, rfl, trivial⟩, Nat.lt_succ_self n⟩
   | 5, q2 =>
    cases q2
    obtain rfl : i = 5 := by omega
    subst q3
    have hc : c.seen.contains 3 = false := hc
    have hx : (match (match cd ⟨d, ij, g⟩ with | some (t, lo) => some (t, ({ c with hi := m, lo := lo, seen := 3 :: c.seen } : jZ)) | none => none) with | none => none | some (t, c) => match aJ t with | true => ct n ⟨t.d, R0, t.args⟩ c | false => none) = some (s9, c9) := hx
    cases jM : cd ⟨d, ij, g⟩ with
    | none => rw [jM] at hx; cases hx
    | some y =>
    obtain ⟨u4, yk⟩ := y
    rw [jM] at hx
    have k4 := cS jM
    have p4 : Ξ ⟨d, ij, g⟩ u4 := cu jM
    obtain ⟨GX, E7, GH⟩ := u4
    obtain rfl : d = GX := p4.1.symm
    obtain rfl : g = GH := p4.2.symm
    have hx : (match aJ ⟨d, E7, g⟩ with | true => ct n ⟨d, R0, g⟩ { c with hi := m, lo := yk, seen := 3 :: c.seen } | false => none) = some (s9, c9) := hx
    split at hx
    rotate_left 1
    ·cases hx
    rename_i he
    have k5 := cJ he
    refine θ k1 (by rfl) (by rfl) ?_
    refine θ k2 (by rfl) (by rfl) ?_
    refine γ.bU hX rfl ⟨.vec 1 _, .refl _, trivial⟩ rfl ?_
    refine θ (Δ d _ _ rfl 41) (by rfl) (by rfl) ?_
    refine υ cK (by decide +kernel) ?_
    refine θ (Δ d _ _ hc 41) (by rfl) (by rfl) ?_
    refine And.intro (fun j hj => by cases hj) ?_
    refine And.intro (fun j hj => by cases hj) ?_
    refine θ k3 (by rfl) (by rfl) ?_
    refine θ k4 (by rfl) (by rfl) ?_
    refine θ k5 (by rfl) (by rfl) ?_
    conv => whnf
    exact ⟨⟨(n, R0, { c with hi := m, lo := yk, seen := 3 :: c.seen }), hx⟩, π [0, 1, 2, 3, 4, 5, 6, 7, 8, 9, 10, 11, 12, 13, 14] rfl ⟨rfl, rfl, rfl, rfl, trivial⟩ ⟨rfl, rfl, rfl, rfl, rfl, rfl, rfl, rfl, rfl, rfl, rfl, rfl, rfl, rfl, rfl, trivial⟩, Nat.lt_succ_self n⟩
   | i' + 6, q2 => cases q2
end Go.Proofs.YtcogcbplmkcojaaGreatDoor
namespace Go.Proofs.YtcogcbplmkcojaaGreatDoor
open Go.IntWalk
set_option maxRecDepth 100000
set_option linter.unusedVariables false
set_option linter.unusedSimpArgs false
set_option maxHeartbeats 4000000
theorem Ol {d : τ} {g : List cU} {r0 : List ay} {s1 s2 s3 s4 s8 s9 : PS} {name kw : List UInt8} {num : Int} (hs : cE ⟨d, r0, g⟩) (hf : dm ⟨d, r0, g⟩ 6 = some (s1, name)) (gA : cd s1 = some (s2, num)) (gQ : bt s2 = some (s3, kw)) (fh : cH kw 1 [[110, 111, 110, 101], [100, 97, 116, 97], [105, 110, 115, 110], [112, 97, 105, 114]] = some 3)
 {cl : Nat} (cm : bK s3 4 = some (s4, cl))
 {op w a b : Int} {ks : List T} (jz : kI 40 s4 = some (s8, (op, w, a, b), ks)) {c9 : jZ} (kh : ct 10 s8 ⟨0, 0, 0, 0, -1, 0, []⟩ = some (s9, c9))
 : cZ 58 5 ⟨d, r0, g⟩ ⟨{ d with au := d.au ++ [⟨name, num, 3, 0, (cl : Int), 0, op, w, a, b, ks, c9.sign, c9.width, c9.align, c9.round, c9.hi, c9.lo⟩] }, s9.rest, g⟩ := by
 have f1 : Ξ ⟨d, r0, g⟩ s1 := bG hf
 have f2 : Ξ ⟨d, r0, g⟩ s2 := f1.trans (cu gA)
 have f3 : Ξ ⟨d, r0, g⟩ s3 := f2.trans (aQ gQ)
 have χ : d.au.length + 1 ≤ 100000 := by
  have := (cP hf).2.2
  have : s1.d.au.length < 128 := by simpa [bE, dS] using this
  rw [f1.1] at this
  have : d.au.length < 128 := this
  omega
 have h1 := fw hs (by decide) hf
 have h2 := cS gA
 have h3 := bo gQ
 obtain ⟨eZ, _, _⟩ := qB fh
 have hX := cx zR kw (by decide)
 rw [eZ] at hX
 have f4 : Ξ ⟨d, r0, g⟩ s4 := f3.trans (bO cm)
 have h4 := dX (hs.same f3) (by decide) cm
 obtain ⟨GM, h8⟩ := oF 40 _ _ _ _ _ _ _ jz
 have f8 : Ξ ⟨d, r0, g⟩ s8 := f4.trans GM
 unfold bz at h8
 obtain ⟨d1, r1, g1⟩ := s1
 obtain rfl : d = d1 := f1.1.symm
 obtain rfl : g = g1 := f1.2.symm
 obtain ⟨d2, r2, g2⟩ := s2
 obtain rfl : d = d2 := f2.1.symm
 obtain rfl : g = g2 := f2.2.symm
 obtain ⟨d3, r3, g3⟩ := s3
 obtain rfl : d = d3 := f3.1.symm
 obtain rfl : g = g3 := f3.2.symm
 obtain ⟨d4, r4, g4⟩ := s4
 obtain rfl : d = d4 := f4.1.symm
 obtain rfl : g = g4 := f4.2.symm
 obtain ⟨d8, r8, g8⟩ := s8
 obtain rfl : d = d8 := f8.1.symm
 obtain rfl : g = g8 := f8.2.symm
 unfold cZ
 refine aT ?_
 refine γ.ο ζ η Tryz.func58 rfl rfl ?_
 refine θ h1 (by rfl) (by rfl) ?_
 refine θ h2 (by rfl) (by rfl) ?_
 refine θ h3 (by rfl) (by rfl) ?_
 refine γ.bU hX rfl ⟨.vec 1 _, .refl _, trivial⟩ rfl ?_
 refine θ (Δ d _ _ rfl 41) (by rfl) (by rfl) ?_
 refine θ h4 (by rfl) (by rfl) ?_
 refine θ h8 (by rfl) (by rfl) ?_
 refine ak (fun x : Nat × List ay × jZ => ct x.1 ⟨d, x.2.1, g⟩ x.2.2 = some (s9, c9)) (fun x : Nat × List ay × jZ => ⟨[(1, .ptr 11 0 0 0), (2, .ptr 12 0 0 0), (3, .ptr 13 0 0 0), (5, .ptr 14 0 0 0)], pt d [.box (ec d (ω x.2.1) (g.map Φ)), .box cQ, .box [.t (.str name), .t (.int .i64 num), .t (.int .i64 3), .t (.int .i64 0), .t (.int .i64 (cl : Int)), .t (.int .i64 0), .t (.int .i64 op), .t (.int .i64 w), .t (.int .i64 a), .t (.int .i64 b), .t (.κ 5 ks), .t (.int .i64 x.2.2.sign), .t (.int .i64 x.2.2.width), .t (.int .i64 x.2.2.align), .t (.int .i64 x.2.2.round), .t (.int .i64 x.2.2.hi), .t (.int .i64 x.2.2.lo)], .box [.t (.bool (x.2.2.seen.contains 0)), .t (.bool (x.2.2.seen.contains 1)), .t (.bool (x.2.2.seen.contains 2)), .t (.bool (x.2.2.seen.contains 3)), .t (.bool (x.2.2.seen.contains 4))]]⟩) (fun x => x.1) (10, r8, ⟨0, 0, 0, 0, -1, 0, []⟩) kh ?_ (fun ⟨n, R, c⟩ hx => ?_)
 ·exact π [0, 1, 2, 3, 4, 5, 6, 7, 8, 9, 10, 11, 12, 13, 15] rfl ⟨rfl, rfl, rfl, rfl, trivial⟩ ⟨rfl, rfl, rfl, rfl, rfl, rfl, rfl, rfl, rfl, rfl, rfl, rfl, rfl, rfl, rfl, trivial⟩
 have hx : ct n ⟨d, R, g⟩ c = some (s9, c9) := hx
 cases n with
 | zero => cases hx
 | succ n =>
  unfold ct at hx
  cases R with
  | nil =>
   cases hx
   refine Or.inl (And.intro (List.length_map _).symm (ε (cg χ rfl) ?_))
   refine Ω ?_ ?_
   ·exact ⟨congrArg (fun n : Nat => some (AV.agg [.t (.str d.name), .t (.int .i64 d.order), .sl 0 0 0 d.files.length, .sl 1 0 0 d.aa.length, .sl 2 0 0 d.flags.length, .sl 3 0 0 d.classes.length, .sl 4 0 0 d.forms.length, .sl 5 2 0 n, .sl 6 0 0 d.uses.length, .sl 7 0 0 d.ar.length, .sl 8 0 0 d.macros.length, .sl 9 0 0 d.aR.length, .sl 10 0 0 d.aN.length, .t (.κ 4 (ω [])), .t (.κ 2 (g.map Φ)), .t (.int .i64 0)])) (bI d.au ⟨name, num, 3, 0, (cl : Int), 0, op, w, a, b, ks, c9.sign, c9.width, c9.align, c9.round, c9.hi, c9.lo⟩), trivial⟩
   ·exact ⟨rfl, rfl, rfl, rfl, rfl, bM ei d.au ⟨name, num, 3, 0, (cl : Int), 0, op, w, a, b, ks, c9.sign, c9.width, c9.align, c9.round, c9.hi, c9.lo⟩, rfl, rfl, rfl, rfl, rfl, trivial⟩
  | cons t0 R0 =>
   rw [show aJ (⟨d, t0 :: R0, g⟩ : PS) = false from rfl] at hx
   dsimp only at hx
   split at hx
   ·cases hx
   rename_i u1 inner aG
   split at hx
   ·cases hx
   rename_i u2 head yr
   split at hx
   ·cases hx
   rename_i i hi
   split at hx
   ·cases hx
   rename_i hc
   split at hx
   ·cases hx
   rename_i u3 m hm
   have k1 := bV aG
   have k2 := bo yr
   have k3 := cS hm
   have p2 : Ξ u1 u2 := aQ yr
   have p3 : Ξ u2 u3 := cu hm
   obtain ⟨l0, e0, rfl⟩ := aH aG
   obtain ⟨rfl, rfl⟩ := List.cons.inj e0
   obtain ⟨Bc, Mi, AX⟩ := u2
   obtain rfl : d = Bc := p2.1.symm
   obtain rfl : g = AX := p2.2.symm
   obtain ⟨Bb, ij, AW⟩ := u3
   obtain rfl : d = Bb := p3.1.symm
   obtain rfl : g = AW := p3.2.symm
   have hX := cx JD head (by decide)
   obtain ⟨i', x', e1, q2, q3⟩ := aZ _ _ _ _ hi
   refine U (fun _ => ?_) (fun c => absurd (eI.symm.trans c) (by decide))
   match i', q2 with
   | 0, q2 =>
    cases q2
    obtain rfl : i = 0 := by omega
    subst q3
    have hc : c.seen.contains 0 = false := hc
    have hx : (match aJ ⟨d, ij, g⟩ with | true => ct n ⟨d, R0, g⟩ { c with sign := 1, width := m, seen := 0 :: c.seen } | false => none) = some (s9, c9) := hx
    split at hx
    rotate_left 1
    ·cases hx
    rename_i he
    have k5 := cJ he
    refine θ k1 (by rfl) (by rfl) ?_
    refine θ k2 (by rfl) (by rfl) ?_
    refine γ.bU hX rfl ⟨.vec 1 _, .refl _, trivial⟩ rfl ?_
    refine θ (Δ d _ _ rfl 41) (by rfl) (by rfl) ?_
    refine υ cK (by decide +kernel) ?_
    refine θ (Δ d _ _ hc 41) (by rfl) (by rfl) ?_
    refine And.intro (fun j hj => by cases hj) ?_
    refine And.intro (fun j hj => by cases hj) ?_
    refine θ k3 (by rfl) (by rfl) ?_
    refine θ k5 (by rfl) (by rfl) ?_
    conv => whnf
    exact ⟨⟨(n, R0, { c with sign := 1, width := m, seen := 0 :: c.seen }), hx⟩, π [0, 1, 2, 3, 4, 5, 6, 7, 8, 9, 10, 11, 12, 13, 14] rfl ⟨rfl, rfl, rfl, rfl, trivial⟩ ⟨rfl, rfl, rfl, rfl, rfl, rfl, rfl, rfl, rfl, rfl, rfl, rfl, rfl, rfl, rfl, trivial⟩, Nat.lt_succ_self n⟩
   | 1, q2 =>
    cases q2
    obtain rfl : i = 1 := by omega
    subst q3
    have hc : c.seen.contains 0 = false := hc
    have hx : (match aJ ⟨d, ij, g⟩ with | true => ct n ⟨d, R0, g⟩ { c with sign := 2, width := m, seen := 0 :: c.seen } | false => none) = some (s9, c9) := hx
    split at hx
    rotate_left 1
    ·cases hx
    rename_i he
    have k5 := cJ he
    refine θ k1 (by rfl) (by rfl) ?_
    refine θ k2 (by rfl) (by rfl) ?_
    refine γ.bU hX rfl ⟨.vec 1 _, .refl _, trivial⟩ rfl ?_
    refine θ (Δ d _ _ rfl 41) (by rfl) (by rfl) ?_
    refine υ cK (by decide +kernel) ?_
    refine θ (Δ d _ _ hc 41) (by rfl) (by rfl) ?_
    refine And.intro (fun j hj => by cases hj) ?_
    refine And.intro (fun j hj => by cases hj) ?_
    refine θ k3 (by rfl) (by rfl) ?_
    refine θ k5 (by rfl) (by rfl) ?_
    conv => whnf
    exact ⟨⟨(n, R0, { c with sign := 2, width := m, seen := 0 :: c.seen }), hx⟩, π [0, 1, 2, 3, 4, 5, 6, 7, 8, 9, 10, 11, 12, 13, 14] rfl ⟨rfl, rfl, rfl, rfl, trivial⟩ ⟨rfl, rfl, rfl, rfl, rfl, rfl, rfl, rfl, rfl, rfl, rfl, rfl, rfl, rfl, rfl, trivial⟩, Nat.lt_succ_self n⟩
   | 2, q2 =>
    cases q2
    obtain rfl : i = 2 := by omega
    subst q3
    have hc : c.seen.contains 0 = false := hc
    have hx : (match aJ ⟨d, ij, g⟩ with | true => ct n ⟨d, R0, g⟩ { c with sign := 3, width := m, seen := 0 :: c.seen } | false => none) = some (s9, c9) := hx
    split at hx
    rotate_left 1
    ·cases hx
    rename_i he
    have k5 := cJ he
    refine θ k1 (by rfl) (by rfl) ?_
    refine θ k2 (by rfl) (by rfl) ?_
    refine γ.bU hX rfl ⟨.vec 1 _, .refl _, trivial⟩ rfl ?_
    refine θ (Δ d _ _ rfl 41) (by rfl) (by rfl) ?_
    refine υ cK (by decide +kernel) ?_
    refine θ (Δ d _ _ hc 41) (by rfl) (by rfl) ?_
    refine And.intro (fun j hj => by cases hj) ?_
    refine And.intro (fun j hj => by cases hj) ?_
    refine θ k3 (by rfl) (by rfl) ?_
    refine θ k5 (by rfl) (by rfl) ?_
    conv => whnf
    exact ⟨⟨(n, R0, { c with sign := 3, width := m, seen := 0 :: c.seen }), hx⟩, π [0, 1, 2, 3, 4, 5, 6, 7, 8, 9, 10, 11, 12, 13, 14] rfl ⟨rfl, rfl, rfl, rfl, trivial⟩ ⟨rfl, rfl, rfl, rfl, rfl, rfl, rfl, rfl, rfl, rfl, rfl, rfl, rfl, rfl, rfl, trivial⟩, Nat.lt_succ_self n⟩
   | 3, q2 =>
    cases q2
    obtain rfl : i = 3 := by omega
    subst q3
    have hc : c.seen.contains 1 = false := hc
    have hx : (match aJ ⟨d, ij, g⟩ with | true => ct n ⟨d, R0, g⟩ { c with align := m, seen := 1 :: c.seen } | false => none) = some (s9, c9) := hx
    split at hx
    rotate_left 1
    ·cases hx
    rename_i he
    have k5 := cJ he
    refine θ k1 (by rfl) (by rfl) ?_
    refine θ k2 (by rfl) (by rfl) ?_
    refine γ.bU hX rfl ⟨.vec 1 _, .refl _, trivial⟩ rfl ?_
    refine θ (Δ d _ _ rfl 41) (by rfl) (by rfl) ?_
    refine υ cK (by decide +kernel) ?_
    refine θ (Δ d _ _ hc 41) (by rfl) (by rfl) ?_
    refine And.intro (fun j hj => by cases hj) ?_
    refine And.intro (fun j hj => by cases hj) ?_
    refine θ k3 (by rfl) (by rfl) ?_
    refine θ k5 (by rfl) (by rfl) ?_
    conv => whnf
    exact ⟨⟨(n, R0, { c with align := m, seen := 1 :: c.seen }), hx⟩, π [0, 1, 2, 3, 4, 5, 6, 7, 8, 9, 10, 11, 12, 13, 14] rfl ⟨rfl, rfl, rfl, rfl, trivial⟩ ⟨rfl, rfl, rfl, rfl, rfl, rfl, rfl, rfl, rfl, rfl, rfl, rfl, rfl, rfl, rfl, trivial⟩, Nat.lt_succ_self n⟩
   | 4, q2 =>
    cases q2
    obtain rfl : i = 4 := by omega
    subst q3
    have hc : c.seen.contains 2 = false := hc
    have hx : (match aJ ⟨d, ij, g⟩ with | true => ct n ⟨d, R0, g⟩ { c with round := m, seen := 2 :: c.seen } | false => none) = some (s9, c9) := hx
    split at hx
    rotate_left 1
    ·cases hx
    rename_i he
    have k5 := cJ he
    refine θ k1 (by rfl) (by rfl) ?_
    refine θ k2 (by rfl) (by rfl) ?_
    refine γ.bU hX rfl ⟨.vec 1 _, .refl _, trivial⟩ rfl ?_
    refine θ (Δ d _ _ rfl 41) (by rfl) (by rfl) ?_
    refine υ cK (by decide +kernel) ?_
    refine θ (Δ d _ _ hc 41) (by rfl) (by rfl) ?_
    refine And.intro (fun j hj => by cases hj) ?_
    refine And.intro (fun j hj => by cases hj) ?_
    refine θ k3 (by rfl) (by rfl) ?_
    refine θ k5 (by rfl) (by rfl) ?_
    conv => whnf
    exact ⟨⟨(n, R0, { c with round := m, seen := 2 :: c.seen }), hx⟩, π [0, 1, 2, 3, 4, 5, 6, 7, 8, 9, 10, 11, 12, 13, 14] rfl ⟨rfl, rfl, rfl, rfl, trivial⟩ ⟨rfl, rfl, rfl, rfl, rfl, rfl, rfl, rfl, rfl, rfl, rfl, rfl, rfl, rfl, rfl, trivial⟩, Nat.lt_succ_self n⟩
   | 5, q2 =>
    cases q2
    obtain rfl : i = 5 := by omega
    subst q3
    have hc : c.seen.contains 3 = false := hc
    have hx : (match (match cd ⟨d, ij, g⟩ with | some (t, lo) => some (t, ({ c with hi := m, lo := lo, seen := 3 :: c.seen } : jZ)) | none => none) with | none => none | some (t, c) => match aJ t with | true => ct n ⟨t.d, R0, t.args⟩ c | false => none) = some (s9, c9) := hx
    cases jM : cd ⟨d, ij, g⟩ with
    | none => rw [jM] at hx; cases hx
    | some y =>
    obtain ⟨u4, yk⟩ := y
    rw [jM] at hx
    have k4 := cS jM
    have p4 : Ξ ⟨d, ij, g⟩ u4 := cu jM
    obtain ⟨GX, E7, GH⟩ := u4
    obtain rfl : d = GX := p4.1.symm
    obtain rfl : g = GH := p4.2.symm
    have hx : (match aJ ⟨d, E7, g⟩ with | true => ct n ⟨d, R0, g⟩ { c with hi := m, lo := yk, seen := 3 :: c.seen } | false => none) = some (s9, c9) := hx
    split at hx
    rotate_left 1
    ·cases hx
    rename_i he
    have k5 := cJ he
    refine θ k1 (by rfl) (by rfl) ?_
    refine θ k2 (by rfl) (by rfl) ?_
    refine γ.bU hX rfl ⟨.vec 1 _, .refl _, trivial⟩ rfl ?_
    refine θ (Δ d _ _ rfl 41) (by rfl) (by rfl) ?_
    refine υ cK (by decide +kernel) ?_
    refine θ (Δ d _ _ hc 41) (by rfl) (by rfl) ?_
    refine And.intro (fun j hj => by cases hj) ?_
    refine And.intro (fun j hj => by cases hj) ?_
    refine θ k3 (by rfl) (by rfl) ?_
    refine θ k4 (by rfl) (by rfl) ?_
    refine θ k5 (by rfl) (by rfl) ?_
    conv => whnf
    exact ⟨⟨(n, R0, { c with hi := m, lo := yk, seen := 3 :: c.seen }), hx⟩, π [0, 1, 2, 3, 4, 5, 6, 7, 8, 9, 10, 11, 12, 13, 14] rfl ⟨rfl, rfl, rfl, rfl, trivial⟩ ⟨rfl, rfl, rfl, rfl, rfl, rfl, rfl, rfl, rfl, rfl, rfl, rfl, rfl, rfl, rfl, trivial⟩, Nat.lt_succ_self n⟩
   | i' + 6, q2 => cases q2
end Go.Proofs.YtcogcbplmkcojaaGreatDoor
namespace Go.Proofs.YtcogcbplmkcojaaGreatDoor
open Go.IntWalk
set_option maxRecDepth 100000
set_option linter.unusedVariables false
set_option linter.unusedSimpArgs false
set_option maxHeartbeats 4000000
theorem Ok {d : τ} {g : List cU} {r0 : List ay} {s1 s2 s3 s4 s5 s8 s9 : PS} {name kw : List UInt8} {num : Int} (hs : cE ⟨d, r0, g⟩) (hf : dm ⟨d, r0, g⟩ 6 = some (s1, name)) (gA : cd s1 = some (s2, num)) (gQ : bt s2 = some (s3, kw)) (fh : cH kw 1 [[110, 111, 110, 101], [100, 97, 116, 97], [105, 110, 115, 110], [112, 97, 105, 114]] = some 4)
 {cl : Nat} (cm : bK s3 4 = some (s4, cl))
 {Bh : Nat} (jN : bK s4 4 = some (s5, Bh))
 {op w a b : Int} {ks : List T} (jz : kI 40 s5 = some (s8, (op, w, a, b), ks)) {c9 : jZ} (kh : ct 10 s8 ⟨0, 0, 0, 0, -1, 0, []⟩ = some (s9, c9))
 : cZ 58 5 ⟨d, r0, g⟩ ⟨{ d with au := d.au ++ [⟨name, num, 4, 0, (cl : Int), (Bh : Int), op, w, a, b, ks, c9.sign, c9.width, c9.align, c9.round, c9.hi, c9.lo⟩] }, s9.rest, g⟩ := by
 have f1 : Ξ ⟨d, r0, g⟩ s1 := bG hf
 have f2 : Ξ ⟨d, r0, g⟩ s2 := f1.trans (cu gA)
 have f3 : Ξ ⟨d, r0, g⟩ s3 := f2.trans (aQ gQ)
 have χ : d.au.length + 1 ≤ 100000 := by
  have := (cP hf).2.2
  have : s1.d.au.length < 128 := by simpa [bE, dS] using this
  rw [f1.1] at this
  have : d.au.length < 128 := this
  omega
 have h1 := fw hs (by decide) hf
 have h2 := cS gA
 have h3 := bo gQ
 obtain ⟨eZ, _, _⟩ := qB fh
 have hX := cx zR kw (by decide)
 rw [eZ] at hX
 have f4 : Ξ ⟨d, r0, g⟩ s4 := f3.trans (bO cm)
 have h4 := dX (hs.same f3) (by decide) cm
 have f5 : Ξ ⟨d, r0, g⟩ s5 := f4.trans (bO jN)
 have h5 := dX (hs.same f4) (by decide) jN
 obtain ⟨GM, h8⟩ := oF 40 _ _ _ _ _ _ _ jz
 have f8 : Ξ ⟨d, r0, g⟩ s8 := f5.trans GM
 unfold bz at h8
 obtain ⟨d1, r1, g1⟩ := s1
 obtain rfl : d = d1 := f1.1.symm
 obtain rfl : g = g1 := f1.2.symm
 obtain ⟨d2, r2, g2⟩ := s2
 obtain rfl : d = d2 := f2.1.symm
 obtain rfl : g = g2 := f2.2.symm
 obtain ⟨d3, r3, g3⟩ := s3
 obtain rfl : d = d3 := f3.1.symm
 obtain rfl : g = g3 := f3.2.symm
 obtain ⟨d4, r4, g4⟩ := s4
 obtain rfl : d = d4 := f4.1.symm
 obtain rfl : g = g4 := f4.2.symm
 obtain ⟨d5, r5, g5⟩ := s5
 obtain rfl : d = d5 := f5.1.symm
 obtain rfl : g = g5 := f5.2.symm
 obtain ⟨d8, r8, g8⟩ := s8
 obtain rfl : d = d8 := f8.1.symm
 obtain rfl : g = g8 := f8.2.symm
 unfold cZ
 refine aT ?_
 refine γ.ο ζ η Tryz.func58 rfl rfl ?_
 refine θ h1 (by rfl) (by rfl) ?_
 refine θ h2 (by rfl) (by rfl) ?_
 refine θ h3 (by rfl) (by rfl) ?_
 refine γ.bU hX rfl ⟨.vec 1 _, .refl _, trivial⟩ rfl ?_
 refine θ (Δ d _ _ rfl 41) (by rfl) (by rfl) ?_
 refine θ h4 (by rfl) (by rfl) ?_
 refine θ h5 (by rfl) (by rfl) ?_
 refine θ h8 (by rfl) (by rfl) ?_
 refine ak (fun x : Nat × List ay × jZ => ct x.1 ⟨d, x.2.1, g⟩ x.2.2 = some (s9, c9)) (fun x : Nat × List ay × jZ => ⟨[(1, .ptr 11 0 0 0), (2, .ptr 12 0 0 0), (3, .ptr 13 0 0 0), (5, .ptr 14 0 0 0)], pt d [.box (ec d (ω x.2.1) (g.map Φ)), .box cQ, .box [.t (.str name), .t (.int .i64 num), .t (.int .i64 4), .t (.int .i64 0), .t (.int .i64 (cl : Int)), .t (.int .i64 (Bh : Int)), .t (.int .i64 op), .t (.int .i64 w), .t (.int .i64 a), .t (.int .i64 b), .t (.κ 5 ks), .t (.int .i64 x.2.2.sign), .t (.int .i64 x.2.2.width), .t (.int .i64 x.2.2.align), .t (.int .i64 x.2.2.round), .t (.int .i64 x.2.2.hi), .t (.int .i64 x.2.2.lo)], .box [.t (.bool (x.2.2.seen.contains 0)), .t (.bool (x.2.2.seen.contains 1)), .t (.bool (x.2.2.seen.contains 2)), .t (.bool (x.2.2.seen.contains 3)), .t (.bool (x.2.2.seen.contains 4))]]⟩) (fun x => x.1) (10, r8, ⟨0, 0, 0, 0, -1, 0, []⟩) kh ?_ (fun ⟨n, R, c⟩ hx => ?_)
 ·exact π [0, 1, 2, 3, 4, 5, 6, 7, 8, 9, 10, 11, 12, 13, 15] rfl ⟨rfl, rfl, rfl, rfl, trivial⟩ ⟨rfl, rfl, rfl, rfl, rfl, rfl, rfl, rfl, rfl, rfl, rfl, rfl, rfl, rfl, rfl, trivial⟩
 have hx : ct n ⟨d, R, g⟩ c = some (s9, c9) := hx
 cases n with
 | zero => cases hx
 | succ n =>
  unfold ct at hx
  cases R with
  | nil =>
   cases hx
   refine Or.inl (And.intro (List.length_map _).symm (ε (cg χ rfl) ?_))
   refine Ω ?_ ?_
   ·exact ⟨congrArg (fun n : Nat => some (AV.agg [.t (.str d.name), .t (.int .i64 d.order), .sl 0 0 0 d.files.length, .sl 1 0 0 d.aa.length, .sl 2 0 0 d.flags.length, .sl 3 0 0 d.classes.length, .sl 4 0 0 d.forms.length, .sl 5 2 0 n, .sl 6 0 0 d.uses.length, .sl 7 0 0 d.ar.length, .sl 8 0 0 d.macros.length, .sl 9 0 0 d.aR.length, .sl 10 0 0 d.aN.length, .t (.κ 4 (ω [])), .t (.κ 2 (g.map Φ)), .t (.int .i64 0)])) (bI d.au ⟨name, num, 4, 0, (cl : Int), (Bh : Int), op, w, a, b, ks, c9.sign, c9.width, c9.align, c9.round, c9.hi, c9.lo⟩), trivial⟩
   ·exact ⟨rfl, rfl, rfl, rfl, rfl, bM ei d.au ⟨name, num, 4, 0, (cl : Int), (Bh : Int), op, w, a, b, ks, c9.sign, c9.width, c9.align, c9.round, c9.hi, c9.lo⟩, rfl, rfl, rfl, rfl, rfl, trivial⟩
  | cons t0 R0 =>
   rw [show aJ (⟨d, t0 :: R0, g⟩ : PS) = false from rfl] at hx
   dsimp only at hx
   split at hx
   ·cases hx
   rename_i u1 inner aG
   split at hx
   ·cases hx
   rename_i u2 head yr
   split at hx
   ·cases hx
   rename_i i hi
   split at hx
   ·cases hx
   rename_i hc
   split at hx
   ·cases hx
   rename_i u3 m hm
   have k1 := bV aG
   have k2 := bo yr
   have k3 := cS hm
   have p2 : Ξ u1 u2 := aQ yr
   have p3 : Ξ u2 u3 := cu hm
   obtain ⟨l0, e0, rfl⟩ := aH aG
   obtain ⟨rfl, rfl⟩ := List.cons.inj e0
   obtain ⟨Bc, Mi, AX⟩ := u2
   obtain rfl : d = Bc := p2.1.symm
   obtain rfl : g = AX := p2.2.symm
   obtain ⟨Bb, ij, AW⟩ := u3
   obtain rfl : d = Bb := p3.1.symm
   obtain rfl : g = AW := p3.2.symm
   have hX := cx JD head (by decide)
   obtain ⟨i', x', e1, q2, q3⟩ := aZ _ _ _ _ hi
   refine U (fun _ => ?_) (fun c => absurd (eI.symm.trans c) (by decide))
   match i', q2 with
   | 0, q2 =>
    cases q2
    obtain rfl : i = 0 := by omega
    subst q3
    have hc : c.seen.contains 0 = false := hc
    have hx : (match aJ ⟨d, ij, g⟩ with | true => ct n ⟨d, R0, g⟩ { c with sign := 1, width := m, seen := 0 :: c.seen } | false => none) = some (s9, c9) := hx
    split at hx
    rotate_left 1
    ·cases hx
    rename_i he
    have k5 := cJ he
    refine θ k1 (by rfl) (by rfl) ?_
    refine θ k2 (by rfl) (by rfl) ?_
    refine γ.bU hX rfl ⟨.vec 1 _, .refl _, trivial⟩ rfl ?_
    refine θ (Δ d _ _ rfl 41) (by rfl) (by rfl) ?_
    refine υ cK (by decide +kernel) ?_
    refine θ (Δ d _ _ hc 41) (by rfl) (by rfl) ?_
    refine And.intro (fun j hj => by cases hj) ?_
    refine And.intro (fun j hj => by cases hj) ?_
    refine θ k3 (by rfl) (by rfl) ?_
    refine θ k5 (by rfl) (by rfl) ?_
    conv => whnf
    exact ⟨⟨(n, R0, { c with sign := 1, width := m, seen := 0 :: c.seen }), hx⟩, π [0, 1, 2, 3, 4, 5, 6, 7, 8, 9, 10, 11, 12, 13, 14] rfl ⟨rfl, rfl, rfl, rfl, trivial⟩ ⟨rfl, rfl, rfl, rfl, rfl, rfl, rfl, rfl, rfl, rfl, rfl, rfl, rfl, rfl, rfl, trivial⟩, Nat.lt_succ_self n⟩
   | 1, q2 =>
    cases q2
    obtain rfl : i = 1 := by omega
    subst q3
    have hc : c.seen.contains 0 = false := hc
    have hx : (match aJ ⟨d, ij, g⟩ with | true => ct n ⟨d, R0, g⟩ { c with sign := 2, width := m, seen := 0 :: c.seen } | false => none) = some (s9, c9) := hx
    split at hx
    rotate_left 1
    ·cases hx
    rename_i he
    have k5 := cJ he
    refine θ k1 (by rfl) (by rfl) ?_
    refine θ k2 (by rfl) (by rfl) ?_
    refine γ.bU hX rfl ⟨.vec 1 _, .refl _, trivial⟩ rfl ?_
    refine θ (Δ d _ _ rfl 41) (by rfl) (by rfl) ?_
    refine υ cK (by decide +kernel) ?_
    refine θ (Δ d _ _ hc 41) (by rfl) (by rfl) ?_
    refine And.intro (fun j hj => by cases hj) ?_
    refine And.intro (fun j hj => by cases hj) ?_
    refine θ k3 (by rfl) (by rfl) ?_
    refine θ k5 (by rfl) (by rfl) ?_
    conv => whnf
    exact ⟨⟨(n, R0, { c with sign := 2, width := m, seen := 0 :: c.seen }), hx⟩, π [0, 1, 2, 3, 4, 5, 6, 7, 8, 9, 10, 11, 12, 13, 14] rfl ⟨rfl, rfl, rfl, rfl, trivial⟩ ⟨rfl, rfl, rfl, rfl, rfl, rfl, rfl, rfl, rfl, rfl, rfl, rfl, rfl, rfl, rfl, trivial⟩, Nat.lt_succ_self n⟩
   | 2, q2 =>
    cases q2
    obtain rfl : i = 2 := by omega
    subst q3
    have hc : c.seen.contains 0 = false := hc
    have hx : (match aJ ⟨d, ij, g⟩ with | true => ct n ⟨d, R0, g⟩ { c with sign := 3, width := m, seen := 0 :: c.seen } | false => none) = some (s9, c9) := hx
    split at hx
    rotate_left 1
    ·cases hx
    rename_i he
    have k5 := cJ he
    refine θ k1 (by rfl) (by rfl) ?_
    refine θ k2 (by rfl) (by rfl) ?_
    refine γ.bU hX rfl ⟨.vec 1 _, .refl _, trivial⟩ rfl ?_
    refine θ (Δ d _ _ rfl 41) (by rfl) (by rfl) ?_
    refine υ cK (by decide +kernel) ?_
    refine θ (Δ d _ _ hc 41) (by rfl) (by rfl) ?_
    refine And.intro (fun j hj => by cases hj) ?_
    refine And.intro (fun j hj => by cases hj) ?_
    refine θ k3 (by rfl) (by rfl) ?_
    refine θ k5 (by rfl) (by rfl) ?_
    conv => whnf
    exact ⟨⟨(n, R0, { c with sign := 3, width := m, seen := 0 :: c.seen }), hx⟩, π [0, 1, 2, 3, 4, 5, 6, 7, 8, 9, 10, 11, 12, 13, 14] rfl ⟨rfl, rfl, rfl, rfl, trivial⟩ ⟨rfl, rfl, rfl, rfl, rfl, rfl, rfl, rfl, rfl, rfl, rfl, rfl, rfl, rfl, rfl, trivial⟩, Nat.lt_succ_self n⟩
   | 3, q2 =>
    cases q2
    obtain rfl : i = 3 := by omega
    subst q3
    have hc : c.seen.contains 1 = false := hc
    have hx : (match aJ ⟨d, ij, g⟩ with | true => ct n ⟨d, R0, g⟩ { c with align := m, seen := 1 :: c.seen } | false => none) = some (s9, c9) := hx
    split at hx
    rotate_left 1
    ·cases hx
    rename_i he
    have k5 := cJ he
    refine θ k1 (by rfl) (by rfl) ?_
    refine θ k2 (by rfl) (by rfl) ?_
    refine γ.bU hX rfl ⟨.vec 1 _, .refl _, trivial⟩ rfl ?_
    refine θ (Δ d _ _ rfl 41) (by rfl) (by rfl) ?_
    refine υ cK (by decide +kernel) ?_
    refine θ (Δ d _ _ hc 41) (by rfl) (by rfl) ?_
    refine And.intro (fun j hj => by cases hj) ?_
    refine And.intro (fun j hj => by cases hj) ?_
    refine θ k3 (by rfl) (by rfl) ?_
    refine θ k5 (by rfl) (by rfl) ?_
    conv => whnf
    exact ⟨⟨(n, R0, { c with align := m, seen := 1 :: c.seen }), hx⟩, π [0, 1, 2, 3, 4, 5, 6, 7, 8, 9, 10, 11, 12, 13, 14] rfl ⟨rfl, rfl, rfl, rfl, trivial⟩ ⟨rfl, rfl, rfl, rfl, rfl, rfl, rfl, rfl, rfl, rfl, rfl, rfl, rfl, rfl, rfl, trivial⟩, Nat.lt_succ_self n⟩
   | 4, q2 =>
    cases q2
    obtain rfl : i = 4 := by omega
    subst q3
    have hc : c.seen.contains 2 = false := hc
    have hx : (match aJ ⟨d, ij, g⟩ with | true => ct n ⟨d, R0, g⟩ { c with round := m, seen := 2 :: c.seen } | false => none) = some (s9, c9) := hx
    split at hx
    rotate_left 1
    ·cases hx
    rename_i he
    have k5 := cJ he
    refine θ k1 (by rfl) (by rfl) ?_
    refine θ k2 (by rfl) (by rfl) ?_
    refine γ.bU hX rfl ⟨.vec 1 _, .refl _, trivial⟩ rfl ?_
    refine θ (Δ d _ _ rfl 41) (by rfl) (by rfl) ?_
    refine υ cK (by decide +kernel) ?_
    refine θ (Δ d _ _ hc 41) (by rfl) (by rfl) ?_
    refine And.intro (fun j hj => by cases hj) ?_
    refine And.intro (fun j hj => by cases hj) ?_
    refine θ k3 (by rfl) (by rfl) ?_
    refine θ k5 (by rfl) (by rfl) ?_
    conv => whnf
    exact ⟨⟨(n, R0, { c with round := m, seen := 2 :: c.seen }), hx⟩, π [0, 1, 2, 3, 4, 5, 6, 7, 8, 9, 10, 11, 12, 13, 14] rfl ⟨rfl, rfl, rfl, rfl, trivial⟩ ⟨rfl, rfl, rfl, rfl, rfl, rfl, rfl, rfl, rfl, rfl, rfl, rfl, rfl, rfl, rfl, trivial⟩, Nat.lt_succ_self n⟩
   | 5, q2 =>
    cases q2
    obtain rfl : i = 5 := by omega
    subst q3
    have hc : c.seen.contains 3 = false := hc
    have hx : (match (match cd ⟨d, ij, g⟩ with | some (t, lo) => some (t, ({ c with hi := m, lo := lo, seen := 3 :: c.seen } : jZ)) | none => none) with | none => none | some (t, c) => match aJ t with | true => ct n ⟨t.d, R0, t.args⟩ c | false => none) = some (s9, c9) := hx
    cases jM : cd ⟨d, ij, g⟩ with
    | none => rw [jM] at hx; cases hx
    | some y =>
    obtain ⟨u4, yk⟩ := y
    rw [jM] at hx
    have k4 := cS jM
    have p4 : Ξ ⟨d, ij, g⟩ u4 := cu jM
    obtain ⟨GX, E7, GH⟩ := u4
    obtain rfl : d = GX := p4.1.symm
    obtain rfl : g = GH := p4.2.symm
    have hx : (match aJ ⟨d, E7, g⟩ with | true => ct n ⟨d, R0, g⟩ { c with hi := m, lo := yk, seen := 3 :: c.seen } | false => none) = some (s9, c9) := hx
    split at hx
    rotate_left 1
    ·cases hx
    rename_i he
    have k5 := cJ he
    refine θ k1 (by rfl) (by rfl) ?_
    refine θ k2 (by rfl) (by rfl) ?_
    refine γ.bU hX rfl ⟨.vec 1 _, .refl _, trivial⟩ rfl ?_
    refine θ (Δ d _ _ rfl 41) (by rfl) (by rfl) ?_
    refine υ cK (by decide +kernel) ?_
    refine θ (Δ d _ _ hc 41) (by rfl) (by rfl) ?_
    refine And.intro (fun j hj => by cases hj) ?_
    refine And.intro (fun j hj => by cases hj) ?_
    refine θ k3 (by rfl) (by rfl) ?_
    refine θ k4 (by rfl) (by rfl) ?_
    refine θ k5 (by rfl) (by rfl) ?_
    conv => whnf
    exact ⟨⟨(n, R0, { c with hi := m, lo := yk, seen := 3 :: c.seen }), hx⟩, π [0, 1, 2, 3, 4, 5, 6, 7, 8, 9, 10, 11, 12, 13, 14] rfl ⟨rfl, rfl, rfl, rfl, trivial⟩ ⟨rfl, rfl, rfl, rfl, rfl, rfl, rfl, rfl, rfl, rfl, rfl, rfl, rfl, rfl, rfl, trivial⟩, Nat.lt_succ_self n⟩
   | i' + 6, q2 => cases q2
end Go.Proofs.YtcogcbplmkcojaaGreatDoor
