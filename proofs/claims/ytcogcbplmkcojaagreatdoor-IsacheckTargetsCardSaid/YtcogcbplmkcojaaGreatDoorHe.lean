/-
  Effects: the widths of their terms; which effects are right.
-/
import Derived.Test.YtcogcbplmkcojaaGreatDoorWe
import Derived.Test.YtcogcbplmkcojaaGreatDoorHd
namespace Go.Proofs.YtcogcbplmkcojaaGreatDoor
open Go.IntWalk
set_option maxRecDepth 100000
set_option linter.unusedVariables false
set_option linter.unusedSimpArgs false
set_option maxHeartbeats 1000000
def ID : Ord := (.op 0 [] (.op 1 [0] (.op 2 [1, 0] (.op 3 [1, 0] (.op 4 [3, 2, 1, 0] (.op 5 [4, 3, 2, 1, 0] (.op 6 [5, 4, 3, 2, 1, 0] (.op 7 [3, 2, 1, 0] (.op 8 [3, 2, 1, 0] (.op 9 [] (.op 10 [] .nil)))))))))))
def Fw : Ord := (.op 0 [] (.op 1 [] (.op 2 [] (.op 3 [] (.op 4 [] (.op 5 [] (.op 6 [5] (.op 7 [6, 5] (.op 8 [6, 5] (.op 9 [6, 5] (.op 10 [9, 8, 7, 6, 5] (.op 11 [] (.op 12 [] (.op 13 [] (.op 14 [] (.op 15 [] (.op 16 [] (.op 17 [16, 15, 14] (.op 18 [] (.op 19 [] (.op 20 [] .nil)))))))))))))))))))))
def IA : Ord := (.op 0 [] (.op 1 [0] (.op 2 [] (.op 3 [] (.op 4 [] (.op 5 [] (.op 6 [] (.op 7 [6] (.op 8 [7, 6] (.op 10 [8, 7, 6] (.op 11 [10, 8, 7, 6] (.op 12 [8, 7, 6] (.op 13 [8, 7, 6] (.op 9 [13, 12, 11, 10] (.op 14 [] (.op 15 [] .nil))))))))))))))))
theorem CX (d : τ) (f : aj) (op w a b : Int) : 0 ≤ kM d f op w a b ∧ kM d f op w a b ≤ 128 := by
 have hr := C7 d f a b
 unfold kM j0
 repeat' split
 all_goals omega
theorem CW {op w a b x : Int} (hx : 0 ≤ x ∧ x ≤ 128) : 0 ≤ fD op w a b x ∧ fD op w a b x ≤ 128 := by
 unfold fD j0 oV
 repeat' split
 all_goals omega
theorem CV {op x y : Int} (hx : 0 ≤ x ∧ x ≤ 128) (hy : 0 ≤ y ∧ y ≤ 128) : 0 ≤ bJ op x y ∧ bJ op x y ≤ 128 := by
 unfold bJ
 repeat' split
 all_goals omega
theorem CU {op x y z : Int} (hx : 0 ≤ x ∧ x ≤ 128) (hy : 0 ≤ y ∧ y ≤ 128) : 0 ≤ oI op x y z ∧ oI op x y z ≤ 128 := by
 unfold oI
 repeat' split
 all_goals omega
abbrev pF (op w a b : Int) (ks : List T) : T := .agg [.int .i64 op, .int .i64 w, .int .i64 a, .int .i64 b, .κ 5 ks]
inductive dM (d : τ) (f : aj) : T → Int → Prop
 | k0 (op w a b) : dM d f (pF op w a b []) (kM d f op w a b)
 | k1 (op w a b) {k x} : dM d f k x → dM d f (pF op w a b [k]) (fD op w a b x)
 | k2 (op w a b) {k x l y} : dM d f k x → dM d f l y → dM d f (pF op w a b [k, l]) (bJ op x y)
 | k3 (op w a b) {k x l y m z} : dM d f k x → dM d f l y → dM d f m z → dM d f (pF op w a b [k, l, m]) (oI op x y z)
 | kn (op w a b) (k l m n ks) : dM d f (pF op w a b (k :: l :: m :: n :: ks)) 0
theorem dM.oJ {d : τ} {f : aj} {t : T} {x : Int} (h : dM d f t x) : ∀ {y : Int}, dM d f t y → x = y := by
 induction h with
 | k0 op w a b => intro y k; cases k; rfl
 | k1 op w a b _ ih => intro y k; cases k with | k1 _ _ _ _ k => rw [ih k]
 | k2 op w a b _ _ i1 i2 => intro y k; cases k with | k2 _ _ _ _ k l => rw [i1 k, i2 l]
 | k3 op w a b _ _ _ i1 i2 i3 => intro y k; cases k with | k3 _ _ _ _ k l m => rw [i1 k, i2 l, i3 m]
 | kn op w a b k l m n ks => intro y k; cases k; rfl
theorem CT (d : τ) (f : aj) {t : T} (h : aW t) : ∃ v : Int, (0 ≤ v ∧ v ≤ 128) ∧ dM d f t v ∧ φ Tryz.prog 126 [aq d, ab f, t] (.t (.int .i64 v)) := by
 induction h with
 | mk op w a b ks ho hw ha hb hl qM ih =>
  match ks, qM, ih with
  | [], _, _ =>
   exact ⟨kM d f op w a b, CX .., .k0 .., L5 d f op w a b hb⟩
  | [k0], qM, ih =>
   obtain ⟨x, hx, wx, rx⟩ := ih k0 (by simp)
   have h0 := qM k0 (by simp)
   refine ⟨fD op w a b x, CW hx, .k1 _ _ _ _ wx, ?_⟩
   by_cases hk : eu op = 1
   ·rcases Lu hk with rfl | rfl | rfl | rfl | rfl | rfl
    ·exact EH d f w a b ha hb h0 hx rx
    ·exact EG d f w a b ha hb h0 hx rx
    ·exact EF d f w a b ha hb h0 hx rx
    ·exact EE d f w a b ha hb h0 hx rx
    ·exact ED d f w a b ha hb h0 hx rx
    ·exact EC d f w a b ha hb h0 hx rx
   ·rw [KV hk]; exact rh d f op w a b [k0] hk
  | [k0, k1], qM, ih =>
   obtain ⟨x, hx, wx, rx⟩ := ih k0 (by simp)
   obtain ⟨y, hy, wy, ry⟩ := ih k1 (by simp)
   have h0 := qM k0 (by simp)
   have h1 := qM k1 (by simp)
   refine ⟨bJ op x y, CV hx hy, .k2 _ _ _ _ wx wy, ?_⟩
   by_cases hk : eu op = 2
   ·rcases Lt hk with rfl | rfl | rfl | rfl | rfl | rfl | rfl | rfl | rfl | rfl | rfl | rfl | rfl | rfl | rfl | rfl | rfl
    ·exact HW d f w a b ha hb h0 hx rx h1 hy ry
    ·exact HV d f w a b ha hb h0 hx rx h1 hy ry
    ·exact HU d f w a b ha hb h0 hx rx h1 hy ry
    ·exact HT d f w a b ha hb h0 hx rx h1 hy ry
    ·exact HR d f w a b ha hb h0 hx rx h1 hy ry
    ·exact HP d f w a b ha hb h0 hx rx h1 hy ry
    ·exact HO d f w a b ha hb h0 hx rx h1 hy ry
    ·exact HN d f w a b ha hb h0 hx rx h1 hy ry
    ·exact HM d f w a b ha hb h0 hx rx h1 hy ry
    ·exact EB d f w a b ha hb h0 hx rx h1 hy ry
    ·exact EA d f w a b ha hb h0 hx rx h1 hy ry
    ·exact Ez d f w a b ha hb h0 hx rx h1 hy ry
    ·exact Ey d f w a b ha hb h0 hx rx h1 hy ry
    ·exact Eu d f w a b ha hb h0 hx rx h1 hy ry
    ·exact Et d f w a b ha hb h0 hx rx h1 hy ry
    ·exact Es d f w a b ha hb h0 hx rx h1 hy ry
    ·exact Er d f w a b ha hb h0 hx rx h1 hy ry
   ·rw [KU hk]; exact rh d f op w a b [k0, k1] hk
  | [k0, k1, k2], qM, ih =>
   obtain ⟨x, hx, wx, rx⟩ := ih k0 (by simp)
   obtain ⟨y, hy, wy, ry⟩ := ih k1 (by simp)
   obtain ⟨z, hz, wz, rz⟩ := ih k2 (by simp)
   have h0 := qM k0 (by simp)
   have h1 := qM k1 (by simp)
   have h2 := qM k2 (by simp)
   refine ⟨oI op x y z, CU hx hy, .k3 _ _ _ _ wx wy wz, ?_⟩
   by_cases hk : eu op = 3
   ·obtain rfl := Ls hk
    exact Ep d f w a b ha hb h0 hx rx h1 hy ry h2 hz rz
   ·rw [KT hk]; exact rh d f op w a b [k0, k1, k2] hk
  | k0 :: k1 :: k2 :: k3 :: ks, qM, ih =>
   have := IW op
   exact ⟨0, by omega, .kn .., rh d f op w a b _ (by simp only [List.length_cons]; omega)⟩
def b_ (d : τ) : List AV := [.t (.str d.name), .t (.int .i64 d.order), .t (.κ 4 (d.files.map dz)), .t (.κ 3 (d.aa.map bl)), .t (.κ 1 (d.flags.map T.str)), .t (.κ 7 (d.classes.map aV)), .t (.κ 5 (d.forms.map ab)), .t (.κ 17 (d.au.map ei)), .t (.κ 4 (d.uses.map fE)), .t (.κ 3 (d.ar.map cG)), .t (.κ 3 (d.macros.map db)), .t (.κ 2 (d.aR.map fk)), .t (.κ 3 (d.aN.map bl))]
def eO (f : aj) : List AV := [.t (.str f.name), .t (.str f.ea), .t (.κ 2 (f.args.map Φ)), .t (.κ 4 (f.pieces.map bZ)), .t (.κ 5 f.gj)]
def Cu (f : aj) : T := .cO [.str f.name, .str f.ea, .κ 2 (f.args.map Φ), .κ 4 (f.pieces.map bZ), .κ 5 f.gj]
def nL (d : τ) (f : aj) (ks : List T) (ws : List Int) : Prop := ks.length = ws.length ∧ ∀ (i : Nat) k v, ks[i]? = some k → ws[i]? = some v → v ≠ 0 ∧ dM d f k v
theorem vy (d : τ) (f : aj) (ks : List T) (ht : ∀ k ∈ ks, aW k) (hl : ks.length ≤ 9223372036854775807) (ws : List Int) :
 af Tryz.prog 71 [aq d, ab f, .κ 5 ks, .κ 1 (ws.map (T.int .i64))] (aO (nL d f ks ws)) := by
 have eT : (ws.map (T.int .i64)).length = ws.length := by simp
 refine af.Λ ?_ aO.aL
 refine γ.ο ζ η Tryz.func71 rfl rfl ?_
 refine U (fun c0 => ?_) (fun c0 => ?_)
 ·exact ae fun h => by
   have c0 : ((ks.length : Int) != ((ws.map (T.int .i64)).length : Int)) = true := c0
   rw [eT] at c0
   simp at c0
   exact c0 (by have := h.1; omega)
 have c0 : ks.length = ws.length := by
  have : ((ks.length : Int) != ((ws.map (T.int .i64)).length : Int)) = false := c0
  rw [eT] at this
  simp at this
  omega
 refine ak (fun i : Nat => i ≤ ks.length ∧ ∀ (j : Nat) k v, j < i → ks[j]? = some k → ws[j]? = some v → v ≠ 0 ∧ dM d f k v) (fun i => ⟨[(3, .t (.κ 1 (ws.map (T.int .i64)))), (4, .ptr 0 0 0 0), (5, .ptr 1 0 0 0), (16, .t (.κ 5 ks)), (17, .t (.int .i64 (ks.length : Int))), (18, .t (.int .i64 i))], [.box (b_ d), .box (eO f)]⟩)
  (fun i => ks.length - i) 0 ⟨Nat.zero_le _, fun j _ _ h => absurd h (Nat.not_lt_zero _)⟩ ?_ (fun i ⟨hi, hP⟩ => ?_)
 ·exact a8 ⟨rfl, rfl, rfl, rfl, rfl, rfl, trivial⟩ rfl
 refine U (fun c => ?_) (fun c => ?_)
 ·have c : i < ks.length := dn c
  obtain ⟨k, hk, Gg⟩ := get_some (R := ks) (i := i) c
  obtain ⟨v, hv⟩ : ∃ v, ws[i]? = some v := ⟨ws[i], List.getElem?_eq_getElem (by omega)⟩
  have me := ht k Gg
  obtain ⟨u, _, MI, hu⟩ := CT d f me
  obtain ⟨kk, od⟩ : ∃ kk, kk = k := ⟨_, rfl⟩
  rw [← od] at MI
  have iw : ks[i]? = some kk := by rw [od]; exact hk
  cases me with | mk op wd a b kids _ _ _ _ _ _ =>
  refine ξ (show ks[((i : Nat) : Int).toNat]? = some _ from by rw [Int.toNat_natCast]; exact hk) ?_
  refine υ IA (by decide +kernel) ?_
  refine ξ (show (ws.map (T.int .i64))[((i : Nat) : Int).toNat]? = some (T.int .i64 v) from by rw [Int.toNat_natCast, List.getElem?_map, hv]; rfl) ?_
  refine U (fun c1 => ?_) (fun c1 => ?_)
  ·refine And.intro (fun j hj => by first | (cases hj; done) | exact ψ.append _ _ _ | exact ψ.refl _ _) ?_
   exact ae fun h => (h.2 i kk v iw hv).1 (by simpa using c1)
  have c1 : ¬ v = 0 := by simpa using c1
  refine ξ (show (ws.map (T.int .i64))[((i : Nat) : Int).toNat]? = some (T.int .i64 v) from by rw [Int.toNat_natCast, List.getElem?_map, hv]; rfl) ?_
  refine γ.b9 hu rfl ⟨.refl _, .refl _, .refl _, trivial⟩ ?_
  refine And.intro (fun j hj => by first | (cases hj; done) | exact ψ.append _ _ _ | exact ψ.refl _ _) ?_
  refine U (fun c2 => ?_) (fun c2 => ?_)
  ·exact ae fun h => by
    have c2 : ¬ u = v := by simpa using c2
    exact c2 (MI.oJ (h.2 i kk v iw hv).2)
  have c2 : u = v := by simpa using c2
  refine δ (n := ((i + 1 : Nat) : Int)) (ag (n := i + 1) (by omega)) ?_
  conv => whnf
  exact ⟨⟨i + 1, c, fun j k' v' h h1 h2 => by
   by_cases e : j = i
   ·subst e
    rw [iw] at h1; rw [hv] at h2
    cases h1; cases h2
    exact ⟨c1, by rw [← c2]; exact MI⟩
   ·exact hP j k' v' (by omega) h1 h2⟩, π [0, 1] rfl ⟨rfl, rfl, rfl, rfl, rfl, rfl, trivial⟩ ⟨rfl, rfl, trivial⟩, by show ks.length - (i + 1) < ks.length - i; omega⟩
 ·have c : i = ks.length := by have := dE c; omega
  exact aU ⟨fun _ => ⟨c0, fun j k v h1 h2 => hP j k v (by have := (List.getElem?_eq_some_iff.1 h1).1; omega) h1 h2⟩, fun _ => rfl⟩
inductive eB (d : τ) (f : aj) : T → Prop
 | set {w a b : Int} {k : T} (h : ig d f a b ≠ 0) (hw : dM d f k (ig d f a b)) : eB d f (pF 31 w a b [k])
 | flag {w a b : Int} {k : T} (h : 0 ≤ a ∧ a < d.flags.length) (hw : dM d f k 1) : eB d f (pF 32 w a b [k])
 | store {w a b : Int} {k l : T} (h : oV w) (hk : dM d f k 64) (hl : dM d f l w) : eB d f (pF 33 w a b [k, l])
 | jump {w a b : Int} {k : T} (hk : dM d f k 64) : eB d f (pF 34 w a b [k])
 | H3 {w a b : Int} (h : 1 ≤ a ∧ a ≤ 15) : eB d f (pF 35 w a b [])
 | sys {w a b : Int} : eB d f (pF 36 w a b [])
 | when {w a b : Int} {k : T} {ks : List T} (hk : dM d f k 1) (hs : ∀ t ∈ ks, eB d f t) : eB d f (pF 37 w a b (k :: ks))
theorem vz {d : τ} {f : aj} {ks : List T} {v : Int} : nL d f ks [v] ↔ ∃ k, ks = [k] ∧ v ≠ 0 ∧ dM d f k v := by
 constructor
 ·rintro ⟨h, h2⟩
  match ks, h with
  | [k], _ => exact ⟨k, rfl, h2 0 k v rfl rfl⟩
 ·rintro ⟨k, rfl, h1, h2⟩
  refine ⟨rfl, fun i k' v' a b => ?_⟩
  match i, a, b with
  | 0, a, b => cases a; cases b; exact ⟨h1, h2⟩
theorem Oi {d : τ} {f : aj} {ks : List T} {u v : Int} : nL d f ks [u, v] ↔ ∃ k l, ks = [k, l] ∧ (u ≠ 0 ∧ dM d f k u) ∧ (v ≠ 0 ∧ dM d f l v) := by
 constructor
 ·rintro ⟨h, h2⟩
  match ks, h with
  | [k, l], _ => exact ⟨k, l, rfl, h2 0 k u rfl rfl, h2 1 l v rfl rfl⟩
 ·rintro ⟨k, l, rfl, h1, h2⟩
  refine ⟨rfl, fun i k' v' a b => ?_⟩
  match i, a, b with
  | 0, a, b => cases a; cases b; exact h1
  | 1, a, b => cases a; cases b; exact h2
theorem rI {a b : Int} (c : (a == b) = true) : a = b := by simpa using c
theorem DS (d : τ) (f : aj) {t : T} (h : aW t) : af Tryz.prog 26 [aq d, ab f, t] (aO (eB d f t)) := by
 induction h with
 | mk op w a b ks _ _ _ tn hl ht ih =>
 have hW : ∀ ws : List Int, af Tryz.prog 71 [aq d, ab f, .κ 5 ks, .κ 1 (ws.map (T.int .i64))] (aO (nL d f ks ws)) := fun ws => vy d f ks ht (du hl) ws
 have hF : ∀ k ∈ ks, af Tryz.prog 74 [k, lW d, Cu f] (aO (eB d f k)) := fun k hk => by
  have O3 := ih k hk
  have me := ht k hk
  obtain ⟨P, hP⟩ : ∃ P, P = eB d f k := ⟨_, rfl⟩
  rw [← hP] at O3 ⊢
  cases me with | mk op wd a b kk _ _ _ _ _ _ =>
  refine af.Λ ?_ aO.aL
  refine γ.ο ζ η Tryz.func74 rfl rfl ?_
  refine γ.cD O3 rfl ⟨.refl _, .refl _, .refl _, trivial⟩ ?_
  rintro _ ⟨bS, rfl, pS⟩
  exact aU pS
 obtain ⟨P, hP⟩ : ∃ P, P = eB d f (pF op w a b ks) := ⟨_, rfl⟩
 rw [show eB d f (.agg [.int .i64 op, .int .i64 w, .int .i64 a, .int .i64 b, .κ 5 ks]) = P from hP.symm]
 have hI : P ↔ eB d f (pF op w a b ks) := by rw [hP]
 clear hP
 refine af.Λ ?_ aO.aL
 refine γ.ο ζ η Tryz.func26 rfl rfl ?_
 refine U (fun c => ?_) (fun n1 => ?_)
 ·have hJ : P ↔ nL d f ks [ig d f a b] := by
   rw [hI, vz, rI c]
   exact ⟨fun h => by cases h with | set h hw => exact ⟨_, rfl, h, hw⟩, fun ⟨k, e, h, hw⟩ => by subst e; exact .set h hw⟩
  refine υ ID (by decide +kernel) ?_
  refine γ.b9 (sh d f op w a b ks tn) rfl ⟨.refl _, .refl _, .refl _, trivial⟩ ?_
  refine And.intro (fun j hj => by first | (cases hj; done) | exact ψ.append _ _ _ | exact ψ.refl _ _) ?_
  refine γ.cD (hW [ig d f a b]) rfl ⟨.refl _, .refl _, .refl _, .vec 1 _, trivial⟩ ?_
  rintro _ ⟨bS, rfl, pS⟩
  refine And.intro (fun j hj => by first | (cases hj; done) | exact ψ.append _ _ _ | exact ψ.refl _ _) ?_
  refine And.intro (fun j hj => by first | (cases hj; done) | exact ψ.append _ _ _ | exact ψ.refl _ _) ?_
  exact aU (pS.trans hJ.symm)
 refine U (fun c => ?_) (fun n2 => ?_)
 ·have hJ : P ↔ (0 ≤ a ∧ a < d.flags.length) ∧ nL d f ks [1] := by
   rw [hI, vz, rI c]
   exact ⟨fun h => by cases h with | flag h hw => exact ⟨h, _, rfl, by decide, hw⟩, fun ⟨h, k, e, _, hw⟩ => by subst e; exact .flag h hw⟩
  refine γ.pure (bQ _ _) rfl ?_
  refine U (fun c1 => ?_) (fun c1 => ?_)
  rotate_left 1
  ·exact ae fun h => lZ c1 (hJ.1 h).1
  have c1 := oh c1
  refine γ.cD (hW [1]) rfl ⟨.refl _, .refl _, .refl _, .vec 1 _, trivial⟩ ?_
  rintro _ ⟨bS, rfl, pS⟩
  exact aU ⟨fun h => hJ.2 ⟨c1, pS.1 h⟩, fun h => pS.2 (hJ.1 h).2⟩
 refine U (fun c => ?_) (fun n3 => ?_)
 ·have hJ : P ↔ oV w ∧ nL d f ks [64, w] := by
   rw [hI, Oi, rI c]
   exact ⟨fun h => by cases h with | store q q1 q2 => exact ⟨q, _, _, rfl, ⟨by decide, q1⟩, by unfold oV at q; omega, q2⟩, fun ⟨q, k, l, e, ⟨_, q1⟩, _, q2⟩ => by subst e; exact .store q q1 q2⟩
  refine γ.pure (uy _) rfl ?_
  refine U (fun c1 => ?_) (fun c1 => ?_)
  rotate_left 1
  ·exact ae fun h => of_decide_eq_false c1 (hJ.1 h).1
  have c1 := of_decide_eq_true c1
  refine γ.cD (hW [64, w]) rfl ⟨.refl _, .refl _, .refl _, .vec 1 _, trivial⟩ ?_
  rintro _ ⟨bS, rfl, pS⟩
  exact aU ⟨fun h => hJ.2 ⟨c1, pS.1 h⟩, fun h => pS.2 (hJ.1 h).2⟩
 refine U (fun c => ?_) (fun n4 => ?_)
 ·have hJ : P ↔ nL d f ks [64] := by
   rw [hI, vz, rI c]
   exact ⟨fun h => by cases h with | jump hw => exact ⟨_, rfl, by decide, hw⟩, fun ⟨k, e, _, hw⟩ => by subst e; exact .jump hw⟩
  refine γ.cD (hW [64]) rfl ⟨.refl _, .refl _, .refl _, .vec 1 _, trivial⟩ ?_
  rintro _ ⟨bS, rfl, pS⟩
  exact aU (pS.trans hJ.symm)
 refine U (fun c => ?_) (fun n5 => ?_)
 ·have hJ : P ↔ (1 ≤ a ∧ a ≤ 15) ∧ ks = [] := by
   rw [hI, rI c]
   exact ⟨fun h => by cases h with | H3 h => exact ⟨h, rfl⟩, fun ⟨h, e⟩ => by subst e; exact .H3 h⟩
  refine U (fun c1 => ?_) (fun c1 => ?_)
  rotate_left 1
  ·exact ae fun h => by have := (hJ.1 h).1; have := of_decide_eq_false c1; omega
  have c1 := of_decide_eq_true c1
  refine U (fun c2 => ?_) (fun c2 => ?_)
  rotate_left 1
  ·exact ae fun h => by have := (hJ.1 h).1; have := of_decide_eq_false c2; omega
  have c2 := of_decide_eq_true c2
  exact aU ⟨fun h => hJ.2 ⟨by omega, by have := eq_of_beq h; exact List.length_eq_zero_iff.1 (by omega)⟩, fun h => by rw [(hJ.1 h).2]; rfl⟩
 refine U (fun c => ?_) (fun n6 => ?_)
 ·have hJ : P ↔ ks = [] := by
   rw [hI, rI c]
   exact ⟨fun h => by cases h with | sys => rfl, fun e => by subst e; exact .sys⟩
  exact aU ⟨fun h => hJ.2 (by have := eq_of_beq h; exact List.length_eq_zero_iff.1 (by omega)), fun h => by rw [hJ.1 h]; rfl⟩
 refine U (fun c => ?_) (fun n7 => ?_)
 ·have hJ : P ↔ ∃ k l, ks = k :: l ∧ dM d f k 1 ∧ ∀ t ∈ l, eB d f t := by
   rw [hI, rI c]
   exact ⟨fun h => by cases h with | when hk hs => exact ⟨_, _, rfl, hk, hs⟩, fun ⟨k, l, e, h1, h2⟩ => by subst e; exact .when h1 h2⟩
  refine υ Fw (by decide +kernel) ?_
  refine U (fun c1 => ?_) (fun c1 => ?_)
  rotate_left 1
  ·refine And.intro (fun j hj => by first | (cases hj; done) | exact ψ.append _ _ _ | exact ψ.refl _ _) ?_
   refine And.intro (fun j hj => by first | (cases hj; done) | exact ψ.append _ _ _ | exact ψ.refl _ _) ?_
   refine And.intro (fun j hj => by first | (cases hj; done) | exact ψ.append _ _ _ | exact ψ.refl _ _) ?_
   exact ae fun h => by obtain ⟨k, l, e, _⟩ := hJ.1 h; have := of_decide_eq_false c1; rw [e] at this; simp at this
  have c1 : 1 ≤ ks.length := by have := of_decide_eq_true c1; omega
  refine ε (show (decide ((0 : Int) ≤ 1) && decide ((1 : Int) ≤ (ks.length : Int))) = true from by simp; omega) ?_
  have Ny := vy d f ((ks.drop 0).take (1 - 0)) (fun k hk => ht k (List.mem_of_mem_drop (List.mem_of_mem_take hk))) (by rw [List.length_take]; omega) [1]
  refine γ.cD Ny rfl ⟨.refl _, .refl _, .refl _, .vec 1 _, trivial⟩ ?_
  rintro _ ⟨bS, rfl, pS⟩
  refine And.intro (fun j hj => by first | (cases hj; done) | exact ψ.append _ _ _ | exact ψ.refl _ _) ?_
  refine U (fun c2 => ?_) (fun c2 => ?_)
  rotate_left 1
  ·refine And.intro (fun j hj => by first | (cases hj; done) | exact ψ.append _ _ _ | exact ψ.refl _ _) ?_
   refine And.intro (fun j hj => by first | (cases hj; done) | exact ψ.append _ _ _ | exact ψ.refl _ _) ?_
   exact ae fun h => by
    obtain ⟨k, l, e, h1, _⟩ := hJ.1 h
    have := pS.2 (vz.2 ⟨k, by rw [e]; rfl, by decide, h1⟩)
    rw [this] at c2; cases c2
  refine ε (show (decide ((0 : Int) ≤ 1) && decide ((1 : Int) ≤ (ks.length : Int))) = true from by simp; omega) ?_
  have hA : af Tryz.prog 24 [.κ 5 ((ks.drop 1).take (ks.length - 1)), .fn (.func 74) [] [lW d, Cu f]] (aO (∀ x ∈ (ks.drop 1).take (ks.length - 1), eB d f x)) :=
   uM _ (lW d) (Cu f) ((ks.drop 1).take (ks.length - 1)) (eB d f) (by have := du hl; rw [List.length_take]; omega) (fun k hk => ht k (List.mem_of_mem_drop (List.mem_of_mem_take hk))) fun x hx => hF x (List.mem_of_mem_drop (List.mem_of_mem_take hx))
  refine γ.cD hA rfl ⟨.refl _, .refl _, trivial⟩ ?_
  rintro _ ⟨bT, rfl, pT⟩
  refine And.intro (fun j hj => by first | (cases hj; done) | exact ψ.append _ _ _ | exact ψ.refl _ _) ?_
  refine And.intro (fun j hj => by first | (cases hj; done) | exact ψ.append _ _ _ | exact ψ.refl _ _) ?_
  refine aU ⟨fun h => ?_, fun h => ?_⟩
  ·obtain ⟨k, e, _, h1⟩ := vz.1 (pS.1 c2)
   match ks, c1, e, pT.1 h with
   | k0 :: l, _, e, h2 =>
    cases e
    exact hJ.2 ⟨_, l, rfl, h1, fun t ht => h2 t (by simpa using ht)⟩
  ·obtain ⟨k, l, e, h1, h2⟩ := hJ.1 h
   exact pT.2 fun t ht => h2 t (by rw [e] at ht; simpa using ht)
 exact ae fun h => by
  have h := hI.1 h
  have q1 := ne_of_beq_false n1
  have q2 := ne_of_beq_false n2
  have q3 := ne_of_beq_false n3
  have q4 := ne_of_beq_false n4
  have q5 := ne_of_beq_false n5
  have q6 := ne_of_beq_false n6
  have q7 := ne_of_beq_false n7
  cases h <;> simp at q1 q2 q3 q4 q5 q6 q7
end Go.Proofs.YtcogcbplmkcojaaGreatDoor
