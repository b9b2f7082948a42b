/-
  Of the shipped descriptions no bytes are two instructions (walk of the law).
-/
import Derived.Test.YtcogcbplmkcojaaGreatDoorSg
import Derived.Test.YtcogcbplmkcojaaGreatDoorHr
namespace Go.Proofs.YtcogcbplmkcojaaGreatDoor
open Go.IntWalk
set_option maxRecDepth 100000
set_option linter.unusedVariables false
set_option linter.unusedSimpArgs false
set_option maxHeartbeats 1000000
noncomputable def Ma (b : List UInt8) (d : τ) (i k j : Nat) : St := ⟨[(8, .t (.int .i64 k)), (0, .t (.κ 1 (jS b))), (13, .sl 0 0 0 3), (14, .t (.int .i64 3)), (15, .t (.int .i64 i)), (5, .ptr 1 0 0 0), (26, .t (.κ 5 (d.forms.map ab))), (27, .t (.int .i64 ((d.forms.map ab).length : Int))), (28, .t (.int .i64 j))], [.arr 9 1 false 0 (.ts (fQ.map T.str)), .box (b_ d)]⟩
theorem BC (b : List UInt8) (hb : b.length ≤ reachBytes) : φ Tryz.prog 4 [.κ 1 (jS b)] (.t (.bool true)) := by
 have DB := B3
 refine φ.Λ ?_ rfl
 refine γ.ο ζ η Tryz.func4 rfl rfl ?_
 refine γ.pure nz rfl ?_
 refine ak (fun i : Nat => i ≤ 3) (fun i => ⟨[(0, .t (.κ 1 (jS b))), (13, .sl 0 0 0 3), (14, .t (.int .i64 3)), (15, .t (.int .i64 i))], [.arr 9 1 false 0 (.ts (fQ.map T.str))]⟩)
  (fun i => 3 - i) 0 (Nat.zero_le _) ?_ (fun i hi => ?_)
 ·exact a8 ⟨rfl, rfl, rfl, rfl, trivial⟩ rfl
 refine U (fun c => ?_) (fun c => ?_)
 ·have c : i < 3 := by have := of_decide_eq_true c; omega
  obtain ⟨t, ht, de⟩ := DB i c
  obtain ⟨d, hp, hd, kh, hs, NF⟩ := yg de
  have AO : ∀ f ∈ d.forms, f.ok := hd.2.2.2.2.2.2.2.2.2.2.2.1
  have hl := kh.parts.fl
  refine ε (mD rfl (by omega)) ?_
  refine ξ (show (fQ.map T.str)[0 + i]? = some (.str t) from by rw [Nat.zero_add, List.getElem?_map, ht]; rfl) ?_
  refine γ.pure (qh hp) rfl ?_
  refine dW (fun e s' => e = .exit 2 ∧ ∃ k j : Nat, k ≤ 1 ∧ ∃ b0, s' = ⟨(29, b0) :: (Ma b d i k j).env, (Ma b d i k j).H⟩) (fun Q' hq => ?_) ?_
  ·refine ak (fun s : Nat × Nat => s.1 ≤ d.forms.length ∧ (s.2 = 0 ∨ s.2 = 1 ∧ ∃ i' f, i' < s.1 ∧ d.forms[i']? = some f ∧ se d f b)) (fun s => Ma b d i s.2 s.1)
    (fun s => d.forms.length - s.1) (0, 0) ⟨Nat.zero_le _, .inl rfl⟩ ?_ (fun ⟨j, k⟩ ⟨hj, hk⟩ => ?_)
   ·exact a8 ⟨rfl, rfl, rfl, rfl, rfl, rfl, rfl, rfl, rfl, trivial⟩ rfl
   have hk : k = 0 ∨ k = 1 ∧ ∃ i' f, i' < j ∧ d.forms[i']? = some f ∧ se d f b := hk
   refine U (fun c => ?_) (fun c => ?_)
   ·have cq : j < d.forms.length := by have := dn c; simpa using this
    obtain ⟨f, hf, lf⟩ := get_some (R := d.forms) (i := j) cq
    refine ξ (show (d.forms.map ab)[((j : Nat) : Int).toNat]? = some (ab f) from by rw [Int.toNat_natCast, List.getElem?_map, hf]; rfl) ?_
    refine γ.cD (GL d f hd (AO f lf) (kh.forms f lf) b hb) rfl ⟨.refl _, .refl _, .refl _, trivial⟩ ?_
    rintro _ ⟨bf, rfl, pf⟩
    refine U (fun c2 => ?_) (fun c2 => ?_)
    ·have pf := pf c2
     have dk : k = 0 := by
      rcases hk with h | ⟨_, i', f', h1, h2, h3⟩
      ·exact h
      ·exact (Ht (kh.forms f' (List.mem_of_getElem? h2)) (kh.forms f lf) (kh.apart i' j f' f h1 h2 hf) h3 pf).elim
     subst dk
     refine δ (n := ((j + 1 : Nat) : Int)) (ag (n := j + 1) (by omega)) ?_
     conv => whnf
     exact ⟨⟨(j + 1, 1), cq, .inr ⟨rfl, j, f, Nat.lt_succ_self j, hf, pf⟩⟩, π [0, 1] rfl ⟨rfl, rfl, rfl, rfl, rfl, rfl, rfl, rfl, rfl, trivial⟩ ⟨rfl, rfl, trivial⟩, by show d.forms.length - (j + 1) < d.forms.length - j; omega⟩
    ·refine δ (n := ((j + 1 : Nat) : Int)) (ag (n := j + 1) (by omega)) ?_
     conv => whnf
     exact ⟨⟨(j + 1, k), cq, hk.imp id fun ⟨h, i', f', h1, h2⟩ => ⟨h, i', f', by show i' < j + 1; omega, h2⟩⟩, π [0, 1] rfl ⟨rfl, rfl, rfl, rfl, rfl, rfl, rfl, rfl, rfl, trivial⟩ ⟨rfl, rfl, trivial⟩, by show d.forms.length - (j + 1) < d.forms.length - j; omega⟩
   ·have : k ≤ 1 := by rcases hk with h | h <;> omega
    exact hq _ _ ⟨rfl, k, j, this, _, rfl⟩
  rintro _ _ ⟨rfl, k, j, hk, b0, rfl⟩
  refine U (fun c => absurd (of_decide_eq_true c) (by omega)) (fun _ => ?_)
  refine δ (n := ((i + 1 : Nat) : Int)) (ag (n := i + 1) (by omega)) ?_
  conv => whnf
  exact ⟨⟨i + 1, c⟩, π [0] rfl ⟨rfl, rfl, rfl, rfl, trivial⟩ ⟨rfl, trivial⟩, by show 3 - (i + 1) < 3 - i; omega⟩
 ·exact And.intro rfl rfl
theorem CZ (c0 : List T) (h0 : fJ Tryz.prog 40 c0) : φ Tryz.prog 4 [ui Tryz.prog 40 c0] (.t (.bool true)) := by
 have eb : ui Tryz.prog 40 c0 = c0.headD .ju := by unfold ui; rw [Tryz.underlying40]
 obtain ⟨b, hb, dd⟩ : ∃ b : List UInt8, b.length ≤ reachBytes ∧ bu (ui Tryz.prog 40 c0) (.κ 1 (jS b)) := by
  rw [eb]
  rcases h0.N_ Tryz.underlying40 Tryz.underlying5 (by kernel_rfl) (by kernel_rfl) with rfl | ⟨bs, hl, rfl⟩
  ·exact ⟨[], Nat.zero_le _, .av 1⟩
  ·exact ⟨bs, hl, .vec 1 _⟩
 exact (BC b hb).sub ⟨dd, trivial⟩
end Go.Proofs.YtcogcbplmkcojaaGreatDoor
