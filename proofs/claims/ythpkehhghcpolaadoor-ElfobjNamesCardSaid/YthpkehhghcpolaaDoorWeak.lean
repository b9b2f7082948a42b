/-
  A state of the walk says less than another.
-/
import Derived.Test.YthpkehhghcpolaaDoorPack
namespace Go.Proofs.YthpkehhghcpolaaDoor
set_option linter.unusedVariables false

/-- What the second tells, the first tells too. -/
def Agree (env : List (Nat × AV)) : List (Nat × AV) → Prop
  | [] => True
  | (t, v) :: r => lk env t = v ∧ Agree env r

theorem agree_lk {env : List (Nat × AV)} : ∀ {env' : List (Nat × AV)}, Agree env env' → ∀ t, lk env' t = .junk ∨ lk env' t = lk env t
  | [], _, t => .inl rfl
  | (d, v) :: r, h, t => by
    rw [lk_cons]
    by_cases e : d = t
    · rw [if_pos e, ← e, h.1]; exact .inr rfl
    · rw [if_neg e]; exact agree_lk h.2 t

theorem weak_of {k0 : Nat} {s s' : St} (h : Agree s.env s'.env) (hH : s.H = s'.H) : Weak k0 s s' := by
  intro O c a w _ hs
  refine ⟨c, fun t => ?_, hH ▸ hs.hs, hs.size, hs.defers, hH ▸ hs.ev, hs.below⟩
  rw [← hH]
  rcases agree_lk h t with e | e
  · rw [e]; exact .junk _
  · rw [e]; exact hs.env t

theorem Weak.refl {k0 : Nat} (s : St) : Weak k0 s s := fun O c a w _ hs => ⟨c, hs⟩

theorem Weak.trans {k0 : Nat} {s1 s2 s3 : St} (h : Weak k0 s1 s2) (h2 : Weak k0 s2 s3) : Weak k0 s1 s3 := fun O c a w hk hs => by
  obtain ⟨c', hs'⟩ := h O c a w hk hs
  exact h2 O c' a w hk hs'

/-- A loop that counts up. -/
theorem loop_intro {k0 : Nat} {body : (Ex → St → Prop) → St → Prop} {Q : Ex → St → Prop} {s : St} (I : Type) (S : I → St) (μ : I → Nat) (i : I) (h0 : Weak k0 s (S i))
    (h : ∀ i, body (fun e s' => match e with | .normal => ∃ j, Weak k0 s' (S j) ∧ μ j < μ i | e => Q e s') (S i)) : LoopU k0 body Q s := ⟨0, I, S, μ, i, h0, h⟩

/-- The same with a condition. -/
theorem loop_on {k0 : Nat} {body : (Ex → St → Prop) → St → Prop} {Q : Ex → St → Prop} {s : St} {A : Type} (I : A → Prop) (S : A → St) (μ : A → Nat) (i : A) (hi : I i)
    (h0 : Weak k0 s (S i)) (h : ∀ i, I i → body (fun e s' => match e with | .normal => ∃ j : {a // I a}, Weak k0 s' (S j.1) ∧ μ j.1 < μ i | e => Q e s') (S i)) : LoopU k0 body Q s :=
  ⟨0, {a : A // I a}, fun a => S a.1, fun a => μ a.1, ⟨i, hi⟩, h0, fun ⟨i, hi⟩ => h i hi⟩

end Go.Proofs.YthpkehhghcpolaaDoor
