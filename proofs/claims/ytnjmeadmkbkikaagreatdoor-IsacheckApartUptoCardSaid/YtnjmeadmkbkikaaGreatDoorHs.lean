/-
  Of a right description no bytes are two instructions (the law).
-/
import Derived.Test.YtnjmeadmkbkikaaGreatDoorHr
import Derived.Test.YtnjmeadmkbkikaaGreatDoorGIs
import Derived.Test.YtnjmeadmkbkikaaGreatDoorFg
namespace Go.Proofs.YtnjmeadmkbkikaaGreatDoor
open Go.IntWalk
set_option maxRecDepth 100000
set_option linter.unusedVariables false
set_option linter.unusedSimpArgs false
set_option maxHeartbeats 1000000

theorem apartRuns (d : DescD) (hd : d.ok) (hs : ∀ f ∈ d.forms, sumL f.pieces ≤ 2000000000000) (b : List UInt8) (hb : b.length ≤ reachBytes) : Runs Tryz.prog 3 [descT d, .vecd 1 (bytesT b)] (.t (.bool true)) := by
  have hforms : ∀ f ∈ d.forms, f.ok := hd.2.2.2.2.2.2.2.2.2.2.2.1
  refine Runs.of_call ?_ rfl
  refine CallS.of_fn tabS_ok regS_ok Tryz.func3 rfl rfl ?_
  refine CallS.pure isacheckAlive_runs rfl ?_
  refine CallS.frzX (check_runs d hd hs) rfl ⟨.refl _, trivial⟩ ?_
  rintro _ ⟨n, e, rfl, hok⟩
  refine br_intro (fun _ => ?_) (fun ce => ?_)
  · exact And.intro rfl rfl
  have hok := hok (by simpa using ce)
  refine br_intro (fun _ => ?_) (fun _ => ?_)
  · exact And.intro rfl rfl
  have hl := hok.parts.fl
  refine loop_on (fun s : Nat × Nat => s.1 ≤ d.forms.length ∧ (s.2 = 0 ∨ s.2 = 1 ∧ ∃ i' f, i' < s.1 ∧ d.forms[i']? = some f ∧ FitsP d f b)) (fun s => ⟨[(1, .t (.vecd 1 (bytesT b))), (2, .ptr 0 0 0 0), (7, .t (.int .i64 s.2)), (26, .t (.vecd 5 (d.forms.map formT))), (27, .t (.int .i64 ((d.forms.map formT).length : Int))), (28, .t (.int .i64 s.1))], [.box (descC d)]⟩)
    (fun s => d.forms.length - s.1) (0, 0) ⟨Nat.zero_le _, .inl rfl⟩ ?_ (fun ⟨i, k⟩ ⟨hi, hk⟩ => ?_)
  · exact weak_of ⟨rfl, rfl, rfl, rfl, rfl, rfl, trivial⟩ rfl
  have hk : k = 0 ∨ k = 1 ∧ ∃ i' f, i' < i ∧ d.forms[i']? = some f ∧ FitsP d f b := hk
  refine br_intro (fun c => ?_) (fun c => ?_)
  · have cq : i < d.forms.length := by have := dlt c; simpa using this
    obtain ⟨f, hf, hfm⟩ := get_some (R := d.forms) (i := i) cq
    refine opt_intro (show (d.forms.map formT)[((i : Nat) : Int).toNat]? = some (formT f) from by rw [Int.toNat_natCast, List.getElem?_map, hf]; rfl) ?_
    refine CallS.frzX (fits_runs d f hd (hforms f hfm) (hok.forms f hfm) b hb) rfl ⟨.refl _, .refl _, .refl _, trivial⟩ ?_
    rintro _ ⟨bf, rfl, pf⟩
    refine br_intro (fun c2 => ?_) (fun c2 => ?_)
    · have pf := pf c2
      have hk0 : k = 0 := by
        rcases hk with h | ⟨_, i', f', h1, h2, h3⟩
        · exact h
        · exact (apart_law (hok.forms f' (List.mem_of_getElem? h2)) (hok.forms f hfm) (hok.apart i' i f' f h1 h2 hf) h3 pf).elim
      subst hk0
      refine st_intro (n := ((i + 1 : Nat) : Int)) (nat_in (n := i + 1) (by omega)) ?_
      conv => whnf
      exact ⟨⟨(i + 1, 1), cq, .inr ⟨rfl, i, f, Nat.lt_succ_self i, hf, pf⟩⟩, weak_gc [0] rfl ⟨rfl, rfl, rfl, rfl, rfl, rfl, trivial⟩ ⟨rfl, trivial⟩, by show d.forms.length - (i + 1) < d.forms.length - i; omega⟩
    · refine st_intro (n := ((i + 1 : Nat) : Int)) (nat_in (n := i + 1) (by omega)) ?_
      conv => whnf
      exact ⟨⟨(i + 1, k), cq, hk.imp id fun ⟨h, i', f', h1, h2⟩ => ⟨h, i', f', by show i' < i + 1; omega, h2⟩⟩, weak_gc [0] rfl ⟨rfl, rfl, rfl, rfl, rfl, rfl, trivial⟩ ⟨rfl, trivial⟩, by show d.forms.length - (i + 1) < d.forms.length - i; omega⟩
  · have : k ≤ 1 := by rcases hk with h | h <;> omega
    exact And.intro (bt_end (decide_eq_true (by show (k : Int) ≤ 1; omega))) rfl

/-- What short parts mean for a description. -/
theorem small_forms {d : DescD} {N : Nat} (h : SmallT N (descT d)) : ∀ f ∈ d.forms, sumL f.pieces ≤ N * (N + 64) := by
  cases h with
  | agg _ hs =>
    have h1 := hs (.vecd 5 (d.forms.map formT)) (by simp)
    cases h1 with
    | vecd _ _ h2 h3 =>
      intro f hf
      have h4 := h3 (formT f) (List.mem_map.2 ⟨f, hf, rfl⟩)
      cases h4 with
      | agg _ h5 =>
        have h6 := h5 (.vecd 4 (f.pieces.map pieceT)) (by simp)
        cases h6 with
        | vecd _ _ h7 h8 =>
          have key : ∀ l : List PieceD, (∀ p ∈ l, p.lit.length ≤ N) → sumL l ≤ l.length * (N + 64) := by
            intro l
            induction l with
            | nil => intro _; exact Nat.zero_le _
            | cons p l ih =>
              intro hp
              have a := ih fun q hq => hp q (List.mem_cons_of_mem _ hq)
              have b := hp p List.mem_cons_self
              simp only [sumL, pieceLen, List.length_cons, Nat.add_mul, Nat.one_mul]
              simp only [Nat.add_mul, Nat.one_mul, Nat.mul_add] at a
              simp only [Nat.mul_add]
              omega
          have h9 := key f.pieces fun p hp => by
            have h10 := h8 (pieceT p) (List.mem_map.2 ⟨p, hp, rfl⟩)
            cases h10 with
            | agg _ h11 =>
              have h12 := h11 (.str p.lit) (by simp)
              cases h12 with
              | str _ h13 => exact h13
          rw [List.length_map] at h7
          exact Nat.le_trans h9 (Nat.mul_le_mul_right _ h7)

theorem apartLaw (c0 : List T) (h0 : HasT Tryz.prog 33 c0) (s0 : ∀ c ∈ c0, SmallT 1048576 c) (c1 : List T) (h1 : HasT Tryz.prog 34 c1) (s1 : ∀ c ∈ c1, SmallT 1048576 c) :
    Runs Tryz.prog 3 [argOf Tryz.prog 33 c0, argOf Tryz.prog 34 c1] (.t (.bool true)) := by
  obtain ⟨d, hdok, hd⟩ := desc_arg h0
  have ea : argOf Tryz.prog 33 c0 = .agg c0 := by unfold argOf; rw [Tryz.underlying33]
  have hsm : SmallT 1048576 (descT d) := hd.small (by rw [ea]; exact .agg _ s0)
  have hsum := small_forms hsm
  have eb : argOf Tryz.prog 34 c1 = c1.headD .nilp := by unfold argOf; rw [Tryz.underlying34]
  obtain ⟨b, hb, hs1⟩ : ∃ b : List UInt8, b.length ≤ reachBytes ∧ SubT (argOf Tryz.prog 34 c1) (.vecd 1 (bytesT b)) := by
    rw [eb]
    rcases h1.bytes' Tryz.underlying34 Tryz.underlying5 (by kernel_rfl) (by kernel_rfl) with rfl | ⟨bs, hl, rfl⟩
    · exact ⟨[], Nat.zero_le _, .nils 1⟩
    · exact ⟨bs, hl, .vec 1 _⟩
  exact (apartRuns d hdok (fun f hf => Nat.le_trans (hsum f hf) (by decide)) b hb).sub ⟨hd, hs1, trivial⟩

end Go.Proofs.YtnjmeadmkbkikaaGreatDoor
