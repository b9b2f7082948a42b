/-
  Pieces of code and functions of the fast engine: what the kernel reckons, the model does.
-/
import Derived.Test.YthpkehhghcpolaaDoorQReg
namespace Go.Proofs.YthpkehhghcpolaaDoor
open Go.RowKit
set_option linter.unusedVariables false
set_option linter.unusedSimpArgs false

section
variable {R : Type} {P : Program} {tab : Tab} {eqs : TypeId → Bool} {call : CallN}

theorem xguard_none {call : CallP} {ops : Array Oper} {o : Oper} {s : St} {K : St → Prop} (hg : o.guard = none) (k : xop tab call o s.env s.H fun v H => stp s o.dst v H K) : xguard tab call ops o s K := by
  obtain ⟨env, H⟩ := s
  simp only [xguard, hg]
  simp only [stp_eq] at k ⊢
  exact k

theorem xguard_true {call : CallP} {ops : Array Oper} {o : Oper} {env : List (Nat × AV)} {H : AH} {K : St → Prop} {j d : Nat} {w : Bool} (hg : o.guard = some (j, w)) (hd : guardSlot ops j = some d) (hv : lk env d = .t (.bool w))
    (k : xop tab call o ((d, .t (.bool w)) :: env) H fun v H' => stp ⟨(d, .t (.bool w)) :: env, H⟩ o.dst v H' K) : xguard tab call ops o ⟨env, H⟩ K := by
  simp only [xguard, hg]
  refine opt_intro hd ?_
  rw [hv]
  cases w <;> exact k

theorem xguard_false {call : CallP} {ops : Array Oper} {o : Oper} {env : List (Nat × AV)} {H : AH} {K : St → Prop} {j d : Nat} {w : Bool} (hg : o.guard = some (j, w)) (hd : guardSlot ops j = some d) (hv : lk env d = .t (.bool (!w)))
    (k : stp ⟨(d, .t (.bool (!w))) :: env, H⟩ o.dst (.tup []) H K) : xguard tab call ops o ⟨env, H⟩ K := by
  simp only [xguard, hg]
  refine opt_intro hd ?_
  rw [hv]
  cases w <;> exact k

theorem xguard_und {call : CallP} {ops : Array Oper} {o : Oper} {env : List (Nat × AV)} {H : AH} {K : St → Prop} {j d : Nat} {w : Bool} (hg : o.guard = some (j, w)) (hd : guardSlot ops j = some d) (hv : lk env d = .tup [])
    (k : stp ⟨env, H⟩ o.dst (.tup []) H K) : xguard tab call ops o ⟨env, H⟩ K := by
  simp only [xguard, hg]
  refine opt_intro hd ?_
  rw [hv]
  exact k

/-- A guard's slot, where it is. -/
theorem gdOf_ok {ops : Array Oper} {σ : List (Nat × SV)} {o : Oper} {G : Gd} (h : gdOf ops σ o = some G) {st : List AV} {envQ envX : List (Nat × AV)} (hr : Rel σ st envQ envX) :
    (o.guard = none ∧ G = none) ∨ ∃ j w d g, o.guard = some (j, w) ∧ guardSlot ops j = some d ∧ G = some (g, w) ∧ blw st.length g ∧ qevA st envQ g = lk envX d := by
  unfold gdOf at h
  split at h
  · rename_i hg; cases h; exact .inl ⟨hg, rfl⟩
  · rename_i j w hg
    split at h
    · rename_i d hd
      split at h
      · rename_i x hl
        cases h
        have := hr d
        rw [hl] at this
        exact .inr ⟨j, w, d, x, hg, hd, rfl, this.1, this.2⟩
      · cases h
    · cases h

theorem compO_ok (hC : CallOK P call) (hE : ∀ t y, eqs t = true → tab t = some y → y.eqOK) {ops : Array Oper} {o : Oper} {σ : List (Nat × SV)} {n : Nat} {is : List QI} {σ' : List (Nat × SV)} {n' : Nat}
    (hc : compO tab ops o σ n = some (is, σ', n')) {st : List AV} {envQ envX : List (Nat × AV)} {h : NH} {H : AH} {K : List AV → NH → Option R} {r : R} (hn : st.length = n) (hr : Rel σ st envQ envX) (ha : HA h H)
    (hh : qis tab eqs call is st envQ h K = some r) : Came P tab ops (xguard tab (CallS P) ops o) h H K r σ' n' envQ envX := by
  unfold compO at hc
  generalize hq : matsL none (gdSlot ops o) σ n = q at hc
  obtain ⟨is0, σ0, n0⟩ := q
  simp only at hc
  split at hc
  · cases hc
  rename_i G hG
  have mats : ∀ {js : List QI}, is = is0 ++ js → ∃ st0, qis tab eqs call js st0 envQ h K = some r ∧ st0.length = n0 ∧ Rel σ0 st0 envQ envX := by
    intro js he
    rw [he, qis_append] at hh
    obtain ⟨st0, k1, k2, k3, _⟩ := mats_ok hq hn hr hh
    exact ⟨st0, k1, k2, k3⟩
  have real : compReal G o is0 σ0 n0 = some (is, σ', n') → Came P tab ops (xguard tab (CallS P) ops o) h H K r σ' n' envQ envX := by
    intro hc
    -- the places of the guards are told before what is done
    have hpre : ∃ js, is = is0 ++ js := by
      unfold compReal at hc
      split at hc
      split at hc
      · cases hc
      · cases hc; exact ⟨_, rfl⟩
    obtain ⟨js, he⟩ := hpre
    obtain ⟨st0, k1, k2, k3⟩ := mats he
    obtain ⟨js', he', hx⟩ := real_ok (P := P) (ops := ops) (K := K) (r := r) hC hE hc k2 k3 ha
    have : js' = js := List.append_cancel_left (he'.symm.trans he)
    subst this
    obtain ⟨c1, c2⟩ := hx k1
    rcases gdOf_ok hG k3 with ⟨hg, hG0⟩ | ⟨j, w, d, g, hg, hd, hG0, hb, hv⟩
    · obtain ⟨st', h', H', envX', m1, m2, m3, m4, m5, m6, m7⟩ := c1 hG0
      exact ⟨st', h', H', envX', m1, m2, m3, m4, m5, m6, fun K' k => xguard_none hg (m7 K' k)⟩
    · rcases c2 g w hG0 hb with ⟨e, c⟩ | ⟨e, c⟩
      · rw [hv] at e
        obtain ⟨st', h', H', envX', m1, m2, m3, m4, m5, m6, m7⟩ := c d ⟨_, e, rfl⟩
        exact ⟨st', h', H', envX', m1, m2, m3, m4, m5, m6, fun K' k => xguard_true hg hd e (m7 K' k)⟩
      · rw [hv] at e
        rcases e with e | e
        · obtain ⟨st', h', H', envX', m1, m2, m3, m4, m5, m6, m7⟩ := c ((d, .t (.bool (!w))) :: envX) (fun t => by
            rw [lk_cons]; split
            · rename_i e2; rw [← e2, e]
            · rfl)
          exact ⟨st', h', H', envX', m1, m2, m3, m4, m5, m6, fun K' k => xguard_false hg hd e (m7 K' k)⟩
        · obtain ⟨st', h', H', envX', m1, m2, m3, m4, m5, m6, m7⟩ := c envX (fun t => rfl)
          exact ⟨st', h', H', envX', m1, m2, m3, m4, m5, m6, fun K' k => xguard_und hg hd e (m7 K' k)⟩
  split at hc
  · rename_i t d hal hdst
    split at hc
    · cases hc
      obtain ⟨st0, k1, k2, k3⟩ := mats (js := []) (by simp)
      have hg : o.guard = none := by
        rcases gdOf_ok hG k3 with ⟨hg, _⟩ | ⟨j, w, d, g, _, _, hG0, _⟩
        · exact hg
        · cases hG0
      refine ⟨st0, h, H, (d, lk envX t) :: envX, k1, k2, ha, Stay.refl _ _, Nat.le_refl _, k3.set ((k3 t).lk (by rw [lk_cons, if_pos rfl])), fun K' k => xguard_none hg (alias_ok hal ?_)⟩
      rw [stp_eq, hdst]
      exact k
    · exact real hc
  · exact real hc


/-- The same of operations one behind the other. -/
theorem compL_ok (hC : CallOK P call) (hE : ∀ t y, eqs t = true → tab t = some y → y.eqOK) {ops : Array Oper} {envQ : List (Nat × AV)} : ∀ {l : List Oper} {σ : List (Nat × SV)} {n : Nat} {is : List QI} {σ' : List (Nat × SV)} {n' : Nat},
    compL tab ops l σ n = some (is, σ', n') → ∀ {st : List AV} {envX : List (Nat × AV)} {h : NH} {H : AH} {K : List AV → NH → Option R} {r : R}, st.length = n → Rel σ st envQ envX → HA h H →
    qis tab eqs call is st envQ h K = some r → Came P tab ops (fun s K => xops tab (CallS P) ops l s K) h H K r σ' n' envQ envX
  | [], σ, n, is, σ', n', hc, st, envX, h, H, K, r, hn, hr, ha, hh => by
    cases hc
    exact ⟨st, h, H, envX, hh, hn, ha, Stay.refl _ _, Nat.le_refl _, hr, fun K' k => k⟩
  | o :: l, σ, n, is, σ', n', hc, st, envX, h, H, K, r, hn, hr, ha, hh => by
    unfold compL at hc
    split at hc
    · cases hc
    · rename_i is1 σ1 n1 h1
      split at hc
      · cases hc
      · rename_i js σ2 n2 h2
        cases hc
        rw [qis_append] at hh
        obtain ⟨st1, h1', H1, envX1, a1, a2, a3, a4, a5, a6, a7⟩ := compO_ok hC hE h1 hn hr ha hh
        obtain ⟨st2, h2', H2, envX2, b1, b2, b3, b4, b5, b6, b7⟩ := compL_ok hC hE h2 a2 a6 a3 a1
        exact ⟨st2, h2', H2, envX2, b1, b2, b3, a4.trans b4 b5, Nat.le_trans b5 a5, b6, fun K' k => a7 _ (b7 K' k)⟩

/-! ### What is written at a region's end -/

noncomputable def qwr (ws : List (Nat × Operand)) (st : List AV) (e0 e : List (Nat × AV)) (K : List (Nat × AV) → Option R) : Option R :=
  @List.rec (Nat × Operand) (fun _ => List AV → List (Nat × AV) → List (Nat × AV) → (List (Nat × AV) → Option R) → Option R) (fun _ _ e K => K e)
    (fun p _ go st e0 e K => @Prod.rec Nat Operand (fun _ => Option R) (fun t x => qrd x st e0 fun v => go st e0 ((t, v) :: e) K) p) ws st e0 e K

noncomputable def wr (st : List AV) (e0 : List (Nat × AV)) : List (Nat × Operand) → List (Nat × AV) → List (Nat × AV)
  | [], e => e
  | (t, x) :: r, e => wr st e0 r ((t, qev st e0 x) :: e)

theorem qwr_eq (st : List AV) (e0 : List (Nat × AV)) : ∀ (ws : List (Nat × Operand)) (e : List (Nat × AV)) (K : List (Nat × AV) → Option R), qwr ws st e0 e K = K (wr st e0 ws e)
  | [], e, K => rfl
  | (t, x) :: r, e, K => by
    show qrd x st e0 (fun v => qwr r st e0 ((t, v) :: e) K) = _
    rw [qrd_eq, qwr_eq st e0 r]; rfl

theorem wr_lk {st : List AV} {e0 : List (Nat × AV)} {m : Nat → Operand} : ∀ (ks : List Nat) (e : List (Nat × AV)) (t : Nat),
    lk (wr st e0 (ks.map fun t => (t, m t)) e) t = if t ∈ ks then qev st e0 (m t) else lk e t
  | [], e, t => by simp [wr]
  | k :: r, e, t => by
    simp only [List.map_cons, wr]
    rw [wr_lk r, lk_cons]
    by_cases h1 : t ∈ r
    · simp [h1]
    · by_cases h2 : k = t
      · subst h2; simp [h1]
      · rw [if_neg h1, if_neg h2, if_neg (by simp [h1]; exact fun e => h2 e.symm)]

/-- No dead slot is told. -/
def JO (D : Nat) (env : List (Nat × AV)) : Prop := ∀ t, D.testBit t = true → lk env t = .junk

theorem look_in : ∀ (σ : List (Nat × SV)) (t : Nat), look σ t = .here (.tmp t) ∨ ∃ x, (t, x) ∈ σ
  | [], t => .inl rfl
  | (a, v) :: r, t => by
    rw [look_cons]
    split
    · rename_i e; exact .inr ⟨v, by rw [e]; simp⟩
    · rcases look_in r t with h | ⟨x, h⟩
      · exact .inl h
      · exact .inr ⟨x, by simp [h]⟩

theorem wk_dead : ∀ {D m : Nat} {σ : List (Nat × SV)} {t : Nat}, t ∈ wk D m σ → D.testBit t = false
  | D, m, [], t, h => by simp [wk] at h
  | D, m, (a, v) :: r, t, h => by
    simp only [wk] at h
    split at h
    · exact wk_dead h
    · rename_i hb
      simp only [Bool.or_eq_false_iff] at hb
      rcases List.mem_cons.1 h with e | h
      · rw [e]; exact hb.1
      · exact wk_dead h

theorem weak_sat {O : Org} {c : Cx} {env env' : List (Nat × AV)} {H : AH} {a : Act} {w : World} (h : Sat O c ⟨env, H⟩ a w) (he : ∀ t, lk env' t = lk env t ∨ lk env' t = .junk) : Sat O c ⟨env', H⟩ a w :=
  ⟨fun t => by rcases he t with e | e
               · rw [e]; exact h.env t
               · rw [e]; exact .junk _, h.hs, h.size, h.defers, h.ev, h.below⟩

theorem compR_ok (hC : CallOK P call) (hE : ∀ t y, eqs t = true → tab t = some y → y.eqOK) {D : Nat} {ops : Array Oper} {is : List QI} {ws : List (Nat × Operand)} (hc : compR tab D ops = some (is, ws)) {env : List (Nat × AV)} {h : NH} {H : AH} {K : List (Nat × AV) → NH → Option R} {r : R}
    (ha : HA h H) (hj : JO D env) (hh : (qis tab eqs call is [] env h fun st h => qwr ws st env env fun env => K env h) = some r) :
    ∃ env' h' H' envX, K env' h' = some r ∧ HA h' H' ∧ Stay h'.lo H H' ∧ h'.lo ≤ h.lo ∧ JO D env' ∧ (∀ t, lk env' t = lk envX t ∨ lk env' t = .junk) ∧ ∀ K' : St → Prop, K' ⟨envX, H'⟩ → xops tab (CallS P) ops ops.toList ⟨env, H⟩ K' := by
  unfold compR at hc
  split at hc
  · cases hc
  rename_i is0 σ n h0
  generalize hq : matsL none ((wk D 0 σ).map .tmp) σ n = q at hc
  obtain ⟨js, σ', n'⟩ := q
  simp only at hc
  split at hc
  · cases hc
  rename_i hb
  cases hc
  simp only [Bool.and_eq_true, List.all_eq_true, Bool.or_eq_true, List.contains_iff_mem] at hb
  obtain ⟨hb1, hb2⟩ := hb
  rw [qis_append] at hh
  obtain ⟨st1, h1, H1, envX, a1, a2, a3, a4, a5, a6, a7⟩ := compL_ok hC hE h0 rfl (fun t => ⟨trivial, nlk_eq env t⟩) ha hh
  obtain ⟨st2, b1, b2, b3, _⟩ := mats_ok hq a2 a6 a1
  rw [qwr_eq] at b1
  have hval : ∀ t, t ∈ wk D 0 σ → qev st2 env (mapS σ' none n' (.tmp t)) = lk envX t := fun t ht => by
    rw [← b2]; exact mapS_ok (G := none) b3 trivial (x := .tmp t) (hb1 t ht)
  refine ⟨_, h1, H1, envX, b1, a3, a4, a5, fun t ht => ?_, fun t => ?_, a7⟩
  · rw [wr_lk, if_neg (fun hm => by rw [wk_dead hm] at ht; cases ht)]
    exact hj t ht
  · rw [wr_lk]
    split
    · rename_i hm; exact .inl (hval t hm)
    · rename_i hm
      rcases look_in σ' t with e | ⟨x, hx⟩
      · have := b3 t
        rw [e] at this
        exact .inl ((nlk_eq env t).symm.trans this.2)
      · rcases hb2 _ hx with e | e
        · exact .inr (hj t e)
        · exact (hm e).elim


/-! ### Code -/

inductive QC where
  | skip | ret
  | exit (id : Nat)
  | seq (a b : QC)
  | cond (c : Operand) (a b : QC)
  | block (id : Nat) (a : QC)
  | loop (a : QC)
  | reg (is : List QI) (ws : List (Nat × Operand))
  | old (x : Code)
  | choice (ops : Array Oper) (y : QC)

def comp (tab : Tab) (D : Nat) : Code → QC
  | .skip => .skip
  | .ret => .ret
  | .exit id => .exit id
  | .seq x y => (match choiceOf x with | some ops => .choice ops (comp tab D y) | none => .seq (comp tab D x) (comp tab D y))
  | .cond c x y => (match c with | .global g => .old (.cond (.global g) x y) | c => .cond c (comp tab D x) (comp tab D y))
  | .block id x => .block id (comp tab D x)
  | .loop x => .loop (comp tab D x)
  | .region id ops draw =>
    (match draw with
    | true => .old (.region id ops true)
    | false => (match compR tab D ops with | some (is, ws) => .reg is ws | none => .old (.region id ops false)))
  | x => .old x

abbrev RunN := NS → Option (Ex × NS)

noncomputable def rNormal (s : NS) : Option (Ex × NS) := some (.normal, s)
noncomputable def rRet (s : NS) : Option (Ex × NS) := some (.ret, s)
noncomputable def rExit (id : Nat) (s : NS) : Option (Ex × NS) := some (.exit id, s)
noncomputable def rBind (r : Option (Ex × NS)) (f : RunN) : Option (Ex × NS) :=
  @Option.rec (Ex × NS) (fun _ => RunN → Option (Ex × NS)) (fun _ => none)
    (fun p f => @Prod.rec Ex NS (fun _ => RunN → Option (Ex × NS)) (fun e s f => @Ex.rec (fun _ => NS → RunN → Option (Ex × NS)) (fun s f => f s) (fun i s _ => some (.exit i, s)) (fun s _ => some (.ret, s)) e s f) p f) r f
noncomputable def rSeq (_ _ : QC) (f g : RunN) (s : NS) : Option (Ex × NS) := rBind (f s) g
noncomputable def rCond (c : Operand) (_ _ : QC) (f g : RunN) (s : NS) : Option (Ex × NS) :=
  qrd c [] s.env fun v => aBool v (fun b => @Bool.rec (fun _ => Option (Ex × NS)) (g s) (f s) b) none
noncomputable def rBlock1 (id : Nat) (e : Ex) (s : NS) : Option (Ex × NS) :=
  @Ex.rec (fun _ => Nat → NS → Option (Ex × NS)) (fun _ s => some (.normal, s)) (fun i id s => @Bool.rec (fun _ => Option (Ex × NS)) (some (.exit i, s)) (some (.normal, s)) (Nat.beq i id)) (fun _ s => some (.ret, s)) e id s
noncomputable def rBlock (id : Nat) (_ : QC) (f : RunN) (s : NS) : Option (Ex × NS) :=
  @Option.rec (Ex × NS) (fun _ => Nat → Option (Ex × NS)) (fun _ => none) (fun p id => @Prod.rec Ex NS (fun _ => Option (Ex × NS)) (rBlock1 id) p) (f s) id
noncomputable def rTrim (D : Nat) (s : NS) (f : RunN) : Option (Ex × NS) := fL (ntrim s.env D) fun env => f ⟨env, s.h⟩
noncomputable def rLoopN (D : Nat) (f : RunN) (n : Nat) : RunN :=
  @Nat.rec (fun _ => RunN) (fun _ => none)
    (fun _ go s => rTrim D s fun s =>
      @Option.rec (Ex × NS) (fun _ => RunN → Option (Ex × NS)) (fun _ => none)
        (fun p go => @Prod.rec Ex NS (fun _ => RunN → Option (Ex × NS)) (fun e s go => @Ex.rec (fun _ => NS → RunN → Option (Ex × NS)) (fun s go => go s) (fun i s _ => some (.exit i, s)) (fun s _ => some (.ret, s)) e s go) p go) (f s) go) n
noncomputable def rLoop (D fuel : Nat) (_ : QC) (f : RunN) : RunN := rLoopN D f fuel
noncomputable def rReg (tab : Tab) (eqs : TypeId → Bool) (call : CallN) (is : List QI) (ws : List (Nat × Operand)) (s : NS) : Option (Ex × NS) :=
  @NS.rec (fun _ => Option (Ex × NS)) (fun env h => qis tab eqs call is [] env h fun st h => qwr ws st env env fun env => some (.normal, ⟨env, h⟩)) s
noncomputable def rOld (tab : Tab) (eqs : TypeId → Bool) (call : CallN) (D fuel : Nat) (x : Code) (s : NS) : Option (Ex × NS) :=
  match ncode tab eqs call fuel x s with
  | some (e, s') => fL (ntrim s'.env D) fun env => some (e, ⟨env, s'.h⟩)
  | none => none
noncomputable def rChoice (tab : Tab) (eqs : TypeId → Bool) (call : CallN) (D : Nat) (ops : Array Oper) (_ : QC) (f : RunN) (s : NS) : Option (Ex × NS) :=
  match drawOK ops (masks ops) (chOrd ops (masks ops)) [] [] with
  | false => none
  | true =>
    match nchoose tab eqs call ops ⟨s.env, ⟨s.h.hp, s.h.len, s.h.len⟩⟩ with
    | none => none
    | some (s1, s2) =>
      match rTrim D s1 f, rTrim D s2 f with
      | some (.normal, s1'), some (.normal, s2') => (match njoin s.env s.h.lo s.h.len s1' s2' with | some s' => rTrim D s' rNormal | none => none)
      | _, _ => none

noncomputable def qrun (tab : Tab) (eqs : TypeId → Bool) (call : CallN) (D fuel : Nat) : QC → RunN :=
  @QC.rec (fun _ => RunN) rNormal rRet rExit rSeq rCond rBlock (rLoop D fuel) (rReg tab eqs call) (rOld tab eqs call D fuel) (rChoice tab eqs call D)

theorem ntrim_lk2 : ∀ (env : List (Nat × AV)) (m t : Nat), m.testBit t = true → lk (ntrim env m) t = .junk
  | [], m, t, h => rfl
  | (d, v) :: r, m, t, h => by
    show lk (@Bool.rec (fun _ => List (Nat × AV)) ((d, v) :: ntrim r (Nat.lor m (Nat.shiftLeft 1 d))) (ntrim r m) (tbit m d)) t = _
    rw [tbit_eq]
    cases hm : Nat.testBit m d with
    | true => exact ntrim_lk2 r m t h
    | false =>
      show lk ((d, v) :: ntrim r (Nat.lor m (Nat.shiftLeft 1 d))) t = _
      rw [lk_cons, if_neg (fun e => by rw [e, h] at hm; cases hm)]
      refine ntrim_lk2 r _ t ?_
      show (m ||| 1 <<< d).testBit t = true
      rw [Nat.testBit_or, h]; rfl

theorem ntrim_weak (env : List (Nat × AV)) (D t : Nat) : lk (ntrim env D) t = lk env t ∨ lk (ntrim env D) t = .junk := by
  cases h : D.testBit t with
  | true => exact .inr (ntrim_lk2 env D t h)
  | false => exact .inl (ntrim_lk env D t h)

theorem ntrim_JO (env : List (Nat × AV)) (D : Nat) : JO D (ntrim env D) := fun t h => ntrim_lk2 env D t h

/-- What a piece of code says, its dead slots not told. -/
structure DidQ (P : Program) (D : Nat) (x : Code) (s : NS) (H : AH) (e : Ex) (s' : NS) (H' : AH) : Prop where
  did : Did P x s.h s.env H e s' H'
  jo : JO D s'.env

theorem Did.weak {x : Code} {h : NH} {env env' : List (Nat × AV)} {H H' : AH} {e : Ex} {s' : NS} (d : Did P x h env' H e s' H') (hw : ∀ t, lk env' t = lk env t ∨ lk env' t = .junk) : Did P x h env H e s' H' :=
  ⟨d.ha, d.stay, d.lo, fun {O c a w R} hsl hs hR => d.wp hsl (weak_sat hs hw) hR⟩

theorem rBind_some {r : Option (Ex × NS)} {f : RunN} {q : Ex × NS} (h : rBind r f = some q) : (∃ s, r = some (.normal, s) ∧ f s = some q) ∨ (∃ e s, r = some (e, s) ∧ e ≠ .normal ∧ q = (e, s)) := by
  rcases r with _ | ⟨_ | i | _, s⟩
  · cases h
  · exact .inl ⟨s, rfl, h⟩
  · cases h; exact .inr ⟨_, _, rfl, by simp, rfl⟩
  · cases h; exact .inr ⟨_, _, rfl, by simp, rfl⟩

theorem rTrim_eq (D : Nat) (s : NS) (f : RunN) : rTrim D s f = f ⟨ntrim s.env D, s.h⟩ := by unfold rTrim; rw [fL_eq]

/-- The same of a loop's rounds. -/
theorem rLoop_ok {D : Nat} {x : Code} {f : RunN} (hf : ∀ {s : NS} {H : AH} {e : Ex} {s' : NS}, f s = some (e, s') → HA s.h H → JO D s.env → ∃ H', DidQ P D x s H e s' H') :
    ∀ {n : Nat} {s : NS} {H : AH} {e : Ex} {s' : NS}, rLoopN D f n s = some (e, s') → HA s.h H → ∃ H', DidL P x s.h s.env H e s' H' ∧ JO D s'.env
  | 0, s, H, e, s', hh, ha => by cases hh
  | n + 1, s, H, e, s', hh, ha => by
    have hh : rTrim D s (fun s => rBind (f s) (rLoopN D f n)) = some (e, s') := hh
    rw [rTrim_eq] at hh
    rcases rBind_some hh with ⟨s1, h1, h2⟩ | ⟨e1, s1, h1, hne, hq⟩
    · obtain ⟨H1, d1⟩ := hf h1 ha (ntrim_JO _ _)
      have d1' := d1.did.weak (env := s.env) (ntrim_weak s.env D)
      obtain ⟨H2, d2, j2⟩ := rLoop_ok hf h2 d1.did.ha
      refine ⟨H2, ⟨d2.ha, d1'.stay.trans d2.stay d2.lo, Nat.le_trans d2.lo d1'.lo, fun {O c a w R} hsl hs hR => LoopWP.round ?_⟩, j2⟩
      exact d1'.wp (R := Exit.then (LoopWP P x R) R) hsl hs fun c' a' w' hs' => d2.wp hsl hs' hR
    · cases hq
      obtain ⟨H1, d1⟩ := hf h1 ha (ntrim_JO _ _)
      have d1' := d1.did.weak (env := s.env) (ntrim_weak s.env D)
      refine ⟨H1, ⟨d1'.ha, d1'.stay, d1'.lo, fun {O c a w R} hsl hs hR => LoopWP.round ?_⟩, d1.jo⟩
      refine d1'.wp (R := Exit.then (LoopWP P x R) R) hsl hs fun c' a' w' hs' => ?_
      cases e with
      | normal => exact (hne rfl).elim
      | exit i => exact hR c' a' w' hs'
      | ret => exact hR c' a' w' hs'

theorem old_ok (hT : TabOK P tab) (hm : P.follows .mixedOrders = true) (hC : CallOK P call) (hE : ∀ t y, eqs t = true → tab t = some y → y.eqOK) {D fuel : Nat} {x : Code} {s : NS} {H : AH} {e : Ex} {s' : NS}
    (hh : rOld tab eqs call D fuel x s = some (e, s')) (ha : HA s.h H) : ∃ H', DidQ P D x s H e s' H' := by
  unfold rOld at hh
  split at hh
  · rename_i e1 s1 h1
    rw [fL_eq] at hh
    cases hh
    obtain ⟨H1, d1⟩ := ncode_ok hT hm hC hE h1 ha
    exact ⟨H1, ⟨d1.ha, d1.stay, d1.lo, fun {O c a w R} hsl hs hR => d1.wp hsl hs fun c' a' w' hs' => hR c' a' w' (weak_sat hs' (ntrim_weak s1.env D))⟩, ntrim_JO _ _⟩
  · cases hh

theorem qev_opd {env : List (Nat × AV)} {x : Operand} (h : ∀ g, x ≠ .global g) : qev [] env x = opd env x := by
  cases x with
  | global g => exact (h g rfl).elim
  | tmp t => exact nlk_eq env t
  | _ => rfl

theorem rcond_ok (hT : TabOK P tab) (hm : P.follows .mixedOrders = true) (hC : CallOK P call) (hE : ∀ t y, eqs t = true → tab t = some y → y.eqOK) {D fuel : Nat} {o : Operand} (ho : ∀ g, o ≠ .global g) {x y : Code} {f g : RunN}
    (ihx : ∀ {s : NS} {H : AH} {e : Ex} {s' : NS}, f s = some (e, s') → HA s.h H → JO D s.env → ∃ H', DidQ P D x s H e s' H')
    (ihy : ∀ {s : NS} {H : AH} {e : Ex} {s' : NS}, g s = some (e, s') → HA s.h H → JO D s.env → ∃ H', DidQ P D y s H e s' H') {qx qy : QC}
    {s : NS} {H : AH} {e : Ex} {s' : NS} (hh : rCond o qx qy f g s = some (e, s')) (ha : HA s.h H) (hj : JO D s.env) : ∃ H', DidQ P D (.cond o x y) s H e s' H' := by
  unfold rCond at hh
  rw [qrd_eq, qev_opd ho] at hh
  rcases aBool_cases (opd s.env o) (fun b => @Bool.rec (fun _ => Option (Ex × NS)) (g s) (f s) b) none with ⟨b, hb, e1⟩ | ⟨_, e1⟩
  · rw [e1] at hh
    cases b with
    | true =>
      obtain ⟨H1, d1⟩ := ihx hh ha hj
      refine ⟨H1, ⟨d1.did.ha, d1.did.stay, d1.did.lo, fun {O c a w R} hsl hs hR => ?_⟩, d1.jo⟩
      simp only [slotsOK, Bool.and_eq_true] at hsl
      have hra := opd_ok hs.env o
      rw [hb] at hra
      exact wp_cond hra.bool (d1.did.wp hsl.1 hs hR)
    | false =>
      obtain ⟨H1, d1⟩ := ihy hh ha hj
      refine ⟨H1, ⟨d1.did.ha, d1.did.stay, d1.did.lo, fun {O c a w R} hsl hs hR => ?_⟩, d1.jo⟩
      simp only [slotsOK, Bool.and_eq_true] at hsl
      have hra := opd_ok hs.env o
      rw [hb] at hra
      exact wp_cond hra.bool (d1.did.wp hsl.2 hs hR)
  · rw [e1] at hh; cases hh

theorem qrun_ok (hT : TabOK P tab) (hm : P.follows .mixedOrders = true) (hC : CallOK P call) (hE : ∀ t y, eqs t = true → tab t = some y → y.eqOK) {D fuel : Nat} : ∀ {x : Code} {s : NS} {H : AH} {e : Ex} {s' : NS},
    qrun tab eqs call D fuel (comp tab D x) s = some (e, s') → HA s.h H → JO D s.env → ∃ H', DidQ P D x s H e s' H' := by
  intro x
  induction x with
  | skip =>
    intro s H e s' hh ha hj
    cases hh
    exact ⟨H, ⟨ha, Stay.refl _ _, Nat.le_refl _, fun {O c a w R} _ hs hR => wp_skip (hR c a w hs)⟩, hj⟩
  | exit id =>
    intro s H e s' hh ha hj
    cases hh
    exact ⟨H, ⟨ha, Stay.refl _ _, Nat.le_refl _, fun {O c a w R} _ hs hR => wp_exit (hR c a w hs)⟩, hj⟩
  | ret =>
    intro s H e s' hh ha hj
    cases hh
    exact ⟨H, ⟨ha, Stay.refl _ _, Nat.le_refl _, fun {O c a w R} _ hs hR => wp_ret (hR c a w hs)⟩, hj⟩
  | seq x y ihx ihy =>
    intro s H e s' hh ha hj
    unfold comp at hh
    split at hh
    · rename_i ops hx
      obtain ⟨id, rfl⟩ := choiceOf_spec hx
      have hh : rChoice tab eqs call D ops (comp tab D y) (qrun tab eqs call D fuel (comp tab D y)) s = some (e, s') := hh
      unfold rChoice at hh
      split at hh
      · cases hh
      rename_i hdo
      split at hh
      · cases hh
      rename_i s1 s2 hch
      split at hh
      case h_2 => cases hh
      rename_i s1' s2' h1 h2
      split at hh
      case h_2 => cases hh
      rename_i sj hj2
      rw [rTrim_eq] at hh h1 h2
      cases hh
      have hlen := ha.len
      obtain ⟨H1, H2, ⟨a1, t1, o1⟩, ⟨a2, t2, o2⟩, hx⟩ := nchoose_ok hC hE hch (H := H) ⟨ha.len, ha.get⟩
      obtain ⟨H1', q1⟩ := ihy h1 a1 (ntrim_JO _ _)
      obtain ⟨H2', q2⟩ := ihy h2 a2 (ntrim_JO _ _)
      have d1 := q1.did.weak (env := s1.env) (ntrim_weak s1.env D)
      have d2 := q2.did.weak (env := s2.env) (ntrim_weak s2.env D)
      have e1 := d1.lo
      have e2 := d2.lo
      simp only at o1 o2 e1 e2
      obtain ⟨H', j1, j2, j3, j4, j5⟩ := njoin_ok hj2 d1.ha d2.ha (t1.trans d1.stay d1.lo) (t2.trans d2.stay d2.lo) (by omega) (by omega)
      refine ⟨H', ⟨j1, j2, j3, fun {O c a w R} hsl hs hR => ?_⟩, ntrim_JO _ _⟩
      simp only [slotsOK, Bool.and_eq_true] at hsl
      refine wp_seq (regD_ok hT hm (regD_intro (dOf ops _ fun _ => []) (chOrd ops (masks ops)) hdo (hx (fun q => q = ⟨s1.env, H1⟩ ∨ q = ⟨s2.env, H2⟩) (.inl rfl) (.inr rfl))) hsl.1 hs fun q c' a' w' hs' hq => ?_)
      rcases hq with rfl | rfl
      · exact d1.wp hsl.2 hs' fun c'' a'' w'' h'' => hR c'' a'' w'' (weak_sat (j4 h'') (ntrim_weak _ _))
      · exact d2.wp hsl.2 hs' fun c'' a'' w'' h'' => hR c'' a'' w'' (weak_sat (j5 h'') (ntrim_weak _ _))
    · have hh : rBind (qrun tab eqs call D fuel (comp tab D x) s) (qrun tab eqs call D fuel (comp tab D y)) = some (e, s') := hh
      rcases rBind_some hh with ⟨s1, h1, h2⟩ | ⟨e1, s1, h1, hne, hq⟩
      · obtain ⟨H1, d1⟩ := ihx h1 ha hj
        obtain ⟨H2, d2⟩ := ihy h2 d1.did.ha d1.jo
        refine ⟨H2, ⟨d2.did.ha, d1.did.stay.trans d2.did.stay d2.did.lo, Nat.le_trans d2.did.lo d1.did.lo, fun {O c a w R} hsl hs hR => ?_⟩, d2.jo⟩
        simp only [slotsOK, Bool.and_eq_true] at hsl
        exact wp_seq (d1.did.wp hsl.1 hs fun c' a' w' hs' => d2.did.wp hsl.2 hs' hR)
      · cases hq
        obtain ⟨H1, d1⟩ := ihx h1 ha hj
        refine ⟨H1, ⟨d1.did.ha, d1.did.stay, d1.did.lo, fun {O c a w R} hsl hs hR => ?_⟩, d1.jo⟩
        simp only [slotsOK, Bool.and_eq_true] at hsl
        refine wp_seq (d1.did.wp hsl.1 hs fun c' a' w' hs' => ?_)
        cases e with
        | normal => exact (hne rfl).elim
        | exit i => exact hR c' a' w' hs'
        | ret => exact hR c' a' w' hs'
  | cond o x y ihx ihy =>
    intro s H e s' hh ha hj
    cases o with
    | global g => exact old_ok (fuel := fuel) hT hm hC hE hh ha
    | tmp t => exact rcond_ok hT hm hC hE (fuel := fuel) (qx := comp tab D x) (qy := comp tab D y) (by simp) (fun h1 h2 h3 => ihx h1 h2 h3) (fun h1 h2 h3 => ihy h1 h2 h3) hh ha hj
    | const v => exact rcond_ok hT hm hC hE (fuel := fuel) (qx := comp tab D x) (qy := comp tab D y) (by simp) (fun h1 h2 h3 => ihx h1 h2 h3) (fun h1 h2 h3 => ihy h1 h2 h3) hh ha hj
    | func f => exact rcond_ok hT hm hC hE (fuel := fuel) (qx := comp tab D x) (qy := comp tab D y) (by simp) (fun h1 h2 h3 => ihx h1 h2 h3) (fun h1 h2 h3 => ihy h1 h2 h3) hh ha hj
  | block id x ih =>
    intro s H e s' hh ha hj
    have hh : @Option.rec (Ex × NS) (fun _ => Nat → Option (Ex × NS)) (fun _ => none) (fun p id => @Prod.rec Ex NS (fun _ => Option (Ex × NS)) (rBlock1 id) p) (qrun tab eqs call D fuel (comp tab D x) s) id = some (e, s') := hh
    generalize hr : qrun tab eqs call D fuel (comp tab D x) s = r at hh
    rcases r with _ | ⟨_ | i | _, s1⟩
    · cases hh
    · cases hh
      obtain ⟨H1, d1⟩ := ih hr ha hj
      exact ⟨H1, ⟨d1.did.ha, d1.did.stay, d1.did.lo, fun {O c a w R} hsl hs hR => wp_block (d1.did.wp hsl hs fun c' a' w' hs' => hR c' a' w' hs')⟩, d1.jo⟩
    · obtain ⟨H1, d1⟩ := ih hr ha hj
      have hh : @Bool.rec (fun _ => Option (Ex × NS)) (some (.exit i, s1)) (some (.normal, s1)) (Nat.beq i id) = some (e, s') := hh
      cases hb : Nat.beq i id with
      | true =>
        rw [hb] at hh
        cases hh
        refine ⟨H1, ⟨d1.did.ha, d1.did.stay, d1.did.lo, fun {O c a w R} hsl hs hR => wp_block (d1.did.wp hsl hs fun c' a' w' hs' => ?_)⟩, d1.jo⟩
        simp only [Ex.out, Exit.inBlock]
        rw [if_pos (Nat.eq_of_beq_eq_true hb)]
        exact hR c' a' w' hs'
      | false =>
        rw [hb] at hh
        cases hh
        refine ⟨H1, ⟨d1.did.ha, d1.did.stay, d1.did.lo, fun {O c a w R} hsl hs hR => wp_block (d1.did.wp hsl hs fun c' a' w' hs' => ?_)⟩, d1.jo⟩
        simp only [Ex.out, Exit.inBlock]
        rw [if_neg (fun e => by subst e; simp at hb)]
        exact hR c' a' w' hs'
    · cases hh
      obtain ⟨H1, d1⟩ := ih hr ha hj
      exact ⟨H1, ⟨d1.did.ha, d1.did.stay, d1.did.lo, fun {O c a w R} hsl hs hR => wp_block (d1.did.wp hsl hs fun c' a' w' hs' => hR c' a' w' hs')⟩, d1.jo⟩
  | loop x ih =>
    intro s H e s' hh ha hj
    have hh : rLoopN D (qrun tab eqs call D fuel (comp tab D x)) fuel s = some (e, s') := hh
    obtain ⟨H1, d1, j1⟩ := rLoop_ok (P := P) (x := x) (fun h1 h2 h3 => ih h1 h2 h3) hh ha
    exact ⟨H1, ⟨d1.ha, d1.stay, d1.lo, fun {O c a w R} hsl hs hR => LoopWP.wp (d1.wp hsl hs hR)⟩, j1⟩
  | region id ops draw =>
    intro s H e s' hh ha hj
    cases draw with
    | true => exact old_ok (fuel := fuel) hT hm hC hE hh ha
    | false =>
      simp only [comp] at hh
      cases hc : compR tab D ops with
      | none => rw [hc] at hh; exact old_ok (fuel := fuel) hT hm hC hE hh ha
      | some p =>
        obtain ⟨is, ws⟩ := p
        rw [hc] at hh
        obtain ⟨env, h⟩ := s
        have hh : (qis tab eqs call is [] env h fun st h => qwr ws st env env fun env => some (Ex.normal, (⟨env, h⟩ : NS))) = some (e, s') := hh
        obtain ⟨env', h', H', envX, k1, k2, k3, k4, k5, k6, k7⟩ := compR_ok (R := Ex × NS) (K := fun env h => some (Ex.normal, (⟨env, h⟩ : NS))) hC hE hc ha hj hh
        cases k1
        refine ⟨H', ⟨k2, k3, k4, fun {O c a w R} hsl hs hR => wp_region_list (xops_ok hT (k7 (fun q => q = ⟨envX, H'⟩) rfl) hsl hs fun q c' a' w' hs' hq => ?_)⟩, k5⟩
        subst hq
        exact hR c' a' w' (weak_sat hs' k6)
  | _ => intro s H e s' hh ha hj; exact old_ok (fuel := fuel) hT hm hC hE hh ha

end
end Go.Proofs.YthpkehhghcpolaaDoor
