/-
  A codec's patterns: what is known when some of a form's bits are read (plain law); how long a form is.
-/
import Derived.Test.YtnjmeadmkbkikaaGreatDoorHo
namespace Go.Proofs.YtnjmeadmkbkikaaGreatDoor
open Go.IntWalk
set_option maxRecDepth 100000
set_option linter.unusedVariables false
set_option linter.unusedSimpArgs false
set_option maxHeartbeats 1000000

def ord_21_3 : Ord := (.op 0 [] (.op 1 [] (.op 2 [1, 0] (.op 3 [1, 0] (.op 4 [3, 2, 1, 0] (.op 5 [1, 0] (.op 6 [1, 0] (.op 7 [] (.op 8 [] (.op 9 [] (.op 10 [] .nil)))))))))))

theorem size_runs (d : DescD) (hd : d.ok) (i : Nat) (f : FormD) (hi : d.forms[i]? = some f) (hs : sumL f.pieces ≤ 2000000000000) (hG : GoodF d f) : Runs Tryz.prog 21 [descT d, .int .i64 i] (.t (.int .i64 (((rawB f.pieces).length / 8 : Nat) : Int))) := by
  have hf : f.ok := hd.2.2.2.2.2.2.2.2.2.2.2.1 f (List.mem_of_getElem? hi)
  have hil := (List.getElem?_eq_some_iff.1 hi).1
  have hle := hG.le
  refine Runs.of_call ?_ rfl
  refine CallS.of_fn tabS_ok regS_ok Tryz.func21 rfl rfl ?_
  refine CallS.pure (among_runs _ _) rfl ?_
  refine br_intro (fun c => ?_) (fun _ => ?_)
  · exact absurd ⟨by omega, by omega⟩ (am0 (nb' c))
  refine draw_introS ord_21_3 (by decide +kernel) ?_
  refine opt_intro (show (d.forms.map formT)[((i : Nat) : Int).toNat]? = some (formT f) from by rw [Int.toNat_natCast, List.getElem?_map, hi]; rfl) ?_
  refine CallS.frzX (bits_runs d f hd hf hs) rfl ⟨.refl _, .refl _, trivial⟩ ?_
  rintro _ (⟨rfl, hn⟩ | ⟨R, rfl, _, hP⟩)
  · exact absurd hG hn
  refine And.intro (fun j hj => by first | (cases hj; done) | exact LeX.append _ _ _ | exact LeX.refl _ _) ?_
  have hl : (R.map bitT).length = (rawB f.pieces).length := by rw [List.length_map, hP.1]
  refine ck_intro rfl ?_
  refine st_intro (n := (((rawB f.pieces).length / 8 : Nat) : Int)) (show IntKind.i64.wrap ((((R.map bitT).length : Nat) : Int).tdiv 8) = _ from by rw [hl, Int.tdiv_eq_ediv_of_nonneg (by omega), IntKind.wrap_i64]; omega) ?_
  refine And.intro (fun j hj => by first | (cases hj; done) | exact LeX.append _ _ _ | exact LeX.refl _ _) ?_
  exact And.intro rfl rfl

/-- Literals, and ones among them, of the first w bits that are written, at their places. -/
def litW (L : List BitD) (o : Int) (w p : Nat) : Bool := match L[posN o L.length p]? with | some y => decide (p < L.length ∧ posN o L.length p < w) && decide (y.arg < 0 ∧ y.lit ≠ 120) | none => false
def oneW (L : List BitD) (o : Int) (w p : Nat) : Bool := match L[posN o L.length p]? with | some y => decide (p < L.length ∧ posN o L.length p < w) && (decide (y.arg < 0 ∧ y.lit ≠ 120) && decide (y.lit = 49)) | none => false
theorem litW_zero (L : List BitD) (o : Int) (p : Nat) : litW L o 0 p = false := by unfold litW; cases L[posN o L.length p]? <;> simp
theorem oneW_zero (L : List BitD) (o : Int) (p : Nat) : oneW L o 0 p = false := by unfold oneW; cases L[posN o L.length p]? <;> simp
theorem posN_eq {o : Int} {n w p : Nat} (h8 : n % 8 = 0) (hw : w < n) : (p < n ∧ posN o n p = w) ↔ posN o n w = p := by
  constructor
  · rintro ⟨h1, h2⟩; rw [← h2]; exact posN_posN h1
  · intro h
    have := posN_lt (o := o) hw h8
    exact ⟨by omega, by rw [← h]; exact posN_posN hw⟩
theorem litW_succ {L : List BitD} {o : Int} {w : Nat} {x : BitD} (h8 : L.length % 8 = 0) (hx : L[w]? = some x) (p : Nat) : litW L o (w + 1) p = (litW L o w p || (decide (x.arg < 0 ∧ x.lit ≠ 120) && decide (posN o L.length w = p))) := by
  have hw := (List.getElem?_eq_some_iff.1 hx).1
  have e := posN_eq (o := o) (p := p) h8 hw
  unfold litW
  by_cases h : posN o L.length w = p
  · obtain ⟨h1, h2⟩ := e.2 h
    rw [h2, hx]
    simp [h, h1]
  · cases hL : L[posN o L.length p]? with
    | none => simp [h]
    | some y =>
      have : (p < L.length ∧ posN o L.length p < w + 1) ↔ (p < L.length ∧ posN o L.length p < w) := by
        constructor
        · rintro ⟨h1, h2⟩; exact ⟨h1, by have : posN o L.length p ≠ w := fun e2 => h (e.1 ⟨h1, e2⟩); omega⟩
        · rintro ⟨h1, h2⟩; exact ⟨h1, by omega⟩
      simp [h, this]
theorem oneW_succ {L : List BitD} {o : Int} {w : Nat} {x : BitD} (h8 : L.length % 8 = 0) (hx : L[w]? = some x) (p : Nat) : oneW L o (w + 1) p = (oneW L o w p || ((decide (x.arg < 0 ∧ x.lit ≠ 120) && decide (x.lit = 49)) && decide (posN o L.length w = p))) := by
  have hw := (List.getElem?_eq_some_iff.1 hx).1
  have e := posN_eq (o := o) (p := p) h8 hw
  unfold oneW
  by_cases h : posN o L.length w = p
  · obtain ⟨h1, h2⟩ := e.2 h
    rw [h2, hx]
    simp [h, h1]
  · cases hL : L[posN o L.length p]? with
    | none => simp [h]
    | some y =>
      have : (p < L.length ∧ posN o L.length p < w + 1) ↔ (p < L.length ∧ posN o L.length p < w) := by
        constructor
        · rintro ⟨h1, h2⟩; exact ⟨h1, by have : posN o L.length p ≠ w := fun e2 => h (e.1 ⟨h1, e2⟩); omega⟩
        · rintro ⟨h1, h2⟩; exact ⟨h1, by omega⟩
      simp [h, this]

/-- What is known when w bits are read. -/
structure MInv (d : DescD) (f : FormD) (L : List BitD) (w m0 m1 w0 w1 : Nat) (lz : Bool) (C : List (List Int)) : Prop where
  le : w ≤ L.length
  mask : Bits2 m0 m1 (litW L d.order w)
  want : Bits2 w0 w1 (oneW L d.order w)
  loose : lz = true ↔ ∃ s y, s < w ∧ L[s]? = some y ∧ y.lit = 120
  len : C.length = f.args.length
  rows : ∀ (j : Nat) a k c, f.args[j]? = some a → at? d.classes a.cls = some k → C[j]? = some c → c.length = k.bits.toNat ∧ ∀ s y (m : Nat), s < w → L[s]? = some y → y.arg = (j : Int) → y.num = (m : Int) → c[m]? = some ((posN d.order L.length s : Nat) : Int)

theorem Bits2.setw {m0 m1 p : Nat} {P : Nat → Bool} (h : Bits2 m0 m1 P) : (p < 64 → Bits2 (m0 ||| 2 ^ p) m1 (fun q => P q || decide (p = q))) ∧ (∀ k, p = 64 + k → k < 64 → Bits2 m0 (m1 ||| 2 ^ k) (fun q => P q || decide (p = q))) :=
  ⟨fun hp => h.set0 hp, fun k hk hk2 => by subst hk; exact h.set1 hk2⟩

section
variable {d : DescD} {f : FormD} {L : List BitD} {w m0 m1 w0 w1 : Nat} {lz : Bool} {C : List (List Int)} {x : BitD}
theorem MInv.noOp (h : MInv d f L w m0 m1 w0 w1 lz C) (hx : L[w]? = some x) (hn : x.arg < 0) : ∀ (j : Nat) a k c, f.args[j]? = some a → at? d.classes a.cls = some k → C[j]? = some c → c.length = k.bits.toNat ∧ ∀ s y (m : Nat), s < w + 1 → L[s]? = some y → y.arg = (j : Int) → y.num = (m : Int) → c[m]? = some ((posN d.order L.length s : Nat) : Int) := fun j a k c h1 h2 h3 =>
  ⟨(h.rows j a k c h1 h2 h3).1, fun s y m hs hy ha hm => by
    by_cases e : s = w
    · subst e
      rw [hx] at hy; cases hy
      omega
    · exact (h.rows j a k c h1 h2 h3).2 s y m (by omega) hy ha hm⟩
theorem MInv.looseSame (h : MInv d f L w m0 m1 w0 w1 lz C) (hx : L[w]? = some x) (hn : ¬ x.lit = 120) : lz = true ↔ ∃ s y, s < w + 1 ∧ L[s]? = some y ∧ y.lit = 120 := by
  rw [h.loose]
  constructor
  · rintro ⟨s, y, h1, h2⟩; exact ⟨s, y, by omega, h2⟩
  · rintro ⟨s, y, h1, h2, h3⟩
    by_cases e : s = w
    · subst e
      rw [hx] at h2; cases h2
      exact absurd h3 hn
    · exact ⟨s, y, by omega, h2, h3⟩
/-- A one. -/
theorem MInv.one (h : MInv d f L w m0 m1 w0 w1 lz C) (h8 : L.length % 8 = 0) (hx : L[w]? = some x) (ha : x.arg < 0) (hl : x.lit = 49) : (posN d.order L.length w < 64 → MInv d f L (w + 1) (m0 ||| 2 ^ posN d.order L.length w) m1 (w0 ||| 2 ^ posN d.order L.length w) w1 lz C) ∧
    (∀ k, posN d.order L.length w = 64 + k → k < 64 → MInv d f L (w + 1) m0 (m1 ||| 2 ^ k) w0 (w1 ||| 2 ^ k) lz C) := by
  have hlit : x.arg < 0 ∧ x.lit ≠ 120 := ⟨ha, by omega⟩
  have e1 : ∀ p, p < 128 → (litW L d.order w p || decide (posN d.order L.length w = p)) = litW L d.order (w + 1) p := fun p _ => by rw [litW_succ h8 hx, decide_eq_true hlit]; simp
  have e2 : ∀ p, p < 128 → (oneW L d.order w p || decide (posN d.order L.length w = p)) = oneW L d.order (w + 1) p := fun p _ => by rw [oneW_succ h8 hx, decide_eq_true hlit, decide_eq_true hl]; simp
  have hw := (List.getElem?_eq_some_iff.1 hx).1
  exact ⟨fun hp => ⟨hw, (h.mask.setw.1 hp).congr e1, (h.want.setw.1 hp).congr e2, h.looseSame hx (by omega), h.len, h.noOp hx ha⟩,
    fun k hk hk2 => ⟨hw, (h.mask.setw.2 k hk hk2).congr e1, (h.want.setw.2 k hk hk2).congr e2, h.looseSame hx (by omega), h.len, h.noOp hx ha⟩⟩
/-- A zero. -/
theorem MInv.zero (h : MInv d f L w m0 m1 w0 w1 lz C) (h8 : L.length % 8 = 0) (hx : L[w]? = some x) (ha : x.arg < 0) (hl : x.lit = 48) : (posN d.order L.length w < 64 → MInv d f L (w + 1) (m0 ||| 2 ^ posN d.order L.length w) m1 w0 w1 lz C) ∧
    (∀ k, posN d.order L.length w = 64 + k → k < 64 → MInv d f L (w + 1) m0 (m1 ||| 2 ^ k) w0 w1 lz C) := by
  have hlit : x.arg < 0 ∧ x.lit ≠ 120 := ⟨ha, by omega⟩
  have h49 : ¬ x.lit = 49 := by omega
  have e1 : ∀ p, p < 128 → (litW L d.order w p || decide (posN d.order L.length w = p)) = litW L d.order (w + 1) p := fun p _ => by rw [litW_succ h8 hx, decide_eq_true hlit]; simp
  have e2 : ∀ p, p < 128 → oneW L d.order w p = oneW L d.order (w + 1) p := fun p _ => by rw [oneW_succ h8 hx, decide_eq_false h49]; simp
  have hw := (List.getElem?_eq_some_iff.1 hx).1
  exact ⟨fun hp => ⟨hw, (h.mask.setw.1 hp).congr e1, h.want.congr e2, h.looseSame hx (by omega), h.len, h.noOp hx ha⟩,
    fun k hk hk2 => ⟨hw, (h.mask.setw.2 k hk hk2).congr e1, h.want.congr e2, h.looseSame hx (by omega), h.len, h.noOp hx ha⟩⟩
/-- A bit that doesn't count. -/
theorem MInv.free (h : MInv d f L w m0 m1 w0 w1 lz C) (h8 : L.length % 8 = 0) (hx : L[w]? = some x) (ha : x.arg < 0) (hl : x.lit = 120) : MInv d f L (w + 1) m0 m1 w0 w1 true C := by
  have hlit : ¬ (x.arg < 0 ∧ x.lit ≠ 120) := fun e => e.2 hl
  have e1 : ∀ p, p < 128 → litW L d.order w p = litW L d.order (w + 1) p := fun p _ => by rw [litW_succ h8 hx, decide_eq_false hlit]; simp
  have e2 : ∀ p, p < 128 → oneW L d.order w p = oneW L d.order (w + 1) p := fun p _ => by rw [oneW_succ h8 hx, decide_eq_false hlit]; simp
  have hw := (List.getElem?_eq_some_iff.1 hx).1
  exact ⟨hw, h.mask.congr e1, h.want.congr e2, ⟨fun _ => ⟨w, x, Nat.lt_succ_self w, hx, hl⟩, fun _ => rfl⟩, h.len, h.noOp hx ha⟩
/-- An operand's bit. -/
theorem MInv.op (h : MInv d f L w m0 m1 w0 w1 lz C) (hD : Dist L) (h8 : L.length % 8 = 0) (hx : L[w]? = some x) {j m : Nat} {c : List Int} (ha : x.arg = (j : Int)) (hm : x.num = (m : Int)) (h0 : x.lit = 0) (hc : C[j]? = some c) (hml : m < c.length) : MInv d f L (w + 1) m0 m1 w0 w1 lz (C.set j (c.set m ((posN d.order L.length w : Nat) : Int))) := by
  have hlit : ¬ (x.arg < 0 ∧ x.lit ≠ 120) := fun e => by omega
  have e1 : ∀ p, p < 128 → litW L d.order w p = litW L d.order (w + 1) p := fun p _ => by rw [litW_succ h8 hx, decide_eq_false hlit]; simp
  have e2 : ∀ p, p < 128 → oneW L d.order w p = oneW L d.order (w + 1) p := fun p _ => by rw [oneW_succ h8 hx, decide_eq_false hlit]; simp
  have hw := (List.getElem?_eq_some_iff.1 hx).1
  refine ⟨hw, h.mask.congr e1, h.want.congr e2, h.looseSame hx (by omega), by rw [List.length_set]; exact h.len, fun j' a k c' h1 h2 h3 => ?_⟩
  rw [List.getElem?_set] at h3
  split at h3
  · next e =>
    subst e
    split at h3
    · cases h3
      refine ⟨by rw [List.length_set]; exact (h.rows j a k c h1 h2 hc).1, fun s y m' hs hy hya hym => ?_⟩
      rw [List.getElem?_set]
      by_cases es : s = w
      · subst es
        rw [hx] at hy; cases hy
        have : m = m' := by omega
        rw [if_pos this, if_pos hml]
      · have hne : ¬ m = m' := fun e => by
          have hsl := (List.getElem?_eq_some_iff.1 hy).1
          have hp := List.pairwise_iff_getElem.1 hD s w hsl hw (by omega)
          rw [(List.getElem?_eq_some_iff.1 hy).2, (List.getElem?_eq_some_iff.1 hx).2] at hp
          exact hp (by omega) ⟨by omega, by omega⟩
        rw [if_neg hne]
        exact (h.rows j a k c h1 h2 hc).2 s y m' (by omega) hy hya hym
    · cases h3
  · next e =>
    refine ⟨(h.rows j' a k c' h1 h2 h3).1, fun s y m' hs hy hya hym => ?_⟩
    by_cases es : s = w
    · subst es
      rw [hx] at hy; cases hy
      omega
    · exact (h.rows j' a k c' h1 h2 h3).2 s y m' (by omega) hy hya hym
theorem MInv.start (hC : C.length = f.args.length) (hz : ∀ (j : Nat) a k c, f.args[j]? = some a → at? d.classes a.cls = some k → C[j]? = some c → c.length = k.bits.toNat) : MInv d f L 0 0 0 0 0 false C :=
  ⟨Nat.zero_le _, Bits2.zero.congr fun p _ => (litW_zero _ _ p).symm, Bits2.zero.congr fun p _ => (oneW_zero _ _ p).symm, ⟨fun h => (by cases h), fun ⟨s, y, h, _⟩ => absurd h (Nat.not_lt_zero _)⟩, hC,
    fun j a k c h1 h2 h3 => ⟨hz j a k c h1 h2 h3, fun s y m h => absurd h (Nat.not_lt_zero _)⟩⟩
end

/-- A form's pattern, as the codec has it. -/
structure MadeOK (d : DescD) (f : FormD) (m0 m1 w0 w1 : Nat) (lz : Bool) (C : List (List Int)) : Prop where
  pat : PatOK (formBits d f) (formBits d f).length m0 m1 w0 w1
  loose : lz = true ↔ ∃ (p : Nat) (x : BitD), (formBits d f)[p]? = some x ∧ x.lit = 120
  len : C.length = f.args.length
  rows : ∀ (j : Nat) a k c, f.args[j]? = some a → at? d.classes a.cls = some k → C[j]? = some c → c.length = k.bits.toNat ∧ ∀ (p : Nat) (y : BitD) (m : Nat), (formBits d f)[p]? = some y → y.arg = (j : Int) → y.num = (m : Int) → c[m]? = some (p : Int)
theorem MInv.all {d : DescD} {f : FormD} (hG : GoodF d f) {w m0 m1 w0 w1 : Nat} {lz : Bool} {C : List (List Int)} (h : MInv d f (rawB f.pieces) w m0 m1 w0 w1 lz C) (hw : w = (rawB f.pieces).length) : MadeOK d f m0 m1 w0 w1 lz C := by
  subst hw
  have get : ∀ p, p < (rawB f.pieces).length → (formBits d f)[p]? = (rawB f.pieces)[posN d.order (rawB f.pieces).length p]? := fun p hp => placedL_get hG.m8 hp
  have len := formBits_len d f
  have out : ∀ p, ¬ p < (rawB f.pieces).length → (formBits d f)[p]? = none := fun p hp => List.getElem?_eq_none (by omega)
  refine ⟨⟨h.mask.congr fun p _ => ?_, h.want.congr fun p _ => ?_⟩, ?_, h.len, fun j a k c h1 h2 h3 => ⟨(h.rows j a k c h1 h2 h3).1, fun p y m hp ha hm => ?_⟩⟩
  · unfold litW litTo
    by_cases hp : p < (rawB f.pieces).length
    · have hq := posN_lt (o := d.order) hp hG.m8
      rw [get p hp]
      cases (rawB f.pieces)[posN d.order (rawB f.pieces).length p]? with
      | none => rfl
      | some y => simp [hp, hq, len]
    · rw [out p hp]
      cases (rawB f.pieces)[posN d.order (rawB f.pieces).length p]? with
      | none => rfl
      | some y => simp [hp]
  · unfold oneW oneTo
    by_cases hp : p < (rawB f.pieces).length
    · have hq := posN_lt (o := d.order) hp hG.m8
      rw [get p hp]
      cases (rawB f.pieces)[posN d.order (rawB f.pieces).length p]? with
      | none => rfl
      | some y => simp [hp, hq, len]
    · rw [out p hp]
      cases (rawB f.pieces)[posN d.order (rawB f.pieces).length p]? with
      | none => rfl
      | some y => simp [hp]
  · rw [h.loose]
    constructor
    · rintro ⟨s, y, hs, hy, hl⟩
      refine ⟨posN d.order (rawB f.pieces).length s, y, ?_, hl⟩
      rw [get _ (posN_lt hs hG.m8), posN_posN hs]; exact hy
    · rintro ⟨p, x, hp, hl⟩
      have hpl := (List.getElem?_eq_some_iff.1 hp).1
      rw [len] at hpl
      rw [get p hpl] at hp
      exact ⟨_, x, posN_lt hpl hG.m8, hp, hl⟩
  · have hpl := (List.getElem?_eq_some_iff.1 hp).1
    rw [len] at hpl
    rw [get p hpl] at hp
    have := (h.rows j a k c h1 h2 h3).2 _ y m (posN_lt hpl hG.m8) hp ha hm
    rwa [posN_posN hpl] at this

end Go.Proofs.YtnjmeadmkbkikaaGreatDoor
