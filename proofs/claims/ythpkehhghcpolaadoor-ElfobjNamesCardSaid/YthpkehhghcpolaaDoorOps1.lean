/-
  Reckoning operations do what the walk says: integers, strings, comparisons.
-/
import Derived.Test.YthpkehhghcpolaaDoorMem
import Derived.Laws.StructEq
import Derived.Laws.Strings
import Derived.Laws.Unary
import Derived.WalkSpells
namespace Go.Proofs.YthpkehhghcpolaaDoor
open Go.RowKit
set_option linter.unusedVariables false
set_option linter.unusedSimpArgs false

/-- One step that gives a value. -/
def MOut (P : Program) (m : Sem Value) (w : World) (c : Cx) (H : AH) (B : Nat) (K : AV → AH → Prop) : Prop :=
  ∃ v val w' c' H', m.run P w = .ok val w' ∧ RA w' c' H' v val ∧ HS w' c' H' B ∧ Ev w c H w' c' H' ∧ Below B w w' ∧ K v H'

theorem MOut.here {P : Program} {m : Sem Value} {w c H B K v val} (hs : HS w c H B) (hr : m.run P w = .ok val w) (ha : RA w c H v val) (k : K v H) : MOut P m w c H B K :=
  ⟨v, val, w, c, H, hr, ha, hs, Ev.refl _ _ _, Below.refl _ _, k⟩

theorem MOut.data {P : Program} {m : Sem Value} {w c H B} {K : AV → AH → Prop} {x : T} {val : Value} (hs : HS w c H B) (hr : m.run P w = .ok val w) (ha : RT w (c.M H) x val) (k : K (.t x) H) : MOut P m w c H B K :=
  .here hs hr (.t _ _ ha) k

theorem RA.int {w c H k n v} (h : RA w c H (.t (.int k n)) v) : v = .int k n := by cases h with | t _ _ h => cases h; rfl
theorem RA.bool {w c H b v} (h : RA w c H (.t (.bool b)) v) : v = .bool b := by cases h with | t _ _ h => cases h; rfl
theorem RA.str {w c H l v} (h : RA w c H (.t (.str l)) v) : ∃ s : ByteArray, v = .string s ∧ s.data.toList = l := by
  cases h with
  | t _ _ h => cases h with | str s => exact ⟨s, rfl, rfl⟩

section
variable {P : Program} {w : World}

theorem xint_ok {op : BinOp} {k k' : IntKind} {a b : Int} {K : T → Prop} (h : xint op k a k' b K) (ty : TypeId) :
    ∃ x val, (binOp op ty (.int k a) (.int k' b)).run P w = .ok val w ∧ (∀ w M, RT w M x val) ∧ K x := by
  cases op <;> simp only [xint, ck_iff, bitsOp] at h <;>
    first
    | (obtain ⟨hk, h⟩ := h
       obtain rfl := sameK_eq hk
       first
       | (obtain ⟨hb, h⟩ := h
          simp at hb
          exact ⟨_, _, by simp [binOp, Op.intDiv, hb], fun _ _ => .int _ _, h⟩)
       | exact ⟨_, _, by simp [binOp, Op.intArith, Op.intBits, Op.intCmp], fun _ _ => .int _ _, h⟩
       | exact ⟨_, _, by simp [binOp, Op.intArith, Op.intBits, Op.intCmp], fun _ _ => .bool _, h⟩)
    | (obtain ⟨hb, h⟩ := h
       have hb' : ¬ b < 0 := by simpa using hb
       exact ⟨_, _, by simp [binOp, Op.shift, hb'], fun _ _ => .int _ _, h⟩)

theorem xstr_ok {op : BinOp} {a b : List UInt8} {K : T → Prop} (h : xstr op a b K) (ty : TypeId) (s u : ByteArray) (hs : s.data.toList = a) (hu : u.data.toList = b) :
    ∃ x val, (binOp op ty (.string s) (.string u)).run P w = .ok val w ∧ (∀ w M, RT w M x val) ∧ K x := by
  have h1 : s.toList = a := by rw [ByteArray.toList_eq, hs]
  have h2 : u.toList = b := by rw [ByteArray.toList_eq, hu]
  have z1 : s.size = a.length := by rw [← hs]; rfl
  have z2 : u.size = b.length := by rw [← hu]; rfl
  cases op <;> simp only [xstr, ck_iff] at h <;>
    first
    | exact h.elim
    | (obtain ⟨hb, h⟩ := h
       have hb' : ¬ (((s.size + u.size : Nat) : Int) > IntKind.i64.max) := by simp at hb ⊢; omega
       refine ⟨.str (a ++ b), .string (s ++ u), by simp only [binOp, Op.stringOp, if_neg hb', Sem.run_pure], fun _ _ => ?_, h⟩
       have e : (s ++ u).data.toList = a ++ b := by simp [hs, hu]
       rw [← e]; exact .str _)
    | exact ⟨_, _, by simp [binOp, Op.stringOp, h1, h2], fun _ _ => .bool _, h⟩

theorem xun_ok {op : UnOp} {x : AV} {K : T → Prop} {c H v} (h : xun op x K) (hv : RA w c H x v) :
    ∃ y val, (Op.unary op v).run P w = .ok val w ∧ (∀ w M, RT w M y val) ∧ K y := by
  unfold xun at h
  split at h
  · obtain rfl := hv.int; exact ⟨_, _, by simp [Op.unary, Op.intArith], fun _ _ => .int _ _, h⟩
  · obtain rfl := hv.int; exact ⟨_, _, by simp [Op.unary, Op.intBits, bitsOp], fun _ _ => .int _ _, h⟩
  · obtain rfl := hv.bool; exact ⟨_, _, by simp [Op.unary], fun _ _ => .bool _, h⟩
  · exact h.elim

/-- Plain cells. -/
theorem eq1_ok {tab : Tab} (hT : TabOK P tab) {ty : TypeId} {y : TyI} (hy : tab ty = some y) {a b : T} {u v : Value} {M : Nat → Prop} (ha : RT w M a u) (hb : RT w M b v) (h1 : tyIs1 y.d a = true) (h2 : tyIs1 y.d b = true)
    {p : Bool} (he : eq1 a b = some p) (d : Nat) : (Op.equalIn (d + 1) ty u v).run P w = .ok p w ∧ (isAgg ty).run P w = .ok false w := by
  have hd := (hT ty y hy).d
  cases hyd : y.d <;> rw [hyd] at hd h1 h2 <;> cases a <;> simp [tyIs1] at h1 <;> cases b <;> simp [tyIs1] at h2 <;> simp [eq1] at he
  · cases ha; cases hb; subst he; exact ⟨by simp [Op.equalIn, run_underlying hd], by simp [isAgg, run_underlying hd]⟩
  · cases ha; cases hb
    split at he
    · rename_i hk
      obtain rfl := sameK_eq hk
      simp at he
      subst he
      exact ⟨by simp [Op.equalIn, run_underlying hd], by simp [isAgg, run_underlying hd]⟩
    · cases he
  · cases ha with
    | str s =>
    cases hb with
    | str s' =>
    subst he
    refine ⟨?_, by simp [isAgg, run_underlying hd]⟩
    simp [Op.equalIn, run_underlying hd, beq_toListBytes, ByteArray.toList_eq]

theorem run_part1 {ty : TypeId} (h : (isAgg ty).run P w = .ok false w) {cs : Array Value} {off : Nat} {v : Value} (hv : cs[off]? = some v) : (part ty cs off).run P w = .ok v w := by
  simp [part, h, hv]

theorem eqFs_ok {tab : Tab} (hT : TabOK P tab) {xs ys : List T} {us vs : Array Value} {M : Nat → Prop} (hl1 : xs.length = us.size) (hl2 : ys.length = vs.size)
    (hx : ∀ (i : Nat) c v, xs[i]? = some c → us[i]? = some v → RT w M c v) (hy : ∀ (i : Nat) c v, ys[i]? = some c → vs[i]? = some v → RT w M c v) (d : Nat) :
    ∀ (fs : List Field) (p : Bool), eqFs tab xs ys fs = some p → (Op.eqFields (d + 1) us vs fs).run P w = .ok p w
  | [], p, h => by simp [eqFs] at h; subst h; simp [Op.eqFields]
  | f :: r, p, h => by
    simp only [eqFs] at h
    split at h
    · rename_i y a b hy0 ha hb
      split at h
      · rename_i p1 q hc he hq
        simp at h hc
        obtain ⟨u, hu⟩ : ∃ u, us[f.offset]? = some u := by
          have := lt_of_getElem? ha
          exact ⟨us[f.offset]'(by omega), Array.getElem?_eq_getElem _⟩
        obtain ⟨v, hv⟩ : ∃ v, vs[f.offset]? = some v := by
          have := lt_of_getElem? hb
          exact ⟨vs[f.offset]'(by omega), Array.getElem?_eq_getElem _⟩
        obtain ⟨r1, r2⟩ := eq1_ok hT hy0 (hx _ _ _ ha hu) (hy _ _ _ hb hv) hc.1.1 hc.1.2 he d
        have ih := eqFs_ok hT hl1 hl2 hx hy d r q hq
        simp only [Op.eqFields, ne_eq, hc.2, not_false_eq_true, if_true, Sem.run_bind, run_part1 r2 hu, run_part1 r2 hv, Result.andThen_ok, r1, Sem.run_ite]
        cases p1
        · simp at h; subst h; simp
        · simp at h; subst h; simp [ih]
      · cases h
    · cases h

theorem fieldsOf_eq {t : TypeId} {fs : Array Field} (h : P.underlying t = some (.struct fs)) : P.fieldsOf t = fs := by simp [Program.fieldsOf, h]

/-- What a value looks like of which is told whether it is nil. -/
def nilShape : TypeDesc → Bool → Value → Prop
  | .slice _, p, u => ∃ a n m, u = .slice a n m ∧ a.isNone = p
  | .pointer _, p, u => ∃ a, u = .pointer a ∧ a.isNone = p
  | .func _ _ _, p, u => (p = true ∧ u = .nilFunc) ∨ (p = false ∧ ∃ f a b, u = .func f a b)
  | .interface _, p, u => (p = true ∧ u = .nilIface) ∨ (p = false ∧ ∃ t v, u = .iface t v)
  | _, _, _ => False

theorem nilShape_ok {d : TypeDesc} {c H x u p} (hx : RA w c H x u) (h : kindFits d x = true) (hp : isNil H x = some p) : nilShape d p u := by
  cases hx with
  | t x u hx =>
    cases hx <;> cases d <;> first
      | (simp [kindFits] at h; done)
      | (simp [isNil] at hp; subst hp; simp [nilShape])
  | ptr b g i o v blk hb hm =>
    cases d <;> first
      | (simp [kindFits] at h; done)
      | skip
    simp only [isNil, hb] at hp
    cases blk with
    | box cells =>
      obtain ⟨cb, _, rfl⟩ := hm
      simp at hp; subst hp
      exact ⟨_, rfl, rfl⟩
    | dead => simp at hp
    | iter => simp at hp
    | arr e s z gen l =>
      simp only at hp
      split at hp
      · rename_i hg
        obtain ⟨cb, _, rfl⟩ := hm.2 (Nat.eq_of_beq_eq_true hg)
        simp at hp; subst hp
        exact ⟨_, rfl, rfl⟩
      · cases hp
  | sl b g i n v blk hb hm =>
    cases d <;> first
      | (simp [kindFits] at h; done)
      | skip
    simp only [isNil, hb] at hp
    cases blk with
    | box cells => simp at hp
    | dead => simp at hp
    | iter => simp at hp
    | arr e s z gen l =>
      simp only at hp
      split at hp
      · rename_i hg
        have hg := Nat.eq_of_beq_eq_true hg
        simp at hp
        obtain ⟨_, h2⟩ := hm.2 hg
        rcases h2 with ⟨z1, l1, rfl⟩ | ⟨z1, l1, ad, rfl⟩ | ⟨z1, cb, cap, off, _, rfl, _⟩
        · exact ⟨_, _, _, rfl, by rw [← hp]; simp [z1, l1]⟩
        · exact ⟨_, _, _, rfl, by rw [← hp]; simp [z1]⟩
        · refine ⟨_, _, _, rfl, ?_⟩
          rw [← hp]
          by_cases hz : z = true
          · have hne : ¬ l.length = 0 := fun e => z1 ⟨hz, e⟩
            have : Nat.beq l.length 0 = false := by rw [Bool.eq_false_iff]; exact fun e => hne (Nat.eq_of_beq_eq_true e)
            simp [hz, this]
          · simp [hz]
      · cases hp
  | emp a =>
    cases d <;> first
      | (simp [kindFits] at h; done)
      | skip
    simp [isNil] at hp; subst hp; exact ⟨_, _, _, rfl, rfl⟩
  | fn f a b x y => cases d <;> first
      | (simp [kindFits] at h; done)
      | (simp [isNil] at hp; subst hp; simp [nilShape])
  | ifc t x v => cases d <;> first
      | (simp [kindFits] at h; done)
      | (simp [isNil] at hp; subst hp; simp [nilShape])
  | agg => simp [isNil] at hp
  | tup => simp [isNil] at hp
  | junk => simp [isNil] at hp

theorem run_eql_of {ty : TypeId} {u v : Value} {p : Bool} (he : ∀ d, (Op.equalIn (d + 1) ty u v).run P w = .ok p w)
    (h1 : binOp .eql ty u v = (do pure (.bool (← Op.equal ty u v)))) (h2 : binOp .neq ty u v = (do pure (.bool (!(← Op.equal ty u v))))) :
    (binOp .eql ty u v).run P w = .ok (.bool p) w ∧ (binOp .neq ty u v).run P w = .ok (.bool (!p)) w := by
  have e : (Op.equal ty u v).run P w = .ok p w := he 9999
  rw [h1, h2]
  simp only [Sem.run_bind, e, Result.andThen_ok, Sem.run_pure, and_self]

/-- A nil, and what may stand where it stands. -/
theorem isNil_ok {tab : Tab} (hT : TabOK P tab) {ty : TypeId} {y : TyI} (hy : tab ty = some y) {c H x n u v} (hx : RA w c H x u) (hn : RA w c H n v) (h1 : nilFits y.d n = true) (h2 : kindFits y.d x = true)
    {p : Bool} (hp : isNil H x = some p) (yc : Bool) (hc : (yc || !isIfaceD y.d) = true) (o : BinOp) (xo yo : Operand) (hyc : yc = isConst yo) :
    (eqGuard o ty xo yo u v).run P w = .ok () w ∧ (binOp .eql ty u v).run P w = .ok (.bool p) w ∧ (binOp .neq ty u v).run P w = .ok (.bool (!p)) w := by
  have hd := (hT ty y hy).d
  have hsh := nilShape_ok (d := y.d) hx h2 hp
  cases hyd : y.d <;> rw [hyd] at hd h1 hsh hc <;> (try (simp [nilShape] at hsh; done))
  case slice e =>
    obtain ⟨a, k, m, rfl, rfl⟩ := hsh
    have hv : v = .slice none 0 0 := by
      cases n <;> simp [nilFits] at h1
      rename_i x; cases x <;> simp [nilFits] at h1
      cases hn with | t _ _ hn => cases hn; rfl
    subst hv
    cases a <;> exact ⟨by rw [eqGuard_at_slice]; rfl, run_eql_of (fun d => by simp [Op.equalIn, run_underlying hd]) rfl rfl⟩
  case pointer e =>
    obtain ⟨a, rfl, rfl⟩ := hsh
    have hv : v = .pointer none := by
      cases n <;> simp [nilFits] at h1
      rename_i x; cases x <;> simp [nilFits] at h1
      cases hn with | t _ _ hn => cases hn; rfl
    subst hv
    cases a <;> exact ⟨by rw [eqGuard_at_pointer]; rfl, run_eql_of (fun d => by simp [Op.equalIn, run_underlying hd]) rfl rfl⟩
  case func p1 p2 p3 =>
    have hv : v = .nilFunc := by
      cases n <;> simp [nilFits] at h1
      rename_i x; cases x <;> simp [nilFits] at h1
      cases hn with | t _ _ hn => cases hn; rfl
    subst hv
    rcases hsh with ⟨rfl, rfl⟩ | ⟨rfl, f, a, b, rfl⟩
    · exact ⟨by rw [eqGuard_at_nilFunc]; rfl, run_eql_of (fun d => by simp [Op.equalIn, run_underlying hd]) rfl rfl⟩
    · exact ⟨by rw [eqGuard_at_func]; rfl, run_eql_of (fun d => by simp [Op.equalIn, run_underlying hd]) rfl rfl⟩
  case interface ms =>
    have hv : v = .nilIface := by
      cases n <;> simp [nilFits] at h1
      rename_i x; cases x <;> simp [nilFits] at h1
      cases hn with | t _ _ hn => cases hn; rfl
    subst hv
    simp [isIfaceD] at hc
    subst hc
    obtain ⟨cv, rfl⟩ : ∃ cv, yo = .const cv := by cases yo <;> simp [isConst] at hyc; exact ⟨_, rfl⟩
    rcases hsh with ⟨rfl, rfl⟩ | ⟨rfl, t, b, rfl⟩
    · exact ⟨by rw [eqGuard_nil_constR]; rfl, run_eql_of (fun d => by simp [Op.equalIn, run_underlying hd]) rfl rfl⟩
    · exact ⟨by rw [eqGuard_at_iface]; rfl, run_eql_of (fun d => by simp [Op.equalIn, run_underlying hd]) rfl rfl⟩

theorem RA.toAgg {c H x v} (h : RA w c H x v) : RA w c H (toAgg x) v := by
  cases x <;> simp only [Go.Proofs.YthpkehhghcpolaaDoor.toAgg] <;> try exact h
  rename_i cs
  split
  · rename_i l hl
    have key : ∀ (cs : List AV) (l : List T), toTs cs = some l → l.length = cs.length ∧ ∀ (i : Nat) y, l[i]? = some y → cs[i]? = some (.t y) := by
      intro cs
      induction cs with
      | nil => intro l h; simp [toTs] at h; subst h; simp
      | cons a r ih =>
        intro l h
        simp only [toTs] at h
        split at h
        · rename_i x l' hx hl'
          cases h
          obtain ⟨h1, h2⟩ := ih l' hl'
          have ha : a = .t x := by cases a <;> simp [toT1] at hx; rw [hx]
          refine ⟨by simp [h1], fun i y hi => ?_⟩
          cases i with
          | zero => simp at hi ⊢; rw [ha, hi]
          | succ i => simp at hi ⊢; exact h2 i y hi
        · cases h
    obtain ⟨k1, k2⟩ := key cs l hl
    cases h with
    | agg _ vs hlen h1 hr =>
      refine .t _ _ (.agg l vs (by omega) (fun i y hi => ?_) (fun i y v hi hv => ?_))
      · have := h1 i _ (k2 i y hi); simpa [AV.one] using this
      · have := hr i _ v (k2 i y hi) hv
        cases this with | t _ _ h => exact h
  · exact h

theorem xeq_ok {tab : Tab} (hT : TabOK P tab) {ty : TypeId} {c H x y u v} {yc : Bool} {K : Bool → Prop} (h : xeq tab ty H x y yc K) (hx : RA w c H x u) (hy : RA w c H y v)
    (xo yo : Operand) (hyc : yc = isConst yo) : ∃ p, (∀ o, (eqGuard o ty xo yo u v).run P w = .ok () w) ∧ (binOp .eql ty u v).run P w = .ok (.bool p) w ∧ (binOp .neq ty u v).run P w = .ok (.bool (!p)) w ∧ K p := by
  unfold xeq at h
  rw [opt_iff] at h
  obtain ⟨i, hi, h⟩ := h
  have hd := (hT ty i hi).d
  split at h
  · obtain rfl := hx.bool; obtain rfl := hy.bool
    rename_i a b
    rw [ck_iff] at h
    obtain ⟨hc, h⟩ := h
    have hb : i.d = .bool := by cases hdd : i.d <;> simp [hdd] at hc <;> rfl
    rw [hb] at hd
    have e := run_eql_of (P := P) (w := w) (ty := ty) (u := .bool a) (v := .bool b) (p := a == b) (fun d => by simp [Op.equalIn, run_underlying hd]) rfl rfl
    exact ⟨a == b, fun o => by rw [eqGuard_at_bool]; rfl, e.1, e.2, h⟩
  · rename_i a b
    split at h
    · rename_i fs hf
      obtain ⟨hok, h⟩ := h
      rw [opt_iff] at h
      obtain ⟨p, hp, h⟩ := h
      obtain ⟨k1, k2⟩ := (hT ty i hi).eq hok
      rw [hf] at hd
      cases hx with | t _ _ hx => cases hx with | agg _ us hl1 _ hr1 =>
      cases hy with | t _ _ hy => cases hy with | agg _ vs hl2 _ hr2 =>
      have e := eqFs_ok hT hl1 hl2 hr1 hr2 9998 fs.toList p hp
      have e2 : (Op.equalIn 10000 ty (.agg us) (.agg vs)).run P w = .ok p w := by
        rw [run_equalIn_struct w 9999 ty us vs (by rw [fieldsOf_eq hd]; exact hd) k1, fieldsOf_eq hd]; exact e
      exact ⟨p, fun o => run_eqGuard_agg w o ty xo yo us vs k2, by rw [run_eql_struct, e2]; rfl, by rw [run_neq_struct, e2]; rfl, h⟩
    · exact h.elim
  · rw [ck_iff] at h
    obtain ⟨hc, h⟩ := h
    simp at hc
    rw [opt_iff] at h
    obtain ⟨p, hp, h⟩ := h
    exact ⟨p, fun o => (isNil_ok hT hi hx hy hc.1.1.2 hc.1.2 hp yc (by simpa using hc.2) o xo yo hyc).1, (isNil_ok hT hi hx hy hc.1.1.2 hc.1.2 hp yc (by simpa using hc.2) .eql xo yo hyc).2.1, (isNil_ok hT hi hx hy hc.1.1.2 hc.1.2 hp yc (by simpa using hc.2) .eql xo yo hyc).2.2, h⟩

end
end Go.Proofs.YthpkehhghcpolaaDoor
