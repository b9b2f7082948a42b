/-
  Regions that draw their order: whatever the order, the walk's end holds.
-/
import Derived.Test.YthpkehhghcpolaaDoorDraw2
namespace Go.Proofs.YthpkehhghcpolaaDoor
open Go.RowKit
set_option linter.unusedVariables false
set_option linter.unusedSimpArgs false

def wenv (ops : Array Oper) (env0 : List (Nat × AV)) : List (Nat × AV) → List (Nat × AV)
  | [] => env0
  | (i, v) :: r => putd (guardSlot ops i) v (wenv ops env0 r)

theorem lk_wenv_skip {ops : Array Oper} {env0 : List (Nat × AV)} {L : Nat → Bool} {t : Nat} {Z : List (Nat × AV)} : ∀ {X : List (Nat × AV)}, (∀ e ∈ X, guardSlot ops e.1 = some t → L e.1 = false) →
    lk (wenv ops env0 ((X ++ Z).filter fun e => L e.1)) t = lk (wenv ops env0 (Z.filter fun e => L e.1)) t
  | [], _ => rfl
  | (j, v) :: r, h => by
    have ih := lk_wenv_skip (env0 := env0) (Z := Z) (X := r) fun e he => h e (by simp [he])
    rw [List.cons_append, List.filter_cons]
    cases hL : L j with
    | false => simpa using ih
    | true =>
      simp only [if_true, wenv, lk_putd]
      rw [if_neg (fun hs => by have := h (j, v) (by simp) hs; simp only at this; rw [hL] at this; cases this)]
      exact ih

theorem lk_wenv_all {ops : Array Oper} {env0 : List (Nat × AV)} {L : Nat → Bool} {t : Nat} : ∀ {Y : List (Nat × AV)}, (∀ e ∈ Y, guardSlot ops e.1 = some t → L e.1 = true) →
    lk (wenv ops env0 (Y.filter fun e => L e.1)) t = lk (wenv ops env0 Y) t
  | [], _ => rfl
  | (j, v) :: r, h => by
    have ih := lk_wenv_all (env0 := env0) (Y := r) fun e he => h e (by simp [he])
    rw [List.filter_cons]
    cases hL : L j with
    | true => simp only [if_true, wenv, lk_putd, ih]
    | false =>
      simp only [Bool.false_eq_true, if_false, wenv, lk_putd]
      rw [if_neg (fun hs => by have := h (j, v) (by simp) hs; simp only at this; rw [hL] at this; cases this)]
      exact ih

theorem lk_wenv_put {ops : Array Oper} {env0 : List (Nat × AV)} {L L' : Nat → Bool} {i : Nat} {v : AV} (hi : L i = false) (hi' : L' i = true) (ho : ∀ j, j ≠ i → L' j = L j) {Y : List (Nat × AV)} (hY : ∀ e ∈ Y, e.1 ≠ i) : ∀ {X : List (Nat × AV)}, (∀ e ∈ X, e.1 ≠ i) →
    (∀ e ∈ X, ∀ t, guardSlot ops e.1 = some t → guardSlot ops i = some t → L e.1 = false) →
    LkEq (wenv ops env0 ((X ++ (i, v) :: Y).filter fun e => L' e.1)) (putd (guardSlot ops i) v (wenv ops env0 ((X ++ (i, v) :: Y).filter fun e => L e.1)))
  | [], _, _ => by
    have : Y.filter (fun e => L' e.1) = Y.filter fun e => L e.1 := List.filter_congr fun e he => ho e.1 (hY e he)
    simp only [List.nil_append, List.filter_cons, hi, hi', if_true, wenv, this]
    simp [LkEq.refl]
  | (j, u) :: r, hX, hs => by
    have ih := lk_wenv_put (v := v) (env0 := env0) hi hi' ho hY (X := r) (fun e he => hX e (by simp [he])) (fun e he => hs e (by simp [he]))
    have hj : j ≠ i := hX (j, u) (by simp)
    intro t
    simp only [List.cons_append, List.filter_cons, ho j hj]
    cases hL : L j with
    | false => simpa using ih t
    | true =>
      have hne : ∀ t, guardSlot ops j = some t → guardSlot ops i ≠ some t := fun t h1 h2 => by
        have := hs (j, u) (by simp) t h1 h2; simp only at this; rw [hL] at this; cases this
      simp only [if_true, wenv, lk_putd]
      rw [ih t, lk_putd]
      by_cases h1 : guardSlot ops j = some t
      · rw [if_pos h1, if_neg (hne t h1), if_pos h1]
      · rw [if_neg h1, if_neg h1]

/-- The walked operations, the last first, are in an order in which they can be walked. -/
def DoneOK (ops : Array Oper) (ms : List Nat) : List Nat → Prop
  | [] => True
  | i :: r => (∃ oi, ops[i]? = some oi ∧ (∀ j ∈ binders oi, j ∈ r) ∧ ∀ j ∈ r, i ≠ j ∧ ((ms.getD i 0).testBit j = true ∨ (∃ oj, ops[j]? = some oj ∧ apartOps ops oj oi = true) ∨ chainB ops j = true)) ∧ DoneOK ops ms r

theorem drawOK_step {ops : Array Oper} {ms : List Nat} {i : Nat} {un : List Nat} {r : Ord} {R : List (Nat × Nat)} {done : List Nat} (h : drawOK ops ms (.op i un r) R done = true) (hd : DoneOK ops ms done) :
    DoneOK ops ms (i :: done) ∧ (chainB ops i = true → ∀ j ∈ done, (ms.getD i 0).testBit j = true ∨ chainB ops j = true ∨ j ∈ un) ∧ drawOK ops ms r R (i :: done) = true := by
  simp only [drawOK, Bool.and_eq_true] at h
  obtain ⟨h1, h2⟩ := h
  cases ho : ops[i]? with
  | none => rw [ho] at h1; cases h1
  | some oi =>
    rw [ho] at h1
    simp only [Bool.and_eq_true, List.all_eq_true, Bool.or_eq_true, Bool.not_eq_true'] at h1
    obtain ⟨⟨b1, b2⟩, b3⟩ := h1
    refine ⟨⟨⟨oi, ho, fun j hj => by simpa using b1 j hj, fun j hj => ⟨fun e => ?_, ?_⟩⟩, hd⟩, fun hf j hj => ?_, h2⟩
    · have := (b2 j hj).1; subst e; simp at this
    · rcases (b2 j hj).2 with (h | h) | h
      · exact .inl h
      · refine .inr (.inl ?_)
        split at h
        · rename_i oj hoj; exact ⟨oj, hoj, h⟩
        · cases h
      · exact .inr (.inr h.2)
    · rcases b3 with h | h
      · rw [hf] at h; cases h
      · rcases h j hj with (h | h) | h
        · exact .inl h
        · exact .inr (.inl h)
        · exact .inr (.inr (by simpa using h))

theorem doneOK_split {ops : Array Oper} {ms : List Nat} {i : Nat} {Y : List Nat} : ∀ {X : List Nat}, DoneOK ops ms (X ++ i :: Y) → DoneOK ops ms (i :: Y) ∧
    ∀ k ∈ X, k ≠ i ∧ ((ms.getD k 0).testBit i = true ∨ (∃ oi ok, ops[i]? = some oi ∧ ops[k]? = some ok ∧ apartOps ops oi ok = true) ∨ chainB ops i = true)
  | [], h => ⟨h, by simp⟩
  | k :: r, h => by
    obtain ⟨⟨ok, hok, h1, h2⟩, h3⟩ := h
    obtain ⟨h4, h5⟩ := doneOK_split (X := r) h3
    refine ⟨h4, fun q hq => ?_⟩
    rcases List.mem_cons.1 hq with rfl | hq
    · obtain ⟨b1, b2⟩ := h2 i (by simp)
      refine ⟨b1, b2.imp id (Or.imp (fun ⟨oi, a, b⟩ => ⟨oi, ok, a, hok, b⟩) id)⟩
    · exact h5 q hq

theorem apart_spec {ops : Array Oper} {oj oi : Oper} (h : apartOps ops oj oi = true) : (isRd oj || isMk oj) = true ∧ (∀ d, oj.dst = some d → d ∉ oi.looksAt ops) ∧ (∀ d, oi.dst = some d → d ∉ oj.looksAt ops ∧ oj.dst ≠ some d) := by
  simp only [apartOps, Bool.and_eq_true] at h
  obtain ⟨⟨h1, h2⟩, h3⟩ := h
  refine ⟨h1, fun d hd => ?_, fun d hd => ?_⟩
  · rw [hd] at h2; simpa using h2
  · rw [hd] at h3
    simp only [Bool.and_eq_true, Bool.not_eq_true'] at h3
    refine ⟨by simpa using h3.1, fun e => ?_⟩
    rw [e] at h3
    simp at h3

theorem slot_dst {ops : Array Oper} {i : Nat} {o : Oper} (h : ops[i]? = some o) : guardSlot ops i = o.dst := by simp [guardSlot, h]

theorem mem_looks {ops : Array Oper} {o : Oper} {t : Nat} (h : .tmp t ∈ o.op.operands.toList) : t ∈ o.looksAt ops := by
  simp only [Oper.looksAt, List.mem_append, List.mem_filterMap]
  exact .inl ⟨_, h, rfl⟩

theorem guard_looks {ops : Array Oper} {o : Oper} {j : Nat} {want : Bool} {d : Nat} (h : o.guard = some (j, want)) (hd : guardSlot ops j = some d) : d ∈ o.looksAt ops := by
  simp only [Oper.looksAt, List.mem_append, h]
  refine .inr ?_
  rw [show ops[j]?.bind (·.dst) = some d from hd]
  simp

theorem same_of {ops : Array Oper} {o : Oper} {env env' : List (Nat × AV)} (h : ∀ t ∈ o.looksAt ops, lk env t = lk env' t) : Same ops o env env' :=
  ⟨fun x hx => by cases x <;> first | rfl | exact h _ (mem_looks hx), fun j want d hg hd => h d (guard_looks hg hd)⟩

theorem countP_upd {p p' : Nat → Bool} {i : Nat} (hp : p i = true) (hp' : p' i = false) (he : ∀ j, j ≠ i → p' j = p j) : ∀ {l : List Nat}, l.Nodup → i ∈ l → l.countP p = l.countP p' + 1
  | [], _, h => by cases h
  | k :: r, hn, h => by
    rw [List.nodup_cons] at hn
    rw [List.countP_cons, List.countP_cons]
    rcases List.mem_cons.1 h with rfl | h
    · have : r.countP p = r.countP p' := List.countP_congr fun j hj => by rw [he j (fun e => hn.1 (e ▸ hj))]
      simp [hp, hp', this]
    · have ih := countP_upd hp hp' he hn.2 h
      have : p' k = p k := he k fun e => hn.1 (e ▸ h)
      rw [ih, this]
      omega

section
variable {P : Program} {tab : Tab}

theorem same_env {ops : Array Oper} {o : Oper} {e e' : List (Nat × AV)} (h : LkEq e e') {H : AH} {v : AV} (k : Ob tab ops o e H v) : Ob tab ops o e' H v := by
  refine k.imp (fun k => ⟨?_, xread_le (.refl _) (fun x _ => opd_lk h x) k.2⟩) fun k => ⟨?_, k.2⟩
  · rcases k.1 with k | ⟨j, want, d, a, b, c⟩
    · exact .inl k
    · exact .inr ⟨j, want, d, a, b, by rw [← h d]; exact c⟩
  · obtain ⟨j, want, d, a, b, c⟩ := k.1
    exact ⟨j, want, d, a, b, by rw [← h d]; exact c⟩

theorem same_envM {O : Org} {D : List Nat} {ops : Array Oper} {o : Oper} {e e' : List (Nat × AV)} (h : LkEq e e') {H : AH} {c : Cx} {v : AV} (k : ObM tab ops O D o e H c v) : ObM tab ops O D o e' H c v := by
  rcases k with ⟨k1, n, mk, blk, a1, a2, a3⟩ | k
  · refine .inl ⟨?_, n, mk, blk, a1, xmake_env (fun x _ => opd_lk h x) a2, a3⟩
    rcases k1 with k | ⟨j, want, d, a, b, c⟩
    · exact .inl k
    · exact .inr ⟨j, want, d, a, b, by rw [← h d]; exact c⟩
  · obtain ⟨j, want, d, a, b, c⟩ := k.1
    exact .inr ⟨⟨j, want, d, a, b, by rw [← h d]; exact c⟩, k.2⟩

theorem obM_go {O : Org} {D : List Nat} {ops : Array Oper} {o : Oper} {e : List (Nat × AV)} {H H' : AH} {c c' : Cx} {v : AV} (k : ObM tab ops O D o e H c v) (hl : ∀ n blk, nameOf v = some n → H[n]? = some blk → blk ≠ .dead → H'[n]? = some blk)
    (hst : ∀ n blk, nameOf v = some n → H[n]? = some blk → blk.fix = true → c.G n = none → c'.G n = none) : ObM tab ops O D o e H' c' v := by
  rcases k with ⟨k1, n, mk, blk, a1, a2, a3, a4, a5, a6⟩ | k
  case inr => exact .inr k
  refine .inl ⟨k1, n, mk, blk, a1, a2, ?_, a4, fun hf => ?_, a6⟩
  · exact hl n blk (by rw [a1]; exact (make_blk a2).2 n) a3 a4
  · exact hst n blk (by rw [a1]; exact (make_blk a2).2 n) a3 hf (a5 hf)

structure Inv (P : Program) (tab : Tab) (ops : Array Oper) (ms : List Nat) (D : Nat → List Nat) (env0 : List (Nat × AV)) (O : Org) (K : St → Prop) (L : Nat → Bool) (W : List (Nat × AV)) (rest : Ord) (R : List (Nat × Nat)) (H : AH) (c : Cx) (a : Act) (w : World) : Prop where
  sat : Sat O c ⟨wenv ops env0 (W.filter fun e => L e.1), H⟩ a w
  closed : Closed ops L
  sub : ∀ i, L i = true → i ∈ W.map Prod.fst
  obl : ∀ X i v Y o, W = X ++ (i, v) :: Y → L i = false → ops[i]? = some o → (isRd o = true ∧ Ob tab ops o (wenv ops env0 Y) (hide (D i) H) v) ∨ (isMk o = true ∧ ObM tab ops O (D i) o (wenv ops env0 Y) H c v)
  uniq : ∀ i j v u n oi oj, (i, v) ∈ W → (j, u) ∈ W → i ≠ j → L i = false → L j = false → ops[i]? = some oi → ops[j]? = some oj → isMk oi = true → isMk oj = true → nameOf v = some n → nameOf u ≠ some n
  walk : ∃ e, LkEq e (wenv ops env0 W) ∧ xdr tab (CallS P) ops D rest ⟨e, H⟩ K
  done : DoneOK ops ms (W.map Prod.fst)
  more : drawOK ops ms rest R (W.map Prod.fst) = true
  raced : ∀ p ∈ R, p.1 ∈ W.map Prod.fst
  early : ∀ i v o n, (i, v) ∈ W → ops[i]? = some o → isMk o = true → nameOf v = some n → n ∉ D i

theorem mk_notRd {o : Oper} (h : isMk o = true) : isRd o = false := by
  unfold isMk at h
  unfold isRd
  cases ho : o.op <;> rw [ho] at h <;> simp at h <;> rfl

theorem obM_name {O : Org} {D : List Nat} {ops : Array Oper} {o : Oper} {e : List (Nat × AV)} {H : AH} {c : Cx} {v : AV} {n : Nat} (k : ObM tab ops O D o e H c v) (hn : nameOf v = some n) : ∃ blk, H[n]? = some blk := by
  rcases k with ⟨_, m, mk, blk, rfl, a2, a3, _⟩ | ⟨_, rfl⟩
  · rw [(make_blk a2).2 m] at hn
    cases hn
    exact ⟨blk, a3⟩
  · simp [nameOf] at hn

theorem Ev.len {w c H w' c' H'} (h : Ev w c H w' c' H') : H.length ≤ H'.length := by
  rcases Nat.lt_or_ge H'.length H.length with hlt | hge
  · obtain ⟨blk', hb, _⟩ := h.blk H'.length _ (List.getElem?_eq_getElem hlt)
    have := lt_of_getElem? hb
    omega
  · exact hge

/-- The reads that come next are walked. -/
theorem Inv.advance {ops : Array Oper} {ms : List Nat} {D : Nat → List Nat} {env0 : List (Nat × AV)} {O : Org} {K : St → Prop} {L : Nat → Bool} {R : List (Nat × Nat)} {c : Cx} {a : Act} {w : World} : ∀ {rest : Ord} {W : List (Nat × AV)} {H : AH},
    Inv P tab ops ms D env0 O K L W rest R H c a w → ∃ W' rest' H', Inv P tab ops ms D env0 O K L W' rest' R H' c a w ∧ (rest' = .nil ∨ (∃ q un r oq, rest' = .op q un r ∧ ops[q]? = some oq ∧ isRd oq = false ∧ isMk oq = false) ∨ ∃ a b, rest' = .race a b)
  | .nil, W, H, h => ⟨W, .nil, H, h, .inl rfl⟩
  | .race a b, W, H, h => ⟨W, .race a b, H, h, .inr (.inr ⟨a, b, rfl⟩)⟩
  | .op i un r, W, H, h => by
    obtain ⟨e, he, hw⟩ := h.walk
    simp only [xdr] at hw
    rw [opt_iff] at hw
    obtain ⟨o, ho, hw⟩ := hw
    obtain ⟨d1, d2, d3⟩ := drawOK_step h.more h.done
    have hnW : ∀ u, (i, u) ∉ W := fun u hu => by
      obtain ⟨_, _, _, d4⟩ := d1.1
      exact (d4 i (List.mem_map.2 ⟨_, hu, rfl⟩)).1 rfl
    have hni : L i = false := by
      cases hL : L i with
      | false => rfl
      | true =>
        have := h.sub i hL
        simp only [List.mem_map] at this
        obtain ⟨⟨j, u⟩, hu, rfl⟩ := this
        exact (hnW u hu).elim
    cases hr : isRd o with
    | true =>
      rw [hr] at hw
      obtain ⟨v, e', h1, h2, h3⟩ := ob_of hw
      refine Inv.advance (rest := r) (W := (i, v) :: W) (H := H) ⟨?_, h.closed, fun j hj => ?_, fun X j u Y oj hW hj hoj => ?_, fun j k u u' n oj ok hj hk hne lj lk hoj hok mj mk hn => ?_, ⟨_, ?_, h3⟩, by simpa using d1, by simpa using d3, fun p hp => List.mem_cons_of_mem _ (h.raced p hp), fun q x oq n hq hoq mq hn => (by
          rcases List.mem_cons.1 hq with e | hq
          · cases e; rw [ho] at hoq; cases hoq; rw [mk_notRd mq] at hr; cases hr
          · exact h.early q x oq n hq hoq mq hn)⟩
      · rw [List.filter_cons, hni]
        simpa using h.sat
      · simp only [List.map_cons, List.mem_cons]; exact .inr (h.sub j hj)
      · cases X with
        | nil =>
          simp only [List.nil_append, List.cons.injEq, Prod.mk.injEq] at hW
          obtain ⟨⟨rfl, rfl⟩, rfl⟩ := hW
          rw [ho] at hoj; cases hoj
          exact .inl ⟨hr, same_env he h2⟩
        | cons x X =>
          simp only [List.cons_append, List.cons.injEq] at hW
          exact h.obl X j u Y oj hW.2 hj hoj
      · have notI : ∀ {q ok x}, ops[q]? = some ok → isMk ok = true → (q, x) ∈ (i, v) :: W → (q, x) ∈ W := fun {q ok x} h1 h2 h3 => by
          rcases List.mem_cons.1 h3 with e | h3
          · cases e
            rw [ho] at h1; cases h1
            rw [mk_notRd h2] at hr; cases hr
          · exact h3
        exact h.uniq j k u u' n oj ok (notI hoj mj hj) (notI hok mk hk) hne lj lk hoj hok mj mk hn
      · simp only [wenv, slot_dst ho]
        exact (h1.trans he).putd _ _
    | false =>
      rw [hr] at hw
      simp only at hw
      cases hm : isMk o with
      | false => exact ⟨W, .op i un r, H, h, .inr (.inl ⟨i, un, r, o, rfl, ho, hr, hm⟩)⟩
      | true =>
        rw [hm] at hw
        simp only at hw
        rw [ck_iff] at hw
        obtain ⟨hD, hw⟩ := hw
        have hD : H.length ∉ D i := by simpa using hD
        rcases gd_cases (xguard_gd hw) with ⟨hwt, e', h1, h2⟩ | ⟨hwt, e', h1, h3⟩
        · obtain ⟨mk, blk, hmk, h3⟩ := xop_make hm h2
          obtain ⟨ev, hs'⟩ := new_none h.sat.hs blk
          obtain ⟨hnd, hname⟩ := make_blk hmk
          refine Inv.advance (rest := r) (W := (i, mk H.length) :: W) (H := H ++ [blk]) ⟨?_, h.closed, fun j hj => ?_, fun X j u Y oj hW hj hoj => ?_, fun j k u u' n oj ok hj hk hne lj lk hoj hok mj mk' hn => ?_, ⟨_, ?_, h3⟩, by simpa using d1, by simpa using d3, fun p hp => List.mem_cons_of_mem _ (h.raced p hp), fun q x oq n hq hoq mq hn => (by
              rcases List.mem_cons.1 hq with e | hq
              · cases e; rw [hname] at hn; cases hn; exact hD
              · exact h.early q x oq n hq hoq mq hn)⟩
          · rw [List.filter_cons, hni]
            exact h.sat.go ev hs' (Below.refl _ _)
          · simp only [List.map_cons, List.mem_cons]; exact .inr (h.sub j hj)
          · cases X with
            | nil =>
              simp only [List.nil_append, List.cons.injEq, Prod.mk.injEq] at hW
              obtain ⟨⟨rfl, rfl⟩, rfl⟩ := hW
              rw [ho] at hoj; cases hoj
              refine .inr ⟨hm, same_envM he (.inl ⟨hwt, H.length, mk, blk, rfl, xmake_env (fun x _ => opd_lk h1 x) hmk, getElem?_snoc_eq, hnd, fun _ => h.sat.hs.dom', h.sat.ev.len⟩)⟩
            | cons x X =>
              simp only [List.cons_append, List.cons.injEq] at hW
              refine (h.obl X j u Y oj hW.2 hj hoj).imp (fun h => ⟨h.1, ob_le (LeX.append _ H [blk]).le h.2⟩) fun h => ⟨h.1, obM_go h.2 (fun n b _ hb _ => by rw [getElem?_snoc_lt (lt_of_getElem? hb)]; exact hb) fun _ _ _ _ _ h => h⟩
          · have old : ∀ {q oq x m}, (q, x) ∈ W → L q = false → ops[q]? = some oq → isMk oq = true → nameOf x = some m → m < H.length := fun {q oq x m} hq lq hoq mq hn => by
              obtain ⟨X, Y, hW⟩ := List.append_of_mem hq
              rcases h.obl X q x Y oq hW lq hoq with h | h
              · rw [mk_notRd mq] at h; cases h.1
              · obtain ⟨blk, hb⟩ := obM_name h.2 hn
                exact lt_of_getElem? hb
            rcases List.mem_cons.1 hj with e1 | hj <;> rcases List.mem_cons.1 hk with e2 | hk
            · cases e1; cases e2; exact (hne rfl).elim
            · cases e1
              rw [hname] at hn; cases hn
              exact fun hh => by have := old hk lk hok mk' hh; omega
            · cases e2
              rw [hname]
              exact fun hh => by have := old hj lj hoj mj hn; cases hh; omega
            · exact h.uniq j k u u' n oj ok hj hk hne lj lk hoj hok mj mk' hn
          · simp only [wenv, slot_dst ho]
            exact (h1.trans he).putd _ _
        · refine Inv.advance (rest := r) (W := (i, .tup []) :: W) (H := H) ⟨?_, h.closed, fun j hj => ?_, fun X j u Y oj hW hj hoj => ?_, fun j k u u' n oj ok hj hk hne lj lk hoj hok mj mk' hn => ?_, ⟨_, ?_, h3⟩, by simpa using d1, by simpa using d3, fun p hp => List.mem_cons_of_mem _ (h.raced p hp), fun q x oq n hq hoq mq hn => (by
              rcases List.mem_cons.1 hq with e | hq
              · cases e; simp [nameOf] at hn
              · exact h.early q x oq n hq hoq mq hn)⟩
          · rw [List.filter_cons, hni]
            simpa using h.sat
          · simp only [List.map_cons, List.mem_cons]; exact .inr (h.sub j hj)
          · cases X with
            | nil =>
              simp only [List.nil_append, List.cons.injEq, Prod.mk.injEq] at hW
              obtain ⟨⟨rfl, rfl⟩, rfl⟩ := hW
              rw [ho] at hoj; cases hoj
              exact .inr ⟨hm, same_envM he (.inr ⟨hwt, rfl⟩)⟩
            | cons x X =>
              simp only [List.cons_append, List.cons.injEq] at hW
              exact h.obl X j u Y oj hW.2 hj hoj
          · rcases List.mem_cons.1 hj with e1 | hj <;> rcases List.mem_cons.1 hk with e2 | hk
            · cases e1; cases e2; exact (hne rfl).elim
            · cases e1; simp [nameOf] at hn
            · cases e2; simp [nameOf]
            · exact h.uniq j k u u' n oj ok hj hk hne lj lk hoj hok mj mk' hn
          · simp only [wenv, slot_dst ho]
            exact (h1.trans he).putd _ _

end

end Go.Proofs.YthpkehhghcpolaaDoor
