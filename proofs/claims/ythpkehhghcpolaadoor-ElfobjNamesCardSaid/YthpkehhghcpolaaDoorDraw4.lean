/-
  Regions that draw their order: the walk.
-/
import Derived.Test.YthpkehhghcpolaaDoorDraw3
namespace Go.Proofs.YthpkehhghcpolaaDoor
open Go.RowKit
set_option linter.unusedVariables false
set_option linter.unusedSimpArgs false

section
variable {P : Program} {tab : Tab} {ops : Array Oper} {ms : List Nat} {D : Nat → List Nat}

theorem ready_of {listed : Array Bool} (hsz : listed.size = ops.size) {i : Nat} {o : Oper} (ho : ops[i]? = some o) (hl : listed.getD i false = false) (hb : ∀ j ∈ binders o, listed.getD j false = true) : i ∈ Region.ready .any ops listed := by
  have hlt : i < listed.size := by rw [hsz]; exact (Array.getElem?_eq_some_iff.1 ho).1
  rw [mem_ready]
  refine ⟨?_, o, ho, fun e he hbe => hb e.on ?_⟩
  · simp only [Array.getD_eq_getD_getElem?, Array.getElem?_eq_getElem hlt, Option.getD_some] at hl ⊢; exact hl
  · simp only [binders, List.mem_map, List.mem_filter]
    exact ⟨e, ⟨by simpa using he, hbe⟩, rfl⟩

theorem of_ready {listed : Array Bool} (hsz : listed.size = ops.size) {i : Nat} (h : i ∈ Region.ready .any ops listed) : ∃ o, ops[i]? = some o ∧ listed.getD i false = false ∧ ∀ j ∈ binders o, listed.getD j false = true := by
  rw [mem_ready] at h
  obtain ⟨h0, o, ho, hall⟩ := h
  have hlt : i < listed.size := by rw [hsz]; exact (Array.getElem?_eq_some_iff.1 ho).1
  refine ⟨o, ho, ?_, fun j hj => ?_⟩
  · simp only [Array.getD_eq_getD_getElem?, Array.getElem?_eq_getElem hlt, Option.getD_some] at h0 ⊢; exact h0
  · simp only [binders, List.mem_map, List.mem_filter] at hj
    obtain ⟨e, ⟨h1, h2⟩, rfl⟩ := hj
    exact hall e (by simpa using h1) h2

theorem first_un {L : Nat → Bool} : ∀ {W : List (Nat × AV)}, (∃ e ∈ W, L e.1 = false) → ∃ X i v Y, W = X ++ (i, v) :: Y ∧ L i = false ∧ ∀ e ∈ Y, L e.1 = true
  | [], h => by simp at h
  | (j, u) :: r, h => by
    by_cases hr : ∃ e ∈ r, L e.1 = false
    · obtain ⟨X, i, v, Y, h1, h2, h3⟩ := first_un hr
      exact ⟨(j, u) :: X, i, v, Y, by rw [h1]; rfl, h2, h3⟩
    · obtain ⟨e, he, hl⟩ := h
      rcases List.mem_cons.1 he with rfl | he
      · exact ⟨[], j, u, r, rfl, hl, fun e he => by
          cases hL : L e.1 with
          | true => rfl
          | false => exact (hr ⟨e, he, hL⟩).elim⟩
      · exact (hr ⟨e, he, hl⟩).elim

theorem race_head {x : Ord} {R : List (Nat × Nat)} {done : List Nat} {i : Nat} (h : drawOK ops ms x R done = true) (hx : x.head = some i) : i ∉ done := by
  cases x with
  | op k fl r =>
    cases hx
    simp only [drawOK, Bool.and_eq_true] at h
    obtain ⟨h, _⟩ := h
    split at h
    · simp only [Bool.and_eq_true, List.all_eq_true] at h
      intro hi
      have := (h.1.2 _ hi).1
      simp at this
    · cases h
  | nil => cases hx
  | race => cases hx

theorem later_pair {i q : Nat} (hi : i < ops.size) : ∀ {r : Ord} {R : List (Nat × Nat)} {done : List Nat}, drawOK ops ms r R done = true → q ∈ done → i ∉ done →
    (ms.getD i 0).testBit q = true ∨ (∃ oq oi, ops[q]? = some oq ∧ ops[i]? = some oi ∧ apartOps ops oq oi = true) ∨ (q, i) ∈ R
  | .race a b, R, done, h, hq, hn => by
    simp only [drawOK] at h
    split at h
    · rename_i j i2 hj hi2
      simp only [Bool.and_eq_true] at h
      by_cases e : (q, i) = (j, i2)
      · rcases later_pair hi h.2 hq hn with h1 | h1 | h1
        · exact .inl h1
        · exact .inr (.inl h1)
        · rcases List.mem_cons.1 h1 with e2 | h1
          · cases e; cases e2; exact absurd hq (race_head h.2 hi2)
          · exact .inr (.inr h1)
      · rcases later_pair hi h.1.2 hq hn with h1 | h1 | h1
        · exact .inl h1
        · exact .inr (.inl h1)
        · rcases List.mem_cons.1 h1 with e2 | h1
          · exact (e e2).elim
          · exact .inr (.inr h1)
    · cases h
  | .nil, R, done, h, hq, hn => by
    simp only [drawOK, List.all_eq_true, List.mem_range] at h
    exact (hn (by simpa using h i hi)).elim
  | .op k fl r, R, done, h, hq, hn => by
    by_cases hk : k = i
    · subst hk
      simp only [drawOK, Bool.and_eq_true] at h
      cases ho : ops[k]? with
      | none => rw [ho] at h; simp at h
      | some oi =>
        rw [ho] at h
        simp only [Bool.and_eq_true, List.all_eq_true, Bool.or_eq_true] at h
        rcases (h.1.1.2 q hq).2 with (h | h) | h
        · exact .inl h
        · refine .inr (.inl ?_)
          split at h
          · rename_i oq hoq; exact ⟨oq, oi, hoq, rfl, h⟩
          · cases h
        · exact .inr (.inr (by simpa using h.1))
    · simp only [drawOK, Bool.and_eq_true] at h
      exact later_pair hi h.2 (by simp [hq]) (by simp [hn]; exact fun e => hk e.symm)

variable {env0 : List (Nat × AV)} {O : Org} {K : St → Prop}

theorem race_op {x : Ord} {i : Nat} (hx : x.head = some i) : ∃ fl r, x = .op i fl r := by
  cases x with
  | op k fl r => cases hx; exact ⟨fl, r, rfl⟩
  | nil => cases hx
  | race => cases hx

theorem race_spec {a b : Ord} {R : List (Nat × Nat)} {done : List Nat} (h : drawOK ops ms (.race a b) R done = true) :
    ∃ j fl r i fl' r', a = .op j fl r ∧ b = .op i fl' r' ∧ chainB ops j = true ∧ chainB ops i = true ∧ drawOK ops ms (.op j fl r) ((j, i) :: R) done = true ∧ drawOK ops ms (.op i fl' r') ((i, j) :: R) done = true := by
  simp only [drawOK] at h
  split at h
  · rename_i j i hj hi
    simp only [Bool.and_eq_true] at h
    obtain ⟨fl, r, rfl⟩ := race_op hj
    obtain ⟨fl', r', rfl⟩ := race_op hi
    exact ⟨j, fl, r, i, fl', r', rfl, rfl, h.1.1.1, h.1.1.2, h.1.2, h.2⟩
  · cases h

theorem chain_spec {j : Nat} (h : chainB ops j = true) : ∃ o, ops[j]? = some o ∧ isRd o = false ∧ isMk o = false := by
  unfold chainB at h
  split at h
  · rename_i o ho
    simp only [Bool.and_eq_true, Bool.not_eq_true'] at h
    exact ⟨o, ho, h.1, h.2⟩
  · cases h

/-- What writes and was walked was done by the model as well. -/
theorem Inv.chain_in {L : Nat → Bool} {W : List (Nat × AV)} {rest : Ord} {R : List (Nat × Nat)} {H : AH} {c : Cx} {a : Act} {w : World} (h : Inv P tab ops ms D env0 O K L W rest R H c a w) {j : Nat} (hj : j ∈ W.map Prod.fst) (hc : chainB ops j = true) : L j = true := by
  cases hL : L j with
  | true => rfl
  | false =>
    simp only [List.mem_map] at hj
    obtain ⟨⟨j', v⟩, hm, rfl⟩ := hj
    obtain ⟨X, Y, hW⟩ := List.append_of_mem hm
    obtain ⟨o, ho, h1, h2⟩ := chain_spec hc
    rcases h.obl X j' v Y o hW hL ho with h3 | h3
    · rw [h1] at h3; cases h3.1
    · rw [h2] at h3; cases h3.1

theorem Inv.over {Q : Exit → Act → World → Prop} (hK : Good O K (Q .normal)) {listed : Array Bool} (hsz : listed.size = ops.size) {W : List (Nat × AV)} {rest : Ord} {R : List (Nat × Nat)} {H : AH} {c : Cx} {a : Act} {w : World}
    (h : Inv P tab ops ms D env0 O K (fun i => listed.getD i false) W rest R H c a w) (hr : Region.ready .any ops listed = []) : Q .normal a w := by
  obtain ⟨W, rest, H, h, hrest⟩ := h.advance
  have hall : ∀ e ∈ W, listed.getD e.1 false = true := by
    intro e he
    cases hL : listed.getD e.1 false with
    | true => rfl
    | false =>
      obtain ⟨X, i, v, Y, hW, hi, hY⟩ := first_un (L := fun i => listed.getD i false) ⟨e, he, hL⟩
      have hd := h.done
      rw [hW, List.map_append, List.map_cons] at hd
      obtain ⟨⟨oi, ho, hb, _⟩, _⟩ := (doneOK_split hd).1
      have := ready_of hsz ho hi fun j hj => by
        have := hb j hj
        simp only [List.mem_map] at this
        obtain ⟨e', h1, rfl⟩ := this
        exact hY e' h1
      rw [hr] at this
      cases this
  have stuck : ∀ {q fl r R'}, drawOK ops ms (.op q fl r) R' (W.map Prod.fst) = true → False := by
    intro q fl r R' hmore
    obtain ⟨d1, d2, d3⟩ := drawOK_step hmore h.done
    obtain ⟨⟨oq', ho', hb, hne⟩, _⟩ := d1
    have hnl : listed.getD q false = false := by
      cases hL : listed.getD q false with
      | false => rfl
      | true => exact ((hne q (h.sub q hL)).1 rfl).elim
    have := ready_of hsz ho' hnl fun j hj => by
      have := hb j hj
      simp only [List.mem_map] at this
      obtain ⟨e', h1, rfl⟩ := this
      exact hall e' h1
    rw [hr] at this
    cases this
  rcases hrest with rfl | ⟨q, fl, r, oq, rfl, ho, hq, hqm⟩ | ⟨ra, rb, rfl⟩
  · obtain ⟨e, he, hw⟩ := h.walk
    have hf : W.filter (fun e => listed.getD e.1 false) = W := List.filter_eq_self.2 hall
    have hs := h.sat
    rw [hf] at hs
    exact hK _ c a w (hs.lkeq he) hw
  · exact (stuck h.more).elim
  · obtain ⟨j, fl, r, i, fl', r', rfl, rfl, _, _, h1, _⟩ := race_spec h.more
    exact (stuck h1).elim

theorem Inv.fire (hT : TabOK P tab) (hms : MsOK ops ms) (hops : ∀ (i : Nat) o, ops[i]? = some o → dstOK O.N o = true) {L L' : Nat → Bool} {W : List (Nat × AV)} {rest : Ord} {R0 R : List (Nat × Nat)} {H : AH} {c : Cx} {a : Act} {w : World}
    (h : Inv P tab ops ms D env0 O K L W rest R0 H c a w) {i : Nat} {o : Oper} {un : List Nat} {r : Ord} (ho : ops[i]? = some o) (hl : L i = false) (hb : ∀ j ∈ binders o, L j = true) (hi' : L' i = true) (hot : ∀ j, j ≠ i → L' j = L j)
    (hq : isRd o = false) (hqm : isMk o = false) (hW : i ∉ W.map Prod.fst) (hwalk : ∃ e, LkEq e (wenv ops env0 W) ∧ xdr tab (CallS P) ops D (.op i un r) ⟨e, H⟩ K) (hmore : drawOK ops ms (.op i un r) R (W.map Prod.fst) = true) (hrace : ∀ p ∈ R, p.1 = i ∨ p.1 ∈ W.map Prod.fst)
    {next : Act → World → Prop} {Q : Exit → Act → World → Prop} (hn : ∀ W rest R H c a w, Inv P tab ops ms D env0 O K L' W rest R H c a w → next a w) :
    if Region.wanted o (yielded ops a.tmps) then o.wp P a w next Q else next (a.put o.dst undef) w := by
  have anc : ∀ j, (ms.getD i 0).testBit j = true → L j = true := fun j hj => hms i j hj L h.closed fun o' ho' k hk => by rw [ho] at ho'; cases ho'; exact hb k hk
  have anc' : ∀ k j, L k = true → (ms.getD k 0).testBit j = true → L j = true := fun k j hk hj => hms k j hj L h.closed fun o' ho' q hq => h.closed k o' ho' hk q hq
  have up : ∀ j, L j = true → L' j = true := fun j hj => by
    by_cases e : j = i
    · subst e; exact hi'
    · rw [hot j e]; exact hj
  have hcl : Closed ops L' := fun k ok hk hLk j hj => by
    by_cases e : k = i
    · subst e; rw [ho] at hk; cases hk; exact up j (hb j hj)
    · rw [hot k e] at hLk; exact up j (h.closed k ok hk hLk j hj)
  have hlt : i < ops.size := (Array.getElem?_eq_some_iff.1 ho).1
  obtain ⟨d1, d2, d3⟩ := drawOK_step hmore h.done
  have d1' := d1
  obtain ⟨⟨oq', ho', hbq, hne⟩, _⟩ := d1
  rw [ho] at ho'; cases ho'
  obtain ⟨e, he, hw⟩ := hwalk
  simp only [xdr] at hw
  rw [opt_iff] at hw
  obtain ⟨o', ho', hw⟩ := hw
  rw [ho] at ho'; cases ho'
  rw [hq, hqm] at hw
  simp only at hw
  have hsm : Same ops o e (wenv ops env0 (W.filter fun e => L e.1)) := same_of fun t ht => by
    rw [he t, lk_wenv_all fun e' he' hs => ?_]
    rcases (hne e'.1 (List.mem_map.2 ⟨e', he', rfl⟩)).2 with hb2 | ⟨oj, a2, a3⟩ | hch
    · exact anc _ hb2
    · rw [slot_dst a2] at hs
      exact ((apart_spec a3).2.1 t hs ht).elim
    · exact h.chain_in (List.mem_map.2 ⟨e', he', rfl⟩) hch
  refine ch_step hT hw hsm (hops i o ho) h.sat fun v c' H' a' w' e' hs' hst he' hk => ?_
  obtain ⟨hle, hk'⟩ := hk
  have hch : chainB ops i = true := by unfold chainB; rw [ho]; simp only [hq, hqm]; rfl
  have hnW : ∀ e ∈ W, e.1 ≠ i := fun e he e' => hW (List.mem_map.2 ⟨e, he, e'⟩)
  refine hn ((i, v) :: W) r R H' c' a' w' ⟨?_, hcl, fun j hj => ?_, fun X' j u Y' oj hW' hj hoj => ?_, fun j k u u' n oj ok hj hk hne lj lk hoj hok mj mk' hnm => ?_, ⟨_, ?_, hk'⟩, by simpa using d1', by simpa using d3, fun p hp => (hrace p hp).elim (fun e => (by simp [e])) (fun e => List.mem_cons_of_mem _ e), fun q' x oq' n hq' hoq' mq' hn' => (by
          rcases List.mem_cons.1 hq' with e | hq'
          · cases e; rw [ho] at hoq'; cases hoq'; rw [hqm] at mq'; cases mq'
          · exact h.early q' x oq' n hq' hoq' mq' hn')⟩
  · have hf : W.filter (fun e => L' e.1) = W.filter fun e => L e.1 := List.filter_congr fun e he => hot e.1 (hnW e he)
    rw [List.filter_cons, hi', if_pos rfl, hf]
    simp only [wenv, slot_dst ho]
    exact hs'
  · simp only [List.map_cons, List.mem_cons]
    by_cases e : j = i
    · exact .inl e
    · rw [hot j e] at hj; exact .inr (h.sub j hj)
  · cases X' with
    | nil =>
      simp only [List.nil_append, List.cons.injEq, Prod.mk.injEq] at hW'
      obtain ⟨⟨rfl, rfl⟩, rfl⟩ := hW'
      rw [hi'] at hj; cases hj
    | cons x X' =>
      simp only [List.cons_append, List.cons.injEq] at hW'
      have hjW : (j, u) ∈ W := by rw [hW'.2]; simp
      have e : j ≠ i := hnW _ hjW
      rw [hot j e] at hj
      have hjm : j ∈ W.map Prod.fst := List.mem_map.2 ⟨_, hjW, rfl⟩
      have hun : j ∈ un := by
        rcases d2 hch j hjm with h1 | h1 | h1
        · have := anc _ h1; rw [hj] at this; cases this
        · have := h.chain_in hjm h1; rw [hj] at this; cases this
        · exact h1
      have hle := hle j hun
      exact (h.obl X' j u Y' oj hW'.2 hj hoj).imp (fun o => ⟨o.1, ob_le hle.le o.2⟩) fun o => ⟨o.1, obM_go o.2 (fun n b hn hb hnd => by
          have hD := h.early j u oj n hjW hoj o.1 hn
          have h1 := hide_get (D j) hb
          rw [if_neg hD] at h1
          exact (hle n b h1).resolve_left hnd) fun n blk _ hb hf hg => hst n blk hb hf hg⟩
  · have e1 : j ≠ i := fun e => by rw [e, hi'] at lj; cases lj
    have e2 : k ≠ i := fun e => by rw [e, hi'] at lk; cases lk
    rw [hot j e1] at lj
    rw [hot k e2] at lk
    have inW : ∀ {q x}, q ≠ i → (q, x) ∈ (i, v) :: W → (q, x) ∈ W := fun {q x} hq hx => by
      rcases List.mem_cons.1 hx with e | hx
      · cases e; exact (hq rfl).elim
      · exact hx
    exact h.uniq j k u u' n oj ok (inW e1 hj) (inW e2 hk) hne lj lk hoj hok mj mk' hnm
  · simp only [wenv, slot_dst ho]
    exact (he'.trans he).putd _ _

theorem Inv.step (hT : TabOK P tab) (hms : MsOK ops ms) (hops : ∀ (i : Nat) o, ops[i]? = some o → dstOK O.N o = true) {L L' : Nat → Bool} {W : List (Nat × AV)} {rest : Ord} {R : List (Nat × Nat)} {H : AH} {c : Cx} {a : Act} {w : World}
    (h : Inv P tab ops ms D env0 O K L W rest R H c a w) {i : Nat} {o : Oper} (ho : ops[i]? = some o) (hl : L i = false) (hb : ∀ j ∈ binders o, L j = true) (hi' : L' i = true) (hot : ∀ j, j ≠ i → L' j = L j)
    {next : Act → World → Prop} {Q : Exit → Act → World → Prop} (hn : ∀ W rest R H c a w, Inv P tab ops ms D env0 O K L' W rest R H c a w → next a w) :
    if Region.wanted o (yielded ops a.tmps) then o.wp P a w next Q else next (a.put o.dst undef) w := by
  obtain ⟨W, rest, H, h, hrest⟩ := h.advance
  have anc : ∀ j, (ms.getD i 0).testBit j = true → L j = true := fun j hj => hms i j hj L h.closed fun o' ho' k hk => by rw [ho] at ho'; cases ho'; exact hb k hk
  have anc' : ∀ k j, L k = true → (ms.getD k 0).testBit j = true → L j = true := fun k j hk hj => hms k j hj L h.closed fun o' ho' q hq => h.closed k o' ho' hk q hq
  have up : ∀ j, L j = true → L' j = true := fun j hj => by
    by_cases e : j = i
    · subst e; exact hi'
    · rw [hot j e]; exact hj
  have hcl : Closed ops L' := fun k ok hk hLk j hj => by
    by_cases e : k = i
    · subst e; rw [ho] at hk; cases hk; exact up j (hb j hj)
    · rw [hot k e] at hLk; exact up j (h.closed k ok hk hLk j hj)
  by_cases hW : i ∈ W.map Prod.fst
  · simp only [List.mem_map] at hW
    obtain ⟨⟨i', v⟩, hm, rfl⟩ := hW
    obtain ⟨X, Y, rfl⟩ := List.append_of_mem hm
    simp only at ho hl hb hi' hot anc
    have ob := h.obl X i' v Y o rfl hl ho
    have hd := h.done
    rw [List.map_append, List.map_cons] at hd
    obtain ⟨⟨⟨oi, ho', hb', hY⟩, _⟩, hX⟩ := doneOK_split hd
    rw [ho] at ho'; cases ho'
    have hXl : ∀ e ∈ X, ∀ t, guardSlot ops e.1 = some t → (t ∈ o.looksAt ops ∨ o.dst = some t) → L e.1 = false := fun e he t hs ht => by
      cases hL : L e.1 with
      | false => rfl
      | true =>
        rcases (hX e.1 (List.mem_map.2 ⟨e, he, rfl⟩)).2 with hb2 | ⟨oi, ok, a1, a2, a3⟩ | hch
        · have := anc' _ _ hL hb2
          rw [hl] at this; cases this
        · rw [ho] at a1; cases a1
          rw [slot_dst a2] at hs
          obtain ⟨_, _, b3⟩ := apart_spec a3
          rcases ht with ht | ht
          · exact ((b3 t hs).1 ht).elim
          · exact ((b3 t hs).2 ht).elim
        · have := h.chain_in (j := i') (by simp) hch
          rw [hl] at this; cases this
    have hYl : ∀ e ∈ Y, ∀ t, guardSlot ops e.1 = some t → t ∈ o.looksAt ops → L e.1 = true := fun e he t hs ht => by
      rcases (hY e.1 (List.mem_map.2 ⟨e, he, rfl⟩)).2 with hb2 | ⟨oj, a2, a3⟩ | hch
      · exact anc _ hb2
      · rw [slot_dst a2] at hs
        exact ((apart_spec a3).2.1 t hs ht).elim
      · exact h.chain_in (List.mem_map.2 ⟨e, by simp [he], rfl⟩) hch
    have hsm : Same ops o (wenv ops env0 Y) (wenv ops env0 ((X ++ (i', v) :: Y).filter fun e => L e.1)) := same_of fun t ht => by
      rw [lk_wenv_skip fun e he hs => hXl e he t hs (.inl ht), List.filter_cons, hl]
      simp only [Bool.false_eq_true, if_false]
      rw [lk_wenv_all fun e he hs => hYl e he t hs ht]
    have go : ∀ c' a' w', Sat O c' ⟨putd o.dst v (wenv ops env0 ((X ++ (i', v) :: Y).filter fun e => L e.1)), H⟩ a' w' →
        (∀ X' j u Y' oj, X ++ (i', v) :: Y = X' ++ (j, u) :: Y' → j ≠ i' → L j = false → ops[j]? = some oj → isMk oj = true → ObM tab ops O (D j) oj (wenv ops env0 Y') H c u → ObM tab ops O (D j) oj (wenv ops env0 Y') H c' u) → next a' w' := by
      intro c' a' w' hs' hM
      refine hn (X ++ (i', v) :: Y) rest R H c' a' w' ⟨?_, hcl, fun j hj => ?_, fun X' j u Y' oj hW' hj hoj => ?_, fun j k u u' n oj ok hj hk hne lj lk hoj hok mj mk' hnm => ?_, h.walk, h.done, h.more, h.raced, h.early⟩
      · refine hs'.lkeq ?_
        have := lk_wenv_put (ops := ops) (env0 := env0) (v := v) hl hi' hot (Y := Y) (fun e he => fun e' => (hY e.1 (List.mem_map.2 ⟨e, he, rfl⟩)).1 e'.symm) (X := X) (fun e he => (hX e.1 (List.mem_map.2 ⟨e, he, rfl⟩)).1)
          (fun e he t h1 h2 => hXl e he t h1 (.inr (by rw [← slot_dst ho]; exact h2)))
        rw [slot_dst ho] at this
        exact this
      · by_cases e : j = i'
        · subst e; simp
        · rw [hot j e] at hj; exact h.sub j hj
      · have e : j ≠ i' := fun e => by rw [e, hi'] at hj; cases hj
        rw [hot j e] at hj
        exact (h.obl X' j u Y' oj hW' hj hoj).imp id fun k => ⟨k.1, hM X' j u Y' oj hW' e hj hoj k.1 k.2⟩
      · have e1 : j ≠ i' := fun e => by rw [e, hi'] at lj; cases lj
        have e2 : k ≠ i' := fun e => by rw [e, hi'] at lk; cases lk
        rw [hot j e1] at lj
        rw [hot k e2] at lk
        exact h.uniq j k u u' n oj ok hj hk hne lj lk hoj hok mj mk' hnm
    rcases ob with ⟨hrd, ob⟩ | ⟨hmk, ob⟩
    · exact ob_step hT ob hsm (hops i' o ho) h.sat fun c' a' w' hs' hst => go c' a' w' hs' fun X' j u Y' oj _ _ _ _ _ k => obM_go k (fun _ _ _ hb _ => hb) fun n blk _ hb hf hg => hst n blk hb hf hg
    · refine obM_step hT ob hsm (hops i' o ho) h.sat fun c' a' w' hs' hst => go c' a' w' hs' fun X' j u Y' oj hW' hj lj hoj mj k => obM_go k (fun _ _ _ hb _ => hb) fun n blk hn hb hf hg => hst n (fun hv => ?_) hg
      exact h.uniq i' j v u n o oj (by simp) (by rw [hW']; simp) (Ne.symm hj) hl lj ho hoj hmk mj hv hn
  · have hlt : i < ops.size := (Array.getElem?_eq_some_iff.1 ho).1
    have other : ∀ {q fl r R' oq}, drawOK ops ms (.op q fl r) R' (W.map Prod.fst) = true → ops[q]? = some oq → isRd oq = false → isMk oq = false → i ≠ q → ((q, i) ∈ R' → q ∈ W.map Prod.fst) → False := by
      intro q fl r R' oq hmore hoq hq hqm hiq hR
      obtain ⟨d1, d2, d3⟩ := drawOK_step hmore h.done
      obtain ⟨⟨oq', ho', hbq, hne⟩, _⟩ := d1
      rcases later_pair (q := q) hlt d3 (by simp) (by simp only [List.mem_cons, not_or]; exact ⟨hiq, hW⟩) with h1 | ⟨oq', oi, a1, a2, a3⟩ | h1
      · exact (hne q (h.sub q (anc _ h1))).1 rfl
      · rw [hoq] at a1; cases a1
        have := (apart_spec a3).1
        rw [hq, hqm] at this; cases this
      · exact (hne q (hR h1)).1 rfl
    rcases hrest with rfl | ⟨q, fl, r, oq, rfl, hoq, hq, hqm⟩ | ⟨ra, rb, rfl⟩
    · have := h.more
      simp only [drawOK, List.all_eq_true, List.mem_range] at this
      exact (hW (by simpa using this i hlt)).elim
    · by_cases hiq : i = q
      · subst hiq
        rw [ho] at hoq; cases hoq
        exact h.fire hT hms hops ho hl hb hi' hot hq hqm hW h.walk h.more (fun p hp => .inr (h.raced p hp)) hn
      · exact (other h.more hoq hq hqm hiq (fun hR => h.raced _ hR)).elim
    · obtain ⟨j, fl, r, k, fl', r', rfl, rfl, c1, c2, h1, h2⟩ := race_spec h.more
      obtain ⟨oj, hoj, hj1, hj2⟩ := chain_spec c1
      obtain ⟨ok, hok, hk1, hk2⟩ := chain_spec c2
      obtain ⟨e, he, hwa, hwb⟩ := h.walk
      by_cases hij : i = j
      · subst hij
        rw [ho] at hoj; cases hoj
        exact h.fire hT hms hops ho hl hb hi' hot hj1 hj2 hW ⟨e, he, hwa⟩ h1 (fun p hp => by
          rcases List.mem_cons.1 hp with e | hp
          · exact .inl (by rw [e])
          · exact .inr (h.raced p hp)) hn
      · by_cases hik : i = k
        · subst hik
          rw [ho] at hok; cases hok
          exact h.fire hT hms hops ho hl hb hi' hot hk1 hk2 hW ⟨e, he, hwb⟩ h2 (fun p hp => by
            rcases List.mem_cons.1 hp with e | hp
            · exact .inl (by rw [e])
            · exact .inr (h.raced p hp)) hn
        · refine (other h1 hoj hj1 hj2 hij fun hR => ?_).elim
          rcases List.mem_cons.1 hR with e | hR
          · cases e; exact (hik rfl).elim
          · exact h.raced _ hR

end
end Go.Proofs.YthpkehhghcpolaaDoor
