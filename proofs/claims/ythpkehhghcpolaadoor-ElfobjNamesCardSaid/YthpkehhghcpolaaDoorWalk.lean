/-
  Operations, regions, pieces of code: what the walk says is what the model does.
-/
import Derived.Test.YthpkehhghcpolaaDoorCalls
namespace Go.Proofs.YthpkehhghcpolaaDoor
open Go.RowKit
set_option linter.unusedVariables false
set_option linter.unusedSimpArgs false

theorem RA.rt {w : World} {c : Cx} {H : AH} {x : T} {v : Value} (h : RA w c H (.t x) v) : RT w (c.M H) x v := by cases h with | t _ _ h => exact h

section
variable {P : Program} {tab : Tab}

theorem opd_ok {w : World} {c : Cx} {H : AH} {env : List (Nat × AV)} {a : Act} (he : ∀ t, RA w c H (lk env t) (a.tmps.getD t undef)) (x : Operand) : RA w c H (opd env x) (a.eval x) := by
  cases x with
  | tmp t => exact he t
  | const v => exact ofVal_ok v
  | global g => exact .junk _
  | func f => exact .t _ _ (.fn (.func f) [] [] #[] #[] rfl rfl (by simp) (by simp))

theorem opds_ok {w : World} {c : Cx} {H : AH} {env : List (Nat × AV)} {a : Act} (he : ∀ t, RA w c H (lk env t) (a.tmps.getD t undef)) (l : List Operand) :
    ∀ (i : Nat) x v, (l.map (opd env))[i]? = some x → (l.map a.eval)[i]? = some v → RA w c H x v := by
  intro i x v hi hv
  simp only [List.getElem?_map, Option.map_eq_some_iff] at hi hv
  obtain ⟨o, ho, rfl⟩ := hi
  obtain ⟨o', ho', rfl⟩ := hv
  rw [ho] at ho'; cases ho'
  exact opd_ok he o

theorem parts_ok {w : World} {c : Cx} {H : AH} {env : List (Nat × AV)} {a : Act} (he : ∀ t, RA w c H (lk env t) (a.tmps.getD t undef)) (l : List (Nat × Operand)) :
    RParts w c H (l.map fun p => (p.1, opd env p.2)) (l.map fun p => (p.1, a.eval p.2)) := by
  induction l with
  | nil => exact .nil
  | cons p r ih => exact .cons _ _ _ _ _ (opd_ok he p.2) ih

/-- What an operation must do, seen from its end. -/
def Then (P : Program) (o : Oper) (a : Act) (w : World) (c : Cx) (H : AH) (B : Nat) (K : AV → AH → Prop) (next : Act → World → Prop) : Prop :=
  ∀ v val w' c' H', RA w' c' H' v val → HS w' c' H' B → Ev w c H w' c' H' → Below B w w' → K v H' → next (a.put o.dst val) w'

theorem wp_value {o : Oper} {a : Act} {w : World} {c : Cx} {H : AH} {B : Nat} {K : AV → AH → Prop} {next : Act → World → Prop} {Q : Exit → Act → World → Prop} (hK : Then P o a w c H B K next) {m : Sem Value}
    (hrun : execOp a.eval o = (do pure (.value (← m)))) (h : MOut P m w c H B K) : o.wp P a w next Q := by
  obtain ⟨v, val, w', c', H', h1, h2, h3, h4, h5, h6⟩ := h
  unfold Oper.wp
  rw [hrun]
  simp only [Sem.run_bind, h1, Result.andThen_ok, Sem.run_pure, Oper.upon_value]
  exact hK v val w' c' H' h2 h3 h4 h5 h6

theorem wp_here {o : Oper} {a : Act} {w : World} {c : Cx} {H : AH} {B : Nat} {K : AV → AH → Prop} {next : Act → World → Prop} {Q : Exit → Act → World → Prop} (hK : Then P o a w c H B K next) (hs : HS w c H B) {m : Sem Value}
    (hrun : execOp a.eval o = (do pure (.value (← m)))) {x : AV} {val : Value} (h1 : m.run P w = .ok val w) (h2 : RA w c H x val) (h3 : K x H) : o.wp P a w next Q :=
  wp_value hK hrun (.here hs h1 h2 h3)

theorem bool_of {w c H x} {b : Bool} (h : RA w c H (.t (.bool b)) x) : x = .bool b := h.bool

theorem run_eqGuard_pure {op : BinOp} {t : TypeId} {x y : Operand} {u v : Value} (h : op ≠ .eql ∧ op ≠ .neq) (w : World) : (eqGuard op t x y u v).run P w = .ok () w := by
  cases op <;> first | rfl | (simp at h)

theorem xbin_ok (hT : TabOK P tab) {op : BinOp} {ty : TypeId} {w c H x y u v} {K : T → Prop} {xo yo : Operand} (h : xbin tab op ty H x y (isConst yo) K) (hx : RA w c H x u) (hy : RA w c H y v) :
    ∃ z val, (do eqGuard op ty xo yo u v; binOp op ty u v).run P w = .ok val w ∧ (∀ w M, RT w M z val) ∧ K z := by
  unfold xbin at h
  split at h
  · obtain rfl := hx.int
    obtain rfl := hy.int
    obtain ⟨z, val, h1, h2, h3⟩ := xint_ok (P := P) (w := w) h ty
    exact ⟨z, val, by rw [eqGuard_at_int]; simpa using h1, h2, h3⟩
  · obtain ⟨s, rfl, hs⟩ := hx.str
    obtain ⟨s', rfl, hs'⟩ := hy.str
    obtain ⟨z, val, h1, h2, h3⟩ := xstr_ok (P := P) (w := w) h ty s s' hs hs'
    exact ⟨z, val, by rw [eqGuard_at_string]; simpa using h1, h2, h3⟩
  · split at h
    · obtain ⟨p, h1, h2, h3, h4⟩ := xeq_ok (P := P) hT h hx.toAgg hy.toAgg xo yo rfl
      exact ⟨_, _, by simp only [Sem.run_bind, h1, Result.andThen_ok, h2], fun _ _ => .bool _, h4⟩
    · obtain ⟨p, h1, h2, h3, h4⟩ := xeq_ok (P := P) hT h hx.toAgg hy.toAgg xo yo rfl
      exact ⟨_, _, by simp only [Sem.run_bind, h1, Result.andThen_ok, h3], fun _ _ => .bool _, h4⟩
    · exact h.elim

theorem run_callFunc {f : FuncId} (h : Enters P f) (args : Array Value) (w : World) : (callFunc f args).run P w = .ok (.enter f args) w := by
  obtain ⟨fn, h1, h2, h3⟩ := h
  simp only [callFunc, Sem.run_bind, run_program, Result.andThen_ok, h1]
  have hb : fn.body.isNone = false := by cases hb : fn.body <;> simp [hb] at h2 ⊢
  simp [h3, hb]

/-- A call of a function. -/
theorem wp_enter {o : Oper} {a : Act} {w : World} {c : Cx} {H : AH} {B : Nat} {K : AV → AH → Prop} {next : Act → World → Prop} {Q : Exit → Act → World → Prop} (hK : Then P o a w c H B K next) (hs : HS w c H B)
    {f : FuncId} {vs : Array Value} (hrun : (execOp a.eval o).run P w = (callFunc f vs).run P w) {args : List AV} (h : CallS P f args H K) (hl : vs.size = args.length)
    (hr : ∀ (i : Nat) x v, args[i]? = some x → vs[i]? = some v → RA w c H x v) : o.wp P a w next Q := by
  unfold Oper.wp
  rw [hrun]
  rcases h B c w vs hs hl hr with ⟨hen, h⟩ | ⟨v, w', h, v', c', r, H', he, h1, h2, h3, h4, h5⟩
  · rw [run_callFunc hen, Oper.upon_enter]
    refine h.mono fun e w' ⟨v, c', r, H', he, h1, h2, h3, h4, h5⟩ => ?_
    subst he
    exact hK r v w' c' H' h1 h2 h3 h4 h5
  · rw [h, Oper.upon_value]
    cases he
    exact hK r v w' c' H' h1 h2 h3 h4 h5

theorem join_args {w c H} {A1 A2 A3 : List AV} {v1 v2 v3 : Array Value} (l1 : A1.length = v1.size) (l2 : A2.length = v2.size) (l3 : A3.length = v3.size)
    (h1 : ∀ (i : Nat) x v, A1[i]? = some x → v1[i]? = some v → RA w c H x v) (h2 : ∀ (i : Nat) x v, A2[i]? = some x → v2[i]? = some v → RA w c H x v) (h3 : ∀ (i : Nat) x v, A3[i]? = some x → v3[i]? = some v → RA w c H x v) :
    (v1 ++ v2 ++ v3).size = (A1 ++ (A2 ++ A3)).length ∧ ∀ (i : Nat) x v, (A1 ++ (A2 ++ A3))[i]? = some x → (v1 ++ v2 ++ v3)[i]? = some v → RA w c H x v := by
  refine ⟨by simp; omega, fun i x v hi hv => ?_⟩
  by_cases a1 : i < A1.length
  · rw [List.getElem?_append_left a1] at hi
    rw [Array.getElem?_append_left (by simp; omega), Array.getElem?_append_left (by omega)] at hv
    exact h1 i x v hi hv
  · rw [List.getElem?_append_right (by omega)] at hi
    by_cases a2 : i - A1.length < A2.length
    · rw [List.getElem?_append_left a2] at hi
      rw [Array.getElem?_append_left (by simp; omega), Array.getElem?_append_right (by omega)] at hv
      exact h2 _ x v hi (by rw [← l1] at hv; exact hv)
    · rw [List.getElem?_append_right (by omega)] at hi
      rw [Array.getElem?_append_right (by simp; omega)] at hv
      refine h3 _ x v hi ?_
      rw [Array.size_append, ← l1, ← l2] at hv
      rw [show i - A1.length - A2.length = i - (A1.length + A2.length) by omega]
      exact hv

theorem map_t {w c H} {l : List T} {vs : Array Value} (hr : ∀ (i : Nat) x v, l[i]? = some x → vs[i]? = some v → RT w (c.M H) x v) : ∀ (i : Nat) x v, (l.map AV.t)[i]? = some x → vs[i]? = some v → RA w c H x v := by
  intro i x v hi hv
  simp only [List.getElem?_map, Option.map_eq_some_iff] at hi
  obtain ⟨y, hy, rfl⟩ := hi
  exact .t _ _ (hr i y v hy hv)

theorem xcall_ok (hT : TabOK P tab) {o : Oper} {cl : Call} (ho : o.op = .call cl) {env : List (Nat × AV)} {H : AH} {K : AV → AH → Prop} (h : xcall tab (CallS P) cl o.type env H K) {a : Act} {w : World} {c : Cx} {B : Nat} (hs : HS w c H B)
    (he : ∀ t, RA w c H (lk env t) (a.tmps.getD t undef)) {next : Act → World → Prop} {Q : Exit → Act → World → Prop} (hK : Then P o a w c H B K next) : o.wp P a w next Q := by
  have hx : execOp a.eval o = (do let d ← resolve a.eval cl o.type; invoke d.target d.args) := by unfold execOp; rw [ho]
  unfold xcall at h
  split at h
  · rename_i b hcb
    obtain ⟨cs, hx2⟩ : ∃ cs, execOp a.eval o = builtin b cl.argTypes o.type cs (cl.args.map a.eval) := by
      rw [hx]; simp only [resolve, hcb, pure_bind, invoke]
      exact ⟨_, rfl⟩
    split at h
    · rename_i t x h1 h2
      have e1 : cl.argTypes = #[t] := by rw [← Array.toArray_toList (xs := cl.argTypes), h1]
      have e2 : cl.args.map a.eval = #[a.eval x] := by rw [← Array.toArray_toList (xs := cl.args), h2]; simp
      rw [e1, e2] at hx2
      obtain ⟨y, val, r, ra, k⟩ := xlen_ok (P := P) hT h (opd_ok he x) o.type
      exact wp_here hK hs (m := Builtin.len_ #[t] o.type #[a.eval x]) (by rw [hx2]; rfl) r ra k
    · rename_i t u x y h1 h2
      have e1 : cl.argTypes = #[t, u] := by rw [← Array.toArray_toList (xs := cl.argTypes), h1]
      have e2 : cl.args.map a.eval = #[a.eval x, a.eval y] := by rw [← Array.toArray_toList (xs := cl.args), h2]; simp
      rw [e1, e2] at hx2
      rw [opt_iff] at h
      obtain ⟨z, hz, h⟩ := h
      split at h
      · rename_i hc
        have hu : ∃ k, P.underlying u = some (.int k) := by
          have hd := (hT u z hz).d
          cases hzd : z.d <;> rw [hzd] at hc hd <;> first | exact ⟨_, hd⟩ | (simp [isIntD] at hc)
        obtain ⟨k, hu⟩ := hu
        exact wp_value hK (m := Builtin.append_ #[t, u] o.type #[a.eval x, a.eval y]) (by rw [hx2]; rfl) (xappendZ_ok hT hs (opd_ok he x) (opd_ok he y) hu h o.type)
      · rename_i hc
        have hu : ∃ d, P.underlying u = some d ∧ ∀ k, d ≠ .int k := ⟨z.d, (hT u z hz).d, fun k hk => by rw [hk] at hc; simp [isIntD] at hc⟩
        exact wp_value hK (m := Builtin.append_ #[t, u] o.type #[a.eval x, a.eval y]) (by rw [hx2]; rfl) (xappend_ok hT hs (opd_ok he x) (opd_ok he y) hu h o.type)
    · rename_i t x h1 h2
      have e1 : cl.argTypes = #[t] := by rw [← Array.toArray_toList (xs := cl.argTypes), h1]
      have e2 : cl.args.map a.eval = #[a.eval x] := by rw [← Array.toArray_toList (xs := cl.args), h2]; simp
      rw [e1, e2] at hx2
      obtain ⟨y, val, r, ra, k⟩ := xcap_ok (P := P) hT hs h (opd_ok he x) o.type
      exact wp_here hK hs (m := Builtin.cap_ #[t] o.type #[a.eval x]) (by rw [hx2]; rfl) r ra k
    · rename_i t u x y h1 h2
      have e1 : cl.argTypes = #[t, u] := by rw [← Array.toArray_toList (xs := cl.argTypes), h1]
      have e2 : cl.args.map a.eval = #[a.eval x, a.eval y] := by rw [← Array.toArray_toList (xs := cl.args), h2]; simp
      rw [e1, e2] at hx2
      exact wp_value hK (m := Builtin.copy_ #[t, u] o.type #[a.eval x, a.eval y]) (by rw [hx2]; rfl) (xcopy_ok hT hs (opd_ok he x) (opd_ok he y) h o.type)
    · rename_i x y h2
      have e2 : cl.args.map a.eval = #[a.eval x, a.eval y] := by rw [← Array.toArray_toList (xs := cl.args), h2]; simp
      rw [e2] at hx2
      obtain ⟨z, val, r, ra, k⟩ := xminmax_ok (P := P) h (opd_ok he x) (opd_ok he y) cl.argTypes o.type
      exact wp_here hK hs (m := Builtin.min_ cl.argTypes o.type #[a.eval x, a.eval y]) (by rw [hx2]; rfl) r ra k
    · rename_i x y h2
      have e2 : cl.args.map a.eval = #[a.eval x, a.eval y] := by rw [← Array.toArray_toList (xs := cl.args), h2]; simp
      rw [e2] at hx2
      obtain ⟨z, val, r, ra, k⟩ := xminmax_ok (P := P) h (opd_ok he x) (opd_ok he y) cl.argTypes o.type
      exact wp_here hK hs (m := Builtin.max_ cl.argTypes o.type #[a.eval x, a.eval y]) (by rw [hx2]; rfl) r ra k
    · exact h.elim
  · rename_i f hcf
    have hargs := opds_ok he cl.args.toList
    have hargs' : ∀ (i : Nat) x v, (cl.args.toList.map (opd env))[i]? = some x → (cl.args.map a.eval)[i]? = some v → RA w c H x v := fun i x v hi hv => hargs i x v hi (by
      rw [← Array.getElem?_toList, Array.toList_map] at hv; exact hv)
    have hf := opd_ok he f
    have run : ∀ (g : FuncId) (first captured : Array Value), a.eval f = .func (.func g) first captured →
        (execOp a.eval o).run P w = (callFunc g (first ++ cl.args.map a.eval ++ captured)).run P w := by
      intro g first captured hfe
      rw [hx]
      simp only [resolve, hcf, hfe, Deferred.ofValue, pure_bind, invoke]
    split at h
    · rename_i g first captured hfv
      rw [hfv] at hf
      generalize hfe : a.eval f = fv at hf
      cases hf with | t _ _ hf => cases hf with | fn _ _ _ p q ha hb hra hrb =>
      obtain ⟨l, r⟩ := join_args (A1 := first.map .t) (A2 := cl.args.toList.map (opd env)) (A3 := captured.map .t) (v1 := p) (v2 := cl.args.map a.eval) (v3 := q) (by simpa using ha) (by simp) (by simpa using hb) (map_t hra) hargs' (map_t hrb)
      exact wp_enter hK hs (run g p q hfe) h l r
    · rename_i g first captured hfv
      rw [hfv] at hf
      generalize hfe : a.eval f = fv at hf
      cases hf with | fn _ _ _ p q ha hb hra hrb =>
      obtain ⟨l, r⟩ := join_args (A1 := first) (A2 := cl.args.toList.map (opd env)) (A3 := captured) (v1 := p) (v2 := cl.args.map a.eval) (v3 := q) ha (by simp) hb hra hargs' hrb
      exact wp_enter hK hs (run g p q hfe) h l r
    · exact h.elim
  · exact h.elim

theorem ro_map {w c H} {env : List (Nat × AV)} {a : Act} (he : ∀ t, RA w c H (lk env t) (a.tmps.getD t undef)) (x : Option Operand) : RO w c H (x.map (opd env)) (x.map a.eval) := by
  cases x with
  | none => exact .no
  | some x => exact .yes _ _ (opd_ok he x)

/-- One operation. -/
theorem xop_ok (hT : TabOK P tab) {o : Oper} {env : List (Nat × AV)} {H : AH} {K : AV → AH → Prop} (h : xop tab (CallS P) o env H K) {a : Act} {w : World} {c : Cx} {B : Nat} (hs : HS w c H B)
    (he : ∀ t, RA w c H (lk env t) (a.tmps.getD t undef)) {next : Act → World → Prop} {Q : Exit → Act → World → Prop} (hK : Then P o a w c H B K next) : o.wp P a w next Q := by
  unfold xop at h
  split at h
  · rename_i x ho
    exact wp_here hK hs (m := pure (a.eval x)) (by unfold execOp; rw [ho]; rfl) rfl (opd_ok he x) h
  · rename_i x ho
    exact wp_value hK (m := pure (a.eval x)) (by unfold execOp; rw [ho]; rfl) (xassign_ok hs h (opd_ok he x))
  · rename_i x y z ho
    obtain ⟨b, v, val, e1, e2, ra, k⟩ := xpick_ok h (opd_ok he x) (opd_ok he y) (opd_ok he z) (.inr (.inr trivial))
    refine wp_here hK hs (m := pure val) ?_ rfl ra k
    unfold execOp; rw [ho]
    simp only [e1, asBool, pure_bind, e2]
  · rename_i e ho
    rw [opt_iff] at h
    obtain ⟨y, hy, h⟩ := h
    rw [opt_iff] at h
    obtain ⟨zs, hz, h⟩ := h
    rw [ck_iff] at h
    obtain ⟨hc, h⟩ := h
    simp only [Bool.and_eq_true] at hc
    exact wp_value hK (m := Instr.alloc e true (.tuple #[])) (by unfold execOp; rw [ho]) (xalloc_ok hT hy hz hc.1 hs h _)
  · rename_i e x ho
    rw [ck_iff] at h
    exact wp_value hK (m := Instr.box e (a.eval x)) (by unfold execOp; rw [ho]) (xbox_ok hs e (opd_ok he x) h.1 h.2)
  · rename_i t parts ho
    obtain ⟨x, val, r, ra, k⟩ := xbuild_ok (P := P) hT (vs := parts.map fun (i, x) => (i, a.eval x)) (by rw [Array.toList_map]; exact parts_ok he parts.toList) h
    exact wp_here hK hs (m := Instr.build t (parts.map fun (i, x) => (i, a.eval x))) (by unfold execOp; rw [ho]) r ra k
  · rename_i t n parts ho
    exact wp_value hK (m := Instr.buildSlice t n (parts.map fun (i, x) => (i, a.eval x))) (by unfold execOp; rw [ho]) (xbuildSlice_ok hT hs (by rw [Array.toList_map]; exact parts_ok he parts.toList) h)
  · rename_i t x ho
    obtain ⟨y, val, r, ra, k⟩ := xload_ok (P := P) hT hs h (opd_ok he x)
    exact wp_here hK hs (m := Instr.loadAt t (a.eval x)) (by unfold execOp; rw [ho]) r ra k
  · rename_i t x y ho
    obtain ⟨w', H', r, h1, h2, h3, k⟩ := xstore_ok (P := P) hT hs h (opd_ok he x) (opd_ok he y)
    have hx : execOp a.eval o = (do Instr.storeAt t (a.eval x) (a.eval y); pure .skip) := by unfold execOp; rw [ho]
    unfold Oper.wp
    rw [hx]
    simp only [Sem.run_bind, r, Result.andThen_ok, Sem.run_pure, Oper.upon_skip]
    exact hK _ _ w' c H' (.tup [] #[] rfl (by simp)) h1 h2 h3 k
  · rename_i x ho
    obtain ⟨hv, k⟩ := xnilCheck_ok h (opd_ok he x)
    exact wp_here hK hs (m := pure (a.eval x)) (by rw [exec_nilCheck ho hv, pure_bind]) rfl (opd_ok he x) k
  · rename_i op t x y t2 ho
    obtain ⟨z, val, r, ra, k⟩ := xbin_ok (P := P) hT (xo := x) (yo := y) h (opd_ok he x) (opd_ok he y)
    exact wp_here hK hs (m := do eqGuard op t x y (a.eval x) (a.eval y); binOp op t (a.eval x) (a.eval y)) (by unfold execOp; rw [ho]) r (.t _ _ (ra w _)) k
  · rename_i op t x ho
    obtain ⟨z, val, r, ra, k⟩ := xun_ok (P := P) h (opd_ok he x)
    exact wp_here hK hs (m := Op.unary op (a.eval x)) (by unfold execOp; rw [ho]) r (.t _ _ (ra w _)) k
  · rename_i t u x ho
    obtain ⟨z, val, r, ra, k⟩ := xconvert_ok (P := P) hT hs h (opd_ok he x)
    exact wp_here hK hs (m := convert t u (a.eval x)) (by unfold execOp; rw [ho]) r ra k
  · rename_i t x ho
    rw [opt_iff] at h
    obtain ⟨y, hy, h⟩ := h
    rw [ck_iff] at h
    obtain ⟨hc, h⟩ := h
    have hd := (hT t y hy).d
    have run : (Instr.makeInterface t (a.eval x)).run P w = .ok (.iface t (a.eval x)) w := by
      simp only [Instr.makeInterface, Sem.run_bind, run_underlying hd, Result.andThen_ok]
      cases hyd : y.d <;> rw [hyd] at hc <;> first | rfl | (simp at hc)
    have hra := opd_ok he x
    split at h
    · rename_i v hv
      rw [hv] at hra
      exact wp_here hK hs (m := Instr.makeInterface t (a.eval x)) (by unfold execOp; rw [ho]) run (.t _ _ (.ifc _ _ _ hra.rt)) h
    · exact wp_here hK hs (m := Instr.makeInterface t (a.eval x)) (by unfold execOp; rw [ho]) run (.ifc _ _ _ hra) h
  · rename_i f first captured ho
    refine wp_here hK hs (m := Instr.makeFunc f (first.map a.eval) (captured.map a.eval)) (by unfold execOp; rw [ho]) rfl (.fn _ _ _ _ _ (by simp) (by simp) (fun i x v hi hv => ?_) (fun i x v hi hv => ?_)) h
    · exact opds_ok he first.toList i x v hi (by rw [← Array.getElem?_toList, Array.toList_map] at hv; exact hv)
    · exact opds_ok he captured.toList i x v hi (by rw [← Array.getElem?_toList, Array.toList_map] at hv; exact hv)
  · rename_i t l cp ho
    exact wp_value hK (m := Instr.makeSlice t (a.eval l) (a.eval cp)) (by unfold execOp; rw [ho]) (xmakeSlice_ok hT hs (opd_ok he l) (opd_ok he cp) h)
  · rename_i t x lo hi mx ho
    obtain ⟨z, val, r, ra, k⟩ := xslice_ok (P := P) hT hs h (opd_ok he x) (ro_map he lo) (ro_map he hi) (ro_map he mx)
    exact wp_here hK hs (m := Instr.sliceAt t (a.eval x) (lo.map a.eval) (hi.map a.eval) (mx.map a.eval)) (by unfold execOp; rw [ho]) r ra k
  · rename_i t x k0 ho
    obtain ⟨z, val, r, ra, k⟩ := xfieldAddr_ok (P := P) hT h (opd_ok he x)
    exact wp_here hK hs (m := Instr.fieldAt t (a.eval x) k0) (by unfold execOp; rw [ho]) r ra k
  · rename_i t x k0 ho
    obtain ⟨z, val, r, ra, k⟩ := xfield_ok (P := P) hT h (opd_ok he x)
    exact wp_here hK hs (m := Instr.field t (a.eval x) k0) (by unfold execOp; rw [ho]) r ra k
  · rename_i t x i ho
    obtain ⟨z, val, r, ra, k⟩ := xindexAddr_ok (P := P) hT h (opd_ok he x) (opd_ok he i)
    exact wp_here hK hs (m := Instr.indexAt t (a.eval x) (a.eval i)) (by unfold execOp; rw [ho]) r ra k
  · rename_i t x i ho
    obtain ⟨z, val, r, ra, k⟩ := xindex_ok (P := P) hT h (opd_ok he x) (opd_ok he i)
    exact wp_here hK hs (m := Instr.index t (a.eval x) (a.eval i)) (by unfold execOp; rw [ho]) r ra k
  · rename_i x i ho
    obtain ⟨z, val, r, ra, k⟩ := xextract_ok (P := P) h (opd_ok he x)
    exact wp_here hK hs (m := Instr.extract (a.eval x) i) (by unfold execOp; rw [ho]) r ra k
  · rename_i cl ho
    exact xcall_ok hT ho h hs he hK
  · rename_i t x ho
    exact wp_value hK (m := Instr.range t (a.eval x)) (by unfold execOp; rw [ho]) (xrange_ok hT hs h (opd_ok he x))
  · rename_i x st ho
    exact wp_value hK (m := Instr.next (a.eval x) st o.type) (by unfold execOp; rw [ho]) (xnext_ok hs h (opd_ok he x) _)
  · exact h.elim

end
end Go.Proofs.YthpkehhghcpolaaDoor
