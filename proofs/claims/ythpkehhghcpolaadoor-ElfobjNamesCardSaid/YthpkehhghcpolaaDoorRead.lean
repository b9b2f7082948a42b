/-
  Operations that only read: what they need of a state, and that more memory does them no harm.
-/
import Derived.Test.YthpkehhghcpolaaDoorSnap
namespace Go.Proofs.YthpkehhghcpolaaDoor
set_option linter.unusedVariables false
set_option linter.unusedSimpArgs false

/-- All that stands in the first stands in the second (what was given up doesn't count). -/
def Le (H H' : AH) : Prop := ∀ (b : Nat) blk, H[b]? = some blk → blk = .dead ∨ H'[b]? = some blk

theorem Le.refl (H : AH) : Le H H := fun _ _ h => .inr h
theorem Le.trans {H H' H'' : AH} (h : Le H H') (k : Le H' H'') : Le H H'' := fun b blk hb => (h b blk hb).elim .inl fun h => k b blk h
theorem Le.append (H X : AH) : Le H (H ++ X) := fun b blk hb => .inr (by rw [List.getElem?_append_left (lt_of_getElem? hb)]; exact hb)

/-- Memory without some blocks. -/
def hide : List Nat → AH → AH
  | [], H => H
  | b :: r, H => hide r (H.set b .dead)

theorem set_dead_get {H : AH} {b i : Nat} {blk : Blk} (h : H[i]? = some blk) : (H.set b .dead)[i]? = some (if i = b then .dead else blk) := by
  have := lt_of_getElem? h
  by_cases e : b = i
  · subst e; simp [this]
  · rw [List.getElem?_set_ne e, h, if_neg (fun h => e h.symm)]

theorem set_dead_back {H : AH} {b i : Nat} {blk : Blk} (h : (H.set b .dead)[i]? = some blk) : blk = .dead ∨ (i ≠ b ∧ H[i]? = some blk) := by
  by_cases e : b = i
  · subst e
    have hl := lt_of_getElem? h
    simp only [List.length_set] at hl
    simp [hl] at h
    exact .inl h.symm
  · rw [List.getElem?_set_ne e] at h
    exact .inr ⟨fun h => e h.symm, h⟩

theorem Le.hide_one (H : AH) (b : Nat) : Le (H.set b .dead) H := fun _ _ h => (set_dead_back h).imp id (·.2)

theorem Le.hide : ∀ (D : List Nat) (H : AH), Le (hide D H) H
  | [], H => .refl H
  | b :: r, H => (Le.hide r (H.set b .dead)).trans (.hide_one H b)

/-- All but some blocks stand as they did. -/
def LeX (D : List Nat) (H H' : AH) : Prop := Le (Go.Proofs.YthpkehhghcpolaaDoor.hide D H) H'

theorem hide_get : ∀ (D : List Nat) {H : AH} {i : Nat} {blk : Blk}, H[i]? = some blk → (hide D H)[i]? = some (if i ∈ D then .dead else blk)
  | [], H, i, blk, h => by simpa [hide] using h
  | b :: r, H, i, blk, h => by
    simp only [hide]
    rw [hide_get r (set_dead_get h)]
    by_cases e : i = b
    · subst e; simp
    · simp [e]

theorem hide_back : ∀ (D : List Nat) {H : AH} {i : Nat} {blk : Blk}, (hide D H)[i]? = some blk → blk = .dead ∨ (i ∉ D ∧ H[i]? = some blk)
  | [], H, i, blk, h => .inr ⟨by simp, h⟩
  | b :: r, H, i, blk, h => by
    simp only [hide] at h
    rcases hide_back r h with h | ⟨h1, h2⟩
    · exact .inl h
    · rcases set_dead_back h2 with h3 | ⟨h3, h4⟩
      · exact .inl h3
      · exact .inr ⟨by simp [h1, h3], h4⟩

theorem LeX.le {D : List Nat} {H H' : AH} (h : LeX D H H') : Le (Go.Proofs.YthpkehhghcpolaaDoor.hide D H) (Go.Proofs.YthpkehhghcpolaaDoor.hide D H') := fun b blk hb => by
  rcases hide_back D hb with e | ⟨hn, _⟩
  · exact .inl e
  · rcases h b blk hb with e | e
    · exact .inl e
    · have := hide_get D e
      rw [if_neg hn] at this
      exact .inr this

theorem LeX.refl (D : List Nat) (H : AH) : LeX D H H := .hide D H
theorem LeX.of {D : List Nat} {H H' : AH} (h : Le H H') : LeX D H H' := (Le.hide D H).trans h
theorem LeX.append (D : List Nat) (H X : AH) : LeX D H (H ++ X) := .of (.append H X)
theorem LeX.set {D : List Nat} {H : AH} {b : Nat} (blk : Blk) (hb : b ∈ D) : LeX D H (H.set b blk) := fun i bk h => by
  rcases hide_back D h with e | ⟨hn, h⟩
  · exact .inl e
  · exact .inr (by rw [List.getElem?_set_ne (fun e => hn (by rw [← e]; exact hb))]; exact h)

/-- A value as one of an interface's type. -/
def xifc (tab : Tab) (t : TypeId) (x : AV) (K : AV → Prop) : Prop :=
  Opt (tab t) fun y => Ck (match y.d with | .interface _ => false | _ => true)
    (match x with | .t v => K (.t (.ifc t v)) | v => K (.ifc t v))

/-- An operation that only reads. -/
def xread (tab : Tab) (o : Oper) (env : List (Nat × AV)) (H : AH) (K : AV → Prop) : Prop :=
  match o.op with
  | .move x => K (opd env x)
  | .pick c a b => xpick (opd env c) (opd env a) (opd env b) K
  | .build t parts => xbuild tab t (parts.toList.map fun p => (p.1, opd env p.2)) K
  | .load t a => xload tab t H (opd env a) K
  | .nilCheck x => xnilCheck H (opd env x) K
  | .binOp op t x y _ => xbin tab op t H (opd env x) (opd env y) (isConst y) fun v => K (.t v)
  | .unOp op _ x => xun op (opd env x) fun v => K (.t v)
  | .convert s d x => xconvert tab s d (opd env x) H K
  | .slice t x lo hi mx => xslice tab t H (opd env x) (lo.map (opd env)) (hi.map (opd env)) (mx.map (opd env)) K
  | .fieldAddr t x k => xfieldAddr tab t H (opd env x) k K
  | .field t x k => xfield tab t (opd env x) k K
  | .indexAddr t x i => xindexAddr tab t H (opd env x) (opd env i) K
  | .index t x i => xindex tab t (opd env x) (opd env i) K
  | .extract x i => xextract (opd env x) i K
  | .makeInterface t x => xifc tab t (opd env x) K
  | .makeFunc f first captured => K (.fn f (first.toList.map (opd env)) (captured.toList.map (opd env)))
  | .call c =>
    (match c.callee with
    | .builtin b =>
      (match b, c.argTypes.toList, c.args.toList with
      | .len, [t], [x] => xlen tab t H (opd env x) K
      | .min, _, [x, y] => xminmax false (opd env x) (opd env y) K
      | .max, _, [x, y] => xminmax true (opd env x) (opd env y) K
      | _, _, _ => False)
    | _ => False)
  | _ => False

theorem xread_op {tab : Tab} {call : CallP} {o : Oper} {env : List (Nat × AV)} {H : AH} {K : AV → AH → Prop} (h : xread tab o env H fun v => K v H) : xop tab call o env H K := by
  unfold xread at h
  unfold xop
  generalize o.op = p at h ⊢
  cases p <;> first | exact h | exact h.elim | skip
  rename_i c
  simp only at h ⊢
  unfold xcall
  generalize c.callee = cc at h ⊢
  cases cc <;> first | exact h.elim | skip
  rename_i b
  simp only at h ⊢
  split at h
  · rename_i h1 h2; simp only [h1, h2]; exact h
  · rename_i h2; simp only [h2]; exact h
  · rename_i h2; simp only [h2]; exact h
  · exact h.elim

section
variable {tab : Tab} {H H' : AH}

theorem lenA_le (hl : Le H H') {x : AV} {n : Nat} (h : lenA H x = some n) : lenA H' x = some n := by
  cases x <;> first | exact h | skip
  · rename_i m; cases m <;> exact h
  rename_i b g i m
  cases hb : H[b]? with
  | none => simp [lenA, hb] at h
  | some blk =>
    rcases hl b blk hb with e | this
    · subst e; simp [lenA, hb, ck_iff] at h
    · simp only [lenA, hb, this] at h ⊢; exact h

theorem isNil_le (hl : Le H H') {x : AV} {n : Bool} (h : isNil H x = some n) : isNil H' x = some n := by
  cases x <;> first | exact h | skip
  · rename_i m; cases m <;> exact h
  all_goals
    rename_i b g i m
    cases hb : H[b]? with
    | none => simp [isNil, hb] at h
    | some blk =>
      rcases hl b blk hb with e | this
      · subst e; simp [isNil, hb, ck_iff] at h
      · simp only [isNil, hb, this] at h ⊢; exact h

theorem xload_le (hl : Le H H') {ty : TypeId} {a : AV} {K : AV → Prop} (h : xload tab ty H a K) : xload tab ty H' a K := by
  unfold xload at h ⊢
  rw [opt_iff] at h ⊢
  obtain ⟨y, hy, h⟩ := h
  refine ⟨y, hy, ?_⟩
  cases a <;> first | exact h | exact h.elim | skip
  · rename_i m; cases m <;> first | exact h | exact h.elim
  rename_i b g i m
  cases hb : H[b]? with
  | none => simp [hb] at h
  | some blk =>
    rcases hl b blk hb with e | this
    · subst e; simp [hb, ck_iff] at h
    · simp only [hb, this] at h ⊢; exact h

theorem xnilCheck_le (hl : Le H H') {a : AV} {K : AV → Prop} (h : xnilCheck H a K) : xnilCheck H' a K := by
  cases a <;> first | exact h | exact h.elim | skip
  · rename_i m; cases m <;> first | exact h | exact h.elim | skip
    rename_i f _ _; cases f <;> first | exact h | exact h.elim
  · rename_i b g i m
    unfold xnilCheck at h ⊢
    cases hb : H[b]? with
    | none => simp [hb] at h
    | some blk =>
      rcases hl b blk hb with e | this
      · subst e; simp [hb, ck_iff] at h
      · simp only [hb, this] at h ⊢; exact h
  · rename_i f _ _; cases f <;> first | exact h | exact h.elim

theorem xlen_le (hl : Le H H') {ty : TypeId} {a : AV} {K : AV → Prop} (h : xlen tab ty H a K) : xlen tab ty H' a K := by
  unfold xlen at h ⊢
  rw [opt_iff] at h ⊢
  obtain ⟨y, hy, h⟩ := h
  refine ⟨y, hy, ?_⟩
  split at h
  · exact h
  · rw [ck_iff, opt_iff] at h ⊢
    obtain ⟨h1, n, h2, h3⟩ := h
    exact ⟨h1, n, lenA_le hl h2, h3⟩

theorem xfieldAddr_le (hl : Le H H') {ty : TypeId} {a : AV} {k : Nat} {K : AV → Prop} (h : xfieldAddr tab ty H a k K) : xfieldAddr tab ty H' a k K := by
  unfold xfieldAddr at h ⊢
  simp only [opt_iff, ck_iff] at h ⊢
  obtain ⟨y, hy, f, hf, z, hz, hk, h⟩ := h
  refine ⟨y, hy, f, hf, z, hz, hk, ?_⟩
  cases a <;> first | exact h | exact h.elim | skip
  · rename_i m; cases m <;> first | exact h | exact h.elim
  rename_i b g i m
  cases hb : H[b]? with
  | none => simp [hb] at h
  | some blk =>
    rcases hl b blk hb with e | this
    · subst e; simp [hb, ck_iff] at h
    · simp only [hb, this] at h ⊢; exact h

theorem xindexAddr_le (hl : Le H H') {ty : TypeId} {a ix : AV} {K : AV → Prop} (h : xindexAddr tab ty H a ix K) : xindexAddr tab ty H' a ix K := by
  unfold xindexAddr at h ⊢
  rw [opt_iff] at h ⊢
  obtain ⟨y, hy, h⟩ := h
  refine ⟨y, hy, ?_⟩
  split at h
  · rename_i k i
    cases hd : y.d <;> rw [hd] at h <;> first | exact h.elim | skip
    all_goals cases a <;> first | exact h | exact h.elim | skip
    all_goals try (rename_i m; cases m <;> first | exact h | exact h.elim; done)
    all_goals
      rename_i b g i m
      simp only [opt_iff] at h ⊢
      obtain ⟨z, hz, h⟩ := h
      refine ⟨z, hz, ?_⟩
      cases hb : H[b]? with
      | none => simp [hb, ck_iff] at h
      | some blk =>
        rcases hl b blk hb with e | this
        · subst e; simp [hb, ck_iff] at h
        · simp only [hb, this] at h ⊢; exact h
  · exact h.elim

theorem xslice_le (hl : Le H H') {ty : TypeId} {a : AV} {lo hi mx : Option AV} {K : AV → Prop} (h : xslice tab ty H a lo hi mx K) : xslice tab ty H' a lo hi mx K := by
  unfold xslice at h ⊢
  rw [opt_iff] at h ⊢
  obtain ⟨y, hy, h⟩ := h
  refine ⟨y, hy, ?_⟩
  split at h
  · split at h
    · rw [opt_iff] at h ⊢
      obtain ⟨z, hz, h⟩ := h
      refine ⟨z, hz, ?_⟩
      cases a <;> first | exact h | exact h.elim | skip
      · rename_i m; cases m <;> first | exact h | exact h.elim
      rename_i b g i m
      cases hb : H[b]? with
      | none => simp [hb] at h
      | some blk =>
        rcases hl b blk hb with e | this
        · subst e; simp [hb, ck_iff] at h
        · simp only [hb, this] at h ⊢; exact h
    · exact h.elim
  · split at h <;> first | exact h | exact h.elim | skip
    rename_i b g i m _
    simp only [opt_iff] at h ⊢
    obtain ⟨z, hz, h⟩ := h
    refine ⟨z, hz, ?_⟩
    cases hb : H[b]? with
    | none => simp [hb] at h
    | some blk =>
      rcases hl b blk hb with e | this
      · subst e; simp [hb, ck_iff] at h
      · simp only [hb, this] at h ⊢; exact h

theorem xeq_le (hl : Le H H') {ty : TypeId} {x y : AV} {yc : Bool} {K : Bool → Prop} (h : xeq tab ty H x y yc K) : xeq tab ty H' x y yc K := by
  unfold xeq at h ⊢
  rw [opt_iff] at h ⊢
  obtain ⟨i, hi, h⟩ := h
  refine ⟨i, hi, ?_⟩
  split at h
  · exact h
  · exact h
  · simp only [ck_iff, opt_iff] at h ⊢
    obtain ⟨h1, n, h2, h3⟩ := h
    exact ⟨h1, n, isNil_le hl h2, h3⟩

theorem xbin_le (hl : Le H H') {op : BinOp} {ty : TypeId} {x y : AV} {yc : Bool} {K : T → Prop} (h : xbin tab op ty H x y yc K) : xbin tab op ty H' x y yc K := by
  unfold xbin at h ⊢
  split at h
  · exact h
  · exact h
  · split at h
    · exact xeq_le hl h
    · exact xeq_le hl h
    · exact h.elim

theorem xconvert_le (hl : Le H H') {s d : TypeId} {x : AV} {K : AV → Prop} (h : xconvert tab s d x H K) : xconvert tab s d x H' K := by
  unfold xconvert at h ⊢
  simp only [opt_iff] at h ⊢
  obtain ⟨y, hy, z, hz, h⟩ := h
  refine ⟨y, hy, z, hz, ?_⟩
  split at h <;> first | exact h | exact h.elim | skip
  rename_i b g i n _
  split at h <;> first | exact h.elim | skip
  obtain ⟨q, hq, h⟩ := h
  refine ⟨q, hq, ?_⟩
  split at h <;> first | exact h.elim | skip
  cases hb : H[b]? with
  | none => simp [hb] at h
  | some blk =>
    rcases hl b blk hb with e | this
    · subst e; simp [hb, ck_iff] at h
    · simp only [hb, this] at h ⊢; exact h

theorem parts_env {env env' : List (Nat × AV)} : ∀ {ps : List (Nat × Operand)}, (∀ x ∈ ps.map (·.2), opd env x = opd env' x) → ps.map (fun p => (p.1, opd env p.2)) = ps.map fun p => (p.1, opd env' p.2)
  | [], _ => rfl
  | p :: r, h => by
    simp only [List.map_cons, List.mem_cons, forall_eq_or_imp] at h ⊢
    rw [h.1, parts_env h.2]

theorem map_env {env env' : List (Nat × AV)} {o : Option Operand} (h : ∀ x ∈ o.toList, opd env x = opd env' x) : o.map (opd env) = o.map (opd env') := by
  cases o with
  | none => rfl
  | some x => simp at h; simp [h]

/-- With the same operands, and with more memory, the same is read. -/
theorem xread_le (hl : Le H H') {o : Oper} {env env' : List (Nat × AV)} {K : AV → Prop} (he : ∀ x ∈ o.op.operands.toList, opd env x = opd env' x) (h : xread tab o env H K) : xread tab o env' H' K := by
  unfold xread at h ⊢
  generalize o.op = p at h he ⊢
  cases p <;> simp only at h ⊢ <;> first | exact h.elim | skip
  case move x => rw [← he x (by simp [Op.operands])]; exact h
  case pick c a b => rw [← he c (by simp [Op.operands]), ← he a (by simp [Op.operands]), ← he b (by simp [Op.operands])]; exact h
  case build t ps => rw [← parts_env (env := env) (fun x hx => he x (by simpa [Op.operands] using hx))]; exact h
  case load t a => rw [← he a (by simp [Op.operands])]; exact xload_le hl h
  case nilCheck x => rw [← he x (by simp [Op.operands])]; exact xnilCheck_le hl h
  case binOp op t x y t2 => rw [← he x (by simp [Op.operands]), ← he y (by simp [Op.operands])]; exact xbin_le hl h
  case unOp op t x => rw [← he x (by simp [Op.operands])]; exact h
  case convert t u x => rw [← he x (by simp [Op.operands])]; exact xconvert_le hl h
  case slice t x lo hi mx =>
    rw [← he x (by simp [Op.operands]), ← map_env (env := env) (o := lo) (fun x hx => he x (by simp [Op.operands] at hx ⊢; simp [hx])), ← map_env (env := env) (o := hi) (fun x hx => he x (by simp [Op.operands] at hx ⊢; simp [hx])),
      ← map_env (env := env) (o := mx) (fun x hx => he x (by simp [Op.operands] at hx ⊢; simp [hx]))]
    exact xslice_le hl h
  case fieldAddr t x k => rw [← he x (by simp [Op.operands])]; exact xfieldAddr_le hl h
  case field t x k => rw [← he x (by simp [Op.operands])]; exact h
  case indexAddr t x i => rw [← he x (by simp [Op.operands]), ← he i (by simp [Op.operands])]; exact xindexAddr_le hl h
  case index t x i => rw [← he x (by simp [Op.operands]), ← he i (by simp [Op.operands])]; exact h
  case extract x i => rw [← he x (by simp [Op.operands])]; exact h
  case makeInterface t x => rw [← he x (by simp [Op.operands])]; exact h
  case makeFunc f a b =>
    have e1 : a.toList.map (opd env) = a.toList.map (opd env') := List.map_congr_left fun x hx => he x (by simp [Op.operands] at hx ⊢; simp [hx])
    have e2 : b.toList.map (opd env) = b.toList.map (opd env') := List.map_congr_left fun x hx => he x (by simp [Op.operands] at hx ⊢; simp [hx])
    rw [← e1, ← e2]; exact h
  case call c =>
    generalize hc : c.callee = cc at h ⊢
    cases cc <;> simp only at h ⊢ <;> first | exact h.elim | skip
    rename_i b
    have ha : ∀ x ∈ c.args.toList, opd env x = opd env' x := fun x hx => he x (by simp [Op.operands, Call.operands, hc] at hx ⊢; simp [hx])
    split at h
    · rename_i h1 h2
      try simp only [h1, h2]
      rw [← ha _ (by rw [h2]; simp)]
      exact xlen_le hl h
    · rename_i h2
      try simp only [h2]
      rw [← ha _ (by rw [h2]; simp), ← ha _ (by rw [h2]; simp)]
      exact h
    · rename_i h2
      try simp only [h2]
      rw [← ha _ (by rw [h2]; simp), ← ha _ (by rw [h2]; simp)]
      exact h
    · exact h.elim

end
end Go.Proofs.YthpkehhghcpolaaDoor
