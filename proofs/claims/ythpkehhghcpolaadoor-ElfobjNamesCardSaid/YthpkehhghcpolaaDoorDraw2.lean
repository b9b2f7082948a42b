/-
  Regions that draw their order: one operation, executed in a state that tells less than the walk's.
-/
import Derived.Test.YthpkehhghcpolaaDoorDraw
namespace Go.Proofs.YthpkehhghcpolaaDoor
open Go.RowKit
set_option linter.unusedVariables false
set_option linter.unusedSimpArgs false

def LkEq (e e' : List (Nat × AV)) : Prop := ∀ t, lk e t = lk e' t

theorem LkEq.refl (e : List (Nat × AV)) : LkEq e e := fun _ => rfl
theorem LkEq.symm {e e' : List (Nat × AV)} (h : LkEq e e') : LkEq e' e := fun t => (h t).symm
theorem LkEq.trans {e e' e'' : List (Nat × AV)} (h : LkEq e e') (k : LkEq e' e'') : LkEq e e'' := fun t => (h t).trans (k t)

def putd (d : Option Nat) (v : AV) (env : List (Nat × AV)) : List (Nat × AV) := match d with | some d => (d, v) :: env | none => env

theorem lk_putd (d : Option Nat) (v : AV) (env : List (Nat × AV)) (t : Nat) : lk (putd d v env) t = if d = some t then v else lk env t := by
  cases d with
  | none => simp [putd]
  | some d => simp only [putd, lk_cons, Option.some.injEq]

theorem LkEq.putd {e e' : List (Nat × AV)} (h : LkEq e e') (d : Option Nat) (v : AV) : LkEq (putd d v e) (putd d v e') := fun t => by
  rw [lk_putd, lk_putd, h t]

theorem put_eq (e : List (Nat × AV)) (H H' : AH) (d : Option Tmp) (v : AV) : St.put ⟨e, H⟩ d v H' = ⟨putd d v e, H'⟩ := by cases d <;> rfl

theorem LkEq.told {env : List (Nat × AV)} {d : Nat} {c b : Bool} (h : lk env d = .t (.bool c)) (hc : c = b) : LkEq ((d, .t (.bool b)) :: env) env := fun t => by
  rw [lk_cons]
  split
  · rename_i e; rw [← e, h, hc]
  · rfl

theorem opd_lk {e e' : List (Nat × AV)} (h : LkEq e e') (x : Operand) : opd e x = opd e' x := by
  cases x <;> first | rfl | exact h _

section
variable {P : Program} {tab : Tab}

theorem Sat.lkeq {O c env env' H a w} (h : Sat O c ⟨env, H⟩ a w) (e : LkEq env' env) : Sat O c ⟨env', H⟩ a w :=
  ⟨fun t => by rw [show lk env' t = lk env t from e t]; exact h.env t, h.hs, h.size, h.defers, h.ev, h.below⟩

theorem Sat.putd {O c env H a w} (h : Sat O c ⟨env, H⟩ a w) (d : Option Tmp) (hd : ∀ k, d = some k → k < O.N) {v : AV} {val : Value} (hv : RA w c H v val) : Sat O c ⟨putd d v env, H⟩ (a.put d val) w := by
  have := Sat.put h d hd hv ⟨env, H⟩ rfl
  rwa [put_eq] at this

/-- The operation is to run. -/
def Wants (ops : Array Oper) (o : Oper) (env : List (Nat × AV)) : Prop :=
  o.guard = none ∨ ∃ j want d, o.guard = some (j, want) ∧ guardSlot ops j = some d ∧ lk env d = .t (.bool want)

/-- It isn't. -/
def Skips (ops : Array Oper) (o : Oper) (env : List (Nat × AV)) : Prop :=
  ∃ j want d, o.guard = some (j, want) ∧ guardSlot ops j = some d ∧ (lk env d = .t (.bool (!want)) ∨ lk env d = .tup [])

def gd (ops : Array Oper) (o : Oper) (run : List (Nat × AV) → (AV → AH → Prop) → Prop) (s : St) (K : St → Prop) : Prop :=
  match s with
  | ⟨env, H⟩ =>
  match o.guard with
  | none => run env fun v H' => stp ⟨env, H⟩ o.dst v H' K
  | some (j, want) =>
    Opt (guardSlot ops j) fun d =>
    match lk env d with
    | .t (.bool c) =>
      (match want with
      | true => Br c (run ((d, .t (.bool true)) :: env) fun v H' => stp ⟨(d, .t (.bool true)) :: env, H⟩ o.dst v H' K) (stp ⟨(d, .t (.bool false)) :: env, H⟩ o.dst (.tup []) H K)
      | false => Br c (stp ⟨(d, .t (.bool true)) :: env, H⟩ o.dst (.tup []) H K) (run ((d, .t (.bool false)) :: env) fun v H' => stp ⟨(d, .t (.bool false)) :: env, H⟩ o.dst v H' K))
    | .tup [] => stp ⟨env, H⟩ o.dst (.tup []) H K
    | _ => False

theorem xguard_gd {call : CallP} {ops : Array Oper} {o : Oper} {env : List (Nat × AV)} {H : AH} {K : St → Prop} (h : xguard tab call ops o ⟨env, H⟩ K) : gd ops o (fun e K => xop tab call o e H K) ⟨env, H⟩ K := by
  simp only [xguard, gd, stp_eq, put_eq] at h ⊢
  exact h
theorem xgR_gd {ops : Array Oper} {D : List Nat} {o : Oper} {env : List (Nat × AV)} {H : AH} {K : St → Prop} (h : xgR tab ops D o ⟨env, H⟩ K) : gd ops o (fun e K => xread tab o e (hide D H) fun v => K v H) ⟨env, H⟩ K := h

theorem gd_cases {ops : Array Oper} {o : Oper} {run : List (Nat × AV) → (AV → AH → Prop) → Prop} {env : List (Nat × AV)} {H : AH} {K : St → Prop} (h : gd ops o run ⟨env, H⟩ K) :
    (Wants ops o env ∧ ∃ e, LkEq e env ∧ run e fun v H' => K ⟨Go.Proofs.YthpkehhghcpolaaDoor.putd o.dst v e, H'⟩) ∨ (Skips ops o env ∧ ∃ e, LkEq e env ∧ K ⟨Go.Proofs.YthpkehhghcpolaaDoor.putd o.dst (.tup []) e, H⟩) := by
  simp only [gd, stp_eq, put_eq] at h
  split at h
  · rename_i hg
    exact .inl ⟨.inl hg, env, .refl _, h⟩
  · rename_i j want hg
    rw [opt_iff] at h
    obtain ⟨d, hd, h⟩ := h
    split at h
    · rename_i c hl
      split at h
      · rw [br_iff] at h
        rcases h with ⟨rfl, h⟩ | ⟨rfl, h⟩
        · exact .inl ⟨.inr ⟨j, true, d, hg, hd, hl⟩, _, .told hl rfl, h⟩
        · exact .inr ⟨⟨j, true, d, hg, hd, .inl hl⟩, _, .told hl rfl, h⟩
      · rw [br_iff] at h
        rcases h with ⟨rfl, h⟩ | ⟨rfl, h⟩
        · exact .inr ⟨⟨j, false, d, hg, hd, .inl hl⟩, _, .told hl rfl, h⟩
        · exact .inl ⟨.inr ⟨j, false, d, hg, hd, hl⟩, _, .told hl rfl, h⟩
    · rename_i hl
      exact .inr ⟨⟨j, want, d, hg, hd, .inr hl⟩, env, .refl _, h⟩
    · exact h.elim

/-- Two states agree where an operation looks. -/
structure Same (ops : Array Oper) (o : Oper) (env env' : List (Nat × AV)) : Prop where
  op : ∀ x ∈ o.op.operands.toList, opd env x = opd env' x
  guard : ∀ j want d, o.guard = some (j, want) → guardSlot ops j = some d → lk env d = lk env' d

theorem Wants.sem {ops : Array Oper} {o : Oper} {env envF : List (Nat × AV)} (h : Wants ops o env) (hsm : Same ops o env envF) {O c H a w} (hs : Sat O c ⟨envF, H⟩ a w) : Region.wanted o (yielded ops a.tmps) = true := by
  rcases h with h | ⟨j, want, d, hg, hd, hl⟩
  · simp [Region.wanted, h]
  · rw [hsm.guard j want d hg hd] at hl
    have hra := hs.env d
    rw [show lk envF d = _ from hl] at hra
    have hslot := slot_get hra.bool
    have hd' : (ops[j]?).bind (·.dst) = some d := hd
    simp [Region.wanted, hg, yielded, hd', hslot]

theorem Skips.sem {ops : Array Oper} {o : Oper} {env envF : List (Nat × AV)} (h : Skips ops o env) (hsm : Same ops o env envF) {O c H a w} (hs : Sat O c ⟨envF, H⟩ a w) : Region.wanted o (yielded ops a.tmps) = false := by
  obtain ⟨j, want, d, hg, hd, hl⟩ := h
  rw [hsm.guard j want d hg hd] at hl
  have hra := hs.env d
  have hd' : (ops[j]?).bind (·.dst) = some d := hd
  rcases hl with hl | hl
  · rw [show lk envF d = _ from hl] at hra
    have hslot := slot_get hra.bool
    simp [Region.wanted, hg, yielded, hd', hslot]
  · rw [show lk envF d = _ from hl] at hra
    have hu : a.tmps.getD d undef = .tuple #[] := by
      generalize a.tmps.getD d undef = q at hra
      cases hra with | tup _ vs hl' _ =>
      have : vs = #[] := Array.eq_empty_of_size_eq_zero (by simpa using hl'.symm)
      rw [this]
    have hyb : yielded ops a.tmps j = none := by
      rw [Array.getD_eq_getD_getElem?] at hu
      simp only [yielded, hd', Option.bind_some]
      cases hq : a.tmps[d]? with
      | none => rfl
      | some v => simp [hq] at hu; subst hu; rfl
    simp [Region.wanted, hg, hyb]

/-- What is known of a reading operation that is yet to come. -/
def Ob (tab : Tab) (ops : Array Oper) (o : Oper) (env : List (Nat × AV)) (H : AH) (v : AV) : Prop :=
  (Wants ops o env ∧ xread tab o env H fun u => u = v) ∨ (Skips ops o env ∧ v = .tup [])

theorem ob_of {ops : Array Oper} {D : List Nat} {o : Oper} {env : List (Nat × AV)} {H : AH} {K : St → Prop} (h : xgR tab ops D o ⟨env, H⟩ K) : ∃ v e, LkEq e env ∧ Ob tab ops o env (hide D H) v ∧ K ⟨Go.Proofs.YthpkehhghcpolaaDoor.putd o.dst v e, H⟩ := by
  rcases gd_cases (xgR_gd h) with ⟨hw, e, he, h⟩ | ⟨hw, e, he, h⟩
  · obtain ⟨v, h1, h2⟩ := d_read.ex h
    exact ⟨v, e, he, .inl ⟨hw, xread_le (.refl _) (fun x _ => opd_lk he x) h1⟩, h2⟩
  · exact ⟨_, e, he, .inr ⟨hw, rfl⟩, h⟩

theorem ob_le {ops : Array Oper} {o : Oper} {env : List (Nat × AV)} {H H' : AH} {v : AV} (hl : Le H H') (h : Ob tab ops o env H v) : Ob tab ops o env H' v :=
  h.imp (fun h => ⟨h.1, xread_le hl (fun _ _ => rfl) h.2⟩) id

/-- No block gets a place that had none. -/
def Stays (c c' : Cx) (H : AH) : Prop := ∀ b blk, H[b]? = some blk → blk.fix = true → c.G b = none → c'.G b = none

theorem ob_step (hT : TabOK P tab) {O : Org} {ops : Array Oper} {D : List Nat} {o : Oper} {env envF : List (Nat × AV)} {H : AH} {v : AV} (h : Ob tab ops o env (hide D H) v) (hsm : Same ops o env envF) (hd : dstOK O.N o = true) {c : Cx} {a : Act} {w : World}
    (hs : Sat O c ⟨envF, H⟩ a w) {next : Act → World → Prop} {Q : Exit → Act → World → Prop} (hn : ∀ c' a' w', Sat O c' ⟨Go.Proofs.YthpkehhghcpolaaDoor.putd o.dst v envF, H⟩ a' w' → Stays c c' H → next a' w') :
    if Region.wanted o (yielded ops a.tmps) then o.wp P a w next Q else next (a.put o.dst undef) w := by
  have hd := dstOK_spec hd
  rcases h with ⟨hw, h⟩ | ⟨hw, rfl⟩
  · rw [if_pos (hw.sem hsm hs)]
    refine xop_ok (K := fun u H' => u = v ∧ H' = H) hT (xread_op (d_read.mono (fun u e => ⟨e, rfl⟩) (xread_le (.hide D H) hsm.op h))) hs.hs hs.env fun u val w' c' H' h1 h2 h3 h4 h5 => ?_
    obtain ⟨rfl, rfl⟩ := h5
    exact hn c' _ _ ((hs.go h3 h2 h4).putd o.dst hd h1) h3.late
  · rw [if_neg (by simp [hw.sem hsm hs])]
    exact hn c _ _ (hs.putd o.dst hd (v := .tup []) (.tup [] #[] rfl (by simp))) fun _ _ _ _ h => h

/-- What is known of a block that the walk has laid, and the model not yet. -/
def ObM (tab : Tab) (ops : Array Oper) (O : Org) (D : List Nat) (o : Oper) (env : List (Nat × AV)) (H : AH) (c : Cx) (v : AV) : Prop :=
  (Wants ops o env ∧ ∃ n mk blk, v = mk n ∧ xmake tab o env (fun m b => m = mk ∧ b = blk) ∧ H[n]? = some blk ∧ blk ≠ .dead ∧ (blk.fix = true → c.G n = none) ∧ O.H0.length ≤ n) ∨ (Skips ops o env ∧ v = .tup [])

/-- The block that an operation's value leads to. -/
def nameOf : AV → Option Nat
  | .ptr b _ _ _ => some b
  | .sl b _ _ _ => some b
  | _ => none

theorem make_blk {o : Oper} {env : List (Nat × AV)} {mk : Nat → AV} {blk : Blk} (h : xmake tab o env (fun m b => m = mk ∧ b = blk)) : blk ≠ .dead ∧ ∀ n, nameOf (mk n) = some n := by
  unfold xmake at h
  split at h
  · simp only [opt_iff, ck_iff] at h
    obtain ⟨y, hy, zs, hz, hc, rfl, rfl⟩ := h
    exact ⟨by simp, fun n => rfl⟩
  · rw [ck_iff] at h
    obtain ⟨_, rfl, rfl⟩ := h
    exact ⟨by simp, fun n => rfl⟩
  · rw [opt_iff] at h
    obtain ⟨y, hy, h⟩ := h
    split at h
    · simp only [opt_iff, ck_iff] at h
      obtain ⟨z, hz, l, hl, hc, rfl, rfl⟩ := h
      exact ⟨by simp, fun n => rfl⟩
    · exact h.elim
  · rw [opt_iff] at h
    obtain ⟨y, hy, h⟩ := h
    split at h
    · simp only [opt_iff, ck_iff] at h
      obtain ⟨z, hz, zs, hzs, hc, hn, rfl, rfl⟩ := h
      exact ⟨by simp, fun n => rfl⟩
    · exact h.elim
  · exact h.elim

theorem obM_step (hT : TabOK P tab) {O : Org} {ops : Array Oper} {D : List Nat} {o : Oper} {env envF : List (Nat × AV)} {H : AH} {v : AV} {c : Cx} (h : ObM tab ops O D o env H c v) (hsm : Same ops o env envF) (hd : dstOK O.N o = true) {a : Act} {w : World}
    (hs : Sat O c ⟨envF, H⟩ a w) {next : Act → World → Prop} {Q : Exit → Act → World → Prop}
    (hn : ∀ c' a' w', Sat O c' ⟨Go.Proofs.YthpkehhghcpolaaDoor.putd o.dst v envF, H⟩ a' w' → (∀ b, nameOf v ≠ some b → c.G b = none → c'.G b = none) → next a' w') :
    if Region.wanted o (yielded ops a.tmps) then o.wp P a w next Q else next (a.put o.dst undef) w := by
  have hd := dstOK_spec hd
  rcases h with ⟨hw, n, mk, blk, rfl, hmk, hb, hnd, hg, hO⟩ | ⟨hw, rfl⟩
  · rw [if_pos (hw.sem hsm hs)]
    obtain ⟨_, hname⟩ := make_blk hmk
    obtain ⟨mk', blk', val, obj, hrun, hf, rfl, rfl⟩ := mk_ok hT (xmake_env hsm.op hmk) hs.env
    obtain ⟨c', ew, hs', hra, hst⟩ := late_ok hs.hs hb hg hf
    unfold Oper.wp
    rw [hrun, Oper.upon_value]
    refine hn c' _ _ (Sat.putd ⟨fun t => (hs.env t).ew ew, hs', hs.size, hs.defers, hs.ev.transW ew fun b hlt hb => hst b (by omega) hb, hs.below.trans (below_new hs.hs.hB _)⟩ o.dst hd hra) fun b hne hb => hst b (fun e => hne (by rw [e]; exact hname n)) hb
  · rw [if_neg (by simp [hw.sem hsm hs])]
    exact hn c _ _ (hs.putd o.dst hd (v := .tup []) (.tup [] #[] rfl (by simp))) fun _ _ h => h

/-- With the same operands, the same is done. -/
theorem xop_env {call : CallP} {o : Oper} {env env' : List (Nat × AV)} {H : AH} {K : AV → AH → Prop} (he : ∀ x ∈ o.op.operands.toList, opd env x = opd env' x) (h : xop tab call o env H K) : xop tab call o env' H K := by
  unfold xop at h ⊢
  generalize o.op = p at h he ⊢
  cases p <;> simp only at h ⊢ <;> first | exact h | skip
  case move x => rw [← he x (by simp [Op.operands])]; exact h
  case assign x => rw [← he x (by simp [Op.operands])]; exact h
  case pick c a b => rw [← he c (by simp [Op.operands]), ← he a (by simp [Op.operands]), ← he b (by simp [Op.operands])]; exact h
  case box t x => rw [← he x (by simp [Op.operands])]; exact h
  case build t ps => rw [← parts_env (env := env) (fun x hx => he x (by simpa [Op.operands] using hx))]; exact h
  case buildSlice t n ps => rw [← parts_env (env := env) (fun x hx => he x (by simpa [Op.operands] using hx))]; exact h
  case load t a => rw [← he a (by simp [Op.operands])]; exact h
  case store t a v => rw [← he a (by simp [Op.operands]), ← he v (by simp [Op.operands])]; exact h
  case nilCheck x => rw [← he x (by simp [Op.operands])]; exact h
  case binOp op t x y t2 => rw [← he x (by simp [Op.operands]), ← he y (by simp [Op.operands])]; exact h
  case unOp op t x => rw [← he x (by simp [Op.operands])]; exact h
  case convert t u x => rw [← he x (by simp [Op.operands])]; exact h
  case makeInterface t x => rw [← he x (by simp [Op.operands])]; exact h
  case makeFunc f a b =>
    have e1 : a.toList.map (opd env) = a.toList.map (opd env') := List.map_congr_left fun x hx => he x (by simp [Op.operands] at hx ⊢; simp [hx])
    have e2 : b.toList.map (opd env) = b.toList.map (opd env') := List.map_congr_left fun x hx => he x (by simp [Op.operands] at hx ⊢; simp [hx])
    rw [← e1, ← e2]; exact h
  case makeSlice t a b => rw [← he a (by simp [Op.operands]), ← he b (by simp [Op.operands])]; exact h
  case slice t x lo hi mx =>
    rw [← he x (by simp [Op.operands]), ← map_env (env := env) (o := lo) (fun x hx => he x (by simp [Op.operands] at hx ⊢; simp [hx])), ← map_env (env := env) (o := hi) (fun x hx => he x (by simp [Op.operands] at hx ⊢; simp [hx])),
      ← map_env (env := env) (o := mx) (fun x hx => he x (by simp [Op.operands] at hx ⊢; simp [hx]))]
    exact h
  case fieldAddr t x k => rw [← he x (by simp [Op.operands])]; exact h
  case field t x k => rw [← he x (by simp [Op.operands])]; exact h
  case indexAddr t x i => rw [← he x (by simp [Op.operands]), ← he i (by simp [Op.operands])]; exact h
  case index t x i => rw [← he x (by simp [Op.operands]), ← he i (by simp [Op.operands])]; exact h
  case extract x i => rw [← he x (by simp [Op.operands])]; exact h
  case range t x => rw [← he x (by simp [Op.operands])]; exact h
  case next x st => rw [← he x (by simp [Op.operands])]; exact h
  case call c =>
    unfold xcall at h ⊢
    have ha : ∀ x ∈ c.args.toList, opd env x = opd env' x := fun x hx => he x (by simp [Op.operands, Call.operands] at hx ⊢; simp [hx])
    have hm : c.args.toList.map (opd env) = c.args.toList.map (opd env') := List.map_congr_left ha
    generalize hc : c.callee = cc at h ⊢
    cases cc <;> simp only at h ⊢ <;> first | exact h.elim | skip
    · rename_i f
      rw [← he f (by simp [Op.operands, Call.operands, hc]), ← hm]
      exact h
    · rename_i b
      split at h
      · rename_i h1 h2
        try simp only [h1, h2]
        rw [← ha _ (by rw [h2]; simp)]
        exact h
      · rename_i h1 h2
        try simp only [h1, h2]
        rw [← ha _ (by rw [h2]; simp), ← ha _ (by rw [h2]; simp)]
        exact h
      · rename_i h1 h2
        try simp only [h1, h2]
        rw [← ha _ (by rw [h2]; simp)]
        exact h
      · rename_i h1 h2
        try simp only [h1, h2]
        rw [← ha _ (by rw [h2]; simp), ← ha _ (by rw [h2]; simp)]
        exact h
      · rename_i h2
        try simp only [h2]
        rw [← ha _ (by rw [h2]; simp), ← ha _ (by rw [h2]; simp)]
        exact h
      · rename_i h2
        try simp only [h2]
        rw [← ha _ (by rw [h2]; simp), ← ha _ (by rw [h2]; simp)]
        exact h
      · exact h.elim

theorem ch_step (hT : TabOK P tab) {O : Org} {ops : Array Oper} {o : Oper} {env envF : List (Nat × AV)} {H : AH} {K : St → Prop} (h : xguard tab (CallS P) ops o ⟨env, H⟩ K) (hsm : Same ops o env envF) (hd : dstOK O.N o = true) {c : Cx} {a : Act} {w : World}
    (hs : Sat O c ⟨envF, H⟩ a w) {next : Act → World → Prop} {Q : Exit → Act → World → Prop}
    (hn : ∀ v c' H' a' w' e, Sat O c' ⟨Go.Proofs.YthpkehhghcpolaaDoor.putd o.dst v envF, H'⟩ a' w' → Stays c c' H → LkEq e env → K ⟨Go.Proofs.YthpkehhghcpolaaDoor.putd o.dst v e, H'⟩ → next a' w') :
    if Region.wanted o (yielded ops a.tmps) then o.wp P a w next Q else next (a.put o.dst undef) w := by
  have hd := dstOK_spec hd
  rcases gd_cases (xguard_gd h) with ⟨hw, e, he, h⟩ | ⟨hw, e, he, h⟩
  · rw [if_pos (hw.sem hsm hs)]
    refine xop_ok hT (xop_env (fun x hx => (opd_lk he x).trans (hsm.op x hx)) h) hs.hs hs.env fun u val w' c' H' h1 h2 h3 h4 h5 => ?_
    exact hn u c' H' _ _ e ((hs.go h3 h2 h4).putd o.dst hd h1) h3.late he h5
  · rw [if_neg (by simp [hw.sem hsm hs])]
    exact hn (.tup []) c H _ _ e (hs.putd o.dst hd (v := .tup []) (.tup [] #[] rfl (by simp))) (fun _ _ _ _ h => h) he h

end
end Go.Proofs.YthpkehhghcpolaaDoor
