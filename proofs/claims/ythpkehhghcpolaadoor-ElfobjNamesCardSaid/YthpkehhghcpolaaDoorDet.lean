/-
  What a reading operation yields is one value.
-/
import Derived.Test.YthpkehhghcpolaaDoorRead
namespace Go.Proofs.YthpkehhghcpolaaDoor
set_option linter.unusedVariables false
set_option linter.unusedSimpArgs false

structure Det {α : Type} (f : (α → Prop) → Prop) : Prop where
  mono : ∀ {K K' : α → Prop}, (∀ a, K a → K' a) → f K → f K'
  ex : ∀ {K : α → Prop}, f K → ∃ a, f (fun x => x = a) ∧ K a

section
variable {α β : Type}

theorem d_ret (x : α) : Det fun K => K x := ⟨fun h k => h _ k, fun h => ⟨x, rfl, h⟩⟩
theorem d_false : Det fun K : α → Prop => False := ⟨fun _ h => h, fun h => h.elim⟩
theorem d_ck {c : Bool} {f : (α → Prop) → Prop} (h : Det f) : Det fun K => Ck c (f K) := by
  cases c
  · exact d_false
  · exact h
theorem d_br {c : Bool} {f g : (α → Prop) → Prop} (h : Det f) (k : Det g) : Det fun K => Br c (f K) (g K) := by
  cases c
  · exact k
  · exact h
theorem d_opt {o : Option β} {f : β → (α → Prop) → Prop} (h : ∀ a, Det (f a)) : Det fun K => Opt o fun a => f a K := by
  cases o
  · exact d_false
  · exact h _
theorem d_and {p : Prop} {f : (α → Prop) → Prop} (h : Det f) : Det fun K => p ∧ f K :=
  ⟨fun hk k => ⟨k.1, h.mono hk k.2⟩, fun k => by obtain ⟨a, h1, h2⟩ := h.ex k.2; exact ⟨a, ⟨k.1, h1⟩, h2⟩⟩
theorem d_bind {f : (β → Prop) → Prop} {g : β → (α → Prop) → Prop} (h : Det f) (k : ∀ b, Det (g b)) : Det fun K => f fun b => g b K :=
  ⟨fun hk q => h.mono (fun b r => (k b).mono hk r) q, fun q => by
    obtain ⟨b, h1, h2⟩ := h.ex q
    obtain ⟨a, h3, h4⟩ := (k b).ex h2
    exact ⟨a, h.mono (fun x e => by subst e; exact h3) h1, h4⟩⟩
theorem d_map {f : (β → Prop) → Prop} (g : β → α) (h : Det f) : Det fun K => f fun b => K (g b) := d_bind h fun b => d_ret (g b)
/-- Bytes whose numbers are those of a list: there is but one list of bytes. -/
theorem d_bytes {l : List T} {g : List UInt8 → α} : Det fun K => ∃ bs : List UInt8, l = bs.map (fun b => T.int .u8 (b.toNat : Int)) ∧ K (g bs) :=
  ⟨fun hk ⟨bs, h1, h2⟩ => ⟨bs, h1, hk _ h2⟩, fun ⟨bs, h1, h2⟩ => ⟨g bs, ⟨bs, h1, rfl⟩, h2⟩⟩
end

section
variable {tab : Tab} {H : AH}

theorem d_partT {y : TyI} {cells : List T} {o : Nat} : Det (partT y cells o) := by
  unfold partT
  cases y.isAgg
  · exact d_opt fun a => d_ret a
  · exact d_ck (d_ret _)

theorem d_partA {y : TyI} {cells : List AV} {o : Nat} : Det (partA y cells o) := by
  unfold partA
  cases y.isAgg
  · exact d_opt fun a => d_ret a
  · exact d_ck (d_ret _)

theorem d_load {ty : TypeId} {a : AV} : Det (xload tab ty H a) := by
  unfold xload
  refine d_opt fun y => ?_
  cases a <;> first | exact d_false | skip
  · rename_i m; cases m <;> first | exact d_false | exact d_map _ d_partT
  · rename_i b g i o
    simp only
    cases H[b]? with
    | none => exact d_false
    | some blk =>
      cases blk
      · exact d_false
      · exact d_partA
      · rename_i l
        cases l
        · exact d_ck (d_opt fun e => d_map _ d_partT)
        · exact d_ck (d_opt fun e => d_partA)
      · exact d_false

theorem d_pick {c a b : AV} : Det (xpick c a b) := by
  unfold xpick
  cases c <;> first | exact d_false | skip
  rename_i m; cases m <;> first | exact d_false | skip
  rename_i c
  simp only
  split
  · exact d_ret _
  · exact d_br (d_ret _) (d_ret _)

theorem d_fill {place : Nat → Option (Nat × Nat)} : ∀ {parts : List (Nat × AV)} {cells : List AV}, Det (xfill place cells parts)
  | [], cells => d_ret _
  | (k, v) :: r, cells => d_opt fun p => d_ck (d_fill (parts := r))

theorem d_build {ty : TypeId} {parts : List (Nat × AV)} : Det (xbuild tab ty parts) := by
  unfold xbuild
  refine d_opt fun y => d_opt fun zs => d_ck ?_
  cases y.d <;> first | exact d_false | skip
  · exact d_opt fun z => d_fill
  · exact d_ck d_fill

theorem d_nilCheck {x : AV} : Det (xnilCheck H x) := by
  unfold xnilCheck
  cases x <;> first | exact d_false | skip
  · rename_i m; cases m <;> first | exact d_false | exact d_ret _ | skip
    rename_i f _ _; cases f <;> first | exact d_false | exact d_ret _
  · rename_i b g i o
    simp only
    cases H[b]? with
    | none => exact d_false
    | some blk =>
      cases blk
      · exact d_false
      · exact d_ret _
      · exact d_ck (d_ret _)
      · exact d_false
  · rename_i f _ _; cases f <;> first | exact d_false | exact d_ret _

theorem d_int {op : BinOp} {k k' : IntKind} {a b : Int} : Det (xint op k a k' b) := by
  unfold xint
  cases op <;> first | exact d_ck (d_ret _) | exact d_ck (d_ck (d_ret _))

theorem d_str {op : BinOp} {a b : List UInt8} : Det (xstr op a b) := by
  unfold xstr
  cases op <;> first | exact d_false | exact d_ret _ | exact d_ck (d_ret _)

theorem d_eq {ty : TypeId} {x y : AV} {yc : Bool} : Det (xeq tab ty H x y yc) := by
  unfold xeq
  refine d_opt fun i => ?_
  have other : ∀ c o, Det fun K : Bool → Prop => Ck c (Opt o K) := fun c o => d_ck (d_opt fun a => d_ret a)
  cases x <;> first | exact other _ _ | skip
  rename_i x
  cases x <;> first | exact other _ _ | skip
  · cases y <;> first | exact other _ _ | skip
    rename_i y; cases y <;> first | exact other _ _ | exact d_ck (d_ret _)
  · cases y <;> first | exact other _ _ | skip
    rename_i y; cases y <;> first | exact other _ _ | skip
    simp only
    cases i.d <;> first | exact d_false | exact d_and (d_opt fun a => d_ret a)

theorem d_bin {op : BinOp} {ty : TypeId} {x y : AV} {yc : Bool} : Det (xbin tab op ty H x y yc) := by
  unfold xbin
  have other : Det fun K : T → Prop => (match op with
    | .eql => xeq tab ty H (toAgg x) (toAgg y) yc fun b => K (.bool b)
    | .neq => xeq tab ty H (toAgg x) (toAgg y) yc fun b => K (.bool (!b))
    | _ => False) := by
    cases op <;> first | exact d_false | exact d_map _ d_eq
  cases x <;> first | exact other | skip
  rename_i x
  cases x <;> first | exact other | skip
  · cases y <;> first | exact other | skip
    rename_i y; cases y <;> first | exact other | exact d_int
  · cases y <;> first | exact other | skip
    rename_i y; cases y <;> first | exact other | exact d_str

theorem d_un {op : UnOp} {x : AV} : Det (xun op x) := by
  unfold xun
  cases op <;> cases x <;> first | exact d_false | skip
  all_goals rename_i x; cases x <;> first | exact d_false | exact d_ret _

theorem d_field {ty : TypeId} {a : AV} {k : Nat} : Det (xfield tab ty a k) := by
  unfold xfield
  refine d_opt fun y => d_opt fun f => d_opt fun z => ?_
  cases a <;> first | exact d_false | exact d_partA | skip
  rename_i m; cases m <;> first | exact d_false | exact d_map _ d_partT

theorem d_fieldAddr {ty : TypeId} {a : AV} {k : Nat} : Det (xfieldAddr tab ty H a k) := by
  unfold xfieldAddr
  refine d_opt fun y => d_opt fun f => d_opt fun z => d_ck ?_
  cases a <;> first | exact d_false | skip
  · rename_i m; cases m <;> first | exact d_false | exact d_ret _
  · rename_i b g i o
    simp only
    cases H[b]? with
    | none => exact d_false
    | some blk =>
      cases blk
      · exact d_false
      · exact d_ret _
      · exact d_ck (d_ret _)
      · exact d_false

theorem d_indexAddr {ty : TypeId} {a ix : AV} : Det (xindexAddr tab ty H a ix) := by
  unfold xindexAddr
  refine d_opt fun y => ?_
  cases ix <;> first | exact d_false | skip
  rename_i ix; cases ix <;> first | exact d_false | skip
  simp only
  cases y.d <;> cases a <;> first | exact d_false | skip
  · rename_i m; cases m <;> first | exact d_false | exact d_opt fun z => d_ck (d_opt fun x => d_ret _)
  · rename_i b g i o
    refine d_opt fun z => ?_
    cases H[b]? with
    | none => exact d_false
    | some blk => cases blk <;> first | exact d_false | exact d_ck (d_ret _)
  · rename_i m; cases m <;> first | exact d_false | exact d_opt fun z => d_ck (d_ret _)
  · rename_i b g i o
    refine d_opt fun z => d_ck ?_
    cases H[b]? with
    | none => exact d_false
    | some blk => cases blk <;> first | exact d_false | exact d_ret _ | exact d_ck (d_ret _)

theorem d_index {ty : TypeId} {a ix : AV} : Det (xindex tab ty a ix) := by
  unfold xindex
  refine d_opt fun y => ?_
  cases ix <;> first | exact d_false | skip
  rename_i ix; cases ix <;> first | exact d_false | skip
  simp only
  cases y.d <;> cases a <;> first | exact d_false | exact d_opt fun z => d_ck d_partA | skip
  all_goals rename_i m; cases m <;> first | exact d_false | exact d_ck (d_opt fun x => d_ret _) | exact d_opt fun z => d_ck (d_map _ d_partT)

theorem d_bound {v : Option AV} {dflt most : Nat} : Det (xbound v dflt most) := by
  unfold xbound
  cases v with
  | none => exact d_ret _
  | some v =>
    cases v <;> first | exact d_false | skip
    rename_i m; cases m <;> first | exact d_false | exact d_ck (d_ret _)

theorem d_slice {ty : TypeId} {a : AV} {lo hi mx : Option AV} : Det (xslice tab ty H a lo hi mx) := by
  unfold xslice
  refine d_opt fun y => ?_
  cases mx with
  | none =>
    simp only
    cases y.d <;> cases a <;> first | exact d_false | skip
    · rename_i m; cases m <;> first | exact d_false | exact d_bind d_bound fun h => d_map _ d_bound
    · rename_i m; cases m <;> first | exact d_false | exact d_opt fun z => d_ck (d_bind d_bound fun h => d_map _ d_bound) | exact d_opt fun z => d_bind d_bound fun h => d_bind d_bound fun _ => d_ret _
    · rename_i b g i o
      refine d_opt fun z => ?_
      cases H[b]? with
      | none => exact d_false
      | some blk => cases blk <;> first | exact d_false | exact d_ck (d_bind d_bound fun h => d_map _ d_bound)
  | some m =>
    simp only
    split
    · refine d_opt fun z => ?_
      cases a <;> first | exact d_false | exact d_ret _ | skip
      · rename_i m; cases m <;> first | exact d_false | exact d_ret _
      · rename_i b g i o
        simp only
        cases H[b]? with
        | none => exact d_false
        | some blk => cases blk <;> first | exact d_false | exact d_ck (d_br (d_ret _) (d_ret _))
    · exact d_false

theorem d_convert {s d : TypeId} {x : AV} : Det (xconvert tab s d x H) := by
  unfold xconvert
  refine d_opt fun y => d_opt fun w => ?_
  cases y.d <;> cases x <;> first | exact d_false | skip
  · rename_i m; cases m <;> first | exact d_false | exact d_ret _
  · rename_i m; cases m <;> first | exact d_false | exact d_ret _ | skip
    · simp only
      cases w.d <;> first | exact d_false | skip
      refine d_opt fun z => ?_
      cases z.d <;> first | exact d_false | skip
      rename_i k; cases k <;> first | exact d_false | exact d_ret _
    · simp only
      cases w.d <;> first | exact d_false | skip
      refine d_opt fun z => ?_
      cases z.d <;> first | exact d_false | skip
      rename_i k; cases k <;> first | exact d_false | exact d_ck d_bytes
  · rename_i b g i o
    simp only
    cases w.d <;> first | exact d_false | skip
    refine d_opt fun z => ?_
    cases z.d <;> first | exact d_false | skip
    rename_i k; cases k <;> first | exact d_false | skip
    simp only
    cases H[b]? with
    | none => exact d_false
    | some blk =>
      cases blk <;> first | exact d_false | skip
      rename_i l; cases l <;> first | exact d_false | exact d_ck d_bytes

theorem d_len {ty : TypeId} {x : AV} : Det (xlen tab ty H x) := by
  unfold xlen
  refine d_opt fun y => ?_
  have other : ∀ c o, Det fun K : AV → Prop => Ck c (Opt o fun n : Nat => K (.t (.int .i64 n))) := fun c o => d_ck (d_opt fun a => d_ret _)
  cases hd : y.d <;> first | exact d_ret _ | exact other _ _

theorem d_minmax {mx : Bool} {x y : AV} : Det (xminmax mx x y) := by
  unfold xminmax
  cases x <;> first | exact d_false | skip
  rename_i x; cases x <;> first | exact d_false | skip
  cases y <;> first | exact d_false | skip
  rename_i y; cases y <;> first | exact d_false | exact d_ck (d_ret _)

theorem d_extract {x : AV} {i : Nat} : Det (xextract x i) := by
  unfold xextract
  cases x <;> first | exact d_false | exact d_opt fun a => d_ret a

theorem d_ifc {t : TypeId} {x : AV} : Det (xifc tab t x) := by
  unfold xifc
  refine d_opt fun y => d_ck ?_
  cases x <;> exact d_ret _

theorem d_read {o : Oper} {env : List (Nat × AV)} : Det (xread tab o env H) := by
  unfold xread
  cases o.op <;> first | exact d_false | exact d_ret _ | exact d_pick | exact d_build | exact d_load | exact d_nilCheck | exact d_map _ d_bin | exact d_map _ d_un | exact d_convert | exact d_slice | exact d_fieldAddr | exact d_field | exact d_indexAddr | exact d_index | exact d_extract | exact d_ifc | skip
  rename_i c
  simp only
  cases c.callee <;> first | exact d_false | skip
  simp only
  split
  · exact d_len
  · exact d_minmax
  · exact d_minmax
  · exact d_false

end
end Go.Proofs.YthpkehhghcpolaaDoor
