/-
  Do all of a list hold?
-/
import Derived.Test.YtnjmeadmkbkikaaGreatDoorWc
import Derived.Test.YtnjmeadmkbkikaaGreatDoorFg
namespace Go.Proofs.YtnjmeadmkbkikaaGreatDoor
open Go.IntWalk
set_option maxRecDepth 100000
set_option linter.unusedVariables false
set_option linter.unusedSimpArgs false
set_option maxHeartbeats 1000000

/-- The loop that comes ahead of the rest. -/
theorem loop_then {k0 : Nat} {body : (Ex → St → Prop) → St → Prop} {Q : Ex → St → Prop} {s : St} (J : Ex → St → Prop) (h : ∀ Q', (∀ e s', J e s' → Q' e s') → LoopU k0 body Q' s) (hJ : ∀ e s', J e s' → Q e s') : LoopU k0 body Q s := h Q hJ
theorem get_some {α : Type} {R : List α} {i : Nat} (h : i < R.length) : ∃ x, R[i]? = some x ∧ x ∈ R := ⟨R[i], List.getElem?_eq_getElem h, List.getElem_mem h⟩
theorem nat_in {n : Nat} (h : n ≤ 9223372036854775807) : IntKind.i64.wrap (n : Int) = n := by rw [IntKind.wrap_i64]; omega
theorem dlt {a b : Nat} (c : decide ((a : Int) < (b : Int)) = true) : a < b := by have := of_decide_eq_true c; omega
theorem dge {a b : Nat} (c : decide ((a : Int) < (b : Int)) = false) : b ≤ a := by have := of_decide_eq_false c; omega
theorem take_all {α : Type} {l : List α} {i : Nat} {x : α} {P : α → Prop} (hx : l[i]? = some x) (h : ∀ y ∈ l.take i, P y) (hp : P x) : ∀ y ∈ l.take (i + 1), P y := fun y hy => by
  have hi : i < l.length := by
    rcases Nat.lt_or_ge i l.length with h | h
    · exact h
    · rw [List.getElem?_eq_none h] at hx; cases hx
  rw [List.take_succ_eq_append_getElem hi] at hy
  rcases List.mem_append.1 hy with hy | hy
  · exact h y hy
  · rw [List.mem_singleton.1 hy]; rw [List.getElem?_eq_getElem hi] at hx; cases hx; exact hp

/-- An answer that, if it is yes, says something. -/
def YesS (P : Prop) (r : AV) : Prop := ∃ b : Bool, r = .t (.bool b) ∧ (b = true → P)
theorem YesS.noRef {P : Prop} : ∀ r, YesS P r → noRef r = true := by rintro r ⟨b, rfl, _⟩; rfl
theorem YesS.flat {P : Prop} : ∀ r, YesS P r → Flat r := by rintro r ⟨b, rfl, _⟩; exact (show flatT (.bool b) = true from rfl)
theorem Runs.yes {P : Program} {f : FuncId} {ts : List T} {b : Bool} {p : Prop} (h : Runs P f ts (.t (.bool b))) (hp : b = true → p) : RunsX P f ts (YesS p) :=
  ⟨YesS.noRef, fun n F w vs hF hl hr => (h.2 n F w vs hF hl hr).mono fun e w' ⟨v, G, h1⟩ => ⟨_, v, G, ⟨b, rfl, hp⟩, h1⟩⟩

theorem all_File_00 (G : FuncId) (l : List FileD) (P : FileD → Prop) (hl : l.length ≤ 9223372036854775807)
    (hh : ∀ x ∈ l, RunsX Tryz.prog G [fileT x] (YesS (P x))) : RunsX Tryz.prog 53 [.vecd 4 (l.map fileT), .fn (.func G) [] []] (YesS (∀ x ∈ l, P x)) := by
  have hmap : (l.map fileT).length = l.length := by simp
  refine RunsX.of_call ?_ YesS.noRef
  refine CallS.of_fn tabS_ok regS_ok Tryz.func53 rfl rfl ?_
  refine CallS.of_fn tabS_ok regS_ok Tryz.func96 rfl rfl ?_
  refine CallS.of_fn tabS_ok regS_ok Tryz.func150 rfl rfl ?_
  refine loop_on (fun i : Nat => i ≤ l.length ∧ ∀ x ∈ l.take i, P x) (fun i => ⟨[(0, .t (.vecd 4 (l.map fileT))), (1, .fn (.func 97) [] [.ptr 0 0 0 0]), (7, .t (.int .i64 ((l.map fileT).length : Int))), (8, .t (.int .i64 i))], [.box [.t (.fn (.func G) [] [])]]⟩)
    (fun i => l.length - i) 0 ⟨Nat.zero_le _, by simp⟩ ?_ (fun i hi => ?_)
  · exact weak_of ⟨rfl, rfl, rfl, rfl, trivial⟩ rfl
  obtain ⟨hi, hP⟩ := hi
  refine br_intro (fun c => ?_) (fun c => ?_)
  · have c : i < l.length := by have := dlt c; omega
    obtain ⟨x, hx, hxm⟩ := get_some (R := l) (i := i) c
    have hh := hh x hxm
    refine opt_intro (show (l.map fileT)[((i : Nat) : Int).toNat]? = some (fileT x) from by rw [Int.toNat_natCast, List.getElem?_map, hx]; rfl) ?_
    refine CallS.of_fn tabS_ok regS_ok Tryz.func97 rfl rfl ?_
    refine CallS.frzX hh rfl ⟨.refl _, trivial⟩ ?_
    rintro r ⟨b, rfl, hb⟩
    refine br_intro (fun c2 => ?_) (fun c2 => ?_)
    · refine ⟨_, ⟨false, rfl, fun h => by cases h⟩, _, _, rfl, .of_eq ?_⟩
      exact congrArg T.bool (by simp)
    · have hb := hb (by simpa using c2)
      refine st_intro (n := ((i + 1 : Nat) : Int)) (nat_in (n := i + 1) (by omega)) ?_
      conv => whnf
      exact ⟨⟨i + 1, ⟨c, take_all hx hP hb⟩⟩, weak_gc [0] rfl ⟨rfl, rfl, rfl, rfl, trivial⟩ ⟨rfl, trivial⟩, by show l.length - (i + 1) < l.length - i; omega⟩
  · have c : i = l.length := by have := dge c; omega
    refine ⟨_, ⟨true, rfl, fun _ => by rw [c, List.take_length] at hP; exact hP⟩, _, _, rfl, .of_eq ?_⟩
    exact congrArg T.bool (by simp)

theorem all_Alias_10 (G : FuncId) (C : T) (l : List AliasD) (P : AliasD → Prop) (hl : l.length ≤ 9223372036854775807)
    (hh : ∀ x ∈ l, RunsX Tryz.prog G [C, aliasT x] (YesS (P x))) : RunsX Tryz.prog 55 [.vecd 3 (l.map aliasT), .fn (.func G) [C] []] (YesS (∀ x ∈ l, P x)) := by
  have hmap : (l.map aliasT).length = l.length := by simp
  refine RunsX.of_call ?_ YesS.noRef
  refine CallS.of_fn tabS_ok regS_ok Tryz.func55 rfl rfl ?_
  refine CallS.of_fn tabS_ok regS_ok Tryz.func98 rfl rfl ?_
  refine CallS.of_fn tabS_ok regS_ok Tryz.func151 rfl rfl ?_
  refine loop_on (fun i : Nat => i ≤ l.length ∧ ∀ x ∈ l.take i, P x) (fun i => ⟨[(0, .t (.vecd 3 (l.map aliasT))), (1, .fn (.func 99) [] [.ptr 0 0 0 0]), (7, .t (.int .i64 ((l.map aliasT).length : Int))), (8, .t (.int .i64 i))], [.box [.t (.fn (.func G) [C] [])]]⟩)
    (fun i => l.length - i) 0 ⟨Nat.zero_le _, by simp⟩ ?_ (fun i hi => ?_)
  · exact weak_of ⟨rfl, rfl, rfl, rfl, trivial⟩ rfl
  obtain ⟨hi, hP⟩ := hi
  refine br_intro (fun c => ?_) (fun c => ?_)
  · have c : i < l.length := by have := dlt c; omega
    obtain ⟨x, hx, hxm⟩ := get_some (R := l) (i := i) c
    have hh := hh x hxm
    refine opt_intro (show (l.map aliasT)[((i : Nat) : Int).toNat]? = some (aliasT x) from by rw [Int.toNat_natCast, List.getElem?_map, hx]; rfl) ?_
    refine CallS.of_fn tabS_ok regS_ok Tryz.func99 rfl rfl ?_
    refine CallS.frzX hh rfl ⟨.refl _, .refl _, trivial⟩ ?_
    rintro r ⟨b, rfl, hb⟩
    refine br_intro (fun c2 => ?_) (fun c2 => ?_)
    · refine ⟨_, ⟨false, rfl, fun h => by cases h⟩, _, _, rfl, .of_eq ?_⟩
      exact congrArg T.bool (by simp)
    · have hb := hb (by simpa using c2)
      refine st_intro (n := ((i + 1 : Nat) : Int)) (nat_in (n := i + 1) (by omega)) ?_
      conv => whnf
      exact ⟨⟨i + 1, ⟨c, take_all hx hP hb⟩⟩, weak_gc [0] rfl ⟨rfl, rfl, rfl, rfl, trivial⟩ ⟨rfl, trivial⟩, by show l.length - (i + 1) < l.length - i; omega⟩
  · have c : i = l.length := by have := dge c; omega
    refine ⟨_, ⟨true, rfl, fun _ => by rw [c, List.take_length] at hP; exact hP⟩, _, _, rfl, .of_eq ?_⟩
    exact congrArg T.bool (by simp)

theorem all_Class_10 (G : FuncId) (C : T) (l : List ClassD) (P : ClassD → Prop) (hl : l.length ≤ 9223372036854775807)
    (hh : ∀ x ∈ l, RunsX Tryz.prog G [C, classT x] (YesS (P x))) : RunsX Tryz.prog 57 [.vecd 7 (l.map classT), .fn (.func G) [C] []] (YesS (∀ x ∈ l, P x)) := by
  have hmap : (l.map classT).length = l.length := by simp
  refine RunsX.of_call ?_ YesS.noRef
  refine CallS.of_fn tabS_ok regS_ok Tryz.func57 rfl rfl ?_
  refine CallS.of_fn tabS_ok regS_ok Tryz.func100 rfl rfl ?_
  refine CallS.of_fn tabS_ok regS_ok Tryz.func152 rfl rfl ?_
  refine loop_on (fun i : Nat => i ≤ l.length ∧ ∀ x ∈ l.take i, P x) (fun i => ⟨[(0, .t (.vecd 7 (l.map classT))), (1, .fn (.func 101) [] [.ptr 0 0 0 0]), (7, .t (.int .i64 ((l.map classT).length : Int))), (8, .t (.int .i64 i))], [.box [.t (.fn (.func G) [C] [])]]⟩)
    (fun i => l.length - i) 0 ⟨Nat.zero_le _, by simp⟩ ?_ (fun i hi => ?_)
  · exact weak_of ⟨rfl, rfl, rfl, rfl, trivial⟩ rfl
  obtain ⟨hi, hP⟩ := hi
  refine br_intro (fun c => ?_) (fun c => ?_)
  · have c : i < l.length := by have := dlt c; omega
    obtain ⟨x, hx, hxm⟩ := get_some (R := l) (i := i) c
    have hh := hh x hxm
    refine opt_intro (show (l.map classT)[((i : Nat) : Int).toNat]? = some (classT x) from by rw [Int.toNat_natCast, List.getElem?_map, hx]; rfl) ?_
    refine CallS.of_fn tabS_ok regS_ok Tryz.func101 rfl rfl ?_
    refine CallS.frzX hh rfl ⟨.refl _, .refl _, trivial⟩ ?_
    rintro r ⟨b, rfl, hb⟩
    refine br_intro (fun c2 => ?_) (fun c2 => ?_)
    · refine ⟨_, ⟨false, rfl, fun h => by cases h⟩, _, _, rfl, .of_eq ?_⟩
      exact congrArg T.bool (by simp)
    · have hb := hb (by simpa using c2)
      refine st_intro (n := ((i + 1 : Nat) : Int)) (nat_in (n := i + 1) (by omega)) ?_
      conv => whnf
      exact ⟨⟨i + 1, ⟨c, take_all hx hP hb⟩⟩, weak_gc [0] rfl ⟨rfl, rfl, rfl, rfl, trivial⟩ ⟨rfl, trivial⟩, by show l.length - (i + 1) < l.length - i; omega⟩
  · have c : i = l.length := by have := dge c; omega
    refine ⟨_, ⟨true, rfl, fun _ => by rw [c, List.take_length] at hP; exact hP⟩, _, _, rfl, .of_eq ?_⟩
    exact congrArg T.bool (by simp)

theorem all_Arg_01 (G : FuncId) (D0 : T) (l : List ArgD) (P : ArgD → Prop) (hl : l.length ≤ 9223372036854775807)
    (hh : ∀ x ∈ l, RunsX Tryz.prog G [argT x, D0] (YesS (P x))) : RunsX Tryz.prog 92 [.vecd 2 (l.map argT), .fn (.func G) [] [D0]] (YesS (∀ x ∈ l, P x)) := by
  have hmap : (l.map argT).length = l.length := by simp
  refine RunsX.of_call ?_ YesS.noRef
  refine CallS.of_fn tabS_ok regS_ok Tryz.func92 rfl rfl ?_
  refine CallS.of_fn tabS_ok regS_ok Tryz.func70 rfl rfl ?_
  refine CallS.of_fn tabS_ok regS_ok Tryz.func105 rfl rfl ?_
  refine loop_on (fun i : Nat => i ≤ l.length ∧ ∀ x ∈ l.take i, P x) (fun i => ⟨[(0, .t (.vecd 2 (l.map argT))), (1, .fn (.func 142) [] [.ptr 0 0 0 0]), (7, .t (.int .i64 ((l.map argT).length : Int))), (8, .t (.int .i64 i))], [.box [.t (.fn (.func G) [] [D0])]]⟩)
    (fun i => l.length - i) 0 ⟨Nat.zero_le _, by simp⟩ ?_ (fun i hi => ?_)
  · exact weak_of ⟨rfl, rfl, rfl, rfl, trivial⟩ rfl
  obtain ⟨hi, hP⟩ := hi
  refine br_intro (fun c => ?_) (fun c => ?_)
  · have c : i < l.length := by have := dlt c; omega
    obtain ⟨x, hx, hxm⟩ := get_some (R := l) (i := i) c
    have hh := hh x hxm
    refine opt_intro (show (l.map argT)[((i : Nat) : Int).toNat]? = some (argT x) from by rw [Int.toNat_natCast, List.getElem?_map, hx]; rfl) ?_
    refine CallS.of_fn tabS_ok regS_ok Tryz.func142 rfl rfl ?_
    refine CallS.frzX hh rfl ⟨.refl _, .refl _, trivial⟩ ?_
    rintro r ⟨b, rfl, hb⟩
    refine br_intro (fun c2 => ?_) (fun c2 => ?_)
    · refine ⟨_, ⟨false, rfl, fun h => by cases h⟩, _, _, rfl, .of_eq ?_⟩
      exact congrArg T.bool (by simp)
    · have hb := hb (by simpa using c2)
      refine st_intro (n := ((i + 1 : Nat) : Int)) (nat_in (n := i + 1) (by omega)) ?_
      conv => whnf
      exact ⟨⟨i + 1, ⟨c, take_all hx hP hb⟩⟩, weak_gc [0] rfl ⟨rfl, rfl, rfl, rfl, trivial⟩ ⟨rfl, trivial⟩, by show l.length - (i + 1) < l.length - i; omega⟩
  · have c : i = l.length := by have := dge c; omega
    refine ⟨_, ⟨true, rfl, fun _ => by rw [c, List.take_length] at hP; exact hP⟩, _, _, rfl, .of_eq ?_⟩
    exact congrArg T.bool (by simp)

theorem all_Rel_10 (G : FuncId) (C : T) (l : List RelD) (P : RelD → Prop) (hl : l.length ≤ 9223372036854775807)
    (hh : ∀ x ∈ l, RunsX Tryz.prog G [C, relT x] (YesS (P x))) : RunsX Tryz.prog 73 [.vecd 17 (l.map relT), .fn (.func G) [C] []] (YesS (∀ x ∈ l, P x)) := by
  have hmap : (l.map relT).length = l.length := by simp
  refine RunsX.of_call ?_ YesS.noRef
  refine CallS.of_fn tabS_ok regS_ok Tryz.func73 rfl rfl ?_
  refine CallS.of_fn tabS_ok regS_ok Tryz.func106 rfl rfl ?_
  refine CallS.of_fn tabS_ok regS_ok Tryz.func156 rfl rfl ?_
  refine loop_on (fun i : Nat => i ≤ l.length ∧ ∀ x ∈ l.take i, P x) (fun i => ⟨[(0, .t (.vecd 17 (l.map relT))), (1, .fn (.func 107) [] [.ptr 0 0 0 0]), (7, .t (.int .i64 ((l.map relT).length : Int))), (8, .t (.int .i64 i))], [.box [.t (.fn (.func G) [C] [])]]⟩)
    (fun i => l.length - i) 0 ⟨Nat.zero_le _, by simp⟩ ?_ (fun i hi => ?_)
  · exact weak_of ⟨rfl, rfl, rfl, rfl, trivial⟩ rfl
  obtain ⟨hi, hP⟩ := hi
  refine br_intro (fun c => ?_) (fun c => ?_)
  · have c : i < l.length := by have := dlt c; omega
    obtain ⟨x, hx, hxm⟩ := get_some (R := l) (i := i) c
    have hh := hh x hxm
    refine opt_intro (show (l.map relT)[((i : Nat) : Int).toNat]? = some (relT x) from by rw [Int.toNat_natCast, List.getElem?_map, hx]; rfl) ?_
    refine CallS.of_fn tabS_ok regS_ok Tryz.func107 rfl rfl ?_
    refine CallS.frzX hh rfl ⟨.refl _, .refl _, trivial⟩ ?_
    rintro r ⟨b, rfl, hb⟩
    refine br_intro (fun c2 => ?_) (fun c2 => ?_)
    · refine ⟨_, ⟨false, rfl, fun h => by cases h⟩, _, _, rfl, .of_eq ?_⟩
      exact congrArg T.bool (by simp)
    · have hb := hb (by simpa using c2)
      refine st_intro (n := ((i + 1 : Nat) : Int)) (nat_in (n := i + 1) (by omega)) ?_
      conv => whnf
      exact ⟨⟨i + 1, ⟨c, take_all hx hP hb⟩⟩, weak_gc [0] rfl ⟨rfl, rfl, rfl, rfl, trivial⟩ ⟨rfl, trivial⟩, by show l.length - (i + 1) < l.length - i; omega⟩
  · have c : i = l.length := by have := dge c; omega
    refine ⟨_, ⟨true, rfl, fun _ => by rw [c, List.take_length] at hP; exact hP⟩, _, _, rfl, .of_eq ?_⟩
    exact congrArg T.bool (by simp)

theorem all_Use_01 (G : FuncId) (D0 : T) (l : List UseD) (P : UseD → Prop) (hl : l.length ≤ 9223372036854775807)
    (hh : ∀ x ∈ l, RunsX Tryz.prog G [useT x, D0] (YesS (P x))) : RunsX Tryz.prog 75 [.vecd 4 (l.map useT), .fn (.func G) [] [D0]] (YesS (∀ x ∈ l, P x)) := by
  have hmap : (l.map useT).length = l.length := by simp
  refine RunsX.of_call ?_ YesS.noRef
  refine CallS.of_fn tabS_ok regS_ok Tryz.func75 rfl rfl ?_
  refine CallS.of_fn tabS_ok regS_ok Tryz.func110 rfl rfl ?_
  refine CallS.of_fn tabS_ok regS_ok Tryz.func157 rfl rfl ?_
  refine loop_on (fun i : Nat => i ≤ l.length ∧ ∀ x ∈ l.take i, P x) (fun i => ⟨[(0, .t (.vecd 4 (l.map useT))), (1, .fn (.func 111) [] [.ptr 0 0 0 0]), (7, .t (.int .i64 ((l.map useT).length : Int))), (8, .t (.int .i64 i))], [.box [.t (.fn (.func G) [] [D0])]]⟩)
    (fun i => l.length - i) 0 ⟨Nat.zero_le _, by simp⟩ ?_ (fun i hi => ?_)
  · exact weak_of ⟨rfl, rfl, rfl, rfl, trivial⟩ rfl
  obtain ⟨hi, hP⟩ := hi
  refine br_intro (fun c => ?_) (fun c => ?_)
  · have c : i < l.length := by have := dlt c; omega
    obtain ⟨x, hx, hxm⟩ := get_some (R := l) (i := i) c
    have hh := hh x hxm
    refine opt_intro (show (l.map useT)[((i : Nat) : Int).toNat]? = some (useT x) from by rw [Int.toNat_natCast, List.getElem?_map, hx]; rfl) ?_
    refine CallS.of_fn tabS_ok regS_ok Tryz.func111 rfl rfl ?_
    refine CallS.frzX hh rfl ⟨.refl _, .refl _, trivial⟩ ?_
    rintro r ⟨b, rfl, hb⟩
    refine br_intro (fun c2 => ?_) (fun c2 => ?_)
    · refine ⟨_, ⟨false, rfl, fun h => by cases h⟩, _, _, rfl, .of_eq ?_⟩
      exact congrArg T.bool (by simp)
    · have hb := hb (by simpa using c2)
      refine st_intro (n := ((i + 1 : Nat) : Int)) (nat_in (n := i + 1) (by omega)) ?_
      conv => whnf
      exact ⟨⟨i + 1, ⟨c, take_all hx hP hb⟩⟩, weak_gc [0] rfl ⟨rfl, rfl, rfl, rfl, trivial⟩ ⟨rfl, trivial⟩, by show l.length - (i + 1) < l.length - i; omega⟩
  · have c : i = l.length := by have := dge c; omega
    refine ⟨_, ⟨true, rfl, fun _ => by rw [c, List.take_length] at hP; exact hP⟩, _, _, rfl, .of_eq ?_⟩
    exact congrArg T.bool (by simp)

theorem all_Relaxed_01 (G : FuncId) (D0 : T) (l : List RelaxedD) (P : RelaxedD → Prop) (hl : l.length ≤ 9223372036854775807)
    (hh : ∀ x ∈ l, RunsX Tryz.prog G [relaxedT x, D0] (YesS (P x))) : RunsX Tryz.prog 76 [.vecd 3 (l.map relaxedT), .fn (.func G) [] [D0]] (YesS (∀ x ∈ l, P x)) := by
  have hmap : (l.map relaxedT).length = l.length := by simp
  refine RunsX.of_call ?_ YesS.noRef
  refine CallS.of_fn tabS_ok regS_ok Tryz.func76 rfl rfl ?_
  refine CallS.of_fn tabS_ok regS_ok Tryz.func112 rfl rfl ?_
  refine CallS.of_fn tabS_ok regS_ok Tryz.func158 rfl rfl ?_
  refine loop_on (fun i : Nat => i ≤ l.length ∧ ∀ x ∈ l.take i, P x) (fun i => ⟨[(0, .t (.vecd 3 (l.map relaxedT))), (1, .fn (.func 113) [] [.ptr 0 0 0 0]), (7, .t (.int .i64 ((l.map relaxedT).length : Int))), (8, .t (.int .i64 i))], [.box [.t (.fn (.func G) [] [D0])]]⟩)
    (fun i => l.length - i) 0 ⟨Nat.zero_le _, by simp⟩ ?_ (fun i hi => ?_)
  · exact weak_of ⟨rfl, rfl, rfl, rfl, trivial⟩ rfl
  obtain ⟨hi, hP⟩ := hi
  refine br_intro (fun c => ?_) (fun c => ?_)
  · have c : i < l.length := by have := dlt c; omega
    obtain ⟨x, hx, hxm⟩ := get_some (R := l) (i := i) c
    have hh := hh x hxm
    refine opt_intro (show (l.map relaxedT)[((i : Nat) : Int).toNat]? = some (relaxedT x) from by rw [Int.toNat_natCast, List.getElem?_map, hx]; rfl) ?_
    refine CallS.of_fn tabS_ok regS_ok Tryz.func113 rfl rfl ?_
    refine CallS.frzX hh rfl ⟨.refl _, .refl _, trivial⟩ ?_
    rintro r ⟨b, rfl, hb⟩
    refine br_intro (fun c2 => ?_) (fun c2 => ?_)
    · refine ⟨_, ⟨false, rfl, fun h => by cases h⟩, _, _, rfl, .of_eq ?_⟩
      exact congrArg T.bool (by simp)
    · have hb := hb (by simpa using c2)
      refine st_intro (n := ((i + 1 : Nat) : Int)) (nat_in (n := i + 1) (by omega)) ?_
      conv => whnf
      exact ⟨⟨i + 1, ⟨c, take_all hx hP hb⟩⟩, weak_gc [0] rfl ⟨rfl, rfl, rfl, rfl, trivial⟩ ⟨rfl, trivial⟩, by show l.length - (i + 1) < l.length - i; omega⟩
  · have c : i = l.length := by have := dge c; omega
    refine ⟨_, ⟨true, rfl, fun _ => by rw [c, List.take_length] at hP; exact hP⟩, _, _, rfl, .of_eq ?_⟩
    exact congrArg T.bool (by simp)

theorem all_Macro_01 (G : FuncId) (D0 : T) (l : List MacroD) (P : MacroD → Prop) (hl : l.length ≤ 9223372036854775807)
    (hh : ∀ x ∈ l, RunsX Tryz.prog G [macroT x, D0] (YesS (P x))) : RunsX Tryz.prog 77 [.vecd 3 (l.map macroT), .fn (.func G) [] [D0]] (YesS (∀ x ∈ l, P x)) := by
  have hmap : (l.map macroT).length = l.length := by simp
  refine RunsX.of_call ?_ YesS.noRef
  refine CallS.of_fn tabS_ok regS_ok Tryz.func77 rfl rfl ?_
  refine CallS.of_fn tabS_ok regS_ok Tryz.func114 rfl rfl ?_
  refine CallS.of_fn tabS_ok regS_ok Tryz.func159 rfl rfl ?_
  refine loop_on (fun i : Nat => i ≤ l.length ∧ ∀ x ∈ l.take i, P x) (fun i => ⟨[(0, .t (.vecd 3 (l.map macroT))), (1, .fn (.func 115) [] [.ptr 0 0 0 0]), (7, .t (.int .i64 ((l.map macroT).length : Int))), (8, .t (.int .i64 i))], [.box [.t (.fn (.func G) [] [D0])]]⟩)
    (fun i => l.length - i) 0 ⟨Nat.zero_le _, by simp⟩ ?_ (fun i hi => ?_)
  · exact weak_of ⟨rfl, rfl, rfl, rfl, trivial⟩ rfl
  obtain ⟨hi, hP⟩ := hi
  refine br_intro (fun c => ?_) (fun c => ?_)
  · have c : i < l.length := by have := dlt c; omega
    obtain ⟨x, hx, hxm⟩ := get_some (R := l) (i := i) c
    have hh := hh x hxm
    refine opt_intro (show (l.map macroT)[((i : Nat) : Int).toNat]? = some (macroT x) from by rw [Int.toNat_natCast, List.getElem?_map, hx]; rfl) ?_
    refine CallS.of_fn tabS_ok regS_ok Tryz.func115 rfl rfl ?_
    refine CallS.frzX hh rfl ⟨.refl _, .refl _, trivial⟩ ?_
    rintro r ⟨b, rfl, hb⟩
    refine br_intro (fun c2 => ?_) (fun c2 => ?_)
    · refine ⟨_, ⟨false, rfl, fun h => by cases h⟩, _, _, rfl, .of_eq ?_⟩
      exact congrArg T.bool (by simp)
    · have hb := hb (by simpa using c2)
      refine st_intro (n := ((i + 1 : Nat) : Int)) (nat_in (n := i + 1) (by omega)) ?_
      conv => whnf
      exact ⟨⟨i + 1, ⟨c, take_all hx hP hb⟩⟩, weak_gc [0] rfl ⟨rfl, rfl, rfl, rfl, trivial⟩ ⟨rfl, trivial⟩, by show l.length - (i + 1) < l.length - i; omega⟩
  · have c : i = l.length := by have := dge c; omega
    refine ⟨_, ⟨true, rfl, fun _ => by rw [c, List.take_length] at hP; exact hP⟩, _, _, rfl, .of_eq ?_⟩
    exact congrArg T.bool (by simp)

theorem all_Term_02 (G : FuncId) (D0 : T) (D1 : T) (l : List T) (P : T → Prop) (hl : l.length ≤ 9223372036854775807) (ht : ∀ x ∈ l, IsTerm x)
    (hh : ∀ x ∈ l, RunsX Tryz.prog G [x, D0, D1] (YesS (P x))) : RunsX Tryz.prog 25 [.vecd 5 l, .fn (.func G) [] [D0, D1]] (YesS (∀ x ∈ l, P x)) := by
  have hmap : l.length = l.length := by simp
  refine RunsX.of_call ?_ YesS.noRef
  refine CallS.of_fn tabS_ok regS_ok Tryz.func25 rfl rfl ?_
  refine CallS.of_fn tabS_ok regS_ok Tryz.func60 rfl rfl ?_
  refine CallS.of_fn tabS_ok regS_ok Tryz.func102 rfl rfl ?_
  refine loop_on (fun i : Nat => i ≤ l.length ∧ ∀ x ∈ l.take i, P x) (fun i => ⟨[(0, .t (.vecd 5 l)), (1, .fn (.func 61) [] [.ptr 0 0 0 0]), (7, .t (.int .i64 (l.length : Int))), (8, .t (.int .i64 i))], [.box [.t (.fn (.func G) [] [D0, D1])]]⟩)
    (fun i => l.length - i) 0 ⟨Nat.zero_le _, by simp⟩ ?_ (fun i hi => ?_)
  · exact weak_of ⟨rfl, rfl, rfl, rfl, trivial⟩ rfl
  obtain ⟨hi, hP⟩ := hi
  refine br_intro (fun c => ?_) (fun c => ?_)
  · have c : i < l.length := by have := dlt c; omega
    obtain ⟨x, hx, hxm⟩ := get_some (R := l) (i := i) c
    have hh := hh x hxm
    have hti := ht x hxm
    cases hti with | mk op wd a b ks _ _ _ _ _ _ =>
    refine opt_intro (show l[((i : Nat) : Int).toNat]? = some (.agg [.int .i64 op, .int .i64 wd, .int .i64 a, .int .i64 b, .vecd 5 ks]) from by rw [Int.toNat_natCast, hx]) ?_
    refine CallS.of_fn tabS_ok regS_ok Tryz.func61 rfl rfl ?_
    refine CallS.frzX hh rfl ⟨.refl _, .refl _, .refl _, trivial⟩ ?_
    rintro r ⟨b, rfl, hb⟩
    refine br_intro (fun c2 => ?_) (fun c2 => ?_)
    · refine ⟨_, ⟨false, rfl, fun h => by cases h⟩, _, _, rfl, .of_eq ?_⟩
      exact congrArg T.bool (by simp)
    · have hb := hb (by simpa using c2)
      refine st_intro (n := ((i + 1 : Nat) : Int)) (nat_in (n := i + 1) (by omega)) ?_
      conv => whnf
      exact ⟨⟨i + 1, ⟨c, take_all hx hP hb⟩⟩, weak_gc [0] rfl ⟨rfl, rfl, rfl, rfl, trivial⟩ ⟨rfl, trivial⟩, by show l.length - (i + 1) < l.length - i; omega⟩
  · have c : i = l.length := by have := dge c; omega
    refine ⟨_, ⟨true, rfl, fun _ => by rw [c, List.take_length] at hP; exact hP⟩, _, _, rfl, .of_eq ?_⟩
    exact congrArg T.bool (by simp)

theorem all_Term_00 (G : FuncId) (l : List T) (P : T → Prop) (hl : l.length ≤ 9223372036854775807) (ht : ∀ x ∈ l, IsTerm x)
    (hh : ∀ x ∈ l, RunsX Tryz.prog G [x] (YesS (P x))) : RunsX Tryz.prog 25 [.vecd 5 l, .fn (.func G) [] []] (YesS (∀ x ∈ l, P x)) := by
  have hmap : l.length = l.length := by simp
  refine RunsX.of_call ?_ YesS.noRef
  refine CallS.of_fn tabS_ok regS_ok Tryz.func25 rfl rfl ?_
  refine CallS.of_fn tabS_ok regS_ok Tryz.func60 rfl rfl ?_
  refine CallS.of_fn tabS_ok regS_ok Tryz.func102 rfl rfl ?_
  refine loop_on (fun i : Nat => i ≤ l.length ∧ ∀ x ∈ l.take i, P x) (fun i => ⟨[(0, .t (.vecd 5 l)), (1, .fn (.func 61) [] [.ptr 0 0 0 0]), (7, .t (.int .i64 (l.length : Int))), (8, .t (.int .i64 i))], [.box [.t (.fn (.func G) [] [])]]⟩)
    (fun i => l.length - i) 0 ⟨Nat.zero_le _, by simp⟩ ?_ (fun i hi => ?_)
  · exact weak_of ⟨rfl, rfl, rfl, rfl, trivial⟩ rfl
  obtain ⟨hi, hP⟩ := hi
  refine br_intro (fun c => ?_) (fun c => ?_)
  · have c : i < l.length := by have := dlt c; omega
    obtain ⟨x, hx, hxm⟩ := get_some (R := l) (i := i) c
    have hh := hh x hxm
    have hti := ht x hxm
    cases hti with | mk op wd a b ks _ _ _ _ _ _ =>
    refine opt_intro (show l[((i : Nat) : Int).toNat]? = some (.agg [.int .i64 op, .int .i64 wd, .int .i64 a, .int .i64 b, .vecd 5 ks]) from by rw [Int.toNat_natCast, hx]) ?_
    refine CallS.of_fn tabS_ok regS_ok Tryz.func61 rfl rfl ?_
    refine CallS.frzX hh rfl ⟨.refl _, trivial⟩ ?_
    rintro r ⟨b, rfl, hb⟩
    refine br_intro (fun c2 => ?_) (fun c2 => ?_)
    · refine ⟨_, ⟨false, rfl, fun h => by cases h⟩, _, _, rfl, .of_eq ?_⟩
      exact congrArg T.bool (by simp)
    · have hb := hb (by simpa using c2)
      refine st_intro (n := ((i + 1 : Nat) : Int)) (nat_in (n := i + 1) (by omega)) ?_
      conv => whnf
      exact ⟨⟨i + 1, ⟨c, take_all hx hP hb⟩⟩, weak_gc [0] rfl ⟨rfl, rfl, rfl, rfl, trivial⟩ ⟨rfl, trivial⟩, by show l.length - (i + 1) < l.length - i; omega⟩
  · have c : i = l.length := by have := dge c; omega
    refine ⟨_, ⟨true, rfl, fun _ => by rw [c, List.take_length] at hP; exact hP⟩, _, _, rfl, .of_eq ?_⟩
    exact congrArg T.bool (by simp)

end Go.Proofs.YtnjmeadmkbkikaaGreatDoor
