/-
  An executable's program headers.
-/
import Derived.Test.YthpkehhghcpolaaDoorEx3
namespace Go.Proofs.YthpkehhghcpolaaDoor
open Go.IntWalk
set_option maxRecDepth 100000
set_option linter.unusedVariables false
set_option linter.unusedSimpArgs false

/-- What the segments and the thread's data are as headers. -/
def segH (x : SegD) : T := .agg [.int .u32 1, .int .u32 x.f, .int .u64 0, .int .u64 x.v, .int .u64 x.v, .int .u64 x.d.length, .int .u64 x.s, .int .u64 4096]
def tlsH (x : SegD) : T := .agg [.int .u32 7, .int .u32 4, .int .u64 0, .int .u64 x.f, .int .u64 x.f, .int .u64 x.d.length, .int .u64 x.v, .int .u64 x.s]

def datT (t : T) : T := match t with | .agg [_, _, _, d] => d | _ => .nils
def elT (t : T) : List T := match t with | .vec _ l => l | _ => []
def exeDats (t : T) : List T := match t with | .agg [_, _, st, tt] => (elT st).map datT ++ (elT tt).map datT | _ => []

theorem len1 {α : Type} {l l' : List α} {a : α} (h : l ++ [a] = l') : l.length + 1 = l'.length := by subst h; simp

def ordHd : Ord := .op 0 [] (.op 1 [0] (.op 2 [1] (.op 3 [] .nil)))

theorem fits56 {n : Nat} (h : n ≤ 1000000000000) : fitsRow n 56 = true := by simp [fitsRow]; omega
theorem fits24 {n : Nat} (h : n ≤ 1000000000000) : fitsRow n 24 = true := by simp [fitsRow]; omega
theorem u32_int {n : Int} (h : 0 ≤ n) (h2 : n ≤ 4294967295) : IntKind.u32.wrap n = n := by rw [IntKind.wrap_u32]; omega
theorem u64_int {n : Int} (h : 0 ≤ n) (h2 : n ≤ 18446744073709551615) : IntKind.u64.wrap n = n := by rw [IntKind.wrap_u64]; omega

set_option maxHeartbeats 16000000 in
theorem headers_runs {t : T} {x : ExeD} (h : ExeX t x) (hb : SoundP x) : Runs Tryd.prog 24 [t] (.tup [.own 60 8 true (x.ss.map segH ++ x.ts.map tlsH), .own 27 1 true (exeDats t)]) := by
  have hsl0 := sound_len hb
  have htl0 := hb.t
  cases h with
  | mk m e st tt ss ts hs ht hsl htl =>
  simp only at hsl0 htl0
  refine Runs.of_call ?_ rfl
  refine CallS.of_fn tab_ok reg_ok Tryd.func24 rfl rfl ?_
  cases hs with
  | nil =>
    cases ht with
    | nil =>
      refine loop_on (fun i : Nat => i ≤ ([] : List SegD).length) (fun i => ⟨[(1, .ptr 0 0 0 0), (4, .ptr 3 0 0 0), (5, .ptr 4 0 0 0), (6, .fn (.func 51) [] [.ptr 3 0 0 0, .ptr 4 0 0 0]), (13, .t (.nils)), (14, .t (.int .i64 ((0 : Nat) : Int))), (15, .t (.int .i64 (i : Int)))],
        [.box [.t (.int .i64 m), .t (.int .i64 e), .t (.nils), .t (.nils)], .arr 60 8 true 0 (.ts ((([] : List SegD).take (i)).map segH)), .arr 27 1 true 0 (.ts ((([] : List T).take (i)).map datT)), .box [.sl 1 0 0 ((([] : List SegD).take (i)).map segH).length], .box [.sl 2 0 0 ((([] : List T).take (i)).map datT).length]]⟩) (fun i => ([] : List SegD).length - i) 0 (Nat.zero_le _) ?_ (fun i hi => ?_)
      · refine weak_frz [] rfl (fun b blk' hb => .inr ⟨by simp, ?_⟩) (agree_frz ⟨rfl, rfl, rfl, rfl, rfl, rfl, rfl, trivial⟩)
        match b, hb with
        | 0, hb => cases hb; exact ⟨_, rfl, .same _⟩
        | 1, hb => cases hb; exact ⟨_, rfl, .same _⟩
        | 2, hb => cases hb; exact ⟨_, rfl, .same _⟩
        | 3, hb =>
          cases hb
          refine ⟨_, rfl, .box _ _ rfl fun j x x' hx hx' => ?_⟩
          match j, hx, hx' with
          | 0, hx, hx' => cases hx; cases hx'; exact .nil 1 _ _ rfl
          | j + 1, hx, hx' => cases hx
        | 4, hb =>
          cases hb
          refine ⟨_, rfl, .box _ _ rfl fun j x x' hx hx' => ?_⟩
          match j, hx, hx' with
          | 0, hx, hx' => cases hx; cases hx'; exact .nil 2 _ _ rfl
          | j + 1, hx, hx' => cases hx
        | b + 5, hb => cases hb
      obtain rfl : i = 0 := by simpa using hi
      have er : ((([] : List SegD).take (0)).map segH) = (([] : List SegD).map segH ++ (([] : List SegD).take (0)).map tlsH) := by simp
      have ed : ((([] : List T).take (0)).map datT) = (([] : List T).map datT ++ (([] : List T).take (0)).map datT) := by simp
      refine loop_on (fun i : Nat => i ≤ ([] : List SegD).length) (fun i => ⟨[(1, .ptr 0 0 0 0), (4, .ptr 3 0 0 0), (5, .ptr 4 0 0 0), (6, .fn (.func 51) [] [.ptr 3 0 0 0, .ptr 4 0 0 0]), (31, .t (.nils)), (32, .t (.int .i64 ((0 : Nat) : Int))), (33, .t (.int .i64 (i : Int)))],
        [.box [.t (.int .i64 m), .t (.int .i64 e), .t (.nils), .t (.nils)], .arr 60 8 true 0 (.ts (([] : List SegD).map segH ++ (([] : List SegD).take (i)).map tlsH)), .arr 27 1 true 0 (.ts (([] : List T).map datT ++ (([] : List T).take (i)).map datT)), .box [.sl 1 0 0 (([] : List SegD).map segH ++ (([] : List SegD).take (i)).map tlsH).length], .box [.sl 2 0 0 (([] : List T).map datT ++ (([] : List T).take (i)).map datT).length]]⟩) (fun i => ([] : List SegD).length - i) 0 (Nat.zero_le _) ?_ (fun i hi => ?_)
      · exact weak_gc [0, 1, 2, 3, 4] rfl ⟨rfl, rfl, rfl, rfl, rfl, rfl, rfl, trivial⟩ ⟨rfl, congrArg (fun l => some (Blk.arr 60 8 true 0 (.ts l))) er, congrArg (fun l => some (Blk.arr 27 1 true 0 (.ts l))) ed, congrArg (fun l : List T => some (Blk.box [.sl 1 0 0 l.length])) er, congrArg (fun l : List T => some (Blk.box [.sl 2 0 0 l.length])) ed, trivial⟩
      obtain rfl : i = 0 := by simpa using hi
      have e1 : (([] : List SegD).map segH ++ (([] : List SegD).take (0)).map tlsH) = ([] : List SegD).map segH ++ ([] : List SegD).map tlsH := rfl
      have e2 : (([] : List T).map datT ++ (([] : List T).take (0)).map datT) = ([] : List T).map datT ++ ([] : List T).map datT := rfl
      refine draw_intro ordHd (by decide +kernel) ?_
      refine And.intro (fun j _ => LeX.refl _ _) ?_
      refine And.intro (fun j hj => by cases hj) ?_
      exact And.intro ⟨⟨congrArg (fun l => some (Blk.arr 60 8 true 0 (.ts l))) e1, rfl, congrArg List.length e1⟩, ⟨congrArg (fun l => some (Blk.arr 27 1 true 0 (.ts l))) e2, rfl, congrArg List.length e2⟩, trivial⟩ rfl
    | vec _ L2 hl2 h2 =>
      refine loop_on (fun i : Nat => i ≤ ([] : List SegD).length) (fun i => ⟨[(1, .ptr 0 0 0 0), (4, .ptr 3 0 0 0), (5, .ptr 4 0 0 0), (6, .fn (.func 51) [] [.ptr 3 0 0 0, .ptr 4 0 0 0]), (13, .t (.nils)), (14, .t (.int .i64 ((0 : Nat) : Int))), (15, .t (.int .i64 (i : Int)))],
        [.box [.t (.int .i64 m), .t (.int .i64 e), .t (.nils), .t (.vec 4 L2)], .arr 60 8 true 0 (.ts ((([] : List SegD).take (i)).map segH)), .arr 27 1 true 0 (.ts ((([] : List T).take (i)).map datT)), .box [.sl 1 0 0 ((([] : List SegD).take (i)).map segH).length], .box [.sl 2 0 0 ((([] : List T).take (i)).map datT).length]]⟩) (fun i => ([] : List SegD).length - i) 0 (Nat.zero_le _) ?_ (fun i hi => ?_)
      · refine weak_frz [] rfl (fun b blk' hb => .inr ⟨by simp, ?_⟩) (agree_frz ⟨rfl, rfl, rfl, rfl, rfl, rfl, rfl, trivial⟩)
        match b, hb with
        | 0, hb => cases hb; exact ⟨_, rfl, .same _⟩
        | 1, hb => cases hb; exact ⟨_, rfl, .same _⟩
        | 2, hb => cases hb; exact ⟨_, rfl, .same _⟩
        | 3, hb =>
          cases hb
          refine ⟨_, rfl, .box _ _ rfl fun j x x' hx hx' => ?_⟩
          match j, hx, hx' with
          | 0, hx, hx' => cases hx; cases hx'; exact .nil 1 _ _ rfl
          | j + 1, hx, hx' => cases hx
        | 4, hb =>
          cases hb
          refine ⟨_, rfl, .box _ _ rfl fun j x x' hx hx' => ?_⟩
          match j, hx, hx' with
          | 0, hx, hx' => cases hx; cases hx'; exact .nil 2 _ _ rfl
          | j + 1, hx, hx' => cases hx
        | b + 5, hb => cases hb
      obtain rfl : i = 0 := by simpa using hi
      have er : ((([] : List SegD).take (0)).map segH) = (([] : List SegD).map segH ++ (ts.take (0)).map tlsH) := by simp
      have ed : ((([] : List T).take (0)).map datT) = (([] : List T).map datT ++ (L2.take (0)).map datT) := by simp
      refine loop_on (fun i : Nat => i ≤ ts.length) (fun i => ⟨[(1, .ptr 0 0 0 0), (4, .ptr 3 0 0 0), (5, .ptr 4 0 0 0), (6, .fn (.func 51) [] [.ptr 3 0 0 0, .ptr 4 0 0 0]), (31, .t (.vec 4 L2)), (32, .t (.int .i64 (L2.length : Int))), (33, .t (.int .i64 (i : Int)))],
        [.box [.t (.int .i64 m), .t (.int .i64 e), .t (.nils), .t (.vec 4 L2)], .arr 60 8 true 0 (.ts (([] : List SegD).map segH ++ (ts.take (i)).map tlsH)), .arr 27 1 true 0 (.ts (([] : List T).map datT ++ (L2.take (i)).map datT)), .box [.sl 1 0 0 (([] : List SegD).map segH ++ (ts.take (i)).map tlsH).length], .box [.sl 2 0 0 (([] : List T).map datT ++ (L2.take (i)).map datT).length]]⟩) (fun i => ts.length - i) 0 (Nat.zero_le _) ?_ (fun i hi => ?_)
      · exact weak_gc [0, 1, 2, 3, 4] rfl ⟨rfl, rfl, rfl, rfl, rfl, rfl, rfl, trivial⟩ ⟨rfl, congrArg (fun l => some (Blk.arr 60 8 true 0 (.ts l))) er, congrArg (fun l => some (Blk.arr 27 1 true 0 (.ts l))) ed, congrArg (fun l : List T => some (Blk.box [.sl 1 0 0 l.length])) er, congrArg (fun l : List T => some (Blk.box [.sl 2 0 0 l.length])) ed, trivial⟩
      refine br_intro (fun c => ?_) (fun c => ?_)
      · have c : (i : Int) < (L2.length : Int) := of_decide_eq_true c
        have hi2 : i < ts.length := by omega
        have hLi : i < L2.length := by omega
        obtain ⟨f, v, s, dt, d, hd, hdl, hds, hLt⟩ : ∃ f v s dt d, BX dt d ∧ d.length ≤ 140737488351232 ∧ ts[i] = ⟨f, v, s, d⟩ ∧ L2[i] = .agg [.int .i64 f, .int .i64 v, .int .i64 s, dt] := by
          have := h2 i _ _ (List.getElem?_eq_getElem hLi) (List.getElem?_eq_getElem hi2)
          generalize L2[i] = a at this
          generalize ts[i] = b at this
          cases this with
          | mk f v s dt d h hl => exact ⟨f, v, s, dt, d, h, hl, rfl, rfl⟩
        refine opt_intro (show L2[((i : Int)).toNat]? = some (.agg [.int .i64 f, .int .i64 v, .int .i64 s, dt]) by rw [Int.toNat_natCast, List.getElem?_eq_getElem hLi, hLt]) ?_
        cases hd with
        | vec d M e' =>
          subst e'
          have q := hb.ts i hi2
          rw [hds] at q
          have qv := addrB_iff.mp q.f
          have q1 := q.v0; have q2 := q.v1; have q3 := q.s1; have q4 := q.s2
          simp only at qv q1 q2 q3 q4
          have w1 := u64_int qv.1 (by omega); have w2 := u64_int (n := v) (by omega) (by omega); have w3 := u64_int (n := s) (by omega) (by omega)
          have w4 : IntKind.u64.wrap ((U d).length : Int) = (d.length : Int) := by rw [U_len]; exact u64_nat (by omega)
          have l1 : IntKind.u32.wrap 7 = 7 := rfl
          have l2 : IntKind.u32.wrap 4 = 4 := rfl
          have eA : (([] : List SegD).map segH ++ (ts.take (i)).map tlsH) ++ [.agg [.int .u32 (IntKind.u32.wrap 7), .int .u32 (IntKind.u32.wrap 4), .int .u64 0, .int .u64 (IntKind.u64.wrap f), .int .u64 (IntKind.u64.wrap f), .int .u64 (IntKind.u64.wrap ((U d).length : Int)), .int .u64 (IntKind.u64.wrap v), .int .u64 (IntKind.u64.wrap s)]] = (([] : List SegD).map segH ++ (ts.take (i + 1)).map tlsH) := by
            rw [List.append_assoc, l1, l2, w1, w2, w3, w4]
            rw [List.take_succ_eq_append_getElem hi2, List.map_append, hds]; rfl
          have eD : (([] : List T).map datT ++ (L2.take (i)).map datT) ++ [.vec 1 (U d)] = (([] : List T).map datT ++ (L2.take (i + 1)).map datT) := by
            rw [List.append_assoc]; rw [List.take_succ_eq_append_getElem hLi, List.map_append, hLt]; rfl
          have eL : (([] : List SegD).map segH ++ (ts.take (i)).map tlsH).length + 1 = (([] : List SegD).map segH ++ (ts.take (i + 1)).map tlsH).length := len1 eA
          have eM : (([] : List T).map datT ++ (L2.take (i)).map datT).length + 1 = (([] : List T).map datT ++ (L2.take (i + 1)).map datT).length := len1 eD
          refine CallS.of_fn tab_ok reg_ok Tryd.func51 rfl rfl ?_
          refine Or.inl (And.intro rfl (ck_intro (fits56 (n := (([] : List SegD).map segH ++ (ts.take (i)).map tlsH).length + 1) (by simp; omega)) ?_))
          refine Or.inl (And.intro rfl (ck_intro (fits24 (n := (([] : List T).map datT ++ (L2.take (i)).map datT).length + 1) (by simp; omega)) ?_))
          exact ⟨⟨i + 1, by omega⟩, weak_gc [0, 1, 2, 3, 4] rfl ⟨rfl, rfl, rfl, rfl, rfl, rfl, congrArg (fun x => some (AV.t (.int .i64 x))) (i64_nat (n := i + 1) (by omega)), trivial⟩ ⟨rfl, congrArg (fun l => some (Blk.arr 60 8 true 0 (.ts l))) eA, congrArg (fun l => some (Blk.arr 27 1 true 0 (.ts l))) eD, congrArg (fun n : Nat => some (Blk.box [.sl 1 0 0 n])) eL, congrArg (fun n : Nat => some (Blk.box [.sl 2 0 0 n])) eM, trivial⟩, by show ts.length - (i + 1) < ts.length - i; omega⟩
        | nil =>
          have q := hb.ts i hi2
          rw [hds] at q
          have qv := addrB_iff.mp q.f
          have q1 := q.v0; have q2 := q.v1; have q3 := q.s1; have q4 := q.s2
          simp only at qv q1 q2 q3 q4
          have w1 := u64_int qv.1 (by omega); have w2 := u64_int (n := v) (by omega) (by omega); have w3 := u64_int (n := s) (by omega) (by omega)
          have w4 : IntKind.u64.wrap ((0 : Nat) : Int) = (([] : List UInt8).length : Int) := rfl
          have l1 : IntKind.u32.wrap 7 = 7 := rfl
          have l2 : IntKind.u32.wrap 4 = 4 := rfl
          have eA : (([] : List SegD).map segH ++ (ts.take (i)).map tlsH) ++ [.agg [.int .u32 (IntKind.u32.wrap 7), .int .u32 (IntKind.u32.wrap 4), .int .u64 0, .int .u64 (IntKind.u64.wrap f), .int .u64 (IntKind.u64.wrap f), .int .u64 (IntKind.u64.wrap ((0 : Nat) : Int)), .int .u64 (IntKind.u64.wrap v), .int .u64 (IntKind.u64.wrap s)]] = (([] : List SegD).map segH ++ (ts.take (i + 1)).map tlsH) := by
            rw [List.append_assoc, l1, l2, w1, w2, w3, w4]
            rw [List.take_succ_eq_append_getElem hi2, List.map_append, hds]; rfl
          have eD : (([] : List T).map datT ++ (L2.take (i)).map datT) ++ [.nils] = (([] : List T).map datT ++ (L2.take (i + 1)).map datT) := by
            rw [List.append_assoc]; rw [List.take_succ_eq_append_getElem hLi, List.map_append, hLt]; rfl
          have eL : (([] : List SegD).map segH ++ (ts.take (i)).map tlsH).length + 1 = (([] : List SegD).map segH ++ (ts.take (i + 1)).map tlsH).length := len1 eA
          have eM : (([] : List T).map datT ++ (L2.take (i)).map datT).length + 1 = (([] : List T).map datT ++ (L2.take (i + 1)).map datT).length := len1 eD
          refine CallS.of_fn tab_ok reg_ok Tryd.func51 rfl rfl ?_
          refine Or.inl (And.intro rfl (ck_intro (fits56 (n := (([] : List SegD).map segH ++ (ts.take (i)).map tlsH).length + 1) (by simp; omega)) ?_))
          refine Or.inl (And.intro rfl (ck_intro (fits24 (n := (([] : List T).map datT ++ (L2.take (i)).map datT).length + 1) (by simp; omega)) ?_))
          exact ⟨⟨i + 1, by omega⟩, weak_gc [0, 1, 2, 3, 4] rfl ⟨rfl, rfl, rfl, rfl, rfl, rfl, congrArg (fun x => some (AV.t (.int .i64 x))) (i64_nat (n := i + 1) (by omega)), trivial⟩ ⟨rfl, congrArg (fun l => some (Blk.arr 60 8 true 0 (.ts l))) eA, congrArg (fun l => some (Blk.arr 27 1 true 0 (.ts l))) eD, congrArg (fun n : Nat => some (Blk.box [.sl 1 0 0 n])) eL, congrArg (fun n : Nat => some (Blk.box [.sl 2 0 0 n])) eM, trivial⟩, by show ts.length - (i + 1) < ts.length - i; omega⟩
      have c : ¬ (i : Int) < (L2.length : Int) := of_decide_eq_false c
      obtain rfl : i = ts.length := by omega
      have e1 : (([] : List SegD).map segH ++ (ts.take (ts.length)).map tlsH) = ([] : List SegD).map segH ++ ts.map tlsH := by rw [List.take_length]
      have e2 : (([] : List T).map datT ++ (L2.take (ts.length)).map datT) = ([] : List T).map datT ++ L2.map datT := by rw [← hl2, List.take_length]
      refine draw_intro ordHd (by decide +kernel) ?_
      refine And.intro (fun j _ => LeX.refl _ _) ?_
      refine And.intro (fun j hj => by cases hj) ?_
      exact And.intro ⟨⟨congrArg (fun l => some (Blk.arr 60 8 true 0 (.ts l))) e1, rfl, congrArg List.length e1⟩, ⟨congrArg (fun l => some (Blk.arr 27 1 true 0 (.ts l))) e2, rfl, congrArg List.length e2⟩, trivial⟩ rfl
  | vec _ L hl h =>
    cases ht with
    | nil =>
      refine loop_on (fun i : Nat => i ≤ ss.length) (fun i => ⟨[(1, .ptr 0 0 0 0), (4, .ptr 3 0 0 0), (5, .ptr 4 0 0 0), (6, .fn (.func 51) [] [.ptr 3 0 0 0, .ptr 4 0 0 0]), (13, .t (.vec 4 L)), (14, .t (.int .i64 (L.length : Int))), (15, .t (.int .i64 (i : Int)))],
        [.box [.t (.int .i64 m), .t (.int .i64 e), .t (.vec 4 L), .t (.nils)], .arr 60 8 true 0 (.ts ((ss.take (i)).map segH)), .arr 27 1 true 0 (.ts ((L.take (i)).map datT)), .box [.sl 1 0 0 ((ss.take (i)).map segH).length], .box [.sl 2 0 0 ((L.take (i)).map datT).length]]⟩) (fun i => ss.length - i) 0 (Nat.zero_le _) ?_ (fun i hi => ?_)
      · refine weak_frz [] rfl (fun b blk' hb => .inr ⟨by simp, ?_⟩) (agree_frz ⟨rfl, rfl, rfl, rfl, rfl, rfl, rfl, trivial⟩)
        match b, hb with
        | 0, hb => cases hb; exact ⟨_, rfl, .same _⟩
        | 1, hb => cases hb; exact ⟨_, rfl, .same _⟩
        | 2, hb => cases hb; exact ⟨_, rfl, .same _⟩
        | 3, hb =>
          cases hb
          refine ⟨_, rfl, .box _ _ rfl fun j x x' hx hx' => ?_⟩
          match j, hx, hx' with
          | 0, hx, hx' => cases hx; cases hx'; exact .nil 1 _ _ rfl
          | j + 1, hx, hx' => cases hx
        | 4, hb =>
          cases hb
          refine ⟨_, rfl, .box _ _ rfl fun j x x' hx hx' => ?_⟩
          match j, hx, hx' with
          | 0, hx, hx' => cases hx; cases hx'; exact .nil 2 _ _ rfl
          | j + 1, hx, hx' => cases hx
        | b + 5, hb => cases hb
      refine br_intro (fun c => ?_) (fun c => ?_)
      · have c : (i : Int) < (L.length : Int) := of_decide_eq_true c
        have hi2 : i < ss.length := by omega
        have hLi : i < L.length := by omega
        obtain ⟨f, v, s, dt, d, hd, hdl, hds, hLt⟩ : ∃ f v s dt d, BX dt d ∧ d.length ≤ 140737488351232 ∧ ss[i] = ⟨f, v, s, d⟩ ∧ L[i] = .agg [.int .i64 f, .int .i64 v, .int .i64 s, dt] := by
          have := h i _ _ (List.getElem?_eq_getElem hLi) (List.getElem?_eq_getElem hi2)
          generalize L[i] = a at this
          generalize ss[i] = b at this
          cases this with
          | mk f v s dt d h hl => exact ⟨f, v, s, dt, d, h, hl, rfl, rfl⟩
        refine opt_intro (show L[((i : Int)).toNat]? = some (.agg [.int .i64 f, .int .i64 v, .int .i64 s, dt]) by rw [Int.toNat_natCast, List.getElem?_eq_getElem hLi, hLt]) ?_
        cases hd with
        | vec d M e' =>
          subst e'
          have q := hb.ss i hi2
          rw [hds] at q
          have qv := addrB_iff.mp q.v
          have q1 := q.f0; have q2 := q.f7; have q3 := q.s1; have q4 := q.s2
          simp only at qv q1 q2 q3 q4
          have w1 := u32_int q1 (by omega); have w2 := u64_int qv.1 (by omega); have w3 := u64_int (n := s) (by omega) (by omega)
          have w4 : IntKind.u64.wrap ((U d).length : Int) = (d.length : Int) := by rw [U_len]; exact u64_nat (by omega)
          have l1 : IntKind.u32.wrap 1 = 1 := rfl
          have l2 : IntKind.u64.wrap 4096 = 4096 := rfl
          have eA : ((ss.take (i)).map segH) ++ [.agg [.int .u32 (IntKind.u32.wrap 1), .int .u32 (IntKind.u32.wrap f), .int .u64 0, .int .u64 (IntKind.u64.wrap v), .int .u64 (IntKind.u64.wrap v), .int .u64 (IntKind.u64.wrap ((U d).length : Int)), .int .u64 (IntKind.u64.wrap s), .int .u64 (IntKind.u64.wrap 4096)]] = ((ss.take (i + 1)).map segH) := by
            rw [l1, l2, w1, w2, w3, w4]
            rw [List.take_succ_eq_append_getElem hi2, List.map_append, hds]; rfl
          have eD : ((L.take (i)).map datT) ++ [.vec 1 (U d)] = ((L.take (i + 1)).map datT) := by
            rw [List.take_succ_eq_append_getElem hLi, List.map_append, hLt]; rfl
          have eL : ((ss.take (i)).map segH).length + 1 = ((ss.take (i + 1)).map segH).length := len1 eA
          have eM : ((L.take (i)).map datT).length + 1 = ((L.take (i + 1)).map datT).length := len1 eD
          refine CallS.of_fn tab_ok reg_ok Tryd.func51 rfl rfl ?_
          refine Or.inl (And.intro rfl (ck_intro (fits56 (n := ((ss.take (i)).map segH).length + 1) (by simp; omega)) ?_))
          refine Or.inl (And.intro rfl (ck_intro (fits24 (n := ((L.take (i)).map datT).length + 1) (by simp; omega)) ?_))
          exact ⟨⟨i + 1, by omega⟩, weak_gc [0, 1, 2, 3, 4] rfl ⟨rfl, rfl, rfl, rfl, rfl, rfl, congrArg (fun x => some (AV.t (.int .i64 x))) (i64_nat (n := i + 1) (by omega)), trivial⟩ ⟨rfl, congrArg (fun l => some (Blk.arr 60 8 true 0 (.ts l))) eA, congrArg (fun l => some (Blk.arr 27 1 true 0 (.ts l))) eD, congrArg (fun n : Nat => some (Blk.box [.sl 1 0 0 n])) eL, congrArg (fun n : Nat => some (Blk.box [.sl 2 0 0 n])) eM, trivial⟩, by show ss.length - (i + 1) < ss.length - i; omega⟩
        | nil =>
          have q := hb.ss i hi2
          rw [hds] at q
          have qv := addrB_iff.mp q.v
          have q1 := q.f0; have q2 := q.f7; have q3 := q.s1; have q4 := q.s2
          simp only at qv q1 q2 q3 q4
          have w1 := u32_int q1 (by omega); have w2 := u64_int qv.1 (by omega); have w3 := u64_int (n := s) (by omega) (by omega)
          have w4 : IntKind.u64.wrap ((0 : Nat) : Int) = (([] : List UInt8).length : Int) := rfl
          have l1 : IntKind.u32.wrap 1 = 1 := rfl
          have l2 : IntKind.u64.wrap 4096 = 4096 := rfl
          have eA : ((ss.take (i)).map segH) ++ [.agg [.int .u32 (IntKind.u32.wrap 1), .int .u32 (IntKind.u32.wrap f), .int .u64 0, .int .u64 (IntKind.u64.wrap v), .int .u64 (IntKind.u64.wrap v), .int .u64 (IntKind.u64.wrap ((0 : Nat) : Int)), .int .u64 (IntKind.u64.wrap s), .int .u64 (IntKind.u64.wrap 4096)]] = ((ss.take (i + 1)).map segH) := by
            rw [l1, l2, w1, w2, w3, w4]
            rw [List.take_succ_eq_append_getElem hi2, List.map_append, hds]; rfl
          have eD : ((L.take (i)).map datT) ++ [.nils] = ((L.take (i + 1)).map datT) := by
            rw [List.take_succ_eq_append_getElem hLi, List.map_append, hLt]; rfl
          have eL : ((ss.take (i)).map segH).length + 1 = ((ss.take (i + 1)).map segH).length := len1 eA
          have eM : ((L.take (i)).map datT).length + 1 = ((L.take (i + 1)).map datT).length := len1 eD
          refine CallS.of_fn tab_ok reg_ok Tryd.func51 rfl rfl ?_
          refine Or.inl (And.intro rfl (ck_intro (fits56 (n := ((ss.take (i)).map segH).length + 1) (by simp; omega)) ?_))
          refine Or.inl (And.intro rfl (ck_intro (fits24 (n := ((L.take (i)).map datT).length + 1) (by simp; omega)) ?_))
          exact ⟨⟨i + 1, by omega⟩, weak_gc [0, 1, 2, 3, 4] rfl ⟨rfl, rfl, rfl, rfl, rfl, rfl, congrArg (fun x => some (AV.t (.int .i64 x))) (i64_nat (n := i + 1) (by omega)), trivial⟩ ⟨rfl, congrArg (fun l => some (Blk.arr 60 8 true 0 (.ts l))) eA, congrArg (fun l => some (Blk.arr 27 1 true 0 (.ts l))) eD, congrArg (fun n : Nat => some (Blk.box [.sl 1 0 0 n])) eL, congrArg (fun n : Nat => some (Blk.box [.sl 2 0 0 n])) eM, trivial⟩, by show ss.length - (i + 1) < ss.length - i; omega⟩
      have c : ¬ (i : Int) < (L.length : Int) := of_decide_eq_false c
      obtain rfl : i = ss.length := by omega
      have er : ((ss.take (ss.length)).map segH) = (ss.map segH ++ (([] : List SegD).take (0)).map tlsH) := by simp
      have ed : ((L.take (ss.length)).map datT) = (L.map datT ++ (([] : List T).take (0)).map datT) := by simp [← hl]
      refine loop_on (fun i : Nat => i ≤ ([] : List SegD).length) (fun i => ⟨[(1, .ptr 0 0 0 0), (4, .ptr 3 0 0 0), (5, .ptr 4 0 0 0), (6, .fn (.func 51) [] [.ptr 3 0 0 0, .ptr 4 0 0 0]), (31, .t (.nils)), (32, .t (.int .i64 ((0 : Nat) : Int))), (33, .t (.int .i64 (i : Int)))],
        [.box [.t (.int .i64 m), .t (.int .i64 e), .t (.vec 4 L), .t (.nils)], .arr 60 8 true 0 (.ts (ss.map segH ++ (([] : List SegD).take (i)).map tlsH)), .arr 27 1 true 0 (.ts (L.map datT ++ (([] : List T).take (i)).map datT)), .box [.sl 1 0 0 (ss.map segH ++ (([] : List SegD).take (i)).map tlsH).length], .box [.sl 2 0 0 (L.map datT ++ (([] : List T).take (i)).map datT).length]]⟩) (fun i => ([] : List SegD).length - i) 0 (Nat.zero_le _) ?_ (fun i hi => ?_)
      · exact weak_gc [0, 1, 2, 3, 4] rfl ⟨rfl, rfl, rfl, rfl, rfl, rfl, rfl, trivial⟩ ⟨rfl, congrArg (fun l => some (Blk.arr 60 8 true 0 (.ts l))) er, congrArg (fun l => some (Blk.arr 27 1 true 0 (.ts l))) ed, congrArg (fun l : List T => some (Blk.box [.sl 1 0 0 l.length])) er, congrArg (fun l : List T => some (Blk.box [.sl 2 0 0 l.length])) ed, trivial⟩
      obtain rfl : i = 0 := by simpa using hi
      have e1 : (ss.map segH ++ (([] : List SegD).take (0)).map tlsH) = ss.map segH ++ ([] : List SegD).map tlsH := rfl
      have e2 : (L.map datT ++ (([] : List T).take (0)).map datT) = L.map datT ++ ([] : List T).map datT := rfl
      refine draw_intro ordHd (by decide +kernel) ?_
      refine And.intro (fun j _ => LeX.refl _ _) ?_
      refine And.intro (fun j hj => by cases hj) ?_
      exact And.intro ⟨⟨congrArg (fun l => some (Blk.arr 60 8 true 0 (.ts l))) e1, rfl, congrArg List.length e1⟩, ⟨congrArg (fun l => some (Blk.arr 27 1 true 0 (.ts l))) e2, rfl, congrArg List.length e2⟩, trivial⟩ rfl
    | vec _ L2 hl2 h2 =>
      refine loop_on (fun i : Nat => i ≤ ss.length) (fun i => ⟨[(1, .ptr 0 0 0 0), (4, .ptr 3 0 0 0), (5, .ptr 4 0 0 0), (6, .fn (.func 51) [] [.ptr 3 0 0 0, .ptr 4 0 0 0]), (13, .t (.vec 4 L)), (14, .t (.int .i64 (L.length : Int))), (15, .t (.int .i64 (i : Int)))],
        [.box [.t (.int .i64 m), .t (.int .i64 e), .t (.vec 4 L), .t (.vec 4 L2)], .arr 60 8 true 0 (.ts ((ss.take (i)).map segH)), .arr 27 1 true 0 (.ts ((L.take (i)).map datT)), .box [.sl 1 0 0 ((ss.take (i)).map segH).length], .box [.sl 2 0 0 ((L.take (i)).map datT).length]]⟩) (fun i => ss.length - i) 0 (Nat.zero_le _) ?_ (fun i hi => ?_)
      · refine weak_frz [] rfl (fun b blk' hb => .inr ⟨by simp, ?_⟩) (agree_frz ⟨rfl, rfl, rfl, rfl, rfl, rfl, rfl, trivial⟩)
        match b, hb with
        | 0, hb => cases hb; exact ⟨_, rfl, .same _⟩
        | 1, hb => cases hb; exact ⟨_, rfl, .same _⟩
        | 2, hb => cases hb; exact ⟨_, rfl, .same _⟩
        | 3, hb =>
          cases hb
          refine ⟨_, rfl, .box _ _ rfl fun j x x' hx hx' => ?_⟩
          match j, hx, hx' with
          | 0, hx, hx' => cases hx; cases hx'; exact .nil 1 _ _ rfl
          | j + 1, hx, hx' => cases hx
        | 4, hb =>
          cases hb
          refine ⟨_, rfl, .box _ _ rfl fun j x x' hx hx' => ?_⟩
          match j, hx, hx' with
          | 0, hx, hx' => cases hx; cases hx'; exact .nil 2 _ _ rfl
          | j + 1, hx, hx' => cases hx
        | b + 5, hb => cases hb
      refine br_intro (fun c => ?_) (fun c => ?_)
      · have c : (i : Int) < (L.length : Int) := of_decide_eq_true c
        have hi2 : i < ss.length := by omega
        have hLi : i < L.length := by omega
        obtain ⟨f, v, s, dt, d, hd, hdl, hds, hLt⟩ : ∃ f v s dt d, BX dt d ∧ d.length ≤ 140737488351232 ∧ ss[i] = ⟨f, v, s, d⟩ ∧ L[i] = .agg [.int .i64 f, .int .i64 v, .int .i64 s, dt] := by
          have := h i _ _ (List.getElem?_eq_getElem hLi) (List.getElem?_eq_getElem hi2)
          generalize L[i] = a at this
          generalize ss[i] = b at this
          cases this with
          | mk f v s dt d h hl => exact ⟨f, v, s, dt, d, h, hl, rfl, rfl⟩
        refine opt_intro (show L[((i : Int)).toNat]? = some (.agg [.int .i64 f, .int .i64 v, .int .i64 s, dt]) by rw [Int.toNat_natCast, List.getElem?_eq_getElem hLi, hLt]) ?_
        cases hd with
        | vec d M e' =>
          subst e'
          have q := hb.ss i hi2
          rw [hds] at q
          have qv := addrB_iff.mp q.v
          have q1 := q.f0; have q2 := q.f7; have q3 := q.s1; have q4 := q.s2
          simp only at qv q1 q2 q3 q4
          have w1 := u32_int q1 (by omega); have w2 := u64_int qv.1 (by omega); have w3 := u64_int (n := s) (by omega) (by omega)
          have w4 : IntKind.u64.wrap ((U d).length : Int) = (d.length : Int) := by rw [U_len]; exact u64_nat (by omega)
          have l1 : IntKind.u32.wrap 1 = 1 := rfl
          have l2 : IntKind.u64.wrap 4096 = 4096 := rfl
          have eA : ((ss.take (i)).map segH) ++ [.agg [.int .u32 (IntKind.u32.wrap 1), .int .u32 (IntKind.u32.wrap f), .int .u64 0, .int .u64 (IntKind.u64.wrap v), .int .u64 (IntKind.u64.wrap v), .int .u64 (IntKind.u64.wrap ((U d).length : Int)), .int .u64 (IntKind.u64.wrap s), .int .u64 (IntKind.u64.wrap 4096)]] = ((ss.take (i + 1)).map segH) := by
            rw [l1, l2, w1, w2, w3, w4]
            rw [List.take_succ_eq_append_getElem hi2, List.map_append, hds]; rfl
          have eD : ((L.take (i)).map datT) ++ [.vec 1 (U d)] = ((L.take (i + 1)).map datT) := by
            rw [List.take_succ_eq_append_getElem hLi, List.map_append, hLt]; rfl
          have eL : ((ss.take (i)).map segH).length + 1 = ((ss.take (i + 1)).map segH).length := len1 eA
          have eM : ((L.take (i)).map datT).length + 1 = ((L.take (i + 1)).map datT).length := len1 eD
          refine CallS.of_fn tab_ok reg_ok Tryd.func51 rfl rfl ?_
          refine Or.inl (And.intro rfl (ck_intro (fits56 (n := ((ss.take (i)).map segH).length + 1) (by simp; omega)) ?_))
          refine Or.inl (And.intro rfl (ck_intro (fits24 (n := ((L.take (i)).map datT).length + 1) (by simp; omega)) ?_))
          exact ⟨⟨i + 1, by omega⟩, weak_gc [0, 1, 2, 3, 4] rfl ⟨rfl, rfl, rfl, rfl, rfl, rfl, congrArg (fun x => some (AV.t (.int .i64 x))) (i64_nat (n := i + 1) (by omega)), trivial⟩ ⟨rfl, congrArg (fun l => some (Blk.arr 60 8 true 0 (.ts l))) eA, congrArg (fun l => some (Blk.arr 27 1 true 0 (.ts l))) eD, congrArg (fun n : Nat => some (Blk.box [.sl 1 0 0 n])) eL, congrArg (fun n : Nat => some (Blk.box [.sl 2 0 0 n])) eM, trivial⟩, by show ss.length - (i + 1) < ss.length - i; omega⟩
        | nil =>
          have q := hb.ss i hi2
          rw [hds] at q
          have qv := addrB_iff.mp q.v
          have q1 := q.f0; have q2 := q.f7; have q3 := q.s1; have q4 := q.s2
          simp only at qv q1 q2 q3 q4
          have w1 := u32_int q1 (by omega); have w2 := u64_int qv.1 (by omega); have w3 := u64_int (n := s) (by omega) (by omega)
          have w4 : IntKind.u64.wrap ((0 : Nat) : Int) = (([] : List UInt8).length : Int) := rfl
          have l1 : IntKind.u32.wrap 1 = 1 := rfl
          have l2 : IntKind.u64.wrap 4096 = 4096 := rfl
          have eA : ((ss.take (i)).map segH) ++ [.agg [.int .u32 (IntKind.u32.wrap 1), .int .u32 (IntKind.u32.wrap f), .int .u64 0, .int .u64 (IntKind.u64.wrap v), .int .u64 (IntKind.u64.wrap v), .int .u64 (IntKind.u64.wrap ((0 : Nat) : Int)), .int .u64 (IntKind.u64.wrap s), .int .u64 (IntKind.u64.wrap 4096)]] = ((ss.take (i + 1)).map segH) := by
            rw [l1, l2, w1, w2, w3, w4]
            rw [List.take_succ_eq_append_getElem hi2, List.map_append, hds]; rfl
          have eD : ((L.take (i)).map datT) ++ [.nils] = ((L.take (i + 1)).map datT) := by
            rw [List.take_succ_eq_append_getElem hLi, List.map_append, hLt]; rfl
          have eL : ((ss.take (i)).map segH).length + 1 = ((ss.take (i + 1)).map segH).length := len1 eA
          have eM : ((L.take (i)).map datT).length + 1 = ((L.take (i + 1)).map datT).length := len1 eD
          refine CallS.of_fn tab_ok reg_ok Tryd.func51 rfl rfl ?_
          refine Or.inl (And.intro rfl (ck_intro (fits56 (n := ((ss.take (i)).map segH).length + 1) (by simp; omega)) ?_))
          refine Or.inl (And.intro rfl (ck_intro (fits24 (n := ((L.take (i)).map datT).length + 1) (by simp; omega)) ?_))
          exact ⟨⟨i + 1, by omega⟩, weak_gc [0, 1, 2, 3, 4] rfl ⟨rfl, rfl, rfl, rfl, rfl, rfl, congrArg (fun x => some (AV.t (.int .i64 x))) (i64_nat (n := i + 1) (by omega)), trivial⟩ ⟨rfl, congrArg (fun l => some (Blk.arr 60 8 true 0 (.ts l))) eA, congrArg (fun l => some (Blk.arr 27 1 true 0 (.ts l))) eD, congrArg (fun n : Nat => some (Blk.box [.sl 1 0 0 n])) eL, congrArg (fun n : Nat => some (Blk.box [.sl 2 0 0 n])) eM, trivial⟩, by show ss.length - (i + 1) < ss.length - i; omega⟩
      have c : ¬ (i : Int) < (L.length : Int) := of_decide_eq_false c
      obtain rfl : i = ss.length := by omega
      have er : ((ss.take (ss.length)).map segH) = (ss.map segH ++ (ts.take (0)).map tlsH) := by simp
      have ed : ((L.take (ss.length)).map datT) = (L.map datT ++ (L2.take (0)).map datT) := by simp [← hl]
      refine loop_on (fun i : Nat => i ≤ ts.length) (fun i => ⟨[(1, .ptr 0 0 0 0), (4, .ptr 3 0 0 0), (5, .ptr 4 0 0 0), (6, .fn (.func 51) [] [.ptr 3 0 0 0, .ptr 4 0 0 0]), (31, .t (.vec 4 L2)), (32, .t (.int .i64 (L2.length : Int))), (33, .t (.int .i64 (i : Int)))],
        [.box [.t (.int .i64 m), .t (.int .i64 e), .t (.vec 4 L), .t (.vec 4 L2)], .arr 60 8 true 0 (.ts (ss.map segH ++ (ts.take (i)).map tlsH)), .arr 27 1 true 0 (.ts (L.map datT ++ (L2.take (i)).map datT)), .box [.sl 1 0 0 (ss.map segH ++ (ts.take (i)).map tlsH).length], .box [.sl 2 0 0 (L.map datT ++ (L2.take (i)).map datT).length]]⟩) (fun i => ts.length - i) 0 (Nat.zero_le _) ?_ (fun i hi => ?_)
      · exact weak_gc [0, 1, 2, 3, 4] rfl ⟨rfl, rfl, rfl, rfl, rfl, rfl, rfl, trivial⟩ ⟨rfl, congrArg (fun l => some (Blk.arr 60 8 true 0 (.ts l))) er, congrArg (fun l => some (Blk.arr 27 1 true 0 (.ts l))) ed, congrArg (fun l : List T => some (Blk.box [.sl 1 0 0 l.length])) er, congrArg (fun l : List T => some (Blk.box [.sl 2 0 0 l.length])) ed, trivial⟩
      refine br_intro (fun c => ?_) (fun c => ?_)
      · have c : (i : Int) < (L2.length : Int) := of_decide_eq_true c
        have hi2 : i < ts.length := by omega
        have hLi : i < L2.length := by omega
        obtain ⟨f, v, s, dt, d, hd, hdl, hds, hLt⟩ : ∃ f v s dt d, BX dt d ∧ d.length ≤ 140737488351232 ∧ ts[i] = ⟨f, v, s, d⟩ ∧ L2[i] = .agg [.int .i64 f, .int .i64 v, .int .i64 s, dt] := by
          have := h2 i _ _ (List.getElem?_eq_getElem hLi) (List.getElem?_eq_getElem hi2)
          generalize L2[i] = a at this
          generalize ts[i] = b at this
          cases this with
          | mk f v s dt d h hl => exact ⟨f, v, s, dt, d, h, hl, rfl, rfl⟩
        refine opt_intro (show L2[((i : Int)).toNat]? = some (.agg [.int .i64 f, .int .i64 v, .int .i64 s, dt]) by rw [Int.toNat_natCast, List.getElem?_eq_getElem hLi, hLt]) ?_
        cases hd with
        | vec d M e' =>
          subst e'
          have q := hb.ts i hi2
          rw [hds] at q
          have qv := addrB_iff.mp q.f
          have q1 := q.v0; have q2 := q.v1; have q3 := q.s1; have q4 := q.s2
          simp only at qv q1 q2 q3 q4
          have w1 := u64_int qv.1 (by omega); have w2 := u64_int (n := v) (by omega) (by omega); have w3 := u64_int (n := s) (by omega) (by omega)
          have w4 : IntKind.u64.wrap ((U d).length : Int) = (d.length : Int) := by rw [U_len]; exact u64_nat (by omega)
          have l1 : IntKind.u32.wrap 7 = 7 := rfl
          have l2 : IntKind.u32.wrap 4 = 4 := rfl
          have eA : (ss.map segH ++ (ts.take (i)).map tlsH) ++ [.agg [.int .u32 (IntKind.u32.wrap 7), .int .u32 (IntKind.u32.wrap 4), .int .u64 0, .int .u64 (IntKind.u64.wrap f), .int .u64 (IntKind.u64.wrap f), .int .u64 (IntKind.u64.wrap ((U d).length : Int)), .int .u64 (IntKind.u64.wrap v), .int .u64 (IntKind.u64.wrap s)]] = (ss.map segH ++ (ts.take (i + 1)).map tlsH) := by
            rw [List.append_assoc, l1, l2, w1, w2, w3, w4]
            rw [List.take_succ_eq_append_getElem hi2, List.map_append, hds]; rfl
          have eD : (L.map datT ++ (L2.take (i)).map datT) ++ [.vec 1 (U d)] = (L.map datT ++ (L2.take (i + 1)).map datT) := by
            rw [List.append_assoc]; rw [List.take_succ_eq_append_getElem hLi, List.map_append, hLt]; rfl
          have eL : (ss.map segH ++ (ts.take (i)).map tlsH).length + 1 = (ss.map segH ++ (ts.take (i + 1)).map tlsH).length := len1 eA
          have eM : (L.map datT ++ (L2.take (i)).map datT).length + 1 = (L.map datT ++ (L2.take (i + 1)).map datT).length := len1 eD
          refine CallS.of_fn tab_ok reg_ok Tryd.func51 rfl rfl ?_
          refine Or.inl (And.intro rfl (ck_intro (fits56 (n := (ss.map segH ++ (ts.take (i)).map tlsH).length + 1) (by simp; omega)) ?_))
          refine Or.inl (And.intro rfl (ck_intro (fits24 (n := (L.map datT ++ (L2.take (i)).map datT).length + 1) (by simp; omega)) ?_))
          exact ⟨⟨i + 1, by omega⟩, weak_gc [0, 1, 2, 3, 4] rfl ⟨rfl, rfl, rfl, rfl, rfl, rfl, congrArg (fun x => some (AV.t (.int .i64 x))) (i64_nat (n := i + 1) (by omega)), trivial⟩ ⟨rfl, congrArg (fun l => some (Blk.arr 60 8 true 0 (.ts l))) eA, congrArg (fun l => some (Blk.arr 27 1 true 0 (.ts l))) eD, congrArg (fun n : Nat => some (Blk.box [.sl 1 0 0 n])) eL, congrArg (fun n : Nat => some (Blk.box [.sl 2 0 0 n])) eM, trivial⟩, by show ts.length - (i + 1) < ts.length - i; omega⟩
        | nil =>
          have q := hb.ts i hi2
          rw [hds] at q
          have qv := addrB_iff.mp q.f
          have q1 := q.v0; have q2 := q.v1; have q3 := q.s1; have q4 := q.s2
          simp only at qv q1 q2 q3 q4
          have w1 := u64_int qv.1 (by omega); have w2 := u64_int (n := v) (by omega) (by omega); have w3 := u64_int (n := s) (by omega) (by omega)
          have w4 : IntKind.u64.wrap ((0 : Nat) : Int) = (([] : List UInt8).length : Int) := rfl
          have l1 : IntKind.u32.wrap 7 = 7 := rfl
          have l2 : IntKind.u32.wrap 4 = 4 := rfl
          have eA : (ss.map segH ++ (ts.take (i)).map tlsH) ++ [.agg [.int .u32 (IntKind.u32.wrap 7), .int .u32 (IntKind.u32.wrap 4), .int .u64 0, .int .u64 (IntKind.u64.wrap f), .int .u64 (IntKind.u64.wrap f), .int .u64 (IntKind.u64.wrap ((0 : Nat) : Int)), .int .u64 (IntKind.u64.wrap v), .int .u64 (IntKind.u64.wrap s)]] = (ss.map segH ++ (ts.take (i + 1)).map tlsH) := by
            rw [List.append_assoc, l1, l2, w1, w2, w3, w4]
            rw [List.take_succ_eq_append_getElem hi2, List.map_append, hds]; rfl
          have eD : (L.map datT ++ (L2.take (i)).map datT) ++ [.nils] = (L.map datT ++ (L2.take (i + 1)).map datT) := by
            rw [List.append_assoc]; rw [List.take_succ_eq_append_getElem hLi, List.map_append, hLt]; rfl
          have eL : (ss.map segH ++ (ts.take (i)).map tlsH).length + 1 = (ss.map segH ++ (ts.take (i + 1)).map tlsH).length := len1 eA
          have eM : (L.map datT ++ (L2.take (i)).map datT).length + 1 = (L.map datT ++ (L2.take (i + 1)).map datT).length := len1 eD
          refine CallS.of_fn tab_ok reg_ok Tryd.func51 rfl rfl ?_
          refine Or.inl (And.intro rfl (ck_intro (fits56 (n := (ss.map segH ++ (ts.take (i)).map tlsH).length + 1) (by simp; omega)) ?_))
          refine Or.inl (And.intro rfl (ck_intro (fits24 (n := (L.map datT ++ (L2.take (i)).map datT).length + 1) (by simp; omega)) ?_))
          exact ⟨⟨i + 1, by omega⟩, weak_gc [0, 1, 2, 3, 4] rfl ⟨rfl, rfl, rfl, rfl, rfl, rfl, congrArg (fun x => some (AV.t (.int .i64 x))) (i64_nat (n := i + 1) (by omega)), trivial⟩ ⟨rfl, congrArg (fun l => some (Blk.arr 60 8 true 0 (.ts l))) eA, congrArg (fun l => some (Blk.arr 27 1 true 0 (.ts l))) eD, congrArg (fun n : Nat => some (Blk.box [.sl 1 0 0 n])) eL, congrArg (fun n : Nat => some (Blk.box [.sl 2 0 0 n])) eM, trivial⟩, by show ts.length - (i + 1) < ts.length - i; omega⟩
      have c : ¬ (i : Int) < (L2.length : Int) := of_decide_eq_false c
      obtain rfl : i = ts.length := by omega
      have e1 : (ss.map segH ++ (ts.take (ts.length)).map tlsH) = ss.map segH ++ ts.map tlsH := by rw [List.take_length]
      have e2 : (L.map datT ++ (L2.take (ts.length)).map datT) = L.map datT ++ L2.map datT := by rw [← hl2, List.take_length]
      refine draw_intro ordHd (by decide +kernel) ?_
      refine And.intro (fun j _ => LeX.refl _ _) ?_
      refine And.intro (fun j hj => by cases hj) ?_
      exact And.intro ⟨⟨congrArg (fun l => some (Blk.arr 60 8 true 0 (.ts l))) e1, rfl, congrArg List.length e1⟩, ⟨congrArg (fun l => some (Blk.arr 27 1 true 0 (.ts l))) e2, rfl, congrArg List.length e2⟩, trivial⟩ rfl

end Go.Proofs.YthpkehhghcpolaaDoor
