/-
  Executables as data; their copy.
-/
import Derived.Test.YthpkehhghcpolaaDoorCkd
import Derived.Test.YthpkehhghcpolaaDoorFg
namespace Go.Proofs.YthpkehhghcpolaaDoor
open Go.IntWalk
set_option maxRecDepth 100000
set_option linter.unusedVariables false
set_option linter.unusedSimpArgs false

structure SegD where
  f : Int
  v : Int
  s : Int
  d : List UInt8

inductive SegX : T → SegD → Prop
  | mk (f v s : Int) (dt : T) (d : List UInt8) (h : BX dt d) (hl : d.length ≤ 140737488351232) : SegX (.agg [.int .i64 f, .int .i64 v, .int .i64 s, dt]) ⟨f, v, s, d⟩

/-- A list of such, as it comes in. -/
inductive SegsX : T → List SegD → Prop
  | nil : SegsX .nils []
  | vec (ds : List SegD) (L : List T) (hl : L.length = ds.length) (h : ∀ (i : Nat) t d, L[i]? = some t → ds[i]? = some d → SegX t d) : SegsX (.vec 4 L) ds

def segV (x : SegD) : T := .agg [.int .i64 x.f, .int .i64 x.v, .int .i64 x.s, .vec 1 (U x.d)]
def segsC (ds : List SegD) : T := match ds with | [] => .nils | ds => .vec 4 (ds.map segV)

theorem fits48 {n : Nat} (h : n ≤ 2932031007318) : fitsRow n 48 = true := by simp [fitsRow]; omega

theorem snap_row (H : AH) (b g n : Nat) (l : List T) (e : Nat) (hb : H[b]? = some (.arr e 1 false g (.ts l))) (hn : n = l.length) : snapF 2 H (.sl b g 0 n) = some (.vec 1 l, [b]) := by
  subst hn
  show snapF (1 + 1) _ _ = _
  unfold snapF
  simp only [hb, Nat.beq_refl, Bool.false_and, Sq.part, List.drop_zero, List.take_length]

theorem snap_segs (k : Nat) (H : AH) (b e n : Nat) (ds : List SegD) (hb : H[b]? = some (.arr e 4 true 0 (.ts (ds.map segV)))) (hn : n = (ds.map segV).length) : ∃ ids, snapF (k + 1) H (.sl b 0 0 n) = some (segsC ds, ids) := by
  subst hn
  unfold snapF
  cases ds with
  | nil => exact ⟨[], by simp only [hb]; rfl⟩
  | cons d ds =>
    have h0 : Nat.beq (Sq.ts ((d :: ds).map segV)).length 0 = false := rfl
    exact ⟨[b], by simp only [hb, Nat.beq_refl, h0, Bool.and_false, Sq.part, List.drop_zero, List.take_length]; rfl⟩

theorem pack_exe {H : AH} {m e : Int} {b1 b2 e1 e2 n1 n2 : Nat} {A B A' B' : List SegD} (h1 : H[b1]? = some (.arr e1 4 true 0 (.ts (A'.map segV)))) (h2 : H[b2]? = some (.arr e2 4 true 0 (.ts (B'.map segV))))
    (hA : A' = A) (hB : B' = B) (hn1 : n1 = (A'.map segV).length) (hn2 : n2 = (B'.map segV).length) :
    packP H (.t (.agg [.int .i64 m, .int .i64 e, segsC A, segsC B])) (.agg [.t (.int .i64 m), .t (.int .i64 e), .sl b1 0 0 n1, .sl b2 0 0 n2]) := by
  subst hA hB
  obtain ⟨i1, s1⟩ := snap_segs 4995 H b1 e1 n1 A' h1 hn1
  obtain ⟨i2, s2⟩ := snap_segs 4994 H b2 e2 n2 B' h2 hn2
  show (snapF (4999 + 1) H _).map Prod.fst = _
  unfold snapF
  have a1 : ([.t (.int .i64 m), .t (.int .i64 e), .sl b1 0 0 n1, .sl b2 0 0 n2] : List AV).all AV.one = true := rfl
  have a2 : snapL 4999 H [.t (.int .i64 m), .t (.int .i64 e), .sl b1 0 0 n1, .sl b2 0 0 n2] = some ([.int .i64 m, .int .i64 e, segsC A', segsC B'], i1 ++ i2) := by
    have q : ∀ (k : Nat) (v : AV) (r : List AV), snapL (k + 1) H (v :: r) = match snapF k H v, snapL k H r with | some (x, i), some (l, j) => some (x :: l, i ++ j) | _, _ => none := fun _ _ _ => rfl
    have t : ∀ (k : Nat) (x : T), snapF (k + 1) H (.t x) = some (x, []) := fun _ _ => rfl
    rw [q 4998, t 4997, q 4997, t 4996, q 4996, s1, q 4995, s2]
    have z : snapL 4995 H [] = some ([], []) := rfl
    rw [z]
    simp
  simp only [a1, a2]
  rfl

set_option maxHeartbeats 8000000 in
theorem copy_runs (m e : Int) {st tt : T} {ss ts : List SegD} (hs : SegsX st ss) (ht : SegsX tt ts) (hsl : ss.length ≤ 2932031007317) (htl : ts.length ≤ 2932031007317) :
    Runs Tryd.prog 12 [.agg [.int .i64 m, .int .i64 e, st, tt]] (.t (.agg [.int .i64 m, .int .i64 e, segsC ss, segsC ts])) := by
  refine Runs.of_call ?_ rfl
  refine CallS.of_fn tab_ok reg_ok Tryd.func12 rfl rfl ?_
  cases hs with
  | nil =>
    cases ht with
    | nil =>
      refine loop_on (fun i : Nat => i ≤ ([] : List SegD).length) (fun i => ⟨[(1, .ptr 0 0 0 0), (2, .ptr 1 0 0 0), (3, .ptr 2 0 0 0), (14, .t .nils), (15, .t (.int .i64 ((0 : Nat) : Int))), (16, .t (.int .i64 (i : Int)))],
        [.box [.t (.int .i64 m), .t (.int .i64 e), .t (.nils), .t (.nils)], .box [.t (.int .i64 0), .t (.int .i64 0), .t .nils, .t .nils], .box [.t (.int .i64 m), .t (.int .i64 e), .sl 3 0 0 ((([] : List SegD).take i).map segV).length, .t .nils], .arr 72 4 true 0 (.ts ((([] : List SegD).take i).map segV))]⟩)
        (fun i => ([] : List SegD).length - i) 0 (Nat.zero_le _) ?_ (fun i hi => ?_)
      · refine Weak.trans (weak_of (s' := ⟨[(1, .ptr 0 0 0 0), (2, .ptr 1 0 0 0), (3, .ptr 2 0 0 0), (14, .t .nils), (15, .t (.int .i64 ((0 : Nat) : Int))), (16, .t (.int .i64 ((0 : Nat) : Int)))],
          [.box [.t (.int .i64 m), .t (.int .i64 e), .t (.nils), .t (.nils)], .box [.t (.int .i64 0), .t (.int .i64 0), .t .nils, .t .nils], .box [.t (.int .i64 m), .t (.int .i64 e), .t .nils, .t .nils]]⟩) ⟨rfl, rfl, rfl, rfl, rfl, rfl, trivial⟩ rfl) ?_
        refine Weak.trans (weak_row (.arr 72 4 true 0 (.ts []))) ?_
        refine weak_frz [] rfl (fun b blk' hb => .inr ⟨by simp, ?_⟩) (agree_frz ⟨rfl, rfl, rfl, rfl, rfl, rfl, trivial⟩)
        match b, hb with
        | 0, hb => cases hb; exact ⟨_, rfl, .same _⟩
        | 1, hb => cases hb; exact ⟨_, rfl, .same _⟩
        | 2, hb =>
          cases hb
          refine ⟨_, rfl, .box _ _ rfl fun j x x' hx hx' => ?_⟩
          match j, hx, hx' with
          | 0, hx, hx' => cases hx; cases hx'; exact .same _
          | 1, hx, hx' => cases hx; cases hx'; exact .same _
          | 2, hx, hx' => cases hx; cases hx'; exact .nil 3 _ _ rfl
          | 3, hx, hx' => cases hx; cases hx'; exact .same _
          | j + 4, hx, hx' => cases hx
        | 3, hb => cases hb; exact ⟨_, rfl, .same _⟩
        | b + 4, hb => cases hb
      · obtain rfl : i = 0 := by simpa using hi
        refine loop_on (fun i : Nat => i ≤ ([] : List SegD).length) (fun i => ⟨[(1, .ptr 0 0 0 0), (2, .ptr 1 0 0 0), (3, .ptr 2 0 0 0), (33, .t .nils), (34, .t (.int .i64 ((0 : Nat) : Int))), (35, .t (.int .i64 (i : Int)))],
          [.box [.t (.int .i64 m), .t (.int .i64 e), .t (.nils), .t (.nils)], .box [.t (.int .i64 0), .t (.int .i64 0), .t .nils, .t .nils], .box [.t (.int .i64 m), .t (.int .i64 e), .sl 3 0 0 ((([] : List SegD).take 0).map segV).length, .sl 4 0 0 ((([] : List SegD).take i).map segV).length], .arr 72 4 true 0 (.ts ((([] : List SegD).take 0).map segV)), .arr 74 4 true 0 (.ts ((([] : List SegD).take i).map segV))]⟩)
          (fun i => ([] : List SegD).length - i) 0 (Nat.zero_le _) ?_ (fun i hi => ?_)
        · refine Weak.trans (weak_of (s' := ⟨[(1, .ptr 0 0 0 0), (2, .ptr 1 0 0 0), (3, .ptr 2 0 0 0), (33, .t .nils), (34, .t (.int .i64 ((0 : Nat) : Int))), (35, .t (.int .i64 ((0 : Nat) : Int)))],
            [.box [.t (.int .i64 m), .t (.int .i64 e), .t (.nils), .t (.nils)], .box [.t (.int .i64 0), .t (.int .i64 0), .t .nils, .t .nils], .box [.t (.int .i64 m), .t (.int .i64 e), .sl 3 0 0 ((([] : List SegD).take 0).map segV).length, .t .nils], .arr 72 4 true 0 (.ts ((([] : List SegD).take 0).map segV))]⟩) ⟨rfl, rfl, rfl, rfl, rfl, rfl, trivial⟩ rfl) ?_
          refine Weak.trans (weak_row (.arr 74 4 true 0 (.ts []))) ?_
          refine weak_frz [] rfl (fun b blk' hb => .inr ⟨by simp, ?_⟩) (agree_frz ⟨rfl, rfl, rfl, rfl, rfl, rfl, trivial⟩)
          match b, hb with
          | 0, hb => cases hb; exact ⟨_, rfl, .same _⟩
          | 1, hb => cases hb; exact ⟨_, rfl, .same _⟩
          | 2, hb =>
            cases hb
            refine ⟨_, rfl, .box _ _ rfl fun j x x' hx hx' => ?_⟩
            match j, hx, hx' with
            | 0, hx, hx' => cases hx; cases hx'; exact .same _
            | 1, hx, hx' => cases hx; cases hx'; exact .same _
            | 2, hx, hx' => cases hx; cases hx'; exact .same _
            | 3, hx, hx' => cases hx; cases hx'; exact .nil 4 _ _ rfl
            | j + 4, hx, hx' => cases hx
          | 3, hb => cases hb; exact ⟨_, rfl, .same _⟩
          | 4, hb => cases hb; exact ⟨_, rfl, .same _⟩
          | b + 5, hb => cases hb
        · obtain rfl : i = 0 := by simpa using hi
          exact And.intro (pack_exe (b1 := 3) (b2 := 4) (e1 := 72) (e2 := 74) rfl rfl (rfl) (rfl) rfl rfl) rfl
    | vec _ L2 hl2 h2 =>
      refine loop_on (fun i : Nat => i ≤ ([] : List SegD).length) (fun i => ⟨[(1, .ptr 0 0 0 0), (2, .ptr 1 0 0 0), (3, .ptr 2 0 0 0), (14, .t .nils), (15, .t (.int .i64 ((0 : Nat) : Int))), (16, .t (.int .i64 (i : Int)))],
        [.box [.t (.int .i64 m), .t (.int .i64 e), .t (.nils), .t (.vec 4 L2)], .box [.t (.int .i64 0), .t (.int .i64 0), .t .nils, .t .nils], .box [.t (.int .i64 m), .t (.int .i64 e), .sl 3 0 0 ((([] : List SegD).take i).map segV).length, .t .nils], .arr 72 4 true 0 (.ts ((([] : List SegD).take i).map segV))]⟩)
        (fun i => ([] : List SegD).length - i) 0 (Nat.zero_le _) ?_ (fun i hi => ?_)
      · refine Weak.trans (weak_of (s' := ⟨[(1, .ptr 0 0 0 0), (2, .ptr 1 0 0 0), (3, .ptr 2 0 0 0), (14, .t .nils), (15, .t (.int .i64 ((0 : Nat) : Int))), (16, .t (.int .i64 ((0 : Nat) : Int)))],
          [.box [.t (.int .i64 m), .t (.int .i64 e), .t (.nils), .t (.vec 4 L2)], .box [.t (.int .i64 0), .t (.int .i64 0), .t .nils, .t .nils], .box [.t (.int .i64 m), .t (.int .i64 e), .t .nils, .t .nils]]⟩) ⟨rfl, rfl, rfl, rfl, rfl, rfl, trivial⟩ rfl) ?_
        refine Weak.trans (weak_row (.arr 72 4 true 0 (.ts []))) ?_
        refine weak_frz [] rfl (fun b blk' hb => .inr ⟨by simp, ?_⟩) (agree_frz ⟨rfl, rfl, rfl, rfl, rfl, rfl, trivial⟩)
        match b, hb with
        | 0, hb => cases hb; exact ⟨_, rfl, .same _⟩
        | 1, hb => cases hb; exact ⟨_, rfl, .same _⟩
        | 2, hb =>
          cases hb
          refine ⟨_, rfl, .box _ _ rfl fun j x x' hx hx' => ?_⟩
          match j, hx, hx' with
          | 0, hx, hx' => cases hx; cases hx'; exact .same _
          | 1, hx, hx' => cases hx; cases hx'; exact .same _
          | 2, hx, hx' => cases hx; cases hx'; exact .nil 3 _ _ rfl
          | 3, hx, hx' => cases hx; cases hx'; exact .same _
          | j + 4, hx, hx' => cases hx
        | 3, hb => cases hb; exact ⟨_, rfl, .same _⟩
        | b + 4, hb => cases hb
      · obtain rfl : i = 0 := by simpa using hi
        refine loop_on (fun i : Nat => i ≤ ts.length) (fun i => ⟨[(1, .ptr 0 0 0 0), (2, .ptr 1 0 0 0), (3, .ptr 2 0 0 0), (33, .t (.vec 4 L2)), (34, .t (.int .i64 (L2.length : Int))), (35, .t (.int .i64 (i : Int)))],
          [.box [.t (.int .i64 m), .t (.int .i64 e), .t (.nils), .t (.vec 4 L2)], .box [.t (.int .i64 0), .t (.int .i64 0), .t .nils, .t .nils], .box [.t (.int .i64 m), .t (.int .i64 e), .sl 3 0 0 ((([] : List SegD).take 0).map segV).length, .sl 4 0 0 ((ts.take i).map segV).length], .arr 72 4 true 0 (.ts ((([] : List SegD).take 0).map segV)), .arr 74 4 true 0 (.ts ((ts.take i).map segV))]⟩)
          (fun i => ts.length - i) 0 (Nat.zero_le _) ?_ (fun i hi => ?_)
        · refine Weak.trans (weak_of (s' := ⟨[(1, .ptr 0 0 0 0), (2, .ptr 1 0 0 0), (3, .ptr 2 0 0 0), (33, .t (.vec 4 L2)), (34, .t (.int .i64 (L2.length : Int))), (35, .t (.int .i64 ((0 : Nat) : Int)))],
            [.box [.t (.int .i64 m), .t (.int .i64 e), .t (.nils), .t (.vec 4 L2)], .box [.t (.int .i64 0), .t (.int .i64 0), .t .nils, .t .nils], .box [.t (.int .i64 m), .t (.int .i64 e), .sl 3 0 0 ((([] : List SegD).take 0).map segV).length, .t .nils], .arr 72 4 true 0 (.ts ((([] : List SegD).take 0).map segV))]⟩) ⟨rfl, rfl, rfl, rfl, rfl, rfl, trivial⟩ rfl) ?_
          refine Weak.trans (weak_row (.arr 74 4 true 0 (.ts []))) ?_
          refine weak_frz [] rfl (fun b blk' hb => .inr ⟨by simp, ?_⟩) (agree_frz ⟨rfl, rfl, rfl, rfl, rfl, rfl, trivial⟩)
          match b, hb with
          | 0, hb => cases hb; exact ⟨_, rfl, .same _⟩
          | 1, hb => cases hb; exact ⟨_, rfl, .same _⟩
          | 2, hb =>
            cases hb
            refine ⟨_, rfl, .box _ _ rfl fun j x x' hx hx' => ?_⟩
            match j, hx, hx' with
            | 0, hx, hx' => cases hx; cases hx'; exact .same _
            | 1, hx, hx' => cases hx; cases hx'; exact .same _
            | 2, hx, hx' => cases hx; cases hx'; exact .same _
            | 3, hx, hx' => cases hx; cases hx'; exact .nil 4 _ _ rfl
            | j + 4, hx, hx' => cases hx
          | 3, hb => cases hb; exact ⟨_, rfl, .same _⟩
          | 4, hb => cases hb; exact ⟨_, rfl, .same _⟩
          | b + 5, hb => cases hb
        · refine br_intro (fun c => ?_) (fun c => ?_)
          · have c : (i : Int) < (L2.length : Int) := of_decide_eq_true c
            have hi2 : i < ts.length := by omega
            have hLi : i < L2.length := by omega
            obtain ⟨f, v, s, dt, d, hd, hdl, hds, hLt⟩ : ∃ f v s dt d, BX dt d ∧ d.length ≤ 140737488351232 ∧ ts[i] = ⟨f, v, s, d⟩ ∧ L2[i] = .agg [.int .i64 f, .int .i64 v, .int .i64 s, dt] := by
              have := h2 i _ _ (List.getElem?_eq_getElem hLi) (List.getElem?_eq_getElem hi2)
              generalize L2[i] = a at this
              generalize ts[i] = b at this
              cases this with
              | mk f v s dt d h hl => exact ⟨f, v, s, dt, d, h, hl, rfl, rfl⟩
            refine opt_intro (show L2[((i : Int)).toNat]? = some (.agg [.int .i64 f, .int .i64 v, .int .i64 s, dt]) by rw [Int.toNat_natCast, List.getElem?_eq_getElem hLi, hLt]) ?_
            cases hd with
            | vec d M e' =>
              subst e'
              refine Or.inl (And.intro rfl (ck_intro (fits1 (n := 0 + (U d).length) (by rw [U_len]; omega)) ?_))
              refine Or.inl (And.intro rfl (ck_intro (fits48 (n := ((ts.take i).map segV).length + 1) (by simp; omega)) ?_))
              have eA : (ts.take i).map segV ++ [.agg [.int .i64 f, .int .i64 v, .int .i64 s, .vec 1 ([] ++ U d)]] = (ts.take (i + 1)).map segV := by
                rw [List.take_succ_eq_append_getElem hi2, List.map_append, hds]; rfl
              have eL : ((ts.take i).map segV).length + 1 = ((ts.take (i + 1)).map segV).length := by rw [← eA]; simp
              refine ⟨⟨i + 1, by omega⟩, Weak.trans (weak_frz (s' := ⟨[(1, .ptr 0 0 0 0), (2, .ptr 1 0 0 0), (3, .ptr 2 0 0 0), (33, .t (.vec 4 L2)), (34, .t (.int .i64 (L2.length : Int))), (35, .t (.int .i64 (IntKind.i64.wrap ((i : Int) + 1))))],
                [.box [.t (.int .i64 m), .t (.int .i64 e), .t (.nils), .t (.vec 4 L2)], .box [.t (.int .i64 0), .t (.int .i64 0), .t .nils, .t .nils], .box [.t (.int .i64 m), .t (.int .i64 e), .sl 3 0 0 ((([] : List SegD).take 0).map segV).length, .sl 4 2 0 (((ts.take i).map segV).length + 1)], .arr 72 4 true 0 (.ts ((([] : List SegD).take 0).map segV)), .arr 74 4 true 2 (.ts ((ts.take i).map segV ++ [.agg [.int .i64 f, .int .i64 v, .int .i64 s, .vec 1 ([] ++ U d)]])), .dead, .dead, .dead]⟩) [6] rfl (fun b blk' hb => ?_) (agree_frz ⟨rfl, rfl, rfl, rfl, rfl, rfl, trivial⟩)) (weak_gc [0, 1, 2, 3, 4] rfl ⟨rfl, rfl, rfl, rfl, rfl, ?_, trivial⟩ ⟨rfl, rfl, ?_, rfl, ?_, trivial⟩), by show ts.length - (i + 1) < ts.length - i; omega⟩
              · match b, hb with
                | 0, hb => cases hb; exact .inr ⟨by simp, _, rfl, .same _⟩
                | 1, hb => cases hb; exact .inr ⟨by simp, _, rfl, .same _⟩
                | 2, hb => cases hb; exact .inr ⟨by simp, _, rfl, .same _⟩
                | 3, hb => cases hb; exact .inr ⟨by simp, _, rfl, .same _⟩
                | 4, hb =>
                  cases hb
                  refine .inr ⟨by simp, _, rfl, frz_last _ _ _ _ _ _ _ rfl fun j y t hy ht => ?_⟩
                  match j, hy, ht with
                  | 0, hy, ht => cases hy; cases ht; exact .same _
                  | 1, hy, ht => cases hy; cases ht; exact .same _
                  | 2, hy, ht => cases hy; cases ht; exact .same _
                  | 3, hy, ht => cases hy; cases ht; exact .snap _ _ [6] 2 (snap_row _ _ _ _ _ _ rfl (by simp [Sq.length])) (by simp)
                  | j + 4, hy, ht => cases ht
                | 5, hb => cases hb; exact .inl rfl
                | 6, hb => cases hb; exact .inl rfl
                | 7, hb => cases hb; exact .inl rfl
                | b + 8, hb => cases hb
              · exact congrArg (fun x => some (AV.t (.int .i64 x))) (i64_nat (n := i + 1) (by omega))
              · exact congrArg (fun n : Nat => some (Blk.box [.t (.int .i64 m), .t (.int .i64 e), .sl 3 0 0 ((([] : List SegD).take 0).map segV).length, .sl 4 0 0 n])) eL
              · exact congrArg (fun l => some (Blk.arr 74 4 true 0 (.ts l))) eA
            | nil =>
              refine Or.inl (And.intro rfl (ck_intro (by decide) ?_))
              refine Or.inl (And.intro rfl (ck_intro (fits48 (n := ((ts.take i).map segV).length + 1) (by simp; omega)) ?_))
              have eA : (ts.take i).map segV ++ [.agg [.int .i64 f, .int .i64 v, .int .i64 s, .vec 1 ([] ++ [])]] = (ts.take (i + 1)).map segV := by
                rw [List.take_succ_eq_append_getElem hi2, List.map_append, hds]; rfl
              have eL : ((ts.take i).map segV).length + 1 = ((ts.take (i + 1)).map segV).length := by rw [← eA]; simp
              refine ⟨⟨i + 1, by omega⟩, Weak.trans (weak_frz (s' := ⟨[(1, .ptr 0 0 0 0), (2, .ptr 1 0 0 0), (3, .ptr 2 0 0 0), (33, .t (.vec 4 L2)), (34, .t (.int .i64 (L2.length : Int))), (35, .t (.int .i64 (IntKind.i64.wrap ((i : Int) + 1))))],
                [.box [.t (.int .i64 m), .t (.int .i64 e), .t (.nils), .t (.vec 4 L2)], .box [.t (.int .i64 0), .t (.int .i64 0), .t .nils, .t .nils], .box [.t (.int .i64 m), .t (.int .i64 e), .sl 3 0 0 ((([] : List SegD).take 0).map segV).length, .sl 4 2 0 (((ts.take i).map segV).length + 1)], .arr 72 4 true 0 (.ts ((([] : List SegD).take 0).map segV)), .arr 74 4 true 2 (.ts ((ts.take i).map segV ++ [.agg [.int .i64 f, .int .i64 v, .int .i64 s, .vec 1 ([] ++ [])]])), .dead, .dead, .dead]⟩) [6] rfl (fun b blk' hb => ?_) (agree_frz ⟨rfl, rfl, rfl, rfl, rfl, rfl, trivial⟩)) (weak_gc [0, 1, 2, 3, 4] rfl ⟨rfl, rfl, rfl, rfl, rfl, ?_, trivial⟩ ⟨rfl, rfl, ?_, rfl, ?_, trivial⟩), by show ts.length - (i + 1) < ts.length - i; omega⟩
              · match b, hb with
                | 0, hb => cases hb; exact .inr ⟨by simp, _, rfl, .same _⟩
                | 1, hb => cases hb; exact .inr ⟨by simp, _, rfl, .same _⟩
                | 2, hb => cases hb; exact .inr ⟨by simp, _, rfl, .same _⟩
                | 3, hb => cases hb; exact .inr ⟨by simp, _, rfl, .same _⟩
                | 4, hb =>
                  cases hb
                  refine .inr ⟨by simp, _, rfl, frz_last _ _ _ _ _ _ _ rfl fun j y t hy ht => ?_⟩
                  match j, hy, ht with
                  | 0, hy, ht => cases hy; cases ht; exact .same _
                  | 1, hy, ht => cases hy; cases ht; exact .same _
                  | 2, hy, ht => cases hy; cases ht; exact .same _
                  | 3, hy, ht => cases hy; cases ht; exact .snap _ _ [6] 2 (snap_row _ _ _ _ _ _ rfl (by simp [Sq.length])) (by simp)
                  | j + 4, hy, ht => cases ht
                | 5, hb => cases hb; exact .inl rfl
                | 6, hb => cases hb; exact .inl rfl
                | 7, hb => cases hb; exact .inl rfl
                | b + 8, hb => cases hb
              · exact congrArg (fun x => some (AV.t (.int .i64 x))) (i64_nat (n := i + 1) (by omega))
              · exact congrArg (fun n : Nat => some (Blk.box [.t (.int .i64 m), .t (.int .i64 e), .sl 3 0 0 ((([] : List SegD).take 0).map segV).length, .sl 4 0 0 n])) eL
              · exact congrArg (fun l => some (Blk.arr 74 4 true 0 (.ts l))) eA
          · have c : ¬ (i : Int) < (L2.length : Int) := of_decide_eq_false c
            obtain rfl : i = ts.length := by omega
            exact And.intro (pack_exe (b1 := 3) (b2 := 4) (e1 := 72) (e2 := 74) rfl rfl (rfl) (List.take_length) rfl rfl) rfl
  | vec _ L hl h =>
    cases ht with
    | nil =>
      refine loop_on (fun i : Nat => i ≤ ss.length) (fun i => ⟨[(1, .ptr 0 0 0 0), (2, .ptr 1 0 0 0), (3, .ptr 2 0 0 0), (14, .t (.vec 4 L)), (15, .t (.int .i64 (L.length : Int))), (16, .t (.int .i64 (i : Int)))],
        [.box [.t (.int .i64 m), .t (.int .i64 e), .t (.vec 4 L), .t (.nils)], .box [.t (.int .i64 0), .t (.int .i64 0), .t .nils, .t .nils], .box [.t (.int .i64 m), .t (.int .i64 e), .sl 3 0 0 ((ss.take i).map segV).length, .t .nils], .arr 72 4 true 0 (.ts ((ss.take i).map segV))]⟩)
        (fun i => ss.length - i) 0 (Nat.zero_le _) ?_ (fun i hi => ?_)
      · refine Weak.trans (weak_of (s' := ⟨[(1, .ptr 0 0 0 0), (2, .ptr 1 0 0 0), (3, .ptr 2 0 0 0), (14, .t (.vec 4 L)), (15, .t (.int .i64 (L.length : Int))), (16, .t (.int .i64 ((0 : Nat) : Int)))],
          [.box [.t (.int .i64 m), .t (.int .i64 e), .t (.vec 4 L), .t (.nils)], .box [.t (.int .i64 0), .t (.int .i64 0), .t .nils, .t .nils], .box [.t (.int .i64 m), .t (.int .i64 e), .t .nils, .t .nils]]⟩) ⟨rfl, rfl, rfl, rfl, rfl, rfl, trivial⟩ rfl) ?_
        refine Weak.trans (weak_row (.arr 72 4 true 0 (.ts []))) ?_
        refine weak_frz [] rfl (fun b blk' hb => .inr ⟨by simp, ?_⟩) (agree_frz ⟨rfl, rfl, rfl, rfl, rfl, rfl, trivial⟩)
        match b, hb with
        | 0, hb => cases hb; exact ⟨_, rfl, .same _⟩
        | 1, hb => cases hb; exact ⟨_, rfl, .same _⟩
        | 2, hb =>
          cases hb
          refine ⟨_, rfl, .box _ _ rfl fun j x x' hx hx' => ?_⟩
          match j, hx, hx' with
          | 0, hx, hx' => cases hx; cases hx'; exact .same _
          | 1, hx, hx' => cases hx; cases hx'; exact .same _
          | 2, hx, hx' => cases hx; cases hx'; exact .nil 3 _ _ rfl
          | 3, hx, hx' => cases hx; cases hx'; exact .same _
          | j + 4, hx, hx' => cases hx
        | 3, hb => cases hb; exact ⟨_, rfl, .same _⟩
        | b + 4, hb => cases hb
      · refine br_intro (fun c => ?_) (fun c => ?_)
        · have c : (i : Int) < (L.length : Int) := of_decide_eq_true c
          have hi2 : i < ss.length := by omega
          have hLi : i < L.length := by omega
          obtain ⟨f, v, s, dt, d, hd, hdl, hds, hLt⟩ : ∃ f v s dt d, BX dt d ∧ d.length ≤ 140737488351232 ∧ ss[i] = ⟨f, v, s, d⟩ ∧ L[i] = .agg [.int .i64 f, .int .i64 v, .int .i64 s, dt] := by
            have := h i _ _ (List.getElem?_eq_getElem hLi) (List.getElem?_eq_getElem hi2)
            generalize L[i] = a at this
            generalize ss[i] = b at this
            cases this with
            | mk f v s dt d h hl => exact ⟨f, v, s, dt, d, h, hl, rfl, rfl⟩
          refine opt_intro (show L[((i : Int)).toNat]? = some (.agg [.int .i64 f, .int .i64 v, .int .i64 s, dt]) by rw [Int.toNat_natCast, List.getElem?_eq_getElem hLi, hLt]) ?_
          cases hd with
          | vec d M e' =>
            subst e'
            refine Or.inl (And.intro rfl (ck_intro (fits1 (n := 0 + (U d).length) (by rw [U_len]; omega)) ?_))
            refine Or.inl (And.intro rfl (ck_intro (fits48 (n := ((ss.take i).map segV).length + 1) (by simp; omega)) ?_))
            have eA : (ss.take i).map segV ++ [.agg [.int .i64 f, .int .i64 v, .int .i64 s, .vec 1 ([] ++ U d)]] = (ss.take (i + 1)).map segV := by
              rw [List.take_succ_eq_append_getElem hi2, List.map_append, hds]; rfl
            have eL : ((ss.take i).map segV).length + 1 = ((ss.take (i + 1)).map segV).length := by rw [← eA]; simp
            refine ⟨⟨i + 1, by omega⟩, Weak.trans (weak_frz (s' := ⟨[(1, .ptr 0 0 0 0), (2, .ptr 1 0 0 0), (3, .ptr 2 0 0 0), (14, .t (.vec 4 L)), (15, .t (.int .i64 (L.length : Int))), (16, .t (.int .i64 (IntKind.i64.wrap ((i : Int) + 1))))],
              [.box [.t (.int .i64 m), .t (.int .i64 e), .t (.vec 4 L), .t (.nils)], .box [.t (.int .i64 0), .t (.int .i64 0), .t .nils, .t .nils], .box [.t (.int .i64 m), .t (.int .i64 e), .sl 3 2 0 (((ss.take i).map segV).length + 1), .t .nils], .arr 72 4 true 2 (.ts ((ss.take i).map segV ++ [.agg [.int .i64 f, .int .i64 v, .int .i64 s, .vec 1 ([] ++ U d)]])), .dead, .dead, .dead]⟩) [5] rfl (fun b blk' hb => ?_) (agree_frz ⟨rfl, rfl, rfl, rfl, rfl, rfl, trivial⟩)) (weak_gc [0, 1, 2, 3] rfl ⟨rfl, rfl, rfl, rfl, rfl, ?_, trivial⟩ ⟨rfl, rfl, ?_, ?_, trivial⟩), by show ss.length - (i + 1) < ss.length - i; omega⟩
            · match b, hb with
              | 0, hb => cases hb; exact .inr ⟨by simp, _, rfl, .same _⟩
              | 1, hb => cases hb; exact .inr ⟨by simp, _, rfl, .same _⟩
              | 2, hb => cases hb; exact .inr ⟨by simp, _, rfl, .same _⟩
              | 3, hb =>
                cases hb
                refine .inr ⟨by simp, _, rfl, frz_last _ _ _ _ _ _ _ rfl fun j y t hy ht => ?_⟩
                match j, hy, ht with
                | 0, hy, ht => cases hy; cases ht; exact .same _
                | 1, hy, ht => cases hy; cases ht; exact .same _
                | 2, hy, ht => cases hy; cases ht; exact .same _
                | 3, hy, ht => cases hy; cases ht; exact .snap _ _ [5] 2 (snap_row _ _ _ _ _ _ rfl (by simp [Sq.length])) (by simp)
                | j + 4, hy, ht => cases ht
              | 4, hb => cases hb; exact .inl rfl
              | 5, hb => cases hb; exact .inl rfl
              | 6, hb => cases hb; exact .inl rfl
              | b + 7, hb => cases hb
            · exact congrArg (fun x => some (AV.t (.int .i64 x))) (i64_nat (n := i + 1) (by omega))
            · exact congrArg (fun n : Nat => some (Blk.box [.t (.int .i64 m), .t (.int .i64 e), .sl 3 0 0 n, .t .nils])) eL
            · exact congrArg (fun l => some (Blk.arr 72 4 true 0 (.ts l))) eA
          | nil =>
            refine Or.inl (And.intro rfl (ck_intro (by decide) ?_))
            refine Or.inl (And.intro rfl (ck_intro (fits48 (n := ((ss.take i).map segV).length + 1) (by simp; omega)) ?_))
            have eA : (ss.take i).map segV ++ [.agg [.int .i64 f, .int .i64 v, .int .i64 s, .vec 1 ([] ++ [])]] = (ss.take (i + 1)).map segV := by
              rw [List.take_succ_eq_append_getElem hi2, List.map_append, hds]; rfl
            have eL : ((ss.take i).map segV).length + 1 = ((ss.take (i + 1)).map segV).length := by rw [← eA]; simp
            refine ⟨⟨i + 1, by omega⟩, Weak.trans (weak_frz (s' := ⟨[(1, .ptr 0 0 0 0), (2, .ptr 1 0 0 0), (3, .ptr 2 0 0 0), (14, .t (.vec 4 L)), (15, .t (.int .i64 (L.length : Int))), (16, .t (.int .i64 (IntKind.i64.wrap ((i : Int) + 1))))],
              [.box [.t (.int .i64 m), .t (.int .i64 e), .t (.vec 4 L), .t (.nils)], .box [.t (.int .i64 0), .t (.int .i64 0), .t .nils, .t .nils], .box [.t (.int .i64 m), .t (.int .i64 e), .sl 3 2 0 (((ss.take i).map segV).length + 1), .t .nils], .arr 72 4 true 2 (.ts ((ss.take i).map segV ++ [.agg [.int .i64 f, .int .i64 v, .int .i64 s, .vec 1 ([] ++ [])]])), .dead, .dead, .dead]⟩) [5] rfl (fun b blk' hb => ?_) (agree_frz ⟨rfl, rfl, rfl, rfl, rfl, rfl, trivial⟩)) (weak_gc [0, 1, 2, 3] rfl ⟨rfl, rfl, rfl, rfl, rfl, ?_, trivial⟩ ⟨rfl, rfl, ?_, ?_, trivial⟩), by show ss.length - (i + 1) < ss.length - i; omega⟩
            · match b, hb with
              | 0, hb => cases hb; exact .inr ⟨by simp, _, rfl, .same _⟩
              | 1, hb => cases hb; exact .inr ⟨by simp, _, rfl, .same _⟩
              | 2, hb => cases hb; exact .inr ⟨by simp, _, rfl, .same _⟩
              | 3, hb =>
                cases hb
                refine .inr ⟨by simp, _, rfl, frz_last _ _ _ _ _ _ _ rfl fun j y t hy ht => ?_⟩
                match j, hy, ht with
                | 0, hy, ht => cases hy; cases ht; exact .same _
                | 1, hy, ht => cases hy; cases ht; exact .same _
                | 2, hy, ht => cases hy; cases ht; exact .same _
                | 3, hy, ht => cases hy; cases ht; exact .snap _ _ [5] 2 (snap_row _ _ _ _ _ _ rfl (by simp [Sq.length])) (by simp)
                | j + 4, hy, ht => cases ht
              | 4, hb => cases hb; exact .inl rfl
              | 5, hb => cases hb; exact .inl rfl
              | 6, hb => cases hb; exact .inl rfl
              | b + 7, hb => cases hb
            · exact congrArg (fun x => some (AV.t (.int .i64 x))) (i64_nat (n := i + 1) (by omega))
            · exact congrArg (fun n : Nat => some (Blk.box [.t (.int .i64 m), .t (.int .i64 e), .sl 3 0 0 n, .t .nils])) eL
            · exact congrArg (fun l => some (Blk.arr 72 4 true 0 (.ts l))) eA
        · have c : ¬ (i : Int) < (L.length : Int) := of_decide_eq_false c
          obtain rfl : i = ss.length := by omega
          refine loop_on (fun i : Nat => i ≤ ([] : List SegD).length) (fun i => ⟨[(1, .ptr 0 0 0 0), (2, .ptr 1 0 0 0), (3, .ptr 2 0 0 0), (33, .t .nils), (34, .t (.int .i64 ((0 : Nat) : Int))), (35, .t (.int .i64 (i : Int)))],
            [.box [.t (.int .i64 m), .t (.int .i64 e), .t (.vec 4 L), .t (.nils)], .box [.t (.int .i64 0), .t (.int .i64 0), .t .nils, .t .nils], .box [.t (.int .i64 m), .t (.int .i64 e), .sl 3 0 0 ((ss.take ss.length).map segV).length, .sl 4 0 0 ((([] : List SegD).take i).map segV).length], .arr 72 4 true 0 (.ts ((ss.take ss.length).map segV)), .arr 74 4 true 0 (.ts ((([] : List SegD).take i).map segV))]⟩)
            (fun i => ([] : List SegD).length - i) 0 (Nat.zero_le _) ?_ (fun i hi => ?_)
          · refine Weak.trans (weak_of (s' := ⟨[(1, .ptr 0 0 0 0), (2, .ptr 1 0 0 0), (3, .ptr 2 0 0 0), (33, .t .nils), (34, .t (.int .i64 ((0 : Nat) : Int))), (35, .t (.int .i64 ((0 : Nat) : Int)))],
              [.box [.t (.int .i64 m), .t (.int .i64 e), .t (.vec 4 L), .t (.nils)], .box [.t (.int .i64 0), .t (.int .i64 0), .t .nils, .t .nils], .box [.t (.int .i64 m), .t (.int .i64 e), .sl 3 0 0 ((ss.take ss.length).map segV).length, .t .nils], .arr 72 4 true 0 (.ts ((ss.take ss.length).map segV))]⟩) ⟨rfl, rfl, rfl, rfl, rfl, rfl, trivial⟩ rfl) ?_
            refine Weak.trans (weak_row (.arr 74 4 true 0 (.ts []))) ?_
            refine weak_frz [] rfl (fun b blk' hb => .inr ⟨by simp, ?_⟩) (agree_frz ⟨rfl, rfl, rfl, rfl, rfl, rfl, trivial⟩)
            match b, hb with
            | 0, hb => cases hb; exact ⟨_, rfl, .same _⟩
            | 1, hb => cases hb; exact ⟨_, rfl, .same _⟩
            | 2, hb =>
              cases hb
              refine ⟨_, rfl, .box _ _ rfl fun j x x' hx hx' => ?_⟩
              match j, hx, hx' with
              | 0, hx, hx' => cases hx; cases hx'; exact .same _
              | 1, hx, hx' => cases hx; cases hx'; exact .same _
              | 2, hx, hx' => cases hx; cases hx'; exact .same _
              | 3, hx, hx' => cases hx; cases hx'; exact .nil 4 _ _ rfl
              | j + 4, hx, hx' => cases hx
            | 3, hb => cases hb; exact ⟨_, rfl, .same _⟩
            | 4, hb => cases hb; exact ⟨_, rfl, .same _⟩
            | b + 5, hb => cases hb
          · obtain rfl : i = 0 := by simpa using hi
            exact And.intro (pack_exe (b1 := 3) (b2 := 4) (e1 := 72) (e2 := 74) rfl rfl (List.take_length) (rfl) rfl rfl) rfl
    | vec _ L2 hl2 h2 =>
      refine loop_on (fun i : Nat => i ≤ ss.length) (fun i => ⟨[(1, .ptr 0 0 0 0), (2, .ptr 1 0 0 0), (3, .ptr 2 0 0 0), (14, .t (.vec 4 L)), (15, .t (.int .i64 (L.length : Int))), (16, .t (.int .i64 (i : Int)))],
        [.box [.t (.int .i64 m), .t (.int .i64 e), .t (.vec 4 L), .t (.vec 4 L2)], .box [.t (.int .i64 0), .t (.int .i64 0), .t .nils, .t .nils], .box [.t (.int .i64 m), .t (.int .i64 e), .sl 3 0 0 ((ss.take i).map segV).length, .t .nils], .arr 72 4 true 0 (.ts ((ss.take i).map segV))]⟩)
        (fun i => ss.length - i) 0 (Nat.zero_le _) ?_ (fun i hi => ?_)
      · refine Weak.trans (weak_of (s' := ⟨[(1, .ptr 0 0 0 0), (2, .ptr 1 0 0 0), (3, .ptr 2 0 0 0), (14, .t (.vec 4 L)), (15, .t (.int .i64 (L.length : Int))), (16, .t (.int .i64 ((0 : Nat) : Int)))],
          [.box [.t (.int .i64 m), .t (.int .i64 e), .t (.vec 4 L), .t (.vec 4 L2)], .box [.t (.int .i64 0), .t (.int .i64 0), .t .nils, .t .nils], .box [.t (.int .i64 m), .t (.int .i64 e), .t .nils, .t .nils]]⟩) ⟨rfl, rfl, rfl, rfl, rfl, rfl, trivial⟩ rfl) ?_
        refine Weak.trans (weak_row (.arr 72 4 true 0 (.ts []))) ?_
        refine weak_frz [] rfl (fun b blk' hb => .inr ⟨by simp, ?_⟩) (agree_frz ⟨rfl, rfl, rfl, rfl, rfl, rfl, trivial⟩)
        match b, hb with
        | 0, hb => cases hb; exact ⟨_, rfl, .same _⟩
        | 1, hb => cases hb; exact ⟨_, rfl, .same _⟩
        | 2, hb =>
          cases hb
          refine ⟨_, rfl, .box _ _ rfl fun j x x' hx hx' => ?_⟩
          match j, hx, hx' with
          | 0, hx, hx' => cases hx; cases hx'; exact .same _
          | 1, hx, hx' => cases hx; cases hx'; exact .same _
          | 2, hx, hx' => cases hx; cases hx'; exact .nil 3 _ _ rfl
          | 3, hx, hx' => cases hx; cases hx'; exact .same _
          | j + 4, hx, hx' => cases hx
        | 3, hb => cases hb; exact ⟨_, rfl, .same _⟩
        | b + 4, hb => cases hb
      · refine br_intro (fun c => ?_) (fun c => ?_)
        · have c : (i : Int) < (L.length : Int) := of_decide_eq_true c
          have hi2 : i < ss.length := by omega
          have hLi : i < L.length := by omega
          obtain ⟨f, v, s, dt, d, hd, hdl, hds, hLt⟩ : ∃ f v s dt d, BX dt d ∧ d.length ≤ 140737488351232 ∧ ss[i] = ⟨f, v, s, d⟩ ∧ L[i] = .agg [.int .i64 f, .int .i64 v, .int .i64 s, dt] := by
            have := h i _ _ (List.getElem?_eq_getElem hLi) (List.getElem?_eq_getElem hi2)
            generalize L[i] = a at this
            generalize ss[i] = b at this
            cases this with
            | mk f v s dt d h hl => exact ⟨f, v, s, dt, d, h, hl, rfl, rfl⟩
          refine opt_intro (show L[((i : Int)).toNat]? = some (.agg [.int .i64 f, .int .i64 v, .int .i64 s, dt]) by rw [Int.toNat_natCast, List.getElem?_eq_getElem hLi, hLt]) ?_
          cases hd with
          | vec d M e' =>
            subst e'
            refine Or.inl (And.intro rfl (ck_intro (fits1 (n := 0 + (U d).length) (by rw [U_len]; omega)) ?_))
            refine Or.inl (And.intro rfl (ck_intro (fits48 (n := ((ss.take i).map segV).length + 1) (by simp; omega)) ?_))
            have eA : (ss.take i).map segV ++ [.agg [.int .i64 f, .int .i64 v, .int .i64 s, .vec 1 ([] ++ U d)]] = (ss.take (i + 1)).map segV := by
              rw [List.take_succ_eq_append_getElem hi2, List.map_append, hds]; rfl
            have eL : ((ss.take i).map segV).length + 1 = ((ss.take (i + 1)).map segV).length := by rw [← eA]; simp
            refine ⟨⟨i + 1, by omega⟩, Weak.trans (weak_frz (s' := ⟨[(1, .ptr 0 0 0 0), (2, .ptr 1 0 0 0), (3, .ptr 2 0 0 0), (14, .t (.vec 4 L)), (15, .t (.int .i64 (L.length : Int))), (16, .t (.int .i64 (IntKind.i64.wrap ((i : Int) + 1))))],
              [.box [.t (.int .i64 m), .t (.int .i64 e), .t (.vec 4 L), .t (.vec 4 L2)], .box [.t (.int .i64 0), .t (.int .i64 0), .t .nils, .t .nils], .box [.t (.int .i64 m), .t (.int .i64 e), .sl 3 2 0 (((ss.take i).map segV).length + 1), .t .nils], .arr 72 4 true 2 (.ts ((ss.take i).map segV ++ [.agg [.int .i64 f, .int .i64 v, .int .i64 s, .vec 1 ([] ++ U d)]])), .dead, .dead, .dead]⟩) [5] rfl (fun b blk' hb => ?_) (agree_frz ⟨rfl, rfl, rfl, rfl, rfl, rfl, trivial⟩)) (weak_gc [0, 1, 2, 3] rfl ⟨rfl, rfl, rfl, rfl, rfl, ?_, trivial⟩ ⟨rfl, rfl, ?_, ?_, trivial⟩), by show ss.length - (i + 1) < ss.length - i; omega⟩
            · match b, hb with
              | 0, hb => cases hb; exact .inr ⟨by simp, _, rfl, .same _⟩
              | 1, hb => cases hb; exact .inr ⟨by simp, _, rfl, .same _⟩
              | 2, hb => cases hb; exact .inr ⟨by simp, _, rfl, .same _⟩
              | 3, hb =>
                cases hb
                refine .inr ⟨by simp, _, rfl, frz_last _ _ _ _ _ _ _ rfl fun j y t hy ht => ?_⟩
                match j, hy, ht with
                | 0, hy, ht => cases hy; cases ht; exact .same _
                | 1, hy, ht => cases hy; cases ht; exact .same _
                | 2, hy, ht => cases hy; cases ht; exact .same _
                | 3, hy, ht => cases hy; cases ht; exact .snap _ _ [5] 2 (snap_row _ _ _ _ _ _ rfl (by simp [Sq.length])) (by simp)
                | j + 4, hy, ht => cases ht
              | 4, hb => cases hb; exact .inl rfl
              | 5, hb => cases hb; exact .inl rfl
              | 6, hb => cases hb; exact .inl rfl
              | b + 7, hb => cases hb
            · exact congrArg (fun x => some (AV.t (.int .i64 x))) (i64_nat (n := i + 1) (by omega))
            · exact congrArg (fun n : Nat => some (Blk.box [.t (.int .i64 m), .t (.int .i64 e), .sl 3 0 0 n, .t .nils])) eL
            · exact congrArg (fun l => some (Blk.arr 72 4 true 0 (.ts l))) eA
          | nil =>
            refine Or.inl (And.intro rfl (ck_intro (by decide) ?_))
            refine Or.inl (And.intro rfl (ck_intro (fits48 (n := ((ss.take i).map segV).length + 1) (by simp; omega)) ?_))
            have eA : (ss.take i).map segV ++ [.agg [.int .i64 f, .int .i64 v, .int .i64 s, .vec 1 ([] ++ [])]] = (ss.take (i + 1)).map segV := by
              rw [List.take_succ_eq_append_getElem hi2, List.map_append, hds]; rfl
            have eL : ((ss.take i).map segV).length + 1 = ((ss.take (i + 1)).map segV).length := by rw [← eA]; simp
            refine ⟨⟨i + 1, by omega⟩, Weak.trans (weak_frz (s' := ⟨[(1, .ptr 0 0 0 0), (2, .ptr 1 0 0 0), (3, .ptr 2 0 0 0), (14, .t (.vec 4 L)), (15, .t (.int .i64 (L.length : Int))), (16, .t (.int .i64 (IntKind.i64.wrap ((i : Int) + 1))))],
              [.box [.t (.int .i64 m), .t (.int .i64 e), .t (.vec 4 L), .t (.vec 4 L2)], .box [.t (.int .i64 0), .t (.int .i64 0), .t .nils, .t .nils], .box [.t (.int .i64 m), .t (.int .i64 e), .sl 3 2 0 (((ss.take i).map segV).length + 1), .t .nils], .arr 72 4 true 2 (.ts ((ss.take i).map segV ++ [.agg [.int .i64 f, .int .i64 v, .int .i64 s, .vec 1 ([] ++ [])]])), .dead, .dead, .dead]⟩) [5] rfl (fun b blk' hb => ?_) (agree_frz ⟨rfl, rfl, rfl, rfl, rfl, rfl, trivial⟩)) (weak_gc [0, 1, 2, 3] rfl ⟨rfl, rfl, rfl, rfl, rfl, ?_, trivial⟩ ⟨rfl, rfl, ?_, ?_, trivial⟩), by show ss.length - (i + 1) < ss.length - i; omega⟩
            · match b, hb with
              | 0, hb => cases hb; exact .inr ⟨by simp, _, rfl, .same _⟩
              | 1, hb => cases hb; exact .inr ⟨by simp, _, rfl, .same _⟩
              | 2, hb => cases hb; exact .inr ⟨by simp, _, rfl, .same _⟩
              | 3, hb =>
                cases hb
                refine .inr ⟨by simp, _, rfl, frz_last _ _ _ _ _ _ _ rfl fun j y t hy ht => ?_⟩
                match j, hy, ht with
                | 0, hy, ht => cases hy; cases ht; exact .same _
                | 1, hy, ht => cases hy; cases ht; exact .same _
                | 2, hy, ht => cases hy; cases ht; exact .same _
                | 3, hy, ht => cases hy; cases ht; exact .snap _ _ [5] 2 (snap_row _ _ _ _ _ _ rfl (by simp [Sq.length])) (by simp)
                | j + 4, hy, ht => cases ht
              | 4, hb => cases hb; exact .inl rfl
              | 5, hb => cases hb; exact .inl rfl
              | 6, hb => cases hb; exact .inl rfl
              | b + 7, hb => cases hb
            · exact congrArg (fun x => some (AV.t (.int .i64 x))) (i64_nat (n := i + 1) (by omega))
            · exact congrArg (fun n : Nat => some (Blk.box [.t (.int .i64 m), .t (.int .i64 e), .sl 3 0 0 n, .t .nils])) eL
            · exact congrArg (fun l => some (Blk.arr 72 4 true 0 (.ts l))) eA
        · have c : ¬ (i : Int) < (L.length : Int) := of_decide_eq_false c
          obtain rfl : i = ss.length := by omega
          refine loop_on (fun i : Nat => i ≤ ts.length) (fun i => ⟨[(1, .ptr 0 0 0 0), (2, .ptr 1 0 0 0), (3, .ptr 2 0 0 0), (33, .t (.vec 4 L2)), (34, .t (.int .i64 (L2.length : Int))), (35, .t (.int .i64 (i : Int)))],
            [.box [.t (.int .i64 m), .t (.int .i64 e), .t (.vec 4 L), .t (.vec 4 L2)], .box [.t (.int .i64 0), .t (.int .i64 0), .t .nils, .t .nils], .box [.t (.int .i64 m), .t (.int .i64 e), .sl 3 0 0 ((ss.take ss.length).map segV).length, .sl 4 0 0 ((ts.take i).map segV).length], .arr 72 4 true 0 (.ts ((ss.take ss.length).map segV)), .arr 74 4 true 0 (.ts ((ts.take i).map segV))]⟩)
            (fun i => ts.length - i) 0 (Nat.zero_le _) ?_ (fun i hi => ?_)
          · refine Weak.trans (weak_of (s' := ⟨[(1, .ptr 0 0 0 0), (2, .ptr 1 0 0 0), (3, .ptr 2 0 0 0), (33, .t (.vec 4 L2)), (34, .t (.int .i64 (L2.length : Int))), (35, .t (.int .i64 ((0 : Nat) : Int)))],
              [.box [.t (.int .i64 m), .t (.int .i64 e), .t (.vec 4 L), .t (.vec 4 L2)], .box [.t (.int .i64 0), .t (.int .i64 0), .t .nils, .t .nils], .box [.t (.int .i64 m), .t (.int .i64 e), .sl 3 0 0 ((ss.take ss.length).map segV).length, .t .nils], .arr 72 4 true 0 (.ts ((ss.take ss.length).map segV))]⟩) ⟨rfl, rfl, rfl, rfl, rfl, rfl, trivial⟩ rfl) ?_
            refine Weak.trans (weak_row (.arr 74 4 true 0 (.ts []))) ?_
            refine weak_frz [] rfl (fun b blk' hb => .inr ⟨by simp, ?_⟩) (agree_frz ⟨rfl, rfl, rfl, rfl, rfl, rfl, trivial⟩)
            match b, hb with
            | 0, hb => cases hb; exact ⟨_, rfl, .same _⟩
            | 1, hb => cases hb; exact ⟨_, rfl, .same _⟩
            | 2, hb =>
              cases hb
              refine ⟨_, rfl, .box _ _ rfl fun j x x' hx hx' => ?_⟩
              match j, hx, hx' with
              | 0, hx, hx' => cases hx; cases hx'; exact .same _
              | 1, hx, hx' => cases hx; cases hx'; exact .same _
              | 2, hx, hx' => cases hx; cases hx'; exact .same _
              | 3, hx, hx' => cases hx; cases hx'; exact .nil 4 _ _ rfl
              | j + 4, hx, hx' => cases hx
            | 3, hb => cases hb; exact ⟨_, rfl, .same _⟩
            | 4, hb => cases hb; exact ⟨_, rfl, .same _⟩
            | b + 5, hb => cases hb
          · refine br_intro (fun c => ?_) (fun c => ?_)
            · have c : (i : Int) < (L2.length : Int) := of_decide_eq_true c
              have hi2 : i < ts.length := by omega
              have hLi : i < L2.length := by omega
              obtain ⟨f, v, s, dt, d, hd, hdl, hds, hLt⟩ : ∃ f v s dt d, BX dt d ∧ d.length ≤ 140737488351232 ∧ ts[i] = ⟨f, v, s, d⟩ ∧ L2[i] = .agg [.int .i64 f, .int .i64 v, .int .i64 s, dt] := by
                have := h2 i _ _ (List.getElem?_eq_getElem hLi) (List.getElem?_eq_getElem hi2)
                generalize L2[i] = a at this
                generalize ts[i] = b at this
                cases this with
                | mk f v s dt d h hl => exact ⟨f, v, s, dt, d, h, hl, rfl, rfl⟩
              refine opt_intro (show L2[((i : Int)).toNat]? = some (.agg [.int .i64 f, .int .i64 v, .int .i64 s, dt]) by rw [Int.toNat_natCast, List.getElem?_eq_getElem hLi, hLt]) ?_
              cases hd with
              | vec d M e' =>
                subst e'
                refine Or.inl (And.intro rfl (ck_intro (fits1 (n := 0 + (U d).length) (by rw [U_len]; omega)) ?_))
                refine Or.inl (And.intro rfl (ck_intro (fits48 (n := ((ts.take i).map segV).length + 1) (by simp; omega)) ?_))
                have eA : (ts.take i).map segV ++ [.agg [.int .i64 f, .int .i64 v, .int .i64 s, .vec 1 ([] ++ U d)]] = (ts.take (i + 1)).map segV := by
                  rw [List.take_succ_eq_append_getElem hi2, List.map_append, hds]; rfl
                have eL : ((ts.take i).map segV).length + 1 = ((ts.take (i + 1)).map segV).length := by rw [← eA]; simp
                refine ⟨⟨i + 1, by omega⟩, Weak.trans (weak_frz (s' := ⟨[(1, .ptr 0 0 0 0), (2, .ptr 1 0 0 0), (3, .ptr 2 0 0 0), (33, .t (.vec 4 L2)), (34, .t (.int .i64 (L2.length : Int))), (35, .t (.int .i64 (IntKind.i64.wrap ((i : Int) + 1))))],
                  [.box [.t (.int .i64 m), .t (.int .i64 e), .t (.vec 4 L), .t (.vec 4 L2)], .box [.t (.int .i64 0), .t (.int .i64 0), .t .nils, .t .nils], .box [.t (.int .i64 m), .t (.int .i64 e), .sl 3 0 0 ((ss.take ss.length).map segV).length, .sl 4 2 0 (((ts.take i).map segV).length + 1)], .arr 72 4 true 0 (.ts ((ss.take ss.length).map segV)), .arr 74 4 true 2 (.ts ((ts.take i).map segV ++ [.agg [.int .i64 f, .int .i64 v, .int .i64 s, .vec 1 ([] ++ U d)]])), .dead, .dead, .dead]⟩) [6] rfl (fun b blk' hb => ?_) (agree_frz ⟨rfl, rfl, rfl, rfl, rfl, rfl, trivial⟩)) (weak_gc [0, 1, 2, 3, 4] rfl ⟨rfl, rfl, rfl, rfl, rfl, ?_, trivial⟩ ⟨rfl, rfl, ?_, rfl, ?_, trivial⟩), by show ts.length - (i + 1) < ts.length - i; omega⟩
                · match b, hb with
                  | 0, hb => cases hb; exact .inr ⟨by simp, _, rfl, .same _⟩
                  | 1, hb => cases hb; exact .inr ⟨by simp, _, rfl, .same _⟩
                  | 2, hb => cases hb; exact .inr ⟨by simp, _, rfl, .same _⟩
                  | 3, hb => cases hb; exact .inr ⟨by simp, _, rfl, .same _⟩
                  | 4, hb =>
                    cases hb
                    refine .inr ⟨by simp, _, rfl, frz_last _ _ _ _ _ _ _ rfl fun j y t hy ht => ?_⟩
                    match j, hy, ht with
                    | 0, hy, ht => cases hy; cases ht; exact .same _
                    | 1, hy, ht => cases hy; cases ht; exact .same _
                    | 2, hy, ht => cases hy; cases ht; exact .same _
                    | 3, hy, ht => cases hy; cases ht; exact .snap _ _ [6] 2 (snap_row _ _ _ _ _ _ rfl (by simp [Sq.length])) (by simp)
                    | j + 4, hy, ht => cases ht
                  | 5, hb => cases hb; exact .inl rfl
                  | 6, hb => cases hb; exact .inl rfl
                  | 7, hb => cases hb; exact .inl rfl
                  | b + 8, hb => cases hb
                · exact congrArg (fun x => some (AV.t (.int .i64 x))) (i64_nat (n := i + 1) (by omega))
                · exact congrArg (fun n : Nat => some (Blk.box [.t (.int .i64 m), .t (.int .i64 e), .sl 3 0 0 ((ss.take ss.length).map segV).length, .sl 4 0 0 n])) eL
                · exact congrArg (fun l => some (Blk.arr 74 4 true 0 (.ts l))) eA
              | nil =>
                refine Or.inl (And.intro rfl (ck_intro (by decide) ?_))
                refine Or.inl (And.intro rfl (ck_intro (fits48 (n := ((ts.take i).map segV).length + 1) (by simp; omega)) ?_))
                have eA : (ts.take i).map segV ++ [.agg [.int .i64 f, .int .i64 v, .int .i64 s, .vec 1 ([] ++ [])]] = (ts.take (i + 1)).map segV := by
                  rw [List.take_succ_eq_append_getElem hi2, List.map_append, hds]; rfl
                have eL : ((ts.take i).map segV).length + 1 = ((ts.take (i + 1)).map segV).length := by rw [← eA]; simp
                refine ⟨⟨i + 1, by omega⟩, Weak.trans (weak_frz (s' := ⟨[(1, .ptr 0 0 0 0), (2, .ptr 1 0 0 0), (3, .ptr 2 0 0 0), (33, .t (.vec 4 L2)), (34, .t (.int .i64 (L2.length : Int))), (35, .t (.int .i64 (IntKind.i64.wrap ((i : Int) + 1))))],
                  [.box [.t (.int .i64 m), .t (.int .i64 e), .t (.vec 4 L), .t (.vec 4 L2)], .box [.t (.int .i64 0), .t (.int .i64 0), .t .nils, .t .nils], .box [.t (.int .i64 m), .t (.int .i64 e), .sl 3 0 0 ((ss.take ss.length).map segV).length, .sl 4 2 0 (((ts.take i).map segV).length + 1)], .arr 72 4 true 0 (.ts ((ss.take ss.length).map segV)), .arr 74 4 true 2 (.ts ((ts.take i).map segV ++ [.agg [.int .i64 f, .int .i64 v, .int .i64 s, .vec 1 ([] ++ [])]])), .dead, .dead, .dead]⟩) [6] rfl (fun b blk' hb => ?_) (agree_frz ⟨rfl, rfl, rfl, rfl, rfl, rfl, trivial⟩)) (weak_gc [0, 1, 2, 3, 4] rfl ⟨rfl, rfl, rfl, rfl, rfl, ?_, trivial⟩ ⟨rfl, rfl, ?_, rfl, ?_, trivial⟩), by show ts.length - (i + 1) < ts.length - i; omega⟩
                · match b, hb with
                  | 0, hb => cases hb; exact .inr ⟨by simp, _, rfl, .same _⟩
                  | 1, hb => cases hb; exact .inr ⟨by simp, _, rfl, .same _⟩
                  | 2, hb => cases hb; exact .inr ⟨by simp, _, rfl, .same _⟩
                  | 3, hb => cases hb; exact .inr ⟨by simp, _, rfl, .same _⟩
                  | 4, hb =>
                    cases hb
                    refine .inr ⟨by simp, _, rfl, frz_last _ _ _ _ _ _ _ rfl fun j y t hy ht => ?_⟩
                    match j, hy, ht with
                    | 0, hy, ht => cases hy; cases ht; exact .same _
                    | 1, hy, ht => cases hy; cases ht; exact .same _
                    | 2, hy, ht => cases hy; cases ht; exact .same _
                    | 3, hy, ht => cases hy; cases ht; exact .snap _ _ [6] 2 (snap_row _ _ _ _ _ _ rfl (by simp [Sq.length])) (by simp)
                    | j + 4, hy, ht => cases ht
                  | 5, hb => cases hb; exact .inl rfl
                  | 6, hb => cases hb; exact .inl rfl
                  | 7, hb => cases hb; exact .inl rfl
                  | b + 8, hb => cases hb
                · exact congrArg (fun x => some (AV.t (.int .i64 x))) (i64_nat (n := i + 1) (by omega))
                · exact congrArg (fun n : Nat => some (Blk.box [.t (.int .i64 m), .t (.int .i64 e), .sl 3 0 0 ((ss.take ss.length).map segV).length, .sl 4 0 0 n])) eL
                · exact congrArg (fun l => some (Blk.arr 74 4 true 0 (.ts l))) eA
            · have c : ¬ (i : Int) < (L2.length : Int) := of_decide_eq_false c
              obtain rfl : i = ts.length := by omega
              exact And.intro (pack_exe (b1 := 3) (b2 := 4) (e1 := 72) (e2 := 74) rfl rfl (List.take_length) (List.take_length) rfl rfl) rfl

end Go.Proofs.YthpkehhghcpolaaDoor
