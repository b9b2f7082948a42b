/-
  Is a form's operand excepted by the other's literals? Are two forms apart? (walks)
-/
import Derived.Test.YtnjmeadmkbkikaaGreatDoorHm
namespace Go.Proofs.YtnjmeadmkbkikaaGreatDoor
open Go.IntWalk
set_option maxRecDepth 100000
set_option linter.unusedVariables false
set_option linter.unusedSimpArgs false
set_option maxHeartbeats 1000000

def ord_66_14 : Ord := (.op 0 [] (.op 1 [] (.op 2 [] (.op 3 [] (.op 4 [3, 2] (.op 5 [4, 3, 2] (.op 6 [3, 2] (.op 7 [] (.op 8 [] .nil)))))))))
def ord_28_4 : Ord := (.op 0 [] (.op 1 [0] (.op 2 [] (.op 3 [] (.op 4 [3, 2, 1, 0] (.op 5 [4, 3, 2, 1, 0] (.op 6 [3, 2, 1, 0] (.op 7 [3, 2, 1, 0] (.op 8 [] (.op 9 [8, 7, 6, 5, 4, 3, 2, 1, 0] (.op 10 [9, 8, 7, 6, 5, 4, 3, 2, 1, 0] (.op 11 [8, 7, 6, 5, 4, 3, 2, 1, 0] (.op 12 [8, 7, 6, 5, 4, 3, 2, 1, 0] (.op 13 [12, 11, 10, 9, 8, 7, 6, 5, 4, 3, 2, 1, 0] (.op 14 [13, 12, 11, 10, 9, 8, 7, 6, 5, 4, 3, 2, 1, 0] (.op 15 [12, 11, 10, 9, 8, 7, 6, 5, 4, 3, 2, 1, 0] (.op 16 [12, 11, 10, 9, 8, 7, 6, 5, 4, 3, 2, 1, 0] (.op 17 [8, 7, 6, 5, 4, 3, 2, 1, 0] (.op 18 [] (.op 19 [] .nil))))))))))))))))))))

theorem contains_ints (l : List Int) (v : Int) (hl : l.length ≤ 9223372036854775807) : Runs Tryz.prog 40 [.vecd 1 (l.map (T.int .i64)), .int .i64 v] (.t (.bool (decide (v ∈ l)))) := by
  have hmap : (l.map (T.int .i64)).length = l.length := by simp
  refine Runs.of_call ?_ rfl
  refine CallS.of_fn tabS_ok regS_ok Tryz.func40 rfl rfl ?_
  refine CallS.of_fn tabS_ok regS_ok Tryz.func83 rfl rfl ?_
  refine loop_on (fun i : Nat => i ≤ l.length ∧ ∀ x ∈ l.take i, ¬ x = v) (fun i => ⟨[(0, .t (.vecd 1 (l.map (T.int .i64)))), (1, .t (.int .i64 v)), (7, .t (.int .i64 ((l.map (T.int .i64)).length : Int))), (8, .t (.int .i64 i))], []⟩)
    (fun i => l.length - i) 0 ⟨Nat.zero_le _, by simp⟩ ?_ (fun i hi => ?_)
  · exact weak_of ⟨rfl, rfl, rfl, rfl, trivial⟩ rfl
  obtain ⟨hi, hP⟩ := hi
  refine br_intro (fun c => ?_) (fun c => ?_)
  · have c : i < l.length := by have := dlt c; omega
    obtain ⟨x, hx, hxm⟩ := get_some (R := l) (i := i) c
    refine opt_intro (show (l.map (T.int .i64))[((i : Nat) : Int).toNat]? = some (T.int .i64 x) from by rw [Int.toNat_natCast, List.getElem?_map, hx]; rfl) ?_
    refine br_intro (fun c2 => ?_) (fun c2 => ?_)
    · have c2 : v = x := by simpa using c2
      exact And.intro (congrArg (fun b => some (T.bool b)) (by rw [show decide (v ∈ l) = true from decide_eq_true (by rw [c2]; exact hxm)]; exact decide_eq_true (by omega))) rfl
    · have c2 : ¬ v = x := by simpa using c2
      refine st_intro (n := ((i + 1 : Nat) : Int)) (nat_in (n := i + 1) (by omega)) ?_
      conv => whnf
      exact ⟨⟨i + 1, c, take_all hx hP fun e => c2 e.symm⟩, weak_gc [] rfl ⟨rfl, rfl, rfl, rfl, trivial⟩ trivial, by show l.length - (i + 1) < l.length - i; omega⟩
  · have c : i = l.length := by have := dge c; omega
    rw [c, List.take_length] at hP
    exact And.intro (congrArg (fun b => some (T.bool b)) (show decide ((-1 : Int) ≥ 0) = decide (v ∈ l) from by rw [decide_eq_false (fun h => hP v h rfl)]; rfl)) rfl

def ExInv (d : DescD) (A B : List BitD) (i : Nat) (p : Nat) (wh : Bool) (n : Nat) : Prop :=
  p ≤ A.length ∧ n < 18446744073709551616 ∧ (wh = true → (∀ (q : Nat) (x : BitD), q < p → A[q]? = some x → x.arg = (i : Int) → ∃ y : BitD, B[q]? = some y ∧ isLit y) ∧ IsNumTo A i (oneLit B) p n)

theorem hd_class {d : DescD} (hd : d.ok) (k : ClassD) (hm : k ∈ d.classes) : k.excl.length ≤ maxLen := (hd.2.2.2.2.2.2.2.2.2.1 k hm).2.2.2.2.2.2.1
def clsC (k : ClassD) : List AV := [.t (.str k.name), .t (.int .i64 k.kind), .t (.int .i64 k.file), .t (.int .i64 k.bits), .t (.int .i64 k.shift), .t (.int .i64 k.plus), .t (.vecd 1 (k.excl.map (T.int .i64)))]
def exE (d : DescD) (f : FormD) (A B : List BitD) (i p : Nat) (wh : Bool) (n : Nat) : List (Nat × AV) := [(2, .t (.vecd 3 (A.map bitT))), (3, .t (.vecd 3 (B.map bitT))), (4, .ptr 0 0 0 0), (17, .t (.vecd 2 (f.args.map argT))), (18, .t (.int .i64 ((f.args.map argT).length : Int))), (19, .t (.int .i64 i)), (9, .t (.int .i64 i)), (11, .ptr 1 0 0 0), (12, .t (.int .u64 n)), (13, .t (.bool wh)), (31, .t (.vecd 3 (A.map bitT))), (32, .t (.int .i64 ((A.map bitT).length : Int))), (33, .t (.int .i64 p))]
theorem lit_yes {b : BitD} (h : isLit b) : Runs Tryz.prog 59 [bitT b] (.t (.bool true)) := by
  have := literal_runs b
  rwa [show decide (b.arg < 0 ∧ b.lit ≠ 120) = true from decide_eq_true h] at this
theorem lit_no {b : BitD} (h : ¬ isLit b) : Runs Tryz.prog 59 [bitT b] (.t (.bool false)) := by
  have := literal_runs b
  rwa [show decide (b.arg < 0 ∧ b.lit ≠ 120) = false from decide_eq_false h] at this
theorem BitIs.op {d : DescD} {f : FormD} {x : BitD} {i : Nat} {a : ArgD} {k : ClassD} (h : BitIs d f x) (hx : x.arg = (i : Int)) (ha : f.args[i]? = some a) (hk : at? d.classes a.cls = some k) : ∃ m : Nat, x.num = (m : Int) ∧ (m : Int) < k.bits ∧ x.lit = 0 := by
  rcases h with ⟨h, _⟩ | ⟨h0, j, a', k', m, h1, h2, h3, h4, h5, _⟩
  · omega
  · obtain rfl : i = j := by omega
    rw [ha] at h2
    obtain rfl := Option.some.inj h2
    rw [hk] at h3
    obtain rfl := Option.some.inj h3
    exact ⟨m, h4, h5, h0⟩
theorem ExInv.off {d : DescD} {A B : List BitD} {i p n : Nat} {wh : Bool} (h : ExInv d A B i p wh n) (hp : p < A.length) : ExInv d A B i (p + 1) false n := ⟨hp, h.2.1, fun e => by cases e⟩
theorem ExInv.skip {d : DescD} {A B : List BitD} {i p n : Nat} {wh : Bool} {x : BitD} (h : ExInv d A B i p wh n) (hx : A[p]? = some x) (hp : p < A.length) (hs : x.arg = (i : Int) → (∃ y : BitD, B[p]? = some y ∧ isLit y) ∧ oneLit B p = false) : ExInv d A B i (p + 1) wh n :=
  ⟨hp, h.2.1, fun e => ⟨fun q z hq hz hzi => by
    by_cases e2 : q = p
    · subst e2
      obtain rfl : x = z := by rw [hx] at hz; exact Option.some.inj hz
      exact (hs hzi).1
    · exact (h.2.2 e).1 q z (by omega) hz hzi, (h.2.2 e).2.skip hx fun hi => (hs hi).2⟩⟩
theorem ExInv.set {d : DescD} {A B : List BitD} {i p n m : Nat} {wh : Bool} {x : BitD} (h : ExInv d A B i p wh n) (hx : A[p]? = some x) (hp : p < A.length) (hi : x.arg = (i : Int)) (hm : x.num = (m : Int)) (hm64 : m < 64) (hy : ∃ y : BitD, B[p]? = some y ∧ isLit y) (ho : oneLit B p = true) : ExInv d A B i (p + 1) wh (n ||| 2 ^ m) :=
  ⟨hp, orbit h.2.1 hm64, fun e => ⟨fun q z hq hz hzi => by
    by_cases e2 : q = p
    · subst e2; exact hy
    · exact (h.2.2 e).1 q z (by omega) hz hzi, (h.2.2 e).2.set hx hi hm ho⟩⟩

theorem excepted_runs (d : DescD) (f : FormD) (hd : d.ok) (hG : GoodF d f) (A B : List BitD) (hA : A = formBits d f) (hBl : B.length ≤ 120) : RunsX Tryz.prog 66 [descT d, formT f, .vecd 3 (A.map bitT), .vecd 3 (B.map bitT)] (YesS (Exc d f A B)) := by
  have hAl : A.length ≤ 120 := by rw [hA, formBits_len]; exact hG.le
  have hAi : ∀ (p : Nat) (x : BitD), A[p]? = some x → BitIs d f x := fun p x h => hG.is_ (by rw [← hA]; exact h)
  have hmA : (A.map bitT).length = A.length := by simp
  have hmB : (B.map bitT).length = B.length := by simp
  have hmF : (f.args.map argT).length = f.args.length := by simp
  have ha6 := hG.args
  refine RunsX.of_call ?_ YesS.noRef
  refine CallS.of_fn tabS_ok regS_ok Tryz.func66 rfl rfl ?_
  refine loop_on (fun i : Nat => i ≤ f.args.length) (fun i => ⟨[(2, .t (.vecd 3 (A.map bitT))), (3, .t (.vecd 3 (B.map bitT))), (4, .ptr 0 0 0 0), (17, .t (.vecd 2 (f.args.map argT))), (18, .t (.int .i64 ((f.args.map argT).length : Int))), (19, .t (.int .i64 i))], [.box (descC d)]⟩)
    (fun i => f.args.length - i) 0 (Nat.zero_le _) ?_ (fun i hi => ?_)
  · exact weak_gc [0] rfl ⟨rfl, rfl, rfl, rfl, rfl, rfl, trivial⟩ ⟨rfl, trivial⟩
  have hi : i ≤ f.args.length := hi
  refine br_intro (fun c => ?_) (fun c => ?_)
  rotate_left 1
  · exact no_end
  have c : i < f.args.length := by have := dlt c; omega
  obtain ⟨a, ha, ham⟩ := get_some (R := f.args) (i := i) c
  obtain ⟨k, hk, hok⟩ := hG.aok a ham
  have hcl := at_lt hk
  obtain ⟨k2, hk2, hkm, hkg⟩ := at_some hcl
  obtain rfl : k = k2 := by rw [hk] at hk2; exact Option.some.inj hk2
  have hexl : k.excl.length ≤ 9223372036854775807 := maxLen_le (hd_class hd k hkm)
  refine opt_intro (show (f.args.map argT)[((i : Nat) : Int).toNat]? = some (argT a) from by rw [Int.toNat_natCast, List.getElem?_map, ha]; rfl) ?_
  refine ck_intro (ix0 rfl hcl.1) ?_
  refine opt_intro (row_get hkg) ?_
  refine loop_then (fun e s' => e = .exit 2 ∧ ∃ (p : Nat) (wh : Bool) (n : Nat), ExInv d A B i p wh n ∧ p = A.length ∧ s' = ⟨(34, .t (.bool (decide ((p : Int) < ((A.map bitT).length : Int))))) :: exE d f A B i p wh n, [.box (descC d), .box (clsC k)]⟩) (fun Q' hq => ?_) ?_
  · refine loop_on (fun s : Nat × Bool × Nat => ExInv d A B i s.1 s.2.1 s.2.2) (fun s => ⟨exE d f A B i s.1 s.2.1 s.2.2, [.box (descC d), .box (clsC k)]⟩)
      (fun s => A.length - s.1) (0, true, 0) ⟨Nat.zero_le _, by decide, fun _ => ⟨fun q x h => absurd h (Nat.not_lt_zero _), IsNumTo.zero _ _ _⟩⟩ ?_ (fun ⟨p, wh, n⟩ hp => ?_)
    · exact weak_gc [0, 2] rfl ⟨rfl, rfl, rfl, rfl, rfl, rfl, rfl, rfl, rfl, rfl, rfl, rfl, rfl, trivial⟩ ⟨rfl, rfl, trivial⟩
    have hp : ExInv d A B i p wh n := hp
    refine br_intro (fun cp => ?_) (fun cp => ?_)
    · have cq : p < A.length := by have := dlt cp; omega
      obtain ⟨x, hx, hxm⟩ := get_some (R := A) (i := p) cq
      refine opt_intro (show (A.map bitT)[((p : Nat) : Int).toNat]? = some (bitT x) from by rw [Int.toNat_natCast, List.getElem?_map, hx]; rfl) ?_
      refine br_intro (fun ce => ?_) (fun ce => ?_)
      · have ce : x.arg = (i : Int) := by simpa using ce
        obtain ⟨m, hm, hmk, _⟩ := (hAi p x hx).op ce ha hk
        have hm64 : m < 64 := by rcases hok with h | h | h <;> omega
        cases wh with
        | false =>
          refine st_intro (n := ((p + 1 : Nat) : Int)) (nat_in (n := p + 1) (by omega)) ?_
          conv => whnf
          exact ⟨⟨(p + 1, false, n), hp.off cq⟩, weak_gc [0, 1] rfl ⟨rfl, rfl, rfl, rfl, rfl, rfl, rfl, rfl, rfl, rfl, rfl, rfl, rfl, trivial⟩ ⟨rfl, rfl, trivial⟩, by show A.length - (p + 1) < A.length - p; omega⟩
        | true =>
          refine br_intro (fun cb => ?_) (fun cb => ?_)
          · have cb : p < B.length := by have := dlt cb; omega
            obtain ⟨y, hy, hym⟩ := get_some (R := B) (i := p) cb
            refine opt_intro (show (B.map bitT)[((p : Nat) : Int).toNat]? = some (bitT y) from by rw [Int.toNat_natCast, List.getElem?_map, hy]; rfl) ?_
            by_cases hl : isLit y
            · refine CallS.frzG (lit_yes hl) rfl ⟨.refl _, trivial⟩ ?_
              refine opt_intro (show (B.map bitT)[((p : Nat) : Int).toNat]? = some (bitT y) from by rw [Int.toNat_natCast, List.getElem?_map, hy]; rfl) ?_
              refine br_intro (fun c49 => ?_) (fun c49 => ?_)
              · have c49 : y.lit = 49 := u8_49.1 c49
                refine ck_intro (decide_eq_true (show (0 : Int) ≤ x.num by omega)) ?_
                refine st_intro (n := ((2 ^ m : Nat) : Int)) (u64bit hm hm64) ?_
                refine st_intro (n := ((n ||| 2 ^ m : Nat) : Int)) (u64or hp.2.1 (pow64 hm64)) ?_
                refine st_intro (n := ((p + 1 : Nat) : Int)) (nat_in (n := p + 1) (by omega)) ?_
                conv => whnf
                exact ⟨⟨(p + 1, true, n ||| 2 ^ m), hp.set hx cq ce hm hm64 ⟨y, hy, hl⟩ (by unfold oneLit; rw [hy]; exact decide_eq_true c49)⟩, weak_gc [0, 1] rfl ⟨rfl, rfl, rfl, rfl, rfl, rfl, rfl, rfl, rfl, rfl, rfl, rfl, rfl, trivial⟩ ⟨rfl, rfl, trivial⟩, by show A.length - (p + 1) < A.length - p; omega⟩
              · have c49 : ¬ y.lit = 49 := fun e => by rw [u8_49.2 e] at c49; cases c49
                refine st_intro (n := ((p + 1 : Nat) : Int)) (nat_in (n := p + 1) (by omega)) ?_
                conv => whnf
                exact ⟨⟨(p + 1, true, n), hp.skip hx cq fun _ => ⟨⟨y, hy, hl⟩, by unfold oneLit; rw [hy]; exact decide_eq_false c49⟩⟩, weak_gc [0, 1] rfl ⟨rfl, rfl, rfl, rfl, rfl, rfl, rfl, rfl, rfl, rfl, rfl, rfl, rfl, trivial⟩ ⟨rfl, rfl, trivial⟩, by show A.length - (p + 1) < A.length - p; omega⟩
            · refine CallS.frzG (lit_no hl) rfl ⟨.refl _, trivial⟩ ?_
              refine st_intro (n := ((p + 1 : Nat) : Int)) (nat_in (n := p + 1) (by omega)) ?_
              conv => whnf
              exact ⟨⟨(p + 1, false, n), hp.off cq⟩, weak_gc [0, 1] rfl ⟨rfl, rfl, rfl, rfl, rfl, rfl, rfl, rfl, rfl, rfl, rfl, rfl, rfl, trivial⟩ ⟨rfl, rfl, trivial⟩, by show A.length - (p + 1) < A.length - p; omega⟩
          · skip
            refine st_intro (n := ((p + 1 : Nat) : Int)) (nat_in (n := p + 1) (by omega)) ?_
            conv => whnf
            exact ⟨⟨(p + 1, false, n), hp.off cq⟩, weak_gc [0, 1] rfl ⟨rfl, rfl, rfl, rfl, rfl, rfl, rfl, rfl, rfl, rfl, rfl, rfl, rfl, trivial⟩ ⟨rfl, rfl, trivial⟩, by show A.length - (p + 1) < A.length - p; omega⟩
      · have ce : ¬ x.arg = (i : Int) := by simpa using ce
        refine st_intro (n := ((p + 1 : Nat) : Int)) (nat_in (n := p + 1) (by omega)) ?_
        conv => whnf
        exact ⟨⟨(p + 1, wh, n), hp.skip hx cq fun e => absurd e ce⟩, weak_gc [0, 1] rfl ⟨rfl, rfl, rfl, rfl, rfl, rfl, rfl, rfl, rfl, rfl, rfl, rfl, rfl, trivial⟩ ⟨rfl, rfl, trivial⟩, by show A.length - (p + 1) < A.length - p; omega⟩
    · have cp : p = A.length := by have := dge cp; have := hp.1; omega
      exact hq _ _ ⟨rfl, p, wh, n, hp, cp, rfl⟩
  rintro _ _ ⟨rfl, p, wh, n, hp, rfl, rfl⟩
  cases wh with
  | false =>
    refine draw_introS ord_66_14 (by decide +kernel) ?_
    refine And.intro (fun j hj => by first | (cases hj; done) | exact LeX.append _ _ _ | exact LeX.refl _ _) ?_
    refine And.intro (fun j hj => by first | (cases hj; done) | exact LeX.append _ _ _ | exact LeX.refl _ _) ?_
    refine st_intro (n := ((i + 1 : Nat) : Int)) (nat_in (n := i + 1) (by omega)) ?_
    conv => whnf
    exact ⟨⟨i + 1, c⟩, weak_gc [0] rfl ⟨rfl, rfl, rfl, rfl, rfl, rfl, trivial⟩ ⟨rfl, trivial⟩, by show f.args.length - (i + 1) < f.args.length - i; omega⟩
  | true =>
    obtain ⟨h1, h2⟩ := hp.2.2 rfl
    have hn := h2.lt (k := k.bits.toNat) fun q x hq hx => by
      obtain ⟨m, hm, hmk, _⟩ := (hAi q x hq).op hx ha hk
      omega
    refine draw_introS ord_66_14 (by decide +kernel) ?_
    refine CallS.frzG (value_runs d k hok n hn) rfl ⟨.refl _, .refl _, trivial⟩ ?_
    refine And.intro (fun j hj => by first | (cases hj; done) | exact LeX.append _ _ _ | exact LeX.refl _ _) ?_
    refine CallS.frzG (contains_ints k.excl (valueV k n) hexl) rfl ⟨.refl _, .refl _, trivial⟩ ?_
    refine And.intro (fun j hj => by first | (cases hj; done) | exact LeX.append _ _ _ | exact LeX.refl _ _) ?_
    refine br_intro (fun ce => ?_) (fun ce => ?_)
    · have ce : valueV k n ∈ k.excl := of_decide_eq_true ce
      exact yes_end fun _ => ⟨i, a, k, n, ha, hk, fun q x hq hx => h1 q x (List.getElem?_eq_some_iff.1 hq).1 hq hx, h2.all, ce⟩
    refine st_intro (n := ((i + 1 : Nat) : Int)) (nat_in (n := i + 1) (by omega)) ?_
    conv => whnf
    exact ⟨⟨i + 1, c⟩, weak_gc [0] rfl ⟨rfl, rfl, rfl, rfl, rfl, rfl, trivial⟩ ⟨rfl, trivial⟩, by show f.args.length - (i + 1) < f.args.length - i; omega⟩

theorem apart_runs (d : DescD) (f g : FormD) (hd : d.ok) (hf : GoodF d f) (hg : GoodF d g) {a0 a1 u0 u1 b0 b1 v0 v1 : Nat} (hPA : PatOK (formBits d f) (formBits d f).length a0 a1 u0 u1) (hPB : PatOK (formBits d g) (formBits d g).length b0 b1 v0 v1) :
    RunsX Tryz.prog 28 [descT d, formT f, formT g, patT (.vec 3 ((formBits d f).map bitT)) a0 a1 u0 u1, patT (.vec 3 ((formBits d g).map bitT)) b0 b1 v0 v1] (YesS (ApartP d f g)) := by
  have hfl : (formBits d f).length ≤ 120 := by rw [formBits_len]; exact hf.le
  have hgl : (formBits d g).length ≤ 120 := by rw [formBits_len]; exact hg.le
  obtain ⟨hA0, hA1, _⟩ := hPA.mask
  obtain ⟨hU0, hU1, _⟩ := hPA.want
  obtain ⟨hB0, hB1, _⟩ := hPB.mask
  obtain ⟨hV0, hV1, _⟩ := hPB.want
  have hE1 := excepted_runs d f hd hf (formBits d f) (formBits d g) rfl hgl
  have hE2 := excepted_runs d g hd hg (formBits d g) (formBits d f) rfl hfl
  refine RunsX.of_call ?_ YesS.noRef
  refine CallS.of_fn tabS_ok regS_ok Tryz.func28 rfl rfl ?_
  refine loop_un 3 ?_
  refine draw_introS ord_28_4 (by decide +kernel) ?_
  refine st_intro (n := ((a0 &&& b0 : Nat) : Int)) (u64and hA0 hB0) ?_
  refine st_intro (n := ((u0 ^^^ v0 : Nat) : Int)) (u64xor hU0 hV0) ?_
  refine st_intro (n := ((a0 &&& b0 &&& (u0 ^^^ v0) : Nat) : Int)) (u64and (Nat.lt_of_le_of_lt Nat.and_le_left hA0) (Nat.xor_lt_two_pow (n := 64) hU0 hV0)) ?_
  refine br_intro (fun c => ?_) (fun _ => ?_)
  · exact yes_end fun _ => .inl (diff_low hPA hPB (by intro e; rw [e] at c; cases c))
  refine draw_introS ord_28_4 (by decide +kernel) ?_
  refine st_intro (n := ((a1 &&& b1 : Nat) : Int)) (u64and hA1 hB1) ?_
  refine st_intro (n := ((u1 ^^^ v1 : Nat) : Int)) (u64xor hU1 hV1) ?_
  refine st_intro (n := ((a1 &&& b1 &&& (u1 ^^^ v1) : Nat) : Int)) (u64and (Nat.lt_of_le_of_lt Nat.and_le_left hA1) (Nat.xor_lt_two_pow (n := 64) hU1 hV1)) ?_
  refine br_intro (fun c => ?_) (fun _ => ?_)
  · exact yes_end fun _ => .inl (diff_high hPA hPB (by intro e; rw [e] at c; cases c))
  refine CallS.frzX hE1 rfl ⟨.refl _, .refl _, .vec 3 _, .vec 3 _, trivial⟩ ?_
  rintro _ ⟨e1, rfl, p1⟩
  cases e1 with
  | true => exact yes_end fun _ => .inr (.inl (p1 rfl))
  | false =>
    refine CallS.frzX hE2 rfl ⟨.refl _, .refl _, .vec 3 _, .vec 3 _, trivial⟩ ?_
    rintro _ ⟨e2, rfl, p2⟩
    exact yes_end fun h => .inr (.inr (p2 h))

end Go.Proofs.YtnjmeadmkbkikaaGreatDoor
