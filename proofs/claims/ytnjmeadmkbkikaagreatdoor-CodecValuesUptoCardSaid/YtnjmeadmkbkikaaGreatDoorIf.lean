/-
  The tree that finds forms (walk).
-/
import Derived.Test.YtnjmeadmkbkikaaGreatDoorId
namespace Go.Proofs.YtnjmeadmkbkikaaGreatDoor
open Go.IntWalk
set_option maxRecDepth 100000
set_option linter.unusedVariables false
set_option linter.unusedSimpArgs false
set_option maxHeartbeats 4000000

def ord_37_33 : Ord := (.op 0 [] (.op 1 [0] (.op 2 [1, 0] (.op 3 [1, 0] (.op 4 [3, 2, 1, 0] (.op 6 [4, 3, 2, 1, 0] (.op 7 [6, 4, 3, 2, 1, 0] (.op 8 [6, 4, 3, 2, 1, 0] (.op 9 [8, 7, 6, 4, 3, 2, 1, 0] (.op 5 [9, 8, 7, 6, 0] (.op 10 [0] (.op 11 [0] (.op 12 [] (.op 13 [] (.op 14 [] .nil)))))))))))))))

/-- A codec as data. -/
def codT (d : DescD) (P : List PatD) (root : T) : T := .iptr [.vecd 7 (d.classes.map classT), .vecd 1 (d.forms.map fun f => .vecd 2 (f.args.map argT)), .vecd 7 (P.map PatD.t), root]
def NodeS (P : List PatD) (F : List Nat) (r : AV) : Prop := ∃ (cs : List T) (t : TreeD), r = .t (.iptr cs) ∧ T.iptr cs = t.t ∧ Finds P F t
theorem NodeS.noRef {P : List PatD} {F : List Nat} : ∀ r, NodeS P F r → noRef r = true := by rintro r ⟨cs, t, rfl, _⟩; rfl
def unasked (a0 a1 : Nat) : Nat := ((List.range 120).filter fun q => !bit2 a0 a1 q).length
theorem natsT_get {F : List Nat} {i f : Nat} (h : F[i]? = some f) : (natsT F)[i]? = some (T.int .i64 f) := by unfold natsT; rw [List.getElem?_map, h]; rfl
theorem sub_nilp_node {q : Nat} {l r : T} : SubT (.iptr [.int .i64 q, l, r, .nils]) (.iptr [.int .i64 q, l, r, .vecd 1 []]) :=
  .iptr _ _ rfl fun i c e h1 h2 => by
    match i, h1, h2 with
    | 0, h1, h2 => cases h1; cases h2; exact .refl _
    | 1, h1, h2 => cases h1; cases h2; exact .refl _
    | 2, h1, h2 => cases h1; cases h2; exact .refl _
    | 3, h1, h2 => cases h1; cases h2; exact .nils 1
    | i + 4, h1, h2 => simp at h1

def BestOK (a0 a1 : Nat) (b m : Int) : Prop := (b = -1 ∧ m = 0) ∨ ∃ q : Nat, b = q ∧ q < 120 ∧ bit2 a0 a1 q = false ∧ 1 ≤ m

theorem LeX.hide {D ids : List Nat} {H X : AH} (h : ∀ b ∈ ids, b ∈ D) : LeX D H (Go.Proofs.YtnjmeadmkbkikaaGreatDoor.hide ids H ++ X) := fun i bk hb => by
  rcases hide_back D hb with e | ⟨hn, h1⟩
  · exact .inl e
  · refine .inr ?_
    have h2 := hide_get ids h1
    rw [if_neg fun e => hn (h i e)] at h2
    rw [List.getElem?_append_left (lt_of_getElem? h2)]
    exact h2
def setw0 (a0 q : Nat) : Nat := if q < 64 then a0 ||| 2 ^ q else a0
def setw1 (a1 q : Nat) : Nat := if q < 64 then a1 else a1 ||| 2 ^ (q - 64)
theorem setw_ok {a0 a1 q : Nat} (h0 : a0 < 18446744073709551616) (h1 : a1 < 18446744073709551616) (hq : q < 128) : setw0 a0 q < 18446744073709551616 ∧ setw1 a1 q < 18446744073709551616 ∧ ∀ r, r < 128 → bit2 (setw0 a0 q) (setw1 a1 q) r = (bit2 a0 a1 r || decide (q = r)) := by
  unfold setw0 setw1 bit2
  by_cases h : q < 64
  · rw [if_pos h, if_pos h]
    refine ⟨orbit h0 h, h1, fun r hr => ?_⟩
    by_cases hr6 : r < 64
    · rw [if_pos hr6, if_pos hr6, tb_orbit]
    · rw [if_neg hr6, if_neg hr6]
      have : ¬ q = r := by omega
      simp [this]
  · rw [if_neg h, if_neg h]
    refine ⟨h0, orbit h1 (by omega), fun r hr => ?_⟩
    by_cases hr6 : r < 64
    · rw [if_pos hr6, if_pos hr6]
      have : ¬ q = r := by omega
      simp [this]
    · rw [if_neg hr6, if_neg hr6, tb_orbit]
      have : (q - 64 = r - 64) ↔ q = r := by omega
      simp [this]
theorem filter_lt {l : List Nat} {p p' : Nat → Bool} (hs : ∀ x ∈ l, p' x = true → p x = true) {y : Nat} (hy : y ∈ l) (h1 : p y = true) (h2 : p' y = false) : (l.filter p').length < (l.filter p).length := by
  have le : ∀ l : List Nat, (∀ x ∈ l, p' x = true → p x = true) → (l.filter p').length ≤ (l.filter p).length := by
    intro l
    induction l with
    | nil => intro _; exact Nat.le_refl _
    | cons x r ih =>
      intro hs
      have h := ih fun z hz => hs z (List.mem_cons_of_mem _ hz)
      have hx := hs x List.mem_cons_self
      cases e' : p' x with
      | false => cases e : p x <;> simp [List.filter_cons, e', e] <;> omega
      | true => simp [List.filter_cons, e', hx e']; exact h
  induction l with
  | nil => cases hy
  | cons x r ih =>
    have hr := le r fun z hz => hs z (List.mem_cons_of_mem _ hz)
    rcases List.mem_cons.1 hy with e | hy
    · subst e
      simp [List.filter_cons, h1, h2]; omega
    · have h := ih (fun z hz => hs z (List.mem_cons_of_mem _ hz)) hy
      have hx := hs x List.mem_cons_self
      cases e' : p' x with
      | false => cases e : p x <;> simp [List.filter_cons, e', e] <;> omega
      | true => simp [List.filter_cons, e', hx e']; exact h
theorem unasked_lt {a0 a1 e0 e1 q : Nat} (hq : q < 120) (hqa : bit2 a0 a1 q = false) (h : ∀ r, r < 120 → bit2 e0 e1 r = (bit2 a0 a1 r || decide (q = r))) : unasked e0 e1 < unasked a0 a1 := by
  refine filter_lt (y := q) (fun x hx hp => ?_) (List.mem_range.2 hq) (by simp [hqa]) (by simp [h q hq])
  have := h x (List.mem_range.1 hx)
  rw [this] at hp
  simp at hp ⊢
  exact hp.1
theorem sideOf_le (P : List PatD) (q : Nat) (b : Bool) (F : List Nat) (i : Nat) : (sideOf P q b (F.take i)).length ≤ F.length := Nat.le_trans (List.length_filter_le _ _) (by simp; omega)
theorem sideOf_succ (P : List PatD) (q : Nat) (b : Bool) {F : List Nat} {i f : Nat} {p : PatD} (hf : F[i]? = some f) (hp : P[f]? = some p) : sideOf P q b (F.take (i + 1)) = sideOf P q b (F.take i) ++ (if !bit2 p.m0 p.m1 q || bit2 p.w0 p.w1 q == b then [f] else []) := by
  unfold sideOf
  rw [List.take_add_one, hf, List.filter_append]
  congr 1
  simp [List.filter_cons, hp]
theorem fits8 {n : Nat} (h : n ≤ 100000000000) : fitsRow n 8 = true := by simp [fitsRow]; omega

theorem grown_step (d : DescD) (P : List PatD) (hP : ∀ p ∈ P, p.wf) (F : List Nat) (a0 a1 : Nat) (ha0 : a0 < 18446744073709551616) (ha1 : a1 < 18446744073709551616) (hF : ∀ f ∈ F, f < P.length) (hFl : F.length ≤ 512)
    (IH : ∀ (F' : List Nat) (e0 e1 : Nat), e0 < 18446744073709551616 → e1 < 18446744073709551616 → unasked e0 e1 < unasked a0 a1 → (∀ f ∈ F', f < P.length) → F'.length ≤ 512 → RunsX Tryz.prog 37 [codT d P .nilp, .vecd 1 (natsT F'), wordT e0 e1] (NodeS P F')) :
    RunsX Tryz.prog 37 [codT d P .nilp, .vecd 1 (natsT F), wordT a0 a1] (NodeS P F) := by
  have hmap : (natsT F).length = F.length := by simp [natsT]
  refine RunsX.of_call ?_ NodeS.noRef
  refine CallS.of_fn tabS_ok regS_ok Tryz.func37 rfl rfl ?_
  refine br_intro (fun c2 => ?_) (fun c2 => ?_)
  rotate_left 1
  · exact ⟨_, ⟨_, .leaf F, rfl, rfl, Finds.leaf P F⟩, _, _, rfl, .refl _⟩
  refine loop_then (fun e s' => e = .exit 0 ∧ ∃ (b0 : AV) (at_ : Nat) (b m : Int), BestOK a0 a1 b m ∧ s' = ⟨(24, b0) :: [(0, .t (codT d P .nilp)), (1, .t (.vecd 1 (natsT F))), (5, .ptr 0 0 0 0), (7, .t (.int .i64 b)), (8, .t (.int .i64 m)), (23, .t (.int .i64 ((at_ : Nat) : Int)))], [.box [.t (.int .u64 a0), .t (.int .u64 a1)]]⟩) (fun HQ' HQ => ?_) ?_
  · refine loop_on (fun s : Nat × Int × Int => s.1 ≤ 120 ∧ BestOK a0 a1 s.2.1 s.2.2) (fun s => ⟨[(0, .t (codT d P .nilp)), (1, .t (.vecd 1 (natsT F))), (5, .ptr 0 0 0 0), (7, .t (.int .i64 s.2.1)), (8, .t (.int .i64 s.2.2)), (23, .t (.int .i64 ((s.1 : Nat) : Int)))], [.box [.t (.int .u64 a0), .t (.int .u64 a1)]]⟩)
      (fun s => 120 - s.1) (0, -1, 0) ⟨Nat.zero_le _, .inl ⟨rfl, rfl⟩⟩ ?_ (fun ⟨at_, b, m⟩ ⟨hat, hb⟩ => ?_)
    · exact weak_of ⟨rfl, rfl, rfl, rfl, rfl, rfl, trivial⟩ rfl
    have hat : at_ ≤ 120 := hat
    have hb : BestOK a0 a1 b m := hb
    refine br_intro (fun ca => ?_) (fun ca => ?_)
    rotate_left 1
    · exact HQ _ _ ⟨rfl, _, at_, b, m, hb, rfl⟩
    have ca : at_ < 120 := by have := of_decide_eq_true ca; omega
    refine loop_then (fun e s' => e = .exit 2 ∧ ∃ (b0 : AV) (i : Nat) (n0 n1 : Nat), ((n0 = 0 ∧ n1 = 0) ∨ bit2 a0 a1 at_ = false) ∧ s' = ⟨(30, b0) :: [(0, .t (codT d P .nilp)), (1, .t (.vecd 1 (natsT F))), (5, .ptr 0 0 0 0), (7, .t (.int .i64 b)), (8, .t (.int .i64 m)), (23, .t (.int .i64 (at_ : Int))), (9, .t (.int .i64 (at_ : Int))), (10, .ptr 1 0 0 0), (27, .t (.vecd 1 (natsT F))), (28, .t (.int .i64 ((natsT F).length : Int))), (29, .t (.int .i64 ((i : Nat) : Int)))], [.box [.t (.int .u64 a0), .t (.int .u64 a1)], .box [.t (.int .i64 n0), .t (.int .i64 n1)]]⟩) (fun HQ2' HQ2 => ?_) ?_
    · refine loop_on (fun s : Nat × Nat × Nat => s.1 ≤ F.length ∧ ((s.2.1 = 0 ∧ s.2.2 = 0) ∨ bit2 a0 a1 at_ = false) ∧ s.2.1 ≤ s.1 ∧ s.2.2 ≤ s.1) (fun s => ⟨[(0, .t (codT d P .nilp)), (1, .t (.vecd 1 (natsT F))), (5, .ptr 0 0 0 0), (7, .t (.int .i64 b)), (8, .t (.int .i64 m)), (23, .t (.int .i64 (at_ : Int))), (9, .t (.int .i64 (at_ : Int))), (10, .ptr 1 0 0 0), (27, .t (.vecd 1 (natsT F))), (28, .t (.int .i64 ((natsT F).length : Int))), (29, .t (.int .i64 ((s.1 : Nat) : Int)))], [.box [.t (.int .u64 a0), .t (.int .u64 a1)], .box [.t (.int .i64 s.2.1), .t (.int .i64 s.2.2)]]⟩)
        (fun s => F.length - s.1) (0, 0, 0) ⟨Nat.zero_le _, .inl ⟨rfl, rfl⟩, Nat.le_refl _, Nat.le_refl _⟩ ?_ (fun ⟨i, n0, n1⟩ ⟨hi, hn, h0, h1⟩ => ?_)
      · exact weak_of ⟨rfl, rfl, rfl, rfl, rfl, rfl, rfl, rfl, rfl, rfl, rfl, trivial⟩ rfl
      have hi : i ≤ F.length := hi
      have hn : (n0 = 0 ∧ n1 = 0) ∨ bit2 a0 a1 at_ = false := hn
      have h0 : n0 ≤ i := h0
      have h1 : n1 ≤ i := h1
      refine br_intro (fun c => ?_) (fun c => ?_)
      rotate_left 1
      · exact HQ2 _ _ ⟨rfl, _, i, n0, n1, hn, rfl⟩
      have ci : i < F.length := by have := dlt c; omega
      obtain ⟨f, hf, hfm⟩ := get_some (R := F) (i := i) ci
      obtain ⟨p, hp, hpm⟩ := get_some (R := P) (i := f) (hF f hfm)
      obtain ⟨w1, w2, w3, w4⟩ := hP p hpm
      refine opt_intro (show (natsT F)[((i : Nat) : Int).toNat]? = some (T.int .i64 f) from by rw [Int.toNat_natCast]; exact natsT_get hf) ?_
      refine opt_intro (show (P.map PatD.t)[((f : Nat) : Int).toNat]? = some p.t from by rw [Int.toNat_natCast, List.getElem?_map, hp]; rfl) ?_
      rcases (show bit2 a0 a1 at_ = true ∨ bit2 a0 a1 at_ = false by cases bit2 a0 a1 at_ <;> simp) with hbit | hbit
      · refine CallS.frzG (get_one ha0 ha1 (by omega) hbit) rfl ⟨.refl _, .refl _, trivial⟩ ?_
        refine st_intro (n := ((i + 1 : Nat) : Int)) (nat_in (n := i + 1) (by omega)) ?_
        conv => whnf
        exact ⟨⟨(i + 1, n0, n1), by omega, hn, (show n0 ≤ i + 1 by omega), (show n1 ≤ i + 1 by omega)⟩, weak_gc [0, 1] rfl ⟨rfl, rfl, rfl, rfl, rfl, rfl, rfl, rfl, rfl, rfl, rfl, trivial⟩ ⟨rfl, rfl, trivial⟩, by show F.length - (i + 1) < F.length - i; omega⟩
      · refine CallS.frzG (get_zero ha0 ha1 (by omega) hbit) rfl ⟨.refl _, .refl _, trivial⟩ ?_
        cases hmb : bit2 p.m0 p.m1 at_ with
        | false =>
          refine CallS.frzG (get_zero w1 w2 (by omega) hmb) rfl ⟨.refl _, .refl _, trivial⟩ ?_
          refine st_intro (n := ((i + 1 : Nat) : Int)) (nat_in (n := i + 1) (by omega)) ?_
          conv => whnf
          exact ⟨⟨(i + 1, n0, n1), by omega, .inr hbit, (show n0 ≤ i + 1 by omega), (show n1 ≤ i + 1 by omega)⟩, weak_gc [0, 1] rfl ⟨rfl, rfl, rfl, rfl, rfl, rfl, rfl, rfl, rfl, rfl, rfl, trivial⟩ ⟨rfl, rfl, trivial⟩, by show F.length - (i + 1) < F.length - i; omega⟩
        | true =>
          refine CallS.frzG (get_one w1 w2 (by omega) hmb) rfl ⟨.refl _, .refl _, trivial⟩ ?_
          cases hwb : bit2 p.w0 p.w1 at_ with
          | false =>
            refine CallS.frzG (get_zero w3 w4 (by omega) hwb) rfl ⟨.refl _, .refl _, trivial⟩ ?_
            refine st_intro (n := ((n0 + 1 : Nat) : Int)) (nat_in (n := n0 + 1) (by omega)) ?_
            refine st_intro (n := ((i + 1 : Nat) : Int)) (nat_in (n := i + 1) (by omega)) ?_
            conv => whnf
            exact ⟨⟨(i + 1, n0 + 1, n1), by omega, .inr hbit, (show n0 + 1 ≤ i + 1 by omega), (show n1 ≤ i + 1 by omega)⟩, weak_gc [0, 1] rfl ⟨rfl, rfl, rfl, rfl, rfl, rfl, rfl, rfl, rfl, rfl, rfl, trivial⟩ ⟨rfl, rfl, trivial⟩, by show F.length - (i + 1) < F.length - i; omega⟩
          | true =>
            refine CallS.frzG (get_one w3 w4 (by omega) hwb) rfl ⟨.refl _, .refl _, trivial⟩ ?_
            refine st_intro (n := ((n1 + 1 : Nat) : Int)) (nat_in (n := n1 + 1) (by omega)) ?_
            refine st_intro (n := ((i + 1 : Nat) : Int)) (nat_in (n := i + 1) (by omega)) ?_
            conv => whnf
            exact ⟨⟨(i + 1, n0, n1 + 1), by omega, .inr hbit, (show n0 ≤ i + 1 by omega), (show n1 + 1 ≤ i + 1 by omega)⟩, weak_gc [0, 1] rfl ⟨rfl, rfl, rfl, rfl, rfl, rfl, rfl, rfl, rfl, rfl, rfl, trivial⟩ ⟨rfl, rfl, trivial⟩, by show F.length - (i + 1) < F.length - i; omega⟩
    rintro _ _ ⟨rfl, b0, i, n0, n1, hn, rfl⟩
    refine br_intro (fun cm => ?_) (fun cm => ?_)
    · refine st_intro (n := ((at_ + 1 : Nat) : Int)) (nat_in (n := at_ + 1) (by omega)) ?_
      conv => whnf
      exact ⟨⟨(at_ + 1, (at_ : Int), min (n0 : Int) (n1 : Int)), by omega, .inr ⟨at_, rfl, ca, by
        have cm : min (n0 : Int) (n1 : Int) > m := of_decide_eq_true cm
        have hm0 : 0 ≤ m := by rcases hb with ⟨_, h⟩ | ⟨_, _, _, _, h⟩ <;> omega
        rcases hn with ⟨h, _⟩ | h
        · omega
        · exact h, by
        have cm : min (n0 : Int) (n1 : Int) > m := of_decide_eq_true cm
        have hm0 : 0 ≤ m := by rcases hb with ⟨_, h⟩ | ⟨_, _, _, _, h⟩ <;> omega
        show 1 ≤ min (n0 : Int) (n1 : Int); omega⟩⟩, weak_gc [0] rfl ⟨rfl, rfl, rfl, rfl, rfl, rfl, trivial⟩ ⟨rfl, trivial⟩, by show 120 - (at_ + 1) < 120 - at_; omega⟩
    · refine st_intro (n := ((at_ + 1 : Nat) : Int)) (nat_in (n := at_ + 1) (by omega)) ?_
      conv => whnf
      exact ⟨⟨(at_ + 1, b, m), by omega, hb⟩, weak_gc [0] rfl ⟨rfl, rfl, rfl, rfl, rfl, rfl, trivial⟩ ⟨rfl, trivial⟩, by show 120 - (at_ + 1) < 120 - at_; omega⟩
  rintro _ _ ⟨rfl, b0, at_, b, m, hb, rfl⟩
  rcases hb with ⟨rfl, rfl⟩ | ⟨q, rfl, hq, hqa, _⟩
  · exact ⟨_, ⟨_, .leaf F, rfl, rfl, Finds.leaf P F⟩, _, _, rfl, .refl _⟩
  obtain ⟨e0, he0⟩ : ∃ e0, e0 = setw0 a0 q := ⟨_, rfl⟩
  obtain ⟨e1, he1⟩ : ∃ e1, e1 = setw1 a1 q := ⟨_, rfl⟩
  obtain ⟨hb0, hb1, hset⟩ := setw_ok ha0 ha1 (show q < 128 by omega)
  rw [← he0] at hb0 hset
  rw [← he1] at hb1 hset
  have hless : unasked e0 e1 < unasked a0 a1 := unasked_lt hq hqa fun r hr => hset r (by omega)
  refine CallS.mono (Q := fun v H' => v = .tup [] ∧ H' = [.box [.t (.int .u64 (e0 : Int)), .t (.int .u64 (e1 : Int))]]) ?_ ?_
  · by_cases h64 : q < 64
    · have g0 : e0 = a0 ||| 2 ^ q := by rw [he0, setw0, if_pos h64]
      have g1 : e1 = a1 := by rw [he1, setw1, if_pos h64]
      refine CallS.of_fn tabS_ok regS_ok Tryz.func39 rfl rfl ?_
      refine draw_introS ord_39_0 (by decide +kernel) ?_
      refine ck_intro rfl ?_
      refine st_intro (n := 0) (show IntKind.i64.wrap (((q : Nat) : Int).tdiv 64) = 0 from by rw [Int.tdiv_eq_ediv_of_nonneg (by omega), IntKind.wrap_i64]; omega) ?_
      refine ck_intro rfl ?_
      refine st_intro (n := ((q : Nat) : Int)) (show ((q : Nat) : Int).tmod 64 = _ from by rw [Int.tmod_eq_emod_of_nonneg (by omega)]; omega) ?_
      refine ck_intro (decide_eq_true (show (0 : Int) ≤ ((q : Nat) : Int) by omega)) ?_
      refine st_intro (n := ((2 ^ q : Nat) : Int)) (u64bit rfl (by omega)) ?_
      refine st_intro (n := ((a0 ||| 2 ^ q : Nat) : Int)) (u64or ha0 (pow64 (by omega))) ?_
      refine And.intro (fun j hj => by cases hj) ?_
      exact ⟨rfl, by rw [g0, g1]⟩
    · obtain ⟨kq, hkq⟩ : ∃ kq, q = 64 + kq := ⟨q - 64, by omega⟩
      have g0 : e0 = a0 := by rw [he0, setw0, if_neg h64]
      have g1 : e1 = a1 ||| 2 ^ kq := by rw [he1, setw1, if_neg h64, show q - 64 = kq by omega]
      refine CallS.of_fn tabS_ok regS_ok Tryz.func39 rfl rfl ?_
      refine draw_introS ord_39_0 (by decide +kernel) ?_
      refine ck_intro rfl ?_
      refine st_intro (n := 1) (show IntKind.i64.wrap (((q : Nat) : Int).tdiv 64) = 1 from by rw [Int.tdiv_eq_ediv_of_nonneg (by omega), IntKind.wrap_i64]; omega) ?_
      refine ck_intro rfl ?_
      refine st_intro (n := ((kq : Nat) : Int)) (show ((q : Nat) : Int).tmod 64 = _ from by rw [Int.tmod_eq_emod_of_nonneg (by omega)]; omega) ?_
      refine ck_intro (decide_eq_true (show (0 : Int) ≤ ((kq : Nat) : Int) by omega)) ?_
      refine st_intro (n := ((2 ^ kq : Nat) : Int)) (u64bit rfl (by omega)) ?_
      refine st_intro (n := ((a1 ||| 2 ^ kq : Nat) : Int)) (u64or ha1 (pow64 (by omega))) ?_
      refine And.intro (fun j hj => by cases hj) ?_
      exact ⟨rfl, by rw [g0, g1]⟩
  rintro _ _ ⟨rfl, rfl⟩
  refine loop_then (fun e s' => e = .exit 4 ∧ ∃ (b0 : AV) (i : Nat), s' = ⟨(81, b0) :: [(0, .t (codT d P .nilp)), (1, .t (.vecd 1 (natsT F))), (5, .ptr 0 0 0 0), (7, .t (.int .i64 (q : Int))), (15, .ptr 1 0 0 0), (78, .t (.vecd 1 (natsT F))), (79, .t (.int .i64 ((natsT F).length : Int))), (80, .t (.int .i64 ((i : Nat) : Int)))], [.box [.t (.int .u64 (e0 : Int)), .t (.int .u64 (e1 : Int))], .box [.sl 2 0 0 (sideOf P q false F).length, .sl 3 0 0 (sideOf P q true F).length], .arr tI 1 true 0 (.ts (natsT (sideOf P q false F))), .arr tI 1 true 0 (.ts (natsT (sideOf P q true F)))]⟩) (fun HQ' HQ => ?_) ?_
  · refine loop_on (fun s : Nat × List Nat × List Nat => s.1 ≤ F.length ∧ s.2.1 = sideOf P q false (F.take s.1) ∧ s.2.2 = sideOf P q true (F.take s.1)) (fun s => ⟨[(0, .t (codT d P .nilp)), (1, .t (.vecd 1 (natsT F))), (5, .ptr 0 0 0 0), (7, .t (.int .i64 (q : Int))), (15, .ptr 1 0 0 0), (78, .t (.vecd 1 (natsT F))), (79, .t (.int .i64 ((natsT F).length : Int))), (80, .t (.int .i64 (s.1 : Int)))], [.box [.t (.int .u64 (e0 : Int)), .t (.int .u64 (e1 : Int))], .box [.sl 2 0 0 (s.2.1).length, .sl 3 0 0 (s.2.2).length], .arr tI 1 true 0 (.ts (natsT (s.2.1))), .arr tI 1 true 0 (.ts (natsT (s.2.2)))]⟩)
      (fun s => F.length - s.1) (0, [], []) ⟨Nat.zero_le _, rfl, rfl⟩ ?_ (fun ⟨i, S0, S1⟩ ⟨hi, hS0, hS1⟩ => ?_)
    · refine Weak.trans (weak_of (s' := ⟨[(0, .t (codT d P .nilp)), (1, .t (.vecd 1 (natsT F))), (5, .ptr 0 0 0 0), (7, .t (.int .i64 (q : Int))), (15, .ptr 1 0 0 0), (78, .t (.vecd 1 (natsT F))), (79, .t (.int .i64 ((natsT F).length : Int))), (80, .t (.int .i64 ((0 : Nat) : Int)))], [.box [.t (.int .u64 (e0 : Int)), .t (.int .u64 (e1 : Int))], .box [.t .nils, .t .nils]]⟩) ⟨rfl, rfl, rfl, rfl, rfl, rfl, rfl, rfl, trivial⟩ rfl) ?_
      refine Weak.trans (weak_row (.arr tI 1 true 0 (.ts []))) ?_
      refine Weak.trans (weak_row (.arr tI 1 true 0 (.ts []))) ?_
      refine weak_frz [] rfl (fun b blk' hb => .inr ⟨by simp, ?_⟩) (agree_frz ⟨rfl, rfl, rfl, rfl, rfl, rfl, rfl, rfl, trivial⟩)
      match b, hb with
      | 0, hb => cases hb; exact ⟨_, rfl, .same _⟩
      | 1, hb =>
        cases hb
        refine ⟨_, rfl, .box _ _ rfl fun j x x' hx hx' => ?_⟩
        match j, hx, hx' with
        | 0, hx, hx' => cases hx; cases hx'; exact .nil 2 _ _ rfl
        | 1, hx, hx' => cases hx; cases hx'; exact .nil 3 _ _ rfl
        | j + 2, hx, hx' => cases hx
      | 2, hb => cases hb; exact ⟨_, rfl, .same _⟩
      | 3, hb => cases hb; exact ⟨_, rfl, .same _⟩
      | b + 4, hb => cases hb
    have hi : i ≤ F.length := hi
    have hS0 : S0 = sideOf P q false (F.take i) := hS0
    have hS1 : S1 = sideOf P q true (F.take i) := hS1
    have hl0 : S0.length ≤ F.length := by rw [hS0]; exact sideOf_le P q false F i
    have hl1 : S1.length ≤ F.length := by rw [hS1]; exact sideOf_le P q true F i
    refine br_intro (fun c => ?_) (fun c => ?_)
    rotate_left 1
    · have c : i = F.length := by have := dge c; omega
      have g0 : S0 = sideOf P q false F := by rw [hS0, c, List.take_length]
      have g1 : S1 = sideOf P q true F := by rw [hS1, c, List.take_length]
      exact HQ _ _ ⟨rfl, _, i, by rw [← g0, ← g1]⟩
    have ci : i < F.length := by have := dlt c; omega
    obtain ⟨f, hf, hfm⟩ := get_some (R := F) (i := i) ci
    obtain ⟨p, hp, hpm⟩ := get_some (R := P) (i := f) (hF f hfm)
    obtain ⟨w1, w2, w3, w4⟩ := hP p hpm
    have hst := fun b => sideOf_succ P q b hf hp
    have hpt : (P.map PatD.t)[((f : Nat) : Int).toNat]? = some p.t := by rw [Int.toNat_natCast, List.getElem?_map, hp]; rfl
    refine opt_intro (show (natsT F)[((i : Nat) : Int).toNat]? = some (T.int .i64 f) from by rw [Int.toNat_natCast]; exact natsT_get hf) ?_
    refine loop_un 3 ?_
    refine opt_intro hpt ?_
    cases hmb : bit2 p.m0 p.m1 q with
    | false =>
      refine CallS.frzG (get_zero w1 w2 (by omega) hmb) rfl ⟨.refl _, .refl _, trivial⟩ ?_
      refine Or.inl (And.intro (by simp [Sq.length, natsT]) (ck_intro (fits8 (n := S0.length + 1) (by omega)) ?_))
      refine opt_intro hpt ?_
      refine CallS.frzG (get_zero w1 w2 (by omega) hmb) rfl ⟨.refl _, .refl _, trivial⟩ ?_
      refine Or.inl (And.intro (by simp [Sq.length, natsT]) (ck_intro (fits8 (n := S1.length + 1) (by omega)) ?_))
      refine st_intro (n := ((i + 1 : Nat) : Int)) (nat_in (n := i + 1) (by omega)) ?_
      have eq0 : natsT (S0 ++ [f]) = natsT S0 ++ [T.int .i64 f] := by simp [natsT]
      have eq1 : natsT (S1 ++ [f]) = natsT S1 ++ [T.int .i64 f] := by simp [natsT]
      have el0 : (S0 ++ [f]).length = S0.length + 1 := by simp
      have el1 : (S1 ++ [f]).length = S1.length + 1 := by simp
      refine ⟨⟨(i + 1, S0 ++ [f], S1 ++ [f]), by omega, by rw [hst, hmb, ← hS0]; rfl, by rw [hst, hmb, ← hS1]; rfl⟩, ?_, by show F.length - (i + 1) < F.length - i; omega⟩
      show Weak _ _ ⟨[(0, .t (codT d P .nilp)), (1, .t (.vecd 1 (natsT F))), (5, .ptr 0 0 0 0), (7, .t (.int .i64 (q : Int))), (15, .ptr 1 0 0 0), (78, .t (.vecd 1 (natsT F))), (79, .t (.int .i64 ((natsT F).length : Int))), (80, .t (.int .i64 ((i + 1 : Nat) : Int)))], [.box [.t (.int .u64 (e0 : Int)), .t (.int .u64 (e1 : Int))], .box [.sl 2 0 0 (S0 ++ [f]).length, .sl 3 0 0 (S1 ++ [f]).length], .arr tI 1 true 0 (.ts (natsT (S0 ++ [f]))), .arr tI 1 true 0 (.ts (natsT (S1 ++ [f])))]⟩
      rw [eq0, eq1, el0, el1]
      exact weak_gc [0, 1, 2, 3] rfl ⟨rfl, rfl, rfl, rfl, rfl, rfl, rfl, rfl, trivial⟩ ⟨rfl, rfl, rfl, rfl, trivial⟩
    | true =>
      refine CallS.frzG (get_one w1 w2 (by omega) hmb) rfl ⟨.refl _, .refl _, trivial⟩ ?_
      cases hwb : bit2 p.w0 p.w1 q with
      | false =>
        refine CallS.frzG (get_zero w3 w4 (by omega) hwb) rfl ⟨.refl _, .refl _, trivial⟩ ?_
        refine Or.inl (And.intro (by simp [Sq.length, natsT]) (ck_intro (fits8 (n := S0.length + 1) (by omega)) ?_))
        refine opt_intro hpt ?_
        refine CallS.frzG (get_one w1 w2 (by omega) hmb) rfl ⟨.refl _, .refl _, trivial⟩ ?_
        refine CallS.frzG (get_zero w3 w4 (by omega) hwb) rfl ⟨.refl _, .refl _, trivial⟩ ?_
        refine st_intro (n := ((i + 1 : Nat) : Int)) (nat_in (n := i + 1) (by omega)) ?_
        have eq0 : natsT (S0 ++ [f]) = natsT S0 ++ [T.int .i64 f] := by simp [natsT]
        have eq1 : natsT (S1) = natsT S1 := by rfl
        have el0 : (S0 ++ [f]).length = S0.length + 1 := by simp
        have el1 : (S1).length = S1.length := by rfl
        refine ⟨⟨(i + 1, S0 ++ [f], S1), by omega, by rw [hst, hmb, hwb, ← hS0]; rfl, by rw [hst, hmb, hwb, ← hS1]; simp⟩, ?_, by show F.length - (i + 1) < F.length - i; omega⟩
        show Weak _ _ ⟨[(0, .t (codT d P .nilp)), (1, .t (.vecd 1 (natsT F))), (5, .ptr 0 0 0 0), (7, .t (.int .i64 (q : Int))), (15, .ptr 1 0 0 0), (78, .t (.vecd 1 (natsT F))), (79, .t (.int .i64 ((natsT F).length : Int))), (80, .t (.int .i64 ((i + 1 : Nat) : Int)))], [.box [.t (.int .u64 (e0 : Int)), .t (.int .u64 (e1 : Int))], .box [.sl 2 0 0 (S0 ++ [f]).length, .sl 3 0 0 (S1).length], .arr tI 1 true 0 (.ts (natsT (S0 ++ [f]))), .arr tI 1 true 0 (.ts (natsT (S1)))]⟩
        rw [eq0, eq1, el0, el1]
        exact weak_gc [0, 1, 2, 3] rfl ⟨rfl, rfl, rfl, rfl, rfl, rfl, rfl, rfl, trivial⟩ ⟨rfl, rfl, rfl, rfl, trivial⟩
      | true =>
        refine CallS.frzG (get_one w3 w4 (by omega) hwb) rfl ⟨.refl _, .refl _, trivial⟩ ?_
        refine opt_intro hpt ?_
        refine CallS.frzG (get_one w1 w2 (by omega) hmb) rfl ⟨.refl _, .refl _, trivial⟩ ?_
        refine CallS.frzG (get_one w3 w4 (by omega) hwb) rfl ⟨.refl _, .refl _, trivial⟩ ?_
        refine Or.inl (And.intro (by simp [Sq.length, natsT]) (ck_intro (fits8 (n := S1.length + 1) (by omega)) ?_))
        refine st_intro (n := ((i + 1 : Nat) : Int)) (nat_in (n := i + 1) (by omega)) ?_
        have eq0 : natsT (S0) = natsT S0 := by rfl
        have eq1 : natsT (S1 ++ [f]) = natsT S1 ++ [T.int .i64 f] := by simp [natsT]
        have el0 : (S0).length = S0.length := by rfl
        have el1 : (S1 ++ [f]).length = S1.length + 1 := by simp
        refine ⟨⟨(i + 1, S0, S1 ++ [f]), by omega, by rw [hst, hmb, hwb, ← hS0]; simp, by rw [hst, hmb, hwb, ← hS1]; rfl⟩, ?_, by show F.length - (i + 1) < F.length - i; omega⟩
        show Weak _ _ ⟨[(0, .t (codT d P .nilp)), (1, .t (.vecd 1 (natsT F))), (5, .ptr 0 0 0 0), (7, .t (.int .i64 (q : Int))), (15, .ptr 1 0 0 0), (78, .t (.vecd 1 (natsT F))), (79, .t (.int .i64 ((natsT F).length : Int))), (80, .t (.int .i64 ((i + 1 : Nat) : Int)))], [.box [.t (.int .u64 (e0 : Int)), .t (.int .u64 (e1 : Int))], .box [.sl 2 0 0 (S0).length, .sl 3 0 0 (S1 ++ [f]).length], .arr tI 1 true 0 (.ts (natsT (S0))), .arr tI 1 true 0 (.ts (natsT (S1 ++ [f])))]⟩
        rw [eq0, eq1, el0, el1]
        exact weak_gc [0, 1, 2, 3] rfl ⟨rfl, rfl, rfl, rfl, rfl, rfl, rfl, rfl, trivial⟩ ⟨rfl, rfl, rfl, rfl, trivial⟩
  rintro _ _ ⟨rfl, b1, i2, rfl⟩
  have hsl : ∀ b, (sideOf P q b F).length ≤ F.length := fun b => by have := sideOf_le P q b F F.length; rwa [List.take_length] at this
  have hsm : ∀ b, ∀ f ∈ sideOf P q b F, f < P.length := fun b f hf => hF f (List.mem_filter.1 hf).1
  have hsub : ∀ b, SubT (.vecd 1 (((natsT (sideOf P q b F)).drop 0).take (sideOf P q b F).length)) (.vecd 1 (natsT (sideOf P q b F))) := fun b => .of_eq (congrArg (T.vecd 1) (by rw [List.drop_zero, List.take_of_length_le (by simp [natsT])]))
  refine draw_introXS (fun _ => [2, 3]) ord_37_33 (by decide +kernel) ?_
  refine CallS.frzX (IH (sideOf P q false F) e0 e1 hb0 hb1 hless (hsm false) (by have := hsl false; omega)) rfl ⟨.refl _, hsub false, .refl _, trivial⟩ ?_
  rintro _ ⟨lc, l, rfl, hlc, hl⟩
  conv => whnf
  refine And.intro ?_ ?_
  · exact fun j _ => LeX.set (b := 2) _ (List.mem_cons_self)
  refine CallS.frzX (IH (sideOf P q true F) e0 e1 hb0 hb1 hless (hsm true) (by have := hsl true; omega)) rfl ⟨.refl _, hsub true, .refl _, trivial⟩ ?_
  rintro _ ⟨rc, r, rfl, hrc, hr⟩
  conv => whnf
  refine And.intro ?_ ?_
  · exact fun j _ => LeX.set (b := 3) _ (List.mem_cons_of_mem _ List.mem_cons_self)
  refine And.intro (fun j hj => by cases hj) ?_
  refine ⟨_, ⟨[.int .i64 q, .iptr lc, .iptr rc, .vecd 1 []], .fork q l r, rfl, (by rw [hlc, hrc]; rfl), Finds.fork hq hl hr⟩, _, _, rfl, sub_nilp_node⟩

theorem grown_runs (d : DescD) (P : List PatD) (hP : ∀ p ∈ P, p.wf) : ∀ (N : Nat) (F : List Nat) (a0 a1 : Nat), unasked a0 a1 < N → a0 < 18446744073709551616 → a1 < 18446744073709551616 → (∀ f ∈ F, f < P.length) → F.length ≤ 512 → RunsX Tryz.prog 37 [codT d P .nilp, .vecd 1 (natsT F), wordT a0 a1] (NodeS P F)
  | 0, F, a0, a1, h, _, _, _, _ => absurd h (by omega)
  | N + 1, F, a0, a1, h, h0, h1, hF, hl => grown_step d P hP F a0 a1 h0 h1 hF hl fun F' e0 e1 h0' h1' hlt hF' hl' => grown_runs d P hP N F' e0 e1 (by omega) h0' h1' hF' hl'

end Go.Proofs.YtnjmeadmkbkikaaGreatDoor
