/-
  The document's bits by their places; do some bytes fit a form? (walks)
-/
import Derived.Test.YtnjmeadmkbkikaaGreatDoorHq
namespace Go.Proofs.YtnjmeadmkbkikaaGreatDoor
open Go.IntWalk
set_option maxRecDepth 100000
set_option linter.unusedVariables false
set_option linter.unusedSimpArgs false
set_option maxHeartbeats 1000000

def ord_fit_12 : Ord := (.op 0 [] (.op 1 [0] (.op 2 [0] (.op 3 [] (.op 4 [] (.op 5 [4, 3, 2, 1, 0] (.op 6 [4, 3, 2, 1, 0] (.op 7 [4, 3, 2, 1, 0] (.op 8 [4, 3, 2, 1, 0] (.op 9 [] (.op 10 [] (.op 11 [] .nil))))))))))))
def ord_fit_20 : Ord := (.op 0 [] (.op 1 [0] (.op 2 [0] (.op 3 [2, 1, 0] (.op 4 [2, 1, 0] (.op 5 [0] (.op 6 [0] (.op 7 [6, 5, 4, 3, 2, 1, 0] (.op 8 [7, 6, 5, 4, 3, 2, 1, 0] (.op 9 [6, 5, 4, 3, 2, 1, 0] (.op 10 [6, 5, 4, 3, 2, 1, 0] (.op 11 [0] (.op 12 [] .nil)))))))))))))

def BitsRS (d : DescD) (f : FormD) (r : AV) : Prop := r = .tup [.own tRB 3 true [], .t (.bool false)] ∨ r = .tup [.own tRB 3 false ((formBits d f).map bitT), .t (.bool true)]
theorem BitsRS.noRef {d : DescD} {f : FormD} : ∀ r, BitsRS d f r → noRef r = true := by rintro r (rfl | rfl) <;> rfl
theorem posN_at (o : Int) {s n : Nat} (hs : s < n) : 8 * (if o = 1 then (n - 1 - s) / 8 else s / 8) + (if o = 1 then (n - 1 - s) % 8 else 7 - s % 8) = posN o n s := by
  unfold posN
  split <;> omega

theorem bitsR_runs (d : DescD) (f : FormD) (hd : d.ok) (hf : f.ok) (hG : GoodF d f) : RunsX Tryz.prog 30 [descT d, formT f] (BitsRS d f) := by
  have hW := written_runs d f hd hf hG
  obtain ⟨L, hL⟩ : ∃ L, L = rawB f.pieces := ⟨_, rfl⟩
  obtain ⟨n, hnn⟩ : ∃ n, n = L.length := ⟨_, rfl⟩
  have hn : n ≤ 120 := by rw [hnn, hL]; exact hG.le
  have h8 : n % 8 = 0 := by rw [hnn, hL]; exact hG.m8
  have hmap : (L.map bitT).length = n := by rw [List.length_map, hnn]
  refine RunsX.of_call ?_ BitsRS.noRef
  refine CallS.of_fn tabS_ok regS_ok Tryz.func30 rfl rfl ?_
  refine CallS.frzX hW rfl ⟨.refl _, .refl _, trivial⟩ ?_
  rintro _ (rfl | ⟨b, rfl⟩)
  · exact ⟨_, .inl rfl, ⟨⟨[], rfl, rfl, rfl, .refl _⟩, ⟨_, _, rfl, .refl _⟩, trivial⟩, rfl⟩
  cases b with
  | false => exact ⟨_, .inl rfl, ⟨⟨[], rfl, rfl, rfl, .refl _⟩, ⟨_, _, rfl, .refl _⟩, trivial⟩, rfl⟩
  | true =>
    rw [← hL]
    refine ck_intro (mkS24 (n := (L.map bitT).length) (by omega)) ?_
    refine br_intro (fun c => absurd (of_decide_eq_true c) (by omega)) (fun _ => ?_)
    have hz : (List.replicate (((L.map bitT).length : Nat) : Int).toNat (bitT zeroBit)) = (List.replicate n zeroBit).map bitT := by rw [Int.toNat_natCast, hmap, List.map_replicate]
    have hnt : (((L.map bitT).length : Nat) : Int).toNat = n := by rw [Int.toNat_natCast, hmap]
    refine loop_on (fun s : Nat × List BitD => s.1 ≤ n ∧ s.2.length = n ∧ ∀ t, t < s.1 → s.2[posN d.order n t]? = L[t]?) (fun s => ⟨[(2, .ptr 0 0 0 0), (6, .sl 1 0 0 n), (8, .sl 2 0 0 n), (24, .sl 1 0 0 n), (25, .t (.int .i64 (n : Int))), (26, .t (.int .i64 s.1))], [.box (descC d), .arr tRB 3 false 0 (.ts (L.map bitT)), .arr tRB 3 false 0 (.ts (s.2.map bitT))]⟩)
      (fun s => n - s.1) (0, List.replicate n zeroBit) ⟨Nat.zero_le _, List.length_replicate, fun t ht => absurd ht (Nat.not_lt_zero _)⟩ ?_ (fun ⟨i, R⟩ hi => ?_)
    · exact weak_gc [0, 3, 4] rfl ⟨rfl, congrArg (fun k : Nat => some (AV.sl 1 0 0 k)) hmap, congrArg (fun k : Nat => some (AV.sl 2 0 0 k)) hnt, congrArg (fun k : Nat => some (AV.sl 1 0 0 k)) hmap, congrArg (fun k : Nat => some (AV.t (.int .i64 (k : Int)))) hmap, rfl, trivial⟩ ⟨rfl, rfl, congrArg (fun l => some (Blk.arr tRB 3 false 0 (.ts l))) hz, trivial⟩
    obtain ⟨hi, hRn, hR⟩ : i ≤ n ∧ R.length = n ∧ ∀ t, t < i → R[posN d.order n t]? = L[t]? := hi
    refine br_intro (fun c => ?_) (fun c => ?_)
    · have c : i < n := by have := dlt c; omega
      obtain ⟨x, hx, hxm⟩ := get_some (R := L) (i := i) (by omega)
      have hAt := at_runs_r d.order i n c (by omega)
      have hP := posN_at d.order c
      obtain ⟨K, hK⟩ : ∃ K : Nat, K = (if d.order = 1 then (n - 1 - i) / 8 else i / 8) := ⟨_, rfl⟩
      obtain ⟨I, hI⟩ : ∃ I : Nat, I = (if d.order = 1 then (n - 1 - i) % 8 else 7 - i % 8) := ⟨_, rfl⟩
      obtain ⟨p, hp⟩ : ∃ p, p = posN d.order n i := ⟨_, rfl⟩
      rw [← hK, ← hI] at hAt
      rw [← hK, ← hI, ← hp] at hP
      have hpn : p < n := by rw [hp]; exact posN_lt c h8
      obtain ⟨K8, hK8⟩ : ∃ K8, K8 = 8 * K := ⟨_, rfl⟩
      refine ck_intro (inB0 rfl (by omega)) ?_
      refine opt_intro (map_get0 hx) ?_
      refine CallS.pure hAt rfl ?_
      refine st_intro (n := ((K8 : Nat) : Int)) (by rw [IntKind.wrap_i64]; omega) ?_
      refine st_intro (n := ((p : Nat) : Int)) (by rw [IntKind.wrap_i64]; omega) ?_
      obtain ⟨y, hy, _⟩ := get_some (R := R) (i := p) (by omega)
      refine ck_intro (inB0 rfl (by omega)) ?_
      refine opt_intro (map_get0 hy) ?_
      refine st_intro (n := ((i + 1 : Nat) : Int)) (nat_in (n := i + 1) (by omega)) ?_
      conv => whnf
      exact ⟨⟨(i + 1, R.set p x), c, by show (R.set p x).length = n; simp [hRn], fun t ht => by
          by_cases hti : t = i
          · subst hti
            rw [← hp, List.getElem?_set_self (by omega), hx]
          · have : posN d.order n t ≠ p := fun e => hti (posN_inj (n := n) (o := d.order) (by have : t < i + 1 := ht; omega) c (by rw [e, hp]))
            rw [List.getElem?_set_ne (fun e => this e.symm)]
            exact hR t (by have : t < i + 1 := ht; omega)⟩, weak_gc [0, 1, 2] rfl ⟨rfl, rfl, rfl, rfl, rfl, rfl, trivial⟩ ⟨rfl, rfl, congrArg (fun l => some (Blk.arr tRB 3 false 0 (.ts l))) (show (R.map bitT).set (0 + p) (bitT x) = (R.set p x).map bitT by rw [Nat.zero_add, List.map_set]), trivial⟩, by show n - (i + 1) < n - i; omega⟩
    · have c : i = n := by have := dge c; omega
      have e : R = formBits d f := by
        have h : IsPlaced d.order L R := ⟨by omega, fun t ht => by rw [← hnn]; exact hR t (by omega)⟩
        rw [formBits, ← hL]; exact h.eq (by omega)
      exact ⟨_, .inr rfl, ⟨⟨R.map bitT, rfl, rfl, by simp; omega, by rw [e]; exact .refl _⟩, ⟨_, _, rfl, .refl _⟩, trivial⟩, rfl⟩

/-- Bytes; numbers. -/
def bytesT (b : List UInt8) : List T := b.map fun c => T.int .u8 c.toNat
def u64T (n : Nat) : T := .int .u64 n
abbrev tU64 : Nat := 72
theorem lit_eq {x : BitD} {k : Nat} (c : (((x.lit : Nat) : Int) == (k : Int)) = true) : x.lit = k := by simp at c; omega
theorem lit_ne {x : BitD} {k : Nat} (c : (((x.lit : Nat) : Int) == (k : Int)) = false) : ¬ x.lit = k := by simp at c; omega
theorem set_u64 {V : List Nat} {ai v : Nat} {i : Int} (hi : i = (ai : Int)) : (V.map u64T).set (0 + i.toNat) (T.int .u64 (v : Int)) = (V.set ai v).map u64T := by
  rw [hi, Int.toNat_natCast, Nat.zero_add, List.map_set]; rfl
theorem mkS8 {n : Nat} (h : n ≤ 1000000) : (decide (0 ≤ (n : Int)) && decide ((n : Int) ≤ n) && decide ((n : Int) * 8 ≤ 140737488355328) && decide ((n : Int) ≤ 9223372036854775807) && true && true && true) = true := by simp; omega
theorem bit_one {z : UInt8} {k : Nat} : z.toNat / 2 ^ k % 2 = if z.toNat.testBit k then 1 else 0 := by
  rw [← Nat.shiftRight_eq_div_pow]
  have : z.toNat.testBit k = (1 &&& (z.toNat >>> k) != 0) := rfl
  rw [this, Nat.and_comm, Nat.and_one_is_mod]
  have := Nat.mod_lt (z.toNat >>> k) (show 2 > 0 by decide)
  rcases Nat.lt_or_ge (z.toNat >>> k % 2) 1 with h | h
  · have e : z.toNat >>> k % 2 = 0 := by omega
    rw [e]; rfl
  · have e : z.toNat >>> k % 2 = 1 := by omega
    rw [e]; rfl

/-- What is known of the numbers of the operands, and of the literals, when some bits are looked at. -/
structure VInv (f : FormD) (A : List BitD) (b : List UInt8) (p : Nat) (V : List Nat) : Prop where
  le : p ≤ A.length
  len : V.length = f.args.length
  val : ∀ (a : Nat) v, V[a]? = some v → IsNumTo A a (bitOf b) p v ∧ v < 18446744073709551616
  lits : ∀ (q : Nat) (x : BitD), q < p → A[q]? = some x → (x.lit = 48 → bitOf b q = false) ∧ (x.lit = 49 → bitOf b q = true)
theorem VInv.skip {f : FormD} {A : List BitD} {b : List UInt8} {p : Nat} {V : List Nat} {x : BitD} (h : VInv f A b p V) (hx : A[p]? = some x) (h8 : x.lit = 48 → bitOf b p = false) (h9 : x.lit = 49 → bitOf b p = true) (h0 : 0 ≤ x.arg → bitOf b p = false) : VInv f A b (p + 1) V where
  le := (List.getElem?_eq_some_iff.1 hx).1
  len := h.len
  val := fun a v hv => ⟨(h.val a v hv).1.skip hx fun e => h0 (by omega), (h.val a v hv).2⟩
  lits := fun q y hq hy => by
    by_cases e : q = p
    · subst e
      obtain rfl : x = y := by rw [hx] at hy; exact Option.some.inj hy
      exact ⟨h8, h9⟩
    · exact h.lits q y (by omega) hy
theorem VInv.set {f : FormD} {A : List BitD} {b : List UInt8} {p : Nat} {V : List Nat} {x : BitD} {ai m v : Nat} (h : VInv f A b p V) (hx : A[p]? = some x) (ha : x.arg = (ai : Int)) (hm : x.num = (m : Int)) (h0 : x.lit = 0) (hv : V[ai]? = some v) (ho : bitOf b p = true) (hm64 : m < 64) : VInv f A b (p + 1) (V.set ai (v ||| 2 ^ m)) where
  le := (List.getElem?_eq_some_iff.1 hx).1
  len := by rw [List.length_set]; exact h.len
  val := fun a w hw => by
    rw [List.getElem?_set] at hw
    split at hw
    · next e =>
      subst e
      split at hw
      · obtain rfl := Option.some.inj hw
        exact ⟨(h.val _ _ hv).1.set hx ha hm ho, orbit (h.val _ _ hv).2 hm64⟩
      · cases hw
    · next e => exact ⟨(h.val a w hw).1.skip hx fun e2 => absurd e2 (by omega), (h.val a w hw).2⟩
  lits := fun q y hq hy => by
    by_cases e : q = p
    · subst e
      obtain rfl : x = y := by rw [hx] at hy; exact Option.some.inj hy
      exact ⟨fun e => by omega, fun e => by omega⟩
    · exact h.lits q y (by omega) hy
/-- A bit that comes isn't there yet. -/
theorem VInv.free {d : DescD} {f : FormD} {A : List BitD} {b : List UInt8} {p : Nat} {V : List Nat} {x : BitD} {ai m v : Nat} (h : VInv f A b p V) (hG : GoodF d f) (hA : A = formBits d f) (hv : V[ai]? = some v) (hx : A[p]? = some x) (ha : x.arg = (ai : Int)) (hm : x.num = (m : Int)) : v.testBit m = false := by
  cases e : v.testBit m
  · rfl
  · obtain ⟨q, y, hq, hy, hya, hym, _⟩ := ((h.val ai v hv).1 m).1 e
    rw [hA] at hx hy
    exact absurd ⟨by omega, by omega⟩ (hG.apartBits hy hx (by omega) (by omega))

theorem fits_runs (d : DescD) (f : FormD) (hd : d.ok) (hf : f.ok) (hG : GoodF d f) (b : List UInt8) (hb : b.length ≤ reachBytes) : RunsX Tryz.prog 10 [descT d, formT f, .vecd 1 (bytesT b)] (YesS (FitsP d f b)) := by
  have hW := bitsR_runs d f hd hf hG
  obtain ⟨A, hA⟩ : ∃ A, A = formBits d f := ⟨_, rfl⟩
  have hAl : A.length ≤ 120 := by rw [hA, formBits_len]; exact hG.le
  have hmA : (A.map bitT).length = A.length := by simp
  have hmb : (bytesT b).length = b.length := by simp [bytesT]
  have hmF : (f.args.map argT).length = f.args.length := by simp
  have ha6 := hG.args
  have hr : reachBytes ≤ 140737488355328 := by decide
  refine RunsX.of_call ?_ YesS.noRef
  refine CallS.of_fn tabS_ok regS_ok Tryz.func10 rfl rfl ?_
  refine CallS.frzX hW rfl ⟨.refl _, .refl _, trivial⟩ ?_
  rintro _ (rfl | rfl)
  · exact no_end
  rw [← hA]
  refine st_intro (n := ((8 * b.length : Nat) : Int)) (by rw [hmb, IntKind.wrap_i64]; omega) ?_
  refine br_intro (fun _ => ?_) (fun cl => ?_)
  · exact no_end
  have cl : A.length ≤ 8 * b.length := by have := df (show decide (((A.map bitT).length : Int) > ((8 * b.length : Nat) : Int)) = false from cl); omega
  refine ck_intro (mkS8 (n := (f.args.map argT).length) (by omega)) ?_
  refine br_intro (fun c => absurd (of_decide_eq_true c) (by omega)) (fun _ => ?_)
  have hz : (List.replicate (((f.args.map argT).length : Nat) : Int).toNat (T.int .u64 0)) = (List.replicate f.args.length 0).map u64T := by rw [Int.toNat_natCast, hmF, List.map_replicate]; rfl
  have hnt : (((f.args.map argT).length : Nat) : Int).toNat = f.args.length := by rw [Int.toNat_natCast, hmF]
  refine loop_then (fun e s' => (e = .exit 0 ∧ ∃ (b0 : AV) (V : List Nat), VInv f A b A.length V ∧ s' = ⟨[(40, b0), (2, .t (.vecd 1 (bytesT b))), (3, .ptr 0 0 0 0), (4, .ptr 1 0 0 0), (9, .sl 3 0 0 f.args.length), (37, .sl 2 0 0 A.length), (38, .t (.int .i64 (A.length : Int))), (39, .t (.int .i64 A.length))], [.box (descC d), .box (formC f), .arr tRB 3 false 0 (.ts (A.map bitT)), .arr tU64 1 false 0 (.ts (V.map u64T))]⟩) ∨ (e = .ret ∧ ∃ env H, s' = ⟨(6, .t (.bool false)) :: env, H⟩)) (fun HQ' HQ => ?_) ?_
  · refine loop_on (fun s : Nat × List Nat => VInv f A b s.1 s.2) (fun s => ⟨[(2, .t (.vecd 1 (bytesT b))), (3, .ptr 0 0 0 0), (4, .ptr 1 0 0 0), (9, .sl 3 0 0 f.args.length), (37, .sl 2 0 0 A.length), (38, .t (.int .i64 (A.length : Int))), (39, .t (.int .i64 s.1))], [.box (descC d), .box (formC f), .arr tRB 3 false 0 (.ts (A.map bitT)), .arr tU64 1 false 0 (.ts (s.2.map u64T))]⟩)
      (fun s => A.length - s.1) (0, List.replicate f.args.length 0) ⟨Nat.zero_le _, List.length_replicate, fun a v hv => by rw [List.eq_of_mem_replicate (List.mem_of_getElem? hv)]; exact ⟨IsNumTo.zero _ _ _, by decide⟩, fun q x hq => absurd hq (Nat.not_lt_zero _)⟩ ?_ (fun ⟨p, V⟩ hV => ?_)
    · exact weak_gc [0, 1, 2, 3] rfl ⟨rfl, rfl, rfl, congrArg (fun k : Nat => some (AV.sl 3 0 0 k)) hnt, congrArg (fun k : Nat => some (AV.sl 2 0 0 k)) hmA, congrArg (fun k : Nat => some (AV.t (.int .i64 (k : Int)))) hmA, rfl, trivial⟩ ⟨rfl, rfl, rfl, congrArg (fun l => some (Blk.arr tU64 1 false 0 (.ts l))) hz, trivial⟩
    have hV : VInv f A b p V := hV
    have hVl := hV.len
    refine br_intro (fun c => ?_) (fun c => ?_)
    · have c : p < A.length := by have := dlt c; omega
      obtain ⟨x, hx, hxm⟩ := get_some (R := A) (i := p) c
      have hxi := hG.is x (by rw [← hA]; exact hxm)
      obtain ⟨z, hz, _⟩ := get_some (R := b) (i := p / 8) (by omega)
      have hbo : bitOf b p = z.toNat.testBit (p % 8) := by unfold bitOf; rw [hz]; rfl
      have hq := bit_one (z := z) (k := p % 8)
      rw [← hbo] at hq
      obtain ⟨dq, hdq⟩ : ∃ dq, dq = z.toNat / 2 ^ (p % 8) := ⟨_, rfl⟩
      rw [← hdq] at hq
      refine ck_intro (inB0 rfl (by omega)) ?_
      refine opt_intro (map_get0 hx) ?_
      refine ck_intro rfl ?_
      refine st_intro (n := ((p / 8 : Nat) : Int)) (show IntKind.i64.wrap (((p : Nat) : Int).tdiv 8) = _ from by rw [Int.tdiv_eq_ediv_of_nonneg (by omega), IntKind.wrap_i64]; omega) ?_
      refine opt_intro (show (bytesT b)[(((p / 8 : Nat) : Nat) : Int).toNat]? = some (T.int .u8 z.toNat) from by rw [Int.toNat_natCast, bytesT, List.getElem?_map, hz]; rfl) ?_
      refine ck_intro rfl ?_
      refine st_intro (n := ((p % 8 : Nat) : Int)) (show ((p : Nat) : Int).tmod 8 = _ from by rw [Int.tmod_eq_emod_of_nonneg (by omega)]; omega) ?_
      refine st_intro (n := ((p % 8 : Nat) : Int)) (u64int (by omega) (by omega)) ?_
      refine ck_intro (decide_eq_true (show (0 : Int) ≤ ((p % 8 : Nat) : Int) by omega)) ?_
      refine st_intro (n := ((dq : Nat) : Int)) (show ((z.toNat : Nat) : Int).fdiv (2 ^ (min (((p % 8 : Nat) : Int)).toNat IntKind.u8.bits)) = _ from by
        rw [Int.toNat_natCast, Nat.min_eq_left (show p % 8 ≤ IntKind.u8.bits by show _ ≤ 8; omega), ← int_pow, Int.fdiv_eq_ediv_of_nonneg _ (Int.natCast_nonneg _), ← Int.natCast_ediv, hdq]) ?_
      refine ck_intro rfl ?_
      cases hone : bitOf b p with
      | true =>
        rw [hone, if_pos rfl] at hq
        refine st_intro (n := 1) (by rw [Int.tmod_eq_emod_of_nonneg (by omega)]; omega) ?_
        rcases hxi with ⟨harg, _, h0 | h0 | h0⟩ | ⟨h0, ai, a, k, m, ha, hai, hak, hm, hmk, hok⟩
        · refine br_intro (fun _ => ?_) (fun c => absurd h0 (lit_ne (k := 48) c))
          exact HQ _ _ (.inr ⟨rfl, _, _, rfl⟩)
        · refine br_intro (fun c => absurd (lit_eq (k := 48) c) (by omega)) (fun _ => ?_)
          refine br_intro (fun _ => ?_) (fun c => absurd h0 (lit_ne (k := 49) c))
          refine br_intro (fun c => absurd (lit_eq (k := 0) c) (by omega)) (fun _ => ?_)
          refine st_intro (n := ((p + 1 : Nat) : Int)) (nat_in (n := p + 1) (by omega)) ?_
          conv => whnf
          exact ⟨⟨(p + 1, V), hV.skip hx (fun h => by omega) (fun _ => hone) (fun h => by omega)⟩, weak_gc [0, 1, 2, 3] rfl ⟨rfl, rfl, rfl, rfl, rfl, rfl, rfl, trivial⟩ ⟨rfl, rfl, rfl, rfl, trivial⟩, by show A.length - (p + 1) < A.length - p; omega⟩
        · refine br_intro (fun c => absurd (lit_eq (k := 48) c) (by omega)) (fun _ => ?_)
          refine br_intro (fun c => absurd (lit_eq (k := 49) c) (by omega)) (fun _ => ?_)
          refine br_intro (fun c => absurd (lit_eq (k := 0) c) (by omega)) (fun _ => ?_)
          refine st_intro (n := ((p + 1 : Nat) : Int)) (nat_in (n := p + 1) (by omega)) ?_
          conv => whnf
          exact ⟨⟨(p + 1, V), hV.skip hx (fun h => by omega) (fun h => by omega) (fun h => by omega)⟩, weak_gc [0, 1, 2, 3] rfl ⟨rfl, rfl, rfl, rfl, rfl, rfl, rfl, trivial⟩ ⟨rfl, rfl, rfl, rfl, trivial⟩, by show A.length - (p + 1) < A.length - p; omega⟩
        · have hal := (List.getElem?_eq_some_iff.1 hai).1
          have hm64 : m < 64 := by rcases hok with h | h | h <;> omega
          refine br_intro (fun c => absurd (lit_eq (k := 48) c) (by omega)) (fun _ => ?_)
          refine br_intro (fun c => absurd (lit_eq (k := 49) c) (by omega)) (fun _ => ?_)
          refine br_intro (fun _ => ?_) (fun c => absurd h0 (lit_ne (k := 0) c))
          obtain ⟨v, hv, _⟩ := get_some (R := V) (i := ai) (by rw [hV.len]; exact hal)
          have hvi := hV.val ai v hv
          have hbit := hV.free hG hA hv hx ha hm
          have hsum : v + 2 ^ m = v ||| 2 ^ m := add_bit hbit
          have hlt : v ||| 2 ^ m < 18446744073709551616 := orbit hvi.2 hm64
          refine draw_introS ord_fit_12 (by decide +kernel) ?_
          refine ck_intro (inB1 rfl (by omega) (by omega)) ?_
          refine opt_intro (map_getI ha hv) ?_
          refine st_intro (n := ((m : Nat) : Int)) (by rw [hm]; exact u64int (by omega) (by omega)) ?_
          refine ck_intro (decide_eq_true (show (0 : Int) ≤ ((m : Nat) : Int) by omega)) ?_
          refine st_intro (n := ((2 ^ m : Nat) : Int)) (u64bit rfl hm64) ?_
          refine st_intro (n := ((v ||| 2 ^ m : Nat) : Int)) (by rw [← Int.natCast_add, hsum]; exact u64n hlt) ?_
          refine ck_intro (inB1 rfl (by omega) (by omega)) ?_
          refine opt_intro (map_getI ha hv) ?_
          refine And.intro (fun j hj => by cases hj) ?_
          refine st_intro (n := ((p + 1 : Nat) : Int)) (nat_in (n := p + 1) (by omega)) ?_
          conv => whnf
          exact ⟨⟨(p + 1, V.set ai (v ||| 2 ^ m)), hV.set hx ha hm h0 hv hone hm64⟩, weak_gc [0, 1, 2, 3] rfl ⟨rfl, rfl, rfl, rfl, rfl, rfl, rfl, trivial⟩ ⟨rfl, rfl, rfl, congrArg (fun l => some (Blk.arr tU64 1 false 0 (.ts l))) (set_u64 ha), trivial⟩, by show A.length - (p + 1) < A.length - p; omega⟩
      | false =>
        rw [hone, if_neg (by decide)] at hq
        refine st_intro (n := 0) (by rw [Int.tmod_eq_emod_of_nonneg (by omega)]; omega) ?_
        rcases hxi with ⟨harg, _, h0 | h0 | h0⟩ | ⟨h0, ai, a, k, m, ha, hai, hak, hm, hmk, hok⟩
        · refine br_intro (fun _ => ?_) (fun c => absurd h0 (lit_ne (k := 48) c))
          refine br_intro (fun c => absurd (lit_eq (k := 49) c) (by omega)) (fun _ => ?_)
          refine br_intro (fun c => absurd (lit_eq (k := 0) c) (by omega)) (fun _ => ?_)
          refine st_intro (n := ((p + 1 : Nat) : Int)) (nat_in (n := p + 1) (by omega)) ?_
          conv => whnf
          exact ⟨⟨(p + 1, V), hV.skip hx (fun _ => hone) (fun h => by omega) (fun h => by omega)⟩, weak_gc [0, 1, 2, 3] rfl ⟨rfl, rfl, rfl, rfl, rfl, rfl, rfl, trivial⟩ ⟨rfl, rfl, rfl, rfl, trivial⟩, by show A.length - (p + 1) < A.length - p; omega⟩
        · refine br_intro (fun c => absurd (lit_eq (k := 48) c) (by omega)) (fun _ => ?_)
          refine br_intro (fun _ => ?_) (fun c => absurd h0 (lit_ne (k := 49) c))
          exact HQ _ _ (.inr ⟨rfl, _, _, rfl⟩)
        · refine br_intro (fun c => absurd (lit_eq (k := 48) c) (by omega)) (fun _ => ?_)
          refine br_intro (fun c => absurd (lit_eq (k := 49) c) (by omega)) (fun _ => ?_)
          refine br_intro (fun c => absurd (lit_eq (k := 0) c) (by omega)) (fun _ => ?_)
          refine st_intro (n := ((p + 1 : Nat) : Int)) (nat_in (n := p + 1) (by omega)) ?_
          conv => whnf
          exact ⟨⟨(p + 1, V), hV.skip hx (fun h => by omega) (fun h => by omega) (fun h => by omega)⟩, weak_gc [0, 1, 2, 3] rfl ⟨rfl, rfl, rfl, rfl, rfl, rfl, rfl, trivial⟩ ⟨rfl, rfl, rfl, rfl, trivial⟩, by show A.length - (p + 1) < A.length - p; omega⟩
        · skip
          refine br_intro (fun c => absurd (lit_eq (k := 48) c) (by omega)) (fun _ => ?_)
          refine br_intro (fun c => absurd (lit_eq (k := 49) c) (by omega)) (fun _ => ?_)
          refine br_intro (fun _ => ?_) (fun c => absurd h0 (lit_ne (k := 0) c))
          refine st_intro (n := ((p + 1 : Nat) : Int)) (nat_in (n := p + 1) (by omega)) ?_
          conv => whnf
          exact ⟨⟨(p + 1, V), hV.skip hx (fun h => by omega) (fun h => by omega) (fun _ => hone)⟩, weak_gc [0, 1, 2, 3] rfl ⟨rfl, rfl, rfl, rfl, rfl, rfl, rfl, trivial⟩ ⟨rfl, rfl, rfl, rfl, trivial⟩, by show A.length - (p + 1) < A.length - p; omega⟩
    · have c : p = A.length := by have := dge c; have := hV.le; omega
      exact HQ _ _ (.inl ⟨rfl, _, V, by rw [← c]; exact hV, by rw [← c]; rfl⟩)
  rintro _ _ (⟨rfl, b0, V, hV, rfl⟩ | ⟨rfl, env, H, rfl⟩)
  rotate_left 1
  · exact no_end
  have hVl := hV.len
  refine loop_on (fun i : Nat => i ≤ f.args.length ∧ ∀ (i' : Nat) a k n, i' < i → f.args[i']? = some a → at? d.classes a.cls = some k → IsNum A i' (bitOf b) n → valueV k n ∉ k.excl) (fun i => ⟨[(3, .ptr 0 0 0 0), (9, .sl 2 0 0 f.args.length), (89, .t (.vecd 2 (f.args.map argT))), (90, .t (.int .i64 ((f.args.map argT).length : Int))), (91, .t (.int .i64 i))], [.box (descC d), .box (formC f), .arr tU64 1 false 0 (.ts (V.map u64T))]⟩)
    (fun i => f.args.length - i) 0 ⟨Nat.zero_le _, fun i' _ _ _ h => absurd h (Nat.not_lt_zero _)⟩ ?_ (fun i ⟨hi, hE⟩ => ?_)
  · exact weak_gc [0, 1, 3] rfl ⟨rfl, rfl, rfl, rfl, rfl, trivial⟩ ⟨rfl, rfl, rfl, trivial⟩
  refine br_intro (fun c => ?_) (fun c => ?_)
  · have c : i < f.args.length := by have := dlt c; omega
    obtain ⟨a, ha, ham⟩ := get_some (R := f.args) (i := i) c
    obtain ⟨k, hk, hok⟩ := hG.aok a ham
    have hcl := at_lt hk
    obtain ⟨k2, hk2, hkm, hkg⟩ := at_some hcl
    obtain rfl : k = k2 := by rw [hk] at hk2; exact Option.some.inj hk2
    have hexl : k.excl.length ≤ 9223372036854775807 := maxLen_le (hd_class hd k hkm)
    have hmE : (k.excl.map (T.int .i64)).length = k.excl.length := by simp
    obtain ⟨v, hv, _⟩ := get_some (R := V) (i := i) (by omega)
    have hnum := ((hV.val i v hv).1).all
    have hvlt : v < 2 ^ k.bits.toNat := hnum.lt fun p x hp hx => by
      obtain ⟨m, hm, hmk, _⟩ := (hG.is_ (by rw [← hA]; exact hp)).op hx ha hk
      omega
    refine opt_intro (show (f.args.map argT)[((i : Nat) : Int).toNat]? = some (argT a) from by rw [Int.toNat_natCast, List.getElem?_map, ha]; rfl) ?_
    refine ck_intro (ix0 rfl hcl.1) ?_
    refine opt_intro (row_get hkg) ?_
    refine loop_then (fun e s' => (e = .exit 4 ∧ (∀ e ∈ k.excl, ¬ e = valueV k v) ∧ ∃ (b0 : AV) (j : Nat), s' = ⟨[(105, b0), (3, .ptr 0 0 0 0), (9, .sl 2 0 0 f.args.length), (89, .t (.vecd 2 (f.args.map argT))), (90, .t (.int .i64 ((f.args.map argT).length : Int))), (91, .t (.int .i64 i)), (13, .t (.int .i64 i)), (14, .ptr 3 0 0 0), (102, .t (.vecd 1 (k.excl.map (T.int .i64)))), (103, .t (.int .i64 ((k.excl.map (T.int .i64)).length : Int))), (104, .t (.int .i64 j))], [.box (descC d), .box (formC f), .arr tU64 1 false 0 (.ts (V.map u64T))] ++ [.box [.t (.str a.name), .t (.int .i64 a.cls)]]⟩) ∨ (e = .ret ∧ ∃ env H, s' = ⟨(6, .t (.bool false)) :: env, H⟩)) (fun HQ' HQ => ?_) ?_
    · refine loop_on (fun j : Nat => j ≤ k.excl.length ∧ ∀ e ∈ k.excl.take j, ¬ e = valueV k v) (fun j => ⟨[(3, .ptr 0 0 0 0), (9, .sl 2 0 0 f.args.length), (89, .t (.vecd 2 (f.args.map argT))), (90, .t (.int .i64 ((f.args.map argT).length : Int))), (91, .t (.int .i64 i)), (13, .t (.int .i64 i)), (14, .ptr 3 0 0 0), (102, .t (.vecd 1 (k.excl.map (T.int .i64)))), (103, .t (.int .i64 ((k.excl.map (T.int .i64)).length : Int))), (104, .t (.int .i64 j))], [.box (descC d), .box (formC f), .arr tU64 1 false 0 (.ts (V.map u64T))] ++ [.box [.t (.str a.name), .t (.int .i64 a.cls)]]⟩)
        (fun j => k.excl.length - j) 0 ⟨Nat.zero_le _, by simp⟩ ?_ (fun j ⟨hj, hN⟩ => ?_)
      · exact weak_of ⟨rfl, rfl, rfl, rfl, rfl, rfl, rfl, rfl, rfl, rfl, trivial⟩ rfl
      refine br_intro (fun cj => ?_) (fun cj => ?_)
      · have cj : j < k.excl.length := by have := dlt cj; omega
        obtain ⟨x, hx, hxm⟩ := get_some (R := k.excl) (i := j) cj
        refine opt_intro (show (k.excl.map (T.int .i64))[((j : Nat) : Int).toNat]? = some (T.int .i64 x) from by rw [Int.toNat_natCast, List.getElem?_map, hx]; rfl) ?_
        refine draw_introS ord_fit_20 (by decide +kernel) ?_
        refine ck_intro (ix0 rfl hcl.1) ?_
        refine opt_intro (row_get hkg) ?_
        refine ck_intro (inB0 rfl (by omega)) ?_
        refine opt_intro (map_get0 hv) ?_
        refine CallS.frzG (value_runs_r d k hok v hvlt) rfl ⟨.refl _, .refl _, trivial⟩ ?_
        refine And.intro (fun j hj => by first | (cases hj; done) | exact LeX.append _ _ _ | exact LeX.refl _ _) ?_
        refine br_intro (fun ce => ?_) (fun ce => ?_)
        · exact HQ _ _ (.inr ⟨rfl, _, _, rfl⟩)
        have ce : ¬ x = valueV k v := by simpa using ce
        refine st_intro (n := ((j + 1 : Nat) : Int)) (nat_in (n := j + 1) (by omega)) ?_
        conv => whnf
        exact ⟨⟨j + 1, cj, take_all hx hN ce⟩, weak_gc [0, 1, 2, 3] rfl ⟨rfl, rfl, rfl, rfl, rfl, rfl, rfl, rfl, rfl, rfl, trivial⟩ ⟨rfl, rfl, rfl, rfl, trivial⟩, by show k.excl.length - (j + 1) < k.excl.length - j; omega⟩
      · have cj : j = k.excl.length := by have := dge cj; omega
        rw [cj, List.take_length] at hN
        exact HQ _ _ (.inl ⟨rfl, hN, _, j, rfl⟩)
    rintro _ _ (⟨rfl, hN, b1, j, rfl⟩ | ⟨rfl, env, H, rfl⟩)
    · refine st_intro (n := ((i + 1 : Nat) : Int)) (nat_in (n := i + 1) (by omega)) ?_
      conv => whnf
      exact ⟨⟨i + 1, c, fun i' a' k' n h' ha' hk' hn' => by
        by_cases e : i' = i
        · subst e
          obtain rfl : a = a' := by rw [ha] at ha'; exact Option.some.inj ha'
          obtain rfl : k = k' := by rw [hk] at hk'; exact Option.some.inj hk'
          rw [hn'.uniq hnum]
          exact fun hm => hN _ hm rfl
        · exact hE i' a' k' n (by omega) ha' hk' hn'⟩, weak_gc [0, 1, 2] rfl ⟨rfl, rfl, rfl, rfl, rfl, trivial⟩ ⟨rfl, rfl, rfl, trivial⟩, by show f.args.length - (i + 1) < f.args.length - i; omega⟩
    · exact no_end
  · have c : i = f.args.length := by have := dge c; omega
    exact yes_end fun _ => ⟨by rw [← hA]; exact cl, fun q x hx => by rw [← hA] at hx; exact hV.lits q x (List.getElem?_eq_some_iff.1 hx).1 hx, fun i' a k n ha hk hn => hE i' a k n (by have := (List.getElem?_eq_some_iff.1 ha).1; omega) ha hk (by rw [hA]; exact hn)⟩

end Go.Proofs.YtnjmeadmkbkikaaGreatDoor
