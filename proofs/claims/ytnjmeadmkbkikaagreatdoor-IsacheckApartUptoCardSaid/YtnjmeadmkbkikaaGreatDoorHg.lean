/-
  The bits of a pattern by their places (walk).
-/
import Derived.Test.YtnjmeadmkbkikaaGreatDoorHf
import Derived.Test.YtnjmeadmkbkikaaGreatDoorHe
namespace Go.Proofs.YtnjmeadmkbkikaaGreatDoor
open Go.IntWalk
set_option maxRecDepth 100000
set_option linter.unusedVariables false
set_option linter.unusedSimpArgs false
set_option maxHeartbeats 1000000

theorem nat_sub {a b c : Nat} (h : a + b = c) (hc : c ≤ 9223372036854775807) : IntKind.i64.wrap ((c : Int) - (b : Int)) = a := by rw [IntKind.wrap_i64]; omega
theorem inB0 {i n : Nat} {b : Bool} (hb : b = true) (h : i < n) : (b && inB (i : Int) n) = true := by rw [hb]; simp [inB]; omega
theorem map_get0 {α β : Type} {f : α → β} {l : List α} {i : Nat} {a : α} (h : l[i]? = some a) : (l.map f)[0 + i]? = some (f a) := by rw [Nat.zero_add, List.getElem?_map, h]; rfl
theorem mkS24 {n : Nat} (h : n ≤ 1000000) : (decide (0 ≤ (n : Int)) && decide ((n : Int) ≤ n) && decide ((n : Int) * 24 ≤ 140737488355328) && decide ((n : Int) ≤ 9223372036854775807) && true && true && true) = true := by simp; omega
abbrev tBit : Nat := 137
def zeroBit : BitD := ⟨0, 0, 0⟩

/-- The place of the s-th bit that is written. -/
def posN (o : Int) (n s : Nat) : Nat := if o = 1 then n - 1 - s else s / 8 * 8 + 7 - s % 8
theorem posN_lt {o : Int} {n s : Nat} (h : s < n) (h8 : n % 8 = 0) : posN o n s < n := by unfold posN; split <;> omega
theorem posN_inj {o : Int} {n s s' : Nat} (h : s < n) (h' : s' < n) (he : posN o n s = posN o n s') : s = s' := by
  unfold posN at he; split at he <;> omega
theorem posN_posN {o : Int} {n s : Nat} (h : s < n) : posN o n (posN o n s) = s := by
  unfold posN; split <;> omega
theorem posN_word {o : Int} (h : o = 1) (n s : Nat) : posN o n s = n - 1 - s := by unfold posN; rw [if_pos h]
theorem posN_bytes {o : Int} (h : ¬ o = 1) (n s : Nat) : posN o n s = s / 8 * 8 + 7 - s % 8 := by unfold posN; rw [if_neg h]

/-- Bits that are put at their places. -/
def IsPlaced (o : Int) (bs R : List BitD) : Prop := R.length = bs.length ∧ ∀ s, s < bs.length → R[posN o bs.length s]? = bs[s]?
theorem IsPlaced.at_ {o : Int} {bs R : List BitD} (h : IsPlaced o bs R) (h8 : bs.length % 8 = 0) {p : Nat} (hp : p < bs.length) : R[p]? = bs[posN o bs.length p]? := by
  have := h.2 (posN o bs.length p) (posN_lt hp h8)
  rwa [posN_posN hp] at this
theorem IsPlaced.mem {o : Int} {bs R : List BitD} (h : IsPlaced o bs R) (h8 : bs.length % 8 = 0) {b : BitD} (hb : b ∈ R) : b ∈ bs := by
  obtain ⟨p, hp, e⟩ := List.getElem_of_mem hb
  have h1 := h.at_ h8 (p := p) (by rw [← h.1]; exact hp)
  rw [List.getElem?_eq_getElem hp, e] at h1
  exact List.mem_of_getElem? h1.symm
def PlacedS (d : DescD) (bs : List BitD) (r : AV) : Prop := ∃ R : List BitD, r = .own tBit 3 false (R.map bitT) ∧ IsPlaced d.order bs R
theorem PlacedS.noRef {d : DescD} {bs : List BitD} : ∀ r, PlacedS d bs r → noRef r = true := by rintro r ⟨R, rfl, _⟩; rfl

theorem placed_runs (d : DescD) (bs : List BitD) (hn : bs.length ≤ 1000000) (h8 : bs.length % 8 = 0) : RunsX Tryz.prog 95 [descT d, .vecd 3 (bs.map bitT)] (PlacedS d bs) := by
  have hmap : (bs.map bitT).length = bs.length := by simp
  obtain ⟨n, hnn⟩ : ∃ n, n = bs.length := ⟨_, rfl⟩
  refine RunsX.of_call ?_ PlacedS.noRef
  refine CallS.of_fn tabS_ok regS_ok Tryz.func95 rfl rfl ?_
  refine ck_intro (mkS24 (n := (bs.map bitT).length) (by omega)) ?_
  refine br_intro (fun c => absurd (of_decide_eq_true c) (by omega)) (fun _ => ?_)
  have hz : (List.replicate (((bs.map bitT).length : Nat) : Int).toNat (bitT zeroBit)) = (List.replicate n zeroBit).map bitT := by rw [Int.toNat_natCast, hmap, List.map_replicate, hnn]
  refine loop_on (fun s : Nat × List BitD => s.1 ≤ n ∧ s.2.length = n ∧ ∀ t, t < s.1 → s.2[posN d.order n t]? = bs[t]?) (fun s => ⟨[(1, .t (.vecd 3 (bs.map bitT))), (2, .ptr 0 0 0 0), (5, .sl 1 0 0 n), (11, .t (.vecd 3 (bs.map bitT))), (12, .t (.int .i64 ((bs.map bitT).length : Int))), (13, .t (.int .i64 s.1))], [.box (descC d), .arr tBit 3 false 0 (.ts (s.2.map bitT))]⟩)
    (fun s => n - s.1) (0, List.replicate n zeroBit) ⟨Nat.zero_le _, List.length_replicate, fun t ht => absurd ht (Nat.not_lt_zero _)⟩ ?_ (fun ⟨i, R⟩ hi => ?_)
  · exact weak_gc [0, 2] rfl ⟨rfl, rfl, congrArg (fun k : Nat => some (AV.sl 1 0 0 k)) (show (((bs.map bitT).length : Nat) : Int).toNat = n by rw [Int.toNat_natCast, hmap, hnn]), rfl, rfl, rfl, trivial⟩ ⟨rfl, congrArg (fun l => some (Blk.arr tBit 3 false 0 (.ts l))) hz, trivial⟩
  have hi : i ≤ n ∧ R.length = n ∧ ∀ t, t < i → R[posN d.order n t]? = bs[t]? := hi
  obtain ⟨hi, hRn, hR⟩ := hi
  refine br_intro (fun c => ?_) (fun c => ?_)
  · have c : i < n := by have := dlt c; omega
    obtain ⟨x, hx, hxm⟩ := get_some (R := bs) (i := i) (by omega)
    refine opt_intro (show (bs.map bitT)[((i : Nat) : Int).toNat]? = some (bitT x) from by rw [Int.toNat_natCast, List.getElem?_map, hx]; rfl) ?_
    have fin : ∀ j, j = posN d.order n i → i + 1 ≤ n ∧ (R.set j x).length = n ∧ ∀ t, t < i + 1 → (R.set j x)[posN d.order n t]? = bs[t]? := fun j hj => ⟨c, by simp [hRn], fun t ht => by
      have hjn : j < n := by rw [hj]; exact posN_lt c (by omega)
      by_cases hti : t = i
      · subst hti
        rw [← hj, List.getElem?_set_self (by omega), hx]
      · have : posN d.order n t ≠ j := fun e => hti (posN_inj (n := n) (o := d.order) (by omega) c (by rw [e, hj]))
        rw [List.getElem?_set_ne (fun e => this e.symm)]
        exact hR t (by omega)⟩
    refine br_intro (fun co => ?_) (fun co => ?_)
    · refine st_intro (n := ((n - 1 : Nat) : Int)) (show IntKind.i64.wrap (((bs.map bitT).length : Int) - 1) = ((n - 1 : Nat) : Int) from by rw [hmap, IntKind.wrap_i64]; omega) ?_
      refine st_intro (n := ((n - 1 - i : Nat) : Int)) (nat_sub (a := n - 1 - i) (b := i) (c := n - 1) (by omega) (by omega)) ?_
      obtain ⟨y, hy, _⟩ := get_some (R := R) (i := n - 1 - i) (by omega)
      refine ck_intro (inB0 rfl (by omega)) ?_
      refine opt_intro (map_get0 hy) ?_
      refine st_intro (n := ((i + 1 : Nat) : Int)) (nat_in (n := i + 1) (by omega)) ?_
      conv => whnf
      exact ⟨⟨(i + 1, R.set (n - 1 - i) x), fin _ (posN_word (by simpa using co) _ _).symm⟩, weak_gc [0, 1] rfl ⟨rfl, rfl, rfl, rfl, rfl, rfl, trivial⟩ ⟨rfl, congrArg (fun l => some (Blk.arr tBit 3 false 0 (.ts l))) (show (R.map bitT).set (0 + (n - 1 - i)) (bitT x) = (R.set (n - 1 - i) x).map bitT by rw [Nat.zero_add, List.map_set]), trivial⟩, by show n - (i + 1) < n - i; omega⟩
    · obtain ⟨q, hq⟩ : ∃ q, q = i / 8 := ⟨_, rfl⟩
      obtain ⟨m, hm⟩ : ∃ m, m = i % 8 := ⟨_, rfl⟩
      obtain ⟨p, hp⟩ : ∃ p, p = q * 8 + 7 - m := ⟨_, rfl⟩
      have hpn : p < n := by omega
      refine ck_intro rfl ?_
      obtain ⟨q8, hq8⟩ : ∃ z, z = q * 8 := ⟨_, rfl⟩
      obtain ⟨q7, hq7⟩ : ∃ z, z = q8 + 7 := ⟨_, rfl⟩
      refine st_intro (n := ((q : Nat) : Int)) (show IntKind.i64.wrap (((i : Nat) : Int).tdiv 8) = _ from by rw [Int.tdiv_eq_ediv_of_nonneg (by omega), IntKind.wrap_i64]; omega) ?_
      refine st_intro (n := ((q8 : Nat) : Int)) (show IntKind.i64.wrap (((q : Nat) : Int) * 8) = _ from by rw [IntKind.wrap_i64]; omega) ?_
      refine st_intro (n := ((q7 : Nat) : Int)) (show IntKind.i64.wrap (((q8 : Nat) : Int) + 7) = _ from by rw [IntKind.wrap_i64]; omega) ?_
      refine ck_intro rfl ?_
      refine st_intro (n := ((m : Nat) : Int)) (show ((i : Nat) : Int).tmod 8 = _ from by rw [Int.tmod_eq_emod_of_nonneg (by omega)]; omega) ?_
      refine st_intro (n := ((p : Nat) : Int)) (show IntKind.i64.wrap (((q7 : Nat) : Int) - ((m : Nat) : Int)) = _ from by rw [IntKind.wrap_i64]; omega) ?_
      obtain ⟨y, hy, _⟩ := get_some (R := R) (i := p) (by omega)
      refine ck_intro (inB0 rfl (by omega)) ?_
      refine opt_intro (map_get0 hy) ?_
      refine st_intro (n := ((i + 1 : Nat) : Int)) (nat_in (n := i + 1) (by omega)) ?_
      conv => whnf
      exact ⟨⟨(i + 1, R.set p x), fin _ (by rw [posN_bytes (by simpa using co)]; omega)⟩, weak_gc [0, 1] rfl ⟨rfl, rfl, rfl, rfl, rfl, rfl, trivial⟩ ⟨rfl, congrArg (fun l => some (Blk.arr tBit 3 false 0 (.ts l))) (show (R.map bitT).set (0 + p) (bitT x) = (R.set p x).map bitT by rw [Nat.zero_add, List.map_set]), trivial⟩, by show n - (i + 1) < n - i; omega⟩
  · have c : i = n := by have := dge c; omega
    exact ⟨_, ⟨R, rfl, by omega, fun t ht => by rw [← hnn]; exact hR t (by omega)⟩, _, rfl, rfl, by simp; omega, .refl _⟩

end Go.Proofs.YtnjmeadmkbkikaaGreatDoor
