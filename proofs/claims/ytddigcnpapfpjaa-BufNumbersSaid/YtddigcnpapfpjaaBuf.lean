/-
  The functions of 'buf' as the walk shows them.
-/
import Derived.Test.YtddigcnpapfpjaaNum
import Derived.Test.YtddigcnpapfpjaaDraw5
import Derived.Test.YtddigcnpapfpjaaExt
import Derived.Test.YtddigcnpapfpjaaGc
import Derived.Test.YtddigcnpapfpjaaFrz
import Derived.Test.YtddigcnpapfpjaaChecked
namespace Go.Proofs.Ytddigcnpapfpjaa
open Go.IntWalk
set_option maxRecDepth 100000
set_option linter.unusedVariables false
set_option linter.unusedSimpArgs false
noncomputable def tab : Tab := mkTab Try.prog
theorem tab_ok : TabOK Try.prog tab := mkTab_ok _
theorem mixed : Try.prog.follows .mixedOrders = true := Try.checked.mixed
noncomputable def reg : RegP := regD Try.prog tab
theorem reg_ok : RegOK Try.prog tab reg := regD_ok tab_ok mixed
theorem draw_intro {ops : Array Oper} {s : St} {K : St → Prop} (σ : List (Nat × Bool)) (h : drawOK ops (masks ops) σ [] = true) (k : xdr tab (CallS Try.prog) ops [] σ s K) : reg ops s K := ⟨[], σ, h, k⟩
theorem draw_introX {ops : Array Oper} {s : St} {K : St → Prop} (D : List Nat) (σ : List (Nat × Bool)) (h : drawOK ops (masks ops) σ [] = true) (k : xdr tab (CallS Try.prog) ops D σ s K) : reg ops s K := ⟨D, σ, h, k⟩

def U (bs : List UInt8) : List T := bs.map fun c => T.int .u8 c.toNat
theorem U_len (bs : List UInt8) : (U bs).length = bs.length := by simp [U]
theorem U_drop (bs : List UInt8) (n : Nat) : (U bs).drop n = U (bs.drop n) := by simp [U, List.map_drop]
theorem U_take (bs : List UInt8) (n : Nat) : (U bs).take n = U (bs.take n) := by simp [U, List.map_take]
theorem U_get (bs : List UInt8) (k : Nat) (h : k < bs.length) : (U bs)[k]? = some (.int .u8 (bs[k]'h).toNat) := by simp [U, List.getElem?_map, h]

theorem size_runs (n : Int) : Runs Try.prog 20 [.int .i64 n] (.t (.bool (decide (1 ≤ n ∧ n ≤ 8)))) := by
  refine Runs.of_call ?_ rfl
  refine CallS.of_fn tab_ok reg_ok Try.func20 rfl rfl ?_
  refine br_intro (fun h => ?_) (fun h => ?_)
  · have h := of_decide_eq_true h
    refine And.intro ?_ rfl
    simp only [show (1 ≤ n) by omega, true_and]
    rfl
  · have h := of_decide_eq_false h
    refine And.intro ?_ rfl
    simp only [show ¬ (1 ≤ n) by omega, false_and, decide_false]
    rfl

theorem within_runs (bs : List UInt8) (hb : bs.length ≤ 9223372036854775807) (at_ n : Int) (hn : 0 ≤ n ∧ n ≤ 8) :
    Runs Try.prog 21 [.vec 1 (U bs), .int .i64 at_, .int .i64 n] (.t (.bool (decide (0 ≤ at_ ∧ at_ + n ≤ bs.length)))) := by
  refine Runs.of_call ?_ rfl
  refine CallS.of_fn tab_ok reg_ok Try.func21 rfl rfl ?_
  refine br_intro (fun h => ?_) (fun h => ?_)
  · have h := of_decide_eq_true h
    refine And.intro ?_ rfl
    rw [U_len, i64_in _ (by omega)]
    simp only [show (0 ≤ at_) by omega, true_and, show (at_ + n ≤ bs.length) ↔ at_ ≤ bs.length - n by omega]
    rfl
  · have h := of_decide_eq_false h
    refine And.intro ?_ rfl
    simp only [show ¬ (0 ≤ at_) by omega, false_and, decide_false]
    rfl

/-- Do n bytes from 'at' on lie there? -/
def There (len : Nat) (at_ n : Int) : Prop := (1 ≤ n ∧ n ≤ 8) ∧ 0 ≤ at_ ∧ at_ + n ≤ len
instance (len at_ n) : Decidable (There len at_ n) := by unfold There; infer_instance

def part (bs : List UInt8) (at_ n : Int) : List UInt8 := (bs.drop at_.toNat).take n.toNat

def getR (bs : List UInt8) (at_ n : Int) : AV :=
  if There bs.length at_ n then .tup [.t (.int .u64 (le (part bs at_ n))), .t (.int .i64 0)] else .tup [.t (.int .u64 0), .t (.int .i64 21)]

theorem get_runs (bs : List UInt8) (hb : bs.length ≤ 9223372036854775807) (at_ n : Int) : Runs Try.prog 13 [.vec 1 (U bs), .int .i64 at_, .int .i64 n] (getR bs at_ n) := by
  refine Runs.of_call ?_ (by unfold getR; split <;> rfl)
  refine CallS.of_fn tab_ok reg_ok Try.func13 rfl rfl ?_
  refine CallS.pure (size_runs n) rfl ?_
  refine br_intro (fun h => ?_) (fun h => ?_)
  · have h : ¬ (1 ≤ n ∧ n ≤ 8) := by intro hh; simp [hh] at h
    rw [getR, if_neg (fun hh => h hh.1)]
    exact And.intro ⟨rfl, rfl, trivial⟩ rfl
  · have h : 1 ≤ n ∧ n ≤ 8 := by simpa using h
    refine CallS.pure (within_runs bs hb at_ n (by omega)) rfl ?_
    refine br_intro (fun h2 => ?_) (fun h2 => ?_)
    · have h2 : ¬ (0 ≤ at_ ∧ at_ + n ≤ bs.length) := by intro hh; simp [hh] at h2
      rw [getR, if_neg (fun hh => h2 hh.2)]
      exact And.intro ⟨rfl, rfl, trivial⟩ rfl
    · have h2 : 0 ≤ at_ ∧ at_ + n ≤ bs.length := by simpa using h2
      rw [getR, if_pos ⟨h, h2⟩]
      have hsum : IntKind.i64.wrap (at_ + n) = at_ + n := i64_in _ (by omega)
      have hpart : ((U bs).drop at_.toNat).take ((at_ + n).toNat - at_.toNat) = U (part bs at_ n) := by
        rw [U_drop, U_take, part, show (at_ + n).toNat - at_.toNat = n.toNat by omega]
      have hlen : (part bs at_ n).length = n.toNat := by simp [part]; omega
      refine ck_intro (by rw [hsum, U_len]; simp; omega) ?_
      rw [hsum]
      refine ck_intro (by simp; omega) ?_
      refine loop_on (fun k : Nat => (k : Int) ≤ n) (fun k => ⟨[(8, .t (.int .u64 (le ((part bs at_ n).take k)))), (26, .t (.vec 1 (U (part bs at_ n)))), (27, .t (.int .i64 n)), (28, .t (.int .i64 k))], []⟩)
        (fun k => n.toNat - k) 0 (by omega) (weak_of ⟨rfl, ?_, ?_, rfl, trivial⟩ rfl) (fun k hk => ?_)
      · exact congrArg (fun x => AV.t (.vec 1 x)) hpart
      · have : ((((U bs).drop at_.toNat).take ((at_ + n).toNat - at_.toNat)).length : Int) = n := by rw [hpart, U_len, hlen]; omega
        exact congrArg (fun x => AV.t (.int .i64 x)) this
      · refine br_intro (fun h3 => ?_) (fun h3 => ?_)
        · have h3 := of_decide_eq_true h3
          have hk2 : k < (part bs at_ n).length := by omega
          refine opt_intro (U_get _ k hk2) ?_
          have hm : IntKind.i64.wrap (8 * (k : Int)) = ((8 * k : Nat) : Int) := by rw [i64_in _ (by omega)]; omega
          refine ck_intro (by rw [hm]; simp; omega) ?_
          rw [hm]
          refine ⟨⟨k + 1, by omega⟩, weak_of ⟨?_, rfl, rfl, ?_, trivial⟩ rfl, by show n.toNat - (k + 1) < n.toNat - k; omega⟩
          · exact congrArg (fun x => AV.t (.int .u64 x)) (or_step _ _ hk2 (by omega))
          · exact congrArg (fun x => AV.t (.int .i64 x)) (by rw [i64_in _ (by omega)]; rfl)
        · have h3 := of_decide_eq_false h3
          refine And.intro ⟨?_, rfl, trivial⟩ rfl
          have : (part bs at_ n).take k = part bs at_ n := List.take_of_length_le (by omega)
          rw [this]
          rfl

def upOK (n to : Int) : Prop := (1 ≤ to ∧ to ≤ 1073741824 ∧ ∃ j, to.toNat = 2 ^ j) ∧ 0 ≤ n ∧ n ≤ 1099511627776

noncomputable def upR (n to : Int) : AV :=
  open Classical in if upOK n to then .tup [.t (.int .i64 (if n % to = 0 then n else n - n % to + to)), .t (.int .i64 0)] else .tup [.t (.int .i64 0), .t (.int .i64 25)]

theorem up_runs (n to : Int) (hto : -9223372036854775808 ≤ to) : Runs Try.prog 9 [.int .i64 n, .int .i64 to] (upR n to) := by
  refine Runs.of_call ?_ (by unfold upR; split <;> rfl)
  refine CallS.of_fn tab_ok reg_ok Try.func9 rfl rfl ?_
  refine br_intro (fun h => ?_) (fun h => ?_)
  · have h := of_decide_eq_true h
    rw [upR, if_neg (fun hh => by have := hh.1.1; omega)]
    exact And.intro ⟨rfl, rfl, trivial⟩ rfl
  have h := of_decide_eq_false h
  refine br_intro (fun h2 => ?_) (fun h2 => ?_)
  · have h2 := of_decide_eq_true h2
    rw [upR, if_neg (fun hh => by have := hh.1.2.1; omega)]
    exact And.intro ⟨rfl, rfl, trivial⟩ rfl
  have h2 := of_decide_eq_false h2
  have hs : IntKind.i64.wrap (to - 1) = to - 1 := i64_in _ (by omega)
  have hpow := and_pred (x := to.toNat) (by omega)
  have hand : bitsOp .and .i64 to (IntKind.i64.wrap (to - 1)) = ((to.toNat &&& (to.toNat - 1) : Nat) : Int) := by rw [hs]; exact i64_and_pred (by omega) (by omega)
  refine br_intro (fun h3 => ?_) (fun h3 => ?_)
  · have h3 : ¬ (∃ j, to.toNat = 2 ^ j) := fun hj => by
      have := hpow.2 hj
      rw [this] at hand
      change (bitsOp .and .i64 to (IntKind.i64.wrap (to - 1)) != 0) = true at h3
      rw [hand] at h3
      cases h3
    rw [upR, if_neg (fun hh => h3 hh.1.2.2)]
    exact And.intro ⟨rfl, rfl, trivial⟩ rfl
  have h3 : ∃ j, to.toNat = 2 ^ j := by
    apply hpow.1
    change (bitsOp .and .i64 to (IntKind.i64.wrap (to - 1)) != 0) = false at h3
    rw [hand] at h3
    simp at h3
    omega
  refine br_intro (fun h4 => ?_) (fun h4 => ?_)
  · have h4 := of_decide_eq_true h4
    rw [upR, if_neg (fun hh => by have := hh.2.1; omega)]
    exact And.intro ⟨rfl, rfl, trivial⟩ rfl
  have h4 := of_decide_eq_false h4
  refine br_intro (fun h5 => ?_) (fun h5 => ?_)
  · have h5 := of_decide_eq_true h5
    rw [upR, if_neg (fun hh => by have := hh.2.2; omega)]
    exact And.intro ⟨rfl, rfl, trivial⟩ rfl
  have h5 := of_decide_eq_false h5
  rw [upR, if_pos ⟨⟨by omega, by omega, h3⟩, by omega, by omega⟩]
  refine And.intro ⟨?_, rfl, trivial⟩ rfl
  have e : bitsOp .andNot .i64 (IntKind.i64.wrap (IntKind.i64.wrap (n + to) - 1)) (IntKind.i64.wrap (to - 1)) = if n % to = 0 then n else n - n % to + to := by
    rw [hs, i64_in (n + to) (by omega), i64_in _ (by omega)]
    exact up_pow (by omega) (by omega) (by omega) h3
  rw [← e]
  rfl

end Go.Proofs.Ytddigcnpapfpjaa
