/-
  The ground of the walks of this seat, part JG.
-/
import Derived.Test.YtnjmeadmkbkikaaGreatDoorJf
namespace Go.Proofs.YtnjmeadmkbkikaaGreatDoor
open Go.IntWalk
set_option maxRecDepth 100000
set_option linter.unusedVariables false
set_option linter.unusedSimpArgs false
set_option maxHeartbeats 1000000

theorem fits_uniq {d : DescD} (hok : CheckOK d) {i j : Nat} {f g : FormD} (hf : d.forms[i]? = some f) (hg : d.forms[j]? = some g) {b : List UInt8} (h1 : FitsP d f b) (h2 : FitsP d g b) : i = j := by
  have hF := hok.forms f (List.mem_of_getElem? hf)
  have hG := hok.forms g (List.mem_of_getElem? hg)
  rcases Nat.lt_trichotomy i j with h | h | h
  · exact (apart_law hF hG (hok.apart i j f g h hf hg) h1 h2).elim
  · exact h
  · exact (apart_law hG hF (hok.apart j i g f h hg hf) h2 h1).elim
theorem bitOf_app {B more : List UInt8} {q : Nat} (h : q < 8 * B.length) : bitOf (B ++ more) q = bitOf B q := by
  unfold bitOf; rw [List.getElem?_append_left (by omega)]
theorem hasC_K {d : DescD} {c : Int} {k : ClassD} {v : Int} (hk : at? d.classes c = some k) : hasC d c v = hasK k v := by rw [hasC, hk]
/-- The bits of an operand in bytes that were made. -/
theorem enc_num {d : DescD} {f : FormD} (hG : GoodF d f) {V : List Int} {B : List UInt8} {W : Nat → Bool} (hlen : 8 * B.length = (formBits d f).length) (hW : ∀ q, q < 8 * B.length → W q = outB d f V q)
    {i : Nat} {a : ArgD} {k : ClassD} {v : Int} (ha : f.args[i]? = some a) (hk : at? d.classes a.cls = some k) (hv : V[i]? = some v) : IsNum (formBits d f) i W (encN k v % 2 ^ k.bits.toNat) := fun m => by
  have hil := (List.getElem?_eq_some_iff.1 ha).1
  have hop : opN d f V i = encN k v := opN_eq ha hk hv
  have hb : 1 ≤ k.bits ∧ k.bits ≤ 64 := by
    obtain ⟨k', hk', hok⟩ := hG.aok a (List.mem_of_getElem? ha)
    rw [hk] at hk'; cases hk'
    rcases hok with h | h | h <;> omega
  rw [Nat.testBit_mod_two_pow, Bool.and_eq_true, decide_eq_true_iff]
  constructor
  · rintro ⟨h1, h2⟩
    obtain ⟨p, y, hy, hya, hyn⟩ := hG.pos ha hk (m := m) (by omega)
    refine ⟨p, y, hy, hya, hyn, ?_⟩
    rw [hW p (by rw [hlen]; exact (List.getElem?_eq_some_iff.1 hy).1), outB_op hG hy hya hyn hil, hop]; exact h2
  · rintro ⟨p, y, hy, hya, hyn, h⟩
    rw [hW p (by rw [hlen]; exact (List.getElem?_eq_some_iff.1 hy).1), outB_op hG hy hya hyn hil, hop] at h
    refine ⟨?_, h⟩
    rcases hG.is_ hy with ⟨e, _⟩ | ⟨_, j, a', k', n, e1, e2, e3, e4, e5, _⟩
    · omega
    · have : j = i := by omega
      subst this
      rw [ha] at e2; cases e2
      rw [hk] at e3; cases e3
      omega
/-- The bytes of right values, with any behind them, fit, and have these values. -/
theorem enc_fits {d : DescD} {f : FormD} (hG : GoodF d f) {V : List Int} (hV : ∀ v ∈ V, I64 v) (hl : V.length = f.args.length) (hall : HasAll d f V) {B more : List UInt8} (hlen : 8 * B.length = (formBits d f).length) (hB : ∀ q, q < 8 * B.length → bitOf B q = outB d f V q) :
    FitsP d f (B ++ more) ∧ ∀ V', FitV d f (bytB (B ++ more) (min (B ++ more).length 15)) V' → V' = V := by
  have h120 := hG.len120
  have hW : ∀ q, q < 8 * B.length → bitOf (B ++ more) q = outB d f V q := fun q hq => by rw [bitOf_app hq, hB q hq]
  have hval : ∀ (i : Nat) a k n, f.args[i]? = some a → at? d.classes a.cls = some k → IsNum (formBits d f) i (bitOf (B ++ more)) n → ∃ v, V[i]? = some v ∧ valueV k n = v ∧ v ∉ k.excl := fun i a k n ha hk hn => by
    have hil := (List.getElem?_eq_some_iff.1 ha).1
    obtain ⟨v, hv, hvm⟩ := get_some (R := V) (i := i) (by omega)
    obtain ⟨k', hk', hok⟩ := hG.aok a (List.mem_of_getElem? ha)
    rw [hk] at hk'; cases hk'
    have hh : hasK k v = true := by rw [← hasC_K hk]; exact hall i a v ha hv
    rw [hn.uniq (enc_num hG hlen hW ha hk hv), dec_enc hok (hV v hvm) hh]
    exact ⟨v, hv, rfl, hasK_mem hh⟩
  refine ⟨⟨by rw [List.length_append]; omega, fun p x hx => ?_, fun i a k n ha hk hn => ?_⟩, fun V' hV' => ?_⟩
  · have hp := (List.getElem?_eq_some_iff.1 hx).1
    rw [hW p (by omega)]
    rcases hG.is_ hx with ⟨e, _, _⟩ | ⟨e, _⟩
    · rw [outB_lit hG hx (by omega)]
      exact ⟨fun h => by simp [h], fun h => by simp [h]⟩
    · exact ⟨fun h => by omega, fun h => by omega⟩
  · obtain ⟨v, _, h1, h2⟩ := hval i a k n ha hk hn
    rw [h1]; exact h2
  · apply List.ext_getElem?
    intro i
    by_cases hi : i < f.args.length
    · obtain ⟨a, ha, ham⟩ := get_some (R := f.args) (i := i) hi
      obtain ⟨k, hk, _⟩ := hG.aok a ham
      obtain ⟨v', hv', _⟩ := get_some (R := V') (i := i) (by rw [hV'.1]; exact hi)
      obtain ⟨n, _, h2, h3, _⟩ := hV'.2 i a k v' ha hk hv'
      obtain ⟨v, hv, h4, _⟩ := hval i a k n ha hk (h2.congr fun p x hx _ => by
        have hp := (List.getElem?_eq_some_iff.1 hx).1
        unfold bytB; rw [List.length_append]; simp only [show p < 8 * min (B.length + more.length) 15 by omega, decide_true, Bool.true_and])
      rw [hv', hv, h3, h4]
    · rw [List.getElem?_eq_none (by rw [hV'.1]; omega), List.getElem?_eq_none (by omega)]
/-- The values that bytes have are right. -/
theorem dec_all {d : DescD} {f : FormD} (hG : GoodF d f) {W : Nat → Bool} {V : List Int} (hV : FitV d f W V) : (∀ v ∈ V, I64 v) ∧ HasAll d f V := by
  have key : ∀ (j : Nat) a k v, f.args[j]? = some a → at? d.classes a.cls = some k → V[j]? = some v → I64 v ∧ hasK k v = true := fun j a k v ha hk hv => by
    obtain ⟨n, h1, h2, h3, h4⟩ := hV.2 j a k v ha hk hv
    obtain ⟨k', hk', hok⟩ := hG.aok a (List.mem_of_getElem? ha)
    rw [hk] at hk'; cases hk'
    subst h3
    have := enc_dec hok h1 h4
    exact ⟨this.1, this.2.1⟩
  constructor
  · intro v hv
    obtain ⟨j, hj⟩ := List.mem_iff_getElem?.1 hv
    have hjl := (List.getElem?_eq_some_iff.1 hj).1
    obtain ⟨a, ha, ham⟩ := get_some (R := f.args) (i := j) (by rw [← hV.1]; exact hjl)
    obtain ⟨k, hk, _⟩ := hG.aok a ham
    exact (key j a k v ha hk hj).1
  · intro j a v ha hv
    obtain ⟨k, hk, _⟩ := hG.aok a (List.mem_of_getElem? ha)
    rw [hasC_K hk]; exact (key j a k v ha hk hv).2
theorem byte_ext {x y : UInt8} (h : ∀ r, r < 8 → x.toNat.testBit r = y.toNat.testBit r) : x = y := by
  apply UInt8.toNat_inj.1
  refine Nat.eq_of_testBit_eq fun r => ?_
  by_cases hr : r < 8
  · exact h r hr
  · have big : ∀ z : UInt8, z.toNat.testBit r = false := fun z => Nat.testBit_lt_two_pow (Nat.lt_of_lt_of_le (show z.toNat < 2 ^ 8 from z.toNat_lt) (Nat.pow_le_pow_right (by decide) (by omega)))
    rw [big, big]
theorem bytes_ext {B b : List UInt8} (hl : B.length ≤ b.length) (h : ∀ q, q < 8 * B.length → bitOf B q = bitOf b q) : B = b.take B.length := by
  apply List.ext_getElem?
  intro i
  by_cases hi : i < B.length
  · obtain ⟨x, hx, _⟩ := get_some (R := B) (i := i) hi
    obtain ⟨y, hy, _⟩ := get_some (R := b) (i := i) (by omega)
    rw [List.getElem?_take_of_lt hi, hx, hy]
    refine congrArg some (byte_ext fun r hr => ?_)
    have := h (8 * i + r) (by omega)
    unfold bitOf at this
    rw [show (8 * i + r) / 8 = i by omega, show (8 * i + r) % 8 = r by omega, hx, hy] at this
    exact this
  · rw [List.getElem?_eq_none (by omega), List.getElem?_eq_none (by simp; omega)]
/-- What bytes are decoded to is encoded to the same bits, but for those that don't count. -/
theorem back_bits {d : DescD} {f : FormD} (hG : GoodF d f) {b : List UInt8} (hfit : FitsP d f b) {V : List Int} (hV : FitV d f (bytB b (min b.length 15)) V) {q : Nat} {y : BitD} (hy : (formBits d f)[q]? = some y) (hl : y.lit ≠ 120) : outB d f V q = bitOf b q := by
  have h120 := hG.len120
  have hq := (List.getElem?_eq_some_iff.1 hy).1
  have hlen := hfit.1
  have hb : bytB b (min b.length 15) q = bitOf b q := by unfold bytB; simp only [show q < 8 * min b.length 15 by omega, decide_true, Bool.true_and]
  have h1 := hfit.2.1 q y hy
  rcases hG.is_ hy with ⟨e, _, hll⟩ | ⟨hl0, j, a, k, m, e1, e2, e3, e4, e5, hok⟩
  · rw [outB_lit hG hy (by omega)]
    rcases hll with e | e | e
    · rw [h1.1 e]; simp [e]
    · rw [h1.2 e]; simp [e]
    · exact absurd e hl
  · have hjl := (List.getElem?_eq_some_iff.1 e2).1
    obtain ⟨v, hv, _⟩ := get_some (R := V) (i := j) (by rw [hV.1]; exact hjl)
    obtain ⟨n, n1, n2, n3, n4⟩ := hV.2 j a k v e2 e3 hv
    subst n3
    have hed := (enc_dec hok n1 n4).2.2
    rw [outB_op hG hy e1 e4 hjl, opN_eq e2 e3 hv, ← hb]
    have ht : (encN k (valueV k n)).testBit m = n.testBit m := by
      have := congrArg (fun z => Nat.testBit z m) hed
      simp only [Nat.testBit_mod_two_pow] at this
      rw [decide_eq_true (show m < k.bits.toNat by omega), Bool.true_and] at this
      exact this
    rw [ht, Bool.eq_iff_iff, n2 m]
    constructor
    · rintro ⟨p, z, h2, h3, h4, h5⟩
      by_cases hpq : p = q
      · subst hpq; exact h5
      · exact (hG.apartBits h2 hy hpq (by omega) ⟨by omega, by omega⟩).elim
    · intro h; exact ⟨q, y, hy, e1, e4, h⟩

end Go.Proofs.YtnjmeadmkbkikaaGreatDoor

namespace Go.Proofs.YtnjmeadmkbkikaaGreatDoor
open Go.IntWalk
set_option maxRecDepth 100000
set_option linter.unusedVariables false
set_option linter.unusedSimpArgs false
set_option maxHeartbeats 4000000

def ord_16_6 : Ord := (.op 0 [] (.op 1 [] (.op 2 [1, 0] (.op 3 [] (.op 4 [] (.op 5 [4, 3, 2, 1, 0] (.op 6 [4, 3, 2, 1, 0] (.op 7 [6, 5, 4, 3, 2, 1, 0] (.op 8 [4, 3, 2, 1, 0] (.op 9 [4, 3, 2, 1, 0] (.op 10 [] .nil)))))))))))
theorem isame_runs (fm : Int) (V : List Int) (hV : V.length ≤ 9223372036854775806) : Runs Tryz.prog 16 [insnT fm V, insnT fm V] (.t (.bool true)) := by
  have hVl : (V.map (T.int .i64)).length = V.length := List.length_map _
  refine Runs.of_call ?_ rfl
  refine CallS.of_fn tabS_ok regS_ok Tryz.func16 rfl rfl ?_
  refine br_intro (fun c => absurd c (by simp)) (fun _ => ?_)
  refine br_intro (fun c => absurd c (by simp)) (fun _ => ?_)
  refine loop_on (fun j : Nat => j ≤ V.length) (fun j => ⟨[(2, .ptr 0 0 0 0), (3, .ptr 1 0 0 0), (22, .t (.int .i64 (((V.map (T.int .i64)).length : Nat) : Int))), (23, .t (.int .i64 ((j : Nat) : Int)))], [.box [.t (.int .i64 fm), .t (.vecd 1 (V.map (T.int .i64)))], .box [.t (.int .i64 fm), .t (.vecd 1 (V.map (T.int .i64)))]]⟩) (fun j => V.length - j) 0 (Nat.zero_le _) ?_ (fun j hj => ?_)
  · exact weak_of ⟨rfl, rfl, rfl, rfl, trivial⟩ rfl
  refine br_intro (fun c => ?_) (fun c => ?_)
  rotate_left 1
  · exact And.intro rfl rfl
  have c : j < V.length := by have := dlt c; omega
  obtain ⟨v, hv, _⟩ := get_some (R := V) (i := j) c
  have gv : (V.map (T.int .i64))[((j : Nat) : Int).toNat]? = some (.int .i64 v) := by rw [Int.toNat_natCast, List.getElem?_map, hv]; rfl
  refine draw_introS ord_16_6 (by decide +kernel) ?_
  refine opt_intro gv ?_
  refine opt_intro gv ?_
  refine br_intro (fun c => absurd c (by simp)) (fun _ => ?_)
  refine st_intro (n := ((j + 1 : Nat) : Int)) (nat_in (n := j + 1) (by omega)) ?_
  conv => whnf
  exact ⟨⟨j + 1, c⟩, weak_of ⟨rfl, rfl, rfl, rfl, trivial⟩ rfl, by show V.length - (j + 1) < V.length - j; omega⟩

theorem bsame_runs (B : List UInt8) : Runs Tryz.prog 33 [.vecd 1 (bytesT B), .vecd 1 (bytesT B)] (.t (.bool true)) := by
  refine Runs.of_call ?_ rfl
  refine CallS.of_fn tabS_ok regS_ok Tryz.func33 rfl rfl ?_
  refine ⟨B, rfl, ?_⟩
  refine ⟨B, rfl, ?_⟩
  exact And.intro (congrArg (fun b => some (T.bool b)) (show (B == B) = true by simp)) rfl

theorem canon_runs (d : DescD) (P : List PatD) (root : T) {i : Nat} {p : PatD} (hp : P[i]? = some p) : Runs Tryz.prog 49 [codT d P root, .int .i64 i] (.t (.bool (!p.lz))) := by
  have hil := (List.getElem?_eq_some_iff.1 hp).1
  have hPl : (P.map PatD.t).length = P.length := List.length_map _
  have gp : (P.map PatD.t)[((i : Nat) : Int).toNat]? = some p.t := by rw [Int.toNat_natCast, List.getElem?_map, hp]; rfl
  refine Runs.of_call ?_ rfl
  refine CallS.of_fn tabS_ok regS_ok Tryz.func49 rfl rfl ?_
  refine br_intro (fun _ => ?_) (fun c => ?_)
  rotate_left 1
  · exact absurd (of_decide_eq_false c) (by omega)
  refine opt_intro gp ?_
  exact And.intro rfl rfl

end Go.Proofs.YtnjmeadmkbkikaaGreatDoor

namespace Go.Proofs.YtnjmeadmkbkikaaGreatDoor
open Go.IntWalk
set_option maxRecDepth 100000
set_option linter.unusedVariables false
set_option linter.unusedSimpArgs false
set_option maxHeartbeats 4000000

theorem fitsB1 {n : Nat} (h : n ≤ 1000000000000) : fitsRow n 1 = true := by simp [fitsRow]; omega
theorem copyB_sub {b : List UInt8} {n : Nat} (h : n = b.length) : ((([] : List T) ++ bytesT b).drop 0).take n = bytesT b := by
  rw [List.nil_append, List.drop_zero, List.take_of_length_le (by unfold bytesT; rw [List.length_map]; omega)]

theorem forth_runs (d : DescD) (hd : d.ok) (hcl : d.classes.length ≤ 2000000) (hse : ∀ k ∈ d.classes, k.excl.length ≤ 2000000) (P : List PatD) (root : TreeD) (hC : CodecOK d P root) (b : List UInt8) (hbl : b.length ≤ 1000000000) :
    Runs Tryz.prog 19 [codT d P root.t, .vecd 1 (bytesT b)] (.t (.bool true)) := by
  have hbt : (bytesT b).length = b.length := List.length_map _
  refine Runs.of_call ?_ rfl
  refine CallS.of_fn tabS_ok regS_ok Tryz.func19 rfl rfl ?_
  refine Or.inl (And.intro rfl (ck_intro (fitsB1 (n := 0 + (bytesT b).length) (by omega)) ?_))
  refine CallS.frzX (decode_runs d hd hcl hse P root hC b (by omega)) rfl ⟨.refl _, ?_, trivial⟩ ?_
  · rw [copyB_sub (n := 0 + (Sq.ts (bytesT b)).length) (show 0 + (bytesT b).length = b.length by omega)]; exact .vec 1 _
  rintro _ (⟨i, f, V, hf, hfit, hV, rfl⟩ | ⟨hno, rfl⟩)
  rotate_left 1
  · exact And.intro rfl rfl
  have hfm := List.mem_of_getElem? hf
  have hG := hC.ok.forms f hfm
  have h120 := hG.len120
  have h8 : (formBits d f).length % 8 = 0 ∧ 8 ≤ (formBits d f).length := by rw [formBits_len]; exact ⟨hG.m8, hG.ge⟩
  obtain ⟨p, hp, _, _, hpm⟩ := hC.pat hf
  obtain ⟨hV64, hall⟩ := dec_all hG hV
  obtain ⟨N, hN⟩ : ∃ N, N = (formBits d f).length / 8 := ⟨_, rfl⟩
  have hNb : N ≤ b.length := by have := hfit.1; omega
  have hfl := hC.ok.parts.fl
  have hil := (List.getElem?_eq_some_iff.1 hf).1
  rw [← hN]
  refine br_intro (fun c => ?_) (fun _ => ?_)
  · have c := of_decide_eq_true c; omega
  refine br_intro (fun c => ?_) (fun _ => ?_)
  · have c := of_decide_eq_true c; omega
  refine br_intro (fun c => ?_) (fun _ => ?_)
  · have c := of_decide_eq_true c; omega
  refine CallS.frzX (encode_runs d hd hcl hse P root hC i (show I64 (i : Int) by unfold I64; omega) V hV64) rfl ⟨.refl _, .refl _, trivial⟩ ?_
  rintro _ (⟨hn, rfl⟩ | ⟨i', f', e1, e2, _, hn, rfl⟩ | ⟨i', f', B, e1, e2, _, _, hBl, hB, rfl⟩)
  · exact absurd hV.1 (hn i f rfl hf)
  · have : i' = i := by omega
    subst this
    rw [hf] at e2; cases e2
    exact absurd hall hn
  have : i' = i := by omega
  subst this
  rw [hf] at e2; cases e2
  have hBN : B.length = N := by omega
  have hBt : (bytesT B).length = B.length := List.length_map _
  refine br_intro (fun c => ?_) (fun _ => ?_)
  · rw [hBt, hBN] at c; simp at c
  have hfits := enc_fits hG hV64 hV.1 hall (more := []) hBl hB
  rw [List.append_nil] at hfits
  refine CallS.frzX (decode_runs d hd hcl hse P root hC B (by omega)) rfl ⟨.refl _, .refl _, trivial⟩ ?_
  rintro _ (⟨i2, f2, V2, hf2, hfit2, hV2, rfl⟩ | ⟨hno, rfl⟩)
  rotate_left 1
  · exact absurd hfits.1 (hno _ f hf)
  obtain rfl := fits_uniq hC.ok hf hf2 hfits.1 hfit2
  rw [hf] at hf2; cases hf2
  obtain rfl := hfits.2 V2 hV2
  rw [← hN]
  refine br_intro (fun _ => ?_) (fun c => ?_)
  rotate_left 1
  · simp at c
  refine CallS.frzG (isame_runs (i' : Int) V2 (by rw [hV.1]; have := hG.args; omega)) rfl ⟨.refl _, .refl _, trivial⟩ ?_
  refine CallS.pure (canon_runs d P root.t hp) rfl ?_
  obtain ⟨lz, hlz⟩ : ∃ lz, lz = p.lz := ⟨_, rfl⟩
  rw [← hlz]
  cases hlzc : lz
  · have hno : ∀ (q : Nat) (y : BitD), (formBits d f)[q]? = some y → y.lit ≠ 120 := fun q y hy e => by
      have := hpm.loose.2 ⟨q, y, hy, e⟩
      rw [← hlz, hlzc] at this; cases this
    have hBb : B = b.take N := by
      rw [← hBN]
      refine bytes_ext (by omega) fun q hq => ?_
      obtain ⟨y, hy, _⟩ := get_some (R := formBits d f) (i := q) (by omega)
      rw [hB q hq, back_bits hG hfit hV hy (hno q y hy)]
    have hck : (decide (0 ≤ ((N : Nat) : Int)) && decide (((N : Nat) : Int) ≤ (((bytesT b).length : Nat) : Int))) = true := by rw [hbt]; simp; omega
    refine ck_intro hck ?_
    refine CallS.frzG (bsame_runs B) rfl ⟨.refl _, ?_, trivial⟩ ?_
    · rw [hBb]
      unfold bytesT
      rw [List.map_take]
      exact .refl _
    exact And.intro rfl rfl
  · exact And.intro rfl rfl

end Go.Proofs.YtnjmeadmkbkikaaGreatDoor

namespace Go.Proofs.YtnjmeadmkbkikaaGreatDoor
open Go.IntWalk
set_option maxRecDepth 100000
set_option linter.unusedVariables false
set_option linter.unusedSimpArgs false
set_option maxHeartbeats 4000000

def ordk_4_6 : Ord := (.op 0 [] (.op 1 [0] (.op 2 [0] (.op 3 [2, 1, 0] (.op 4 [3, 2, 1, 0] (.op 5 [3, 2, 1, 0] (.op 6 [2, 1, 0] (.op 7 [0] (.op 8 [] (.op 9 [] (.op 10 [] (.op 11 [10] (.op 12 [11] (.op 13 [] .nil))))))))))))))
def ordk_4_7 : Ord := (.op 0 [] (.op 1 [] (.op 2 [] (.op 3 [] (.op 4 [] (.op 5 [] (.op 6 [5, 4] (.op 7 [5, 4] (.op 8 [5, 4] (.op 9 [] (.op 10 [] (.op 11 [] (.op 12 [] (.op 13 [] (.op 14 [] (.op 15 [14, 13, 12] (.op 16 [14, 13, 12] (.op 17 [16, 15, 14, 13, 12] (.op 18 [16, 15, 14, 13, 12] (.op 19 [14, 13, 12] (.op 20 [14, 13, 12] (.op 21 [14, 13, 12] (.op 22 [14, 13, 12] (.op 23 [] (.op 24 [] .nil)))))))))))))))))))))))))
def ordk_4_13 : Ord := (.op 0 [] (.op 1 [] (.op 2 [] (.op 3 [2] (.op 4 [2] (.op 5 [4, 3, 2] (.op 6 [4, 3, 2] (.op 7 [6, 5, 4, 3, 2] (.op 8 [4, 3, 2] (.op 9 [4, 3, 2] (.op 10 [] (.op 11 [] (.op 12 [] .nil)))))))))))))
def dS2 (l : List Nat) (j : Nat) : List Nat := if l.contains j then [2] else []
theorem forthRuns (halive : Runs Tryz.prog 11 [] (.t (.bool true))) (d : DescD) (hd : d.ok) (hs : ∀ f ∈ d.forms, sumL f.pieces ≤ 2000000000000) (hsc : d.classes.length ≤ 2000000) (hse : ∀ k ∈ d.classes, k.excl.length ≤ 2000000) (b : List UInt8) (hbl : b.length ≤ 1000000000) :
    Runs Tryz.prog 7 [descT d, .vecd 1 (bytesT b)] (.t (.bool true)) := by
  refine Runs.of_call ?_ rfl
  refine CallS.of_fn tabS_ok regS_ok Tryz.func7 rfl rfl ?_
  refine CallS.pure halive rfl ?_
  refine CallS.frzX (new_runs d hd hs hsc hse) rfl ⟨.refl _, trivial⟩ ?_
  rintro _ (⟨e, he, rfl⟩ | ⟨P, root, hok, hPl, hP, hfind, rfl⟩)
  · refine br_intro (fun c1 => ?_) (fun c1 => ?_)
    · exact And.intro rfl rfl
    · exact absurd (by simpa using c1) he
  refine CallS.pure (forth_runs d hd hsc hse P root ⟨hok, hPl, hP, hfind⟩ b hbl) rfl ?_
  exact And.intro rfl rfl

theorem copyI_sub {V : List Int} {n : Nat} (h : n = V.length) : ((([] : List T) ++ V.map (T.int .i64)).drop 0).take n = V.map (T.int .i64) := by
  rw [List.nil_append, List.drop_zero, List.take_of_length_le (by rw [List.length_map]; omega)]

theorem backRuns (halive : Runs Tryz.prog 11 [] (.t (.bool true))) (d : DescD) (hd : d.ok) (hs : ∀ f ∈ d.forms, sumL f.pieces ≤ 2000000000000) (hsc : d.classes.length ≤ 2000000) (hse : ∀ k ∈ d.classes, k.excl.length ≤ 2000000) (fm : Int) (hfm : I64 fm) (V : List Int) (hV : ∀ v ∈ V, I64 v) (hVl : V.length ≤ 1000000000) (more : List UInt8) (hml : more.length ≤ 1000000000) :
    Runs Tryz.prog 4 [descT d, insnT fm V, .vecd 1 (bytesT more)] (.t (.bool true)) := by
  have hVm : (V.map (T.int .i64)).length = V.length := List.length_map _
  have hfml : (d.forms.map formT).length = d.forms.length := List.length_map _
  refine Runs.of_call ?_ rfl
  refine CallS.of_fn tabS_ok regS_ok Tryz.func4 rfl rfl ?_
  refine CallS.pure halive rfl ?_
  refine CallS.frzX (new_runs d hd hs hsc hse) rfl ⟨.refl _, trivial⟩ ?_
  rintro _ (⟨e, he, rfl⟩ | ⟨P, root, hok, hPl, hP, hfind, rfl⟩)
  · refine br_intro (fun c1 => ?_) (fun c1 => ?_)
    · exact And.intro rfl rfl
    · exact absurd (by simpa using c1) he
  have hC : CodecOK d P root := ⟨hok, hPl, hP, hfind⟩
  refine draw_introXS (dS2 [0, 1, 2]) ordk_4_6 (by decide +kernel) ?_
  refine Or.inl (And.intro rfl (ck_intro (fits8 (n := 0 + (V.map (T.int .i64)).length) (by omega)) ?_))
  refine And.intro (fun j hj => by
    simp only [List.mem_cons, List.not_mem_nil, or_false] at hj
    rcases hj with rfl | rfl | rfl <;> exact LeX.set _ (List.mem_singleton.2 rfl)) ?_
  refine CallS.frzX (encode_runs d hd hsc hse P root hC fm hfm V hV) rfl ⟨.refl _, SubT.aggS ⟨.refl _, ?_, trivial⟩, trivial⟩ ?_
  · rw [copyI_sub (n := 0 + (Sq.ts (V.map (T.int .i64))).length) (show 0 + (V.map (T.int .i64)).length = V.length by omega)]; exact .vec 1 _
  intro r hr
  by_cases hgood : ∃ (i : Nat) (f : FormD), fm = (i : Int) ∧ d.forms[i]? = some f ∧ V.length = f.args.length
  rotate_left 1
  · have e : r = .tup [.t (.vecd 1 []), .t (.int .i64 61)] := by
      rcases hr with ⟨_, rfl⟩ | ⟨i, f, e1, e2, e3, _, _⟩ | ⟨i, f, B, e1, e2, e3, _, _, _, _⟩
      · rfl
      · exact absurd ⟨i, f, e1, e2, e3⟩ hgood
      · exact absurd ⟨i, f, e1, e2, e3⟩ hgood
    subst e
    repeat refine And.intro (fun j hj => by first | (cases hj; done) | exact LeX.append _ _ _ | exact LeX.refl _ _) ?_
    refine draw_introXS (fun _ => []) ordk_4_7 (by decide +kernel) ?_
    refine br_intro (fun c => ?_) (fun c => ?_)
    · exact And.intro rfl rfl
    have c := of_decide_eq_false c
    obtain ⟨i, rfl⟩ := Int.eq_ofNat_of_zero_le (show 0 ≤ fm by omega)
    refine br_intro (fun c2 => ?_) (fun c2 => ?_)
    · exact And.intro rfl rfl
    have c2 : i < d.forms.length := by have := of_decide_eq_false c2; omega
    obtain ⟨f, hf, _⟩ := get_some (R := d.forms) (i := i) c2
    refine opt_intro (show (d.forms.map formT)[((i : Nat) : Int).toNat]? = some (formT f) from by rw [Int.toNat_natCast, List.getElem?_map, hf]; rfl) ?_
    refine br_intro (fun c3 => ?_) (fun c3 => ?_)
    · exact And.intro rfl rfl
    · have hal : (f.args.map argT).length = f.args.length := List.length_map _
      rw [hVm, hal] at c3
      exact absurd ⟨i, f, rfl, hf, by simp at c3; omega⟩ hgood
  obtain ⟨i, f, rfl, hf, hl⟩ := hgood
  have hfm' := List.mem_of_getElem? hf
  have hG := hok.forms f hfm'
  have hfok : f.ok := hd.2.2.2.2.2.2.2.2.2.2.2.1 f hfm'
  have h6 := hG.args
  have h120 := hG.len120
  have hil := (List.getElem?_eq_some_iff.1 hf).1
  have hal : (f.args.map argT).length = f.args.length := List.length_map _
  have gf : (d.forms.map formT)[((i : Nat) : Int).toNat]? = some (formT f) := by rw [Int.toNat_natCast, List.getElem?_map, hf]; rfl
  have hcase : (¬ HasAll d f V ∧ r = .tup [.t (.vecd 1 []), .t (.int .i64 64)]) ∨ ∃ B : List UInt8, HasAll d f V ∧ 8 * B.length = (formBits d f).length ∧ (∀ q, q < 8 * B.length → bitOf B q = outB d f V q) ∧ r = .tup [.t (.vecd 1 (bytesT B)), .t (.int .i64 0)] := by
    rcases hr with ⟨h1, _⟩ | ⟨i', f', e1, e2, _, hn, rfl⟩ | ⟨i', f', B, e1, e2, _, h1, h2, h3, rfl⟩
    · exact absurd hl (h1 i f rfl hf)
    · have : i' = i := by omega
      subst this
      rw [hf] at e2; cases e2
      exact .inl ⟨hn, rfl⟩
    · have : i' = i := by omega
      subst this
      rw [hf] at e2; cases e2
      exact .inr ⟨B, h1, h2, h3, rfl⟩
  obtain ⟨e, bs, hre, hcase⟩ : ∃ (e : Int) (bs : List T), r = .tup [.t (.vecd 1 bs), .t (.int .i64 e)] ∧ ((¬ HasAll d f V ∧ bs = [] ∧ e = 64) ∨ ∃ B : List UInt8, HasAll d f V ∧ 8 * B.length = (formBits d f).length ∧ (∀ q, q < 8 * B.length → bitOf B q = outB d f V q) ∧ bs = bytesT B ∧ e = 0) := by
    rcases hcase with ⟨h1, rfl⟩ | ⟨B, h1, h2, h3, rfl⟩
    · exact ⟨_, _, rfl, .inl ⟨h1, rfl, rfl⟩⟩
    · exact ⟨_, _, rfl, .inr ⟨B, h1, h2, h3, rfl, rfl⟩⟩
  subst hre
  repeat refine And.intro (fun j hj => by first | (cases hj; done) | exact LeX.append _ _ _ | exact LeX.refl _ _) ?_
  refine draw_introXS (fun _ => []) ordk_4_7 (by decide +kernel) ?_
  refine br_intro (fun c => ?_) (fun _ => ?_)
  · have c := of_decide_eq_true c; omega
  refine opt_intro gf ?_
  refine br_intro (fun c => ?_) (fun _ => ?_)
  · rw [hVm, hal, hl] at c; simp at c
  refine opt_intro gf ?_
  refine loop_then (fun e' s' => e' = .exit 0 ∧ ∃ (b0 : AV) (right : Bool), (right = true ↔ HasAll d f V) ∧ s' = ⟨(84, b0) :: [(2, .t (.vecd 1 (bytesT more))), (3, .ptr 0 0 0 0), (4, .ptr 1 0 0 0), (7, .t (codT d P root.t)), (8, .t (.int .i64 e)), (9, .t (.vecd 1 bs)), (10, .t (.bool right)), (81, .t (.vecd 2 (f.args.map argT))), (82, .t (.int .i64 ((f.args.map argT).length : Int))), (83, .t (.int .i64 ((f.args.length : Nat) : Int)))], [.box (descC d), .box [.t (.int .i64 ((i : Nat) : Int)), .t (.vecd 1 (V.map (T.int .i64)))]]⟩) (fun HQ' HQ => ?_) ?_
  · refine loop_on (fun s : Nat × Bool => s.1 ≤ f.args.length ∧ (s.2 = true ↔ ∀ (j : Nat) a v, j < s.1 → f.args[j]? = some a → V[j]? = some v → hasC d a.cls v = true)) (fun s => ⟨[(2, .t (.vecd 1 (bytesT more))), (3, .ptr 0 0 0 0), (4, .ptr 1 0 0 0), (7, .t (codT d P root.t)), (8, .t (.int .i64 e)), (9, .t (.vecd 1 bs)), (10, .t (.bool s.2)), (81, .t (.vecd 2 (f.args.map argT))), (82, .t (.int .i64 ((f.args.map argT).length : Int))), (83, .t (.int .i64 ((s.1 : Nat) : Int)))], [.box (descC d), .box [.t (.int .i64 ((i : Nat) : Int)), .t (.vecd 1 (V.map (T.int .i64)))]]⟩)
      (fun s => f.args.length - s.1) (0, true) ⟨Nat.zero_le _, ⟨fun _ j a v h => absurd h (Nat.not_lt_zero _), fun _ => rfl⟩⟩ ?_ (fun ⟨j, right⟩ ⟨hj, hR⟩ => ?_)
    · exact weak_gc [0, 1] rfl ⟨rfl, rfl, rfl, rfl, rfl, rfl, rfl, rfl, rfl, rfl, trivial⟩ ⟨rfl, rfl, trivial⟩
    have hj : j ≤ f.args.length := hj
    have hR : right = true ↔ ∀ (j' : Nat) a v, j' < j → f.args[j']? = some a → V[j']? = some v → hasC d a.cls v = true := hR
    refine br_intro (fun c4 => ?_) (fun c4 => ?_)
    rotate_left 1
    · have c4 : j = f.args.length := by have := dge c4; omega
      subst c4
      exact HQ _ _ ⟨rfl, _, right, ⟨fun h j a v ha hv => hR.1 h j a v (List.getElem?_eq_some_iff.1 ha).1 ha hv, fun h => hR.2 fun j a v _ ha hv => h j a v ha hv⟩, rfl⟩
    have c4 : j < f.args.length := by have := dlt c4; omega
    obtain ⟨a, ha, ham⟩ := get_some (R := f.args) (i := j) c4
    obtain ⟨v, hv, hvm⟩ := get_some (R := V) (i := j) (by omega)
    have gv : (V.map (T.int .i64))[((j : Nat) : Int).toNat]? = some (.int .i64 v) := by rw [Int.toNat_natCast, List.getElem?_map, hv]; rfl
    refine opt_intro (show (f.args.map argT)[((j : Nat) : Int).toNat]? = some (argT a) from by rw [Int.toNat_natCast, List.getElem?_map, ha]; rfl) ?_
    refine draw_introXS (fun _ => []) ordk_4_13 (by decide +kernel) ?_
    cases hrc : right
    · repeat refine And.intro (fun j hj => by first | (cases hj; done) | exact LeX.append _ _ _ | exact LeX.refl _ _) ?_
      refine st_intro (n := ((j + 1 : Nat) : Int)) (nat_in (n := j + 1) (by omega)) ?_
      conv => whnf
      refine ⟨⟨(j + 1, false), c4, ⟨(fun h => by cases h), (fun h => ?_)⟩⟩, weak_gc [0, 1] rfl ⟨rfl, rfl, rfl, rfl, rfl, rfl, rfl, rfl, rfl, rfl, trivial⟩ ⟨rfl, rfl, trivial⟩, by show f.args.length - (j + 1) < f.args.length - j; omega⟩
      have h : ∀ (j' : Nat) a v, j' < j + 1 → f.args[j']? = some a → V[j']? = some v → hasC d a.cls v = true := h
      have := hR.2 fun j' a v hj' ha hv => h j' a v (by omega) ha hv
      rw [hrc] at this; exact this
    · refine opt_intro gv ?_
      refine CallS.frzG (has_runs d hsc hse hC.ok.parts.classes P root.t a.cls v (hfok.2.2.2.1 a ham).2 (hV v hvm)) rfl ⟨.refl _, .refl _, .refl _, trivial⟩ ?_
      refine And.intro (fun j hj => by first | (cases hj; done) | exact LeX.append _ _ _ | exact LeX.refl _ _) ?_
      refine And.intro (fun j hj => by first | (cases hj; done) | exact LeX.append _ _ _ | exact LeX.refl _ _) ?_
      refine st_intro (n := ((j + 1 : Nat) : Int)) (nat_in (n := j + 1) (by omega)) ?_
      conv => whnf
      refine ⟨⟨(j + 1, hasC d a.cls v), c4, ⟨fun h => ?_, fun h => ?_⟩⟩, weak_gc [0, 1] rfl ⟨rfl, rfl, rfl, rfl, rfl, rfl, rfl, rfl, rfl, rfl, trivial⟩ ⟨rfl, rfl, trivial⟩, by show f.args.length - (j + 1) < f.args.length - j; omega⟩
      · intro j' a' v' hj' ha' hv'
        have hj' : j' < j + 1 := hj'
        by_cases hjj : j' = j
        · subst hjj
          rw [ha] at ha'; cases ha'
          rw [hv] at hv'; cases hv'
          exact h
        · exact hR.1 hrc j' a' v' (by omega) ha' hv'
      · have h : ∀ (j' : Nat) a v, j' < j + 1 → f.args[j']? = some a → V[j']? = some v → hasC d a.cls v = true := h
        exact h j a v (Nat.lt_succ_self j) ha hv
  rintro _ _ ⟨rfl, b0, right, hright, rfl⟩
  rcases hcase with ⟨hno, rfl, rfl⟩ | ⟨B, hall, hBl, hB, rfl, rfl⟩
  · obtain rfl : right = false := by
      cases hr : right
      · rfl
      · exact absurd (hright.1 hr) hno
    exact And.intro rfl rfl
  obtain rfl : right = true := hright.2 hall
  have hBt : (bytesT B).length = B.length := List.length_map _
  have hmt : (bytesT more).length = more.length := List.length_map _
  refine Or.inl (And.intro rfl (ck_intro (fitsB1 (n := 0 + (bytesT B).length) (by omega)) ?_))
  refine Or.inl (And.intro ?_ (ck_intro (fitsB1 (n := 0 + (bytesT B).length + (bytesT more).length) (by omega)) ?_))
  · show 0 + (bytesT B).length = (([] : List T) ++ bytesT B).length
    simp
  have hfits := enc_fits hG hV hl hall (more := more) hBl hB
  refine CallS.frzX (decode_runs d hd hsc hse P root hC (B ++ more) (by rw [List.length_append]; omega)) rfl ⟨.refl _, ?_, trivial⟩ ?_
  · have e : ((([] : List T) ++ bytesT B ++ bytesT more).drop 0).take (0 + (Sq.ts (bytesT B)).length + (Sq.ts (bytesT more)).length) = bytesT (B ++ more) := by
      rw [List.nil_append, List.drop_zero, List.take_of_length_le (by rw [List.length_append]; show _ ≤ 0 + (bytesT B).length + (bytesT more).length; omega)]
      unfold bytesT; rw [List.map_append]
    rw [e]; exact .vec 1 _
  rintro _ (⟨i2, f2, V2, hf2, hfit2, hV2, rfl⟩ | ⟨hno, rfl⟩)
  rotate_left 1
  · exact absurd hfits.1 (hno _ f hf)
  obtain rfl := fits_uniq hok hf hf2 hfits.1 hfit2
  rw [hf] at hf2; cases hf2
  obtain rfl := hfits.2 V2 hV2
  obtain ⟨N, hN⟩ : ∃ N, N = (formBits d f).length / 8 := ⟨_, rfl⟩
  have hBN : B.length = N := by omega
  have h8 : 8 ≤ (formBits d f).length := by rw [formBits_len]; exact hG.ge
  rw [← hN]
  refine br_intro (fun _ => ?_) (fun c => ?_)
  rotate_left 1
  · rw [hBt, hBN] at c; simp at c
  refine br_intro (fun _ => ?_) (fun c => ?_)
  rotate_left 1
  · have c := of_decide_eq_false c; omega
  refine CallS.frzG (isame_runs (i : Int) V2 (by omega)) rfl ⟨.refl _, .refl _, trivial⟩ ?_
  exact And.intro rfl rfl

end Go.Proofs.YtnjmeadmkbkikaaGreatDoor
