/-
  Texts up to a byte 0, as the walk shows them.
-/
import Derived.Test.YtddigcnpapfpjaaUps
import Derived.Lib.BytesEntry
import Derived.Lib.IndexLaws
import Derived.KernelRfl
namespace Go.Proofs.Ytddigcnpapfpjaa
open Go.IntWalk
set_option maxRecDepth 100000
set_option linter.unusedVariables false
set_option linter.unusedSimpArgs false

theorem indexByte_runs (bs : List UInt8) (c : UInt8) : Runs Try.prog 27 [.vec 1 (U bs), .int .u8 (c.toNat : Int)] (.t (.int .i64 (Lib.indexByte bs c))) := by
  refine Runs.of_extern Try.func27 (by kernel_rfl) (by kernel_rfl) (by kernel_rfl) (e := Extern.BytealgIndexByte.indexByte) (by kernel_rfl) (fun w vs F hl hr => ?_) rfl (fun _ => rfl)
  have key : ∃ v, (Extern.BytealgIndexByte.indexByte vs).run Try.prog w = .ok v w ∧ v = .int .i64 (Lib.indexByte bs c) := by
    obtain ⟨l⟩ := vs
    match l, hl, hr with
    | [a, b'], _, hr =>
      have h1 := hr 0 _ a rfl rfl
      have h2 := hr 1 _ b' rfl rfl
      cases h2
      cases h1 with
      | vec s l b off cap sp vals hM hcap hsp hs hc hr2 =>
      by_cases hbs : bs = []
      · subst hbs
        have h0 : (Extern.BytealgIndexByte.indexByte #[.slice (some ⟨b, off, sp⟩) 0 cap, .int .u8 (c.toNat : Int)]).run Try.prog w = .ok (.int .i64 (-1)) w := Lib.run_indexByteString (P := Try.prog) .empty (c.toNat : Int) w
        exact ⟨_, h0, rfl⟩
      obtain rfl := hsp (fun e => hbs (by simpa [U] using e))
      refine ⟨_, Lib.run_indexByteSlice w b off _ cap (bs.map fun x => (x.toNat : Int)) (by simp [U]) (fun i hi => ?_) _, ?_⟩
      · rw [U_len] at hi
        have e := U_get bs i hi
        have h3 := hc i _ 0 _ e rfl
        have h4 := hr2 i _ 0 _ e rfl
        rw [Nat.mul_one, Nat.add_zero] at h3
        rw [h3.1]
        generalize vals i 0 = q at h4
        cases h4
        simp [List.getD_eq_getElem?_getD, hi]
      · congr 2
        · simp only [Lib.bytesOf, List.map_map]
          conv => rhs; rw [← List.map_id bs]
          refine List.map_congr_left fun x _ => ?_
          simp
        · simp
  obtain ⟨v, h1, rfl⟩ := key
  exact ⟨_, h1, fun c' H _ => .t _ _ (.int _ _)⟩

theorem bIndexByte_runs (bs : List UInt8) (c : UInt8) : Runs Try.prog 19 [.vec 1 (U bs), .int .u8 (c.toNat : Int)] (.t (.int .i64 (Lib.indexByte bs c))) := by
  refine Runs.of_call ?_ rfl
  refine CallS.of_fn tab_ok reg_ok Try.func19 rfl rfl ?_
  refine CallS.pure (indexByte_runs bs c) rfl ?_
  exact And.intro rfl rfl

/-- Where the first byte 0 is. -/
def zAt (bs : List UInt8) (at_ : Int) : Int := Lib.indexByte (bs.drop at_.toNat) 0
def textOK (bs : List UInt8) (at_ : Int) : Prop := (0 ≤ at_ ∧ at_ < bs.length) ∧ zAt bs at_ ≠ -1
instance (bs at_) : Decidable (textOK bs at_) := by unfold textOK; infer_instance

def textR (bs : List UInt8) (at_ : Int) : AV :=
  if textOK bs at_ then .tup [.t (.str ((bs.drop at_.toNat).take (zAt bs at_).toNat)), .t (.int .i64 0)] else .tup [.t (.str []), .t (.int .i64 21)]

theorem textR_flat (bs : List UInt8) (at_ : Int) : Flat (textR bs at_) := by
  unfold textR; split <;> exact ⟨rfl, rfl, trivial⟩

theorem indexByte_le : ∀ {l : List UInt8} {c : UInt8}, Lib.indexByte l c ≠ -1 → 0 ≤ Lib.indexByte l c ∧ Lib.indexByte l c < l.length := by
  intro l c h
  have hg := Lib.indexByte_ge l c
  obtain ⟨o, ho⟩ : ∃ o : Nat, Lib.indexByte l c = o := ⟨(Lib.indexByte l c).toNat, by omega⟩
  have := (Lib.indexByte_some ho).1
  have := lt_of_getElem? this
  omega

theorem text_runs (bs : List UInt8) (hb : bs.length ≤ 9223372036854775807) (at_ : Int) : Runs Try.prog 11 [.vec 1 (U bs), .int .i64 at_] (textR bs at_) := by
  refine Runs.of_call ?_ (by unfold textR; split <;> rfl)
  refine CallS.of_fn tab_ok reg_ok Try.func11 rfl rfl ?_
  refine br_intro (fun h => ?_) (fun h => ?_)
  · have h := of_decide_eq_true h
    rw [textR, if_neg (fun hh => by have := hh.1.1; omega)]
    exact And.intro ⟨rfl, rfl, trivial⟩ rfl
  have h := of_decide_eq_false h
  refine br_intro (fun h2 => ?_) (fun h2 => ?_)
  · have h2 := of_decide_eq_true h2
    rw [U_len] at h2
    rw [textR, if_neg (fun hh => by have := hh.1.2; omega)]
    exact And.intro ⟨rfl, rfl, trivial⟩ rfl
  have h2 := of_decide_eq_false h2
  rw [U_len] at h2
  refine ck_intro (by rw [U_len]; simp; omega) ?_
  have hd : ((U bs).drop at_.toNat).take ((U bs).length - at_.toNat) = U (bs.drop at_.toNat) := by
    rw [U_drop, List.take_of_length_le (by rw [U_len, U_len]; simp)]
  have hz : zAt bs at_ = Lib.indexByte (bs.drop at_.toNat) 0 := rfl
  have hI := bIndexByte_runs (bs.drop at_.toNat) 0
  rw [← hd, ← hz] at hI
  refine CallS.pure hI rfl ?_
  refine br_intro (fun h3 => ?_) (fun h3 => ?_)
  · have h3 := of_decide_eq_true h3
    have hg := Lib.indexByte_ge (bs.drop at_.toNat) 0
    rw [textR, if_neg (fun hh => hh.2 (by omega))]
    exact And.intro ⟨rfl, rfl, trivial⟩ rfl
  have h3 := of_decide_eq_false h3
  have hne : zAt bs at_ ≠ -1 := by omega
  have hle := indexByte_le (hz ▸ hne)
  rw [← hz] at hle
  have hlen : (bs.drop at_.toNat).length = bs.length - at_.toNat := by simp
  rw [hlen] at hle
  have hs : IntKind.i64.wrap (at_ + zAt bs at_) = at_ + zAt bs at_ := i64_in _ (by omega)
  rw [textR, if_pos ⟨⟨by omega, by omega⟩, hne⟩]
  refine ck_intro (by rw [hs, U_len]; simp; omega) ?_
  rw [hs]
  refine ck_intro (by simp; omega) ?_
  refine ⟨(bs.drop at_.toNat).take (zAt bs at_).toNat, ?_, ?_⟩
  · rw [U_drop, U_take]
    show U _ = U _
    rw [show (at_ + zAt bs at_).toNat - at_.toNat = (zAt bs at_).toNat by omega]
  · exact And.intro ⟨rfl, rfl, trivial⟩ rfl

theorem refText_runs (bs : List UInt8) (hb : bs.length ≤ 9223372036854775807) (at_ : Int) : Runs Try.prog 10 [.vec 1 (U bs), .int .i64 at_] (textR bs at_) := by
  refine Runs.of_call ?_ (by unfold textR; split <;> rfl)
  refine CallS.of_fn tab_ok reg_ok Try.func10 rfl rfl ?_
  refine br_intro (fun h => ?_) (fun h => ?_)
  · have h := of_decide_eq_true h
    rw [textR, if_neg (fun hh => by have := hh.1.1; omega)]
    exact And.intro ⟨rfl, rfl, trivial⟩ rfl
  have h := of_decide_eq_false h
  refine br_intro (fun h2 => ?_) (fun h2 => ?_)
  · have h2 := of_decide_eq_true h2
    rw [U_len] at h2
    rw [textR, if_neg (fun hh => by have := hh.1.2; omega)]
    exact And.intro ⟨rfl, rfl, trivial⟩ rfl
  have h2 := of_decide_eq_false h2
  rw [U_len] at h2
  obtain ⟨a, rfl⟩ := Int.eq_ofNat_of_zero_le (show 0 ≤ at_ by omega)
  have ha : ((a : Int)).toNat = a := rfl
  refine loop_on (fun p : Nat => a ≤ p ∧ p ≤ bs.length ∧ ∀ q, a ≤ q → q < p → bs[q]? ≠ some 0) (fun p => ⟨[(0, .t (.vec 1 (U bs))), (1, .t (.int .i64 (a : Int))), (6, .t (.int .i64 (p : Int)))], []⟩)
    (fun p => bs.length - p) a ⟨Nat.le_refl _, by omega, fun q h1 h2 => by omega⟩ (weak_of ⟨rfl, rfl, rfl, trivial⟩ rfl) (fun p hp => ?_)
  obtain ⟨hp1, hp2, hp3⟩ := hp
  refine br_intro (fun h3 => ?_) (fun h3 => ?_)
  · have h3 := of_decide_eq_true h3
    rw [U_len] at h3
    have hlt : p < bs.length := by omega
    refine opt_intro (U_get _ p hlt) ?_
    refine br_intro (fun h4 => ?_) (fun h4 => ?_)
    · have h4 : ((bs[p]'hlt).toNat : Int) = 0 := eq_of_beq h4
      have h4 : bs[p]? = some 0 := by rw [List.getElem?_eq_getElem hlt]; congr 1; apply UInt8.toNat_inj.1; simp; omega
      have hz : zAt bs a = ((p - a : Nat) : Int) := by
        have hg := Lib.indexByte_ge (bs.drop a) 0
        unfold zAt
        rw [ha]
        by_cases hn : Lib.indexByte (bs.drop a) 0 = -1
        · exact (Lib.indexByte_none hn (p - a) (by rw [List.getElem?_drop, show a + (p - a) = p by omega]; exact h4)).elim
        · obtain ⟨o, ho⟩ : ∃ o : Nat, Lib.indexByte (bs.drop a) 0 = o := ⟨(Lib.indexByte (bs.drop a) 0).toNat, by omega⟩
          obtain ⟨k1, k2⟩ := Lib.indexByte_some ho
          rw [ho]
          rcases Nat.lt_trichotomy o (p - a) with hlt' | he | hgt
          · rw [List.getElem?_drop] at k1
            exact (hp3 (a + o) (by omega) (by omega) k1).elim
          · rw [he]
          · exact (k2 (p - a) hgt (by rw [List.getElem?_drop, show a + (p - a) = p by omega]; exact h4)).elim
      rw [textR, if_pos ⟨⟨by omega, by omega⟩, by rw [hz]; omega⟩, hz]
      refine ck_intro (by rw [U_len]; simp; omega) ?_
      refine ck_intro (by simp; omega) ?_
      refine ⟨(bs.drop a).take (p - a), ?_, ?_⟩
      · rw [U_drop, U_take]; rfl
      · exact And.intro ⟨rfl, rfl, trivial⟩ rfl
    · have h4 : ¬ ((bs[p]'hlt).toNat : Int) = 0 := ne_of_beq_false h4
      refine ⟨⟨p + 1, by omega, by omega, fun q h5 h6 => ?_⟩, weak_of ⟨rfl, rfl, ?_, trivial⟩ rfl, by show bs.length - (p + 1) < bs.length - p; omega⟩
      · by_cases he : q = p
        · subst he
          rw [List.getElem?_eq_getElem hlt]
          intro e
          simp only [Option.some.injEq] at e
          exact h4 (by rw [e]; rfl)
        · exact hp3 q h5 (by omega)
      · exact congrArg (fun x => AV.t (.int .i64 x)) (by rw [i64_in _ (by omega)]; rfl)
  · have h3 := of_decide_eq_false h3
    rw [U_len] at h3
    have hz : zAt bs a = -1 := by
      by_cases hn : zAt bs a = -1
      · exact hn
      · have hg := Lib.indexByte_ge (bs.drop a) 0
        unfold zAt at hn
        rw [ha] at hn
        obtain ⟨o, ho⟩ : ∃ o : Nat, Lib.indexByte (bs.drop a) 0 = o := ⟨(Lib.indexByte (bs.drop a) 0).toNat, by omega⟩
        obtain ⟨k1, k2⟩ := Lib.indexByte_some ho
        rw [List.getElem?_drop] at k1
        have := lt_of_getElem? k1
        exact (hp3 (a + o) (by omega) (by omega) k1).elim
    rw [textR, if_neg (fun hh => hh.2 hz)]
    exact And.intro ⟨rfl, rfl, trivial⟩ rfl

theorem refTextNil_runs (at_ : Int) : Runs Try.prog 10 [.nils, .int .i64 at_] (textR [] at_) := by
  refine Runs.of_call ?_ (by unfold textR; split <;> rfl)
  refine CallS.of_fn tab_ok reg_ok Try.func10 rfl rfl ?_
  have e : textR [] at_ = .tup [.t (.str []), .t (.int .i64 21)] := by rw [textR, if_neg (fun hh => by have := hh.1; simp at this; omega)]
  rw [e]
  refine br_intro (fun h => ?_) (fun h => ?_)
  · exact And.intro ⟨rfl, rfl, trivial⟩ rfl
  have h := of_decide_eq_false h
  refine br_intro (fun h2 => ?_) (fun h2 => ?_)
  · exact And.intro ⟨rfl, rfl, trivial⟩ rfl
  have h2 := of_decide_eq_false h2
  omega

end Go.Proofs.Ytddigcnpapfpjaa
