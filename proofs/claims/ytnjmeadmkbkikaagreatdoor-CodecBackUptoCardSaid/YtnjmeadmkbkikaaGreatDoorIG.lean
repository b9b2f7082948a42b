/-
  The ground of the walks of this seat, part IG.
-/
import Derived.Test.YtnjmeadmkbkikaaGreatDoorIf
namespace Go.Proofs.YtnjmeadmkbkikaaGreatDoor
open Go.IntWalk
set_option maxRecDepth 100000
set_option linter.unusedVariables false
set_option linter.unusedSimpArgs false
set_option maxHeartbeats 4000000

theorem RunsX.vecd1 {P : Program} {f : FuncId} {s : Nat} {l : List T} {S : AV → Prop} (h : RunsX P f [.vec s l] S) (h0 : l = [] → RunsX P f [.nils] S) : RunsX P f [.vecd s l] S := by
  refine ⟨h.1, fun n F w vs hF hl hr => ?_⟩
  match vs, hl with
  | ⟨[v]⟩, _ =>
    rcases vecd_cases (hr 0 _ v rfl rfl) with ⟨hn, rfl⟩ | hv
    · refine (h0 hn).2 n F w _ hF rfl fun i t v hi hv => ?_
      match i, hi, hv with
      | 0, hi, hv => cases hi; cases hv; exact .nils
      | i + 1, hi, hv => simp at hi
    · refine h.2 n F w _ hF rfl fun i t v hi hv' => ?_
      match i, hi, hv' with
      | 0, hi, hv' => cases hi; cases hv'; exact hv
      | i + 1, hi, hv' => simp at hi

def DataS (t : T) (r : AV) : Prop := r = .t t
theorem cloneI_runs (M : List T) (h : M.length ≤ 100000000000) : RunsX Tryz.prog 34 [.vecd 1 M] (DataS (.vecd 1 M)) := by
  refine RunsX.vecd1 ?_ (fun h0 => ?_)
  · refine RunsX.of_call ?_ (by rintro r rfl; rfl)
    refine CallS.of_fn tabS_ok regS_ok Tryz.func34 rfl rfl ?_
    refine Or.inl (And.intro rfl (ck_intro (fits8 (n := 0 + M.length) (by omega)) ?_))
    refine ⟨_, rfl, _, _, rfl, ?_⟩
    exact .trans _ _ _ (.of_eq (congrArg (T.vec 1) (show List.take (0 + M.length) (List.drop 0 ([] ++ M)) = M by simp))) (.vec 1 _)
  · subst h0
    refine RunsX.of_call ?_ (by rintro r rfl; rfl)
    refine CallS.of_fn tabS_ok regS_ok Tryz.func34 rfl rfl ?_
    exact ⟨_, rfl, _, _, rfl, .refl _⟩

theorem cloneA_runs (A : List ArgD) (h : A.length ≤ 1000000) : RunsX Tryz.prog 35 [.vecd 2 (A.map argT)] (DataS (.vecd 2 (A.map argT))) := by
  refine RunsX.vecd1 ?_ (fun h0 => ?_)
  · refine RunsX.of_call ?_ (by rintro r rfl; rfl)
    refine CallS.of_fn tabS_ok regS_ok Tryz.func35 rfl rfl ?_
    refine Or.inl (And.intro rfl (ck_intro (show fitsRow (0 + (A.map argT).length) 24 = true by simp [fitsRow]; omega) ?_))
    refine ⟨_, rfl, _, _, rfl, ?_⟩
    exact .trans _ _ _ (.of_eq (congrArg (T.vec 2) (show List.take (0 + (A.map argT).length) (List.drop 0 ([] ++ A.map argT)) = A.map argT from List.take_of_length_le (by simp)))) (.vec 2 _)
  · have h0 : A = [] := by simpa using h0
    subst h0
    refine RunsX.of_call ?_ (by rintro r rfl; rfl)
    refine CallS.of_fn tabS_ok regS_ok Tryz.func35 rfl rfl ?_
    exact ⟨_, rfl, _, _, rfl, .refl _⟩

end Go.Proofs.YtnjmeadmkbkikaaGreatDoor

namespace Go.Proofs.YtnjmeadmkbkikaaGreatDoor
open Go.IntWalk
open Go.RowKit
set_option linter.unusedVariables false
set_option linter.unusedSimpArgs false

def NoInts (w : World) (cb : Nat) : Prop := ∀ off k n, w.cell? ⟨cb, off, none⟩ ≠ some (.int k n)

theorem rt_int {w : World} {M : Nat → Prop} {k : IntKind} {n : Int} {v : Value} (h : RT w M (.int k n) v) : v = .int k n := by cases h; rfl

theorem rt_nilp {w : World} {M : Nat → Prop} {v : Value} (h : RT w M .nilp v) : v = .pointer none := by cases h; rfl

theorem ints_rt {w : World} {M1 M2 : Nat → Prop} (h : ∀ cb, M2 cb → M1 cb ∨ NoInts w cb) (F : List Nat) {v : Value} (hv : RT w M1 (.vecd 1 (natsT F)) v) : RT w M2 (.vecd 1 (natsT F)) v := by
  have hget : ∀ {i : Nat} {e : T}, (natsT F)[i]? = some e → ∃ n : Nat, e = .int .i64 n := fun {i e} he => by
    obtain ⟨n, _, hn⟩ := List.mem_map.1 (List.mem_of_getElem? he)
    exact ⟨n, hn.symm⟩
  generalize natsT F = L at hv hget ⊢
  cases hv with
  | vecd0 => exact .vecd0 1
  | vecd _ _ _ hv =>
    refine .vecd _ _ _ ?_
    cases hv with
    | vec _ _ b off cap sp vals hM hcap hsp hs hc hr =>
      refine .vec _ _ b off cap sp vals (fun hne hs0 hm => ?_) hcap hsp hs hc (fun i e j c hi hj => ?_)
      · rcases h b hm with h1 | h1
        · exact hM hne hs0 h1
        · match L, hne with
          | e :: L, _ =>
            obtain ⟨n, rfl⟩ := hget (i := 0) rfl
            have h2 := (hc 0 _ 0 _ rfl rfl).1
            have h3 := rt_int (hr 0 _ 0 _ rfl rfl)
            rw [h3] at h2
            exact h1 _ _ _ h2
      · obtain ⟨n, rfl⟩ := hget hi
        have h3 := hr i _ j c hi hj
        match j, hj with
        | 0, hj =>
          cases hj
          rw [rt_int h3]; exact .int _ _
        | j + 1, hj => simp [T.cells] at hj

theorem tree_rt {w : World} {M1 M2 : Nat → Prop} (h : ∀ cb, M2 cb → M1 cb ∨ NoInts w cb) (t : TreeD) : ∀ {v : Value}, RT w M1 t.t v → RT w M2 t.t v := by
  induction t with
  | leaf F =>
    intro v hv
    unfold TreeD.t at hv ⊢
    cases hv with
    | iptr _ b off vals hM hc hr =>
      refine .iptr _ b off vals (fun hne hm => ?_) hc (fun i c hi => ?_)
      · rcases h b hm with h1 | h1
        · exact hM hne h1
        · have h2 := (hc 0 _ rfl).1
          rw [rt_int (hr 0 _ rfl)] at h2
          exact h1 _ _ _ h2
      · have h3 := hr i c hi
        match i, hi with
        | 0, hi => cases hi; rw [rt_int h3]; exact .int _ _
        | 1, hi => cases hi; rw [rt_nilp h3]; exact .nilp
        | 2, hi => cases hi; rw [rt_nilp h3]; exact .nilp
        | 3, hi => cases hi; exact ints_rt h F h3
        | i + 4, hi => simp at hi
  | fork q l r ihl ihr =>
    intro v hv
    unfold TreeD.t at hv ⊢
    cases hv with
    | iptr _ b off vals hM hc hr =>
      refine .iptr _ b off vals (fun hne hm => ?_) hc (fun i c hi => ?_)
      · rcases h b hm with h1 | h1
        · exact hM hne h1
        · have h2 := (hc 0 _ rfl).1
          rw [rt_int (hr 0 _ rfl)] at h2
          exact h1 _ _ _ h2
      · have h3 := hr i c hi
        match i, hi with
        | 0, hi => cases hi; rw [rt_int h3]; exact .int _ _
        | 1, hi => cases hi; exact ihl h3
        | 2, hi => cases hi; exact ihr h3
        | 3, hi => cases hi; exact ints_rt (F := []) h h3
        | i + 4, hi => simp at hi

/-- No cell of it is an int. -/
def noInt : AV → Bool
  | .t .nilp => true
  | .t .nils => true
  | .t (.vec _ _) => true
  | .t (.vecd _ _) => true
  | .t (.iptr _) => true
  | _ => false

theorem noInt_ne {w : World} {c : Cx} {H : AH} {x : AV} {v : Value} (hx : noInt x = true) (h : RA w c H x v) (k : IntKind) (n : Int) : v ≠ .int k n := by
  rintro rfl
  cases h with
  | t x v h => cases h with
    | int k n => simp [noInt] at hx
    | vecd _ _ _ h => cases h
  | _ => simp [noInt] at hx

theorem CallS.snapTree {P : Program} {f : FuncId} {args : List AV} {ts' ts : List T} {ids : List Nat} {S : AV → Prop} {H : AH} {Q : AV → AH → Prop} (h : RunsX P f ts S) (ha : snapDL 32 H args = some (ts', ids)) (hsub : SubL ts' ts) (hS : ∀ r, S r → ∃ t : TreeD, r = .t t.t)
    (hbox : ∀ b ∈ ids, ∃ cells : List AV, H[b]? = some (.box cells) ∧ cells.all noInt = true) (k : ∀ r, S r → Q r H) : CallS P f args H Q := by
  obtain ⟨x, js, hsn, hji, h3⟩ := (snapD_rel H 32).2 _ _ _ ha
  have h := h.sub (h3.trans hsub)
  intro B c w vs hs hl hr
  obtain ⟨M', hM'⟩ : ∃ M' : Nat → Prop, M' = fun cb => c.M H cb ∧ ∀ b ∈ ids, c.G b ≠ some cb := ⟨_, rfl⟩
  have hM1 : ∀ cb, M' cb → c.M H cb := fun cb h => by rw [hM'] at h; exact h.1
  obtain ⟨hlen, hrt⟩ := snapL_ok hs (M' := M') hM1 32 hsn (vs := vs.toList) (by simpa using hl.symm) (fun i x v hi hv => hr i x v hi (by simpa using hv)) (fun b hb cb hg h => by rw [hM'] at h; exact h.2 b (hji b hb) hg)
  refine (h.2 H.length M' w vs (fun cb h => M_lt hs (hM1 cb h)) (by omega) (fun i t v hi hv => hrt i t v hi (by simpa using hv))).mono fun e w' ⟨r, v, G, hSr, he, hbel, hG, hra, hs'⟩ => ?_
  obtain ⟨t, rfl⟩ := hS r hSr
  have e1 : imp H.length (.t t.t) = (.t t.t, []) := by cases t <;> rfl
  rw [e1] at hra hs'
  obtain ⟨ev, hs2⟩ := join (Hb := []) hs hbel hG hs' rfl (fun b e s z g l i x j y v hb => by simp at hb)
  have hall : ∀ cb, (Cx.mk c.F fun b => if b < H.length then c.G b else G b).M (H ++ []) cb → (Cx.mk M' G).M (List.replicate H.length .dead ++ []) cb ∨ NoInts w' cb := by
    rintro cb (hf | ⟨b, blk, hb, hlv, hg⟩)
    · refine .inl (.inl ?_)
      show M' cb
      rw [hM']
      refine ⟨.inl hf, fun b _ hg => ?_⟩
      have := hs.fb cb hf
      have := (hs.base b cb hg).1
      omega
    · rw [List.append_nil] at hb
      have hg : c.G b = some cb := by simpa only [if_pos (lt_of_getElem? hb)] using hg
      by_cases hmem : b ∈ ids
      · refine .inr fun off kk n hc => ?_
        obtain ⟨cells, hbx, hci⟩ := hbox b hmem
        obtain ⟨arr, e, h1, h2, h3⟩ := hs.box b cb cells hbx hg
        unfold World.cell? at hc
        rw [show ((⟨cb, off, none⟩ : Addr).block) = cb from rfl, hbel.block cb (hs.base b cb hg).2, h1] at hc
        have hc : arr[off]? = some (.int kk n) := hc
        have hlt : off < cells.length := by rw [← h2]; exact (Array.getElem?_eq_some_iff.1 hc).1
        obtain ⟨x, hx, hxm⟩ := get_some (R := cells) (i := off) hlt
        exact noInt_ne (List.all_eq_true.1 hci x hxm) (h3 off x _ hx hc).2.1 kk n rfl
      · refine .inl (.inl ?_)
        show M' cb
        rw [hM']
        exact ⟨.inr ⟨b, blk, hb, hlv, hg⟩, fun b' hb' hg' => hmem (hs.inj b' b cb hg' hg ▸ hb')⟩
  refine ⟨v, _, _, _, he, ?_, hs2, ev, hbel.mono hs.hB, by rw [List.append_nil]; exact k _ hSr⟩
  cases hra with
  | t _ _ h => exact .t _ _ (tree_rt hall t h)

end Go.Proofs.YtnjmeadmkbkikaaGreatDoor
