/-
  Executables of which it is left open whether their slices are nil: the contracts carried over.
-/
import Derived.Test.YthpkehhghcpolaaDoorEx5
import Derived.Test.YthpkehhghcpolaaDoorFg
namespace Go.Proofs.YthpkehhghcpolaaDoor
open Go.IntWalk
set_option maxRecDepth 100000
set_option linter.unusedVariables false
set_option linter.unusedSimpArgs false

def datD (s : SegD) : T := .vecd 1 (U s.d)
def segT (s : SegD) : T := .agg [.int .i64 s.f, .int .i64 s.v, .int .i64 s.s, datD s]
def exeT (x : ExeD) : T := .agg [.int .i64 x.m, .int .i64 x.e, .vecd 4 (x.ss.map segT), .vecd 4 (x.ts.map segT)]

structure ExeB (x : ExeD) : Prop where
  sl : x.ss.length ≤ 2932031007317
  tl : x.ts.length ≤ 2932031007317
  sd : ∀ s ∈ x.ss, s.d.length ≤ 140737488351232
  td : ∀ s ∈ x.ts, s.d.length ≤ 140737488351232
  eb : x.e ≤ 9223372036854775807

theorem U_nil {d : List UInt8} (h : U d = []) : d = [] := by simpa [U] using h

theorem segs_split {w : World} {M : Nat → Prop} {ds : List SegD} {v : Value} (h : RT w M (.vecd 4 (ds.map segT)) v) (hb : ∀ s ∈ ds, s.d.length ≤ 140737488351232) : ∃ t, SegsX t ds ∧ RT w M t v := by
  rcases vecd_cases h with ⟨h0, rfl⟩ | h
  · obtain rfl : ds = [] := by simpa using h0
    exact ⟨.nils, .nil, .nils⟩
  cases h with | vec _ _ b off cap sp vals hM hcap hsp hs hc hr =>
  have each : ∀ i, ∃ dt, ∀ (h : i < ds.length), BX dt ds[i].d ∧ RT w M dt (vals i 3) ∧ dt.one = true := by
    intro i
    by_cases hi : i < ds.length
    · have h3 := hr i (segT ds[i]) 3 (datD ds[i]) (by simp [hi]) rfl
      rcases vecd_cases h3 with ⟨h0, h1⟩ | h1
      · exact ⟨.nils, fun _ => ⟨by rw [U_nil h0]; exact .nil, by rw [h1]; exact .nils, rfl⟩⟩
      · exact ⟨.vec 1 (U ds[i].d), fun _ => ⟨.vec _ _ rfl, h1, rfl⟩⟩
    · exact ⟨.nils, fun h => (hi h).elim⟩
  obtain ⟨dt, hdt⟩ := Classical.skolem.1 each
  let L : List T := ds.mapIdx fun i s => .agg [.int .i64 s.f, .int .i64 s.v, .int .i64 s.s, dt i]
  have hLl : L.length = ds.length := by simp [L]
  have hget : ∀ (i : Nat) e, L[i]? = some e → ∃ h : i < ds.length, e = .agg [.int .i64 ds[i].f, .int .i64 ds[i].v, .int .i64 ds[i].s, dt i] := by
    intro i e hi
    have hlt := lt_of_getElem? hi
    rw [hLl] at hlt
    refine ⟨hlt, ?_⟩
    simp only [L, List.getElem?_mapIdx, List.getElem?_eq_getElem hlt, Option.map_some] at hi
    exact (Option.some.inj hi).symm
  have hne : L ≠ [] → ds.map segT ≠ [] := fun h e => h (List.eq_nil_of_length_eq_zero (by rw [hLl]; simpa using congrArg List.length e))
  refine ⟨.vec 4 L, .vec ds L hLl fun i t d hi hd => ?_, ?_⟩
  · obtain ⟨hlt, rfl⟩ := hget i t hi
    rw [List.getElem?_eq_getElem hlt] at hd
    obtain rfl := Option.some.inj hd
    have := SegX.mk ds[i].f ds[i].v ds[i].s (dt i) ds[i].d (hdt i hlt).1 (hb _ (List.getElem_mem hlt))
    exact this
  · have hlen : (ds.map segT).length = L.length := by simp [hLl]
    rw [hlen] at hcap ⊢
    refine .vec 4 L b off cap sp vals (fun h => hM (hne h)) hcap (fun h => hsp (hne h)) (fun i e hi => ?_) (fun i e j c hi hj => ?_) (fun i e j c hi hj => ?_)
    · obtain ⟨hlt, rfl⟩ := hget i e hi; rfl
    · obtain ⟨hlt, rfl⟩ := hget i e hi
      have hds : (ds.map segT)[i]? = some (segT ds[i]) := by simp [hlt]
      match j, hj with
      | 0, hj => cases hj; exact hc i _ 0 _ hds rfl
      | 1, hj => cases hj; exact hc i _ 1 _ hds rfl
      | 2, hj => cases hj; exact hc i _ 2 _ hds rfl
      | 3, hj => cases hj; exact ⟨(hc i _ 3 _ hds rfl).1, (hdt i hlt).2.2⟩
      | j + 4, hj => simp [T.cells] at hj
    · obtain ⟨hlt, rfl⟩ := hget i e hi
      have hds : (ds.map segT)[i]? = some (segT ds[i]) := by simp [hlt]
      match j, hj with
      | 0, hj => cases hj; exact hr i _ 0 _ hds rfl
      | 1, hj => cases hj; exact hr i _ 1 _ hds rfl
      | 2, hj => cases hj; exact hr i _ 2 _ hds rfl
      | 3, hj => cases hj; exact (hdt i hlt).2.1
      | j + 4, hj => simp [T.cells] at hj

theorem segs_one {t : T} {ds : List SegD} (h : SegsX t ds) : t.one = true := by cases h <;> rfl

theorem exe_split {w : World} {M : Nat → Prop} {x : ExeD} {v : Value} (h : RT w M (exeT x) v) (hb : ExeB x) : ∃ t, ExeX t x ∧ RT w M t v := by
  cases h with | agg _ vs hl h1 hr =>
  obtain ⟨st, hs1, hs2⟩ := segs_split (hr 2 _ (vs[2]'(by simp at hl; omega)) rfl (Array.getElem?_eq_getElem _)) hb.sd
  obtain ⟨tt, ht1, ht2⟩ := segs_split (hr 3 _ (vs[3]'(by simp at hl; omega)) rfl (Array.getElem?_eq_getElem _)) hb.td
  refine ⟨.agg [.int .i64 x.m, .int .i64 x.e, st, tt], ?_, .agg _ vs hl (fun i c hi => ?_) (fun i c v hi hv => ?_)⟩
  · have := ExeX.mk x.m x.e st tt x.ss x.ts hs1 ht1 hb.sl hb.tl
    exact this
  · match i, hi with
    | 0, hi => cases hi; rfl
    | 1, hi => cases hi; rfl
    | 2, hi => cases hi; exact segs_one hs1
    | 3, hi => cases hi; exact segs_one ht1
    | i + 4, hi => simp at hi
  · match i, hi, hv with
    | 0, hi, hv => cases hi; exact hr 0 _ v rfl hv
    | 1, hi, hv => cases hi; exact hr 1 _ v rfl hv
    | 2, hi, hv => cases hi; rw [Array.getElem?_eq_getElem (by simp at hl; omega)] at hv; cases hv; exact hs2
    | 3, hi, hv => cases hi; rw [Array.getElem?_eq_getElem (by simp at hl; omega)] at hv; cases hv; exact ht2
    | i + 4, hi, hv => simp at hi

theorem segs_any (ds : List SegD) (hb : ∀ s ∈ ds, s.d.length ≤ 140737488351232) : SegsX (.vec 4 (ds.map segV)) ds :=
  .vec _ _ (by simp) fun i t d hi hd => by
    simp only [List.getElem?_map, hd, Option.map_some] at hi
    cases hi
    have := SegX.mk d.f d.v d.s (.vec 1 (U d.d)) d.d (.vec _ _ rfl) (hb _ (List.mem_of_getElem? hd))
    exact this

/-- A contract for all that an executable may come in as. -/
theorem exe_runs {P : Program} {f : FuncId} {x : ExeD} {r : AV} (hb : ExeB x) (h : ∀ t, ExeX t x → Runs P f [t] r) : Runs P f [exeT x] r := by
  refine ⟨(h _ (.mk x.m x.e _ _ x.ss x.ts (segs_any _ hb.sd) (segs_any _ hb.td) hb.sl hb.tl)).1, fun n F w vs hF hl hr => ?_⟩
  obtain ⟨t, h1, h2⟩ := exe_split (hr 0 _ (vs[0]'(by simp at hl; omega)) rfl (Array.getElem?_eq_getElem _)) hb
  refine (h t h1).2 n F w vs hF hl fun i c v hi hv => ?_
  match i, hi with
  | 0, hi => cases hi; rw [Array.getElem?_eq_getElem (by simp at hl; omega)] at hv; cases hv; exact h2
  | i + 1, hi => simp at hi

theorem datT_sub {t : T} {d : SegD} (h : SegX t d) : SubT (datT t) (datD d) := by
  cases h with | mk f v s dt d h hl =>
  cases h with
  | vec bs L e => subst e; exact .vec 1 _
  | nil => exact .nils 1

theorem dats_sub {t : T} {ds : List SegD} (h : SegsX t ds) : SubC ((elT t).map datT) (ds.map datD) := by
  cases h with
  | nil => exact .refl []
  | vec _ L hl h =>
    refine .of_sub (by simp [elT, hl]) fun i e e' a b => ?_
    simp only [elT, List.getElem?_map, Option.map_eq_some_iff] at a b
    obtain ⟨p, hp, rfl⟩ := a
    obtain ⟨q, hq, rfl⟩ := b
    exact datT_sub (h i p q hp hq)

theorem sound_runs' {x : ExeD} (hb : ExeB x) : Runs Tryd.prog 13 [exeT x] (.t (.bool (decide (SoundP x)))) := exe_runs hb fun t h => sound_runs h
theorem many_runs' {x : ExeD} (hb : ExeB x) (hx : SoundP x) : Runs Tryd.prog 23 [exeT x] (.t (.bool (decide (manyP x)))) := exe_runs hb fun t h => many_runs h hx

theorem headers_runs' {x : ExeD} (hb : ExeB x) (hx : SoundP x) : Runs Tryd.prog 24 [exeT x] (.tup [.own 60 8 true (x.ss.map segH ++ x.ts.map tlsH), .own 27 1 true (x.ss.map datD ++ x.ts.map datD)]) :=
  exe_runs hb fun t h => (headers_runs h hx).subR <| .tup _ _ ⟨.own _ _ _ _ _ (.refl _), .own _ _ _ _ _ (by
    cases h with | mk m e st tt ss ts hs ht hsl htl => exact (dats_sub hs).append (dats_sub ht)), trivial⟩

theorem write_no' {x : ExeD} (hb : ExeB x) (h : ¬ SoundP x) : Runs Tryd.prog 11 [exeT x] (.tup [.own 5 1 true [], .t (.int .i64 185)]) := by
  refine Runs.of_call ?_ rfl
  refine CallS.of_fn tabS_ok (regD_ok tabS_ok mixed) Tryd.func11 rfl rfl ?_
  have hS := sound_runs' hb
  rw [decide_eq_false h] at hS
  refine CallS.frzG hS rfl ⟨.refl _, trivial⟩ ?_
  exact And.intro ⟨⟨rfl, rfl, rfl⟩, rfl, trivial⟩ rfl

theorem write_many' {x : ExeD} (hb : ExeB x) (h : SoundP x) (hm : manyP x) : Runs Tryd.prog 11 [exeT x] (.tup [.own 5 1 true [], .t (.int .i64 183)]) := by
  refine Runs.of_call ?_ rfl
  refine CallS.of_fn tabS_ok (regD_ok tabS_ok mixed) Tryd.func11 rfl rfl ?_
  have hS := sound_runs' hb
  rw [decide_eq_true h] at hS
  have hM := many_runs' hb h
  rw [decide_eq_true hm] at hM
  refine CallS.frzG hS rfl ⟨.refl _, trivial⟩ ?_
  refine CallS.frzG hM rfl ⟨.refl _, trivial⟩ ?_
  exact And.intro ⟨⟨rfl, rfl, rfl⟩, rfl, trivial⟩ rfl

end Go.Proofs.YthpkehhghcpolaaDoor
