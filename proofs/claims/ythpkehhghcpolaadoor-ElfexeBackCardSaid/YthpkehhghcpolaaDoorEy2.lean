/-
  An executable's file, header by header (plain).
-/
import Derived.Test.YthpkehhghcpolaaDoorExd
import Derived.Test.YthpkehhghcpolaaDoorEy1
namespace Go.Proofs.YthpkehhghcpolaaDoor
open Go.IntWalk
set_option maxRecDepth 100000
set_option linter.unusedVariables false
set_option linter.unusedSimpArgs false

def hdrT (h : HdD) (o : Nat) : T := .agg [.int .u32 (h.k : Int), .int .u32 (h.fl : Int), .int .u64 (o : Int), .int .u64 (h.v : Int), .int .u64 (h.v : Int), .int .u64 (h.d.length : Int), .int .u64 (h.sz : Int), .int .u64 (h.al : Int)]
def datH (h : HdD) : T := .vecd 1 (U h.d)

theorem endOf_app : ∀ (l r : List HdD) (a : Nat), endOf a (l ++ r) = endOf (endOf a l) r
  | [], r, a => rfl
  | h :: l, r, a => by simp only [List.cons_append, endOf, endOf_app l r]
theorem bodyOf_app : ∀ (l r : List HdD) (a : Nat), bodyOf a (l ++ r) = bodyOf a l ++ bodyOf (endOf a l) r
  | [], r, a => rfl
  | h :: l, r, a => by simp only [List.cons_append, bodyOf, endOf, bodyOf_app l r, List.append_assoc]
theorem offsOf_app : ∀ (l r : List HdD) (a : Nat), offsOf a (l ++ r) = offsOf a l ++ offsOf (endOf a l) r
  | [], r, a => rfl
  | h :: l, r, a => by simp only [List.cons_append, offsOf, endOf, offsOf_app l r]
theorem hdsB_app : ∀ (l r : List HdD) (os ps : List Nat), os.length = l.length → hdsB (l ++ r) (os ++ ps) = hdsB l os ++ hdsB r ps
  | [], r, [], ps, _ => rfl
  | h :: l, r, o :: os, ps, e => by simp only [List.cons_append, hdsB, hdsB_app l r os ps (by simpa using e), List.append_assoc]
  | [], r, _ :: _, ps, e => by simp at e
  | _ :: _, r, [], ps, e => by simp at e

theorem take_snoc {α : Type} {l : List α} {i : Nat} {x : α} (h : l[i]? = some x) : l.take (i + 1) = l.take i ++ [x] := by
  rw [List.take_add_one, h]; rfl

theorem endOf_succ {l : List HdD} {i : Nat} {h : HdD} (a : Nat) (hi : l[i]? = some h) : endOf a (l.take (i + 1)) = stepAt (endOf a (l.take i)) h := by
  rw [take_snoc hi, endOf_app]; rfl
theorem bodyOf_succ {l : List HdD} {i : Nat} {h : HdD} (a : Nat) (hi : l[i]? = some h) :
    bodyOf a (l.take (i + 1)) = bodyOf a (l.take i) ++ (if h.d.length = 0 then [] else List.replicate (gapOf (endOf a (l.take i)) h) 0 ++ h.d) := by
  rw [take_snoc hi, bodyOf_app]; simp [bodyOf]

/-- The headers as the first loop leaves them behind i rounds. -/
def rowK (a : Nat) (l : List HdD) (i : Nat) : List T := List.zipWith hdrT (l.take i) (offsOf a (l.take i)) ++ (l.drop i).map (hdrT · 0)

theorem rowK_len (a : Nat) (l : List HdD) (i : Nat) (h : i ≤ l.length) : (rowK a l i).length = l.length := by
  simp [rowK, offsOf_len]; omega
theorem rowK_get {a : Nat} {l : List HdD} {i : Nat} {h : HdD} (hi : l[i]? = some h) : (rowK a l i)[i]? = some (hdrT h 0) := by
  have hlt := lt_of_getElem? hi
  have hl : (List.zipWith hdrT (l.take i) (offsOf a (l.take i))).length = i := by simp [offsOf_len]; omega
  rw [rowK, List.getElem?_append_right (by omega), hl, Nat.sub_self]
  simp [hi]
theorem rowK_set {a : Nat} {l : List HdD} {i : Nat} {h : HdD} (hi : l[i]? = some h) : (rowK a l i).set i (hdrT h (endOf a (l.take i) + gapOf (endOf a (l.take i)) h)) = rowK a l (i + 1) := by
  have hlt := lt_of_getElem? hi
  have hl : (List.zipWith hdrT (l.take i) (offsOf a (l.take i))).length = i := by simp [offsOf_len]; omega
  have hd : l.drop i = h :: l.drop (i + 1) := by
    rw [List.drop_eq_getElem_cons hlt]
    rw [List.getElem?_eq_getElem hlt] at hi
    rw [Option.some.inj hi]
  have hz : List.zipWith hdrT (l.take (i + 1)) (offsOf a (l.take (i + 1))) = List.zipWith hdrT (l.take i) (offsOf a (l.take i)) ++ [hdrT h (endOf a (l.take i) + gapOf (endOf a (l.take i)) h)] := by
    rw [take_snoc hi, offsOf_app, List.zipWith_append (by rw [offsOf_len])]
    rfl
  rw [rowK, List.set_append_right _ _ (by omega), hl, Nat.sub_self, hd, List.map_cons, List.set_cons_zero, rowK, hz, List.append_assoc]
  rfl

theorem rowK_end (a : Nat) (l : List HdD) : rowK a l l.length = List.zipWith hdrT l (offsOf a l) := by simp [rowK]
theorem row_at {a : Nat} {l : List HdD} {i : Nat} {h : HdD} (hi : l[i]? = some h) : (List.zipWith hdrT l (offsOf a l))[i]? = some (hdrT h (endOf a (l.take i) + gapOf (endOf a (l.take i)) h)) := by
  have hlt := lt_of_getElem? hi
  have : (offsOf a l)[i]? = some (endOf a (l.take i) + gapOf (endOf a (l.take i)) h) := by
    have e : l = l.take i ++ h :: l.drop (i + 1) := by
      rw [List.getElem?_eq_getElem hlt] at hi
      rw [← Option.some.inj hi, ← List.drop_eq_getElem_cons hlt, List.take_append_drop]
    have hl : (offsOf a (l.take i)).length = i := by simp [offsOf_len]; omega
    conv => lhs; rw [e]
    rw [offsOf_app, List.getElem?_append_right (by omega), hl, Nat.sub_self]
    simp [offsOf]
  rw [List.getElem?_zipWith, hi, this]

theorem hdsB_succ {a : Nat} {l : List HdD} {i : Nat} {h : HdD} (hi : l[i]? = some h) :
    hdsB (l.take (i + 1)) (offsOf a (l.take (i + 1))) = hdsB (l.take i) (offsOf a (l.take i)) ++ hdB h (endOf a (l.take i) + gapOf (endOf a (l.take i)) h) := by
  rw [take_snoc hi, offsOf_app, hdsB_app _ _ _ _ (offsOf_len _ _)]
  simp [hdsB, offsOf]

/-- What holds of the headers of a sound executable. -/
structure HdL (h : HdD) : Prop where
  k : h.k ≤ 4294967295
  fl : h.fl ≤ 4294967295
  v : h.v ≤ 70368744177664
  sz : h.sz ≤ 67108864
  al1 : 1 ≤ h.al
  al2 : h.al ≤ 4096
  d : h.d.length ≤ 67108864

theorem gap_lt {h : HdD} (hh : HdL h) (a : Nat) : gapOf a h < h.al := Nat.mod_lt _ hh.al1

theorem stepAt_le {h : HdD} (hh : HdL h) (a : Nat) : a ≤ stepAt a h ∧ stepAt a h ≤ a + 67112960 := by
  have := gap_lt hh a; have := hh.al2; have := hh.d
  unfold stepAt; split <;> omega

theorem end_bound : ∀ (l : List HdD) (a : Nat), (∀ h ∈ l, HdL h) → a ≤ endOf a l ∧ endOf a l ≤ a + 67112960 * l.length
  | [], a, _ => by simp [endOf]
  | h :: l, a, hh => by
    obtain ⟨h1, h2⟩ := stepAt_le (hh h (by simp)) a
    obtain ⟨h3, h4⟩ := end_bound l (stepAt a h) fun x hx => hh x (by simp [hx])
    simp only [endOf, List.length_cons]; omega

theorem end_take {l : List HdD} (hh : ∀ h ∈ l, HdL h) (a i : Nat) (hi : i ≤ l.length) : a ≤ endOf a (l.take i) ∧ endOf a (l.take i) ≤ a + 67112960 * l.length := by
  obtain ⟨h1, h2⟩ := end_bound (l.take i) a fun x hx => hh x (List.mem_of_mem_take hx)
  have : (l.take i).length ≤ l.length := by simp; omega
  have : 67112960 * (l.take i).length ≤ 67112960 * l.length := Nat.mul_le_mul_left _ this
  omega

theorem body_take {l : List HdD} (hh : ∀ h ∈ l, HdL h) (a i : Nat) (hi : i ≤ l.length) : (bodyOf a (l.take i)).length ≤ 67112960 * l.length := by
  have := body_len (l.take i) a
  have := end_take hh a i hi
  omega

theorem hds_ok {x : ExeD} (hx : SoundP x) : ∀ h ∈ hdsOf x, HdL h := by
  intro h hh
  simp only [hdsOf, List.mem_append, List.mem_map] at hh
  rcases hh with ⟨s, hs, rfl⟩ | ⟨s, hs, rfl⟩
  · obtain ⟨i, hi, rfl⟩ := List.getElem_of_mem hs
    have q := hx.ss i hi
    have q1 := q.f0; have q2 := q.f7; have q3 := addrB_iff.mp q.v; have q4 := q.s1; have q5 := q.s2; have q6 := q.d
    exact ⟨by simp, by simp only; omega, by simp only; omega, by simp only; omega, by simp, by simp, by simp only; omega⟩
  · obtain ⟨i, hi, rfl⟩ := List.getElem_of_mem hs
    have q := hx.ts i hi
    have q3 := addrB_iff.mp q.f; have q1 := q.v0; have q2 := q.v1; have q4 := q.s1; have q5 := q.s2; have q6 := q.d
    exact ⟨by simp, by simp, by simp only; omega, by simp only; omega, by simp only; omega, by simp only; omega, by simp only; omega⟩

theorem row_first {x : ExeD} (hx : SoundP x) (a : Nat) : x.ss.map segH ++ x.ts.map tlsH = rowK a (hdsOf x) 0 := by
  simp only [rowK, List.take_zero, List.drop_zero, offsOf, List.zipWith_nil_left, List.nil_append, hdsOf, List.map_append, List.map_map]
  congr 1
  · refine List.map_congr_left fun s hs => ?_
    obtain ⟨i, hi, rfl⟩ := List.getElem_of_mem hs
    have q := hx.ss i hi
    have q1 := q.f0; have q3 := addrB_iff.mp q.v; have q4 := q.s1
    simp only [segH, hdrT, Function.comp_apply]
    rw [Int.toNat_of_nonneg q1, Int.toNat_of_nonneg q3.1, Int.toNat_of_nonneg (show 0 ≤ (x.ss[i]).s by omega)]
    rfl
  · refine List.map_congr_left fun s hs => ?_
    obtain ⟨i, hi, rfl⟩ := List.getElem_of_mem hs
    have q := hx.ts i hi
    have q3 := addrB_iff.mp q.f; have q1 := q.v0; have q4 := q.s1
    simp only [tlsH, hdrT, Function.comp_apply]
    rw [Int.toNat_of_nonneg q1, Int.toNat_of_nonneg q3.1, Int.toNat_of_nonneg (show 0 ≤ (x.ts[i]).s by omega)]
    rfl

theorem dat_first (x : ExeD) : x.ss.map datD ++ x.ts.map datD = (hdsOf x).map datH := by
  simp only [hdsOf, List.map_append, List.map_map]
  rfl

end Go.Proofs.YthpkehhghcpolaaDoor
