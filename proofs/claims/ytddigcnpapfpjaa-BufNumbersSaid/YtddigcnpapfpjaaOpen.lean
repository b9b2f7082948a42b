/-
  Arguments that come in, of whatever plain type: they are plain data, and they read behind the call as before.
-/
import Derived.Test.YtddigcnpapfpjaaSnap
import Derived.WalkKit
import Derived.ProofKit
import Derived.OpenShut
import Derived.ShutString
import Derived.Below
import Derived.Carry
import Derived.ChangeArms
import Derived.ChangeBears
import Derived.ChangeSlices
import Derived.Handed
namespace Go.Proofs.Ytddigcnpapfpjaa
open Go.ChangeShapes Go.WideShapes Go.ChangeAt Go.RowKit
set_option linter.unusedVariables false
set_option linter.unusedSimpArgs false

/-- The cells of a value of such a type. -/
inductive HasT (P : Program) : TypeId → List T → Prop
  | bool {t} (ht : P.underlying t = some .bool) (b : Bool) : HasT P t [.bool b]
  | int {t k} (ht : P.underlying t = some (.int k)) (n : Int) (hw : (Lit.int k n).wf = true) : HasT P t [.int k n]
  | str {t} (ht : P.underlying t = some .string) (s : List UInt8) (hl : s.length ≤ reachBytes) : HasT P t [.str s]
  | nils {t e} (ht : P.underlying t = some (.slice e)) : HasT P t [.nils]
  | vec {t e} (ht : P.underlying t = some (.slice e)) (l : List (List T)) (hl : l.length ≤ maxLen) (hb : l.length * P.bytesOf e ≤ reachBytes) (h : ∀ (i : Nat) cs, l[i]? = some cs → HasT P e cs) : HasT P t [.vec (P.cellsOf e) (l.map (mkElem (P.cellsOf e)))]
  | struct {t fs} (ht : P.underlying t = some (.struct fs)) (cs : List T) (hl : cs.length = P.cellsOf t) (h : ∀ f ∈ fs.toList, HasT P f.type ((cs.drop f.offset).take (P.cellsOf f.type))) : HasT P t cs
  | array {t n e} (ht : P.underlying t = some (.array n e)) (cs : List T) (hl : cs.length = P.cellsOf t) (h : ∀ i, i < n → HasT P e ((cs.drop (i * P.cellsOf e)).take (P.cellsOf e))) : HasT P t cs

/-- Do the fields lie one behind the other? -/
def tile (P : Program) (n : Nat) : Nat → List Field → Bool
  | o, [] => Nat.beq o n
  | o, f :: r => Nat.beq f.offset o && tile P n (o + P.cellsOf f.type) r

/-- Types of plain data, closed under what they are made of. -/
def plainTy (P : Program) (S : List TypeId) (t : TypeId) : Bool :=
  match P.underlying t with
  | some .bool => true
  | some (.int _) => true
  | some .string => true
  | some (.slice e) => S.contains e && Nat.ble 1 (P.cellsOf e)
  | some (.struct fs) => fs.toList.all (fun f => S.contains f.type) && tile P (P.cellsOf t) 0 fs.toList
  | some (.array n e) => S.contains e && Nat.beq (n * P.cellsOf e) (P.cellsOf t)
  | _ => false

def plainTys (P : Program) (S : List TypeId) : Bool := S.all (plainTy P S)

/-- No part of it is too large. -/
def Light {H : Type} (P : Program) (t : TypeId) (d : DataW H) : Prop := ∀ n ∈ d.weights P t, n ≤ reachBytes

theorem light_all {H : Type} {P : Program} {e : TypeId} : ∀ {l : List (DataW H)}, (∀ n ∈ DataW.weightsAll P e l, n ≤ reachBytes) → ∀ d ∈ l, Light P e d
  | [], _, d, hd => by simp at hd
  | a :: r, h, d, hd => by
    simp only [DataW.weightsAll, List.mem_append] at h
    rcases List.mem_cons.1 hd with rfl | hd
    · exact fun n hn => h n (.inl hn)
    · exact light_all (fun n hn => h n (.inr hn)) d hd

theorem light_each {H : Type} {P : Program} : ∀ {ts : List TypeId} {l : List (DataW H)}, (∀ n ∈ DataW.weightsEach P ts l, n ≤ reachBytes) → ∀ (i : Nat) t d, ts[i]? = some t → l[i]? = some d → Light P t d
  | [], l, _, i, t, d, hi, _ => by simp at hi
  | _ :: _, [], _, i, t, d, _, hi => by simp at hi
  | a :: ts, b :: r, h, i, t, d, hi, hd => by
    simp only [DataW.weightsEach, List.mem_append] at h
    cases i with
    | zero => simp at hi hd; subst hi hd; exact fun n hn => h n (.inl hn)
    | succ i => simp at hi hd; exact light_each (fun n hn => h n (.inr hn)) i t d hi hd

/-- Cells and what they read as. -/
def Cells (w : World) (ts : List T) (cs : List Value) : Prop := ts.length = cs.length ∧ ∀ (i : Nat) c v, ts[i]? = some c → cs[i]? = some v → RT w (fun _ => False) c v ∧ c.one = true

theorem Cells.append {w : World} {a b : List T} {c d : List Value} (h : Cells w a c) (k : Cells w b d) : Cells w (a ++ b) (c ++ d) := by
  refine ⟨by simp [h.1, k.1], fun i x v hi hv => ?_⟩
  by_cases hlt : i < a.length
  · rw [List.getElem?_append_left hlt] at hi
    rw [List.getElem?_append_left (by rw [← h.1]; exact hlt)] at hv
    exact h.2 i x v hi hv
  · rw [List.getElem?_append_right (by omega)] at hi
    rw [List.getElem?_append_right (by rw [← h.1]; omega), ← h.1] at hv
    exact k.2 _ x v hi hv

section
variable {H : Type} {enc : TypeId × Value → H} {P : Program} {w : World} {sp : Nat → Bool} {held : Bool}

theorem fields_rt {m n : Nat} {cs : List Value} {S : List TypeId} (hcs : cs.length = n)
    (ih : ∀ (t : TypeId) (cs : List Value) x, t ∈ S → DataW.trod enc P w 0 sp held m t cs = some x → Light P t x.1 → ∃ ts, HasT P t ts ∧ Cells w ts cs) :
    ∀ (l : List Field) (o : Nat), o ≤ n → tile P n o l = true → (∀ f ∈ l, f.type ∈ S ∧ ∃ x, DataW.trod enc P w 0 sp held m f.type ((cs.drop f.offset).take (P.cellsOf f.type)) = some x ∧ Light P f.type x.1) → (∀ f ∈ l, f.offset + P.cellsOf f.type ≤ n) →
      ∃ ts, Cells w ts (cs.drop o) ∧ ∀ f ∈ l, o ≤ f.offset ∧ HasT P f.type ((ts.drop (f.offset - o)).take (P.cellsOf f.type))
  | [], o, ho, ht, _, _ => by
    simp only [tile] at ht
    have := Nat.eq_of_beq_eq_true ht
    exact ⟨[], ⟨by simp; omega, by simp⟩, by simp⟩
  | f :: l, o, ho, ht, hl, hn => by
    simp only [tile, Bool.and_eq_true] at ht
    have he := Nat.eq_of_beq_eq_true ht.1
    obtain ⟨hS, x, hx, hxl⟩ := hl f (by simp)
    have hfn := hn f (by simp)
    obtain ⟨t1, h1, c1⟩ := ih _ _ x hS hx hxl
    obtain ⟨t2, c2, h2⟩ := fields_rt hcs ih l (o + P.cellsOf f.type) (by omega) ht.2 (fun g hg => hl g (by simp [hg])) (fun g hg => hn g (by simp [hg]))
    rw [he] at c1 hx
    have hl1 : t1.length = P.cellsOf f.type := by rw [c1.1]; simp; omega
    refine ⟨t1 ++ t2, ?_, fun g hg => ?_⟩
    · have := c1.append c2
      rw [← List.drop_drop, List.take_append_drop] at this
      exact this
    · rcases List.mem_cons.1 hg with rfl | hg
      · refine ⟨by omega, ?_⟩
        rw [he, Nat.sub_self, List.drop_zero, ← hl1, List.take_left]
        exact h1
      · obtain ⟨k1, k2⟩ := h2 g hg
        refine ⟨by omega, ?_⟩
        rw [List.drop_append, show t1.drop (g.offset - o) = [] from List.drop_eq_nil_of_le (by omega), List.nil_append, hl1, show g.offset - o - P.cellsOf f.type = g.offset - (o + P.cellsOf f.type) by omega]
        exact k2

theorem tile_le {n : Nat} : ∀ {l : List Field} {o : Nat}, tile P n o l = true → o ≤ n ∧ ∀ f ∈ l, f.offset + P.cellsOf f.type ≤ n
  | [], o, h => by simp only [tile] at h; exact ⟨Nat.le_of_eq (Nat.eq_of_beq_eq_true h), by simp⟩
  | f :: l, o, h => by
    simp only [tile, Bool.and_eq_true] at h
    have he := Nat.eq_of_beq_eq_true h.1
    obtain ⟨h1, h2⟩ := tile_le h.2
    refine ⟨by omega, fun g hg => ?_⟩
    rcases List.mem_cons.1 hg with rfl | hg
    · omega
    · exact h2 g hg

theorem elems_rt {m s n : Nat} {cs : List Value} {e : TypeId}
    (ih : ∀ i, i < n → ∃ ts, HasT P e ts ∧ Cells w ts ((cs.drop (i * s)).take s)) (hcs : cs.length = n * s) : ∀ k, k ≤ n →
      ∃ ts, Cells w ts (cs.drop (k * s)) ∧ ∀ i, k ≤ i → i < n → HasT P e ((ts.drop (i * s - k * s)).take s) := by
  intro k hk
  obtain ⟨j, rfl⟩ : ∃ j, n = k + j := ⟨n - k, by omega⟩
  clear hk
  induction j generalizing k with
  | zero => exact ⟨[], ⟨by simp [hcs], by simp⟩, fun i h1 h2 => by omega⟩
  | succ j ihj =>
    obtain ⟨t1, h1, c1⟩ := ih k (by omega)
    obtain ⟨t2, c2, h2⟩ := ihj (k + 1) (fun i hi => ih i (by omega)) (by rw [hcs]; congr 1; omega)
    have hle : (k + 1) * s ≤ (k + (j + 1)) * s := Nat.mul_le_mul_right _ (by omega)
    have hk1 : (k + 1) * s = k * s + s := by rw [Nat.add_mul, Nat.one_mul]
    have hl1 : t1.length = s := by rw [c1.1]; simp; omega
    refine ⟨t1 ++ t2, ?_, fun i hi1 hi2 => ?_⟩
    · have := c1.append c2
      rw [hk1, ← List.drop_drop, List.take_append_drop] at this
      exact this
    · by_cases e : i = k
      · subst e
        rw [Nat.sub_self, List.drop_zero, ← hl1, List.take_left]
        exact h1
      · have h3 : (k + 1) * s ≤ i * s := Nat.mul_le_mul_right _ (by omega)
        rw [List.drop_append, show t1.drop (i * s - k * s) = [] from List.drop_eq_nil_of_le (by omega), List.nil_append, hl1, show i * s - k * s - s = i * s - (k + 1) * s by omega]
        exact h2 i (by omega) (by omega)

theorem cell_spot {a : Addr} {v : Value} (h : w.cell? a = some v) : a.spot = none := by
  unfold World.cell? at h
  split at h
  · split at h
    · cases h
    · rename_i hs; simpa using hs
  · cases h

theorem trod_rt {S : List TypeId} (hS : plainTys P S = true) : ∀ (fuel : Nat) (t : TypeId) (cs : List Value) x, t ∈ S → DataW.trod enc P w 0 sp held fuel t cs = some x → Light P t x.1 → ∃ ts, HasT P t ts ∧ Cells w ts cs
  | 0, t, cs, x, _, h, _ => by simp [DataW.trod] at h
  | fuel + 1, t, cs, x, ht, h, hwt => by
    have ih := trod_rt hS fuel
    have hp : plainTy P S t = true := by
      unfold plainTys at hS; rw [List.all_eq_true] at hS; exact hS t ht
    unfold plainTy at hp
    have single : ∀ {c : T} {v : Value}, RT w (fun _ => False) c v → c.one = true → Cells w [c] [v] := by
      intro c v h1 h2
      refine ⟨rfl, fun i c' v' hi hv => ?_⟩
      match i with
      | 0 => cases hi; cases hv; exact ⟨h1, h2⟩
      | i + 1 => simp at hi
    split at hp
    · rename_i hu
      obtain ⟨b, rfl, _⟩ := DataW.trod_bool hu h
      exact ⟨_, .bool hu b, single (.bool b) rfl⟩
    · rename_i k hu
      obtain ⟨n, rfl, _, hw⟩ := DataW.trod_int hu h
      exact ⟨_, .int hu n hw, single (.int k n) rfl⟩
    · rename_i hu
      obtain ⟨s, rfl, rfl, hs⟩ := DataW.trod_string hu h
      exact ⟨_, .str hu s.data.toList (by have := hwt s.data.toList.length (by simp [DataW.weights]); exact this), single (.str s) rfl⟩
    · rename_i e hu
      simp only [Bool.and_eq_true] at hp
      have heS : e ∈ S := by simpa using hp.1
      have hs1 := Nat.le_of_ble_eq_true hp.2
      rcases DataW.trod_slice hu h with ⟨rfl, _⟩ | ⟨a, len, cap, elems, rest, n, hn, rfl, rfl, _, hl, hm, hlen, hel, _, _⟩
      · exact ⟨_, .nils hu, single .nils rfl⟩
      · obtain rfl : fuel = n := by omega
        simp only [Light, DataW.weights, hu, List.length_map, List.mem_cons, List.mem_append] at hwt
        have hbytes : len * P.bytesOf e ≤ reachBytes := Nat.le_trans (Nat.mul_le_mul_right _ (by omega)) (hwt _ (.inl rfl))
        have hlight := light_all (P := P) (e := e) (l := elems.map (·.1)) fun n hn => hwt n (.inr (.inl hn))
        have each : ∀ i, ∃ p : List Value × List T, i < len → HasT P e p.2 ∧ Cells w p.2 p.1 ∧ p.1.length = P.cellsOf e ∧ ∀ j, j < P.cellsOf e → w.cell? ((a.add (i * P.cellsOf e)).add j) = p.1[j]? := by
          intro i
          by_cases hi : i < len
          · have h1 := hel i hi
            obtain ⟨y, hy⟩ : ∃ y, elems[i]? = some y := ⟨elems[i]'(by omega), List.getElem?_eq_getElem _⟩
            rw [hy, Option.bind_eq_some_iff] at h1
            obtain ⟨vs, h2, h3⟩ := h1
            obtain ⟨ts, k1, k2⟩ := ih e vs y heS h3 (hlight _ (List.mem_map.2 ⟨y, List.mem_of_getElem? hy, rfl⟩))
            obtain ⟨_, h4, h5⟩ := World.cells?_some h2
            exact ⟨(vs, ts), fun _ => ⟨k1, k2, h4, fun j hj => h5 j hj⟩⟩
          · exact ⟨([], []), fun h => (hi h).elim⟩
        obtain ⟨f, hf⟩ := Classical.skolem.1 each
        have hspot : len ≠ 0 → a.spot = none := fun hne => by
          obtain ⟨_, _, h4, h5⟩ := hf 0 (by omega)
          have h6 := h5 0 (by omega)
          rw [Nat.zero_mul] at h6
          have e0 : ∀ a : Addr, a.add 0 = a := fun a => rfl
          rw [e0, e0, List.getElem?_eq_getElem (by omega)] at h6
          exact cell_spot h6
        obtain ⟨b, off, spt⟩ := a
        let l := (List.range len).map fun i => (f i).2
        have hll : l.length = len := by simp [l]
        have hget : ∀ (i : Nat) cs, l[i]? = some cs → i < len ∧ cs = (f i).2 := by
          intro i cs hi
          have hlt := lt_of_getElem? hi
          rw [hll] at hlt
          simp [l, hlt] at hi
          exact ⟨hlt, hi.symm⟩
        have hge : ∀ (i : Nat) e', (l.map (mkElem (P.cellsOf e)))[i]? = some e' → i < len ∧ e'.cells = (f i).2 := by
          intro i e' hi
          simp only [List.getElem?_map, Option.map_eq_some_iff] at hi
          obtain ⟨cs, hi, rfl⟩ := hi
          obtain ⟨hlt, rfl⟩ := hget i cs hi
          refine ⟨hlt, mkElem_cells ?_ ?_ hs1⟩
          · obtain ⟨_, k2, k3, _⟩ := hf i hlt; rw [k2.1, k3]
          · obtain ⟨_, k2, k3, _⟩ := hf i hlt
            rw [List.all_eq_true]
            intro c hc
            obtain ⟨j, hj⟩ := List.getElem?_of_mem hc
            have hjl := lt_of_getElem? hj
            rw [k2.1] at hjl
            exact (k2.2 j c _ hj (List.getElem?_eq_getElem hjl)).2
        refine ⟨_, .vec hu l (by rw [hll]; omega) (by rw [hll]; exact hbytes) (fun i cs hi => by obtain ⟨hlt, rfl⟩ := hget i cs hi; exact (hf i hlt).1), single ?_ rfl⟩
        have := RT.vec (w := w) (M := fun _ => False) (P.cellsOf e) (l.map (mkElem (P.cellsOf e))) b off cap spt (fun i j => (f i).1.getD j undef) (fun _ _ h => h) (by simp [hll]; exact hl)
          (fun hne => hspot (fun e0 => hne (by have : l = [] := List.eq_nil_of_length_eq_zero (by omega); simp [this])))
          (fun i e' hi => by obtain ⟨hlt, he'⟩ := hge i e' hi; obtain ⟨_, k2, k3, _⟩ := hf i hlt; rw [he', k2.1, k3])
          (fun i e' j c hi hj => by
            obtain ⟨hlt, he'⟩ := hge i e' hi
            obtain ⟨_, k2, k3, k4⟩ := hf i hlt
            rw [he'] at hj
            have hjl := lt_of_getElem? hj
            rw [k2.1, k3] at hjl
            have h6 := k4 j hjl
            have hs0 : spt = none := hspot (by omega)
            subst hs0
            rw [Addr.add_lit, Addr.add_lit] at h6
            have hv : (f i).1[j]? = some ((f i).1[j]'(by omega)) := List.getElem?_eq_getElem _
            refine ⟨by rw [h6, hv]; simp [List.getD_eq_getElem?_getD, hv], (k2.2 j c _ hj hv).2⟩)
          (fun i e' j c hi hj => by
            obtain ⟨hlt, he'⟩ := hge i e' hi
            obtain ⟨_, k2, k3, k4⟩ := hf i hlt
            rw [he'] at hj
            have hjl := lt_of_getElem? hj
            rw [k2.1, k3] at hjl
            have hv : (f i).1[j]? = some ((f i).1[j]'(by omega)) := List.getElem?_eq_getElem _
            have := (k2.2 j c _ hj hv).1
            simpa [List.getD_eq_getElem?_getD, hv] using this)
        rw [List.length_map, hll] at this
        exact this
    · rename_i fs hu
      simp only [Bool.and_eq_true, List.all_eq_true] at hp
      obtain ⟨xs, n, hn, rfl, hl, hxl, hx⟩ := DataW.trod_struct hu h
      obtain rfl : fuel = n := by omega
      simp only [Light, DataW.weights, hu] at hwt
      have hlight := light_each hwt
      obtain ⟨_, hle⟩ := tile_le hp.2
      obtain ⟨ts, c1, h1⟩ := fields_rt (m := fuel) hl ih fs.toList 0 (Nat.zero_le _) hp.2 (fun f hf => by
        refine ⟨by simpa using hp.1 f hf, ?_⟩
        obtain ⟨i, hi⟩ := List.getElem?_of_mem hf
        have hlt := lt_of_getElem? hi
        have := hx i f (by rw [← Array.getElem?_toList]; exact hi)
        rw [this]
        have hxi : xs[i]? = some (xs[i]'(by simp at hlt; omega)) := List.getElem?_eq_getElem _
        exact ⟨_, hxi, hlight i _ _ (by simp only [List.getElem?_map, hi, Option.map_some]) (by simp only [List.getElem?_map, hxi, Option.map_some])⟩) hle
      rw [List.drop_zero] at c1
      exact ⟨ts, .struct hu ts (by rw [c1.1, hl]) (fun f hf => by have := (h1 f hf).2; rwa [Nat.sub_zero] at this), c1⟩
    · rename_i n e hu
      simp only [Bool.and_eq_true] at hp
      obtain ⟨xs, m, hn, rfl, hl, hxl, hx⟩ := DataW.trod_array hu h
      obtain rfl : fuel = m := by omega
      simp only [Light, DataW.weights, hu] at hwt
      have hlight := light_all hwt
      have hne := Nat.eq_of_beq_eq_true hp.2
      obtain ⟨ts, c1, h1⟩ := elems_rt (m := 0) (s := P.cellsOf e) (n := n) (cs := cs) (e := e) (fun i hi => by
        have := hx i hi
        have h2 : xs[i]? = some (xs[i]'(by omega)) := List.getElem?_eq_getElem _
        rw [h2] at this
        exact ih e _ _ (by simpa using hp.1) this (hlight _ (List.mem_map.2 ⟨_, List.mem_of_getElem? h2, rfl⟩))) (by rw [hl, hne]) 0 (Nat.zero_le _)
      rw [Nat.zero_mul, List.drop_zero] at c1
      exact ⟨ts, .array hu ts (by rw [c1.1, hl]) (fun i hi => by have := h1 i (Nat.zero_le _) hi; rwa [Nat.zero_mul, Nat.sub_zero] at this), c1⟩
    · cases hp

/-- A value of such a type, as data. -/
def argOf (P : Program) (t : TypeId) (cs : List T) : T :=
  match P.underlying t with
  | some (.struct _) => .agg cs
  | some (.array _ _) => .agg cs
  | _ => cs.headD .nilp

theorem Cells.agg {ts : List T} {cs : Array Value} (h : Cells w ts cs.toList) : RT w (fun _ => False) (.agg ts) (.agg cs) :=
  .agg ts cs (by rw [h.1]; simp) (fun i c hi => by
    have hlt := lt_of_getElem? hi
    rw [h.1] at hlt
    exact (h.2 i c _ hi (List.getElem?_eq_getElem hlt)).2) (fun i c v hi hv => (h.2 i c v hi (by simpa using hv)).1)

/-- An argument that came in. -/
theorem open_arg {S : List TypeId} (hS : plainTys P S = true) {t : TypeId} (ht : t ∈ S) {r : Reach} {b0 : Nat} {v : Value} {d : DataW H} {ps : List MemPlace} (hval : Value.okWide P w r b0 t v) (hd : DataW.Trod enc P w 0 sp held t v d ps) (hwt : Light P t d) :
    ∃ cs, HasT P t cs ∧ RT w (fun _ => False) (argOf P t cs) v := by
  obtain ⟨fuel, hf⟩ := hd
  obtain ⟨ts, h1, c1⟩ := trod_rt hS fuel t _ _ ht hf hwt
  refine ⟨ts, h1, ?_⟩
  have hp : plainTy P S t = true := by
    unfold plainTys at hS; rw [List.all_eq_true] at hS; exact hS t ht
  unfold plainTy at hp
  unfold Value.okWide at hval
  unfold argOf
  have one : (∀ cs, v ≠ .agg cs) → RT w (fun _ => False) (ts.headD .nilp) v := by
    intro hne
    have hv : v.cells = #[v] := by cases v <;> first | rfl | exact (hne _ rfl).elim
    rw [hv] at c1
    have hl : ts.length = 1 := c1.1
    match ts, hl, c1 with
    | [c], _, c1 => exact (c1.2 0 c v rfl rfl).1
  split at hp
  · rename_i hu; rw [hu] at hval ⊢
    exact one fun cs e => by subst e; simp [Cell.okWide, hu, Cell.ok] at hval
  · rename_i hu; rw [hu] at hval ⊢
    exact one fun cs e => by subst e; simp [Cell.okWide, hu, Cell.ok] at hval
  · rename_i hu; rw [hu] at hval ⊢
    exact one fun cs e => by subst e; simp [Cell.okWide, hu, Cell.ok] at hval
  · rename_i hu; rw [hu] at hval ⊢
    exact one fun cs e => by subst e; simp [Cell.okWide, hu, Cell.ok] at hval
  · rename_i hu; rw [hu] at hval ⊢
    obtain ⟨cs, rfl, _⟩ := hval
    exact c1.agg
  · rename_i hu; rw [hu] at hval ⊢
    obtain ⟨cs, rfl, _⟩ := hval
    exact c1.agg
  · cases hp

/-- What 'returnsInHanded_of_change' asks, with the bound on the arguments' sizes at hand. -/
theorem handed_light {a : Assume} {C : Checked} {os : Os} {f : FuncId} {fn : Func} {s : ChangeSpec} {conds : List PathCond} {apart fresh handsOn again : Bool}
    (own : ownKnob C.prog.godebug = none) (started : os.Started) (noInit : C.prog.inits.idxOf? f = none) (hfn : C.prog.funcs[f]? = some fn)
    (witness : ∃ (w : World) (tape : Tape) (i : Input), w.os = os ∧ (w.forCall tape i).Shaped C.prog ∧ i.vars = [] ∧ Input.okWide C.prog (w.forCall tape i) .any w.heap.size f i ∧
      s.pre6 enc C.prog fn conds apart (w.forCall tape i).memory i.args ∧ a.holds C.prog (lone (Frame.enter C.prog f i.args .normal) [] (w.forCall tape i)))
    (contract : ∀ (W : World) (base : Nat) (args : Array Value) (ds gs : List (DataW H)) (before : List MemPlace),
      (∀ (j : Nat) t v, fn.params[j]? = some t → args[j]? = some v → Value.okWide C.prog W .any base t v) → DataW.Whole enc C.prog fn.params.toList s.vars apart W args.toList ds gs before →
      (∀ n ∈ DataW.weightsEach C.prog (fn.params.toList ++ s.plain.varTypes C.prog) (ds ++ gs), n ≤ reachBytes) →
      Calls C.prog f args W fun e W' => ∃ v, e = .returned v ∧ s.post enc C.prog fn apart fresh handsOn again W args v W') :
    ReturnsInHanded a C os f .any (s.pre6 enc C.prog fn conds apart) (s.post enc C.prog fn apart fresh handsOn again) := by
  refine returnsInHanded_of_calls own started noInit witness ?_
  intro w tape i _ _ _ hok ⟨⟨ds, gs, before, hw, _⟩, hz⟩ _
  obtain ⟨_, _, _, fn', hfn', _, _, _, _, hval⟩ := hok
  obtain rfl : fn' = fn := Option.some.inj (hfn'.symm.trans hfn)
  have hl : ∀ n ∈ DataW.weightsEach C.prog (fn'.params.toList ++ s.plain.varTypes C.prog) (ds ++ gs), n ≤ reachBytes := fun n hn => by
    have := List.all_eq_true.1 (hz.weights hw) n hn
    simpa using this
  refine (contract (w.forCall tape i) w.heap.size i.args ds gs before hval (DataW.Whole.of_heap (w' := w.forCall tape i) (by rfl) hw) hl).mono fun e W' ⟨v, he, hp⟩ => ?_
  subst he
  exact ChangeSpec.post_blind hp

theorem light_here {P : Program} {t : TypeId} {ts : List TypeId} {d : DataW H} {r : List (DataW H)} (h : ∀ n ∈ DataW.weightsEach P (t :: ts) (d :: r), n ≤ reachBytes) : Light P t d ∧ ∀ n ∈ DataW.weightsEach P ts r, n ≤ reachBytes := by
  simp only [DataW.weightsEach, List.mem_append] at h
  exact ⟨fun n hn => h n (.inl hn), fun n hn => h n (.inr hn)⟩

end
end Go.Proofs.Ytddigcnpapfpjaa
