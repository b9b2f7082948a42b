/-
  The contracts of bytes.Buffer's writers, over a walk's memory: the calls.
-/
import Derived.Test.YthpkehhghcpolaaDoorQBd
namespace Go.Proofs.YthpkehhghcpolaaDoor
open Go.Shelf Go.RowKit Go.Proofs
set_option linter.unusedVariables false
set_option linter.unusedSimpArgs false

/-- What is written, over a walk's memory as a list. -/
def srcH (e : TypeId) (H : AH) : AV → Option (List T)
  | .t (.vec 1 l) => some l
  | .sl k g i n =>
    match H[k]? with
    | some (.arr e' 1 z gen (.ts l)) => (match Nat.beq e e' && Nat.beq g gen && Nat.ble (Nat.add i n) l.length && (!z || Nat.ble 1 l.length) with | true => some ((l.drop i).take n) | false => none)
    | _ => none
  | _ => none

theorem src_ok {w : World} {c : Cx} {H : AH} {B e : Nat} {xa : AV} {v : Value} {p : List T} (hs : HS w c H B) (hx : RA w c H xa v) (h : srcH e H xa = some p) :
    ∃ (a : Addr) (cp : Nat) (cs : List Value), v = .slice (some a) p.length cp ∧ cs.length = p.length ∧ (∀ (j : Nat) u, cs[j]? = some u → w.cell? (a.add j) = some u) ∧ (∀ u ∈ cs, u.oneCell' = true) ∧
      (∀ b cb cells, H[b]? = some (.box cells) → c.G b = some cb → p.length = 0 ∨ a.block ≠ cb) ∧ Rowed w c H 1 (.ts p) cs.toArray := by
  unfold srcH at h
  split at h
  · rename_i l
    cases h
    cases hx with | t _ _ hx => cases hx with | vec _ _ b off cap sp vals hM hcap hsp hss hc hr =>
    have hss' : ∀ (i : Nat) x, (Sq.ts p).get i = some x → x.cells.length = 1 := fun i x hi => by
      obtain ⟨e, hi', rfl⟩ := ts_get hi
      rw [T.cells_t, List.length_map]; exact hss i e hi'
    obtain ⟨vs, h1, h2, h3, h4⟩ := rows_values (w := w) (Nat.le_refl 1) (R := RA w c H) (l := .ts p) vals hss' (fun i x j y hi hj => by
      obtain ⟨e, hi', rfl⟩ := ts_get hi
      obtain ⟨d, hj', rfl⟩ := t_cell hj
      obtain ⟨k1, k2⟩ := hc i e j d hi' hj'
      have k3 := hr i e j d hi' hj'
      exact ⟨k1, k2, .t _ _ k3, (k3.oneCell k2).1⟩)
    have hvl : vs.length = p.length := by rw [h1, Nat.mul_one]; rfl
    refine ⟨⟨b, off, sp⟩, cap, vs, rfl, hvl, fun j u hj => ?_, h3, fun b' cb cells hb' hcb => ?_, fun i x hi => ⟨hss' i x hi, fun j y hj => ?_⟩⟩
    · have hlt := lt_of_getElem? hj
      obtain rfl := hsp (fun e => by subst e; rw [hvl] at hlt; simp at hlt)
      exact h2 j u hj
    · by_cases hp : p = []
      · left; simp [hp]
      · right
        rintro rfl
        exact hM hp (by omega) (.inr ⟨b', _, hb', rfl, hcb⟩)
    · obtain ⟨v, q1, q2⟩ := h4 i x hi j y hj
      exact ⟨v, by simpa using q1, q2⟩
  · rename_i k g i n
    obtain ⟨e', z, gen, l, hk, hcc, rfl⟩ : ∃ e' z gen l, H[k]? = some (.arr e' 1 z gen (.ts l)) ∧ (Nat.beq e e' && Nat.beq g gen && Nat.ble (Nat.add i n) l.length && (!z || Nat.ble 1 l.length)) = true ∧ (l.drop i).take n = p := by
      cases hk : H[k]? with
      | none => rw [hk] at h; cases h
      | some blk0 =>
        rw [hk] at h
        cases blk0 with
        | arr e' s' z' gen lq =>
          cases lq with
          | vs lq => simp at h
          | ts lq =>
            by_cases hs1 : s' = 1
            · subst hs1
              refine ⟨e', z', gen, lq, rfl, ?_⟩
              simp only at h
              cases hc : Nat.beq e e' && Nat.beq g gen && Nat.ble (Nat.add i n) lq.length && (!z' || Nat.ble 1 lq.length) with
              | true => rw [hc] at h; exact ⟨rfl, Option.some.inj h⟩
              | false => rw [hc] at h; cases h
            · simp [hs1] at h
        | _ => cases h
    clear h
    by_cases htriv : True
    · by_cases htriv : True
      ·
        simp only [Bool.and_eq_true] at hcc
        have hzz := hcc.2
        replace hcc := hcc.1
        have hg := Nat.eq_of_beq_eq_true hcc.1.2
        have hle := Nat.le_of_ble_eq_true hcc.2
        have hle : i + n ≤ l.length := hle
        cases hx with | sl _ _ _ _ _ blk hb hm hv =>
        rw [hk] at hb; cases hb
        obtain ⟨hlen, hm⟩ := hm.2 hg
        have hpl : ((l.drop i).take n).length = n := by rw [List.length_take, List.length_drop]; omega
        have hnil : n = 0 → Rowed w c H 1 (.ts ((l.drop i).take n)) (#[] : Array Value) := fun h => by subst h; exact Rowed.ts.2 (by simp)
        rw [hpl]
        rcases hm with ⟨h1, h1', _⟩ | ⟨_, h2, ad, rfl⟩ | ⟨hne, cb, cap, off, hgk, rfl, hsz, hcap, hmx, hoff, hoff0⟩
        · subst h1
          have : l.length = 0 := h1'
          rw [this] at hzz
          cases hzz
        · have hn0 : n = 0 := by have h2 : l.length = 0 := h2; omega
          subst hn0
          exact ⟨ad, 0, [], rfl, rfl, by simp, by simp, fun _ _ _ _ _ => .inl rfl, hnil rfl⟩
        · by_cases hn0 : n = 0
          · subst hn0
            exact ⟨_, cap, [], rfl, rfl, by simp, by simp, fun _ _ _ _ _ => .inl rfl, hnil rfl⟩
          · obtain ⟨arr, cap', h1, h2, h3, h4, h5⟩ := hs.arr k cb e' 1 z gen _ hk hgk
            have hoff' : off = i * 1 := hoff.resolve_left (by omega)
            have hget : ∀ (k : Nat) x, ((l.drop i).take n)[k]? = some x → l[i + k]? = some x := fun k x hk => by
              rw [List.getElem?_take] at hk
              split at hk
              · rw [List.getElem?_drop] at hk; exact hk
              · cases hk
            have hss : ∀ (k : Nat) x, (Sq.ts ((l.drop i).take n)).get k = some x → x.cells.length = 1 := fun k x hk => by
              obtain ⟨e, hk', rfl⟩ := ts_get hk
              rw [T.cells_t, List.length_map]; exact (Rowed.ts.1 h5 _ e (hget k e hk')).1
            obtain ⟨vs, k1, k2, k3, k4⟩ := rows_values (w := w) (Nat.le_refl 1) (R := RA w c H) (l := .ts ((l.drop i).take n)) (b := cb) (off := off) (fun k j => arr.getD ((i + k) * 1 + j) undef) hss (fun k x j y hk hj => by
              obtain ⟨e, hk', rfl⟩ := ts_get hk
              obtain ⟨d, hj', rfl⟩ := t_cell hj
              obtain ⟨u, hu, q1, q2, q3⟩ := (Rowed.ts.1 h5 _ e (hget k e hk')).2 j d hj'
              refine ⟨?_, q1, by simp only [Array.getD_eq_getD_getElem?, hu, Option.getD_some]; exact .t _ _ q2, by simp only [Array.getD_eq_getD_getElem?, hu, Option.getD_some]; exact q3⟩
              rw [cell_row h1, show off + k * 1 + j = (i + k) * 1 + j by rw [hoff', Nat.add_mul], hu, Array.getD_eq_getD_getElem?, hu]
              rfl)
            refine ⟨_, cap, vs, rfl, by rw [k1, Nat.mul_one]; exact hpl, k2, k3, fun b' cb' cells hb' hcb => .inr ?_, fun i x hi => ⟨hss i x hi, fun j y hj => ?_⟩⟩
            · show cb ≠ cb'
              rintro rfl
              have := hs.inj k b' cb hgk hcb
              subst this
              rw [hk] at hb'; cases hb'
            · obtain ⟨v, q1, q2⟩ := k4 i x hi j y hj
              exact ⟨v, by simpa using q1, q2⟩
      · exact (htriv trivial).elim
    · exact (htriv trivial).elim
  · cases h

section
variable {P : Program} {ρ : Go.Shelf.Ren}

theorem ptr_box {w : World} {c : Cx} {H : AH} {b g i o : Nat} {cells : List AV} {v : Value} (hb : H[b]? = some (.box cells)) (h : RA w c H (.ptr b g i o) v) : ∃ cb, c.G b = some cb ∧ v = .pointer (some ⟨cb, o, none⟩) := by
  cases h with | ptr _ _ _ _ _ blk hb' hm hv =>
  rw [hb] at hb'; cases hb'
  exact hm

theorem two_args {vs : Array Value} (h : vs.size = 2) : ∃ a b, vs = #[a, b] ∧ vs[0]? = some a ∧ vs[1]? = some b := by
  obtain ⟨l⟩ := vs
  match l, h with
  | [a, b], _ => exact ⟨a, b, rfl, rfl, rfl⟩

/-- (*bytes.Buffer).Write. -/
theorem write_calls (L : LaysM.n180 P ρ) {H : AH} {b g i o : Nat} {cells : List AV} {x y z xa : AV} {l p : List T} (hb : H[b]? = some (.box cells)) (h3 : get3 o cells = some (x, y, z)) (hy : isZ y = true) (hz : isLr z = true)
    (hx : BSt H (ρ.t 5) x l) (hp : srcH (ρ.t 5) H xa = some p) (hn : x = .t .nils → 1 ≤ p.length) (hlim : l.length + p.length ≤ 140737488355328) :
    CallS P (ρ.f 180) [.ptr b g i o, xa] H (fun r H' => r = .tup [.t (.int .i64 (p.length : Int)), .t .nili] ∧ H' = bnext H (ρ.t 5) b o cells p x) := by
  intro B c w vs hs hsz hargs
  obtain ⟨v0, v1, rfl, e0, e1⟩ := two_args hsz
  obtain ⟨cb, hcb, rfl⟩ := ptr_box hb (hargs 0 _ _ rfl e0)
  obtain ⟨a, cp, cs, rfl, s1, s2, s3, s4, s5⟩ := src_ok hs (hargs 1 _ _ rfl e1) hp
  obtain ⟨arr, Tb, bs, o1, o2, o3, o4, o5, o6, o7⟩ := open_buf hs hb hcb h3 hy hz hx
  refine .inl ⟨⟨_, L.f180, by kernel_rfl, rfl⟩, (kr_Write L Tb (fun i => arr[i]?) B cb o bs cs a p.length cp w o3 hs.hB o5 s1 (s4 b cb cells hb hcb) s2 s3 (by omega)).mono ?_⟩
  rintro e w' ⟨rfl, hI, hbel, hkp⟩
  obtain ⟨c', ev, hs'⟩ := shut_buf hs hb hcb h3 hx o1 o2 o4 o6 o7 hI hkp s1 s5 hn
  refine ⟨_, c', _, _, rfl, .tup _ _ rfl fun i x v hi hv => ?_, hs', ev, hbel, rfl, rfl⟩
  match i, hi, hv with
  | 0, hi, hv => cases hi; cases hv; exact .t _ _ (.int _ _)
  | 1, hi, hv => cases hi; cases hv; exact .t _ _ .nili
  | i + 2, hi, hv => simp at hi

theorem bytes_rowed {w : World} {c : Cx} {H : AH} (bs : List UInt8) : Rowed w c H 1 (.ts (bs.map fun c => T.int .u8 (c.toNat : Int))) (Lib.byteCells bs).toArray := by
  refine Rowed.ts.2 fun i x hi => ?_
  obtain ⟨b, hb, rfl⟩ := bytes_cells hi
  refine ⟨rfl, fun j y hj => ?_⟩
  cases j with
  | zero => simp [T.cells] at hj; subst hj; exact ⟨.int .u8 b.toNat, by simp [Lib.byteCells, hb], rfl, .int _ _, rfl⟩
  | succ j => simp [T.cells] at hj

/-- (*bytes.Buffer).WriteString. -/
theorem writeString_calls (L : LaysM.n178 P ρ) {H : AH} {b g i o : Nat} {cells : List AV} {x y z : AV} {l : List T} {s : List UInt8} (hb : H[b]? = some (.box cells)) (h3 : get3 o cells = some (x, y, z)) (hy : isZ y = true) (hz : isLr z = true)
    (hx : BSt H (ρ.t 5) x l) (hn : x = .t .nils → 1 ≤ s.length) (hlim : l.length + s.length ≤ 140737488355328) :
    CallS P (ρ.f 178) [.ptr b g i o, .t (.str s)] H (fun r H' => r = .tup [.t (.int .i64 (s.length : Int)), .t .nili] ∧ H' = bnext H (ρ.t 5) b o cells (s.map fun c => .int .u8 (c.toNat : Int)) x) := by
  intro B c w vs hs hsz hargs
  obtain ⟨v0, v1, rfl, e0, e1⟩ := two_args hsz
  obtain ⟨cb, hcb, rfl⟩ := ptr_box hb (hargs 0 _ _ rfl e0)
  obtain ⟨ba, rfl, hba⟩ : ∃ ba : ByteArray, v1 = .string ba ∧ ba.data.toList = s := by
    have := hargs 1 _ _ rfl e1
    cases this with | t _ _ h => cases h with | str ba => exact ⟨ba, rfl, rfl⟩
  have hsl : ba.size = s.length := by rw [← hba]; rfl
  obtain ⟨arr, Tb, bs, o1, o2, o3, o4, o5, o6, o7⟩ := open_buf hs hb hcb h3 hy hz hx
  refine .inl ⟨⟨_, L.f178, by kernel_rfl, rfl⟩, (kr_WriteString L Tb (fun i => arr[i]?) B cb o bs ba w o3 hs.hB o5 (by omega)).mono ?_⟩
  rintro e w' ⟨rfl, hI, hbel, hkp⟩
  rw [hba] at hI
  obtain ⟨c', ev, hs'⟩ := shut_buf (p := s.map fun c => .int .u8 (c.toNat : Int)) hs hb hcb h3 hx o1 o2 o4 o6 o7 hI hkp (by simp [Lib.byteCells]) (bytes_rowed s) (by simpa using hn)
  rw [hsl]
  refine ⟨_, c', _, _, rfl, .tup _ _ rfl fun i x v hi hv => ?_, hs', ev, hbel, rfl, rfl⟩
  match i, hi, hv with
  | 0, hi, hv => cases hi; cases hv; exact .t _ _ (.int _ _)
  | 1, hi, hv => cases hi; cases hv; exact .t _ _ .nili
  | i + 2, hi, hv => simp at hi

/-- (*bytes.Buffer).WriteByte. -/
theorem writeByte_calls (L : LaysM.n179 P ρ) {H : AH} {b g i o : Nat} {cells : List AV} {x y z : AV} {l : List T} {n : Int} (hb : H[b]? = some (.box cells)) (h3 : get3 o cells = some (x, y, z)) (hy : isZ y = true) (hz : isLr z = true)
    (hx : BSt H (ρ.t 5) x l) (hlim : l.length + 1 ≤ 140737488355328) :
    CallS P (ρ.f 179) [.ptr b g i o, .t (.int .u8 n)] H (fun r H' => r = .t .nili ∧ H' = bnext H (ρ.t 5) b o cells [.int .u8 n] x) := by
  intro B c w vs hs hsz hargs
  obtain ⟨v0, v1, rfl, e0, e1⟩ := two_args hsz
  obtain ⟨cb, hcb, rfl⟩ := ptr_box hb (hargs 0 _ _ rfl e0)
  obtain rfl : v1 = .int .u8 n := by
    have := hargs 1 _ _ rfl e1
    cases this with | t _ _ h => cases h; rfl
  obtain ⟨arr, Tb, bs, o1, o2, o3, o4, o5, o6, o7⟩ := open_buf hs hb hcb h3 hy hz hx
  refine .inl ⟨⟨_, L.f179, by kernel_rfl, rfl⟩, (kr_WriteByte L Tb (fun i => arr[i]?) B cb o bs n w o3 hs.hB o5 (by omega)).mono ?_⟩
  rintro e w' ⟨rfl, hI, hbel, hkp⟩
  obtain ⟨c', ev, hs'⟩ := shut_buf (p := [.int .u8 n]) hs hb hcb h3 hx o1 o2 o4 o6 o7 hI hkp rfl (Rowed.ts.2 fun i x hi => by
    cases i with
    | zero =>
      simp at hi; subst hi
      refine ⟨rfl, fun j y hj => ?_⟩
      cases j with
      | zero => simp [T.cells] at hj; subst hj; exact ⟨.int .u8 n, by simp, rfl, .int _ _, rfl⟩
      | succ j => simp [T.cells] at hj
    | succ i => simp at hi) (by simp)
  exact ⟨_, c', _, _, rfl, .t _ _ .nili, hs', ev, hbel, rfl, rfl⟩

end
end Go.Proofs.YthpkehhghcpolaaDoor
