/-
  Closed runs that write to a bytes.Buffer.
-/
import Derived.Test.YthpkehhghcpolaaDoorQBe
namespace Go.Proofs.YthpkehhghcpolaaDoor
open Go.Shelf Go.RowKit Go.Proofs
set_option linter.unusedVariables false
set_option linter.unusedSimpArgs false

theorem HA.at {h : NH} {H : AH} (ha : HA h H) (i : Nat) : h.hp.get i = H[i]? := congrFun ha.get i

theorem srcB_H {e : TypeId} {h : NH} {H : AH} (ha : HA h H) (x : AV) : srcB e h x = srcH e H x := by
  unfold srcB srcH
  split
  · rfl
  · rename_i k g i n
    rw [ha.at]
    rfl
  · rename_i h1 h2
    split
    · exact (h1 _ rfl).elim
    · exact (h2 _ _ _ _ rfl).elim
    · rfl

theorem and5 {a b c d e f : Bool} (h : (a && b && c && d && e && f) = true) : a = true ∧ b = true ∧ c = true ∧ d = true ∧ e = true ∧ f = true := by
  simp only [Bool.and_eq_true] at h; exact ⟨h.1.1.1.1.1, h.1.1.1.1.2, h.1.1.1.2, h.1.1.2, h.1.2, h.2⟩

theorem bufPut_ok {e : TypeId} {b o : Nat} {p : List T} {h h' : NH} {H : AH} (hh : bufPut e b o p h = some h') (ha : HA h H) :
    ∃ cells x y z l, H[b]? = some (.box cells) ∧ get3 o cells = some (x, y, z) ∧ isZ y = true ∧ isLr z = true ∧ BSt H e x l ∧ (x = .t .nils → 1 ≤ p.length) ∧ l.length + p.length ≤ 2000000 ∧
      HA h' (bnext H e b o cells p x) ∧ Stay h'.lo H (bnext H e b o cells p x) ∧ h'.lo ≤ h.lo := by
  unfold bufPut at hh
  rw [ha.at] at hh
  cases hb : H[b]? with
  | none => rw [hb] at hh; cases hh
  | some blk =>
    rw [hb] at hh
    cases blk with
    | box cells =>
      simp only at hh
      cases h3 : get3 o cells with
      | none => rw [h3] at hh; cases hh
      | some t =>
        obtain ⟨x, y, z⟩ := t
        rw [h3] at hh
        simp only at hh
        cases hc : isZ y && isLr z && Nat.ble p.length 1000000 with
        | false => rw [hc] at hh; cases hh
        | true =>
          rw [hc] at hh
          simp only [Bool.and_eq_true] at hc
          have hpl := Nat.le_of_ble_eq_true hc.2
          simp only at hh
          split at hh
          · -- nil
            cases hp1 : Nat.ble 1 p.length with
            | false => rw [hp1] at hh; cases hh
            | true =>
              rw [hp1] at hh
              simp only at hh
              have hp1 := Nat.le_of_ble_eq_true hp1
              split at hh
              · rename_i s1 hs1
                split at hh
                · rename_i s2 hs2
                  cases hh
                  obtain ⟨-, a1, b1, c1⟩ := nstp_ok hs1 ha
                  obtain ⟨-, a2, b2, c2⟩ := nstp_ok hs2 a1
                  simp only [HC.on] at a1 a2 b1 b2
                  rw [← ha.len] at a2 b2
                  exact ⟨cells, _, y, z, [], rfl, h3, hc.1.1, hc.1.2, .nil, fun _ => hp1, by simp only [List.length_nil]; omega, a2, b1.trans b2 c2, Nat.le_trans c2 c1⟩
                · cases hh
              · cases hh
          · rename_i k g i n
            rw [ha.at] at hh
            cases hk : H[k]? with
            | none => rw [hk] at hh; cases hh
            | some blk0 =>
              rw [hk] at hh
              cases blk0 with
              | arr e' s' z' gen lq =>
                cases lq with
                | vs lq => simp at hh
                | ts lq =>
                  by_cases hs1 : s' = 1
                  · subst hs1
                    cases z' with
                    | true => simp at hh
                    | false =>
                      simp only at hh
                      cases hcc : Nat.beq e e' && Nat.beq g gen && Nat.beq i 0 && Nat.beq n lq.length && Nat.ble 1 n && Nat.ble n 1000000 with
                      | false => rw [hcc] at hh; cases hh
                      | true =>
                        rw [hcc] at hh
                        simp only at hh
                        obtain ⟨q1, q2, q3, q4, q5, q6⟩ := and5 hcc
                        obtain rfl := Nat.eq_of_beq_eq_true q1
                        obtain rfl := Nat.eq_of_beq_eq_true q2
                        obtain rfl := Nat.eq_of_beq_eq_true q3
                        obtain rfl := Nat.eq_of_beq_eq_true q4
                        have q5 := Nat.le_of_ble_eq_true q5
                        have q6 := Nat.le_of_ble_eq_true q6
                        split at hh
                        · rename_i s1 hs1
                          split at hh
                          · rename_i s2 hs2
                            cases hh
                            obtain ⟨-, a1, b1, c1⟩ := nstp_ok hs1 ha
                            obtain ⟨-, a2, b2, c2⟩ := nstp_ok hs2 a1
                            simp only [HC.on] at a1 a2 b1 b2
                            refine ⟨cells, _, y, z, lq, rfl, h3, hc.1.1, hc.1.2, .row k g lq hk q5, (fun h => by cases h), by omega, ?_, ?_, Nat.le_trans c2 c1⟩
                            · simp only [bnext, hk]; exact a2
                            · simp only [bnext, hk]; exact b1.trans b2 c2
                          · cases hh
                        · cases hh
                  · simp [hs1] at hh
              | _ => simp at hh
          · cases hh
    | _ => cases hh

variable {P : Program}

theorem bufExt_ok {q : BufFs} (h1 : ∃ ρ, LaysM.n180 P ρ ∧ ρ.f 180 = q.write ∧ ρ.t 5 = q.e) (h2 : ∃ ρ, LaysM.n178 P ρ ∧ ρ.f 178 = q.writeString ∧ ρ.t 5 = q.e) (h3 : ∃ ρ, LaysM.n179 P ρ ∧ ρ.f 179 = q.writeByte ∧ ρ.t 5 = q.e) : CallOK P (bufExt q) := by
  intro f args h v h' hh H ha
  unfold bufExt at hh
  split at hh
  · rename_i b g i o xa
    cases hf : Nat.beq f q.write with
    | true =>
      rw [hf] at hh
      obtain rfl := Nat.eq_of_beq_eq_true hf
      simp only at hh
      cases hp : srcB q.e h xa with
      | none => rw [hp] at hh; cases hh
      | some p =>
        rw [hp] at hh
        simp only at hh
        split at hh
        · rename_i h'' hput
          cases hh
          obtain ⟨cells, x, y, z, l, a1, a2, a3, a4, a5, a6, a7, a8, a9, a10⟩ := bufPut_ok hput ha
          obtain ⟨ρ, L, e1, e2⟩ := h1
          rw [srcB_H ha, ← e2] at hp
          rw [← e2] at a5 a8 a9
          refine ⟨_, a8, a9, a10, ?_⟩
          rw [← e1]
          exact write_calls L a1 a2 a3 a4 a5 hp a6 (by omega)
        · cases hh
    | false =>
      rw [hf] at hh
      simp only at hh
      cases hf : Nat.beq f q.writeString with
      | true =>
        rw [hf] at hh
        obtain rfl := Nat.eq_of_beq_eq_true hf
        simp only at hh
        split at hh
        · rename_i s
          split at hh
          · rename_i h'' hput
            cases hh
            obtain ⟨cells, x, y, z, l, a1, a2, a3, a4, a5, a6, a7, a8, a9, a10⟩ := bufPut_ok hput ha
            obtain ⟨ρ, L, e1, e2⟩ := h2
            rw [← e2] at a5 a8 a9
            refine ⟨_, a8, a9, a10, ?_⟩
            rw [← e1]
            exact writeString_calls L a1 a2 a3 a4 a5 (by simpa using a6) (by simp only [List.length_map] at a7; omega)
          · cases hh
        · cases hh
      | false =>
        rw [hf] at hh
        simp only at hh
        cases hf : Nat.beq f q.writeByte with
        | true =>
          rw [hf] at hh
          obtain rfl := Nat.eq_of_beq_eq_true hf
          simp only at hh
          split at hh
          · rename_i n
            split at hh
            · rename_i h'' hput
              cases hh
              obtain ⟨cells, x, y, z, l, a1, a2, a3, a4, a5, a6, a7, a8, a9, a10⟩ := bufPut_ok hput ha
              obtain ⟨ρ, L, e1, e2⟩ := h3
              rw [← e2] at a5 a8 a9
              refine ⟨_, a8, a9, a10, ?_⟩
              rw [← e1]
              exact writeByte_calls L a1 a2 a3 a4 a5 (by simp only [List.length_singleton] at a7; omega)
            · cases hh
          · cases hh
        | false => rw [hf] at hh; cases hh
  · cases hh

theorem ixExt_ok {g : FuncId} (hi : ∀ (bs : List UInt8) (c : UInt8), Runs P g [.vec 1 (bs.map fun c => T.int .u8 (c.toNat : Int)), .int .u8 (c.toNat : Int)] (.t (.int .i64 (Lib.indexByte bs c)))) : CallOK P (ixExt g) := by
  intro f args h v h' hh H ha
  unfold ixExt at hh
  cases hf : Nat.beq f g with
  | false => rw [hf] at hh; cases hh
  | true =>
    rw [hf] at hh
    obtain rfl := Nat.eq_of_beq_eq_true hf
    simp only at hh
    split at hh
    · rename_i l c ids hsn
      split at hh
      · rename_i bs hc hu
        rw [fI_eq] at hh
        cases hh
        obtain rfl := toU_ok hu
        have hc := Nat.le_of_ble_eq_true hc
        refine ⟨H, ha, Stay.refl _ _, Nat.le_refl _, ?_⟩
        rw [show h.hp.get = gt H from ha.get, nsnapL_eq] at hsn
        have e : ((UInt8.ofNat c).toNat : Int) = Int.ofNat c := by
          rw [UInt8.toNat_ofNat']
          show ((c % 2 ^ 8 : Nat) : Int) = (c : Int)
          omega
        refine CallS.snap (ts := [.vec 1 (bs.map fun c => T.int .u8 (c.toNat : Int)), .int .u8 ((UInt8.ofNat c).toNat : Int)]) (hi bs (UInt8.ofNat c)) ?_ (show Flat (.t (.int .i64 (Lib.indexByte bs (UInt8.ofNat c)))) from rfl) ?_
        · simp only [argsT, hsn, Option.map_some, e]
        · exact ⟨rfl, List.append_nil H⟩
      · cases hh
    · cases hh

end Go.Proofs.YthpkehhghcpolaaDoor
