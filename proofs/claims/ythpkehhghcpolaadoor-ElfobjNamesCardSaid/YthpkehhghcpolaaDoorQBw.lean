/-
  The writers of bytes.Buffer, with a frame: Write, WriteString, WriteByte.
-/
import Derived.Test.YthpkehhghcpolaaDoorQBg
namespace Go.Proofs.YthpkehhghcpolaaDoor
open Go.Shelf Go.RowKit Go.Proofs
set_option linter.unusedVariables false
set_option linter.unusedSimpArgs false
variable {P : Program} {ρ : Ren}




set_option maxHeartbeats 6400000 in
set_option maxRecDepth 100000 in
theorem kr_Write (L : LaysM.n180 P ρ) (T : TypeId) (R : Nat → Option Value) (B b q : Nat) (bs cs : List Value) (a : Addr) (n c : Nat) (w : World) (h : LibA.IsBuffer T R (ρ.t 5) B b q bs w) (hBw : B ≤ w.heap.size) (h1 : ∀ v ∈ bs, v.oneCell' = true)
    (hn : cs.length = n) (hab : n = 0 ∨ a.block ≠ b) (hsrc : ∀ j v, cs[j]? = some v → w.cell? (a.add j) = some v) (h1c : ∀ v ∈ cs, v.oneCell' = true) (hlim : bs.length + n ≤ 140737488355328) :
    Calls P (ρ.f 180) #[.pointer (some ⟨b, q, none⟩), .slice (some a) n c] w fun e w' => e = .returned (.tuple #[.int .i64 n, .nilIface]) ∧ LibA.IsBuffer T R (ρ.t 5) B b q (bs ++ cs) w' ∧ Below B w w' ∧ KP b q w w' := by
  have mixed := L.mixed
  have t5 := L.t5; have a5 := L.a5; have z5 := L.z5; have v5 := L.v5
  have t130 := L.t130; have a130 := L.a130; have z130 := L.z130; have v130 := L.v130
  have t37 := L.t37; have a37 := L.a37; have z37 := L.z37; have v37 := L.v37
  have t3 := L.t3; have a3 := L.a3; have z3 := L.z3; have v3 := L.v3
  have t75 := L.t75; have a75 := L.a75; have z75 := L.z75; have v75 := L.v75
  have t0 := L.t0; have a0 := L.a0; have z0 := L.z0; have v0 := L.v0
  have t93 := L.t93; have u93 := run_underlying L.t93; have a93 := L.a93; have z93 := L.z93; have v93 := L.v93
  have t91 := L.t91; have a91 := L.a91; have z91 := L.z91; have v91 := L.v91
  have t131 := L.t131; have a131 := L.a131; have z131 := L.z131; have v131 := L.v131
  have t4 := L.t4; have a4 := L.a4; have z4 := L.z4; have v4 := L.v4
  have e251 : ∀ args w, (callFunc (ρ.f 251) args).run P w = .ok (.enter (ρ.f 251) args) w := enters_of L.f251 (by kernel_rfl) rfl
  have e252 : ∀ args w, (callFunc (ρ.f 252) args).run P w = .ok (.enter (ρ.f 252) args) w := enters_of L.f252 (by kernel_rfl) rfl
  obtain ⟨hB, v0, lr, hbk, -, -⟩ := id h
  have c2 : w.cell? ⟨b, q + 2, none⟩ = some (.int .i8 lr) := hbk.c2
  have f2 : w.frozen? ⟨b, q + 2, none⟩ = false := hbk.f (q + 2)
  have h' := h.setLast 0
  have hbel0 : Below B w (w.setCell ⟨b, q + 2, none⟩ (.int .i8 0)) := (Below.refl B w).setCell (p := ⟨b, q + 2, none⟩) hB _
  have hk0 : KL b q w (w.setCell ⟨b, q + 2, none⟩ (.int .i8 0)) := KL.last w b q c2
  have hg0 : w.grownBy (w.setCell ⟨b, q + 2, none⟩ (.int .i8 0)) (some b) := Lib.grownBy_setCell w b (q + 2) _
  have hBw' : B ≤ (w.setCell ⟨b, q + 2, none⟩ (.int .i8 0)).heap.size := by simpa [World.setCell] using hBw
  clear hbk v0
  have hinfo : (P.info? (ρ.t 5)).map (·.size) = some 1 := by
    obtain ⟨i0, hi, -, hz1, -⟩ := info_parts L.i5
    rw [hi]; simp [hz1]
  by_cases hs0 : n = 0
  · -- NO BYTE: there is always room; nothing is written
    subst hs0
    clear hab
    have hc0 : cs = [] := List.eq_nil_of_length_eq_zero hn
    subst hc0
    have hce : ∀ d dLen dCap W, (Builtin.copy_ #[(ρ.t 37), (ρ.t 37)] (ρ.t 3) #[.slice d dLen dCap, .slice (some a) 0 c]).run P W = .ok (goInt 0) W := fun d dLen dCap W => run_copy_none W (ρ.t 37) (ρ.t 37) (ρ.t 3) (ρ.t 5) d (some a) dLen dCap 0 c L.t37 hinfo (by simp)
    have hT : ∀ W, LibA.IsBuffer T R (ρ.t 5) B b q bs W → Calls P (ρ.f 251) #[.pointer (some ⟨b, q, none⟩), .int .i64 0] W _ := fun W hW => kr_tryGrow { L with } T R B b q 0 bs W hW
    go_enter L.f180, Body.n180_ntmps ρ
    go_wp2_with (go_at_fn (ρ.f 251); refine (hT _ ?_).mono ?_)
    · exact h'
    rintro e W1 (⟨rfl, xs, hxl, hI, hbel, hk, hg⟩ | ⟨rfl, rfl, hnr⟩)
    · clear h' c2 f2 hT
      have hx0 : xs = [] := List.eq_nil_of_length_eq_zero hxl
      subst hx0
      rw [List.append_nil] at hI
      obtain ⟨-, lr2, hc⟩ := hI.cases
      rcases hc with ⟨hb0, hbk2⟩ | ⟨g, cap, cur, hbk2, -, -, hnc, hcm, -, -, -⟩
      · subst hb0
        have d0 : W1.cell? ⟨b, q, none⟩ = some (.slice none 0 0) := hbk2.c0
        go_wp2
        all_goals (go_ret2; first | exact ⟨rfl, hI, hbel0.trans hbel, (hk0.trans hk).kept⟩ | exact ⟨by simp, by simpa using hI, hbel0.trans hbel, (hk0.trans hk).kept⟩)
      · have d0 : W1.cell? ⟨b, q, none⟩ = some (.slice (some ⟨g, 0, none⟩) bs.length cap) := hbk2.c0
        unfold maxLen at hcm
        go_wp2
        all_goals (go_ret2; first | exact ⟨rfl, hI, hbel0.trans hbel, (hk0.trans hk).kept⟩ | exact ⟨by simp, by simpa using hI, hbel0.trans hbel, (hk0.trans hk).kept⟩)
    · obtain ⟨_, _, _, _, hlt⟩ := hnr
      omega
  · replace hab := hab.resolve_left hs0
    go_enter L.f180, Body.n180_ntmps ρ
    go_wp2_with (go_at_fn (ρ.f 251); refine (kr_tryGrow { L with } T R B b q n bs _ ?_).mono ?_)
    · exact h'
    rintro e W1 (⟨rfl, xs, hxl, hI, hbel, hk, hg⟩ | ⟨rfl, rfl, hnr⟩)
    · -- THERE WAS ROOM
      have hbelW := hbel0.trans hbel
      have hkW := hk0.trans hk
      have hgW := Lib.grownBy_trans hg0 hg
      clear h' hbel hbel0 hBw' c2 f2
      obtain ⟨-, lr2, hc⟩ := hI.cases
      rcases hc with ⟨hnil, -⟩ | ⟨g, cap, cur, hbk2, hBg, hg, hnc, hcm, hcs, htk, hgb⟩
      · exact absurd (congrArg List.length hnil) (by rw [List.length_append, hxl, List.length_nil]; omega)
      · rw [List.length_append, hxl] at hbk2 hnc htk
        have d0 : W1.cell? ⟨b, q, none⟩ = some (.slice (some ⟨g, 0, none⟩) (bs.length + n) cap) := hbk2.c0
        have hne : ¬ cap = bs.length := by omega
        have hsrc1 : ∀ j v, cs[j]? = some v → W1.cell? (a.add j) = some v := fun j v hj => hgW.cell (hsrc j v hj) (by rw [Lib.block_add]; exact fun e => hab (Option.some.inj e))
        have hcp := run_copy_row (P := P) W1 (ρ.t 37) (ρ.t 37) (ρ.t 3) (ρ.t 5) g bs.length n (cap - bs.length) a n c cur (ρ.t 5) cs L.t37 hinfo hg (by rw [hn]; exact (Nat.min_self n).symm) hsrc1 (by rw [hn]; omega) h1c
        rw [hn] at hcp
        have hcm' := hcm
        unfold maxLen at hcm'
        go_wp2
        go_ret2
        obtain ⟨r1, r2⟩ := LibA.written_end (news := cs) (l := bs.length) hB (by rw [hn]; exact hbk2) hBg hg hcm hcs hgb (by rw [hn]; exact hnc)
        have e1 : cur.toList.take bs.length = bs := by
          have h3 := congrArg (List.take bs.length) htk
          rwa [List.take_take, Nat.min_eq_left (Nat.le_add_right _ _), List.take_left' rfl] at h3
        rw [e1, hn] at r1 r2
        refine ⟨rfl, ?_, ?_, hkW.setRow d0 hgb _⟩ <;> rw [e1, ← List.append_assoc]
        · exact r1
        · exact hbelW.trans r2
    · -- THERE WAS NONE: grow
      go_wp2_with (go_at_fn (ρ.f 252); refine (kr_grow { L with } T R B b q n bs _ ?_ ?_ ?_ h1 hlim).mono ?_)
      · exact h'
      · exact hnr
      · exact hBw'
      rintro e W1 ⟨rfl, xs, hxl, hI, hbel, hk, hg⟩
      have hbelW := hbel0.trans hbel
      have hkW := hk0.trans hk
      have hgW := Lib.grownBy_trans hg0 hg
      clear h' hbel hbel0 hBw' c2 f2 hnr
      obtain ⟨-, lr2, hc⟩ := hI.cases
      rcases hc with ⟨hnil, -⟩ | ⟨g, cap, cur, hbk2, hBg, hg, hnc, hcm, hcs, htk, hgb⟩
      · exact absurd (congrArg List.length hnil) (by rw [List.length_append, hxl, List.length_nil]; omega)
      · rw [List.length_append, hxl] at hbk2 hnc htk
        have d0 : W1.cell? ⟨b, q, none⟩ = some (.slice (some ⟨g, 0, none⟩) (bs.length + n) cap) := hbk2.c0
        have hne : ¬ cap = bs.length := by omega
        have hsrc1 : ∀ j v, cs[j]? = some v → W1.cell? (a.add j) = some v := fun j v hj => hgW.cell (hsrc j v hj) (by rw [Lib.block_add]; exact fun e => hab (Option.some.inj e))
        have hcp := run_copy_row (P := P) W1 (ρ.t 37) (ρ.t 37) (ρ.t 3) (ρ.t 5) g bs.length n (cap - bs.length) a n c cur (ρ.t 5) cs L.t37 hinfo hg (by rw [hn]; exact (Nat.min_self n).symm) hsrc1 (by rw [hn]; omega) h1c
        rw [hn] at hcp
        have hcm' := hcm
        unfold maxLen at hcm'
        go_wp2
        go_ret2
        obtain ⟨r1, r2⟩ := LibA.written_end (news := cs) (l := bs.length) hB (by rw [hn]; exact hbk2) hBg hg hcm hcs hgb (by rw [hn]; exact hnc)
        have e1 : cur.toList.take bs.length = bs := by
          have h3 := congrArg (List.take bs.length) htk
          rwa [List.take_take, Nat.min_eq_left (Nat.le_add_right _ _), List.take_left' rfl] at h3
        rw [e1, hn] at r1 r2
        refine ⟨rfl, ?_, ?_, hkW.setRow d0 hgb _⟩ <;> rw [e1, ← List.append_assoc]
        · exact r1
        · exact hbelW.trans r2







set_option maxHeartbeats 6400000 in
set_option maxRecDepth 100000 in
theorem kr_WriteString (L : LaysM.n178 P ρ) (T : TypeId) (R : Nat → Option Value) (B b q : Nat) (bs : List Value) (s : ByteArray) (w : World) (h : LibA.IsBuffer T R (ρ.t 5) B b q bs w) (hBw : B ≤ w.heap.size) (h1 : ∀ v ∈ bs, v.oneCell' = true) (hlim : bs.length + s.size ≤ 140737488355328) :
    Calls P (ρ.f 178) #[.pointer (some ⟨b, q, none⟩), .string s] w fun e w' => e = .returned (.tuple #[.int .i64 s.size, .nilIface]) ∧ LibA.IsBuffer T R (ρ.t 5) B b q (bs ++ Lib.byteCells s.data.toList) w' ∧ Below B w w' ∧ KP b q w w' := by
  have mixed := L.mixed
  have t5 := L.t5; have a5 := L.a5; have z5 := L.z5; have v5 := L.v5
  have t130 := L.t130; have a130 := L.a130; have z130 := L.z130; have v130 := L.v130
  have t9 := L.t9; have a9 := L.a9; have z9 := L.z9; have v9 := L.v9
  have t3 := L.t3; have a3 := L.a3; have z3 := L.z3; have v3 := L.v3
  have t75 := L.t75; have a75 := L.a75; have z75 := L.z75; have v75 := L.v75
  have t0 := L.t0; have a0 := L.a0; have z0 := L.z0; have v0 := L.v0
  have t93 := L.t93; have u93 := run_underlying L.t93; have a93 := L.a93; have z93 := L.z93; have v93 := L.v93
  have t91 := L.t91; have a91 := L.a91; have z91 := L.z91; have v91 := L.v91
  have t131 := L.t131; have a131 := L.a131; have z131 := L.z131; have v131 := L.v131
  have t4 := L.t4; have a4 := L.a4; have z4 := L.z4; have v4 := L.v4
  have t37 := L.t37; have a37 := L.a37; have z37 := L.z37; have v37 := L.v37
  have e251 : ∀ args w, (callFunc (ρ.f 251) args).run P w = .ok (.enter (ρ.f 251) args) w := enters_of L.f251 (by kernel_rfl) rfl
  have e252 : ∀ args w, (callFunc (ρ.f 252) args).run P w = .ok (.enter (ρ.f 252) args) w := enters_of L.f252 (by kernel_rfl) rfl
  obtain ⟨hB, v0, lr, hbk, -, -⟩ := id h
  have c2 : w.cell? ⟨b, q + 2, none⟩ = some (.int .i8 lr) := hbk.c2
  have f2 : w.frozen? ⟨b, q + 2, none⟩ = false := hbk.f (q + 2)
  have h' := h.setLast 0
  have hbel0 : Below B w (w.setCell ⟨b, q + 2, none⟩ (.int .i8 0)) := (Below.refl B w).setCell (p := ⟨b, q + 2, none⟩) hB _
  have hk0 : KL b q w (w.setCell ⟨b, q + 2, none⟩ (.int .i8 0)) := KL.last w b q c2
  have hBw' : B ≤ (w.setCell ⟨b, q + 2, none⟩ (.int .i8 0)).heap.size := by simpa [World.setCell] using hBw
  clear hbk v0
  have hinfo : (P.info? (ρ.t 5)).map (·.size) = some 1 := by
    obtain ⟨i0, hi, -, hz1, -⟩ := info_parts L.i5
    rw [hi]; simp [hz1]
  by_cases hs0 : s.size = 0
  · -- THE EMPTY STRING: there is always room; nothing is written
    have hce : ∀ d dLen dCap W, (Builtin.copy_ #[(ρ.t 37), (ρ.t 9)] (ρ.t 3) #[.slice d dLen dCap, .string s]).run P W = .ok (goInt 0) W := fun d dLen dCap W => Lib.run_copy_empty_string W (ρ.t 37) (ρ.t 9) (ρ.t 3) (ρ.t 5) d dLen dCap s L.t37 (by rw [hinfo]; rfl) hs0
    have hbc : Lib.byteCells s.data.toList = [] := List.eq_nil_of_length_eq_zero (by rw [Lib.byteCells_length, ← Lib.size_eq]; exact hs0)
    have hT : ∀ W, LibA.IsBuffer T R (ρ.t 5) B b q bs W → Calls P (ρ.f 251) #[.pointer (some ⟨b, q, none⟩), .int .i64 0] W _ := fun W hW => kr_tryGrow { L with } T R B b q 0 bs W hW
    go_enter L.f178, Body.n178_ntmps ρ
    go_wp2_with (go_at_fn (ρ.f 251); refine (hT _ ?_).mono ?_)
    · exact h'
    rintro e W1 (⟨rfl, xs, hxl, hI, hbel, hk, -⟩ | ⟨rfl, rfl, hnr⟩)
    · clear h' c2 f2 hT
      have hx0 : xs = [] := List.eq_nil_of_length_eq_zero hxl
      subst hx0
      rw [List.append_nil] at hI
      obtain ⟨-, lr2, hc⟩ := hI.cases
      rcases hc with ⟨hb0, hbk2⟩ | ⟨g, cap, cur, hbk2, -, -, hnc, hcm, -, -, -⟩
      · subst hb0
        have d0 : W1.cell? ⟨b, q, none⟩ = some (.slice none 0 0) := hbk2.c0
        go_wp2
        all_goals (go_ret2; first | exact ⟨rfl, hI, hbel0.trans hbel, (hk0.trans hk).kept⟩ | exact ⟨by simp [hs0], by simpa [hbc] using hI, hbel0.trans hbel, (hk0.trans hk).kept⟩)
      · have d0 : W1.cell? ⟨b, q, none⟩ = some (.slice (some ⟨g, 0, none⟩) bs.length cap) := hbk2.c0
        unfold maxLen at hcm
        go_wp2
        all_goals (go_ret2; first | exact ⟨rfl, hI, hbel0.trans hbel, (hk0.trans hk).kept⟩ | exact ⟨by simp [hs0], by simpa [hbc] using hI, hbel0.trans hbel, (hk0.trans hk).kept⟩)
    · obtain ⟨_, _, _, _, hlt⟩ := hnr
      omega
  · go_enter L.f178, Body.n178_ntmps ρ
    go_wp2_with (go_at_fn (ρ.f 251); refine (kr_tryGrow { L with } T R B b q s.size bs _ ?_).mono ?_)
    · exact h'
    rintro e W1 (⟨rfl, xs, hxl, hI, hbel, hk, -⟩ | ⟨rfl, rfl, hnr⟩)
    · -- THERE WAS ROOM
      have hbelW := hbel0.trans hbel
      have hkW := hk0.trans hk
      clear h' hbel hbel0 hBw' c2 f2
      obtain ⟨-, lr2, hc⟩ := hI.cases
      rcases hc with ⟨hnil, -⟩ | ⟨g, cap, cur, hbk2, hBg, hg, hnc, hcm, hcs, htk, hgb⟩
      · exact absurd (congrArg List.length hnil) (by rw [List.length_append, hxl, List.length_nil]; omega)
      · rw [List.length_append, hxl] at hbk2 hnc htk
        have d0 : W1.cell? ⟨b, q, none⟩ = some (.slice (some ⟨g, 0, none⟩) (bs.length + s.size) cap) := hbk2.c0
        have hne : ¬ cap = bs.length := by omega
        have hcp := Lib.run_copy_row_string (P := P) W1 (ρ.t 37) (ρ.t 9) (ρ.t 3) (ρ.t 5) g bs.length s.size (cap - bs.length) s cur (ρ.t 5) L.t37 hinfo hg (Nat.le_refl _) (by omega)
        have hcm' := hcm
        unfold maxLen at hcm'
        go_wp2
        go_ret2
        have hnl : (Lib.byteCells s.data.toList).length = s.size := by rw [Lib.byteCells_length, ← Lib.size_eq]
        obtain ⟨r1, r2⟩ := LibA.written_end (news := Lib.byteCells s.data.toList) (l := bs.length) hB (by rw [hnl]; exact hbk2) hBg hg hcm hcs hgb (by rw [hnl]; exact hnc)
        have e1 : cur.toList.take bs.length = bs := by
          have h3 := congrArg (List.take bs.length) htk
          rwa [List.take_take, Nat.min_eq_left (Nat.le_add_right _ _), List.take_left' rfl] at h3
        rw [e1, hnl] at r1 r2
        refine ⟨rfl, ?_, ?_, hkW.setRow d0 hgb _⟩ <;> rw [e1, ← List.append_assoc]
        · exact r1
        · exact hbelW.trans r2
    · -- THERE WAS NONE: grow
      go_wp2_with (go_at_fn (ρ.f 252); refine (kr_grow { L with } T R B b q s.size bs _ ?_ ?_ ?_ h1 hlim).mono ?_)
      · exact h'
      · exact hnr
      · exact hBw'
      rintro e W1 ⟨rfl, xs, hxl, hI, hbel, hk, -⟩
      have hbelW := hbel0.trans hbel
      have hkW := hk0.trans hk
      clear h' hbel hbel0 hBw' c2 f2 hnr
      obtain ⟨-, lr2, hc⟩ := hI.cases
      rcases hc with ⟨hnil, -⟩ | ⟨g, cap, cur, hbk2, hBg, hg, hnc, hcm, hcs, htk, hgb⟩
      · exact absurd (congrArg List.length hnil) (by rw [List.length_append, hxl, List.length_nil]; omega)
      · rw [List.length_append, hxl] at hbk2 hnc htk
        have d0 : W1.cell? ⟨b, q, none⟩ = some (.slice (some ⟨g, 0, none⟩) (bs.length + s.size) cap) := hbk2.c0
        have hne : ¬ cap = bs.length := by omega
        have hcp := Lib.run_copy_row_string (P := P) W1 (ρ.t 37) (ρ.t 9) (ρ.t 3) (ρ.t 5) g bs.length s.size (cap - bs.length) s cur (ρ.t 5) L.t37 hinfo hg (Nat.le_refl _) (by omega)
        have hcm' := hcm
        unfold maxLen at hcm'
        go_wp2
        go_ret2
        have hnl : (Lib.byteCells s.data.toList).length = s.size := by rw [Lib.byteCells_length, ← Lib.size_eq]
        obtain ⟨r1, r2⟩ := LibA.written_end (news := Lib.byteCells s.data.toList) (l := bs.length) hB (by rw [hnl]; exact hbk2) hBg hg hcm hcs hgb (by rw [hnl]; exact hnc)
        have e1 : cur.toList.take bs.length = bs := by
          have h3 := congrArg (List.take bs.length) htk
          rwa [List.take_take, Nat.min_eq_left (Nat.le_add_right _ _), List.take_left' rfl] at h3
        rw [e1, hnl] at r1 r2
        refine ⟨rfl, ?_, ?_, hkW.setRow d0 hgb _⟩ <;> rw [e1, ← List.append_assoc]
        · exact r1
        · exact hbelW.trans r2







set_option maxHeartbeats 6400000 in
set_option maxRecDepth 100000 in
theorem kr_WriteByte (L : LaysM.n179 P ρ) (T : TypeId) (R : Nat → Option Value) (B b q : Nat) (bs : List Value) (c : Int) (w : World) (h : LibA.IsBuffer T R (ρ.t 5) B b q bs w) (hBw : B ≤ w.heap.size) (h1 : ∀ v ∈ bs, v.oneCell' = true) (hlim : bs.length + 1 ≤ 140737488355328) :
    Calls P (ρ.f 179) #[.pointer (some ⟨b, q, none⟩), .int .u8 c] w fun e w' => e = .returned .nilIface ∧ LibA.IsBuffer T R (ρ.t 5) B b q (bs ++ [.int .u8 c]) w' ∧ Below B w w' ∧ KP b q w w' := by
  have mixed := L.mixed
  have t5 := L.t5; have a5 := L.a5; have z5 := L.z5; have v5 := L.v5
  have t130 := L.t130; have a130 := L.a130; have z130 := L.z130; have v130 := L.v130
  have t75 := L.t75; have a75 := L.a75; have z75 := L.z75; have v75 := L.v75
  have t0 := L.t0; have a0 := L.a0; have z0 := L.z0; have v0 := L.v0
  have t93 := L.t93; have u93 := run_underlying L.t93; have a93 := L.a93; have z93 := L.z93; have v93 := L.v93
  have t91 := L.t91; have a91 := L.a91; have z91 := L.z91; have v91 := L.v91
  have t3 := L.t3; have a3 := L.a3; have z3 := L.z3; have v3 := L.v3
  have t131 := L.t131; have a131 := L.a131; have z131 := L.z131; have v131 := L.v131
  have t4 := L.t4; have a4 := L.a4; have z4 := L.z4; have v4 := L.v4
  have t37 := L.t37; have a37 := L.a37; have z37 := L.z37; have v37 := L.v37
  have e251 : ∀ args w, (callFunc (ρ.f 251) args).run P w = .ok (.enter (ρ.f 251) args) w := enters_of L.f251 (by kernel_rfl) rfl
  have e252 : ∀ args w, (callFunc (ρ.f 252) args).run P w = .ok (.enter (ρ.f 252) args) w := enters_of L.f252 (by kernel_rfl) rfl
  obtain ⟨hB, v0, lr, hbk, -, -⟩ := id h
  have c2 : w.cell? ⟨b, q + 2, none⟩ = some (.int .i8 lr) := hbk.c2
  have f2 : w.frozen? ⟨b, q + 2, none⟩ = false := hbk.f (q + 2)
  have h' := h.setLast 0
  have hbel0 : Below B w (w.setCell ⟨b, q + 2, none⟩ (.int .i8 0)) := (Below.refl B w).setCell (p := ⟨b, q + 2, none⟩) hB _
  have hk0 : KL b q w (w.setCell ⟨b, q + 2, none⟩ (.int .i8 0)) := KL.last w b q c2
  have hBw' : B ≤ (w.setCell ⟨b, q + 2, none⟩ (.int .i8 0)).heap.size := by simpa [World.setCell] using hBw
  clear hbk v0
  have hT : ∀ W, LibA.IsBuffer T R (ρ.t 5) B b q bs W → Calls P (ρ.f 251) #[.pointer (some ⟨b, q, none⟩), .int .i64 1] W _ := fun W hW => kr_tryGrow { L with } T R B b q 1 bs W hW
  have hG : ∀ W, LibA.IsBuffer T R (ρ.t 5) B b q bs W → LibA.NoRoom b q 1 W → B ≤ W.heap.size → Calls P (ρ.f 252) #[.pointer (some ⟨b, q, none⟩), .int .i64 1] W _ := fun W hW hn hs => kr_grow { L with } T R B b q 1 bs W hW hn hs h1 hlim
  go_enter L.f179, Body.n179_ntmps ρ
  go_wp2_with (go_at_fn (ρ.f 251); refine (hT _ ?_).mono ?_)
  · exact h'
  rintro e W1 (⟨rfl, xs, hxl, hI, hbel, hk, -⟩ | ⟨rfl, rfl, hnr⟩)
  · -- THERE WAS ROOM
    have hbelW := hbel0.trans hbel
    have hkW := hk0.trans hk
    clear hT hG h' hbel hbel0 hBw' c2 f2
    obtain ⟨-, lr2, hc⟩ := hI.cases
    rcases hc with ⟨hnil, -⟩ | ⟨g, cap, cur, hbk2, hBg, hg, hnc, hcm, hcs, htk, hgb⟩
    · exact absurd (congrArg List.length hnil) (by simp [hxl])
    · rw [List.length_append, hxl] at hbk2 hnc htk
      have d0 : W1.cell? ⟨b, q, none⟩ = some (.slice (some ⟨g, 0, none⟩) (bs.length + 1) cap) := hbk2.c0
      have hlt : bs.length < cur.size := by omega
      have dg : W1.cell? ⟨g, bs.length, none⟩ = some cur[bs.length] := by rw [Lib.cell_of_heap hg, Array.getElem?_eq_getElem hlt]
      have fg : W1.frozen? ⟨g, bs.length, none⟩ = false := Lib.frozen_of_heap hg _
      have hcm' := hcm
      unfold maxLen at hcm'
      go_wp2
      go_ret
      obtain ⟨r1, r2⟩ := LibA.poke_end (v := .int .u8 c) hB hbk2 hBg hg hcm hcs hgb hnc
      have e1 : cur.toList.take bs.length = bs := by
        have h3 := congrArg (List.take bs.length) htk
        rwa [List.take_take, Nat.min_eq_left (Nat.le_succ _), List.take_left'  rfl] at h3
      rw [e1] at r1
      exact ⟨rfl, r1, hbelW.trans r2, hkW.setRowCell d0 hgb _ _⟩
  · -- THERE WAS NONE: grow
    go_wp2_with (go_at_fn (ρ.f 252); refine (hG _ ?_ ?_ ?_).mono ?_)
    · exact h'
    · exact hnr
    · exact hBw'
    rintro e W1 ⟨rfl, xs, hxl, hI, hbel, hk, -⟩
    have hbelW := hbel0.trans hbel
    have hkW := hk0.trans hk
    clear hT hG h' hbel hbel0 hBw' c2 f2 hnr
    obtain ⟨-, lr2, hc⟩ := hI.cases
    rcases hc with ⟨hnil, -⟩ | ⟨g, cap, cur, hbk2, hBg, hg, hnc, hcm, hcs, htk, hgb⟩
    · exact absurd (congrArg List.length hnil) (by simp [hxl])
    · rw [List.length_append, hxl] at hbk2 hnc htk
      have d0 : W1.cell? ⟨b, q, none⟩ = some (.slice (some ⟨g, 0, none⟩) (bs.length + 1) cap) := hbk2.c0
      have hlt : bs.length < cur.size := by omega
      have dg : W1.cell? ⟨g, bs.length, none⟩ = some cur[bs.length] := by rw [Lib.cell_of_heap hg, Array.getElem?_eq_getElem hlt]
      have fg : W1.frozen? ⟨g, bs.length, none⟩ = false := Lib.frozen_of_heap hg _
      have hcm' := hcm
      unfold maxLen at hcm'
      go_wp2
      go_ret
      obtain ⟨r1, r2⟩ := LibA.poke_end (v := .int .u8 c) hB hbk2 hBg hg hcm hcs hgb hnc
      have e1 : cur.toList.take bs.length = bs := by
        have h3 := congrArg (List.take bs.length) htk
        rwa [List.take_take, Nat.min_eq_left (Nat.le_succ _), List.take_left'  rfl] at h3
      rw [e1] at r1
      exact ⟨rfl, r1, hbelW.trans r2, hkW.setRowCell d0 hgb _ _⟩




end Go.Proofs.YthpkehhghcpolaaDoor
