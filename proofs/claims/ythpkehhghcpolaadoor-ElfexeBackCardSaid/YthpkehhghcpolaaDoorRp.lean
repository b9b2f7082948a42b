/-
  An executable's file, read: where its data lie (plain law, without the program).
-/
import Derived.Test.YthpkehhghcpolaaDoorEy2
namespace Go.Proofs.YthpkehhghcpolaaDoor
open Go.IntWalk
set_option maxRecDepth 100000
set_option linter.unusedVariables false
set_option linter.unusedSimpArgs false

theorem data_at : ∀ (l : List HdD) (a i : Nat) (hi : i < l.length), l[i].d.length ≠ 0 → ∃ pre post, bodyOf a l = pre ++ (l[i].d ++ post) ∧ a + pre.length = (offsOf a l)[i]'(by rw [offsOf_len]; exact hi)
  | h :: r, a, 0, hi, hne => by
    refine ⟨List.replicate (gapOf a h) 0, bodyOf (stepAt a h) r, ?_, ?_⟩
    · have hne : h.d.length ≠ 0 := hne
      simp only [bodyOf, List.getElem_cons_zero]
      rw [if_neg hne, List.append_assoc]
    · simp [offsOf]
  | h :: r, a, i + 1, hi, hne => by
    obtain ⟨pre, post, e1, e2⟩ := data_at r (stepAt a h) i (by simpa using hi) hne
    refine ⟨(if h.d.length = 0 then [] else List.replicate (gapOf a h) 0 ++ h.d) ++ pre, post, ?_, ?_⟩
    · simp only [bodyOf, List.getElem_cons_succ]
      rw [e1, List.append_assoc]
    · simp only [offsOf, List.getElem_cons_succ]
      rw [← e2, List.length_append]
      unfold stepAt
      split <;> simp <;> omega
abbrev atR (x : ExeD) : Nat := 64 + 56 * (hdsOf x).length
theorem file_data (x : ExeD) (i : Nat) (hi : i < (hdsOf x).length) (hne : (hdsOf x)[i].d.length ≠ 0) : ((fileL x).drop ((offsOf (atR x) (hdsOf x))[i]'(by rw [offsOf_len]; exact hi))).take (hdsOf x)[i].d.length = (hdsOf x)[i].d := by
  obtain ⟨pre, post, e1, e2⟩ := data_at (hdsOf x) (atR x) i hi hne
  have ef : fileL x = (frontB x (hdsOf x).length ++ hdsB (hdsOf x) (offsOf (atR x) (hdsOf x)) ++ pre) ++ ((hdsOf x)[i].d ++ post) := by
    show frontB x (hdsOf x).length ++ hdsB (hdsOf x) (offsOf (atR x) (hdsOf x)) ++ bodyOf (atR x) (hdsOf x) = _
    rw [e1]; simp [List.append_assoc]
  have hl : (frontB x (hdsOf x).length ++ hdsB (hdsOf x) (offsOf (atR x) (hdsOf x)) ++ pre).length = (offsOf (atR x) (hdsOf x))[i]'(by rw [offsOf_len]; exact hi) := by
    rw [← e2, List.length_append, List.length_append, frontB_len, hdsB_len _ _ (offsOf_len _ _)]
  rw [ef, ← hl, List.drop_left, List.take_left]
/-- A number of a header in the file. -/
theorem file_hd (x : ExeD) (i : Nat) (hi : i < (hdsOf x).length) (a n : Nat) (h : a + n ≤ 56) : gN (fileL x) (64 + 56 * i + a) n = gN (hdB (hdsOf x)[i] ((offsOf (atR x) (hdsOf x))[i]'(by rw [offsOf_len]; exact hi))) a n := by
  have ho : (offsOf (atR x) (hdsOf x)).length = (hdsOf x).length := offsOf_len _ _
  have e : fileL x = (frontB x (hdsOf x).length ++ hdsB ((hdsOf x).take i) ((offsOf (atR x) (hdsOf x)).take i)) ++ (hdB (hdsOf x)[i] ((offsOf (atR x) (hdsOf x))[i]'(by omega)) ++ (hdsB ((hdsOf x).drop (i + 1)) ((offsOf (atR x) (hdsOf x)).drop (i + 1)) ++ bodyOf (atR x) (hdsOf x))) := by
    show frontB x (hdsOf x).length ++ hdsB (hdsOf x) (offsOf (atR x) (hdsOf x)) ++ bodyOf (atR x) (hdsOf x) = _
    rw [hdsB_split _ _ i hi (by omega)]; simp [List.append_assoc]
  have hp : (frontB x (hdsOf x).length ++ hdsB ((hdsOf x).take i) ((offsOf (atR x) (hdsOf x)).take i)).length = 64 + 56 * i := by
    rw [List.length_append, frontB_len, hdsB_len _ _ (by simp [ho])]; simp; omega
  rw [e, ← hp]
  exact gN_in _ _ _ _ _ (by rw [hdB_len]; omega)

/-- A program header of a file, as Read takes it. -/
structure HdAt (bs : List UInt8) (a k fl o v fz sz al : Nat) (d : List UInt8) : Prop where
  bl : bs.length ≤ 67108864
  ha : a + 56 ≤ bs.length
  g0 : gN bs a 4 = k
  g4 : gN bs (a + 4) 4 = fl
  g8 : gN bs (a + 8) 8 = o
  g16 : gN bs (a + 16) 8 = v
  g32 : gN bs (a + 32) 8 = fz
  g40 : gN bs (a + 40) 8 = sz
  g48 : gN bs (a + 48) 8 = al
  fl7 : fl ≤ 7
  o2 : o ≤ 70368744177664
  v2 : v ≤ 70368744177664
  f2 : fz ≤ sz
  s2 : sz ≤ 67108864
  al2 : al ≤ 67108864
  dl : d.length = fz
  dd : 0 < fz → o + fz ≤ bs.length ∧ (bs.drop o).take fz = d

theorem hd_at (x : ExeD) (hx : SoundP x) (hl : (fileL x).length ≤ 67108864) (i : Nat) (hi : i < (hdsOf x).length) (h1 : 1 ≤ (hdsOf x)[i].al) (h2 : (hdsOf x)[i].al ≤ 4096) :
    ∃ o, HdAt (fileL x) (64 + 56 * i) (hdsOf x)[i].k (hdsOf x)[i].fl o (hdsOf x)[i].v (hdsOf x)[i].d.length (hdsOf x)[i].sz (hdsOf x)[i].al (hdsOf x)[i].d ∧ o % (hdsOf x)[i].al = (hdsOf x)[i].v % (hdsOf x)[i].al := by
  have ok := hd_ok x hx i hi
  have o1 := ok.v; have o2 := ok.sz; have o3 := ok.d; have o4 := ok.fl; have o5 := ok.k
  obtain ⟨j, hj, hal⟩ := ok.al
  have hlen : (fileL x).length = endOf (atR x) (hdsOf x) := fileL_len x
  have hfront := end_le (hdsOf x) (atR x)
  have hat : atR x = 64 + 56 * (hdsOf x).length := rfl
  obtain ⟨a', q1, q2, q3⟩ := offs_at (hdsOf x) (atR x) i hi
  have hg : gapOf a' (hdsOf x)[i] < (hdsOf x)[i].al := Nat.mod_lt _ h1
  have hd := file_data x i hi
  have hf := file_hd x i hi
  have om := off_mod a' (hdsOf x)[i].v j (by omega) hj
  rw [← hal] at om
  have q2' : (offsOf (atR x) (hdsOf x))[i]'(by rw [offsOf_len]; exact hi) = a' + ((hdsOf x)[i].v + 18446744073709551616 - a') % 18446744073709551616 % (hdsOf x)[i].al := q2
  rw [← q2'] at om
  rw [← q2] at q3
  have ho : (offsOf (atR x) (hdsOf x))[i]'(by rw [offsOf_len]; exact hi) ≤ 67112960 := by rw [q2]; omega
  refine ⟨_, ?_, om⟩
  generalize (offsOf (atR x) (hdsOf x))[i]'(by rw [offsOf_len]; exact hi) = o at *
  generalize (hdsOf x)[i] = h at *
  have z : ∀ a n v, gN (hdB h o) a n = v % 256 ^ n → a + n ≤ 56 → v < 256 ^ n → gN (fileL x) (64 + 56 * i + a) n = v := fun a n v e hb hv => by rw [hf a n hb, e, Nat.mod_eq_of_lt hv]
  refine ⟨hl, by omega, z 0 4 _ (hd_0 h o) (by omega) (by rcases o5 with e | e <;> rw [e] <;> decide), z 4 4 _ (hd_4 h o) (by omega) (by show _ < 4294967296; omega), z 8 8 _ (hd_8 h o) (by omega) (by show _ < 18446744073709551616; omega), z 16 8 _ (hd_16 h o) (by omega) (by show _ < 18446744073709551616; omega),
    z 32 8 _ (hd_32 h o) (by omega) (by show _ < 18446744073709551616; omega), z 40 8 _ (hd_40 h o) (by omega) (by show _ < 18446744073709551616; omega), z 48 8 _ (hd_48 h o) (by omega) (by show _ < 18446744073709551616; omega), o4, by omega, o1, o3, o2, by omega, rfl, fun hp => ⟨?_, hd (by omega)⟩⟩
  have := q3 hp
  omega

theorem seg_at (x : ExeD) (hx : SoundP x) (hl : (fileL x).length ≤ 67108864) (i : Nat) (h : i < x.ss.length) :
    ∃ o, HdAt (fileL x) (64 + 56 * i) 1 x.ss[i].f.toNat o x.ss[i].v.toNat x.ss[i].d.length x.ss[i].s.toNat 4096 x.ss[i].d ∧ o % 4096 = x.ss[i].v.toNat % 4096 := by
  have e := hds_ss x i h
  obtain ⟨o, h1, h2⟩ := hd_at x hx hl i (by rw [hds_len]; omega) (by rw [e]; exact (by decide : 1 ≤ 4096)) (by rw [e]; exact Nat.le_refl _)
  rw [e] at h1 h2
  exact ⟨o, h1, h2⟩
theorem tls_at (x : ExeD) (hx : SoundP x) (hl : (fileL x).length ≤ 67108864) (h : 0 < x.ts.length) :
    ∃ o, HdAt (fileL x) (64 + 56 * x.ss.length) 7 4 o x.ts[0].f.toNat x.ts[0].d.length x.ts[0].v.toNat x.ts[0].s.toNat x.ts[0].d := by
  have e := hds_ts x x.ss.length (Nat.le_refl _) (by omega)
  simp only [Nat.sub_self] at e
  have q := hx.ts 0 h
  have q1 := q.s1; have q2 := q.s2
  obtain ⟨o, h1, h2⟩ := hd_at x hx hl x.ss.length (by rw [hds_len]; omega) (by rw [e]; simp only; omega) (by rw [e]; simp only; omega)
  rw [e] at h1
  exact ⟨o, h1⟩

/-- The segments rise. -/
def Rises (S : List SegD) : Prop := ∀ (i j : Nat) x y, i < j → S[i]? = some x → S[j]? = some y → x.v < y.v
theorem rises (x : ExeD) (hx : SoundP x) : Rises x.ss := by
  have key : ∀ (n i : Nat) a b, x.ss[i]? = some a → x.ss[i + 1 + n]? = some b → a.v < b.v := by
    intro n
    induction n with
    | zero =>
      intro i a b ha hb
      have hi := lt_of_getElem? hb
      rw [List.getElem?_eq_getElem (by omega)] at ha hb
      have := seg_next x hx i hi
      have q := (hx.ss i (by omega)).s1
      obtain rfl := Option.some.inj ha
      obtain rfl := Option.some.inj hb
      show _ < x.ss[i + 1].v
      omega
    | succ n ih =>
      intro i a b ha hb
      have hi := lt_of_getElem? hb
      have h1 := ih i a _ ha (List.getElem?_eq_getElem (show i + 1 + n < x.ss.length by omega))
      have := seg_next x hx (i + 1 + n) (by omega)
      have q := (hx.ss (i + 1 + n) (by omega)).s1
      rw [show i + 1 + (n + 1) = i + 1 + n + 1 by omega, List.getElem?_eq_getElem (by omega)] at hb
      obtain rfl := Option.some.inj hb
      omega
  intro i j a b hij ha hb
  obtain ⟨n, rfl⟩ : ∃ n, j = i + 1 + n := ⟨j - i - 1, by omega⟩
  exact key n i a b ha hb

end Go.Proofs.YthpkehhghcpolaaDoor
