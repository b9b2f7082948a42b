/-
  The bits of a form's pattern: what they are.
-/
import Derived.Test.YtnjmeadmkbkikaaGreatDoorHh
namespace Go.Proofs.YtnjmeadmkbkikaaGreatDoor
open Go.IntWalk
set_option maxRecDepth 100000
set_option linter.unusedVariables false
set_option linter.unusedSimpArgs false
set_option maxHeartbeats 1000000

theorem mkOK6 {n z : Nat} (h : n ≤ 6) (hz : z ≤ 64) : (decide (0 ≤ (n : Int)) && decide ((n : Int) ≤ n) && decide ((n : Int) * (z : Int) ≤ 140737488355328) && decide ((n : Int) ≤ 9223372036854775807) && true && true && true) = true := by
  have : n * z ≤ 6 * 64 := Nat.mul_le_mul h hz
  have : (n : Int) * (z : Int) ≤ 384 := by exact_mod_cast this
  simp; omega

theorem fits24 {n : Nat} (h : n ≤ 3000000000000) : fitsRow n 24 = true := by simp [fitsRow]; omega

def boolsT (l : List Bool) : T := .agg (l.map T.bool)
abbrev tB64 : Nat := 185
abbrev tI : Nat := 3
def litBit (x : UInt8) : BitD := ⟨x.toNat, -1, 0⟩
theorem inB1 {i : Int} {n : Nat} {b : Bool} (hb : b = true) (h0 : 0 ≤ i) (h : i < (n : Int)) : (b && inB i n) = true := by rw [hb]; simp [inB]; omega
theorem xops_in {tab : Tab} {call : CallP} {ops : Array Oper} {o : Oper} {r : List Oper} {s : St} {K : St → Prop} (h : xguard tab call ops o s fun s' => xops tab call ops r s' K) : xops tab call ops (o :: r) s K := by rw [xops]; exact h
theorem inBx {i : Int} {n : Nat} (h0 : 0 ≤ i) (h : i < (n : Int)) : inB i n = true := by simp [inB]; omega
theorem foN_w {n : Nat} {K : Nat → Prop} {P : Prop} (hP : P = K 0) (h : K n) : (match Nat.beq n 0 with | true => P | false => selL [1, 2, 3, 4, 5, 6, 7, 8, 9, 10, 11, 12, 13, 14, 15, 16, 17, 18, 19, 20, 21, 22, 23, 24, 25, 26, 27, 28, 29, 30, 31, 32] n K) := by
  rw [hP]
  show selL (0 :: _) n K
  rw [selL_eq]; exact h
theorem cell_get {r : List Bool} {i : Int} {o : Nat} {v : Bool} (hi : i = (o : Int)) (hv : r[o]? = some v) : (r.map T.bool)[0 + i.toNat * 1]? = some (T.bool v) := by
  rw [hi, Int.toNat_natCast, Nat.mul_one, Nat.zero_add, List.getElem?_map, hv]; rfl
theorem map_getI {α β : Type} {f : α → β} {l : List α} {i : Int} {n : Nat} {a : α} (hi : i = (n : Int)) (h : l[n]? = some a) : (l.map f)[0 + i.toNat]? = some (f a) := by
  rw [hi, Int.toNat_natCast, Nat.zero_add, List.getElem?_map, h]; rfl
/-- The bits of an operand's piece; of a piece; of a pattern as it is written. -/
def opBits (a h : Int) (m : Nat) : List BitD := (List.range m).map fun (i : Nat) => ⟨0, a, h - i⟩
def pieceN (p : PieceD) : Nat := (p.hi - p.lo + 1).toNat
def rawP (p : PieceD) : List BitD := if p.arg = -1 then p.lit.map litBit else opBits p.arg p.hi (pieceN p)
def rawB : List PieceD → List BitD
  | [] => []
  | p :: r => rawP p ++ rawB r
def PieceOK (d : DescD) (f : FormD) (p : PieceD) : Prop :=
  (p.arg = -1 ∧ p.lit ≠ [] ∧ ∀ x ∈ p.lit, isBit x = true) ∨ (¬ p.arg = -1 ∧ ∃ g k, at? f.args p.arg = some g ∧ at? d.classes g.cls = some k ∧ 0 ≤ p.lo ∧ p.lo ≤ p.hi ∧ p.hi < k.bits)
/-- A bound of a piece's bits, of a pattern's. -/
def pieceLen (p : PieceD) : Nat := p.lit.length + 64
def sumL : List PieceD → Nat
  | [] => 0
  | p :: r => pieceLen p + sumL r

theorem sumL_app : ∀ (a b : List PieceD), sumL (a ++ b) = sumL a + sumL b
  | [], b => by simp [sumL]
  | p :: a, b => by simp only [List.cons_append, sumL, sumL_app a b]; omega
theorem sumL_take (l : List PieceD) (i : Nat) : sumL (l.take i) ≤ sumL l := by
  have := sumL_app (l.take i) (l.drop i)
  rw [List.take_append_drop] at this
  omega
theorem sumL_succ {l : List PieceD} {i : Nat} {p : PieceD} (h : l[i]? = some p) : sumL (l.take (i + 1)) = sumL (l.take i) + pieceLen p := by
  rw [List.take_add_one, h, sumL_app]; simp [sumL]
theorem rawB_app : ∀ (a b : List PieceD), rawB (a ++ b) = rawB a ++ rawB b
  | [], b => rfl
  | p :: a, b => by simp only [List.cons_append, rawB, rawB_app a b, List.append_assoc]
theorem rawB_succ {l : List PieceD} {i : Nat} {p : PieceD} (h : l[i]? = some p) : rawB (l.take (i + 1)) = rawB (l.take i) ++ rawP p := by
  rw [List.take_add_one, h, rawB_app]; simp [rawB]
theorem opBits_len (a h : Int) (m : Nat) : (opBits a h m).length = m := by simp [opBits]
theorem opBits_succ (a h : Int) (m : Nat) : opBits a h (m + 1) = opBits a h m ++ [⟨0, a, h - m⟩] := by simp [opBits, List.range_succ]

/-- Is a bit of an operand asked for? How many of one are? -/
def asksB (B : List BitD) (a o : Nat) : Bool := B.any fun b => decide (b.arg = (a : Int) ∧ b.num = (o : Int))
def cntB (B : List BitD) (a : Nat) : Nat := B.countP fun b => decide (b.arg = (a : Int))
def Dist (B : List BitD) : Prop := B.Pairwise fun x y => 0 ≤ x.arg → ¬ (x.arg = y.arg ∧ x.num = y.num)
def SeenOK (S : List (List Bool)) (B : List BitD) (n : Nat) : Prop := S.length = n ∧ ∀ a r, S[a]? = some r → r.length = 64 ∧ ∀ o v, r[o]? = some v → v = asksB B a o
def CntOK (C : List Int) (B : List BitD) (n : Nat) : Prop := C.length = n ∧ ∀ a v, C[a]? = some v → v = (cntB B a : Int)

theorem asksB_lit (B : List BitD) (l : List UInt8) (a o : Nat) : asksB (B ++ l.map litBit) a o = asksB B a o := by
  unfold asksB
  rw [List.any_append]
  have : (l.map litBit).any (fun b => decide (b.arg = (a : Int) ∧ b.num = (o : Int))) = false := by
    rw [List.any_eq_false]
    intro b hb
    obtain ⟨x, _, rfl⟩ := List.mem_map.1 hb
    have : ¬ ((-1 : Int) = (a : Int)) := by omega
    simp [litBit, this]
  rw [this, Bool.or_false]
theorem cntB_lit (B : List BitD) (l : List UInt8) (a : Nat) : cntB (B ++ l.map litBit) a = cntB B a := by
  unfold cntB
  rw [List.countP_append]
  have : (l.map litBit).countP (fun b => decide (b.arg = (a : Int))) = 0 := by
    rw [List.countP_eq_zero]
    intro b hb
    obtain ⟨x, _, rfl⟩ := List.mem_map.1 hb
    have : ¬ ((-1 : Int) = (a : Int)) := by omega
    simp [litBit, this]
  omega
theorem Dist.lit {B : List BitD} (h : Dist B) (l : List UInt8) : Dist (B ++ l.map litBit) := by
  refine List.pairwise_append.2 ⟨h, ?_, fun x hx y hy h0 => ?_⟩
  · refine List.Pairwise.imp_of_mem (R := fun _ _ => True) (fun {x y} hx _ _ h0 => ?_) (List.pairwise_of_forall fun _ _ => trivial)
    obtain ⟨z, _, rfl⟩ := List.mem_map.1 hx
    exact absurd h0 (by show ¬ (0 : Int) ≤ -1; omega)
  · obtain ⟨z, _, rfl⟩ := List.mem_map.1 hy
    intro e
    have : x.arg = -1 := e.1
    omega
theorem SeenOK.lit {S : List (List Bool)} {B : List BitD} {n : Nat} (h : SeenOK S B n) (l : List UInt8) : SeenOK S (B ++ l.map litBit) n :=
  ⟨h.1, fun a r hr => ⟨(h.2 a r hr).1, fun o v hv => by rw [asksB_lit]; exact (h.2 a r hr).2 o v hv⟩⟩
theorem CntOK.lit {C : List Int} {B : List BitD} {n : Nat} (h : CntOK C B n) (l : List UInt8) : CntOK C (B ++ l.map litBit) n :=
  ⟨h.1, fun a v hv => by rw [cntB_lit]; exact h.2 a v hv⟩
theorem asksB_op (B : List BitD) (p : BitD) (a o : Nat) : asksB (B ++ [p]) a o = (asksB B a o || decide (p.arg = (a : Int) ∧ p.num = (o : Int))) := by
  unfold asksB; rw [List.any_append]; simp
theorem cntB_op (B : List BitD) (p : BitD) (a : Nat) : cntB (B ++ [p]) a = cntB B a + if p.arg = (a : Int) then 1 else 0 := by
  unfold cntB; rw [List.countP_append]; simp [List.countP_cons]
theorem SeenOK.op {S : List (List Bool)} {B : List BitD} {n a o : Nat} {r : List Bool} (h : SeenOK S B n) (hr : S[a]? = some r) (ho : o < 64) {p : BitD} (hp : p.arg = (a : Int) ∧ p.num = (o : Int)) :
    SeenOK (S.set a (r.set o true)) (B ++ [p]) n := by
  obtain ⟨h1, h2⟩ := h
  have hr2 := h2 a r hr
  refine ⟨by rw [List.length_set, h1], fun a' r' hr' => ?_⟩
  rw [List.getElem?_set] at hr'
  split at hr'
  · next e =>
    subst e
    split at hr'
    · obtain rfl := Option.some.inj hr'
      refine ⟨by rw [List.length_set]; exact hr2.1, fun o' v hv => ?_⟩
      rw [List.getElem?_set] at hv
      rw [asksB_op]
      split at hv
      · next e =>
        subst e
        split at hv
        · obtain rfl := Option.some.inj hv; simp [hp.1, hp.2]
        · cases hv
      · next e =>
        have : ¬ (o : Int) = (o' : Int) := by omega
        rw [hr2.2 o' v hv]; simp [hp.2, this]
    · cases hr'
  · next e =>
    have := h2 a' r' hr'
    refine ⟨this.1, fun o' v hv => ?_⟩
    have e2 : ¬ (a : Int) = (a' : Int) := by omega
    rw [asksB_op, this.2 o' v hv]; simp [hp.1, e2]
theorem CntOK.op {C : List Int} {B : List BitD} {n a : Nat} {v : Int} (h : CntOK C B n) (hv : C[a]? = some v) {p : BitD} (hp : p.arg = (a : Int)) :
    CntOK (C.set a (v + 1)) (B ++ [p]) n := by
  obtain ⟨h1, h2⟩ := h
  refine ⟨by rw [List.length_set, h1], fun a' w hw => ?_⟩
  rw [List.getElem?_set] at hw
  rw [cntB_op]
  split at hw
  · next e =>
    subst e
    split at hw
    · obtain rfl := Option.some.inj hw
      rw [if_pos hp, h2 _ _ hv]; simp
    · cases hw
  · next e =>
    rw [if_neg (by rw [hp]; omega), h2 _ _ hw]; simp
theorem Dist.op {B : List BitD} (h : Dist B) {p : BitD} {a o : Nat} (hp : p.arg = (a : Int) ∧ p.num = (o : Int)) (hn : asksB B a o = false) : Dist (B ++ [p]) := by
  refine List.pairwise_append.2 ⟨h, List.pairwise_singleton _ _, fun x hx y hy h0 e => ?_⟩
  rw [List.mem_singleton.1 hy] at e
  unfold asksB at hn
  have := List.any_eq_false.1 hn x hx
  exact this (by simp [e.1, e.2, hp.1, hp.2])
theorem seen0 {n : Nat} : SeenOK (List.replicate n (List.replicate 64 false)) [] n :=
  ⟨List.length_replicate, fun a r hr => by
    obtain rfl := List.eq_of_mem_replicate (List.mem_of_getElem? hr)
    exact ⟨List.length_replicate, fun o v hv => List.eq_of_mem_replicate (List.mem_of_getElem? hv)⟩⟩
theorem cnt0 {n : Nat} : CntOK (List.replicate n (0 : Int)) [] n :=
  ⟨List.length_replicate, fun a v hv => by
    obtain rfl := List.eq_of_mem_replicate (List.mem_of_getElem? hv)
    rfl⟩

/-- A right pattern. -/
structure GoodF (d : DescD) (f : FormD) : Prop where
  args : f.args.length ≤ 6
  aok : ∀ a ∈ f.args, ArgOK d a
  pok : ∀ p ∈ f.pieces, PieceOK d f p
  dist : Dist (rawB f.pieces)
  cnt : ∀ i a k, f.args[i]? = some a → at? d.classes a.cls = some k → (cntB (rawB f.pieces) i : Int) = k.bits
  m8 : (rawB f.pieces).length % 8 = 0
  ge : 8 ≤ (rawB f.pieces).length
  le : (rawB f.pieces).length ≤ 120
def BitsS (d : DescD) (f : FormD) (r : AV) : Prop := r = .own tBit 3 true [] ∨ ∃ R : List BitD, r = .own tBit 3 false (R.map bitT) ∧ GoodF d f ∧ IsPlaced d.order (rawB f.pieces) R
theorem BitsS.noRef {d : DescD} {f : FormD} : ∀ r, BitsS d f r → noRef r = true := by rintro r (rfl | ⟨R, rfl, _⟩) <;> rfl

theorem at_mem {α : Type} {l : List α} {i : Int} {a : α} (h : at? l i = some a) : a ∈ l := by
  unfold at? at h
  split at h
  · exact List.mem_of_getElem? h
  · cases h
theorem at_lt {α : Type} {l : List α} {i : Int} {a : α} (h : at? l i = some a) : 0 ≤ i ∧ i < l.length := by
  by_cases h0 : 0 ≤ i ∧ i < l.length
  · exact h0
  · rw [at_none h0] at h; cases h
theorem rawP_len {d : DescD} {f : FormD} (ha : ∀ a ∈ f.args, ArgOK d a) {p : PieceD} (h : PieceOK d f p) : (rawP p).length ≤ pieceLen p := by
  unfold rawP pieceLen
  rcases h with ⟨h, _⟩ | ⟨h, g, k, hg, hk, h1, h2, h3⟩
  · rw [if_pos h, List.length_map]; omega
  · rw [if_neg h, opBits_len]
    obtain ⟨k2, hk2, hok⟩ := ha g (at_mem hg)
    obtain rfl : k = k2 := by rw [hk] at hk2; exact Option.some.inj hk2
    have : k.bits ≤ 64 := by rcases hok with h | h | h <;> omega
    unfold pieceN; omega
theorem rawB_len {d : DescD} {f : FormD} (ha : ∀ a ∈ f.args, ArgOK d a) : ∀ {l : List PieceD}, (∀ p ∈ l, PieceOK d f p) → (rawB l).length ≤ sumL l
  | [], _ => Nat.le_refl _
  | p :: l, h => by
    have h1 := rawP_len ha (h p List.mem_cons_self)
    have h2 := rawB_len ha (l := l) fun q hq => h q (List.mem_cons_of_mem _ hq)
    simp only [rawB, sumL, List.length_append]; omega

theorem cell_ck {i : Int} {o : Nat} {r : List Bool} (hi : i = (o : Int)) (h : o < r.length) : (true && Nat.ble ((0 + i.toNat * 1) + 1) (r.map T.bool).length && true) = true := by
  rw [hi, Int.toNat_natCast, List.length_map]
  have : Nat.ble (0 + o * 1 + 1) r.length = true := by rw [Nat.ble_eq]; omega
  rw [this]; rfl
theorem set_cell {S : List (List Bool)} {r : List Bool} {ai o : Nat} {i z : Int} (hi : i = (ai : Int)) (hz : z = (o : Int)) : (S.map boolsT).set (0 + i.toNat) (setCells (boolsT r) (0 + z.toNat * 1) [T.bool true]) = (S.set ai (r.set o true)).map boolsT := by
  rw [hi, hz, Int.toNat_natCast, Int.toNat_natCast, Nat.zero_add, Nat.zero_add, Nat.mul_one, List.map_set]
  show _ = (S.map boolsT).set ai (T.agg ((r.set o true).map T.bool))
  rw [List.map_set]; rfl
theorem set_num {C : List Int} {ai : Nat} {i v : Int} (hi : i = (ai : Int)) : (C.map (T.int .i64)).set (0 + i.toNat) (T.int .i64 v) = (C.set ai v).map (T.int .i64) := by
  rw [hi, Int.toNat_natCast, Nat.zero_add, List.map_set]
theorem cntB_le (B : List BitD) (a : Nat) : cntB B a ≤ B.length := List.countP_le_length

def bitsH (d : DescD) (f : FormD) (B : List BitD) (S : List (List Bool)) (C : List Int) : AH :=
  [.box (descC d), .box (formC f), .arr tBit 3 true 0 (.ts (B.map bitT)), .arr tB64 64 false 0 (.ts (S.map boolsT)), .arr tI 1 false 0 (.ts (C.map (T.int .i64)))]
def BInv (d : DescD) (f : FormD) (i : Nat) (B : List BitD) (S : List (List Bool)) (C : List Int) : Prop :=
  i ≤ f.pieces.length ∧ (∀ p ∈ f.pieces.take i, PieceOK d f p) ∧ B = rawB (f.pieces.take i) ∧ SeenOK S B f.args.length ∧ CntOK C B f.args.length ∧ Dist B

end Go.Proofs.YtnjmeadmkbkikaaGreatDoor
