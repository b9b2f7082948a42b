/-
  The bits of a form's pattern: what they are.
-/
import Derived.Test.YtcogcbplmkcojaaGreatDoorHh
namespace Go.Proofs.YtcogcbplmkcojaaGreatDoor
open Go.IntWalk
set_option maxRecDepth 100000
set_option linter.unusedVariables false
set_option linter.unusedSimpArgs false
set_option maxHeartbeats 1000000
theorem JY {n z : Nat} (h : n ≤ 6) (hz : z ≤ 64) : (decide (0 ≤ (n : Int)) && decide ((n : Int) ≤ n) && decide ((n : Int) * (z : Int) ≤ 140737488355328) && decide ((n : Int) ≤ 9223372036854775807) && true && true && true) = true := by
 have : n * z ≤ 6 * 64 := Nat.mul_le_mul h hz
 have : (n : Int) * (z : Int) ≤ 384 := by exact_mod_cast this
 simp; omega
theorem qT {n : Nat} (h : n ≤ 3000000000000) : eK n 24 = true := by simp [eK]; omega
def nJ (l : List Bool) : T := .agg (l.map T.bool)
abbrev H7 : Nat := 204
abbrev tI : Nat := 3
def bm (x : UInt8) : Θ := ⟨x.toNat, -1, 0⟩
theorem pb {i : Int} {n : Nat} {b : Bool} (hb : b = true) (h0 : 0 ≤ i) (h : i < (n : Int)) : (b && pc i n) = true := by rw [hb]; simp [pc]; omega
theorem sX {i : Int} {n : Nat} (h0 : 0 ≤ i) (h : i < (n : Int)) : pc i n = true := by simp [pc]; omega
theorem p_ {n : Nat} {K : Nat → Prop} {P : Prop} (hP : P = K 0) (h : K n) : (match Nat.beq n 0 with | true => P | false => xm [1, 2, 3, 4, 5, 6, 7, 8, 9, 10, 11, 12, 13, 14, 15, 16, 17, 18, 19, 20, 21, 22, 23, 24, 25, 26, 27, 28, 29, 30, 31, 32] n K) := by
 rw [hP]
 show xm (0 :: _) n K
 rw [xl]; exact h
theorem JF {r : List Bool} {i : Int} {o : Nat} {v : Bool} (hi : i = (o : Int)) (hv : r[o]? = some v) : (r.map T.bool)[0 + i.toNat * 1]? = some (T.bool v) := by
 rw [hi, Int.toNat_natCast, Nat.mul_one, Nat.zero_add, List.getElem?_map, hv]; rfl
theorem mA {α β : Type} {f : α → β} {l : List α} {i : Int} {n : Nat} {a : α} (hi : i = (n : Int)) (h : l[n]? = some a) : (l.map f)[0 + i.toNat]? = some (f a) := by
 rw [hi, Int.toNat_natCast, Nat.zero_add, List.getElem?_map, h]; rfl
def dL (a h : Int) (m : Nat) : List Θ := (List.range m).map fun (i : Nat) => ⟨0, a, h - i⟩
def qD (p : bw) : Nat := (p.hi - p.lo + 1).toNat
def eW (p : bw) : List Θ := if p.arg = -1 then p.lit.map bm else dL p.arg p.hi (qD p)
def bN : List bw → List Θ
 | [] => []
 | p :: r => eW p ++ bN r
def mK (d : τ) (f : aj) (p : bw) : Prop :=
 (p.arg = -1 ∧ p.lit ≠ [] ∧ ∀ x ∈ p.lit, rN x = true) ∨ (¬ p.arg = -1 ∧ ∃ g k, cV f.args p.arg = some g ∧ cV d.classes g.bn = some k ∧ 0 ≤ p.lo ∧ p.lo ≤ p.hi ∧ p.hi < k.bits)
def mu (p : bw) : Nat := p.lit.length + 64
def fO : List bw → Nat
 | [] => 0
 | p :: r => mu p + fO r
theorem uU : ∀ (a b : List bw), fO (a ++ b) = fO a + fO b
 | [], b => by simp [fO]
 | p :: a, b => by simp only [List.cons_append, fO, uU a b]; omega
theorem EP (l : List bw) (i : Nat) : fO (l.take i) ≤ fO l := by
 have := uU (l.take i) (l.drop i)
 rw [List.take_append_drop] at this
 omega
theorem EQ {l : List bw} {i : Nat} {p : bw} (h : l[i]? = some p) : fO (l.take (i + 1)) = fO (l.take i) + mu p := by
 rw [List.take_add_one, h, uU]; simp [fO]
theorem ru : ∀ (a b : List bw), bN (a ++ b) = bN a ++ bN b
 | [], b => rfl
 | p :: a, b => by simp only [List.cons_append, bN, ru a b, List.append_assoc]
theorem xY {l : List bw} {i : Nat} {p : bw} (h : l[i]? = some p) : bN (l.take (i + 1)) = bN (l.take i) ++ eW p := by
 rw [List.take_add_one, h, ru]; simp [bN]
theorem ou (a h : Int) (m : Nat) : (dL a h m).length = m := by simp [dL]
theorem qk (a h : Int) (m : Nat) : dL a h (m + 1) = dL a h m ++ [⟨0, a, h - m⟩] := by simp [dL, List.range_succ]
def lY (B : List Θ) (a o : Nat) : Bool := B.any fun b => decide (b.arg = (a : Int) ∧ b.num = (o : Int))
def nU (B : List Θ) (a : Nat) : Nat := B.countP fun b => decide (b.arg = (a : Int))
def mL (B : List Θ) : Prop := B.Pairwise fun x y => 0 ≤ x.arg → ¬ (x.arg = y.arg ∧ x.num = y.num)
def kx (S : List (List Bool)) (B : List Θ) (n : Nat) : Prop := S.length = n ∧ ∀ a r, S[a]? = some r → r.length = 64 ∧ ∀ o v, r[o]? = some v → v = lY B a o
def nk (C : List Int) (B : List Θ) (n : Nat) : Prop := C.length = n ∧ ∀ a v, C[a]? = some v → v = (nU B a : Int)
theorem G9 (B : List Θ) (l : List UInt8) (a o : Nat) : lY (B ++ l.map bm) a o = lY B a o := by
 unfold lY
 rw [List.any_append]
 have : (l.map bm).any (fun b => decide (b.arg = (a : Int) ∧ b.num = (o : Int))) = false := by
  rw [List.any_eq_false]
  intro b hb
  obtain ⟨x, _, rfl⟩ := List.mem_map.1 hb
  have : ¬ ((-1 : Int) = (a : Int)) := by omega
  simp [bm, this]
 rw [this, Bool.or_false]
theorem JA (B : List Θ) (l : List UInt8) (a : Nat) : nU (B ++ l.map bm) a = nU B a := by
 unfold nU
 rw [List.countP_append]
 have : (l.map bm).countP (fun b => decide (b.arg = (a : Int))) = 0 := by
  rw [List.countP_eq_zero]
  intro b hb
  obtain ⟨x, _, rfl⟩ := List.mem_map.1 hb
  have : ¬ ((-1 : Int) = (a : Int)) := by omega
  simp [bm, this]
 omega
theorem mL.lit {B : List Θ} (h : mL B) (l : List UInt8) : mL (B ++ l.map bm) := by
 refine List.pairwise_append.2 ⟨h, ?_, fun x hx y hy h0 => ?_⟩
 ·refine List.Pairwise.imp_of_mem (R := fun _ _ => True) (fun {x y} hx _ _ h0 => ?_) (List.pairwise_of_forall fun _ _ => trivial)
  obtain ⟨z, _, rfl⟩ := List.mem_map.1 hx
  exact absurd h0 (by show ¬ (0 : Int) ≤ -1; omega)
 ·obtain ⟨z, _, rfl⟩ := List.mem_map.1 hy
  intro e
  have : x.arg = -1 := e.1
  omega
theorem kx.lit {S : List (List Bool)} {B : List Θ} {n : Nat} (h : kx S B n) (l : List UInt8) : kx S (B ++ l.map bm) n :=
 ⟨h.1, fun a r hr => ⟨(h.2 a r hr).1, fun o v hv => by rw [G9]; exact (h.2 a r hr).2 o v hv⟩⟩
theorem nk.lit {C : List Int} {B : List Θ} {n : Nat} (h : nk C B n) (l : List UInt8) : nk C (B ++ l.map bm) n :=
 ⟨h.1, fun a v hv => by rw [JA]; exact h.2 a v hv⟩
theorem Bk (B : List Θ) (p : Θ) (a o : Nat) : lY (B ++ [p]) a o = (lY B a o || decide (p.arg = (a : Int) ∧ p.num = (o : Int))) := by
 unfold lY; rw [List.any_append]; simp
theorem LN (B : List Θ) (p : Θ) (a : Nat) : nU (B ++ [p]) a = nU B a + if p.arg = (a : Int) then 1 else 0 := by
 unfold nU; rw [List.countP_append]; simp [List.countP_cons]
theorem kx.op {S : List (List Bool)} {B : List Θ} {n a o : Nat} {r : List Bool} (h : kx S B n) (hr : S[a]? = some r) (ho : o < 64) {p : Θ} (hp : p.arg = (a : Int) ∧ p.num = (o : Int)) :
 kx (S.set a (r.set o true)) (B ++ [p]) n := by
 obtain ⟨h1, h2⟩ := h
 have yu := h2 a r hr
 refine ⟨by rw [List.length_set, h1], fun a' r' Cl => ?_⟩
 rw [List.getElem?_set] at Cl
 split at Cl
 ·next e =>
  subst e
  split at Cl
  ·obtain rfl := Option.some.inj Cl
   refine ⟨by rw [List.length_set]; exact yu.1, fun o' v hv => ?_⟩
   rw [List.getElem?_set] at hv
   rw [Bk]
   split at hv
   ·next e =>
    subst e
    split at hv
    ·obtain rfl := Option.some.inj hv; simp [hp.1, hp.2]
    ·cases hv
   ·next e =>
    have : ¬ (o : Int) = (o' : Int) := by omega
    rw [yu.2 o' v hv]; simp [hp.2, this]
  ·cases Cl
 ·next e =>
  have := h2 a' r' Cl
  refine ⟨this.1, fun o' v hv => ?_⟩
  have e2 : ¬ (a : Int) = (a' : Int) := by omega
  rw [Bk, this.2 o' v hv]; simp [hp.1, e2]
theorem nk.op {C : List Int} {B : List Θ} {n a : Nat} {v : Int} (h : nk C B n) (hv : C[a]? = some v) {p : Θ} (hp : p.arg = (a : Int)) :
 nk (C.set a (v + 1)) (B ++ [p]) n := by
 obtain ⟨h1, h2⟩ := h
 refine ⟨by rw [List.length_set, h1], fun a' w hw => ?_⟩
 rw [List.getElem?_set] at hw
 rw [LN]
 split at hw
 ·next e =>
  subst e
  split at hw
  ·obtain rfl := Option.some.inj hw
   rw [if_pos hp, h2 _ _ hv]; simp
  ·cases hw
 ·next e =>
  rw [if_neg (by rw [hp]; omega), h2 _ _ hw]; simp
theorem mL.op {B : List Θ} (h : mL B) {p : Θ} {a o : Nat} (hp : p.arg = (a : Int) ∧ p.num = (o : Int)) (hn : lY B a o = false) : mL (B ++ [p]) := by
 refine List.pairwise_append.2 ⟨h, List.pairwise_singleton _ _, fun x hx y hy h0 e => ?_⟩
 rw [List.mem_singleton.1 hy] at e
 unfold lY at hn
 have := List.any_eq_false.1 hn x hx
 exact this (by simp [e.1, e.2, hp.1, hp.2])
theorem Oj {n : Nat} : kx (List.replicate n (List.replicate 64 false)) [] n :=
 ⟨List.length_replicate, fun a r hr => by
  obtain rfl := List.eq_of_mem_replicate (List.mem_of_getElem? hr)
  exact ⟨List.length_replicate, fun o v hv => List.eq_of_mem_replicate (List.mem_of_getElem? hv)⟩⟩
theorem Qn {n : Nat} : nk (List.replicate n (0 : Int)) [] n :=
 ⟨List.length_replicate, fun a v hv => by
  obtain rfl := List.eq_of_mem_replicate (List.mem_of_getElem? hv)
  rfl⟩
structure di (d : τ) (f : aj) : Prop where
 args : f.args.length ≤ 6
 CK : ∀ a ∈ f.args, uu d a
 x5 : ∀ p ∈ f.pieces, mK d f p
 N2 : mL (bN f.pieces)
 SK : ∀ i a k, f.args[i]? = some a → cV d.classes a.bn = some k → (nU (bN f.pieces) i : Int) = k.bits
 m8 : (bN f.pieces).length % 8 = 0
 ge : 8 ≤ (bN f.pieces).length
 le : (bN f.pieces).length ≤ 120
def w5 (d : τ) (f : aj) (r : AV) : Prop := (r = .own lz 3 true [] ∧ ¬ di d f) ∨ ∃ R : List Θ, r = .own lz 3 false (R.map aA) ∧ di d f ∧ jb d.order (bN f.pieces) R
theorem w5.aL {d : τ} {f : aj} : ∀ r, w5 d f r → aL r = true := by rintro r (⟨rfl, _⟩ | ⟨R, rfl, _⟩) <;> rfl
theorem at_mem {α : Type} {l : List α} {i : Int} {a : α} (h : cV l i = some a) : a ∈ l := by
 unfold cV at h
 split at h
 ·exact List.mem_of_getElem? h
 ·cases h
theorem oy {α : Type} {l : List α} {i : Int} {a : α} (h : cV l i = some a) : 0 ≤ i ∧ i < l.length := by
 by_cases h0 : 0 ≤ i ∧ i < l.length
 ·exact h0
 ·rw [iD h0] at h; cases h
theorem Iq {d : τ} {f : aj} (ha : ∀ a ∈ f.args, uu d a) {p : bw} (h : mK d f p) : (eW p).length ≤ mu p := by
 unfold eW mu
 rcases h with ⟨h, _⟩ | ⟨h, g, k, hg, hk, h1, h2, h3⟩
 ·rw [if_pos h, List.length_map]; omega
 ·rw [if_neg h, ou]
  obtain ⟨k2, dA, de⟩ := ha g (at_mem hg)
  obtain rfl : k = k2 := by rw [hk] at dA; exact Option.some.inj dA
  have : k.bits ≤ 64 := by rcases de with h | h | h <;> omega
  unfold qD; omega
theorem zU {d : τ} {f : aj} (ha : ∀ a ∈ f.args, uu d a) : ∀ {l : List bw}, (∀ p ∈ l, mK d f p) → (bN l).length ≤ fO l
 | [], _ => Nat.le_refl _
 | p :: l, h => by
  have h1 := Iq ha (h p List.mem_cons_self)
  have h2 := zU ha (l := l) fun q hq => h q (List.mem_cons_of_mem _ hq)
  simp only [bN, fO, List.length_append]; omega
theorem LS {i : Int} {o : Nat} {r : List Bool} (hi : i = (o : Int)) (h : o < r.length) : (true && Nat.ble ((0 + i.toNat * 1) + 1) (r.map T.bool).length && true) = true := by
 rw [hi, Int.toNat_natCast, List.length_map]
 have : Nat.ble (0 + o * 1 + 1) r.length = true := by rw [Nat.ble_eq]; omega
 rw [this]; rfl
theorem xT {α : Type} (l : List α) (o : Nat) (x : α) : setAt l o [x] = l.set o x := by rw [j3, gM]
theorem Ie {S : List (List Bool)} {r : List Bool} {ai o : Nat} {i z : Int} (hi : i = (ai : Int)) (hz : z = (o : Int)) : (S.map nJ).set (0 + i.toNat) (setCells (nJ r) (0 + z.toNat * 1) [T.bool true]) = (S.set ai (r.set o true)).map nJ := by
 rw [hi, hz, Int.toNat_natCast, Int.toNat_natCast, Nat.zero_add, Nat.zero_add, Nat.mul_one, List.map_set]
 show _ = (S.map nJ).set ai (T.agg ((r.set o true).map T.bool))
 rw [List.map_set]
 exact congrArg (fun x => (S.map nJ).set ai (T.agg x)) (xT _ _ _)
theorem K2 {C : List Int} {ai : Nat} {i v : Int} (hi : i = (ai : Int)) : (C.map (T.int .i64)).set (0 + i.toNat) (T.int .i64 v) = (C.set ai v).map (T.int .i64) := by
 rw [hi, Int.toNat_natCast, Nat.zero_add, List.map_set]
theorem LO (B : List Θ) (a : Nat) : nU B a ≤ B.length := List.countP_le_length
theorem mL.fresh {L : List Θ} (h : mL L) {B R : List Θ} {p : Θ} (e : L = (B ++ [p]) ++ R) {a o : Nat} (hp : p.arg = (a : Int) ∧ p.num = (o : Int)) : lY B a o = false := by
 rw [e] at h
 have h1 := (List.pairwise_append.1 (List.pairwise_append.1 h).1).2.2
 unfold lY
 rw [List.any_eq_false]
 intro b hb
 have := h1 b hb p (List.mem_singleton.2 rfl)
 intro hc
 have hc := of_decide_eq_true hc
 exact this (by omega) ⟨by omega, by omega⟩
theorem kR {d : τ} {f : aj} {b : Nat} {H : AH} (hb : H[b]? = some (.arr lz 3 true 0 (.ts []))) (hn : ¬ di d f) : ∃ r, w5 d f r ∧ j8 r (.sl b 0 0 0) H := ⟨_, .inl ⟨rfl, hn⟩, [], hb, rfl, rfl, .refl _⟩
def wL (d : τ) (f : aj) (B : List Θ) (S : List (List Bool)) (C : List Int) : AH :=
 [.box (b_ d), .box (eO f), .arr lz 3 true 0 (.ts (B.map aA)), .arr H7 64 false 0 (.ts (S.map nJ)), .arr tI 1 false 0 (.ts (C.map (T.int .i64)))]
def JO (d : τ) (f : aj) (i : Nat) (B : List Θ) (S : List (List Bool)) (C : List Int) : Prop :=
 i ≤ f.pieces.length ∧ (∀ p ∈ f.pieces.take i, mK d f p) ∧ B = bN (f.pieces.take i) ∧ kx S B f.args.length ∧ nk C B f.args.length ∧ mL B
end Go.Proofs.YtcogcbplmkcojaaGreatDoor
