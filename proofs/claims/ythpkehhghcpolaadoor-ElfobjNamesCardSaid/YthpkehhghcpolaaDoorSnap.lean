/-
  A call that is handed rows of the walk's own to read: what comes back leads to none of them.
-/
import Derived.Test.YthpkehhghcpolaaDoorWeak
namespace Go.Proofs.YthpkehhghcpolaaDoor
open Go.RowKit
set_option linter.unusedVariables false

/-- All blocks that are named have numbers from n on; all data is without memory. -/
inductive GF (n : Nat) : AV → Prop
  | t (x) (h : flatT x = true) : GF n (.t x)
  | sl (b g i l) (h : n ≤ b) : GF n (.sl b g i l)
  | agg (cs) (h : ∀ (i : Nat) x, cs[i]? = some x → GF n x) : GF n (.agg cs)
  | tup (cs) (h : ∀ (i : Nat) x, cs[i]? = some x → GF n x) : GF n (.tup cs)
  | junk : GF n .junk

theorem GF.le {n m : Nat} (hnm : m ≤ n) {x : AV} (h : GF n x) : GF m x := by
  induction h with
  | t x h => exact .t x h
  | sl b g i l h => exact .sl b g i l (by omega)
  | agg cs _ ih => exact .agg cs ih
  | tup cs _ ih => exact .tup cs ih
  | junk => exact .junk

def FlatB : Blk → Prop
  | .arr _ _ _ _ (.ts l) => ∀ x ∈ l, flatT x = true
  | _ => False

theorem imp1_gf {n : Nat} {x : AV} (h : Flat1 x) : GF n (imp1 n x).1 ∧ ∀ b ∈ (imp1 n x).2, FlatB b := by
  cases x with
  | t x => exact ⟨.t _ h, by simp [imp1]⟩
  | own e s z l => exact ⟨.sl _ _ _ _ (Nat.le_refl _), by simp only [imp1, List.mem_singleton]; rintro b rfl; exact h⟩
  | junk => exact ⟨.junk, by simp [imp1]⟩
  | _ => exact h.elim

theorem impL_gf : ∀ {l : List AV} {n : Nat}, FlatL l → (∀ (i : Nat) x, (impL n l).1[i]? = some x → GF n x) ∧ ∀ b ∈ (impL n l).2, FlatB b
  | [], n, _ => by simp [impL]
  | a :: r, n, h => by
    obtain ⟨h1, h2⟩ := imp1_gf (n := n) h.1
    obtain ⟨h3, h4⟩ := impL_gf (l := r) (n := n + (imp1 n a).2.length) h.2
    refine ⟨fun i x hi => ?_, fun b hb => ?_⟩
    · simp only [impL] at hi
      cases i with
      | zero => simp at hi; subst hi; exact h1
      | succ i => simp at hi; exact (h3 i x hi).le (Nat.le_add_right _ _)
    · simp only [impL, List.mem_append] at hb
      exact hb.elim (h2 b) (h4 b)

theorem imp2_gf {n : Nat} {x : AV} (h : Flat2 x) : GF n (imp2 n x).1 ∧ ∀ b ∈ (imp2 n x).2, FlatB b := by
  cases x with
  | agg cs => obtain ⟨h1, h2⟩ := impL_gf (n := n) (show FlatL cs from h); exact ⟨.agg _ h1, h2⟩
  | _ => exact imp1_gf h

theorem impL2_gf : ∀ {l : List AV} {n : Nat}, FlatL2 l → (∀ (i : Nat) x, (impL2 n l).1[i]? = some x → GF n x) ∧ ∀ b ∈ (impL2 n l).2, FlatB b
  | [], n, _ => by simp [impL2]
  | a :: r, n, h => by
    obtain ⟨h1, h2⟩ := imp2_gf (n := n) h.1
    obtain ⟨h3, h4⟩ := impL2_gf (l := r) (n := n + (imp2 n a).2.length) h.2
    refine ⟨fun i x hi => ?_, fun b hb => ?_⟩
    · simp only [impL2] at hi
      cases i with
      | zero => simp at hi; subst hi; exact h1
      | succ i => simp at hi; exact (h3 i x hi).le (Nat.le_add_right _ _)
    · simp only [impL2, List.mem_append] at hb
      exact hb.elim (h2 b) (h4 b)

theorem imp_gf {n : Nat} {x : AV} (h : Flat x) : GF n (imp n x).1 ∧ ∀ b ∈ (imp n x).2, FlatB b := by
  cases x with
  | tup cs => obtain ⟨h1, h2⟩ := impL2_gf (n := n) (show FlatL2 cs from h); exact ⟨.tup _ h1, h2⟩
  | _ => exact imp2_gf h

theorem RA.shiftF {w : World} {c1 c2 : Cx} {H1 H2 : AH} {n : Nat} (hH : ∀ b, n ≤ b → H1[b]? = H2[b]?) (hG : ∀ b, n ≤ b → c1.G b = c2.G b)
    {x : AV} {v : Value} (h : RA w c1 H1 x v) (hx : GF n x) : RA w c2 H2 x v := by
  induction h with
  | t x v h => cases hx with | t _ hx => exact .t x v (flatT_rt h hx)
  | sl b g i len v blk hb hm hv =>
    cases hx with | sl _ _ _ _ hn =>
    refine .sl b g i len v blk (by rw [← hH b hn]; exact hb) ?_ hv
    cases blk with
    | dead => trivial
    | box => exact hm
    | iter => exact hm
    | arr => rw [← hG b hn]; exact hm
  | agg cs vs hl h1 _ ih => cases hx with | agg _ hx => exact .agg cs vs hl h1 fun i x v hi hv => ih i x v hi hv (hx i x hi)
  | tup cs vs hl _ ih => cases hx with | tup _ hx => exact .tup cs vs hl fun i x v hi hv => ih i x v hi hv (hx i x hi)
  | junk v => exact .junk v
  | _ => cases hx

/-- What a call is handed, as data. -/
def argsT (H : AH) (args : List AV) : Option (List T) := (snapL 32 H args).map Prod.fst

/-- A call that reads rows of the walk's own. -/
theorem CallS.snap {P : Program} {f : FuncId} {args : List AV} {ts : List T} {r : AV} {H : AH} {Q : AV → AH → Prop} (h : Runs P f ts r) (ha : argsT H args = some ts) (hf : Flat r) (k : Q (imp H.length r).1 (H ++ (imp H.length r).2)) :
    CallS P f args H Q := by
  intro B c w vs hs hl hr
  simp only [argsT, Option.map_eq_some_iff] at ha
  obtain ⟨⟨l, ids⟩, hsn, rfl⟩ := ha
  obtain ⟨hlen, hrt⟩ := snapL_ok hs (M' := fun _ => False) (fun _ h => h.elim) 32 hsn (vs := vs.toList) (by simpa using hl.symm) (fun i x v hi hv => hr i x v hi (by simpa using hv)) (fun _ _ _ _ h => h)
  refine (h.2 H.length (fun _ => False) w vs (fun cb h => h.elim) (by simp only; omega) (fun i t v hi hv => hrt i t v hi (by simpa using hv))).mono fun e w' ⟨v, G, he, hbel, hG, hra, hs'⟩ => ?_
  obtain ⟨g1, g2⟩ := imp_gf (n := H.length) hf
  obtain ⟨ev, hs2⟩ := join (Hb := (imp H.length r).2) hs hbel hG hs' (imp_arr _ _) (fun b e s z g l i x j y v hb hi hj hrt => by
    have := g2 _ (List.mem_of_getElem? hb) x (List.mem_of_getElem? hi)
    exact flat1_rt hrt (flatT_cells this j y hj))
  refine ⟨v, _, _, _, he, ?_, hs2, ev, hbel.mono hs.hB, k⟩
  exact hra.shiftF (n := H.length) (fun b hb => get_dead rfl hb) (fun b hb => by simp only [if_neg (Nat.not_lt.2 hb)]) g1

/-- What a contract says of the model, where a truth value comes back. -/
theorem Runs.calls {P : Program} {f : FuncId} {ts : List T} {b : Bool} (h : Runs P f ts (.t (.bool b))) (hen : Enters P f) {w : World} {vs : Array Value} (hl : vs.size = ts.length)
    (hr : ∀ (i : Nat) t v, ts[i]? = some t → vs[i]? = some v → RT w (fun _ => False) t v) : Calls P f vs w fun e w' => e = .returned (.bool b) ∧ Below w.heap.size w w' := by
  have key := h.2 0 (fun _ => False) w vs (fun _ h => h.elim) hl hr
  have key := key.mono (Q' := fun e w' => e = .returned (.bool b) ∧ Below w.heap.size w w') fun e w' ⟨v, G, he, hbel, hG, hra, hs⟩ => by
    obtain rfl := hra.bool
    exact ⟨he, hbel⟩
  rcases key with key | ⟨v, w', h1, _⟩
  · exact key.2
  · rw [run_callFunc hen] at h1
    cases h1

end Go.Proofs.YthpkehhghcpolaaDoor
