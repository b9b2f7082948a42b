/-
  Regions that draw their order, as a walk takes them.
-/
import Derived.Test.YthpkehhghcpolaaDoorDraw4
namespace Go.Proofs.YthpkehhghcpolaaDoor
open Go.RowKit
set_option linter.unusedVariables false
set_option linter.unusedSimpArgs false

section
variable {P : Program} {tab : Tab} {ops : Array Oper} {ms : List Nat} {D : Nat → List Nat} {env0 : List (Nat × AV)} {O : Org} {K : St → Prop}

theorem Inv.main (hT : TabOK P tab) (hms : MsOK ops ms) (hops : ∀ (i : Nat) o, ops[i]? = some o → dstOK O.N o = true) {Q : Exit → Act → World → Prop} (hK : Good O K (Q .normal)) :
    ∀ (fuel : Nat) (listed : Array Bool) (W : List (Nat × AV)) (rest : Ord) (R : List (Nat × Nat)) (H : AH) (c : Cx) (a : Act) (w : World), listed.size = ops.size → (List.range ops.size).countP (fun i => !listed.getD i false) ≤ fuel →
      Inv P tab ops ms D env0 O K (fun i => listed.getD i false) W rest R H c a w → wpAny P .any ops Q fuel listed a w := by
  intro fuel
  induction fuel with
  | zero =>
    intro listed W rest R H c a w hsz hc h
    have hr : Region.ready .any ops listed = [] := by
      refine List.eq_nil_iff_forall_not_mem.2 fun i hi => ?_
      obtain ⟨o, ho, hl, _⟩ := of_ready hsz hi
      have hlt : i < ops.size := (Array.getElem?_eq_some_iff.1 ho).1
      have : 0 < (List.range ops.size).countP fun i => !listed.getD i false := List.countP_pos_iff.2 ⟨i, by simpa using hlt, by rw [hl]; rfl⟩
      omega
    exact ⟨hr, h.over hK hsz hr⟩
  | succ fuel ih =>
    intro listed W rest R H c a w hsz hc h
    refine ⟨fun hr => h.over hK hsz hr, fun i hi => ?_⟩
    obtain ⟨o, ho, hl, hb⟩ := of_ready hsz hi
    have hlt : i < ops.size := (Array.getElem?_eq_some_iff.1 ho).1
    have hlt' : i < listed.size := by omega
    have hself : (listed.setIfInBounds i true).getD i false = true := by
      simp [Array.getD_eq_getD_getElem?, Array.getElem?_setIfInBounds_self_of_lt hlt']
    have hother : ∀ j, j ≠ i → (listed.setIfInBounds i true).getD j false = listed.getD j false := fun j hj => getD_set_ne false (Ne.symm hj)
    have hcount : (List.range ops.size).countP (fun i => !listed.getD i false) = (List.range ops.size).countP (fun j => !(listed.setIfInBounds i true).getD j false) + 1 :=
      countP_upd (i := i) (by simp only [hl]; rfl) (by simp only [hself]; rfl) (fun j hj => by simp only [hother j hj]) List.nodup_range (by simpa using hlt)
    have := h.step hT hms hops ho hl hb (L' := fun j => (listed.setIfInBounds i true).getD j false) hself hother (Q := Q) (next := wpAny P .any ops Q fuel (listed.setIfInBounds i true))
      fun W rest R H c a w hinv => ih _ W rest R H c a w (by simpa using hsz) (by omega) hinv
    unfold wpOp
    rw [ho]
    simp only
    split
    · rename_i hw; rw [if_pos hw] at this; exact .inl this
    · rename_i hw; rw [if_neg hw] at this; exact this

end

section
variable {P : Program} {tab : Tab}

theorem Sat.drawn {O c s a w} (h : Sat O c s a w) (n : Nat) : Sat O c s a { w with drawn := n } := by
  have ev : Ev w c s.H { w with drawn := n } c s.H := by
    refine ⟨rfl, Nat.le_refl _, fun b blk hb => ⟨blk, hb, ?_⟩, fun cb hm => .inl hm, fun _ _ _ => rfl, fun _ _ _ _ h => h⟩
    cases blk with
    | dead => trivial
    | box cs => exact ⟨rfl, fun _ h => h⟩
    | iter s p => exact ⟨rfl, fun _ h => h⟩
    | arr e s z g l => exact ⟨rfl, rfl, rfl, Nat.le_refl _, Nat.le_refl _, fun _ => ⟨rfl, fun _ h => ⟨h, rfl⟩⟩⟩
  have hs : HS { w with drawn := n } c s.H O.B := h.hs.keep ev h.hs.inj h.hs.base h.hs.dom (fun b cb cells hb hg => .inl ⟨hb, hg, rfl⟩) (fun b cb e s z g l hb hg => .inl ⟨hb, hg, rfl⟩) (fun b cb s p hb hg => .inl ⟨hb, hg, rfl⟩)
  exact h.go ev hs ⟨rfl, rfl, rfl, Nat.le_refl _, fun _ _ => rfl⟩

/-- A region that draws its order, by a walk in an order that is given. -/
def regD (P : Program) (tab : Tab) : RegP := fun ops s K => ∃ D σ, drawOK ops (masks ops) σ [] [] = true ∧ xdr tab (CallS P) ops D σ s K

theorem regD_intro {ops : Array Oper} {s : St} {K : St → Prop} (D : Nat → List Nat) (σ : Ord) (h : drawOK ops (masks ops) σ [] [] = true) (k : xdr tab (CallS P) ops D σ s K) : regD P tab ops s K := ⟨D, σ, h, k⟩

theorem regD_ok (hT : TabOK P tab) (hm : P.follows .mixedOrders = true) : RegOK P tab (regD P tab) := by
  intro O id ops s K h hops c a w R hs hK
  obtain ⟨D, σ, hσ, hw⟩ := h
  obtain ⟨env0, H⟩ := s
  refine wp_region_any hm ?_
  have hrep : ∀ i, (Array.replicate ops.size false).getD i false = false := fun i => by
    simp only [Array.getD_eq_getD_getElem?, Array.getElem?_replicate]
    split <;> rfl
  refine Inv.main (env0 := env0) (O := O) (K := K) hT (masks_ok ops) (fun i o ho => ?_) hK ops.size _ [] σ [] H c a _ (by simp) ?_ ⟨?_, fun i o _ hl => ?_, fun i hl => ?_, fun X i v Y o hW => ?_, fun i j v u n oi oj hi => (by cases hi), ⟨env0, .refl _, hw⟩, trivial, hσ, fun p hp => (by cases hp), fun i v o n hi => (by cases hi)⟩
  · rw [List.all_eq_true] at hops
    exact hops o (List.mem_of_getElem? (by rw [Array.getElem?_toList]; exact ho))
  · refine Nat.le_trans List.countP_le_length (by simp)
  · exact hs.drawn _
  · simp only [hrep] at hl; cases hl
  · simp only [hrep] at hl; cases hl
  · cases X <;> cases hW

end
end Go.Proofs.YthpkehhghcpolaaDoor
