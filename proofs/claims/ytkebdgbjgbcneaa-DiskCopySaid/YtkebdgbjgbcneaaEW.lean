/- A drawn region that ends in one store: the store is struck off (my own lemma, from the graph's texts). -/
import Derived.Test.YtkebdgbjgbcneaaET
import Derived.StillTail


/- A region that draws its order and ends in a store that all others go before: the store is taken behind the region. Plain, no program. -/
namespace Go.Proofs.Ytkebdgbjgbcneaa
open Go

/-- The operation, doing nothing. -/
def nopOf (o : Oper) : Oper := { o with op := .move (.const (.bool false)) }

def Qt (P : Program) (ops : Array Oper) (L : Nat) (Q : Exit → Act → World → Prop) : Exit → Act → World → Prop
  | .normal, a, w => wpOp P ops Q L (fun a w => Q .normal a w) a w
  | .ret, a, w => Q .ret a w
  | .panic c, a, w => Q (.panic c) a w
  | .exit i, a, w => Q (.exit i) a w
  | .goto l, a, w => Q (.goto l) a w
  | .outgrown, a, w => Q .outgrown a w

/-- Each operation waits for earlier ones only. -/
def backB (ops : Array Oper) : Bool := (List.range ops.size).all fun j => ((ops[j]?).map (·.after.all fun e => decide (e.on < j))).getD true
theorem backB_spec {ops : Array Oper} (h : backB ops = true) {j : Nat} {o : Oper} (hj : ops[j]? = some o) : ∀ e ∈ o.after, e.on < j := by
  intro e he
  have hlt : j < ops.size := (Array.getElem?_eq_some_iff.1 hj).1
  have := List.all_eq_true.1 h j (List.mem_range.2 hlt)
  rw [hj] at this
  simp only [Option.map_some, Option.getD_some] at this
  simpa using Array.all_eq_true'.1 this e he

theorem getD_tf {listed : Array Bool} {i : Nat} (hi : i < listed.size) (h : listed.getD i true = true) : listed.getD i false = true := by
  simp [hi] at h ⊢; exact h

theorem ready_nil_all {md : Region.Mode} {ops : Array Oper} {listed : Array Bool} (hb : backB ops = true) (hz : listed.size = ops.size) (hr : Region.ready md ops listed = []) : ∀ j, j < ops.size → listed.getD j true = true := by
  intro j
  induction j using Nat.strongRecOn with
  | _ j ih =>
    intro hj
    cases hl : listed.getD j true with
    | true => rfl
    | false =>
      have : j ∈ Region.ready md ops listed := mem_ready.2 ⟨hl, ops[j], Array.getElem?_eq_getElem hj, fun e he _ => by
        have hlt := backB_spec hb (Array.getElem?_eq_getElem hj) e he
        exact getD_tf (by omega) (ih e.on hlt (by omega))⟩
      rw [hr] at this
      cases this

theorem ready_same {md : Region.Mode} {ops ops' : Array Oper} (hz : ops'.size = ops.size) (h : ∀ j : Nat, (ops'[j]?).map Oper.after = (ops[j]?).map Oper.after) (listed : Array Bool) : Region.ready md ops' listed = Region.ready md ops listed := by
  unfold Region.ready
  rw [hz]
  congr 1
  funext j
  have hj := h j
  cases h1 : ops'[j]? <;> cases h2 : ops[j]? <;> simp [h1, h2] at hj ⊢
  rw [hj]

theorem swap_last {P : Program} {md : Region.Mode} {ops ops' : Array Oper} {L : Nat} {oL : Oper} {Q : Exit → Act → World → Prop}
    (hlast : ops.size = L + 1) (hL : ops[L]? = some oL) (hd : oL.dst = none) (hg : oL.guard = none) (he : ops' = ops.setIfInBounds L (nopOf oL)) (hb : backB ops = true) (hs : Region.sinkB md ops L = true) :
    ∀ (fuel : Nat) (listed : Array Bool) (a : Act) (w : World), HeadInv md ops L listed → wpAny P md ops' (Qt P ops L Q) fuel listed a w → wpAny P md ops Q fuel listed a w := by
  have hz : ops'.size = ops.size := by rw [he]; simp
  have hne : ∀ j, j ≠ L → ops'[j]? = ops[j]? := fun j hj => by rw [he, Array.getElem?_setIfInBounds_ne (Ne.symm hj)]
  have hL' : ops'[L]? = some (nopOf oL) := by rw [he, Array.getElem?_setIfInBounds_self_of_lt (by omega)]
  have hrd : ∀ listed, Region.ready md ops' listed = Region.ready md ops listed := ready_same hz (fun j => by
    by_cases hj : j = L
    · subst hj; rw [hL', hL]; rfl
    · rw [hne j hj])
  have hy : ∀ tmps, yielded ops' tmps = yielded ops tmps := by
    intro tmps
    funext j
    unfold yielded
    by_cases hj : j = L
    · subst hj; rw [hL', hL]; simp [nopOf]
    · rw [hne j hj]
  have hc : Region.chainB md ops L = true := by
    unfold Region.chainB
    refine List.all_eq_true.2 fun t ht => ?_
    have := List.mem_range.1 ht
    simp only [Bool.or_eq_true, decide_eq_true_eq]
    left; omega
  intro fuel
  induction fuel with
  | zero =>
    intro listed a w inv h
    have h1 := h.1
    rw [hrd] at h1
    have h2 := ready_nil_all hb inv.size h1 L (by omega)
    rw [inv.tail L (Nat.le_refl _) (by omega)] at h2
    cases h2
  | succ fuel ih =>
    intro listed a w inv h
    refine ⟨fun h1 => ?_, fun i hi => ?_⟩
    · have h2 := ready_nil_all hb inv.size h1 L (by omega)
      rw [inv.tail L (Nat.le_refl _) (by omega)] at h2
      cases h2
    · have hi' := hi
      rw [← hrd] at hi'
      have H := h.2 i hi'
      by_cases hiL : i = L
      · subst hiL
        have hall : ∀ j, j < i → listed.getD j true = true := fun j hj => by
          cases hl : listed.getD j true with
          | true => rfl
          | false => exact absurd hi (tail_waits hs hc (by omega) inv _ j rfl hj hl i (Nat.le_refl _))
        have hr0 : Region.ready md ops (listed.setIfInBounds i true) = [] := by
          refine List.eq_nil_iff_forall_not_mem.2 fun j hj => ?_
          obtain ⟨hjl, o, hjo, _⟩ := mem_ready.1 hj
          have hjs : j < ops.size := (Array.getElem?_eq_some_iff.1 hjo).1
          by_cases hji : j = i
          · subst hji
            simp [inv.size, hlast] at hjl
          · rw [getD_set_ne true (Ne.symm hji), hall j (by omega)] at hjl
            cases hjl
        have H2 : wpAny P md ops' (Qt P ops i Q) fuel (listed.setIfInBounds i true) a w := by
          unfold wpOp at H
          rw [hL'] at H
          have hw : Region.wanted (nopOf oL) (yielded ops' a.tmps) = true := by simp [Region.wanted, nopOf, hg]
          simp only [hw, if_true] at H
          rcases H with H | ⟨⟨H, _⟩, _⟩
          · simpa [Oper.wp, Oper.upon, execOp, nopOf, Sem.run, Act.put, hd] using H
          · exact absurd (show noRoomEvent ∈ (#[] : Array Event) from H) (by simp)
        have H3 : wpOp P ops Q i (fun a w => Q .normal a w) a w := by
          cases fuel with
          | zero => exact H2.2
          | succ f => exact H2.1 (by rw [hrd]; exact hr0)
        refine wpOp_mono (fun a' w' h' => ?_) H3
        cases fuel with
        | zero => exact ⟨hr0, h'⟩
        | succ f => exact ⟨fun _ => h', fun j hj => by rw [hr0] at hj; cases hj⟩
      · have H2 : wpOp P ops Q i (wpAny P md ops' (Qt P ops L Q) fuel (listed.setIfInBounds i true)) a w := by
          unfold wpOp at H ⊢
          rw [hne i hiL, hy] at H
          exact H
        have hin : i < L := by
          obtain ⟨_, o, hio, _⟩ := mem_ready.1 hi
          have : i < ops.size := (Array.getElem?_eq_some_iff.1 hio).1
          omega
        exact wpOp_mono (fun a' w' h' => ih _ a' w' (inv.set hi hin) h') H2

theorem Qt.last {P : Program} {ops : Array Oper} {L : Nat} {o : Oper} {Q : Exit → Act → World → Prop} {a : Act} {w : World} (hL : ops[L]? = some o) (hg : o.guard = none) (h : o.wp P a w (fun a w => Q .normal a w) Q) : Qt P ops L Q .normal a w := by
  show wpOp P ops Q L (fun a w => Q .normal a w) a w
  unfold wpOp
  rw [hL]
  have hw : Region.wanted o (yielded ops a.tmps) = true := by simp [Region.wanted, hg]
  simp only [hw, if_true]
  exact Or.inl h

/-- The beginning: the walk goes over the region with the last store struck; the store comes behind it ('Qt'). -/
theorem wp_region_last {P : Program} {id : Nat} {ops : Array Oper} (ops' : Array Oper) {L : Nat} {oL : Oper} {Q : Exit → Act → World → Prop} {a : Act} {w : World} (S : World → Prop) (hm : P.follows .mixedOrders = true)
    (hlast : ops.size = L + 1) (hL : ops[L]? = some oL) (hd : oL.dst = none) (hg : oL.guard = none) (he : ops' = ops.setIfInBounds L (nopOf oL)) (hb : backB ops = true) (hs : Region.sinkB .any ops L = true)
    (hS : S w.drew) (h : S w.drew → wpAnyH P .any ops' (Qt P ops L Q) S ops'.size (Array.replicate ops'.size false) a w.drew) : (Code.region id ops true).wp P Q a w := by
  refine wp_region_any hm ?_
  have h1 := wpAny_of_held _ _ _ _ (h hS)
  rw [show ops'.size = ops.size by rw [he]; simp] at h1
  exact swap_last hlast hL hd hg he hb hs _ _ _ _ ⟨by simp, fun j oj _ hl => (by rw [getD_replicate_false] at hl; cases hl), fun t _ ht => getD_in (by simpa using ht) (getD_replicate_false _ _)⟩ h1

end Go.Proofs.Ytkebdgbjgbcneaa
