/- Contracts of Enter, Update. -/
import Derived.Test.YtlpgonnionbkfaaW5
namespace Go.Proofs.Ytlpgonnionbkfaa
open Go.RowKit

/-- A list where place i has turned to something apart stays without repetition. -/
theorem nodup_blocks_set {l : List Nat} : ∀ {vs : List Value} {i : Nat} {v : Value}, (l ++ blocksOf vs).Nodup → (∀ k, v.ownBlock = some k → k ∉ l ++ blocksOf vs) → (l ++ blocksOf (vs.set i v)).Nodup := by
  intro vs i v h hv
  rw [List.nodup_append] at h ⊢
  obtain ⟨h1, h2, h3⟩ := h
  have hsub : ∀ (us : List Value) (j : Nat) (k : Nat), k ∈ blocksOf (us.set j v) → k ∈ blocksOf us ∨ v.ownBlock = some k := by
    intro us j k hk
    obtain ⟨m, u, hm, hu⟩ := mem_blocksOf.1 hk
    rw [List.getElem?_set] at hm
    split at hm
    · split at hm
      · cases hm; exact .inr hu
      · cases hm
    · exact .inl (mem_blocksOf.2 ⟨m, u, hm, hu⟩)
  refine ⟨h1, ?_, ?_⟩
  · have hv' : ∀ k, v.ownBlock = some k → k ∉ blocksOf vs := fun k hk hm => hv k hk (List.mem_append_right _ hm)
    clear h1 h3 hv
    induction vs generalizing i with
    | nil => simpa using h2
    | cons u us ih =>
      simp only [blocksOf, List.flatMap_cons] at h2 ⊢
      rw [List.nodup_append] at h2
      obtain ⟨g1, g2, g3⟩ := h2
      cases i with
      | zero =>
        simp only [List.set_cons_zero, List.flatMap_cons]
        rw [List.nodup_append]
        refine ⟨by cases v.ownBlock <;> simp, g2, ?_⟩
        intro a ha b hb hab
        subst hab
        exact hv' a (by simpa using ha) (by simp only [blocksOf, List.flatMap_cons, List.mem_append]; exact .inr hb)
      | succ i =>
        simp only [List.set_cons_succ, List.flatMap_cons]
        rw [List.nodup_append]
        refine ⟨g1, ih g2 (fun k hk hm => hv' k hk (by simp only [blocksOf, List.flatMap_cons, List.mem_append]; exact .inr hm)), ?_⟩
        intro a ha b hb hab
        subst hab
        rcases hsub us i a hb with hb | hb
        · exact g3 a ha a hb rfl
        · exact hv' a hb (by simp only [blocksOf, List.flatMap_cons, List.mem_append]; exact .inl ha)
  · intro a ha b hb hab
    subst hab
    rcases hsub vs i a hb with hb | hb
    · exact h3 a ha a hb rfl
    · exact hv a hb (List.mem_append_left _ ha)

theorem blocksOf_set_sub {vs : List Value} {i : Nat} {v : Value} {k : Nat} (h : k ∈ blocksOf (vs.set i v)) : k ∈ blocksOf vs ∨ v.ownBlock = some k := by
  obtain ⟨m, u, hm, hu⟩ := mem_blocksOf.1 h
  rw [List.getElem?_set] at hm
  split at hm
  · split at hm
    · cases hm; exact .inr hu
    · cases hm
  · exact .inl (mem_blocksOf.2 ⟨m, u, hm, hu⟩)

section
variable {w : World} {hb : Nat} {th : TypeId} {cv : Value} {vs : List Value} {most : Int} {cs : List HC}

/-- A cell of the heap has been written anew. -/
theorem HeapRep.set (h : HeapRep w hb th cv vs most cs) {i cb n cap : Nat} (hi : i < cs.length) (hcv : cv = .slice (some ⟨cb, 0, none⟩) n cap) (c : HC) (v : Value)
    (hv : w.ownsRow 0 3 1 v c.refs.length (ints c.refs)) (ha : ∀ k, v.ownBlock = some k → k ∉ fpOf hb cv vs) :
    HeapRep (((w.setCell ⟨cb, i * 3, none⟩ (.int .i64 c.kind)).setCell ⟨cb, i * 3 + 1, none⟩ (.int .i64 c.num)).setCell ⟨cb, i * 3 + 2, none⟩ v) hb th cv (vs.set i v) most (cs.set i c) where
  hd := by
    have hne : hb ≠ cb := by
      have := h.apart
      subst hcv
      simp [fpOf, Value.ownBlock] at this
      exact this.1.1
    exact ((h.hd.other _ hne).other _ hne).other _ hne
  row := by
    have hg : cv.ownBlock = some cb := by subst hcv; rfl
    have := owns_setCell (owns_setCell (owns_setCell h.row hg (i * 3) (.int .i64 c.kind)) hg (i * 3 + 1) (.int .i64 c.num)) hg (i * 3 + 2) v
    rw [flat_set cs vs i c v h.len hi] at this
    rw [List.length_set]
    exact this
  len := by simp [h.len]
  refs := by
    have hg : cv.ownBlock = some cb := by subst hcv; rfl
    have key : ∀ {u : Value} {n : Nat} {xs : List Value}, w.ownsRow 0 3 1 u n xs → (∀ k, u.ownBlock = some k → k ≠ cb) →
        (((w.setCell ⟨cb, i * 3, none⟩ (.int .i64 c.kind)).setCell ⟨cb, i * 3 + 1, none⟩ (.int .i64 c.num)).setCell ⟨cb, i * 3 + 2, none⟩ v).ownsRow 0 3 1 u n xs := by
      intro u n xs hu hk
      refine owns_of_block hu fun k hku => ?_
      have := hk k hku
      rw [Below.heap_setCell _ _ _ _ this, Below.heap_setCell _ _ _ _ this, Below.heap_setCell _ _ _ _ this]
    intro j d u hj hu
    rw [List.getElem?_set] at hj hu
    by_cases hij : i = j
    · subst hij
      have hiv : i < vs.length := by rw [h.len]; exact hi
      simp [hi] at hj
      simp [hiv] at hu
      subst hj hu
      exact key hv (fun k hk e => ha k hk (by subst e; simp [fpOf, hg]))
    · simp [hij] at hj hu
      refine key (h.refs j d u hj hu) (fun k hk e => ?_)
      have := h.apart
      simp only [fpOf, hg, Option.toList_some, List.cons_append, List.nil_append, List.nodup_cons, List.mem_cons] at this
      exact this.2.1 (mem_blocksOf.2 ⟨j, u, hu, by rw [hk, e]⟩)
  apart := by
    have := nodup_blocks_set (l := hb :: cv.ownBlock.toList) (vs := vs) (i := i) (v := v) (by simpa [fpOf] using h.apart) (by simpa [fpOf] using ha)
    simpa [fpOf] using this
  small := by simpa using h.small

theorem fpOf_set_sub {i : Nat} {v : Value} {k : Nat} (h : k ∈ fpOf hb cv (vs.set i v)) : k ∈ fpOf hb cv vs ∨ v.ownBlock = some k := by
  simp only [fpOf, List.mem_cons, List.mem_append] at h ⊢
  rcases h with h | h | h
  · exact .inl (.inl h)
  · exact .inl (.inr (.inl h))
  · rcases blocksOf_set_sub h with h | h
    · exact .inl (.inr (.inr h))
    · exact .inr h
end

end Go.Proofs.Ytlpgonnionbkfaa
