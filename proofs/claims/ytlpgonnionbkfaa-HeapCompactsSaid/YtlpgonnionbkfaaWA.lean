/- Contract of Alloc: a cell is added. -/
import Derived.Test.YtlpgonnionbkfaaW9
import Derived.Deep.AppendLies
namespace Go.Proofs.Ytlpgonnionbkfaa
open Go.RowKit

theorem Try.info32 : (Try.prog.info? 32).map (fun i => (i.zero, i.size, i.bytes)) = some (some (.agg #[.int .i64 0, .int .i64 0, .slice none 0 0]), 3, 40) := by kernel_rfl

theorem nodup_app {l1 l2 l3 : List Nat} (h : (l1 ++ l2).Nodup) (h3 : l3.Nodup) (ha : ∀ k ∈ l3, k ∉ l1 ++ l2) : (l1 ++ (l2 ++ l3)).Nodup := by
  rw [← List.append_assoc, List.nodup_append]
  exact ⟨h, h3, fun a h1 b h2 e => ha b h2 (e ▸ h1)⟩

theorem blocksOf_app (vs : List Value) (v : Value) : blocksOf (vs ++ [v]) = blocksOf vs ++ v.ownBlock.toList := by simp [blocksOf]

section
variable {w : World} {hb : Nat} {th : TypeId} {cv : Value} {vs : List Value} {most : Int} {cs : List HC}

/-- What an append of a cell leaves, behind the store of the new slice into the heap. -/
theorem alloc_close (h : HeapRep w hb th cv vs most cs) {w2 w3 : World} (hf : Frm [] w w2) {B g cap : Nat} (hB : w.heap.size ≤ B) (c : HC) (v : Value) (X : Obj)
    (hv : w2.ownsRow B 3 1 v c.refs.length (ints c.refs)) (hgr : (w2.alloc X).grownBy w3 cv.ownBlock)
    (hown : w3.ownsRow 0 32 3 (.slice (some ⟨g, 0, none⟩) (cs.length + 1) cap) (cs.length + 1) (flat cs vs ++ [.int .i64 c.kind, .int .i64 c.num, v]))
    (hg : cv.ownBlock = some g ∨ g = (w2.alloc X).heap.size) (hs : cs.length + 1 ≤ 65536) :
    HeapRep (w3.setCell ⟨hb, 1, none⟩ (.slice (some ⟨g, 0, none⟩) (cs.length + 1) cap)) hb th (.slice (some ⟨g, 0, none⟩) (cs.length + 1) cap) (vs ++ [v]) most (cs ++ [c]) ∧
    Frm (fpOf hb cv vs) w (w3.setCell ⟨hb, 1, none⟩ (.slice (some ⟨g, 0, none⟩) (cs.length + 1) cap)) ∧
    (∀ x ∈ fpOf hb (.slice (some ⟨g, 0, none⟩) (cs.length + 1) cap) (vs ++ [v]), x ∈ fpOf hb cv vs ∨ w.heap.size ≤ x) := by
  have hap := h.apart
  have hlt := h.lt
  have hsz : (w2.alloc X).heap.size = w2.heap.size + 1 := by simp
  have hw2 := hf.size
  -- the new slice's block
  have hgout : g ∉ hb :: blocksOf vs := by
    rcases hg with hg | hg
    · intro hm
      simp only [fpOf, hg, Option.toList_some, List.cons_append, List.nil_append, List.nodup_cons, List.mem_cons] at hap
      rcases List.mem_cons.1 hm with rfl | hm
      · exact hap.1 (.inl rfl)
      · exact hap.2.1 hm
    · intro hm
      have : g < w.heap.size := hlt g (by
        rcases List.mem_cons.1 hm with rfl | hm
        · simp [fpOf]
        · simp only [fpOf, List.mem_cons, List.mem_append]; exact .inr (.inr hm))
      omega
  have hvnew : ∀ k, v.ownBlock = some k → B ≤ k ∧ k < w2.heap.size := hv.lt
  have hvg : ∀ k, v.ownBlock = some k → k ≠ g := by
    intro k hk e
    have := hvnew k hk
    rcases hg with hg | hg
    · have := hlt g (by simp [fpOf, hg]); omega
    · omega
  have hF : Frm cv.ownBlock.toList w w3 := by
    have := (hf.alloc X)
    exact (this.mono (fq := cv.ownBlock.toList) (by simp)).grown hgr (fun k hk => .inl (by simp [hk]))
  have hF' : Frm (fpOf hb cv vs) w (w3.setCell ⟨hb, 1, none⟩ (.slice (some ⟨g, 0, none⟩) (cs.length + 1) cap)) :=
    (hF.mono (by intro x hx; simp only [fpOf, List.mem_cons, List.mem_append]; exact .inr (.inl hx))).setCell (.inl (by simp [fpOf])) _
  have hbcv : hb ∉ cv.ownBlock.toList := by
    simp only [fpOf, List.nodup_cons, List.mem_append] at hap
    exact fun hm => hap.1 (.inl hm)
  refine ⟨⟨?_, ?_, by simp [h.len], ?_, ?_, by simpa using hs⟩, hF', ?_⟩
  · have := (h.hd.frm hF hbcv).setCell 1 (.slice (some ⟨g, 0, none⟩) (cs.length + 1) cap)
    simpa using this
  · rw [List.length_append, ← flat_app cs vs c v h.len]
    refine owns_of_block hown fun k hk => ?_
    simp [Value.ownBlock] at hk
    subst hk
    exact Below.heap_setCell _ _ _ _ (fun e => hgout (by simp at e; simp [e]))
  · intro i d u hi hu
    rw [List.getElem?_append] at hi hu
    rw [h.len] at hu
    split at hi
    · rename_i hil
      simp only [hil, if_true] at hu
      refine owns_of_block (owns_frm (h.refs i d u hi hu) hF ?_) ?_
      · intro k hk hm
        have hkb : k ∈ blocksOf vs := mem_blocksOf.2 ⟨i, u, hu, hk⟩
        simp only [fpOf, List.nodup_cons, List.nodup_append] at hap
        exact hap.2.2.2 k hm k hkb rfl
      · intro k hk
        refine Below.heap_setCell _ _ _ _ (fun e => ?_)
        have hkb : k ∈ blocksOf vs := mem_blocksOf.2 ⟨i, u, hu, hk⟩
        simp only [fpOf, List.nodup_cons, List.mem_append] at hap
        exact hap.1 (.inr (by simp at e; rw [← e]; exact hkb))
    · rename_i hil
      simp only [hil, if_false] at hu
      have h0 : i - cs.length = 0 := by
        have := (List.getElem?_eq_some_iff.1 hi).1
        simp at this
        omega
      rw [h0] at hi hu
      simp at hi hu
      subst hi hu
      refine owns_of_block (owns_base (ownsB_frm (fp := cv.ownBlock.toList) (w' := w3) hv ?_ ?_)) ?_
      · exact ((Frm.refl _ w2).alloc X).grown hgr (fun k hk => .inl (by simp [hk]))
      · intro k hk hm
        have := hvnew k hk
        have := hlt k (by simp only [fpOf, List.mem_cons, List.mem_append]; exact .inr (.inl hm))
        omega
      · intro k hk
        refine Below.heap_setCell _ _ _ _ (fun e => ?_)
        have := hvnew k hk
        have := h.hd.lt
        simp at e
        omega
  · have h1 : (fpOf hb (.slice (some ⟨g, 0, none⟩) (cs.length + 1) cap) (vs ++ [v])) = [hb, g] ++ (blocksOf vs ++ v.ownBlock.toList) := by
      simp [fpOf, Value.ownBlock, blocksOf_app]
    rw [h1]
    refine nodup_app ?_ (by cases v.ownBlock <;> simp) ?_
    · simp only [List.cons_append, List.nil_append, List.nodup_cons, List.mem_cons, not_or]
      simp only [fpOf, List.nodup_cons, List.mem_append, not_or, List.nodup_append] at hap
      simp only [List.mem_cons, not_or] at hgout
      exact ⟨⟨fun e => hgout.1 e.symm, hap.1.2⟩, hgout.2, hap.2.2.1⟩
    · intro k hk hm
      have hk' : v.ownBlock = some k := by simpa using hk
      have := hvnew k hk'
      simp only [List.cons_append, List.nil_append, List.mem_cons] at hm
      rcases hm with rfl | rfl | hm
      · have := h.hd.lt; omega
      · exact hvg _ hk' rfl
      · have := hlt k (by simp only [fpOf, List.mem_cons, List.mem_append]; exact .inr (.inr hm)); omega
  · intro x hx
    have hv' : x ∈ v.ownBlock.toList → B ≤ x := fun hm => (hvnew x (by simpa using hm)).1
    have hg' : cv.ownBlock = some g → g ∈ cv.ownBlock.toList := fun e => by simp [e]
    have e1 : (Value.slice (some ⟨g, 0, none⟩) (cs.length + 1) cap).ownBlock = some g := rfl
    simp only [fpOf, e1, Option.toList_some, List.cons_append, List.nil_append, List.mem_cons, blocksOf_app, List.mem_append] at hx ⊢
    rcases hx with rfl | rfl | hx | hx
    · exact .inl (.inl rfl)
    · rcases hg with hg | hg
      · exact .inl (.inr (.inl (hg' hg)))
      · exact .inr (by omega)
    · exact .inl (.inr (.inr hx))
    · exact .inr (by have := hv' hx; omega)
end
end Go.Proofs.Ytlpgonnionbkfaa
