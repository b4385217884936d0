/- The cells of a heap apart from the heap; a reference that is rewritten in place; a choice of cells. -/
import Derived.Test.YtlpgonnionbkfaaHH
import Derived.Test.YtlpgonnionbkfaaHN
namespace Go.Proofs.Ytlpgonnionbkfaa
open Go.RowKit

theorem flat_refs : ∀ (cs : List HC) (vs : List Value) (i : Nat) (c : HC) (xs : List Int), cs[i]? = some c → flat (cs.set i ⟨c.kind, c.num, xs⟩) vs = flat cs vs
  | _ :: cs, [], 0, _, _, _ => by simp [flat]
  | _ :: cs, _ :: vs, 0, _, _, h => by simp at h; subst h; simp [flat]
  | _ :: cs, [], i + 1, _, _, _ => by simp [flat]
  | _ :: cs, _ :: vs, i + 1, c, xs, h => by
    have := flat_refs cs vs i c xs (by simpa using h)
    simp [flat, this]
  | [], _, _, _, _, h => by simp at h
theorem blocks_ne : ∀ {vs : List Value}, (blocksOf vs).Nodup → ∀ {i j : Nat} {u v : Value}, vs[i]? = some u → vs[j]? = some v → i ≠ j → ∀ {k : Nat}, u.ownBlock = some k → v.ownBlock ≠ some k
  | [], _, i, _, _, _, h, _, _, _, _ => by simp at h
  | x :: vs, hn, i, j, u, v, hi, hj, hij, k, hu => by
    simp only [blocksOf, List.flatMap_cons] at hn
    rw [List.nodup_append] at hn
    obtain ⟨_, h2, h3⟩ := hn
    intro hv
    cases i with
    | zero =>
      cases j with
      | zero => exact hij rfl
      | succ j =>
        simp only [List.getElem?_cons_zero, Option.some.injEq] at hi
        simp only [List.getElem?_cons_succ] at hj
        subst hi
        exact h3 k (by simp [hu]) k (mem_blocksOf.2 ⟨j, v, hj, hv⟩) rfl
    | succ i =>
      simp only [List.getElem?_cons_succ] at hi
      cases j with
      | zero =>
        simp only [List.getElem?_cons_zero, Option.some.injEq] at hj
        subst hj
        exact h3 k (by simp [hv]) k (mem_blocksOf.2 ⟨i, u, hi, hu⟩) rfl
      | succ j =>
        simp only [List.getElem?_cons_succ] at hj
        exact blocks_ne (vs := vs) h2 hi hj (fun e => hij (by rw [e])) hu hv

def vAt (vs : List Value) (i : Nat) : Value := vs.getD i (.slice none 0 0)
theorem vAt_get {vs : List Value} {i : Nat} (h : i < vs.length) : vs[i]? = some (vAt vs i) := by rw [vAt, List.getD_eq_getElem?_getD, List.getElem?_eq_getElem h]; rfl
theorem blocks_sel {vs : List Value} (h : (blocksOf vs).Nodup) : ∀ {sel : List Nat}, sel.Nodup → (∀ x ∈ sel, x < vs.length) → (blocksOf (sel.map (vAt vs))).Nodup
  | [], _, _ => by simp [blocksOf]
  | x :: sel, hn, hl => by
    have h1 := List.nodup_cons.1 hn
    have hx := vAt_get (hl x (by simp))
    simp only [List.map_cons, blocksOf, List.flatMap_cons]
    rw [List.nodup_append]
    refine ⟨by cases (vAt vs x).ownBlock <;> simp, blocks_sel h h1.2 (fun y hy => hl y (List.mem_cons_of_mem _ hy)), fun a ha b hb hab => ?_⟩
    subst hab
    obtain ⟨j, u, hj, hu⟩ := mem_blocksOf.1 hb
    rw [List.getElem?_map] at hj
    cases hs : sel[j]? with
    | none => rw [hs] at hj; cases hj
    | some y =>
      rw [hs] at hj
      simp only [Option.map_some, Option.some.injEq] at hj
      subst hj
      have hym := List.mem_of_getElem? hs
      have hy := vAt_get (hl y (List.mem_cons_of_mem _ hym))
      exact blocks_ne h hx hy (fun e => h1.1 (by rw [e]; exact hym)) (by simpa using ha) hu
theorem blocks_sel_sub {vs : List Value} {sel : List Nat} (hl : ∀ x ∈ sel, x < vs.length) {k : Nat} (hk : k ∈ blocksOf (sel.map (vAt vs))) : k ∈ blocksOf vs := by
  obtain ⟨j, u, hj, hu⟩ := mem_blocksOf.1 hk
  obtain ⟨y, hy, rfl⟩ := List.mem_map.1 (List.mem_of_getElem? hj)
  exact mem_blocksOf.2 ⟨y, _, vAt_get (hl y hy), hu⟩

structure Cel (w : World) (cv : Value) (vs : List Value) (cs : List HC) : Prop where
  row : w.ownsRow 0 32 3 cv cs.length (flat cs vs)
  len : vs.length = cs.length
  refs : ∀ (i : Nat) (c : HC) (v : Value), cs[i]? = some c → vs[i]? = some v → w.ownsRow 0 3 1 v c.refs.length (ints c.refs)
  apart : (cv.ownBlock.toList ++ blocksOf vs).Nodup
  small : cs.length ≤ 65536

section
variable {w : World} {cv : Value} {vs : List Value} {cs : List HC}
theorem HeapRep.cel {hb : Nat} {th : TypeId} {most : Int} (h : HeapRep w hb th cv vs most cs) : Cel w cv vs cs :=
  ⟨h.row, h.len, h.refs, (List.nodup_cons.1 h.apart).2, h.small⟩
theorem Cel.heap {hb : Nat} {th : TypeId} {most : Int} (h : Cel w cv vs cs) (hd : RowAt w hb th [.int .i64 most, cv]) (hn : hb ∉ cv.ownBlock.toList ++ blocksOf vs) : HeapRep w hb th cv vs most cs :=
  ⟨hd, h.row, h.len, h.refs, List.nodup_cons.2 ⟨hn, h.apart⟩, h.small⟩
theorem Cel.frm {fp : List Nat} {w' : World} (h : Cel w cv vs cs) (hf : Frm fp w w') (hn : ∀ k ∈ cv.ownBlock.toList ++ blocksOf vs, k ∉ fp) : Cel w' cv vs cs where
  row := owns_frm h.row hf (fun k hk => hn k (by simp [hk]))
  len := h.len
  refs := fun i c v hc hv => owns_frm (h.refs i c v hc hv) hf (fun k hk => hn k (List.mem_append_right _ (mem_blocksOf.2 ⟨i, v, hv, hk⟩)))
  apart := h.apart
  small := h.small
theorem Cel.lt (h : Cel w cv vs cs) : ∀ k ∈ cv.ownBlock.toList ++ blocksOf vs, k < w.heap.size := by
  intro k hk
  rcases List.mem_append.1 hk with hk | hk
  · exact (h.row.lt k (by simpa using hk)).2
  · obtain ⟨i, v, hi, hv⟩ := mem_blocksOf.1 hk
    have hlt : i < cs.length := by rw [← h.len]; exact (List.getElem?_eq_some_iff.1 hi).1
    exact ((h.refs i cs[i] v (by simp [hlt]) hi).lt k hv).2
/-- Where a reference lies. -/
theorem Cel.ref (h : Cel w cv vs cs) {i k : Nat} {c : HC} {r : Int} (hi : cs[i]? = some c) (hk : c.refs[k]? = some r) : ∃ g cp, vs[i]? = some (.slice (some ⟨g, 0, none⟩) c.refs.length cp) ∧ c.refs.length ≤ cp ∧ cp ≤ maxLen ∧ RowAt w g 3 (ints c.refs) := by
  have hv : i < vs.length := by rw [h.len]; exact (List.getElem?_eq_some_iff.1 hi).1
  have hr := h.refs i c _ hi (List.getElem?_eq_getElem hv)
  obtain ⟨g, cp, he, h1, h2, h3⟩ := owns_some hr (by have := (List.getElem?_eq_some_iff.1 hk).1; omega)
  exact ⟨g, cp, by rw [List.getElem?_eq_getElem hv, he], h1, h2, h3⟩
/-- One reference has been rewritten. -/
theorem Cel.put (h : Cel w cv vs cs) {i : Nat} {c : HC} {v : Value} {g : Nat} (hi : cs[i]? = some c) (hv : vs[i]? = some v) (hg : v.ownBlock = some g) (k : Nat) (x : Int) :
    Cel (w.setCell ⟨g, k, none⟩ (.int .i64 x)) cv vs (cs.set i ⟨c.kind, c.num, c.refs.set k x⟩) where
  row := by
    rw [List.length_set, flat_refs cs vs i c _ hi]
    refine owns_of_block h.row fun b hb => Below.heap_setCell _ _ _ _ (fun e => ?_)
    have := (List.nodup_append.1 h.apart).2.2
    exact this b (by simp [hb]) b (mem_blocksOf.2 ⟨i, v, hv, by rw [hg]; exact congrArg some e.symm⟩) rfl
  len := by rw [List.length_set]; exact h.len
  refs := fun j d u hj hu => by
    by_cases hij : i = j
    · subst hij
      rw [List.getElem?_set_self (List.getElem?_eq_some_iff.1 hi).1] at hj
      rw [hv] at hu
      cases hj
      cases hu
      have h1 := owns_setCell (h.refs i c v hi hv) hg k (.int .i64 x)
      simp only [List.length_set]
      rw [ints, List.map_set]
      exact h1
    · rw [List.getElem?_set_ne hij] at hj
      exact owns_of_block (h.refs j d u hj hu) fun b hb => Below.heap_setCell _ _ _ _ (fun e => blocks_ne (List.nodup_append.1 h.apart).2.1 hv hu hij hg (by rw [hb]; exact congrArg some e))
  apart := h.apart
  small := by rw [List.length_set]; exact h.small
theorem Cel.shape (h : Cel w cv vs cs) (hne : 0 < cs.length) :
    ∃ cb cap, cv = .slice (some ⟨cb, 0, none⟩) cs.length cap ∧ cs.length ≤ cap ∧ cap ≤ maxLen ∧
      ∀ (i : Nat) (c : HC), cs[i]? = some c → ∃ v, vs[i]? = some v ∧ CellAt w cb i c v := by
  obtain ⟨cb, cap, rfl, h1, h2, hr⟩ := owns_some h.row hne
  refine ⟨cb, cap, rfl, h1, h2, fun i c hi => ?_⟩
  have hv : i < vs.length := by rw [h.len]; exact (List.getElem?_eq_some_iff.1 hi).1
  have := flat_get cs vs i c vs[i] hi (by simp)
  exact ⟨vs[i], by simp, hr.cell this.1, hr.cell this.2.1, hr.cell this.2.2, hr.frozen _, hr.frozen _, hr.frozen _, h.refs i c vs[i] hi (by simp)⟩
/-- Cells that have been chosen and put into a row of their own. -/
theorem Cel.sel (h : Cel w cv vs cs) {sel : List Nat} (hs : sel.Nodup) (hl : ∀ x ∈ sel, x < cs.length) {w' : World} {nv : Value} {fp : List Nat} (hrow : w'.ownsRow 0 32 3 nv sel.length (flat (sel.map (cellAt cs)) (sel.map (vAt vs)))) (hf : Frm fp w w') (hn : ∀ k ∈ blocksOf vs, k ∉ fp) (hnew : ∀ k, nv.ownBlock = some k → k ∉ blocksOf vs) : Cel w' nv (sel.map (vAt vs)) (sel.map (cellAt cs)) where
  row := by rw [List.length_map]; exact hrow
  len := by simp
  refs := fun i c v hc hv => by
    rw [List.getElem?_map] at hc hv
    cases he : sel[i]? with
    | none => rw [he] at hc; cases hc
    | some x =>
      rw [he] at hc hv
      cases hc
      cases hv
      have hx := hl x (List.mem_of_getElem? he)
      have hxv := vAt_get (vs := vs) (i := x) (by rw [h.len]; exact hx)
      exact owns_frm (h.refs x _ _ (cellAt_get hx) hxv) hf (fun k hk => hn k (mem_blocksOf.2 ⟨x, _, hxv, hk⟩))
  apart := by
    have hl' : ∀ x ∈ sel, x < vs.length := fun x hx => by rw [h.len]; exact hl x hx
    rw [List.nodup_append]
    refine ⟨by cases nv.ownBlock <;> simp, blocks_sel (List.nodup_append.1 h.apart).2.1 hs hl', fun a ha b hb hab => ?_⟩
    subst hab
    exact hnew a (by simpa using ha) (blocks_sel_sub hl' hb)
  small := by
    have := hs.length_le_of_subset (l₂ := List.range cs.length) (fun x hx => List.mem_range.2 (hl x hx))
    rw [List.length_range] at this
    rw [List.length_map]
    have := h.small
    omega
end

end Go.Proofs.Ytlpgonnionbkfaa
