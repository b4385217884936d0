/- General lemmas on worlds: a frame with a list of blocks that may have turned, and rows of cells. No program in sight. -/
import Derived.WalkKit
import Derived.Lib.Hide
import Derived.Deep.Quiet
namespace Go.Proofs.Ytfndgiinniibfaa
open Go.RowKit

/-- Of the blocks that were there, only those of fp may have turned. -/
structure Frm (fp : List Nat) (w w' : World) : Prop where
  os : w'.os = w.os
  tape : w'.tape = w.tape
  output : w'.output = w.output
  size : w.heap.size ≤ w'.heap.size
  block : ∀ k, k < w.heap.size → k ∉ fp → w'.heap[k]? = w.heap[k]?

theorem Frm.refl (fp : List Nat) (w : World) : Frm fp w w := ⟨rfl, rfl, rfl, Nat.le_refl _, fun _ _ _ => rfl⟩

theorem Frm.trans {fp fq : List Nat} {a b c : World} (h : Frm fp a b) (k : Frm fq b c) (hq : ∀ x ∈ fq, x ∈ fp ∨ a.heap.size ≤ x) : Frm fp a c :=
  ⟨k.os.trans h.os, k.tape.trans h.tape, k.output.trans h.output, Nat.le_trans h.size k.size, fun i hi hn =>
    (k.block i (Nat.lt_of_lt_of_le hi h.size) (fun hm => by rcases hq i hm with h1 | h1; exact hn h1; omega)).trans (h.block i hi hn)⟩

theorem Frm.mono {fp fq : List Nat} {a b : World} (h : Frm fp a b) (hq : ∀ x ∈ fp, x ∈ fq) : Frm fq a b :=
  ⟨h.os, h.tape, h.output, h.size, fun i hi hn => h.block i hi (fun hm => hn (hq i hm))⟩

theorem Frm.drew {fp : List Nat} {a w : World} (h : Frm fp a w) : Frm fp a w.drew := ⟨h.os, h.tape, h.output, h.size, h.block⟩
theorem Frm.drewN {fp : List Nat} {a w : World} (h : Frm fp a w) (n : Nat) : Frm fp a (w.drewN n) := ⟨h.os, h.tape, h.output, h.size, h.block⟩

theorem Frm.alloc {fp : List Nat} {a w : World} (h : Frm fp a w) (o : Obj) : Frm fp a (w.alloc o) :=
  h.trans (fq := []) ⟨rfl, rfl, rfl, by simp, fun k hk _ => Below.heap_alloc _ _ _ hk⟩ (by simp)

theorem Frm.setCell {fp : List Nat} {a w : World} (h : Frm fp a w) {p : Addr} (hp : p.block ∈ fp ∨ a.heap.size ≤ p.block) (u : Value) : Frm fp a (w.setCell p u) :=
  h.trans (fq := [p.block]) ⟨rfl, rfl, rfl, by simp [World.setCell], fun k _ hn => Below.heap_setCell _ _ _ _ (by simpa using hn)⟩ (by simpa using hp)

theorem Frm.grown {fp : List Nat} {a w w' : World} {row : Option Nat} (h : Frm fp a w) (hg : w.grownBy w' row) (hr : ∀ k, row = some k → k ∈ fp ∨ a.heap.size ≤ k) : Frm fp a w' :=
  h.trans (fq := row.toList) ⟨hg.os, hg.tape, hg.output, hg.size, fun k hk hn => hg.block k hk (fun e => hn (by simp [← e]))⟩ (by
    intro x hx; exact hr x (by simpa using hx))

theorem Frm.of_below {w w' : World} (h : Below w.heap.size w w') : Frm [] w w' := ⟨h.os, h.tape, h.output, h.size, fun k hk _ => h.block k hk⟩

theorem Frm.below {fp : List Nat} {w w' : World} {B : Nat} (h : Frm fp w w') (hB : B ≤ w.heap.size) (hf : ∀ x ∈ fp, B ≤ x) : Below B w w' :=
  ⟨h.os, h.tape, h.output, h.size, fun k hk => h.block k (by omega) (fun hm => by have := hf k hm; omega)⟩

theorem Frm.cell {fp : List Nat} {w w' : World} (h : Frm fp w w') {p : Addr} {v : Value} (hv : w.cell? p = some v) (hn : p.block ∉ fp) : w'.cell? p = some v :=
  (World.cell?_of_block (w := w) (h.block p.block (World.block_lt_of_cell? w p hv) hn)).trans hv

theorem Frm.frz {fp : List Nat} {w w' : World} (h : Frm fp w w') {p : Addr} {v : Value} (hv : w.cell? p = some v) (hz : w.frozen? p = false) (hn : p.block ∉ fp) : w'.frozen? p = false :=
  (World.frozen?_of_block (w := w) (h.block p.block (World.block_lt_of_cell? w p hv) hn)).trans hz

/-- Block b is a row of e's, not frozen, whose first cells are xs. -/
def RowAt (w : World) (b : Nat) (e : TypeId) (xs : List Value) : Prop :=
  ∃ cur, w.heap[b]? = some (.cells cur e (0, 0)) ∧ cur.toList.take xs.length = xs

theorem RowAt.lt {w : World} {b : Nat} {e : TypeId} {xs : List Value} (h : RowAt w b e xs) : b < w.heap.size := by
  obtain ⟨cur, h1, _⟩ := h
  exact (Array.getElem?_eq_some_iff.1 h1).1

theorem RowAt.cell {w : World} {b : Nat} {e : TypeId} {xs : List Value} (h : RowAt w b e xs) {i : Nat} {v : Value} (hv : xs[i]? = some v) : w.cell? ⟨b, i, none⟩ = some v := by
  obtain ⟨cur, h1, h2⟩ := h
  have : (cur.toList.take xs.length)[i]? = some v := by rw [h2]; exact hv
  rw [List.getElem?_take] at this
  split at this
  · simp [World.cell?, h1]; simpa using this
  · cases this

theorem RowAt.frozen {w : World} {b : Nat} {e : TypeId} {xs : List Value} (h : RowAt w b e xs) (i : Nat) : w.frozen? ⟨b, i, none⟩ = false := by
  obtain ⟨cur, h1, h2⟩ := h
  simp [World.frozen?, h1]

theorem RowAt.of_block {w w' : World} {b : Nat} {e : TypeId} {xs : List Value} (h : RowAt w b e xs) (hb : w'.heap[b]? = w.heap[b]?) : RowAt w' b e xs := by
  obtain ⟨cur, h1, h2⟩ := h
  exact ⟨cur, hb.trans h1, h2⟩

theorem RowAt.frm {fp : List Nat} {w w' : World} {b : Nat} {e : TypeId} {xs : List Value} (h : RowAt w b e xs) (hf : Frm fp w w') (hn : b ∉ fp) : RowAt w' b e xs :=
  h.of_block (hf.block b h.lt hn)

theorem RowAt.setCell {w : World} {b : Nat} {e : TypeId} {xs : List Value} (h : RowAt w b e xs) (i : Nat) (v : Value) : RowAt (w.setCell ⟨b, i, none⟩ v) b e (xs.set i v) := by
  obtain ⟨cur, h1, h2⟩ := h
  refine ⟨cur.setIfInBounds i v, by simp [World.setCell, Array.getElem?_modify, h1], ?_⟩
  rw [List.length_set, Array.toList_setIfInBounds, List.take_set, h2]

theorem RowAt.other {w : World} {b : Nat} {e : TypeId} {xs : List Value} (h : RowAt w b e xs) {p : Addr} (v : Value) (hb : b ≠ p.block) : RowAt (w.setCell p v) b e xs :=
  h.of_block (Below.heap_setCell _ _ _ _ hb)

theorem RowAt.alloc {w : World} {b : Nat} {e : TypeId} {xs : List Value} (h : RowAt w b e xs) (o : Obj) : RowAt (w.alloc o) b e xs :=
  h.of_block (Below.heap_alloc _ _ _ h.lt)

theorem RowAt.drew {w : World} {b : Nat} {e : TypeId} {xs : List Value} (h : RowAt w b e xs) : RowAt w.drew b e xs := h
theorem RowAt.drewN {w : World} {b : Nat} {e : TypeId} {xs : List Value} (h : RowAt w b e xs) (n : Nat) : RowAt (w.drewN n) b e xs :=
  h

theorem RowAt.made (w : World) (e : TypeId) (xs : List Value) (A : Array Value) (hA : A.toList.take xs.length = xs) : RowAt (w.alloc (.cells A e)) w.heap.size e xs :=
  ⟨A, heap_alloc_new w _, hA⟩

/-- An owned row goes on where its own block is as it was. -/
theorem owns_of_block {w w' : World} {e : TypeId} {size : Nat} {v : Value} {n : Nat} {xs : List Value} (h : w.ownsRow 0 e size v n xs) (hb : ∀ k, v.ownBlock = some k → w'.heap[k]? = w.heap[k]?) : w'.ownsRow 0 e size v n xs := by
  refine ⟨h.1, ?_⟩
  rcases h.2 with hn | ⟨g, cap, cur, rfl, h0, hgg, rest⟩
  · exact .inl hn
  · exact .inr ⟨g, cap, cur, rfl, h0, (hb g (by simp [Value.ownBlock])).trans hgg, rest⟩

theorem owns_frm {fp : List Nat} {w w' : World} {e : TypeId} {size : Nat} {v : Value} {n : Nat} {xs : List Value} (h : w.ownsRow 0 e size v n xs) (hf : Frm fp w w') (hn : ∀ k, v.ownBlock = some k → k ∉ fp) : w'.ownsRow 0 e size v n xs :=
  owns_of_block h (fun k hk => hf.block k (h.lt k hk).2 (hn k hk))

theorem ownsB_other {w : World} {B : Nat} {e : TypeId} {size : Nat} {v : Value} {n : Nat} {xs : List Value} (h : w.ownsRow B e size v n xs) {p : Addr} (hp : p.block < B) (u : Value) : (w.setCell p u).ownsRow B e size v n xs := by
  refine ⟨h.1, ?_⟩
  rcases h.2 with hn | ⟨g, cap, cur, rfl, h0, hgg, rest⟩
  · exact .inl hn
  · exact .inr ⟨g, cap, cur, rfl, h0, (Below.heap_setCell _ _ _ _ (by omega)).trans hgg, rest⟩

theorem ownsB_mono {w : World} {B C : Nat} {e : TypeId} {size : Nat} {v : Value} {n : Nat} {xs : List Value} (h : w.ownsRow B e size v n xs) (hc : C ≤ B) : w.ownsRow C e size v n xs := by
  refine ⟨h.1, ?_⟩
  rcases h.2 with hn | ⟨g, cap, cur, rfl, h0, rest⟩
  · exact .inl hn
  · exact .inr ⟨g, cap, cur, rfl, by omega, rest⟩

theorem ownsB_frm {fp : List Nat} {w w' : World} {B : Nat} {e : TypeId} {size : Nat} {v : Value} {n : Nat} {xs : List Value} (h : w.ownsRow B e size v n xs) (hf : Frm fp w w') (hn : ∀ k, v.ownBlock = some k → k ∉ fp) : w'.ownsRow B e size v n xs := by
  refine ⟨h.1, ?_⟩
  rcases h.2 with hn | ⟨g, cap, cur, rfl, h0, hgg, rest⟩
  · exact .inl hn
  · exact .inr ⟨g, cap, cur, rfl, h0, (hf.block g (Array.getElem?_eq_some_iff.1 hgg).1 (hn g rfl)).trans hgg, rest⟩

theorem owns_some {w : World} {e : TypeId} {size : Nat} {v : Value} {n : Nat} {xs : List Value} (h : w.ownsRow 0 e size v n xs) (hn : 0 < n) : ∃ g cap, v = .slice (some ⟨g, 0, none⟩) n cap ∧ n ≤ cap ∧ cap ≤ maxLen ∧ RowAt w g e xs := by
  rcases h.2 with ⟨_, h0⟩ | ⟨g, cap, cur, rfl, h0, hgg, h1, h2, h3, h4⟩
  · omega
  · exact ⟨g, cap, rfl, h1, h2, cur, hgg, by rw [h.1]; exact h4⟩

/-- A slice value of n elements, whatever it is. -/
theorem owns_shape {w : World} {e : TypeId} {size : Nat} {v : Value} {n : Nat} {xs : List Value} (h : w.ownsRow 0 e size v n xs) : ∃ a cap, v = .slice a n cap ∧ (n : Int) ≤ 9223372036854775807 := by
  rcases h.2 with ⟨h0, rfl⟩ | ⟨g, cap, cur, rfl, h0, hgg, h1, h2, h3, h4⟩
  · exact ⟨none, 0, h0, by decide⟩
  · exact ⟨_, cap, rfl, by simp [maxLen] at h2; omega⟩

theorem owns_made_full (w : World) (e : TypeId) (size : Nat) (xs : List Value) (n : Nat) (hl : xs.length = n * size) (hn : n ≤ maxLen) : (w.alloc (.cells xs.toArray e)).ownsRow 0 e size (.slice (some ⟨w.heap.size, 0, none⟩) n n) n xs :=
  ⟨hl, .inr ⟨w.heap.size, n, xs.toArray, rfl, Nat.zero_le _, heap_alloc_new w _, Nat.le_refl _, hn, by simpa using hl, by simp [← hl]⟩⟩

/-- The same row under another value of the same block: what a store into an owned row leaves. -/
theorem owns_setCell {w : World} {e : TypeId} {size : Nat} {v : Value} {n : Nat} {xs : List Value} {g : Nat} (h : w.ownsRow 0 e size v n xs) (hg : v.ownBlock = some g) (i : Nat) (u : Value) :
    (w.setCell ⟨g, i, none⟩ u).ownsRow 0 e size v n (xs.set i u) := by
  refine ⟨by rw [List.length_set]; exact h.1, ?_⟩
  rcases h.2 with ⟨rfl, _⟩ | ⟨g', cap, cur, rfl, h0, hgg, h1, h2, h3, h4⟩
  · simp [Value.ownBlock] at hg
  · simp [Value.ownBlock] at hg
    subst hg
    refine .inr ⟨g', cap, cur.setIfInBounds i u, rfl, h0, by simp [World.setCell, Array.getElem?_modify, hgg], h1, h2, by simpa using h3, ?_⟩
    rw [Array.toList_setIfInBounds, List.take_set, h4]

theorem cells_new (w : World) (xs : List Value) (t : TypeId) : ∀ (j : Nat) (u : Value), xs[j]? = some u → (w.alloc (.cells xs.toArray t)).cell? ((⟨w.heap.size, 0, none⟩ : Addr).add j) = some u := by
  intro j u hu
  have hr := RowAt.made w t xs xs.toArray (by simp)
  rw [Addr.add_lit, Nat.zero_add]
  exact hr.cell hu

end Go.Proofs.Ytfndgiinniibfaa
