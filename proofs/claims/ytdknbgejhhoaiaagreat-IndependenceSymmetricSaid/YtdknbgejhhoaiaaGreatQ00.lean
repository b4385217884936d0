/- Texts Lib, U1, A1. -/
import Derived.WalkKit
import Derived.Lib.Hide
import Derived.Deep.Quiet
import Derived.Test.YtdknbgejhhoaiaaGreatRows
import Derived.WalkSpells
import Derived.WalkLawsBesides
import Derived.Deep.LoopGhost
import Derived.Deep.QuietTactic
import Derived.BigQuiet
import Derived.Deep.RegionHeld3
import Derived.Deep.RegionLaw
import Derived.Deep.AppendLies
import Derived.Deep.OwnRows
/- General lemmas on worlds: a frame with a list of blocks that may have turned, and rows of cells. No program in sight. -/
namespace Go.Proofs.YtdknbgejhhoaiaaGreat
open Go.RowKit

/-- Of the blocks that were there, only those of fp may have turned. -/
structure Frm (fp : List Nat) (w w' : World) : Prop where
  os : w'.os = w.os
  tape : w'.tape = w.tape
  output : w'.output = w.output
  size : w.heap.size ≤ w'.heap.size
  block : ∀ k, k < w.heap.size → k ∉ fp → w'.heap[k]? = w.heap[k]?

theorem Frm.refl (fp : List Nat) (w : World) : Frm fp w w := ⟨rfl, rfl, rfl, Nat.le_refl _, fun _ _ _ => rfl⟩

theorem Frm.trans {fp fq : List Nat} {a b c : World} (h : Frm fp a b) (k : Frm fq b c) (hq : ∀ x ∈ fq, x ∈ fp ∨ a.heap.size ≤ x) : Frm fp a c :=
  ⟨k.os.trans h.os, k.tape.trans h.tape, k.output.trans h.output, Nat.le_trans h.size k.size, fun i hi hn =>
    (k.block i (Nat.lt_of_lt_of_le hi h.size) (fun hm => by rcases hq i hm with h1 | h1; exact hn h1; omega)).trans (h.block i hi hn)⟩

theorem Frm.mono {fp fq : List Nat} {a b : World} (h : Frm fp a b) (hq : ∀ x ∈ fp, x ∈ fq) : Frm fq a b :=
  ⟨h.os, h.tape, h.output, h.size, fun i hi hn => h.block i hi (fun hm => hn (hq i hm))⟩

theorem Frm.drew {fp : List Nat} {a w : World} (h : Frm fp a w) : Frm fp a w.drew := ⟨h.os, h.tape, h.output, h.size, h.block⟩
theorem Frm.drewN {fp : List Nat} {a w : World} (h : Frm fp a w) (n : Nat) : Frm fp a (w.drewN n) := ⟨h.os, h.tape, h.output, h.size, h.block⟩

theorem Frm.alloc {fp : List Nat} {a w : World} (h : Frm fp a w) (o : Obj) : Frm fp a (w.alloc o) :=
  h.trans (fq := []) ⟨rfl, rfl, rfl, by simp, fun k hk _ => Below.heap_alloc _ _ _ hk⟩ (by simp)

theorem Frm.setCell {fp : List Nat} {a w : World} (h : Frm fp a w) {p : Addr} (hp : p.block ∈ fp ∨ a.heap.size ≤ p.block) (u : Value) : Frm fp a (w.setCell p u) :=
  h.trans (fq := [p.block]) ⟨rfl, rfl, rfl, by simp [World.setCell], fun k _ hn => Below.heap_setCell _ _ _ _ (by simpa using hn)⟩ (by simpa using hp)

theorem Frm.grown {fp : List Nat} {a w w' : World} {row : Option Nat} (h : Frm fp a w) (hg : w.grownBy w' row) (hr : ∀ k, row = some k → k ∈ fp ∨ a.heap.size ≤ k) : Frm fp a w' :=
  h.trans (fq := row.toList) ⟨hg.os, hg.tape, hg.output, hg.size, fun k hk hn => hg.block k hk (fun e => hn (by simp [← e]))⟩ (by
    intro x hx; exact hr x (by simpa using hx))

theorem Frm.of_below {w w' : World} (h : Below w.heap.size w w') : Frm [] w w' := ⟨h.os, h.tape, h.output, h.size, fun k hk _ => h.block k hk⟩

theorem Frm.below {fp : List Nat} {w w' : World} {B : Nat} (h : Frm fp w w') (hB : B ≤ w.heap.size) (hf : ∀ x ∈ fp, B ≤ x) : Below B w w' :=
  ⟨h.os, h.tape, h.output, h.size, fun k hk => h.block k (by omega) (fun hm => by have := hf k hm; omega)⟩

theorem Frm.cell {fp : List Nat} {w w' : World} (h : Frm fp w w') {p : Addr} {v : Value} (hv : w.cell? p = some v) (hn : p.block ∉ fp) : w'.cell? p = some v :=
  (World.cell?_of_block (w := w) (h.block p.block (World.block_lt_of_cell? w p hv) hn)).trans hv

theorem Frm.frz {fp : List Nat} {w w' : World} (h : Frm fp w w') {p : Addr} {v : Value} (hv : w.cell? p = some v) (hz : w.frozen? p = false) (hn : p.block ∉ fp) : w'.frozen? p = false :=
  (World.frozen?_of_block (w := w) (h.block p.block (World.block_lt_of_cell? w p hv) hn)).trans hz

/-- Block b is a row of e's, not frozen, whose first cells are xs. -/
def RowAt (w : World) (b : Nat) (e : TypeId) (xs : List Value) : Prop :=
  ∃ cur, w.heap[b]? = some (.cells cur e (0, 0)) ∧ cur.toList.take xs.length = xs

theorem RowAt.lt {w : World} {b : Nat} {e : TypeId} {xs : List Value} (h : RowAt w b e xs) : b < w.heap.size := by
  obtain ⟨cur, h1, _⟩ := h
  exact (Array.getElem?_eq_some_iff.1 h1).1

theorem RowAt.cell {w : World} {b : Nat} {e : TypeId} {xs : List Value} (h : RowAt w b e xs) {i : Nat} {v : Value} (hv : xs[i]? = some v) : w.cell? ⟨b, i, none⟩ = some v := by
  obtain ⟨cur, h1, h2⟩ := h
  have : (cur.toList.take xs.length)[i]? = some v := by rw [h2]; exact hv
  rw [List.getElem?_take] at this
  split at this
  · simp [World.cell?, h1]; simpa using this
  · cases this

theorem RowAt.frozen {w : World} {b : Nat} {e : TypeId} {xs : List Value} (h : RowAt w b e xs) (i : Nat) : w.frozen? ⟨b, i, none⟩ = false := by
  obtain ⟨cur, h1, h2⟩ := h
  simp [World.frozen?, h1]

theorem RowAt.of_block {w w' : World} {b : Nat} {e : TypeId} {xs : List Value} (h : RowAt w b e xs) (hb : w'.heap[b]? = w.heap[b]?) : RowAt w' b e xs := by
  obtain ⟨cur, h1, h2⟩ := h
  exact ⟨cur, hb.trans h1, h2⟩

theorem RowAt.frm {fp : List Nat} {w w' : World} {b : Nat} {e : TypeId} {xs : List Value} (h : RowAt w b e xs) (hf : Frm fp w w') (hn : b ∉ fp) : RowAt w' b e xs :=
  h.of_block (hf.block b h.lt hn)

theorem RowAt.setCell {w : World} {b : Nat} {e : TypeId} {xs : List Value} (h : RowAt w b e xs) (i : Nat) (v : Value) : RowAt (w.setCell ⟨b, i, none⟩ v) b e (xs.set i v) := by
  obtain ⟨cur, h1, h2⟩ := h
  refine ⟨cur.setIfInBounds i v, by simp [World.setCell, Array.getElem?_modify, h1], ?_⟩
  rw [List.length_set, Array.toList_setIfInBounds, List.take_set, h2]

theorem RowAt.other {w : World} {b : Nat} {e : TypeId} {xs : List Value} (h : RowAt w b e xs) {p : Addr} (v : Value) (hb : b ≠ p.block) : RowAt (w.setCell p v) b e xs :=
  h.of_block (Below.heap_setCell _ _ _ _ hb)

theorem RowAt.alloc {w : World} {b : Nat} {e : TypeId} {xs : List Value} (h : RowAt w b e xs) (o : Obj) : RowAt (w.alloc o) b e xs :=
  h.of_block (Below.heap_alloc _ _ _ h.lt)

theorem RowAt.drew {w : World} {b : Nat} {e : TypeId} {xs : List Value} (h : RowAt w b e xs) : RowAt w.drew b e xs := h
theorem RowAt.drewN {w : World} {b : Nat} {e : TypeId} {xs : List Value} (h : RowAt w b e xs) (n : Nat) : RowAt (w.drewN n) b e xs :=
  h

theorem RowAt.made (w : World) (e : TypeId) (xs : List Value) (A : Array Value) (hA : A.toList.take xs.length = xs) : RowAt (w.alloc (.cells A e)) w.heap.size e xs :=
  ⟨A, heap_alloc_new w _, hA⟩

/-- An owned row goes on where its own block is as it was. -/
theorem owns_of_block {w w' : World} {e : TypeId} {size : Nat} {v : Value} {n : Nat} {xs : List Value} (h : w.ownsRow 0 e size v n xs) (hb : ∀ k, v.ownBlock = some k → w'.heap[k]? = w.heap[k]?) : w'.ownsRow 0 e size v n xs := by
  refine ⟨h.1, ?_⟩
  rcases h.2 with hn | ⟨g, cap, cur, rfl, h0, hgg, rest⟩
  · exact .inl hn
  · exact .inr ⟨g, cap, cur, rfl, h0, (hb g (by simp [Value.ownBlock])).trans hgg, rest⟩

theorem owns_frm {fp : List Nat} {w w' : World} {e : TypeId} {size : Nat} {v : Value} {n : Nat} {xs : List Value} (h : w.ownsRow 0 e size v n xs) (hf : Frm fp w w') (hn : ∀ k, v.ownBlock = some k → k ∉ fp) : w'.ownsRow 0 e size v n xs :=
  owns_of_block h (fun k hk => hf.block k (h.lt k hk).2 (hn k hk))

theorem ownsB_other {w : World} {B : Nat} {e : TypeId} {size : Nat} {v : Value} {n : Nat} {xs : List Value} (h : w.ownsRow B e size v n xs) {p : Addr} (hp : p.block < B) (u : Value) : (w.setCell p u).ownsRow B e size v n xs := by
  refine ⟨h.1, ?_⟩
  rcases h.2 with hn | ⟨g, cap, cur, rfl, h0, hgg, rest⟩
  · exact .inl hn
  · exact .inr ⟨g, cap, cur, rfl, h0, (Below.heap_setCell _ _ _ _ (by omega)).trans hgg, rest⟩

theorem ownsB_mono {w : World} {B C : Nat} {e : TypeId} {size : Nat} {v : Value} {n : Nat} {xs : List Value} (h : w.ownsRow B e size v n xs) (hc : C ≤ B) : w.ownsRow C e size v n xs := by
  refine ⟨h.1, ?_⟩
  rcases h.2 with hn | ⟨g, cap, cur, rfl, h0, rest⟩
  · exact .inl hn
  · exact .inr ⟨g, cap, cur, rfl, by omega, rest⟩

theorem ownsB_frm {fp : List Nat} {w w' : World} {B : Nat} {e : TypeId} {size : Nat} {v : Value} {n : Nat} {xs : List Value} (h : w.ownsRow B e size v n xs) (hf : Frm fp w w') (hn : ∀ k, v.ownBlock = some k → k ∉ fp) : w'.ownsRow B e size v n xs := by
  refine ⟨h.1, ?_⟩
  rcases h.2 with hn | ⟨g, cap, cur, rfl, h0, hgg, rest⟩
  · exact .inl hn
  · exact .inr ⟨g, cap, cur, rfl, h0, (hf.block g (Array.getElem?_eq_some_iff.1 hgg).1 (hn g rfl)).trans hgg, rest⟩

theorem owns_some {w : World} {e : TypeId} {size : Nat} {v : Value} {n : Nat} {xs : List Value} (h : w.ownsRow 0 e size v n xs) (hn : 0 < n) : ∃ g cap, v = .slice (some ⟨g, 0, none⟩) n cap ∧ n ≤ cap ∧ cap ≤ maxLen ∧ RowAt w g e xs := by
  rcases h.2 with ⟨_, h0⟩ | ⟨g, cap, cur, rfl, h0, hgg, h1, h2, h3, h4⟩
  · omega
  · exact ⟨g, cap, rfl, h1, h2, cur, hgg, by rw [h.1]; exact h4⟩

/-- A slice value of n elements, whatever it is. -/
theorem owns_shape {w : World} {e : TypeId} {size : Nat} {v : Value} {n : Nat} {xs : List Value} (h : w.ownsRow 0 e size v n xs) : ∃ a cap, v = .slice a n cap ∧ (n : Int) ≤ 9223372036854775807 := by
  rcases h.2 with ⟨h0, rfl⟩ | ⟨g, cap, cur, rfl, h0, hgg, h1, h2, h3, h4⟩
  · exact ⟨none, 0, h0, by decide⟩
  · exact ⟨_, cap, rfl, by simp [maxLen] at h2; omega⟩

theorem owns_made_full (w : World) (e : TypeId) (size : Nat) (xs : List Value) (n : Nat) (hl : xs.length = n * size) (hn : n ≤ maxLen) : (w.alloc (.cells xs.toArray e)).ownsRow 0 e size (.slice (some ⟨w.heap.size, 0, none⟩) n n) n xs :=
  ⟨hl, .inr ⟨w.heap.size, n, xs.toArray, rfl, Nat.zero_le _, heap_alloc_new w _, Nat.le_refl _, hn, by simpa using hl, by simp [← hl]⟩⟩

/-- The same row under another value of the same block: what a store into an owned row leaves. -/
theorem owns_setCell {w : World} {e : TypeId} {size : Nat} {v : Value} {n : Nat} {xs : List Value} {g : Nat} (h : w.ownsRow 0 e size v n xs) (hg : v.ownBlock = some g) (i : Nat) (u : Value) :
    (w.setCell ⟨g, i, none⟩ u).ownsRow 0 e size v n (xs.set i u) := by
  refine ⟨by rw [List.length_set]; exact h.1, ?_⟩
  rcases h.2 with ⟨rfl, _⟩ | ⟨g', cap, cur, rfl, h0, hgg, h1, h2, h3, h4⟩
  · simp [Value.ownBlock] at hg
  · simp [Value.ownBlock] at hg
    subst hg
    refine .inr ⟨g', cap, cur.setIfInBounds i u, rfl, h0, by simp [World.setCell, Array.getElem?_modify, hgg], h1, h2, by simpa using h3, ?_⟩
    rw [Array.toList_setIfInBounds, List.take_set, h4]

theorem cells_new (w : World) (xs : List Value) (t : TypeId) : ∀ (j : Nat) (u : Value), xs[j]? = some u → (w.alloc (.cells xs.toArray t)).cell? ((⟨w.heap.size, 0, none⟩ : Addr).add j) = some u := by
  intro j u hu
  have hr := RowAt.made w t xs xs.toArray (by simp)
  rw [Addr.add_lit, Nat.zero_add]
  exact hr.cell hu

end Go.Proofs.YtdknbgejhhoaiaaGreat

/- Plain: the bytes that stand for a list of numbers, and that they tell the list. No program. -/
namespace Go.Proofs.YtdknbgejhhoaiaaGreat.Beh

/-- The four bytes of a number. -/
def kb (n : Int) : List Nat := [n.toNat / 16777216 % 256, n.toNat / 65536 % 256, n.toNat / 256 % 256, n.toNat % 256]
def keyL (l : List Int) : List Nat := l.flatMap kb
theorem keyL_len (l : List Int) : (keyL l).length = l.length * 4 := by
  induction l with
  | nil => rfl
  | cons a r ih =>
    simp only [keyL, List.flatMap_cons, List.length_append, kb, List.length_cons, List.length_nil] at ih ⊢
    omega
theorem keyL_cons (a : Int) (r : List Int) : keyL (a :: r) = kb a ++ keyL r := rfl
theorem keyL_snoc (l : List Int) (a : Int) : keyL (l ++ [a]) = keyL l ++ kb a := by simp [keyL]
theorem keyL_lt (l : List Int) : ∀ b ∈ keyL l, b < 256 := by
  intro b hb
  obtain ⟨n, _, hn⟩ := List.mem_flatMap.1 hb
  simp only [kb, List.mem_cons, List.not_mem_nil, or_false] at hn
  omega
def Small (l : List Int) : Prop := ∀ x ∈ l, 0 ≤ x ∧ x < 2147483648
theorem kb_inj {a b : Int} (ha : 0 ≤ a ∧ a < 2147483648) (hb : 0 ≤ b ∧ b < 2147483648) (h : kb a = kb b) : a = b := by
  simp only [kb, List.cons.injEq, and_true] at h
  omega
theorem keyL_inj : ∀ {l m : List Int}, Small l → Small m → keyL l = keyL m → l = m
  | [], [], _, _, _ => rfl
  | [], b :: m, _, _, h => by
    have := congrArg List.length h
    rw [keyL_len, keyL_len] at this
    simp at this
  | a :: l, [], _, _, h => by
    have := congrArg List.length h
    rw [keyL_len, keyL_len] at this
    simp at this
  | a :: l, b :: m, hl, hm, h => by
    rw [keyL_cons, keyL_cons] at h
    obtain ⟨h1, h2⟩ := List.append_inj h rfl
    rw [kb_inj (hl a (by simp)) (hm b (by simp)) h1, keyL_inj (fun x hx => hl x (List.mem_cons_of_mem _ hx)) (fun x hx => hm x (List.mem_cons_of_mem _ hx)) h2]
/-- The string of a list. -/
def keyS (l : List Int) : ByteArray := ⟨((keyL l).map UInt8.ofNat).toArray⟩
theorem ofNat_inj : ∀ {a b : List Nat}, (∀ x ∈ a, x < 256) → (∀ x ∈ b, x < 256) → a.map UInt8.ofNat = b.map UInt8.ofNat → a = b
  | [], [], _, _, _ => rfl
  | [], _ :: _, _, _, h => by simp at h
  | _ :: _, [], _, _, h => by simp at h
  | x :: a, y :: b, ha, hb, h => by
    simp only [List.map_cons, List.cons.injEq] at h
    have hx := ha x (by simp)
    have hy := hb y (by simp)
    have h1 : x = y := by
      have := congrArg UInt8.toNat h.1
      simp at this
      omega
    rw [h1, ofNat_inj (fun z hz => ha z (List.mem_cons_of_mem _ hz)) (fun z hz => hb z (List.mem_cons_of_mem _ hz)) h.2]
theorem keyS_inj {l m : List Int} (hl : Small l) (hm : Small m) (h : keyS l = keyS m) : l = m := by
  simp only [keyS, ByteArray.mk.injEq] at h
  have h2 : (keyL l).map UInt8.ofNat = (keyL m).map UInt8.ofNat := by
    have := congrArg Array.toList h
    simpa using this
  exact keyL_inj hl hm (ofNat_inj (keyL_lt l) (keyL_lt m) h2)
end Go.Proofs.YtdknbgejhhoaiaaGreat.Beh

/- Merged text: G1, G2 of the notes. -/
/- How a transition system lies in memory; plain functions on rows of arcs. -/
namespace Go.Proofs.YtdknbgejhhoaiaaGreat
open Go.RowKit

theorem infoInt : (Tryz.prog.info? 3).map (fun i => (i.zero, i.size, i.bytes)) = some (some (.int .i64 0), 1, 8) := by kernel_rfl
theorem infoArc : (Tryz.prog.info? 55).map (fun i => (i.zero, i.size, i.bytes)) = some (some (.agg #[.int .i64 0, .int .i64 0]), 2, 16) := by kernel_rfl

def ints (xs : List Int) : List Value := xs.map (Value.int .i64)

/-- A slice of n elements (of 'size' cells each) that can be read; its block lies below B. -/
structure Rd (B : Nat) (w : World) (a : Option Addr) (n cap size : Nat) (xs : List Value) : Prop where
  len : xs.length = n * size
  le : n ≤ cap
  max : cap ≤ maxLen
  cell : ∀ (i : Nat) (u : Value), xs[i]? = some u → ∃ b o, a = some ⟨b, o, none⟩ ∧ b < B ∧ w.cell? ⟨b, o + i, none⟩ = some u

theorem Rd.frm {B : Nat} {fp : List Nat} {w w' : World} {a : Option Addr} {n cap size : Nat} {xs : List Value} (h : Rd B w a n cap size xs) (hf : Frm fp w w') (hn : ∀ k ∈ fp, B ≤ k) : Rd B w' a n cap size xs :=
  ⟨h.len, h.le, h.max, fun i u hu => by
    obtain ⟨b, o, ha, hb, hc⟩ := h.cell i u hu
    exact ⟨b, o, ha, hb, hf.cell hc (fun hm => by have := hn _ hm; simp at this; omega)⟩⟩

theorem Rd.mono {B C : Nat} {w : World} {a : Option Addr} {n cap size : Nat} {xs : List Value} (h : Rd B w a n cap size xs) (hc : B ≤ C) : Rd C w a n cap size xs :=
  ⟨h.len, h.le, h.max, fun i u hu => by
    obtain ⟨b, o, ha, hb, hcc⟩ := h.cell i u hu
    exact ⟨b, o, ha, by omega, hcc⟩⟩

theorem Rd.lt {B : Nat} {w : World} {a : Option Addr} {n cap size : Nat} {xs : List Value} (h : Rd B w a n cap size xs) : (n : Int) ≤ 9223372036854775807 := by
  have h1 := h.le
  have h2 := h.max
  unfold maxLen at h2
  omega

/-- What a slice of integers gives at an index. -/
theorem Rd.at {B : Nat} {w : World} {a : Option Addr} {cap : Nat} {xs : List Int} {n : Nat} (h : Rd B w a n cap 1 (ints xs)) {i : Nat} {x : Int} (hx : xs[i]? = some x) : ∃ b o, a = some ⟨b, o, none⟩ ∧ b < B ∧ w.cell? ⟨b, o + i, none⟩ = some (.int .i64 x) :=
  h.cell i _ (by simp [ints, hx])

theorem rd_of_owns {B C : Nat} {w : World} {e size n cap : Nat} {a : Option Addr} {xs : List Value} (h : w.ownsRow B e size (.slice a n cap) n xs) (hc : w.heap.size ≤ C) : Rd C w a n cap size xs := by
  rcases h.2 with ⟨h0, rfl⟩ | ⟨g, cp, cur, h0, hb, hg, h1, h2, h3, h4⟩
  · cases h0
    exact ⟨h.1, Nat.le_refl _, Nat.zero_le _, fun i u hu => by
      have : xs = [] := List.eq_nil_of_length_eq_zero (by simpa using h.1)
      subst this; simp at hu⟩
  · obtain ⟨rfl, rfl⟩ : a = some ⟨g, 0, none⟩ ∧ cap = cp := by simpa using h0
    refine ⟨h.1, h1, h2, fun i u hu => ⟨g, 0, rfl, by have := (Array.getElem?_eq_some_iff.1 hg).1; omega, ?_⟩⟩
    rw [Nat.zero_add]
    exact RowAt.cell (xs := xs) ⟨cur, hg, by rw [h.1]; exact h4⟩ hu

abbrev Arc := Int × Int
abbrev Lts := List (List Arc)

def RowR (B : Nat) (w : World) (a : Option Addr) (cap : Nat) (row : List Arc) : Prop :=
  row.length ≤ cap ∧ cap ≤ maxLen ∧ row.length ≤ 140737488355328 ∧ ∀ (j : Nat) (e t : Int), row[j]? = some (e, t) → ∃ b o, a = some ⟨b, o, none⟩ ∧ b < B ∧ w.cell? ⟨b, o + j * 2, none⟩ = some (.int .i64 e) ∧ w.cell? ⟨b, o + j * 2 + 1, none⟩ = some (.int .i64 t)

structure LAt (B : Nat) (w : World) (a : Option Addr) (cap : Nat) (l : Lts) : Prop where
  le : l.length ≤ cap
  max : cap ≤ maxLen
  few : l.length ≤ 140737488355328
  cell : ∀ (i : Nat) (row : List Arc), l[i]? = some row → ∃ b o ra rc, a = some ⟨b, o, none⟩ ∧ b < B ∧ w.cell? ⟨b, o + i, none⟩ = some (.slice ra row.length rc) ∧ RowR B w ra rc row

theorem RowR.frm {B : Nat} {fp : List Nat} {w w' : World} {a : Option Addr} {cap : Nat} {row : List Arc} (h : RowR B w a cap row) (hf : Frm fp w w') (hn : ∀ k ∈ fp, B ≤ k) : RowR B w' a cap row :=
  ⟨h.1, h.2.1, h.2.2.1, fun j e t hj => by
    obtain ⟨b, o, ha, hb, h1, h2⟩ := h.2.2.2 j e t hj
    exact ⟨b, o, ha, hb, hf.cell h1 (fun hm => by have := hn _ hm; simp at this; omega), hf.cell h2 (fun hm => by have := hn _ hm; simp at this; omega)⟩⟩

theorem LAt.frm {B : Nat} {fp : List Nat} {w w' : World} {a : Option Addr} {cap : Nat} {l : Lts} (h : LAt B w a cap l) (hf : Frm fp w w') (hn : ∀ k ∈ fp, B ≤ k) : LAt B w' a cap l :=
  ⟨h.le, h.max, h.few, fun i row hi => by
    obtain ⟨b, o, ra, rc, ha, hb, h1, h2⟩ := h.cell i row hi
    exact ⟨b, o, ra, rc, ha, hb, hf.cell h1 (fun hm => by have := hn _ hm; simp at this; omega), h2.frm hf hn⟩⟩

theorem LAt.nil {B : Nat} {fp : List Nat} {w w' : World} {a : Option Addr} {cap : Nat} {l : Lts} (h : LAt B w a cap l) (hf : Frm fp w w') (hn : fp = []) : LAt B w' a cap l := h.frm hf (by simp [hn])

theorem LAt.lt {B : Nat} {w : World} {a : Option Addr} {cap : Nat} {l : Lts} (h : LAt B w a cap l) : (l.length : Int) ≤ 140737488355328 := by
  have h1 := h.few
  omega

theorem RowR.lt {B : Nat} {w : World} {a : Option Addr} {cap : Nat} {row : List Arc} (h : RowR B w a cap row) : (row.length : Int) ≤ 140737488355328 := by
  have h1 := h.2.2.1
  omega

theorem RowR.mono {B C : Nat} {w : World} {a : Option Addr} {cap : Nat} {row : List Arc} (h : RowR B w a cap row) (hc : B ≤ C) : RowR C w a cap row :=
  ⟨h.1, h.2.1, h.2.2.1, fun j e t hj => by
    obtain ⟨b, o, ha, hb, hcc⟩ := h.2.2.2 j e t hj
    exact ⟨b, o, ha, by omega, hcc⟩⟩

theorem LAt.mono {B C : Nat} {w : World} {a : Option Addr} {cap : Nat} {l : Lts} (h : LAt B w a cap l) (hc : B ≤ C) : LAt C w a cap l :=
  ⟨h.le, h.max, h.few, fun i row hi => by
    obtain ⟨b, o, ra, rc, ha, hb, h1, h2⟩ := h.cell i row hi
    exact ⟨b, o, ra, rc, ha, by omega, h1, h2.mono hc⟩⟩

/-! ### plain functions -/
def arcOk (n : Nat) (a : Arc) : Bool := !(decide (a.1 < 0) || decide (1025 < a.1) || decide (a.2 < 0) || decide ((n : Int) ≤ a.2))
def looseGo (n : Nat) : Nat → Lts → Bool
  | _, [] => true
  | c, row :: r => decide (c + row.length ≤ 262144) && (row.all (arcOk n) && looseGo n (c + row.length) r)
def looseB (l : Lts) : Bool := decide (1 ≤ l.length) && decide (l.length ≤ 16384) && looseGo l.length 0 l
def ltA (a b : Arc) : Bool := decide (a.1 < b.1) || (decide (a.1 = b.1) && decide (a.2 < b.2))
def ascB : List Arc → Bool
  | a :: b :: r => ltA a b && ascB (b :: r)
  | _ => true
def validB (l : Lts) : Bool := looseB l && l.all ascB
def cmpI (x y : Int) : Int := if x < y then -1 else if y < x then 1 else 0
def or2 (x y : Int) : Int := if x = 0 then y else x
def cmpA (a b : Arc) : Int := or2 (cmpI a.1 b.1) (cmpI a.2 b.2)

theorem cmpA_lt (a b : Arc) : cmpA a b < 0 ↔ ltA a b = true := by
  obtain ⟨e, t⟩ := a
  obtain ⟨f, u⟩ := b
  simp only [cmpA, or2, cmpI, ltA, Bool.or_eq_true, decide_eq_true_eq, Bool.and_eq_true]
  repeat' split
  all_goals omega

theorem drop_cons {α : Type} {l : List α} {i : Nat} {x : α} (h : l[i]? = some x) : l.drop i = x :: l.drop (i + 1) := by
  obtain ⟨hi, rfl⟩ := List.getElem?_eq_some_iff.1 h
  exact List.drop_eq_getElem_cons hi

end Go.Proofs.YtdknbgejhhoaiaaGreat

/- Contracts of cmp.Compare, cmp.Or, rows.compare, and of Less of the reference. -/
namespace Go.Proofs.YtdknbgejhhoaiaaGreat
open Go.RowKit

theorem nan_any (x : Int) (w : World) : Calls Tryz.prog 65 #[.int .i64 x] w fun e w' => e = .returned (.bool false) ∧ w = w' := by
  have hx : (x != x) = false := by simp
  go_enter Tryz.func65, Tryz.ntmps65
  go_wp2
  go_ret
  exact ⟨rfl, rfl⟩

theorem cmpI_any (x y : Int) (w : World) : Calls Tryz.prog 39 #[.int .i64 x, .int .i64 y] w fun e w' => e = .returned (.int .i64 (cmpI x y)) ∧ w = w' := by
  rcases (show x < y ∨ y < x ∨ x = y by omega) with h | h | h
  · have H : Hid (cmpI x y = -1) := if_pos h
    go_enter Tryz.func39, Tryz.ntmps39
    go_wp2_with (go_at_call 65; refine (nan_any _ _).mono ?_; rintro e w1 ⟨rfl, rfl⟩)
    go_ret
    exact ⟨by rw [H.out]; rfl, rfl⟩
  · have h' : ¬ x < y := by omega
    have H : Hid (cmpI x y = 1) := (if_neg h').trans (if_pos h)
    go_enter Tryz.func39, Tryz.ntmps39
    go_wp2_with (go_at_call 65; refine (nan_any _ _).mono ?_; rintro e w1 ⟨rfl, rfl⟩)
    go_ret
    exact ⟨by rw [H.out]; rfl, rfl⟩
  · subst h
    have h' : ¬ x < x := by omega
    have H : Hid (cmpI x x = 0) := (if_neg h').trans (if_neg h')
    go_enter Tryz.func39, Tryz.ntmps39
    go_wp2_with (go_at_call 65; refine (nan_any _ _).mono ?_; rintro e w1 ⟨rfl, rfl⟩)
    go_ret
    exact ⟨by rw [H.out]; rfl, rfl⟩

/-- cmp.Or of two numbers that lie in a row of two cells. -/
theorem or2_any (x y : Int) (g : Nat) (w : World) (h0 : w.cell? ⟨g, 0, none⟩ = some (.int .i64 x)) (h1 : w.cell? ⟨g, 1, none⟩ = some (.int .i64 y)) :
    Calls Tryz.prog 38 #[.slice (some ⟨g, 0, none⟩) 2 2] w fun e w' => e = .returned (.int .i64 (or2 x y)) ∧ w = w' := by
  by_cases hx : x = 0
  · subst hx
    by_cases hy : y = 0
    · subst hy
      go_enter Tryz.func38, Tryz.ntmps38
      go_wp2
      refine wp_loop_rounds 3 ?_
      rw [rounds_succ]
      go_wp2
      rw [rounds_succ]
      go_wp2
      rw [rounds_succ]
      go_wp2
      go_ret
      exact ⟨by rw [or2, if_pos rfl]; rfl, rfl⟩
    · have hb : (y != 0) = true := by simpa using hy
      go_enter Tryz.func38, Tryz.ntmps38
      go_wp2
      refine wp_loop_rounds 2 ?_
      rw [rounds_succ]
      go_wp2
      rw [rounds_succ]
      go_wp2
      go_ret
      exact ⟨by rw [or2, if_pos rfl]; rfl, rfl⟩
  · have hb : (x != 0) = true := by simpa using hx
    go_enter Tryz.func38, Tryz.ntmps38
    go_wp2
    refine wp_loop_rounds 1 ?_
    rw [rounds_succ]
    go_wp2
    go_ret
    exact ⟨by rw [or2, if_neg hx]; rfl, rfl⟩

set_option maxHeartbeats 1000000 in
theorem compare_any (a b : Arc) (w : World) :
    Calls Tryz.prog 50 #[.agg #[.int .i64 a.1, .int .i64 a.2], .agg #[.int .i64 b.1, .int .i64 b.2]] w fun e w' => e = .returned (.int .i64 (cmpA a b)) ∧ Frm [] w w' := by
  obtain ⟨e, t⟩ := a
  obtain ⟨f, u⟩ := b
  have f0 : Frm [] w (((w.alloc (.cells #[.int .i64 e, .int .i64 t] 55)).alloc (.cells #[.int .i64 f, .int .i64 u] 55)).drew) := (((Frm.refl [] w).alloc _).alloc _).drew
  have r0 := ((RowAt.made w 55 [.int .i64 e, .int .i64 t] #[.int .i64 e, .int .i64 t] rfl).alloc (.cells #[.int .i64 f, .int .i64 u] 55)).drew
  have r1 := (RowAt.made (w.alloc (.cells #[.int .i64 e, .int .i64 t] 55)) 55 [.int .i64 f, .int .i64 u] #[.int .i64 f, .int .i64 u] rfl).drew
  rw [show (w.alloc (.cells #[.int .i64 e, .int .i64 t] 55)).heap.size = w.heap.size + 1 from by simp] at r1
  have c0 := r0.cell (i := 0) rfl
  have c1 := r0.cell (i := 1) rfl
  have c2 := r1.cell (i := 0) rfl
  have c3 := r1.cell (i := 1) rfl
  clear r0 r1
  go_enter Tryz.func50, Tryz.ntmps50
  go_wp2_with fail
  have d0 := Lib.hid c0
  have d1 := Lib.hid c1
  have d2 := Lib.hid c2
  have d3 := Lib.hid c3
  generalize (((w.alloc (.cells #[.int .i64 e, .int .i64 t] 55)).alloc (.cells #[.int .i64 f, .int .i64 u] 55))) = W at *
  clear c0 c1 c2 c3
  go_region_held3 (fun w' => w'.cell? ⟨w.heap.size, 0, none⟩ = some (.int .i64 e) ∧ w'.cell? ⟨w.heap.size, 1, none⟩ = some (.int .i64 t) ∧ w'.cell? ⟨w.heap.size + 1, 0, none⟩ = some (.int .i64 f) ∧ w'.cell? ⟨w.heap.size + 1, 1, none⟩ = some (.int .i64 u)) (first | exact ⟨d0.out, d1.out, d2.out, d3.out⟩ | (exact ⟨(Frm.alloc (Frm.refl [] W.drew) _).cell d0.out (by simp), (Frm.alloc (Frm.refl [] W.drew) _).cell d1.out (by simp), (Frm.alloc (Frm.refl [] W.drew) _).cell d2.out (by simp), (Frm.alloc (Frm.refl [] W.drew) _).cell d3.out (by simp)⟩)) (first | (go_at_call 39; refine (cmpI_any _ _ _).mono ?_; rintro e w1 ⟨rfl, rfl⟩) | (go_at_call 38; refine (or2_any (cmpI e f) (cmpI t u) _ _ (by simp) (by simp)).mono ?_; rintro e w1 ⟨rfl, rfl⟩))
  go_wp2
  go_ret
  exact ⟨rfl, f0.alloc _⟩

end Go.Proofs.YtdknbgejhhoaiaaGreat
