/- Texts OT, Lib, A1, G3, G4, G5. -/
import Derived.Deep.RegionHeld3
import Derived.WalkKit
import Derived.Lib.Hide
import Derived.Deep.Quiet
import Derived.Test.YtikpcipkkhmcfaaGreatRows
import Derived.WalkSpells
import Derived.WalkLawsBesides
import Derived.Deep.LoopGhost
import Derived.Deep.QuietTactic
import Derived.BigQuiet
import Derived.Deep.RegionLaw
import Derived.Deep.AppendLies
import Derived.Deep.OwnRows
/- Steps of a drawn region in short words. Plain, no program. -/
namespace Go.Proofs.YtikpcipkkhmcfaaGreat

section
variable {P : Program} {ops : Array Oper} {Q : Exit → Act → World → Prop} {md : Region.Mode} {S : World → Prop}
def qOk (md : Region.Mode) (ops : Array Oper) (listed : Array Bool) (i : Nat) : Bool := Region.noSelect ops && Region.free md ops listed i && (Region.ready md ops listed).contains i
theorem qOk_spec {ops : Array Oper} {listed : Array Bool} {i : Nat} (h : qOk md ops listed i = true) : Region.noSelect ops = true ∧ Region.free md ops listed i = true ∧ (Region.ready md ops listed).contains i = true := by
 unfold qOk at h
 simp only [Bool.and_eq_true] at h
 exact ⟨h.1.1, h.1.2, h.2⟩
/-- Operation i is taken: it yields v. -/
theorem qtk (i : Nat) {oi : Oper} {v : Value} {fuel : Nat} {listed : Array Bool} {a : Act} {w : World} (hi : ops[i]? = some oi) (hc : qOk md ops listed i = true)
  (hQ : ∀ c a w, Q (.panic c) (a.put oi.dst v) w → Q (.panic c) a w) (hg : Region.wanted oi (yielded ops a.tmps) = true) (hS : S w) (hy : ∀ w, S w → (execOp a.eval oi).run P w = .ok (.value v) w)
  (h : wpAnyH P md ops Q S fuel (listed.setIfInBounds i true) (a.put oi.dst v) w) : wpAnyH P md ops Q S (fuel + 1) listed a w :=
 wpAnyH_take hi (qOk_spec hc).1 (qOk_spec hc).2.1 (qOk_spec hc).2.2 hQ (.inl ⟨hg, hy⟩) hS h
/-- Operation i is not wanted. -/
theorem qdr (i : Nat) {oi : Oper} {fuel : Nat} {listed : Array Bool} {a : Act} {w : World} (hi : ops[i]? = some oi) (hc : qOk md ops listed i = true)
  (hQ : ∀ c a w, Q (.panic c) (a.put oi.dst undef) w → Q (.panic c) a w) (hg : Region.wanted oi (yielded ops a.tmps) = false) (hS : S w)
  (h : wpAnyH P md ops Q S fuel (listed.setIfInBounds i true) (a.put oi.dst undef) w) : wpAnyH P md ops Q S (fuel + 1) listed a w :=
 wpAnyH_take hi (qOk_spec hc).1 (qOk_spec hc).2.1 (qOk_spec hc).2.2 hQ (.inr ⟨hg, rfl⟩) hS h
end
theorem qgA {α : Type} {l : List α} {i : Nat} {h : i < l.toArray.size} : l.toArray[i] = l[i]'(by simpa using h) := rfl
theorem qgS {α : Type} {a : α} {l : List α} {i : Nat} {h : i + 1 < (a :: l).length} : (a :: l)[i + 1] = l[i]'(Nat.lt_of_succ_lt_succ h) := rfl
theorem qg0 {α : Type} {a : α} {l : List α} {h : 0 < (a :: l).length} : (a :: l)[0] = a := rfl
theorem qsA {α : Type} {l : List α} {i : Nat} {a : α} : l.toArray.setIfInBounds i a = (l.set i a).toArray := by simp
theorem qs0 {α : Type} {a b : α} {l : List α} : (a :: l).set 0 b = b :: l := rfl
theorem qsS {α : Type} {a b : α} {l : List α} {n : Nat} : (a :: l).set (n + 1) b = a :: l.set n b := rfl
end Go.Proofs.YtikpcipkkhmcfaaGreat

/- General lemmas on worlds: a frame with a list of blocks that may have turned, and rows of cells. No program in sight. -/
namespace Go.Proofs.YtikpcipkkhmcfaaGreat
open Go.RowKit

/-- Of the blocks that were there, only those of fp may have turned. -/
structure Frm (fp : List Nat) (w w' : World) : Prop where
 os : w'.os = w.os
 tape : w'.tape = w.tape
 output : w'.output = w.output
 size : w.heap.size ≤ w'.heap.size
 block : ∀ k, k < w.heap.size → k ∉ fp → w'.heap[k]? = w.heap[k]?

theorem Frm.refl (fp : List Nat) (w : World) : Frm fp w w := ⟨rfl, rfl, rfl, Nat.le_refl _, fun _ _ _ => rfl⟩

theorem Frm.trans {fp fq : List Nat} {a b c : World} (h : Frm fp a b) (k : Frm fq b c) (hq : ∀ x ∈ fq, x ∈ fp ∨ a.heap.size ≤ x) : Frm fp a c :=
 ⟨k.os.trans h.os, k.tape.trans h.tape, k.output.trans h.output, Nat.le_trans h.size k.size, fun i hi hn =>
  (k.block i (Nat.lt_of_lt_of_le hi h.size) (fun hm => by rcases hq i hm with h1 | h1; exact hn h1; omega)).trans (h.block i hi hn)⟩

theorem Frm.mono {fp fq : List Nat} {a b : World} (h : Frm fp a b) (hq : ∀ x ∈ fp, x ∈ fq) : Frm fq a b :=
 ⟨h.os, h.tape, h.output, h.size, fun i hi hn => h.block i hi (fun hm => hn (hq i hm))⟩

theorem Frm.drew {fp : List Nat} {a w : World} (h : Frm fp a w) : Frm fp a w.drew := ⟨h.os, h.tape, h.output, h.size, h.block⟩
theorem Frm.drewN {fp : List Nat} {a w : World} (h : Frm fp a w) (n : Nat) : Frm fp a (w.drewN n) := ⟨h.os, h.tape, h.output, h.size, h.block⟩

theorem Frm.alloc {fp : List Nat} {a w : World} (h : Frm fp a w) (o : Obj) : Frm fp a (w.alloc o) :=
 h.trans (fq := []) ⟨rfl, rfl, rfl, by simp, fun k hk _ => Below.heap_alloc _ _ _ hk⟩ (by simp)

theorem Frm.setCell {fp : List Nat} {a w : World} (h : Frm fp a w) {p : Addr} (hp : p.block ∈ fp ∨ a.heap.size ≤ p.block) (u : Value) : Frm fp a (w.setCell p u) :=
 h.trans (fq := [p.block]) ⟨rfl, rfl, rfl, by simp [World.setCell], fun k _ hn => Below.heap_setCell _ _ _ _ (by simpa using hn)⟩ (by simpa using hp)

theorem Frm.grown {fp : List Nat} {a w w' : World} {row : Option Nat} (h : Frm fp a w) (hg : w.grownBy w' row) (hr : ∀ k, row = some k → k ∈ fp ∨ a.heap.size ≤ k) : Frm fp a w' :=
 h.trans (fq := row.toList) ⟨hg.os, hg.tape, hg.output, hg.size, fun k hk hn => hg.block k hk (fun e => hn (by simp [← e]))⟩ (by
  intro x hx; exact hr x (by simpa using hx))

theorem Frm.below {fp : List Nat} {w w' : World} {B : Nat} (h : Frm fp w w') (hB : B ≤ w.heap.size) (hf : ∀ x ∈ fp, B ≤ x) : Below B w w' :=
 ⟨h.os, h.tape, h.output, h.size, fun k hk => h.block k (by omega) (fun hm => by have := hf k hm; omega)⟩

theorem Frm.cell {fp : List Nat} {w w' : World} (h : Frm fp w w') {p : Addr} {v : Value} (hv : w.cell? p = some v) (hn : p.block ∉ fp) : w'.cell? p = some v :=
 (World.cell?_of_block (w := w) (h.block p.block (World.block_lt_of_cell? w p hv) hn)).trans hv

theorem Frm.frz {fp : List Nat} {w w' : World} (h : Frm fp w w') {p : Addr} {v : Value} (hv : w.cell? p = some v) (hz : w.frozen? p = false) (hn : p.block ∉ fp) : w'.frozen? p = false :=
 (World.frozen?_of_block (w := w) (h.block p.block (World.block_lt_of_cell? w p hv) hn)).trans hz

/-- Block b is a row of e's, not frozen, whose first cells are xs. -/
def RowAt (w : World) (b : Nat) (e : TypeId) (xs : List Value) : Prop :=
 ∃ cur, w.heap[b]? = some (.cells cur e (0, 0)) ∧ cur.toList.take xs.length = xs

theorem RowAt.lt {w : World} {b : Nat} {e : TypeId} {xs : List Value} (h : RowAt w b e xs) : b < w.heap.size := by
 obtain ⟨cur, h1, _⟩ := h
 exact (Array.getElem?_eq_some_iff.1 h1).1

theorem RowAt.cell {w : World} {b : Nat} {e : TypeId} {xs : List Value} (h : RowAt w b e xs) {i : Nat} {v : Value} (hv : xs[i]? = some v) : w.cell? ⟨b, i, none⟩ = some v := by
 obtain ⟨cur, h1, h2⟩ := h
 have : (cur.toList.take xs.length)[i]? = some v := by rw [h2]; exact hv
 rw [List.getElem?_take] at this
 split at this
 ·simp [World.cell?, h1]; simpa using this
 ·cases this

theorem RowAt.frozen {w : World} {b : Nat} {e : TypeId} {xs : List Value} (h : RowAt w b e xs) (i : Nat) : w.frozen? ⟨b, i, none⟩ = false := by
 obtain ⟨cur, h1, h2⟩ := h
 simp [World.frozen?, h1]

theorem RowAt.of_block {w w' : World} {b : Nat} {e : TypeId} {xs : List Value} (h : RowAt w b e xs) (hb : w'.heap[b]? = w.heap[b]?) : RowAt w' b e xs := by
 obtain ⟨cur, h1, h2⟩ := h
 exact ⟨cur, hb.trans h1, h2⟩

theorem RowAt.frm {fp : List Nat} {w w' : World} {b : Nat} {e : TypeId} {xs : List Value} (h : RowAt w b e xs) (hf : Frm fp w w') (hn : b ∉ fp) : RowAt w' b e xs :=
 h.of_block (hf.block b h.lt hn)

theorem RowAt.setCell {w : World} {b : Nat} {e : TypeId} {xs : List Value} (h : RowAt w b e xs) (i : Nat) (v : Value) : RowAt (w.setCell ⟨b, i, none⟩ v) b e (xs.set i v) := by
 obtain ⟨cur, h1, h2⟩ := h
 refine ⟨cur.setIfInBounds i v, by simp [World.setCell, Array.getElem?_modify, h1], ?_⟩
 rw [List.length_set, Array.toList_setIfInBounds, List.take_set, h2]

theorem RowAt.other {w : World} {b : Nat} {e : TypeId} {xs : List Value} (h : RowAt w b e xs) {p : Addr} (v : Value) (hb : b ≠ p.block) : RowAt (w.setCell p v) b e xs :=
 h.of_block (Below.heap_setCell _ _ _ _ hb)

theorem RowAt.alloc {w : World} {b : Nat} {e : TypeId} {xs : List Value} (h : RowAt w b e xs) (o : Obj) : RowAt (w.alloc o) b e xs :=
 h.of_block (Below.heap_alloc _ _ _ h.lt)

theorem RowAt.drew {w : World} {b : Nat} {e : TypeId} {xs : List Value} (h : RowAt w b e xs) : RowAt w.drew b e xs := h
theorem RowAt.drewN {w : World} {b : Nat} {e : TypeId} {xs : List Value} (h : RowAt w b e xs) (n : Nat) : RowAt (w.drewN n) b e xs :=
 h

theorem RowAt.made (w : World) (e : TypeId) (xs : List Value) (A : Array Value) (hA : A.toList.take xs.length = xs) : RowAt (w.alloc (.cells A e)) w.heap.size e xs :=
 ⟨A, heap_alloc_new w _, hA⟩

/-- An owned row goes on where its own block is as it was. -/
theorem owns_of_block {w w' : World} {e : TypeId} {size : Nat} {v : Value} {n : Nat} {xs : List Value} (h : w.ownsRow 0 e size v n xs) (hb : ∀ k, v.ownBlock = some k → w'.heap[k]? = w.heap[k]?) : w'.ownsRow 0 e size v n xs := by
 refine ⟨h.1, ?_⟩
 rcases h.2 with hn | ⟨g, cap, cur, rfl, h0, hgg, rest⟩
 ·exact .inl hn
 ·exact .inr ⟨g, cap, cur, rfl, h0, (hb g (by simp [Value.ownBlock])).trans hgg, rest⟩

theorem owns_frm {fp : List Nat} {w w' : World} {e : TypeId} {size : Nat} {v : Value} {n : Nat} {xs : List Value} (h : w.ownsRow 0 e size v n xs) (hf : Frm fp w w') (hn : ∀ k, v.ownBlock = some k → k ∉ fp) : w'.ownsRow 0 e size v n xs :=
 owns_of_block h (fun k hk => hf.block k (h.lt k hk).2 (hn k hk))

theorem ownsB_other {w : World} {B : Nat} {e : TypeId} {size : Nat} {v : Value} {n : Nat} {xs : List Value} (h : w.ownsRow B e size v n xs) {p : Addr} (hp : p.block < B) (u : Value) : (w.setCell p u).ownsRow B e size v n xs := by
 refine ⟨h.1, ?_⟩
 rcases h.2 with hn | ⟨g, cap, cur, rfl, h0, hgg, rest⟩
 ·exact .inl hn
 ·exact .inr ⟨g, cap, cur, rfl, h0, (Below.heap_setCell _ _ _ _ (by omega)).trans hgg, rest⟩

theorem ownsB_mono {w : World} {B C : Nat} {e : TypeId} {size : Nat} {v : Value} {n : Nat} {xs : List Value} (h : w.ownsRow B e size v n xs) (hc : C ≤ B) : w.ownsRow C e size v n xs := by
 refine ⟨h.1, ?_⟩
 rcases h.2 with hn | ⟨g, cap, cur, rfl, h0, rest⟩
 ·exact .inl hn
 ·exact .inr ⟨g, cap, cur, rfl, by omega, rest⟩

theorem ownsB_frm {fp : List Nat} {w w' : World} {B : Nat} {e : TypeId} {size : Nat} {v : Value} {n : Nat} {xs : List Value} (h : w.ownsRow B e size v n xs) (hf : Frm fp w w') (hn : ∀ k, v.ownBlock = some k → k ∉ fp) : w'.ownsRow B e size v n xs := by
 refine ⟨h.1, ?_⟩
 rcases h.2 with hn | ⟨g, cap, cur, rfl, h0, hgg, rest⟩
 ·exact .inl hn
 ·exact .inr ⟨g, cap, cur, rfl, h0, (hf.block g (Array.getElem?_eq_some_iff.1 hgg).1 (hn g rfl)).trans hgg, rest⟩

theorem owns_some {w : World} {e : TypeId} {size : Nat} {v : Value} {n : Nat} {xs : List Value} (h : w.ownsRow 0 e size v n xs) (hn : 0 < n) : ∃ g cap, v = .slice (some ⟨g, 0, none⟩) n cap ∧ n ≤ cap ∧ cap ≤ maxLen ∧ RowAt w g e xs := by
 rcases h.2 with ⟨_, h0⟩ | ⟨g, cap, cur, rfl, h0, hgg, h1, h2, h3, h4⟩
 ·omega
 ·exact ⟨g, cap, rfl, h1, h2, cur, hgg, by rw [h.1]; exact h4⟩

/-- A slice value of n elements, whatever it is. -/
theorem owns_shape {w : World} {e : TypeId} {size : Nat} {v : Value} {n : Nat} {xs : List Value} (h : w.ownsRow 0 e size v n xs) : ∃ a cap, v = .slice a n cap ∧ (n : Int) ≤ 9223372036854775807 := by
 rcases h.2 with ⟨h0, rfl⟩ | ⟨g, cap, cur, rfl, h0, hgg, h1, h2, h3, h4⟩
 ·exact ⟨none, 0, h0, by decide⟩
 ·exact ⟨_, cap, rfl, by simp [maxLen] at h2; omega⟩

/-- The same row under another value of the same block: what a store into an owned row leaves. -/
theorem owns_setCell {w : World} {e : TypeId} {size : Nat} {v : Value} {n : Nat} {xs : List Value} {g : Nat} (h : w.ownsRow 0 e size v n xs) (hg : v.ownBlock = some g) (i : Nat) (u : Value) :
  (w.setCell ⟨g, i, none⟩ u).ownsRow 0 e size v n (xs.set i u) := by
 refine ⟨by rw [List.length_set]; exact h.1, ?_⟩
 rcases h.2 with ⟨rfl, _⟩ | ⟨g', cap, cur, rfl, h0, hgg, h1, h2, h3, h4⟩
 ·simp [Value.ownBlock] at hg
 ·simp [Value.ownBlock] at hg
  subst hg
  refine .inr ⟨g', cap, cur.setIfInBounds i u, rfl, h0, by simp [World.setCell, Array.getElem?_modify, hgg], h1, h2, by simpa using h3, ?_⟩
  rw [Array.toList_setIfInBounds, List.take_set, h4]

theorem cells_new (w : World) (xs : List Value) (t : TypeId) : ∀ (j : Nat) (u : Value), xs[j]? = some u → (w.alloc (.cells xs.toArray t)).cell? ((⟨w.heap.size, 0, none⟩ : Addr).add j) = some u := by
 intro j u hu
 have hr := RowAt.made w t xs xs.toArray (by simp)
 rw [Addr.add_lit, Nat.zero_add]
 exact hr.cell hu

end Go.Proofs.YtikpcipkkhmcfaaGreat

/- Merged text: G1, G2 of the notes. -/
/- How a transition system lies in memory; plain functions on rows of arcs. -/
namespace Go.Proofs.YtikpcipkkhmcfaaGreat
open Go.RowKit

theorem infoInt : (Tryz.prog.info? 3).map (fun i => (i.zero, i.size, i.bytes)) = some (some (.int .i64 0), 1, 8) := by kernel_rfl
theorem infoArc : (Tryz.prog.info? 66).map (fun i => (i.zero, i.size, i.bytes)) = some (some (.agg #[.int .i64 0, .int .i64 0]), 2, 16) := by kernel_rfl

def ints (xs : List Int) : List Value := xs.map (Value.int .i64)

/-- A slice of n elements (of 'size' cells each) that can be read; its block lies below B. -/
structure Rd (B : Nat) (w : World) (a : Option Addr) (n cap size : Nat) (xs : List Value) : Prop where
 len : xs.length = n * size
 le : n ≤ cap
 max : cap ≤ maxLen
 cell : ∀ (i : Nat) (u : Value), xs[i]? = some u → ∃ b o, a = some ⟨b, o, none⟩ ∧ b < B ∧ w.cell? ⟨b, o + i, none⟩ = some u

theorem Rd.frm {B : Nat} {fp : List Nat} {w w' : World} {a : Option Addr} {n cap size : Nat} {xs : List Value} (h : Rd B w a n cap size xs) (hf : Frm fp w w') (hn : ∀ k ∈ fp, B ≤ k) : Rd B w' a n cap size xs :=
 ⟨h.len, h.le, h.max, fun i u hu => by
  obtain ⟨b, o, ha, hb, hc⟩ := h.cell i u hu
  exact ⟨b, o, ha, hb, hf.cell hc (fun hm => by have := hn _ hm; simp at this; omega)⟩⟩

theorem Rd.mono {B C : Nat} {w : World} {a : Option Addr} {n cap size : Nat} {xs : List Value} (h : Rd B w a n cap size xs) (hc : B ≤ C) : Rd C w a n cap size xs :=
 ⟨h.len, h.le, h.max, fun i u hu => by
  obtain ⟨b, o, ha, hb, hcc⟩ := h.cell i u hu
  exact ⟨b, o, ha, by omega, hcc⟩⟩

theorem Rd.lt {B : Nat} {w : World} {a : Option Addr} {n cap size : Nat} {xs : List Value} (h : Rd B w a n cap size xs) : (n : Int) ≤ 9223372036854775807 := by
 have h1 := h.le
 have h2 := h.max
 unfold maxLen at h2
 omega

/-- What a slice of integers gives at an index. -/
theorem Rd.at {B : Nat} {w : World} {a : Option Addr} {cap : Nat} {xs : List Int} {n : Nat} (h : Rd B w a n cap 1 (ints xs)) {i : Nat} {x : Int} (hx : xs[i]? = some x) : ∃ b o, a = some ⟨b, o, none⟩ ∧ b < B ∧ w.cell? ⟨b, o + i, none⟩ = some (.int .i64 x) :=
 h.cell i _ (by simp [ints, hx])

theorem rd_of_owns {B C : Nat} {w : World} {e size n cap : Nat} {a : Option Addr} {xs : List Value} (h : w.ownsRow B e size (.slice a n cap) n xs) (hc : w.heap.size ≤ C) : Rd C w a n cap size xs := by
 rcases h.2 with ⟨h0, rfl⟩ | ⟨g, cp, cur, h0, hb, hg, h1, h2, h3, h4⟩
 ·cases h0
  exact ⟨h.1, Nat.le_refl _, Nat.zero_le _, fun i u hu => by
   have : xs = [] := List.eq_nil_of_length_eq_zero (by simpa using h.1)
   subst this; simp at hu⟩
 ·obtain ⟨rfl, rfl⟩ : a = some ⟨g, 0, none⟩ ∧ cap = cp := by simpa using h0
  refine ⟨h.1, h1, h2, fun i u hu => ⟨g, 0, rfl, by have := (Array.getElem?_eq_some_iff.1 hg).1; omega, ?_⟩⟩
  rw [Nat.zero_add]
  exact RowAt.cell (xs := xs) ⟨cur, hg, by rw [h.1]; exact h4⟩ hu

abbrev Arc := Int × Int
abbrev Lts := List (List Arc)

def RowR (B : Nat) (w : World) (a : Option Addr) (cap : Nat) (row : List Arc) : Prop :=
 row.length ≤ cap ∧ cap ≤ maxLen ∧ row.length ≤ 140737488355328 ∧ ∀ (j : Nat) (e t : Int), row[j]? = some (e, t) → ∃ b o, a = some ⟨b, o, none⟩ ∧ b < B ∧ w.cell? ⟨b, o + j * 2, none⟩ = some (.int .i64 e) ∧ w.cell? ⟨b, o + j * 2 + 1, none⟩ = some (.int .i64 t)

structure LAt (B : Nat) (w : World) (a : Option Addr) (cap : Nat) (l : Lts) : Prop where
 le : l.length ≤ cap
 max : cap ≤ maxLen
 few : l.length ≤ 140737488355328
 cell : ∀ (i : Nat) (row : List Arc), l[i]? = some row → ∃ b o ra rc, a = some ⟨b, o, none⟩ ∧ b < B ∧ w.cell? ⟨b, o + i, none⟩ = some (.slice ra row.length rc) ∧ RowR B w ra rc row

theorem RowR.frm {B : Nat} {fp : List Nat} {w w' : World} {a : Option Addr} {cap : Nat} {row : List Arc} (h : RowR B w a cap row) (hf : Frm fp w w') (hn : ∀ k ∈ fp, B ≤ k) : RowR B w' a cap row :=
 ⟨h.1, h.2.1, h.2.2.1, fun j e t hj => by
  obtain ⟨b, o, ha, hb, h1, h2⟩ := h.2.2.2 j e t hj
  exact ⟨b, o, ha, hb, hf.cell h1 (fun hm => by have := hn _ hm; simp at this; omega), hf.cell h2 (fun hm => by have := hn _ hm; simp at this; omega)⟩⟩

theorem LAt.frm {B : Nat} {fp : List Nat} {w w' : World} {a : Option Addr} {cap : Nat} {l : Lts} (h : LAt B w a cap l) (hf : Frm fp w w') (hn : ∀ k ∈ fp, B ≤ k) : LAt B w' a cap l :=
 ⟨h.le, h.max, h.few, fun i row hi => by
  obtain ⟨b, o, ra, rc, ha, hb, h1, h2⟩ := h.cell i row hi
  exact ⟨b, o, ra, rc, ha, hb, hf.cell h1 (fun hm => by have := hn _ hm; simp at this; omega), h2.frm hf hn⟩⟩

theorem LAt.nil {B : Nat} {fp : List Nat} {w w' : World} {a : Option Addr} {cap : Nat} {l : Lts} (h : LAt B w a cap l) (hf : Frm fp w w') (hn : fp = []) : LAt B w' a cap l := h.frm hf (by simp [hn])

theorem LAt.lt {B : Nat} {w : World} {a : Option Addr} {cap : Nat} {l : Lts} (h : LAt B w a cap l) : (l.length : Int) ≤ 140737488355328 := by
 have h1 := h.few
 omega

theorem RowR.lt {B : Nat} {w : World} {a : Option Addr} {cap : Nat} {row : List Arc} (h : RowR B w a cap row) : (row.length : Int) ≤ 140737488355328 := by
 have h1 := h.2.2.1
 omega

theorem RowR.mono {B C : Nat} {w : World} {a : Option Addr} {cap : Nat} {row : List Arc} (h : RowR B w a cap row) (hc : B ≤ C) : RowR C w a cap row :=
 ⟨h.1, h.2.1, h.2.2.1, fun j e t hj => by
  obtain ⟨b, o, ha, hb, hcc⟩ := h.2.2.2 j e t hj
  exact ⟨b, o, ha, by omega, hcc⟩⟩

theorem LAt.mono {B C : Nat} {w : World} {a : Option Addr} {cap : Nat} {l : Lts} (h : LAt B w a cap l) (hc : B ≤ C) : LAt C w a cap l :=
 ⟨h.le, h.max, h.few, fun i row hi => by
  obtain ⟨b, o, ra, rc, ha, hb, h1, h2⟩ := h.cell i row hi
  exact ⟨b, o, ra, rc, ha, by omega, h1, h2.mono hc⟩⟩

/-! ### plain functions -/
def arcOk (n : Nat) (a : Arc) : Bool := !(decide (a.1 < 0) || decide (1025 < a.1) || decide (a.2 < 0) || decide ((n : Int) ≤ a.2))
def looseGo (n : Nat) : Nat → Lts → Bool
 | _, [] => true
 | c, row :: r => decide (c + row.length ≤ 262144) && (row.all (arcOk n) && looseGo n (c + row.length) r)
def looseB (l : Lts) : Bool := decide (1 ≤ l.length) && decide (l.length ≤ 16384) && looseGo l.length 0 l
def ltA (a b : Arc) : Bool := decide (a.1 < b.1) || (decide (a.1 = b.1) && decide (a.2 < b.2))
def ascB : List Arc → Bool
 | a :: b :: r => ltA a b && ascB (b :: r)
 | _ => true
def validB (l : Lts) : Bool := looseB l && l.all ascB
def cmpI (x y : Int) : Int := if x < y then -1 else if y < x then 1 else 0
def or2 (x y : Int) : Int := if x = 0 then y else x
def cmpA (a b : Arc) : Int := or2 (cmpI a.1 b.1) (cmpI a.2 b.2)

theorem cmpA_lt (a b : Arc) : cmpA a b < 0 ↔ ltA a b = true := by
 obtain ⟨e, t⟩ := a
 obtain ⟨f, u⟩ := b
 simp only [cmpA, or2, cmpI, ltA, Bool.or_eq_true, decide_eq_true_eq, Bool.and_eq_true]
 repeat' split
 all_goals omega

theorem drop_cons {α : Type} {l : List α} {i : Nat} {x : α} (h : l[i]? = some x) : l.drop i = x :: l.drop (i + 1) := by
 obtain ⟨hi, rfl⟩ := List.getElem?_eq_some_iff.1 h
 exact List.drop_eq_getElem_cons hi

end Go.Proofs.YtikpcipkkhmcfaaGreat

/- Contracts of cmp.Compare, cmp.Or, rows.compare, and of Less of the reference. -/
namespace Go.Proofs.YtikpcipkkhmcfaaGreat
open Go.RowKit

theorem nan_any (x : Int) (w : World) : Calls Tryz.prog 106 #[.int .i64 x] w fun e w' => e = .returned (.bool false) ∧ w = w' := by
 have hx : (x != x) = false := by simp
 go_enter Tryz.func106, Tryz.ntmps106
 go_wp2
 go_ret
 exact ⟨rfl, rfl⟩

theorem cmpI_any (x y : Int) (w : World) : Calls Tryz.prog 78 #[.int .i64 x, .int .i64 y] w fun e w' => e = .returned (.int .i64 (cmpI x y)) ∧ w = w' := by
 rcases (show x < y ∨ y < x ∨ x = y by omega) with h | h | h
 ·have H : Hid (cmpI x y = -1) := if_pos h
  go_enter Tryz.func78, Tryz.ntmps78
  go_wp2_with (go_at_call 106; refine (nan_any _ _).mono ?_; rintro e w1 ⟨rfl, rfl⟩)
  go_ret
  exact ⟨by rw [H.out]; rfl, rfl⟩
 ·have h' : ¬ x < y := by omega
  have H : Hid (cmpI x y = 1) := (if_neg h').trans (if_pos h)
  go_enter Tryz.func78, Tryz.ntmps78
  go_wp2_with (go_at_call 106; refine (nan_any _ _).mono ?_; rintro e w1 ⟨rfl, rfl⟩)
  go_ret
  exact ⟨by rw [H.out]; rfl, rfl⟩
 ·subst h
  have h' : ¬ x < x := by omega
  have H : Hid (cmpI x x = 0) := (if_neg h').trans (if_neg h')
  go_enter Tryz.func78, Tryz.ntmps78
  go_wp2_with (go_at_call 106; refine (nan_any _ _).mono ?_; rintro e w1 ⟨rfl, rfl⟩)
  go_ret
  exact ⟨by rw [H.out]; rfl, rfl⟩

/-- cmp.Or of two numbers that lie in a row of two cells. -/
theorem or2_any (x y : Int) (g : Nat) (w : World) (h0 : w.cell? ⟨g, 0, none⟩ = some (.int .i64 x)) (h1 : w.cell? ⟨g, 1, none⟩ = some (.int .i64 y)) :
  Calls Tryz.prog 77 #[.slice (some ⟨g, 0, none⟩) 2 2] w fun e w' => e = .returned (.int .i64 (or2 x y)) ∧ w = w' := by
 by_cases hx : x = 0
 ·subst hx
  by_cases hy : y = 0
  ·subst hy
   go_enter Tryz.func77, Tryz.ntmps77
   go_wp2
   refine wp_loop_rounds 3 ?_
   rw [rounds_succ]
   go_wp2
   rw [rounds_succ]
   go_wp2
   rw [rounds_succ]
   go_wp2
   go_ret
   exact ⟨by rw [or2, if_pos rfl]; rfl, rfl⟩
  ·have hb : (y != 0) = true := by simpa using hy
   go_enter Tryz.func77, Tryz.ntmps77
   go_wp2
   refine wp_loop_rounds 2 ?_
   rw [rounds_succ]
   go_wp2
   rw [rounds_succ]
   go_wp2
   go_ret
   exact ⟨by rw [or2, if_pos rfl]; rfl, rfl⟩
 ·have hb : (x != 0) = true := by simpa using hx
  go_enter Tryz.func77, Tryz.ntmps77
  go_wp2
  refine wp_loop_rounds 1 ?_
  rw [rounds_succ]
  go_wp2
  go_ret
  exact ⟨by rw [or2, if_neg hx]; rfl, rfl⟩

set_option maxHeartbeats 1000000 in
theorem compare_any (a b : Arc) (w : World) :
  Calls Tryz.prog 86 #[.agg #[.int .i64 a.1, .int .i64 a.2], .agg #[.int .i64 b.1, .int .i64 b.2]] w fun e w' => e = .returned (.int .i64 (cmpA a b)) ∧ Frm [] w w' := by
 obtain ⟨e, t⟩ := a
 obtain ⟨f, u⟩ := b
 have f0 : Frm [] w (((w.alloc (.cells #[.int .i64 e, .int .i64 t] 66)).alloc (.cells #[.int .i64 f, .int .i64 u] 66)).drew) := (((Frm.refl [] w).alloc _).alloc _).drew
 have r0 := ((RowAt.made w 66 [.int .i64 e, .int .i64 t] #[.int .i64 e, .int .i64 t] rfl).alloc (.cells #[.int .i64 f, .int .i64 u] 66)).drew
 have r1 := (RowAt.made (w.alloc (.cells #[.int .i64 e, .int .i64 t] 66)) 66 [.int .i64 f, .int .i64 u] #[.int .i64 f, .int .i64 u] rfl).drew
 rw [show (w.alloc (.cells #[.int .i64 e, .int .i64 t] 66)).heap.size = w.heap.size + 1 from by simp] at r1
 have c0 := r0.cell (i := 0) rfl
 have c1 := r0.cell (i := 1) rfl
 have c2 := r1.cell (i := 0) rfl
 have c3 := r1.cell (i := 1) rfl
 clear r0 r1
 go_enter Tryz.func86, Tryz.ntmps86
 go_wp2_with fail
 have d0 := Lib.hid c0
 have d1 := Lib.hid c1
 have d2 := Lib.hid c2
 have d3 := Lib.hid c3
 generalize (((w.alloc (.cells #[.int .i64 e, .int .i64 t] 66)).alloc (.cells #[.int .i64 f, .int .i64 u] 66))) = W at *
 clear c0 c1 c2 c3
 go_region_held3 (fun w' => w'.cell? ⟨w.heap.size, 0, none⟩ = some (.int .i64 e) ∧ w'.cell? ⟨w.heap.size, 1, none⟩ = some (.int .i64 t) ∧ w'.cell? ⟨w.heap.size + 1, 0, none⟩ = some (.int .i64 f) ∧ w'.cell? ⟨w.heap.size + 1, 1, none⟩ = some (.int .i64 u)) (first | exact ⟨d0.out, d1.out, d2.out, d3.out⟩ | (exact ⟨(Frm.alloc (Frm.refl [] W.drew) _).cell d0.out (by simp), (Frm.alloc (Frm.refl [] W.drew) _).cell d1.out (by simp), (Frm.alloc (Frm.refl [] W.drew) _).cell d2.out (by simp), (Frm.alloc (Frm.refl [] W.drew) _).cell d3.out (by simp)⟩)) (first | (go_at_call 78; refine (cmpI_any _ _ _).mono ?_; rintro e w1 ⟨rfl, rfl⟩) | (go_at_call 77; refine (or2_any (cmpI e f) (cmpI t u) _ _ (by simp) (by simp)).mono ?_; rintro e w1 ⟨rfl, rfl⟩))
 go_wp2
 go_ret
 exact ⟨rfl, f0.alloc _⟩

end Go.Proofs.YtikpcipkkhmcfaaGreat

/- Contracts of rows.loose and rows.Valid. -/
namespace Go.Proofs.YtikpcipkkhmcfaaGreat
open Go.RowKit

theorem arcOk_true {n : Nat} {e t : Int} (h : arcOk n (e, t) = true) : 0 ≤ e ∧ e ≤ 1025 ∧ 0 ≤ t ∧ t < n := by
 simp only [arcOk, Bool.not_eq_true', Bool.or_eq_false_iff, decide_eq_false_iff_not] at h
 omega
theorem arcOk_false {n : Nat} {e t : Int} (h : arcOk n (e, t) = false) : e < 0 ∨ (0 ≤ e ∧ 1025 < e) ∨ (0 ≤ e ∧ e ≤ 1025 ∧ t < 0) ∨ (0 ≤ e ∧ e ≤ 1025 ∧ 0 ≤ t ∧ (n : Int) ≤ t) := by
 simp only [arcOk, Bool.not_eq_false', Bool.or_eq_true, decide_eq_true_eq] at h
 omega

/-- A cell of a box that the call has made, further on. -/
theorem box1 (w : World) (v : Value) (t : TypeId) : RowAt (w.alloc (.cells #[v] t)) w.heap.size t [v] := RowAt.made w t [v] #[v] rfl

set_option maxRecDepth 100000 in
set_option maxHeartbeats 2000000 in
theorem loose_any (B : Nat) (a : Option Addr) (cap : Nat) (l : Lts) (w : World) (h : LAt B w a cap l) :
  Calls Tryz.prog 85 #[.agg #[.slice a l.length cap]] w fun e w' => e = .returned (.bool (looseB l)) ∧ Frm [] w w' := by
 have f0 : Frm [] w (w.alloc (.cells #[.slice a l.length cap] 25)) := (Frm.refl [] w).alloc _
 have hbox := box1 w (.slice a l.length cap) 25
 have hl := h.lt
 have h' := h.nil f0 rfl
 by_cases h1 : (l.length : Int) < 1
 ·have HR : Hid (looseB l = false) := by
   show looseB l = false
   rw [looseB, decide_eq_false (by omega)]; rfl
  go_enter Tryz.func85, Tryz.ntmps85
  go_wp2
  go_ret
  exact ⟨by rw [HR.out]; rfl, f0⟩
 ·have h1' : 1 ≤ (l.length : Int) := by omega
  by_cases h2 : 16384 < (l.length : Int)
  ·have HR : Hid (looseB l = false) := by
    show looseB l = false
    rw [looseB, decide_eq_false (show ¬ l.length ≤ 16384 by omega)]; simp
   go_enter Tryz.func85, Tryz.ntmps85
   go_wp2
   go_ret
   exact ⟨by rw [HR.out]; rfl, f0⟩
  ·have h2' : (l.length : Int) ≤ 16384 := by omega
   have HR : Hid (looseB l = looseGo l.length 0 l) := by
    show looseB l = looseGo l.length 0 l
    rw [looseB, decide_eq_true (show 1 ≤ l.length by omega), decide_eq_true (show l.length ≤ 16384 by omega)]; simp
   clear h1 h2
   obtain ⟨R, hR⟩ : ∃ R, looseGo l.length 0 l = R := ⟨_, rfl⟩
   have HRR : Hid (looseB l = R) := by show looseB l = R; rw [HR.out, hR]
   clear HR
   have HB := Lib.hid hbox
   go_enter Tryz.func85, Tryz.ntmps85
   go_wp2_with fail
   clear hbox
   go_loopg [21, 4] l.length (fun g i c wr => ∃ (k used : Nat), g = l.length - k ∧ k ≤ l.length ∧ i = .int .i64 k ∧ used ≤ 262144 ∧ c = .int .i64 (262144 - (used : Int)) ∧
    Frm [] (w.alloc (.cells #[.slice a l.length cap] 25)) wr ∧ looseGo l.length used (l.drop k) = R)
   case atStart => exact ⟨0, 0, rfl, Nat.zero_le _, rfl, by omega, rfl, Frm.refl _ _, hR⟩
   case round =>
    clear hR
    obtain ⟨k, used, rfl, hk, rfl, hus, rfl, hF, hgo⟩ := hrel
    have HF := Lib.hid hF
    have hbc := (HB.out.frm hF (by simp)).cell (i := 0) rfl
    clear hF
    by_cases hlt : k < l.length
    ·obtain ⟨row, hrow⟩ : ∃ row, l[k]? = some row := ⟨_, List.getElem?_eq_getElem hlt⟩
     obtain ⟨b, o, ra, rc, rfl, hb, hc0, hrr⟩ := h'.cell k row hrow
     have hc := HF.out.cell hc0 (by simp)
     clear hc0
     rw [drop_cons hrow, looseGo] at hgo
     have hrl := hrr.lt
     by_cases hfit : used + row.length ≤ 262144
     ·rw [decide_eq_true hfit, Bool.true_and] at hgo
      have HGO := Lib.hid hgo
      have HRR2 := Lib.hid hrr
      have HROW := Lib.hid hrow
      clear hgo hrow hrr h' h
      go_wp2_with fail
      go_loopg [35] row.length (fun g i wr => ∃ (j : Nat), g = row.length - j ∧ j ≤ row.length ∧ i = .int .i64 j ∧
       Frm [] (w.alloc (.cells #[.slice (some ⟨b, o, none⟩) l.length cap] 25)) wr ∧ ((row.drop j).all (arcOk l.length) && looseGo l.length (used + row.length) (l.drop (k + 1))) = R)
      case atStart => exact ⟨0, rfl, Nat.zero_le _, rfl, HF.out, HGO.out⟩
      case round =>
       clear hc hbc
       obtain ⟨j, rfl, hj, rfl, hF2, hgo2⟩ := hrel
       have HF2 := Lib.hid hF2
       by_cases hjl : j < row.length
       ·obtain ⟨⟨e, t⟩, harc⟩ : ∃ x, row[j]? = some x := ⟨_, List.getElem?_eq_getElem hjl⟩
        obtain ⟨b1, o1, rfl, hb1, d1, d2⟩ := (HRR2.out.frm hF2 (by simp)).2.2.2 j e t harc
        rw [drop_cons harc, List.all_cons] at hgo2
        clear hF2
        cases hok : arcOk l.length (e, t) with
        | true =>
         obtain ⟨k1, k2, k3, k4⟩ := arcOk_true hok
         rw [hok, Bool.true_and] at hgo2
         have HGO2 := Lib.hid hgo2
         clear hgo2 hok harc
         go_wp2_with fail
         go_roundg (row.length - (j + 1))
         case rel => exact ⟨j + 1, rfl, by omega, by go_num, HF2.out.alloc _, HGO2.out⟩
         case measure => omega
        | false =>
         rw [hok, Bool.false_and, Bool.false_and] at hgo2
         have HGO2 := Lib.hid hgo2
         have hor := arcOk_false hok
         clear hgo2 hok harc
         rcases hor with k1 | ⟨k1, k2⟩ | ⟨k1, k2, k3⟩ | ⟨k1, k2, k3, k4⟩
         all_goals
          go_wp2_with fail
          go_ret
          exact ⟨by rw [HRR.out, ← HGO2.out]; rfl, (f0.trans HF2.out (by simp)).alloc _⟩
       ·have : j = row.length := by omega
        subst this
        have HGO2 : Hid (looseGo l.length (used + row.length) (l.drop (k + 1)) = R) := by
         show looseGo l.length (used + row.length) (l.drop (k + 1)) = R
         rw [← hgo2, List.drop_length]; simp
        clear hgo2 hF2
        go_wp2_with fail
        go_roundg (l.length - (k + 1))
        case rel => exact ⟨k + 1, used + row.length, rfl, by omega, by go_num, hfit, by go_num, HF2.out, HGO2.out⟩
        case measure => omega
     ·have HRF : Hid (R = false) := by
       show R = false
       rw [← hgo, decide_eq_false hfit, Bool.false_and]
      have hf1 : 262144 - (used : Int) < (row.length : Int) := by omega
      clear hgo hrow hrr h' h
      go_wp2_with fail
      go_ret
      exact ⟨by rw [HRR.out, HRF.out]; rfl, f0.trans HF.out (by simp)⟩
    ·have : k = l.length := by omega
     subst this
     have HT : Hid (R = true) := by
      show R = true
      rw [← hgo, List.drop_length]; rfl
     clear hgo h' h
     go_wp2_with fail
     go_ret
     exact ⟨by rw [HRR.out, HT.out]; rfl, f0.trans HF.out (by simp)⟩

theorem ascB_two {row : List Arc} {j : Nat} {x y : Arc} (hx : row[j]? = some x) (hy : row[j + 1]? = some y) : ascB (row.drop j) = (ltA x y && ascB (row.drop (j + 1))) := by
 rw [drop_cons hx, drop_cons hy, ascB]

theorem ascB_short {row : List Arc} {j : Nat} (h : row.length ≤ j + 1) : ascB (row.drop j) = true := by
 have : (row.drop j).length ≤ 1 := by simp; omega
 match hd : row.drop j, this with
 | [], _ => rfl
 | [_], _ => rfl
 | _ :: _ :: _, h => simp at h

set_option maxRecDepth 100000 in
set_option maxHeartbeats 2000000 in
theorem valid_any (B : Nat) (a : Option Addr) (cap : Nat) (l : Lts) (w : World) (h : LAt B w a cap l) :
  Calls Tryz.prog 54 #[.agg #[.slice a l.length cap]] w fun e w' => e = .returned (.bool (validB l)) ∧ Frm [] w w' := by
 have f0 : Frm [] w (w.alloc (.cells #[.slice a l.length cap] 25)) := (Frm.refl [] w).alloc _
 have hbox := box1 w (.slice a l.length cap) 25
 have hl := h.lt
 have h' := h.nil f0 rfl
 have hlo := loose_any B a cap l _ h'
 have HB := Lib.hid hbox
 go_enter Tryz.func54, Tryz.ntmps54
 go_wp2_with fail
 refine hlo.mono ?_
 rintro e w1 ⟨rfl, hf1⟩
 clear hlo hbox
 have F1 := f0.trans hf1 (by simp)
 cases hL : looseB l with
 | false =>
  have HL : Hid (validB l = false) := by show validB l = false; rw [validB, hL, Bool.false_and]
  clear hL h h' f0
  go_wp2_with fail
  go_ret
  exact ⟨by rw [HL.out]; rfl, F1⟩
 | true =>
  obtain ⟨R, hR⟩ : ∃ R, l.all ascB = R := ⟨_, rfl⟩
  have HRR : Hid (validB l = R) := by show validB l = R; rw [validB, hL, Bool.true_and, hR]
  have h1 := h'.nil hf1 rfl
  have hbc := (HB.out.frm hf1 (by simp)).cell (i := 0) rfl
  clear hL h h' f0
  go_wp2_with fail
  clear hbc
  go_loopg [12] l.length (fun g i wr => ∃ (k : Nat), g = l.length - k ∧ k ≤ l.length ∧ i = .int .i64 k ∧ Frm [] w1 wr ∧ (l.drop k).all ascB = R)
  case atStart => exact ⟨0, rfl, Nat.zero_le _, rfl, Frm.refl _ _, hR⟩
  case round =>
   clear hR
   obtain ⟨k, rfl, hk, rfl, hF, hgo⟩ := hrel
   have HF := Lib.hid hF
   clear hF
   by_cases hlt : k < l.length
   ·obtain ⟨row, hrow⟩ : ∃ row, l[k]? = some row := ⟨_, List.getElem?_eq_getElem hlt⟩
    obtain ⟨b, o, ra, rc, rfl, hb, hc0, hrr⟩ := h1.cell k row hrow
    have hc := HF.out.cell hc0 (by simp)
    rw [drop_cons hrow, List.all_cons] at hgo
    have hrl := hrr.lt
    have HGO := Lib.hid hgo
    have HRR2 := Lib.hid hrr
    clear hgo hrow hrr h1 hc0
    go_wp2_with fail
    go_loopg [5] row.length (fun g i wr => ∃ (j : Nat), g = row.length - j ∧ j ≤ row.length ∧ i = .int .i64 ((j : Int) + 1) ∧
     Frm [] w1 wr ∧ (ascB (row.drop j) && (l.drop (k + 1)).all ascB) = R)
    case atStart => exact ⟨0, rfl, Nat.zero_le _, rfl, HF.out, HGO.out⟩
    case round =>
     clear hc
     obtain ⟨j, rfl, hj, rfl, hF2, hgo2⟩ := hrel
     have HF2 := Lib.hid hF2
     by_cases hjl : j + 1 < row.length
     ·obtain ⟨⟨e, t⟩, harc⟩ : ∃ x, row[j]? = some x := ⟨_, List.getElem?_eq_getElem (by omega)⟩
      obtain ⟨⟨f, u⟩, harc2⟩ : ∃ x, row[j + 1]? = some x := ⟨_, List.getElem?_eq_getElem hjl⟩
      have hrw := HRR2.out.frm hF2 (by simp)
      obtain ⟨b1, o1, rfl, hb1, d1, d2⟩ := hrw.2.2.2 j e t harc
      obtain ⟨b2, o2, hbo, hb2, d3, d4⟩ := hrw.2.2.2 (j + 1) f u harc2
      obtain ⟨rfl, rfl⟩ : b1 = b2 ∧ o1 = o2 := by simpa using hbo
      rw [ascB_two harc harc2] at hgo2
      have D1 := Lib.hid d1
      have D2 := Lib.hid d2
      have D3 := Lib.hid d3
      have D4 := Lib.hid d4
      have hcm := compare_any (e, t) (f, u)
      clear hF2 harc harc2 hrw hbo d1 d2 d3 d4
      have hw1 : IntKind.i64.wrap (j : Int) = (j : Int) := IntWalk.i64_in _ (by omega)
      have hi1 : (j : Int) + 1 < (row.length : Int) := by omega
      have hi2 : (j : Int) < (row.length : Int) := by omega
      have hi3 : (0 : Int) ≤ (j : Int) := by omega
      have hi4 : (0 : Int) ≤ (j : Int) + 1 := by omega
      have hn : ((j : Int) + 1).toNat = j + 1 := by omega
      cases hlt2 : ltA (e, t) (f, u) with
      | true =>
       have hneg : cmpA (e, t) (f, u) < 0 := (cmpA_lt _ _).2 hlt2
       rw [hlt2, Bool.true_and] at hgo2
       have HGO2 := Lib.hid hgo2
       clear hgo2 hlt2
       go_wp2_with fail
       go_region_held3 (fun w' => w'.cell? ⟨b1, o1 + j * 2, none⟩ = some (.int .i64 e) ∧ w'.cell? ⟨b1, o1 + j * 2 + 1, none⟩ = some (.int .i64 t) ∧ w'.cell? ⟨b1, o1 + (j + 1) * 2, none⟩ = some (.int .i64 f) ∧ w'.cell? ⟨b1, o1 + (j + 1) * 2 + 1, none⟩ = some (.int .i64 u)) (first | exact ⟨D1.out, D2.out, D3.out, D4.out⟩ | exact ⟨hf5.cell D1.out (by simp), hf5.cell D2.out (by simp), hf5.cell D3.out (by simp), hf5.cell D4.out (by simp)⟩) (first | (go_at_call 86; refine (hcm _).mono ?_; rintro e5 w5 ⟨rfl, hf5⟩))
       go_wp2_with fail
       go_roundg (row.length - (j + 1))
       case rel => exact ⟨j + 1, rfl, by omega, by go_num, HF2.out.drew.trans hf5 (by simp), HGO2.out⟩
       case measure => omega
      | false =>
       have hneg : 0 ≤ cmpA (e, t) (f, u) := by
        rcases (show cmpA (e, t) (f, u) < 0 ∨ 0 ≤ cmpA (e, t) (f, u) by omega) with h9 | h9
        ·rw [(cmpA_lt _ _).1 h9] at hlt2; cases hlt2
        ·exact h9
       rw [hlt2, Bool.false_and, Bool.false_and] at hgo2
       have HGO2 := Lib.hid hgo2
       clear hgo2 hlt2
       go_wp2_with fail
       go_region_held3 (fun w' => w'.cell? ⟨b1, o1 + j * 2, none⟩ = some (.int .i64 e) ∧ w'.cell? ⟨b1, o1 + j * 2 + 1, none⟩ = some (.int .i64 t) ∧ w'.cell? ⟨b1, o1 + (j + 1) * 2, none⟩ = some (.int .i64 f) ∧ w'.cell? ⟨b1, o1 + (j + 1) * 2 + 1, none⟩ = some (.int .i64 u)) (first | exact ⟨D1.out, D2.out, D3.out, D4.out⟩ | exact ⟨hf5.cell D1.out (by simp), hf5.cell D2.out (by simp), hf5.cell D3.out (by simp), hf5.cell D4.out (by simp)⟩) (first | (go_at_call 86; refine (hcm _).mono ?_; rintro e5 w5 ⟨rfl, hf5⟩))
       go_wp2_with fail
       go_ret
       exact ⟨by rw [HRR.out, ← HGO2.out]; rfl, F1.trans (HF2.out.drew.trans hf5 (by simp)) (by simp)⟩
     ·rw [ascB_short (by omega), Bool.true_and] at hgo2
      have HGO2 := Lib.hid hgo2
      clear hgo2 hF2
      have hi1 : (row.length : Int) ≤ (j : Int) + 1 := by omega
      go_wp2_with fail
      go_roundg (l.length - (k + 1))
      case rel => exact ⟨k + 1, rfl, by omega, by go_num, HF2.out, HGO2.out⟩
      case measure => omega
   ·have : k = l.length := by omega
    subst this
    have HT : Hid (R = true) := by
     show R = true
     rw [← hgo, List.drop_length]; rfl
    clear hgo h1
    go_wp2_with fail
    go_ret
    exact ⟨by rw [HRR.out, HT.out]; rfl, F1.trans HF.out (by simp)⟩

end Go.Proofs.YtikpcipkkhmcfaaGreat

/- Contracts of Less, Loose and Valid of the reference. -/
namespace Go.Proofs.YtikpcipkkhmcfaaGreat
open Go.RowKit

theorem less_any (a b : Arc) (w : World) :
  Calls Tryz.prog 66 #[.agg #[.int .i64 a.1, .int .i64 a.2], .agg #[.int .i64 b.1, .int .i64 b.2]] w fun e w' => e = .returned (.bool (ltA a b)) ∧ Frm [] w w' := by
 obtain ⟨e, t⟩ := a
 obtain ⟨f, u⟩ := b
 have f0 : Frm [] w (((w.alloc (.cells #[.int .i64 e, .int .i64 t] 66)).alloc (.cells #[.int .i64 f, .int .i64 u] 66))) := (((Frm.refl [] w).alloc _).alloc _)
 simp only
 rcases (show e < f ∨ (¬ e < f ∧ e ≠ f) ∨ (e = f ∧ t < u) ∨ (e = f ∧ ¬ t < u) by omega) with h | ⟨h, h2⟩ | ⟨rfl, h⟩ | ⟨rfl, h⟩
 ·have H : Hid (ltA (e, t) (f, u) = true) := by show ltA _ _ = _; simp [ltA, h]
  go_enter Tryz.func66, Tryz.ntmps66
  go_wp2
  go_ret
  exact ⟨by rw [H.out]; rfl, f0⟩
 ·have H : Hid (ltA (e, t) (f, u) = false) := by show ltA _ _ = _; simp [ltA, h2]; omega
  have h3 : f ≤ e := by omega
  have h4 : (e == f) = false := by simpa using h2
  have h5 : decide (e < f) = false := by simpa using h3
  clear h h2
  go_enter Tryz.func66, Tryz.ntmps66
  go_wp2
  go_ret
  exact ⟨by rw [H.out]; rfl, f0⟩
 ·have H : Hid (ltA (e, t) (e, u) = true) := by show ltA _ _ = _; simp [ltA, h]
  go_enter Tryz.func66, Tryz.ntmps66
  go_wp2
  go_ret
  exact ⟨by rw [H.out]; rfl, f0⟩
 ·have H : Hid (ltA (e, t) (e, u) = false) := by show ltA _ _ = _; simp [ltA]; omega
  have h3 : u ≤ t := by omega
  clear h
  go_enter Tryz.func66, Tryz.ntmps66
  go_wp2
  go_ret
  refine ⟨?_, f0⟩
  rw [H.out]
  first | rfl | (simp; omega)

set_option maxRecDepth 100000 in
set_option maxHeartbeats 2000000 in
theorem refLoose_any (B : Nat) (a : Option Addr) (cap : Nat) (l : Lts) (w : World) (h : LAt B w a cap l) :
  Calls Tryz.prog 97 #[.agg #[.slice a l.length cap]] w fun e w' => e = .returned (.bool (looseB l)) ∧ Frm [] w w' := by
 have f0 : Frm [] w (w.alloc (.cells #[.slice a l.length cap] 25)) := (Frm.refl [] w).alloc _
 have hbox := box1 w (.slice a l.length cap) 25
 have hl := h.lt
 have h' := h.nil f0 rfl
 by_cases h1 : (l.length : Int) < 1
 ·have HR : Hid (looseB l = false) := by
   show looseB l = false
   rw [looseB, decide_eq_false (by omega)]; rfl
  go_enter Tryz.func97, Tryz.ntmps97
  go_wp2
  go_ret
  exact ⟨by rw [HR.out]; rfl, f0⟩
 ·have h1' : 1 ≤ (l.length : Int) := by omega
  by_cases h2 : 16384 < (l.length : Int)
  ·have HR : Hid (looseB l = false) := by
    show looseB l = false
    rw [looseB, decide_eq_false (show ¬ l.length ≤ 16384 by omega)]; simp
   go_enter Tryz.func97, Tryz.ntmps97
   go_wp2
   go_ret
   exact ⟨by rw [HR.out]; rfl, f0⟩
  ·have h2' : (l.length : Int) ≤ 16384 := by omega
   have HR : Hid (looseB l = looseGo l.length 0 l) := by
    show looseB l = looseGo l.length 0 l
    rw [looseB, decide_eq_true (show 1 ≤ l.length by omega), decide_eq_true (show l.length ≤ 16384 by omega)]; simp
   clear h1 h2
   obtain ⟨R, hR⟩ : ∃ R, looseGo l.length 0 l = R := ⟨_, rfl⟩
   have HRR : Hid (looseB l = R) := by show looseB l = R; rw [HR.out, hR]
   clear HR
   have HB := Lib.hid hbox
   go_enter Tryz.func97, Tryz.ntmps97
   go_wp2_with fail
   clear hbox
   go_loopg [4, 5] l.length (fun g c i wr => ∃ (k used : Nat), g = l.length - k ∧ k ≤ l.length ∧ i = .int .i64 k ∧ used ≤ 262144 ∧ c = .int .i64 (used : Int) ∧
    Frm [] (w.alloc (.cells #[.slice a l.length cap] 25)) wr ∧ looseGo l.length used (l.drop k) = R)
   case atStart => exact ⟨0, 0, rfl, Nat.zero_le _, rfl, by omega, rfl, Frm.refl _ _, hR⟩
   case round =>
    clear hR
    obtain ⟨k, used, rfl, hk, rfl, hus, rfl, hF, hgo⟩ := hrel
    have HF := Lib.hid hF
    have hbc := (HB.out.frm hF (by simp)).cell (i := 0) rfl
    clear hF
    by_cases hlt : k < l.length
    ·obtain ⟨row, hrow⟩ : ∃ row, l[k]? = some row := ⟨_, List.getElem?_eq_getElem hlt⟩
     obtain ⟨b, o, ra, rc, rfl, hb, hc0, hrr⟩ := h'.cell k row hrow
     have hc := HF.out.cell hc0 (by simp)
     rw [drop_cons hrow, looseGo] at hgo
     have hrl := hrr.lt
     by_cases hfit : used + row.length ≤ 262144
     ·have hfi : (used : Int) + (row.length : Int) ≤ 262144 := by omega
      rw [decide_eq_true hfit, Bool.true_and] at hgo
      have HGO := Lib.hid hgo
      have HRR2 := Lib.hid hrr
      have HC0 := Lib.hid hc0
      clear hgo hrow hrr h' h hc0
      go_wp2_with fail
      go_loopg [6] row.length (fun g i wr => ∃ (j : Nat), g = row.length - j ∧ j ≤ row.length ∧ i = .int .i64 j ∧
       Frm [] (w.alloc (.cells #[.slice (some ⟨b, o, none⟩) l.length cap] 25)) wr ∧ ((row.drop j).all (arcOk l.length) && looseGo l.length (used + row.length) (l.drop (k + 1))) = R)
      case atStart => exact ⟨0, rfl, Nat.zero_le _, rfl, HF.out, HGO.out⟩
      case round =>
       clear hc hbc
       obtain ⟨j, rfl, hj, rfl, hF2, hgo2⟩ := hrel
       have HF2 := Lib.hid hF2
       have hbc2 := (HB.out.frm hF2 (by simp)).cell (i := 0) rfl
       have hc2 := hF2.cell HC0.out (by simp)
       by_cases hjl : j < row.length
       ·obtain ⟨⟨e, t⟩, harc⟩ : ∃ x, row[j]? = some x := ⟨_, List.getElem?_eq_getElem hjl⟩
        obtain ⟨b1, o1, rfl, hb1, d1, d2⟩ := (HRR2.out.frm hF2 (by simp)).2.2.2 j e t harc
        rw [drop_cons harc, List.all_cons] at hgo2
        clear hF2
        cases hok : arcOk l.length (e, t) with
        | true =>
         obtain ⟨k1, k2, k3, k4⟩ := arcOk_true hok
         rw [hok, Bool.true_and] at hgo2
         have HGO2 := Lib.hid hgo2
         clear hgo2 hok harc
         go_wp2_with fail
         go_roundg (row.length - (j + 1))
         case rel => exact ⟨j + 1, rfl, by omega, by go_num, HF2.out.alloc _, HGO2.out⟩
         case measure => omega
        | false =>
         rw [hok, Bool.false_and, Bool.false_and] at hgo2
         have HGO2 := Lib.hid hgo2
         have hor := arcOk_false hok
         clear hgo2 hok harc
         rcases hor with k1 | ⟨k1, k2⟩ | ⟨k1, k2, k3⟩ | ⟨k1, k2, k3, k4⟩
         all_goals
          go_wp2_with fail
          go_ret
          exact ⟨by rw [HRR.out, ← HGO2.out]; rfl, (f0.trans HF2.out (by simp)).alloc _⟩
       ·have : j = row.length := by omega
        subst this
        have HGO2 : Hid (looseGo l.length (used + row.length) (l.drop (k + 1)) = R) := by
         show looseGo l.length (used + row.length) (l.drop (k + 1)) = R
         rw [← hgo2, List.drop_length]; simp
        clear hgo2 hF2
        go_wp2_with fail
        go_roundg (l.length - (k + 1))
        case rel => exact ⟨k + 1, used + row.length, rfl, by omega, by go_num, hfit, by go_num, HF2.out, HGO2.out⟩
        case measure => omega
     ·have HRF : Hid (R = false) := by
       show R = false
       rw [← hgo, decide_eq_false hfit, Bool.false_and]
      have hf1 : 262144 < (used : Int) + (row.length : Int) := by omega
      clear hgo hrow hrr h' h
      go_wp2_with fail
      go_ret
      exact ⟨by rw [HRR.out, HRF.out]; rfl, f0.trans HF.out (by simp)⟩
    ·have : k = l.length := by omega
     subst this
     have HT : Hid (R = true) := by
      show R = true
      rw [← hgo, List.drop_length]; rfl
     clear hgo h' h
     go_wp2_with fail
     go_ret
     exact ⟨by rw [HRR.out, HT.out]; rfl, f0.trans HF.out (by simp)⟩

end Go.Proofs.YtikpcipkkhmcfaaGreat

/- Contract of Valid of the reference. -/
namespace Go.Proofs.YtikpcipkkhmcfaaGreat
open Go.RowKit

set_option maxRecDepth 100000 in
set_option maxHeartbeats 2000000 in
theorem refValid_any (B : Nat) (a : Option Addr) (cap : Nat) (l : Lts) (w : World) (h : LAt B w a cap l) :
  Calls Tryz.prog 67 #[.agg #[.slice a l.length cap]] w fun e w' => e = .returned (.bool (validB l)) ∧ Frm [] w w' := by
 have f0 : Frm [] w (w.alloc (.cells #[.slice a l.length cap] 25)) := (Frm.refl [] w).alloc _
 have hbox := box1 w (.slice a l.length cap) 25
 have hl := h.lt
 have h' := h.nil f0 rfl
 have hlo := refLoose_any B a cap l _ h'
 have HB := Lib.hid hbox
 go_enter Tryz.func67, Tryz.ntmps67
 go_wp2_with fail
 refine hlo.mono ?_
 rintro e w1 ⟨rfl, hf1⟩
 clear hlo hbox
 have F1 := f0.trans hf1 (by simp)
 cases hL : looseB l with
 | false =>
  have HL : Hid (validB l = false) := by show validB l = false; rw [validB, hL, Bool.false_and]
  clear hL h h' f0
  go_wp2_with fail
  go_ret
  exact ⟨by rw [HL.out]; rfl, F1⟩
 | true =>
  obtain ⟨R, hR⟩ : ∃ R, l.all ascB = R := ⟨_, rfl⟩
  have HRR : Hid (validB l = R) := by show validB l = R; rw [validB, hL, Bool.true_and, hR]
  have h1 := h'.nil hf1 rfl
  have hbc := (HB.out.frm hf1 (by simp)).cell (i := 0) rfl
  clear hL h h' f0
  go_wp2_with fail
  clear hbc
  go_loopg [3] l.length (fun g i wr => ∃ (k : Nat), g = l.length - k ∧ k ≤ l.length ∧ i = .int .i64 k ∧ Frm [] w1 wr ∧ (l.drop k).all ascB = R)
  case atStart => exact ⟨0, rfl, Nat.zero_le _, rfl, Frm.refl _ _, hR⟩
  case round =>
   clear hR
   obtain ⟨k, rfl, hk, rfl, hF, hgo⟩ := hrel
   have HF := Lib.hid hF
   have hbc := (HB.out.frm (hf1.trans hF (by simp)) (by simp)).cell (i := 0) rfl
   clear hF
   by_cases hlt : k < l.length
   ·obtain ⟨row, hrow⟩ : ∃ row, l[k]? = some row := ⟨_, List.getElem?_eq_getElem hlt⟩
    obtain ⟨b, o, ra, rc, rfl, hb, hc0, hrr⟩ := h1.cell k row hrow
    have hc := HF.out.cell hc0 (by simp)
    rw [drop_cons hrow, List.all_cons] at hgo
    have hrl := hrr.lt
    have HGO := Lib.hid hgo
    have HRR2 := Lib.hid hrr
    have HC0 := Lib.hid hc0
    clear hgo hrow hrr h1 hc0
    go_wp2_with fail
    go_loopg [4] row.length (fun g i wr => ∃ (j : Nat), g = row.length - j ∧ j ≤ row.length ∧ i = .int .i64 ((j : Int) + 1) ∧
     Frm [] w1 wr ∧ (ascB (row.drop j) && (l.drop (k + 1)).all ascB) = R)
    case atStart => exact ⟨0, rfl, Nat.zero_le _, rfl, HF.out, HGO.out⟩
    case round =>
     clear hc hbc
     obtain ⟨j, rfl, hj, rfl, hF2, hgo2⟩ := hrel
     have HF2 := Lib.hid hF2
     have hbc := (HB.out.frm (hf1.trans hF2 (by simp)) (by simp)).cell (i := 0) rfl
     have hc := HF2.out.cell HC0.out (by simp)
     have E1 := Lib.hid hbc
     have E2 := Lib.hid hc
     by_cases hjl : j + 1 < row.length
     ·obtain ⟨⟨e, t⟩, harc⟩ : ∃ x, row[j]? = some x := ⟨_, List.getElem?_eq_getElem (by omega)⟩
      obtain ⟨⟨f, u⟩, harc2⟩ : ∃ x, row[j + 1]? = some x := ⟨_, List.getElem?_eq_getElem hjl⟩
      have hrw := HRR2.out.frm hF2 (by simp)
      obtain ⟨b1, o1, rfl, hb1, d1, d2⟩ := hrw.2.2.2 j e t harc
      obtain ⟨b2, o2, hbo, hb2, d3, d4⟩ := hrw.2.2.2 (j + 1) f u harc2
      obtain ⟨rfl, rfl⟩ : b1 = b2 ∧ o1 = o2 := by simpa using hbo
      rw [ascB_two harc harc2] at hgo2
      have D1 := Lib.hid d1
      have D2 := Lib.hid d2
      have D3 := Lib.hid d3
      have D4 := Lib.hid d4
      have hcm := less_any (e, t) (f, u)
      clear hF2 harc harc2 hrw hbo d1 d2 d3 d4
      have hw1 : IntKind.i64.wrap (j : Int) = (j : Int) := IntWalk.i64_in _ (by omega)
      have hi1 : (j : Int) + 1 < (row.length : Int) := by omega
      have hi2 : (j : Int) < (row.length : Int) := by omega
      have hi3 : (0 : Int) ≤ (j : Int) := by omega
      have hi4 : (0 : Int) ≤ (j : Int) + 1 := by omega
      have hn : ((j : Int) + 1).toNat = j + 1 := by omega
      cases hlt2 : ltA (e, t) (f, u) with
      | true =>
       rw [hlt2, Bool.true_and] at hgo2
       have HGO2 := Lib.hid hgo2
       rw [hlt2] at hcm
       have HCM := Lib.hid hcm
       clear hgo2 hlt2 hcm
       go_wp2_with fail
       go_region_held3 (fun w' => w'.cell? ⟨w.heap.size, 0, none⟩ = some (.slice (some ⟨b, o, none⟩) l.length cap) ∧ w'.cell? ⟨b, o + k, none⟩ = some (.slice (some ⟨b1, o1, none⟩) row.length rc) ∧ w'.cell? ⟨b1, o1 + j * 2, none⟩ = some (.int .i64 e) ∧ w'.cell? ⟨b1, o1 + j * 2 + 1, none⟩ = some (.int .i64 t) ∧ w'.cell? ⟨b1, o1 + (j + 1) * 2, none⟩ = some (.int .i64 f) ∧ w'.cell? ⟨b1, o1 + (j + 1) * 2 + 1, none⟩ = some (.int .i64 u)) (first | exact ⟨E1.out, E2.out, D1.out, D2.out, D3.out, D4.out⟩ | exact ⟨hf5.cell E1.out (by simp), hf5.cell E2.out (by simp), hf5.cell D1.out (by simp), hf5.cell D2.out (by simp), hf5.cell D3.out (by simp), hf5.cell D4.out (by simp)⟩) (first | (go_at_call 66; refine (HCM.out _).mono ?_; rintro e5 w5 ⟨rfl, hf5⟩))
       go_wp2_with fail
       go_roundg (row.length - (j + 1))
       case rel => exact ⟨j + 1, rfl, by omega, by go_num, HF2.out.drew.trans hf5 (by simp), HGO2.out⟩
       case measure => omega
      | false =>
       rw [hlt2, Bool.false_and, Bool.false_and] at hgo2
       have HGO2 := Lib.hid hgo2
       rw [hlt2] at hcm
       have HCM := Lib.hid hcm
       clear hgo2 hlt2 hcm
       go_wp2_with fail
       go_region_held3 (fun w' => w'.cell? ⟨w.heap.size, 0, none⟩ = some (.slice (some ⟨b, o, none⟩) l.length cap) ∧ w'.cell? ⟨b, o + k, none⟩ = some (.slice (some ⟨b1, o1, none⟩) row.length rc) ∧ w'.cell? ⟨b1, o1 + j * 2, none⟩ = some (.int .i64 e) ∧ w'.cell? ⟨b1, o1 + j * 2 + 1, none⟩ = some (.int .i64 t) ∧ w'.cell? ⟨b1, o1 + (j + 1) * 2, none⟩ = some (.int .i64 f) ∧ w'.cell? ⟨b1, o1 + (j + 1) * 2 + 1, none⟩ = some (.int .i64 u)) (first | exact ⟨E1.out, E2.out, D1.out, D2.out, D3.out, D4.out⟩ | exact ⟨hf5.cell E1.out (by simp), hf5.cell E2.out (by simp), hf5.cell D1.out (by simp), hf5.cell D2.out (by simp), hf5.cell D3.out (by simp), hf5.cell D4.out (by simp)⟩) (first | (go_at_call 66; refine (HCM.out _).mono ?_; rintro e5 w5 ⟨rfl, hf5⟩))
       go_wp2_with fail
       go_ret
       exact ⟨by rw [HRR.out, ← HGO2.out]; rfl, F1.trans (HF2.out.drew.trans hf5 (by simp)) (by simp)⟩
     ·rw [ascB_short (by omega), Bool.true_and] at hgo2
      have HGO2 := Lib.hid hgo2
      clear hgo2 hF2
      have hi1 : (row.length : Int) ≤ (j : Int) + 1 := by omega
      go_wp2_with fail
      go_roundg (l.length - (k + 1))
      case rel => exact ⟨k + 1, rfl, by omega, by go_num, HF2.out, HGO2.out⟩
      case measure => omega
   ·have : k = l.length := by omega
    subst this
    have HT : Hid (R = true) := by
     show R = true
     rw [← hgo, List.drop_length]; rfl
    clear hgo h1
    go_wp2_with fail
    go_ret
    exact ⟨by rw [HRR.out, HT.out]; rfl, F1.trans HF.out (by simp)⟩

end Go.Proofs.YtikpcipkkhmcfaaGreat
