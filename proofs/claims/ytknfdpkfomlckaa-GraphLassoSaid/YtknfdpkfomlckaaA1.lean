/- Merged text: G1, G2 of the notes. -/
import Derived.Test.YtknfdpkfomlckaaLib
import Derived.Test.YtknfdpkfomlckaaRows
import Derived.WalkSpells
import Derived.WalkLawsBesides
import Derived.Deep.LoopGhost
import Derived.Deep.QuietTactic
import Derived.BigQuiet
import Derived.Deep.RegionHeld3
import Derived.Deep.RegionLaw
import Derived.Deep.AppendLies
import Derived.Deep.OwnRows
/- How a transition system lies in memory; plain functions on rows of arcs. -/
namespace Go.Proofs.Ytknfdpkfomlckaa
open Go.RowKit

theorem infoInt : (Try.prog.info? 3).map (fun i => (i.zero, i.size, i.bytes)) = some (some (.int .i64 0), 1, 8) := by kernel_rfl
theorem infoArc : (Try.prog.info? 51).map (fun i => (i.zero, i.size, i.bytes)) = some (some (.agg #[.int .i64 0, .int .i64 0]), 2, 16) := by kernel_rfl

def ints (xs : List Int) : List Value := xs.map (Value.int .i64)

/-- A slice of n elements (of 'size' cells each) that can be read; its block lies below B. -/
structure Rd (B : Nat) (w : World) (a : Option Addr) (n cap size : Nat) (xs : List Value) : Prop where
  len : xs.length = n * size
  le : n ≤ cap
  max : cap ≤ maxLen
  cell : ∀ (i : Nat) (u : Value), xs[i]? = some u → ∃ b o, a = some ⟨b, o, none⟩ ∧ b < B ∧ w.cell? ⟨b, o + i, none⟩ = some u

theorem Rd.frm {B : Nat} {fp : List Nat} {w w' : World} {a : Option Addr} {n cap size : Nat} {xs : List Value} (h : Rd B w a n cap size xs) (hf : Frm fp w w') (hn : ∀ k ∈ fp, B ≤ k) : Rd B w' a n cap size xs :=
  ⟨h.len, h.le, h.max, fun i u hu => by
    obtain ⟨b, o, ha, hb, hc⟩ := h.cell i u hu
    exact ⟨b, o, ha, hb, hf.cell hc (fun hm => by have := hn _ hm; simp at this; omega)⟩⟩

theorem Rd.mono {B C : Nat} {w : World} {a : Option Addr} {n cap size : Nat} {xs : List Value} (h : Rd B w a n cap size xs) (hc : B ≤ C) : Rd C w a n cap size xs :=
  ⟨h.len, h.le, h.max, fun i u hu => by
    obtain ⟨b, o, ha, hb, hcc⟩ := h.cell i u hu
    exact ⟨b, o, ha, by omega, hcc⟩⟩

theorem Rd.lt {B : Nat} {w : World} {a : Option Addr} {n cap size : Nat} {xs : List Value} (h : Rd B w a n cap size xs) : (n : Int) ≤ 9223372036854775807 := by
  have h1 := h.le
  have h2 := h.max
  unfold maxLen at h2
  omega

/-- What a slice of integers gives at an index. -/
theorem Rd.at {B : Nat} {w : World} {a : Option Addr} {cap : Nat} {xs : List Int} {n : Nat} (h : Rd B w a n cap 1 (ints xs)) {i : Nat} {x : Int} (hx : xs[i]? = some x) : ∃ b o, a = some ⟨b, o, none⟩ ∧ b < B ∧ w.cell? ⟨b, o + i, none⟩ = some (.int .i64 x) :=
  h.cell i _ (by simp [ints, hx])

theorem rd_of_owns {B C : Nat} {w : World} {e size n cap : Nat} {a : Option Addr} {xs : List Value} (h : w.ownsRow B e size (.slice a n cap) n xs) (hc : w.heap.size ≤ C) : Rd C w a n cap size xs := by
  rcases h.2 with ⟨h0, rfl⟩ | ⟨g, cp, cur, h0, hb, hg, h1, h2, h3, h4⟩
  · cases h0
    exact ⟨h.1, Nat.le_refl _, Nat.zero_le _, fun i u hu => by
      have : xs = [] := List.eq_nil_of_length_eq_zero (by simpa using h.1)
      subst this; simp at hu⟩
  · obtain ⟨rfl, rfl⟩ : a = some ⟨g, 0, none⟩ ∧ cap = cp := by simpa using h0
    refine ⟨h.1, h1, h2, fun i u hu => ⟨g, 0, rfl, by have := (Array.getElem?_eq_some_iff.1 hg).1; omega, ?_⟩⟩
    rw [Nat.zero_add]
    exact RowAt.cell (xs := xs) ⟨cur, hg, by rw [h.1]; exact h4⟩ hu

abbrev Arc := Int × Int
abbrev Lts := List (List Arc)

def RowR (B : Nat) (w : World) (a : Option Addr) (cap : Nat) (row : List Arc) : Prop :=
  row.length ≤ cap ∧ cap ≤ maxLen ∧ row.length ≤ 140737488355328 ∧ ∀ (j : Nat) (e t : Int), row[j]? = some (e, t) → ∃ b o, a = some ⟨b, o, none⟩ ∧ b < B ∧ w.cell? ⟨b, o + j * 2, none⟩ = some (.int .i64 e) ∧ w.cell? ⟨b, o + j * 2 + 1, none⟩ = some (.int .i64 t)

structure LAt (B : Nat) (w : World) (a : Option Addr) (cap : Nat) (l : Lts) : Prop where
  le : l.length ≤ cap
  max : cap ≤ maxLen
  few : l.length ≤ 140737488355328
  cell : ∀ (i : Nat) (row : List Arc), l[i]? = some row → ∃ b o ra rc, a = some ⟨b, o, none⟩ ∧ b < B ∧ w.cell? ⟨b, o + i, none⟩ = some (.slice ra row.length rc) ∧ RowR B w ra rc row

theorem RowR.frm {B : Nat} {fp : List Nat} {w w' : World} {a : Option Addr} {cap : Nat} {row : List Arc} (h : RowR B w a cap row) (hf : Frm fp w w') (hn : ∀ k ∈ fp, B ≤ k) : RowR B w' a cap row :=
  ⟨h.1, h.2.1, h.2.2.1, fun j e t hj => by
    obtain ⟨b, o, ha, hb, h1, h2⟩ := h.2.2.2 j e t hj
    exact ⟨b, o, ha, hb, hf.cell h1 (fun hm => by have := hn _ hm; simp at this; omega), hf.cell h2 (fun hm => by have := hn _ hm; simp at this; omega)⟩⟩

theorem LAt.frm {B : Nat} {fp : List Nat} {w w' : World} {a : Option Addr} {cap : Nat} {l : Lts} (h : LAt B w a cap l) (hf : Frm fp w w') (hn : ∀ k ∈ fp, B ≤ k) : LAt B w' a cap l :=
  ⟨h.le, h.max, h.few, fun i row hi => by
    obtain ⟨b, o, ra, rc, ha, hb, h1, h2⟩ := h.cell i row hi
    exact ⟨b, o, ra, rc, ha, hb, hf.cell h1 (fun hm => by have := hn _ hm; simp at this; omega), h2.frm hf hn⟩⟩

theorem LAt.nil {B : Nat} {fp : List Nat} {w w' : World} {a : Option Addr} {cap : Nat} {l : Lts} (h : LAt B w a cap l) (hf : Frm fp w w') (hn : fp = []) : LAt B w' a cap l := h.frm hf (by simp [hn])

theorem LAt.lt {B : Nat} {w : World} {a : Option Addr} {cap : Nat} {l : Lts} (h : LAt B w a cap l) : (l.length : Int) ≤ 140737488355328 := by
  have h1 := h.few
  omega

theorem RowR.lt {B : Nat} {w : World} {a : Option Addr} {cap : Nat} {row : List Arc} (h : RowR B w a cap row) : (row.length : Int) ≤ 140737488355328 := by
  have h1 := h.2.2.1
  omega

theorem RowR.mono {B C : Nat} {w : World} {a : Option Addr} {cap : Nat} {row : List Arc} (h : RowR B w a cap row) (hc : B ≤ C) : RowR C w a cap row :=
  ⟨h.1, h.2.1, h.2.2.1, fun j e t hj => by
    obtain ⟨b, o, ha, hb, hcc⟩ := h.2.2.2 j e t hj
    exact ⟨b, o, ha, by omega, hcc⟩⟩

theorem LAt.mono {B C : Nat} {w : World} {a : Option Addr} {cap : Nat} {l : Lts} (h : LAt B w a cap l) (hc : B ≤ C) : LAt C w a cap l :=
  ⟨h.le, h.max, h.few, fun i row hi => by
    obtain ⟨b, o, ra, rc, ha, hb, h1, h2⟩ := h.cell i row hi
    exact ⟨b, o, ra, rc, ha, by omega, h1, h2.mono hc⟩⟩

/-! ### plain functions -/
def arcOk (n : Nat) (a : Arc) : Bool := !(decide (a.1 < 0) || decide (1025 < a.1) || decide (a.2 < 0) || decide ((n : Int) ≤ a.2))
def looseGo (n : Nat) : Nat → Lts → Bool
  | _, [] => true
  | c, row :: r => decide (c + row.length ≤ 262144) && (row.all (arcOk n) && looseGo n (c + row.length) r)
def looseB (l : Lts) : Bool := decide (1 ≤ l.length) && decide (l.length ≤ 16384) && looseGo l.length 0 l
def ltA (a b : Arc) : Bool := decide (a.1 < b.1) || (decide (a.1 = b.1) && decide (a.2 < b.2))
def ascB : List Arc → Bool
  | a :: b :: r => ltA a b && ascB (b :: r)
  | _ => true
def validB (l : Lts) : Bool := looseB l && l.all ascB
def cmpI (x y : Int) : Int := if x < y then -1 else if y < x then 1 else 0
def or2 (x y : Int) : Int := if x = 0 then y else x
def cmpA (a b : Arc) : Int := or2 (cmpI a.1 b.1) (cmpI a.2 b.2)

theorem cmpA_lt (a b : Arc) : cmpA a b < 0 ↔ ltA a b = true := by
  obtain ⟨e, t⟩ := a
  obtain ⟨f, u⟩ := b
  simp only [cmpA, or2, cmpI, ltA, Bool.or_eq_true, decide_eq_true_eq, Bool.and_eq_true]
  repeat' split
  all_goals omega

theorem drop_cons {α : Type} {l : List α} {i : Nat} {x : α} (h : l[i]? = some x) : l.drop i = x :: l.drop (i + 1) := by
  obtain ⟨hi, rfl⟩ := List.getElem?_eq_some_iff.1 h
  exact List.drop_eq_getElem_cons hi

end Go.Proofs.Ytknfdpkfomlckaa

/- Contracts of cmp.Compare, cmp.Or, rows.compare, and of Less of the reference. -/
namespace Go.Proofs.Ytknfdpkfomlckaa
open Go.RowKit

theorem nan_any (x : Int) (w : World) : Calls Try.prog 92 #[.int .i64 x] w fun e w' => e = .returned (.bool false) ∧ w = w' := by
  have hx : (x != x) = false := by simp
  go_enter Try.func92, Try.ntmps92
  go_wp2
  go_ret
  exact ⟨rfl, rfl⟩

theorem cmpI_any (x y : Int) (w : World) : Calls Try.prog 82 #[.int .i64 x, .int .i64 y] w fun e w' => e = .returned (.int .i64 (cmpI x y)) ∧ w = w' := by
  rcases (show x < y ∨ y < x ∨ x = y by omega) with h | h | h
  · have H : Hid (cmpI x y = -1) := if_pos h
    go_enter Try.func82, Try.ntmps82
    go_wp2_with (go_at_call 92; refine (nan_any _ _).mono ?_; rintro e w1 ⟨rfl, rfl⟩)
    go_ret
    exact ⟨by rw [H.out]; rfl, rfl⟩
  · have h' : ¬ x < y := by omega
    have H : Hid (cmpI x y = 1) := (if_neg h').trans (if_pos h)
    go_enter Try.func82, Try.ntmps82
    go_wp2_with (go_at_call 92; refine (nan_any _ _).mono ?_; rintro e w1 ⟨rfl, rfl⟩)
    go_ret
    exact ⟨by rw [H.out]; rfl, rfl⟩
  · subst h
    have h' : ¬ x < x := by omega
    have H : Hid (cmpI x x = 0) := (if_neg h').trans (if_neg h')
    go_enter Try.func82, Try.ntmps82
    go_wp2_with (go_at_call 92; refine (nan_any _ _).mono ?_; rintro e w1 ⟨rfl, rfl⟩)
    go_ret
    exact ⟨by rw [H.out]; rfl, rfl⟩

/-- cmp.Or of two numbers that lie in a row of two cells. -/
theorem or2_any (x y : Int) (g : Nat) (w : World) (h0 : w.cell? ⟨g, 0, none⟩ = some (.int .i64 x)) (h1 : w.cell? ⟨g, 1, none⟩ = some (.int .i64 y)) :
    Calls Try.prog 81 #[.slice (some ⟨g, 0, none⟩) 2 2] w fun e w' => e = .returned (.int .i64 (or2 x y)) ∧ w = w' := by
  by_cases hx : x = 0
  · subst hx
    by_cases hy : y = 0
    · subst hy
      go_enter Try.func81, Try.ntmps81
      go_wp2
      refine wp_loop_rounds 3 ?_
      rw [rounds_succ]
      go_wp2
      rw [rounds_succ]
      go_wp2
      rw [rounds_succ]
      go_wp2
      go_ret
      exact ⟨by rw [or2, if_pos rfl]; rfl, rfl⟩
    · have hb : (y != 0) = true := by simpa using hy
      go_enter Try.func81, Try.ntmps81
      go_wp2
      refine wp_loop_rounds 2 ?_
      rw [rounds_succ]
      go_wp2
      rw [rounds_succ]
      go_wp2
      go_ret
      exact ⟨by rw [or2, if_pos rfl]; rfl, rfl⟩
  · have hb : (x != 0) = true := by simpa using hx
    go_enter Try.func81, Try.ntmps81
    go_wp2
    refine wp_loop_rounds 1 ?_
    rw [rounds_succ]
    go_wp2
    go_ret
    exact ⟨by rw [or2, if_neg hx]; rfl, rfl⟩

set_option maxHeartbeats 1000000 in
theorem compare_any (a b : Arc) (w : World) :
    Calls Try.prog 66 #[.agg #[.int .i64 a.1, .int .i64 a.2], .agg #[.int .i64 b.1, .int .i64 b.2]] w fun e w' => e = .returned (.int .i64 (cmpA a b)) ∧ Frm [] w w' := by
  obtain ⟨e, t⟩ := a
  obtain ⟨f, u⟩ := b
  have f0 : Frm [] w (((w.alloc (.cells #[.int .i64 e, .int .i64 t] 51)).alloc (.cells #[.int .i64 f, .int .i64 u] 51)).drew) := (((Frm.refl [] w).alloc _).alloc _).drew
  have r0 := ((RowAt.made w 51 [.int .i64 e, .int .i64 t] #[.int .i64 e, .int .i64 t] rfl).alloc (.cells #[.int .i64 f, .int .i64 u] 51)).drew
  have r1 := (RowAt.made (w.alloc (.cells #[.int .i64 e, .int .i64 t] 51)) 51 [.int .i64 f, .int .i64 u] #[.int .i64 f, .int .i64 u] rfl).drew
  rw [show (w.alloc (.cells #[.int .i64 e, .int .i64 t] 51)).heap.size = w.heap.size + 1 from by simp] at r1
  have c0 := r0.cell (i := 0) rfl
  have c1 := r0.cell (i := 1) rfl
  have c2 := r1.cell (i := 0) rfl
  have c3 := r1.cell (i := 1) rfl
  clear r0 r1
  go_enter Try.func66, Try.ntmps66
  go_wp2_with fail
  have d0 := Lib.hid c0
  have d1 := Lib.hid c1
  have d2 := Lib.hid c2
  have d3 := Lib.hid c3
  generalize (((w.alloc (.cells #[.int .i64 e, .int .i64 t] 51)).alloc (.cells #[.int .i64 f, .int .i64 u] 51))) = W at *
  clear c0 c1 c2 c3
  go_region_held3 (fun w' => w'.cell? ⟨w.heap.size, 0, none⟩ = some (.int .i64 e) ∧ w'.cell? ⟨w.heap.size, 1, none⟩ = some (.int .i64 t) ∧ w'.cell? ⟨w.heap.size + 1, 0, none⟩ = some (.int .i64 f) ∧ w'.cell? ⟨w.heap.size + 1, 1, none⟩ = some (.int .i64 u)) (first | exact ⟨d0.out, d1.out, d2.out, d3.out⟩ | (exact ⟨(Frm.alloc (Frm.refl [] W.drew) _).cell d0.out (by simp), (Frm.alloc (Frm.refl [] W.drew) _).cell d1.out (by simp), (Frm.alloc (Frm.refl [] W.drew) _).cell d2.out (by simp), (Frm.alloc (Frm.refl [] W.drew) _).cell d3.out (by simp)⟩)) (first | (go_at_call 82; refine (cmpI_any _ _ _).mono ?_; rintro e w1 ⟨rfl, rfl⟩) | (go_at_call 81; refine (or2_any (cmpI e f) (cmpI t u) _ _ (by simp) (by simp)).mono ?_; rintro e w1 ⟨rfl, rfl⟩))
  go_wp2
  go_ret
  exact ⟨rfl, f0.alloc _⟩

end Go.Proofs.Ytknfdpkfomlckaa
