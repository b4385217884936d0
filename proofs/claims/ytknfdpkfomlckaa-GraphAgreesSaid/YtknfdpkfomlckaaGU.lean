/- Contract of graph.arcs. -/
import Derived.Test.YtknfdpkfomlckaaGT
namespace Go.Proofs.Ytknfdpkfomlckaa
open Go.RowKit

def isTau (a : Arc) : Bool := decide (a.1 = 0)
def sel (row : List Arc) (silent : Bool) : List Arc := if silent = true then row.takeWhile isTau else row
theorem RowR.take {B : Nat} {w : World} {a : Option Addr} {cap : Nat} {row : List Arc} (h : RowR B w a cap row) (k : Nat) : RowR B w a cap (row.take k) :=
  ⟨by have := h.1; have := List.length_take_le' k row; omega, h.2.1, by have := h.2.2.1; have := List.length_take_le' k row; omega, fun j e t hj => by
    rw [List.getElem?_take] at hj
    split at hj
    · exact h.2.2.2 j e t hj
    · cases hj⟩
theorem sel_take (row : List Arc) (silent : Bool) : ∃ k, sel row silent = row.take k := by
  unfold sel
  split
  · exact ⟨_, (List.prefix_iff_eq_take.1 (List.takeWhile_prefix isTau))⟩
  · exact ⟨row.length, by simp⟩
theorem sel_len (row : List Arc) (silent : Bool) : (sel row silent).length ≤ row.length := by
  obtain ⟨k, h⟩ := sel_take row silent
  rw [h, List.length_take]
  omega
theorem tw_go {row : List Arc} {i : Nat} (h : i ≤ (row.takeWhile isTau).length) {y : Arc} (hy : row[i]? = some y) : (y.1 = 0 → i + 1 ≤ (row.takeWhile isTau).length) ∧ (y.1 ≠ 0 → (row.takeWhile isTau).length = i) := by
  induction row generalizing i with
  | nil => simp at hy
  | cons a r ih =>
    cases i with
    | zero =>
      simp at hy
      subst hy
      constructor
      · intro hl; simp [isTau, hl]
      · intro hl; simp [isTau, hl]
    | succ i =>
      simp at hy
      by_cases ha : isTau a = true
      · simp only [List.takeWhile_cons, ha, if_true, List.length_cons] at h ⊢
        have := ih (i := i) (by omega) hy
        constructor
        · intro hl; have := this.1 hl; omega
        · intro hl; have := this.2 hl; omega
      · simp [ha] at h

def ArcsEnd (B : Nat) (w' : World) (row : List Arc) (e : Ending) : Prop := ∃ ra rc, e = .returned (.slice ra row.length rc) ∧ RowR B w' ra rc row

set_option maxRecDepth 100000 in
set_option maxHeartbeats 1000000 in
theorem arcs_any (B : Nat) (a : Option Addr) (cap : Nat) (l : Lts) (s : Nat) (row : List Arc) (silent : Bool) (w : World) (h : LAt B w a cap l) (hs : l[s]? = some row) :
    Calls Try.prog 40 #[.agg #[.slice a l.length cap], .int .i64 (s : Int), .bool silent] w fun e w' => ArcsEnd B w' (sel row silent) e ∧ Frm [] w w' := by
  have f0 : Frm [] w (w.alloc (.cells #[.slice a l.length cap] 25)) := (Frm.refl [] w).alloc _
  have hl := h.lt
  have h' := h.nil f0 rfl
  have hsl : s < l.length := (List.getElem?_eq_some_iff.1 hs).1
  obtain ⟨b, o, ra, rc, rfl, hb, hc, hrr⟩ := h'.cell s row hs
  have i1 : (s : Int) < (l.length : Int) := by omega
  have i2 : (0 : Int) ≤ (s : Int) := by omega
  have hrl := hrr.lt
  have hcap := hrr.1
  have hcm := hrr.2.1
  unfold maxLen at hcm
  have H := Lib.hid hrr
  clear h h' hs hrr
  cases silent with
  | false =>
    go_enter Try.func40, Try.ntmps40
    go_wp2_with fail
    go_ret
    exact ⟨⟨ra, rc, rfl, H.out⟩, f0⟩
  | true =>
    obtain ⟨R, hR⟩ : ∃ R, (row.takeWhile isTau).length = R := ⟨_, rfl⟩
    have HR : Hid (sel row true = row.take R) := Lib.hid (by rw [← hR]; exact List.prefix_iff_eq_take.1 (List.takeWhile_prefix isTau))
    have HRR := Lib.hid hR
    have hRl : R ≤ row.length := by rw [← hR]; exact (List.takeWhile_prefix isTau).length_le
    have hRlen : (row.take R).length = R := by rw [List.length_take]; omega
    have HRL := Lib.hid hRlen
    clear hR hRlen
    go_enter Try.func40, Try.ntmps40
    go_wp2_with fail
    go_loopg [8] row.length (fun q i wr => ∃ (k : Nat), q = row.length - k ∧ k ≤ R ∧ i = .int .i64 (k : Int) ∧ wr = w.alloc (.cells #[.slice (some ⟨b, o, none⟩) l.length cap] 25))
    case atStart => exact ⟨0, rfl, Nat.zero_le _, rfl, rfl⟩
    case round =>
      obtain ⟨k, rfl, hk, rfl, rfl⟩ := hrel
      have i4 : (0 : Int) ≤ (k : Int) := by omega
      have i7 : (k : Int) ≤ (row.length : Int) := by omega
      by_cases hlt : k < row.length
      · have i5 : (k : Int) < (row.length : Int) := by omega
        obtain ⟨⟨e, t⟩, hy⟩ : ∃ y, row[k]? = some y := ⟨_, List.getElem?_eq_getElem hlt⟩
        obtain ⟨g1, o1, rfl, _, d1, d2⟩ := H.out.2.2.2 k e t hy
        have hgo := tw_go (i := k) (by rw [HRR.out]; exact hk) hy
        rw [HRR.out] at hgo
        clear hy
        by_cases he : e = 0
        · have h3 := hgo.1 he
          subst he
          clear hgo
          go_wp2_with fail
          go_roundg (row.length - (k + 1))
          case rel => exact ⟨k + 1, rfl, h3, by go_num, rfl⟩
          case measure => omega
        · have h3 := hgo.2 he
          subst h3
          have he2 : (e == 0) = false := by simpa using he
          clear hgo he
          go_wp2_with fail
          go_ret
          exact ⟨⟨some ⟨g1, o1, none⟩, rc, by rw [HR.out, HRL.out]; rfl, by rw [HR.out]; exact H.out.take _⟩, f0⟩
      · have hkr : k = R := by omega
        subst hkr
        have i5 : ¬ (k : Int) < (row.length : Int) := by omega
        cases ra with
        | none =>
          go_wp2_with fail
          go_ret
          exact ⟨⟨none, rc, by rw [HR.out, HRL.out]; rfl, by rw [HR.out]; exact H.out.take _⟩, f0⟩
        | some ra =>
          go_wp2_with fail
          go_ret
          exact ⟨⟨some ra, rc, by rw [HR.out, HRL.out]; rfl, by rw [HR.out]; exact H.out.take _⟩, f0⟩

end Go.Proofs.Ytknfdpkfomlckaa
