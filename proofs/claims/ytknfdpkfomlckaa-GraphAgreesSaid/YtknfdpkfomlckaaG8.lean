/- Rows of arcs that a call has made; Insert of the reference. -/
import Derived.Test.YtknfdpkfomlckaaG7
namespace Go.Proofs.Ytknfdpkfomlckaa
open Go.RowKit

def flatA (row : List Arc) : List Value := row.flatMap fun a => [.int .i64 a.1, .int .i64 a.2]
theorem flatA_len (row : List Arc) : (flatA row).length = row.length * 2 := by
  induction row with
  | nil => rfl
  | cons a r ih => simp only [flatA, List.flatMap_cons, List.length_append, List.length_cons, List.length_nil] at ih ⊢; omega
theorem flatA_cons (a : Arc) (r : List Arc) : flatA (a :: r) = .int .i64 a.1 :: .int .i64 a.2 :: flatA r := rfl
theorem flatA_app (r s : List Arc) : flatA (r ++ s) = flatA r ++ flatA s := by simp [flatA]
theorem flatA_get : ∀ (row : List Arc) (j : Nat) (e t : Int), row[j]? = some (e, t) → (flatA row)[j * 2]? = some (.int .i64 e) ∧ (flatA row)[j * 2 + 1]? = some (.int .i64 t)
  | a :: r, 0, e, t, h => by simp at h; subst h; simp [flatA_cons]
  | a :: r, j + 1, e, t, h => by
    have := flatA_get r j e t (by simpa using h)
    rw [show (j + 1) * 2 = j * 2 + 1 + 1 by omega]
    simpa [flatA_cons] using this
  | [], _, _, _, h => by simp at h
theorem flatA_take (row : List Arc) (i : Nat) : flatA (row.take i) = (flatA row).take (i * 2) := by
  induction row generalizing i with
  | nil => simp [flatA]
  | cons a r ih =>
    cases i with
    | zero => simp [flatA]
    | succ i =>
      rw [show (i + 1) * 2 = i * 2 + 1 + 1 by omega]
      simp only [List.take_succ_cons, flatA_cons]
      rw [ih i]
theorem flatA_drop (row : List Arc) (i : Nat) : flatA (row.drop i) = (flatA row).drop (i * 2) := by
  induction row generalizing i with
  | nil => simp [flatA]
  | cons a r ih =>
    cases i with
    | zero => simp
    | succ i =>
      rw [show (i + 1) * 2 = i * 2 + 1 + 1 by omega]
      simp only [List.drop_succ_cons, flatA_cons]
      rw [ih i]
theorem flatA_one (row : List Arc) : ∀ u ∈ flatA row, u.oneCell' = true := by
  intro u hu
  simp only [flatA, List.mem_flatMap] at hu
  obtain ⟨a, _, ha⟩ := hu
  simp at ha
  rcases ha with rfl | rfl <;> rfl

/-- A row of arcs that the call has made (or nil). -/
abbrev OwnR (B : Nat) (w : World) (v : Value) (row : List Arc) : Prop := w.ownsRow B 51 2 v row.length (flatA row)

theorem rowR_of_own {B C : Nat} {w : World} {a : Option Addr} {cap : Nat} {row : List Arc} (h : OwnR B w (.slice a row.length cap) row) (hc : w.heap.size ≤ C) (hl : row.length ≤ 140737488355328) : RowR C w a cap row := by
  have hr := rd_of_owns h hc
  refine ⟨hr.le, hr.max, hl, fun j e t hj => ?_⟩
  have hg := flatA_get row j e t hj
  obtain ⟨b, o, ha, hb, h1⟩ := hr.cell _ _ hg.1
  obtain ⟨b', o', ha', hb', h2⟩ := hr.cell _ _ hg.2
  rw [ha] at ha'
  cases ha'
  exact ⟨b, o, ha, hb, by simpa [Nat.add_assoc] using h1, by simpa [Nat.add_assoc] using h2⟩

/-! ### Insert -/
def insAt (row : List Arc) (x : Arc) : Nat := (row.takeWhile (ltA · x)).length
def insA (row : List Arc) (x : Arc) : List Arc := if row[insAt row x]? = some x then row else row.take (insAt row x) ++ x :: row.drop (insAt row x)

theorem insAt_le (row : List Arc) (x : Arc) : insAt row x ≤ row.length := by
  unfold insAt
  have := (List.takeWhile_prefix (l := row) (ltA · x)).length_le
  exact this
theorem insA_len (row : List Arc) (x : Arc) : (insA row x).length ≤ row.length + 1 := by
  unfold insA
  split
  · omega
  · have := insAt_le row x
    simp; omega

/-- The search stands at i: all before are less. -/
theorem insAt_go {row : List Arc} {x : Arc} {i : Nat} (h : i ≤ insAt row x) {y : Arc} (hy : row[i]? = some y) : (ltA y x = true → i + 1 ≤ insAt row x) ∧ (ltA y x = false → insAt row x = i) := by
  induction row generalizing i with
  | nil => simp at hy
  | cons a r ih =>
    cases i with
    | zero =>
      simp at hy
      subst hy
      unfold insAt
      constructor
      · intro hl; simp [hl]
      · intro hl; simp [hl]
    | succ i =>
      simp at hy
      unfold insAt at h
      cases ha : ltA a x with
      | false => simp [ha] at h
      | true =>
        simp only [List.takeWhile_cons, ha, if_true, List.length_cons] at h
        have := ih (i := i) (by unfold insAt; omega) hy
        unfold insAt at this ⊢
        simp only [List.takeWhile_cons, ha, if_true, List.length_cons]
        constructor
        · intro hl; have := this.1 hl; omega
        · intro hl; have := this.2 hl; omega

end Go.Proofs.Ytknfdpkfomlckaa
