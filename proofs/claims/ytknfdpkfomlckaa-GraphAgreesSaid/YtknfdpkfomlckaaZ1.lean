/- The example of the laws of chapter 24. -/
import Derived.Test.YtknfdpkfomlckaaY6
namespace Go.Proofs.Ytknfdpkfomlckaa
open Go.RowKit

def exL : Lts := [[(0, 1), (2, 2)], [(0, 0)], [(1, 3)], []]

set_option linter.unusedSimpArgs false in
set_option maxRecDepth 100000 in
set_option maxHeartbeats 2000000 in
theorem example_any (w : World) :
    Calls Try.prog 31 #[] w fun e w' => ∃ a, e = .returned (.agg #[.slice a 4 4]) ∧ LAt w'.heap.size w' a 4 exL ∧ Frm [] w w' := by
  go_enter Try.func31, Try.ntmps31
  go_wp2_with fail
  obtain ⟨A, hA⟩ : ∃ A, A = w.alloc (.cells #[.slice (some ⟨w.heap.size + 1 + 1 + 1 + 1, 0, none⟩) 4 4] 25) := ⟨_, rfl⟩
  rw [← hA]
  have s1 : A.heap.size = w.heap.size + 1 := by rw [hA]; simp only [World.alloc, Array.size_push]
  have f1 : Frm [] w A := by rw [hA]; exact (Frm.refl [] w).alloc _
  have r0 : RowAt A w.heap.size 25 [.slice (some ⟨w.heap.size + 1 + 1 + 1 + 1, 0, none⟩) 4 4] := by rw [hA]; exact box1 w _ _
  clear hA
  obtain ⟨B, hB⟩ : ∃ B, B = A.alloc (.cells #[.int .i64 0, .int .i64 1, .int .i64 2, .int .i64 2] 51) := ⟨_, rfl⟩
  rw [← hB]
  have s2 : B.heap.size = w.heap.size + 1 + 1 := by rw [hB]; simp only [World.alloc, Array.size_push, s1]
  have f2 : Frm [] A B := by rw [hB]; exact (Frm.refl [] A).alloc _
  have r1 : RowAt B (w.heap.size + 1) 51 [.int .i64 0, .int .i64 1, .int .i64 2, .int .i64 2] := by rw [hB, ← s1]; exact RowAt.made A _ _ _ rfl
  clear hB
  obtain ⟨C, hC⟩ : ∃ C, C = B.alloc (.cells #[.int .i64 0, .int .i64 0] 51) := ⟨_, rfl⟩
  rw [← hC]
  have s3 : C.heap.size = w.heap.size + 1 + 1 + 1 := by rw [hC]; simp only [World.alloc, Array.size_push, s2]
  have f3 : Frm [] B C := by rw [hC]; exact (Frm.refl [] B).alloc _
  have r2 : RowAt C (w.heap.size + 1 + 1) 51 [.int .i64 0, .int .i64 0] := by rw [hC, ← s2]; exact RowAt.made B _ _ _ rfl
  clear hC
  obtain ⟨D, hD⟩ : ∃ D, D = C.alloc (.cells #[.int .i64 1, .int .i64 3] 51) := ⟨_, rfl⟩
  rw [← hD]
  have s4 : D.heap.size = w.heap.size + 1 + 1 + 1 + 1 := by rw [hD]; simp only [World.alloc, Array.size_push, s3]
  have f4 : Frm [] C D := by rw [hD]; exact (Frm.refl [] C).alloc _
  have r3 : RowAt D (w.heap.size + 1 + 1 + 1) 51 [.int .i64 1, .int .i64 3] := by rw [hD, ← s3]; exact RowAt.made C _ _ _ rfl
  clear hD
  obtain ⟨E, hE⟩ : ∃ E, E = D.alloc (.cells #[.slice (some ⟨w.heap.size + 1, 0, none⟩) 2 2, .slice (some ⟨w.heap.size + 1 + 1, 0, none⟩) 1 1, .slice (some ⟨w.heap.size + 1 + 1 + 1, 0, none⟩) 1 1, .slice none 0 0] 49) := ⟨_, rfl⟩
  rw [← hE]
  have s5 : E.heap.size = w.heap.size + 1 + 1 + 1 + 1 + 1 := by rw [hE]; simp only [World.alloc, Array.size_push, s4]
  have f5 : Frm [] D E := by rw [hE]; exact (Frm.refl [] D).alloc _
  have r4 : RowAt E (w.heap.size + 1 + 1 + 1 + 1) 49 [.slice (some ⟨w.heap.size + 1, 0, none⟩) 2 2, .slice (some ⟨w.heap.size + 1 + 1, 0, none⟩) 1 1, .slice (some ⟨w.heap.size + 1 + 1 + 1, 0, none⟩) 1 1, .slice none 0 0] := by rw [hE, ← s4]; exact RowAt.made D _ _ _ rfl
  clear hE
  have g3 : RowAt E (w.heap.size + 1 + 1 + 1) 51 [.int .i64 1, .int .i64 3] := r3.frm f5 (by simp)
  have g2 : RowAt E (w.heap.size + 1 + 1) 51 [.int .i64 0, .int .i64 0] := (r2.frm f4 (by simp)).frm f5 (by simp)
  have g1 : RowAt E (w.heap.size + 1) 51 [.int .i64 0, .int .i64 1, .int .i64 2, .int .i64 2] := ((r1.frm f3 (by simp)).frm f4 (by simp)).frm f5 (by simp)
  have g0 : RowAt E w.heap.size 25 [.slice (some ⟨w.heap.size + 1 + 1 + 1 + 1, 0, none⟩) 4 4] := (((r0.frm f2 (by simp)).frm f3 (by simp)).frm f4 (by simp)).frm f5 (by simp)
  have hcs := g0.cell (i := 0) rfl
  refine bodyPost_ret (v := .agg #[.slice (some ⟨w.heap.size + 1 + 1 + 1 + 1, 0, none⟩) 4 4]) (by simp [results, Try.results31, go_sem]; rw [hcs]; rfl) rfl ?_
  refine ⟨_, rfl, ⟨Nat.le_refl _, by decide, by decide, fun i row hi => ?_⟩, (((f1.trans f2 (by simp)).trans f3 (by simp)).trans f4 (by simp)).trans f5 (by simp)⟩
  rcases i with _ | _ | _ | _ | i
  · obtain rfl : row = [(0, 1), (2, 2)] := by simpa [exL] using hi.symm
    refine ⟨_, 0, _, _, rfl, by omega, r4.cell (i := 0) rfl, by decide, by decide, by decide, fun j e t hj => ?_⟩
    rcases j with _ | _ | j
    · obtain ⟨rfl, rfl⟩ : e = 0 ∧ t = 1 := by simpa [eq_comm] using hj
      exact ⟨_, 0, rfl, by omega, g1.cell (i := 0) rfl, g1.cell (i := 1) rfl⟩
    · obtain ⟨rfl, rfl⟩ : e = 2 ∧ t = 2 := by simpa [eq_comm] using hj
      exact ⟨_, 0, rfl, by omega, g1.cell (i := 2) rfl, g1.cell (i := 3) rfl⟩
    · simp at hj
  · obtain rfl : row = [(0, 0)] := by simpa [exL] using hi.symm
    refine ⟨_, 0, _, _, rfl, by omega, r4.cell (i := 1) rfl, by decide, by decide, by decide, fun j e t hj => ?_⟩
    rcases j with _ | j
    · obtain ⟨rfl, rfl⟩ : e = 0 ∧ t = 0 := by simpa [eq_comm] using hj
      exact ⟨_, 0, rfl, by omega, g2.cell (i := 0) rfl, g2.cell (i := 1) rfl⟩
    · simp at hj
  · obtain rfl : row = [(1, 3)] := by simpa [exL] using hi.symm
    refine ⟨_, 0, _, _, rfl, by omega, r4.cell (i := 2) rfl, by decide, by decide, by decide, fun j e t hj => ?_⟩
    rcases j with _ | j
    · obtain ⟨rfl, rfl⟩ : e = 1 ∧ t = 3 := by simpa [eq_comm] using hj
      exact ⟨_, 0, rfl, by omega, g3.cell (i := 0) rfl, g3.cell (i := 1) rfl⟩
    · simp at hj
  · obtain rfl : row = [] := by simpa [exL] using hi.symm
    exact ⟨_, 0, _, _, rfl, by omega, r4.cell (i := 3) rfl, by decide, by decide, by decide, fun j e t hj => by simp at hj⟩
  · simp [exL] at hi

end Go.Proofs.Ytknfdpkfomlckaa
