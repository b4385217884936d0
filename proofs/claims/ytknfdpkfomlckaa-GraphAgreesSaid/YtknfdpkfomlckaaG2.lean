/- Contracts of cmp.Compare, cmp.Or, rows.compare, and of Less of the reference. -/
import Derived.Test.YtknfdpkfomlckaaG1
namespace Go.Proofs.Ytknfdpkfomlckaa
open Go.RowKit

theorem nan_any (x : Int) (w : World) : Calls Try.prog 92 #[.int .i64 x] w fun e w' => e = .returned (.bool false) ∧ w = w' := by
  have hx : (x != x) = false := by simp
  go_enter Try.func92, Try.ntmps92
  go_wp2
  go_ret
  exact ⟨rfl, rfl⟩

theorem cmpI_any (x y : Int) (w : World) : Calls Try.prog 82 #[.int .i64 x, .int .i64 y] w fun e w' => e = .returned (.int .i64 (cmpI x y)) ∧ w = w' := by
  rcases (show x < y ∨ y < x ∨ x = y by omega) with h | h | h
  · have H : Hid (cmpI x y = -1) := if_pos h
    go_enter Try.func82, Try.ntmps82
    go_wp2_with (go_at_call 92; refine (nan_any _ _).mono ?_; rintro e w1 ⟨rfl, rfl⟩)
    go_ret
    exact ⟨by rw [H.out]; rfl, rfl⟩
  · have h' : ¬ x < y := by omega
    have H : Hid (cmpI x y = 1) := (if_neg h').trans (if_pos h)
    go_enter Try.func82, Try.ntmps82
    go_wp2_with (go_at_call 92; refine (nan_any _ _).mono ?_; rintro e w1 ⟨rfl, rfl⟩)
    go_ret
    exact ⟨by rw [H.out]; rfl, rfl⟩
  · subst h
    have h' : ¬ x < x := by omega
    have H : Hid (cmpI x x = 0) := (if_neg h').trans (if_neg h')
    go_enter Try.func82, Try.ntmps82
    go_wp2_with (go_at_call 92; refine (nan_any _ _).mono ?_; rintro e w1 ⟨rfl, rfl⟩)
    go_ret
    exact ⟨by rw [H.out]; rfl, rfl⟩

/-- cmp.Or of two numbers that lie in a row of two cells. -/
theorem or2_any (x y : Int) (g : Nat) (w : World) (h0 : w.cell? ⟨g, 0, none⟩ = some (.int .i64 x)) (h1 : w.cell? ⟨g, 1, none⟩ = some (.int .i64 y)) :
    Calls Try.prog 81 #[.slice (some ⟨g, 0, none⟩) 2 2] w fun e w' => e = .returned (.int .i64 (or2 x y)) ∧ w = w' := by
  by_cases hx : x = 0
  · subst hx
    by_cases hy : y = 0
    · subst hy
      go_enter Try.func81, Try.ntmps81
      go_wp2
      refine wp_loop_rounds 3 ?_
      rw [rounds_succ]
      go_wp2
      rw [rounds_succ]
      go_wp2
      rw [rounds_succ]
      go_wp2
      go_ret
      exact ⟨by rw [or2, if_pos rfl]; rfl, rfl⟩
    · have hb : (y != 0) = true := by simpa using hy
      go_enter Try.func81, Try.ntmps81
      go_wp2
      refine wp_loop_rounds 2 ?_
      rw [rounds_succ]
      go_wp2
      rw [rounds_succ]
      go_wp2
      go_ret
      exact ⟨by rw [or2, if_pos rfl]; rfl, rfl⟩
  · have hb : (x != 0) = true := by simpa using hx
    go_enter Try.func81, Try.ntmps81
    go_wp2
    refine wp_loop_rounds 1 ?_
    rw [rounds_succ]
    go_wp2
    go_ret
    exact ⟨by rw [or2, if_neg hx]; rfl, rfl⟩

set_option maxHeartbeats 1000000 in
theorem compare_any (a b : Arc) (w : World) :
    Calls Try.prog 66 #[.agg #[.int .i64 a.1, .int .i64 a.2], .agg #[.int .i64 b.1, .int .i64 b.2]] w fun e w' => e = .returned (.int .i64 (cmpA a b)) ∧ Frm [] w w' := by
  obtain ⟨e, t⟩ := a
  obtain ⟨f, u⟩ := b
  have f0 : Frm [] w (((w.alloc (.cells #[.int .i64 e, .int .i64 t] 51)).alloc (.cells #[.int .i64 f, .int .i64 u] 51)).drew) := (((Frm.refl [] w).alloc _).alloc _).drew
  have r0 := ((RowAt.made w 51 [.int .i64 e, .int .i64 t] #[.int .i64 e, .int .i64 t] rfl).alloc (.cells #[.int .i64 f, .int .i64 u] 51)).drew
  have r1 := (RowAt.made (w.alloc (.cells #[.int .i64 e, .int .i64 t] 51)) 51 [.int .i64 f, .int .i64 u] #[.int .i64 f, .int .i64 u] rfl).drew
  rw [show (w.alloc (.cells #[.int .i64 e, .int .i64 t] 51)).heap.size = w.heap.size + 1 from by simp] at r1
  have c0 := r0.cell (i := 0) rfl
  have c1 := r0.cell (i := 1) rfl
  have c2 := r1.cell (i := 0) rfl
  have c3 := r1.cell (i := 1) rfl
  clear r0 r1
  go_enter Try.func66, Try.ntmps66
  go_wp2_with fail
  have d0 := Lib.hid c0
  have d1 := Lib.hid c1
  have d2 := Lib.hid c2
  have d3 := Lib.hid c3
  generalize (((w.alloc (.cells #[.int .i64 e, .int .i64 t] 51)).alloc (.cells #[.int .i64 f, .int .i64 u] 51))) = W at *
  clear c0 c1 c2 c3
  go_region_held3 (fun w' => w'.cell? ⟨w.heap.size, 0, none⟩ = some (.int .i64 e) ∧ w'.cell? ⟨w.heap.size, 1, none⟩ = some (.int .i64 t) ∧ w'.cell? ⟨w.heap.size + 1, 0, none⟩ = some (.int .i64 f) ∧ w'.cell? ⟨w.heap.size + 1, 1, none⟩ = some (.int .i64 u)) (first | exact ⟨d0.out, d1.out, d2.out, d3.out⟩ | (exact ⟨(Frm.alloc (Frm.refl [] W.drew) _).cell d0.out (by simp), (Frm.alloc (Frm.refl [] W.drew) _).cell d1.out (by simp), (Frm.alloc (Frm.refl [] W.drew) _).cell d2.out (by simp), (Frm.alloc (Frm.refl [] W.drew) _).cell d3.out (by simp)⟩)) (first | (go_at_call 82; refine (cmpI_any _ _ _).mono ?_; rintro e w1 ⟨rfl, rfl⟩) | (go_at_call 81; refine (or2_any (cmpI e f) (cmpI t u) _ _ (by simp) (by simp)).mono ?_; rintro e w1 ⟨rfl, rfl⟩))
  go_wp2
  go_ret
  exact ⟨rfl, f0.alloc _⟩

end Go.Proofs.Ytknfdpkfomlckaa
