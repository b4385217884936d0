/- Contract of small of the law (its drawn region takes long). -/
import Derived.Test.YtlpgonnionbkfaaHW
namespace Go.Proofs.Ytlpgonnionbkfaa
open Go.RowKit

set_option linter.unusedSimpArgs false in
set_option maxHeartbeats 20000000 in
theorem small_any (k a b c n : Int) (raw : Bool) (sz : Nat) (w : World) (hs : sz ≤ 65536) :
    Calls Try.prog 30 #[.agg #[.int .i64 k, .int .i64 a, .int .i64 b, .int .i64 c, .int .i64 n, .bool raw], .int .i64 sz] w fun e w' => ∃ a' b' c', e = .returned (.agg #[.int .i64 k, .int .i64 a', .int .i64 b', .int .i64 c', .int .i64 n, .bool raw]) ∧ Frm [] w w' := by
  have i0 : (sz : Int) ≤ 65536 := by omega
  have i1 : (0 : Int) ≤ (sz : Int) := by omega
  obtain ⟨t, ht⟩ : ∃ t : Nat, t = sz + 1 := ⟨_, rfl⟩
  have iw : IntKind.i64.wrap ((sz : Int) + 1) = (t : Int) := by
    rw [IntWalk.i64_in _ (by omega)]; omega
  cases raw with
  | true =>
    go_enter Try.func30, Try.ntmps30
    go_wp2_with fail
    refine bodyPost_ret (v := .agg #[.int .i64 k, .int .i64 a, .int .i64 b, .int .i64 c, .int .i64 n, .bool true]) (by simp [results, Try.results30, go_sem]) rfl ⟨a, b, c, rfl, ((Frm.refl [] w).alloc _).alloc _⟩
  | false =>
    have hm1 := fun w => mod_any a t w (by omega) (by omega)
    have hm2 := fun w => mod_any b t w (by omega) (by omega)
    have hm3 := fun w => mod_any c 5 w (by omega) (by omega)
    have HM1 := Lib.hid hm1
    have HM2 := Lib.hid hm2
    have HM3 := Lib.hid hm3
    clear hm1 hm2 hm3 ht
    have r0 := (RowAt.made w 52 [.int .i64 k, .int .i64 a, .int .i64 b, .int .i64 c, .int .i64 n, .bool false] #[.int .i64 k, .int .i64 a, .int .i64 b, .int .i64 c, .int .i64 n, .bool false] rfl).alloc (.cells #[.int .i64 0, .int .i64 0, .int .i64 0, .int .i64 0, .int .i64 0, .bool false] 52)
    have r1 := RowAt.made (w.alloc (.cells #[.int .i64 k, .int .i64 a, .int .i64 b, .int .i64 c, .int .i64 n, .bool false] 52)) 52 [.int .i64 0, .int .i64 0, .int .i64 0, .int .i64 0, .int .i64 0, .bool false] #[.int .i64 0, .int .i64 0, .int .i64 0, .int .i64 0, .int .i64 0, .bool false] rfl
    have f0 : Frm [] w ((w.alloc (.cells #[.int .i64 k, .int .i64 a, .int .i64 b, .int .i64 c, .int .i64 n, .bool false] 52)).alloc (.cells #[.int .i64 0, .int .i64 0, .int .i64 0, .int .i64 0, .int .i64 0, .bool false] 52)) := ((Frm.refl [] w).alloc _).alloc _
    rw [show (w.alloc (.cells #[.int .i64 k, .int .i64 a, .int .i64 b, .int .i64 c, .int .i64 n, .bool false] 52)).heap.size = w.heap.size + 1 from by simp] at r1
    have R0 := Lib.hid r0
    have R1 := Lib.hid r1
    have F0 := Lib.hid f0
    clear r0 r1 f0
    go_enter Try.func30, Try.ntmps30
    go_wp2_with fail
    generalize hW : (w.alloc (.cells #[.int .i64 k, .int .i64 a, .int .i64 b, .int .i64 c, .int .i64 n, .bool false] 52)).alloc (.cells #[.int .i64 0, .int .i64 0, .int .i64 0, .int .i64 0, .int .i64 0, .bool false] 52) = W0 at *
    obtain ⟨p, hp⟩ : ∃ x, x = w.heap.size := ⟨_, rfl⟩
    obtain ⟨q, hq⟩ : ∃ x, x = w.heap.size + 1 := ⟨_, rfl⟩
    rw [← hq] at R1 ⊢
    rw [← hp] at R0 ⊢
    have hpq : p ≠ q := by omega
    have hqp : q ≠ p := by omega
    have HPW : Hid (w.heap.size ≤ p) := Lib.hid (by omega)
    have HQW : Hid (w.heap.size ≤ q) := Lib.hid (by omega)
    have p1 := R0.out.cell (i := 1) rfl
    have p2 := R0.out.cell (i := 2) rfl
    have z1 := R0.out.frozen 1
    have z2 := R0.out.frozen 2
    clear hW hp hq
    go_region_with (first | (go_at_call 18; refine (HM1.out _).mono ?_; rintro e3 w3 ⟨m1, rfl, hm1, rfl⟩) | (go_at_call 18; refine (HM2.out _).mono ?_; rintro e3 w3 ⟨m2, rfl, hm2, rfl⟩))
    all_goals
      have r2 := ((R0.out.setCell 1 (.int .i64 m1)).setCell 2 (.int .i64 m2)).drew
      have r3 := ((R1.out.other (p := ⟨p, 1, none⟩) (.int .i64 m1) hqp).other (p := ⟨p, 2, none⟩) (.int .i64 m2) hqp).drew
      have f2 := ((F0.out.setCell (p := ⟨p, 1, none⟩) (.inr HPW.out) (.int .i64 m1)).setCell (p := ⟨p, 2, none⟩) (.inr HPW.out) (.int .i64 m2)).drew
      simp only [List.set_cons_succ, List.set_cons_zero] at r2
      clear p1 p2 z1 z2 HM1 HM2 R0 R1 F0
      generalize ((W0.setCell ⟨p, 1, none⟩ (.int .i64 m1)).setCell ⟨p, 2, none⟩ (.int .i64 m2)).drew = W1 at *
      have R2 := Lib.hid r2
      have R3 := Lib.hid r3
      have F2 := Lib.hid f2
      have c3 := r2.cell (i := 3) rfl
      have hpl := r2.lt
      have hpw : p ≠ W1.heap.size := by omega
      have c3b := (r2.alloc (.cells #[.int .i64 1, .int .i64 1, .int .i64 4, .int .i64 7, .int .i64 3] 3)).cell (i := 3) rfl
      clear r2 r3 f2 hpl
      go_wp2_with fail
      refine (HM3.out _).mono ?_
      rintro e5 w5 ⟨m3, rfl, hm3, rfl⟩
      have r4 := R2.out.alloc (.cells #[.int .i64 1, .int .i64 1, .int .i64 4, .int .i64 7, .int .i64 3] 3)
      have r5 := R3.out.alloc (.cells #[.int .i64 1, .int .i64 1, .int .i64 4, .int .i64 7, .int .i64 3] 3)
      have f5 := F2.out.alloc (.cells #[.int .i64 1, .int .i64 1, .int .i64 4, .int .i64 7, .int .i64 3] 3)
      have hy : ∃ y, (W1.alloc (.cells #[.int .i64 1, .int .i64 1, .int .i64 4, .int .i64 7, .int .i64 3] 3)).cell? ⟨W1.heap.size, m3, none⟩ = some (.int .i64 y) := by
        have r6 := RowAt.made W1 3 [.int .i64 1, .int .i64 1, .int .i64 4, .int .i64 7, .int .i64 3] #[.int .i64 1, .int .i64 1, .int .i64 4, .int .i64 7, .int .i64 3] rfl
        have h5 : m3 = 0 ∨ m3 = 1 ∨ m3 = 2 ∨ m3 = 3 ∨ m3 = 4 := by omega
        rcases h5 with rfl | rfl | rfl | rfl | rfl
        · exact ⟨1, r6.cell (i := 0) rfl⟩
        · exact ⟨1, r6.cell (i := 1) rfl⟩
        · exact ⟨4, r6.cell (i := 2) rfl⟩
        · exact ⟨7, r6.cell (i := 3) rfl⟩
        · exact ⟨3, r6.cell (i := 4) rfl⟩
      obtain ⟨y, hy⟩ := hy
      obtain ⟨g5, hg5⟩ : ∃ x, x = W1.heap.size := ⟨_, rfl⟩
      rw [← hg5] at hy ⊢
      clear c3 c3b R2 R3 F2 hpw hg5 HM3
      generalize W1.alloc (.cells #[.int .i64 1, .int .i64 1, .int .i64 4, .int .i64 7, .int .i64 3] 3) = W2 at *
      have F5 := Lib.hid f5
      have i5 : (m3 : Int) < 5 := by omega
      have i6 : (0 : Int) ≤ (m3 : Int) := by omega
      have p0 := r4.cell (i := 0) rfl
      have p1 := r4.cell (i := 1) rfl
      have p2 := r4.cell (i := 2) rfl
      have p3 := r4.cell (i := 3) rfl
      have p4 := r4.cell (i := 4) rfl
      have p5 := r4.cell (i := 5) rfl
      have z3 := r4.frozen 3
      have q0 := r5.cell (i := 0) rfl
      have q1 := r5.cell (i := 1) rfl
      have q2 := r5.cell (i := 2) rfl
      have q3 := r5.cell (i := 3) rfl
      have q4 := r5.cell (i := 4) rfl
      have q5 := r5.cell (i := 5) rfl
      have y0 := r5.frozen 0
      have y1 := r5.frozen 1
      have y2 := r5.frozen 2
      have y3 := r5.frozen 3
      have y4 := r5.frozen 4
      have y5 := r5.frozen 5
      clear r4 r5 f5
      go_wp2_with fail
      refine bodyPost_ret (v := .agg #[.int .i64 k, .int .i64 m1, .int .i64 m2, .int .i64 y, .int .i64 n, .bool false]) (by simp [results, Try.results30, go_sem, q0, q1, q2, q3, q4, q5, hpq, hqp]) rfl ⟨m1, m2, y, rfl, ?_⟩
      exact (((((((F5.out.setCell (p := ⟨p, 3, none⟩) (.inr HPW.out) _).setCell (p := ⟨q, 0, none⟩) (.inr HQW.out) _).setCell (p := ⟨q, 1, none⟩) (.inr HQW.out) _).setCell (p := ⟨q, 2, none⟩) (.inr HQW.out) _).setCell (p := ⟨q, 3, none⟩) (.inr HQW.out) _).setCell (p := ⟨q, 4, none⟩) (.inr HQW.out) _).setCell (p := ⟨q, 5, none⟩) (.inr HQW.out) _)

end Go.Proofs.Ytlpgonnionbkfaa
