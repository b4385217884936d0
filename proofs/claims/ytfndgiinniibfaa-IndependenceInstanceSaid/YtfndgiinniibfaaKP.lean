/- Contract of the reference's less. (Printed by wip/tools/kp.py.) -/
import Derived.Test.YtfndgiinniibfaaKO
namespace Go.Proofs.Ytfndgiinniibfaa.Ind
open Go.Shelf Go.RowKit Go.Lib Go.Sort

set_option linter.unusedSimpArgs false in
set_option maxRecDepth 100000 in
set_option maxHeartbeats 4000000 in
theorem less_any (x y : P5) (w : World) :
    Calls Try.prog 95 #[p5V x, p5V y] w fun e w' => e = .returned (.bool (ltP (toP x) (toP y))) ∧ Frm [] w w' := by
  obtain ⟨s, a0, a1, a2, a3⟩ := x
  obtain ⟨s', b0, b1, b2, b3⟩ := y
  obtain ⟨R, hR⟩ : ∃ R, ltP (toP (s, a0, a1, a2, a3)) (toP (s', b0, b1, b2, b3)) = R := ⟨_, rfl⟩
  rw [hR]
  have hR2 : (decide (s < s') || (decide (s = s') && (decide (a0 < b0) || (decide (a0 = b0) && (decide (a1 < b1) || (decide (a1 = b1) && (decide (a2 < b2) || (decide (a2 = b2) && (decide (a3 < b3) || (decide (a3 = b3) && false)))))))))) = R := hR
  clear hR
  have f0 : Frm [] w ((w.alloc (.cells #[.int .i64 s, .int .i64 a0, .int .i64 a1, .int .i64 a2, .int .i64 a3] 94)).alloc (.cells #[.int .i64 s', .int .i64 b0, .int .i64 b1, .int .i64 b2, .int .i64 b3] 94)) := ((Frm.refl [] w).alloc _).alloc _
  unfold p5V
  simp only
  by_cases hs : s = s'
  · subst hs
    have js : (s == s) = true := by simp
    by_cases h0 : a0 = b0
    · subst h0
      have j0 : (a0 == a0) = true := by simp
      by_cases h1 : a1 = b1
      · subst h1
        have j1 : (a1 == a1) = true := by simp
        by_cases h2 : a2 = b2
        · subst h2
          have j2 : (a2 == a2) = true := by simp
          by_cases h3 : a3 = b3
          · subst h3
            have j3 : (a3 == a3) = true := by simp
            have HR := Lib.hid hR2
            clear hR2
            go_enter Try.func95, Try.ntmps95
            go_wp2_with fail
            refine wp_loop_rounds 5 ?_
            rw [rounds_succ]
            go_wp2_with fail
            go_quiet (fail)
            go_wp2_with fail
            rw [rounds_succ]
            go_wp2_with fail
            go_quiet (fail)
            go_wp2_with fail
            rw [rounds_succ]
            go_wp2_with fail
            go_quiet (fail)
            go_wp2_with fail
            rw [rounds_succ]
            go_wp2_with fail
            go_quiet (fail)
            go_wp2_with fail
            rw [rounds_succ]
            go_wp2_with fail
            go_ret
            exact ⟨by rw [← HR.out]; first | rfl | simp [*], by repeat' (first | exact f0 | refine Frm.drewN ?_ _ | refine Frm.drew ?_)⟩
          · have j3 : (a3 == b3) = false := by simpa using h3
            have k3 : (a3 != b3) = true := by simpa using h3
            have HR := Lib.hid hR2
            clear hR2
            go_enter Try.func95, Try.ntmps95
            go_wp2_with fail
            refine wp_loop_rounds 4 ?_
            rw [rounds_succ]
            go_wp2_with fail
            go_quiet (fail)
            go_wp2_with fail
            rw [rounds_succ]
            go_wp2_with fail
            go_quiet (fail)
            go_wp2_with fail
            rw [rounds_succ]
            go_wp2_with fail
            go_quiet (fail)
            go_wp2_with fail
            rw [rounds_succ]
            go_wp2_with fail
            go_quiet (fail)
            go_wp2_with fail
            go_quiet (fail)
            go_wp2_with fail
            go_ret
            exact ⟨by rw [← HR.out]; first | rfl | simp [*], by repeat' (first | exact f0 | refine Frm.drewN ?_ _ | refine Frm.drew ?_)⟩
        · have j2 : (a2 == b2) = false := by simpa using h2
          have k2 : (a2 != b2) = true := by simpa using h2
          have HR := Lib.hid hR2
          clear hR2
          go_enter Try.func95, Try.ntmps95
          go_wp2_with fail
          refine wp_loop_rounds 3 ?_
          rw [rounds_succ]
          go_wp2_with fail
          go_quiet (fail)
          go_wp2_with fail
          rw [rounds_succ]
          go_wp2_with fail
          go_quiet (fail)
          go_wp2_with fail
          rw [rounds_succ]
          go_wp2_with fail
          go_quiet (fail)
          go_wp2_with fail
          go_quiet (fail)
          go_wp2_with fail
          go_ret
          exact ⟨by rw [← HR.out]; first | rfl | simp [*], by repeat' (first | exact f0 | refine Frm.drewN ?_ _ | refine Frm.drew ?_)⟩
      · have j1 : (a1 == b1) = false := by simpa using h1
        have k1 : (a1 != b1) = true := by simpa using h1
        have HR := Lib.hid hR2
        clear hR2
        go_enter Try.func95, Try.ntmps95
        go_wp2_with fail
        refine wp_loop_rounds 2 ?_
        rw [rounds_succ]
        go_wp2_with fail
        go_quiet (fail)
        go_wp2_with fail
        rw [rounds_succ]
        go_wp2_with fail
        go_quiet (fail)
        go_wp2_with fail
        go_quiet (fail)
        go_wp2_with fail
        go_ret
        exact ⟨by rw [← HR.out]; first | rfl | simp [*], by repeat' (first | exact f0 | refine Frm.drewN ?_ _ | refine Frm.drew ?_)⟩
    · have j0 : (a0 == b0) = false := by simpa using h0
      have k0 : (a0 != b0) = true := by simpa using h0
      have HR := Lib.hid hR2
      clear hR2
      go_enter Try.func95, Try.ntmps95
      go_wp2_with fail
      refine wp_loop_rounds 1 ?_
      rw [rounds_succ]
      go_wp2_with fail
      go_quiet (fail)
      go_wp2_with fail
      go_quiet (fail)
      go_wp2_with fail
      go_ret
      exact ⟨by rw [← HR.out]; first | rfl | simp [*], by repeat' (first | exact f0 | refine Frm.drewN ?_ _ | refine Frm.drew ?_)⟩
  · have js : (s == s') = false := by simpa using hs
    have hd : decide (s = s') = false := decide_eq_false hs
    have HR := Lib.hid hR2
    clear hR2
    go_enter Try.func95, Try.ntmps95
    go_wp2_with fail
    go_ret
    exact ⟨by rw [← HR.out, hd]; simp, f0⟩

end Go.Proofs.Ytfndgiinniibfaa.Ind
