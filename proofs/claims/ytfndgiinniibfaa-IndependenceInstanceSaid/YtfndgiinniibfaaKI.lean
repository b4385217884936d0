/- Contracts of the comparison of arcs and of the equality that Instance strikes doubles by. -/
import Derived.Test.YtfndgiinniibfaaKH
namespace Go.Proofs.Ytfndgiinniibfaa.Ind
open Go.Shelf Go.RowKit Go.Lib Go.Sort

def cmpAr (x y : Ar) : Int := orL [cmpI x.1 y.1, cmpI x.2 y.2]
def arE (x : Ar) : List Value := [.int .i64 x.1, .int .i64 x.2]
set_option linter.unusedSimpArgs false in
set_option maxRecDepth 100000 in
set_option maxHeartbeats 4000000 in
theorem cmpAr_any (x y : Ar) (w : World) :
    Calls Try.prog 51 #[.agg (arE x).toArray, .agg (arE y).toArray] w fun e w' => e = .returned (.int .i64 (cmpAr x y)) ∧ ∃ q os, w' = grow (w.drewN q) os := by
  obtain ⟨e, s⟩ := x
  obtain ⟨e', s'⟩ := y
  obtain ⟨R, hR⟩ : ∃ R, cmpAr (e, s) (e', s') = R := ⟨_, rfl⟩
  rw [hR]
  have HR := Lib.hid hR
  clear hR
  unfold arE
  simp only
  have hb1 := ((RowAt.made w 59 [.int .i64 e, .int .i64 s] #[.int .i64 e, .int .i64 s] rfl).alloc (.cells #[.int .i64 e', .int .i64 s'] 59))
  have hb2 := RowAt.made (w.alloc (.cells #[.int .i64 e, .int .i64 s] 59)) 59 [.int .i64 e', .int .i64 s'] #[.int .i64 e', .int .i64 s'] rfl
  rw [show (w.alloc (.cells #[.int .i64 e, .int .i64 s] 59)).heap.size = w.heap.size + 1 from by simp] at hb2
  go_enter Try.func51, Try.ntmps51
  go_wp2_with fail
  have HW : Hid (((w.alloc (.cells #[.int .i64 e, .int .i64 s] 59)).alloc (.cells #[.int .i64 e', .int .i64 s'] 59)) = grow w #[.cells #[.int .i64 e, .int .i64 s] 59, .cells #[.int .i64 e', .int .i64 s'] 59]) := Lib.hid (by rw [alloc_eq_grow, alloc_eq_grow, grow_grow]; rfl)
  generalize hX : ((w.alloc (.cells #[.int .i64 e, .int .i64 s] 59)).alloc (.cells #[.int .i64 e', .int .i64 s'] 59)) = W at *
  have KEEP : Hid (∀ w', Frm [] W w' → w'.cell? ⟨w.heap.size, 0, none⟩ = some (.int .i64 e) ∧ w'.cell? ⟨w.heap.size, 1, none⟩ = some (.int .i64 s) ∧ w'.cell? ⟨w.heap.size + 1, 0, none⟩ = some (.int .i64 e') ∧ w'.cell? ⟨w.heap.size + 1, 1, none⟩ = some (.int .i64 s')) := Lib.hid fun w' hf => by
    have h1 := hb1.frm hf (by simp)
    have h2 := hb2.frm hf (by simp)
    exact ⟨h1.cell (i := 0) rfl, h1.cell (i := 1) rfl, h2.cell (i := 0) rfl, h2.cell (i := 1) rfl⟩
  clear hb1 hb2
  go_region_held3 (fun w' => w'.cell? ⟨w.heap.size, 0, none⟩ = some (.int .i64 e) ∧ w'.cell? ⟨w.heap.size, 1, none⟩ = some (.int .i64 s) ∧ w'.cell? ⟨w.heap.size + 1, 0, none⟩ = some (.int .i64 e') ∧ w'.cell? ⟨w.heap.size + 1, 1, none⟩ = some (.int .i64 s'))
    (first | exact KEEP.out _ (Frm.refl [] W).drew | exact KEEP.out _ ((Frm.refl [] W).drew.alloc _))
    (first | (go_at_call 53; refine (cmpI_any _ _ _).mono ?_; rintro e1 w1 ⟨rfl, rfl⟩) | (go_at_call 52; refine (orL_any _ _ _ [cmpI e e', cmpI s s'] _ (rd_of_owns (owns_fullB W.drew 0 _ 1 2 _ _ rfl rfl (by decide) (Nat.zero_le _)) (Nat.le_refl _))).mono ?_; rintro e1 w1 ⟨rfl, rfl⟩))
  go_wp2_with fail
  go_ret
  refine ⟨?_, ⟨1, ⟨_, grow_drew_alloc HW.out _⟩⟩⟩
  rw [← HR.out]
  rfl

theorem arr4_eql (w : World) (a0 a1 a2 a3 b0 b1 b2 b3 : Int) :
    (Op.equalIn 10000 74 (.agg #[.int .i64 a0, .int .i64 a1, .int .i64 a2, .int .i64 a3]) (.agg #[.int .i64 b0, .int .i64 b1, .int .i64 b2, .int .i64 b3])).run Try.prog w = .ok (decide (a0 = b0) && (decide (a1 = b1) && (decide (a2 = b2) && decide (a3 = b3)))) w := by
  obtain ⟨n, hn⟩ : ∃ n, 10000 = n + 1 + 1 := ⟨9998, rfl⟩
  rw [hn]
  exact arr4_eq w n a0 a1 a2 a3 b0 b1 b2 b3
theorem guard4 : Try.prog.eqGuardType Try.prog.depth 74 = false := by kernel_rfl
set_option linter.unusedSimpArgs false in
set_option maxRecDepth 100000 in
set_option maxHeartbeats 4000000 in
theorem eqM_any (x y : M6) (w : World) :
    Calls Try.prog 49 #[.agg (enc6 x).toArray, .agg (enc6 y).toArray] w fun e w' => e = .returned (.bool (decide (x = y))) ∧ Frm [] w w' := by
  obtain ⟨e, s, a, b, c, d⟩ := x
  obtain ⟨e', s', a', b', c', d'⟩ := y
  have hv := fun w => arr4_eql w a b c d a' b' c' d'
  have hg := guard4
  unfold enc6
  simp only
  have f0 : Frm [] w ((w.alloc (.cells #[.int .i64 e, .int .i64 s, .int .i64 a, .int .i64 b, .int .i64 c, .int .i64 d] 83)).alloc (.cells #[.int .i64 e', .int .i64 s', .int .i64 a', .int .i64 b', .int .i64 c', .int .i64 d'] 83)) := ((Frm.refl [] w).alloc _).alloc _
  by_cases h1 : e = e'
  · by_cases h2 : s = s'
    · subst h1 h2
      obtain ⟨R, hR⟩ : ∃ R, (decide (a = a') && (decide (b = b') && (decide (c = c') && decide (d = d')))) = R := ⟨_, rfl⟩
      rw [hR] at hv
      have HR : Hid (decide ((e, s, a, b, c, d) = (e, s, a', b', c', d')) = R) := Lib.hid (by rw [← hR, Bool.eq_iff_iff]; simp)
      clear hR
      go_enter Try.func49, Try.ntmps49
      go_wp2_with fail
      go_ret
      exact ⟨by rw [HR.out]; rfl, f0⟩
    · have HR : Hid (decide ((e, s, a, b, c, d) = (e', s', a', b', c', d')) = false) := Lib.hid (decide_eq_false (by simp [h2]))
      have j2 : (s == s') = false := by simpa using h2
      subst h1
      go_enter Try.func49, Try.ntmps49
      go_wp2_with fail
      go_ret
      exact ⟨by rw [HR.out]; rfl, f0⟩
  · have HR : Hid (decide ((e, s, a, b, c, d) = (e', s', a', b', c', d')) = false) := Lib.hid (decide_eq_false (by simp [h1]))
    have j1 : (e == e') = false := by simpa using h1
    go_enter Try.func49, Try.ntmps49
    go_wp2_with fail
    go_ret
    exact ⟨by rw [HR.out]; rfl, f0⟩

end Go.Proofs.Ytfndgiinniibfaa.Ind
