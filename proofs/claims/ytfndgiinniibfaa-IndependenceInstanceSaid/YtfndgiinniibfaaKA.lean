/- Contracts of the reference's normArcs and Norm. -/
import Derived.Test.YtfndgiinniibfaaK9
namespace Go.Proofs.Ytfndgiinniibfaa.Ind
open Go.Shelf
open Go.RowKit

theorem hasB_dec (xs : List Int) (x : Int) : hasB xs x = decide (x ∈ xs) := by
  rw [Bool.eq_iff_iff, hasB_iff, decide_eq_true_iff]
set_option maxRecDepth 100000 in
set_option maxHeartbeats 2000000 in
set_option linter.unusedSimpArgs false in
theorem normArcs1 {F G : List Nat} (w : World) (u v : Value) (a b : RA) (hu : NotAt w F u a) (hv : NotAt w G v b) (hn : ¬(a.kind = 5 ∧ b.kind = 4)) :
    Calls Try.prog 55 #[arcV u a, arcV v b] w fun e w' => e = .returned (.bool (pair1 a b)) ∧ Frm [] w w' := by
  obtain ⟨a1, c1, rfl⟩ := RowV.shape hu
  obtain ⟨a2, c2, rfl⟩ := RowV.shape hv
  obtain ⟨R, hR⟩ : ∃ R, pair1 a b = R := ⟨_, rfl⟩
  rw [hR]
  have hrd := hu.rd
  have hh := hasB_dec a.not b.reg
  obtain ⟨kind, ch, reg, frm, not, tgt⟩ := a
  obtain ⟨kind', ch', reg', frm', not', tgt'⟩ := b
  simp only [pair1] at hR hn hh hrd
  have HRD := Lib.hid hrd
  clear hu hv hrd
  unfold arcV
  simp only
  have f0 : Frm [] w ((w.alloc (.cells #[.int .i64 kind, .int .i64 ch, .int .i64 reg, .int .i64 frm, .slice a1 not.length c1, .int .i64 tgt] 24)).alloc (.cells #[.int .i64 kind', .int .i64 ch', .int .i64 reg', .int .i64 frm', .slice a2 not'.length c2, .int .i64 tgt'] 24)) := ((Frm.refl [] w).alloc _).alloc _
  by_cases hc : kind = 4 ∧ kind' = 5 ∧ ch = ch'
  · rw [if_pos hc, ← hh] at hR
    obtain ⟨rfl, rfl, rfl⟩ := hc
    have HR := Lib.hid hR
    clear hR hh hn
    go_enter Try.func55, Try.ntmps55
    go_wp2_with fail
    refine (has_any _ a1 c1 not reg' _ (HRD.out.frm f0 (by simp))).mono ?_
    rintro e1 w1 ⟨rfl, hf1⟩
    rw [HR.out]
    go_wp2_with fail
    go_ret
    exact ⟨rfl, f0.trans hf1 (by simp)⟩
  · rw [if_neg hc] at hR
    have HR := Lib.hid hR
    clear hR hh
    by_cases k1 : kind = 5
    · have k2 : ¬ kind' = 4 := fun h => hn ⟨k1, h⟩
      have k3 : (kind' == 4) = false := by simpa using k2
      subst k1
      clear hc hn
      go_enter Try.func55, Try.ntmps55
      go_wp2_with fail
      all_goals
        go_ret
        refine ⟨ret_bool ?_, ((Frm.refl [] w).alloc _).alloc _⟩
        rw [← HR.out]
        first | (simp [*]; done) | (rw [Bool.eq_iff_iff]; simp [*]; done) | (rw [Bool.eq_iff_iff]; simp [*]; omega) | (rw [Bool.eq_iff_iff]; simp [*]; grind)
    · have k2 : (kind == 5) = false := by simpa using k1
      clear hn
      by_cases k4 : kind = 4
      · subst k4
        by_cases k5 : kind' = 5
        · subst k5
          have k6 : ¬ ch = ch' := fun h => hc ⟨rfl, rfl, h⟩
          have k7 : (ch == ch') = false := by simpa using k6
          clear hc
          go_enter Try.func55, Try.ntmps55
          go_wp2_with fail
          all_goals
            go_ret
            refine ⟨ret_bool ?_, ((Frm.refl [] w).alloc _).alloc _⟩
            rw [← HR.out]
            first | (simp [*]; done) | (rw [Bool.eq_iff_iff]; simp [*]; done) | (rw [Bool.eq_iff_iff]; simp [*]; omega) | (rw [Bool.eq_iff_iff]; simp [*]; grind)
        · have k7 : (kind' == 5) = false := by simpa using k5
          clear hc
          go_enter Try.func55, Try.ntmps55
          go_wp2_with fail
          all_goals
            go_ret
            refine ⟨ret_bool ?_, ((Frm.refl [] w).alloc _).alloc _⟩
            rw [← HR.out]
            first | (simp [*]; done) | (rw [Bool.eq_iff_iff]; simp [*]; done) | (rw [Bool.eq_iff_iff]; simp [*]; omega) | (rw [Bool.eq_iff_iff]; simp [*]; grind)
      · have k7 : (kind == 4) = false := by simpa using k4
        clear hc
        go_enter Try.func55, Try.ntmps55
        go_wp2_with fail
        all_goals
          go_ret
          refine ⟨ret_bool ?_, ((Frm.refl [] w).alloc _).alloc _⟩
          rw [← HR.out]
          first | (simp [*]; done) | (rw [Bool.eq_iff_iff]; simp [*]; done) | (rw [Bool.eq_iff_iff]; simp [*]; omega) | (rw [Bool.eq_iff_iff]; simp [*]; grind)

set_option maxHeartbeats 2000000 in
theorem normArcs_any {F G : List Nat} (w : World) (u v : Value) (a b : RA) (hu : NotAt w F u a) (hv : NotAt w G v b) :
    Calls Try.prog 55 #[arcV u a, arcV v b] w fun e w' => e = .returned (.bool (pair2 a b)) ∧ Frm [] w w' := by
  unfold pair2
  by_cases hn : a.kind = 5 ∧ b.kind = 4
  · rw [if_pos hn]
    obtain ⟨R, hR⟩ : ∃ R, pair1 b a = R := ⟨_, rfl⟩
    have hc := fun W (hf : Frm [] w W) => normArcs1 W v u b a (hv.nil hf) (hu.nil hf) (by omega)
    rw [hR] at hc ⊢
    obtain ⟨a1, c1, rfl⟩ := RowV.shape hu
    obtain ⟨a2, c2, rfl⟩ := RowV.shape hv
    obtain ⟨kind, ch, reg, frm, not, tgt⟩ := a
    obtain ⟨kind', ch', reg', frm', not', tgt'⟩ := b
    simp only at hn
    obtain ⟨rfl, rfl⟩ := hn
    unfold arcV at hc ⊢
    simp only at hc ⊢
    have HC := Lib.hid hc
    clear hc hR hu hv
    have f0 : Frm [] w ((w.alloc (.cells #[.int .i64 5, .int .i64 ch, .int .i64 reg, .int .i64 frm, .slice a1 not.length c1, .int .i64 tgt] 24)).alloc (.cells #[.int .i64 4, .int .i64 ch', .int .i64 reg', .int .i64 frm', .slice a2 not'.length c2, .int .i64 tgt'] 24)) := ((Frm.refl [] w).alloc _).alloc _
    go_enter Try.func55, Try.ntmps55
    go_wp2_with fail
    refine (HC.out _ f0).mono ?_
    rintro e1 w1 ⟨rfl, hf1⟩
    go_wp2_with fail
    go_ret
    exact ⟨rfl, f0.trans hf1 (by simp)⟩
  · rw [if_neg hn]
    exact normArcs1 w u v a b hu hv hn

end Go.Proofs.Ytfndgiinniibfaa.Ind
