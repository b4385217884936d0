/- Contracts of decidable and Threshold. -/
import Derived.Test.YtfndgiinniibfaaKY
namespace Go.Proofs.Ytfndgiinniibfaa.Ind
open Go.Shelf Go.RowKit Go.Lib

def decB (m1 m2 : RM) : Bool := decide (NormM m1) && (validM m2 && ((m1.data == m2.data) && (m1.plain == m2.plain)))
set_option linter.unusedSimpArgs false in
set_option maxRecDepth 100000 in
set_option maxHeartbeats 4000000 in
theorem decid_any {F G : List Nat} (w : World) (m1 m2 : RM) (s1 s2 : Value) (h1 : StatesAt w F s1 m1.states) (h2 : StatesAt w G s2 m2.states) :
    Calls Try.prog 22 #[machV m1 s1, machV m2 s2] w fun e w' => e = .returned (.bool (decB m1 m2)) ∧ Frm [] w w' := by
  obtain ⟨a1, c1, rfl, _⟩ := statesShape h1
  obtain ⟨a2, c2, rfl, _⟩ := statesShape h2
  have HN : Hid (∀ W, Frm [] w W → Calls Try.prog 9 #[machV m1 (.slice a1 m1.states.length c1)] W fun e w' => e = .returned (.bool (decide (NormM m1))) ∧ Frm [] W w') := Lib.hid fun W hf => norm_any W m1 _ (h1.nil hf)
  have HV : Hid (∀ W, Frm [] w W → Calls Try.prog 8 #[machV m2 (.slice a2 m2.states.length c2)] W fun e w' => e = .returned (.bool (validM m2)) ∧ Frm [] W w') := Lib.hid fun W hf => valid_any W m2 _ (h2.nil hf)
  have hb1 := (RowAt.made w 28 (mboxC m1 (.slice a1 m1.states.length c1)) #[.int .i64 m1.regs, .int .i64 m1.data, .int .i64 m1.plain, .slice a1 m1.states.length c1] rfl).alloc (.cells #[.int .i64 m2.regs, .int .i64 m2.data, .int .i64 m2.plain, .slice a2 m2.states.length c2] 28)
  have hb2 := row_made1 w (.cells #[.int .i64 m1.regs, .int .i64 m1.data, .int .i64 m1.plain, .slice a1 m1.states.length c1] 28) 28 (mboxC m2 (.slice a2 m2.states.length c2)) #[.int .i64 m2.regs, .int .i64 m2.data, .int .i64 m2.plain, .slice a2 m2.states.length c2] rfl
  have f0 : Frm [] w ((w.alloc (.cells #[.int .i64 m1.regs, .int .i64 m1.data, .int .i64 m1.plain, .slice a1 m1.states.length c1] 28)).alloc (.cells #[.int .i64 m2.regs, .int .i64 m2.data, .int .i64 m2.plain, .slice a2 m2.states.length c2] 28)) := ((Frm.refl [] w).alloc _).alloc _
  have HB1 := Lib.hid hb1
  have HB2 := Lib.hid hb2
  have F0 := Lib.hid f0
  clear h1 h2 hb1 hb2 f0
  unfold machV at HN HV
  unfold machV
  cases hn : decide (NormM m1) with
  | false =>
    rw [hn] at HN
    have HR : Hid (decB m1 m2 = false) := Lib.hid (by simp only [decB, hn, Bool.false_and])
    clear hn
    go_enter Try.func22, Try.ntmps22
    go_wp2_with fail
    refine (HN.out _ F0.out).mono ?_
    rintro e1 w1 ⟨rfl, hf1⟩
    go_wp2_with fail
    go_ret
    exact ⟨by rw [HR.out]; rfl, F0.out.trans hf1 (by simp)⟩
  | true =>
    rw [hn] at HN
    cases hv : validM m2 with
    | false =>
      rw [hv] at HV
      have HR : Hid (decB m1 m2 = false) := Lib.hid (by simp only [decB, hv, Bool.false_and, Bool.and_false])
      clear hn hv
      go_enter Try.func22, Try.ntmps22
      go_wp2_with fail
      refine (HN.out _ F0.out).mono ?_
      rintro e1 w1 ⟨rfl, hf1⟩
      have c0 := (HB2.out.frm hf1 (by simp)).cell (i := 0) rfl
      have c1 := (HB2.out.frm hf1 (by simp)).cell (i := 1) rfl
      have c2 := (HB2.out.frm hf1 (by simp)).cell (i := 2) rfl
      have c3 := (HB2.out.frm hf1 (by simp)).cell (i := 3) rfl
      go_wp2_with fail
      refine (HV.out _ (F0.out.trans hf1 (by simp))).mono ?_
      rintro e2 w2 ⟨rfl, hf2⟩
      go_wp2_with fail
      go_ret
      exact ⟨by rw [HR.out]; rfl, (F0.out.trans hf1 (by simp)).trans hf2 (by simp)⟩
    | true =>
      rw [hv] at HV
      have hr : decB m1 m2 = ((m1.data == m2.data) && (m1.plain == m2.plain)) := by simp only [decB, hn, hv, Bool.true_and]
      clear hn hv
      go_enter Try.func22, Try.ntmps22
      go_wp2_with fail
      refine (HN.out _ F0.out).mono ?_
      rintro e1 w1 ⟨rfl, hf1⟩
      have B1 := Lib.hid (HB1.out.frm hf1 (by simp))
      have B2 := Lib.hid (HB2.out.frm hf1 (by simp))
      have c0 := B2.out.cell (i := 0) rfl
      have c1 := B2.out.cell (i := 1) rfl
      have c2 := B2.out.cell (i := 2) rfl
      have c3 := B2.out.cell (i := 3) rfl
      go_wp2_with fail
      refine (HV.out _ (F0.out.trans hf1 (by simp))).mono ?_
      rintro e2 w2 ⟨rfl, hf2⟩
      have d1 := (B1.out.frm hf2 (by simp)).cell (i := 1) rfl
      have d2 := (B1.out.frm hf2 (by simp)).cell (i := 2) rfl
      have d3 := (B2.out.frm hf2 (by simp)).cell (i := 1) rfl
      have d4 := (B2.out.frm hf2 (by simp)).cell (i := 2) rfl
      have FE := Lib.hid ((F0.out.trans hf1 (by simp)).trans hf2 (by simp))
      clear c0 c1 c2 c3
      cases j1 : m1.data == m2.data with
      | false =>
        rw [j1, Bool.false_and] at hr
        have HR := Lib.hid hr
        clear hr
        go_wp2_with fail
        go_ret
        exact ⟨by rw [HR.out]; rfl, FE.out⟩
      | true =>
        rw [j1, Bool.true_and] at hr
        cases j2 : m1.plain == m2.plain with
        | false =>
          rw [j2] at hr
          have HR := Lib.hid hr
          clear hr
          go_wp2_with fail
          go_ret
          exact ⟨by rw [HR.out]; rfl, FE.out⟩
        | true =>
          rw [j2] at hr
          have HR := Lib.hid hr
          clear hr
          go_wp2_with fail
          go_ret
          exact ⟨by rw [HR.out]; rfl, FE.out⟩

set_option linter.unusedSimpArgs false in
set_option maxRecDepth 100000 in
set_option maxHeartbeats 4000000 in
theorem thr_any {F G : List Nat} (w : World) (m1 m2 : RM) (s1 s2 : Value) (h1 : StatesAt w F s1 m1.states) (h2 : StatesAt w G s2 m2.states) :
    Calls Try.prog 7 #[machV m1 s1, machV m2 s2] w fun e w' => e = .returned (.tuple #[.int .i64 (if decB m1 m2 = true then m1.regs + m2.regs + 1 else 0), .int .i64 (if decB m1 m2 = true then 0 else 1)]) ∧ Frm [] w w' := by
  obtain ⟨a1, c1, rfl, _⟩ := statesShape h1
  obtain ⟨a2, c2, rfl, _⟩ := statesShape h2
  have HD : Hid (∀ W, Frm [] w W → Calls Try.prog 22 #[machV m1 (.slice a1 m1.states.length c1), machV m2 (.slice a2 m2.states.length c2)] W fun e w' => e = .returned (.bool (decB m1 m2)) ∧ Frm [] W w') := Lib.hid fun W hf => decid_any W m1 m2 _ _ (h1.nil hf) (h2.nil hf)
  have hb1 := (RowAt.made w 28 (mboxC m1 (.slice a1 m1.states.length c1)) #[.int .i64 m1.regs, .int .i64 m1.data, .int .i64 m1.plain, .slice a1 m1.states.length c1] rfl).alloc (.cells #[.int .i64 m2.regs, .int .i64 m2.data, .int .i64 m2.plain, .slice a2 m2.states.length c2] 28)
  have hb2 := row_made1 w (.cells #[.int .i64 m1.regs, .int .i64 m1.data, .int .i64 m1.plain, .slice a1 m1.states.length c1] 28) 28 (mboxC m2 (.slice a2 m2.states.length c2)) #[.int .i64 m2.regs, .int .i64 m2.data, .int .i64 m2.plain, .slice a2 m2.states.length c2] rfl
  have f0 : Frm [] w ((w.alloc (.cells #[.int .i64 m1.regs, .int .i64 m1.data, .int .i64 m1.plain, .slice a1 m1.states.length c1] 28)).alloc (.cells #[.int .i64 m2.regs, .int .i64 m2.data, .int .i64 m2.plain, .slice a2 m2.states.length c2] 28)) := ((Frm.refl [] w).alloc _).alloc _
  have HB1 := Lib.hid hb1
  have HB2 := Lib.hid hb2
  have F0 := Lib.hid f0
  clear h1 h2 hb1 hb2 f0
  unfold machV at HD
  unfold machV
  cases hd : decB m1 m2 with
  | false =>
    rw [hd] at HD
    clear hd
    go_enter Try.func7, Try.ntmps7
    go_wp2_with fail
    refine (HD.out _ F0.out).mono ?_
    rintro e1 w1 ⟨rfl, hf1⟩
    go_wp2_with fail
    refine bodyPost_ret (v := .tuple #[.int .i64 0, .int .i64 1]) (by simp [results, Try.results7, go_sem]) rfl ?_
    exact ⟨rfl, F0.out.trans hf1 (by simp)⟩
  | true =>
    rw [hd] at HD
    have hd2 := hd
    simp only [decB, Bool.and_eq_true, decide_eq_true_eq] at hd2
    have o1 := validM_ok hd2.1.1
    have o2 := validM_ok hd2.2.1
    have i1 := o1.r0
    have i2 := o1.r1
    have i3 := o2.r0
    have i4 := o2.r1
    clear hd hd2 o1 o2
    go_enter Try.func7, Try.ntmps7
    go_wp2_with fail
    refine (HD.out _ F0.out).mono ?_
    rintro e1 w1 ⟨rfl, hf1⟩
    have d1 := (HB1.out.frm hf1 (by simp)).cell (i := 0) rfl
    have d2 := (HB2.out.frm hf1 (by simp)).cell (i := 0) rfl
    have w1' : IntKind.i64.wrap (m1.regs + m2.regs) = m1.regs + m2.regs := IntWalk.i64_in _ (by omega)
    have w2' : IntKind.i64.wrap (m1.regs + m2.regs + 1) = m1.regs + m2.regs + 1 := IntWalk.i64_in _ (by omega)
    go_wp2_with fail
    refine bodyPost_ret (v := .tuple #[.int .i64 (m1.regs + m2.regs + 1), .int .i64 0]) (by simp [results, Try.results7, go_sem]) rfl ?_
    exact ⟨rfl, F0.out.trans hf1 (by simp)⟩

end Go.Proofs.Ytfndgiinniibfaa.Ind
