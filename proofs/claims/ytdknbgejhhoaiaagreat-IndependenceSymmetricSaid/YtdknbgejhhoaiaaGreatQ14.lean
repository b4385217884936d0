/- Texts K9, KA, KB, KC. -/
import Derived.Test.YtdknbgejhhoaiaaGreatQ13
import Derived.Deep.RegionHeld3
import Derived.Test.YtdknbgejhhoaiaaGreatQ09
/- Contracts of the reference's ValidMachine. -/
namespace Go.Proofs.YtdknbgejhhoaiaaGreat.Ind
open Go.Shelf
open Go.RowKit

set_option maxRecDepth 100000 in
set_option maxHeartbeats 4000000 in
set_option linter.unusedSimpArgs false in
theorem validMachine_any {F : List Nat} (w : World) (m : RM) (sv : Value) (h : StatesAt w F sv m.states) :
    Calls Tryz.prog 24 #[machV m sv] w fun e w' => e = .returned (.bool (validM m)) ∧ Frm [] w w' := by
  obtain ⟨sa, sc, rfl, l1⟩ := statesShape h
  have H := Lib.hid h
  obtain ⟨V, hV⟩ : ∃ V, validM m = V := ⟨_, rfl⟩
  rw [hV]
  rw [validM_eq] at hV
  have HV := Lib.hid hV
  have HAB : Hid (0 ≤ m.regs → ∀ (W : World) (v : Value) (a : RA), NotAt W F v a → Calls Tryz.prog 53 #[machV m (.slice sa m.states.length sc), arcV v a] W fun e w' => e = .returned (.bool (arcB m a)) ∧ Frm [] W w') :=
    Lib.hid fun h0 W v a hv => arcOK_any W m sa sc v a h0 hv
  have HM : Hid (RowAt (w.alloc (.cells #[.int .i64 m.regs, .int .i64 m.data, .int .i64 m.plain, .slice sa m.states.length sc] 30)) w.heap.size 30 (mboxC m (.slice sa m.states.length sc))) := Lib.hid (RowAt.made w _ _ _ rfl)
  clear h hV
  have f0 : Frm [] w (w.alloc (.cells #[.int .i64 m.regs, .int .i64 m.data, .int .i64 m.plain, .slice sa m.states.length sc] 30)) := (Frm.refl [] w).alloc _
  unfold machV mboxC at *
  generalize hregs : m.regs = regs at *
  generalize hdata : m.data = data at *
  generalize hplain : m.plain = plain at *
  clear hregs hdata hplain
  by_cases hb : 0 ≤ regs ∧ regs ≤ 4 ∧ 0 ≤ data ∧ data ≤ 8 ∧ 0 ≤ plain ∧ plain ≤ 8 ∧ 1 ≤ m.states.length ∧ m.states.length ≤ 64
  · obtain ⟨b1, b2, b3, b4, b5, b6, b7, b8⟩ := hb
    have HAB2 := Lib.hid (HAB.out b1)
    have HVV : Hid (m.states.all (rowOk m) = V) := Lib.hid (by
      have e1 : belowB regs 5 = true := by simp [belowB]; omega
      have e2 : belowB data 9 = true := by simp [belowB]; omega
      have e3 : belowB plain 9 = true := by simp [belowB]; omega
      rw [← HV.out, e1, e2, e3, decide_eq_true b7, decide_eq_true b8]
      simp)
    have c1 : ¬ regs < 0 := by omega
    have c2 : ¬ 4 < regs := by omega
    have c3 : ¬ data < 0 := by omega
    have c4 : ¬ 8 < data := by omega
    have c5 : ¬ plain < 0 := by omega
    have c6 : ¬ 8 < plain := by omega
    have c7 : ¬ (m.states.length : Int) < 1 := by omega
    have c8 : ¬ 64 < (m.states.length : Int) := by omega
    clear b1 b2 b3 b4 b5 b6 b7 b8 HV HAB
    go_enter Tryz.func24, Tryz.ntmps24
    go_wp2_with fail
    have HF0 := Lib.hid f0
    clear f0 c1 c2 c3 c4 c5 c6 c7 c8
    generalize hW0 : w.alloc (.cells #[.int .i64 regs, .int .i64 data, .int .i64 plain, .slice sa m.states.length sc] 30) = W0 at *
    generalize hx0 : w.heap.size = x0 at *
    clear hW0 hx0
    go_loopg [3] m.states.length (fun q i wr => ∃ (k : Nat), q = m.states.length - k ∧ k ≤ m.states.length ∧ i = .int .i64 k ∧ (m.states.drop k).all (rowOk m) = V ∧ Frm [] W0 wr)
    case atStart => exact ⟨0, rfl, Nat.zero_le _, rfl, HVV.out, Frm.refl _ _⟩
    case round =>
      obtain ⟨k, rfl, hk, rfl, hd, hF⟩ := hrel
      have HF := Lib.hid hF
      have i4 : (0 : Int) ≤ (k : Int) := by omega
      have q3 := (HM.out.frm hF (by simp)).cell (i := 3) rfl
      clear hF HVV
      by_cases hlt : k < m.states.length
      · have i5 : (k : Int) < (m.states.length : Int) := by omega
        obtain ⟨r, hr⟩ : ∃ r, m.states[k]? = some r := ⟨_, List.getElem?_eq_getElem hlt⟩
        rw [drop_cons hr, List.all_cons] at hd
        have HW := Lib.hid (HF0.out.trans HF.out (by simp))
        obtain ⟨b, o, c, a, n, cc, e1, _, _, _, hcell, rfl, harcs⟩ := H.out.at_ hr
        cases e1
        have D1 := Lib.hid hcell
        have d1 := HW.out.cell hcell (by simp)
        have HA := Lib.hid harcs
        have hrl : (r.length : Int) ≤ 9223372036854775807 := by
          obtain ⟨_, _, _, h9⟩ := harcs.shape
          exact h9
        clear hcell harcs hr
        by_cases h16 : r.length ≤ 16
        · have i6 : ¬ 16 < (r.length : Int) := by omega
          have HD : Hid ((r.all (arcB m) && (m.states.drop (k + 1)).all (rowOk m)) = V) := Lib.hid (by rw [← hd, rowOk, decide_eq_true h16]; simp)
          clear hd h16
          go_wp2_with fail
          go_loopg [4] r.length (fun q i wr => ∃ (j : Nat), q = r.length - j ∧ j ≤ r.length ∧ i = .int .i64 j ∧ ((r.drop j).all (arcB m) && (m.states.drop (k + 1)).all (rowOk m)) = V ∧ Frm [] W0 wr)
          case atStart => exact ⟨0, rfl, Nat.zero_le _, rfl, HD.out, HF.out⟩
          case round =>
            clear q3 d1 HW HD HF
            obtain ⟨j, rfl, hj, rfl, hd2, hF2⟩ := hrel
            have HF := Lib.hid hF2
            have i7 : (0 : Int) ≤ (j : Int) := by omega
            have hM := HM.out.frm hF2 (by simp)
            have q0 := hM.cell (i := 0) rfl
            have q1 := hM.cell (i := 1) rfl
            have q2 := hM.cell (i := 2) rfl
            have q3 := hM.cell (i := 3) rfl
            have HW := Lib.hid (HF0.out.trans hF2 (by simp))
            have d1 := HW.out.cell D1.out (by simp)
            clear hF2 hM
            by_cases hjl : j < r.length
            · have i8 : (j : Int) < (r.length : Int) := by omega
              obtain ⟨y, hy⟩ : ∃ y, r[j]? = some y := ⟨_, List.getElem?_eq_getElem hjl⟩
              rw [drop_cons hy, List.all_cons, Bool.and_assoc] at hd2
              obtain ⟨b9, o9, na, nc, rfl, _, _, g0, g1, g2, g3, g4, g5, hn⟩ := HA.out.at_ hy
              have p0 := HW.out.cell g0 (by simp)
              have p1 := HW.out.cell g1 (by simp)
              have p2 := HW.out.cell g2 (by simp)
              have p3 := HW.out.cell g3 (by simp)
              have p4 := HW.out.cell g4 (by simp)
              have p5 := HW.out.cell g5 (by simp)
              have HN := Lib.hid ((hn.nil HW.out).nil (Frm.refl [] wr).drew)
              have hcall := HAB2.out wr.drew _ y HN.out
              unfold arcV at hcall
              clear g0 g1 g2 g3 g4 g5 hn hy HN
              have P0 := Lib.hid p0
              have P1 := Lib.hid p1
              have P2 := Lib.hid p2
              have P3 := Lib.hid p3
              have P4 := Lib.hid p4
              have P5 := Lib.hid p5
              have Q0 := Lib.hid q0
              have Q1 := Lib.hid q1
              have Q2 := Lib.hid q2
              have Q3 := Lib.hid q3
              have DD := Lib.hid d1
              clear p0 p1 p2 p3 p4 p5
              cases hok : arcB m y with
              | true =>
                rw [hok] at hcall hd2
                rw [Bool.true_and] at hd2
                have HC := Lib.hid hcall
                have HD := Lib.hid hd2
                clear hcall hd2 hok
                go_wp2_with fail
                clear q0 q1 q2 q3 d1
                go_region_held3 (fun w' => w'.cell? ⟨x0, 0, none⟩ = some (.int .i64 regs) ∧ w'.cell? ⟨x0, 1, none⟩ = some (.int .i64 data) ∧ w'.cell? ⟨x0, 2, none⟩ = some (.int .i64 plain) ∧ w'.cell? ⟨x0, 3, none⟩ = some (.slice (some ⟨b, o, none⟩) m.states.length sc) ∧ w'.cell? ⟨b, o + k, none⟩ = some (.slice (some ⟨b9, o9, none⟩) r.length cc) ∧ w'.cell? ⟨b9, o9 + j * 6, none⟩ = some (.int .i64 y.kind) ∧ w'.cell? ⟨b9, o9 + j * 6 + 1, none⟩ = some (.int .i64 y.ch) ∧ w'.cell? ⟨b9, o9 + j * 6 + 2, none⟩ = some (.int .i64 y.reg) ∧ w'.cell? ⟨b9, o9 + j * 6 + 3, none⟩ = some (.int .i64 y.frm) ∧ w'.cell? ⟨b9, o9 + j * 6 + 4, none⟩ = some (.slice na y.not.length nc) ∧ w'.cell? ⟨b9, o9 + j * 6 + 5, none⟩ = some (.int .i64 y.to))
                  (first | exact ⟨Q0.out, Q1.out, Q2.out, Q3.out, DD.out, P0.out, P1.out, P2.out, P3.out, P4.out, P5.out⟩ | exact ⟨hf5.cell Q0.out (by simp), hf5.cell Q1.out (by simp), hf5.cell Q2.out (by simp), hf5.cell Q3.out (by simp), hf5.cell DD.out (by simp), hf5.cell P0.out (by simp), hf5.cell P1.out (by simp), hf5.cell P2.out (by simp), hf5.cell P3.out (by simp), hf5.cell P4.out (by simp), hf5.cell P5.out (by simp)⟩)
                  (first | (go_at_call 53; refine HC.out.mono ?_; rintro e5 w5 ⟨rfl, hf5⟩))
                go_wp2_with fail
                go_roundg (r.length - (j + 1))
                case rel => exact ⟨j + 1, rfl, by omega, by go_num, HD.out, HF.out.drew.trans hf5 (by simp)⟩
                case measure => omega
              | false =>
                rw [hok] at hcall hd2
                rw [Bool.false_and] at hd2
                have HC := Lib.hid hcall
                have HD := Lib.hid hd2
                clear hcall hd2 hok
                go_wp2_with fail
                clear q0 q1 q2 q3 d1
                go_region_held3 (fun w' => w'.cell? ⟨x0, 0, none⟩ = some (.int .i64 regs) ∧ w'.cell? ⟨x0, 1, none⟩ = some (.int .i64 data) ∧ w'.cell? ⟨x0, 2, none⟩ = some (.int .i64 plain) ∧ w'.cell? ⟨x0, 3, none⟩ = some (.slice (some ⟨b, o, none⟩) m.states.length sc) ∧ w'.cell? ⟨b, o + k, none⟩ = some (.slice (some ⟨b9, o9, none⟩) r.length cc) ∧ w'.cell? ⟨b9, o9 + j * 6, none⟩ = some (.int .i64 y.kind) ∧ w'.cell? ⟨b9, o9 + j * 6 + 1, none⟩ = some (.int .i64 y.ch) ∧ w'.cell? ⟨b9, o9 + j * 6 + 2, none⟩ = some (.int .i64 y.reg) ∧ w'.cell? ⟨b9, o9 + j * 6 + 3, none⟩ = some (.int .i64 y.frm) ∧ w'.cell? ⟨b9, o9 + j * 6 + 4, none⟩ = some (.slice na y.not.length nc) ∧ w'.cell? ⟨b9, o9 + j * 6 + 5, none⟩ = some (.int .i64 y.to))
                  (first | exact ⟨Q0.out, Q1.out, Q2.out, Q3.out, DD.out, P0.out, P1.out, P2.out, P3.out, P4.out, P5.out⟩ | exact ⟨hf5.cell Q0.out (by simp), hf5.cell Q1.out (by simp), hf5.cell Q2.out (by simp), hf5.cell Q3.out (by simp), hf5.cell DD.out (by simp), hf5.cell P0.out (by simp), hf5.cell P1.out (by simp), hf5.cell P2.out (by simp), hf5.cell P3.out (by simp), hf5.cell P4.out (by simp), hf5.cell P5.out (by simp)⟩)
                  (first | (go_at_call 53; refine HC.out.mono ?_; rintro e5 w5 ⟨rfl, hf5⟩))
                go_wp2_with fail
                go_ret
                exact ⟨by rw [← HD.out]; rfl, HF0.out.trans (HF.out.drew.trans hf5 (by simp)) (by simp)⟩
            · have i8 : ¬ (j : Int) < (r.length : Int) := by omega
              have HD : Hid ((m.states.drop (k + 1)).all (rowOk m) = V) := Lib.hid (by
                have e9 : r.drop j = [] := List.drop_eq_nil_of_le (by omega)
                rw [← hd2, e9]; rfl)
              clear hd2
              go_wp2_with fail
              go_roundg (m.states.length - (k + 1))
              case rel => exact ⟨k + 1, rfl, by omega, by go_num, HD.out, HF.out⟩
              case measure => omega
        · have i6 : 16 < (r.length : Int) := by omega
          have HD : Hid (V = false) := Lib.hid (by rw [← hd, rowOk, decide_eq_false h16]; simp)
          clear hd h16
          go_wp2_with fail
          go_ret
          exact ⟨by rw [HD.out]; rfl, HW.out⟩
      · have i5 : ¬ (k : Int) < (m.states.length : Int) := by omega
        have HT : Hid (V = true) := Lib.hid (by rw [← hd, List.drop_eq_nil_of_le (by omega)]; rfl)
        clear hd
        go_wp2_with fail
        go_ret
        exact ⟨by rw [HT.out]; rfl, HF0.out.trans HF.out (by simp)⟩
  · have HX : Hid (V = false) := Lib.hid (by
      rw [← HV.out, Bool.eq_false_iff]
      intro h9
      simp only [Bool.and_eq_true, below_iff, decide_eq_true_eq] at h9
      exact hb (by omega))
    have hor : regs < 0 ∨ (¬ regs < 0 ∧ 4 < regs) ∨ (¬ regs < 0 ∧ ¬ 4 < regs ∧ data < 0) ∨ (¬ regs < 0 ∧ ¬ 4 < regs ∧ ¬ data < 0 ∧ 8 < data) ∨ (¬ regs < 0 ∧ ¬ 4 < regs ∧ ¬ data < 0 ∧ ¬ 8 < data ∧ plain < 0) ∨ (¬ regs < 0 ∧ ¬ 4 < regs ∧ ¬ data < 0 ∧ ¬ 8 < data ∧ ¬ plain < 0 ∧ 8 < plain) ∨ (¬ regs < 0 ∧ ¬ 4 < regs ∧ ¬ data < 0 ∧ ¬ 8 < data ∧ ¬ plain < 0 ∧ ¬ 8 < plain ∧ (m.states.length : Int) < 1) ∨ (¬ regs < 0 ∧ ¬ 4 < regs ∧ ¬ data < 0 ∧ ¬ 8 < data ∧ ¬ plain < 0 ∧ ¬ 8 < plain ∧ ¬ (m.states.length : Int) < 1 ∧ 64 < (m.states.length : Int)) := by omega
    clear hb HV
    rcases hor with h1 | ⟨h1, h2⟩ | ⟨h1, h2, h3⟩ | ⟨h1, h2, h3, h4⟩ | ⟨h1, h2, h3, h4, h5⟩ | ⟨h1, h2, h3, h4, h5, h6⟩ | ⟨h1, h2, h3, h4, h5, h6, h7⟩ | ⟨h1, h2, h3, h4, h5, h6, h7, h8⟩
    all_goals
      go_enter Tryz.func24, Tryz.ntmps24
      go_wp2_with fail
      go_ret
      exact ⟨by rw [HX.out]; rfl, f0⟩

end Go.Proofs.YtdknbgejhhoaiaaGreat.Ind

/- Contracts of the reference's normArcs and Norm. -/
namespace Go.Proofs.YtdknbgejhhoaiaaGreat.Ind
open Go.Shelf
open Go.RowKit

theorem hasB_dec (xs : List Int) (x : Int) : hasB xs x = decide (x ∈ xs) := by
  rw [Bool.eq_iff_iff, hasB_iff, decide_eq_true_iff]
set_option maxRecDepth 100000 in
set_option maxHeartbeats 2000000 in
set_option linter.unusedSimpArgs false in
theorem normArcs1 {F G : List Nat} (w : World) (u v : Value) (a b : RA) (hu : NotAt w F u a) (hv : NotAt w G v b) (hn : ¬(a.kind = 5 ∧ b.kind = 4)) :
    Calls Tryz.prog 43 #[arcV u a, arcV v b] w fun e w' => e = .returned (.bool (pair1 a b)) ∧ Frm [] w w' := by
  obtain ⟨a1, c1, rfl⟩ := RowV.shape hu
  obtain ⟨a2, c2, rfl⟩ := RowV.shape hv
  obtain ⟨R, hR⟩ : ∃ R, pair1 a b = R := ⟨_, rfl⟩
  rw [hR]
  have hrd := hu.rd
  have hh := hasB_dec a.not b.reg
  obtain ⟨kind, ch, reg, frm, not, tgt⟩ := a
  obtain ⟨kind', ch', reg', frm', not', tgt'⟩ := b
  simp only [pair1] at hR hn hh hrd
  have HRD := Lib.hid hrd
  clear hu hv hrd
  unfold arcV
  simp only
  have f0 : Frm [] w ((w.alloc (.cells #[.int .i64 kind, .int .i64 ch, .int .i64 reg, .int .i64 frm, .slice a1 not.length c1, .int .i64 tgt] 47)).alloc (.cells #[.int .i64 kind', .int .i64 ch', .int .i64 reg', .int .i64 frm', .slice a2 not'.length c2, .int .i64 tgt'] 47)) := ((Frm.refl [] w).alloc _).alloc _
  by_cases hc : kind = 4 ∧ kind' = 5 ∧ ch = ch'
  · rw [if_pos hc, ← hh] at hR
    obtain ⟨rfl, rfl, rfl⟩ := hc
    have HR := Lib.hid hR
    clear hR hh hn
    go_enter Tryz.func43, Tryz.ntmps43
    go_wp2_with fail
    refine (has_any _ a1 c1 not reg' _ (HRD.out.frm f0 (by simp))).mono ?_
    rintro e1 w1 ⟨rfl, hf1⟩
    rw [HR.out]
    go_wp2_with fail
    go_ret
    exact ⟨rfl, f0.trans hf1 (by simp)⟩
  · rw [if_neg hc] at hR
    have HR := Lib.hid hR
    clear hR hh
    by_cases k1 : kind = 5
    · have k2 : ¬ kind' = 4 := fun h => hn ⟨k1, h⟩
      have k3 : (kind' == 4) = false := by simpa using k2
      subst k1
      clear hc hn
      go_enter Tryz.func43, Tryz.ntmps43
      go_wp2_with fail
      all_goals
        go_ret
        refine ⟨ret_bool ?_, ((Frm.refl [] w).alloc _).alloc _⟩
        rw [← HR.out]
        first | (simp [*]; done) | (rw [Bool.eq_iff_iff]; simp [*]; done) | (rw [Bool.eq_iff_iff]; simp [*]; omega) | (rw [Bool.eq_iff_iff]; simp [*]; grind)
    · have k2 : (kind == 5) = false := by simpa using k1
      clear hn
      by_cases k4 : kind = 4
      · subst k4
        by_cases k5 : kind' = 5
        · subst k5
          have k6 : ¬ ch = ch' := fun h => hc ⟨rfl, rfl, h⟩
          have k7 : (ch == ch') = false := by simpa using k6
          clear hc
          go_enter Tryz.func43, Tryz.ntmps43
          go_wp2_with fail
          all_goals
            go_ret
            refine ⟨ret_bool ?_, ((Frm.refl [] w).alloc _).alloc _⟩
            rw [← HR.out]
            first | (simp [*]; done) | (rw [Bool.eq_iff_iff]; simp [*]; done) | (rw [Bool.eq_iff_iff]; simp [*]; omega) | (rw [Bool.eq_iff_iff]; simp [*]; grind)
        · have k7 : (kind' == 5) = false := by simpa using k5
          clear hc
          go_enter Tryz.func43, Tryz.ntmps43
          go_wp2_with fail
          all_goals
            go_ret
            refine ⟨ret_bool ?_, ((Frm.refl [] w).alloc _).alloc _⟩
            rw [← HR.out]
            first | (simp [*]; done) | (rw [Bool.eq_iff_iff]; simp [*]; done) | (rw [Bool.eq_iff_iff]; simp [*]; omega) | (rw [Bool.eq_iff_iff]; simp [*]; grind)
      · have k7 : (kind == 4) = false := by simpa using k4
        clear hc
        go_enter Tryz.func43, Tryz.ntmps43
        go_wp2_with fail
        all_goals
          go_ret
          refine ⟨ret_bool ?_, ((Frm.refl [] w).alloc _).alloc _⟩
          rw [← HR.out]
          first | (simp [*]; done) | (rw [Bool.eq_iff_iff]; simp [*]; done) | (rw [Bool.eq_iff_iff]; simp [*]; omega) | (rw [Bool.eq_iff_iff]; simp [*]; grind)

set_option maxHeartbeats 2000000 in
theorem normArcs_any {F G : List Nat} (w : World) (u v : Value) (a b : RA) (hu : NotAt w F u a) (hv : NotAt w G v b) :
    Calls Tryz.prog 43 #[arcV u a, arcV v b] w fun e w' => e = .returned (.bool (pair2 a b)) ∧ Frm [] w w' := by
  unfold pair2
  by_cases hn : a.kind = 5 ∧ b.kind = 4
  · rw [if_pos hn]
    obtain ⟨R, hR⟩ : ∃ R, pair1 b a = R := ⟨_, rfl⟩
    have hc := fun W (hf : Frm [] w W) => normArcs1 W v u b a (hv.nil hf) (hu.nil hf) (by omega)
    rw [hR] at hc ⊢
    obtain ⟨a1, c1, rfl⟩ := RowV.shape hu
    obtain ⟨a2, c2, rfl⟩ := RowV.shape hv
    obtain ⟨kind, ch, reg, frm, not, tgt⟩ := a
    obtain ⟨kind', ch', reg', frm', not', tgt'⟩ := b
    simp only at hn
    obtain ⟨rfl, rfl⟩ := hn
    unfold arcV at hc ⊢
    simp only at hc ⊢
    have HC := Lib.hid hc
    clear hc hR hu hv
    have f0 : Frm [] w ((w.alloc (.cells #[.int .i64 5, .int .i64 ch, .int .i64 reg, .int .i64 frm, .slice a1 not.length c1, .int .i64 tgt] 47)).alloc (.cells #[.int .i64 4, .int .i64 ch', .int .i64 reg', .int .i64 frm', .slice a2 not'.length c2, .int .i64 tgt'] 47)) := ((Frm.refl [] w).alloc _).alloc _
    go_enter Tryz.func43, Tryz.ntmps43
    go_wp2_with fail
    refine (HC.out _ f0).mono ?_
    rintro e1 w1 ⟨rfl, hf1⟩
    go_wp2_with fail
    go_ret
    exact ⟨rfl, f0.trans hf1 (by simp)⟩
  · rw [if_neg hn]
    exact normArcs1 w u v a b hu hv hn

end Go.Proofs.YtdknbgejhhoaiaaGreat.Ind

/- Contract of the reference's Norm. -/
namespace Go.Proofs.YtdknbgejhhoaiaaGreat.Ind
open Go.Shelf
open Go.RowKit

theorem normP_pre {r : List RA} {k : Nat} (h : NormP r) : NormP (r.take k) :=
  ⟨fun a ha => h.1 a (List.mem_of_mem_take ha), h.2.sublist (List.take_sublist _ _)⟩
/-- What still must hold when a state's arcs are being looked at. -/
def LeftB (m : RM) (s : Nat) : Bool := decide (∀ row ∈ m.states.drop s, NormP row)
theorem leftB_cons {m : RM} {s : Nat} {r : List RA} (h : m.states[s]? = some r) : LeftB m s = (decide (NormP r) && LeftB m (s + 1)) := by
  rw [Bool.eq_iff_iff]
  simp [LeftB, drop_cons h]
theorem leftB_end {m : RM} {s : Nat} (h : m.states.length ≤ s) : LeftB m s = true := by
  simp [LeftB, List.drop_eq_nil_of_le h]

set_option maxRecDepth 100000 in
set_option maxHeartbeats 8000000 in
set_option linter.unusedSimpArgs false in
theorem refNorm_any {F : List Nat} (w : World) (m : RM) (sv : Value) (h : StatesAt w F sv m.states) :
    Calls Tryz.prog 17 #[machV m sv] w fun e w' => e = .returned (.bool (decide (NormM m))) ∧ Frm [] w w' := by
  have hval := fun W (hf : Frm [] w W) => validMachine_any W m sv (h.nil hf)
  obtain ⟨sa, sc, rfl, l1⟩ := statesShape h
  have H := Lib.hid h
  obtain ⟨V, hV⟩ : ∃ V, decide (NormM m) = V := ⟨_, rfl⟩
  rw [hV]
  have HV := Lib.hid hV
  have HM : Hid (RowAt (w.alloc (.cells #[.int .i64 m.regs, .int .i64 m.data, .int .i64 m.plain, .slice sa m.states.length sc] 30)) w.heap.size 30 (mboxC m (.slice sa m.states.length sc))) := Lib.hid (RowAt.made w _ _ _ rfl)
  clear h hV
  have f0 : Frm [] w (w.alloc (.cells #[.int .i64 m.regs, .int .i64 m.data, .int .i64 m.plain, .slice sa m.states.length sc] 30)) := (Frm.refl [] w).alloc _
  unfold machV at hval ⊢
  unfold mboxC at HM
  generalize hregs : m.regs = regs at *
  generalize hdata : m.data = data at *
  generalize hplain : m.plain = plain at *
  clear hregs hdata hplain
  cases hvm : validM m with
  | false =>
    rw [hvm] at hval
    have HC := Lib.hid hval
    have HX : Hid (V = false) := Lib.hid (by rw [← HV.out]; exact decide_eq_false fun h9 => by have := h9.1; rw [hvm] at this; cases this)
    clear hval hvm
    go_enter Tryz.func17, Tryz.ntmps17
    go_wp2_with fail
    refine (HC.out _ f0).mono ?_
    rintro e1 w1 ⟨rfl, hf1⟩
    go_wp2_with fail
    go_ret
    exact ⟨by rw [HX.out]; rfl, f0.trans hf1 (by simp)⟩
  | true =>
    rw [hvm] at hval
    have HC := Lib.hid hval
    have HVV : Hid (LeftB m 0 = V) := Lib.hid (by
      rw [← HV.out, Bool.eq_iff_iff]
      simp [LeftB, NormM, hvm])
    have HTK : Hid (∀ (r : List RA), r ∈ m.states → ∀ a ∈ r, TickOk a) := Lib.hid fun r hr a ha => tick_of_arc (validM_arc hvm hr ha)
    clear hval hvm HV
    go_enter Tryz.func17, Tryz.ntmps17
    go_wp2_with fail
    refine (HC.out _ f0).mono ?_
    rintro e1 w1 ⟨rfl, hf1⟩
    have HF0 := Lib.hid (f0.trans hf1 (by simp))
    have HM1 := Lib.hid (HM.out.frm hf1 (by simp))
    have q3 := HM1.out.cell (i := 3) rfl
    clear f0 hf1 HM HC
    generalize hx0 : w.heap.size = x0 at *
    clear hx0
    go_wp2_with fail
    clear q3
    go_loopg [3] m.states.length (fun q i wr => ∃ (k : Nat), q = m.states.length - k ∧ k ≤ m.states.length ∧ i = .int .i64 k ∧ LeftB m k = V ∧ Frm [] w1 wr)
    case atStart => exact ⟨0, rfl, Nat.zero_le _, rfl, HVV.out, Frm.refl _ _⟩
    case round =>
      obtain ⟨k, rfl, hk, rfl, hd, hF⟩ := hrel
      have HF := Lib.hid hF
      have i4 : (0 : Int) ≤ (k : Int) := by omega
      have q3 := (HM1.out.frm hF (by simp)).cell (i := 3) rfl
      clear hF HVV
      by_cases hlt : k < m.states.length
      · have i5 : (k : Int) < (m.states.length : Int) := by omega
        obtain ⟨r, hr⟩ : ∃ r, m.states[k]? = some r := ⟨_, List.getElem?_eq_getElem hlt⟩
        rw [leftB_cons hr] at hd
        have HW := Lib.hid (HF0.out.trans HF.out (by simp))
        obtain ⟨b, o, c, a, n, cc, e1, _, _, _, hcell, rfl, harcs⟩ := H.out.at_ hr
        cases e1
        have d1 := HW.out.cell hcell (by simp)
        have HA := Lib.hid harcs
        have hrl : (r.length : Int) ≤ 9223372036854775807 := by
          obtain ⟨_, _, _, h9⟩ := harcs.shape
          exact h9
        have HT := Lib.hid (HTK.out r (List.mem_of_getElem? hr))
        have HD := Lib.hid hd
        clear hcell harcs hr hd
        go_wp2_with fail
        go_loopg [5] r.length (fun q i wr => ∃ (j : Nat), q = r.length - j ∧ j ≤ r.length ∧ i = .int .i64 j ∧ NormP (r.take j) ∧ Frm [] w1 wr)
        case atStart => exact ⟨0, rfl, Nat.zero_le _, rfl, ⟨by simp, by simp⟩, HF.out⟩
        case round =>
          clear q3 d1 HW HF
          obtain ⟨j, rfl, hj, rfl, hn2, hF2⟩ := hrel
          have HF := Lib.hid hF2
          have i7 : (0 : Int) ≤ (j : Int) := by omega
          have HW := Lib.hid (HF0.out.trans hF2 (by simp))
          have HN2 := Lib.hid hn2
          clear hF2 hn2
          by_cases hjl : j < r.length
          · have i8 : (j : Int) < (r.length : Int) := by omega
            obtain ⟨y, hy⟩ : ∃ y, r[j]? = some y := ⟨_, List.getElem?_eq_getElem hjl⟩
            obtain ⟨b9, o9, na, nc, rfl, _, _, g0, g1, g2, g3, g4, g5, hn⟩ := HA.out.at_ hy
            have p0 := HW.out.cell g0 (by simp)
            have G0 := Lib.hid g0
            have G1 := Lib.hid g1
            have G2 := Lib.hid g2
            have G3 := Lib.hid g3
            have G4 := Lib.hid g4
            have G5 := Lib.hid g5
            have HNY := Lib.hid hn
            have HTS := Lib.hid (take_snoc hy)
            have HTY := Lib.hid (HT.out y (List.mem_of_getElem? hy))
            have hbad : ¬ NormP (r.take (j + 1)) → Hid (V = false) := fun h9 => Lib.hid (by
              rw [← HD.out, decide_eq_false (fun hp => h9 (normP_pre hp))]; rfl)
            have HBAD := Lib.hid hbad
            clear g0 g1 g2 g3 g4 g5 hn hy hbad
            by_cases hkind : KindOk y
            · have j1 : (y.kind == 1) = false := by simpa using hkind.1
              have j6 : (y.kind == 6) = false := by simpa using hkind.2.1
              have j7 : (y.kind == 7) = false := by simpa using hkind.2.2
              have HKO := Lib.hid hkind
              clear hkind
              go_wp2_with fail
              clear p0
              go_loopg [6] j (fun q i wr => ∃ (l : Nat), q = j - l ∧ l ≤ j ∧ i = .int .i64 l ∧ (∀ z ∈ r.take l, PairP z y) ∧ Frm [] w1 wr)
              case atStart => exact ⟨0, rfl, Nat.zero_le _, rfl, by simp, HF.out⟩
              case round =>
                clear HW HF
                obtain ⟨l, rfl, hl, rfl, hpp, hF3⟩ := hrel
                have HF := Lib.hid hF3
                have i9 : (0 : Int) ≤ (l : Int) := by omega
                have HW := Lib.hid (HF0.out.trans hF3 (by simp))
                have HPP := Lib.hid hpp
                clear hF3 hpp
                by_cases hll : l < j
                · have i10 : (l : Int) < (j : Int) := by omega
                  have i11 : (l : Int) < (r.length : Int) := by omega
                  obtain ⟨z, hz⟩ : ∃ z, r[l]? = some z := ⟨_, List.getElem?_eq_getElem (by omega)⟩
                  obtain ⟨b8, o8, za, zc, e8, _, _, z0, z1, z2, z3, z4, z5, hnz⟩ := HA.out.at_ hz
                  cases e8
                  have P0 := Lib.hid (HW.out.cell G0.out (by simp))
                  have P1 := Lib.hid (HW.out.cell G1.out (by simp))
                  have P2 := Lib.hid (HW.out.cell G2.out (by simp))
                  have P3 := Lib.hid (HW.out.cell G3.out (by simp))
                  have P4 := Lib.hid (HW.out.cell G4.out (by simp))
                  have P5 := Lib.hid (HW.out.cell G5.out (by simp))
                  have Z0 := Lib.hid (HW.out.cell z0 (by simp))
                  have Z1 := Lib.hid (HW.out.cell z1 (by simp))
                  have Z2 := Lib.hid (HW.out.cell z2 (by simp))
                  have Z3 := Lib.hid (HW.out.cell z3 (by simp))
                  have Z4 := Lib.hid (HW.out.cell z4 (by simp))
                  have Z5 := Lib.hid (HW.out.cell z5 (by simp))
                  have hcall := normArcs_any (wr.drew) _ _ z y ((hnz.nil HW.out).nil (Frm.refl [] wr).drew) ((HNY.out.nil HW.out).nil (Frm.refl [] wr).drew)
                  have hpi := pair2_iff (HT.out z (List.mem_of_getElem? hz)) HTY.out
                  have HTL := Lib.hid (take_snoc hz)
                  have hzm : z ∈ r.take j := by
                    rw [List.mem_iff_getElem?]
                    exact ⟨l, by rw [List.getElem?_take, if_pos hll]; exact hz⟩
                  have HZM := Lib.hid hzm
                  unfold arcV at hcall
                  clear z0 z1 z2 z3 z4 z5 hnz hz hzm
                  cases hok : pair2 z y with
                  | true =>
                    rw [hok] at hcall
                    have HP := Lib.hid (hpi.1 hok)
                    have HC := Lib.hid hcall
                    clear hcall hpi hok
                    go_wp2_with fail
                    go_region_held3 (fun w' => w'.cell? ⟨b9, o9 + j * 6, none⟩ = some (.int .i64 y.kind) ∧ w'.cell? ⟨b9, o9 + j * 6 + 1, none⟩ = some (.int .i64 y.ch) ∧ w'.cell? ⟨b9, o9 + j * 6 + 2, none⟩ = some (.int .i64 y.reg) ∧ w'.cell? ⟨b9, o9 + j * 6 + 3, none⟩ = some (.int .i64 y.frm) ∧ w'.cell? ⟨b9, o9 + j * 6 + 4, none⟩ = some (.slice na y.not.length nc) ∧ w'.cell? ⟨b9, o9 + j * 6 + 5, none⟩ = some (.int .i64 y.to) ∧ w'.cell? ⟨b9, o9 + l * 6, none⟩ = some (.int .i64 z.kind) ∧ w'.cell? ⟨b9, o9 + l * 6 + 1, none⟩ = some (.int .i64 z.ch) ∧ w'.cell? ⟨b9, o9 + l * 6 + 2, none⟩ = some (.int .i64 z.reg) ∧ w'.cell? ⟨b9, o9 + l * 6 + 3, none⟩ = some (.int .i64 z.frm) ∧ w'.cell? ⟨b9, o9 + l * 6 + 4, none⟩ = some (.slice za z.not.length zc) ∧ w'.cell? ⟨b9, o9 + l * 6 + 5, none⟩ = some (.int .i64 z.to))
                      (first | exact ⟨P0.out, P1.out, P2.out, P3.out, P4.out, P5.out, Z0.out, Z1.out, Z2.out, Z3.out, Z4.out, Z5.out⟩ | exact ⟨hf5.cell P0.out (by simp), hf5.cell P1.out (by simp), hf5.cell P2.out (by simp), hf5.cell P3.out (by simp), hf5.cell P4.out (by simp), hf5.cell P5.out (by simp), hf5.cell Z0.out (by simp), hf5.cell Z1.out (by simp), hf5.cell Z2.out (by simp), hf5.cell Z3.out (by simp), hf5.cell Z4.out (by simp), hf5.cell Z5.out (by simp)⟩)
                      (first | (go_at_call 43; refine HC.out.mono ?_; rintro e5 w5 ⟨rfl, hf5⟩))
                    go_wp2_with fail
                    go_roundg (j - (l + 1))
                    case rel =>
                      refine ⟨l + 1, rfl, by omega, by go_num, fun x hx => ?_, HF.out.drew.trans hf5 (by simp)⟩
                      rw [HTL.out] at hx
                      rcases List.mem_append.1 hx with hx | hx
                      · exact HPP.out x hx
                      · rw [List.mem_singleton.1 hx]; exact HP.out
                    case measure => omega
                  | false =>
                    rw [hok] at hcall
                    have HX := HBAD.out (fun h9 => by
                      rw [HTS.out, norm_snoc] at h9
                      have := hpi.2 (h9.2.2 z HZM.out)
                      rw [hok] at this
                      cases this)
                    have HC := Lib.hid hcall
                    clear hcall hpi hok
                    go_wp2_with fail
                    go_region_held3 (fun w' => w'.cell? ⟨b9, o9 + j * 6, none⟩ = some (.int .i64 y.kind) ∧ w'.cell? ⟨b9, o9 + j * 6 + 1, none⟩ = some (.int .i64 y.ch) ∧ w'.cell? ⟨b9, o9 + j * 6 + 2, none⟩ = some (.int .i64 y.reg) ∧ w'.cell? ⟨b9, o9 + j * 6 + 3, none⟩ = some (.int .i64 y.frm) ∧ w'.cell? ⟨b9, o9 + j * 6 + 4, none⟩ = some (.slice na y.not.length nc) ∧ w'.cell? ⟨b9, o9 + j * 6 + 5, none⟩ = some (.int .i64 y.to) ∧ w'.cell? ⟨b9, o9 + l * 6, none⟩ = some (.int .i64 z.kind) ∧ w'.cell? ⟨b9, o9 + l * 6 + 1, none⟩ = some (.int .i64 z.ch) ∧ w'.cell? ⟨b9, o9 + l * 6 + 2, none⟩ = some (.int .i64 z.reg) ∧ w'.cell? ⟨b9, o9 + l * 6 + 3, none⟩ = some (.int .i64 z.frm) ∧ w'.cell? ⟨b9, o9 + l * 6 + 4, none⟩ = some (.slice za z.not.length zc) ∧ w'.cell? ⟨b9, o9 + l * 6 + 5, none⟩ = some (.int .i64 z.to))
                      (first | exact ⟨P0.out, P1.out, P2.out, P3.out, P4.out, P5.out, Z0.out, Z1.out, Z2.out, Z3.out, Z4.out, Z5.out⟩ | exact ⟨hf5.cell P0.out (by simp), hf5.cell P1.out (by simp), hf5.cell P2.out (by simp), hf5.cell P3.out (by simp), hf5.cell P4.out (by simp), hf5.cell P5.out (by simp), hf5.cell Z0.out (by simp), hf5.cell Z1.out (by simp), hf5.cell Z2.out (by simp), hf5.cell Z3.out (by simp), hf5.cell Z4.out (by simp), hf5.cell Z5.out (by simp)⟩)
                      (first | (go_at_call 43; refine HC.out.mono ?_; rintro e5 w5 ⟨rfl, hf5⟩))
                    go_wp2_with fail
                    go_ret
                    exact ⟨by rw [HX.out]; rfl, HF0.out.trans (HF.out.drew.trans hf5 (by simp)) (by simp)⟩
                · have i10 : ¬ (l : Int) < (j : Int) := by omega
                  have hlj : l = j := by omega
                  subst hlj
                  go_wp2_with fail
                  go_roundg (r.length - (l + 1))
                  case rel => exact ⟨l + 1, rfl, by omega, by go_num, by rw [HTS.out, norm_snoc]; exact ⟨HN2.out, HKO.out, HPP.out⟩, HF.out⟩
                  case measure => omega
            · have HX := HBAD.out (fun h9 => hkind (by
                rw [HTS.out, norm_snoc] at h9
                exact h9.2.1))
              have hk3 : y.kind = 1 ∨ y.kind = 6 ∨ y.kind = 7 := by unfold KindOk at hkind; omega
              clear hkind
              generalize y.kind = K at *
              rcases hk3 with rfl | rfl | rfl
              all_goals
                go_wp2_with fail
                go_ret
                exact ⟨by rw [HX.out]; rfl, HW.out⟩
          · have i8 : ¬ (j : Int) < (r.length : Int) := by omega
            have HD2 : Hid (LeftB m (k + 1) = V) := Lib.hid (by
              have h9 := HN2.out
              rw [List.take_of_length_le (by omega)] at h9
              rw [← HD.out, decide_eq_true h9]; rfl)
            go_wp2_with fail
            go_roundg (m.states.length - (k + 1))
            case rel => exact ⟨k + 1, rfl, by omega, by go_num, HD2.out, HF.out⟩
            case measure => omega
      · have i5 : ¬ (k : Int) < (m.states.length : Int) := by omega
        have HT : Hid (V = true) := Lib.hid (by rw [← hd]; exact leftB_end (by omega))
        clear hd
        go_wp2_with fail
        go_ret
        exact ⟨by rw [HT.out]; rfl, HF0.out.trans HF.out (by simp)⟩

end Go.Proofs.YtdknbgejhhoaiaaGreat.Ind

/- Contracts of event and Event, of the program and of the reference. (Printed by wip/tools/kc.py.) -/
namespace Go.Proofs.YtdknbgejhhoaiaaGreat.Ind
open Go.Shelf
open Go.RowKit

theorem mul_bd {a b : Int} {x y : Int} (h1 : 0 ≤ a) (h2 : a ≤ x) (h3 : 0 ≤ b) (h4 : b ≤ y) : 0 ≤ a * b ∧ a * b ≤ x * y :=
  ⟨Int.mul_nonneg h1 h3, Int.mul_le_mul h2 h4 h3 (by omega)⟩

set_option maxRecDepth 100000 in
set_option maxHeartbeats 2000000 in
set_option linter.unusedSimpArgs false in
theorem event_any (w : World) (m : RM) (sa : Option Addr) (sn sc : Nat) (n val : Int) (na : Option Addr) (nl nc : Nat) (a : RA) (hd0 : 0 ≤ m.data) (hd1 : m.data ≤ 8) (hn0 : 0 ≤ n) (hn1 : n ≤ 12) (hc0 : 0 ≤ a.ch) (hc1 : a.ch ≤ 8) (hv0 : 0 ≤ val) (hv1 : val ≤ 12) :
    Calls Tryz.prog 57 #[machV m (.slice sa sn sc), .int .i64 n, arcV (.slice na nl nc) a, .int .i64 val] w fun e w' => e = .returned (.int .i64 (evB m n a val)) ∧ Frm [] w w' := by
  have hb := mul_bd hd0 hd1 hn0 hn1
  have hc := mul_bd hc0 hc1 hn0 hn1
  obtain ⟨R, hR⟩ : ∃ R, evB m n a val = R := ⟨_, rfl⟩
  rw [hR]
  unfold evB at hR
  obtain ⟨regs, data, plain, states⟩ := m
  obtain ⟨kind, ch, reg, frm, not, tgt⟩ := a
  simp only at *
  unfold machV arcV
  simp only
  have w1 : IntKind.i64.wrap (data * n) = data * n := IntWalk.i64_in _ (by omega)
  have w2 : IntKind.i64.wrap (2 + data * n) = 2 + data * n := IntWalk.i64_in _ (by omega)
  have w3 : IntKind.i64.wrap (2 + data * n + ch) = 2 + data * n + ch := IntWalk.i64_in _ (by omega)
  have w4 : IntKind.i64.wrap (ch * n) = ch * n := IntWalk.i64_in _ (by omega)
  have w5 : IntKind.i64.wrap (2 + ch * n) = 2 + ch * n := IntWalk.i64_in _ (by omega)
  have w6 : IntKind.i64.wrap (2 + ch * n + val) = 2 + ch * n + val := IntWalk.i64_in _ (by omega)
  clear hb hc hd0 hd1 hn0 hn1 hc0 hc1 hv0 hv1
  by_cases k2 : kind = 2
  · rw [if_pos k2] at hR
    subst hR
    subst k2
    go_enter Tryz.func57, Tryz.ntmps57
    go_wp2_with fail
    go_ret
    exact ⟨rfl, ((Frm.refl [] w).alloc _).alloc _⟩
  rw [if_neg k2] at hR
  by_cases k3 : kind = 3
  · rw [if_pos k3] at hR
    subst hR
    subst k3
    go_enter Tryz.func57, Tryz.ntmps57
    go_wp2_with fail
    go_ret
    exact ⟨rfl, ((Frm.refl [] w).alloc _).alloc _⟩
  rw [if_neg k3] at hR
  by_cases k4 : kind = 4
  · rw [if_pos (Or.inl k4)] at hR
    subst hR
    subst k4
    go_enter Tryz.func57, Tryz.ntmps57
    go_wp2_with fail
    go_ret
    exact ⟨rfl, ((Frm.refl [] w).alloc _).alloc _⟩
  by_cases k5 : kind = 5
  · rw [if_pos (Or.inr k5)] at hR
    subst hR
    subst k5
    go_enter Tryz.func57, Tryz.ntmps57
    go_wp2_with fail
    go_ret
    exact ⟨rfl, ((Frm.refl [] w).alloc _).alloc _⟩
  rw [if_neg (by omega)] at hR
  subst hR
  go_enter Tryz.func57, Tryz.ntmps57
  go_wp2_with fail
  go_ret
  exact ⟨rfl, ((Frm.refl [] w).alloc _).alloc _⟩

end Go.Proofs.YtdknbgejhhoaiaaGreat.Ind
