/- Contracts of the reference's ValidMachine. -/
import Derived.Test.YtfndgiinniibfaaK8
import Derived.Deep.RegionHeld3
namespace Go.Proofs.Ytfndgiinniibfaa.Ind
open Go.Shelf
open Go.RowKit

set_option maxRecDepth 100000 in
set_option maxHeartbeats 4000000 in
set_option linter.unusedSimpArgs false in
theorem validMachine_any {F : List Nat} (w : World) (m : RM) (sv : Value) (h : StatesAt w F sv m.states) :
    Calls Try.prog 34 #[machV m sv] w fun e w' => e = .returned (.bool (validM m)) ∧ Frm [] w w' := by
  obtain ⟨sa, sc, rfl, l1⟩ := statesShape h
  have H := Lib.hid h
  obtain ⟨V, hV⟩ : ∃ V, validM m = V := ⟨_, rfl⟩
  rw [hV]
  rw [validM_eq] at hV
  have HV := Lib.hid hV
  have HAB : Hid (0 ≤ m.regs → ∀ (W : World) (v : Value) (a : RA), NotAt W F v a → Calls Try.prog 56 #[machV m (.slice sa m.states.length sc), arcV v a] W fun e w' => e = .returned (.bool (arcB m a)) ∧ Frm [] W w') :=
    Lib.hid fun h0 W v a hv => arcOK_any W m sa sc v a h0 hv
  have HM : Hid (RowAt (w.alloc (.cells #[.int .i64 m.regs, .int .i64 m.data, .int .i64 m.plain, .slice sa m.states.length sc] 28)) w.heap.size 28 (mboxC m (.slice sa m.states.length sc))) := Lib.hid (RowAt.made w _ _ _ rfl)
  clear h hV
  have f0 : Frm [] w (w.alloc (.cells #[.int .i64 m.regs, .int .i64 m.data, .int .i64 m.plain, .slice sa m.states.length sc] 28)) := (Frm.refl [] w).alloc _
  unfold machV mboxC at *
  generalize hregs : m.regs = regs at *
  generalize hdata : m.data = data at *
  generalize hplain : m.plain = plain at *
  clear hregs hdata hplain
  by_cases hb : 0 ≤ regs ∧ regs ≤ 4 ∧ 0 ≤ data ∧ data ≤ 8 ∧ 0 ≤ plain ∧ plain ≤ 8 ∧ 1 ≤ m.states.length ∧ m.states.length ≤ 64
  · obtain ⟨b1, b2, b3, b4, b5, b6, b7, b8⟩ := hb
    have HAB2 := Lib.hid (HAB.out b1)
    have HVV : Hid (m.states.all (rowOk m) = V) := Lib.hid (by
      have e1 : belowB regs 5 = true := by simp [belowB]; omega
      have e2 : belowB data 9 = true := by simp [belowB]; omega
      have e3 : belowB plain 9 = true := by simp [belowB]; omega
      rw [← HV.out, e1, e2, e3, decide_eq_true b7, decide_eq_true b8]
      simp)
    have c1 : ¬ regs < 0 := by omega
    have c2 : ¬ 4 < regs := by omega
    have c3 : ¬ data < 0 := by omega
    have c4 : ¬ 8 < data := by omega
    have c5 : ¬ plain < 0 := by omega
    have c6 : ¬ 8 < plain := by omega
    have c7 : ¬ (m.states.length : Int) < 1 := by omega
    have c8 : ¬ 64 < (m.states.length : Int) := by omega
    clear b1 b2 b3 b4 b5 b6 b7 b8 HV HAB
    go_enter Try.func34, Try.ntmps34
    go_wp2_with fail
    have HF0 := Lib.hid f0
    clear f0 c1 c2 c3 c4 c5 c6 c7 c8
    generalize hW0 : w.alloc (.cells #[.int .i64 regs, .int .i64 data, .int .i64 plain, .slice sa m.states.length sc] 28) = W0 at *
    generalize hx0 : w.heap.size = x0 at *
    clear hW0 hx0
    go_loopg [3] m.states.length (fun q i wr => ∃ (k : Nat), q = m.states.length - k ∧ k ≤ m.states.length ∧ i = .int .i64 k ∧ (m.states.drop k).all (rowOk m) = V ∧ Frm [] W0 wr)
    case atStart => exact ⟨0, rfl, Nat.zero_le _, rfl, HVV.out, Frm.refl _ _⟩
    case round =>
      obtain ⟨k, rfl, hk, rfl, hd, hF⟩ := hrel
      have HF := Lib.hid hF
      have i4 : (0 : Int) ≤ (k : Int) := by omega
      have q3 := (HM.out.frm hF (by simp)).cell (i := 3) rfl
      clear hF HVV
      by_cases hlt : k < m.states.length
      · have i5 : (k : Int) < (m.states.length : Int) := by omega
        obtain ⟨r, hr⟩ : ∃ r, m.states[k]? = some r := ⟨_, List.getElem?_eq_getElem hlt⟩
        rw [drop_cons hr, List.all_cons] at hd
        have HW := Lib.hid (HF0.out.trans HF.out (by simp))
        obtain ⟨b, o, c, a, n, cc, e1, _, _, _, hcell, rfl, harcs⟩ := H.out.at_ hr
        cases e1
        have D1 := Lib.hid hcell
        have d1 := HW.out.cell hcell (by simp)
        have HA := Lib.hid harcs
        have hrl : (r.length : Int) ≤ 9223372036854775807 := by
          obtain ⟨_, _, _, h9⟩ := harcs.shape
          exact h9
        clear hcell harcs hr
        by_cases h16 : r.length ≤ 16
        · have i6 : ¬ 16 < (r.length : Int) := by omega
          have HD : Hid ((r.all (arcB m) && (m.states.drop (k + 1)).all (rowOk m)) = V) := Lib.hid (by rw [← hd, rowOk, decide_eq_true h16]; simp)
          clear hd h16
          go_wp2_with fail
          go_loopg [4] r.length (fun q i wr => ∃ (j : Nat), q = r.length - j ∧ j ≤ r.length ∧ i = .int .i64 j ∧ ((r.drop j).all (arcB m) && (m.states.drop (k + 1)).all (rowOk m)) = V ∧ Frm [] W0 wr)
          case atStart => exact ⟨0, rfl, Nat.zero_le _, rfl, HD.out, HF.out⟩
          case round =>
            clear q3 d1 HW HD HF
            obtain ⟨j, rfl, hj, rfl, hd2, hF2⟩ := hrel
            have HF := Lib.hid hF2
            have i7 : (0 : Int) ≤ (j : Int) := by omega
            have hM := HM.out.frm hF2 (by simp)
            have q0 := hM.cell (i := 0) rfl
            have q1 := hM.cell (i := 1) rfl
            have q2 := hM.cell (i := 2) rfl
            have q3 := hM.cell (i := 3) rfl
            have HW := Lib.hid (HF0.out.trans hF2 (by simp))
            have d1 := HW.out.cell D1.out (by simp)
            clear hF2 hM
            by_cases hjl : j < r.length
            · have i8 : (j : Int) < (r.length : Int) := by omega
              obtain ⟨y, hy⟩ : ∃ y, r[j]? = some y := ⟨_, List.getElem?_eq_getElem hjl⟩
              rw [drop_cons hy, List.all_cons, Bool.and_assoc] at hd2
              obtain ⟨b9, o9, na, nc, rfl, _, _, g0, g1, g2, g3, g4, g5, hn⟩ := HA.out.at_ hy
              have p0 := HW.out.cell g0 (by simp)
              have p1 := HW.out.cell g1 (by simp)
              have p2 := HW.out.cell g2 (by simp)
              have p3 := HW.out.cell g3 (by simp)
              have p4 := HW.out.cell g4 (by simp)
              have p5 := HW.out.cell g5 (by simp)
              have HN := Lib.hid ((hn.nil HW.out).nil (Frm.refl [] wr).drew)
              have hcall := HAB2.out wr.drew _ y HN.out
              unfold arcV at hcall
              clear g0 g1 g2 g3 g4 g5 hn hy HN
              have P0 := Lib.hid p0
              have P1 := Lib.hid p1
              have P2 := Lib.hid p2
              have P3 := Lib.hid p3
              have P4 := Lib.hid p4
              have P5 := Lib.hid p5
              have Q0 := Lib.hid q0
              have Q1 := Lib.hid q1
              have Q2 := Lib.hid q2
              have Q3 := Lib.hid q3
              have DD := Lib.hid d1
              clear p0 p1 p2 p3 p4 p5
              cases hok : arcB m y with
              | true =>
                rw [hok] at hcall hd2
                rw [Bool.true_and] at hd2
                have HC := Lib.hid hcall
                have HD := Lib.hid hd2
                clear hcall hd2 hok
                go_wp2_with fail
                clear q0 q1 q2 q3 d1
                go_region_held3 (fun w' => w'.cell? ⟨x0, 0, none⟩ = some (.int .i64 regs) ∧ w'.cell? ⟨x0, 1, none⟩ = some (.int .i64 data) ∧ w'.cell? ⟨x0, 2, none⟩ = some (.int .i64 plain) ∧ w'.cell? ⟨x0, 3, none⟩ = some (.slice (some ⟨b, o, none⟩) m.states.length sc) ∧ w'.cell? ⟨b, o + k, none⟩ = some (.slice (some ⟨b9, o9, none⟩) r.length cc) ∧ w'.cell? ⟨b9, o9 + j * 6, none⟩ = some (.int .i64 y.kind) ∧ w'.cell? ⟨b9, o9 + j * 6 + 1, none⟩ = some (.int .i64 y.ch) ∧ w'.cell? ⟨b9, o9 + j * 6 + 2, none⟩ = some (.int .i64 y.reg) ∧ w'.cell? ⟨b9, o9 + j * 6 + 3, none⟩ = some (.int .i64 y.frm) ∧ w'.cell? ⟨b9, o9 + j * 6 + 4, none⟩ = some (.slice na y.not.length nc) ∧ w'.cell? ⟨b9, o9 + j * 6 + 5, none⟩ = some (.int .i64 y.to))
                  (first | exact ⟨Q0.out, Q1.out, Q2.out, Q3.out, DD.out, P0.out, P1.out, P2.out, P3.out, P4.out, P5.out⟩ | exact ⟨hf5.cell Q0.out (by simp), hf5.cell Q1.out (by simp), hf5.cell Q2.out (by simp), hf5.cell Q3.out (by simp), hf5.cell DD.out (by simp), hf5.cell P0.out (by simp), hf5.cell P1.out (by simp), hf5.cell P2.out (by simp), hf5.cell P3.out (by simp), hf5.cell P4.out (by simp), hf5.cell P5.out (by simp)⟩)
                  (first | (go_at_call 56; refine HC.out.mono ?_; rintro e5 w5 ⟨rfl, hf5⟩))
                go_wp2_with fail
                go_roundg (r.length - (j + 1))
                case rel => exact ⟨j + 1, rfl, by omega, by go_num, HD.out, HF.out.drew.trans hf5 (by simp)⟩
                case measure => omega
              | false =>
                rw [hok] at hcall hd2
                rw [Bool.false_and] at hd2
                have HC := Lib.hid hcall
                have HD := Lib.hid hd2
                clear hcall hd2 hok
                go_wp2_with fail
                clear q0 q1 q2 q3 d1
                go_region_held3 (fun w' => w'.cell? ⟨x0, 0, none⟩ = some (.int .i64 regs) ∧ w'.cell? ⟨x0, 1, none⟩ = some (.int .i64 data) ∧ w'.cell? ⟨x0, 2, none⟩ = some (.int .i64 plain) ∧ w'.cell? ⟨x0, 3, none⟩ = some (.slice (some ⟨b, o, none⟩) m.states.length sc) ∧ w'.cell? ⟨b, o + k, none⟩ = some (.slice (some ⟨b9, o9, none⟩) r.length cc) ∧ w'.cell? ⟨b9, o9 + j * 6, none⟩ = some (.int .i64 y.kind) ∧ w'.cell? ⟨b9, o9 + j * 6 + 1, none⟩ = some (.int .i64 y.ch) ∧ w'.cell? ⟨b9, o9 + j * 6 + 2, none⟩ = some (.int .i64 y.reg) ∧ w'.cell? ⟨b9, o9 + j * 6 + 3, none⟩ = some (.int .i64 y.frm) ∧ w'.cell? ⟨b9, o9 + j * 6 + 4, none⟩ = some (.slice na y.not.length nc) ∧ w'.cell? ⟨b9, o9 + j * 6 + 5, none⟩ = some (.int .i64 y.to))
                  (first | exact ⟨Q0.out, Q1.out, Q2.out, Q3.out, DD.out, P0.out, P1.out, P2.out, P3.out, P4.out, P5.out⟩ | exact ⟨hf5.cell Q0.out (by simp), hf5.cell Q1.out (by simp), hf5.cell Q2.out (by simp), hf5.cell Q3.out (by simp), hf5.cell DD.out (by simp), hf5.cell P0.out (by simp), hf5.cell P1.out (by simp), hf5.cell P2.out (by simp), hf5.cell P3.out (by simp), hf5.cell P4.out (by simp), hf5.cell P5.out (by simp)⟩)
                  (first | (go_at_call 56; refine HC.out.mono ?_; rintro e5 w5 ⟨rfl, hf5⟩))
                go_wp2_with fail
                go_ret
                exact ⟨by rw [← HD.out]; rfl, HF0.out.trans (HF.out.drew.trans hf5 (by simp)) (by simp)⟩
            · have i8 : ¬ (j : Int) < (r.length : Int) := by omega
              have HD : Hid ((m.states.drop (k + 1)).all (rowOk m) = V) := Lib.hid (by
                have e9 : r.drop j = [] := List.drop_eq_nil_of_le (by omega)
                rw [← hd2, e9]; rfl)
              clear hd2
              go_wp2_with fail
              go_roundg (m.states.length - (k + 1))
              case rel => exact ⟨k + 1, rfl, by omega, by go_num, HD.out, HF.out⟩
              case measure => omega
        · have i6 : 16 < (r.length : Int) := by omega
          have HD : Hid (V = false) := Lib.hid (by rw [← hd, rowOk, decide_eq_false h16]; simp)
          clear hd h16
          go_wp2_with fail
          go_ret
          exact ⟨by rw [HD.out]; rfl, HW.out⟩
      · have i5 : ¬ (k : Int) < (m.states.length : Int) := by omega
        have HT : Hid (V = true) := Lib.hid (by rw [← hd, List.drop_eq_nil_of_le (by omega)]; rfl)
        clear hd
        go_wp2_with fail
        go_ret
        exact ⟨by rw [HT.out]; rfl, HF0.out.trans HF.out (by simp)⟩
  · have HX : Hid (V = false) := Lib.hid (by
      rw [← HV.out, Bool.eq_false_iff]
      intro h9
      simp only [Bool.and_eq_true, below_iff, decide_eq_true_eq] at h9
      exact hb (by omega))
    have hor : regs < 0 ∨ (¬ regs < 0 ∧ 4 < regs) ∨ (¬ regs < 0 ∧ ¬ 4 < regs ∧ data < 0) ∨ (¬ regs < 0 ∧ ¬ 4 < regs ∧ ¬ data < 0 ∧ 8 < data) ∨ (¬ regs < 0 ∧ ¬ 4 < regs ∧ ¬ data < 0 ∧ ¬ 8 < data ∧ plain < 0) ∨ (¬ regs < 0 ∧ ¬ 4 < regs ∧ ¬ data < 0 ∧ ¬ 8 < data ∧ ¬ plain < 0 ∧ 8 < plain) ∨ (¬ regs < 0 ∧ ¬ 4 < regs ∧ ¬ data < 0 ∧ ¬ 8 < data ∧ ¬ plain < 0 ∧ ¬ 8 < plain ∧ (m.states.length : Int) < 1) ∨ (¬ regs < 0 ∧ ¬ 4 < regs ∧ ¬ data < 0 ∧ ¬ 8 < data ∧ ¬ plain < 0 ∧ ¬ 8 < plain ∧ ¬ (m.states.length : Int) < 1 ∧ 64 < (m.states.length : Int)) := by omega
    clear hb HV
    rcases hor with h1 | ⟨h1, h2⟩ | ⟨h1, h2, h3⟩ | ⟨h1, h2, h3, h4⟩ | ⟨h1, h2, h3, h4, h5⟩ | ⟨h1, h2, h3, h4, h5, h6⟩ | ⟨h1, h2, h3, h4, h5, h6, h7⟩ | ⟨h1, h2, h3, h4, h5, h6, h7, h8⟩
    all_goals
      go_enter Try.func34, Try.ntmps34
      go_wp2_with fail
      go_ret
      exact ⟨by rw [HX.out]; rfl, f0⟩

end Go.Proofs.Ytfndgiinniibfaa.Ind
