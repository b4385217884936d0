/- Contracts of the reference's arcOK. -/
import Derived.Test.YtdknbgejhhoaiaaGreatQ12
namespace Go.Proofs.YtdknbgejhhoaiaaGreat.Ind
open Go.Shelf
open Go.RowKit

def endsB (regs : Int) (l : List Int) : Bool := match l.head?, l.getLast? with | some a, some z => decide (0 ≤ a) && decide (z < regs) | _, _ => true
def arcR (m : RM) (a : RA) : Bool :=
  !(decide (a.to < 0) || decide ((m.states.length : Int) ≤ a.to) || !ascB a.not) &&
  (if a.kind = 1 ∨ a.kind = 2 then a.ch == 0 && a.reg == 0 && a.frm == 0 && a.not.length == 0
  else if a.kind = 3 then decide (0 ≤ a.ch) && decide (a.ch < m.plain) && a.reg == 0 && a.frm == 0 && a.not.length == 0
  else if a.kind = 4 then endsB m.regs a.not && (decide (0 ≤ a.ch) && decide (a.ch < m.data) && decide (-1 ≤ a.reg) && decide (a.reg < m.regs) && a.frm == 0)
  else if a.kind = 5 then decide (0 ≤ a.ch) && decide (a.ch < m.data) && (decide (0 ≤ a.reg) && decide (a.reg < m.regs)) && a.frm == 0 && a.not.length == 0
  else if a.kind = 6 then a.ch == 0 && (decide (0 ≤ a.reg) && decide (a.reg < m.regs)) && a.frm == 0 && a.not.length == 0
  else if a.kind = 7 then a.ch == 0 && (decide (0 ≤ a.reg) && decide (a.reg < m.regs)) && decide (0 ≤ a.frm) && decide (a.frm < m.regs) && a.not.length == 0
  else false)
theorem arcR_eq (m : RM) (a : RA) (h0 : 0 ≤ m.regs) : arcR m a = arcB m a := by
  obtain ⟨kind, ch, reg, frm, not, tgt⟩ := a
  have hl : not.length = 0 ↔ not = [] := List.length_eq_zero_iff
  have hn := notB_ends m.regs not
  have he : notB m.regs not = (ascB not && endsB m.regs not) := hn
  have hnil : not = [] → ascB not = true := fun e => by rw [e]; rfl
  rw [Bool.eq_iff_iff]
  simp only [arcR, arcB, belowB, restB, he]
  by_cases h12 : kind = 1 ∨ kind = 2
  · simp only [h12, if_true]
    simp [hl]
    grind
  · have h1 : kind ≠ 1 := by omega
    have h2 : kind ≠ 2 := by omega
    by_cases h3 : kind = 3
    · subst h3; simp [hl]; grind
    · by_cases h4 : kind = 4
      · subst h4; simp; grind
      · by_cases h5 : kind = 5
        · subst h5; simp [hl]; grind
        · by_cases h6 : kind = 6
          · subst h6; simp [hl]; grind
          · by_cases h7 : kind = 7
            · subst h7; simp [hl]; grind
            · simp only [h12, h3, h4, h5, h6, h7, if_false]; simp

set_option maxRecDepth 100000 in
set_option maxHeartbeats 4000000 in
set_option linter.unusedSimpArgs false in
theorem arcOK_0 {F : List Nat} (w : World) (m : RM) (sa : Option Addr) (sc : Nat) (v : Value) (a : RA) (hv : NotAt w F v a) (hk : ¬(1 ≤ a.kind ∧ a.kind ≤ 7)) :
    Calls Tryz.prog 53 #[machV m (.slice sa m.states.length sc), arcV v a] w fun e w' => e = .returned (.bool (arcR m a)) ∧ Frm [] w w' := by
  obtain ⟨a1, c1, rfl⟩ := hv.shape
  have hrd := hv.rd
  obtain ⟨kind, ch, reg, frm, not, tgt⟩ := a
  simp only at hk hrd
  have k1 : ¬ kind = 1 := by omega
  have k2 : ¬ kind = 2 := by omega
  have k3 : ¬ kind = 3 := by omega
  have k4 : ¬ kind = 4 := by omega
  have k5 : ¬ kind = 5 := by omega
  have k6 : ¬ kind = 6 := by omega
  have k7 : ¬ kind = 7 := by omega
  clear hk
  clear hv
  obtain ⟨R, hR⟩ : ∃ R, arcR m ⟨kind, ch, reg, frm, not, tgt⟩ = R := ⟨_, rfl⟩
  rw [hR]
  have HR := Lib.hid hR
  have H := Lib.hid hrd
  obtain ⟨NL, hNL⟩ : ∃ NL, NL = not.length := ⟨_, rfl⟩
  obtain ⟨NS, hNS⟩ : ∃ NS, NS = m.states.length := ⟨_, rfl⟩
  obtain ⟨AS, hAS⟩ : ∃ AS, ascB not = AS := ⟨_, rfl⟩
  have HNL := Lib.hid hNL
  have HNS := Lib.hid hNS
  have HAS := Lib.hid hAS
  simp only [← hNL, ← hNS]
  obtain ⟨regs, data, plain, states⟩ := m
  unfold machV arcV
  simp only
  clear hR hrd hNL hNS hAS
  have f0 : Frm [] w ((w.alloc (.cells #[.int .i64 regs, .int .i64 data, .int .i64 plain, .slice sa NS sc] 30)).alloc (.cells #[.int .i64 kind, .int .i64 ch, .int .i64 reg, .int .i64 frm, .slice a1 NL c1, .int .i64 tgt] 47)) := ((Frm.refl [] w).alloc _).alloc _
  by_cases ht0 : tgt < 0
  · go_enter Tryz.func53, Tryz.ntmps53
    go_wp2_with fail
    go_ret
    exact ⟨ret_bool (by rw [← HR.out]; simp [arcR, ht0]), f0⟩
  by_cases ht1 : (NS : Int) ≤ tgt
  · go_enter Tryz.func53, Tryz.ntmps53
    go_wp2_with fail
    go_ret
    exact ⟨ret_bool (by rw [← HR.out]; simp only [arcR, ← HNS.out]; simp [ht1]), f0⟩
  go_enter Tryz.func53, Tryz.ntmps53
  go_wp2_with fail
  have hri := rising_any w.heap.size a1 c1 not _ (H.out.frm f0 (by simp))
  rw [← HNL.out, HAS.out] at hri
  refine hri.mono ?_
  rintro e1 w1 ⟨rfl, hf1⟩
  have F1 := f0.trans hf1 (by simp)
  have p0 := hf1.cell (p := ⟨w.heap.size + 1, 0, none⟩) (v := .int .i64 kind) (by go_simp) (by simp)
  have p1 := hf1.cell (p := ⟨w.heap.size + 1, 1, none⟩) (v := .int .i64 ch) (by go_simp) (by simp)
  have p2 := hf1.cell (p := ⟨w.heap.size + 1, 2, none⟩) (v := .int .i64 reg) (by go_simp) (by simp)
  have p3 := hf1.cell (p := ⟨w.heap.size + 1, 3, none⟩) (v := .int .i64 frm) (by go_simp) (by simp)
  have p4 := hf1.cell (p := ⟨w.heap.size + 1, 4, none⟩) (v := .slice a1 NL c1) (by go_simp) (by simp)
  have q0 := hf1.cell (p := ⟨w.heap.size, 0, none⟩) (v := .int .i64 regs) (by go_simp) (by simp)
  have q1 := hf1.cell (p := ⟨w.heap.size, 1, none⟩) (v := .int .i64 data) (by go_simp) (by simp)
  have q2 := hf1.cell (p := ⟨w.heap.size, 2, none⟩) (v := .int .i64 plain) (by go_simp) (by simp)
  have HF1 := Lib.hid F1
  have HX1 := Lib.hid (f0.trans hf1 (by simp))
  clear hf1 F1 f0 hri
  cases AS
  · go_wp2_with fail
    go_ret
    exact ⟨ret_bool (by rw [← HR.out]; simp [arcR, HAS.out]), HF1.out⟩
  · clear HX1
    go_wp2_with fail
    all_goals
      go_ret
      refine ⟨ret_bool ?_, HF1.out⟩
      rw [← HR.out]
      simp only [arcR, HAS.out, ← HNL.out, ← HNS.out]
      first | (simp [*]; done) | (rw [Bool.eq_iff_iff]; simp [*]; done) | (rw [Bool.eq_iff_iff]; simp [*]; omega) | (rw [Bool.eq_iff_iff]; simp [*]; grind)

set_option maxRecDepth 100000 in
set_option maxHeartbeats 4000000 in
set_option linter.unusedSimpArgs false in
theorem arcOK_1 {F : List Nat} (w : World) (m : RM) (sa : Option Addr) (sc : Nat) (v : Value) (a : RA) (hv : NotAt w F v a) (hk : a.kind = 1) :
    Calls Tryz.prog 53 #[machV m (.slice sa m.states.length sc), arcV v a] w fun e w' => e = .returned (.bool (arcR m a)) ∧ Frm [] w w' := by
  obtain ⟨a1, c1, rfl⟩ := hv.shape
  have hrd := hv.rd
  obtain ⟨kind, ch, reg, frm, not, tgt⟩ := a
  simp only at hk hrd
  subst hk
  clear hv
  obtain ⟨R, hR⟩ : ∃ R, arcR m ⟨1, ch, reg, frm, not, tgt⟩ = R := ⟨_, rfl⟩
  rw [hR]
  have HR := Lib.hid hR
  have H := Lib.hid hrd
  obtain ⟨NL, hNL⟩ : ∃ NL, NL = not.length := ⟨_, rfl⟩
  obtain ⟨NS, hNS⟩ : ∃ NS, NS = m.states.length := ⟨_, rfl⟩
  obtain ⟨AS, hAS⟩ : ∃ AS, ascB not = AS := ⟨_, rfl⟩
  have HNL := Lib.hid hNL
  have HNS := Lib.hid hNS
  have HAS := Lib.hid hAS
  simp only [← hNL, ← hNS]
  obtain ⟨regs, data, plain, states⟩ := m
  unfold machV arcV
  simp only
  clear hR hrd hNL hNS hAS
  have f0 : Frm [] w ((w.alloc (.cells #[.int .i64 regs, .int .i64 data, .int .i64 plain, .slice sa NS sc] 30)).alloc (.cells #[.int .i64 1, .int .i64 ch, .int .i64 reg, .int .i64 frm, .slice a1 NL c1, .int .i64 tgt] 47)) := ((Frm.refl [] w).alloc _).alloc _
  by_cases ht0 : tgt < 0
  · go_enter Tryz.func53, Tryz.ntmps53
    go_wp2_with fail
    go_ret
    exact ⟨ret_bool (by rw [← HR.out]; simp [arcR, ht0]), f0⟩
  by_cases ht1 : (NS : Int) ≤ tgt
  · go_enter Tryz.func53, Tryz.ntmps53
    go_wp2_with fail
    go_ret
    exact ⟨ret_bool (by rw [← HR.out]; simp only [arcR, ← HNS.out]; simp [ht1]), f0⟩
  go_enter Tryz.func53, Tryz.ntmps53
  go_wp2_with fail
  have hri := rising_any w.heap.size a1 c1 not _ (H.out.frm f0 (by simp))
  rw [← HNL.out, HAS.out] at hri
  refine hri.mono ?_
  rintro e1 w1 ⟨rfl, hf1⟩
  have F1 := f0.trans hf1 (by simp)
  have p0 := hf1.cell (p := ⟨w.heap.size + 1, 0, none⟩) (v := .int .i64 1) (by go_simp) (by simp)
  have p1 := hf1.cell (p := ⟨w.heap.size + 1, 1, none⟩) (v := .int .i64 ch) (by go_simp) (by simp)
  have p2 := hf1.cell (p := ⟨w.heap.size + 1, 2, none⟩) (v := .int .i64 reg) (by go_simp) (by simp)
  have p3 := hf1.cell (p := ⟨w.heap.size + 1, 3, none⟩) (v := .int .i64 frm) (by go_simp) (by simp)
  have p4 := hf1.cell (p := ⟨w.heap.size + 1, 4, none⟩) (v := .slice a1 NL c1) (by go_simp) (by simp)
  have q0 := hf1.cell (p := ⟨w.heap.size, 0, none⟩) (v := .int .i64 regs) (by go_simp) (by simp)
  have q1 := hf1.cell (p := ⟨w.heap.size, 1, none⟩) (v := .int .i64 data) (by go_simp) (by simp)
  have q2 := hf1.cell (p := ⟨w.heap.size, 2, none⟩) (v := .int .i64 plain) (by go_simp) (by simp)
  have HF1 := Lib.hid F1
  have HX1 := Lib.hid (f0.trans hf1 (by simp))
  clear hf1 F1 f0 hri
  cases AS
  · go_wp2_with fail
    go_ret
    exact ⟨ret_bool (by rw [← HR.out]; simp [arcR, HAS.out]), HF1.out⟩
  · clear HX1
    go_wp2_with fail
    all_goals
      go_ret
      refine ⟨ret_bool ?_, HF1.out⟩
      rw [← HR.out]
      simp only [arcR, HAS.out, ← HNL.out, ← HNS.out]
      first | (simp [*]; done) | (rw [Bool.eq_iff_iff]; simp [*]; done) | (rw [Bool.eq_iff_iff]; simp [*]; omega) | (rw [Bool.eq_iff_iff]; simp [*]; grind)

set_option maxRecDepth 100000 in
set_option maxHeartbeats 4000000 in
set_option linter.unusedSimpArgs false in
theorem arcOK_2 {F : List Nat} (w : World) (m : RM) (sa : Option Addr) (sc : Nat) (v : Value) (a : RA) (hv : NotAt w F v a) (hk : a.kind = 2) :
    Calls Tryz.prog 53 #[machV m (.slice sa m.states.length sc), arcV v a] w fun e w' => e = .returned (.bool (arcR m a)) ∧ Frm [] w w' := by
  obtain ⟨a1, c1, rfl⟩ := hv.shape
  have hrd := hv.rd
  obtain ⟨kind, ch, reg, frm, not, tgt⟩ := a
  simp only at hk hrd
  subst hk
  clear hv
  obtain ⟨R, hR⟩ : ∃ R, arcR m ⟨2, ch, reg, frm, not, tgt⟩ = R := ⟨_, rfl⟩
  rw [hR]
  have HR := Lib.hid hR
  have H := Lib.hid hrd
  obtain ⟨NL, hNL⟩ : ∃ NL, NL = not.length := ⟨_, rfl⟩
  obtain ⟨NS, hNS⟩ : ∃ NS, NS = m.states.length := ⟨_, rfl⟩
  obtain ⟨AS, hAS⟩ : ∃ AS, ascB not = AS := ⟨_, rfl⟩
  have HNL := Lib.hid hNL
  have HNS := Lib.hid hNS
  have HAS := Lib.hid hAS
  simp only [← hNL, ← hNS]
  obtain ⟨regs, data, plain, states⟩ := m
  unfold machV arcV
  simp only
  clear hR hrd hNL hNS hAS
  have f0 : Frm [] w ((w.alloc (.cells #[.int .i64 regs, .int .i64 data, .int .i64 plain, .slice sa NS sc] 30)).alloc (.cells #[.int .i64 2, .int .i64 ch, .int .i64 reg, .int .i64 frm, .slice a1 NL c1, .int .i64 tgt] 47)) := ((Frm.refl [] w).alloc _).alloc _
  by_cases ht0 : tgt < 0
  · go_enter Tryz.func53, Tryz.ntmps53
    go_wp2_with fail
    go_ret
    exact ⟨ret_bool (by rw [← HR.out]; simp [arcR, ht0]), f0⟩
  by_cases ht1 : (NS : Int) ≤ tgt
  · go_enter Tryz.func53, Tryz.ntmps53
    go_wp2_with fail
    go_ret
    exact ⟨ret_bool (by rw [← HR.out]; simp only [arcR, ← HNS.out]; simp [ht1]), f0⟩
  go_enter Tryz.func53, Tryz.ntmps53
  go_wp2_with fail
  have hri := rising_any w.heap.size a1 c1 not _ (H.out.frm f0 (by simp))
  rw [← HNL.out, HAS.out] at hri
  refine hri.mono ?_
  rintro e1 w1 ⟨rfl, hf1⟩
  have F1 := f0.trans hf1 (by simp)
  have p0 := hf1.cell (p := ⟨w.heap.size + 1, 0, none⟩) (v := .int .i64 2) (by go_simp) (by simp)
  have p1 := hf1.cell (p := ⟨w.heap.size + 1, 1, none⟩) (v := .int .i64 ch) (by go_simp) (by simp)
  have p2 := hf1.cell (p := ⟨w.heap.size + 1, 2, none⟩) (v := .int .i64 reg) (by go_simp) (by simp)
  have p3 := hf1.cell (p := ⟨w.heap.size + 1, 3, none⟩) (v := .int .i64 frm) (by go_simp) (by simp)
  have p4 := hf1.cell (p := ⟨w.heap.size + 1, 4, none⟩) (v := .slice a1 NL c1) (by go_simp) (by simp)
  have q0 := hf1.cell (p := ⟨w.heap.size, 0, none⟩) (v := .int .i64 regs) (by go_simp) (by simp)
  have q1 := hf1.cell (p := ⟨w.heap.size, 1, none⟩) (v := .int .i64 data) (by go_simp) (by simp)
  have q2 := hf1.cell (p := ⟨w.heap.size, 2, none⟩) (v := .int .i64 plain) (by go_simp) (by simp)
  have HF1 := Lib.hid F1
  have HX1 := Lib.hid (f0.trans hf1 (by simp))
  clear hf1 F1 f0 hri
  cases AS
  · go_wp2_with fail
    go_ret
    exact ⟨ret_bool (by rw [← HR.out]; simp [arcR, HAS.out]), HF1.out⟩
  · clear HX1
    go_wp2_with fail
    all_goals
      go_ret
      refine ⟨ret_bool ?_, HF1.out⟩
      rw [← HR.out]
      simp only [arcR, HAS.out, ← HNL.out, ← HNS.out]
      first | (simp [*]; done) | (rw [Bool.eq_iff_iff]; simp [*]; done) | (rw [Bool.eq_iff_iff]; simp [*]; omega) | (rw [Bool.eq_iff_iff]; simp [*]; grind)

set_option maxRecDepth 100000 in
set_option maxHeartbeats 4000000 in
set_option linter.unusedSimpArgs false in
theorem arcOK_3 {F : List Nat} (w : World) (m : RM) (sa : Option Addr) (sc : Nat) (v : Value) (a : RA) (hv : NotAt w F v a) (hk : a.kind = 3) :
    Calls Tryz.prog 53 #[machV m (.slice sa m.states.length sc), arcV v a] w fun e w' => e = .returned (.bool (arcR m a)) ∧ Frm [] w w' := by
  obtain ⟨a1, c1, rfl⟩ := hv.shape
  have hrd := hv.rd
  obtain ⟨kind, ch, reg, frm, not, tgt⟩ := a
  simp only at hk hrd
  subst hk
  clear hv
  obtain ⟨R, hR⟩ : ∃ R, arcR m ⟨3, ch, reg, frm, not, tgt⟩ = R := ⟨_, rfl⟩
  rw [hR]
  have HR := Lib.hid hR
  have H := Lib.hid hrd
  obtain ⟨NL, hNL⟩ : ∃ NL, NL = not.length := ⟨_, rfl⟩
  obtain ⟨NS, hNS⟩ : ∃ NS, NS = m.states.length := ⟨_, rfl⟩
  obtain ⟨AS, hAS⟩ : ∃ AS, ascB not = AS := ⟨_, rfl⟩
  have HNL := Lib.hid hNL
  have HNS := Lib.hid hNS
  have HAS := Lib.hid hAS
  simp only [← hNL, ← hNS]
  obtain ⟨regs, data, plain, states⟩ := m
  unfold machV arcV
  simp only
  clear hR hrd hNL hNS hAS
  have f0 : Frm [] w ((w.alloc (.cells #[.int .i64 regs, .int .i64 data, .int .i64 plain, .slice sa NS sc] 30)).alloc (.cells #[.int .i64 3, .int .i64 ch, .int .i64 reg, .int .i64 frm, .slice a1 NL c1, .int .i64 tgt] 47)) := ((Frm.refl [] w).alloc _).alloc _
  by_cases ht0 : tgt < 0
  · go_enter Tryz.func53, Tryz.ntmps53
    go_wp2_with fail
    go_ret
    exact ⟨ret_bool (by rw [← HR.out]; simp [arcR, ht0]), f0⟩
  by_cases ht1 : (NS : Int) ≤ tgt
  · go_enter Tryz.func53, Tryz.ntmps53
    go_wp2_with fail
    go_ret
    exact ⟨ret_bool (by rw [← HR.out]; simp only [arcR, ← HNS.out]; simp [ht1]), f0⟩
  go_enter Tryz.func53, Tryz.ntmps53
  go_wp2_with fail
  have hri := rising_any w.heap.size a1 c1 not _ (H.out.frm f0 (by simp))
  rw [← HNL.out, HAS.out] at hri
  refine hri.mono ?_
  rintro e1 w1 ⟨rfl, hf1⟩
  have F1 := f0.trans hf1 (by simp)
  have p0 := hf1.cell (p := ⟨w.heap.size + 1, 0, none⟩) (v := .int .i64 3) (by go_simp) (by simp)
  have p1 := hf1.cell (p := ⟨w.heap.size + 1, 1, none⟩) (v := .int .i64 ch) (by go_simp) (by simp)
  have p2 := hf1.cell (p := ⟨w.heap.size + 1, 2, none⟩) (v := .int .i64 reg) (by go_simp) (by simp)
  have p3 := hf1.cell (p := ⟨w.heap.size + 1, 3, none⟩) (v := .int .i64 frm) (by go_simp) (by simp)
  have p4 := hf1.cell (p := ⟨w.heap.size + 1, 4, none⟩) (v := .slice a1 NL c1) (by go_simp) (by simp)
  have q0 := hf1.cell (p := ⟨w.heap.size, 0, none⟩) (v := .int .i64 regs) (by go_simp) (by simp)
  have q1 := hf1.cell (p := ⟨w.heap.size, 1, none⟩) (v := .int .i64 data) (by go_simp) (by simp)
  have q2 := hf1.cell (p := ⟨w.heap.size, 2, none⟩) (v := .int .i64 plain) (by go_simp) (by simp)
  have HF1 := Lib.hid F1
  have HX1 := Lib.hid (f0.trans hf1 (by simp))
  clear hf1 F1 f0 hri
  cases AS
  · go_wp2_with fail
    go_ret
    exact ⟨ret_bool (by rw [← HR.out]; simp [arcR, HAS.out]), HF1.out⟩
  · clear HX1
    go_wp2_with fail
    all_goals
      go_ret
      refine ⟨ret_bool ?_, HF1.out⟩
      rw [← HR.out]
      simp only [arcR, HAS.out, ← HNL.out, ← HNS.out]
      first | (simp [*]; done) | (rw [Bool.eq_iff_iff]; simp [*]; done) | (rw [Bool.eq_iff_iff]; simp [*]; omega) | (rw [Bool.eq_iff_iff]; simp [*]; grind)

set_option maxRecDepth 100000 in
set_option maxHeartbeats 4000000 in
set_option linter.unusedSimpArgs false in
theorem arcOK_4 {F : List Nat} (w : World) (m : RM) (sa : Option Addr) (sc : Nat) (v : Value) (a : RA) (hv : NotAt w F v a) (hk : a.kind = 4) :
    Calls Tryz.prog 53 #[machV m (.slice sa m.states.length sc), arcV v a] w fun e w' => e = .returned (.bool (arcR m a)) ∧ Frm [] w w' := by
  obtain ⟨a1, c1, rfl⟩ := hv.shape
  have hrd := hv.rd
  obtain ⟨kind, ch, reg, frm, not, tgt⟩ := a
  simp only at hk hrd
  subst hk
  clear hv
  obtain ⟨R, hR⟩ : ∃ R, arcR m ⟨4, ch, reg, frm, not, tgt⟩ = R := ⟨_, rfl⟩
  rw [hR]
  have HR := Lib.hid hR
  have H := Lib.hid hrd
  obtain ⟨NL, hNL⟩ : ∃ NL, NL = not.length := ⟨_, rfl⟩
  obtain ⟨NS, hNS⟩ : ∃ NS, NS = m.states.length := ⟨_, rfl⟩
  obtain ⟨AS, hAS⟩ : ∃ AS, ascB not = AS := ⟨_, rfl⟩
  have HNL := Lib.hid hNL
  have HNS := Lib.hid hNS
  have HAS := Lib.hid hAS
  simp only [← hNL, ← hNS]
  obtain ⟨regs, data, plain, states⟩ := m
  unfold machV arcV
  simp only
  clear hR hrd hNL hNS hAS
  have f0 : Frm [] w ((w.alloc (.cells #[.int .i64 regs, .int .i64 data, .int .i64 plain, .slice sa NS sc] 30)).alloc (.cells #[.int .i64 4, .int .i64 ch, .int .i64 reg, .int .i64 frm, .slice a1 NL c1, .int .i64 tgt] 47)) := ((Frm.refl [] w).alloc _).alloc _
  by_cases ht0 : tgt < 0
  · go_enter Tryz.func53, Tryz.ntmps53
    go_wp2_with fail
    go_ret
    exact ⟨ret_bool (by rw [← HR.out]; simp [arcR, ht0]), f0⟩
  by_cases ht1 : (NS : Int) ≤ tgt
  · go_enter Tryz.func53, Tryz.ntmps53
    go_wp2_with fail
    go_ret
    exact ⟨ret_bool (by rw [← HR.out]; simp only [arcR, ← HNS.out]; simp [ht1]), f0⟩
  go_enter Tryz.func53, Tryz.ntmps53
  go_wp2_with fail
  have hri := rising_any w.heap.size a1 c1 not _ (H.out.frm f0 (by simp))
  rw [← HNL.out, HAS.out] at hri
  refine hri.mono ?_
  rintro e1 w1 ⟨rfl, hf1⟩
  have F1 := f0.trans hf1 (by simp)
  have p0 := hf1.cell (p := ⟨w.heap.size + 1, 0, none⟩) (v := .int .i64 4) (by go_simp) (by simp)
  have p1 := hf1.cell (p := ⟨w.heap.size + 1, 1, none⟩) (v := .int .i64 ch) (by go_simp) (by simp)
  have p2 := hf1.cell (p := ⟨w.heap.size + 1, 2, none⟩) (v := .int .i64 reg) (by go_simp) (by simp)
  have p3 := hf1.cell (p := ⟨w.heap.size + 1, 3, none⟩) (v := .int .i64 frm) (by go_simp) (by simp)
  have p4 := hf1.cell (p := ⟨w.heap.size + 1, 4, none⟩) (v := .slice a1 NL c1) (by go_simp) (by simp)
  have q0 := hf1.cell (p := ⟨w.heap.size, 0, none⟩) (v := .int .i64 regs) (by go_simp) (by simp)
  have q1 := hf1.cell (p := ⟨w.heap.size, 1, none⟩) (v := .int .i64 data) (by go_simp) (by simp)
  have q2 := hf1.cell (p := ⟨w.heap.size, 2, none⟩) (v := .int .i64 plain) (by go_simp) (by simp)
  have HF1 := Lib.hid F1
  have HX1 := Lib.hid (f0.trans hf1 (by simp))
  clear hf1 F1 f0 hri
  cases AS
  · go_wp2_with fail
    go_ret
    exact ⟨ret_bool (by rw [← HR.out]; simp [arcR, HAS.out]), HF1.out⟩
  · by_cases h0 : NL = 0
    · subst h0
      have hnil : not = [] := List.eq_nil_of_length_eq_zero HNL.out.symm
      have HE : Hid (endsB regs not = true) := Lib.hid (by rw [hnil]; rfl)
      clear hnil HX1
      go_wp2_with fail
      all_goals go_quiet (fail)
      all_goals go_wp2_with fail
      all_goals
        go_ret
        refine ⟨ret_bool ?_, HF1.out.drewN _⟩
        rw [← HR.out]
        simp only [arcR, HAS.out, ← HNL.out, ← HNS.out, HE.out]
        first | (simp [*]; done) | (rw [Bool.eq_iff_iff]; simp [*]; done) | (rw [Bool.eq_iff_iff]; simp [*]; omega) | (rw [Bool.eq_iff_iff]; simp [*]; grind)
    · have hle := H.out.lt
      rw [← HNL.out] at hle
      obtain ⟨K, hK⟩ : ∃ K, NL = K + 1 := ⟨NL - 1, by omega⟩
      subst hK
      obtain ⟨x0, hx0⟩ : ∃ x, not[0]? = some x := ⟨_, List.getElem?_eq_getElem (by have := HNL.out; omega)⟩
      obtain ⟨xz, hxz⟩ : ∃ x, not[K]? = some x := ⟨_, List.getElem?_eq_getElem (by have := HNL.out; omega)⟩
      have HE : Hid (endsB regs not = (decide (0 ≤ x0) && decide (xz < regs))) := Lib.hid (by
        have e1 : not.head? = some x0 := by rw [List.head?_eq_getElem?]; exact hx0
        have e2 : not.getLast? = some xz := by rw [List.getLast?_eq_getElem?, ← HNL.out]; exact hxz
        rw [endsB, e1, e2])
      obtain ⟨b, o, rfl, _, g0⟩ := H.out.at hx0
      obtain ⟨b', o', e9, _, gz⟩ := H.out.at hxz
      cases e9
      have r0 := HX1.out.cell g0 (by simp)
      have rz := HX1.out.cell gz (by simp)
      rw [Nat.add_zero] at r0
      have i0 : (0 : Int) < ((K + 1 : Nat) : Int) := by omega
      have i3 : IntKind.i64.wrap (((K + 1 : Nat) : Int) - 1) = (K : Int) := by rw [IntWalk.i64_in _ (by omega)]; omega
      have i4 : (0 : Int) ≤ (K : Int) := by omega
      have i5 : (K : Int) < ((K + 1 : Nat) : Int) := by omega
      clear g0 gz hx0 hxz h0 HX1 hle
      generalize hK1 : K + 1 = K1 at *
      clear hK1
      have j0 : decide (0 < K1) = true := by simpa using i0
      by_cases e1 : x0 < 0
      · have j1 : decide (x0 < 0) = true := by simpa using e1
        have HEE : Hid (endsB regs not = false) := Lib.hid (by rw [HE.out]; simp [show ¬ (0 ≤ x0) by omega])
        go_wp2_with fail
        all_goals go_quiet (fail)
        all_goals go_wp2_with fail
        all_goals
          go_ret
          refine ⟨ret_bool ?_, HF1.out.drewN _⟩
          rw [← HR.out]
          simp only [arcR, HEE.out]
          simp
      · have j1 : decide (x0 < 0) = false := by simpa using e1
        by_cases e2 : regs ≤ xz
        · have j2 : decide (regs ≤ xz) = true := by simpa using e2
          have HEE : Hid (endsB regs not = false) := Lib.hid (by rw [HE.out]; simp [show ¬ (xz < regs) by omega])
          go_wp2_with fail
          all_goals go_quiet (fail)
          all_goals go_wp2_with fail
          all_goals
            go_ret
            refine ⟨ret_bool ?_, HF1.out.drewN _⟩
            rw [← HR.out]
            simp only [arcR, HEE.out]
            simp
        · have j2 : decide (regs ≤ xz) = false := by simpa using e2
          have HEE : Hid (endsB regs not = true) := Lib.hid (by rw [HE.out]; simp; omega)
          go_wp2_with fail
          all_goals go_quiet (fail)
          all_goals go_wp2_with fail
          all_goals
            go_ret
            refine ⟨ret_bool ?_, HF1.out.drewN _⟩
            rw [← HR.out]
            simp only [arcR, HAS.out, ← HNL.out, ← HNS.out, HEE.out]
            first | (simp [*]; done) | (rw [Bool.eq_iff_iff]; simp [*]; done) | (rw [Bool.eq_iff_iff]; simp [*]; omega) | (rw [Bool.eq_iff_iff]; simp [*]; grind)

set_option maxRecDepth 100000 in
set_option maxHeartbeats 4000000 in
set_option linter.unusedSimpArgs false in
theorem arcOK_5 {F : List Nat} (w : World) (m : RM) (sa : Option Addr) (sc : Nat) (v : Value) (a : RA) (hv : NotAt w F v a) (hk : a.kind = 5) :
    Calls Tryz.prog 53 #[machV m (.slice sa m.states.length sc), arcV v a] w fun e w' => e = .returned (.bool (arcR m a)) ∧ Frm [] w w' := by
  obtain ⟨a1, c1, rfl⟩ := hv.shape
  have hrd := hv.rd
  obtain ⟨kind, ch, reg, frm, not, tgt⟩ := a
  simp only at hk hrd
  subst hk
  clear hv
  obtain ⟨R, hR⟩ : ∃ R, arcR m ⟨5, ch, reg, frm, not, tgt⟩ = R := ⟨_, rfl⟩
  rw [hR]
  have HR := Lib.hid hR
  have H := Lib.hid hrd
  obtain ⟨NL, hNL⟩ : ∃ NL, NL = not.length := ⟨_, rfl⟩
  obtain ⟨NS, hNS⟩ : ∃ NS, NS = m.states.length := ⟨_, rfl⟩
  obtain ⟨AS, hAS⟩ : ∃ AS, ascB not = AS := ⟨_, rfl⟩
  have HNL := Lib.hid hNL
  have HNS := Lib.hid hNS
  have HAS := Lib.hid hAS
  simp only [← hNL, ← hNS]
  obtain ⟨regs, data, plain, states⟩ := m
  unfold machV arcV
  simp only
  clear hR hrd hNL hNS hAS
  have f0 : Frm [] w ((w.alloc (.cells #[.int .i64 regs, .int .i64 data, .int .i64 plain, .slice sa NS sc] 30)).alloc (.cells #[.int .i64 5, .int .i64 ch, .int .i64 reg, .int .i64 frm, .slice a1 NL c1, .int .i64 tgt] 47)) := ((Frm.refl [] w).alloc _).alloc _
  by_cases ht0 : tgt < 0
  · go_enter Tryz.func53, Tryz.ntmps53
    go_wp2_with fail
    go_ret
    exact ⟨ret_bool (by rw [← HR.out]; simp [arcR, ht0]), f0⟩
  by_cases ht1 : (NS : Int) ≤ tgt
  · go_enter Tryz.func53, Tryz.ntmps53
    go_wp2_with fail
    go_ret
    exact ⟨ret_bool (by rw [← HR.out]; simp only [arcR, ← HNS.out]; simp [ht1]), f0⟩
  go_enter Tryz.func53, Tryz.ntmps53
  go_wp2_with fail
  have hri := rising_any w.heap.size a1 c1 not _ (H.out.frm f0 (by simp))
  rw [← HNL.out, HAS.out] at hri
  refine hri.mono ?_
  rintro e1 w1 ⟨rfl, hf1⟩
  have F1 := f0.trans hf1 (by simp)
  have p0 := hf1.cell (p := ⟨w.heap.size + 1, 0, none⟩) (v := .int .i64 5) (by go_simp) (by simp)
  have p1 := hf1.cell (p := ⟨w.heap.size + 1, 1, none⟩) (v := .int .i64 ch) (by go_simp) (by simp)
  have p2 := hf1.cell (p := ⟨w.heap.size + 1, 2, none⟩) (v := .int .i64 reg) (by go_simp) (by simp)
  have p3 := hf1.cell (p := ⟨w.heap.size + 1, 3, none⟩) (v := .int .i64 frm) (by go_simp) (by simp)
  have p4 := hf1.cell (p := ⟨w.heap.size + 1, 4, none⟩) (v := .slice a1 NL c1) (by go_simp) (by simp)
  have q0 := hf1.cell (p := ⟨w.heap.size, 0, none⟩) (v := .int .i64 regs) (by go_simp) (by simp)
  have q1 := hf1.cell (p := ⟨w.heap.size, 1, none⟩) (v := .int .i64 data) (by go_simp) (by simp)
  have q2 := hf1.cell (p := ⟨w.heap.size, 2, none⟩) (v := .int .i64 plain) (by go_simp) (by simp)
  have HF1 := Lib.hid F1
  have HX1 := Lib.hid (f0.trans hf1 (by simp))
  clear hf1 F1 f0 hri
  cases AS
  · go_wp2_with fail
    go_ret
    exact ⟨ret_bool (by rw [← HR.out]; simp [arcR, HAS.out]), HF1.out⟩
  · clear HX1
    go_wp2_with fail
    all_goals
      go_ret
      refine ⟨ret_bool ?_, HF1.out⟩
      rw [← HR.out]
      simp only [arcR, HAS.out, ← HNL.out, ← HNS.out]
      first | (simp [*]; done) | (rw [Bool.eq_iff_iff]; simp [*]; done) | (rw [Bool.eq_iff_iff]; simp [*]; omega) | (rw [Bool.eq_iff_iff]; simp [*]; grind)

set_option maxRecDepth 100000 in
set_option maxHeartbeats 4000000 in
set_option linter.unusedSimpArgs false in
theorem arcOK_6 {F : List Nat} (w : World) (m : RM) (sa : Option Addr) (sc : Nat) (v : Value) (a : RA) (hv : NotAt w F v a) (hk : a.kind = 6) :
    Calls Tryz.prog 53 #[machV m (.slice sa m.states.length sc), arcV v a] w fun e w' => e = .returned (.bool (arcR m a)) ∧ Frm [] w w' := by
  obtain ⟨a1, c1, rfl⟩ := hv.shape
  have hrd := hv.rd
  obtain ⟨kind, ch, reg, frm, not, tgt⟩ := a
  simp only at hk hrd
  subst hk
  clear hv
  obtain ⟨R, hR⟩ : ∃ R, arcR m ⟨6, ch, reg, frm, not, tgt⟩ = R := ⟨_, rfl⟩
  rw [hR]
  have HR := Lib.hid hR
  have H := Lib.hid hrd
  obtain ⟨NL, hNL⟩ : ∃ NL, NL = not.length := ⟨_, rfl⟩
  obtain ⟨NS, hNS⟩ : ∃ NS, NS = m.states.length := ⟨_, rfl⟩
  obtain ⟨AS, hAS⟩ : ∃ AS, ascB not = AS := ⟨_, rfl⟩
  have HNL := Lib.hid hNL
  have HNS := Lib.hid hNS
  have HAS := Lib.hid hAS
  simp only [← hNL, ← hNS]
  obtain ⟨regs, data, plain, states⟩ := m
  unfold machV arcV
  simp only
  clear hR hrd hNL hNS hAS
  have f0 : Frm [] w ((w.alloc (.cells #[.int .i64 regs, .int .i64 data, .int .i64 plain, .slice sa NS sc] 30)).alloc (.cells #[.int .i64 6, .int .i64 ch, .int .i64 reg, .int .i64 frm, .slice a1 NL c1, .int .i64 tgt] 47)) := ((Frm.refl [] w).alloc _).alloc _
  by_cases ht0 : tgt < 0
  · go_enter Tryz.func53, Tryz.ntmps53
    go_wp2_with fail
    go_ret
    exact ⟨ret_bool (by rw [← HR.out]; simp [arcR, ht0]), f0⟩
  by_cases ht1 : (NS : Int) ≤ tgt
  · go_enter Tryz.func53, Tryz.ntmps53
    go_wp2_with fail
    go_ret
    exact ⟨ret_bool (by rw [← HR.out]; simp only [arcR, ← HNS.out]; simp [ht1]), f0⟩
  go_enter Tryz.func53, Tryz.ntmps53
  go_wp2_with fail
  have hri := rising_any w.heap.size a1 c1 not _ (H.out.frm f0 (by simp))
  rw [← HNL.out, HAS.out] at hri
  refine hri.mono ?_
  rintro e1 w1 ⟨rfl, hf1⟩
  have F1 := f0.trans hf1 (by simp)
  have p0 := hf1.cell (p := ⟨w.heap.size + 1, 0, none⟩) (v := .int .i64 6) (by go_simp) (by simp)
  have p1 := hf1.cell (p := ⟨w.heap.size + 1, 1, none⟩) (v := .int .i64 ch) (by go_simp) (by simp)
  have p2 := hf1.cell (p := ⟨w.heap.size + 1, 2, none⟩) (v := .int .i64 reg) (by go_simp) (by simp)
  have p3 := hf1.cell (p := ⟨w.heap.size + 1, 3, none⟩) (v := .int .i64 frm) (by go_simp) (by simp)
  have p4 := hf1.cell (p := ⟨w.heap.size + 1, 4, none⟩) (v := .slice a1 NL c1) (by go_simp) (by simp)
  have q0 := hf1.cell (p := ⟨w.heap.size, 0, none⟩) (v := .int .i64 regs) (by go_simp) (by simp)
  have q1 := hf1.cell (p := ⟨w.heap.size, 1, none⟩) (v := .int .i64 data) (by go_simp) (by simp)
  have q2 := hf1.cell (p := ⟨w.heap.size, 2, none⟩) (v := .int .i64 plain) (by go_simp) (by simp)
  have HF1 := Lib.hid F1
  have HX1 := Lib.hid (f0.trans hf1 (by simp))
  clear hf1 F1 f0 hri
  cases AS
  · go_wp2_with fail
    go_ret
    exact ⟨ret_bool (by rw [← HR.out]; simp [arcR, HAS.out]), HF1.out⟩
  · clear HX1
    go_wp2_with fail
    all_goals
      go_ret
      refine ⟨ret_bool ?_, HF1.out⟩
      rw [← HR.out]
      simp only [arcR, HAS.out, ← HNL.out, ← HNS.out]
      first | (simp [*]; done) | (rw [Bool.eq_iff_iff]; simp [*]; done) | (rw [Bool.eq_iff_iff]; simp [*]; omega) | (rw [Bool.eq_iff_iff]; simp [*]; grind)

set_option maxRecDepth 100000 in
set_option maxHeartbeats 4000000 in
set_option linter.unusedSimpArgs false in
theorem arcOK_7 {F : List Nat} (w : World) (m : RM) (sa : Option Addr) (sc : Nat) (v : Value) (a : RA) (hv : NotAt w F v a) (hk : a.kind = 7) :
    Calls Tryz.prog 53 #[machV m (.slice sa m.states.length sc), arcV v a] w fun e w' => e = .returned (.bool (arcR m a)) ∧ Frm [] w w' := by
  obtain ⟨a1, c1, rfl⟩ := hv.shape
  have hrd := hv.rd
  obtain ⟨kind, ch, reg, frm, not, tgt⟩ := a
  simp only at hk hrd
  subst hk
  clear hv
  obtain ⟨R, hR⟩ : ∃ R, arcR m ⟨7, ch, reg, frm, not, tgt⟩ = R := ⟨_, rfl⟩
  rw [hR]
  have HR := Lib.hid hR
  have H := Lib.hid hrd
  obtain ⟨NL, hNL⟩ : ∃ NL, NL = not.length := ⟨_, rfl⟩
  obtain ⟨NS, hNS⟩ : ∃ NS, NS = m.states.length := ⟨_, rfl⟩
  obtain ⟨AS, hAS⟩ : ∃ AS, ascB not = AS := ⟨_, rfl⟩
  have HNL := Lib.hid hNL
  have HNS := Lib.hid hNS
  have HAS := Lib.hid hAS
  simp only [← hNL, ← hNS]
  obtain ⟨regs, data, plain, states⟩ := m
  unfold machV arcV
  simp only
  clear hR hrd hNL hNS hAS
  have f0 : Frm [] w ((w.alloc (.cells #[.int .i64 regs, .int .i64 data, .int .i64 plain, .slice sa NS sc] 30)).alloc (.cells #[.int .i64 7, .int .i64 ch, .int .i64 reg, .int .i64 frm, .slice a1 NL c1, .int .i64 tgt] 47)) := ((Frm.refl [] w).alloc _).alloc _
  by_cases ht0 : tgt < 0
  · go_enter Tryz.func53, Tryz.ntmps53
    go_wp2_with fail
    go_ret
    exact ⟨ret_bool (by rw [← HR.out]; simp [arcR, ht0]), f0⟩
  by_cases ht1 : (NS : Int) ≤ tgt
  · go_enter Tryz.func53, Tryz.ntmps53
    go_wp2_with fail
    go_ret
    exact ⟨ret_bool (by rw [← HR.out]; simp only [arcR, ← HNS.out]; simp [ht1]), f0⟩
  go_enter Tryz.func53, Tryz.ntmps53
  go_wp2_with fail
  have hri := rising_any w.heap.size a1 c1 not _ (H.out.frm f0 (by simp))
  rw [← HNL.out, HAS.out] at hri
  refine hri.mono ?_
  rintro e1 w1 ⟨rfl, hf1⟩
  have F1 := f0.trans hf1 (by simp)
  have p0 := hf1.cell (p := ⟨w.heap.size + 1, 0, none⟩) (v := .int .i64 7) (by go_simp) (by simp)
  have p1 := hf1.cell (p := ⟨w.heap.size + 1, 1, none⟩) (v := .int .i64 ch) (by go_simp) (by simp)
  have p2 := hf1.cell (p := ⟨w.heap.size + 1, 2, none⟩) (v := .int .i64 reg) (by go_simp) (by simp)
  have p3 := hf1.cell (p := ⟨w.heap.size + 1, 3, none⟩) (v := .int .i64 frm) (by go_simp) (by simp)
  have p4 := hf1.cell (p := ⟨w.heap.size + 1, 4, none⟩) (v := .slice a1 NL c1) (by go_simp) (by simp)
  have q0 := hf1.cell (p := ⟨w.heap.size, 0, none⟩) (v := .int .i64 regs) (by go_simp) (by simp)
  have q1 := hf1.cell (p := ⟨w.heap.size, 1, none⟩) (v := .int .i64 data) (by go_simp) (by simp)
  have q2 := hf1.cell (p := ⟨w.heap.size, 2, none⟩) (v := .int .i64 plain) (by go_simp) (by simp)
  have HF1 := Lib.hid F1
  have HX1 := Lib.hid (f0.trans hf1 (by simp))
  clear hf1 F1 f0 hri
  cases AS
  · go_wp2_with fail
    go_ret
    exact ⟨ret_bool (by rw [← HR.out]; simp [arcR, HAS.out]), HF1.out⟩
  · clear HX1
    go_wp2_with fail
    all_goals
      go_ret
      refine ⟨ret_bool ?_, HF1.out⟩
      rw [← HR.out]
      simp only [arcR, HAS.out, ← HNL.out, ← HNS.out]
      first | (simp [*]; done) | (rw [Bool.eq_iff_iff]; simp [*]; done) | (rw [Bool.eq_iff_iff]; simp [*]; omega) | (rw [Bool.eq_iff_iff]; simp [*]; grind)

theorem arcOK_any {F : List Nat} (w : World) (m : RM) (sa : Option Addr) (sc : Nat) (v : Value) (a : RA) (h0 : 0 ≤ m.regs) (hv : NotAt w F v a) :
    Calls Tryz.prog 53 #[machV m (.slice sa m.states.length sc), arcV v a] w fun e w' => e = .returned (.bool (arcB m a)) ∧ Frm [] w w' := by
  rw [← arcR_eq m a h0]
  by_cases hk : 1 ≤ a.kind ∧ a.kind ≤ 7
  · have h : a.kind = 1 ∨ a.kind = 2 ∨ a.kind = 3 ∨ a.kind = 4 ∨ a.kind = 5 ∨ a.kind = 6 ∨ a.kind = 7 := by omega
    rcases h with h | h | h | h | h | h | h
    · exact arcOK_1 w m sa sc v a hv h
    · exact arcOK_2 w m sa sc v a hv h
    · exact arcOK_3 w m sa sc v a hv h
    · exact arcOK_4 w m sa sc v a hv h
    · exact arcOK_5 w m sa sc v a hv h
    · exact arcOK_6 w m sa sc v a hv h
    · exact arcOK_7 w m sa sc v a hv h
  · exact arcOK_0 w m sa sc v a hv hk

end Go.Proofs.YtdknbgejhhoaiaaGreat.Ind
