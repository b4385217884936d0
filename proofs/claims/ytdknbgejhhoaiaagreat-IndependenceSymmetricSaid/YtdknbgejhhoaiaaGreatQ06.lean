/- Contract of validArc. (Printed by wip/tools/k4.py.) -/
import Derived.Test.YtdknbgejhhoaiaaGreatQ05
namespace Go.Proofs.YtdknbgejhhoaiaaGreat.Ind
open Go.Shelf
open Go.RowKit

theorem NotAt.nil {w w' : World} {F : List Nat} {v : Value} {a : RA} (h : NotAt w F v a) (hf : Frm [] w w') : NotAt w' F v a := RowV.nil h hf

set_option maxRecDepth 100000 in
set_option maxHeartbeats 1000000 in
set_option linter.unusedSimpArgs false in
theorem validArc_1 {F : List Nat} (w : World) (m : RM) (sa : Option Addr) (sc : Nat) (v : Value) (a : RA) (hv : NotAt w F v a) (hk : a.kind = 1) :
    Calls Tryz.prog 48 #[machV m (.slice sa m.states.length sc), arcV v a] w fun e w' => e = .returned (.bool (arcB m a)) ∧ Frm [] w w' := by
  rw [arcB_ok]
  obtain ⟨a1, c1, rfl⟩ := hv.shape
  obtain ⟨kind, ch, reg, frm, not, tgt⟩ := a
  simp only at hk
  subst hk
  have HV := Lib.hid hv
  clear hv
  have e1 : okB m ⟨1, ch, reg, frm, not, tgt⟩ = true := rfl
  have e2 : unusedA ⟨1, ch, reg, frm, not, tgt⟩ = ⟨1, 0, 0, 0, [], tgt⟩ := rfl
  rw [e1, e2]
  clear e1 e2
  generalize hn : m.states.length = ns
  obtain ⟨regs, data, plain, states⟩ := m
  simp only
  generalize h8 : sameB ⟨1, ch, reg, frm, not, tgt⟩ ⟨1, 0, 0, 0, [], tgt⟩ = S8
  have H8 := Lib.hid h8
  clear h8
  generalize h9 : belowB tgt ns = S9
  have H9 := Lib.hid h9
  clear h9
  unfold machV arcV
  clear hn
  go_enter Tryz.func48, Tryz.ntmps48
  go_wp2_with fail
  refine (same_any (F := F) (G := []) _ _ _ ⟨1, ch, reg, frm, not, tgt⟩ ⟨1, 0, 0, 0, [], tgt⟩ (HV.out.nil (by (repeat' (first | exact Frm.refl _ _ | refine Frm.alloc ?_ _ | (refine Frm.setCell ?_ (.inr (by simp)) _) | (refine Frm.setCell ?_ (.inr (by simp; omega)) _) | refine Frm.drewN ?_ _ | refine Frm.drew ?_)))) (notAt_nil _ _ _ rfl)).mono ?_
  rintro e8 w8 ⟨rfl, hf8⟩
  have d1 := hf8.cell (p := ⟨w.heap.size + 1, 5, none⟩) (v := .int .i64 tgt) (by go_simp) (by simp)
  have d2 := hf8.cell (p := ⟨w.heap.size, 3, none⟩) (v := .slice sa ns sc) (by go_simp) (by simp)
  have HY : Hid (Frm [] w w8) := Lib.hid (by refine Frm.trans ?_ hf8 (by simp); (repeat' (first | exact Frm.refl _ _ | refine Frm.alloc ?_ _ | (refine Frm.setCell ?_ (.inr (by simp)) _) | (refine Frm.setCell ?_ (.inr (by simp; omega)) _) | refine Frm.drewN ?_ _ | refine Frm.drew ?_)))
  clear hf8
  rw [H8.out]
  cases S8
  · go_wp2_with fail
    go_ret
    exact ⟨ret_bool (by first | (simp; done) | simp [hr]), HY.out⟩
  · go_wp2_with fail
    refine (below_any tgt ns w8).mono ?_
    rintro e9 w9 ⟨rfl, rfl⟩
    rw [H9.out]
    go_wp2_with fail
    go_ret
    exact ⟨ret_bool (by first | (simp; done) | simp [hr]), HY.out⟩

set_option maxRecDepth 100000 in
set_option maxHeartbeats 1000000 in
set_option linter.unusedSimpArgs false in
theorem validArc_2 {F : List Nat} (w : World) (m : RM) (sa : Option Addr) (sc : Nat) (v : Value) (a : RA) (hv : NotAt w F v a) (hk : a.kind = 2) :
    Calls Tryz.prog 48 #[machV m (.slice sa m.states.length sc), arcV v a] w fun e w' => e = .returned (.bool (arcB m a)) ∧ Frm [] w w' := by
  rw [arcB_ok]
  obtain ⟨a1, c1, rfl⟩ := hv.shape
  obtain ⟨kind, ch, reg, frm, not, tgt⟩ := a
  simp only at hk
  subst hk
  have HV := Lib.hid hv
  clear hv
  have e1 : okB m ⟨2, ch, reg, frm, not, tgt⟩ = true := rfl
  have e2 : unusedA ⟨2, ch, reg, frm, not, tgt⟩ = ⟨2, 0, 0, 0, [], tgt⟩ := rfl
  rw [e1, e2]
  clear e1 e2
  generalize hn : m.states.length = ns
  obtain ⟨regs, data, plain, states⟩ := m
  simp only
  generalize h8 : sameB ⟨2, ch, reg, frm, not, tgt⟩ ⟨2, 0, 0, 0, [], tgt⟩ = S8
  have H8 := Lib.hid h8
  clear h8
  generalize h9 : belowB tgt ns = S9
  have H9 := Lib.hid h9
  clear h9
  unfold machV arcV
  clear hn
  go_enter Tryz.func48, Tryz.ntmps48
  go_wp2_with fail
  refine (same_any (F := F) (G := []) _ _ _ ⟨2, ch, reg, frm, not, tgt⟩ ⟨2, 0, 0, 0, [], tgt⟩ (HV.out.nil (by (repeat' (first | exact Frm.refl _ _ | refine Frm.alloc ?_ _ | (refine Frm.setCell ?_ (.inr (by simp)) _) | (refine Frm.setCell ?_ (.inr (by simp; omega)) _) | refine Frm.drewN ?_ _ | refine Frm.drew ?_)))) (notAt_nil _ _ _ rfl)).mono ?_
  rintro e8 w8 ⟨rfl, hf8⟩
  have d1 := hf8.cell (p := ⟨w.heap.size + 1, 5, none⟩) (v := .int .i64 tgt) (by go_simp) (by simp)
  have d2 := hf8.cell (p := ⟨w.heap.size, 3, none⟩) (v := .slice sa ns sc) (by go_simp) (by simp)
  have HY : Hid (Frm [] w w8) := Lib.hid (by refine Frm.trans ?_ hf8 (by simp); (repeat' (first | exact Frm.refl _ _ | refine Frm.alloc ?_ _ | (refine Frm.setCell ?_ (.inr (by simp)) _) | (refine Frm.setCell ?_ (.inr (by simp; omega)) _) | refine Frm.drewN ?_ _ | refine Frm.drew ?_)))
  clear hf8
  rw [H8.out]
  cases S8
  · go_wp2_with fail
    go_ret
    exact ⟨ret_bool (by first | (simp; done) | simp [hr]), HY.out⟩
  · go_wp2_with fail
    refine (below_any tgt ns w8).mono ?_
    rintro e9 w9 ⟨rfl, rfl⟩
    rw [H9.out]
    go_wp2_with fail
    go_ret
    exact ⟨ret_bool (by first | (simp; done) | simp [hr]), HY.out⟩

set_option maxRecDepth 100000 in
set_option maxHeartbeats 1000000 in
set_option linter.unusedSimpArgs false in
theorem validArc_3 {F : List Nat} (w : World) (m : RM) (sa : Option Addr) (sc : Nat) (v : Value) (a : RA) (hv : NotAt w F v a) (hk : a.kind = 3) :
    Calls Tryz.prog 48 #[machV m (.slice sa m.states.length sc), arcV v a] w fun e w' => e = .returned (.bool (arcB m a)) ∧ Frm [] w w' := by
  rw [arcB_ok]
  obtain ⟨a1, c1, rfl⟩ := hv.shape
  obtain ⟨kind, ch, reg, frm, not, tgt⟩ := a
  simp only at hk
  subst hk
  have HV := Lib.hid hv
  clear hv
  have e1 : okB m ⟨3, ch, reg, frm, not, tgt⟩ = belowB ch m.plain := rfl
  have e2 : unusedA ⟨3, ch, reg, frm, not, tgt⟩ = ⟨3, ch, 0, 0, [], tgt⟩ := rfl
  rw [e1, e2]
  clear e1 e2
  generalize hn : m.states.length = ns
  obtain ⟨regs, data, plain, states⟩ := m
  simp only
  generalize h2 : belowB ch plain = S2
  have H2 := Lib.hid h2
  clear h2
  generalize h8 : sameB ⟨3, ch, reg, frm, not, tgt⟩ ⟨3, ch, 0, 0, [], tgt⟩ = S8
  have H8 := Lib.hid h8
  clear h8
  generalize h9 : belowB tgt ns = S9
  have H9 := Lib.hid h9
  clear h9
  unfold machV arcV
  clear hn
  go_enter Tryz.func48, Tryz.ntmps48
  go_wp2_with fail
  refine (below_any ch plain _).mono ?_
  rintro e2 w2 ⟨rfl, rfl⟩
  rw [H2.out]
  cases S2
  · go_wp2_with fail
    go_ret
    exact ⟨ret_bool (by first | (simp; done) | simp [hr]), by (repeat' (first | exact Frm.refl _ _ | refine Frm.alloc ?_ _ | (refine Frm.setCell ?_ (.inr (by simp)) _) | (refine Frm.setCell ?_ (.inr (by simp; omega)) _) | refine Frm.drewN ?_ _ | refine Frm.drew ?_))⟩
  · go_wp2_with fail
    refine (same_any (F := F) (G := []) _ _ _ ⟨3, ch, reg, frm, not, tgt⟩ ⟨3, ch, 0, 0, [], tgt⟩ (HV.out.nil (by (repeat' (first | exact Frm.refl _ _ | refine Frm.alloc ?_ _ | (refine Frm.setCell ?_ (.inr (by simp)) _) | (refine Frm.setCell ?_ (.inr (by simp; omega)) _) | refine Frm.drewN ?_ _ | refine Frm.drew ?_)))) (notAt_nil _ _ _ rfl)).mono ?_
    rintro e8 w8 ⟨rfl, hf8⟩
    have d1 := hf8.cell (p := ⟨w.heap.size + 1, 5, none⟩) (v := .int .i64 tgt) (by go_simp) (by simp)
    have d2 := hf8.cell (p := ⟨w.heap.size, 3, none⟩) (v := .slice sa ns sc) (by go_simp) (by simp)
    have HY : Hid (Frm [] w w8) := Lib.hid (by refine Frm.trans ?_ hf8 (by simp); (repeat' (first | exact Frm.refl _ _ | refine Frm.alloc ?_ _ | (refine Frm.setCell ?_ (.inr (by simp)) _) | (refine Frm.setCell ?_ (.inr (by simp; omega)) _) | refine Frm.drewN ?_ _ | refine Frm.drew ?_)))
    clear hf8
    rw [H8.out]
    cases S8
    · go_wp2_with fail
      go_ret
      exact ⟨ret_bool (by first | (simp; done) | simp [hr]), HY.out⟩
    · go_wp2_with fail
      refine (below_any tgt ns w8).mono ?_
      rintro e9 w9 ⟨rfl, rfl⟩
      rw [H9.out]
      go_wp2_with fail
      go_ret
      exact ⟨ret_bool (by first | (simp; done) | simp [hr]), HY.out⟩

set_option maxRecDepth 100000 in
set_option maxHeartbeats 1000000 in
set_option linter.unusedSimpArgs false in
theorem validArc_4 {F : List Nat} (w : World) (m : RM) (sa : Option Addr) (sc : Nat) (v : Value) (a : RA) (hv : NotAt w F v a) (hk : a.kind = 4) :
    Calls Tryz.prog 48 #[machV m (.slice sa m.states.length sc), arcV v a] w fun e w' => e = .returned (.bool (arcB m a)) ∧ Frm [] w w' := by
  rw [arcB_ok]
  obtain ⟨a1, c1, rfl⟩ := hv.shape
  obtain ⟨kind, ch, reg, frm, not, tgt⟩ := a
  simp only at hk
  subst hk
  have HV := Lib.hid hv
  clear hv
  have e1 : okB m ⟨4, ch, reg, frm, not, tgt⟩ = (belowB ch m.data && (reg == -1 || belowB reg m.regs) && notB m.regs not) := rfl
  have e2 : unusedA ⟨4, ch, reg, frm, not, tgt⟩ = ⟨4, ch, reg, 0, not, tgt⟩ := rfl
  rw [e1, e2]
  clear e1 e2
  generalize hn : m.states.length = ns
  obtain ⟨regs, data, plain, states⟩ := m
  simp only
  generalize h2 : belowB ch data = S2
  have H2 := Lib.hid h2
  clear h2
  generalize h4 : belowB reg regs = S4
  have H4 := Lib.hid h4
  clear h4
  generalize h5 : notB regs not = S5
  have H5 := Lib.hid h5
  clear h5
  generalize h8 : sameB ⟨4, ch, reg, frm, not, tgt⟩ ⟨4, ch, reg, 0, not, tgt⟩ = S8
  have H8 := Lib.hid h8
  clear h8
  generalize h9 : belowB tgt ns = S9
  have H9 := Lib.hid h9
  clear h9
  unfold machV arcV
  clear hn
  go_enter Tryz.func48, Tryz.ntmps48
  go_wp2_with fail
  go_region
  go_wp2_with fail
  refine (below_any ch data _).mono ?_
  rintro e2 w2 ⟨rfl, rfl⟩
  rw [H2.out]
  cases S2
  · go_wp2_with fail
    go_ret
    exact ⟨ret_bool (by first | (simp; done) | simp [hr]), by (repeat' (first | exact Frm.refl _ _ | refine Frm.alloc ?_ _ | (refine Frm.setCell ?_ (.inr (by simp)) _) | (refine Frm.setCell ?_ (.inr (by simp; omega)) _) | refine Frm.drewN ?_ _ | refine Frm.drew ?_))⟩
  · skip
    cases hr : (reg == -1)
    · have hreg : ¬ reg = -1 := by simpa using hr
      go_wp2_with fail
      refine (below_any reg regs _).mono ?_
      rintro e4 w4 ⟨rfl, rfl⟩
      rw [H4.out]
      cases S4
      · go_wp2_with fail
        go_ret
        exact ⟨ret_bool (by first | (simp; done) | simp [hr]), by (repeat' (first | exact Frm.refl _ _ | refine Frm.alloc ?_ _ | (refine Frm.setCell ?_ (.inr (by simp)) _) | (refine Frm.setCell ?_ (.inr (by simp; omega)) _) | refine Frm.drewN ?_ _ | refine Frm.drew ?_))⟩
      · go_wp2_with fail
        refine (validNot_any _ ⟨regs, data, plain, states⟩ (.slice sa ns sc) a1 c1 not _ (RowV.rd (F := F) (NotAt.nil HV.out (by (repeat' (first | exact Frm.refl _ _ | refine Frm.alloc ?_ _ | (refine Frm.setCell ?_ (.inr (by simp)) _) | (refine Frm.setCell ?_ (.inr (by simp; omega)) _) | refine Frm.drewN ?_ _ | refine Frm.drew ?_)))))).mono ?_
        rintro e5 w5 ⟨rfl, hf5⟩
        have d10 := hf5.cell (p := ⟨w.heap.size + 1, 0, none⟩) (v := .int .i64 4) (by go_simp) (by simp)
        have d11 := hf5.cell (p := ⟨w.heap.size + 1, 1, none⟩) (v := .int .i64 ch) (by go_simp) (by simp)
        have d12 := hf5.cell (p := ⟨w.heap.size + 1, 2, none⟩) (v := .int .i64 reg) (by go_simp) (by simp)
        have d13 := hf5.cell (p := ⟨w.heap.size + 1, 3, none⟩) (v := .int .i64 frm) (by go_simp) (by simp)
        have d14 := hf5.cell (p := ⟨w.heap.size + 1, 4, none⟩) (v := .slice a1 not.length c1) (by go_simp) (by simp)
        have d15 := hf5.cell (p := ⟨w.heap.size + 1, 5, none⟩) (v := .int .i64 tgt) (by go_simp) (by simp)
        have d20 := hf5.cell (p := ⟨w.heap.size + 1 + 1, 0, none⟩) (v := .int .i64 4) (by go_simp) (by simp)
        have d21 := hf5.cell (p := ⟨w.heap.size + 1 + 1, 1, none⟩) (v := .int .i64 ch) (by go_simp) (by simp)
        have d22 := hf5.cell (p := ⟨w.heap.size + 1 + 1, 2, none⟩) (v := .int .i64 reg) (by go_simp) (by simp)
        have d23 := hf5.cell (p := ⟨w.heap.size + 1 + 1, 3, none⟩) (v := .int .i64 0) (by go_simp) (by simp)
        have d24 := hf5.cell (p := ⟨w.heap.size + 1 + 1, 4, none⟩) (v := .slice a1 not.length c1) (by go_simp) (by simp)
        have d25 := hf5.cell (p := ⟨w.heap.size + 1 + 1, 5, none⟩) (v := .int .i64 tgt) (by go_simp) (by simp)
        have d03 := hf5.cell (p := ⟨w.heap.size, 3, none⟩) (v := .slice sa ns sc) (by go_simp) (by simp)
        have HX : Hid (Frm [] w w5) := Lib.hid (by refine Frm.trans ?_ hf5 (by simp); (repeat' (first | exact Frm.refl _ _ | refine Frm.alloc ?_ _ | (refine Frm.setCell ?_ (.inr (by simp)) _) | (refine Frm.setCell ?_ (.inr (by simp; omega)) _) | refine Frm.drewN ?_ _ | refine Frm.drew ?_)))
        clear hf5
        rw [H5.out]
        cases S5
        · go_wp2_with fail
          go_ret
          exact ⟨ret_bool (by first | (simp; done) | simp [hr]), HX.out⟩
        · go_wp2_with fail
          refine (same_any (F := F) (G := F) _ _ _ ⟨4, ch, reg, frm, not, tgt⟩ ⟨4, ch, reg, 0, not, tgt⟩ (HV.out.nil HX.out) (show NotAt _ F _ _ from HV.out.nil HX.out)).mono ?_
          rintro e8 w8 ⟨rfl, hf8⟩
          have f1 := hf8.cell d15 (by simp)
          have f2 := hf8.cell d03 (by simp)
          have HY : Hid (Frm [] w w8) := Lib.hid (HX.out.trans hf8 (by simp))
          clear hf8 d10 d11 d12 d13 d14 d15 d20 d21 d22 d23 d24 d25 d03
          rw [H8.out]
          cases S8
          · go_wp2_with fail
            go_ret
            exact ⟨ret_bool (by first | (simp; done) | simp [hr]), HY.out⟩
          · go_wp2_with fail
            refine (below_any tgt ns w8).mono ?_
            rintro e9 w9 ⟨rfl, rfl⟩
            rw [H9.out]
            go_wp2_with fail
            go_ret
            exact ⟨ret_bool (by first | (simp; done) | simp [hr]), HY.out⟩
    · have hreg : reg = -1 := by simpa using hr
      subst hreg
      go_wp2_with fail
      refine (validNot_any _ ⟨regs, data, plain, states⟩ (.slice sa ns sc) a1 c1 not _ (RowV.rd (F := F) (NotAt.nil HV.out (by (repeat' (first | exact Frm.refl _ _ | refine Frm.alloc ?_ _ | (refine Frm.setCell ?_ (.inr (by simp)) _) | (refine Frm.setCell ?_ (.inr (by simp; omega)) _) | refine Frm.drewN ?_ _ | refine Frm.drew ?_)))))).mono ?_
      rintro e5 w5 ⟨rfl, hf5⟩
      have d10 := hf5.cell (p := ⟨w.heap.size + 1, 0, none⟩) (v := .int .i64 4) (by go_simp) (by simp)
      have d11 := hf5.cell (p := ⟨w.heap.size + 1, 1, none⟩) (v := .int .i64 ch) (by go_simp) (by simp)
      have d12 := hf5.cell (p := ⟨w.heap.size + 1, 2, none⟩) (v := .int .i64 (-1)) (by go_simp) (by simp)
      have d13 := hf5.cell (p := ⟨w.heap.size + 1, 3, none⟩) (v := .int .i64 frm) (by go_simp) (by simp)
      have d14 := hf5.cell (p := ⟨w.heap.size + 1, 4, none⟩) (v := .slice a1 not.length c1) (by go_simp) (by simp)
      have d15 := hf5.cell (p := ⟨w.heap.size + 1, 5, none⟩) (v := .int .i64 tgt) (by go_simp) (by simp)
      have d20 := hf5.cell (p := ⟨w.heap.size + 1 + 1, 0, none⟩) (v := .int .i64 4) (by go_simp) (by simp)
      have d21 := hf5.cell (p := ⟨w.heap.size + 1 + 1, 1, none⟩) (v := .int .i64 ch) (by go_simp) (by simp)
      have d22 := hf5.cell (p := ⟨w.heap.size + 1 + 1, 2, none⟩) (v := .int .i64 (-1)) (by go_simp) (by simp)
      have d23 := hf5.cell (p := ⟨w.heap.size + 1 + 1, 3, none⟩) (v := .int .i64 0) (by go_simp) (by simp)
      have d24 := hf5.cell (p := ⟨w.heap.size + 1 + 1, 4, none⟩) (v := .slice a1 not.length c1) (by go_simp) (by simp)
      have d25 := hf5.cell (p := ⟨w.heap.size + 1 + 1, 5, none⟩) (v := .int .i64 tgt) (by go_simp) (by simp)
      have d03 := hf5.cell (p := ⟨w.heap.size, 3, none⟩) (v := .slice sa ns sc) (by go_simp) (by simp)
      have HX : Hid (Frm [] w w5) := Lib.hid (by refine Frm.trans ?_ hf5 (by simp); (repeat' (first | exact Frm.refl _ _ | refine Frm.alloc ?_ _ | (refine Frm.setCell ?_ (.inr (by simp)) _) | (refine Frm.setCell ?_ (.inr (by simp; omega)) _) | refine Frm.drewN ?_ _ | refine Frm.drew ?_)))
      clear hf5
      rw [H5.out]
      cases S5
      · go_wp2_with fail
        go_ret
        exact ⟨ret_bool (by first | (simp; done) | simp [hr]), HX.out⟩
      · go_wp2_with fail
        refine (same_any (F := F) (G := F) _ _ _ ⟨4, ch, -1, frm, not, tgt⟩ ⟨4, ch, -1, 0, not, tgt⟩ (HV.out.nil HX.out) (show NotAt _ F _ _ from HV.out.nil HX.out)).mono ?_
        rintro e8 w8 ⟨rfl, hf8⟩
        have f1 := hf8.cell d15 (by simp)
        have f2 := hf8.cell d03 (by simp)
        have HY : Hid (Frm [] w w8) := Lib.hid (HX.out.trans hf8 (by simp))
        clear hf8 d10 d11 d12 d13 d14 d15 d20 d21 d22 d23 d24 d25 d03
        rw [H8.out]
        cases S8
        · go_wp2_with fail
          go_ret
          exact ⟨ret_bool (by first | (simp; done) | simp [hr]), HY.out⟩
        · go_wp2_with fail
          refine (below_any tgt ns w8).mono ?_
          rintro e9 w9 ⟨rfl, rfl⟩
          rw [H9.out]
          go_wp2_with fail
          go_ret
          exact ⟨ret_bool (by first | (simp; done) | simp [hr]), HY.out⟩

set_option maxRecDepth 100000 in
set_option maxHeartbeats 1000000 in
set_option linter.unusedSimpArgs false in
theorem validArc_5 {F : List Nat} (w : World) (m : RM) (sa : Option Addr) (sc : Nat) (v : Value) (a : RA) (hv : NotAt w F v a) (hk : a.kind = 5) :
    Calls Tryz.prog 48 #[machV m (.slice sa m.states.length sc), arcV v a] w fun e w' => e = .returned (.bool (arcB m a)) ∧ Frm [] w w' := by
  rw [arcB_ok]
  obtain ⟨a1, c1, rfl⟩ := hv.shape
  obtain ⟨kind, ch, reg, frm, not, tgt⟩ := a
  simp only at hk
  subst hk
  have HV := Lib.hid hv
  clear hv
  have e1 : okB m ⟨5, ch, reg, frm, not, tgt⟩ = (belowB ch m.data && belowB reg m.regs) := rfl
  have e2 : unusedA ⟨5, ch, reg, frm, not, tgt⟩ = ⟨5, ch, reg, 0, [], tgt⟩ := rfl
  rw [e1, e2]
  clear e1 e2
  generalize hn : m.states.length = ns
  obtain ⟨regs, data, plain, states⟩ := m
  simp only
  generalize h2 : belowB ch data = S2
  have H2 := Lib.hid h2
  clear h2
  generalize h3 : belowB reg regs = S3
  have H3 := Lib.hid h3
  clear h3
  generalize h8 : sameB ⟨5, ch, reg, frm, not, tgt⟩ ⟨5, ch, reg, 0, [], tgt⟩ = S8
  have H8 := Lib.hid h8
  clear h8
  generalize h9 : belowB tgt ns = S9
  have H9 := Lib.hid h9
  clear h9
  unfold machV arcV
  clear hn
  go_enter Tryz.func48, Tryz.ntmps48
  go_wp2_with fail
  go_region
  go_wp2_with fail
  refine (below_any ch data _).mono ?_
  rintro e2 w2 ⟨rfl, rfl⟩
  rw [H2.out]
  cases S2
  · go_wp2_with fail
    go_ret
    exact ⟨ret_bool (by first | (simp; done) | simp [hr]), by (repeat' (first | exact Frm.refl _ _ | refine Frm.alloc ?_ _ | (refine Frm.setCell ?_ (.inr (by simp)) _) | (refine Frm.setCell ?_ (.inr (by simp; omega)) _) | refine Frm.drewN ?_ _ | refine Frm.drew ?_))⟩
  · go_wp2_with fail
    refine (below_any reg regs _).mono ?_
    rintro e3 w3 ⟨rfl, rfl⟩
    rw [H3.out]
    cases S3
    · go_wp2_with fail
      go_ret
      exact ⟨ret_bool (by first | (simp; done) | simp [hr]), by (repeat' (first | exact Frm.refl _ _ | refine Frm.alloc ?_ _ | (refine Frm.setCell ?_ (.inr (by simp)) _) | (refine Frm.setCell ?_ (.inr (by simp; omega)) _) | refine Frm.drewN ?_ _ | refine Frm.drew ?_))⟩
    · go_wp2_with fail
      refine (same_any (F := F) (G := []) _ _ _ ⟨5, ch, reg, frm, not, tgt⟩ ⟨5, ch, reg, 0, [], tgt⟩ (HV.out.nil (by (repeat' (first | exact Frm.refl _ _ | refine Frm.alloc ?_ _ | (refine Frm.setCell ?_ (.inr (by simp)) _) | (refine Frm.setCell ?_ (.inr (by simp; omega)) _) | refine Frm.drewN ?_ _ | refine Frm.drew ?_)))) (notAt_nil _ _ _ rfl)).mono ?_
      rintro e8 w8 ⟨rfl, hf8⟩
      have d1 := hf8.cell (p := ⟨w.heap.size + 1, 5, none⟩) (v := .int .i64 tgt) (by go_simp) (by simp)
      have d2 := hf8.cell (p := ⟨w.heap.size, 3, none⟩) (v := .slice sa ns sc) (by go_simp) (by simp)
      have HY : Hid (Frm [] w w8) := Lib.hid (by refine Frm.trans ?_ hf8 (by simp); (repeat' (first | exact Frm.refl _ _ | refine Frm.alloc ?_ _ | (refine Frm.setCell ?_ (.inr (by simp)) _) | (refine Frm.setCell ?_ (.inr (by simp; omega)) _) | refine Frm.drewN ?_ _ | refine Frm.drew ?_)))
      clear hf8
      rw [H8.out]
      cases S8
      · go_wp2_with fail
        go_ret
        exact ⟨ret_bool (by first | (simp; done) | simp [hr]), HY.out⟩
      · go_wp2_with fail
        refine (below_any tgt ns w8).mono ?_
        rintro e9 w9 ⟨rfl, rfl⟩
        rw [H9.out]
        go_wp2_with fail
        go_ret
        exact ⟨ret_bool (by first | (simp; done) | simp [hr]), HY.out⟩

set_option maxRecDepth 100000 in
set_option maxHeartbeats 1000000 in
set_option linter.unusedSimpArgs false in
theorem validArc_6 {F : List Nat} (w : World) (m : RM) (sa : Option Addr) (sc : Nat) (v : Value) (a : RA) (hv : NotAt w F v a) (hk : a.kind = 6) :
    Calls Tryz.prog 48 #[machV m (.slice sa m.states.length sc), arcV v a] w fun e w' => e = .returned (.bool (arcB m a)) ∧ Frm [] w w' := by
  rw [arcB_ok]
  obtain ⟨a1, c1, rfl⟩ := hv.shape
  obtain ⟨kind, ch, reg, frm, not, tgt⟩ := a
  simp only at hk
  subst hk
  have HV := Lib.hid hv
  clear hv
  have e1 : okB m ⟨6, ch, reg, frm, not, tgt⟩ = belowB reg m.regs := rfl
  have e2 : unusedA ⟨6, ch, reg, frm, not, tgt⟩ = ⟨6, 0, reg, 0, [], tgt⟩ := rfl
  rw [e1, e2]
  clear e1 e2
  generalize hn : m.states.length = ns
  obtain ⟨regs, data, plain, states⟩ := m
  simp only
  generalize h2 : belowB reg regs = S2
  have H2 := Lib.hid h2
  clear h2
  generalize h8 : sameB ⟨6, ch, reg, frm, not, tgt⟩ ⟨6, 0, reg, 0, [], tgt⟩ = S8
  have H8 := Lib.hid h8
  clear h8
  generalize h9 : belowB tgt ns = S9
  have H9 := Lib.hid h9
  clear h9
  unfold machV arcV
  clear hn
  go_enter Tryz.func48, Tryz.ntmps48
  go_wp2_with fail
  refine (below_any reg regs _).mono ?_
  rintro e2 w2 ⟨rfl, rfl⟩
  rw [H2.out]
  cases S2
  · go_wp2_with fail
    go_ret
    exact ⟨ret_bool (by first | (simp; done) | simp [hr]), by (repeat' (first | exact Frm.refl _ _ | refine Frm.alloc ?_ _ | (refine Frm.setCell ?_ (.inr (by simp)) _) | (refine Frm.setCell ?_ (.inr (by simp; omega)) _) | refine Frm.drewN ?_ _ | refine Frm.drew ?_))⟩
  · go_wp2_with fail
    refine (same_any (F := F) (G := []) _ _ _ ⟨6, ch, reg, frm, not, tgt⟩ ⟨6, 0, reg, 0, [], tgt⟩ (HV.out.nil (by (repeat' (first | exact Frm.refl _ _ | refine Frm.alloc ?_ _ | (refine Frm.setCell ?_ (.inr (by simp)) _) | (refine Frm.setCell ?_ (.inr (by simp; omega)) _) | refine Frm.drewN ?_ _ | refine Frm.drew ?_)))) (notAt_nil _ _ _ rfl)).mono ?_
    rintro e8 w8 ⟨rfl, hf8⟩
    have d1 := hf8.cell (p := ⟨w.heap.size + 1, 5, none⟩) (v := .int .i64 tgt) (by go_simp) (by simp)
    have d2 := hf8.cell (p := ⟨w.heap.size, 3, none⟩) (v := .slice sa ns sc) (by go_simp) (by simp)
    have HY : Hid (Frm [] w w8) := Lib.hid (by refine Frm.trans ?_ hf8 (by simp); (repeat' (first | exact Frm.refl _ _ | refine Frm.alloc ?_ _ | (refine Frm.setCell ?_ (.inr (by simp)) _) | (refine Frm.setCell ?_ (.inr (by simp; omega)) _) | refine Frm.drewN ?_ _ | refine Frm.drew ?_)))
    clear hf8
    rw [H8.out]
    cases S8
    · go_wp2_with fail
      go_ret
      exact ⟨ret_bool (by first | (simp; done) | simp [hr]), HY.out⟩
    · go_wp2_with fail
      refine (below_any tgt ns w8).mono ?_
      rintro e9 w9 ⟨rfl, rfl⟩
      rw [H9.out]
      go_wp2_with fail
      go_ret
      exact ⟨ret_bool (by first | (simp; done) | simp [hr]), HY.out⟩

set_option maxRecDepth 100000 in
set_option maxHeartbeats 1000000 in
set_option linter.unusedSimpArgs false in
theorem validArc_7 {F : List Nat} (w : World) (m : RM) (sa : Option Addr) (sc : Nat) (v : Value) (a : RA) (hv : NotAt w F v a) (hk : a.kind = 7) :
    Calls Tryz.prog 48 #[machV m (.slice sa m.states.length sc), arcV v a] w fun e w' => e = .returned (.bool (arcB m a)) ∧ Frm [] w w' := by
  rw [arcB_ok]
  obtain ⟨a1, c1, rfl⟩ := hv.shape
  obtain ⟨kind, ch, reg, frm, not, tgt⟩ := a
  simp only at hk
  subst hk
  have HV := Lib.hid hv
  clear hv
  have e1 : okB m ⟨7, ch, reg, frm, not, tgt⟩ = (belowB reg m.regs && belowB frm m.regs) := rfl
  have e2 : unusedA ⟨7, ch, reg, frm, not, tgt⟩ = ⟨7, 0, reg, frm, [], tgt⟩ := rfl
  rw [e1, e2]
  clear e1 e2
  generalize hn : m.states.length = ns
  obtain ⟨regs, data, plain, states⟩ := m
  simp only
  generalize h2 : belowB reg regs = S2
  have H2 := Lib.hid h2
  clear h2
  generalize h3 : belowB frm regs = S3
  have H3 := Lib.hid h3
  clear h3
  generalize h8 : sameB ⟨7, ch, reg, frm, not, tgt⟩ ⟨7, 0, reg, frm, [], tgt⟩ = S8
  have H8 := Lib.hid h8
  clear h8
  generalize h9 : belowB tgt ns = S9
  have H9 := Lib.hid h9
  clear h9
  unfold machV arcV
  clear hn
  go_enter Tryz.func48, Tryz.ntmps48
  go_wp2_with fail
  go_region
  go_wp2_with fail
  refine (below_any reg regs _).mono ?_
  rintro e2 w2 ⟨rfl, rfl⟩
  rw [H2.out]
  cases S2
  · go_wp2_with fail
    go_ret
    exact ⟨ret_bool (by first | (simp; done) | simp [hr]), by (repeat' (first | exact Frm.refl _ _ | refine Frm.alloc ?_ _ | (refine Frm.setCell ?_ (.inr (by simp)) _) | (refine Frm.setCell ?_ (.inr (by simp; omega)) _) | refine Frm.drewN ?_ _ | refine Frm.drew ?_))⟩
  · go_wp2_with fail
    refine (below_any frm regs _).mono ?_
    rintro e3 w3 ⟨rfl, rfl⟩
    rw [H3.out]
    cases S3
    · go_wp2_with fail
      go_ret
      exact ⟨ret_bool (by first | (simp; done) | simp [hr]), by (repeat' (first | exact Frm.refl _ _ | refine Frm.alloc ?_ _ | (refine Frm.setCell ?_ (.inr (by simp)) _) | (refine Frm.setCell ?_ (.inr (by simp; omega)) _) | refine Frm.drewN ?_ _ | refine Frm.drew ?_))⟩
    · go_wp2_with fail
      refine (same_any (F := F) (G := []) _ _ _ ⟨7, ch, reg, frm, not, tgt⟩ ⟨7, 0, reg, frm, [], tgt⟩ (HV.out.nil (by (repeat' (first | exact Frm.refl _ _ | refine Frm.alloc ?_ _ | (refine Frm.setCell ?_ (.inr (by simp)) _) | (refine Frm.setCell ?_ (.inr (by simp; omega)) _) | refine Frm.drewN ?_ _ | refine Frm.drew ?_)))) (notAt_nil _ _ _ rfl)).mono ?_
      rintro e8 w8 ⟨rfl, hf8⟩
      have d1 := hf8.cell (p := ⟨w.heap.size + 1, 5, none⟩) (v := .int .i64 tgt) (by go_simp) (by simp)
      have d2 := hf8.cell (p := ⟨w.heap.size, 3, none⟩) (v := .slice sa ns sc) (by go_simp) (by simp)
      have HY : Hid (Frm [] w w8) := Lib.hid (by refine Frm.trans ?_ hf8 (by simp); (repeat' (first | exact Frm.refl _ _ | refine Frm.alloc ?_ _ | (refine Frm.setCell ?_ (.inr (by simp)) _) | (refine Frm.setCell ?_ (.inr (by simp; omega)) _) | refine Frm.drewN ?_ _ | refine Frm.drew ?_)))
      clear hf8
      rw [H8.out]
      cases S8
      · go_wp2_with fail
        go_ret
        exact ⟨ret_bool (by first | (simp; done) | simp [hr]), HY.out⟩
      · go_wp2_with fail
        refine (below_any tgt ns w8).mono ?_
        rintro e9 w9 ⟨rfl, rfl⟩
        rw [H9.out]
        go_wp2_with fail
        go_ret
        exact ⟨ret_bool (by first | (simp; done) | simp [hr]), HY.out⟩

set_option maxRecDepth 100000 in
set_option maxHeartbeats 1000000 in
set_option linter.unusedSimpArgs false in
theorem validArc_0 {F : List Nat} (w : World) (m : RM) (sa : Option Addr) (sc : Nat) (v : Value) (a : RA) (hv : NotAt w F v a) (hk : ¬(1 ≤ a.kind ∧ a.kind ≤ 7)) :
    Calls Tryz.prog 48 #[machV m (.slice sa m.states.length sc), arcV v a] w fun e w' => e = .returned (.bool (arcB m a)) ∧ Frm [] w w' := by
  rw [arcB_ok]
  obtain ⟨a1, c1, rfl⟩ := hv.shape
  obtain ⟨kind, ch, reg, frm, not, tgt⟩ := a
  simp only at hk
  clear hv
  have k1 : ¬ kind = 1 := by omega
  have k2 : ¬ kind = 2 := by omega
  have k3 : ¬ kind = 3 := by omega
  have k4 : ¬ kind = 4 := by omega
  have k5 : ¬ kind = 5 := by omega
  have k6 : ¬ kind = 6 := by omega
  have k7 : ¬ kind = 7 := by omega
  have e1 : okB m ⟨kind, ch, reg, frm, not, tgt⟩ = false := by simp [okB, k1, k2, k3, k4, k5, k6, k7]
  rw [e1]
  clear e1
  generalize hn : m.states.length = ns
  obtain ⟨regs, data, plain, states⟩ := m
  unfold machV arcV
  clear hn hk
  go_enter Tryz.func48, Tryz.ntmps48
  go_wp2_with fail
  go_ret
  exact ⟨rfl, by (repeat' (first | exact Frm.refl _ _ | refine Frm.alloc ?_ _ | (refine Frm.setCell ?_ (.inr (by simp)) _) | (refine Frm.setCell ?_ (.inr (by simp; omega)) _) | refine Frm.drewN ?_ _ | refine Frm.drew ?_))⟩

theorem validArc_any {F : List Nat} (w : World) (m : RM) (sa : Option Addr) (sc : Nat) (v : Value) (a : RA) (hv : NotAt w F v a) :
    Calls Tryz.prog 48 #[machV m (.slice sa m.states.length sc), arcV v a] w fun e w' => e = .returned (.bool (arcB m a)) ∧ Frm [] w w' := by
  by_cases hk : 1 ≤ a.kind ∧ a.kind ≤ 7
  · have h : a.kind = 1 ∨ a.kind = 2 ∨ a.kind = 3 ∨ a.kind = 4 ∨ a.kind = 5 ∨ a.kind = 6 ∨ a.kind = 7 := by omega
    rcases h with h | h | h | h | h | h | h
    · exact validArc_1 w m sa sc v a hv h
    · exact validArc_2 w m sa sc v a hv h
    · exact validArc_3 w m sa sc v a hv h
    · exact validArc_4 w m sa sc v a hv h
    · exact validArc_5 w m sa sc v a hv h
    · exact validArc_6 w m sa sc v a hv h
    · exact validArc_7 w m sa sc v a hv h
  · exact validArc_0 w m sa sc v a hv hk

end Go.Proofs.YtdknbgejhhoaiaaGreat.Ind
