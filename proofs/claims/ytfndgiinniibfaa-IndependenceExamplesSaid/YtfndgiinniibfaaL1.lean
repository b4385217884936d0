/- IndependenceExamples returns true. -/
import Derived.Test.YtfndgiinniibfaaL0
namespace Go.Proofs.Ytfndgiinniibfaa.Ind
open Go.Shelf Go.RowKit Go.Lib

def exM : RM := ⟨0, 0, 0, [[⟨1, 0, 0, 0, [], 0⟩]]⟩
theorem ex_valid : validM exM = true := by decide +kernel
theorem ex_norm : decide (NormM exM) = false := by decide +kernel
theorem ex_dec : decB exM exM = false := by decide +kernel
theorem buf_norm : decide (NormM bufM) = true := by decide +kernel
theorem ex_made (w : World) : ∃ W, W = ((w.alloc (.cells #[.int .i64 1, .int .i64 0, .int .i64 0, .int .i64 0, .slice none 0 0, .int .i64 0] 24)).alloc (.cells #[.slice (some ⟨w.heap.size, 0, none⟩) 1 1] 25)).alloc (.cells #[.int .i64 0, .int .i64 0, .int .i64 0, .slice (some ⟨w.heap.size + 1, 0, none⟩) 1 1] 28) ∧ Frm [] w W ∧ StatesAt W [] (.slice (some ⟨w.heap.size + 1, 0, none⟩) 1 1) exM.states ∧ RowAt W (w.heap.size + 1 + 1) 28 [.int .i64 0, .int .i64 0, .int .i64 0, .slice (some ⟨w.heap.size + 1, 0, none⟩) 1 1] := by
  obtain ⟨W0, h0⟩ : ∃ W, W = w.alloc (.cells #[.int .i64 1, .int .i64 0, .int .i64 0, .int .i64 0, .slice none 0 0, .int .i64 0] 24) := ⟨_, rfl⟩
  have e0 : W0.heap.size = w.heap.size + 1 := by rw [h0]; simp
  have F0 : Frm [] w W0 := by rw [h0]; exact (Frm.refl [] w).alloc _
  have r0 : RowAt W0 w.heap.size 24 [.int .i64 1, .int .i64 0, .int .i64 0, .int .i64 0, .slice none 0 0, .int .i64 0] := by rw [h0]; exact RowAt.made w _ _ _ rfl
  obtain ⟨W1, h1⟩ : ∃ W, W = W0.alloc (.cells #[.slice (some ⟨w.heap.size, 0, none⟩) 1 1] 25) := ⟨_, rfl⟩
  have e1 : W1.heap.size = w.heap.size + 1 + 1 := by rw [h1]; simp [e0]
  have F1 : Frm [] W0 W1 := by rw [h1]; exact (Frm.refl [] W0).alloc _
  have r1 : RowAt W1 (w.heap.size + 1) 25 [.slice (some ⟨w.heap.size, 0, none⟩) 1 1] := by rw [← e0, h1]; exact RowAt.made W0 _ _ _ rfl
  obtain ⟨W2, h2⟩ : ∃ W, W = W1.alloc (.cells #[.int .i64 0, .int .i64 0, .int .i64 0, .slice (some ⟨w.heap.size + 1, 0, none⟩) 1 1] 28) := ⟨_, rfl⟩
  have F2 : Frm [] W1 W2 := by rw [h2]; exact (Frm.refl [] W1).alloc _
  have r2 : RowAt W2 (w.heap.size + 1 + 1) 28 [.int .i64 0, .int .i64 0, .int .i64 0, .slice (some ⟨w.heap.size + 1, 0, none⟩) 1 1] := by rw [← e1, h2]; exact RowAt.made W1 _ _ _ rfl
  refine ⟨W2, by rw [h2, h1, h0], (F0.trans F1 (by simp)).trans F2 (by simp), ⟨[(.slice (some ⟨w.heap.size, 0, none⟩) 1 1, [⟨1, 0, 0, 0, [], 0⟩])], rfl, rowV_cells (size := 1) (r1.frm F2 (by simp)) rfl (Nat.le_refl _) (by decide) (by simp), fun p hp => ?_⟩, r2⟩
  rw [List.mem_singleton] at hp
  subst hp
  exact arcs_one ((r0.frm F1 (by simp)).frm F2 (by simp))

set_option linter.unusedSimpArgs false in
set_option maxRecDepth 100000 in
set_option maxHeartbeats 4000000 in
theorem examples_walk (w : World) : Calls Try.prog 3 #[] w fun e w' => e = .returned (.bool true) ∧ Frm [] w w' := by
  go_enter Try.func3, Try.ntmps3
  go_wp2_with fail
  obtain ⟨W, hW, FW, hs, hb⟩ := ex_made w
  rw [← hW]
  have hthr : ∀ W', Frm [] W W' → Calls Try.prog 7 #[.agg #[.int .i64 0, .int .i64 0, .int .i64 0, .slice (some ⟨w.heap.size + 1, 0, none⟩) 1 1], .agg #[.int .i64 0, .int .i64 0, .int .i64 0, .slice (some ⟨w.heap.size + 1, 0, none⟩) 1 1]] W' fun e w' => e = .returned (.tuple #[.int .i64 0, .int .i64 1]) ∧ Frm [] W' w' := fun W' hf => by
    have h := thr_any W' exM exM _ _ (hs.nil hf) (hs.nil hf)
    rw [if_neg (by rw [ex_dec]; decide), if_neg (by rw [ex_dec]; decide)] at h
    exact h
  have hval : ∀ W', Frm [] W W' → Calls Try.prog 8 #[.agg #[.int .i64 0, .int .i64 0, .int .i64 0, .slice (some ⟨w.heap.size + 1, 0, none⟩) 1 1]] W' fun e w' => e = .returned (.bool true) ∧ Frm [] W' w' := fun W' hf => by
    have h := valid_any W' exM _ (hs.nil hf)
    rw [ex_valid] at h
    exact h
  have hnor : ∀ W', Frm [] W W' → Calls Try.prog 9 #[.agg #[.int .i64 0, .int .i64 0, .int .i64 0, .slice (some ⟨w.heap.size + 1, 0, none⟩) 1 1]] W' fun e w' => e = .returned (.bool false) ∧ Frm [] W' w' := fun W' hf => by
    have h := norm_any W' exM _ (hs.nil hf)
    rw [ex_norm] at h
    exact h
  have hbn : ∀ (W' : World) (sv : Value), StatesAt W' [] sv bufM.states → Calls Try.prog 9 #[machV bufM sv] W' fun e w' => e = .returned (.bool true) ∧ Frm [] W' w' := fun W' sv hs => by
    have h := norm_any W' bufM _ hs
    rw [buf_norm] at h
    exact h
  have HTHR := Lib.hid hthr
  have HVAL := Lib.hid hval
  have HNOR := Lib.hid hnor
  have HBN := Lib.hid hbn
  have HB := Lib.hid hb
  have HFW := Lib.hid FW
  clear hthr hval hnor hbn hb hs FW hW
  refine (HTHR.out W (Frm.refl _ _)).mono ?_
  rintro e1 w1 ⟨rfl, hf1⟩
  have b1 := HB.out.frm hf1 (by simp)
  have c0 := b1.cell (i := 0) rfl
  have c1 := b1.cell (i := 1) rfl
  have c2 := b1.cell (i := 2) rfl
  have c3 := b1.cell (i := 3) rfl
  go_wp2_with fail
  refine (HVAL.out w1 hf1).mono ?_
  rintro e2 w2 ⟨rfl, hf2⟩
  have b2 := b1.frm hf2 (by simp)
  have d0 := b2.cell (i := 0) rfl
  have d1 := b2.cell (i := 1) rfl
  have d2 := b2.cell (i := 2) rfl
  have d3 := b2.cell (i := 3) rfl
  clear c0 c1 c2 c3
  go_wp2_with fail
  refine (HNOR.out w2 (hf1.trans hf2 (by simp))).mono ?_
  rintro e3 w3 ⟨rfl, hf3⟩
  clear d0 d1 d2 d3
  go_wp2_with fail
  refine (buffer_any _).mono ?_
  rintro e4 w4 ⟨⟨sv4, rfl, hs4⟩, hf4⟩
  go_wp2_with fail
  refine (HBN.out w4 sv4 hs4).mono ?_
  rintro e5 w5 ⟨rfl, hf5⟩
  go_wp2_with fail
  refine (sane_any _).mono ?_
  rintro e6 w6 ⟨rfl, hf6⟩
  go_wp2_with fail
  go_ret
  exact ⟨rfl, HFW.out.trans (((((hf1.trans hf2 (by simp)).trans hf3 (by simp)).trans hf4 (by simp)).trans hf5 (by simp)).trans hf6 (by simp)) (by simp)⟩

end Go.Proofs.Ytfndgiinniibfaa.Ind
