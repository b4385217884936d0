/- Merged text: L3, L4, L5 of the notes. -/
import Derived.Test.YtfndgiinniibfaaL0
import Derived.Deep.RegionHeld3
/- Contract of instances: both Instances answer alike. -/
namespace Go.Proofs.Ytfndgiinniibfaa.Ind
open Go.Shelf Go.RowKit Go.Lib

/-- The rows and the error of an instance. -/
def instP (m : RM) (n : Int) : List (List Ar) × Int :=
  if validM m = true ∧ 1 ≤ n ∧ n ≤ 12 then (match instR m n.toNat with | some rows => (rows, 0) | none => ([], 10)) else ([], 1)
theorem ltsNil (w : World) : LtsAt w [] (.slice none 0 0) [] := ⟨[], RowV.nil0 _ _ _, fun i r h => by simp at h⟩
theorem inst_end {w w' : World} {m : RM} {n : Int} {e : Ending} (h : InstEnd w m n e w') : (∃ ov, e = .returned (.tuple #[.agg #[ov], .int .i64 (instP m n).2]) ∧ LtsAt w' [] ov (instP m n).1) ∧ Frm [] w w' := by
  unfold InstEnd at h
  unfold instP
  refine ⟨?_, h.2⟩
  by_cases hc : validM m = true ∧ 1 ≤ n ∧ n ≤ 12
  · rw [if_pos hc]
    rw [if_pos hc] at h
    cases hi : instR m n.toNat with
    | some rows => rw [hi] at h; exact h.1
    | none => rw [hi] at h; exact ⟨_, h.1, ltsNil _⟩
  · rw [if_neg hc]
    rw [if_neg hc] at h
    exact ⟨_, h.1, ltsNil _⟩

set_option linter.unusedSimpArgs false in
set_option maxRecDepth 100000 in
set_option maxHeartbeats 4000000 in
theorem instances_any {F : List Nat} (w : World) (m : RM) (sv : Value) (n : Int) (h : StatesAt w F sv m.states) : Calls Try.prog 18 #[machV m sv, .int .i64 n] w fun e w' => e = .returned (.bool true) ∧ Frm [] w w' := by
  obtain ⟨sa, sc, rfl, _⟩ := statesShape h
  have H1 : Hid (∀ W, Frm [] w W → Calls Try.prog 30 #[machV m (.slice sa m.states.length sc), .int .i64 n] W fun e w' => (∃ ov, e = .returned (.tuple #[.agg #[ov], .int .i64 (instP m n).2]) ∧ LtsAt w' [] ov (instP m n).1) ∧ Frm [] W w') := Lib.hid fun W hf => (instance_any W m _ n (h.nil hf)).mono fun e w' h => inst_end h
  have H2 : Hid (∀ W, Frm [] w W → Calls Try.prog 35 #[machV m (.slice sa m.states.length sc), .int .i64 n] W fun e w' => (∃ ov, e = .returned (.tuple #[.agg #[ov], .int .i64 (instP m n).2]) ∧ LtsAt w' [] ov (instP m n).1) ∧ Frm [] W w') := Lib.hid fun W hf => (refInstance_any W m _ n (h.nil hf)).mono fun e w' h => inst_end h
  generalize (instP m n).1 = rows at *
  generalize (instP m n).2 = er at *
  have hb := RowAt.made w 28 (mboxC m (.slice sa m.states.length sc)) #[.int .i64 m.regs, .int .i64 m.data, .int .i64 m.plain, .slice sa m.states.length sc] rfl
  have F0 : Frm [] w (w.alloc (.cells #[.int .i64 m.regs, .int .i64 m.data, .int .i64 m.plain, .slice sa m.states.length sc] 28)) := (Frm.refl [] w).alloc _
  have HB := Lib.hid hb
  have HF0 := Lib.hid F0
  unfold machV at H1 H2
  clear h hb F0
  unfold machV
  go_enter Try.func18, Try.ntmps18
  go_wp2_with fail
  refine (H1.out _ HF0.out).mono ?_
  rintro e1 w1 ⟨⟨ov1, rfl, hl1⟩, hf1⟩
  obtain ⟨a1, c1, rfl, _⟩ := ltsShape hl1
  have b0 := HB.out.frm hf1 (by simp)
  have HB1 := Lib.hid b0
  have c0 := b0.cell (i := 0) rfl
  have c1' := b0.cell (i := 1) rfl
  have c2 := b0.cell (i := 2) rfl
  have c3 := b0.cell (i := 3) rfl
  have hlt := b0.lt
  have HF1 := Lib.hid (HF0.out.trans hf1 (by simp))
  have HL1 := Lib.hid hl1
  have X1 := Lib.hid (RowAt.made w1 55 [.slice a1 rows.length c1] #[.slice a1 rows.length c1] rfl)
  have FX1 := Lib.hid (show Frm [] w1 (w1.alloc (.cells #[.slice a1 rows.length c1] 55)) from (Frm.refl [] w1).alloc _)
  clear b0 hf1 hl1
  go_wp2_with fail
  refine (H2.out _ (HF1.out.trans FX1.out (by simp))).mono ?_
  rintro e2 w2 ⟨⟨ov2, rfl, hl2⟩, hf2⟩
  obtain ⟨a2, c2', rfl, _⟩ := ltsShape hl2
  have FE := Lib.hid ((HF1.out.trans FX1.out (by simp)).trans hf2 (by simp))
  have FL := Lib.hid (FX1.out.trans hf2 (by simp))
  have x1 := X1.out.frm hf2 (by simp)
  have d1 := x1.cell (i := 0) rfl
  have hx1 := x1.lt
  have HL2 := Lib.hid hl2
  clear c0 c1' c2 c3 hlt hf2 hl2 x1
  go_wp2_with fail
  have FW := Lib.hid (show Frm [] w2 (w2.alloc (.cells #[.slice a2 rows.length c2'] 55)) from (Frm.refl [] w2).alloc _)
  have hcall := sameLts_any (F := []) (w2.alloc (.cells #[.slice a2 rows.length c2'] 55)) _ _ rows rows ((HL1.out.nil FL.out).nil FW.out) (HL2.out.nil FW.out)
  rw [decide_eq_true rfl] at hcall
  refine hcall.mono ?_
  rintro e3 w3 ⟨rfl, hf3⟩
  clear hcall
  go_wp2_with fail
  go_ret
  exact ⟨rfl, (FE.out.trans FW.out (by simp)).trans hf3 (by simp)⟩

end Go.Proofs.Ytfndgiinniibfaa.Ind

/- Contract of checks: Valid and Norm answer as the reference's. -/
namespace Go.Proofs.Ytfndgiinniibfaa.Ind
open Go.Shelf Go.RowKit Go.Lib

set_option linter.unusedSimpArgs false in
set_option maxRecDepth 100000 in
set_option maxHeartbeats 4000000 in
theorem checks_any {F : List Nat} (w : World) (m : RM) (sv : Value) (h : StatesAt w F sv m.states) : Calls Try.prog 14 #[machV m sv] w fun e w' => e = .returned (.bool true) ∧ Frm [] w w' := by
  obtain ⟨sa, sc, rfl, _⟩ := statesShape h
  have h1 := fun W (hf : Frm [] w W) => valid_any W m (.slice sa m.states.length sc) (h.nil hf)
  have h2 := fun W (hf : Frm [] w W) => validMachine_any W m (.slice sa m.states.length sc) (h.nil hf)
  have h3 := fun W (hf : Frm [] w W) => norm_any W m (.slice sa m.states.length sc) (h.nil hf)
  have h4 := fun W (hf : Frm [] w W) => refNorm_any W m (.slice sa m.states.length sc) (h.nil hf)
  generalize validM m = b1 at *
  generalize decide (NormM m) = b2 at *
  have hb := RowAt.made w 28 (mboxC m (.slice sa m.states.length sc)) #[.int .i64 m.regs, .int .i64 m.data, .int .i64 m.plain, .slice sa m.states.length sc] rfl
  have f0 : Frm [] w (w.alloc (.cells #[.int .i64 m.regs, .int .i64 m.data, .int .i64 m.plain, .slice sa m.states.length sc] 28)) := (Frm.refl [] w).alloc _
  obtain ⟨W, hW⟩ : ∃ W, W = w.alloc (.cells #[.int .i64 m.regs, .int .i64 m.data, .int .i64 m.plain, .slice sa m.states.length sc] 28) := ⟨_, rfl⟩
  rw [← hW] at hb f0
  have HB := Lib.hid hb
  have F0 := Lib.hid f0
  unfold machV at h1 h2 h3 h4
  have H1 := Lib.hid h1
  have H2 := Lib.hid h2
  have H3 := Lib.hid h3
  have H4 := Lib.hid h4
  have HW := Lib.hid hW
  clear h h1 h2 h3 h4 hb f0 hW
  unfold machV
  cases b1 <;> cases b2
  all_goals
    go_enter Try.func14, Try.ntmps14
    go_wp2_with fail
    rw [← HW.out]
    have KEEP : Hid (∀ w', Frm [] W w' → w'.cell? ⟨w.heap.size, 0, none⟩ = some (.int .i64 m.regs) ∧ w'.cell? ⟨w.heap.size, 1, none⟩ = some (.int .i64 m.data) ∧ w'.cell? ⟨w.heap.size, 2, none⟩ = some (.int .i64 m.plain) ∧ w'.cell? ⟨w.heap.size, 3, none⟩ = some (.slice sa m.states.length sc)) := Lib.hid fun w' hf => by
      have hx := HB.out.frm hf (by simp)
      exact ⟨hx.cell (i := 0) rfl, hx.cell (i := 1) rfl, hx.cell (i := 2) rfl, hx.cell (i := 3) rfl⟩
    go_region_held3 (fun w' => w'.cell? ⟨w.heap.size, 0, none⟩ = some (.int .i64 m.regs) ∧ w'.cell? ⟨w.heap.size, 1, none⟩ = some (.int .i64 m.data) ∧ w'.cell? ⟨w.heap.size, 2, none⟩ = some (.int .i64 m.plain) ∧ w'.cell? ⟨w.heap.size, 3, none⟩ = some (.slice sa m.states.length sc))
      (first | exact KEEP.out _ (Frm.refl [] W).drew | exact KEEP.out _ hy1 | exact KEEP.out _ hy2 | exact KEEP.out _ hy3 | exact KEEP.out _ hy4)
      (first
        | (go_at_call 8; refine (H1.out _ (F0.out.trans (Frm.refl [] W).drew (by simp))).mono ?_; rintro e1 w1 ⟨rfl, hf1⟩; have hy1 := (Frm.refl [] W).drew.trans hf1 (by simp))
        | (go_at_call 34; refine (H2.out _ (F0.out.trans hy1 (by simp))).mono ?_; rintro e2 w2 ⟨rfl, hf2⟩; have hy2 := hy1.trans hf2 (by simp))
        | (go_at_call 9; refine (H3.out _ (F0.out.trans hy2 (by simp))).mono ?_; rintro e3 w3 ⟨rfl, hf3⟩; have hy3 := hy2.trans hf3 (by simp))
        | (go_at_call 33; refine (H4.out _ (F0.out.trans hy3 (by simp))).mono ?_; rintro e4 w4 ⟨rfl, hf4⟩; have hy4 := hy3.trans hf4 (by simp)))
    go_wp2_with fail
    go_ret
    exact ⟨rfl, F0.out.trans hy4 (by simp)⟩

end Go.Proofs.Ytfndgiinniibfaa.Ind

/- Contract of huge: it answers, and nothing turns. -/
namespace Go.Proofs.Ytfndgiinniibfaa.Ind
open Go.Shelf Go.RowKit Go.Lib

def SomeBool (w : World) (e : Ending) (w' : World) : Prop := (∃ b, e = .returned (.bool b)) ∧ Frm [] w w'
set_option linter.unusedSimpArgs false in
set_option maxRecDepth 100000 in
set_option maxHeartbeats 4000000 in
theorem huge_any {F : List Nat} (w : World) (m : RM) (sv : Value) (h : StatesAt w F sv m.states) : Calls Try.prog 17 #[machV m sv] w (SomeBool w) := by
  obtain ⟨sa, sc, rfl, hl⟩ := statesShape h
  have hb := RowAt.made w 28 (mboxC m (.slice sa m.states.length sc)) #[.int .i64 m.regs, .int .i64 m.data, .int .i64 m.plain, .slice sa m.states.length sc] rfl
  have f0 : Frm [] w (w.alloc (.cells #[.int .i64 m.regs, .int .i64 m.data, .int .i64 m.plain, .slice sa m.states.length sc] 28)) := (Frm.refl [] w).alloc _
  obtain ⟨W, hW⟩ : ∃ W, W = w.alloc (.cells #[.int .i64 m.regs, .int .i64 m.data, .int .i64 m.plain, .slice sa m.states.length sc] 28) := ⟨_, rfl⟩
  rw [← hW] at hb f0
  have HB := Lib.hid hb
  have F0 := Lib.hid f0
  have HW := Lib.hid hW
  have H := Lib.hid h
  clear h hb f0 hW
  unfold machV
  go_enter Try.func17, Try.ntmps17
  go_wp2_with fail
  rw [← HW.out]
  go_loopg [3, 4] m.states.length (fun q t3 t4 wr => ∃ (k : Nat) (z : Int), q = m.states.length - k ∧ k ≤ m.states.length ∧ t4 = .int .i64 k ∧ t3 = .int .i64 z ∧ Frm [] W wr)
  case atStart => exact ⟨0, 0, rfl, Nat.zero_le _, rfl, rfl, Frm.refl _ _⟩
  case round =>
    obtain ⟨k, z, hq, hk, rfl, rfl, hF⟩ := hrel
    have HQ := Lib.hid hq
    have HF := Lib.hid hF
    have i4 : (0 : Int) ≤ (k : Int) := by omega
    have c3 := (HB.out.frm hF (by simp)).cell (i := 3) rfl
    clear hq hF
    by_cases hlt : k < m.states.length
    · have i5 : (k : Int) < (m.states.length : Int) := by omega
      by_cases hz : z < 60
      · obtain ⟨row, hrow⟩ : ∃ row, m.states[k]? = some row := ⟨_, List.getElem?_eq_getElem hlt⟩
        obtain ⟨b8, o8, c8, ra, rn, rc, e8, _, _, _, hcell, rfl, _⟩ := H.out.at_ hrow
        cases e8
        have d8 := (F0.out.trans HF.out (by simp)).cell hcell (by simp)
        clear hcell hrow
        go_wp2_with fail
        go_roundg (m.states.length - (k + 1))
        case rel => exact ⟨k + 1, _, rfl, by omega, by go_num, rfl, HF.out⟩
        case measure => have := HQ.out; omega
      · have hz' : ¬ z < 60 := hz
        go_wp2_with fail
        go_ret
        exact ⟨⟨_, rfl⟩, F0.out.trans HF.out (by simp)⟩
    · have i5 : ¬ (k : Int) < (m.states.length : Int) := by omega
      go_wp2_with fail
      go_ret
      exact ⟨⟨_, rfl⟩, F0.out.trans HF.out (by simp)⟩

end Go.Proofs.Ytfndgiinniibfaa.Ind
