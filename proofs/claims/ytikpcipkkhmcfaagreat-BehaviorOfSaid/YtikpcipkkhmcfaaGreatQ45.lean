/- Contracts of behaves and sane of the law. -/
import Derived.Test.YtikpcipkkhmcfaaGreatQ43
import Derived.Test.YtikpcipkkhmcfaaGreatQ44
namespace Go.Proofs.YtikpcipkkhmcfaaGreat.Beh
open Go.Shelf Go.RowKit Go.Lib Go.Sort Go.Maps Go.Proofs.YtikpcipkkhmcfaaGreat Go.Proofs.YtikpcipkkhmcfaaGreat.Ind

set_option linter.unusedSimpArgs false in
set_option maxRecDepth 100000 in
set_option maxHeartbeats 4000000 in
theorem behaves_any (B0 : Nat) (a : Option Addr) (cap : Nat) (l : Lts) (n : Int) (w : World) (h0 : LAt B0 w a cap l) :
    Calls Tryz.prog 11 #[.agg #[.slice a l.length cap], .int .i64 n] w fun e w' => e = .returned (.bool true) ∧ Frm [] w w' := by
  obtain ⟨R, hR⟩ : ∃ R, R = ofRes l n := ⟨_, rfl⟩
  have HOF : Hid (∀ W, Frm [] w W → Calls Tryz.prog 30 #[.agg #[.slice a l.length cap], .int .i64 n] W fun e w' => (∃ a c, e = .returned (.tuple #[.slice a R.2.length c, .int .i64 R.1]) ∧ BehAt w' [] (.slice a R.2.length c) R.2) ∧ Frm [] W w') := Lib.hid fun W hf => by
    rw [hR]
    exact (of_any B0 [] W a cap l n (h0.nil hf rfl) (by simp)).mono fun _ _ h => h.res
  have HRF : Hid (∀ W, Frm [] w W → Calls Tryz.prog 38 #[.agg #[.slice a l.length cap], .int .i64 n] W fun e w' => (∃ a c, e = .returned (.tuple #[.slice a R.2.length c, .int .i64 R.1]) ∧ BehAt w' [] (.slice a R.2.length c) R.2) ∧ Frm [] W w') := Lib.hid fun W hf => by
    rw [hR]
    exact (rof_any B0 [] W a cap l n (h0.nil hf rfl) (by simp)).mono fun _ _ h => h.res
  have f0 : Frm [] w (w.alloc (.cells #[.slice a l.length cap] 25)) := (Frm.refl [] w).alloc _
  have HB := Lib.hid (RowAt.made w 25 [.slice a l.length cap] #[.slice a l.length cap] rfl)
  have HF0 := Lib.hid f0
  have jn : (R.1 == R.1) = true := by simp
  clear h0 hR f0
  go_enter Tryz.func11, Tryz.ntmps11
  go_wp2_with (first
    | (go_at_call 30; refine (HOF.out _ HF0.out).mono ?_; rintro e1 w1 ⟨⟨a1, c1, rfl, hb1⟩, hf1⟩; have F1 := Lib.hid (HF0.out.trans hf1 (by simp)); have b1 := (HB.out.frm hf1 (by simp)).cell (i := 0) rfl; have A1 := Lib.hid hb1; clear hb1 hf1)
    | (go_at_call 38; refine (HRF.out _ F1.out).mono ?_; rintro e2 w2 ⟨⟨a2, c2, rfl, hb2⟩, hf2⟩; have F2 := Lib.hid (F1.out.trans hf2 (by simp)); have A2 := Lib.hid hb2; have A12 := Lib.hid (A1.out.nil hf2); clear hb2 hf2)
    | (go_at_call 33; refine (refSame_any w2 _ _ R.2 R.2 A12.out A2.out).mono ?_; rintro e3 w3 ⟨he3, hf3⟩; rw [decide_eq_true rfl] at he3; subst he3)
    | fail)
  go_ret
  exact ⟨rfl, F2.out.trans hf3 (by simp)⟩
theorem ex_lat (w : World) : LAt ((w.alloc (.cells #[.int .i64 2, .int .i64 1] 66)).alloc (.cells #[.slice (some ⟨w.heap.size, 0, none⟩) 1 1, .slice none 0 0] 63)).heap.size ((w.alloc (.cells #[.int .i64 2, .int .i64 1] 66)).alloc (.cells #[.slice (some ⟨w.heap.size, 0, none⟩) 1 1, .slice none 0 0] 63)) (some ⟨w.heap.size + 1, 0, none⟩) 2 exS := by
  have r0 := (RowAt.made w 66 [.int .i64 2, .int .i64 1] #[.int .i64 2, .int .i64 1] rfl).alloc (.cells #[.slice (some ⟨w.heap.size, 0, none⟩) 1 1, .slice none 0 0] 63)
  have r1 := row_made1 w (.cells #[.int .i64 2, .int .i64 1] 66) 63 [.slice (some ⟨w.heap.size, 0, none⟩) 1 1, .slice none 0 0] #[.slice (some ⟨w.heap.size, 0, none⟩) 1 1, .slice none 0 0] rfl
  refine ⟨by decide, by decide, by decide, fun i row hi => ?_⟩
  match i, hi with
  | 0, hi =>
    cases hi
    refine ⟨w.heap.size + 1, 0, some ⟨w.heap.size, 0, none⟩, 1, rfl, by simp, r1.cell (i := 0) rfl, by decide, by decide, by decide, fun j e t hj => ?_⟩
    match j, hj with
    | 0, hj =>
      cases hj
      exact ⟨w.heap.size, 0, rfl, by simp; omega, r0.cell (i := 0) rfl, r0.cell (i := 1) rfl⟩
    | j + 1, hj => simp at hj
  | 1, hi =>
    cases hi
    refine ⟨w.heap.size + 1, 0, none, 0, rfl, by simp, r1.cell (i := 1) rfl, by decide, by decide, by decide, fun j e t hj => ?_⟩
    simp at hj
  | i + 2, hi => simp [exS] at hi
set_option linter.unusedSimpArgs false in
set_option maxRecDepth 100000 in
set_option maxHeartbeats 4000000 in
theorem sane_any (w : World) : Calls Tryz.prog 16 #[] w fun e w' => e = .returned (.bool true) ∧ Frm [] w w' := by
  have hl := ex_lat w
  have F0 := Lib.hid (((Frm.refl [] w).alloc (.cells #[.int .i64 2, .int .i64 1] 66)).alloc (.cells #[.slice (some ⟨w.heap.size, 0, none⟩) 1 1, .slice none 0 0] 63))
  have hof := of_any _ [] _ _ 2 exS 2 hl (by simp)
  have hof2 := hof.mono fun _ _ h => h.res
  rw [ex_of] at hof2
  have HOF := Lib.hid hof2
  clear hl hof hof2
  go_enter Tryz.func16, Tryz.ntmps16
  go_wp2_with (first
    | (go_at_call 30; refine HOF.out.mono ?_; rintro e1 w1 ⟨⟨a1, c1, rfl, hb1⟩, hf1⟩; have F1 := Lib.hid (F0.out.trans hf1 (by simp)); have A1 := Lib.hid hb1; clear hb1 hf1)
    | fail)
  have S := ((((((Sep.start w1).box w1.heap.size rfl 3 [.int .i64 2] #[.int .i64 2] rfl).box (w1.heap.size + 1) (by simp) 22 [.slice (some ⟨w1.heap.size, 0, none⟩) 1 1] #[.slice (some ⟨w1.heap.size, 0, none⟩) 1 1] rfl).box (w1.heap.size + 1 + 1) (by simp) 3 [.int .i64 2] #[.int .i64 2] rfl).box (w1.heap.size + 1 + 1 + 1) (by simp) 3 [] #[] rfl).box (w1.heap.size + 1 + 1 + 1 + 1) (by simp) 22 [.slice (some ⟨w1.heap.size + 1 + 1 + 1, 0, none⟩) 0 0] #[.slice (some ⟨w1.heap.size + 1 + 1 + 1, 0, none⟩) 0 0] rfl).box (w1.heap.size + 1 + 1 + 1 + 1 + 1) (by simp) 69 [.slice none 0 0, .slice (some ⟨w1.heap.size + 1, 0, none⟩) 1 1, .bool false, .slice (some ⟨w1.heap.size + 1 + 1, 0, none⟩) 1 1, .slice (some ⟨w1.heap.size + 1 + 1 + 1 + 1, 0, none⟩) 1 1, .bool false] #[.slice none 0 0, .slice (some ⟨w1.heap.size + 1, 0, none⟩) 1 1, .bool false, .slice (some ⟨w1.heap.size + 1 + 1, 0, none⟩) 1 1, .slice (some ⟨w1.heap.size + 1 + 1 + 1 + 1, 0, none⟩) 1 1, .bool false] rfl
  generalize World.alloc (World.alloc (World.alloc (World.alloc (World.alloc (World.alloc w1 _) _) _) _) _) _ = W at *
  have hbeh : BehAt W [] (.slice (some ⟨w1.heap.size + 1 + 1 + 1 + 1 + 1, 0, none⟩) 2 2) exB := by
    refine ⟨[((.slice none 0 0, .slice (some ⟨w1.heap.size + 1, 0, none⟩) 1 1), ([], [[2]], false)), ((.slice (some ⟨w1.heap.size + 1 + 1, 0, none⟩) 1 1, .slice (some ⟨w1.heap.size + 1 + 1 + 1 + 1, 0, none⟩) 1 1), ([2], [[]], false))], rfl, rowV_cells (size := 3) (S.at_ 0 rfl) rfl (Nat.le_refl _) (by decide) (by simp), fun p hp => ?_⟩
    rcases List.mem_cons.1 hp with rfl | hp
    · refine ⟨RowV.nil0 _ _ _, [(.slice (some ⟨w1.heap.size, 0, none⟩) 1 1, [2])], rfl, rowV_cells (size := 1) (S.at_ 4 rfl) rfl (Nat.le_refl _) (by decide) (by simp), fun q hq => ?_⟩
      rw [List.mem_singleton.1 hq]
      exact rowV_cells (size := 1) (S.at_ 5 rfl) rfl (Nat.le_refl _) (by decide) (by simp)
    · rw [List.mem_singleton.1 hp]
      refine ⟨rowV_cells (size := 1) (S.at_ 3 rfl) rfl (Nat.le_refl _) (by decide) (by simp), [(.slice (some ⟨w1.heap.size + 1 + 1 + 1, 0, none⟩) 0 0, [])], rfl, rowV_cells (size := 1) (S.at_ 1 rfl) rfl (Nat.le_refl _) (by decide) (by simp), fun q hq => ?_⟩
      rw [List.mem_singleton.1 hq]
      exact RowV.zero W [] _ 0 0 1 rfl (by decide)
  have HBH := Lib.hid hbeh
  have FW := Lib.hid S.frm
  clear hbeh S
  refine (refSame_any W _ _ exB exB (A1.out.nil FW.out) HBH.out).mono ?_
  rintro e3 w3 ⟨he3, hf3⟩
  rw [decide_eq_true rfl] at he3
  subst he3
  go_wp2_with fail
  go_ret
  exact ⟨rfl, (F1.out.trans FW.out (by simp)).trans hf3 (by simp)⟩
end Go.Proofs.YtikpcipkkhmcfaaGreat.Beh
