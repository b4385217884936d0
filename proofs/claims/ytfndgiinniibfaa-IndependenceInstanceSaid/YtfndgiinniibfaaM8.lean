/- Contract of spoil: a machine with one property broken. (Printed by wip/tools/m8.py.) -/
import Derived.Test.YtfndgiinniibfaaM6
import Derived.Deep.RegionHeld3
namespace Go.Proofs.Ytfndgiinniibfaa.Ind
open Go.Shelf Go.RowKit Go.Lib

set_option linter.unusedSimpArgs false in
set_option maxRecDepth 100000 in
set_option maxHeartbeats 8000000 in
theorem spoil_any (B tb N : Nat) (norm0 : Bool) (w : World) (m : RM) (sv : Value) (hst : StatesAt w [tb] sv m.states) (hd : DrawnM norm0 m) (h : TapeOk B w tb N) (hB : B ≤ tb) (hN : N ≤ 700000000) :
    Calls Try.prog 16 #[.pointer (some ⟨tb, 0, none⟩), machV m sv] w (SpEnd B tb N w) := by
  have hlt := h.lt
  obtain ⟨sa, sc, rfl, _⟩ := statesShape hst
  unfold machV
  go_enter Try.func16, Try.ntmps16
  go_wp2_with fail
  have f1 : Frm [] w (w.alloc (.cells #[.int .i64 m.regs, .int .i64 m.data, .int .i64 m.plain, .slice sa m.states.length sc] 28)) := (Frm.refl [] w).alloc _
  have hs1 : (w.alloc (.cells #[.int .i64 m.regs, .int .i64 m.data, .int .i64 m.plain, .slice sa m.states.length sc] 28)).heap.size = w.heap.size + 1 := by simp
  generalize w.alloc (.cells #[.int .i64 m.regs, .int .i64 m.data, .int .i64 m.plain, .slice sa m.states.length sc] 28) = V1 at *
  have hz2 := RowAt.made V1 28 mZero.toList #[.int .i64 0, .int .i64 0, .int .i64 0, .slice none 0 0] rfl
  have f2 : Frm [] V1 (V1.alloc (.cells #[.int .i64 0, .int .i64 0, .int .i64 0, .slice none 0 0] 28)) := (Frm.refl [] V1).alloc _
  have hs2 : (V1.alloc (.cells #[.int .i64 0, .int .i64 0, .int .i64 0, .slice none 0 0] 28)).heap.size = w.heap.size + 2 := by simp [hs1]
  generalize V1.alloc (.cells #[.int .i64 0, .int .i64 0, .int .i64 0, .slice none 0 0] 28) = V2 at *
  rw [hs1] at hz2
  have fv := f1.trans f2 (by simp)
  have hch := change_any [tb, w.heap.size + 1] B tb N norm0 false V2 m (.slice sa m.states.length sc) (hst.step fv (by simp) (fun k hk => by simp at hk; rcases hk with rfl | rfl; exact .inl (by simp); exact .inr (by omega))) (by simp) (fun k hk => by simp at hk; omega) hd (h.nil fv) hB (by omega)
  unfold machV at hch
  refine hch.mono ?_
  rintro e1 w1 ⟨m1, g, c, vs, rfl, hvl, hrow, hcap, hmax, hg, hrows, hcm, hT1, hf1⟩
  have hn1 : (1 : Int) ≤ (m1.states.length : Int) := by have h8 := hcm.len; have h9 := hd.few; omega
  have hn3 : (m1.states.length : Int) ≤ 3 := by have h8 := hcm.len; have h9 := hd.few; omega
  have hshort := hcm.short
  clear hch hst hd h
  unfold machV
  go_wp2_with fail
  have hSP : SP B tb (N + 20) w (w1.alloc (.cells #[.int .i64 m1.regs, .int .i64 m1.data, .int .i64 m1.plain, .slice (some ⟨g, 0, none⟩) m1.states.length c] 28)) m1 w1.heap.size g c vs := by
    have f3 : Frm [] w1 (w1.alloc (.cells #[.int .i64 m1.regs, .int .i64 m1.data, .int .i64 m1.plain, .slice (some ⟨g, 0, none⟩) m1.states.length c] 28)) := (Frm.refl [] w1).alloc _
    have hF : Frm [tb] w w1 := (fv.mono (by simp)).trans hf1 (fun x hx => .inl hx)
    exact ⟨Bx.new hT1 hF hB hlt _ rfl, (hz2.frm hf1 (by simp; omega)).frm f3 (by simp), by omega, hrow.lt, hvl, hcap, hmax, hrow.frm f3 (by simp), fun p hp => (hrows p hp).step f3 (by simp) (fun k hk => by
      simp at hk
      rcases hk with rfl | rfl | rfl | rfl
      · exact .inr (Nat.le_refl _)
      · exact .inl (by simp)
      · exact .inl (by simp)
      · exact .inl (by simp))⟩
  generalize w1.alloc (.cells #[.int .i64 m1.regs, .int .i64 m1.data, .int .i64 m1.plain, .slice (some ⟨g, 0, none⟩) m1.states.length c] 28) = w2 at *
  generalize w1.heap.size = q at *
  have HSH := Lib.hid hshort
  clear f1 f2 hs1 hz2 hs2 fv hvl hrow hcap hmax hg hrows hcm hT1 hf1 hshort
  refine (next_any B tb (N + 20) m1.states.length w2 hSP.bx.tape hB (by omega) (by omega)).mono ?_
  rintro e3 w3 ⟨⟨sx, rfl, hsx, -⟩, hT3, hf3⟩
  obtain ⟨s, rfl⟩ : ∃ s : Nat, sx = (s : Int) := ⟨sx.toNat, by omega⟩
  have is0 : (0 : Int) ≤ (s : Int) := by omega
  have is1 : (s : Int) < (m1.states.length : Int) := by omega
  have hS3 := hSP.next hT3 hf3
  clear hSP hsx hT3 hf3
  go_wp2_with fail
  refine (next_any B tb (N + 21) 7 w3 hS3.bx.tape hB (by omega) (by omega)).mono ?_
  rintro e4 w4 ⟨⟨d, rfl, hd, -⟩, hT4, hf4⟩
  have hS4 := hS3.next hT4 hf4
  clear hS3 hT4 hf4
  have hd7 : d = 0 ∨ d = 1 ∨ d = 2 ∨ d = 3 ∨ d = 4 ∨ d = 5 ∨ d = 6 := by omega
  clear hd
  rcases hd7 with rfl | rfl | rfl | rfl | rfl | rfl | rfl
  · skip
    go_wp2_with fail
    have hq := RowAt.made w4 3 [.int .i64 (-1), .int .i64 5, .int .i64 0] #[.int .i64 (-1), .int .i64 5, .int .i64 0] rfl
    have f5 : Frm [] w4 (w4.alloc (.cells #[.int .i64 (-1), .int .i64 5, .int .i64 0] 3)) := (Frm.refl [] w4).alloc _
    have hS5 := hS4.nil f5
    have hx5 : tb < w4.heap.size ∧ q < w4.heap.size ∧ w.heap.size + 1 < w4.heap.size := ⟨by have h1 := hS4.bx.lt; have h2 := hS4.o1; have h3 := hS4.o2; have h4 := hS4.bx.row.lt; omega, hS4.bx.row.lt, hS4.res.lt⟩
    generalize w4.alloc (.cells #[.int .i64 (-1), .int .i64 5, .int .i64 0] 3) = w5 at *
    generalize w4.heap.size = x5 at *
    clear f5
    refine (next_any B tb (N + 22) 3 w5 hS5.bx.tape hB (by omega) (by omega)).mono ?_
    rintro e6 w6 ⟨⟨j, rfl, hj, -⟩, hT6, hf6⟩
    have hS6 := hS5.next hT6 hf6
    have hq6 := hq.frm hf6 (by simp; omega)
    have j0 := hq6.cell (i := 0) rfl
    have j1 := hq6.cell (i := 1) rfl
    have j2 := hq6.cell (i := 2) rfl
    have hj3 : j = 0 ∨ j = 1 ∨ j = 2 := by omega
    clear hj hT6 hf6 hS5 hq6 hq hS4
    have k0 := hS6.bx.row.cell (i := 0) rfl
    have k1 := hS6.bx.row.cell (i := 1) rfl
    have k2 := hS6.bx.row.cell (i := 2) rfl
    have k3 := hS6.bx.row.cell (i := 3) rfl
    have kz0 := hS6.bx.row.frozen 0
    have kz1 := hS6.bx.row.frozen 1
    have kz2 := hS6.bx.row.frozen 2
    have kz3 := hS6.bx.row.frozen 3
    have r0 := hS6.res.cell (i := 0) rfl
    have r1 := hS6.res.cell (i := 1) rfl
    have r2 := hS6.res.cell (i := 2) rfl
    have r3 := hS6.res.cell (i := 3) rfl
    have y0 := hS6.res.frozen 0
    have y1 := hS6.res.frozen 1
    have y2 := hS6.res.frozen 2
    have y3 := hS6.res.frozen 3
    have nn1 : w.heap.size + 1 < q := by have h2 := hS6.o1; have h3 := hS6.o2; omega
    have nn2 : ¬ q = w.heap.size + 1 := by omega
    have nn3 : ¬ w.heap.size + 1 = q := by omega
    rcases hj3 with rfl | rfl | rfl
    · go_wp2_with fail
      have hFN := SP.field hS6 0 (.int .i64 (-1)) { m1 with regs := -1 } _ rfl (hS6.kept 0 _)
      have ho := (((hFN.res.setCell 0 (.int .i64 (-1))).setCell 1 (.int .i64 m1.data)).setCell 2 (.int .i64 m1.plain)).setCell 3 (.slice (some ⟨g, 0, none⟩) m1.states.length c)
      have hF9 : Frm [w.heap.size + 1] (w6.setCell ⟨q, 0, none⟩ (.int .i64 (-1))) ((((((((w6.setCell ⟨q, 0, none⟩ (.int .i64 (-1))).setCell ⟨w.heap.size + 1, 0, none⟩ (.int .i64 (-1)))).setCell ⟨w.heap.size + 1, 1, none⟩ (.int .i64 m1.data))).setCell ⟨w.heap.size + 1, 2, none⟩ (.int .i64 m1.plain))).setCell ⟨w.heap.size + 1, 3, none⟩ (.slice (some ⟨g, 0, none⟩) m1.states.length c)) := ((((Frm.refl _ (w6.setCell ⟨q, 0, none⟩ (.int .i64 (-1)))).setCell (.inl (by simp)) _).setCell (.inl (by simp)) _).setCell (.inl (by simp)) _).setCell (.inl (by simp)) _
      have hfin := hFN.fin (N := N) (by omega) hF9
      generalize ((((((((w6.setCell ⟨q, 0, none⟩ (.int .i64 (-1))).setCell ⟨w.heap.size + 1, 0, none⟩ (.int .i64 (-1)))).setCell ⟨w.heap.size + 1, 1, none⟩ (.int .i64 m1.data))).setCell ⟨w.heap.size + 1, 2, none⟩ (.int .i64 m1.plain))).setCell ⟨w.heap.size + 1, 3, none⟩ (.slice (some ⟨g, 0, none⟩) m1.states.length c)) = W9 at *
      have e0 := ho.cell (i := 0) rfl
      have e1 := ho.cell (i := 1) rfl
      have e2 := ho.cell (i := 2) rfl
      have e3 := ho.cell (i := 3) rfl
      unfold machV at hfin
      exact bodyPost_ret (v := .agg #[(.int .i64 (-1)), (.int .i64 m1.data), (.int .i64 m1.plain), (.slice (some ⟨g, 0, none⟩) m1.states.length c)]) (by simp [results, Try.results16, go_sem, e0, e1, e2, e3]) rfl hfin
    · go_wp2_with fail
      have hFN := SP.field hS6 0 (.int .i64 (5)) { m1 with regs := 5 } _ rfl (hS6.kept 0 _)
      have ho := (((hFN.res.setCell 0 (.int .i64 5)).setCell 1 (.int .i64 m1.data)).setCell 2 (.int .i64 m1.plain)).setCell 3 (.slice (some ⟨g, 0, none⟩) m1.states.length c)
      have hF9 : Frm [w.heap.size + 1] (w6.setCell ⟨q, 0, none⟩ (.int .i64 5)) ((((((((w6.setCell ⟨q, 0, none⟩ (.int .i64 5)).setCell ⟨w.heap.size + 1, 0, none⟩ (.int .i64 5))).setCell ⟨w.heap.size + 1, 1, none⟩ (.int .i64 m1.data))).setCell ⟨w.heap.size + 1, 2, none⟩ (.int .i64 m1.plain))).setCell ⟨w.heap.size + 1, 3, none⟩ (.slice (some ⟨g, 0, none⟩) m1.states.length c)) := ((((Frm.refl _ (w6.setCell ⟨q, 0, none⟩ (.int .i64 5))).setCell (.inl (by simp)) _).setCell (.inl (by simp)) _).setCell (.inl (by simp)) _).setCell (.inl (by simp)) _
      have hfin := hFN.fin (N := N) (by omega) hF9
      generalize ((((((((w6.setCell ⟨q, 0, none⟩ (.int .i64 5)).setCell ⟨w.heap.size + 1, 0, none⟩ (.int .i64 5))).setCell ⟨w.heap.size + 1, 1, none⟩ (.int .i64 m1.data))).setCell ⟨w.heap.size + 1, 2, none⟩ (.int .i64 m1.plain))).setCell ⟨w.heap.size + 1, 3, none⟩ (.slice (some ⟨g, 0, none⟩) m1.states.length c)) = W9 at *
      have e0 := ho.cell (i := 0) rfl
      have e1 := ho.cell (i := 1) rfl
      have e2 := ho.cell (i := 2) rfl
      have e3 := ho.cell (i := 3) rfl
      unfold machV at hfin
      exact bodyPost_ret (v := .agg #[(.int .i64 5), (.int .i64 m1.data), (.int .i64 m1.plain), (.slice (some ⟨g, 0, none⟩) m1.states.length c)]) (by simp [results, Try.results16, go_sem, e0, e1, e2, e3]) rfl hfin
    · go_wp2_with fail
      have hFN := SP.field hS6 0 (.int .i64 (0)) { m1 with regs := 0 } _ rfl (hS6.kept 0 _)
      have ho := (((hFN.res.setCell 0 (.int .i64 0)).setCell 1 (.int .i64 m1.data)).setCell 2 (.int .i64 m1.plain)).setCell 3 (.slice (some ⟨g, 0, none⟩) m1.states.length c)
      have hF9 : Frm [w.heap.size + 1] (w6.setCell ⟨q, 0, none⟩ (.int .i64 0)) ((((((((w6.setCell ⟨q, 0, none⟩ (.int .i64 0)).setCell ⟨w.heap.size + 1, 0, none⟩ (.int .i64 0))).setCell ⟨w.heap.size + 1, 1, none⟩ (.int .i64 m1.data))).setCell ⟨w.heap.size + 1, 2, none⟩ (.int .i64 m1.plain))).setCell ⟨w.heap.size + 1, 3, none⟩ (.slice (some ⟨g, 0, none⟩) m1.states.length c)) := ((((Frm.refl _ (w6.setCell ⟨q, 0, none⟩ (.int .i64 0))).setCell (.inl (by simp)) _).setCell (.inl (by simp)) _).setCell (.inl (by simp)) _).setCell (.inl (by simp)) _
      have hfin := hFN.fin (N := N) (by omega) hF9
      generalize ((((((((w6.setCell ⟨q, 0, none⟩ (.int .i64 0)).setCell ⟨w.heap.size + 1, 0, none⟩ (.int .i64 0))).setCell ⟨w.heap.size + 1, 1, none⟩ (.int .i64 m1.data))).setCell ⟨w.heap.size + 1, 2, none⟩ (.int .i64 m1.plain))).setCell ⟨w.heap.size + 1, 3, none⟩ (.slice (some ⟨g, 0, none⟩) m1.states.length c)) = W9 at *
      have e0 := ho.cell (i := 0) rfl
      have e1 := ho.cell (i := 1) rfl
      have e2 := ho.cell (i := 2) rfl
      have e3 := ho.cell (i := 3) rfl
      unfold machV at hfin
      exact bodyPost_ret (v := .agg #[(.int .i64 0), (.int .i64 m1.data), (.int .i64 m1.plain), (.slice (some ⟨g, 0, none⟩) m1.states.length c)]) (by simp [results, Try.results16, go_sem, e0, e1, e2, e3]) rfl hfin
  · skip
    go_wp2_with fail
    have hq := RowAt.made w4 3 [.int .i64 (-1), .int .i64 9, .int .i64 0] #[.int .i64 (-1), .int .i64 9, .int .i64 0] rfl
    have f5 : Frm [] w4 (w4.alloc (.cells #[.int .i64 (-1), .int .i64 9, .int .i64 0] 3)) := (Frm.refl [] w4).alloc _
    have hS5 := hS4.nil f5
    have hx5 : tb < w4.heap.size ∧ q < w4.heap.size ∧ w.heap.size + 1 < w4.heap.size := ⟨by have h1 := hS4.bx.lt; have h2 := hS4.o1; have h3 := hS4.o2; have h4 := hS4.bx.row.lt; omega, hS4.bx.row.lt, hS4.res.lt⟩
    generalize w4.alloc (.cells #[.int .i64 (-1), .int .i64 9, .int .i64 0] 3) = w5 at *
    generalize w4.heap.size = x5 at *
    clear f5
    refine (next_any B tb (N + 22) 3 w5 hS5.bx.tape hB (by omega) (by omega)).mono ?_
    rintro e6 w6 ⟨⟨j, rfl, hj, -⟩, hT6, hf6⟩
    have hS6 := hS5.next hT6 hf6
    have hq6 := hq.frm hf6 (by simp; omega)
    have j0 := hq6.cell (i := 0) rfl
    have j1 := hq6.cell (i := 1) rfl
    have j2 := hq6.cell (i := 2) rfl
    have hj3 : j = 0 ∨ j = 1 ∨ j = 2 := by omega
    clear hj hT6 hf6 hS5 hq6 hq hS4
    have k0 := hS6.bx.row.cell (i := 0) rfl
    have k1 := hS6.bx.row.cell (i := 1) rfl
    have k2 := hS6.bx.row.cell (i := 2) rfl
    have k3 := hS6.bx.row.cell (i := 3) rfl
    have kz0 := hS6.bx.row.frozen 0
    have kz1 := hS6.bx.row.frozen 1
    have kz2 := hS6.bx.row.frozen 2
    have kz3 := hS6.bx.row.frozen 3
    have r0 := hS6.res.cell (i := 0) rfl
    have r1 := hS6.res.cell (i := 1) rfl
    have r2 := hS6.res.cell (i := 2) rfl
    have r3 := hS6.res.cell (i := 3) rfl
    have y0 := hS6.res.frozen 0
    have y1 := hS6.res.frozen 1
    have y2 := hS6.res.frozen 2
    have y3 := hS6.res.frozen 3
    have nn1 : w.heap.size + 1 < q := by have h2 := hS6.o1; have h3 := hS6.o2; omega
    have nn2 : ¬ q = w.heap.size + 1 := by omega
    have nn3 : ¬ w.heap.size + 1 = q := by omega
    rcases hj3 with rfl | rfl | rfl
    · go_wp2_with fail
      have hFN := SP.field hS6 1 (.int .i64 (-1)) { m1 with data := -1 } _ rfl (hS6.kept 1 _)
      have ho := (((hFN.res.setCell 0 (.int .i64 m1.regs)).setCell 1 (.int .i64 (-1))).setCell 2 (.int .i64 m1.plain)).setCell 3 (.slice (some ⟨g, 0, none⟩) m1.states.length c)
      have hF9 : Frm [w.heap.size + 1] (w6.setCell ⟨q, 1, none⟩ (.int .i64 (-1))) ((((((((w6.setCell ⟨q, 1, none⟩ (.int .i64 (-1))).setCell ⟨w.heap.size + 1, 0, none⟩ (.int .i64 m1.regs))).setCell ⟨w.heap.size + 1, 1, none⟩ (.int .i64 (-1)))).setCell ⟨w.heap.size + 1, 2, none⟩ (.int .i64 m1.plain))).setCell ⟨w.heap.size + 1, 3, none⟩ (.slice (some ⟨g, 0, none⟩) m1.states.length c)) := ((((Frm.refl _ (w6.setCell ⟨q, 1, none⟩ (.int .i64 (-1)))).setCell (.inl (by simp)) _).setCell (.inl (by simp)) _).setCell (.inl (by simp)) _).setCell (.inl (by simp)) _
      have hfin := hFN.fin (N := N) (by omega) hF9
      generalize ((((((((w6.setCell ⟨q, 1, none⟩ (.int .i64 (-1))).setCell ⟨w.heap.size + 1, 0, none⟩ (.int .i64 m1.regs))).setCell ⟨w.heap.size + 1, 1, none⟩ (.int .i64 (-1)))).setCell ⟨w.heap.size + 1, 2, none⟩ (.int .i64 m1.plain))).setCell ⟨w.heap.size + 1, 3, none⟩ (.slice (some ⟨g, 0, none⟩) m1.states.length c)) = W9 at *
      have e0 := ho.cell (i := 0) rfl
      have e1 := ho.cell (i := 1) rfl
      have e2 := ho.cell (i := 2) rfl
      have e3 := ho.cell (i := 3) rfl
      unfold machV at hfin
      exact bodyPost_ret (v := .agg #[(.int .i64 m1.regs), (.int .i64 (-1)), (.int .i64 m1.plain), (.slice (some ⟨g, 0, none⟩) m1.states.length c)]) (by simp [results, Try.results16, go_sem, e0, e1, e2, e3]) rfl hfin
    · go_wp2_with fail
      have hFN := SP.field hS6 1 (.int .i64 (9)) { m1 with data := 9 } _ rfl (hS6.kept 1 _)
      have ho := (((hFN.res.setCell 0 (.int .i64 m1.regs)).setCell 1 (.int .i64 9)).setCell 2 (.int .i64 m1.plain)).setCell 3 (.slice (some ⟨g, 0, none⟩) m1.states.length c)
      have hF9 : Frm [w.heap.size + 1] (w6.setCell ⟨q, 1, none⟩ (.int .i64 9)) ((((((((w6.setCell ⟨q, 1, none⟩ (.int .i64 9)).setCell ⟨w.heap.size + 1, 0, none⟩ (.int .i64 m1.regs))).setCell ⟨w.heap.size + 1, 1, none⟩ (.int .i64 9))).setCell ⟨w.heap.size + 1, 2, none⟩ (.int .i64 m1.plain))).setCell ⟨w.heap.size + 1, 3, none⟩ (.slice (some ⟨g, 0, none⟩) m1.states.length c)) := ((((Frm.refl _ (w6.setCell ⟨q, 1, none⟩ (.int .i64 9))).setCell (.inl (by simp)) _).setCell (.inl (by simp)) _).setCell (.inl (by simp)) _).setCell (.inl (by simp)) _
      have hfin := hFN.fin (N := N) (by omega) hF9
      generalize ((((((((w6.setCell ⟨q, 1, none⟩ (.int .i64 9)).setCell ⟨w.heap.size + 1, 0, none⟩ (.int .i64 m1.regs))).setCell ⟨w.heap.size + 1, 1, none⟩ (.int .i64 9))).setCell ⟨w.heap.size + 1, 2, none⟩ (.int .i64 m1.plain))).setCell ⟨w.heap.size + 1, 3, none⟩ (.slice (some ⟨g, 0, none⟩) m1.states.length c)) = W9 at *
      have e0 := ho.cell (i := 0) rfl
      have e1 := ho.cell (i := 1) rfl
      have e2 := ho.cell (i := 2) rfl
      have e3 := ho.cell (i := 3) rfl
      unfold machV at hfin
      exact bodyPost_ret (v := .agg #[(.int .i64 m1.regs), (.int .i64 9), (.int .i64 m1.plain), (.slice (some ⟨g, 0, none⟩) m1.states.length c)]) (by simp [results, Try.results16, go_sem, e0, e1, e2, e3]) rfl hfin
    · go_wp2_with fail
      have hFN := SP.field hS6 1 (.int .i64 (0)) { m1 with data := 0 } _ rfl (hS6.kept 1 _)
      have ho := (((hFN.res.setCell 0 (.int .i64 m1.regs)).setCell 1 (.int .i64 0)).setCell 2 (.int .i64 m1.plain)).setCell 3 (.slice (some ⟨g, 0, none⟩) m1.states.length c)
      have hF9 : Frm [w.heap.size + 1] (w6.setCell ⟨q, 1, none⟩ (.int .i64 0)) ((((((((w6.setCell ⟨q, 1, none⟩ (.int .i64 0)).setCell ⟨w.heap.size + 1, 0, none⟩ (.int .i64 m1.regs))).setCell ⟨w.heap.size + 1, 1, none⟩ (.int .i64 0))).setCell ⟨w.heap.size + 1, 2, none⟩ (.int .i64 m1.plain))).setCell ⟨w.heap.size + 1, 3, none⟩ (.slice (some ⟨g, 0, none⟩) m1.states.length c)) := ((((Frm.refl _ (w6.setCell ⟨q, 1, none⟩ (.int .i64 0))).setCell (.inl (by simp)) _).setCell (.inl (by simp)) _).setCell (.inl (by simp)) _).setCell (.inl (by simp)) _
      have hfin := hFN.fin (N := N) (by omega) hF9
      generalize ((((((((w6.setCell ⟨q, 1, none⟩ (.int .i64 0)).setCell ⟨w.heap.size + 1, 0, none⟩ (.int .i64 m1.regs))).setCell ⟨w.heap.size + 1, 1, none⟩ (.int .i64 0))).setCell ⟨w.heap.size + 1, 2, none⟩ (.int .i64 m1.plain))).setCell ⟨w.heap.size + 1, 3, none⟩ (.slice (some ⟨g, 0, none⟩) m1.states.length c)) = W9 at *
      have e0 := ho.cell (i := 0) rfl
      have e1 := ho.cell (i := 1) rfl
      have e2 := ho.cell (i := 2) rfl
      have e3 := ho.cell (i := 3) rfl
      unfold machV at hfin
      exact bodyPost_ret (v := .agg #[(.int .i64 m1.regs), (.int .i64 0), (.int .i64 m1.plain), (.slice (some ⟨g, 0, none⟩) m1.states.length c)]) (by simp [results, Try.results16, go_sem, e0, e1, e2, e3]) rfl hfin
  · skip
    have k0 := hS4.bx.row.cell (i := 0) rfl
    have k1 := hS4.bx.row.cell (i := 1) rfl
    have k2 := hS4.bx.row.cell (i := 2) rfl
    have k3 := hS4.bx.row.cell (i := 3) rfl
    have kz0 := hS4.bx.row.frozen 0
    have kz1 := hS4.bx.row.frozen 1
    have kz2 := hS4.bx.row.frozen 2
    have kz3 := hS4.bx.row.frozen 3
    have r0 := hS4.res.cell (i := 0) rfl
    have r1 := hS4.res.cell (i := 1) rfl
    have r2 := hS4.res.cell (i := 2) rfl
    have r3 := hS4.res.cell (i := 3) rfl
    have y0 := hS4.res.frozen 0
    have y1 := hS4.res.frozen 1
    have y2 := hS4.res.frozen 2
    have y3 := hS4.res.frozen 3
    have nn1 : w.heap.size + 1 < q := by have h2 := hS4.o1; have h3 := hS4.o2; omega
    have nn2 : ¬ q = w.heap.size + 1 := by omega
    have nn3 : ¬ w.heap.size + 1 = q := by omega
    go_wp2_with fail
    have hFN := SP.field hS4 3 (.slice none 0 0) { m1 with states := [] } (.slice none 0 0) rfl ⟨[], rfl, RowV.nil0 _ _ _, by simp⟩
    have ho := (((hFN.res.setCell 0 (.int .i64 m1.regs)).setCell 1 (.int .i64 m1.data)).setCell 2 (.int .i64 m1.plain)).setCell 3 (.slice none 0 0)
    have hF9 : Frm [w.heap.size + 1] (w4.setCell ⟨q, 3, none⟩ (.slice none 0 0)) ((((((((w4.setCell ⟨q, 3, none⟩ (.slice none 0 0)).setCell ⟨w.heap.size + 1, 0, none⟩ (.int .i64 m1.regs))).setCell ⟨w.heap.size + 1, 1, none⟩ (.int .i64 m1.data))).setCell ⟨w.heap.size + 1, 2, none⟩ (.int .i64 m1.plain))).setCell ⟨w.heap.size + 1, 3, none⟩ (.slice none 0 0)) := ((((Frm.refl _ (w4.setCell ⟨q, 3, none⟩ (.slice none 0 0))).setCell (.inl (by simp)) _).setCell (.inl (by simp)) _).setCell (.inl (by simp)) _).setCell (.inl (by simp)) _
    have hfin := hFN.fin (N := N) (by omega) hF9
    generalize ((((((((w4.setCell ⟨q, 3, none⟩ (.slice none 0 0)).setCell ⟨w.heap.size + 1, 0, none⟩ (.int .i64 m1.regs))).setCell ⟨w.heap.size + 1, 1, none⟩ (.int .i64 m1.data))).setCell ⟨w.heap.size + 1, 2, none⟩ (.int .i64 m1.plain))).setCell ⟨w.heap.size + 1, 3, none⟩ (.slice none 0 0)) = W9 at *
    have e0 := ho.cell (i := 0) rfl
    have e1 := ho.cell (i := 1) rfl
    have e2 := ho.cell (i := 2) rfl
    have e3 := ho.cell (i := 3) rfl
    unfold machV at hfin
    exact bodyPost_ret (v := .agg #[(.int .i64 m1.regs), (.int .i64 m1.data), (.int .i64 m1.plain), (.slice none 0 0)]) (by simp [results, Try.results16, go_sem, e0, e1, e2, e3]) rfl hfin
  · skip
    go_wp2_with fail
    obtain ⟨⟨v0, row0⟩, hv0⟩ : ∃ p, vs[s]? = some p := ⟨_, List.getElem?_eq_getElem (by have h9 := congrArg List.length hS4.vl; rw [List.length_map] at h9; omega)⟩
    obtain ⟨l0, hl0, hrv0, hnt0⟩ := hS4.rows _ (List.mem_of_getElem? hv0)
    have hrow0 : m1.states[s]? = some row0 := by rw [← hS4.vl, List.getElem?_map, hv0]; rfl
    have hl4 : row0.length ≤ 4 := HSH.out row0 (List.mem_of_getElem? hrow0)
    simp only at hl0 hrv0
    subst hl0
    rw [List.length_map] at hrv0 hl4
    obtain ⟨ra, rc, rfl⟩ := RowV.shape hrv0
    have HV0 := Lib.hid hv0
    have HL4 := Lib.hid hl4
    have hD : Frm [] w4 w4.drew := (Frm.refl [] w4).drew
    have HSD := Lib.hid (hS4.nil hD)
    have HRV0 := Lib.hid (RowV.nil hrv0 hD)
    have HNT0 := Lib.hid (fun (x : Value × RA) (hx : x ∈ l0) => RowV.nil (hnt0 x hx) hD)
    have ONEC := Lib.hid (rowC_one hrv0 hnt0)
    have KEEP : Hid (∀ (M : Nat) (w' : World), SP B tb M w w' m1 q g c vs → w'.cell? ⟨q, 3, none⟩ = some (.slice (some ⟨g, 0, none⟩) m1.states.length c) ∧ w'.cell? ⟨g, s, none⟩ = some (.slice ra l0.length rc)) := Lib.hid fun M w' hS => ⟨hS.bx.row.cell (i := 3) rfl, hS.row.cell (i := s) (by rw [List.getElem?_map, HV0.out]; rfl)⟩
    clear hv0 hrow0 hl4 hrv0 hnt0 hD hS4
    refine' wp_region_last (L := 19) _ (fun w' => w'.cell? ⟨q, 3, none⟩ = some (.slice (some ⟨g, 0, none⟩) m1.states.length c) ∧ w'.cell? ⟨g, s, none⟩ = some (.slice ra l0.length rc)) (by kernel_rfl) rfl rfl rfl rfl ?he (by kernel_rfl) (by kernel_rfl) ?hS ?h
    case he =>
      simp only [nopOf, List.getElem_toArray, List.getElem_cons_succ, List.getElem_cons_zero, List.setIfInBounds_toArray, List.set_cons_succ, List.set_cons_zero]
      rfl
    case hS => exact KEEP.out _ _ HSD.out
    intro hHeld
    have HFD : Hid (Frm [tb] w4.drew w4.drew) := Lib.hid (Frm.refl _ _)
    have HTD := Lib.hid HSD.out.bx.tape
    obtain ⟨b0, hb0⟩ : ∃ b0, b0 = w4.drew.heap.size := ⟨_, rfl⟩
    have HB0 : Hid (q < b0) := Lib.hid (by rw [hb0]; exact HSD.out.bx.row.lt)
    have HBW : Hid (∀ W, Frm [tb] w4.drew W → b0 ≤ W.heap.size) := Lib.hid (fun W hf => by rw [hb0]; exact hf.size)
    have HTR : Hid (∀ (fp : List Nat) (A C : World), Frm [tb] w4.drew A → Frm fp A C → (∀ x ∈ fp, b0 ≤ x) → Frm [tb] w4.drew C) := Lib.hid (fun fp A C h1 h2 h3 => h1.trans h2 (fun x hx => .inr (by rw [← hb0]; exact h3 x hx)))
    clear hb0
    generalize w4.drew = wd at *
    refine wpAnyH_take (i := 0) (v := ?_) rfl (by kernel_rfl) (by kernel_rfl) (by kernel_rfl) (fun _ _ _ h => h) (Or.inl ⟨by rfl, ?_⟩) (by assumption) ?_
    rotate_left
    · intro w9 hS9
      try dsimp only at hS9
      go_split_ands
      go_simp
      try with_reducible rfl
    try simp only [Act.put, List.getElem_toArray, List.getElem_cons_succ, List.getElem_cons_zero, List.setIfInBounds_toArray, List.set_cons_zero, List.set_cons_succ]
    refine wpAnyH_take (i := 1) (v := ?_) rfl (by kernel_rfl) (by kernel_rfl) (by kernel_rfl) (fun _ _ _ h => h) (Or.inl ⟨by rfl, ?_⟩) (by assumption) ?_
    rotate_left
    · intro w9 hS9
      try dsimp only at hS9
      go_split_ands
      go_simp
      try with_reducible rfl
    try simp only [Act.put, List.getElem_toArray, List.getElem_cons_succ, List.getElem_cons_zero, List.setIfInBounds_toArray, List.set_cons_zero, List.set_cons_succ]
    refine wpAnyH_take (i := 2) (v := ?_) rfl (by kernel_rfl) (by kernel_rfl) (by kernel_rfl) (fun _ _ _ h => h) (Or.inl ⟨by rfl, ?_⟩) (by assumption) ?_
    rotate_left
    · intro w9 hS9
      try dsimp only at hS9
      go_split_ands
      go_simp
      try with_reducible rfl
    try simp only [Act.put, List.getElem_toArray, List.getElem_cons_succ, List.getElem_cons_zero, List.setIfInBounds_toArray, List.set_cons_zero, List.set_cons_succ]
    refine wpAnyH_take (i := 4) (v := ?_) rfl (by kernel_rfl) (by kernel_rfl) (by kernel_rfl) (fun _ _ _ h => h) (Or.inl ⟨by rfl, ?_⟩) (by assumption) ?_
    rotate_left
    · intro w9 hS9
      try dsimp only at hS9
      go_split_ands
      go_simp
      try with_reducible rfl
    try simp only [Act.put, List.getElem_toArray, List.getElem_cons_succ, List.getElem_cons_zero, List.setIfInBounds_toArray, List.set_cons_zero, List.set_cons_succ]
    refine wpAnyH_take (i := 5) (v := ?_) rfl (by kernel_rfl) (by kernel_rfl) (by kernel_rfl) (fun _ _ _ h => h) (Or.inl ⟨by rfl, ?_⟩) (by assumption) ?_
    rotate_left
    · intro w9 hS9
      try dsimp only at hS9
      go_split_ands
      go_simp
      try with_reducible rfl
    try simp only [Act.put, List.getElem_toArray, List.getElem_cons_succ, List.getElem_cons_zero, List.setIfInBounds_toArray, List.set_cons_zero, List.set_cons_succ]
    refine wpAnyH_take (i := 6) (v := ?_) rfl (by kernel_rfl) (by kernel_rfl) (by kernel_rfl) (fun _ _ _ h => h) (Or.inl ⟨by rfl, ?_⟩) (by assumption) ?_
    rotate_left
    · intro w9 hS9
      try dsimp only at hS9
      go_split_ands
      go_simp
      try with_reducible rfl
    try simp only [Act.put, List.getElem_toArray, List.getElem_cons_succ, List.getElem_cons_zero, List.setIfInBounds_toArray, List.set_cons_zero, List.set_cons_succ]
    refine wpAnyH_take (i := 7) (v := ?_) rfl (by kernel_rfl) (by kernel_rfl) (by kernel_rfl) (fun _ _ _ h => h) (Or.inl ⟨by rfl, ?_⟩) (by assumption) ?_
    rotate_left
    · intro w9 hS9
      try dsimp only at hS9
      go_split_ands
      go_simp
      try with_reducible rfl
    try simp only [Act.put, List.getElem_toArray, List.getElem_cons_succ, List.getElem_cons_zero, List.setIfInBounds_toArray, List.set_cons_zero, List.set_cons_succ]
    refine wpAnyH_take (i := 8) (v := ?_) rfl (by kernel_rfl) (by kernel_rfl) (by kernel_rfl) (fun _ _ _ h => h) (Or.inl ⟨by rfl, ?_⟩) (by assumption) ?_
    rotate_left
    · intro w9 hS9
      try dsimp only at hS9
      go_split_ands
      go_simp
      try with_reducible rfl
    try simp only [Act.put, List.getElem_toArray, List.getElem_cons_succ, List.getElem_cons_zero, List.setIfInBounds_toArray, List.set_cons_zero, List.set_cons_succ]
    refine wpAnyH_take (i := 11) (v := ?_) rfl (by kernel_rfl) (by kernel_rfl) (by kernel_rfl) (fun _ _ _ h => h) (Or.inl ⟨by rfl, ?_⟩) (by assumption) ?_
    rotate_left
    · intro w9 hS9
      try dsimp only at hS9
      go_split_ands
      go_simp
      try with_reducible rfl
    try simp only [Act.put, List.getElem_toArray, List.getElem_cons_succ, List.getElem_cons_zero, List.setIfInBounds_toArray, List.set_cons_zero, List.set_cons_succ]
    refine wpAnyH_ready (rs := [3, 10]) (by kernel_rfl) (by simp) ?_
    refine AllReadyH.cons rfl (fun K hK => ?_) (AllReadyH.cons rfl (fun K hK => ?_) AllReadyH.nil)
    · skip
      go_simp
      have fs : Frm [] wd (wd.alloc (.cells #[] 24)) := (Frm.refl [] wd).alloc _
      have hn := owns_made0 wd 24 6
      have hn := ownsB_mono hn (HBW.out _ HFD.out)
      have HFDE := Lib.hid (HFD.out.trans fs (by simp))
      have HTDE := Lib.hid (HTD.out.nil fs)
      refine hK.out _ _ ?_ (fun hHeld => ?_)
      · exact KEEP.out _ _ (HSD.out.next HTDE.out HFDE.out)
      clear hK K
      try simp only [Act.put, List.getElem_toArray, List.getElem_cons_succ, List.getElem_cons_zero, List.setIfInBounds_toArray, List.set_cons_zero, List.set_cons_succ]
      clear fs
      generalize (wd.alloc (.cells #[] 24)) = wDE at *
      generalize wd.heap.size = e3 at *
      have HEDE := Lib.hid hn
      clear hn
      refine wpAnyH_ready (rs := [9, 10]) (by kernel_rfl) (by simp) ?_
      refine AllReadyH.cons rfl (fun K hK => ?_) (AllReadyH.cons rfl (fun K hK => ?_) AllReadyH.nil)
      · skip
        have hrvk : RowV wDE [q, g, tb, w.heap.size + 1] (.slice ra l0.length rc) l0.length 6 (rowC l0) := RowV.step HRV0.out HFDE.out (fun k hk => .inl (by simp at hk; simp [hk])) (fun k hk => .inl hk)
        refine step_app_rowL rfl (.tmp 58) (.tmp 63) 25 24 _ 6 64 rfl Try.underlying25 infoArc rfl (by decide) (by decide) b0 0 (.slice (some ⟨e3, 0, none⟩) 0 0) [] (by rfl) HEDE.out (.slice ra l0.length rc) l0.length (rowC l0) [q, g, tb, w.heap.size + 1] (by rfl) hrvk ONEC.out l0.length (Nat.zero_add _) (by have := HL4.out; omega) (HBW.out _ HFDE.out) ?_
        intro a9 c9 wDEA own9 hf9 hl9
        have he3 := (HEDE.out.lt e3 rfl).1
        have HTL : Hid (tb < b0 ∧ b0 ≤ e3) := Lib.hid ⟨by have h1 := HSD.out.bx.lt; have h2 := HSD.out.o1; have h3 := HSD.out.o2; have h4 := HB0.out; omega, he3⟩
        have HFDEA := Lib.hid (HTR.out _ _ _ HFDE.out hf9 (fun x hx => by simp [Value.ownBlock] at hx; omega))
        have HTDEA := Lib.hid (HTDE.out.frm hf9 (by have h1 := HTL.out; simp [Value.ownBlock]; omega) (by have h1 := HTL.out; simp [Value.ownBlock]; omega))
        have HADEA := Lib.hid own9
        refine hK.out _ _ ?_ (fun hHeld => ?_)
        · exact KEEP.out _ _ (HSD.out.next HTDEA.out HFDEA.out)
        clear hK K
        try simp only [Act.put, List.getElem_toArray, List.getElem_cons_succ, List.getElem_cons_zero, List.setIfInBounds_toArray, List.set_cons_zero, List.set_cons_succ]
        clear own9 hf9 hl9 he3 hrvk
        refine wpAnyH_ready (rs := [10, 12]) (by kernel_rfl) (by simp) ?_
        refine AllReadyH.cons rfl (fun K hK => ?_) (AllReadyH.cons rfl (fun K hK => ?_) AllReadyH.nil)
        · skip
          go_simp
          have fs : Frm [] wDEA (wDEA.alloc (.cells #[.int .i64 0, .int .i64 8] 3)) := (Frm.refl [] wDEA).alloc _
          have hn := RowAt.made wDEA 3 [.int .i64 0, .int .i64 8] #[.int .i64 0, .int .i64 8] rfl
          have HFDEAI := Lib.hid (HFDEA.out.trans fs (by simp))
          have HTDEAI := Lib.hid (HTDEA.out.nil fs)
          have HADEAI := Lib.hid (ownsB_frm HADEA.out fs (by simp))
          have hia : ∀ k, (Value.slice a9 l0.length c9).ownBlock = some k → k < wDEA.heap.size := fun k hk => (HADEA.out.lt k hk).2
          have hil : b0 ≤ wDEA.heap.size := (HBW.out _ HFDEA.out)
          refine hK.out _ _ ?_ (fun hHeld => ?_)
          · exact KEEP.out _ _ (HSD.out.next HTDEAI.out HFDEAI.out)
          clear hK K
          try simp only [Act.put, List.getElem_toArray, List.getElem_cons_succ, List.getElem_cons_zero, List.setIfInBounds_toArray, List.set_cons_zero, List.set_cons_succ]
          clear fs
          generalize (wDEA.alloc (.cells #[.int .i64 0, .int .i64 8] 3)) = wDEAI at *
          generalize wDEA.heap.size = x10 at *
          have HIDEAI := Lib.hid hn
          have HIL := Lib.hid hil
          have HIA : Hid (∀ k, (Value.slice a9 l0.length c9).ownBlock = some k → k ≠ x10) := Lib.hid (fun k hk => by have := hia k hk; omega)
          have HIE := Lib.hid (show True from trivial)
          clear hn
          refine wpAnyH_ready (rs := [12]) (by kernel_rfl) (by simp) ?_
          refine AllReadyH.cons rfl (fun K hK => ?_) AllReadyH.nil
          go_simp
          refine (next_any B tb (N + 22) 2 wDEAI HTDEAI.out hB (by omega) (by omega)).mono ?_
          rintro e5 wDEAIC ⟨⟨ix, rfl, hix, -⟩, hT5, hf5⟩
          obtain ⟨i, rfl⟩ : ∃ i : Nat, ix = (i : Int) := ⟨ix.toNat, by omega⟩
          have HIX : Hid (i < 2) := Lib.hid (by omega)
          have ii0 : (0 : Int) ≤ (i : Int) := by omega
          have ii1 : (i : Int) < 2 := by omega
          have HFDEAIC := Lib.hid (HFDEAI.out.trans hf5 (fun x hx => .inl hx))
          have HTDEAIC := Lib.hid hT5
          have HADEAIC := Lib.hid (ownsB_frm HADEAI.out hf5 (fun k hk hm => by have h8 := (HADEAI.out.lt k hk).1; have h9 := HTL.out; simp at hm; omega))
          have HIDEAIC := Lib.hid (HIDEAI.out.frm hf5 (by have h8 := HIL.out; have h9 := HTL.out; have h7 := HIE.out; simp [Value.ownBlock]; omega))
          clear hix hT5 hf5
          refine hK.out _ _ ?_ (fun hHeld => ?_)
          · exact KEEP.out _ _ (HSD.out.next HTDEAIC.out HFDEAIC.out)
          clear hK K
          try simp only [Act.put, List.getElem_toArray, List.getElem_cons_succ, List.getElem_cons_zero, List.setIfInBounds_toArray, List.set_cons_zero, List.set_cons_succ]
          refine wpAnyH_take (i := 13) (v := ?_) rfl (by kernel_rfl) (by kernel_rfl) (by kernel_rfl) (fun _ _ _ h => h) (Or.inl ⟨by rfl, ?_⟩) (by assumption) ?_
          rotate_left
          · intro w9 hS9
            try dsimp only at hS9
            go_split_ands
            go_simp
            try with_reducible rfl
          try simp only [Act.put, List.getElem_toArray, List.getElem_cons_succ, List.getElem_cons_zero, List.setIfInBounds_toArray, List.set_cons_zero, List.set_cons_succ]
          refine wpAnyH_ready (rs := [14]) (by kernel_rfl) (by simp) ?_
          refine AllReadyH.cons rfl (fun K hK => ?_) AllReadyH.nil
          obtain ⟨kv, hkv⟩ : ∃ kv : Int, [Value.int .i64 0, Value.int .i64 8][i]? = some (.int .i64 kv) := by
            have h9 := HIX.out
            match i, h9 with
            | 0, _ => exact ⟨0, rfl⟩
            | 1, _ => exact ⟨8, rfl⟩
          have hkc := HIDEAIC.out.cell hkv
          go_simp
          refine hK.out _ _ ?_ (fun hHeld => ?_)
          · exact KEEP.out _ _ (HSD.out.next HTDEAIC.out HFDEAIC.out)
          clear hK K
          try simp only [Act.put, List.getElem_toArray, List.getElem_cons_succ, List.getElem_cons_zero, List.setIfInBounds_toArray, List.set_cons_zero, List.set_cons_succ]
          clear hkc hkv
          refine wpAnyH_take (i := 15) (v := ?_) rfl (by kernel_rfl) (by kernel_rfl) (by kernel_rfl) (fun _ _ _ h => h) (Or.inl ⟨by rfl, ?_⟩) (by assumption) ?_
          rotate_left
          · intro w9 hS9
            try dsimp only at hS9
            go_split_ands
            go_simp
            try with_reducible rfl
          try simp only [Act.put, List.getElem_toArray, List.getElem_cons_succ, List.getElem_cons_zero, List.setIfInBounds_toArray, List.set_cons_zero, List.set_cons_succ]
          refine wpAnyH_ready (rs := [16]) (by kernel_rfl) (by simp) ?_
          refine AllReadyH.cons rfl (fun K hK => ?_) AllReadyH.nil
          go_simp
          have fs : Frm [] wDEAIC (wDEAIC.alloc (.cells #[.int .i64 kv, .int .i64 0, .int .i64 0, .int .i64 0, .slice none 0 0, .int .i64 0] 24)) := (Frm.refl [] wDEAIC).alloc _
          have hn := RowAt.made wDEAIC 24 (arcC (.slice none 0 0, ⟨kv, 0, 0, 0, [], 0⟩)) #[.int .i64 kv, .int .i64 0, .int .i64 0, .int .i64 0, .slice none 0 0, .int .i64 0] rfl
          have HFDEAICX := Lib.hid (HFDEAIC.out.trans fs (by simp))
          have HTDEAICX := Lib.hid (HTDEAIC.out.nil fs)
          have HADEAICX := Lib.hid (ownsB_frm HADEAIC.out fs (by simp))
          have HIDEAICX := Lib.hid (HIDEAIC.out.frm fs (by simp))
          have hxl : b0 ≤ wDEAIC.heap.size := (HBW.out _ HFDEAIC.out)
          refine hK.out _ _ ?_ (fun hHeld => ?_)
          · exact KEEP.out _ _ (HSD.out.next HTDEAICX.out HFDEAICX.out)
          clear hK K
          try simp only [Act.put, List.getElem_toArray, List.getElem_cons_succ, List.getElem_cons_zero, List.setIfInBounds_toArray, List.set_cons_zero, List.set_cons_succ]
          clear fs
          generalize (wDEAIC.alloc (.cells #[.int .i64 kv, .int .i64 0, .int .i64 0, .int .i64 0, .slice none 0 0, .int .i64 0] 24)) = wDEAICX at *
          generalize wDEAIC.heap.size = x11 at *
          have HXDEAICX := Lib.hid hn
          have HXL := Lib.hid hxl
          have HXE := Lib.hid (show True from trivial)
          clear hn
          refine wpAnyH_ready (rs := [17]) (by kernel_rfl) (by simp) ?_
          refine AllReadyH.cons rfl (fun K hK => ?_) AllReadyH.nil
          refine step_app_row rfl (.tmp 64) (.tmp 71) 25 24 _ 6 64 rfl Try.underlying25 infoArc rfl (by decide) (by decide) b0 l0.length (.slice a9 l0.length c9) ([] ++ rowC l0) (by rfl) HADEAICX.out (.slice (some ⟨x11, 0, none⟩) 1 1) 1 (arcC (.slice none 0 0, ⟨kv, 0, 0, 0, [], 0⟩)) [] (by rfl) (rowV_cells (size := 6) HXDEAICX.out rfl (Nat.le_refl _) (by decide) (by simp)) (by simp [arcC, Value.oneCell']) (l0.length + 1) rfl (by have := HL4.out; omega) (HBW.out _ HFDEAICX.out) ?_
          intro a12 c12 wDEAICXZ own12 hf12
          have hob : ∀ x ∈ (Value.slice a9 l0.length c9).ownBlock.toList, b0 ≤ x := fun x hx => (HADEAICX.out.lt x (Option.mem_toList.1 hx)).1
          have HFDEAICXZ := Lib.hid (HTR.out _ _ _ HFDEAICX.out hf12 hob)
          have HTDEAICXZ := Lib.hid (HTDEAICX.out.frm hf12 (fun k hk => by have h1 := hob k hk; have h2 := HTL.out; omega) (fun hm => by have h1 := hob _ hm; have h2 := HTL.out; omega))
          have HNP : Hid (NotAt wDEAICXZ [g, tb, w.heap.size + 1] (.slice none 0 0) ⟨kv, 0, 0, 0, [], 0⟩) := Lib.hid (RowV.nil0 _ _ _)
          have HOW := Lib.hid own12
          clear hob hf12 own12
          refine hK.out _ _ ?_ (fun hHeld => ?_)
          · exact KEEP.out _ _ (HSD.out.next HTDEAICXZ.out HFDEAICXZ.out)
          clear hK K
          try simp only [Act.put, List.getElem_toArray, List.getElem_cons_succ, List.getElem_cons_zero, List.setIfInBounds_toArray, List.set_cons_zero, List.set_cons_succ]
          refine wpAnyH_take (i := 18) (v := ?_) rfl (by kernel_rfl) (by kernel_rfl) (by kernel_rfl) (fun _ _ _ h => h) (Or.inl ⟨by rfl, ?_⟩) (by assumption) ?_
          rotate_left
          · intro w9 hS9
            try dsimp only at hS9
            go_split_ands
            go_simp
            try with_reducible rfl
          try simp only [Act.put, List.getElem_toArray, List.getElem_cons_succ, List.getElem_cons_zero, List.setIfInBounds_toArray, List.set_cons_zero, List.set_cons_succ]
          refine wpAnyH_take (i := 19) (v := ?_) rfl (by kernel_rfl) (by kernel_rfl) (by kernel_rfl) (fun _ _ _ h => h) (Or.inl ⟨by rfl, ?_⟩) (by assumption) ?_
          rotate_left
          · intro w9 hS9
            try dsimp only at hS9
            go_split_ands
            go_simp
            try with_reducible rfl
          try simp only [Act.put, List.getElem_toArray, List.getElem_cons_succ, List.getElem_cons_zero, List.setIfInBounds_toArray, List.set_cons_zero, List.set_cons_succ]
          refine wpAnyH_done (by kernel_rfl) ?_ _
          refine Qt.last rfl rfl ?_
          simp only [List.getElem_toArray, List.getElem_cons_succ, List.getElem_cons_zero]
          have hS9 := HSD.out.next HTDEAICXZ.out HFDEAICXZ.out
          have b9 := hS9.row.cell (i := s) (v := .slice ra l0.length rc) (by rw [List.getElem?_map, HV0.out]; rfl)
          have z9 := hS9.row.frozen s
          have hFN := SP.put (s := s) (v := .slice a12 (l0.length + 1) c12) (p := (.slice none 0 0, ⟨kv, 0, 0, 0, [], 0⟩)) hS9 (Frm.refl [] wDEAICXZ) (by simpa using HOW.out) HB0.out (fun x hx => RowV.step (HNT0.out x hx) HFDEAICXZ.out (fun k hk => .inl (by simp at hk; simp [hk])) (fun k hk => .inl hk)) HNP.out
          go_simp
          generalize wDEAICXZ.setCell ⟨g, s, none⟩ (.slice a12 (l0.length + 1) c12) = w13 at *
          obtain ⟨m2, hm2⟩ : ∃ m2 : RM, m2 = { m1 with states := m1.states.set s ((l0 ++ [((.slice none 0 0 : Value), (⟨kv, 0, 0, 0, [], 0⟩ : RA))]).map (·.2)) } := ⟨_, rfl⟩
          rw [← hm2] at hFN
          clear b9 z9 hS9 hm2 hHeld
          have k0 := hFN.bx.row.cell (i := 0) rfl
          have k1 := hFN.bx.row.cell (i := 1) rfl
          have k2 := hFN.bx.row.cell (i := 2) rfl
          have k3 := hFN.bx.row.cell (i := 3) rfl
          have kz0 := hFN.bx.row.frozen 0
          have kz1 := hFN.bx.row.frozen 1
          have kz2 := hFN.bx.row.frozen 2
          have kz3 := hFN.bx.row.frozen 3
          have r0 := hFN.res.cell (i := 0) rfl
          have r1 := hFN.res.cell (i := 1) rfl
          have r2 := hFN.res.cell (i := 2) rfl
          have r3 := hFN.res.cell (i := 3) rfl
          have y0 := hFN.res.frozen 0
          have y1 := hFN.res.frozen 1
          have y2 := hFN.res.frozen 2
          have y3 := hFN.res.frozen 3
          have nn1 : w.heap.size + 1 < q := by exact hFN.lt
          have nn2 : ¬ q = w.heap.size + 1 := by omega
          have nn3 : ¬ w.heap.size + 1 = q := by omega
          go_wp2_with fail
          have ho := (((hFN.res.setCell 0 (.int .i64 m2.regs)).setCell 1 (.int .i64 m2.data)).setCell 2 (.int .i64 m2.plain)).setCell 3 (.slice (some ⟨g, 0, none⟩) m1.states.length c)
          have hF9 : Frm [w.heap.size + 1] (w13) ((((((((w13).setCell ⟨w.heap.size + 1, 0, none⟩ (.int .i64 m2.regs))).setCell ⟨w.heap.size + 1, 1, none⟩ (.int .i64 m2.data))).setCell ⟨w.heap.size + 1, 2, none⟩ (.int .i64 m2.plain))).setCell ⟨w.heap.size + 1, 3, none⟩ (.slice (some ⟨g, 0, none⟩) m1.states.length c)) := ((((Frm.refl _ (w13)).setCell (.inl (by simp)) _).setCell (.inl (by simp)) _).setCell (.inl (by simp)) _).setCell (.inl (by simp)) _
          have hfin := hFN.fin (N := N) (by omega) hF9
          generalize ((((((((w13).setCell ⟨w.heap.size + 1, 0, none⟩ (.int .i64 m2.regs))).setCell ⟨w.heap.size + 1, 1, none⟩ (.int .i64 m2.data))).setCell ⟨w.heap.size + 1, 2, none⟩ (.int .i64 m2.plain))).setCell ⟨w.heap.size + 1, 3, none⟩ (.slice (some ⟨g, 0, none⟩) m1.states.length c)) = W9 at *
          have e0 := ho.cell (i := 0) rfl
          have e1 := ho.cell (i := 1) rfl
          have e2 := ho.cell (i := 2) rfl
          have e3 := ho.cell (i := 3) rfl
          unfold machV at hfin
          exact bodyPost_ret (v := .agg #[(.int .i64 m2.regs), (.int .i64 m2.data), (.int .i64 m2.plain), (.slice (some ⟨g, 0, none⟩) m1.states.length c)]) (by simp [results, Try.results16, go_sem, e0, e1, e2, e3]) rfl hfin
        · skip
          go_simp
          refine (next_any B tb (N + 22) 2 wDEA HTDEA.out hB (by omega) (by omega)).mono ?_
          rintro e5 wDEAC ⟨⟨ix, rfl, hix, -⟩, hT5, hf5⟩
          obtain ⟨i, rfl⟩ : ∃ i : Nat, ix = (i : Int) := ⟨ix.toNat, by omega⟩
          have HIX : Hid (i < 2) := Lib.hid (by omega)
          have ii0 : (0 : Int) ≤ (i : Int) := by omega
          have ii1 : (i : Int) < 2 := by omega
          have HFDEAC := Lib.hid (HFDEA.out.trans hf5 (fun x hx => .inl hx))
          have HTDEAC := Lib.hid hT5
          have HADEAC := Lib.hid (ownsB_frm HADEA.out hf5 (fun k hk hm => by have h8 := (HADEA.out.lt k hk).1; have h9 := HTL.out; simp at hm; omega))
          clear hix hT5 hf5
          refine hK.out _ _ ?_ (fun hHeld => ?_)
          · exact KEEP.out _ _ (HSD.out.next HTDEAC.out HFDEAC.out)
          clear hK K
          try simp only [Act.put, List.getElem_toArray, List.getElem_cons_succ, List.getElem_cons_zero, List.setIfInBounds_toArray, List.set_cons_zero, List.set_cons_succ]
          refine wpAnyH_ready (rs := [10]) (by kernel_rfl) (by simp) ?_
          refine AllReadyH.cons rfl (fun K hK => ?_) AllReadyH.nil
          go_simp
          have fs : Frm [] wDEAC (wDEAC.alloc (.cells #[.int .i64 0, .int .i64 8] 3)) := (Frm.refl [] wDEAC).alloc _
          have hn := RowAt.made wDEAC 3 [.int .i64 0, .int .i64 8] #[.int .i64 0, .int .i64 8] rfl
          have HFDEACI := Lib.hid (HFDEAC.out.trans fs (by simp))
          have HTDEACI := Lib.hid (HTDEAC.out.nil fs)
          have HADEACI := Lib.hid (ownsB_frm HADEAC.out fs (by simp))
          have hia : ∀ k, (Value.slice a9 l0.length c9).ownBlock = some k → k < wDEAC.heap.size := fun k hk => (HADEAC.out.lt k hk).2
          have hil : b0 ≤ wDEAC.heap.size := (HBW.out _ HFDEAC.out)
          refine hK.out _ _ ?_ (fun hHeld => ?_)
          · exact KEEP.out _ _ (HSD.out.next HTDEACI.out HFDEACI.out)
          clear hK K
          try simp only [Act.put, List.getElem_toArray, List.getElem_cons_succ, List.getElem_cons_zero, List.setIfInBounds_toArray, List.set_cons_zero, List.set_cons_succ]
          clear fs
          generalize (wDEAC.alloc (.cells #[.int .i64 0, .int .i64 8] 3)) = wDEACI at *
          generalize wDEAC.heap.size = x10 at *
          have HIDEACI := Lib.hid hn
          have HIL := Lib.hid hil
          have HIA : Hid (∀ k, (Value.slice a9 l0.length c9).ownBlock = some k → k ≠ x10) := Lib.hid (fun k hk => by have := hia k hk; omega)
          have HIE := Lib.hid (show True from trivial)
          clear hn
          refine wpAnyH_take (i := 13) (v := ?_) rfl (by kernel_rfl) (by kernel_rfl) (by kernel_rfl) (fun _ _ _ h => h) (Or.inl ⟨by rfl, ?_⟩) (by assumption) ?_
          rotate_left
          · intro w9 hS9
            try dsimp only at hS9
            go_split_ands
            go_simp
            try with_reducible rfl
          try simp only [Act.put, List.getElem_toArray, List.getElem_cons_succ, List.getElem_cons_zero, List.setIfInBounds_toArray, List.set_cons_zero, List.set_cons_succ]
          refine wpAnyH_ready (rs := [14]) (by kernel_rfl) (by simp) ?_
          refine AllReadyH.cons rfl (fun K hK => ?_) AllReadyH.nil
          obtain ⟨kv, hkv⟩ : ∃ kv : Int, [Value.int .i64 0, Value.int .i64 8][i]? = some (.int .i64 kv) := by
            have h9 := HIX.out
            match i, h9 with
            | 0, _ => exact ⟨0, rfl⟩
            | 1, _ => exact ⟨8, rfl⟩
          have hkc := HIDEACI.out.cell hkv
          go_simp
          refine hK.out _ _ ?_ (fun hHeld => ?_)
          · exact KEEP.out _ _ (HSD.out.next HTDEACI.out HFDEACI.out)
          clear hK K
          try simp only [Act.put, List.getElem_toArray, List.getElem_cons_succ, List.getElem_cons_zero, List.setIfInBounds_toArray, List.set_cons_zero, List.set_cons_succ]
          clear hkc hkv
          refine wpAnyH_take (i := 15) (v := ?_) rfl (by kernel_rfl) (by kernel_rfl) (by kernel_rfl) (fun _ _ _ h => h) (Or.inl ⟨by rfl, ?_⟩) (by assumption) ?_
          rotate_left
          · intro w9 hS9
            try dsimp only at hS9
            go_split_ands
            go_simp
            try with_reducible rfl
          try simp only [Act.put, List.getElem_toArray, List.getElem_cons_succ, List.getElem_cons_zero, List.setIfInBounds_toArray, List.set_cons_zero, List.set_cons_succ]
          refine wpAnyH_ready (rs := [16]) (by kernel_rfl) (by simp) ?_
          refine AllReadyH.cons rfl (fun K hK => ?_) AllReadyH.nil
          go_simp
          have fs : Frm [] wDEACI (wDEACI.alloc (.cells #[.int .i64 kv, .int .i64 0, .int .i64 0, .int .i64 0, .slice none 0 0, .int .i64 0] 24)) := (Frm.refl [] wDEACI).alloc _
          have hn := RowAt.made wDEACI 24 (arcC (.slice none 0 0, ⟨kv, 0, 0, 0, [], 0⟩)) #[.int .i64 kv, .int .i64 0, .int .i64 0, .int .i64 0, .slice none 0 0, .int .i64 0] rfl
          have HFDEACIX := Lib.hid (HFDEACI.out.trans fs (by simp))
          have HTDEACIX := Lib.hid (HTDEACI.out.nil fs)
          have HADEACIX := Lib.hid (ownsB_frm HADEACI.out fs (by simp))
          have HIDEACIX := Lib.hid (HIDEACI.out.frm fs (by simp))
          have hxl : b0 ≤ wDEACI.heap.size := (HBW.out _ HFDEACI.out)
          refine hK.out _ _ ?_ (fun hHeld => ?_)
          · exact KEEP.out _ _ (HSD.out.next HTDEACIX.out HFDEACIX.out)
          clear hK K
          try simp only [Act.put, List.getElem_toArray, List.getElem_cons_succ, List.getElem_cons_zero, List.setIfInBounds_toArray, List.set_cons_zero, List.set_cons_succ]
          clear fs
          generalize (wDEACI.alloc (.cells #[.int .i64 kv, .int .i64 0, .int .i64 0, .int .i64 0, .slice none 0 0, .int .i64 0] 24)) = wDEACIX at *
          generalize wDEACI.heap.size = x11 at *
          have HXDEACIX := Lib.hid hn
          have HXL := Lib.hid hxl
          have HXE := Lib.hid (show True from trivial)
          clear hn
          refine wpAnyH_ready (rs := [17]) (by kernel_rfl) (by simp) ?_
          refine AllReadyH.cons rfl (fun K hK => ?_) AllReadyH.nil
          refine step_app_row rfl (.tmp 64) (.tmp 71) 25 24 _ 6 64 rfl Try.underlying25 infoArc rfl (by decide) (by decide) b0 l0.length (.slice a9 l0.length c9) ([] ++ rowC l0) (by rfl) HADEACIX.out (.slice (some ⟨x11, 0, none⟩) 1 1) 1 (arcC (.slice none 0 0, ⟨kv, 0, 0, 0, [], 0⟩)) [] (by rfl) (rowV_cells (size := 6) HXDEACIX.out rfl (Nat.le_refl _) (by decide) (by simp)) (by simp [arcC, Value.oneCell']) (l0.length + 1) rfl (by have := HL4.out; omega) (HBW.out _ HFDEACIX.out) ?_
          intro a12 c12 wDEACIXZ own12 hf12
          have hob : ∀ x ∈ (Value.slice a9 l0.length c9).ownBlock.toList, b0 ≤ x := fun x hx => (HADEACIX.out.lt x (Option.mem_toList.1 hx)).1
          have HFDEACIXZ := Lib.hid (HTR.out _ _ _ HFDEACIX.out hf12 hob)
          have HTDEACIXZ := Lib.hid (HTDEACIX.out.frm hf12 (fun k hk => by have h1 := hob k hk; have h2 := HTL.out; omega) (fun hm => by have h1 := hob _ hm; have h2 := HTL.out; omega))
          have HNP : Hid (NotAt wDEACIXZ [g, tb, w.heap.size + 1] (.slice none 0 0) ⟨kv, 0, 0, 0, [], 0⟩) := Lib.hid (RowV.nil0 _ _ _)
          have HOW := Lib.hid own12
          clear hob hf12 own12
          refine hK.out _ _ ?_ (fun hHeld => ?_)
          · exact KEEP.out _ _ (HSD.out.next HTDEACIXZ.out HFDEACIXZ.out)
          clear hK K
          try simp only [Act.put, List.getElem_toArray, List.getElem_cons_succ, List.getElem_cons_zero, List.setIfInBounds_toArray, List.set_cons_zero, List.set_cons_succ]
          refine wpAnyH_take (i := 18) (v := ?_) rfl (by kernel_rfl) (by kernel_rfl) (by kernel_rfl) (fun _ _ _ h => h) (Or.inl ⟨by rfl, ?_⟩) (by assumption) ?_
          rotate_left
          · intro w9 hS9
            try dsimp only at hS9
            go_split_ands
            go_simp
            try with_reducible rfl
          try simp only [Act.put, List.getElem_toArray, List.getElem_cons_succ, List.getElem_cons_zero, List.setIfInBounds_toArray, List.set_cons_zero, List.set_cons_succ]
          refine wpAnyH_take (i := 19) (v := ?_) rfl (by kernel_rfl) (by kernel_rfl) (by kernel_rfl) (fun _ _ _ h => h) (Or.inl ⟨by rfl, ?_⟩) (by assumption) ?_
          rotate_left
          · intro w9 hS9
            try dsimp only at hS9
            go_split_ands
            go_simp
            try with_reducible rfl
          try simp only [Act.put, List.getElem_toArray, List.getElem_cons_succ, List.getElem_cons_zero, List.setIfInBounds_toArray, List.set_cons_zero, List.set_cons_succ]
          refine wpAnyH_done (by kernel_rfl) ?_ _
          refine Qt.last rfl rfl ?_
          simp only [List.getElem_toArray, List.getElem_cons_succ, List.getElem_cons_zero]
          have hS9 := HSD.out.next HTDEACIXZ.out HFDEACIXZ.out
          have b9 := hS9.row.cell (i := s) (v := .slice ra l0.length rc) (by rw [List.getElem?_map, HV0.out]; rfl)
          have z9 := hS9.row.frozen s
          have hFN := SP.put (s := s) (v := .slice a12 (l0.length + 1) c12) (p := (.slice none 0 0, ⟨kv, 0, 0, 0, [], 0⟩)) hS9 (Frm.refl [] wDEACIXZ) (by simpa using HOW.out) HB0.out (fun x hx => RowV.step (HNT0.out x hx) HFDEACIXZ.out (fun k hk => .inl (by simp at hk; simp [hk])) (fun k hk => .inl hk)) HNP.out
          go_simp
          generalize wDEACIXZ.setCell ⟨g, s, none⟩ (.slice a12 (l0.length + 1) c12) = w13 at *
          obtain ⟨m2, hm2⟩ : ∃ m2 : RM, m2 = { m1 with states := m1.states.set s ((l0 ++ [((.slice none 0 0 : Value), (⟨kv, 0, 0, 0, [], 0⟩ : RA))]).map (·.2)) } := ⟨_, rfl⟩
          rw [← hm2] at hFN
          clear b9 z9 hS9 hm2 hHeld
          have k0 := hFN.bx.row.cell (i := 0) rfl
          have k1 := hFN.bx.row.cell (i := 1) rfl
          have k2 := hFN.bx.row.cell (i := 2) rfl
          have k3 := hFN.bx.row.cell (i := 3) rfl
          have kz0 := hFN.bx.row.frozen 0
          have kz1 := hFN.bx.row.frozen 1
          have kz2 := hFN.bx.row.frozen 2
          have kz3 := hFN.bx.row.frozen 3
          have r0 := hFN.res.cell (i := 0) rfl
          have r1 := hFN.res.cell (i := 1) rfl
          have r2 := hFN.res.cell (i := 2) rfl
          have r3 := hFN.res.cell (i := 3) rfl
          have y0 := hFN.res.frozen 0
          have y1 := hFN.res.frozen 1
          have y2 := hFN.res.frozen 2
          have y3 := hFN.res.frozen 3
          have nn1 : w.heap.size + 1 < q := by exact hFN.lt
          have nn2 : ¬ q = w.heap.size + 1 := by omega
          have nn3 : ¬ w.heap.size + 1 = q := by omega
          go_wp2_with fail
          have ho := (((hFN.res.setCell 0 (.int .i64 m2.regs)).setCell 1 (.int .i64 m2.data)).setCell 2 (.int .i64 m2.plain)).setCell 3 (.slice (some ⟨g, 0, none⟩) m1.states.length c)
          have hF9 : Frm [w.heap.size + 1] (w13) ((((((((w13).setCell ⟨w.heap.size + 1, 0, none⟩ (.int .i64 m2.regs))).setCell ⟨w.heap.size + 1, 1, none⟩ (.int .i64 m2.data))).setCell ⟨w.heap.size + 1, 2, none⟩ (.int .i64 m2.plain))).setCell ⟨w.heap.size + 1, 3, none⟩ (.slice (some ⟨g, 0, none⟩) m1.states.length c)) := ((((Frm.refl _ (w13)).setCell (.inl (by simp)) _).setCell (.inl (by simp)) _).setCell (.inl (by simp)) _).setCell (.inl (by simp)) _
          have hfin := hFN.fin (N := N) (by omega) hF9
          generalize ((((((((w13).setCell ⟨w.heap.size + 1, 0, none⟩ (.int .i64 m2.regs))).setCell ⟨w.heap.size + 1, 1, none⟩ (.int .i64 m2.data))).setCell ⟨w.heap.size + 1, 2, none⟩ (.int .i64 m2.plain))).setCell ⟨w.heap.size + 1, 3, none⟩ (.slice (some ⟨g, 0, none⟩) m1.states.length c)) = W9 at *
          have e0 := ho.cell (i := 0) rfl
          have e1 := ho.cell (i := 1) rfl
          have e2 := ho.cell (i := 2) rfl
          have e3 := ho.cell (i := 3) rfl
          unfold machV at hfin
          exact bodyPost_ret (v := .agg #[(.int .i64 m2.regs), (.int .i64 m2.data), (.int .i64 m2.plain), (.slice (some ⟨g, 0, none⟩) m1.states.length c)]) (by simp [results, Try.results16, go_sem, e0, e1, e2, e3]) rfl hfin
      · skip
        go_simp
        have fs : Frm [] wDE (wDE.alloc (.cells #[.int .i64 0, .int .i64 8] 3)) := (Frm.refl [] wDE).alloc _
        have hn := RowAt.made wDE 3 [.int .i64 0, .int .i64 8] #[.int .i64 0, .int .i64 8] rfl
        have HFDEI := Lib.hid (HFDE.out.trans fs (by simp))
        have HTDEI := Lib.hid (HTDE.out.nil fs)
        have HEDEI := Lib.hid (ownsB_frm HEDE.out fs (by simp))
        have hie : e3 < wDE.heap.size := (HEDE.out.lt e3 rfl).2
        have hil : b0 ≤ wDE.heap.size := (HBW.out _ HFDE.out)
        refine hK.out _ _ ?_ (fun hHeld => ?_)
        · exact KEEP.out _ _ (HSD.out.next HTDEI.out HFDEI.out)
        clear hK K
        try simp only [Act.put, List.getElem_toArray, List.getElem_cons_succ, List.getElem_cons_zero, List.setIfInBounds_toArray, List.set_cons_zero, List.set_cons_succ]
        clear fs
        generalize (wDE.alloc (.cells #[.int .i64 0, .int .i64 8] 3)) = wDEI at *
        generalize wDE.heap.size = x10 at *
        have HIDEI := Lib.hid hn
        have HIL := Lib.hid hil
        have HIE := Lib.hid (show x10 ≠ e3 by omega)
        clear hn
        refine wpAnyH_ready (rs := [9]) (by kernel_rfl) (by simp) ?_
        refine AllReadyH.cons rfl (fun K hK => ?_) AllReadyH.nil
        have hrvk : RowV wDEI [q, g, tb, w.heap.size + 1] (.slice ra l0.length rc) l0.length 6 (rowC l0) := RowV.step HRV0.out HFDEI.out (fun k hk => .inl (by simp at hk; simp [hk])) (fun k hk => .inl hk)
        refine step_app_rowL rfl (.tmp 58) (.tmp 63) 25 24 _ 6 64 rfl Try.underlying25 infoArc rfl (by decide) (by decide) b0 0 (.slice (some ⟨e3, 0, none⟩) 0 0) [] (by rfl) HEDEI.out (.slice ra l0.length rc) l0.length (rowC l0) [q, g, tb, w.heap.size + 1] (by rfl) hrvk ONEC.out l0.length (Nat.zero_add _) (by have := HL4.out; omega) (HBW.out _ HFDEI.out) ?_
        intro a9 c9 wDEIA own9 hf9 hl9
        have he3 := (HEDEI.out.lt e3 rfl).1
        have HTL : Hid (tb < b0 ∧ b0 ≤ e3) := Lib.hid ⟨by have h1 := HSD.out.bx.lt; have h2 := HSD.out.o1; have h3 := HSD.out.o2; have h4 := HB0.out; omega, he3⟩
        have HFDEIA := Lib.hid (HTR.out _ _ _ HFDEI.out hf9 (fun x hx => by simp [Value.ownBlock] at hx; omega))
        have HTDEIA := Lib.hid (HTDEI.out.frm hf9 (by have h1 := HTL.out; simp [Value.ownBlock]; omega) (by have h1 := HTL.out; simp [Value.ownBlock]; omega))
        have HADEIA := Lib.hid own9
        have HIDEIA := Lib.hid (HIDEI.out.frm hf9 (by have h8 := HIL.out; have h9 := HTL.out; have h7 := HIE.out; simp [Value.ownBlock]; omega))
        have HIA : Hid (∀ k, (Value.slice a9 l0.length c9).ownBlock = some k → k ≠ x10) := Lib.hid (fun k hk => by have h1 := hl9 k hk; have h2 := HIE.out; have h3 := HIDEI.out.lt; simp [Value.ownBlock] at h1; omega)
        refine hK.out _ _ ?_ (fun hHeld => ?_)
        · exact KEEP.out _ _ (HSD.out.next HTDEIA.out HFDEIA.out)
        clear hK K
        try simp only [Act.put, List.getElem_toArray, List.getElem_cons_succ, List.getElem_cons_zero, List.setIfInBounds_toArray, List.set_cons_zero, List.set_cons_succ]
        clear own9 hf9 hl9 he3 hrvk
        refine wpAnyH_ready (rs := [12]) (by kernel_rfl) (by simp) ?_
        refine AllReadyH.cons rfl (fun K hK => ?_) AllReadyH.nil
        go_simp
        refine (next_any B tb (N + 22) 2 wDEIA HTDEIA.out hB (by omega) (by omega)).mono ?_
        rintro e5 wDEIAC ⟨⟨ix, rfl, hix, -⟩, hT5, hf5⟩
        obtain ⟨i, rfl⟩ : ∃ i : Nat, ix = (i : Int) := ⟨ix.toNat, by omega⟩
        have HIX : Hid (i < 2) := Lib.hid (by omega)
        have ii0 : (0 : Int) ≤ (i : Int) := by omega
        have ii1 : (i : Int) < 2 := by omega
        have HFDEIAC := Lib.hid (HFDEIA.out.trans hf5 (fun x hx => .inl hx))
        have HTDEIAC := Lib.hid hT5
        have HADEIAC := Lib.hid (ownsB_frm HADEIA.out hf5 (fun k hk hm => by have h8 := (HADEIA.out.lt k hk).1; have h9 := HTL.out; simp at hm; omega))
        have HIDEIAC := Lib.hid (HIDEIA.out.frm hf5 (by have h8 := HIL.out; have h9 := HTL.out; have h7 := HIE.out; simp [Value.ownBlock]; omega))
        clear hix hT5 hf5
        refine hK.out _ _ ?_ (fun hHeld => ?_)
        · exact KEEP.out _ _ (HSD.out.next HTDEIAC.out HFDEIAC.out)
        clear hK K
        try simp only [Act.put, List.getElem_toArray, List.getElem_cons_succ, List.getElem_cons_zero, List.setIfInBounds_toArray, List.set_cons_zero, List.set_cons_succ]
        refine wpAnyH_take (i := 13) (v := ?_) rfl (by kernel_rfl) (by kernel_rfl) (by kernel_rfl) (fun _ _ _ h => h) (Or.inl ⟨by rfl, ?_⟩) (by assumption) ?_
        rotate_left
        · intro w9 hS9
          try dsimp only at hS9
          go_split_ands
          go_simp
          try with_reducible rfl
        try simp only [Act.put, List.getElem_toArray, List.getElem_cons_succ, List.getElem_cons_zero, List.setIfInBounds_toArray, List.set_cons_zero, List.set_cons_succ]
        refine wpAnyH_ready (rs := [14]) (by kernel_rfl) (by simp) ?_
        refine AllReadyH.cons rfl (fun K hK => ?_) AllReadyH.nil
        obtain ⟨kv, hkv⟩ : ∃ kv : Int, [Value.int .i64 0, Value.int .i64 8][i]? = some (.int .i64 kv) := by
          have h9 := HIX.out
          match i, h9 with
          | 0, _ => exact ⟨0, rfl⟩
          | 1, _ => exact ⟨8, rfl⟩
        have hkc := HIDEIAC.out.cell hkv
        go_simp
        refine hK.out _ _ ?_ (fun hHeld => ?_)
        · exact KEEP.out _ _ (HSD.out.next HTDEIAC.out HFDEIAC.out)
        clear hK K
        try simp only [Act.put, List.getElem_toArray, List.getElem_cons_succ, List.getElem_cons_zero, List.setIfInBounds_toArray, List.set_cons_zero, List.set_cons_succ]
        clear hkc hkv
        refine wpAnyH_take (i := 15) (v := ?_) rfl (by kernel_rfl) (by kernel_rfl) (by kernel_rfl) (fun _ _ _ h => h) (Or.inl ⟨by rfl, ?_⟩) (by assumption) ?_
        rotate_left
        · intro w9 hS9
          try dsimp only at hS9
          go_split_ands
          go_simp
          try with_reducible rfl
        try simp only [Act.put, List.getElem_toArray, List.getElem_cons_succ, List.getElem_cons_zero, List.setIfInBounds_toArray, List.set_cons_zero, List.set_cons_succ]
        refine wpAnyH_ready (rs := [16]) (by kernel_rfl) (by simp) ?_
        refine AllReadyH.cons rfl (fun K hK => ?_) AllReadyH.nil
        go_simp
        have fs : Frm [] wDEIAC (wDEIAC.alloc (.cells #[.int .i64 kv, .int .i64 0, .int .i64 0, .int .i64 0, .slice none 0 0, .int .i64 0] 24)) := (Frm.refl [] wDEIAC).alloc _
        have hn := RowAt.made wDEIAC 24 (arcC (.slice none 0 0, ⟨kv, 0, 0, 0, [], 0⟩)) #[.int .i64 kv, .int .i64 0, .int .i64 0, .int .i64 0, .slice none 0 0, .int .i64 0] rfl
        have HFDEIACX := Lib.hid (HFDEIAC.out.trans fs (by simp))
        have HTDEIACX := Lib.hid (HTDEIAC.out.nil fs)
        have HADEIACX := Lib.hid (ownsB_frm HADEIAC.out fs (by simp))
        have HIDEIACX := Lib.hid (HIDEIAC.out.frm fs (by simp))
        have hxl : b0 ≤ wDEIAC.heap.size := (HBW.out _ HFDEIAC.out)
        refine hK.out _ _ ?_ (fun hHeld => ?_)
        · exact KEEP.out _ _ (HSD.out.next HTDEIACX.out HFDEIACX.out)
        clear hK K
        try simp only [Act.put, List.getElem_toArray, List.getElem_cons_succ, List.getElem_cons_zero, List.setIfInBounds_toArray, List.set_cons_zero, List.set_cons_succ]
        clear fs
        generalize (wDEIAC.alloc (.cells #[.int .i64 kv, .int .i64 0, .int .i64 0, .int .i64 0, .slice none 0 0, .int .i64 0] 24)) = wDEIACX at *
        generalize wDEIAC.heap.size = x11 at *
        have HXDEIACX := Lib.hid hn
        have HXL := Lib.hid hxl
        have HXE := Lib.hid (show True from trivial)
        clear hn
        refine wpAnyH_ready (rs := [17]) (by kernel_rfl) (by simp) ?_
        refine AllReadyH.cons rfl (fun K hK => ?_) AllReadyH.nil
        refine step_app_row rfl (.tmp 64) (.tmp 71) 25 24 _ 6 64 rfl Try.underlying25 infoArc rfl (by decide) (by decide) b0 l0.length (.slice a9 l0.length c9) ([] ++ rowC l0) (by rfl) HADEIACX.out (.slice (some ⟨x11, 0, none⟩) 1 1) 1 (arcC (.slice none 0 0, ⟨kv, 0, 0, 0, [], 0⟩)) [] (by rfl) (rowV_cells (size := 6) HXDEIACX.out rfl (Nat.le_refl _) (by decide) (by simp)) (by simp [arcC, Value.oneCell']) (l0.length + 1) rfl (by have := HL4.out; omega) (HBW.out _ HFDEIACX.out) ?_
        intro a12 c12 wDEIACXZ own12 hf12
        have hob : ∀ x ∈ (Value.slice a9 l0.length c9).ownBlock.toList, b0 ≤ x := fun x hx => (HADEIACX.out.lt x (Option.mem_toList.1 hx)).1
        have HFDEIACXZ := Lib.hid (HTR.out _ _ _ HFDEIACX.out hf12 hob)
        have HTDEIACXZ := Lib.hid (HTDEIACX.out.frm hf12 (fun k hk => by have h1 := hob k hk; have h2 := HTL.out; omega) (fun hm => by have h1 := hob _ hm; have h2 := HTL.out; omega))
        have HNP : Hid (NotAt wDEIACXZ [g, tb, w.heap.size + 1] (.slice none 0 0) ⟨kv, 0, 0, 0, [], 0⟩) := Lib.hid (RowV.nil0 _ _ _)
        have HOW := Lib.hid own12
        clear hob hf12 own12
        refine hK.out _ _ ?_ (fun hHeld => ?_)
        · exact KEEP.out _ _ (HSD.out.next HTDEIACXZ.out HFDEIACXZ.out)
        clear hK K
        try simp only [Act.put, List.getElem_toArray, List.getElem_cons_succ, List.getElem_cons_zero, List.setIfInBounds_toArray, List.set_cons_zero, List.set_cons_succ]
        refine wpAnyH_take (i := 18) (v := ?_) rfl (by kernel_rfl) (by kernel_rfl) (by kernel_rfl) (fun _ _ _ h => h) (Or.inl ⟨by rfl, ?_⟩) (by assumption) ?_
        rotate_left
        · intro w9 hS9
          try dsimp only at hS9
          go_split_ands
          go_simp
          try with_reducible rfl
        try simp only [Act.put, List.getElem_toArray, List.getElem_cons_succ, List.getElem_cons_zero, List.setIfInBounds_toArray, List.set_cons_zero, List.set_cons_succ]
        refine wpAnyH_take (i := 19) (v := ?_) rfl (by kernel_rfl) (by kernel_rfl) (by kernel_rfl) (fun _ _ _ h => h) (Or.inl ⟨by rfl, ?_⟩) (by assumption) ?_
        rotate_left
        · intro w9 hS9
          try dsimp only at hS9
          go_split_ands
          go_simp
          try with_reducible rfl
        try simp only [Act.put, List.getElem_toArray, List.getElem_cons_succ, List.getElem_cons_zero, List.setIfInBounds_toArray, List.set_cons_zero, List.set_cons_succ]
        refine wpAnyH_done (by kernel_rfl) ?_ _
        refine Qt.last rfl rfl ?_
        simp only [List.getElem_toArray, List.getElem_cons_succ, List.getElem_cons_zero]
        have hS9 := HSD.out.next HTDEIACXZ.out HFDEIACXZ.out
        have b9 := hS9.row.cell (i := s) (v := .slice ra l0.length rc) (by rw [List.getElem?_map, HV0.out]; rfl)
        have z9 := hS9.row.frozen s
        have hFN := SP.put (s := s) (v := .slice a12 (l0.length + 1) c12) (p := (.slice none 0 0, ⟨kv, 0, 0, 0, [], 0⟩)) hS9 (Frm.refl [] wDEIACXZ) (by simpa using HOW.out) HB0.out (fun x hx => RowV.step (HNT0.out x hx) HFDEIACXZ.out (fun k hk => .inl (by simp at hk; simp [hk])) (fun k hk => .inl hk)) HNP.out
        go_simp
        generalize wDEIACXZ.setCell ⟨g, s, none⟩ (.slice a12 (l0.length + 1) c12) = w13 at *
        obtain ⟨m2, hm2⟩ : ∃ m2 : RM, m2 = { m1 with states := m1.states.set s ((l0 ++ [((.slice none 0 0 : Value), (⟨kv, 0, 0, 0, [], 0⟩ : RA))]).map (·.2)) } := ⟨_, rfl⟩
        rw [← hm2] at hFN
        clear b9 z9 hS9 hm2 hHeld
        have k0 := hFN.bx.row.cell (i := 0) rfl
        have k1 := hFN.bx.row.cell (i := 1) rfl
        have k2 := hFN.bx.row.cell (i := 2) rfl
        have k3 := hFN.bx.row.cell (i := 3) rfl
        have kz0 := hFN.bx.row.frozen 0
        have kz1 := hFN.bx.row.frozen 1
        have kz2 := hFN.bx.row.frozen 2
        have kz3 := hFN.bx.row.frozen 3
        have r0 := hFN.res.cell (i := 0) rfl
        have r1 := hFN.res.cell (i := 1) rfl
        have r2 := hFN.res.cell (i := 2) rfl
        have r3 := hFN.res.cell (i := 3) rfl
        have y0 := hFN.res.frozen 0
        have y1 := hFN.res.frozen 1
        have y2 := hFN.res.frozen 2
        have y3 := hFN.res.frozen 3
        have nn1 : w.heap.size + 1 < q := by exact hFN.lt
        have nn2 : ¬ q = w.heap.size + 1 := by omega
        have nn3 : ¬ w.heap.size + 1 = q := by omega
        go_wp2_with fail
        have ho := (((hFN.res.setCell 0 (.int .i64 m2.regs)).setCell 1 (.int .i64 m2.data)).setCell 2 (.int .i64 m2.plain)).setCell 3 (.slice (some ⟨g, 0, none⟩) m1.states.length c)
        have hF9 : Frm [w.heap.size + 1] (w13) ((((((((w13).setCell ⟨w.heap.size + 1, 0, none⟩ (.int .i64 m2.regs))).setCell ⟨w.heap.size + 1, 1, none⟩ (.int .i64 m2.data))).setCell ⟨w.heap.size + 1, 2, none⟩ (.int .i64 m2.plain))).setCell ⟨w.heap.size + 1, 3, none⟩ (.slice (some ⟨g, 0, none⟩) m1.states.length c)) := ((((Frm.refl _ (w13)).setCell (.inl (by simp)) _).setCell (.inl (by simp)) _).setCell (.inl (by simp)) _).setCell (.inl (by simp)) _
        have hfin := hFN.fin (N := N) (by omega) hF9
        generalize ((((((((w13).setCell ⟨w.heap.size + 1, 0, none⟩ (.int .i64 m2.regs))).setCell ⟨w.heap.size + 1, 1, none⟩ (.int .i64 m2.data))).setCell ⟨w.heap.size + 1, 2, none⟩ (.int .i64 m2.plain))).setCell ⟨w.heap.size + 1, 3, none⟩ (.slice (some ⟨g, 0, none⟩) m1.states.length c)) = W9 at *
        have e0 := ho.cell (i := 0) rfl
        have e1 := ho.cell (i := 1) rfl
        have e2 := ho.cell (i := 2) rfl
        have e3 := ho.cell (i := 3) rfl
        unfold machV at hfin
        exact bodyPost_ret (v := .agg #[(.int .i64 m2.regs), (.int .i64 m2.data), (.int .i64 m2.plain), (.slice (some ⟨g, 0, none⟩) m1.states.length c)]) (by simp [results, Try.results16, go_sem, e0, e1, e2, e3]) rfl hfin
    · skip
      go_simp
      have fs : Frm [] wd (wd.alloc (.cells #[.int .i64 0, .int .i64 8] 3)) := (Frm.refl [] wd).alloc _
      have hn := RowAt.made wd 3 [.int .i64 0, .int .i64 8] #[.int .i64 0, .int .i64 8] rfl
      have HFDI := Lib.hid (HFD.out.trans fs (by simp))
      have HTDI := Lib.hid (HTD.out.nil fs)
      have hil : b0 ≤ wd.heap.size := (HBW.out _ HFD.out)
      refine hK.out _ _ ?_ (fun hHeld => ?_)
      · exact KEEP.out _ _ (HSD.out.next HTDI.out HFDI.out)
      clear hK K
      try simp only [Act.put, List.getElem_toArray, List.getElem_cons_succ, List.getElem_cons_zero, List.setIfInBounds_toArray, List.set_cons_zero, List.set_cons_succ]
      clear fs
      generalize (wd.alloc (.cells #[.int .i64 0, .int .i64 8] 3)) = wDI at *
      generalize wd.heap.size = x10 at *
      have HIDI := Lib.hid hn
      have HIL := Lib.hid hil
      clear hn
      refine wpAnyH_ready (rs := [3]) (by kernel_rfl) (by simp) ?_
      refine AllReadyH.cons rfl (fun K hK => ?_) AllReadyH.nil
      go_simp
      have fs : Frm [] wDI (wDI.alloc (.cells #[] 24)) := (Frm.refl [] wDI).alloc _
      have hn := owns_made0 wDI 24 6
      have hn := ownsB_mono hn (HBW.out _ HFDI.out)
      have HFDIE := Lib.hid (HFDI.out.trans fs (by simp))
      have HTDIE := Lib.hid (HTDI.out.nil fs)
      have HIDIE := Lib.hid (HIDI.out.frm fs (by simp))
      have hie : x10 < wDI.heap.size := HIDI.out.lt
      refine hK.out _ _ ?_ (fun hHeld => ?_)
      · exact KEEP.out _ _ (HSD.out.next HTDIE.out HFDIE.out)
      clear hK K
      try simp only [Act.put, List.getElem_toArray, List.getElem_cons_succ, List.getElem_cons_zero, List.setIfInBounds_toArray, List.set_cons_zero, List.set_cons_succ]
      clear fs
      generalize (wDI.alloc (.cells #[] 24)) = wDIE at *
      generalize wDI.heap.size = e3 at *
      have HEDIE := Lib.hid hn
      have HIE := Lib.hid (show x10 ≠ e3 by omega)
      clear hn
      refine wpAnyH_ready (rs := [9]) (by kernel_rfl) (by simp) ?_
      refine AllReadyH.cons rfl (fun K hK => ?_) AllReadyH.nil
      have hrvk : RowV wDIE [q, g, tb, w.heap.size + 1] (.slice ra l0.length rc) l0.length 6 (rowC l0) := RowV.step HRV0.out HFDIE.out (fun k hk => .inl (by simp at hk; simp [hk])) (fun k hk => .inl hk)
      refine step_app_rowL rfl (.tmp 58) (.tmp 63) 25 24 _ 6 64 rfl Try.underlying25 infoArc rfl (by decide) (by decide) b0 0 (.slice (some ⟨e3, 0, none⟩) 0 0) [] (by rfl) HEDIE.out (.slice ra l0.length rc) l0.length (rowC l0) [q, g, tb, w.heap.size + 1] (by rfl) hrvk ONEC.out l0.length (Nat.zero_add _) (by have := HL4.out; omega) (HBW.out _ HFDIE.out) ?_
      intro a9 c9 wDIEA own9 hf9 hl9
      have he3 := (HEDIE.out.lt e3 rfl).1
      have HTL : Hid (tb < b0 ∧ b0 ≤ e3) := Lib.hid ⟨by have h1 := HSD.out.bx.lt; have h2 := HSD.out.o1; have h3 := HSD.out.o2; have h4 := HB0.out; omega, he3⟩
      have HFDIEA := Lib.hid (HTR.out _ _ _ HFDIE.out hf9 (fun x hx => by simp [Value.ownBlock] at hx; omega))
      have HTDIEA := Lib.hid (HTDIE.out.frm hf9 (by have h1 := HTL.out; simp [Value.ownBlock]; omega) (by have h1 := HTL.out; simp [Value.ownBlock]; omega))
      have HADIEA := Lib.hid own9
      have HIDIEA := Lib.hid (HIDIE.out.frm hf9 (by have h8 := HIL.out; have h9 := HTL.out; have h7 := HIE.out; simp [Value.ownBlock]; omega))
      have HIA : Hid (∀ k, (Value.slice a9 l0.length c9).ownBlock = some k → k ≠ x10) := Lib.hid (fun k hk => by have h1 := hl9 k hk; have h2 := HIE.out; have h3 := HIDIE.out.lt; simp [Value.ownBlock] at h1; omega)
      refine hK.out _ _ ?_ (fun hHeld => ?_)
      · exact KEEP.out _ _ (HSD.out.next HTDIEA.out HFDIEA.out)
      clear hK K
      try simp only [Act.put, List.getElem_toArray, List.getElem_cons_succ, List.getElem_cons_zero, List.setIfInBounds_toArray, List.set_cons_zero, List.set_cons_succ]
      clear own9 hf9 hl9 he3 hrvk
      refine wpAnyH_ready (rs := [12]) (by kernel_rfl) (by simp) ?_
      refine AllReadyH.cons rfl (fun K hK => ?_) AllReadyH.nil
      go_simp
      refine (next_any B tb (N + 22) 2 wDIEA HTDIEA.out hB (by omega) (by omega)).mono ?_
      rintro e5 wDIEAC ⟨⟨ix, rfl, hix, -⟩, hT5, hf5⟩
      obtain ⟨i, rfl⟩ : ∃ i : Nat, ix = (i : Int) := ⟨ix.toNat, by omega⟩
      have HIX : Hid (i < 2) := Lib.hid (by omega)
      have ii0 : (0 : Int) ≤ (i : Int) := by omega
      have ii1 : (i : Int) < 2 := by omega
      have HFDIEAC := Lib.hid (HFDIEA.out.trans hf5 (fun x hx => .inl hx))
      have HTDIEAC := Lib.hid hT5
      have HADIEAC := Lib.hid (ownsB_frm HADIEA.out hf5 (fun k hk hm => by have h8 := (HADIEA.out.lt k hk).1; have h9 := HTL.out; simp at hm; omega))
      have HIDIEAC := Lib.hid (HIDIEA.out.frm hf5 (by have h8 := HIL.out; have h9 := HTL.out; have h7 := HIE.out; simp [Value.ownBlock]; omega))
      clear hix hT5 hf5
      refine hK.out _ _ ?_ (fun hHeld => ?_)
      · exact KEEP.out _ _ (HSD.out.next HTDIEAC.out HFDIEAC.out)
      clear hK K
      try simp only [Act.put, List.getElem_toArray, List.getElem_cons_succ, List.getElem_cons_zero, List.setIfInBounds_toArray, List.set_cons_zero, List.set_cons_succ]
      refine wpAnyH_take (i := 13) (v := ?_) rfl (by kernel_rfl) (by kernel_rfl) (by kernel_rfl) (fun _ _ _ h => h) (Or.inl ⟨by rfl, ?_⟩) (by assumption) ?_
      rotate_left
      · intro w9 hS9
        try dsimp only at hS9
        go_split_ands
        go_simp
        try with_reducible rfl
      try simp only [Act.put, List.getElem_toArray, List.getElem_cons_succ, List.getElem_cons_zero, List.setIfInBounds_toArray, List.set_cons_zero, List.set_cons_succ]
      refine wpAnyH_ready (rs := [14]) (by kernel_rfl) (by simp) ?_
      refine AllReadyH.cons rfl (fun K hK => ?_) AllReadyH.nil
      obtain ⟨kv, hkv⟩ : ∃ kv : Int, [Value.int .i64 0, Value.int .i64 8][i]? = some (.int .i64 kv) := by
        have h9 := HIX.out
        match i, h9 with
        | 0, _ => exact ⟨0, rfl⟩
        | 1, _ => exact ⟨8, rfl⟩
      have hkc := HIDIEAC.out.cell hkv
      go_simp
      refine hK.out _ _ ?_ (fun hHeld => ?_)
      · exact KEEP.out _ _ (HSD.out.next HTDIEAC.out HFDIEAC.out)
      clear hK K
      try simp only [Act.put, List.getElem_toArray, List.getElem_cons_succ, List.getElem_cons_zero, List.setIfInBounds_toArray, List.set_cons_zero, List.set_cons_succ]
      clear hkc hkv
      refine wpAnyH_take (i := 15) (v := ?_) rfl (by kernel_rfl) (by kernel_rfl) (by kernel_rfl) (fun _ _ _ h => h) (Or.inl ⟨by rfl, ?_⟩) (by assumption) ?_
      rotate_left
      · intro w9 hS9
        try dsimp only at hS9
        go_split_ands
        go_simp
        try with_reducible rfl
      try simp only [Act.put, List.getElem_toArray, List.getElem_cons_succ, List.getElem_cons_zero, List.setIfInBounds_toArray, List.set_cons_zero, List.set_cons_succ]
      refine wpAnyH_ready (rs := [16]) (by kernel_rfl) (by simp) ?_
      refine AllReadyH.cons rfl (fun K hK => ?_) AllReadyH.nil
      go_simp
      have fs : Frm [] wDIEAC (wDIEAC.alloc (.cells #[.int .i64 kv, .int .i64 0, .int .i64 0, .int .i64 0, .slice none 0 0, .int .i64 0] 24)) := (Frm.refl [] wDIEAC).alloc _
      have hn := RowAt.made wDIEAC 24 (arcC (.slice none 0 0, ⟨kv, 0, 0, 0, [], 0⟩)) #[.int .i64 kv, .int .i64 0, .int .i64 0, .int .i64 0, .slice none 0 0, .int .i64 0] rfl
      have HFDIEACX := Lib.hid (HFDIEAC.out.trans fs (by simp))
      have HTDIEACX := Lib.hid (HTDIEAC.out.nil fs)
      have HADIEACX := Lib.hid (ownsB_frm HADIEAC.out fs (by simp))
      have HIDIEACX := Lib.hid (HIDIEAC.out.frm fs (by simp))
      have hxl : b0 ≤ wDIEAC.heap.size := (HBW.out _ HFDIEAC.out)
      refine hK.out _ _ ?_ (fun hHeld => ?_)
      · exact KEEP.out _ _ (HSD.out.next HTDIEACX.out HFDIEACX.out)
      clear hK K
      try simp only [Act.put, List.getElem_toArray, List.getElem_cons_succ, List.getElem_cons_zero, List.setIfInBounds_toArray, List.set_cons_zero, List.set_cons_succ]
      clear fs
      generalize (wDIEAC.alloc (.cells #[.int .i64 kv, .int .i64 0, .int .i64 0, .int .i64 0, .slice none 0 0, .int .i64 0] 24)) = wDIEACX at *
      generalize wDIEAC.heap.size = x11 at *
      have HXDIEACX := Lib.hid hn
      have HXL := Lib.hid hxl
      have HXE := Lib.hid (show True from trivial)
      clear hn
      refine wpAnyH_ready (rs := [17]) (by kernel_rfl) (by simp) ?_
      refine AllReadyH.cons rfl (fun K hK => ?_) AllReadyH.nil
      refine step_app_row rfl (.tmp 64) (.tmp 71) 25 24 _ 6 64 rfl Try.underlying25 infoArc rfl (by decide) (by decide) b0 l0.length (.slice a9 l0.length c9) ([] ++ rowC l0) (by rfl) HADIEACX.out (.slice (some ⟨x11, 0, none⟩) 1 1) 1 (arcC (.slice none 0 0, ⟨kv, 0, 0, 0, [], 0⟩)) [] (by rfl) (rowV_cells (size := 6) HXDIEACX.out rfl (Nat.le_refl _) (by decide) (by simp)) (by simp [arcC, Value.oneCell']) (l0.length + 1) rfl (by have := HL4.out; omega) (HBW.out _ HFDIEACX.out) ?_
      intro a12 c12 wDIEACXZ own12 hf12
      have hob : ∀ x ∈ (Value.slice a9 l0.length c9).ownBlock.toList, b0 ≤ x := fun x hx => (HADIEACX.out.lt x (Option.mem_toList.1 hx)).1
      have HFDIEACXZ := Lib.hid (HTR.out _ _ _ HFDIEACX.out hf12 hob)
      have HTDIEACXZ := Lib.hid (HTDIEACX.out.frm hf12 (fun k hk => by have h1 := hob k hk; have h2 := HTL.out; omega) (fun hm => by have h1 := hob _ hm; have h2 := HTL.out; omega))
      have HNP : Hid (NotAt wDIEACXZ [g, tb, w.heap.size + 1] (.slice none 0 0) ⟨kv, 0, 0, 0, [], 0⟩) := Lib.hid (RowV.nil0 _ _ _)
      have HOW := Lib.hid own12
      clear hob hf12 own12
      refine hK.out _ _ ?_ (fun hHeld => ?_)
      · exact KEEP.out _ _ (HSD.out.next HTDIEACXZ.out HFDIEACXZ.out)
      clear hK K
      try simp only [Act.put, List.getElem_toArray, List.getElem_cons_succ, List.getElem_cons_zero, List.setIfInBounds_toArray, List.set_cons_zero, List.set_cons_succ]
      refine wpAnyH_take (i := 18) (v := ?_) rfl (by kernel_rfl) (by kernel_rfl) (by kernel_rfl) (fun _ _ _ h => h) (Or.inl ⟨by rfl, ?_⟩) (by assumption) ?_
      rotate_left
      · intro w9 hS9
        try dsimp only at hS9
        go_split_ands
        go_simp
        try with_reducible rfl
      try simp only [Act.put, List.getElem_toArray, List.getElem_cons_succ, List.getElem_cons_zero, List.setIfInBounds_toArray, List.set_cons_zero, List.set_cons_succ]
      refine wpAnyH_take (i := 19) (v := ?_) rfl (by kernel_rfl) (by kernel_rfl) (by kernel_rfl) (fun _ _ _ h => h) (Or.inl ⟨by rfl, ?_⟩) (by assumption) ?_
      rotate_left
      · intro w9 hS9
        try dsimp only at hS9
        go_split_ands
        go_simp
        try with_reducible rfl
      try simp only [Act.put, List.getElem_toArray, List.getElem_cons_succ, List.getElem_cons_zero, List.setIfInBounds_toArray, List.set_cons_zero, List.set_cons_succ]
      refine wpAnyH_done (by kernel_rfl) ?_ _
      refine Qt.last rfl rfl ?_
      simp only [List.getElem_toArray, List.getElem_cons_succ, List.getElem_cons_zero]
      have hS9 := HSD.out.next HTDIEACXZ.out HFDIEACXZ.out
      have b9 := hS9.row.cell (i := s) (v := .slice ra l0.length rc) (by rw [List.getElem?_map, HV0.out]; rfl)
      have z9 := hS9.row.frozen s
      have hFN := SP.put (s := s) (v := .slice a12 (l0.length + 1) c12) (p := (.slice none 0 0, ⟨kv, 0, 0, 0, [], 0⟩)) hS9 (Frm.refl [] wDIEACXZ) (by simpa using HOW.out) HB0.out (fun x hx => RowV.step (HNT0.out x hx) HFDIEACXZ.out (fun k hk => .inl (by simp at hk; simp [hk])) (fun k hk => .inl hk)) HNP.out
      go_simp
      generalize wDIEACXZ.setCell ⟨g, s, none⟩ (.slice a12 (l0.length + 1) c12) = w13 at *
      obtain ⟨m2, hm2⟩ : ∃ m2 : RM, m2 = { m1 with states := m1.states.set s ((l0 ++ [((.slice none 0 0 : Value), (⟨kv, 0, 0, 0, [], 0⟩ : RA))]).map (·.2)) } := ⟨_, rfl⟩
      rw [← hm2] at hFN
      clear b9 z9 hS9 hm2 hHeld
      have k0 := hFN.bx.row.cell (i := 0) rfl
      have k1 := hFN.bx.row.cell (i := 1) rfl
      have k2 := hFN.bx.row.cell (i := 2) rfl
      have k3 := hFN.bx.row.cell (i := 3) rfl
      have kz0 := hFN.bx.row.frozen 0
      have kz1 := hFN.bx.row.frozen 1
      have kz2 := hFN.bx.row.frozen 2
      have kz3 := hFN.bx.row.frozen 3
      have r0 := hFN.res.cell (i := 0) rfl
      have r1 := hFN.res.cell (i := 1) rfl
      have r2 := hFN.res.cell (i := 2) rfl
      have r3 := hFN.res.cell (i := 3) rfl
      have y0 := hFN.res.frozen 0
      have y1 := hFN.res.frozen 1
      have y2 := hFN.res.frozen 2
      have y3 := hFN.res.frozen 3
      have nn1 : w.heap.size + 1 < q := by exact hFN.lt
      have nn2 : ¬ q = w.heap.size + 1 := by omega
      have nn3 : ¬ w.heap.size + 1 = q := by omega
      go_wp2_with fail
      have ho := (((hFN.res.setCell 0 (.int .i64 m2.regs)).setCell 1 (.int .i64 m2.data)).setCell 2 (.int .i64 m2.plain)).setCell 3 (.slice (some ⟨g, 0, none⟩) m1.states.length c)
      have hF9 : Frm [w.heap.size + 1] (w13) ((((((((w13).setCell ⟨w.heap.size + 1, 0, none⟩ (.int .i64 m2.regs))).setCell ⟨w.heap.size + 1, 1, none⟩ (.int .i64 m2.data))).setCell ⟨w.heap.size + 1, 2, none⟩ (.int .i64 m2.plain))).setCell ⟨w.heap.size + 1, 3, none⟩ (.slice (some ⟨g, 0, none⟩) m1.states.length c)) := ((((Frm.refl _ (w13)).setCell (.inl (by simp)) _).setCell (.inl (by simp)) _).setCell (.inl (by simp)) _).setCell (.inl (by simp)) _
      have hfin := hFN.fin (N := N) (by omega) hF9
      generalize ((((((((w13).setCell ⟨w.heap.size + 1, 0, none⟩ (.int .i64 m2.regs))).setCell ⟨w.heap.size + 1, 1, none⟩ (.int .i64 m2.data))).setCell ⟨w.heap.size + 1, 2, none⟩ (.int .i64 m2.plain))).setCell ⟨w.heap.size + 1, 3, none⟩ (.slice (some ⟨g, 0, none⟩) m1.states.length c)) = W9 at *
      have e0 := ho.cell (i := 0) rfl
      have e1 := ho.cell (i := 1) rfl
      have e2 := ho.cell (i := 2) rfl
      have e3 := ho.cell (i := 3) rfl
      unfold machV at hfin
      exact bodyPost_ret (v := .agg #[(.int .i64 m2.regs), (.int .i64 m2.data), (.int .i64 m2.plain), (.slice (some ⟨g, 0, none⟩) m1.states.length c)]) (by simp [results, Try.results16, go_sem, e0, e1, e2, e3]) rfl hfin
  · skip
    go_wp2_with fail
    obtain ⟨⟨v0, row0⟩, hv0⟩ : ∃ p, vs[s]? = some p := ⟨_, List.getElem?_eq_getElem (by have h9 := congrArg List.length hS4.vl; rw [List.length_map] at h9; omega)⟩
    obtain ⟨l0, hl0, hrv0, hnt0⟩ := hS4.rows _ (List.mem_of_getElem? hv0)
    have hrow0 : m1.states[s]? = some row0 := by rw [← hS4.vl, List.getElem?_map, hv0]; rfl
    have hl4 : row0.length ≤ 4 := HSH.out row0 (List.mem_of_getElem? hrow0)
    simp only at hl0 hrv0
    subst hl0
    rw [List.length_map] at hrv0 hl4
    obtain ⟨ra, rc, rfl⟩ := RowV.shape hrv0
    have HV0 := Lib.hid hv0
    have HL4 := Lib.hid hl4
    have hD : Frm [] w4 w4.drew := (Frm.refl [] w4).drew
    have HSD := Lib.hid (hS4.nil hD)
    have HRV0 := Lib.hid (RowV.nil hrv0 hD)
    have HNT0 := Lib.hid (fun (x : Value × RA) (hx : x ∈ l0) => RowV.nil (hnt0 x hx) hD)
    have ONEC := Lib.hid (rowC_one hrv0 hnt0)
    have KEEP : Hid (∀ (M : Nat) (w' : World), SP B tb M w w' m1 q g c vs → w'.cell? ⟨q, 3, none⟩ = some (.slice (some ⟨g, 0, none⟩) m1.states.length c) ∧ w'.cell? ⟨g, s, none⟩ = some (.slice ra l0.length rc)) := Lib.hid fun M w' hS => ⟨hS.bx.row.cell (i := 3) rfl, hS.row.cell (i := s) (by rw [List.getElem?_map, HV0.out]; rfl)⟩
    clear hv0 hrow0 hl4 hrv0 hnt0 hD hS4
    refine' wp_region_last (L := 14) _ (fun w' => w'.cell? ⟨q, 3, none⟩ = some (.slice (some ⟨g, 0, none⟩) m1.states.length c) ∧ w'.cell? ⟨g, s, none⟩ = some (.slice ra l0.length rc)) (by kernel_rfl) rfl rfl rfl rfl ?he (by kernel_rfl) (by kernel_rfl) ?hS ?h
    case he =>
      simp only [nopOf, List.getElem_toArray, List.getElem_cons_succ, List.getElem_cons_zero, List.setIfInBounds_toArray, List.set_cons_succ, List.set_cons_zero]
      rfl
    case hS => exact KEEP.out _ _ HSD.out
    intro hHeld
    have HFD : Hid (Frm [tb] w4.drew w4.drew) := Lib.hid (Frm.refl _ _)
    have HTD := Lib.hid HSD.out.bx.tape
    obtain ⟨b0, hb0⟩ : ∃ b0, b0 = w4.drew.heap.size := ⟨_, rfl⟩
    have HB0 : Hid (q < b0) := Lib.hid (by rw [hb0]; exact HSD.out.bx.row.lt)
    have HBW : Hid (∀ W, Frm [tb] w4.drew W → b0 ≤ W.heap.size) := Lib.hid (fun W hf => by rw [hb0]; exact hf.size)
    have HTR : Hid (∀ (fp : List Nat) (A C : World), Frm [tb] w4.drew A → Frm fp A C → (∀ x ∈ fp, b0 ≤ x) → Frm [tb] w4.drew C) := Lib.hid (fun fp A C h1 h2 h3 => h1.trans h2 (fun x hx => .inr (by rw [← hb0]; exact h3 x hx)))
    clear hb0
    generalize w4.drew = wd at *
    refine wpAnyH_take (i := 0) (v := ?_) rfl (by kernel_rfl) (by kernel_rfl) (by kernel_rfl) (fun _ _ _ h => h) (Or.inl ⟨by rfl, ?_⟩) (by assumption) ?_
    rotate_left
    · intro w9 hS9
      try dsimp only at hS9
      go_split_ands
      go_simp
      try with_reducible rfl
    try simp only [Act.put, List.getElem_toArray, List.getElem_cons_succ, List.getElem_cons_zero, List.setIfInBounds_toArray, List.set_cons_zero, List.set_cons_succ]
    refine wpAnyH_take (i := 1) (v := ?_) rfl (by kernel_rfl) (by kernel_rfl) (by kernel_rfl) (fun _ _ _ h => h) (Or.inl ⟨by rfl, ?_⟩) (by assumption) ?_
    rotate_left
    · intro w9 hS9
      try dsimp only at hS9
      go_split_ands
      go_simp
      try with_reducible rfl
    try simp only [Act.put, List.getElem_toArray, List.getElem_cons_succ, List.getElem_cons_zero, List.setIfInBounds_toArray, List.set_cons_zero, List.set_cons_succ]
    refine wpAnyH_take (i := 2) (v := ?_) rfl (by kernel_rfl) (by kernel_rfl) (by kernel_rfl) (fun _ _ _ h => h) (Or.inl ⟨by rfl, ?_⟩) (by assumption) ?_
    rotate_left
    · intro w9 hS9
      try dsimp only at hS9
      go_split_ands
      go_simp
      try with_reducible rfl
    try simp only [Act.put, List.getElem_toArray, List.getElem_cons_succ, List.getElem_cons_zero, List.setIfInBounds_toArray, List.set_cons_zero, List.set_cons_succ]
    refine wpAnyH_take (i := 4) (v := ?_) rfl (by kernel_rfl) (by kernel_rfl) (by kernel_rfl) (fun _ _ _ h => h) (Or.inl ⟨by rfl, ?_⟩) (by assumption) ?_
    rotate_left
    · intro w9 hS9
      try dsimp only at hS9
      go_split_ands
      go_simp
      try with_reducible rfl
    try simp only [Act.put, List.getElem_toArray, List.getElem_cons_succ, List.getElem_cons_zero, List.setIfInBounds_toArray, List.set_cons_zero, List.set_cons_succ]
    refine wpAnyH_take (i := 5) (v := ?_) rfl (by kernel_rfl) (by kernel_rfl) (by kernel_rfl) (fun _ _ _ h => h) (Or.inl ⟨by rfl, ?_⟩) (by assumption) ?_
    rotate_left
    · intro w9 hS9
      try dsimp only at hS9
      go_split_ands
      go_simp
      try with_reducible rfl
    try simp only [Act.put, List.getElem_toArray, List.getElem_cons_succ, List.getElem_cons_zero, List.setIfInBounds_toArray, List.set_cons_zero, List.set_cons_succ]
    refine wpAnyH_take (i := 6) (v := ?_) rfl (by kernel_rfl) (by kernel_rfl) (by kernel_rfl) (fun _ _ _ h => h) (Or.inl ⟨by rfl, ?_⟩) (by assumption) ?_
    rotate_left
    · intro w9 hS9
      try dsimp only at hS9
      go_split_ands
      go_simp
      try with_reducible rfl
    try simp only [Act.put, List.getElem_toArray, List.getElem_cons_succ, List.getElem_cons_zero, List.setIfInBounds_toArray, List.set_cons_zero, List.set_cons_succ]
    refine wpAnyH_take (i := 7) (v := ?_) rfl (by kernel_rfl) (by kernel_rfl) (by kernel_rfl) (fun _ _ _ h => h) (Or.inl ⟨by rfl, ?_⟩) (by assumption) ?_
    rotate_left
    · intro w9 hS9
      try dsimp only at hS9
      go_split_ands
      go_simp
      try with_reducible rfl
    try simp only [Act.put, List.getElem_toArray, List.getElem_cons_succ, List.getElem_cons_zero, List.setIfInBounds_toArray, List.set_cons_zero, List.set_cons_succ]
    refine wpAnyH_take (i := 8) (v := ?_) rfl (by kernel_rfl) (by kernel_rfl) (by kernel_rfl) (fun _ _ _ h => h) (Or.inl ⟨by rfl, ?_⟩) (by assumption) ?_
    rotate_left
    · intro w9 hS9
      try dsimp only at hS9
      go_split_ands
      go_simp
      try with_reducible rfl
    try simp only [Act.put, List.getElem_toArray, List.getElem_cons_succ, List.getElem_cons_zero, List.setIfInBounds_toArray, List.set_cons_zero, List.set_cons_succ]
    refine wpAnyH_take (i := 10) (v := ?_) rfl (by kernel_rfl) (by kernel_rfl) (by kernel_rfl) (fun _ _ _ h => h) (Or.inl ⟨by rfl, ?_⟩) (by assumption) ?_
    rotate_left
    · intro w9 hS9
      try dsimp only at hS9
      go_split_ands
      go_simp
      try with_reducible rfl
    try simp only [Act.put, List.getElem_toArray, List.getElem_cons_succ, List.getElem_cons_zero, List.setIfInBounds_toArray, List.set_cons_zero, List.set_cons_succ]
    refine wpAnyH_ready (rs := [3, 11]) (by kernel_rfl) (by simp) ?_
    refine AllReadyH.cons rfl (fun K hK => ?_) (AllReadyH.cons rfl (fun K hK => ?_) AllReadyH.nil)
    · skip
      go_simp
      have fs : Frm [] wd (wd.alloc (.cells #[] 24)) := (Frm.refl [] wd).alloc _
      have hn := owns_made0 wd 24 6
      have hn := ownsB_mono hn (HBW.out _ HFD.out)
      have HFDE := Lib.hid (HFD.out.trans fs (by simp))
      have HTDE := Lib.hid (HTD.out.nil fs)
      refine hK.out _ _ ?_ (fun hHeld => ?_)
      · exact KEEP.out _ _ (HSD.out.next HTDE.out HFDE.out)
      clear hK K
      try simp only [Act.put, List.getElem_toArray, List.getElem_cons_succ, List.getElem_cons_zero, List.setIfInBounds_toArray, List.set_cons_zero, List.set_cons_succ]
      clear fs
      generalize (wd.alloc (.cells #[] 24)) = wDE at *
      generalize wd.heap.size = e3 at *
      have HEDE := Lib.hid hn
      clear hn
      refine wpAnyH_ready (rs := [9, 11]) (by kernel_rfl) (by simp) ?_
      refine AllReadyH.cons rfl (fun K hK => ?_) (AllReadyH.cons rfl (fun K hK => ?_) AllReadyH.nil)
      · skip
        have hrvk : RowV wDE [q, g, tb, w.heap.size + 1] (.slice ra l0.length rc) l0.length 6 (rowC l0) := RowV.step HRV0.out HFDE.out (fun k hk => .inl (by simp at hk; simp [hk])) (fun k hk => .inl hk)
        refine step_app_rowL rfl (.tmp 79) (.tmp 84) 25 24 _ 6 64 rfl Try.underlying25 infoArc rfl (by decide) (by decide) b0 0 (.slice (some ⟨e3, 0, none⟩) 0 0) [] (by rfl) HEDE.out (.slice ra l0.length rc) l0.length (rowC l0) [q, g, tb, w.heap.size + 1] (by rfl) hrvk ONEC.out l0.length (Nat.zero_add _) (by have := HL4.out; omega) (HBW.out _ HFDE.out) ?_
        intro a9 c9 wDEA own9 hf9 hl9
        have he3 := (HEDE.out.lt e3 rfl).1
        have HTL : Hid (tb < b0 ∧ b0 ≤ e3) := Lib.hid ⟨by have h1 := HSD.out.bx.lt; have h2 := HSD.out.o1; have h3 := HSD.out.o2; have h4 := HB0.out; omega, he3⟩
        have HFDEA := Lib.hid (HTR.out _ _ _ HFDE.out hf9 (fun x hx => by simp [Value.ownBlock] at hx; omega))
        have HTDEA := Lib.hid (HTDE.out.frm hf9 (by have h1 := HTL.out; simp [Value.ownBlock]; omega) (by have h1 := HTL.out; simp [Value.ownBlock]; omega))
        have HADEA := Lib.hid own9
        refine hK.out _ _ ?_ (fun hHeld => ?_)
        · exact KEEP.out _ _ (HSD.out.next HTDEA.out HFDEA.out)
        clear hK K
        try simp only [Act.put, List.getElem_toArray, List.getElem_cons_succ, List.getElem_cons_zero, List.setIfInBounds_toArray, List.set_cons_zero, List.set_cons_succ]
        clear own9 hf9 hl9 he3 hrvk
        refine wpAnyH_ready (rs := [11]) (by kernel_rfl) (by simp) ?_
        refine AllReadyH.cons rfl (fun K hK => ?_) AllReadyH.nil
        go_simp
        have fs : Frm [] wDEA (wDEA.alloc (.cells #[.int .i64 1, .int .i64 1, .int .i64 0, .int .i64 0, .slice none 0 0, .int .i64 0] 24)) := (Frm.refl [] wDEA).alloc _
        have hn := RowAt.made wDEA 24 (arcC (.slice none 0 0, ⟨1, 1, 0, 0, [], 0⟩)) #[.int .i64 1, .int .i64 1, .int .i64 0, .int .i64 0, .slice none 0 0, .int .i64 0] rfl
        have HFDEAX := Lib.hid (HFDEA.out.trans fs (by simp))
        have HTDEAX := Lib.hid (HTDEA.out.nil fs)
        have HADEAX := Lib.hid (ownsB_frm HADEA.out fs (by simp))
        have hxl : b0 ≤ wDEA.heap.size := (HBW.out _ HFDEA.out)
        refine hK.out _ _ ?_ (fun hHeld => ?_)
        · exact KEEP.out _ _ (HSD.out.next HTDEAX.out HFDEAX.out)
        clear hK K
        try simp only [Act.put, List.getElem_toArray, List.getElem_cons_succ, List.getElem_cons_zero, List.setIfInBounds_toArray, List.set_cons_zero, List.set_cons_succ]
        clear fs
        generalize (wDEA.alloc (.cells #[.int .i64 1, .int .i64 1, .int .i64 0, .int .i64 0, .slice none 0 0, .int .i64 0] 24)) = wDEAX at *
        generalize wDEA.heap.size = x11 at *
        have HXDEAX := Lib.hid hn
        have HXL := Lib.hid hxl
        have HXE := Lib.hid (show True from trivial)
        clear hn
        refine wpAnyH_ready (rs := [12]) (by kernel_rfl) (by simp) ?_
        refine AllReadyH.cons rfl (fun K hK => ?_) AllReadyH.nil
        refine step_app_row rfl (.tmp 85) (.tmp 87) 25 24 _ 6 64 rfl Try.underlying25 infoArc rfl (by decide) (by decide) b0 l0.length (.slice a9 l0.length c9) ([] ++ rowC l0) (by rfl) HADEAX.out (.slice (some ⟨x11, 0, none⟩) 1 1) 1 (arcC (.slice none 0 0, ⟨1, 1, 0, 0, [], 0⟩)) [] (by rfl) (rowV_cells (size := 6) HXDEAX.out rfl (Nat.le_refl _) (by decide) (by simp)) (by simp [arcC, Value.oneCell']) (l0.length + 1) rfl (by have := HL4.out; omega) (HBW.out _ HFDEAX.out) ?_
        intro a12 c12 wDEAXZ own12 hf12
        have hob : ∀ x ∈ (Value.slice a9 l0.length c9).ownBlock.toList, b0 ≤ x := fun x hx => (HADEAX.out.lt x (Option.mem_toList.1 hx)).1
        have HFDEAXZ := Lib.hid (HTR.out _ _ _ HFDEAX.out hf12 hob)
        have HTDEAXZ := Lib.hid (HTDEAX.out.frm hf12 (fun k hk => by have h1 := hob k hk; have h2 := HTL.out; omega) (fun hm => by have h1 := hob _ hm; have h2 := HTL.out; omega))
        have HNP : Hid (NotAt wDEAXZ [g, tb, w.heap.size + 1] (.slice none 0 0) ⟨1, 1, 0, 0, [], 0⟩) := Lib.hid (RowV.nil0 _ _ _)
        have HOW := Lib.hid own12
        clear hob hf12 own12
        refine hK.out _ _ ?_ (fun hHeld => ?_)
        · exact KEEP.out _ _ (HSD.out.next HTDEAXZ.out HFDEAXZ.out)
        clear hK K
        try simp only [Act.put, List.getElem_toArray, List.getElem_cons_succ, List.getElem_cons_zero, List.setIfInBounds_toArray, List.set_cons_zero, List.set_cons_succ]
        refine wpAnyH_take (i := 13) (v := ?_) rfl (by kernel_rfl) (by kernel_rfl) (by kernel_rfl) (fun _ _ _ h => h) (Or.inl ⟨by rfl, ?_⟩) (by assumption) ?_
        rotate_left
        · intro w9 hS9
          try dsimp only at hS9
          go_split_ands
          go_simp
          try with_reducible rfl
        try simp only [Act.put, List.getElem_toArray, List.getElem_cons_succ, List.getElem_cons_zero, List.setIfInBounds_toArray, List.set_cons_zero, List.set_cons_succ]
        refine wpAnyH_take (i := 14) (v := ?_) rfl (by kernel_rfl) (by kernel_rfl) (by kernel_rfl) (fun _ _ _ h => h) (Or.inl ⟨by rfl, ?_⟩) (by assumption) ?_
        rotate_left
        · intro w9 hS9
          try dsimp only at hS9
          go_split_ands
          go_simp
          try with_reducible rfl
        try simp only [Act.put, List.getElem_toArray, List.getElem_cons_succ, List.getElem_cons_zero, List.setIfInBounds_toArray, List.set_cons_zero, List.set_cons_succ]
        refine wpAnyH_done (by kernel_rfl) ?_ _
        refine Qt.last rfl rfl ?_
        simp only [List.getElem_toArray, List.getElem_cons_succ, List.getElem_cons_zero]
        have hS9 := HSD.out.next HTDEAXZ.out HFDEAXZ.out
        have b9 := hS9.row.cell (i := s) (v := .slice ra l0.length rc) (by rw [List.getElem?_map, HV0.out]; rfl)
        have z9 := hS9.row.frozen s
        have hFN := SP.put (s := s) (v := .slice a12 (l0.length + 1) c12) (p := (.slice none 0 0, ⟨1, 1, 0, 0, [], 0⟩)) hS9 (Frm.refl [] wDEAXZ) (by simpa using HOW.out) HB0.out (fun x hx => RowV.step (HNT0.out x hx) HFDEAXZ.out (fun k hk => .inl (by simp at hk; simp [hk])) (fun k hk => .inl hk)) HNP.out
        go_simp
        generalize wDEAXZ.setCell ⟨g, s, none⟩ (.slice a12 (l0.length + 1) c12) = w13 at *
        obtain ⟨m2, hm2⟩ : ∃ m2 : RM, m2 = { m1 with states := m1.states.set s ((l0 ++ [((.slice none 0 0 : Value), (⟨1, 1, 0, 0, [], 0⟩ : RA))]).map (·.2)) } := ⟨_, rfl⟩
        rw [← hm2] at hFN
        clear b9 z9 hS9 hm2 hHeld
        have k0 := hFN.bx.row.cell (i := 0) rfl
        have k1 := hFN.bx.row.cell (i := 1) rfl
        have k2 := hFN.bx.row.cell (i := 2) rfl
        have k3 := hFN.bx.row.cell (i := 3) rfl
        have kz0 := hFN.bx.row.frozen 0
        have kz1 := hFN.bx.row.frozen 1
        have kz2 := hFN.bx.row.frozen 2
        have kz3 := hFN.bx.row.frozen 3
        have r0 := hFN.res.cell (i := 0) rfl
        have r1 := hFN.res.cell (i := 1) rfl
        have r2 := hFN.res.cell (i := 2) rfl
        have r3 := hFN.res.cell (i := 3) rfl
        have y0 := hFN.res.frozen 0
        have y1 := hFN.res.frozen 1
        have y2 := hFN.res.frozen 2
        have y3 := hFN.res.frozen 3
        have nn1 : w.heap.size + 1 < q := by exact hFN.lt
        have nn2 : ¬ q = w.heap.size + 1 := by omega
        have nn3 : ¬ w.heap.size + 1 = q := by omega
        go_wp2_with fail
        have ho := (((hFN.res.setCell 0 (.int .i64 m2.regs)).setCell 1 (.int .i64 m2.data)).setCell 2 (.int .i64 m2.plain)).setCell 3 (.slice (some ⟨g, 0, none⟩) m1.states.length c)
        have hF9 : Frm [w.heap.size + 1] (w13) ((((((((w13).setCell ⟨w.heap.size + 1, 0, none⟩ (.int .i64 m2.regs))).setCell ⟨w.heap.size + 1, 1, none⟩ (.int .i64 m2.data))).setCell ⟨w.heap.size + 1, 2, none⟩ (.int .i64 m2.plain))).setCell ⟨w.heap.size + 1, 3, none⟩ (.slice (some ⟨g, 0, none⟩) m1.states.length c)) := ((((Frm.refl _ (w13)).setCell (.inl (by simp)) _).setCell (.inl (by simp)) _).setCell (.inl (by simp)) _).setCell (.inl (by simp)) _
        have hfin := hFN.fin (N := N) (by omega) hF9
        generalize ((((((((w13).setCell ⟨w.heap.size + 1, 0, none⟩ (.int .i64 m2.regs))).setCell ⟨w.heap.size + 1, 1, none⟩ (.int .i64 m2.data))).setCell ⟨w.heap.size + 1, 2, none⟩ (.int .i64 m2.plain))).setCell ⟨w.heap.size + 1, 3, none⟩ (.slice (some ⟨g, 0, none⟩) m1.states.length c)) = W9 at *
        have e0 := ho.cell (i := 0) rfl
        have e1 := ho.cell (i := 1) rfl
        have e2 := ho.cell (i := 2) rfl
        have e3 := ho.cell (i := 3) rfl
        unfold machV at hfin
        exact bodyPost_ret (v := .agg #[(.int .i64 m2.regs), (.int .i64 m2.data), (.int .i64 m2.plain), (.slice (some ⟨g, 0, none⟩) m1.states.length c)]) (by simp [results, Try.results16, go_sem, e0, e1, e2, e3]) rfl hfin
      · skip
        go_simp
        have fs : Frm [] wDE (wDE.alloc (.cells #[.int .i64 1, .int .i64 1, .int .i64 0, .int .i64 0, .slice none 0 0, .int .i64 0] 24)) := (Frm.refl [] wDE).alloc _
        have hn := RowAt.made wDE 24 (arcC (.slice none 0 0, ⟨1, 1, 0, 0, [], 0⟩)) #[.int .i64 1, .int .i64 1, .int .i64 0, .int .i64 0, .slice none 0 0, .int .i64 0] rfl
        have HFDEX := Lib.hid (HFDE.out.trans fs (by simp))
        have HTDEX := Lib.hid (HTDE.out.nil fs)
        have HEDEX := Lib.hid (ownsB_frm HEDE.out fs (by simp))
        have hxe : e3 < wDE.heap.size := (HEDE.out.lt e3 rfl).2
        have hxl : b0 ≤ wDE.heap.size := (HBW.out _ HFDE.out)
        refine hK.out _ _ ?_ (fun hHeld => ?_)
        · exact KEEP.out _ _ (HSD.out.next HTDEX.out HFDEX.out)
        clear hK K
        try simp only [Act.put, List.getElem_toArray, List.getElem_cons_succ, List.getElem_cons_zero, List.setIfInBounds_toArray, List.set_cons_zero, List.set_cons_succ]
        clear fs
        generalize (wDE.alloc (.cells #[.int .i64 1, .int .i64 1, .int .i64 0, .int .i64 0, .slice none 0 0, .int .i64 0] 24)) = wDEX at *
        generalize wDE.heap.size = x11 at *
        have HXDEX := Lib.hid hn
        have HXL := Lib.hid hxl
        have HXE := Lib.hid (show x11 ≠ e3 by omega)
        clear hn
        refine wpAnyH_ready (rs := [9]) (by kernel_rfl) (by simp) ?_
        refine AllReadyH.cons rfl (fun K hK => ?_) AllReadyH.nil
        have hrvk : RowV wDEX [q, g, tb, w.heap.size + 1] (.slice ra l0.length rc) l0.length 6 (rowC l0) := RowV.step HRV0.out HFDEX.out (fun k hk => .inl (by simp at hk; simp [hk])) (fun k hk => .inl hk)
        refine step_app_rowL rfl (.tmp 79) (.tmp 84) 25 24 _ 6 64 rfl Try.underlying25 infoArc rfl (by decide) (by decide) b0 0 (.slice (some ⟨e3, 0, none⟩) 0 0) [] (by rfl) HEDEX.out (.slice ra l0.length rc) l0.length (rowC l0) [q, g, tb, w.heap.size + 1] (by rfl) hrvk ONEC.out l0.length (Nat.zero_add _) (by have := HL4.out; omega) (HBW.out _ HFDEX.out) ?_
        intro a9 c9 wDEXA own9 hf9 hl9
        have he3 := (HEDEX.out.lt e3 rfl).1
        have HTL : Hid (tb < b0 ∧ b0 ≤ e3) := Lib.hid ⟨by have h1 := HSD.out.bx.lt; have h2 := HSD.out.o1; have h3 := HSD.out.o2; have h4 := HB0.out; omega, he3⟩
        have HFDEXA := Lib.hid (HTR.out _ _ _ HFDEX.out hf9 (fun x hx => by simp [Value.ownBlock] at hx; omega))
        have HTDEXA := Lib.hid (HTDEX.out.frm hf9 (by have h1 := HTL.out; simp [Value.ownBlock]; omega) (by have h1 := HTL.out; simp [Value.ownBlock]; omega))
        have HADEXA := Lib.hid own9
        have HXDEXA := Lib.hid (HXDEX.out.frm hf9 (by have h8 := HXL.out; have h9 := HTL.out; have h7 := HXE.out; simp [Value.ownBlock]; omega))
        refine hK.out _ _ ?_ (fun hHeld => ?_)
        · exact KEEP.out _ _ (HSD.out.next HTDEXA.out HFDEXA.out)
        clear hK K
        try simp only [Act.put, List.getElem_toArray, List.getElem_cons_succ, List.getElem_cons_zero, List.setIfInBounds_toArray, List.set_cons_zero, List.set_cons_succ]
        clear own9 hf9 hl9 he3 hrvk
        refine wpAnyH_ready (rs := [12]) (by kernel_rfl) (by simp) ?_
        refine AllReadyH.cons rfl (fun K hK => ?_) AllReadyH.nil
        refine step_app_row rfl (.tmp 85) (.tmp 87) 25 24 _ 6 64 rfl Try.underlying25 infoArc rfl (by decide) (by decide) b0 l0.length (.slice a9 l0.length c9) ([] ++ rowC l0) (by rfl) HADEXA.out (.slice (some ⟨x11, 0, none⟩) 1 1) 1 (arcC (.slice none 0 0, ⟨1, 1, 0, 0, [], 0⟩)) [] (by rfl) (rowV_cells (size := 6) HXDEXA.out rfl (Nat.le_refl _) (by decide) (by simp)) (by simp [arcC, Value.oneCell']) (l0.length + 1) rfl (by have := HL4.out; omega) (HBW.out _ HFDEXA.out) ?_
        intro a12 c12 wDEXAZ own12 hf12
        have hob : ∀ x ∈ (Value.slice a9 l0.length c9).ownBlock.toList, b0 ≤ x := fun x hx => (HADEXA.out.lt x (Option.mem_toList.1 hx)).1
        have HFDEXAZ := Lib.hid (HTR.out _ _ _ HFDEXA.out hf12 hob)
        have HTDEXAZ := Lib.hid (HTDEXA.out.frm hf12 (fun k hk => by have h1 := hob k hk; have h2 := HTL.out; omega) (fun hm => by have h1 := hob _ hm; have h2 := HTL.out; omega))
        have HNP : Hid (NotAt wDEXAZ [g, tb, w.heap.size + 1] (.slice none 0 0) ⟨1, 1, 0, 0, [], 0⟩) := Lib.hid (RowV.nil0 _ _ _)
        have HOW := Lib.hid own12
        clear hob hf12 own12
        refine hK.out _ _ ?_ (fun hHeld => ?_)
        · exact KEEP.out _ _ (HSD.out.next HTDEXAZ.out HFDEXAZ.out)
        clear hK K
        try simp only [Act.put, List.getElem_toArray, List.getElem_cons_succ, List.getElem_cons_zero, List.setIfInBounds_toArray, List.set_cons_zero, List.set_cons_succ]
        refine wpAnyH_take (i := 13) (v := ?_) rfl (by kernel_rfl) (by kernel_rfl) (by kernel_rfl) (fun _ _ _ h => h) (Or.inl ⟨by rfl, ?_⟩) (by assumption) ?_
        rotate_left
        · intro w9 hS9
          try dsimp only at hS9
          go_split_ands
          go_simp
          try with_reducible rfl
        try simp only [Act.put, List.getElem_toArray, List.getElem_cons_succ, List.getElem_cons_zero, List.setIfInBounds_toArray, List.set_cons_zero, List.set_cons_succ]
        refine wpAnyH_take (i := 14) (v := ?_) rfl (by kernel_rfl) (by kernel_rfl) (by kernel_rfl) (fun _ _ _ h => h) (Or.inl ⟨by rfl, ?_⟩) (by assumption) ?_
        rotate_left
        · intro w9 hS9
          try dsimp only at hS9
          go_split_ands
          go_simp
          try with_reducible rfl
        try simp only [Act.put, List.getElem_toArray, List.getElem_cons_succ, List.getElem_cons_zero, List.setIfInBounds_toArray, List.set_cons_zero, List.set_cons_succ]
        refine wpAnyH_done (by kernel_rfl) ?_ _
        refine Qt.last rfl rfl ?_
        simp only [List.getElem_toArray, List.getElem_cons_succ, List.getElem_cons_zero]
        have hS9 := HSD.out.next HTDEXAZ.out HFDEXAZ.out
        have b9 := hS9.row.cell (i := s) (v := .slice ra l0.length rc) (by rw [List.getElem?_map, HV0.out]; rfl)
        have z9 := hS9.row.frozen s
        have hFN := SP.put (s := s) (v := .slice a12 (l0.length + 1) c12) (p := (.slice none 0 0, ⟨1, 1, 0, 0, [], 0⟩)) hS9 (Frm.refl [] wDEXAZ) (by simpa using HOW.out) HB0.out (fun x hx => RowV.step (HNT0.out x hx) HFDEXAZ.out (fun k hk => .inl (by simp at hk; simp [hk])) (fun k hk => .inl hk)) HNP.out
        go_simp
        generalize wDEXAZ.setCell ⟨g, s, none⟩ (.slice a12 (l0.length + 1) c12) = w13 at *
        obtain ⟨m2, hm2⟩ : ∃ m2 : RM, m2 = { m1 with states := m1.states.set s ((l0 ++ [((.slice none 0 0 : Value), (⟨1, 1, 0, 0, [], 0⟩ : RA))]).map (·.2)) } := ⟨_, rfl⟩
        rw [← hm2] at hFN
        clear b9 z9 hS9 hm2 hHeld
        have k0 := hFN.bx.row.cell (i := 0) rfl
        have k1 := hFN.bx.row.cell (i := 1) rfl
        have k2 := hFN.bx.row.cell (i := 2) rfl
        have k3 := hFN.bx.row.cell (i := 3) rfl
        have kz0 := hFN.bx.row.frozen 0
        have kz1 := hFN.bx.row.frozen 1
        have kz2 := hFN.bx.row.frozen 2
        have kz3 := hFN.bx.row.frozen 3
        have r0 := hFN.res.cell (i := 0) rfl
        have r1 := hFN.res.cell (i := 1) rfl
        have r2 := hFN.res.cell (i := 2) rfl
        have r3 := hFN.res.cell (i := 3) rfl
        have y0 := hFN.res.frozen 0
        have y1 := hFN.res.frozen 1
        have y2 := hFN.res.frozen 2
        have y3 := hFN.res.frozen 3
        have nn1 : w.heap.size + 1 < q := by exact hFN.lt
        have nn2 : ¬ q = w.heap.size + 1 := by omega
        have nn3 : ¬ w.heap.size + 1 = q := by omega
        go_wp2_with fail
        have ho := (((hFN.res.setCell 0 (.int .i64 m2.regs)).setCell 1 (.int .i64 m2.data)).setCell 2 (.int .i64 m2.plain)).setCell 3 (.slice (some ⟨g, 0, none⟩) m1.states.length c)
        have hF9 : Frm [w.heap.size + 1] (w13) ((((((((w13).setCell ⟨w.heap.size + 1, 0, none⟩ (.int .i64 m2.regs))).setCell ⟨w.heap.size + 1, 1, none⟩ (.int .i64 m2.data))).setCell ⟨w.heap.size + 1, 2, none⟩ (.int .i64 m2.plain))).setCell ⟨w.heap.size + 1, 3, none⟩ (.slice (some ⟨g, 0, none⟩) m1.states.length c)) := ((((Frm.refl _ (w13)).setCell (.inl (by simp)) _).setCell (.inl (by simp)) _).setCell (.inl (by simp)) _).setCell (.inl (by simp)) _
        have hfin := hFN.fin (N := N) (by omega) hF9
        generalize ((((((((w13).setCell ⟨w.heap.size + 1, 0, none⟩ (.int .i64 m2.regs))).setCell ⟨w.heap.size + 1, 1, none⟩ (.int .i64 m2.data))).setCell ⟨w.heap.size + 1, 2, none⟩ (.int .i64 m2.plain))).setCell ⟨w.heap.size + 1, 3, none⟩ (.slice (some ⟨g, 0, none⟩) m1.states.length c)) = W9 at *
        have e0 := ho.cell (i := 0) rfl
        have e1 := ho.cell (i := 1) rfl
        have e2 := ho.cell (i := 2) rfl
        have e3 := ho.cell (i := 3) rfl
        unfold machV at hfin
        exact bodyPost_ret (v := .agg #[(.int .i64 m2.regs), (.int .i64 m2.data), (.int .i64 m2.plain), (.slice (some ⟨g, 0, none⟩) m1.states.length c)]) (by simp [results, Try.results16, go_sem, e0, e1, e2, e3]) rfl hfin
    · skip
      go_simp
      have fs : Frm [] wd (wd.alloc (.cells #[.int .i64 1, .int .i64 1, .int .i64 0, .int .i64 0, .slice none 0 0, .int .i64 0] 24)) := (Frm.refl [] wd).alloc _
      have hn := RowAt.made wd 24 (arcC (.slice none 0 0, ⟨1, 1, 0, 0, [], 0⟩)) #[.int .i64 1, .int .i64 1, .int .i64 0, .int .i64 0, .slice none 0 0, .int .i64 0] rfl
      have HFDX := Lib.hid (HFD.out.trans fs (by simp))
      have HTDX := Lib.hid (HTD.out.nil fs)
      have hxl : b0 ≤ wd.heap.size := (HBW.out _ HFD.out)
      refine hK.out _ _ ?_ (fun hHeld => ?_)
      · exact KEEP.out _ _ (HSD.out.next HTDX.out HFDX.out)
      clear hK K
      try simp only [Act.put, List.getElem_toArray, List.getElem_cons_succ, List.getElem_cons_zero, List.setIfInBounds_toArray, List.set_cons_zero, List.set_cons_succ]
      clear fs
      generalize (wd.alloc (.cells #[.int .i64 1, .int .i64 1, .int .i64 0, .int .i64 0, .slice none 0 0, .int .i64 0] 24)) = wDX at *
      generalize wd.heap.size = x11 at *
      have HXDX := Lib.hid hn
      have HXL := Lib.hid hxl
      clear hn
      refine wpAnyH_ready (rs := [3]) (by kernel_rfl) (by simp) ?_
      refine AllReadyH.cons rfl (fun K hK => ?_) AllReadyH.nil
      go_simp
      have fs : Frm [] wDX (wDX.alloc (.cells #[] 24)) := (Frm.refl [] wDX).alloc _
      have hn := owns_made0 wDX 24 6
      have hn := ownsB_mono hn (HBW.out _ HFDX.out)
      have HFDXE := Lib.hid (HFDX.out.trans fs (by simp))
      have HTDXE := Lib.hid (HTDX.out.nil fs)
      have HXDXE := Lib.hid (HXDX.out.frm fs (by simp))
      have hxe : x11 < wDX.heap.size := HXDX.out.lt
      refine hK.out _ _ ?_ (fun hHeld => ?_)
      · exact KEEP.out _ _ (HSD.out.next HTDXE.out HFDXE.out)
      clear hK K
      try simp only [Act.put, List.getElem_toArray, List.getElem_cons_succ, List.getElem_cons_zero, List.setIfInBounds_toArray, List.set_cons_zero, List.set_cons_succ]
      clear fs
      generalize (wDX.alloc (.cells #[] 24)) = wDXE at *
      generalize wDX.heap.size = e3 at *
      have HEDXE := Lib.hid hn
      have HXE := Lib.hid (show x11 ≠ e3 by omega)
      clear hn
      refine wpAnyH_ready (rs := [9]) (by kernel_rfl) (by simp) ?_
      refine AllReadyH.cons rfl (fun K hK => ?_) AllReadyH.nil
      have hrvk : RowV wDXE [q, g, tb, w.heap.size + 1] (.slice ra l0.length rc) l0.length 6 (rowC l0) := RowV.step HRV0.out HFDXE.out (fun k hk => .inl (by simp at hk; simp [hk])) (fun k hk => .inl hk)
      refine step_app_rowL rfl (.tmp 79) (.tmp 84) 25 24 _ 6 64 rfl Try.underlying25 infoArc rfl (by decide) (by decide) b0 0 (.slice (some ⟨e3, 0, none⟩) 0 0) [] (by rfl) HEDXE.out (.slice ra l0.length rc) l0.length (rowC l0) [q, g, tb, w.heap.size + 1] (by rfl) hrvk ONEC.out l0.length (Nat.zero_add _) (by have := HL4.out; omega) (HBW.out _ HFDXE.out) ?_
      intro a9 c9 wDXEA own9 hf9 hl9
      have he3 := (HEDXE.out.lt e3 rfl).1
      have HTL : Hid (tb < b0 ∧ b0 ≤ e3) := Lib.hid ⟨by have h1 := HSD.out.bx.lt; have h2 := HSD.out.o1; have h3 := HSD.out.o2; have h4 := HB0.out; omega, he3⟩
      have HFDXEA := Lib.hid (HTR.out _ _ _ HFDXE.out hf9 (fun x hx => by simp [Value.ownBlock] at hx; omega))
      have HTDXEA := Lib.hid (HTDXE.out.frm hf9 (by have h1 := HTL.out; simp [Value.ownBlock]; omega) (by have h1 := HTL.out; simp [Value.ownBlock]; omega))
      have HADXEA := Lib.hid own9
      have HXDXEA := Lib.hid (HXDXE.out.frm hf9 (by have h8 := HXL.out; have h9 := HTL.out; have h7 := HXE.out; simp [Value.ownBlock]; omega))
      refine hK.out _ _ ?_ (fun hHeld => ?_)
      · exact KEEP.out _ _ (HSD.out.next HTDXEA.out HFDXEA.out)
      clear hK K
      try simp only [Act.put, List.getElem_toArray, List.getElem_cons_succ, List.getElem_cons_zero, List.setIfInBounds_toArray, List.set_cons_zero, List.set_cons_succ]
      clear own9 hf9 hl9 he3 hrvk
      refine wpAnyH_ready (rs := [12]) (by kernel_rfl) (by simp) ?_
      refine AllReadyH.cons rfl (fun K hK => ?_) AllReadyH.nil
      refine step_app_row rfl (.tmp 85) (.tmp 87) 25 24 _ 6 64 rfl Try.underlying25 infoArc rfl (by decide) (by decide) b0 l0.length (.slice a9 l0.length c9) ([] ++ rowC l0) (by rfl) HADXEA.out (.slice (some ⟨x11, 0, none⟩) 1 1) 1 (arcC (.slice none 0 0, ⟨1, 1, 0, 0, [], 0⟩)) [] (by rfl) (rowV_cells (size := 6) HXDXEA.out rfl (Nat.le_refl _) (by decide) (by simp)) (by simp [arcC, Value.oneCell']) (l0.length + 1) rfl (by have := HL4.out; omega) (HBW.out _ HFDXEA.out) ?_
      intro a12 c12 wDXEAZ own12 hf12
      have hob : ∀ x ∈ (Value.slice a9 l0.length c9).ownBlock.toList, b0 ≤ x := fun x hx => (HADXEA.out.lt x (Option.mem_toList.1 hx)).1
      have HFDXEAZ := Lib.hid (HTR.out _ _ _ HFDXEA.out hf12 hob)
      have HTDXEAZ := Lib.hid (HTDXEA.out.frm hf12 (fun k hk => by have h1 := hob k hk; have h2 := HTL.out; omega) (fun hm => by have h1 := hob _ hm; have h2 := HTL.out; omega))
      have HNP : Hid (NotAt wDXEAZ [g, tb, w.heap.size + 1] (.slice none 0 0) ⟨1, 1, 0, 0, [], 0⟩) := Lib.hid (RowV.nil0 _ _ _)
      have HOW := Lib.hid own12
      clear hob hf12 own12
      refine hK.out _ _ ?_ (fun hHeld => ?_)
      · exact KEEP.out _ _ (HSD.out.next HTDXEAZ.out HFDXEAZ.out)
      clear hK K
      try simp only [Act.put, List.getElem_toArray, List.getElem_cons_succ, List.getElem_cons_zero, List.setIfInBounds_toArray, List.set_cons_zero, List.set_cons_succ]
      refine wpAnyH_take (i := 13) (v := ?_) rfl (by kernel_rfl) (by kernel_rfl) (by kernel_rfl) (fun _ _ _ h => h) (Or.inl ⟨by rfl, ?_⟩) (by assumption) ?_
      rotate_left
      · intro w9 hS9
        try dsimp only at hS9
        go_split_ands
        go_simp
        try with_reducible rfl
      try simp only [Act.put, List.getElem_toArray, List.getElem_cons_succ, List.getElem_cons_zero, List.setIfInBounds_toArray, List.set_cons_zero, List.set_cons_succ]
      refine wpAnyH_take (i := 14) (v := ?_) rfl (by kernel_rfl) (by kernel_rfl) (by kernel_rfl) (fun _ _ _ h => h) (Or.inl ⟨by rfl, ?_⟩) (by assumption) ?_
      rotate_left
      · intro w9 hS9
        try dsimp only at hS9
        go_split_ands
        go_simp
        try with_reducible rfl
      try simp only [Act.put, List.getElem_toArray, List.getElem_cons_succ, List.getElem_cons_zero, List.setIfInBounds_toArray, List.set_cons_zero, List.set_cons_succ]
      refine wpAnyH_done (by kernel_rfl) ?_ _
      refine Qt.last rfl rfl ?_
      simp only [List.getElem_toArray, List.getElem_cons_succ, List.getElem_cons_zero]
      have hS9 := HSD.out.next HTDXEAZ.out HFDXEAZ.out
      have b9 := hS9.row.cell (i := s) (v := .slice ra l0.length rc) (by rw [List.getElem?_map, HV0.out]; rfl)
      have z9 := hS9.row.frozen s
      have hFN := SP.put (s := s) (v := .slice a12 (l0.length + 1) c12) (p := (.slice none 0 0, ⟨1, 1, 0, 0, [], 0⟩)) hS9 (Frm.refl [] wDXEAZ) (by simpa using HOW.out) HB0.out (fun x hx => RowV.step (HNT0.out x hx) HFDXEAZ.out (fun k hk => .inl (by simp at hk; simp [hk])) (fun k hk => .inl hk)) HNP.out
      go_simp
      generalize wDXEAZ.setCell ⟨g, s, none⟩ (.slice a12 (l0.length + 1) c12) = w13 at *
      obtain ⟨m2, hm2⟩ : ∃ m2 : RM, m2 = { m1 with states := m1.states.set s ((l0 ++ [((.slice none 0 0 : Value), (⟨1, 1, 0, 0, [], 0⟩ : RA))]).map (·.2)) } := ⟨_, rfl⟩
      rw [← hm2] at hFN
      clear b9 z9 hS9 hm2 hHeld
      have k0 := hFN.bx.row.cell (i := 0) rfl
      have k1 := hFN.bx.row.cell (i := 1) rfl
      have k2 := hFN.bx.row.cell (i := 2) rfl
      have k3 := hFN.bx.row.cell (i := 3) rfl
      have kz0 := hFN.bx.row.frozen 0
      have kz1 := hFN.bx.row.frozen 1
      have kz2 := hFN.bx.row.frozen 2
      have kz3 := hFN.bx.row.frozen 3
      have r0 := hFN.res.cell (i := 0) rfl
      have r1 := hFN.res.cell (i := 1) rfl
      have r2 := hFN.res.cell (i := 2) rfl
      have r3 := hFN.res.cell (i := 3) rfl
      have y0 := hFN.res.frozen 0
      have y1 := hFN.res.frozen 1
      have y2 := hFN.res.frozen 2
      have y3 := hFN.res.frozen 3
      have nn1 : w.heap.size + 1 < q := by exact hFN.lt
      have nn2 : ¬ q = w.heap.size + 1 := by omega
      have nn3 : ¬ w.heap.size + 1 = q := by omega
      go_wp2_with fail
      have ho := (((hFN.res.setCell 0 (.int .i64 m2.regs)).setCell 1 (.int .i64 m2.data)).setCell 2 (.int .i64 m2.plain)).setCell 3 (.slice (some ⟨g, 0, none⟩) m1.states.length c)
      have hF9 : Frm [w.heap.size + 1] (w13) ((((((((w13).setCell ⟨w.heap.size + 1, 0, none⟩ (.int .i64 m2.regs))).setCell ⟨w.heap.size + 1, 1, none⟩ (.int .i64 m2.data))).setCell ⟨w.heap.size + 1, 2, none⟩ (.int .i64 m2.plain))).setCell ⟨w.heap.size + 1, 3, none⟩ (.slice (some ⟨g, 0, none⟩) m1.states.length c)) := ((((Frm.refl _ (w13)).setCell (.inl (by simp)) _).setCell (.inl (by simp)) _).setCell (.inl (by simp)) _).setCell (.inl (by simp)) _
      have hfin := hFN.fin (N := N) (by omega) hF9
      generalize ((((((((w13).setCell ⟨w.heap.size + 1, 0, none⟩ (.int .i64 m2.regs))).setCell ⟨w.heap.size + 1, 1, none⟩ (.int .i64 m2.data))).setCell ⟨w.heap.size + 1, 2, none⟩ (.int .i64 m2.plain))).setCell ⟨w.heap.size + 1, 3, none⟩ (.slice (some ⟨g, 0, none⟩) m1.states.length c)) = W9 at *
      have e0 := ho.cell (i := 0) rfl
      have e1 := ho.cell (i := 1) rfl
      have e2 := ho.cell (i := 2) rfl
      have e3 := ho.cell (i := 3) rfl
      unfold machV at hfin
      exact bodyPost_ret (v := .agg #[(.int .i64 m2.regs), (.int .i64 m2.data), (.int .i64 m2.plain), (.slice (some ⟨g, 0, none⟩) m1.states.length c)]) (by simp [results, Try.results16, go_sem, e0, e1, e2, e3]) rfl hfin
  · skip
    go_wp2_with fail
    obtain ⟨⟨v0, row0⟩, hv0⟩ : ∃ p, vs[s]? = some p := ⟨_, List.getElem?_eq_getElem (by have h9 := congrArg List.length hS4.vl; rw [List.length_map] at h9; omega)⟩
    obtain ⟨l0, hl0, hrv0, hnt0⟩ := hS4.rows _ (List.mem_of_getElem? hv0)
    have hrow0 : m1.states[s]? = some row0 := by rw [← hS4.vl, List.getElem?_map, hv0]; rfl
    have hl4 : row0.length ≤ 4 := HSH.out row0 (List.mem_of_getElem? hrow0)
    simp only at hl0 hrv0
    subst hl0
    rw [List.length_map] at hrv0 hl4
    obtain ⟨ra, rc, rfl⟩ := RowV.shape hrv0
    have HV0 := Lib.hid hv0
    have HL4 := Lib.hid hl4
    have hD : Frm [] w4 w4.drew := (Frm.refl [] w4).drew
    have HSD := Lib.hid (hS4.nil hD)
    have HRV0 := Lib.hid (RowV.nil hrv0 hD)
    have HNT0 := Lib.hid (fun (x : Value × RA) (hx : x ∈ l0) => RowV.nil (hnt0 x hx) hD)
    have ONEC := Lib.hid (rowC_one hrv0 hnt0)
    have KEEP : Hid (∀ (M : Nat) (w' : World), SP B tb M w w' m1 q g c vs → w'.cell? ⟨q, 3, none⟩ = some (.slice (some ⟨g, 0, none⟩) m1.states.length c) ∧ w'.cell? ⟨g, s, none⟩ = some (.slice ra l0.length rc)) := Lib.hid fun M w' hS => ⟨hS.bx.row.cell (i := 3) rfl, hS.row.cell (i := s) (by rw [List.getElem?_map, HV0.out]; rfl)⟩
    clear hv0 hrow0 hl4 hrv0 hnt0 hD hS4
    refine' wp_region_last (L := 15) _ (fun w' => w'.cell? ⟨q, 3, none⟩ = some (.slice (some ⟨g, 0, none⟩) m1.states.length c) ∧ w'.cell? ⟨g, s, none⟩ = some (.slice ra l0.length rc)) (by kernel_rfl) rfl rfl rfl rfl ?he (by kernel_rfl) (by kernel_rfl) ?hS ?h
    case he =>
      simp only [nopOf, List.getElem_toArray, List.getElem_cons_succ, List.getElem_cons_zero, List.setIfInBounds_toArray, List.set_cons_succ, List.set_cons_zero]
      rfl
    case hS => exact KEEP.out _ _ HSD.out
    intro hHeld
    have HFD : Hid (Frm [tb] w4.drew w4.drew) := Lib.hid (Frm.refl _ _)
    have HTD := Lib.hid HSD.out.bx.tape
    obtain ⟨b0, hb0⟩ : ∃ b0, b0 = w4.drew.heap.size := ⟨_, rfl⟩
    have HB0 : Hid (q < b0) := Lib.hid (by rw [hb0]; exact HSD.out.bx.row.lt)
    have HBW : Hid (∀ W, Frm [tb] w4.drew W → b0 ≤ W.heap.size) := Lib.hid (fun W hf => by rw [hb0]; exact hf.size)
    have HTR : Hid (∀ (fp : List Nat) (A C : World), Frm [tb] w4.drew A → Frm fp A C → (∀ x ∈ fp, b0 ≤ x) → Frm [tb] w4.drew C) := Lib.hid (fun fp A C h1 h2 h3 => h1.trans h2 (fun x hx => .inr (by rw [← hb0]; exact h3 x hx)))
    clear hb0
    generalize w4.drew = wd at *
    refine wpAnyH_take (i := 0) (v := ?_) rfl (by kernel_rfl) (by kernel_rfl) (by kernel_rfl) (fun _ _ _ h => h) (Or.inl ⟨by rfl, ?_⟩) (by assumption) ?_
    rotate_left
    · intro w9 hS9
      try dsimp only at hS9
      go_split_ands
      go_simp
      try with_reducible rfl
    try simp only [Act.put, List.getElem_toArray, List.getElem_cons_succ, List.getElem_cons_zero, List.setIfInBounds_toArray, List.set_cons_zero, List.set_cons_succ]
    refine wpAnyH_take (i := 1) (v := ?_) rfl (by kernel_rfl) (by kernel_rfl) (by kernel_rfl) (fun _ _ _ h => h) (Or.inl ⟨by rfl, ?_⟩) (by assumption) ?_
    rotate_left
    · intro w9 hS9
      try dsimp only at hS9
      go_split_ands
      go_simp
      try with_reducible rfl
    try simp only [Act.put, List.getElem_toArray, List.getElem_cons_succ, List.getElem_cons_zero, List.setIfInBounds_toArray, List.set_cons_zero, List.set_cons_succ]
    refine wpAnyH_take (i := 2) (v := ?_) rfl (by kernel_rfl) (by kernel_rfl) (by kernel_rfl) (fun _ _ _ h => h) (Or.inl ⟨by rfl, ?_⟩) (by assumption) ?_
    rotate_left
    · intro w9 hS9
      try dsimp only at hS9
      go_split_ands
      go_simp
      try with_reducible rfl
    try simp only [Act.put, List.getElem_toArray, List.getElem_cons_succ, List.getElem_cons_zero, List.setIfInBounds_toArray, List.set_cons_zero, List.set_cons_succ]
    refine wpAnyH_take (i := 4) (v := ?_) rfl (by kernel_rfl) (by kernel_rfl) (by kernel_rfl) (fun _ _ _ h => h) (Or.inl ⟨by rfl, ?_⟩) (by assumption) ?_
    rotate_left
    · intro w9 hS9
      try dsimp only at hS9
      go_split_ands
      go_simp
      try with_reducible rfl
    try simp only [Act.put, List.getElem_toArray, List.getElem_cons_succ, List.getElem_cons_zero, List.setIfInBounds_toArray, List.set_cons_zero, List.set_cons_succ]
    refine wpAnyH_take (i := 5) (v := ?_) rfl (by kernel_rfl) (by kernel_rfl) (by kernel_rfl) (fun _ _ _ h => h) (Or.inl ⟨by rfl, ?_⟩) (by assumption) ?_
    rotate_left
    · intro w9 hS9
      try dsimp only at hS9
      go_split_ands
      go_simp
      try with_reducible rfl
    try simp only [Act.put, List.getElem_toArray, List.getElem_cons_succ, List.getElem_cons_zero, List.setIfInBounds_toArray, List.set_cons_zero, List.set_cons_succ]
    refine wpAnyH_take (i := 6) (v := ?_) rfl (by kernel_rfl) (by kernel_rfl) (by kernel_rfl) (fun _ _ _ h => h) (Or.inl ⟨by rfl, ?_⟩) (by assumption) ?_
    rotate_left
    · intro w9 hS9
      try dsimp only at hS9
      go_split_ands
      go_simp
      try with_reducible rfl
    try simp only [Act.put, List.getElem_toArray, List.getElem_cons_succ, List.getElem_cons_zero, List.setIfInBounds_toArray, List.set_cons_zero, List.set_cons_succ]
    refine wpAnyH_take (i := 7) (v := ?_) rfl (by kernel_rfl) (by kernel_rfl) (by kernel_rfl) (fun _ _ _ h => h) (Or.inl ⟨by rfl, ?_⟩) (by assumption) ?_
    rotate_left
    · intro w9 hS9
      try dsimp only at hS9
      go_split_ands
      go_simp
      try with_reducible rfl
    try simp only [Act.put, List.getElem_toArray, List.getElem_cons_succ, List.getElem_cons_zero, List.setIfInBounds_toArray, List.set_cons_zero, List.set_cons_succ]
    refine wpAnyH_take (i := 8) (v := ?_) rfl (by kernel_rfl) (by kernel_rfl) (by kernel_rfl) (fun _ _ _ h => h) (Or.inl ⟨by rfl, ?_⟩) (by assumption) ?_
    rotate_left
    · intro w9 hS9
      try dsimp only at hS9
      go_split_ands
      go_simp
      try with_reducible rfl
    try simp only [Act.put, List.getElem_toArray, List.getElem_cons_succ, List.getElem_cons_zero, List.setIfInBounds_toArray, List.set_cons_zero, List.set_cons_succ]
    refine wpAnyH_ready (rs := [3, 10]) (by kernel_rfl) (by simp) ?_
    refine AllReadyH.cons rfl (fun K hK => ?_) (AllReadyH.cons rfl (fun K hK => ?_) AllReadyH.nil)
    · skip
      go_simp
      have fs : Frm [] wd (wd.alloc (.cells #[] 24)) := (Frm.refl [] wd).alloc _
      have hn := owns_made0 wd 24 6
      have hn := ownsB_mono hn (HBW.out _ HFD.out)
      have HFDE := Lib.hid (HFD.out.trans fs (by simp))
      have HTDE := Lib.hid (HTD.out.nil fs)
      refine hK.out _ _ ?_ (fun hHeld => ?_)
      · exact KEEP.out _ _ (HSD.out.next HTDE.out HFDE.out)
      clear hK K
      try simp only [Act.put, List.getElem_toArray, List.getElem_cons_succ, List.getElem_cons_zero, List.setIfInBounds_toArray, List.set_cons_zero, List.set_cons_succ]
      clear fs
      generalize (wd.alloc (.cells #[] 24)) = wDE at *
      generalize wd.heap.size = e3 at *
      have HEDE := Lib.hid hn
      clear hn
      refine wpAnyH_ready (rs := [9, 10]) (by kernel_rfl) (by simp) ?_
      refine AllReadyH.cons rfl (fun K hK => ?_) (AllReadyH.cons rfl (fun K hK => ?_) AllReadyH.nil)
      · skip
        have hrvk : RowV wDE [q, g, tb, w.heap.size + 1] (.slice ra l0.length rc) l0.length 6 (rowC l0) := RowV.step HRV0.out HFDE.out (fun k hk => .inl (by simp at hk; simp [hk])) (fun k hk => .inl hk)
        refine step_app_rowL rfl (.tmp 95) (.tmp 100) 25 24 _ 6 64 rfl Try.underlying25 infoArc rfl (by decide) (by decide) b0 0 (.slice (some ⟨e3, 0, none⟩) 0 0) [] (by rfl) HEDE.out (.slice ra l0.length rc) l0.length (rowC l0) [q, g, tb, w.heap.size + 1] (by rfl) hrvk ONEC.out l0.length (Nat.zero_add _) (by have := HL4.out; omega) (HBW.out _ HFDE.out) ?_
        intro a9 c9 wDEA own9 hf9 hl9
        have he3 := (HEDE.out.lt e3 rfl).1
        have HTL : Hid (tb < b0 ∧ b0 ≤ e3) := Lib.hid ⟨by have h1 := HSD.out.bx.lt; have h2 := HSD.out.o1; have h3 := HSD.out.o2; have h4 := HB0.out; omega, he3⟩
        have HFDEA := Lib.hid (HTR.out _ _ _ HFDE.out hf9 (fun x hx => by simp [Value.ownBlock] at hx; omega))
        have HTDEA := Lib.hid (HTDE.out.frm hf9 (by have h1 := HTL.out; simp [Value.ownBlock]; omega) (by have h1 := HTL.out; simp [Value.ownBlock]; omega))
        have HADEA := Lib.hid own9
        refine hK.out _ _ ?_ (fun hHeld => ?_)
        · exact KEEP.out _ _ (HSD.out.next HTDEA.out HFDEA.out)
        clear hK K
        try simp only [Act.put, List.getElem_toArray, List.getElem_cons_succ, List.getElem_cons_zero, List.setIfInBounds_toArray, List.set_cons_zero, List.set_cons_succ]
        clear own9 hf9 hl9 he3 hrvk
        refine wpAnyH_ready (rs := [10]) (by kernel_rfl) (by simp) ?_
        refine AllReadyH.cons rfl (fun K hK => ?_) AllReadyH.nil
        go_simp
        have fs : Frm [] wDEA (wDEA.alloc (.cells #[.int .i64 0, .int .i64 0] 3)) := (Frm.refl [] wDEA).alloc _
        have hn := RowAt.made wDEA 3 [.int .i64 0, .int .i64 0] #[.int .i64 0, .int .i64 0] rfl
        have HFDEAI := Lib.hid (HFDEA.out.trans fs (by simp))
        have HTDEAI := Lib.hid (HTDEA.out.nil fs)
        have HADEAI := Lib.hid (ownsB_frm HADEA.out fs (by simp))
        have hia : ∀ k, (Value.slice a9 l0.length c9).ownBlock = some k → k < wDEA.heap.size := fun k hk => (HADEA.out.lt k hk).2
        have hil : b0 ≤ wDEA.heap.size := (HBW.out _ HFDEA.out)
        refine hK.out _ _ ?_ (fun hHeld => ?_)
        · exact KEEP.out _ _ (HSD.out.next HTDEAI.out HFDEAI.out)
        clear hK K
        try simp only [Act.put, List.getElem_toArray, List.getElem_cons_succ, List.getElem_cons_zero, List.setIfInBounds_toArray, List.set_cons_zero, List.set_cons_succ]
        clear fs
        generalize (wDEA.alloc (.cells #[.int .i64 0, .int .i64 0] 3)) = wDEAI at *
        generalize wDEA.heap.size = x10 at *
        have HIDEAI := Lib.hid hn
        have HIL := Lib.hid hil
        have HIA : Hid (∀ k, (Value.slice a9 l0.length c9).ownBlock = some k → k ≠ x10) := Lib.hid (fun k hk => by have := hia k hk; omega)
        have HIE := Lib.hid (show True from trivial)
        clear hn
        refine wpAnyH_take (i := 11) (v := ?_) rfl (by kernel_rfl) (by kernel_rfl) (by kernel_rfl) (fun _ _ _ h => h) (Or.inl ⟨by rfl, ?_⟩) (by assumption) ?_
        rotate_left
        · intro w9 hS9
          try dsimp only at hS9
          go_split_ands
          go_simp
          try with_reducible rfl
        try simp only [Act.put, List.getElem_toArray, List.getElem_cons_succ, List.getElem_cons_zero, List.setIfInBounds_toArray, List.set_cons_zero, List.set_cons_succ]
        refine wpAnyH_ready (rs := [12]) (by kernel_rfl) (by simp) ?_
        refine AllReadyH.cons rfl (fun K hK => ?_) AllReadyH.nil
        go_simp
        have fs : Frm [] wDEAI (wDEAI.alloc (.cells #[.int .i64 4, .int .i64 0, .int .i64 0, .int .i64 0, .slice (some ⟨x10, 0, none⟩) 2 2, .int .i64 0] 24)) := (Frm.refl [] wDEAI).alloc _
        have hn := RowAt.made wDEAI 24 (arcC (.slice (some ⟨x10, 0, none⟩) 2 2, ⟨4, 0, 0, 0, [0, 0], 0⟩)) #[.int .i64 4, .int .i64 0, .int .i64 0, .int .i64 0, .slice (some ⟨x10, 0, none⟩) 2 2, .int .i64 0] rfl
        have HFDEAIX := Lib.hid (HFDEAI.out.trans fs (by simp))
        have HTDEAIX := Lib.hid (HTDEAI.out.nil fs)
        have HADEAIX := Lib.hid (ownsB_frm HADEAI.out fs (by simp))
        have HIDEAIX := Lib.hid (HIDEAI.out.frm fs (by simp))
        have hxl : b0 ≤ wDEAI.heap.size := (HBW.out _ HFDEAI.out)
        refine hK.out _ _ ?_ (fun hHeld => ?_)
        · exact KEEP.out _ _ (HSD.out.next HTDEAIX.out HFDEAIX.out)
        clear hK K
        try simp only [Act.put, List.getElem_toArray, List.getElem_cons_succ, List.getElem_cons_zero, List.setIfInBounds_toArray, List.set_cons_zero, List.set_cons_succ]
        clear fs
        generalize (wDEAI.alloc (.cells #[.int .i64 4, .int .i64 0, .int .i64 0, .int .i64 0, .slice (some ⟨x10, 0, none⟩) 2 2, .int .i64 0] 24)) = wDEAIX at *
        generalize wDEAI.heap.size = x11 at *
        have HXDEAIX := Lib.hid hn
        have HXL := Lib.hid hxl
        have HXE := Lib.hid (show True from trivial)
        clear hn
        refine wpAnyH_ready (rs := [13]) (by kernel_rfl) (by simp) ?_
        refine AllReadyH.cons rfl (fun K hK => ?_) AllReadyH.nil
        refine step_app_row rfl (.tmp 101) (.tmp 104) 25 24 _ 6 64 rfl Try.underlying25 infoArc rfl (by decide) (by decide) b0 l0.length (.slice a9 l0.length c9) ([] ++ rowC l0) (by rfl) HADEAIX.out (.slice (some ⟨x11, 0, none⟩) 1 1) 1 (arcC (.slice (some ⟨x10, 0, none⟩) 2 2, ⟨4, 0, 0, 0, [0, 0], 0⟩)) [] (by rfl) (rowV_cells (size := 6) HXDEAIX.out rfl (Nat.le_refl _) (by decide) (by simp)) (by simp [arcC, Value.oneCell']) (l0.length + 1) rfl (by have := HL4.out; omega) (HBW.out _ HFDEAIX.out) ?_
        intro a12 c12 wDEAIXZ own12 hf12
        have hob : ∀ x ∈ (Value.slice a9 l0.length c9).ownBlock.toList, b0 ≤ x := fun x hx => (HADEAIX.out.lt x (Option.mem_toList.1 hx)).1
        have HFDEAIXZ := Lib.hid (HTR.out _ _ _ HFDEAIX.out hf12 hob)
        have HTDEAIXZ := Lib.hid (HTDEAIX.out.frm hf12 (fun k hk => by have h1 := hob k hk; have h2 := HTL.out; omega) (fun hm => by have h1 := hob _ hm; have h2 := HTL.out; omega))
        have HNP : Hid (NotAt wDEAIXZ [g, tb, w.heap.size + 1] (.slice (some ⟨x10, 0, none⟩) 2 2) ⟨4, 0, 0, 0, [0, 0], 0⟩) := Lib.hid ((rowV_cells (size := 1) (HIDEAIX.out.frm hf12 (fun hm => HIA.out _ (Option.mem_toList.1 hm) rfl)) rfl (Nat.le_refl _) (by decide) (by have h1 := HIL.out; have h2 := HB0.out; have h3 := HSD.out.o1; have h4 := HSD.out.o2; have h5 := HSD.out.bx.lt; simp; omega)))
        have HOW := Lib.hid own12
        clear hob hf12 own12
        refine hK.out _ _ ?_ (fun hHeld => ?_)
        · exact KEEP.out _ _ (HSD.out.next HTDEAIXZ.out HFDEAIXZ.out)
        clear hK K
        try simp only [Act.put, List.getElem_toArray, List.getElem_cons_succ, List.getElem_cons_zero, List.setIfInBounds_toArray, List.set_cons_zero, List.set_cons_succ]
        refine wpAnyH_take (i := 14) (v := ?_) rfl (by kernel_rfl) (by kernel_rfl) (by kernel_rfl) (fun _ _ _ h => h) (Or.inl ⟨by rfl, ?_⟩) (by assumption) ?_
        rotate_left
        · intro w9 hS9
          try dsimp only at hS9
          go_split_ands
          go_simp
          try with_reducible rfl
        try simp only [Act.put, List.getElem_toArray, List.getElem_cons_succ, List.getElem_cons_zero, List.setIfInBounds_toArray, List.set_cons_zero, List.set_cons_succ]
        refine wpAnyH_take (i := 15) (v := ?_) rfl (by kernel_rfl) (by kernel_rfl) (by kernel_rfl) (fun _ _ _ h => h) (Or.inl ⟨by rfl, ?_⟩) (by assumption) ?_
        rotate_left
        · intro w9 hS9
          try dsimp only at hS9
          go_split_ands
          go_simp
          try with_reducible rfl
        try simp only [Act.put, List.getElem_toArray, List.getElem_cons_succ, List.getElem_cons_zero, List.setIfInBounds_toArray, List.set_cons_zero, List.set_cons_succ]
        refine wpAnyH_done (by kernel_rfl) ?_ _
        refine Qt.last rfl rfl ?_
        simp only [List.getElem_toArray, List.getElem_cons_succ, List.getElem_cons_zero]
        have hS9 := HSD.out.next HTDEAIXZ.out HFDEAIXZ.out
        have b9 := hS9.row.cell (i := s) (v := .slice ra l0.length rc) (by rw [List.getElem?_map, HV0.out]; rfl)
        have z9 := hS9.row.frozen s
        have hFN := SP.put (s := s) (v := .slice a12 (l0.length + 1) c12) (p := (.slice (some ⟨x10, 0, none⟩) 2 2, ⟨4, 0, 0, 0, [0, 0], 0⟩)) hS9 (Frm.refl [] wDEAIXZ) (by simpa using HOW.out) HB0.out (fun x hx => RowV.step (HNT0.out x hx) HFDEAIXZ.out (fun k hk => .inl (by simp at hk; simp [hk])) (fun k hk => .inl hk)) HNP.out
        go_simp
        generalize wDEAIXZ.setCell ⟨g, s, none⟩ (.slice a12 (l0.length + 1) c12) = w13 at *
        obtain ⟨m2, hm2⟩ : ∃ m2 : RM, m2 = { m1 with states := m1.states.set s ((l0 ++ [((.slice (some ⟨x10, 0, none⟩) 2 2 : Value), (⟨4, 0, 0, 0, [0, 0], 0⟩ : RA))]).map (·.2)) } := ⟨_, rfl⟩
        rw [← hm2] at hFN
        clear b9 z9 hS9 hm2 hHeld
        have k0 := hFN.bx.row.cell (i := 0) rfl
        have k1 := hFN.bx.row.cell (i := 1) rfl
        have k2 := hFN.bx.row.cell (i := 2) rfl
        have k3 := hFN.bx.row.cell (i := 3) rfl
        have kz0 := hFN.bx.row.frozen 0
        have kz1 := hFN.bx.row.frozen 1
        have kz2 := hFN.bx.row.frozen 2
        have kz3 := hFN.bx.row.frozen 3
        have r0 := hFN.res.cell (i := 0) rfl
        have r1 := hFN.res.cell (i := 1) rfl
        have r2 := hFN.res.cell (i := 2) rfl
        have r3 := hFN.res.cell (i := 3) rfl
        have y0 := hFN.res.frozen 0
        have y1 := hFN.res.frozen 1
        have y2 := hFN.res.frozen 2
        have y3 := hFN.res.frozen 3
        have nn1 : w.heap.size + 1 < q := by exact hFN.lt
        have nn2 : ¬ q = w.heap.size + 1 := by omega
        have nn3 : ¬ w.heap.size + 1 = q := by omega
        go_wp2_with fail
        have ho := (((hFN.res.setCell 0 (.int .i64 m2.regs)).setCell 1 (.int .i64 m2.data)).setCell 2 (.int .i64 m2.plain)).setCell 3 (.slice (some ⟨g, 0, none⟩) m1.states.length c)
        have hF9 : Frm [w.heap.size + 1] (w13) ((((((((w13).setCell ⟨w.heap.size + 1, 0, none⟩ (.int .i64 m2.regs))).setCell ⟨w.heap.size + 1, 1, none⟩ (.int .i64 m2.data))).setCell ⟨w.heap.size + 1, 2, none⟩ (.int .i64 m2.plain))).setCell ⟨w.heap.size + 1, 3, none⟩ (.slice (some ⟨g, 0, none⟩) m1.states.length c)) := ((((Frm.refl _ (w13)).setCell (.inl (by simp)) _).setCell (.inl (by simp)) _).setCell (.inl (by simp)) _).setCell (.inl (by simp)) _
        have hfin := hFN.fin (N := N) (by omega) hF9
        generalize ((((((((w13).setCell ⟨w.heap.size + 1, 0, none⟩ (.int .i64 m2.regs))).setCell ⟨w.heap.size + 1, 1, none⟩ (.int .i64 m2.data))).setCell ⟨w.heap.size + 1, 2, none⟩ (.int .i64 m2.plain))).setCell ⟨w.heap.size + 1, 3, none⟩ (.slice (some ⟨g, 0, none⟩) m1.states.length c)) = W9 at *
        have e0 := ho.cell (i := 0) rfl
        have e1 := ho.cell (i := 1) rfl
        have e2 := ho.cell (i := 2) rfl
        have e3 := ho.cell (i := 3) rfl
        unfold machV at hfin
        exact bodyPost_ret (v := .agg #[(.int .i64 m2.regs), (.int .i64 m2.data), (.int .i64 m2.plain), (.slice (some ⟨g, 0, none⟩) m1.states.length c)]) (by simp [results, Try.results16, go_sem, e0, e1, e2, e3]) rfl hfin
      · skip
        go_simp
        have fs : Frm [] wDE (wDE.alloc (.cells #[.int .i64 0, .int .i64 0] 3)) := (Frm.refl [] wDE).alloc _
        have hn := RowAt.made wDE 3 [.int .i64 0, .int .i64 0] #[.int .i64 0, .int .i64 0] rfl
        have HFDEI := Lib.hid (HFDE.out.trans fs (by simp))
        have HTDEI := Lib.hid (HTDE.out.nil fs)
        have HEDEI := Lib.hid (ownsB_frm HEDE.out fs (by simp))
        have hie : e3 < wDE.heap.size := (HEDE.out.lt e3 rfl).2
        have hil : b0 ≤ wDE.heap.size := (HBW.out _ HFDE.out)
        refine hK.out _ _ ?_ (fun hHeld => ?_)
        · exact KEEP.out _ _ (HSD.out.next HTDEI.out HFDEI.out)
        clear hK K
        try simp only [Act.put, List.getElem_toArray, List.getElem_cons_succ, List.getElem_cons_zero, List.setIfInBounds_toArray, List.set_cons_zero, List.set_cons_succ]
        clear fs
        generalize (wDE.alloc (.cells #[.int .i64 0, .int .i64 0] 3)) = wDEI at *
        generalize wDE.heap.size = x10 at *
        have HIDEI := Lib.hid hn
        have HIL := Lib.hid hil
        have HIE := Lib.hid (show x10 ≠ e3 by omega)
        clear hn
        refine wpAnyH_take (i := 11) (v := ?_) rfl (by kernel_rfl) (by kernel_rfl) (by kernel_rfl) (fun _ _ _ h => h) (Or.inl ⟨by rfl, ?_⟩) (by assumption) ?_
        rotate_left
        · intro w9 hS9
          try dsimp only at hS9
          go_split_ands
          go_simp
          try with_reducible rfl
        try simp only [Act.put, List.getElem_toArray, List.getElem_cons_succ, List.getElem_cons_zero, List.setIfInBounds_toArray, List.set_cons_zero, List.set_cons_succ]
        refine wpAnyH_ready (rs := [9, 12]) (by kernel_rfl) (by simp) ?_
        refine AllReadyH.cons rfl (fun K hK => ?_) (AllReadyH.cons rfl (fun K hK => ?_) AllReadyH.nil)
        · skip
          have hrvk : RowV wDEI [q, g, tb, w.heap.size + 1] (.slice ra l0.length rc) l0.length 6 (rowC l0) := RowV.step HRV0.out HFDEI.out (fun k hk => .inl (by simp at hk; simp [hk])) (fun k hk => .inl hk)
          refine step_app_rowL rfl (.tmp 95) (.tmp 100) 25 24 _ 6 64 rfl Try.underlying25 infoArc rfl (by decide) (by decide) b0 0 (.slice (some ⟨e3, 0, none⟩) 0 0) [] (by rfl) HEDEI.out (.slice ra l0.length rc) l0.length (rowC l0) [q, g, tb, w.heap.size + 1] (by rfl) hrvk ONEC.out l0.length (Nat.zero_add _) (by have := HL4.out; omega) (HBW.out _ HFDEI.out) ?_
          intro a9 c9 wDEIA own9 hf9 hl9
          have he3 := (HEDEI.out.lt e3 rfl).1
          have HTL : Hid (tb < b0 ∧ b0 ≤ e3) := Lib.hid ⟨by have h1 := HSD.out.bx.lt; have h2 := HSD.out.o1; have h3 := HSD.out.o2; have h4 := HB0.out; omega, he3⟩
          have HFDEIA := Lib.hid (HTR.out _ _ _ HFDEI.out hf9 (fun x hx => by simp [Value.ownBlock] at hx; omega))
          have HTDEIA := Lib.hid (HTDEI.out.frm hf9 (by have h1 := HTL.out; simp [Value.ownBlock]; omega) (by have h1 := HTL.out; simp [Value.ownBlock]; omega))
          have HADEIA := Lib.hid own9
          have HIDEIA := Lib.hid (HIDEI.out.frm hf9 (by have h8 := HIL.out; have h9 := HTL.out; have h7 := HIE.out; simp [Value.ownBlock]; omega))
          have HIA : Hid (∀ k, (Value.slice a9 l0.length c9).ownBlock = some k → k ≠ x10) := Lib.hid (fun k hk => by have h1 := hl9 k hk; have h2 := HIE.out; have h3 := HIDEI.out.lt; simp [Value.ownBlock] at h1; omega)
          refine hK.out _ _ ?_ (fun hHeld => ?_)
          · exact KEEP.out _ _ (HSD.out.next HTDEIA.out HFDEIA.out)
          clear hK K
          try simp only [Act.put, List.getElem_toArray, List.getElem_cons_succ, List.getElem_cons_zero, List.setIfInBounds_toArray, List.set_cons_zero, List.set_cons_succ]
          clear own9 hf9 hl9 he3 hrvk
          refine wpAnyH_ready (rs := [12]) (by kernel_rfl) (by simp) ?_
          refine AllReadyH.cons rfl (fun K hK => ?_) AllReadyH.nil
          go_simp
          have fs : Frm [] wDEIA (wDEIA.alloc (.cells #[.int .i64 4, .int .i64 0, .int .i64 0, .int .i64 0, .slice (some ⟨x10, 0, none⟩) 2 2, .int .i64 0] 24)) := (Frm.refl [] wDEIA).alloc _
          have hn := RowAt.made wDEIA 24 (arcC (.slice (some ⟨x10, 0, none⟩) 2 2, ⟨4, 0, 0, 0, [0, 0], 0⟩)) #[.int .i64 4, .int .i64 0, .int .i64 0, .int .i64 0, .slice (some ⟨x10, 0, none⟩) 2 2, .int .i64 0] rfl
          have HFDEIAX := Lib.hid (HFDEIA.out.trans fs (by simp))
          have HTDEIAX := Lib.hid (HTDEIA.out.nil fs)
          have HADEIAX := Lib.hid (ownsB_frm HADEIA.out fs (by simp))
          have HIDEIAX := Lib.hid (HIDEIA.out.frm fs (by simp))
          have hxl : b0 ≤ wDEIA.heap.size := (HBW.out _ HFDEIA.out)
          refine hK.out _ _ ?_ (fun hHeld => ?_)
          · exact KEEP.out _ _ (HSD.out.next HTDEIAX.out HFDEIAX.out)
          clear hK K
          try simp only [Act.put, List.getElem_toArray, List.getElem_cons_succ, List.getElem_cons_zero, List.setIfInBounds_toArray, List.set_cons_zero, List.set_cons_succ]
          clear fs
          generalize (wDEIA.alloc (.cells #[.int .i64 4, .int .i64 0, .int .i64 0, .int .i64 0, .slice (some ⟨x10, 0, none⟩) 2 2, .int .i64 0] 24)) = wDEIAX at *
          generalize wDEIA.heap.size = x11 at *
          have HXDEIAX := Lib.hid hn
          have HXL := Lib.hid hxl
          have HXE := Lib.hid (show True from trivial)
          clear hn
          refine wpAnyH_ready (rs := [13]) (by kernel_rfl) (by simp) ?_
          refine AllReadyH.cons rfl (fun K hK => ?_) AllReadyH.nil
          refine step_app_row rfl (.tmp 101) (.tmp 104) 25 24 _ 6 64 rfl Try.underlying25 infoArc rfl (by decide) (by decide) b0 l0.length (.slice a9 l0.length c9) ([] ++ rowC l0) (by rfl) HADEIAX.out (.slice (some ⟨x11, 0, none⟩) 1 1) 1 (arcC (.slice (some ⟨x10, 0, none⟩) 2 2, ⟨4, 0, 0, 0, [0, 0], 0⟩)) [] (by rfl) (rowV_cells (size := 6) HXDEIAX.out rfl (Nat.le_refl _) (by decide) (by simp)) (by simp [arcC, Value.oneCell']) (l0.length + 1) rfl (by have := HL4.out; omega) (HBW.out _ HFDEIAX.out) ?_
          intro a12 c12 wDEIAXZ own12 hf12
          have hob : ∀ x ∈ (Value.slice a9 l0.length c9).ownBlock.toList, b0 ≤ x := fun x hx => (HADEIAX.out.lt x (Option.mem_toList.1 hx)).1
          have HFDEIAXZ := Lib.hid (HTR.out _ _ _ HFDEIAX.out hf12 hob)
          have HTDEIAXZ := Lib.hid (HTDEIAX.out.frm hf12 (fun k hk => by have h1 := hob k hk; have h2 := HTL.out; omega) (fun hm => by have h1 := hob _ hm; have h2 := HTL.out; omega))
          have HNP : Hid (NotAt wDEIAXZ [g, tb, w.heap.size + 1] (.slice (some ⟨x10, 0, none⟩) 2 2) ⟨4, 0, 0, 0, [0, 0], 0⟩) := Lib.hid ((rowV_cells (size := 1) (HIDEIAX.out.frm hf12 (fun hm => HIA.out _ (Option.mem_toList.1 hm) rfl)) rfl (Nat.le_refl _) (by decide) (by have h1 := HIL.out; have h2 := HB0.out; have h3 := HSD.out.o1; have h4 := HSD.out.o2; have h5 := HSD.out.bx.lt; simp; omega)))
          have HOW := Lib.hid own12
          clear hob hf12 own12
          refine hK.out _ _ ?_ (fun hHeld => ?_)
          · exact KEEP.out _ _ (HSD.out.next HTDEIAXZ.out HFDEIAXZ.out)
          clear hK K
          try simp only [Act.put, List.getElem_toArray, List.getElem_cons_succ, List.getElem_cons_zero, List.setIfInBounds_toArray, List.set_cons_zero, List.set_cons_succ]
          refine wpAnyH_take (i := 14) (v := ?_) rfl (by kernel_rfl) (by kernel_rfl) (by kernel_rfl) (fun _ _ _ h => h) (Or.inl ⟨by rfl, ?_⟩) (by assumption) ?_
          rotate_left
          · intro w9 hS9
            try dsimp only at hS9
            go_split_ands
            go_simp
            try with_reducible rfl
          try simp only [Act.put, List.getElem_toArray, List.getElem_cons_succ, List.getElem_cons_zero, List.setIfInBounds_toArray, List.set_cons_zero, List.set_cons_succ]
          refine wpAnyH_take (i := 15) (v := ?_) rfl (by kernel_rfl) (by kernel_rfl) (by kernel_rfl) (fun _ _ _ h => h) (Or.inl ⟨by rfl, ?_⟩) (by assumption) ?_
          rotate_left
          · intro w9 hS9
            try dsimp only at hS9
            go_split_ands
            go_simp
            try with_reducible rfl
          try simp only [Act.put, List.getElem_toArray, List.getElem_cons_succ, List.getElem_cons_zero, List.setIfInBounds_toArray, List.set_cons_zero, List.set_cons_succ]
          refine wpAnyH_done (by kernel_rfl) ?_ _
          refine Qt.last rfl rfl ?_
          simp only [List.getElem_toArray, List.getElem_cons_succ, List.getElem_cons_zero]
          have hS9 := HSD.out.next HTDEIAXZ.out HFDEIAXZ.out
          have b9 := hS9.row.cell (i := s) (v := .slice ra l0.length rc) (by rw [List.getElem?_map, HV0.out]; rfl)
          have z9 := hS9.row.frozen s
          have hFN := SP.put (s := s) (v := .slice a12 (l0.length + 1) c12) (p := (.slice (some ⟨x10, 0, none⟩) 2 2, ⟨4, 0, 0, 0, [0, 0], 0⟩)) hS9 (Frm.refl [] wDEIAXZ) (by simpa using HOW.out) HB0.out (fun x hx => RowV.step (HNT0.out x hx) HFDEIAXZ.out (fun k hk => .inl (by simp at hk; simp [hk])) (fun k hk => .inl hk)) HNP.out
          go_simp
          generalize wDEIAXZ.setCell ⟨g, s, none⟩ (.slice a12 (l0.length + 1) c12) = w13 at *
          obtain ⟨m2, hm2⟩ : ∃ m2 : RM, m2 = { m1 with states := m1.states.set s ((l0 ++ [((.slice (some ⟨x10, 0, none⟩) 2 2 : Value), (⟨4, 0, 0, 0, [0, 0], 0⟩ : RA))]).map (·.2)) } := ⟨_, rfl⟩
          rw [← hm2] at hFN
          clear b9 z9 hS9 hm2 hHeld
          have k0 := hFN.bx.row.cell (i := 0) rfl
          have k1 := hFN.bx.row.cell (i := 1) rfl
          have k2 := hFN.bx.row.cell (i := 2) rfl
          have k3 := hFN.bx.row.cell (i := 3) rfl
          have kz0 := hFN.bx.row.frozen 0
          have kz1 := hFN.bx.row.frozen 1
          have kz2 := hFN.bx.row.frozen 2
          have kz3 := hFN.bx.row.frozen 3
          have r0 := hFN.res.cell (i := 0) rfl
          have r1 := hFN.res.cell (i := 1) rfl
          have r2 := hFN.res.cell (i := 2) rfl
          have r3 := hFN.res.cell (i := 3) rfl
          have y0 := hFN.res.frozen 0
          have y1 := hFN.res.frozen 1
          have y2 := hFN.res.frozen 2
          have y3 := hFN.res.frozen 3
          have nn1 : w.heap.size + 1 < q := by exact hFN.lt
          have nn2 : ¬ q = w.heap.size + 1 := by omega
          have nn3 : ¬ w.heap.size + 1 = q := by omega
          go_wp2_with fail
          have ho := (((hFN.res.setCell 0 (.int .i64 m2.regs)).setCell 1 (.int .i64 m2.data)).setCell 2 (.int .i64 m2.plain)).setCell 3 (.slice (some ⟨g, 0, none⟩) m1.states.length c)
          have hF9 : Frm [w.heap.size + 1] (w13) ((((((((w13).setCell ⟨w.heap.size + 1, 0, none⟩ (.int .i64 m2.regs))).setCell ⟨w.heap.size + 1, 1, none⟩ (.int .i64 m2.data))).setCell ⟨w.heap.size + 1, 2, none⟩ (.int .i64 m2.plain))).setCell ⟨w.heap.size + 1, 3, none⟩ (.slice (some ⟨g, 0, none⟩) m1.states.length c)) := ((((Frm.refl _ (w13)).setCell (.inl (by simp)) _).setCell (.inl (by simp)) _).setCell (.inl (by simp)) _).setCell (.inl (by simp)) _
          have hfin := hFN.fin (N := N) (by omega) hF9
          generalize ((((((((w13).setCell ⟨w.heap.size + 1, 0, none⟩ (.int .i64 m2.regs))).setCell ⟨w.heap.size + 1, 1, none⟩ (.int .i64 m2.data))).setCell ⟨w.heap.size + 1, 2, none⟩ (.int .i64 m2.plain))).setCell ⟨w.heap.size + 1, 3, none⟩ (.slice (some ⟨g, 0, none⟩) m1.states.length c)) = W9 at *
          have e0 := ho.cell (i := 0) rfl
          have e1 := ho.cell (i := 1) rfl
          have e2 := ho.cell (i := 2) rfl
          have e3 := ho.cell (i := 3) rfl
          unfold machV at hfin
          exact bodyPost_ret (v := .agg #[(.int .i64 m2.regs), (.int .i64 m2.data), (.int .i64 m2.plain), (.slice (some ⟨g, 0, none⟩) m1.states.length c)]) (by simp [results, Try.results16, go_sem, e0, e1, e2, e3]) rfl hfin
        · skip
          go_simp
          have fs : Frm [] wDEI (wDEI.alloc (.cells #[.int .i64 4, .int .i64 0, .int .i64 0, .int .i64 0, .slice (some ⟨x10, 0, none⟩) 2 2, .int .i64 0] 24)) := (Frm.refl [] wDEI).alloc _
          have hn := RowAt.made wDEI 24 (arcC (.slice (some ⟨x10, 0, none⟩) 2 2, ⟨4, 0, 0, 0, [0, 0], 0⟩)) #[.int .i64 4, .int .i64 0, .int .i64 0, .int .i64 0, .slice (some ⟨x10, 0, none⟩) 2 2, .int .i64 0] rfl
          have HFDEIX := Lib.hid (HFDEI.out.trans fs (by simp))
          have HTDEIX := Lib.hid (HTDEI.out.nil fs)
          have HEDEIX := Lib.hid (ownsB_frm HEDEI.out fs (by simp))
          have HIDEIX := Lib.hid (HIDEI.out.frm fs (by simp))
          have hxe : e3 < wDEI.heap.size := (HEDEI.out.lt e3 rfl).2
          have hxl : b0 ≤ wDEI.heap.size := (HBW.out _ HFDEI.out)
          refine hK.out _ _ ?_ (fun hHeld => ?_)
          · exact KEEP.out _ _ (HSD.out.next HTDEIX.out HFDEIX.out)
          clear hK K
          try simp only [Act.put, List.getElem_toArray, List.getElem_cons_succ, List.getElem_cons_zero, List.setIfInBounds_toArray, List.set_cons_zero, List.set_cons_succ]
          clear fs
          generalize (wDEI.alloc (.cells #[.int .i64 4, .int .i64 0, .int .i64 0, .int .i64 0, .slice (some ⟨x10, 0, none⟩) 2 2, .int .i64 0] 24)) = wDEIX at *
          generalize wDEI.heap.size = x11 at *
          have HXDEIX := Lib.hid hn
          have HXL := Lib.hid hxl
          have HXE := Lib.hid (show x11 ≠ e3 by omega)
          clear hn
          refine wpAnyH_ready (rs := [9]) (by kernel_rfl) (by simp) ?_
          refine AllReadyH.cons rfl (fun K hK => ?_) AllReadyH.nil
          have hrvk : RowV wDEIX [q, g, tb, w.heap.size + 1] (.slice ra l0.length rc) l0.length 6 (rowC l0) := RowV.step HRV0.out HFDEIX.out (fun k hk => .inl (by simp at hk; simp [hk])) (fun k hk => .inl hk)
          refine step_app_rowL rfl (.tmp 95) (.tmp 100) 25 24 _ 6 64 rfl Try.underlying25 infoArc rfl (by decide) (by decide) b0 0 (.slice (some ⟨e3, 0, none⟩) 0 0) [] (by rfl) HEDEIX.out (.slice ra l0.length rc) l0.length (rowC l0) [q, g, tb, w.heap.size + 1] (by rfl) hrvk ONEC.out l0.length (Nat.zero_add _) (by have := HL4.out; omega) (HBW.out _ HFDEIX.out) ?_
          intro a9 c9 wDEIXA own9 hf9 hl9
          have he3 := (HEDEIX.out.lt e3 rfl).1
          have HTL : Hid (tb < b0 ∧ b0 ≤ e3) := Lib.hid ⟨by have h1 := HSD.out.bx.lt; have h2 := HSD.out.o1; have h3 := HSD.out.o2; have h4 := HB0.out; omega, he3⟩
          have HFDEIXA := Lib.hid (HTR.out _ _ _ HFDEIX.out hf9 (fun x hx => by simp [Value.ownBlock] at hx; omega))
          have HTDEIXA := Lib.hid (HTDEIX.out.frm hf9 (by have h1 := HTL.out; simp [Value.ownBlock]; omega) (by have h1 := HTL.out; simp [Value.ownBlock]; omega))
          have HADEIXA := Lib.hid own9
          have HIDEIXA := Lib.hid (HIDEIX.out.frm hf9 (by have h8 := HIL.out; have h9 := HTL.out; have h7 := HIE.out; simp [Value.ownBlock]; omega))
          have HXDEIXA := Lib.hid (HXDEIX.out.frm hf9 (by have h8 := HXL.out; have h9 := HTL.out; have h7 := HXE.out; simp [Value.ownBlock]; omega))
          have HIA : Hid (∀ k, (Value.slice a9 l0.length c9).ownBlock = some k → k ≠ x10) := Lib.hid (fun k hk => by have h1 := hl9 k hk; have h2 := HIE.out; have h3 := HIDEIX.out.lt; simp [Value.ownBlock] at h1; omega)
          refine hK.out _ _ ?_ (fun hHeld => ?_)
          · exact KEEP.out _ _ (HSD.out.next HTDEIXA.out HFDEIXA.out)
          clear hK K
          try simp only [Act.put, List.getElem_toArray, List.getElem_cons_succ, List.getElem_cons_zero, List.setIfInBounds_toArray, List.set_cons_zero, List.set_cons_succ]
          clear own9 hf9 hl9 he3 hrvk
          refine wpAnyH_ready (rs := [13]) (by kernel_rfl) (by simp) ?_
          refine AllReadyH.cons rfl (fun K hK => ?_) AllReadyH.nil
          refine step_app_row rfl (.tmp 101) (.tmp 104) 25 24 _ 6 64 rfl Try.underlying25 infoArc rfl (by decide) (by decide) b0 l0.length (.slice a9 l0.length c9) ([] ++ rowC l0) (by rfl) HADEIXA.out (.slice (some ⟨x11, 0, none⟩) 1 1) 1 (arcC (.slice (some ⟨x10, 0, none⟩) 2 2, ⟨4, 0, 0, 0, [0, 0], 0⟩)) [] (by rfl) (rowV_cells (size := 6) HXDEIXA.out rfl (Nat.le_refl _) (by decide) (by simp)) (by simp [arcC, Value.oneCell']) (l0.length + 1) rfl (by have := HL4.out; omega) (HBW.out _ HFDEIXA.out) ?_
          intro a12 c12 wDEIXAZ own12 hf12
          have hob : ∀ x ∈ (Value.slice a9 l0.length c9).ownBlock.toList, b0 ≤ x := fun x hx => (HADEIXA.out.lt x (Option.mem_toList.1 hx)).1
          have HFDEIXAZ := Lib.hid (HTR.out _ _ _ HFDEIXA.out hf12 hob)
          have HTDEIXAZ := Lib.hid (HTDEIXA.out.frm hf12 (fun k hk => by have h1 := hob k hk; have h2 := HTL.out; omega) (fun hm => by have h1 := hob _ hm; have h2 := HTL.out; omega))
          have HNP : Hid (NotAt wDEIXAZ [g, tb, w.heap.size + 1] (.slice (some ⟨x10, 0, none⟩) 2 2) ⟨4, 0, 0, 0, [0, 0], 0⟩) := Lib.hid ((rowV_cells (size := 1) (HIDEIXA.out.frm hf12 (fun hm => HIA.out _ (Option.mem_toList.1 hm) rfl)) rfl (Nat.le_refl _) (by decide) (by have h1 := HIL.out; have h2 := HB0.out; have h3 := HSD.out.o1; have h4 := HSD.out.o2; have h5 := HSD.out.bx.lt; simp; omega)))
          have HOW := Lib.hid own12
          clear hob hf12 own12
          refine hK.out _ _ ?_ (fun hHeld => ?_)
          · exact KEEP.out _ _ (HSD.out.next HTDEIXAZ.out HFDEIXAZ.out)
          clear hK K
          try simp only [Act.put, List.getElem_toArray, List.getElem_cons_succ, List.getElem_cons_zero, List.setIfInBounds_toArray, List.set_cons_zero, List.set_cons_succ]
          refine wpAnyH_take (i := 14) (v := ?_) rfl (by kernel_rfl) (by kernel_rfl) (by kernel_rfl) (fun _ _ _ h => h) (Or.inl ⟨by rfl, ?_⟩) (by assumption) ?_
          rotate_left
          · intro w9 hS9
            try dsimp only at hS9
            go_split_ands
            go_simp
            try with_reducible rfl
          try simp only [Act.put, List.getElem_toArray, List.getElem_cons_succ, List.getElem_cons_zero, List.setIfInBounds_toArray, List.set_cons_zero, List.set_cons_succ]
          refine wpAnyH_take (i := 15) (v := ?_) rfl (by kernel_rfl) (by kernel_rfl) (by kernel_rfl) (fun _ _ _ h => h) (Or.inl ⟨by rfl, ?_⟩) (by assumption) ?_
          rotate_left
          · intro w9 hS9
            try dsimp only at hS9
            go_split_ands
            go_simp
            try with_reducible rfl
          try simp only [Act.put, List.getElem_toArray, List.getElem_cons_succ, List.getElem_cons_zero, List.setIfInBounds_toArray, List.set_cons_zero, List.set_cons_succ]
          refine wpAnyH_done (by kernel_rfl) ?_ _
          refine Qt.last rfl rfl ?_
          simp only [List.getElem_toArray, List.getElem_cons_succ, List.getElem_cons_zero]
          have hS9 := HSD.out.next HTDEIXAZ.out HFDEIXAZ.out
          have b9 := hS9.row.cell (i := s) (v := .slice ra l0.length rc) (by rw [List.getElem?_map, HV0.out]; rfl)
          have z9 := hS9.row.frozen s
          have hFN := SP.put (s := s) (v := .slice a12 (l0.length + 1) c12) (p := (.slice (some ⟨x10, 0, none⟩) 2 2, ⟨4, 0, 0, 0, [0, 0], 0⟩)) hS9 (Frm.refl [] wDEIXAZ) (by simpa using HOW.out) HB0.out (fun x hx => RowV.step (HNT0.out x hx) HFDEIXAZ.out (fun k hk => .inl (by simp at hk; simp [hk])) (fun k hk => .inl hk)) HNP.out
          go_simp
          generalize wDEIXAZ.setCell ⟨g, s, none⟩ (.slice a12 (l0.length + 1) c12) = w13 at *
          obtain ⟨m2, hm2⟩ : ∃ m2 : RM, m2 = { m1 with states := m1.states.set s ((l0 ++ [((.slice (some ⟨x10, 0, none⟩) 2 2 : Value), (⟨4, 0, 0, 0, [0, 0], 0⟩ : RA))]).map (·.2)) } := ⟨_, rfl⟩
          rw [← hm2] at hFN
          clear b9 z9 hS9 hm2 hHeld
          have k0 := hFN.bx.row.cell (i := 0) rfl
          have k1 := hFN.bx.row.cell (i := 1) rfl
          have k2 := hFN.bx.row.cell (i := 2) rfl
          have k3 := hFN.bx.row.cell (i := 3) rfl
          have kz0 := hFN.bx.row.frozen 0
          have kz1 := hFN.bx.row.frozen 1
          have kz2 := hFN.bx.row.frozen 2
          have kz3 := hFN.bx.row.frozen 3
          have r0 := hFN.res.cell (i := 0) rfl
          have r1 := hFN.res.cell (i := 1) rfl
          have r2 := hFN.res.cell (i := 2) rfl
          have r3 := hFN.res.cell (i := 3) rfl
          have y0 := hFN.res.frozen 0
          have y1 := hFN.res.frozen 1
          have y2 := hFN.res.frozen 2
          have y3 := hFN.res.frozen 3
          have nn1 : w.heap.size + 1 < q := by exact hFN.lt
          have nn2 : ¬ q = w.heap.size + 1 := by omega
          have nn3 : ¬ w.heap.size + 1 = q := by omega
          go_wp2_with fail
          have ho := (((hFN.res.setCell 0 (.int .i64 m2.regs)).setCell 1 (.int .i64 m2.data)).setCell 2 (.int .i64 m2.plain)).setCell 3 (.slice (some ⟨g, 0, none⟩) m1.states.length c)
          have hF9 : Frm [w.heap.size + 1] (w13) ((((((((w13).setCell ⟨w.heap.size + 1, 0, none⟩ (.int .i64 m2.regs))).setCell ⟨w.heap.size + 1, 1, none⟩ (.int .i64 m2.data))).setCell ⟨w.heap.size + 1, 2, none⟩ (.int .i64 m2.plain))).setCell ⟨w.heap.size + 1, 3, none⟩ (.slice (some ⟨g, 0, none⟩) m1.states.length c)) := ((((Frm.refl _ (w13)).setCell (.inl (by simp)) _).setCell (.inl (by simp)) _).setCell (.inl (by simp)) _).setCell (.inl (by simp)) _
          have hfin := hFN.fin (N := N) (by omega) hF9
          generalize ((((((((w13).setCell ⟨w.heap.size + 1, 0, none⟩ (.int .i64 m2.regs))).setCell ⟨w.heap.size + 1, 1, none⟩ (.int .i64 m2.data))).setCell ⟨w.heap.size + 1, 2, none⟩ (.int .i64 m2.plain))).setCell ⟨w.heap.size + 1, 3, none⟩ (.slice (some ⟨g, 0, none⟩) m1.states.length c)) = W9 at *
          have e0 := ho.cell (i := 0) rfl
          have e1 := ho.cell (i := 1) rfl
          have e2 := ho.cell (i := 2) rfl
          have e3 := ho.cell (i := 3) rfl
          unfold machV at hfin
          exact bodyPost_ret (v := .agg #[(.int .i64 m2.regs), (.int .i64 m2.data), (.int .i64 m2.plain), (.slice (some ⟨g, 0, none⟩) m1.states.length c)]) (by simp [results, Try.results16, go_sem, e0, e1, e2, e3]) rfl hfin
    · skip
      go_simp
      have fs : Frm [] wd (wd.alloc (.cells #[.int .i64 0, .int .i64 0] 3)) := (Frm.refl [] wd).alloc _
      have hn := RowAt.made wd 3 [.int .i64 0, .int .i64 0] #[.int .i64 0, .int .i64 0] rfl
      have HFDI := Lib.hid (HFD.out.trans fs (by simp))
      have HTDI := Lib.hid (HTD.out.nil fs)
      have hil : b0 ≤ wd.heap.size := (HBW.out _ HFD.out)
      refine hK.out _ _ ?_ (fun hHeld => ?_)
      · exact KEEP.out _ _ (HSD.out.next HTDI.out HFDI.out)
      clear hK K
      try simp only [Act.put, List.getElem_toArray, List.getElem_cons_succ, List.getElem_cons_zero, List.setIfInBounds_toArray, List.set_cons_zero, List.set_cons_succ]
      clear fs
      generalize (wd.alloc (.cells #[.int .i64 0, .int .i64 0] 3)) = wDI at *
      generalize wd.heap.size = x10 at *
      have HIDI := Lib.hid hn
      have HIL := Lib.hid hil
      clear hn
      refine wpAnyH_take (i := 11) (v := ?_) rfl (by kernel_rfl) (by kernel_rfl) (by kernel_rfl) (fun _ _ _ h => h) (Or.inl ⟨by rfl, ?_⟩) (by assumption) ?_
      rotate_left
      · intro w9 hS9
        try dsimp only at hS9
        go_split_ands
        go_simp
        try with_reducible rfl
      try simp only [Act.put, List.getElem_toArray, List.getElem_cons_succ, List.getElem_cons_zero, List.setIfInBounds_toArray, List.set_cons_zero, List.set_cons_succ]
      refine wpAnyH_ready (rs := [3, 12]) (by kernel_rfl) (by simp) ?_
      refine AllReadyH.cons rfl (fun K hK => ?_) (AllReadyH.cons rfl (fun K hK => ?_) AllReadyH.nil)
      · skip
        go_simp
        have fs : Frm [] wDI (wDI.alloc (.cells #[] 24)) := (Frm.refl [] wDI).alloc _
        have hn := owns_made0 wDI 24 6
        have hn := ownsB_mono hn (HBW.out _ HFDI.out)
        have HFDIE := Lib.hid (HFDI.out.trans fs (by simp))
        have HTDIE := Lib.hid (HTDI.out.nil fs)
        have HIDIE := Lib.hid (HIDI.out.frm fs (by simp))
        have hie : x10 < wDI.heap.size := HIDI.out.lt
        refine hK.out _ _ ?_ (fun hHeld => ?_)
        · exact KEEP.out _ _ (HSD.out.next HTDIE.out HFDIE.out)
        clear hK K
        try simp only [Act.put, List.getElem_toArray, List.getElem_cons_succ, List.getElem_cons_zero, List.setIfInBounds_toArray, List.set_cons_zero, List.set_cons_succ]
        clear fs
        generalize (wDI.alloc (.cells #[] 24)) = wDIE at *
        generalize wDI.heap.size = e3 at *
        have HEDIE := Lib.hid hn
        have HIE := Lib.hid (show x10 ≠ e3 by omega)
        clear hn
        refine wpAnyH_ready (rs := [9, 12]) (by kernel_rfl) (by simp) ?_
        refine AllReadyH.cons rfl (fun K hK => ?_) (AllReadyH.cons rfl (fun K hK => ?_) AllReadyH.nil)
        · skip
          have hrvk : RowV wDIE [q, g, tb, w.heap.size + 1] (.slice ra l0.length rc) l0.length 6 (rowC l0) := RowV.step HRV0.out HFDIE.out (fun k hk => .inl (by simp at hk; simp [hk])) (fun k hk => .inl hk)
          refine step_app_rowL rfl (.tmp 95) (.tmp 100) 25 24 _ 6 64 rfl Try.underlying25 infoArc rfl (by decide) (by decide) b0 0 (.slice (some ⟨e3, 0, none⟩) 0 0) [] (by rfl) HEDIE.out (.slice ra l0.length rc) l0.length (rowC l0) [q, g, tb, w.heap.size + 1] (by rfl) hrvk ONEC.out l0.length (Nat.zero_add _) (by have := HL4.out; omega) (HBW.out _ HFDIE.out) ?_
          intro a9 c9 wDIEA own9 hf9 hl9
          have he3 := (HEDIE.out.lt e3 rfl).1
          have HTL : Hid (tb < b0 ∧ b0 ≤ e3) := Lib.hid ⟨by have h1 := HSD.out.bx.lt; have h2 := HSD.out.o1; have h3 := HSD.out.o2; have h4 := HB0.out; omega, he3⟩
          have HFDIEA := Lib.hid (HTR.out _ _ _ HFDIE.out hf9 (fun x hx => by simp [Value.ownBlock] at hx; omega))
          have HTDIEA := Lib.hid (HTDIE.out.frm hf9 (by have h1 := HTL.out; simp [Value.ownBlock]; omega) (by have h1 := HTL.out; simp [Value.ownBlock]; omega))
          have HADIEA := Lib.hid own9
          have HIDIEA := Lib.hid (HIDIE.out.frm hf9 (by have h8 := HIL.out; have h9 := HTL.out; have h7 := HIE.out; simp [Value.ownBlock]; omega))
          have HIA : Hid (∀ k, (Value.slice a9 l0.length c9).ownBlock = some k → k ≠ x10) := Lib.hid (fun k hk => by have h1 := hl9 k hk; have h2 := HIE.out; have h3 := HIDIE.out.lt; simp [Value.ownBlock] at h1; omega)
          refine hK.out _ _ ?_ (fun hHeld => ?_)
          · exact KEEP.out _ _ (HSD.out.next HTDIEA.out HFDIEA.out)
          clear hK K
          try simp only [Act.put, List.getElem_toArray, List.getElem_cons_succ, List.getElem_cons_zero, List.setIfInBounds_toArray, List.set_cons_zero, List.set_cons_succ]
          clear own9 hf9 hl9 he3 hrvk
          refine wpAnyH_ready (rs := [12]) (by kernel_rfl) (by simp) ?_
          refine AllReadyH.cons rfl (fun K hK => ?_) AllReadyH.nil
          go_simp
          have fs : Frm [] wDIEA (wDIEA.alloc (.cells #[.int .i64 4, .int .i64 0, .int .i64 0, .int .i64 0, .slice (some ⟨x10, 0, none⟩) 2 2, .int .i64 0] 24)) := (Frm.refl [] wDIEA).alloc _
          have hn := RowAt.made wDIEA 24 (arcC (.slice (some ⟨x10, 0, none⟩) 2 2, ⟨4, 0, 0, 0, [0, 0], 0⟩)) #[.int .i64 4, .int .i64 0, .int .i64 0, .int .i64 0, .slice (some ⟨x10, 0, none⟩) 2 2, .int .i64 0] rfl
          have HFDIEAX := Lib.hid (HFDIEA.out.trans fs (by simp))
          have HTDIEAX := Lib.hid (HTDIEA.out.nil fs)
          have HADIEAX := Lib.hid (ownsB_frm HADIEA.out fs (by simp))
          have HIDIEAX := Lib.hid (HIDIEA.out.frm fs (by simp))
          have hxl : b0 ≤ wDIEA.heap.size := (HBW.out _ HFDIEA.out)
          refine hK.out _ _ ?_ (fun hHeld => ?_)
          · exact KEEP.out _ _ (HSD.out.next HTDIEAX.out HFDIEAX.out)
          clear hK K
          try simp only [Act.put, List.getElem_toArray, List.getElem_cons_succ, List.getElem_cons_zero, List.setIfInBounds_toArray, List.set_cons_zero, List.set_cons_succ]
          clear fs
          generalize (wDIEA.alloc (.cells #[.int .i64 4, .int .i64 0, .int .i64 0, .int .i64 0, .slice (some ⟨x10, 0, none⟩) 2 2, .int .i64 0] 24)) = wDIEAX at *
          generalize wDIEA.heap.size = x11 at *
          have HXDIEAX := Lib.hid hn
          have HXL := Lib.hid hxl
          have HXE := Lib.hid (show True from trivial)
          clear hn
          refine wpAnyH_ready (rs := [13]) (by kernel_rfl) (by simp) ?_
          refine AllReadyH.cons rfl (fun K hK => ?_) AllReadyH.nil
          refine step_app_row rfl (.tmp 101) (.tmp 104) 25 24 _ 6 64 rfl Try.underlying25 infoArc rfl (by decide) (by decide) b0 l0.length (.slice a9 l0.length c9) ([] ++ rowC l0) (by rfl) HADIEAX.out (.slice (some ⟨x11, 0, none⟩) 1 1) 1 (arcC (.slice (some ⟨x10, 0, none⟩) 2 2, ⟨4, 0, 0, 0, [0, 0], 0⟩)) [] (by rfl) (rowV_cells (size := 6) HXDIEAX.out rfl (Nat.le_refl _) (by decide) (by simp)) (by simp [arcC, Value.oneCell']) (l0.length + 1) rfl (by have := HL4.out; omega) (HBW.out _ HFDIEAX.out) ?_
          intro a12 c12 wDIEAXZ own12 hf12
          have hob : ∀ x ∈ (Value.slice a9 l0.length c9).ownBlock.toList, b0 ≤ x := fun x hx => (HADIEAX.out.lt x (Option.mem_toList.1 hx)).1
          have HFDIEAXZ := Lib.hid (HTR.out _ _ _ HFDIEAX.out hf12 hob)
          have HTDIEAXZ := Lib.hid (HTDIEAX.out.frm hf12 (fun k hk => by have h1 := hob k hk; have h2 := HTL.out; omega) (fun hm => by have h1 := hob _ hm; have h2 := HTL.out; omega))
          have HNP : Hid (NotAt wDIEAXZ [g, tb, w.heap.size + 1] (.slice (some ⟨x10, 0, none⟩) 2 2) ⟨4, 0, 0, 0, [0, 0], 0⟩) := Lib.hid ((rowV_cells (size := 1) (HIDIEAX.out.frm hf12 (fun hm => HIA.out _ (Option.mem_toList.1 hm) rfl)) rfl (Nat.le_refl _) (by decide) (by have h1 := HIL.out; have h2 := HB0.out; have h3 := HSD.out.o1; have h4 := HSD.out.o2; have h5 := HSD.out.bx.lt; simp; omega)))
          have HOW := Lib.hid own12
          clear hob hf12 own12
          refine hK.out _ _ ?_ (fun hHeld => ?_)
          · exact KEEP.out _ _ (HSD.out.next HTDIEAXZ.out HFDIEAXZ.out)
          clear hK K
          try simp only [Act.put, List.getElem_toArray, List.getElem_cons_succ, List.getElem_cons_zero, List.setIfInBounds_toArray, List.set_cons_zero, List.set_cons_succ]
          refine wpAnyH_take (i := 14) (v := ?_) rfl (by kernel_rfl) (by kernel_rfl) (by kernel_rfl) (fun _ _ _ h => h) (Or.inl ⟨by rfl, ?_⟩) (by assumption) ?_
          rotate_left
          · intro w9 hS9
            try dsimp only at hS9
            go_split_ands
            go_simp
            try with_reducible rfl
          try simp only [Act.put, List.getElem_toArray, List.getElem_cons_succ, List.getElem_cons_zero, List.setIfInBounds_toArray, List.set_cons_zero, List.set_cons_succ]
          refine wpAnyH_take (i := 15) (v := ?_) rfl (by kernel_rfl) (by kernel_rfl) (by kernel_rfl) (fun _ _ _ h => h) (Or.inl ⟨by rfl, ?_⟩) (by assumption) ?_
          rotate_left
          · intro w9 hS9
            try dsimp only at hS9
            go_split_ands
            go_simp
            try with_reducible rfl
          try simp only [Act.put, List.getElem_toArray, List.getElem_cons_succ, List.getElem_cons_zero, List.setIfInBounds_toArray, List.set_cons_zero, List.set_cons_succ]
          refine wpAnyH_done (by kernel_rfl) ?_ _
          refine Qt.last rfl rfl ?_
          simp only [List.getElem_toArray, List.getElem_cons_succ, List.getElem_cons_zero]
          have hS9 := HSD.out.next HTDIEAXZ.out HFDIEAXZ.out
          have b9 := hS9.row.cell (i := s) (v := .slice ra l0.length rc) (by rw [List.getElem?_map, HV0.out]; rfl)
          have z9 := hS9.row.frozen s
          have hFN := SP.put (s := s) (v := .slice a12 (l0.length + 1) c12) (p := (.slice (some ⟨x10, 0, none⟩) 2 2, ⟨4, 0, 0, 0, [0, 0], 0⟩)) hS9 (Frm.refl [] wDIEAXZ) (by simpa using HOW.out) HB0.out (fun x hx => RowV.step (HNT0.out x hx) HFDIEAXZ.out (fun k hk => .inl (by simp at hk; simp [hk])) (fun k hk => .inl hk)) HNP.out
          go_simp
          generalize wDIEAXZ.setCell ⟨g, s, none⟩ (.slice a12 (l0.length + 1) c12) = w13 at *
          obtain ⟨m2, hm2⟩ : ∃ m2 : RM, m2 = { m1 with states := m1.states.set s ((l0 ++ [((.slice (some ⟨x10, 0, none⟩) 2 2 : Value), (⟨4, 0, 0, 0, [0, 0], 0⟩ : RA))]).map (·.2)) } := ⟨_, rfl⟩
          rw [← hm2] at hFN
          clear b9 z9 hS9 hm2 hHeld
          have k0 := hFN.bx.row.cell (i := 0) rfl
          have k1 := hFN.bx.row.cell (i := 1) rfl
          have k2 := hFN.bx.row.cell (i := 2) rfl
          have k3 := hFN.bx.row.cell (i := 3) rfl
          have kz0 := hFN.bx.row.frozen 0
          have kz1 := hFN.bx.row.frozen 1
          have kz2 := hFN.bx.row.frozen 2
          have kz3 := hFN.bx.row.frozen 3
          have r0 := hFN.res.cell (i := 0) rfl
          have r1 := hFN.res.cell (i := 1) rfl
          have r2 := hFN.res.cell (i := 2) rfl
          have r3 := hFN.res.cell (i := 3) rfl
          have y0 := hFN.res.frozen 0
          have y1 := hFN.res.frozen 1
          have y2 := hFN.res.frozen 2
          have y3 := hFN.res.frozen 3
          have nn1 : w.heap.size + 1 < q := by exact hFN.lt
          have nn2 : ¬ q = w.heap.size + 1 := by omega
          have nn3 : ¬ w.heap.size + 1 = q := by omega
          go_wp2_with fail
          have ho := (((hFN.res.setCell 0 (.int .i64 m2.regs)).setCell 1 (.int .i64 m2.data)).setCell 2 (.int .i64 m2.plain)).setCell 3 (.slice (some ⟨g, 0, none⟩) m1.states.length c)
          have hF9 : Frm [w.heap.size + 1] (w13) ((((((((w13).setCell ⟨w.heap.size + 1, 0, none⟩ (.int .i64 m2.regs))).setCell ⟨w.heap.size + 1, 1, none⟩ (.int .i64 m2.data))).setCell ⟨w.heap.size + 1, 2, none⟩ (.int .i64 m2.plain))).setCell ⟨w.heap.size + 1, 3, none⟩ (.slice (some ⟨g, 0, none⟩) m1.states.length c)) := ((((Frm.refl _ (w13)).setCell (.inl (by simp)) _).setCell (.inl (by simp)) _).setCell (.inl (by simp)) _).setCell (.inl (by simp)) _
          have hfin := hFN.fin (N := N) (by omega) hF9
          generalize ((((((((w13).setCell ⟨w.heap.size + 1, 0, none⟩ (.int .i64 m2.regs))).setCell ⟨w.heap.size + 1, 1, none⟩ (.int .i64 m2.data))).setCell ⟨w.heap.size + 1, 2, none⟩ (.int .i64 m2.plain))).setCell ⟨w.heap.size + 1, 3, none⟩ (.slice (some ⟨g, 0, none⟩) m1.states.length c)) = W9 at *
          have e0 := ho.cell (i := 0) rfl
          have e1 := ho.cell (i := 1) rfl
          have e2 := ho.cell (i := 2) rfl
          have e3 := ho.cell (i := 3) rfl
          unfold machV at hfin
          exact bodyPost_ret (v := .agg #[(.int .i64 m2.regs), (.int .i64 m2.data), (.int .i64 m2.plain), (.slice (some ⟨g, 0, none⟩) m1.states.length c)]) (by simp [results, Try.results16, go_sem, e0, e1, e2, e3]) rfl hfin
        · skip
          go_simp
          have fs : Frm [] wDIE (wDIE.alloc (.cells #[.int .i64 4, .int .i64 0, .int .i64 0, .int .i64 0, .slice (some ⟨x10, 0, none⟩) 2 2, .int .i64 0] 24)) := (Frm.refl [] wDIE).alloc _
          have hn := RowAt.made wDIE 24 (arcC (.slice (some ⟨x10, 0, none⟩) 2 2, ⟨4, 0, 0, 0, [0, 0], 0⟩)) #[.int .i64 4, .int .i64 0, .int .i64 0, .int .i64 0, .slice (some ⟨x10, 0, none⟩) 2 2, .int .i64 0] rfl
          have HFDIEX := Lib.hid (HFDIE.out.trans fs (by simp))
          have HTDIEX := Lib.hid (HTDIE.out.nil fs)
          have HEDIEX := Lib.hid (ownsB_frm HEDIE.out fs (by simp))
          have HIDIEX := Lib.hid (HIDIE.out.frm fs (by simp))
          have hxe : e3 < wDIE.heap.size := (HEDIE.out.lt e3 rfl).2
          have hxl : b0 ≤ wDIE.heap.size := (HBW.out _ HFDIE.out)
          refine hK.out _ _ ?_ (fun hHeld => ?_)
          · exact KEEP.out _ _ (HSD.out.next HTDIEX.out HFDIEX.out)
          clear hK K
          try simp only [Act.put, List.getElem_toArray, List.getElem_cons_succ, List.getElem_cons_zero, List.setIfInBounds_toArray, List.set_cons_zero, List.set_cons_succ]
          clear fs
          generalize (wDIE.alloc (.cells #[.int .i64 4, .int .i64 0, .int .i64 0, .int .i64 0, .slice (some ⟨x10, 0, none⟩) 2 2, .int .i64 0] 24)) = wDIEX at *
          generalize wDIE.heap.size = x11 at *
          have HXDIEX := Lib.hid hn
          have HXL := Lib.hid hxl
          have HXE := Lib.hid (show x11 ≠ e3 by omega)
          clear hn
          refine wpAnyH_ready (rs := [9]) (by kernel_rfl) (by simp) ?_
          refine AllReadyH.cons rfl (fun K hK => ?_) AllReadyH.nil
          have hrvk : RowV wDIEX [q, g, tb, w.heap.size + 1] (.slice ra l0.length rc) l0.length 6 (rowC l0) := RowV.step HRV0.out HFDIEX.out (fun k hk => .inl (by simp at hk; simp [hk])) (fun k hk => .inl hk)
          refine step_app_rowL rfl (.tmp 95) (.tmp 100) 25 24 _ 6 64 rfl Try.underlying25 infoArc rfl (by decide) (by decide) b0 0 (.slice (some ⟨e3, 0, none⟩) 0 0) [] (by rfl) HEDIEX.out (.slice ra l0.length rc) l0.length (rowC l0) [q, g, tb, w.heap.size + 1] (by rfl) hrvk ONEC.out l0.length (Nat.zero_add _) (by have := HL4.out; omega) (HBW.out _ HFDIEX.out) ?_
          intro a9 c9 wDIEXA own9 hf9 hl9
          have he3 := (HEDIEX.out.lt e3 rfl).1
          have HTL : Hid (tb < b0 ∧ b0 ≤ e3) := Lib.hid ⟨by have h1 := HSD.out.bx.lt; have h2 := HSD.out.o1; have h3 := HSD.out.o2; have h4 := HB0.out; omega, he3⟩
          have HFDIEXA := Lib.hid (HTR.out _ _ _ HFDIEX.out hf9 (fun x hx => by simp [Value.ownBlock] at hx; omega))
          have HTDIEXA := Lib.hid (HTDIEX.out.frm hf9 (by have h1 := HTL.out; simp [Value.ownBlock]; omega) (by have h1 := HTL.out; simp [Value.ownBlock]; omega))
          have HADIEXA := Lib.hid own9
          have HIDIEXA := Lib.hid (HIDIEX.out.frm hf9 (by have h8 := HIL.out; have h9 := HTL.out; have h7 := HIE.out; simp [Value.ownBlock]; omega))
          have HXDIEXA := Lib.hid (HXDIEX.out.frm hf9 (by have h8 := HXL.out; have h9 := HTL.out; have h7 := HXE.out; simp [Value.ownBlock]; omega))
          have HIA : Hid (∀ k, (Value.slice a9 l0.length c9).ownBlock = some k → k ≠ x10) := Lib.hid (fun k hk => by have h1 := hl9 k hk; have h2 := HIE.out; have h3 := HIDIEX.out.lt; simp [Value.ownBlock] at h1; omega)
          refine hK.out _ _ ?_ (fun hHeld => ?_)
          · exact KEEP.out _ _ (HSD.out.next HTDIEXA.out HFDIEXA.out)
          clear hK K
          try simp only [Act.put, List.getElem_toArray, List.getElem_cons_succ, List.getElem_cons_zero, List.setIfInBounds_toArray, List.set_cons_zero, List.set_cons_succ]
          clear own9 hf9 hl9 he3 hrvk
          refine wpAnyH_ready (rs := [13]) (by kernel_rfl) (by simp) ?_
          refine AllReadyH.cons rfl (fun K hK => ?_) AllReadyH.nil
          refine step_app_row rfl (.tmp 101) (.tmp 104) 25 24 _ 6 64 rfl Try.underlying25 infoArc rfl (by decide) (by decide) b0 l0.length (.slice a9 l0.length c9) ([] ++ rowC l0) (by rfl) HADIEXA.out (.slice (some ⟨x11, 0, none⟩) 1 1) 1 (arcC (.slice (some ⟨x10, 0, none⟩) 2 2, ⟨4, 0, 0, 0, [0, 0], 0⟩)) [] (by rfl) (rowV_cells (size := 6) HXDIEXA.out rfl (Nat.le_refl _) (by decide) (by simp)) (by simp [arcC, Value.oneCell']) (l0.length + 1) rfl (by have := HL4.out; omega) (HBW.out _ HFDIEXA.out) ?_
          intro a12 c12 wDIEXAZ own12 hf12
          have hob : ∀ x ∈ (Value.slice a9 l0.length c9).ownBlock.toList, b0 ≤ x := fun x hx => (HADIEXA.out.lt x (Option.mem_toList.1 hx)).1
          have HFDIEXAZ := Lib.hid (HTR.out _ _ _ HFDIEXA.out hf12 hob)
          have HTDIEXAZ := Lib.hid (HTDIEXA.out.frm hf12 (fun k hk => by have h1 := hob k hk; have h2 := HTL.out; omega) (fun hm => by have h1 := hob _ hm; have h2 := HTL.out; omega))
          have HNP : Hid (NotAt wDIEXAZ [g, tb, w.heap.size + 1] (.slice (some ⟨x10, 0, none⟩) 2 2) ⟨4, 0, 0, 0, [0, 0], 0⟩) := Lib.hid ((rowV_cells (size := 1) (HIDIEXA.out.frm hf12 (fun hm => HIA.out _ (Option.mem_toList.1 hm) rfl)) rfl (Nat.le_refl _) (by decide) (by have h1 := HIL.out; have h2 := HB0.out; have h3 := HSD.out.o1; have h4 := HSD.out.o2; have h5 := HSD.out.bx.lt; simp; omega)))
          have HOW := Lib.hid own12
          clear hob hf12 own12
          refine hK.out _ _ ?_ (fun hHeld => ?_)
          · exact KEEP.out _ _ (HSD.out.next HTDIEXAZ.out HFDIEXAZ.out)
          clear hK K
          try simp only [Act.put, List.getElem_toArray, List.getElem_cons_succ, List.getElem_cons_zero, List.setIfInBounds_toArray, List.set_cons_zero, List.set_cons_succ]
          refine wpAnyH_take (i := 14) (v := ?_) rfl (by kernel_rfl) (by kernel_rfl) (by kernel_rfl) (fun _ _ _ h => h) (Or.inl ⟨by rfl, ?_⟩) (by assumption) ?_
          rotate_left
          · intro w9 hS9
            try dsimp only at hS9
            go_split_ands
            go_simp
            try with_reducible rfl
          try simp only [Act.put, List.getElem_toArray, List.getElem_cons_succ, List.getElem_cons_zero, List.setIfInBounds_toArray, List.set_cons_zero, List.set_cons_succ]
          refine wpAnyH_take (i := 15) (v := ?_) rfl (by kernel_rfl) (by kernel_rfl) (by kernel_rfl) (fun _ _ _ h => h) (Or.inl ⟨by rfl, ?_⟩) (by assumption) ?_
          rotate_left
          · intro w9 hS9
            try dsimp only at hS9
            go_split_ands
            go_simp
            try with_reducible rfl
          try simp only [Act.put, List.getElem_toArray, List.getElem_cons_succ, List.getElem_cons_zero, List.setIfInBounds_toArray, List.set_cons_zero, List.set_cons_succ]
          refine wpAnyH_done (by kernel_rfl) ?_ _
          refine Qt.last rfl rfl ?_
          simp only [List.getElem_toArray, List.getElem_cons_succ, List.getElem_cons_zero]
          have hS9 := HSD.out.next HTDIEXAZ.out HFDIEXAZ.out
          have b9 := hS9.row.cell (i := s) (v := .slice ra l0.length rc) (by rw [List.getElem?_map, HV0.out]; rfl)
          have z9 := hS9.row.frozen s
          have hFN := SP.put (s := s) (v := .slice a12 (l0.length + 1) c12) (p := (.slice (some ⟨x10, 0, none⟩) 2 2, ⟨4, 0, 0, 0, [0, 0], 0⟩)) hS9 (Frm.refl [] wDIEXAZ) (by simpa using HOW.out) HB0.out (fun x hx => RowV.step (HNT0.out x hx) HFDIEXAZ.out (fun k hk => .inl (by simp at hk; simp [hk])) (fun k hk => .inl hk)) HNP.out
          go_simp
          generalize wDIEXAZ.setCell ⟨g, s, none⟩ (.slice a12 (l0.length + 1) c12) = w13 at *
          obtain ⟨m2, hm2⟩ : ∃ m2 : RM, m2 = { m1 with states := m1.states.set s ((l0 ++ [((.slice (some ⟨x10, 0, none⟩) 2 2 : Value), (⟨4, 0, 0, 0, [0, 0], 0⟩ : RA))]).map (·.2)) } := ⟨_, rfl⟩
          rw [← hm2] at hFN
          clear b9 z9 hS9 hm2 hHeld
          have k0 := hFN.bx.row.cell (i := 0) rfl
          have k1 := hFN.bx.row.cell (i := 1) rfl
          have k2 := hFN.bx.row.cell (i := 2) rfl
          have k3 := hFN.bx.row.cell (i := 3) rfl
          have kz0 := hFN.bx.row.frozen 0
          have kz1 := hFN.bx.row.frozen 1
          have kz2 := hFN.bx.row.frozen 2
          have kz3 := hFN.bx.row.frozen 3
          have r0 := hFN.res.cell (i := 0) rfl
          have r1 := hFN.res.cell (i := 1) rfl
          have r2 := hFN.res.cell (i := 2) rfl
          have r3 := hFN.res.cell (i := 3) rfl
          have y0 := hFN.res.frozen 0
          have y1 := hFN.res.frozen 1
          have y2 := hFN.res.frozen 2
          have y3 := hFN.res.frozen 3
          have nn1 : w.heap.size + 1 < q := by exact hFN.lt
          have nn2 : ¬ q = w.heap.size + 1 := by omega
          have nn3 : ¬ w.heap.size + 1 = q := by omega
          go_wp2_with fail
          have ho := (((hFN.res.setCell 0 (.int .i64 m2.regs)).setCell 1 (.int .i64 m2.data)).setCell 2 (.int .i64 m2.plain)).setCell 3 (.slice (some ⟨g, 0, none⟩) m1.states.length c)
          have hF9 : Frm [w.heap.size + 1] (w13) ((((((((w13).setCell ⟨w.heap.size + 1, 0, none⟩ (.int .i64 m2.regs))).setCell ⟨w.heap.size + 1, 1, none⟩ (.int .i64 m2.data))).setCell ⟨w.heap.size + 1, 2, none⟩ (.int .i64 m2.plain))).setCell ⟨w.heap.size + 1, 3, none⟩ (.slice (some ⟨g, 0, none⟩) m1.states.length c)) := ((((Frm.refl _ (w13)).setCell (.inl (by simp)) _).setCell (.inl (by simp)) _).setCell (.inl (by simp)) _).setCell (.inl (by simp)) _
          have hfin := hFN.fin (N := N) (by omega) hF9
          generalize ((((((((w13).setCell ⟨w.heap.size + 1, 0, none⟩ (.int .i64 m2.regs))).setCell ⟨w.heap.size + 1, 1, none⟩ (.int .i64 m2.data))).setCell ⟨w.heap.size + 1, 2, none⟩ (.int .i64 m2.plain))).setCell ⟨w.heap.size + 1, 3, none⟩ (.slice (some ⟨g, 0, none⟩) m1.states.length c)) = W9 at *
          have e0 := ho.cell (i := 0) rfl
          have e1 := ho.cell (i := 1) rfl
          have e2 := ho.cell (i := 2) rfl
          have e3 := ho.cell (i := 3) rfl
          unfold machV at hfin
          exact bodyPost_ret (v := .agg #[(.int .i64 m2.regs), (.int .i64 m2.data), (.int .i64 m2.plain), (.slice (some ⟨g, 0, none⟩) m1.states.length c)]) (by simp [results, Try.results16, go_sem, e0, e1, e2, e3]) rfl hfin
      · skip
        go_simp
        have fs : Frm [] wDI (wDI.alloc (.cells #[.int .i64 4, .int .i64 0, .int .i64 0, .int .i64 0, .slice (some ⟨x10, 0, none⟩) 2 2, .int .i64 0] 24)) := (Frm.refl [] wDI).alloc _
        have hn := RowAt.made wDI 24 (arcC (.slice (some ⟨x10, 0, none⟩) 2 2, ⟨4, 0, 0, 0, [0, 0], 0⟩)) #[.int .i64 4, .int .i64 0, .int .i64 0, .int .i64 0, .slice (some ⟨x10, 0, none⟩) 2 2, .int .i64 0] rfl
        have HFDIX := Lib.hid (HFDI.out.trans fs (by simp))
        have HTDIX := Lib.hid (HTDI.out.nil fs)
        have HIDIX := Lib.hid (HIDI.out.frm fs (by simp))
        have hxl : b0 ≤ wDI.heap.size := (HBW.out _ HFDI.out)
        refine hK.out _ _ ?_ (fun hHeld => ?_)
        · exact KEEP.out _ _ (HSD.out.next HTDIX.out HFDIX.out)
        clear hK K
        try simp only [Act.put, List.getElem_toArray, List.getElem_cons_succ, List.getElem_cons_zero, List.setIfInBounds_toArray, List.set_cons_zero, List.set_cons_succ]
        clear fs
        generalize (wDI.alloc (.cells #[.int .i64 4, .int .i64 0, .int .i64 0, .int .i64 0, .slice (some ⟨x10, 0, none⟩) 2 2, .int .i64 0] 24)) = wDIX at *
        generalize wDI.heap.size = x11 at *
        have HXDIX := Lib.hid hn
        have HXL := Lib.hid hxl
        clear hn
        refine wpAnyH_ready (rs := [3]) (by kernel_rfl) (by simp) ?_
        refine AllReadyH.cons rfl (fun K hK => ?_) AllReadyH.nil
        go_simp
        have fs : Frm [] wDIX (wDIX.alloc (.cells #[] 24)) := (Frm.refl [] wDIX).alloc _
        have hn := owns_made0 wDIX 24 6
        have hn := ownsB_mono hn (HBW.out _ HFDIX.out)
        have HFDIXE := Lib.hid (HFDIX.out.trans fs (by simp))
        have HTDIXE := Lib.hid (HTDIX.out.nil fs)
        have HIDIXE := Lib.hid (HIDIX.out.frm fs (by simp))
        have HXDIXE := Lib.hid (HXDIX.out.frm fs (by simp))
        have hie : x10 < wDIX.heap.size := HIDIX.out.lt
        have hxe : x11 < wDIX.heap.size := HXDIX.out.lt
        refine hK.out _ _ ?_ (fun hHeld => ?_)
        · exact KEEP.out _ _ (HSD.out.next HTDIXE.out HFDIXE.out)
        clear hK K
        try simp only [Act.put, List.getElem_toArray, List.getElem_cons_succ, List.getElem_cons_zero, List.setIfInBounds_toArray, List.set_cons_zero, List.set_cons_succ]
        clear fs
        generalize (wDIX.alloc (.cells #[] 24)) = wDIXE at *
        generalize wDIX.heap.size = e3 at *
        have HEDIXE := Lib.hid hn
        have HIE := Lib.hid (show x10 ≠ e3 by omega)
        have HXE := Lib.hid (show x11 ≠ e3 by omega)
        clear hn
        refine wpAnyH_ready (rs := [9]) (by kernel_rfl) (by simp) ?_
        refine AllReadyH.cons rfl (fun K hK => ?_) AllReadyH.nil
        have hrvk : RowV wDIXE [q, g, tb, w.heap.size + 1] (.slice ra l0.length rc) l0.length 6 (rowC l0) := RowV.step HRV0.out HFDIXE.out (fun k hk => .inl (by simp at hk; simp [hk])) (fun k hk => .inl hk)
        refine step_app_rowL rfl (.tmp 95) (.tmp 100) 25 24 _ 6 64 rfl Try.underlying25 infoArc rfl (by decide) (by decide) b0 0 (.slice (some ⟨e3, 0, none⟩) 0 0) [] (by rfl) HEDIXE.out (.slice ra l0.length rc) l0.length (rowC l0) [q, g, tb, w.heap.size + 1] (by rfl) hrvk ONEC.out l0.length (Nat.zero_add _) (by have := HL4.out; omega) (HBW.out _ HFDIXE.out) ?_
        intro a9 c9 wDIXEA own9 hf9 hl9
        have he3 := (HEDIXE.out.lt e3 rfl).1
        have HTL : Hid (tb < b0 ∧ b0 ≤ e3) := Lib.hid ⟨by have h1 := HSD.out.bx.lt; have h2 := HSD.out.o1; have h3 := HSD.out.o2; have h4 := HB0.out; omega, he3⟩
        have HFDIXEA := Lib.hid (HTR.out _ _ _ HFDIXE.out hf9 (fun x hx => by simp [Value.ownBlock] at hx; omega))
        have HTDIXEA := Lib.hid (HTDIXE.out.frm hf9 (by have h1 := HTL.out; simp [Value.ownBlock]; omega) (by have h1 := HTL.out; simp [Value.ownBlock]; omega))
        have HADIXEA := Lib.hid own9
        have HIDIXEA := Lib.hid (HIDIXE.out.frm hf9 (by have h8 := HIL.out; have h9 := HTL.out; have h7 := HIE.out; simp [Value.ownBlock]; omega))
        have HXDIXEA := Lib.hid (HXDIXE.out.frm hf9 (by have h8 := HXL.out; have h9 := HTL.out; have h7 := HXE.out; simp [Value.ownBlock]; omega))
        have HIA : Hid (∀ k, (Value.slice a9 l0.length c9).ownBlock = some k → k ≠ x10) := Lib.hid (fun k hk => by have h1 := hl9 k hk; have h2 := HIE.out; have h3 := HIDIXE.out.lt; simp [Value.ownBlock] at h1; omega)
        refine hK.out _ _ ?_ (fun hHeld => ?_)
        · exact KEEP.out _ _ (HSD.out.next HTDIXEA.out HFDIXEA.out)
        clear hK K
        try simp only [Act.put, List.getElem_toArray, List.getElem_cons_succ, List.getElem_cons_zero, List.setIfInBounds_toArray, List.set_cons_zero, List.set_cons_succ]
        clear own9 hf9 hl9 he3 hrvk
        refine wpAnyH_ready (rs := [13]) (by kernel_rfl) (by simp) ?_
        refine AllReadyH.cons rfl (fun K hK => ?_) AllReadyH.nil
        refine step_app_row rfl (.tmp 101) (.tmp 104) 25 24 _ 6 64 rfl Try.underlying25 infoArc rfl (by decide) (by decide) b0 l0.length (.slice a9 l0.length c9) ([] ++ rowC l0) (by rfl) HADIXEA.out (.slice (some ⟨x11, 0, none⟩) 1 1) 1 (arcC (.slice (some ⟨x10, 0, none⟩) 2 2, ⟨4, 0, 0, 0, [0, 0], 0⟩)) [] (by rfl) (rowV_cells (size := 6) HXDIXEA.out rfl (Nat.le_refl _) (by decide) (by simp)) (by simp [arcC, Value.oneCell']) (l0.length + 1) rfl (by have := HL4.out; omega) (HBW.out _ HFDIXEA.out) ?_
        intro a12 c12 wDIXEAZ own12 hf12
        have hob : ∀ x ∈ (Value.slice a9 l0.length c9).ownBlock.toList, b0 ≤ x := fun x hx => (HADIXEA.out.lt x (Option.mem_toList.1 hx)).1
        have HFDIXEAZ := Lib.hid (HTR.out _ _ _ HFDIXEA.out hf12 hob)
        have HTDIXEAZ := Lib.hid (HTDIXEA.out.frm hf12 (fun k hk => by have h1 := hob k hk; have h2 := HTL.out; omega) (fun hm => by have h1 := hob _ hm; have h2 := HTL.out; omega))
        have HNP : Hid (NotAt wDIXEAZ [g, tb, w.heap.size + 1] (.slice (some ⟨x10, 0, none⟩) 2 2) ⟨4, 0, 0, 0, [0, 0], 0⟩) := Lib.hid ((rowV_cells (size := 1) (HIDIXEA.out.frm hf12 (fun hm => HIA.out _ (Option.mem_toList.1 hm) rfl)) rfl (Nat.le_refl _) (by decide) (by have h1 := HIL.out; have h2 := HB0.out; have h3 := HSD.out.o1; have h4 := HSD.out.o2; have h5 := HSD.out.bx.lt; simp; omega)))
        have HOW := Lib.hid own12
        clear hob hf12 own12
        refine hK.out _ _ ?_ (fun hHeld => ?_)
        · exact KEEP.out _ _ (HSD.out.next HTDIXEAZ.out HFDIXEAZ.out)
        clear hK K
        try simp only [Act.put, List.getElem_toArray, List.getElem_cons_succ, List.getElem_cons_zero, List.setIfInBounds_toArray, List.set_cons_zero, List.set_cons_succ]
        refine wpAnyH_take (i := 14) (v := ?_) rfl (by kernel_rfl) (by kernel_rfl) (by kernel_rfl) (fun _ _ _ h => h) (Or.inl ⟨by rfl, ?_⟩) (by assumption) ?_
        rotate_left
        · intro w9 hS9
          try dsimp only at hS9
          go_split_ands
          go_simp
          try with_reducible rfl
        try simp only [Act.put, List.getElem_toArray, List.getElem_cons_succ, List.getElem_cons_zero, List.setIfInBounds_toArray, List.set_cons_zero, List.set_cons_succ]
        refine wpAnyH_take (i := 15) (v := ?_) rfl (by kernel_rfl) (by kernel_rfl) (by kernel_rfl) (fun _ _ _ h => h) (Or.inl ⟨by rfl, ?_⟩) (by assumption) ?_
        rotate_left
        · intro w9 hS9
          try dsimp only at hS9
          go_split_ands
          go_simp
          try with_reducible rfl
        try simp only [Act.put, List.getElem_toArray, List.getElem_cons_succ, List.getElem_cons_zero, List.setIfInBounds_toArray, List.set_cons_zero, List.set_cons_succ]
        refine wpAnyH_done (by kernel_rfl) ?_ _
        refine Qt.last rfl rfl ?_
        simp only [List.getElem_toArray, List.getElem_cons_succ, List.getElem_cons_zero]
        have hS9 := HSD.out.next HTDIXEAZ.out HFDIXEAZ.out
        have b9 := hS9.row.cell (i := s) (v := .slice ra l0.length rc) (by rw [List.getElem?_map, HV0.out]; rfl)
        have z9 := hS9.row.frozen s
        have hFN := SP.put (s := s) (v := .slice a12 (l0.length + 1) c12) (p := (.slice (some ⟨x10, 0, none⟩) 2 2, ⟨4, 0, 0, 0, [0, 0], 0⟩)) hS9 (Frm.refl [] wDIXEAZ) (by simpa using HOW.out) HB0.out (fun x hx => RowV.step (HNT0.out x hx) HFDIXEAZ.out (fun k hk => .inl (by simp at hk; simp [hk])) (fun k hk => .inl hk)) HNP.out
        go_simp
        generalize wDIXEAZ.setCell ⟨g, s, none⟩ (.slice a12 (l0.length + 1) c12) = w13 at *
        obtain ⟨m2, hm2⟩ : ∃ m2 : RM, m2 = { m1 with states := m1.states.set s ((l0 ++ [((.slice (some ⟨x10, 0, none⟩) 2 2 : Value), (⟨4, 0, 0, 0, [0, 0], 0⟩ : RA))]).map (·.2)) } := ⟨_, rfl⟩
        rw [← hm2] at hFN
        clear b9 z9 hS9 hm2 hHeld
        have k0 := hFN.bx.row.cell (i := 0) rfl
        have k1 := hFN.bx.row.cell (i := 1) rfl
        have k2 := hFN.bx.row.cell (i := 2) rfl
        have k3 := hFN.bx.row.cell (i := 3) rfl
        have kz0 := hFN.bx.row.frozen 0
        have kz1 := hFN.bx.row.frozen 1
        have kz2 := hFN.bx.row.frozen 2
        have kz3 := hFN.bx.row.frozen 3
        have r0 := hFN.res.cell (i := 0) rfl
        have r1 := hFN.res.cell (i := 1) rfl
        have r2 := hFN.res.cell (i := 2) rfl
        have r3 := hFN.res.cell (i := 3) rfl
        have y0 := hFN.res.frozen 0
        have y1 := hFN.res.frozen 1
        have y2 := hFN.res.frozen 2
        have y3 := hFN.res.frozen 3
        have nn1 : w.heap.size + 1 < q := by exact hFN.lt
        have nn2 : ¬ q = w.heap.size + 1 := by omega
        have nn3 : ¬ w.heap.size + 1 = q := by omega
        go_wp2_with fail
        have ho := (((hFN.res.setCell 0 (.int .i64 m2.regs)).setCell 1 (.int .i64 m2.data)).setCell 2 (.int .i64 m2.plain)).setCell 3 (.slice (some ⟨g, 0, none⟩) m1.states.length c)
        have hF9 : Frm [w.heap.size + 1] (w13) ((((((((w13).setCell ⟨w.heap.size + 1, 0, none⟩ (.int .i64 m2.regs))).setCell ⟨w.heap.size + 1, 1, none⟩ (.int .i64 m2.data))).setCell ⟨w.heap.size + 1, 2, none⟩ (.int .i64 m2.plain))).setCell ⟨w.heap.size + 1, 3, none⟩ (.slice (some ⟨g, 0, none⟩) m1.states.length c)) := ((((Frm.refl _ (w13)).setCell (.inl (by simp)) _).setCell (.inl (by simp)) _).setCell (.inl (by simp)) _).setCell (.inl (by simp)) _
        have hfin := hFN.fin (N := N) (by omega) hF9
        generalize ((((((((w13).setCell ⟨w.heap.size + 1, 0, none⟩ (.int .i64 m2.regs))).setCell ⟨w.heap.size + 1, 1, none⟩ (.int .i64 m2.data))).setCell ⟨w.heap.size + 1, 2, none⟩ (.int .i64 m2.plain))).setCell ⟨w.heap.size + 1, 3, none⟩ (.slice (some ⟨g, 0, none⟩) m1.states.length c)) = W9 at *
        have e0 := ho.cell (i := 0) rfl
        have e1 := ho.cell (i := 1) rfl
        have e2 := ho.cell (i := 2) rfl
        have e3 := ho.cell (i := 3) rfl
        unfold machV at hfin
        exact bodyPost_ret (v := .agg #[(.int .i64 m2.regs), (.int .i64 m2.data), (.int .i64 m2.plain), (.slice (some ⟨g, 0, none⟩) m1.states.length c)]) (by simp [results, Try.results16, go_sem, e0, e1, e2, e3]) rfl hfin
  · skip
    go_wp2_with fail
    obtain ⟨⟨v0, row0⟩, hv0⟩ : ∃ p, vs[s]? = some p := ⟨_, List.getElem?_eq_getElem (by have h9 := congrArg List.length hS4.vl; rw [List.length_map] at h9; omega)⟩
    obtain ⟨l0, hl0, hrv0, hnt0⟩ := hS4.rows _ (List.mem_of_getElem? hv0)
    have hrow0 : m1.states[s]? = some row0 := by rw [← hS4.vl, List.getElem?_map, hv0]; rfl
    have hl4 : row0.length ≤ 4 := HSH.out row0 (List.mem_of_getElem? hrow0)
    simp only at hl0 hrv0
    subst hl0
    rw [List.length_map] at hrv0 hl4
    obtain ⟨ra, rc, rfl⟩ := RowV.shape hrv0
    have HV0 := Lib.hid hv0
    have HL4 := Lib.hid hl4
    have hD : Frm [] w4 w4.drew := (Frm.refl [] w4).drew
    have HSD := Lib.hid (hS4.nil hD)
    have HRV0 := Lib.hid (RowV.nil hrv0 hD)
    have HNT0 := Lib.hid (fun (x : Value × RA) (hx : x ∈ l0) => RowV.nil (hnt0 x hx) hD)
    have ONEC := Lib.hid (rowC_one hrv0 hnt0)
    have KEEP : Hid (∀ (M : Nat) (w' : World), SP B tb M w w' m1 q g c vs → w'.cell? ⟨q, 3, none⟩ = some (.slice (some ⟨g, 0, none⟩) m1.states.length c) ∧ w'.cell? ⟨g, s, none⟩ = some (.slice ra l0.length rc)) := Lib.hid fun M w' hS => ⟨hS.bx.row.cell (i := 3) rfl, hS.row.cell (i := s) (by rw [List.getElem?_map, HV0.out]; rfl)⟩
    clear hv0 hrow0 hl4 hrv0 hnt0 hD hS4
    refine' wp_region_last (L := 17) _ (fun w' => w'.cell? ⟨q, 3, none⟩ = some (.slice (some ⟨g, 0, none⟩) m1.states.length c) ∧ w'.cell? ⟨g, s, none⟩ = some (.slice ra l0.length rc)) (by kernel_rfl) rfl rfl rfl rfl ?he (by kernel_rfl) (by kernel_rfl) ?hS ?h
    case he =>
      simp only [nopOf, List.getElem_toArray, List.getElem_cons_succ, List.getElem_cons_zero, List.setIfInBounds_toArray, List.set_cons_succ, List.set_cons_zero]
      rfl
    case hS => exact KEEP.out _ _ HSD.out
    intro hHeld
    have HFD : Hid (Frm [tb] w4.drew w4.drew) := Lib.hid (Frm.refl _ _)
    have HTD := Lib.hid HSD.out.bx.tape
    obtain ⟨b0, hb0⟩ : ∃ b0, b0 = w4.drew.heap.size := ⟨_, rfl⟩
    have HB0 : Hid (q < b0) := Lib.hid (by rw [hb0]; exact HSD.out.bx.row.lt)
    have HBW : Hid (∀ W, Frm [tb] w4.drew W → b0 ≤ W.heap.size) := Lib.hid (fun W hf => by rw [hb0]; exact hf.size)
    have HTR : Hid (∀ (fp : List Nat) (A C : World), Frm [tb] w4.drew A → Frm fp A C → (∀ x ∈ fp, b0 ≤ x) → Frm [tb] w4.drew C) := Lib.hid (fun fp A C h1 h2 h3 => h1.trans h2 (fun x hx => .inr (by rw [← hb0]; exact h3 x hx)))
    clear hb0
    generalize w4.drew = wd at *
    refine wpAnyH_take (i := 0) (v := ?_) rfl (by kernel_rfl) (by kernel_rfl) (by kernel_rfl) (fun _ _ _ h => h) (Or.inl ⟨by rfl, ?_⟩) (by assumption) ?_
    rotate_left
    · intro w9 hS9
      try dsimp only at hS9
      go_split_ands
      go_simp
      try with_reducible rfl
    try simp only [Act.put, List.getElem_toArray, List.getElem_cons_succ, List.getElem_cons_zero, List.setIfInBounds_toArray, List.set_cons_zero, List.set_cons_succ]
    refine wpAnyH_take (i := 1) (v := ?_) rfl (by kernel_rfl) (by kernel_rfl) (by kernel_rfl) (fun _ _ _ h => h) (Or.inl ⟨by rfl, ?_⟩) (by assumption) ?_
    rotate_left
    · intro w9 hS9
      try dsimp only at hS9
      go_split_ands
      go_simp
      try with_reducible rfl
    try simp only [Act.put, List.getElem_toArray, List.getElem_cons_succ, List.getElem_cons_zero, List.setIfInBounds_toArray, List.set_cons_zero, List.set_cons_succ]
    refine wpAnyH_take (i := 2) (v := ?_) rfl (by kernel_rfl) (by kernel_rfl) (by kernel_rfl) (fun _ _ _ h => h) (Or.inl ⟨by rfl, ?_⟩) (by assumption) ?_
    rotate_left
    · intro w9 hS9
      try dsimp only at hS9
      go_split_ands
      go_simp
      try with_reducible rfl
    try simp only [Act.put, List.getElem_toArray, List.getElem_cons_succ, List.getElem_cons_zero, List.setIfInBounds_toArray, List.set_cons_zero, List.set_cons_succ]
    refine wpAnyH_take (i := 4) (v := ?_) rfl (by kernel_rfl) (by kernel_rfl) (by kernel_rfl) (fun _ _ _ h => h) (Or.inl ⟨by rfl, ?_⟩) (by assumption) ?_
    rotate_left
    · intro w9 hS9
      try dsimp only at hS9
      go_split_ands
      go_simp
      try with_reducible rfl
    try simp only [Act.put, List.getElem_toArray, List.getElem_cons_succ, List.getElem_cons_zero, List.setIfInBounds_toArray, List.set_cons_zero, List.set_cons_succ]
    refine wpAnyH_take (i := 5) (v := ?_) rfl (by kernel_rfl) (by kernel_rfl) (by kernel_rfl) (fun _ _ _ h => h) (Or.inl ⟨by rfl, ?_⟩) (by assumption) ?_
    rotate_left
    · intro w9 hS9
      try dsimp only at hS9
      go_split_ands
      go_simp
      try with_reducible rfl
    try simp only [Act.put, List.getElem_toArray, List.getElem_cons_succ, List.getElem_cons_zero, List.setIfInBounds_toArray, List.set_cons_zero, List.set_cons_succ]
    refine wpAnyH_take (i := 6) (v := ?_) rfl (by kernel_rfl) (by kernel_rfl) (by kernel_rfl) (fun _ _ _ h => h) (Or.inl ⟨by rfl, ?_⟩) (by assumption) ?_
    rotate_left
    · intro w9 hS9
      try dsimp only at hS9
      go_split_ands
      go_simp
      try with_reducible rfl
    try simp only [Act.put, List.getElem_toArray, List.getElem_cons_succ, List.getElem_cons_zero, List.setIfInBounds_toArray, List.set_cons_zero, List.set_cons_succ]
    refine wpAnyH_take (i := 7) (v := ?_) rfl (by kernel_rfl) (by kernel_rfl) (by kernel_rfl) (fun _ _ _ h => h) (Or.inl ⟨by rfl, ?_⟩) (by assumption) ?_
    rotate_left
    · intro w9 hS9
      try dsimp only at hS9
      go_split_ands
      go_simp
      try with_reducible rfl
    try simp only [Act.put, List.getElem_toArray, List.getElem_cons_succ, List.getElem_cons_zero, List.setIfInBounds_toArray, List.set_cons_zero, List.set_cons_succ]
    refine wpAnyH_take (i := 8) (v := ?_) rfl (by kernel_rfl) (by kernel_rfl) (by kernel_rfl) (fun _ _ _ h => h) (Or.inl ⟨by rfl, ?_⟩) (by assumption) ?_
    rotate_left
    · intro w9 hS9
      try dsimp only at hS9
      go_split_ands
      go_simp
      try with_reducible rfl
    try simp only [Act.put, List.getElem_toArray, List.getElem_cons_succ, List.getElem_cons_zero, List.setIfInBounds_toArray, List.set_cons_zero, List.set_cons_succ]
    refine wpAnyH_take (i := 10) (v := ?_) rfl (by kernel_rfl) (by kernel_rfl) (by kernel_rfl) (fun _ _ _ h => h) (Or.inl ⟨by rfl, ?_⟩) (by assumption) ?_
    rotate_left
    · intro w9 hS9
      try dsimp only at hS9
      go_split_ands
      go_simp
      try with_reducible rfl
    try simp only [Act.put, List.getElem_toArray, List.getElem_cons_succ, List.getElem_cons_zero, List.setIfInBounds_toArray, List.set_cons_zero, List.set_cons_succ]
    refine wpAnyH_take (i := 11) (v := ?_) rfl (by kernel_rfl) (by kernel_rfl) (by kernel_rfl) (fun _ _ _ h => h) (Or.inl ⟨by rfl, ?_⟩) (by assumption) ?_
    rotate_left
    · intro w9 hS9
      try dsimp only at hS9
      go_split_ands
      go_simp
      try with_reducible rfl
    try simp only [Act.put, List.getElem_toArray, List.getElem_cons_succ, List.getElem_cons_zero, List.setIfInBounds_toArray, List.set_cons_zero, List.set_cons_succ]
    refine wpAnyH_take (i := 12) (v := ?_) rfl (by kernel_rfl) (by kernel_rfl) (by kernel_rfl) (fun _ _ _ h => h) (Or.inl ⟨by rfl, ?_⟩) (by assumption) ?_
    rotate_left
    · intro w9 hS9
      try dsimp only at hS9
      go_split_ands
      go_simp
      try with_reducible rfl
    try simp only [Act.put, List.getElem_toArray, List.getElem_cons_succ, List.getElem_cons_zero, List.setIfInBounds_toArray, List.set_cons_zero, List.set_cons_succ]
    refine wpAnyH_take (i := 13) (v := ?_) rfl (by kernel_rfl) (by kernel_rfl) (by kernel_rfl) (fun _ _ _ h => h) (Or.inl ⟨by rfl, ?_⟩) (by assumption) ?_
    rotate_left
    · intro w9 hS9
      try dsimp only at hS9
      go_split_ands
      go_simp
      try with_reducible rfl
    try simp only [Act.put, List.getElem_toArray, List.getElem_cons_succ, List.getElem_cons_zero, List.setIfInBounds_toArray, List.set_cons_zero, List.set_cons_succ]
    refine wpAnyH_ready (rs := [3, 14]) (by kernel_rfl) (by simp) ?_
    refine AllReadyH.cons rfl (fun K hK => ?_) (AllReadyH.cons rfl (fun K hK => ?_) AllReadyH.nil)
    · skip
      go_simp
      have fs : Frm [] wd (wd.alloc (.cells #[] 24)) := (Frm.refl [] wd).alloc _
      have hn := owns_made0 wd 24 6
      have hn := ownsB_mono hn (HBW.out _ HFD.out)
      have HFDE := Lib.hid (HFD.out.trans fs (by simp))
      have HTDE := Lib.hid (HTD.out.nil fs)
      refine hK.out _ _ ?_ (fun hHeld => ?_)
      · exact KEEP.out _ _ (HSD.out.next HTDE.out HFDE.out)
      clear hK K
      try simp only [Act.put, List.getElem_toArray, List.getElem_cons_succ, List.getElem_cons_zero, List.setIfInBounds_toArray, List.set_cons_zero, List.set_cons_succ]
      clear fs
      generalize (wd.alloc (.cells #[] 24)) = wDE at *
      generalize wd.heap.size = e3 at *
      have HEDE := Lib.hid hn
      clear hn
      refine wpAnyH_ready (rs := [9, 14]) (by kernel_rfl) (by simp) ?_
      refine AllReadyH.cons rfl (fun K hK => ?_) (AllReadyH.cons rfl (fun K hK => ?_) AllReadyH.nil)
      · skip
        have hrvk : RowV wDE [q, g, tb, w.heap.size + 1] (.slice ra l0.length rc) l0.length 6 (rowC l0) := RowV.step HRV0.out HFDE.out (fun k hk => .inl (by simp at hk; simp [hk])) (fun k hk => .inl hk)
        refine step_app_rowL rfl (.tmp 20) (.tmp 25) 25 24 _ 6 64 rfl Try.underlying25 infoArc rfl (by decide) (by decide) b0 0 (.slice (some ⟨e3, 0, none⟩) 0 0) [] (by rfl) HEDE.out (.slice ra l0.length rc) l0.length (rowC l0) [q, g, tb, w.heap.size + 1] (by rfl) hrvk ONEC.out l0.length (Nat.zero_add _) (by have := HL4.out; omega) (HBW.out _ HFDE.out) ?_
        intro a9 c9 wDEA own9 hf9 hl9
        have he3 := (HEDE.out.lt e3 rfl).1
        have HTL : Hid (tb < b0 ∧ b0 ≤ e3) := Lib.hid ⟨by have h1 := HSD.out.bx.lt; have h2 := HSD.out.o1; have h3 := HSD.out.o2; have h4 := HB0.out; omega, he3⟩
        have HFDEA := Lib.hid (HTR.out _ _ _ HFDE.out hf9 (fun x hx => by simp [Value.ownBlock] at hx; omega))
        have HTDEA := Lib.hid (HTDE.out.frm hf9 (by have h1 := HTL.out; simp [Value.ownBlock]; omega) (by have h1 := HTL.out; simp [Value.ownBlock]; omega))
        have HADEA := Lib.hid own9
        refine hK.out _ _ ?_ (fun hHeld => ?_)
        · exact KEEP.out _ _ (HSD.out.next HTDEA.out HFDEA.out)
        clear hK K
        try simp only [Act.put, List.getElem_toArray, List.getElem_cons_succ, List.getElem_cons_zero, List.setIfInBounds_toArray, List.set_cons_zero, List.set_cons_succ]
        clear own9 hf9 hl9 he3 hrvk
        refine wpAnyH_ready (rs := [14]) (by kernel_rfl) (by simp) ?_
        refine AllReadyH.cons rfl (fun K hK => ?_) AllReadyH.nil
        go_simp
        have fs : Frm [] wDEA (wDEA.alloc (.cells #[.int .i64 1, .int .i64 0, .int .i64 0, .int .i64 0, .slice none 0 0, .int .i64 m1.states.length] 24)) := (Frm.refl [] wDEA).alloc _
        have hn := RowAt.made wDEA 24 (arcC (.slice none 0 0, ⟨1, 0, 0, 0, [], (m1.states.length : Int)⟩)) #[.int .i64 1, .int .i64 0, .int .i64 0, .int .i64 0, .slice none 0 0, .int .i64 m1.states.length] rfl
        have HFDEAX := Lib.hid (HFDEA.out.trans fs (by simp))
        have HTDEAX := Lib.hid (HTDEA.out.nil fs)
        have HADEAX := Lib.hid (ownsB_frm HADEA.out fs (by simp))
        have hxl : b0 ≤ wDEA.heap.size := (HBW.out _ HFDEA.out)
        refine hK.out _ _ ?_ (fun hHeld => ?_)
        · exact KEEP.out _ _ (HSD.out.next HTDEAX.out HFDEAX.out)
        clear hK K
        try simp only [Act.put, List.getElem_toArray, List.getElem_cons_succ, List.getElem_cons_zero, List.setIfInBounds_toArray, List.set_cons_zero, List.set_cons_succ]
        clear fs
        generalize (wDEA.alloc (.cells #[.int .i64 1, .int .i64 0, .int .i64 0, .int .i64 0, .slice none 0 0, .int .i64 m1.states.length] 24)) = wDEAX at *
        generalize wDEA.heap.size = x11 at *
        have HXDEAX := Lib.hid hn
        have HXL := Lib.hid hxl
        have HXE := Lib.hid (show True from trivial)
        clear hn
        refine wpAnyH_ready (rs := [15]) (by kernel_rfl) (by simp) ?_
        refine AllReadyH.cons rfl (fun K hK => ?_) AllReadyH.nil
        refine step_app_row rfl (.tmp 26) (.tmp 31) 25 24 _ 6 64 rfl Try.underlying25 infoArc rfl (by decide) (by decide) b0 l0.length (.slice a9 l0.length c9) ([] ++ rowC l0) (by rfl) HADEAX.out (.slice (some ⟨x11, 0, none⟩) 1 1) 1 (arcC (.slice none 0 0, ⟨1, 0, 0, 0, [], (m1.states.length : Int)⟩)) [] (by rfl) (rowV_cells (size := 6) HXDEAX.out rfl (Nat.le_refl _) (by decide) (by simp)) (by simp [arcC, Value.oneCell']) (l0.length + 1) rfl (by have := HL4.out; omega) (HBW.out _ HFDEAX.out) ?_
        intro a12 c12 wDEAXZ own12 hf12
        have hob : ∀ x ∈ (Value.slice a9 l0.length c9).ownBlock.toList, b0 ≤ x := fun x hx => (HADEAX.out.lt x (Option.mem_toList.1 hx)).1
        have HFDEAXZ := Lib.hid (HTR.out _ _ _ HFDEAX.out hf12 hob)
        have HTDEAXZ := Lib.hid (HTDEAX.out.frm hf12 (fun k hk => by have h1 := hob k hk; have h2 := HTL.out; omega) (fun hm => by have h1 := hob _ hm; have h2 := HTL.out; omega))
        have HNP : Hid (NotAt wDEAXZ [g, tb, w.heap.size + 1] (.slice none 0 0) ⟨1, 0, 0, 0, [], (m1.states.length : Int)⟩) := Lib.hid (RowV.nil0 _ _ _)
        have HOW := Lib.hid own12
        clear hob hf12 own12
        refine hK.out _ _ ?_ (fun hHeld => ?_)
        · exact KEEP.out _ _ (HSD.out.next HTDEAXZ.out HFDEAXZ.out)
        clear hK K
        try simp only [Act.put, List.getElem_toArray, List.getElem_cons_succ, List.getElem_cons_zero, List.setIfInBounds_toArray, List.set_cons_zero, List.set_cons_succ]
        refine wpAnyH_take (i := 16) (v := ?_) rfl (by kernel_rfl) (by kernel_rfl) (by kernel_rfl) (fun _ _ _ h => h) (Or.inl ⟨by rfl, ?_⟩) (by assumption) ?_
        rotate_left
        · intro w9 hS9
          try dsimp only at hS9
          go_split_ands
          go_simp
          try with_reducible rfl
        try simp only [Act.put, List.getElem_toArray, List.getElem_cons_succ, List.getElem_cons_zero, List.setIfInBounds_toArray, List.set_cons_zero, List.set_cons_succ]
        refine wpAnyH_take (i := 17) (v := ?_) rfl (by kernel_rfl) (by kernel_rfl) (by kernel_rfl) (fun _ _ _ h => h) (Or.inl ⟨by rfl, ?_⟩) (by assumption) ?_
        rotate_left
        · intro w9 hS9
          try dsimp only at hS9
          go_split_ands
          go_simp
          try with_reducible rfl
        try simp only [Act.put, List.getElem_toArray, List.getElem_cons_succ, List.getElem_cons_zero, List.setIfInBounds_toArray, List.set_cons_zero, List.set_cons_succ]
        refine wpAnyH_done (by kernel_rfl) ?_ _
        refine Qt.last rfl rfl ?_
        simp only [List.getElem_toArray, List.getElem_cons_succ, List.getElem_cons_zero]
        have hS9 := HSD.out.next HTDEAXZ.out HFDEAXZ.out
        have b9 := hS9.row.cell (i := s) (v := .slice ra l0.length rc) (by rw [List.getElem?_map, HV0.out]; rfl)
        have z9 := hS9.row.frozen s
        have hFN := SP.put (s := s) (v := .slice a12 (l0.length + 1) c12) (p := (.slice none 0 0, ⟨1, 0, 0, 0, [], (m1.states.length : Int)⟩)) hS9 (Frm.refl [] wDEAXZ) (by simpa using HOW.out) HB0.out (fun x hx => RowV.step (HNT0.out x hx) HFDEAXZ.out (fun k hk => .inl (by simp at hk; simp [hk])) (fun k hk => .inl hk)) HNP.out
        go_simp
        generalize wDEAXZ.setCell ⟨g, s, none⟩ (.slice a12 (l0.length + 1) c12) = w13 at *
        obtain ⟨m2, hm2⟩ : ∃ m2 : RM, m2 = { m1 with states := m1.states.set s ((l0 ++ [((.slice none 0 0 : Value), (⟨1, 0, 0, 0, [], (m1.states.length : Int)⟩ : RA))]).map (·.2)) } := ⟨_, rfl⟩
        rw [← hm2] at hFN
        clear b9 z9 hS9 hm2 hHeld
        have k0 := hFN.bx.row.cell (i := 0) rfl
        have k1 := hFN.bx.row.cell (i := 1) rfl
        have k2 := hFN.bx.row.cell (i := 2) rfl
        have k3 := hFN.bx.row.cell (i := 3) rfl
        have kz0 := hFN.bx.row.frozen 0
        have kz1 := hFN.bx.row.frozen 1
        have kz2 := hFN.bx.row.frozen 2
        have kz3 := hFN.bx.row.frozen 3
        have r0 := hFN.res.cell (i := 0) rfl
        have r1 := hFN.res.cell (i := 1) rfl
        have r2 := hFN.res.cell (i := 2) rfl
        have r3 := hFN.res.cell (i := 3) rfl
        have y0 := hFN.res.frozen 0
        have y1 := hFN.res.frozen 1
        have y2 := hFN.res.frozen 2
        have y3 := hFN.res.frozen 3
        have nn1 : w.heap.size + 1 < q := by exact hFN.lt
        have nn2 : ¬ q = w.heap.size + 1 := by omega
        have nn3 : ¬ w.heap.size + 1 = q := by omega
        go_wp2_with fail
        have ho := (((hFN.res.setCell 0 (.int .i64 m2.regs)).setCell 1 (.int .i64 m2.data)).setCell 2 (.int .i64 m2.plain)).setCell 3 (.slice (some ⟨g, 0, none⟩) m1.states.length c)
        have hF9 : Frm [w.heap.size + 1] (w13) ((((((((w13).setCell ⟨w.heap.size + 1, 0, none⟩ (.int .i64 m2.regs))).setCell ⟨w.heap.size + 1, 1, none⟩ (.int .i64 m2.data))).setCell ⟨w.heap.size + 1, 2, none⟩ (.int .i64 m2.plain))).setCell ⟨w.heap.size + 1, 3, none⟩ (.slice (some ⟨g, 0, none⟩) m1.states.length c)) := ((((Frm.refl _ (w13)).setCell (.inl (by simp)) _).setCell (.inl (by simp)) _).setCell (.inl (by simp)) _).setCell (.inl (by simp)) _
        have hfin := hFN.fin (N := N) (by omega) hF9
        generalize ((((((((w13).setCell ⟨w.heap.size + 1, 0, none⟩ (.int .i64 m2.regs))).setCell ⟨w.heap.size + 1, 1, none⟩ (.int .i64 m2.data))).setCell ⟨w.heap.size + 1, 2, none⟩ (.int .i64 m2.plain))).setCell ⟨w.heap.size + 1, 3, none⟩ (.slice (some ⟨g, 0, none⟩) m1.states.length c)) = W9 at *
        have e0 := ho.cell (i := 0) rfl
        have e1 := ho.cell (i := 1) rfl
        have e2 := ho.cell (i := 2) rfl
        have e3 := ho.cell (i := 3) rfl
        unfold machV at hfin
        exact bodyPost_ret (v := .agg #[(.int .i64 m2.regs), (.int .i64 m2.data), (.int .i64 m2.plain), (.slice (some ⟨g, 0, none⟩) m1.states.length c)]) (by simp [results, Try.results16, go_sem, e0, e1, e2, e3]) rfl hfin
      · skip
        go_simp
        have fs : Frm [] wDE (wDE.alloc (.cells #[.int .i64 1, .int .i64 0, .int .i64 0, .int .i64 0, .slice none 0 0, .int .i64 m1.states.length] 24)) := (Frm.refl [] wDE).alloc _
        have hn := RowAt.made wDE 24 (arcC (.slice none 0 0, ⟨1, 0, 0, 0, [], (m1.states.length : Int)⟩)) #[.int .i64 1, .int .i64 0, .int .i64 0, .int .i64 0, .slice none 0 0, .int .i64 m1.states.length] rfl
        have HFDEX := Lib.hid (HFDE.out.trans fs (by simp))
        have HTDEX := Lib.hid (HTDE.out.nil fs)
        have HEDEX := Lib.hid (ownsB_frm HEDE.out fs (by simp))
        have hxe : e3 < wDE.heap.size := (HEDE.out.lt e3 rfl).2
        have hxl : b0 ≤ wDE.heap.size := (HBW.out _ HFDE.out)
        refine hK.out _ _ ?_ (fun hHeld => ?_)
        · exact KEEP.out _ _ (HSD.out.next HTDEX.out HFDEX.out)
        clear hK K
        try simp only [Act.put, List.getElem_toArray, List.getElem_cons_succ, List.getElem_cons_zero, List.setIfInBounds_toArray, List.set_cons_zero, List.set_cons_succ]
        clear fs
        generalize (wDE.alloc (.cells #[.int .i64 1, .int .i64 0, .int .i64 0, .int .i64 0, .slice none 0 0, .int .i64 m1.states.length] 24)) = wDEX at *
        generalize wDE.heap.size = x11 at *
        have HXDEX := Lib.hid hn
        have HXL := Lib.hid hxl
        have HXE := Lib.hid (show x11 ≠ e3 by omega)
        clear hn
        refine wpAnyH_ready (rs := [9]) (by kernel_rfl) (by simp) ?_
        refine AllReadyH.cons rfl (fun K hK => ?_) AllReadyH.nil
        have hrvk : RowV wDEX [q, g, tb, w.heap.size + 1] (.slice ra l0.length rc) l0.length 6 (rowC l0) := RowV.step HRV0.out HFDEX.out (fun k hk => .inl (by simp at hk; simp [hk])) (fun k hk => .inl hk)
        refine step_app_rowL rfl (.tmp 20) (.tmp 25) 25 24 _ 6 64 rfl Try.underlying25 infoArc rfl (by decide) (by decide) b0 0 (.slice (some ⟨e3, 0, none⟩) 0 0) [] (by rfl) HEDEX.out (.slice ra l0.length rc) l0.length (rowC l0) [q, g, tb, w.heap.size + 1] (by rfl) hrvk ONEC.out l0.length (Nat.zero_add _) (by have := HL4.out; omega) (HBW.out _ HFDEX.out) ?_
        intro a9 c9 wDEXA own9 hf9 hl9
        have he3 := (HEDEX.out.lt e3 rfl).1
        have HTL : Hid (tb < b0 ∧ b0 ≤ e3) := Lib.hid ⟨by have h1 := HSD.out.bx.lt; have h2 := HSD.out.o1; have h3 := HSD.out.o2; have h4 := HB0.out; omega, he3⟩
        have HFDEXA := Lib.hid (HTR.out _ _ _ HFDEX.out hf9 (fun x hx => by simp [Value.ownBlock] at hx; omega))
        have HTDEXA := Lib.hid (HTDEX.out.frm hf9 (by have h1 := HTL.out; simp [Value.ownBlock]; omega) (by have h1 := HTL.out; simp [Value.ownBlock]; omega))
        have HADEXA := Lib.hid own9
        have HXDEXA := Lib.hid (HXDEX.out.frm hf9 (by have h8 := HXL.out; have h9 := HTL.out; have h7 := HXE.out; simp [Value.ownBlock]; omega))
        refine hK.out _ _ ?_ (fun hHeld => ?_)
        · exact KEEP.out _ _ (HSD.out.next HTDEXA.out HFDEXA.out)
        clear hK K
        try simp only [Act.put, List.getElem_toArray, List.getElem_cons_succ, List.getElem_cons_zero, List.setIfInBounds_toArray, List.set_cons_zero, List.set_cons_succ]
        clear own9 hf9 hl9 he3 hrvk
        refine wpAnyH_ready (rs := [15]) (by kernel_rfl) (by simp) ?_
        refine AllReadyH.cons rfl (fun K hK => ?_) AllReadyH.nil
        refine step_app_row rfl (.tmp 26) (.tmp 31) 25 24 _ 6 64 rfl Try.underlying25 infoArc rfl (by decide) (by decide) b0 l0.length (.slice a9 l0.length c9) ([] ++ rowC l0) (by rfl) HADEXA.out (.slice (some ⟨x11, 0, none⟩) 1 1) 1 (arcC (.slice none 0 0, ⟨1, 0, 0, 0, [], (m1.states.length : Int)⟩)) [] (by rfl) (rowV_cells (size := 6) HXDEXA.out rfl (Nat.le_refl _) (by decide) (by simp)) (by simp [arcC, Value.oneCell']) (l0.length + 1) rfl (by have := HL4.out; omega) (HBW.out _ HFDEXA.out) ?_
        intro a12 c12 wDEXAZ own12 hf12
        have hob : ∀ x ∈ (Value.slice a9 l0.length c9).ownBlock.toList, b0 ≤ x := fun x hx => (HADEXA.out.lt x (Option.mem_toList.1 hx)).1
        have HFDEXAZ := Lib.hid (HTR.out _ _ _ HFDEXA.out hf12 hob)
        have HTDEXAZ := Lib.hid (HTDEXA.out.frm hf12 (fun k hk => by have h1 := hob k hk; have h2 := HTL.out; omega) (fun hm => by have h1 := hob _ hm; have h2 := HTL.out; omega))
        have HNP : Hid (NotAt wDEXAZ [g, tb, w.heap.size + 1] (.slice none 0 0) ⟨1, 0, 0, 0, [], (m1.states.length : Int)⟩) := Lib.hid (RowV.nil0 _ _ _)
        have HOW := Lib.hid own12
        clear hob hf12 own12
        refine hK.out _ _ ?_ (fun hHeld => ?_)
        · exact KEEP.out _ _ (HSD.out.next HTDEXAZ.out HFDEXAZ.out)
        clear hK K
        try simp only [Act.put, List.getElem_toArray, List.getElem_cons_succ, List.getElem_cons_zero, List.setIfInBounds_toArray, List.set_cons_zero, List.set_cons_succ]
        refine wpAnyH_take (i := 16) (v := ?_) rfl (by kernel_rfl) (by kernel_rfl) (by kernel_rfl) (fun _ _ _ h => h) (Or.inl ⟨by rfl, ?_⟩) (by assumption) ?_
        rotate_left
        · intro w9 hS9
          try dsimp only at hS9
          go_split_ands
          go_simp
          try with_reducible rfl
        try simp only [Act.put, List.getElem_toArray, List.getElem_cons_succ, List.getElem_cons_zero, List.setIfInBounds_toArray, List.set_cons_zero, List.set_cons_succ]
        refine wpAnyH_take (i := 17) (v := ?_) rfl (by kernel_rfl) (by kernel_rfl) (by kernel_rfl) (fun _ _ _ h => h) (Or.inl ⟨by rfl, ?_⟩) (by assumption) ?_
        rotate_left
        · intro w9 hS9
          try dsimp only at hS9
          go_split_ands
          go_simp
          try with_reducible rfl
        try simp only [Act.put, List.getElem_toArray, List.getElem_cons_succ, List.getElem_cons_zero, List.setIfInBounds_toArray, List.set_cons_zero, List.set_cons_succ]
        refine wpAnyH_done (by kernel_rfl) ?_ _
        refine Qt.last rfl rfl ?_
        simp only [List.getElem_toArray, List.getElem_cons_succ, List.getElem_cons_zero]
        have hS9 := HSD.out.next HTDEXAZ.out HFDEXAZ.out
        have b9 := hS9.row.cell (i := s) (v := .slice ra l0.length rc) (by rw [List.getElem?_map, HV0.out]; rfl)
        have z9 := hS9.row.frozen s
        have hFN := SP.put (s := s) (v := .slice a12 (l0.length + 1) c12) (p := (.slice none 0 0, ⟨1, 0, 0, 0, [], (m1.states.length : Int)⟩)) hS9 (Frm.refl [] wDEXAZ) (by simpa using HOW.out) HB0.out (fun x hx => RowV.step (HNT0.out x hx) HFDEXAZ.out (fun k hk => .inl (by simp at hk; simp [hk])) (fun k hk => .inl hk)) HNP.out
        go_simp
        generalize wDEXAZ.setCell ⟨g, s, none⟩ (.slice a12 (l0.length + 1) c12) = w13 at *
        obtain ⟨m2, hm2⟩ : ∃ m2 : RM, m2 = { m1 with states := m1.states.set s ((l0 ++ [((.slice none 0 0 : Value), (⟨1, 0, 0, 0, [], (m1.states.length : Int)⟩ : RA))]).map (·.2)) } := ⟨_, rfl⟩
        rw [← hm2] at hFN
        clear b9 z9 hS9 hm2 hHeld
        have k0 := hFN.bx.row.cell (i := 0) rfl
        have k1 := hFN.bx.row.cell (i := 1) rfl
        have k2 := hFN.bx.row.cell (i := 2) rfl
        have k3 := hFN.bx.row.cell (i := 3) rfl
        have kz0 := hFN.bx.row.frozen 0
        have kz1 := hFN.bx.row.frozen 1
        have kz2 := hFN.bx.row.frozen 2
        have kz3 := hFN.bx.row.frozen 3
        have r0 := hFN.res.cell (i := 0) rfl
        have r1 := hFN.res.cell (i := 1) rfl
        have r2 := hFN.res.cell (i := 2) rfl
        have r3 := hFN.res.cell (i := 3) rfl
        have y0 := hFN.res.frozen 0
        have y1 := hFN.res.frozen 1
        have y2 := hFN.res.frozen 2
        have y3 := hFN.res.frozen 3
        have nn1 : w.heap.size + 1 < q := by exact hFN.lt
        have nn2 : ¬ q = w.heap.size + 1 := by omega
        have nn3 : ¬ w.heap.size + 1 = q := by omega
        go_wp2_with fail
        have ho := (((hFN.res.setCell 0 (.int .i64 m2.regs)).setCell 1 (.int .i64 m2.data)).setCell 2 (.int .i64 m2.plain)).setCell 3 (.slice (some ⟨g, 0, none⟩) m1.states.length c)
        have hF9 : Frm [w.heap.size + 1] (w13) ((((((((w13).setCell ⟨w.heap.size + 1, 0, none⟩ (.int .i64 m2.regs))).setCell ⟨w.heap.size + 1, 1, none⟩ (.int .i64 m2.data))).setCell ⟨w.heap.size + 1, 2, none⟩ (.int .i64 m2.plain))).setCell ⟨w.heap.size + 1, 3, none⟩ (.slice (some ⟨g, 0, none⟩) m1.states.length c)) := ((((Frm.refl _ (w13)).setCell (.inl (by simp)) _).setCell (.inl (by simp)) _).setCell (.inl (by simp)) _).setCell (.inl (by simp)) _
        have hfin := hFN.fin (N := N) (by omega) hF9
        generalize ((((((((w13).setCell ⟨w.heap.size + 1, 0, none⟩ (.int .i64 m2.regs))).setCell ⟨w.heap.size + 1, 1, none⟩ (.int .i64 m2.data))).setCell ⟨w.heap.size + 1, 2, none⟩ (.int .i64 m2.plain))).setCell ⟨w.heap.size + 1, 3, none⟩ (.slice (some ⟨g, 0, none⟩) m1.states.length c)) = W9 at *
        have e0 := ho.cell (i := 0) rfl
        have e1 := ho.cell (i := 1) rfl
        have e2 := ho.cell (i := 2) rfl
        have e3 := ho.cell (i := 3) rfl
        unfold machV at hfin
        exact bodyPost_ret (v := .agg #[(.int .i64 m2.regs), (.int .i64 m2.data), (.int .i64 m2.plain), (.slice (some ⟨g, 0, none⟩) m1.states.length c)]) (by simp [results, Try.results16, go_sem, e0, e1, e2, e3]) rfl hfin
    · skip
      go_simp
      have fs : Frm [] wd (wd.alloc (.cells #[.int .i64 1, .int .i64 0, .int .i64 0, .int .i64 0, .slice none 0 0, .int .i64 m1.states.length] 24)) := (Frm.refl [] wd).alloc _
      have hn := RowAt.made wd 24 (arcC (.slice none 0 0, ⟨1, 0, 0, 0, [], (m1.states.length : Int)⟩)) #[.int .i64 1, .int .i64 0, .int .i64 0, .int .i64 0, .slice none 0 0, .int .i64 m1.states.length] rfl
      have HFDX := Lib.hid (HFD.out.trans fs (by simp))
      have HTDX := Lib.hid (HTD.out.nil fs)
      have hxl : b0 ≤ wd.heap.size := (HBW.out _ HFD.out)
      refine hK.out _ _ ?_ (fun hHeld => ?_)
      · exact KEEP.out _ _ (HSD.out.next HTDX.out HFDX.out)
      clear hK K
      try simp only [Act.put, List.getElem_toArray, List.getElem_cons_succ, List.getElem_cons_zero, List.setIfInBounds_toArray, List.set_cons_zero, List.set_cons_succ]
      clear fs
      generalize (wd.alloc (.cells #[.int .i64 1, .int .i64 0, .int .i64 0, .int .i64 0, .slice none 0 0, .int .i64 m1.states.length] 24)) = wDX at *
      generalize wd.heap.size = x11 at *
      have HXDX := Lib.hid hn
      have HXL := Lib.hid hxl
      clear hn
      refine wpAnyH_ready (rs := [3]) (by kernel_rfl) (by simp) ?_
      refine AllReadyH.cons rfl (fun K hK => ?_) AllReadyH.nil
      go_simp
      have fs : Frm [] wDX (wDX.alloc (.cells #[] 24)) := (Frm.refl [] wDX).alloc _
      have hn := owns_made0 wDX 24 6
      have hn := ownsB_mono hn (HBW.out _ HFDX.out)
      have HFDXE := Lib.hid (HFDX.out.trans fs (by simp))
      have HTDXE := Lib.hid (HTDX.out.nil fs)
      have HXDXE := Lib.hid (HXDX.out.frm fs (by simp))
      have hxe : x11 < wDX.heap.size := HXDX.out.lt
      refine hK.out _ _ ?_ (fun hHeld => ?_)
      · exact KEEP.out _ _ (HSD.out.next HTDXE.out HFDXE.out)
      clear hK K
      try simp only [Act.put, List.getElem_toArray, List.getElem_cons_succ, List.getElem_cons_zero, List.setIfInBounds_toArray, List.set_cons_zero, List.set_cons_succ]
      clear fs
      generalize (wDX.alloc (.cells #[] 24)) = wDXE at *
      generalize wDX.heap.size = e3 at *
      have HEDXE := Lib.hid hn
      have HXE := Lib.hid (show x11 ≠ e3 by omega)
      clear hn
      refine wpAnyH_ready (rs := [9]) (by kernel_rfl) (by simp) ?_
      refine AllReadyH.cons rfl (fun K hK => ?_) AllReadyH.nil
      have hrvk : RowV wDXE [q, g, tb, w.heap.size + 1] (.slice ra l0.length rc) l0.length 6 (rowC l0) := RowV.step HRV0.out HFDXE.out (fun k hk => .inl (by simp at hk; simp [hk])) (fun k hk => .inl hk)
      refine step_app_rowL rfl (.tmp 20) (.tmp 25) 25 24 _ 6 64 rfl Try.underlying25 infoArc rfl (by decide) (by decide) b0 0 (.slice (some ⟨e3, 0, none⟩) 0 0) [] (by rfl) HEDXE.out (.slice ra l0.length rc) l0.length (rowC l0) [q, g, tb, w.heap.size + 1] (by rfl) hrvk ONEC.out l0.length (Nat.zero_add _) (by have := HL4.out; omega) (HBW.out _ HFDXE.out) ?_
      intro a9 c9 wDXEA own9 hf9 hl9
      have he3 := (HEDXE.out.lt e3 rfl).1
      have HTL : Hid (tb < b0 ∧ b0 ≤ e3) := Lib.hid ⟨by have h1 := HSD.out.bx.lt; have h2 := HSD.out.o1; have h3 := HSD.out.o2; have h4 := HB0.out; omega, he3⟩
      have HFDXEA := Lib.hid (HTR.out _ _ _ HFDXE.out hf9 (fun x hx => by simp [Value.ownBlock] at hx; omega))
      have HTDXEA := Lib.hid (HTDXE.out.frm hf9 (by have h1 := HTL.out; simp [Value.ownBlock]; omega) (by have h1 := HTL.out; simp [Value.ownBlock]; omega))
      have HADXEA := Lib.hid own9
      have HXDXEA := Lib.hid (HXDXE.out.frm hf9 (by have h8 := HXL.out; have h9 := HTL.out; have h7 := HXE.out; simp [Value.ownBlock]; omega))
      refine hK.out _ _ ?_ (fun hHeld => ?_)
      · exact KEEP.out _ _ (HSD.out.next HTDXEA.out HFDXEA.out)
      clear hK K
      try simp only [Act.put, List.getElem_toArray, List.getElem_cons_succ, List.getElem_cons_zero, List.setIfInBounds_toArray, List.set_cons_zero, List.set_cons_succ]
      clear own9 hf9 hl9 he3 hrvk
      refine wpAnyH_ready (rs := [15]) (by kernel_rfl) (by simp) ?_
      refine AllReadyH.cons rfl (fun K hK => ?_) AllReadyH.nil
      refine step_app_row rfl (.tmp 26) (.tmp 31) 25 24 _ 6 64 rfl Try.underlying25 infoArc rfl (by decide) (by decide) b0 l0.length (.slice a9 l0.length c9) ([] ++ rowC l0) (by rfl) HADXEA.out (.slice (some ⟨x11, 0, none⟩) 1 1) 1 (arcC (.slice none 0 0, ⟨1, 0, 0, 0, [], (m1.states.length : Int)⟩)) [] (by rfl) (rowV_cells (size := 6) HXDXEA.out rfl (Nat.le_refl _) (by decide) (by simp)) (by simp [arcC, Value.oneCell']) (l0.length + 1) rfl (by have := HL4.out; omega) (HBW.out _ HFDXEA.out) ?_
      intro a12 c12 wDXEAZ own12 hf12
      have hob : ∀ x ∈ (Value.slice a9 l0.length c9).ownBlock.toList, b0 ≤ x := fun x hx => (HADXEA.out.lt x (Option.mem_toList.1 hx)).1
      have HFDXEAZ := Lib.hid (HTR.out _ _ _ HFDXEA.out hf12 hob)
      have HTDXEAZ := Lib.hid (HTDXEA.out.frm hf12 (fun k hk => by have h1 := hob k hk; have h2 := HTL.out; omega) (fun hm => by have h1 := hob _ hm; have h2 := HTL.out; omega))
      have HNP : Hid (NotAt wDXEAZ [g, tb, w.heap.size + 1] (.slice none 0 0) ⟨1, 0, 0, 0, [], (m1.states.length : Int)⟩) := Lib.hid (RowV.nil0 _ _ _)
      have HOW := Lib.hid own12
      clear hob hf12 own12
      refine hK.out _ _ ?_ (fun hHeld => ?_)
      · exact KEEP.out _ _ (HSD.out.next HTDXEAZ.out HFDXEAZ.out)
      clear hK K
      try simp only [Act.put, List.getElem_toArray, List.getElem_cons_succ, List.getElem_cons_zero, List.setIfInBounds_toArray, List.set_cons_zero, List.set_cons_succ]
      refine wpAnyH_take (i := 16) (v := ?_) rfl (by kernel_rfl) (by kernel_rfl) (by kernel_rfl) (fun _ _ _ h => h) (Or.inl ⟨by rfl, ?_⟩) (by assumption) ?_
      rotate_left
      · intro w9 hS9
        try dsimp only at hS9
        go_split_ands
        go_simp
        try with_reducible rfl
      try simp only [Act.put, List.getElem_toArray, List.getElem_cons_succ, List.getElem_cons_zero, List.setIfInBounds_toArray, List.set_cons_zero, List.set_cons_succ]
      refine wpAnyH_take (i := 17) (v := ?_) rfl (by kernel_rfl) (by kernel_rfl) (by kernel_rfl) (fun _ _ _ h => h) (Or.inl ⟨by rfl, ?_⟩) (by assumption) ?_
      rotate_left
      · intro w9 hS9
        try dsimp only at hS9
        go_split_ands
        go_simp
        try with_reducible rfl
      try simp only [Act.put, List.getElem_toArray, List.getElem_cons_succ, List.getElem_cons_zero, List.setIfInBounds_toArray, List.set_cons_zero, List.set_cons_succ]
      refine wpAnyH_done (by kernel_rfl) ?_ _
      refine Qt.last rfl rfl ?_
      simp only [List.getElem_toArray, List.getElem_cons_succ, List.getElem_cons_zero]
      have hS9 := HSD.out.next HTDXEAZ.out HFDXEAZ.out
      have b9 := hS9.row.cell (i := s) (v := .slice ra l0.length rc) (by rw [List.getElem?_map, HV0.out]; rfl)
      have z9 := hS9.row.frozen s
      have hFN := SP.put (s := s) (v := .slice a12 (l0.length + 1) c12) (p := (.slice none 0 0, ⟨1, 0, 0, 0, [], (m1.states.length : Int)⟩)) hS9 (Frm.refl [] wDXEAZ) (by simpa using HOW.out) HB0.out (fun x hx => RowV.step (HNT0.out x hx) HFDXEAZ.out (fun k hk => .inl (by simp at hk; simp [hk])) (fun k hk => .inl hk)) HNP.out
      go_simp
      generalize wDXEAZ.setCell ⟨g, s, none⟩ (.slice a12 (l0.length + 1) c12) = w13 at *
      obtain ⟨m2, hm2⟩ : ∃ m2 : RM, m2 = { m1 with states := m1.states.set s ((l0 ++ [((.slice none 0 0 : Value), (⟨1, 0, 0, 0, [], (m1.states.length : Int)⟩ : RA))]).map (·.2)) } := ⟨_, rfl⟩
      rw [← hm2] at hFN
      clear b9 z9 hS9 hm2 hHeld
      have k0 := hFN.bx.row.cell (i := 0) rfl
      have k1 := hFN.bx.row.cell (i := 1) rfl
      have k2 := hFN.bx.row.cell (i := 2) rfl
      have k3 := hFN.bx.row.cell (i := 3) rfl
      have kz0 := hFN.bx.row.frozen 0
      have kz1 := hFN.bx.row.frozen 1
      have kz2 := hFN.bx.row.frozen 2
      have kz3 := hFN.bx.row.frozen 3
      have r0 := hFN.res.cell (i := 0) rfl
      have r1 := hFN.res.cell (i := 1) rfl
      have r2 := hFN.res.cell (i := 2) rfl
      have r3 := hFN.res.cell (i := 3) rfl
      have y0 := hFN.res.frozen 0
      have y1 := hFN.res.frozen 1
      have y2 := hFN.res.frozen 2
      have y3 := hFN.res.frozen 3
      have nn1 : w.heap.size + 1 < q := by exact hFN.lt
      have nn2 : ¬ q = w.heap.size + 1 := by omega
      have nn3 : ¬ w.heap.size + 1 = q := by omega
      go_wp2_with fail
      have ho := (((hFN.res.setCell 0 (.int .i64 m2.regs)).setCell 1 (.int .i64 m2.data)).setCell 2 (.int .i64 m2.plain)).setCell 3 (.slice (some ⟨g, 0, none⟩) m1.states.length c)
      have hF9 : Frm [w.heap.size + 1] (w13) ((((((((w13).setCell ⟨w.heap.size + 1, 0, none⟩ (.int .i64 m2.regs))).setCell ⟨w.heap.size + 1, 1, none⟩ (.int .i64 m2.data))).setCell ⟨w.heap.size + 1, 2, none⟩ (.int .i64 m2.plain))).setCell ⟨w.heap.size + 1, 3, none⟩ (.slice (some ⟨g, 0, none⟩) m1.states.length c)) := ((((Frm.refl _ (w13)).setCell (.inl (by simp)) _).setCell (.inl (by simp)) _).setCell (.inl (by simp)) _).setCell (.inl (by simp)) _
      have hfin := hFN.fin (N := N) (by omega) hF9
      generalize ((((((((w13).setCell ⟨w.heap.size + 1, 0, none⟩ (.int .i64 m2.regs))).setCell ⟨w.heap.size + 1, 1, none⟩ (.int .i64 m2.data))).setCell ⟨w.heap.size + 1, 2, none⟩ (.int .i64 m2.plain))).setCell ⟨w.heap.size + 1, 3, none⟩ (.slice (some ⟨g, 0, none⟩) m1.states.length c)) = W9 at *
      have e0 := ho.cell (i := 0) rfl
      have e1 := ho.cell (i := 1) rfl
      have e2 := ho.cell (i := 2) rfl
      have e3 := ho.cell (i := 3) rfl
      unfold machV at hfin
      exact bodyPost_ret (v := .agg #[(.int .i64 m2.regs), (.int .i64 m2.data), (.int .i64 m2.plain), (.slice (some ⟨g, 0, none⟩) m1.states.length c)]) (by simp [results, Try.results16, go_sem, e0, e1, e2, e3]) rfl hfin
end Go.Proofs.Ytfndgiinniibfaa.Ind
