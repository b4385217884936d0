/- The reference's disk: contract of perform. -/
import Derived.Test.YtkebdgbjgbcneaaE9
namespace Go.Proofs.Ytkebdgbjgbcneaa
open Go.RowKit Go.Maps Go.Shelf

theorem owns_made0 (w : World) (e : TypeId) (size : Nat) : (w.alloc (.cells #[] e)).ownsRow w.heap.size e size (.slice (some ⟨w.heap.size, 0, none⟩) 0 0) 0 [] :=
  ⟨(Nat.zero_mul _).symm, .inr ⟨w.heap.size, 0, #[], rfl, Nat.le_refl _, heap_alloc_new w _, Nat.le_refl _, Nat.zero_le _, (Nat.zero_mul _).symm, by simp⟩⟩
theorem owns_made1 (w : World) (o : Obj) (e : TypeId) (size : Nat) : ((w.alloc o).alloc (.cells #[] e)).ownsRow w.heap.size e size (.slice (some ⟨w.heap.size + 1, 0, none⟩) 0 0) 0 [] := by
  have h := owns_made0 (w.alloc o) e size
  have hs : (w.alloc o).heap.size = w.heap.size + 1 := by simp
  rw [hs] at h
  exact ownsB_mono h (Nat.le_succ _)
theorem row_made1 (w : World) (o : Obj) (e : TypeId) (xs : List Value) (A : Array Value) (hA : A.toList.take xs.length = xs) : RowAt ((w.alloc o).alloc (.cells A e)) (w.heap.size + 1) e xs := by
  have h := RowAt.made (w.alloc o) e xs A hA
  have hs : (w.alloc o).heap.size = w.heap.size + 1 := by simp
  rwa [hs] at h
theorem ropsC_one (o : OpM) : ropsC [o] = ropC o := by simp [ropsC]
theorem rowV_cells {w : World} {F : List Nat} {x : Nat} {e : TypeId} {n size c : Nat} {xs : List Value} (h : RowAt w x e xs) (hl : xs.length = n * size) (hc : n ≤ c) (hm : c ≤ maxLen) (hx : x ∉ F) : RowV w F (.slice (some ⟨x, 0, none⟩) n c) n size xs :=
  ⟨hl, _, _, rfl, hc, hm, (fun h => by cases h), fun i u hu => ⟨x, 0, rfl, hx, h.lt, by rw [Nat.zero_add]; exact h.cell hu⟩⟩
theorem perf_end {w w3 w8 : World} {F : List Nat} {d : Nat} {m : DM} {o : OpM} {fv v2 sv ov : Value} {l : List (Value × FM)} {a8 : Option Addr} {c8 : Nat} (F3 : Frm [d] w w3) (HR3 : RDv w3 F d { m with dir := doneD m.dir o } fv v2 sv ov l) (fr8 : Frm [] w3 w8) (own8 : w8.ownsRow w3.heap.size 92 4 (.slice a8 (m.ops.length + 1) c8) (m.ops.length + 1) (([] ++ ropsC m.ops) ++ ropC o)) :
    (∃ dv' ov', RDv (w8.setCell ⟨d, 4, none⟩ (.slice a8 (m.ops.length + 1) c8)) F d (opM m o) fv dv' sv ov' l) ∧ Frm [d] w (w8.setCell ⟨d, 4, none⟩ (.slice a8 (m.ops.length + 1) c8)) := by
  have hr8 := (HR3.hd.frm fr8 (by simp)).setCell 4 (.slice a8 (m.ops.length + 1) c8)
  have fz8 : Frm [d] w3 (w8.setCell ⟨d, 4, none⟩ (.slice a8 (m.ops.length + 1) c8)) := (fr8.mono (by simp)).setCell (p := ⟨d, 4, none⟩) (.inl (by simp)) _
  have hop8 := ownsB_other own8 (p := ⟨d, 4, none⟩) HR3.hd.lt (.slice a8 (m.ops.length + 1) c8)
  refine ⟨⟨v2, .slice a8 (m.ops.length + 1) c8, HR3.turn fz8 hr8 HR3.fm (HR3.fr.frm fz8 HR3.mine) (fun p hp => (HR3.fd p hp).frm fz8 HR3.mine) (HR3.dir.frm fz8 HR3.mine) (HR3.safe.frm fz8 HR3.mine) ?_⟩, F3.trans fz8 (fun y hy => .inl hy)⟩
  have e1 : (opM m o).ops.length = m.ops.length + 1 := by simp [opM]
  have e2 : ropsC (opM m o).ops = ([] ++ ropsC m.ops) ++ ropC o := by rw [show (opM m o).ops = m.ops ++ [o] from rfl, ropsC_app, ropsC_one]; rfl
  rw [e1, e2]
  exact rowV_new hop8 HR3.low
set_option linter.unusedSimpArgs false in
set_option maxRecDepth 100000 in
set_option maxHeartbeats 4000000 in
theorem rperf_any {w : World} {F : List Nat} {d : Nat} {m : DM} {fv dv sv ov : Value} {l : List (Value × FM)} (h : RDv w F d m fv dv sv ov l) (o : OpM) (hk : KindOk o) (hl : m.dir.length ≤ 900) (hn : m.ops.length ≤ 100000) :
    Calls Try.prog 59 #[.pointer (some ⟨d, 0, none⟩), .agg #[.int .i64 (o.kind : Int), str o.name, str o.to, .int .i64 (o.file : Int)]] w fun e w' => (e = .returned (.tuple #[]) ∧ ∃ dv' ov', RDv w' F d (opM m o) fv dv' sv ov' l) ∧ Frm [d] w w' := by
  have f0 : Frm [] w (w.alloc (.cells #[.int .i64 (o.kind : Int), str o.name, str o.to, .int .i64 (o.file : Int)] 92)) := (Frm.refl [] w).alloc _
  have r0 : RowAt (w.alloc (.cells #[.int .i64 (o.kind : Int), str o.name, str o.to, .int .i64 (o.file : Int)] 92)) w.heap.size 92 (ropC o) := RowAt.made _ _ _ _ rfl
  have hdx : d ≠ w.heap.size := by have := h.hd.lt; omega
  have hxF : w.heap.size ∉ F := fun hm => by have := h.low _ hm; omega
  have HH := Lib.hid (h.nil f0)
  have HF0 := Lib.hid f0
  have HXF := Lib.hid hxF
  clear h f0 hxF
  go_enter Try.func59, Try.ntmps59
  go_wp2_with fail
  generalize w.alloc (.cells #[.int .i64 (o.kind : Int), str o.name, str o.to, .int .i64 (o.file : Int)] 92) = w1 at *
  obtain ⟨x, hx⟩ : ∃ x, x = w.heap.size := ⟨_, rfl⟩
  rw [← hx] at r0 hdx HXF ⊢
  have hxl : x < w1.heap.size := r0.lt
  have q0 := r0.cell (i := 0) rfl
  have q1 := r0.cell (i := 1) rfl
  have q2 := r0.cell (i := 2) rfl
  have q3 := r0.cell (i := 3) rfl
  have d2 := HH.out.hd.cell (i := 2) rfl
  have z2 := HH.out.hd.frozen 2
  have HDX := Lib.hid hdx
  have R0 := Lib.hid r0
  have HX := Lib.hid hx
  have HXL := Lib.hid hxl
  have HL := Lib.hid hl
  have HN := Lib.hid hn
  clear r0 hdx hx hxl hl hn
  go_region_law (((try go_simp); refine (rdone_any (HH.out.dir.nil (by first | exact Frm.refl [] w1 | exact (Frm.refl [] w1).drew | exact (Frm.refl [] w1).drewN _)) HL.out o hk).mono ?_; rintro e2 w2 ⟨⟨a2, c2, rfl, ho2⟩, hf20⟩; have hf2 : Frm [] w1 w2 := Frm.trans (by first | exact Frm.refl [] w1 | exact (Frm.refl [] w1).drew | exact (Frm.refl [] w1).drewN _) hf20 (by simp); have p2 := hf2.cell d2 (by simp); have y2 := hf2.frz d2 z2 (by simp)))
  all_goals
    have hr3 := (HH.out.hd.frm hf2 (by simp)).setCell 2 (.slice a2 (doneD m.dir o).length c2)
    have fz3 : Frm [d] w1 (w2.setCell ⟨d, 2, none⟩ (.slice a2 (doneD m.dir o).length c2)) := (hf2.mono (by simp)).setCell (p := ⟨d, 2, none⟩) (.inl (by simp)) _
    have hrow3 := ownsB_other ho2 (p := ⟨d, 2, none⟩) (HH.out.hd.lt) (.slice a2 (doneD m.dir o).length c2)
    have HR3 : Hid (RDv (w2.setCell ⟨d, 2, none⟩ (.slice a2 (doneD m.dir o).length c2)) F d { m with dir := doneD m.dir o } fv (.slice a2 (doneD m.dir o).length c2) sv ov l) := Lib.hid (HH.out.turn fz3 hr3 HH.out.fm (HH.out.fr.frm fz3 HH.out.mine) (fun p hp => (HH.out.fd p hp).frm fz3 HH.out.mine) (rowV_new hrow3 HH.out.low) (HH.out.safe.frm fz3 HH.out.mine) (HH.out.ops.frm fz3 HH.out.mine))
    have F3 : Hid (Frm [d] w (w2.setCell ⟨d, 2, none⟩ (.slice a2 (doneD m.dir o).length c2))) := Lib.hid ((HF0.out.mono (by simp)).trans fz3 (fun y hy => .inl hy))
    have hx3 := R0.out.frm fz3 (by simp; exact HDX.out.symm)
    have HX3 := Lib.hid hx3
    have r0 := hx3.cell (i := 0) rfl
    have r1 := hx3.cell (i := 1) rfl
    have r2 := hx3.cell (i := 2) rfl
    have r3 := hx3.cell (i := 3) rfl
    clear hr3 fz3 hrow3 p2 y2 q0 q1 q2 q3 d2 z2 hf20 hf2 ho2 hx3
    generalize w2.setCell ⟨d, 2, none⟩ (.slice a2 (doneD m.dir o).length c2) = w3 at *
    have c4 := HR3.out.hd.cell (i := 4) rfl
    have z4 := HR3.out.hd.frozen 4
    have hdw := HR3.out.hd.lt
    have hxw := HX3.out.lt
    have nd0 : d ≠ w3.heap.size := by omega
    have nd1 : d ≠ w3.heap.size + 1 := by omega
    have nx0 : x ≠ w3.heap.size := by omega
    have nx1 : x ≠ w3.heap.size + 1 := by omega
    go_wp2_with fail
    go_region_law (first | (refine step_app_row rfl (.tmp 19) (.tmp 21) 75 92 _ 4 48 rfl Try.underlying75 infoROp rfl (by decide) (by decide) w3.heap.size m.ops.length _ _ rfl (by first | exact own9 | exact own9.alloc _) _ 1 (ropC o) [] rfl (by first | exact rowV_cells (size := 4) (RowAt.made _ _ (ropC o) _ rfl) rfl (Nat.le_refl _) (by decide) (by simp) | exact rowV_cells (size := 4) ((RowAt.drew (RowAt.made _ _ (ropC o) _ rfl)).frm hf9 (by simp [Value.ownBlock])) rfl (Nat.le_refl _) (by decide) (by simp) | exact rowV_cells (size := 4) ((RowAt.drew ((RowAt.made _ _ (ropC o) _ rfl).alloc _)).frm hf9 (by simp [Value.ownBlock])) rfl (Nat.le_refl _) (by decide) (by simp) | exact rowV_cells (size := 4) ((RowAt.drew (row_made1 _ _ _ (ropC o) _ rfl)).frm hf9 (by simp [Value.ownBlock])) rfl (Nat.le_refl _) (by decide) (by simp)) (by rw [← ropsC_one]; exact oneCell_ropsC _) (m.ops.length + 1) rfl (by have := HN.out; omega) (by (try simp) <;> omega) ?_; intro a8 c8 w8 own8 hf8; have fr8 : Frm [] w3 w8 := frm_own (by first | exact fr9 | exact fr9.alloc _ | exact fr9.drew | exact (fr9.alloc _).drew) (by first | exact own9 | exact own9.alloc _) (Nat.le_refl _) hf8; have y4 := fr8.frz c4 z4 (by simp); have t4 := fr8.cell c4 (by simp)) | (refine step_app_row rfl (.tmp 14) (.tmp 18) 75 92 _ 4 48 rfl Try.underlying75 infoROp rfl (by decide) (by decide) w3.heap.size 0 (.slice (some ⟨w3.heap.size, 0, none⟩) 0 0) [] rfl (by first | exact owns_made0 w3 _ _ | exact (owns_made0 w3 _ _).alloc _) ov m.ops.length (ropsC m.ops) F rfl (HR3.out.ops.nil (by first | exact ((Frm.refl [] w3).alloc _).drew | exact (((Frm.refl [] w3).alloc _).alloc _).drew | exact ((Frm.refl [] w3).alloc _).drewN _ | exact (((Frm.refl [] w3).alloc _).alloc _).drewN _)) (oneCell_ropsC _) m.ops.length (Nat.zero_add _) (by have := HN.out; omega) (by (try simp) <;> omega) ?_; intro a9 c9 w9 own9 hf9; have fr9 : Frm [] w3 w9 := Frm.trans (by first | exact ((Frm.refl [] w3).alloc _).drew | exact (((Frm.refl [] w3).alloc _).alloc _).drew | exact ((Frm.refl [] w3).alloc _).drewN _ | exact (((Frm.refl [] w3).alloc _).alloc _).drewN _) hf9 (by simp [Value.ownBlock]); have hs9 := fr9.size; have s0 := fr9.cell r0 (by simp); have s1 := fr9.cell r1 (by simp); have s2 := fr9.cell r2 (by simp); have s3 := fr9.cell r3 (by simp); have s4 := fr9.cell c4 (by simp)) | (refine step_app_row rfl (.tmp 14) (.tmp 18) 75 92 _ 4 48 rfl Try.underlying75 infoROp rfl (by decide) (by decide) w3.heap.size 0 (.slice (some ⟨w3.heap.size + 1, 0, none⟩) 0 0) [] rfl (owns_made1 w3 _ _ _) ov m.ops.length (ropsC m.ops) F rfl (HR3.out.ops.nil (by first | exact ((Frm.refl [] w3).alloc _).drew | exact (((Frm.refl [] w3).alloc _).alloc _).drew | exact ((Frm.refl [] w3).alloc _).drewN _ | exact (((Frm.refl [] w3).alloc _).alloc _).drewN _)) (oneCell_ropsC _) m.ops.length (Nat.zero_add _) (by have := HN.out; omega) (by (try simp) <;> omega) ?_; intro a9 c9 w9 own9 hf9; have fr9 : Frm [] w3 w9 := Frm.trans (by first | exact ((Frm.refl [] w3).alloc _).drew | exact (((Frm.refl [] w3).alloc _).alloc _).drew | exact ((Frm.refl [] w3).alloc _).drewN _ | exact (((Frm.refl [] w3).alloc _).alloc _).drewN _) hf9 (by simp [Value.ownBlock]); have hs9 := fr9.size; have s0 := fr9.cell r0 (by simp); have s1 := fr9.cell r1 (by simp); have s2 := fr9.cell r2 (by simp); have s3 := fr9.cell r3 (by simp); have s4 := fr9.cell c4 (by simp)))
    all_goals
      have hend := perf_end F3.out HR3.out fr8 own8
      clear fr8 own8
      go_end0
      exact ⟨⟨rfl, hend.1⟩, hend.2⟩

end Go.Proofs.Ytkebdgbjgbcneaa
