/- Contracts of the comparisons that Instance sorts by, and of its equality. -/
import Derived.Test.YtfndgiinniibfaaKG
import Derived.Test.YtfndgiinniibfaaKS
namespace Go.Proofs.Ytfndgiinniibfaa.Ind
open Go.Shelf Go.RowKit Go.Lib Go.Sort

/-- An arc of an instance, its registers one by one. -/
abbrev M6 := Int × P5
def enc6 (x : M6) : List Value := [.int .i64 x.1, .int .i64 x.2.1, .int .i64 x.2.2.1, .int .i64 x.2.2.2.1, .int .i64 x.2.2.2.2.1, .int .i64 x.2.2.2.2.2]
def toP (p : P5) : Pl := (p.1, [p.2.1, p.2.2.1, p.2.2.2.1, p.2.2.2.2])
def toM (x : M6) : Mv := (x.1, toP x.2)
def cmp6 (x y : M6) : Int := orL [cmpI x.1 y.1, cmpI x.2.1 y.2.1, cmpL [x.2.2.1, x.2.2.2.1, x.2.2.2.2.1, x.2.2.2.2.2] [y.2.2.1, y.2.2.2.1, y.2.2.2.2.1, y.2.2.2.2.2]]
theorem rd_cells4 {w : World} {b o : Nat} {a0 a1 a2 a3 : Int} (h0 : w.cell? ⟨b, o, none⟩ = some (.int .i64 a0)) (h1 : w.cell? ⟨b, o + 1, none⟩ = some (.int .i64 a1)) (h2 : w.cell? ⟨b, o + 2, none⟩ = some (.int .i64 a2)) (h3 : w.cell? ⟨b, o + 3, none⟩ = some (.int .i64 a3)) (hb : b < w.heap.size) : Rd w.heap.size w (some ⟨b, o, none⟩) 4 4 1 (ints [a0, a1, a2, a3]) := by
  refine ⟨rfl, Nat.le_refl _, by decide, fun i u hu => ⟨b, o, rfl, hb, ?_⟩⟩
  match i, hu with
  | 0, hu => simp [ints] at hu; rw [← hu]; exact h0
  | 1, hu => simp [ints] at hu; rw [← hu]; exact h1
  | 2, hu => simp [ints] at hu; rw [← hu]; exact h2
  | 3, hu => simp [ints] at hu; rw [← hu]; exact h3
  | n + 4, hu => simp [ints] at hu

theorem grow_drew_alloc {w W : World} {os : Array Obj} (h : W = grow w os) (o : Obj) : W.drew.alloc o = grow (w.drewN 1) (os ++ #[o]) := by
  rw [h, alloc_eq_grow, drew_grow, grow_grow]
  rfl
set_option linter.unusedSimpArgs false in
set_option maxRecDepth 100000 in
set_option maxHeartbeats 4000000 in
theorem compare_any (x y : M6) (w : World) :
    Calls Try.prog 47 #[.agg (enc6 x).toArray, .agg (enc6 y).toArray] w fun e w' => e = .returned (.int .i64 (cmp6 x y)) ∧ ∃ q os, w' = grow (w.drewN q) os := by
  obtain ⟨e, s, a, b, c, d⟩ := x
  obtain ⟨e', s', a', b', c', d'⟩ := y
  obtain ⟨R, hR⟩ : ∃ R, cmp6 (e, s, a, b, c, d) (e', s', a', b', c', d') = R := ⟨_, rfl⟩
  rw [hR]
  have HR := Lib.hid hR
  clear hR
  unfold enc6
  simp only
  have hb1 := ((RowAt.made w 83 [.int .i64 e, .int .i64 s, .int .i64 a, .int .i64 b, .int .i64 c, .int .i64 d] #[.int .i64 e, .int .i64 s, .int .i64 a, .int .i64 b, .int .i64 c, .int .i64 d] rfl).alloc (.cells #[.int .i64 e', .int .i64 s', .int .i64 a', .int .i64 b', .int .i64 c', .int .i64 d'] 83))
  have hb2 := RowAt.made (w.alloc (.cells #[.int .i64 e, .int .i64 s, .int .i64 a, .int .i64 b, .int .i64 c, .int .i64 d] 83)) 83 [.int .i64 e', .int .i64 s', .int .i64 a', .int .i64 b', .int .i64 c', .int .i64 d'] #[.int .i64 e', .int .i64 s', .int .i64 a', .int .i64 b', .int .i64 c', .int .i64 d'] rfl
  rw [show (w.alloc (.cells #[.int .i64 e, .int .i64 s, .int .i64 a, .int .i64 b, .int .i64 c, .int .i64 d] 83)).heap.size = w.heap.size + 1 from by simp] at hb2
  go_enter Try.func47, Try.ntmps47
  go_wp2_with fail
  have HW : Hid (((w.alloc (.cells #[.int .i64 e, .int .i64 s, .int .i64 a, .int .i64 b, .int .i64 c, .int .i64 d] 83)).alloc (.cells #[.int .i64 e', .int .i64 s', .int .i64 a', .int .i64 b', .int .i64 c', .int .i64 d'] 83)) = grow w #[.cells #[.int .i64 e, .int .i64 s, .int .i64 a, .int .i64 b, .int .i64 c, .int .i64 d] 83, .cells #[.int .i64 e', .int .i64 s', .int .i64 a', .int .i64 b', .int .i64 c', .int .i64 d'] 83]) := Lib.hid (by rw [alloc_eq_grow, alloc_eq_grow, grow_grow]; rfl)
  generalize hX : ((w.alloc (.cells #[.int .i64 e, .int .i64 s, .int .i64 a, .int .i64 b, .int .i64 c, .int .i64 d] 83)).alloc (.cells #[.int .i64 e', .int .i64 s', .int .i64 a', .int .i64 b', .int .i64 c', .int .i64 d'] 83)) = W at *
  have KEEP : Hid (∀ w', Frm [] W w' → w'.cell? ⟨w.heap.size, 0, none⟩ = some (.int .i64 e) ∧ w'.cell? ⟨w.heap.size, 1, none⟩ = some (.int .i64 s) ∧ w'.cell? ⟨w.heap.size, 2, none⟩ = some (.int .i64 a) ∧ w'.cell? ⟨w.heap.size, 3, none⟩ = some (.int .i64 b) ∧ w'.cell? ⟨w.heap.size, 4, none⟩ = some (.int .i64 c) ∧ w'.cell? ⟨w.heap.size, 5, none⟩ = some (.int .i64 d) ∧ w'.cell? ⟨w.heap.size + 1, 0, none⟩ = some (.int .i64 e') ∧ w'.cell? ⟨w.heap.size + 1, 1, none⟩ = some (.int .i64 s') ∧ w'.cell? ⟨w.heap.size + 1, 2, none⟩ = some (.int .i64 a') ∧ w'.cell? ⟨w.heap.size + 1, 3, none⟩ = some (.int .i64 b') ∧ w'.cell? ⟨w.heap.size + 1, 4, none⟩ = some (.int .i64 c') ∧ w'.cell? ⟨w.heap.size + 1, 5, none⟩ = some (.int .i64 d')) := Lib.hid fun w' hf => by
    have h1 := hb1.frm hf (by simp)
    have h2 := hb2.frm hf (by simp)
    exact ⟨h1.cell (i := 0) rfl, h1.cell (i := 1) rfl, h1.cell (i := 2) rfl, h1.cell (i := 3) rfl, h1.cell (i := 4) rfl, h1.cell (i := 5) rfl, h2.cell (i := 0) rfl, h2.cell (i := 1) rfl, h2.cell (i := 2) rfl, h2.cell (i := 3) rfl, h2.cell (i := 4) rfl, h2.cell (i := 5) rfl⟩
  have RX : Hid (Rd W.drew.heap.size W.drew (some ⟨w.heap.size, 2, none⟩) 4 4 1 (ints [a, b, c, d])) := Lib.hid (rd_cells4 (hb1.cell (i := 2) rfl) (hb1.cell (i := 3) rfl) (hb1.cell (i := 4) rfl) (hb1.cell (i := 5) rfl) hb1.lt)
  have RY : Hid (Rd W.drew.heap.size W.drew (some ⟨w.heap.size + 1, 2, none⟩) 4 4 1 (ints [a', b', c', d'])) := Lib.hid (rd_cells4 (hb2.cell (i := 2) rfl) (hb2.cell (i := 3) rfl) (hb2.cell (i := 4) rfl) (hb2.cell (i := 5) rfl) hb2.lt)
  clear hb1 hb2
  go_region_held3 (fun w' => w'.cell? ⟨w.heap.size, 0, none⟩ = some (.int .i64 e) ∧ w'.cell? ⟨w.heap.size, 1, none⟩ = some (.int .i64 s) ∧ w'.cell? ⟨w.heap.size, 2, none⟩ = some (.int .i64 a) ∧ w'.cell? ⟨w.heap.size, 3, none⟩ = some (.int .i64 b) ∧ w'.cell? ⟨w.heap.size, 4, none⟩ = some (.int .i64 c) ∧ w'.cell? ⟨w.heap.size, 5, none⟩ = some (.int .i64 d) ∧ w'.cell? ⟨w.heap.size + 1, 0, none⟩ = some (.int .i64 e') ∧ w'.cell? ⟨w.heap.size + 1, 1, none⟩ = some (.int .i64 s') ∧ w'.cell? ⟨w.heap.size + 1, 2, none⟩ = some (.int .i64 a') ∧ w'.cell? ⟨w.heap.size + 1, 3, none⟩ = some (.int .i64 b') ∧ w'.cell? ⟨w.heap.size + 1, 4, none⟩ = some (.int .i64 c') ∧ w'.cell? ⟨w.heap.size + 1, 5, none⟩ = some (.int .i64 d'))
    (first | exact KEEP.out _ (Frm.refl [] W).drew | exact KEEP.out _ ((Frm.refl [] W).drew.alloc _))
    (first | (go_at_call 53; refine (cmpI_any _ _ _).mono ?_; rintro e1 w1 ⟨rfl, rfl⟩) | (go_at_call 68; refine (cmpL_any _ _ _ _ _ [a, b, c, d] [a', b', c', d'] _ RX.out RY.out).mono ?_; rintro e1 w1 ⟨rfl, rfl⟩) | (go_at_call 52; refine (orL_any _ _ _ [cmpI e e', cmpI s s', cmpL [a, b, c, d] [a', b', c', d']] _ (rd_of_owns (owns_fullB W.drew 0 _ 1 3 _ _ rfl rfl (by decide) (Nat.zero_le _)) (Nat.le_refl _))).mono ?_; rintro e1 w1 ⟨rfl, rfl⟩))
  go_wp2_with fail
  go_ret
  refine ⟨?_, ⟨1, ⟨_, grow_drew_alloc HW.out _⟩⟩⟩
  rw [← HR.out]
  rfl

end Go.Proofs.Ytfndgiinniibfaa.Ind
