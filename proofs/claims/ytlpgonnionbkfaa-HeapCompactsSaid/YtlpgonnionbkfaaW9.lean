/- Contracts of Alloc. -/
import Derived.Test.YtlpgonnionbkfaaW8
namespace Go.Proofs.Ytlpgonnionbkfaa
open Go.RowKit

section
variable {w : World} {hb : Nat} {cv : Value} {vs : List Value} {most : Int} {cs : List HC}

theorem alloc_kind (k n : Int) (v : Value) (hk1 : k ≠ 1) (hk : k < 4 ∨ 19 < k) :
    Calls Try.prog 10 #[.pointer (some ⟨hb, 0, none⟩), .agg #[.int .i64 k, .int .i64 n, v]] w fun e w' => e = .returned (.tuple #[.int .i64 0, .int .i64 1]) ∧ Frm [] w w' := by
  have e1 : (k == 1) = false := by simpa using hk1
  have e2 : (k != 1) = true := by simpa using hk1
  clear hk1
  rcases hk with hk | hk
  · have hd : decide (4 ≤ k) = false := by simp; omega
    go_enter Try.func10, Try.ntmps10
    go_wp2
    go_quiet (fail)
    go_wp2
    go_ret2
    exact ⟨rfl, ((Frm.refl _ _).alloc _).drewN _⟩
  · have hd : 4 ≤ k := by omega
    have hd1 : decide (k ≤ 19) = false := by simp; omega
    go_enter Try.func10, Try.ntmps10
    go_wp2
    go_quiet (fail)
    go_wp2
    go_ret2
    exact ⟨rfl, ((Frm.refl _ _).alloc _).drewN _⟩

set_option maxHeartbeats 400000 in
theorem alloc_refs (h : HeapRep w hb 60 cv vs most cs) (k n : Int) (v : Value) (xs : List Int) (hv : IntsAt w v xs) (hk : k = 1 ∨ (4 ≤ k ∧ k ≤ 19)) (hx : refersB (cs.length + 1) xs = false) :
    Calls Try.prog 10 #[.pointer (some ⟨hb, 0, none⟩), .agg #[.int .i64 k, .int .i64 n, v]] w fun e w' => e = .returned (.tuple #[.int .i64 0, .int .i64 1]) ∧ Frm [] w w' := by
  obtain ⟨a, cap, rfl, hl⟩ := owns_shape h.row
  obtain ⟨a2, cap2, rfl, hl2⟩ := hv.shape
  have h1 := h.hd.cell (i := 1) rfl
  have hsm := h.small
  have hhb : hb < w.heap.size := h.hd.lt
  have f0 : Frm [] w (w.alloc (.cells #[.int .i64 k, .int .i64 n, .slice a2 xs.length cap2] 32)).drew := ((Frm.refl _ _).alloc _).drew
  have hv0 := hv.frm f0 (by simp)
  have m0 : hb ≠ w.heap.size := by omega
  have hbox := (RowAt.made w 32 [.int .i64 k, .int .i64 n, .slice a2 xs.length cap2] #[.int .i64 k, .int .i64 n, .slice a2 xs.length cap2] rfl).drew
  have HX := Lib.hid hx
  have h1w := f0.cell h1 (by simp)
  clear h hv hx
  have s0 := hbox.cell (i := 0) rfl
  have s1 := hbox.cell (i := 1) rfl
  have s2 := hbox.cell (i := 2) rfl
  rcases hk with rfl | ⟨hk1, hk2⟩
  · have hw : IntKind.i64.wrap ((cs.length : Int) + 1) = (cs.length : Int) + 1 := IntWalk.i64_in _ (by omega)
    go_enter Try.func10, Try.ntmps10
    go_wp2
    go_region_held3 (fun w' => w'.cell? ⟨w.heap.size, 0, none⟩ = some (.int .i64 1) ∧ w'.cell? ⟨w.heap.size, 2, none⟩ = some (.slice a2 xs.length cap2) ∧ w'.cell? ⟨hb, 1, none⟩ = some (.slice a cs.length cap)) (first | exact ⟨s0, s2, h1w⟩ | exact ⟨hf1.cell s0 (by simp), hf1.cell s2 (by simp), hf1.cell h1w (by simp)⟩) (first | (go_at_call 25; refine (refers_any _ xs _ _ hv0).mono ?_; rintro e w1 ⟨rfl, hf1⟩; rw [HX.out]))
    clear hw
    go_wp2
    go_ret2
    exact ⟨rfl, f0.trans hf1 (by simp)⟩
  · have hw : IntKind.i64.wrap ((cs.length : Int) + 1) = (cs.length : Int) + 1 := IntWalk.i64_in _ (by omega)
    have hd1 : decide (4 ≤ k) = true := by simpa using hk1
    have hd2 : decide (k ≤ 19) = true := by simpa using hk2
    go_enter Try.func10, Try.ntmps10
    go_wp2
    first
      | (go_region_with (first | (go_at_call 25; refine (refers_any _ xs _ _ hv0).mono ?_; rintro e w1 ⟨rfl, hf1⟩; rw [HX.out])))
      | fail
    clear hw
    all_goals
      go_wp2
      go_ret2
      exact ⟨rfl, f0.trans hf1 (by simp)⟩

set_option maxHeartbeats 1000000 in
theorem alloc_full (h : HeapRep w hb 60 cv vs most cs) (k n : Int) (v : Value) (xs : List Int) (hv : IntsAt w v xs) (hk : k = 1 ∨ (4 ≤ k ∧ k ≤ 19)) (hx : refersB (cs.length + 1) xs = true) (hm : (cs.length : Int) = most) :
    Calls Try.prog 10 #[.pointer (some ⟨hb, 0, none⟩), .agg #[.int .i64 k, .int .i64 n, v]] w fun e w' => e = .returned (.tuple #[.int .i64 0, .int .i64 10]) ∧ Frm [] w w' := by
  subst hm
  obtain ⟨a, cap, rfl, hl⟩ := owns_shape h.row
  obtain ⟨a2, cap2, rfl, hl2⟩ := hv.shape
  have h0 := h.hd.cell (i := 0) rfl
  have h1 := h.hd.cell (i := 1) rfl
  have hsm := h.small
  have hhb : hb < w.heap.size := h.hd.lt
  have f0 : Frm [] w (w.alloc (.cells #[.int .i64 k, .int .i64 n, .slice a2 xs.length cap2] 32)).drew := ((Frm.refl _ _).alloc _).drew
  have hv0 := hv.frm f0 (by simp)
  have m0 : hb ≠ w.heap.size := by omega
  have hbox := (RowAt.made w 32 [.int .i64 k, .int .i64 n, .slice a2 xs.length cap2] #[.int .i64 k, .int .i64 n, .slice a2 xs.length cap2] rfl).drew
  have HX := Lib.hid hx
  have HH := Lib.hid h
  have h1w := f0.cell h1 (by simp)
  have h0w := f0.cell h0 (by simp)
  clear h hv hx
  have s0 := hbox.cell (i := 0) rfl
  have s1 := hbox.cell (i := 1) rfl
  have s2 := hbox.cell (i := 2) rfl
  have hw : IntKind.i64.wrap ((cs.length : Int) + 1) = (cs.length : Int) + 1 := IntWalk.i64_in _ (by omega)
  rcases hk with rfl | ⟨hk1, hk2⟩
  · go_enter Try.func10, Try.ntmps10
    go_wp2
    go_region_held3 (fun w' => w'.cell? ⟨w.heap.size, 0, none⟩ = some (.int .i64 1) ∧ w'.cell? ⟨w.heap.size, 2, none⟩ = some (.slice a2 xs.length cap2) ∧ w'.cell? ⟨hb, 1, none⟩ = some (.slice a cs.length cap)) (first | exact ⟨s0, s2, h1w⟩ | exact ⟨hf1.cell s0 (by simp), hf1.cell s2 (by simp), hf1.cell h1w (by simp)⟩) (first | (go_at_call 25; refine (refers_any _ xs _ _ hv0).mono ?_; rintro e w1 ⟨rfl, hf1⟩; rw [HX.out]))
    clear hw
    have h0' := hf1.cell h0w (by simp)
    go_wp2
    go_quiet (fail)
    go_wp2
    go_ret2
    exact ⟨rfl, (f0.trans hf1 (by simp)).drewN _⟩
  · have hd1 : decide (4 ≤ k) = true := by simpa using hk1
    have hd2 : decide (k ≤ 19) = true := by simpa using hk2
    go_enter Try.func10, Try.ntmps10
    go_wp2
    first
      | (go_region_with (first | (go_at_call 25; refine (refers_any _ xs _ _ hv0).mono ?_; rintro e w1 ⟨rfl, hf1⟩; rw [HX.out])))
      | fail
    clear hw
    all_goals
      have h0' := hf1.cell h0w (by simp)
      have h1' := hf1.cell h1w (by simp)
      go_wp2
      go_quiet (fail)
      go_wp2
      go_ret2
      exact ⟨rfl, (f0.trans hf1 (by simp)).drewN _⟩

end
end Go.Proofs.Ytlpgonnionbkfaa
