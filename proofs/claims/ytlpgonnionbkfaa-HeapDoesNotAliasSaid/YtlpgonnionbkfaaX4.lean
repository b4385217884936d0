/- HeapDoesNotAlias: the walk. -/
import Derived.Test.YtlpgonnionbkfaaX3
namespace Go.Proofs.Ytlpgonnionbkfaa
open Go.RowKit

theorem ints_frm_ge {fp : List Nat} {w w' : World} {v : Value} {xs : List Int} (h : IntsAt w v xs) (hf : Frm fp w w') {L : Nat} (hv : v.ownBlock = some L) (hn : L ∉ fp) : IntsAt w' v xs :=
  h.frm hf (fun k hk => by rw [hv] at hk; cases hk; exact hn)

theorem ints_new (w : World) (xs : List Int) (hl : xs.length ≤ maxLen) : IntsAt (w.alloc (.cells (ints xs).toArray 3)) (.slice (some ⟨w.heap.size, 0, none⟩) xs.length xs.length) xs :=
  ints_of_owns (owns_made_full w 3 1 (ints xs) xs.length (by simp [ints]) hl)

set_option maxRecDepth 100000 in
set_option maxHeartbeats 2000000 in
theorem alias_walk (a0 : Int) (ha : 0 ≤ a0) (hb : a0 ≤ 255) (w : World) :
    Calls Try.prog 5 #[.int .u8 a0] w fun e w' => e = .returned (.bool true) ∧ Frm [] w w' := by
  go_enter Try.func5, Try.ntmps5
  go_wp2_with fail
  refine (hr_new 10 _ (by decide) (by decide)).mono ?_
  rintro e w1 ⟨rfl, f1, h1⟩
  go_wp2_with fail
  refine (awake_any _).mono ?_
  rintro e w2 ⟨rfl, f2⟩
  have h2 := h1.frm f2 (by simp)
  have F2 := f1.trans f2 (by simp)
  clear f1 f2 h1
  go_wp2_with fail
  refine (hr_alloc h2 4 a0 _ [] (nil_ints _) (.inr (by decide)) (by decide) (by decide) (by decide)).mono ?_
  rintro e w3 ⟨rfl, fp3, h3, f3, s3⟩
  have g3 := ge_step (B := w.heap.size) (fp := [w.heap.size]) (by simp) F2.size s3
  have F3 := F2.all f3 (B := w.heap.size) (by simp) rfl
  clear F2 f3 s3 h2
  have fa : Frm [] w3 (w3.alloc (.cells #[.int .i64 0, .int .i64 0] 3)) := (Frm.refl _ _).alloc _
  have i3 : IntsAt (w3.alloc (.cells #[.int .i64 0, .int .i64 0] 3)) (.slice (some ⟨w3.heap.size, 0, none⟩) 2 2) [0, 0] := ints_new w3 [0, 0] (by decide)
  have h3' := h3.frm fa (by simp)
  have F3' := F3.trans fa (by simp)
  clear F3 fa h3
  go_wp2_with fail
  refine (spare_any _ 77 [0, 0] _ i3 (by decide) (by decide)).mono ?_
  rintro e w4 ⟨g, rfl, hg, hr4, f4⟩
  have h4 := h3'.frm f4 (by simp)
  have F4 := F3'.trans f4 (by simp)
  have hg4 : g ∉ fp3 := fun hm => by have := h3'.lt _ hm; omega
  have hgw : w.heap.size ≤ g := by have := F3'.size; omega
  clear F3' f4 i3 h3'
  have i4 := ints_of_row (n := 2) (cap := 5) (ys := [77, 77, 77]) hr4 rfl (by decide) (by decide)
  go_wp2_with fail
  refine (hr_alloc h4 4 0 _ [0, 0] i4 (.inr (by decide)) rfl (by simp) (by decide)).mono ?_
  rintro e w5 ⟨rfl, fp5, h5, f5, s5⟩
  have g5 := ge_step g3 F4.size s5
  have F5 := F4.all f5 g3 rfl
  have r5 := hr4.frm f5 hg4
  have L5 := notin_step hg4 hr4.lt s5
  clear F4 f5 s5 g3 hg4 h4 i4 hr4
  have fb : Frm [] w5 (w5.alloc (.cells #[.int .i64 0, .int .i64 0] 3)) := (Frm.refl _ _).alloc _
  have i5 : IntsAt (w5.alloc (.cells #[.int .i64 0, .int .i64 0] 3)) (.slice (some ⟨w5.heap.size, 0, none⟩) 2 2) [0, 0] := ints_new w5 [0, 0] (by decide)
  have h5' := h5.frm fb (by simp)
  have r5' := r5.frm fb (by simp)
  have F5' := F5.trans fb (by simp)
  clear F5 fb h5 r5
  go_wp2_with fail
  refine (unchanged_any _ 77 [0, 0] g _ r5' i5 (by decide)).mono ?_
  rintro e w6 ⟨rfl, n6, rfl⟩
  clear i5
  have c5 := r5'.cell (i := 0) rfl
  have z5 := r5'.frozen 0
  go_wp2_with fail
  have f6 : Frm [g] (w5.alloc (.cells #[.int .i64 0, .int .i64 0] 3)) (((w5.alloc (.cells #[.int .i64 0, .int .i64 0] 3)).drewN n6).setCell ⟨g, 0, none⟩ (.int .i64 9)) := ((Frm.refl _ _).drewN _).setCell (.inl (by simp)) _
  have h6 := h5'.frm f6 (by intro k hk e; simp at e; subst e; exact L5 hk)
  have F6 := F5'.trans f6 (by intro x hx; simp at hx; exact .inr (by omega))
  clear f6 c5 z5 r5' h5' F5'
  generalize (((w5.alloc (.cells #[.int .i64 0, .int .i64 0] 3)).drewN n6).setCell ⟨g, 0, none⟩ (.int .i64 9)) = W6 at *
  refine (hr_read h6 1 1 ⟨4, 0, [0, 0]⟩ (by simp) rfl rfl (by decide)).mono ?_
  rintro e w7 ⟨a7, c7, rfl, own7, f7⟩
  obtain ⟨g7, cp7, hs7, _, _, hr7⟩ := owns_some (owns_base own7) (by decide)
  obtain ⟨rfl, rfl⟩ : a7 = some ⟨g7, 0, none⟩ ∧ c7 = cp7 := by simpa using hs7
  have hg7 : W6.heap.size ≤ g7 := (rowAt_of_owns own7).1
  have ii7 := ints_of_owns (xs := [0, 0]) own7
  have h7 := h6.frm f7 (by simp)
  have F7 := F6.trans f7 (by simp)
  have hn7 : g7 ∉ fp5 := fun hm => by have := h6.lt _ hm; omega
  have hwg7 : w.heap.size ≤ g7 := by have := F6.size; omega
  clear f7 F6 h6 own7 hs7
  have fc : Frm [] w7 ((w7.alloc (.cells #[.int .i64 4, .int .i64 0, .slice (some ⟨g7, 0, none⟩) 2 c7] 32)).alloc (.cells #[.int .i64 0, .int .i64 0] 3)) := ((Frm.refl _ _).alloc _).alloc _
  have i7 : IntsAt ((w7.alloc (.cells #[.int .i64 4, .int .i64 0, .slice (some ⟨g7, 0, none⟩) 2 c7] 32)).alloc (.cells #[.int .i64 0, .int .i64 0] 3)) (.slice (some ⟨w7.heap.size + 1, 0, none⟩) 2 2) [0, 0] := by
    have := ints_new (w7.alloc (.cells #[.int .i64 4, .int .i64 0, .slice (some ⟨g7, 0, none⟩) 2 c7] 32)) [0, 0] (by decide)
    simpa [ints] using this
  have q7 := (RowAt.made w7 32 [.int .i64 4, .int .i64 0, .slice (some ⟨g7, 0, none⟩) 2 c7] #[.int .i64 4, .int .i64 0, .slice (some ⟨g7, 0, none⟩) 2 c7] rfl).alloc (.cells #[.int .i64 0, .int .i64 0] 3)
  have j7 := ii7.frm fc (by simp)
  have r7' := hr7.frm fc (by simp)
  have h7' := h7.frm fc (by simp)
  have F7' := F7.trans fc (by simp)
  have e7 := equal_any _ _ [0, 0] [0, 0] _ j7 i7
  rw [decide_eq_true rfl] at e7
  clear fc F7 h7 hr7 ii7 i7 j7
  go_wp2_with fail
  refine e7.mono ?_
  rintro e w8 ⟨rfl, n8, rfl⟩
  clear e7
  have q72 := q7.cell (i := 2) rfl
  have c7' := r7'.cell (i := 1) rfl
  have z7 := r7'.frozen 1
  go_wp2_with fail
  have f8 : Frm [g7] ((w7.alloc (.cells #[.int .i64 4, .int .i64 0, .slice (some ⟨g7, 0, none⟩) 2 c7] 32)).alloc (.cells #[.int .i64 0, .int .i64 0] 3)) ((((w7.alloc (.cells #[.int .i64 4, .int .i64 0, .slice (some ⟨g7, 0, none⟩) 2 c7] 32)).alloc (.cells #[.int .i64 0, .int .i64 0] 3)).drewN n8).setCell ⟨g7, 1, none⟩ (.int .i64 5)) := ((Frm.refl _ _).drewN _).setCell (.inl (by simp)) _
  have h8 := h7'.frm f8 (by intro k hk e; simp at e; subst e; exact hn7 hk)
  have F8 := F7'.trans f8 (by intro x hx; simp at hx; exact .inr (by omega))
  clear f8 h7' F7' q7 q72 c7' z7 r7'
  generalize ((((w7.alloc (.cells #[.int .i64 4, .int .i64 0, .slice (some ⟨g7, 0, none⟩) 2 c7] 32)).alloc (.cells #[.int .i64 0, .int .i64 0] 3)).drewN n8).setCell ⟨g7, 1, none⟩ (.int .i64 5)) = W8 at *
  refine (hr_read h8 1 1 ⟨4, 0, [0, 0]⟩ (by simp) rfl rfl (by decide)).mono ?_
  rintro e w9 ⟨a9, c9, rfl, own9, f9⟩
  have ii9 := ints_of_owns (xs := [0, 0]) own9
  have F9 := F8.trans f9 (by simp)
  clear f9 F8 h8 own9
  have fd : Frm [] w9 ((w9.alloc (.cells #[.int .i64 4, .int .i64 0, .slice a9 2 c9] 32)).alloc (.cells #[.int .i64 0, .int .i64 0] 3)) := ((Frm.refl _ _).alloc _).alloc _
  have i9 : IntsAt ((w9.alloc (.cells #[.int .i64 4, .int .i64 0, .slice a9 2 c9] 32)).alloc (.cells #[.int .i64 0, .int .i64 0] 3)) (.slice (some ⟨w9.heap.size + 1, 0, none⟩) 2 2) [0, 0] := by
    have := ints_new (w9.alloc (.cells #[.int .i64 4, .int .i64 0, .slice a9 2 c9] 32)) [0, 0] (by decide)
    simpa [ints] using this
  have j9 := ii9.frm fd (by simp)
  have F9' := F9.trans fd (by simp)
  have e9 := equal_any _ _ [0, 0] [0, 0] _ j9 i9
  rw [decide_eq_true rfl] at e9
  clear fd F9 ii9 i9 j9
  go_wp2_with fail
  refine e9.mono ?_
  rintro e w10 ⟨rfl, n10, rfl⟩
  clear e9
  go_wp2
  go_ret
  exact ⟨rfl, F9'.drewN _⟩
end Go.Proofs.Ytlpgonnionbkfaa
