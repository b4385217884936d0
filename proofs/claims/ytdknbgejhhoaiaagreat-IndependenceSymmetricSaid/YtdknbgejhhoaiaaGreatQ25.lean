/- Sorting rows of marks; their equality. (Cut from R7 and KT.) -/
import Derived.Test.YtdknbgejhhoaiaaGreatQ23
import Derived.Test.YtdknbgejhhoaiaaGreatQ22
import Derived.Test.YtdknbgejhhoaiaaGreatQ24
namespace Go.Proofs.YtdknbgejhhoaiaaGreat.Ind
open Go.Shelf Go.RowKit Go.Lib Go.Sort

theorem eqMk (w : World) (x y : Ar) : (Op.equalIn 10000 147 (.agg (arE x).toArray) (.agg (arE y).toArray)).run Tryz.prog w = .ok (decide (x = y)) w := by
  have u3 := Tryz.underlying3
  have hS : Tryz.prog.underlying 147 = some (.struct (Tryz.prog.fieldsOf 147)) := by kernel_rfl
  have hp : Tryz.prog.stoodInHeld 147 = false := by kernel_rfl
  obtain ⟨n, hn⟩ : ∃ n, 10000 = n + 1 + 1 := ⟨9998, rfl⟩
  obtain ⟨e, s⟩ := x
  obtain ⟨e', s'⟩ := y
  simp only [arE]
  rw [hn, run_equalIn_agg w _ _ _ _ hS hp]
  clear hn
  simp only [Program.fieldsOf, Tryz.underlying147]
  go_simp
  by_cases h0 : e = e' <;> by_cases h1 : s = s' <;> simp [h0, h1]
theorem guardMk : Tryz.prog.eqGuardType Tryz.prog.depth 147 = false := by kernel_rfl
set_option linter.unusedSimpArgs false in
set_option maxRecDepth 100000 in
set_option maxHeartbeats 4000000 in
theorem cmpMk_any (x y : Ar) (w : World) :
    Calls Tryz.prog 110 #[.agg (arE x).toArray, .agg (arE y).toArray] w fun e w' => e = .returned (.int .i64 (cmpAr x y)) ∧ ∃ q os, w' = grow (w.drewN q) os := by
  obtain ⟨e, s⟩ := x
  obtain ⟨e', s'⟩ := y
  obtain ⟨R, hR⟩ : ∃ R, cmpAr (e, s) (e', s') = R := ⟨_, rfl⟩
  rw [hR]
  have HR := Lib.hid hR
  clear hR
  unfold arE
  simp only
  have hb1 := ((RowAt.made w 147 [.int .i64 e, .int .i64 s] #[.int .i64 e, .int .i64 s] rfl).alloc (.cells #[.int .i64 e', .int .i64 s'] 147))
  have hb2 := RowAt.made (w.alloc (.cells #[.int .i64 e, .int .i64 s] 147)) 147 [.int .i64 e', .int .i64 s'] #[.int .i64 e', .int .i64 s'] rfl
  rw [show (w.alloc (.cells #[.int .i64 e, .int .i64 s] 147)).heap.size = w.heap.size + 1 from by simp] at hb2
  go_enter Tryz.func110, Tryz.ntmps110
  go_wp2_with fail
  have HW : Hid (((w.alloc (.cells #[.int .i64 e, .int .i64 s] 147)).alloc (.cells #[.int .i64 e', .int .i64 s'] 147)) = grow w #[.cells #[.int .i64 e, .int .i64 s] 147, .cells #[.int .i64 e', .int .i64 s'] 147]) := Lib.hid (by rw [alloc_eq_grow, alloc_eq_grow, grow_grow]; rfl)
  generalize hX : ((w.alloc (.cells #[.int .i64 e, .int .i64 s] 147)).alloc (.cells #[.int .i64 e', .int .i64 s'] 147)) = W at *
  have KEEP : Hid (∀ w', Frm [] W w' → w'.cell? ⟨w.heap.size, 0, none⟩ = some (.int .i64 e) ∧ w'.cell? ⟨w.heap.size, 1, none⟩ = some (.int .i64 s) ∧ w'.cell? ⟨w.heap.size + 1, 0, none⟩ = some (.int .i64 e') ∧ w'.cell? ⟨w.heap.size + 1, 1, none⟩ = some (.int .i64 s')) := Lib.hid fun w' hf => by
    have h1 := hb1.frm hf (by simp)
    have h2 := hb2.frm hf (by simp)
    exact ⟨h1.cell (i := 0) rfl, h1.cell (i := 1) rfl, h2.cell (i := 0) rfl, h2.cell (i := 1) rfl⟩
  clear hb1 hb2
  go_region_held3 (fun w' => w'.cell? ⟨w.heap.size, 0, none⟩ = some (.int .i64 e) ∧ w'.cell? ⟨w.heap.size, 1, none⟩ = some (.int .i64 s) ∧ w'.cell? ⟨w.heap.size + 1, 0, none⟩ = some (.int .i64 e') ∧ w'.cell? ⟨w.heap.size + 1, 1, none⟩ = some (.int .i64 s'))
    (first | exact KEEP.out _ (Frm.refl [] W).drew | exact KEEP.out _ ((Frm.refl [] W).drew.alloc _))
    (first | (go_at_call 39; refine (cmpI_any _ _ _).mono ?_; rintro e1 w1 ⟨rfl, rfl⟩) | (go_at_call 38; refine (orL_any _ _ _ [cmpI e e', cmpI s s'] _ (rd_of_owns (owns_fullB W.drew 0 _ 1 2 _ _ rfl rfl (by decide) (Nat.zero_le _)) (Nat.le_refl _))).mono ?_; rintro e1 w1 ⟨rfl, rfl⟩))
  go_wp2_with fail
  go_ret
  refine ⟨?_, ⟨1, ⟨_, grow_drew_alloc HW.out _⟩⟩⟩
  rw [← HR.out]
  rfl

theorem egMk : ∀ args w, (callFunc 110 args).run Tryz.prog w = .ok (.enter 110 args) w := enters_of Tryz.func110 (by kernel_rfl) rfl
theorem sortMk_any (B : Nat) (a : Option Addr) (cap n : Nat) (xs : List Ar) (w : World) (h : w.ownsRow B 147 2 (.slice a n cap) n (xs.flatMap arE)) (hl : xs.length = n) (hn : n ≤ 10000000) :
    Calls Tryz.prog 109 #[.slice a n cap, .func (.func 110) #[] #[]] w fun e w' => (e = .returned (.tuple #[]) ∧ w'.ownsRow B 147 2 (.slice a n cap) n ((xs.mergeSort fun x y => !ltOf cmpAr y x).flatMap arE)) ∧ Frm (Value.slice a n cap).ownBlock.toList w w' := by
  subst hl
  rcases h.2 with ⟨h0, h1⟩ | ⟨g, cp, cur, h0, hb, hg, h1, h2, h3, h4⟩
  · have hx : xs = [] := List.eq_nil_of_length_eq_zero h1
    subst hx
    refine (AnyF.slices_SortFunc_none Tryz.sortMk a cap _ w).mono ?_
    rintro e w' ⟨rfl, rfl⟩
    refine ⟨⟨rfl, ?_⟩, Frm.refl _ _⟩
    rw [List.mergeSort_nil]
    exact h
  · obtain ⟨rfl, rfl⟩ : a = some ⟨g, 0, none⟩ ∧ cap = cp := by simpa using h0
    have hH := holdsK_of (enc := arE) (k := 2) (fun _ => rfl) xs hg h4
    have hgl := (Array.getElem?_eq_some_iff.1 hg).1
    refine (AnyQ.slices_SortFunc_total Tryz.sortMk 2 Tryz.isAgg147 Tryz.sizeOf147 arE (fun _ => rfl) oneAr cmpAr (swo_of sto_ar) 110 #[] g 0 cap xs.toArray w egMk (fun _ _ _ _ x y => cmpMk_any x y _) hH hgl (by simp; omega) sto_ar.tri).mono ?_
    rintro e w' ⟨rfl, k, os, rfl⟩
    refine ⟨⟨rfl, ?_⟩, ?_⟩
    · have := owns_sortedK (w := w) (n := k) (os := os) (enc := arE) (k := 2) (cap := cap) (fun _ => rfl) (xs.mergeSort fun x y => !ltOf cmpAr y x) hb hg (by rw [List.length_mergeSort]; exact h1) h2 h3
      rw [List.length_mergeSort] at this
      exact this
    · have := frm_sortedK (w := w) (g := g) (n := k) (os := os) (flatK arE 2 (xs.mergeSort fun x y => !ltOf cmpAr y x).toArray)
      exact this.mono (by simp [Value.ownBlock])

end Go.Proofs.YtdknbgejhhoaiaaGreat.Ind
