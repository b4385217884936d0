/- Contract of Alloc: the walk where a cell is added. -/
import Derived.Test.YtlpgonnionbkfaaWB
import Derived.Deep.RegionLaw
namespace Go.Proofs.Ytlpgonnionbkfaa
open Go.RowKit

section
variable {w : World} {hb : Nat} {cv : Value} {vs : List Value} {most : Int} {cs : List HC}

set_option maxRecDepth 100000 in
set_option maxHeartbeats 1000000 in
theorem alloc_data (h : HeapRep w hb 60 cv vs most cs) (k n : Int) (hk1 : 4 ≤ k) (hk2 : k ≤ 19) (v : Value) (xs : List Int) (hv : IntsAt w v xs) (hx : refersB (cs.length + 1) xs = true) (hm : (cs.length : Int) < most) (hmm : most ≤ 65536) :
    Calls Try.prog 10 #[.pointer (some ⟨hb, 0, none⟩), .agg #[.int .i64 k, .int .i64 n, v]] w fun e w' => e = .returned (.tuple #[.int .i64 cs.length, .int .i64 0]) ∧
      ∃ cv' v', HeapRep w' hb 60 cv' (vs ++ [v']) most (cs ++ [⟨k, n, xs⟩]) ∧ Frm (fpOf hb cv vs) w w' ∧ (∀ x ∈ fpOf hb cv' (vs ++ [v']), x ∈ fpOf hb cv vs ∨ w.heap.size ≤ x) := by
  obtain ⟨i0, hi, hz0, hz1, hz2⟩ := info_parts Try.info32
  obtain ⟨a, cap, rfl, hl⟩ := owns_shape h.row
  obtain ⟨a2, cap2, rfl, hl2⟩ := hv.shape
  have h0 := h.hd.cell (i := 0) rfl
  have h1 := h.hd.cell (i := 1) rfl
  have hsm := h.small
  have hhb : hb < w.heap.size := h.hd.lt
  have f0 : Frm [] w (w.alloc (.cells #[.int .i64 k, .int .i64 n, .slice a2 xs.length cap2] 32)).drew := ((Frm.refl _ _).alloc _).drew
  have hv0 := hv.frm f0 (by simp)
  have m0 : hb ≠ w.heap.size := by omega
  have hbox := (RowAt.made w 32 [.int .i64 k, .int .i64 n, .slice a2 xs.length cap2] #[.int .i64 k, .int .i64 n, .slice a2 xs.length cap2] rfl).drew
  have hxl : xs.length ≤ 1000000000000 := by
    simp only [refersB, Bool.and_eq_true, decide_eq_true_eq] at hx; omega
  have hdn : ∀ k, (Value.slice a cs.length cap).ownBlock = some k → k ≠ hb := by
    intro k hk e
    have := h.apart
    simp only [fpOf, hk, Option.toList_some, List.cons_append, List.nil_append, List.nodup_cons, List.mem_cons, not_or] at this
    exact this.1.1 e.symm
  have HX := Lib.hid hx
  have HH := Lib.hid h
  have HV := Lib.hid hv
  have HD := Lib.hid hdn
  have h1w := f0.cell h1 (by simp)
  have h0w := f0.cell h0 (by simp)
  clear h hv hx hdn
  have s0 := hbox.cell (i := 0) rfl
  have s1 := hbox.cell (i := 1) rfl
  have s2 := hbox.cell (i := 2) rfl
  have hw : IntKind.i64.wrap ((cs.length : Int) + 1) = (cs.length : Int) + 1 := IntWalk.i64_in _ (by omega)
  have hne : ((cs.length : Int) == most) = false := by rw [beq_eq_false_iff_ne]; omega
  have hd1 : decide (4 ≤ k) = true := by simpa using hk1
  have hd2 : decide (k ≤ 19) = true := by simpa using hk2
  go_enter Try.func10, Try.ntmps10
  go_wp2
  first
    | (go_region_with (first | (go_at_call 25; refine (refers_any _ xs _ _ hv0).mono ?_; rintro e w1 ⟨rfl, hf1⟩; rw [HX.out])))
    | fail
  clear hw
  all_goals
    have h0' := hf1.cell h0w (by simp)
    have h1' := hf1.cell h1w (by simp)
    go_wp2
    go_quiet (fail)
    go_wp2
    have F1 := (f0.trans hf1 (by simp)).drewN nq
    have b0' := hf1.cell s0 (by simp)
    have b1' := hf1.cell s1 (by simp)
    have b2' := hf1.cell s2 (by simp)
    have b0 : (w1.drewN nq).cell? ⟨w.heap.size, 0, none⟩ = some (.int .i64 k) := b0'
    have b1 : (w1.drewN nq).cell? ⟨w.heap.size, 1, none⟩ = some (.int .i64 n) := b1'
    have b2 : (w1.drewN nq).cell? ⟨w.heap.size, 2, none⟩ = some (.slice a2 xs.length cap2) := b2'
    have b3 : (w1.drewN nq).cell? ⟨hb, 1, none⟩ = some (.slice a cs.length cap) := h1'
    clear s0 s1 s2 hf1 hv0 h0w h1w f0 hbox b0' b1' b2' h0' h1'
    generalize w1.drewN nq = W1 at *
    have hgz : ∀ k : Nat, k < W1.heap.size → (W1.cell? ⟨w.heap.size, 0, none⟩).isSome := fun _ _ => by simp [b0]
    clear hgz
    go_region_law (first | (refine step_append_lies _ rfl (.tmp 48) (.tmp 51) 58 rfl 0 32 i0 _ 3 40 Try.underlying58 hi hz0 hz1 hz2 rfl (by decide) (.slice a cs.length cap) cs.length (flat cs vs) rfl (World.ownsRow.alloc (owns_frm HH.out.row (F1.drew.trans hf2 (by simp)) (by simp)) _) ⟨w2.heap.size, 0, none⟩ 1 1 [.int .i64 k, .int .i64 n, .slice a' xs.length c'] rfl rfl (cells_new w2 _ _) (by simp; exact ⟨rfl, rfl, rfl⟩) (by decide) (by unfold maxLen; omega) (by omega) (Nat.zero_le _) _ rfl ?_; intro g cap' w3 hown3 hgr3 hw3 hlt3; have hd3 := RowAt.of_block ((HH.out.hd.frm (F1.drew.trans hf2 (by simp)) (by simp)).alloc (.cells #[.int .i64 k, .int .i64 n, .slice a' xs.length c'] 32)) (hgr3.block hb (by have := (F1.drew.trans hf2 (by simp)).size; simp; omega) (fun e => HD.out hb e.symm rfl)); have d1 := hd3.cell (i := 1) rfl; have z1 := hd3.frozen 1) | (go_simp; go_at_call 26; refine (cloneCell_any _ _ _ xs _ (HV.out.frm F1.drew (by simp)) hxl).mono ?_; rintro e w2 ⟨a', c', rfl, hown2, hf2⟩; have b3' := hf2.cell (show W1.drew.cell? ⟨hb, 1, none⟩ = some (.slice a cs.length cap) from b3) (by simp); have nb : hb ≠ w2.heap.size := Nat.ne_of_lt (Nat.lt_of_lt_of_le hhb (Nat.le_trans F1.size hf2.size)); have b3a := ((Frm.refl [] w2).alloc (.cells #[.int .i64 k, .int .i64 n, .slice a' xs.length c'] 32)).cell b3' (by simp)))
    all_goals
      go_wp2
      go_ret2
      have R := alloc_close HH.out (F1.drew.trans hf2 (by simp)) F1.size ⟨k, n, xs⟩ _ _ hown2 hgr3 hown3 hw3 (by omega)
      exact ⟨rfl, _, _, R.1, R.2.1, R.2.2⟩

end
end Go.Proofs.Ytlpgonnionbkfaa
