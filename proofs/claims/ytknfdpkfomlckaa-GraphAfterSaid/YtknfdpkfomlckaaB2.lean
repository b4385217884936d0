/- Contract of flow.New. Printed by b2.py. -/
import Derived.Test.YtknfdpkfomlckaaB1
import Derived.Test.YtknfdpkfomlckaaW2
namespace Go.Proofs.Ytknfdpkfomlckaa
open Go.RowKit

set_option linter.unusedSimpArgs false in
set_option maxRecDepth 100000 in
set_option maxHeartbeats 4000000 in
theorem wnew_any (a : Option Addr) (cap n : Nat) (w : World) (hn : n ≤ 100000) :
    Calls Try.prog 59 #[.agg #[.slice a n cap]] w fun e w' => ∃ wb gs, e = .returned (.pointer (some ⟨wb, 0, none⟩)) ∧ WkAt w.heap.size w' wb gs a cap n 0 (List.replicate n 0) ∧ Frm [] w w' := by
  have f0 : Frm [] w (w.alloc (.cells #[.slice a n cap] 25)) := (Frm.refl [] w).alloc _
  have hb0 := (box1 w (.slice a n cap) 25).cell (i := 0) rfl
  have C0 := Lib.hid hb0
  have hs0 : (w.alloc (.cells #[.slice a n cap] 25)).heap.size = w.heap.size + 1 := by simp only [World.alloc, Array.size_push]
  go_enter Try.func59, Try.ntmps59
  go_wp2_with fail
  obtain ⟨w0, hw0⟩ : ∃ x, x = w.alloc (.cells #[.slice a n cap] 25) := ⟨_, rfl⟩
  rw [← hw0] at C0 f0 hs0 hb0 ⊢
  have HF0 := Lib.hid f0
  clear hw0 f0
  refine wp_region_held_drew (S := fun w' => w'.cell? ⟨w.heap.size, 0, none⟩ = some (.slice a n cap)) (by kernel_rfl) (C0.out) ?_
  intro hHeld
  refine wpAnyH_take (i := 0) (v := ?_) rfl (by kernel_rfl) (by kernel_rfl) (by kernel_rfl) (fun _ _ _ h => h) (Or.inl ⟨by rfl, ?_⟩) (by assumption) ?_
  rotate_left
  · intro w9 hS9
    try dsimp only at hS9
    go_split_ands
    go_simp
    try with_reducible rfl
  try simp only [Act.put, List.getElem_toArray, List.getElem_cons_succ, List.getElem_cons_zero, List.setIfInBounds_toArray, List.set_cons_zero, List.set_cons_succ]
  refine wpAnyH_take (i := 1) (v := ?_) rfl (by kernel_rfl) (by kernel_rfl) (by kernel_rfl) (fun _ _ _ h => h) (Or.inl ⟨by rfl, ?_⟩) (by assumption) ?_
  rotate_left
  · intro w9 hS9
    try dsimp only at hS9
    go_split_ands
    go_simp
    try with_reducible rfl
  try simp only [Act.put, List.getElem_toArray, List.getElem_cons_succ, List.getElem_cons_zero, List.setIfInBounds_toArray, List.set_cons_zero, List.set_cons_succ]
  refine wpAnyH_take (i := 2) (v := ?_) rfl (by kernel_rfl) (by kernel_rfl) (by kernel_rfl) (fun _ _ _ h => h) (Or.inl ⟨by rfl, ?_⟩) (by assumption) ?_
  rotate_left
  · intro w9 hS9
    try dsimp only at hS9
    go_split_ands
    go_simp
    try with_reducible rfl
  try simp only [Act.put, List.getElem_toArray, List.getElem_cons_succ, List.getElem_cons_zero, List.setIfInBounds_toArray, List.set_cons_zero, List.set_cons_succ]
  refine wpAnyH_take (i := 3) (v := ?_) rfl (by kernel_rfl) (by kernel_rfl) (by kernel_rfl) (fun _ _ _ h => h) (Or.inl ⟨by rfl, ?_⟩) (by assumption) ?_
  rotate_left
  · intro w9 hS9
    try dsimp only at hS9
    go_split_ands
    go_simp
    try with_reducible rfl
  try simp only [Act.put, List.getElem_toArray, List.getElem_cons_succ, List.getElem_cons_zero, List.setIfInBounds_toArray, List.set_cons_zero, List.set_cons_succ]
  refine wpAnyH_ready (rs := [4]) (by kernel_rfl) (by simp) ?_
  refine AllReadyH.cons rfl (fun K hK => ?_) AllReadyH.nil
  refine step_make_i _ rfl (.tmp 6) rfl _ n rfl rfl (by omega) ?_
  intro w1 hown1 hf1 hsz1
  refine hK.out _ _ ?_ (fun hHeld => ?_)
  · exact hf1.cell C0.out (by simp)
  clear hK K
  try simp only [Act.put, List.getElem_toArray, List.getElem_cons_succ, List.getElem_cons_zero, List.setIfInBounds_toArray, List.set_cons_zero, List.set_cons_succ]
  refine wpAnyH_take (i := 5) (v := ?_) rfl (by kernel_rfl) (by kernel_rfl) (by kernel_rfl) (fun _ _ _ h => h) (Or.inl ⟨by rfl, ?_⟩) (by assumption) ?_
  rotate_left
  · intro w9 hS9
    try dsimp only at hS9
    go_split_ands
    go_simp
    try with_reducible rfl
  try simp only [Act.put, List.getElem_toArray, List.getElem_cons_succ, List.getElem_cons_zero, List.setIfInBounds_toArray, List.set_cons_zero, List.set_cons_succ]
  refine wpAnyH_ready (rs := [6]) (by kernel_rfl) (by simp) ?_
  refine AllReadyH.cons rfl (fun K hK => ?_) AllReadyH.nil
  go_simp
  have hf9 : Frm [] w1 (w1.alloc (.cells #[.slice a n cap, .slice (some ⟨w.heap.size + 1, 0, none⟩) n n, .int .i64 0] 86)) := (Frm.refl [] w1).alloc _
  refine hK.out _ _ ?_ (fun hHeld => ?_)
  · exact hf9.cell (hf1.cell C0.out (by simp)) (by simp)
  clear hK K
  try simp only [Act.put, List.getElem_toArray, List.getElem_cons_succ, List.getElem_cons_zero, List.setIfInBounds_toArray, List.set_cons_zero, List.set_cons_succ]
  refine wpAnyH_take (i := 7) (v := ?_) rfl (by kernel_rfl) (by kernel_rfl) (by kernel_rfl) (fun _ _ _ h => h) (Or.inl ⟨by rfl, ?_⟩) (by assumption) ?_
  rotate_left
  · intro w9 hS9
    try dsimp only at hS9
    go_split_ands
    go_simp
    try with_reducible rfl
  try simp only [Act.put, List.getElem_toArray, List.getElem_cons_succ, List.getElem_cons_zero, List.setIfInBounds_toArray, List.set_cons_zero, List.set_cons_succ]
  refine wpAnyH_done (by kernel_rfl) ?_ _
  have hs1 : w0.drew.heap.size = w.heap.size + 1 := hs0
  rw [hs1] at hown1 hsz1
  have HEND : Hid (WkAt w.heap.size (w1.alloc (.cells #[.slice a n cap, .slice (some ⟨w.heap.size + 1, 0, none⟩) n n, .int .i64 0] 86)) w1.heap.size (w.heap.size + 1) a cap n 0 (List.replicate n 0)) := Lib.hid ⟨RowAt.made w1 _ _ _ rfl, ownsB_mono (hown1.alloc _) (by omega), by omega, by omega, fun v hv => by
    rw [Tj.ix, List.getD_eq_getElem?_getD, List.getElem?_replicate, if_pos hv]
    exact Int.le_refl _⟩
  have HF9 := Lib.hid ((HF0.out.drew.trans hf1 (by simp)).trans hf9 (by simp))
  clear hown1 hf1 hf9
  go_wp2_with fail
  go_ret
  exact ⟨_, _, rfl, HEND.out, HF9.out⟩

end Go.Proofs.Ytknfdpkfomlckaa
