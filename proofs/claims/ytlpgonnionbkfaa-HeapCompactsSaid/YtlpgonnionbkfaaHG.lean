/- Contracts of Restore, of the reference. -/
import Derived.Test.YtlpgonnionbkfaaHE
namespace Go.Proofs.Ytlpgonnionbkfaa
open Go.RowKit

section
variable {w : World} {hb : Nat} {cv : Value} {vs : List Value} {most : Int} {cs : List HC}

/-! Restore, of the reference. -/
theorem rexists_y (h : HeapRep w hb 76 cv vs most cs) (r : Nat) (hr : r < cs.length) :
    Calls Try.prog 48 #[.pointer (some ⟨hb, 0, none⟩), .int .i64 r] w fun e w' => e = .returned (.bool true) ∧ w = w' := there_yes h r hr
theorem rrefers_as (v : Value) (xs : List Int) (top lim : Int) (b : Bool) (w : World) (h : IntsAt w v xs) (hlim : lim = top + 1) (hb : refersB lim xs = b) :
    Calls Try.prog 46 #[v, .int .i64 top] w fun e w' => e = .returned (.bool b) ∧ Frm [] w w' := by
  subst hb
  subst hlim
  refine (refs_any v xs top _ w h rfl).mono ?_
  rintro e w' ⟨rfl, rfl⟩
  exact ⟨rfl, Frm.refl _ _⟩

theorem rrestore_no (h : HeapRep w hb 76 cv vs most cs) (r : Int) (hr : r < 0 ∨ (cs.length : Int) ≤ r) (k n : Int) (v : Value) :
    Calls Try.prog 37 #[.pointer (some ⟨hb, 0, none⟩), .int .i64 r, .agg #[.int .i64 k, .int .i64 n, v]] w fun e w' => e = .returned (.int .i64 21) ∧ Frm [] w w' := by
  have f0 : Frm [] w (w.alloc (.cells #[.int .i64 k, .int .i64 n, v] 32)) := (Frm.refl _ _).alloc _
  have h' := h.frm f0 (by simp)
  go_enter Try.func37, Try.ntmps37
  go_wp2_with fail
  refine (there_no h' r hr).mono ?_
  rintro e w1 ⟨rfl, rfl⟩
  go_wp2
  go_ret
  exact ⟨rfl, f0⟩

set_option maxHeartbeats 400000 in
theorem rrestore_state (h : HeapRep w hb 76 cv vs most cs) (r : Nat) (kd nm : Int) (rf : List Int) (hr : cs[r]? = some ⟨kd, nm, rf⟩) (hk : kd ≠ 2) (k n : Int) (v : Value) (xs : List Int) (hv : IntsAt w v xs) :
    Calls Try.prog 37 #[.pointer (some ⟨hb, 0, none⟩), .int .i64 r, .agg #[.int .i64 k, .int .i64 n, v]] w fun e w' => e = .returned (.int .i64 20) ∧ Frm [] w w' := by
  obtain ⟨cb, cap, rfl, hc1, hc2, hcs⟩ := h.shape (by have := (List.getElem?_eq_some_iff.1 hr).1; omega)
  obtain ⟨a2, cap2, rfl, hl2⟩ := hv.shape
  have hrl := (List.getElem?_eq_some_iff.1 hr).1
  have h1 := h.hd.cell (i := 1) rfl
  have hsm := h.small
  have hhb : hb < w.heap.size := h.hd.lt
  have hcb : cb < w.heap.size := h.lt cb (by simp [fpOf, Value.ownBlock])
  obtain ⟨v0, hv0, c0, c1, c2, z0, z1, z2, hrf⟩ := hcs r _ hr
  simp only at c0 c1 c2 hrf
  obtain ⟨W0, hW0⟩ : ∃ y, y = w.alloc (.cells #[.int .i64 k, .int .i64 n, .slice a2 xs.length cap2] 32) := ⟨_, rfl⟩
  have f0 : Frm [] w W0 := by rw [hW0]; exact (Frm.refl _ _).alloc _
  have hbox : RowAt W0 w.heap.size 32 [.int .i64 k, .int .i64 n, .slice a2 xs.length cap2] := by rw [hW0]; exact RowAt.made w 32 _ _ rfl
  have s0 := hbox.cell (i := 0) rfl
  have s1 := hbox.cell (i := 1) rfl
  have s2 := hbox.cell (i := 2) rfl
  have HH0 := Lib.hid (h.frm f0 (by simp))
  have h1w := f0.cell h1 (by simp)
  have hc0w := f0.cell c0 (by simp)
  have hc1w := f0.cell c1 (by simp)
  have hc2w := f0.cell c2 (by simp)
  have hz0w := f0.frz c0 z0 (by simp)
  have hz1w := f0.frz c1 z1 (by simp)
  have hz2w := f0.frz c2 z2 (by simp)
  have HV0 := Lib.hid (hv.frm f0 (by simp))
  have HH := Lib.hid h
  have HF0 := Lib.hid f0
  have HW0 := Lib.hid hW0
  have hl2' : (xs.length : Int) ≤ 9223372036854775807 := hl2
  have i1 : (r : Int) < (cs.length : Int) := by omega
  have i2 : (cs.length : Int) ≤ 65536 := by omega
  have i3 : (0 : Int) ≤ (r : Int) := by omega
  have ney := rexists_y HH0.out r hrl
  have m0 : hb ≠ w.heap.size := by omega
  have m1 : cb ≠ w.heap.size := by omega
  have m2 : w.heap.size ≠ cb := by omega
  have m3 : w.heap.size ≠ hb := by omega
  have hw : IntKind.i64.wrap ((cs.length : Int) - 1) = (cs.length : Int) - 1 := IntWalk.i64_in _ (by omega)
  clear h hv f0 hW0 hbox hcs hrf hv0 c0 c1 c2 z0 z1 z2 h1 hr
  have e1 : (kd == 2) = false := by simpa using hk
  have e2 : (kd != 2) = true := by simpa using hk
  clear hk
  go_enter Try.func37, Try.ntmps37
  go_wp2_with fail
  rw [← HW0.out]
  refine ney.mono ?_
  rintro e1 w1 ⟨rfl, rfl⟩
  clear ney
  go_wp2_with fail
  go_ret
  exact ⟨rfl, HF0.out⟩

set_option maxHeartbeats 400000 in
theorem rrestore_kind (h : HeapRep w hb 76 cv vs most cs) (r : Nat) (nm : Int) (rf : List Int) (hr : cs[r]? = some ⟨2, nm, rf⟩) (k n : Int) (hk : k ≠ 1) (v : Value) (xs : List Int) (hv : IntsAt w v xs) :
    Calls Try.prog 37 #[.pointer (some ⟨hb, 0, none⟩), .int .i64 r, .agg #[.int .i64 k, .int .i64 n, v]] w fun e w' => e = .returned (.int .i64 1) ∧ Frm [] w w' := by
  obtain ⟨cb, cap, rfl, hc1, hc2, hcs⟩ := h.shape (by have := (List.getElem?_eq_some_iff.1 hr).1; omega)
  obtain ⟨a2, cap2, rfl, hl2⟩ := hv.shape
  have hrl := (List.getElem?_eq_some_iff.1 hr).1
  have h1 := h.hd.cell (i := 1) rfl
  have hsm := h.small
  have hhb : hb < w.heap.size := h.hd.lt
  have hcb : cb < w.heap.size := h.lt cb (by simp [fpOf, Value.ownBlock])
  obtain ⟨v0, hv0, c0, c1, c2, z0, z1, z2, hrf⟩ := hcs r _ hr
  simp only at c0 c1 c2 hrf
  obtain ⟨W0, hW0⟩ : ∃ y, y = w.alloc (.cells #[.int .i64 k, .int .i64 n, .slice a2 xs.length cap2] 32) := ⟨_, rfl⟩
  have f0 : Frm [] w W0 := by rw [hW0]; exact (Frm.refl _ _).alloc _
  have hbox : RowAt W0 w.heap.size 32 [.int .i64 k, .int .i64 n, .slice a2 xs.length cap2] := by rw [hW0]; exact RowAt.made w 32 _ _ rfl
  have s0 := hbox.cell (i := 0) rfl
  have s1 := hbox.cell (i := 1) rfl
  have s2 := hbox.cell (i := 2) rfl
  have HH0 := Lib.hid (h.frm f0 (by simp))
  have h1w := f0.cell h1 (by simp)
  have hc0w := f0.cell c0 (by simp)
  have hc1w := f0.cell c1 (by simp)
  have hc2w := f0.cell c2 (by simp)
  have hz0w := f0.frz c0 z0 (by simp)
  have hz1w := f0.frz c1 z1 (by simp)
  have hz2w := f0.frz c2 z2 (by simp)
  have HV0 := Lib.hid (hv.frm f0 (by simp))
  have HH := Lib.hid h
  have HF0 := Lib.hid f0
  have HW0 := Lib.hid hW0
  have hl2' : (xs.length : Int) ≤ 9223372036854775807 := hl2
  have i1 : (r : Int) < (cs.length : Int) := by omega
  have i2 : (cs.length : Int) ≤ 65536 := by omega
  have i3 : (0 : Int) ≤ (r : Int) := by omega
  have ney := rexists_y HH0.out r hrl
  have m0 : hb ≠ w.heap.size := by omega
  have m1 : cb ≠ w.heap.size := by omega
  have m2 : w.heap.size ≠ cb := by omega
  have m3 : w.heap.size ≠ hb := by omega
  have hw : IntKind.i64.wrap ((cs.length : Int) - 1) = (cs.length : Int) - 1 := IntWalk.i64_in _ (by omega)
  clear h hv f0 hW0 hbox hcs hrf hv0 c0 c1 c2 z0 z1 z2 h1 hr
  have e1 : (k == 1) = false := by simpa using hk
  have e2 : (k != 1) = true := by simpa using hk
  clear hk
  go_enter Try.func37, Try.ntmps37
  go_wp2_with fail
  rw [← HW0.out]
  refine ney.mono ?_
  rintro e1 w1 ⟨rfl, rfl⟩
  clear ney
  go_wp2_with fail
  go_quiet (fail)
  go_wp2_with fail
  go_ret
  exact ⟨rfl, HF0.out.drewN _⟩

set_option maxHeartbeats 1000000 in
theorem rrestore_refs (h : HeapRep w hb 76 cv vs most cs) (r : Nat) (nm : Int) (rf : List Int) (hr : cs[r]? = some ⟨2, nm, rf⟩) (n : Int) (v : Value) (xs : List Int) (hv : IntsAt w v xs) (hx : refersB cs.length xs = false) :
    Calls Try.prog 37 #[.pointer (some ⟨hb, 0, none⟩), .int .i64 r, .agg #[.int .i64 1, .int .i64 n, v]] w fun e w' => e = .returned (.int .i64 1) ∧ Frm [] w w' := by
  have HX : Hid (refersB ((cs.length : Int) - 1 + 1) xs = false) := Lib.hid (by rw [show (cs.length : Int) - 1 + 1 = (cs.length : Int) by omega]; exact hx)
  clear hx
  obtain ⟨cb, cap, rfl, hc1, hc2, hcs⟩ := h.shape (by have := (List.getElem?_eq_some_iff.1 hr).1; omega)
  obtain ⟨a2, cap2, rfl, hl2⟩ := hv.shape
  have hrl := (List.getElem?_eq_some_iff.1 hr).1
  have h1 := h.hd.cell (i := 1) rfl
  have hsm := h.small
  have hhb : hb < w.heap.size := h.hd.lt
  have hcb : cb < w.heap.size := h.lt cb (by simp [fpOf, Value.ownBlock])
  obtain ⟨v0, hv0, c0, c1, c2, z0, z1, z2, hrf⟩ := hcs r _ hr
  simp only at c0 c1 c2 hrf
  obtain ⟨W0, hW0⟩ : ∃ y, y = w.alloc (.cells #[.int .i64 1, .int .i64 n, .slice a2 xs.length cap2] 32) := ⟨_, rfl⟩
  have f0 : Frm [] w W0 := by rw [hW0]; exact (Frm.refl _ _).alloc _
  have hbox : RowAt W0 w.heap.size 32 [.int .i64 1, .int .i64 n, .slice a2 xs.length cap2] := by rw [hW0]; exact RowAt.made w 32 _ _ rfl
  have s0 := hbox.cell (i := 0) rfl
  have s1 := hbox.cell (i := 1) rfl
  have s2 := hbox.cell (i := 2) rfl
  have HH0 := Lib.hid (h.frm f0 (by simp))
  have h1w := f0.cell h1 (by simp)
  have hc0w := f0.cell c0 (by simp)
  have hc1w := f0.cell c1 (by simp)
  have hc2w := f0.cell c2 (by simp)
  have hz0w := f0.frz c0 z0 (by simp)
  have hz1w := f0.frz c1 z1 (by simp)
  have hz2w := f0.frz c2 z2 (by simp)
  have HV0 := Lib.hid (hv.frm f0 (by simp))
  have HH := Lib.hid h
  have HF0 := Lib.hid f0
  have HW0 := Lib.hid hW0
  have hl2' : (xs.length : Int) ≤ 9223372036854775807 := hl2
  have i1 : (r : Int) < (cs.length : Int) := by omega
  have i2 : (cs.length : Int) ≤ 65536 := by omega
  have i3 : (0 : Int) ≤ (r : Int) := by omega
  have ney := rexists_y HH0.out r hrl
  have m0 : hb ≠ w.heap.size := by omega
  have m1 : cb ≠ w.heap.size := by omega
  have m2 : w.heap.size ≠ cb := by omega
  have m3 : w.heap.size ≠ hb := by omega
  have hw : IntKind.i64.wrap ((cs.length : Int) - 1) = (cs.length : Int) - 1 := IntWalk.i64_in _ (by omega)
  clear h hv f0 hW0 hbox hcs hrf hv0 c0 c1 c2 z0 z1 z2 h1 hr
  have HDD : Hid (Frm [] W0 W0.drew) := Lib.hid (Frm.refl [] W0).drew
  go_enter Try.func37, Try.ntmps37
  go_wp2_with fail
  rw [← HW0.out]
  refine ney.mono ?_
  rintro e1 w1 ⟨rfl, rfl⟩
  clear ney
  go_wp2_with fail
  refine wp_region_held_drew (S := fun w' => w'.cell? ⟨w.heap.size, 0, none⟩ = some (.int .i64 1) ∧ w'.cell? ⟨w.heap.size, 2, none⟩ = some (.slice a2 xs.length cap2) ∧ w'.cell? ⟨hb, 1, none⟩ = some (.slice (some ⟨cb, 0, none⟩) cs.length cap)) (by kernel_rfl) (⟨HDD.out.cell s0 (by simp), HDD.out.cell s2 (by simp), HDD.out.cell h1w (by simp)⟩) ?_
  intro hHeld
  refine wpAnyH_take (i := 0) (v := ?_) rfl (by kernel_rfl) (by kernel_rfl) (by kernel_rfl) (fun _ _ _ h => h) (Or.inl ⟨by rfl, ?_⟩) (by assumption) ?_
  rotate_left
  · intro w9 hS9
    try dsimp only at hS9
    go_split_ands
    go_simp
    try with_reducible rfl
  try simp only [Act.put, List.getElem_toArray, List.getElem_cons_zero, List.setIfInBounds_toArray, List.set_cons_zero, List.set_cons_succ]
  refine wpAnyH_take (i := 1) (v := ?_) rfl (by kernel_rfl) (by kernel_rfl) (by kernel_rfl) (fun _ _ _ h => h) (Or.inl ⟨by rfl, ?_⟩) (by assumption) ?_
  rotate_left
  · intro w9 hS9
    try dsimp only at hS9
    go_split_ands
    go_simp
    try with_reducible rfl
  try simp only [Act.put, List.getElem_toArray, List.getElem_cons_succ, List.getElem_cons_zero, List.setIfInBounds_toArray, List.set_cons_zero, List.set_cons_succ]
  refine wpAnyH_take (i := 2) (v := ?_) rfl (by kernel_rfl) (by kernel_rfl) (by kernel_rfl) (fun _ _ _ h => h) (Or.inl ⟨by rfl, ?_⟩) (by assumption) ?_
  rotate_left
  · intro w9 hS9
    try dsimp only at hS9
    go_split_ands
    go_simp
    try with_reducible rfl
  try simp only [Act.put, List.getElem_toArray, List.getElem_cons_succ, List.getElem_cons_zero, List.setIfInBounds_toArray, List.set_cons_zero, List.set_cons_succ]
  refine wpAnyH_take (i := 3) (v := ?_) rfl (by kernel_rfl) (by kernel_rfl) (by kernel_rfl) (fun _ _ _ h => h) (Or.inl ⟨by rfl, ?_⟩) (by assumption) ?_
  rotate_left
  · intro w9 hS9
    try dsimp only at hS9
    go_split_ands
    go_simp
    try with_reducible rfl
  try simp only [Act.put, List.getElem_toArray, List.getElem_cons_succ, List.getElem_cons_zero, List.setIfInBounds_toArray, List.set_cons_zero, List.set_cons_succ]
  refine wpAnyH_take (i := 4) (v := ?_) rfl (by kernel_rfl) (by kernel_rfl) (by kernel_rfl) (fun _ _ _ h => h) (Or.inl ⟨by rfl, ?_⟩) (by assumption) ?_
  rotate_left
  · intro w9 hS9
    try dsimp only at hS9
    go_split_ands
    go_simp
    try with_reducible rfl
  try simp only [Act.put, List.getElem_toArray, List.getElem_cons_succ, List.getElem_cons_zero, List.setIfInBounds_toArray, List.set_cons_zero, List.set_cons_succ]
  refine wpAnyH_take (i := 5) (v := ?_) rfl (by kernel_rfl) (by kernel_rfl) (by kernel_rfl) (fun _ _ _ h => h) (Or.inl ⟨by rfl, ?_⟩) (by assumption) ?_
  rotate_left
  · intro w9 hS9
    try dsimp only at hS9
    go_split_ands
    go_simp
    try with_reducible rfl
  try simp only [Act.put, List.getElem_toArray, List.getElem_cons_succ, List.getElem_cons_zero, List.setIfInBounds_toArray, List.set_cons_zero, List.set_cons_succ]
  refine wpAnyH_take (i := 6) (v := ?_) rfl (by kernel_rfl) (by kernel_rfl) (by kernel_rfl) (fun _ _ _ h => h) (Or.inl ⟨by rfl, ?_⟩) (by assumption) ?_
  rotate_left
  · intro w9 hS9
    try dsimp only at hS9
    go_split_ands
    go_simp
    try with_reducible rfl
  try simp only [Act.put, List.getElem_toArray, List.getElem_cons_succ, List.getElem_cons_zero, List.setIfInBounds_toArray, List.set_cons_zero, List.set_cons_succ]
  refine wpAnyH_take (i := 7) (v := ?_) rfl (by kernel_rfl) (by kernel_rfl) (by kernel_rfl) (fun _ _ _ h => h) (Or.inl ⟨by rfl, ?_⟩) (by assumption) ?_
  rotate_left
  · intro w9 hS9
    try dsimp only at hS9
    go_split_ands
    go_simp
    try with_reducible rfl
  try simp only [Act.put, List.getElem_toArray, List.getElem_cons_succ, List.getElem_cons_zero, List.setIfInBounds_toArray, List.set_cons_zero, List.set_cons_succ]
  refine wpAnyH_take (i := 8) (v := ?_) rfl (by kernel_rfl) (by kernel_rfl) (by kernel_rfl) (fun _ _ _ h => h) (Or.inl ⟨by rfl, ?_⟩) (by assumption) ?_
  rotate_left
  · intro w9 hS9
    try dsimp only at hS9
    go_split_ands
    go_simp
    try with_reducible rfl
  try simp only [Act.put, List.getElem_toArray, List.getElem_cons_succ, List.getElem_cons_zero, List.setIfInBounds_toArray, List.set_cons_zero, List.set_cons_succ]
  refine wpAnyH_take (i := 9) (v := ?_) rfl (by kernel_rfl) (by kernel_rfl) (by kernel_rfl) (fun _ _ _ h => h) (Or.inl ⟨by rfl, ?_⟩) (by assumption) ?_
  rotate_left
  · intro w9 hS9
    try dsimp only at hS9
    go_split_ands
    go_simp
    try with_reducible rfl
  try simp only [Act.put, List.getElem_toArray, List.getElem_cons_succ, List.getElem_cons_zero, List.setIfInBounds_toArray, List.set_cons_zero, List.set_cons_succ]
  refine wpAnyH_take (i := 10) (v := ?_) rfl (by kernel_rfl) (by kernel_rfl) (by kernel_rfl) (fun _ _ _ h => h) (Or.inl ⟨by rfl, ?_⟩) (by assumption) ?_
  rotate_left
  · intro w9 hS9
    try dsimp only at hS9
    go_split_ands
    go_simp
    try with_reducible rfl
  try simp only [Act.put, List.getElem_toArray, List.getElem_cons_succ, List.getElem_cons_zero, List.setIfInBounds_toArray, List.set_cons_zero, List.set_cons_succ]
  refine wpAnyH_take (i := 11) (v := ?_) rfl (by kernel_rfl) (by kernel_rfl) (by kernel_rfl) (fun _ _ _ h => h) (Or.inl ⟨by rfl, ?_⟩) (by assumption) ?_
  rotate_left
  · intro w9 hS9
    try dsimp only at hS9
    go_split_ands
    go_simp
    try with_reducible rfl
  try simp only [Act.put, List.getElem_toArray, List.getElem_cons_succ, List.getElem_cons_zero, List.setIfInBounds_toArray, List.set_cons_zero, List.set_cons_succ]
  refine wpAnyH_ready (rs := [12]) (by kernel_rfl) (by simp) ?_
  refine AllReadyH.cons rfl (fun K hK => ?_) AllReadyH.nil
  go_simp
  refine (rrefers_as _ xs _ _ false _ (HV0.out.frm HDD.out (by simp)) rfl HX.out).mono ?_
  rintro e2 w2 ⟨rfl, hf2⟩
  refine hK.out _ _ ?_ (fun hHeld => ?_)
  · exact ⟨hf2.cell (HDD.out.cell s0 (by simp)) (by simp), hf2.cell (HDD.out.cell s2 (by simp)) (by simp), hf2.cell (HDD.out.cell h1w (by simp)) (by simp)⟩
  clear hK K
  try simp only [Act.put, List.getElem_toArray, List.getElem_cons_succ, List.getElem_cons_zero, List.setIfInBounds_toArray, List.set_cons_zero, List.set_cons_succ]
  refine wpAnyH_take (i := 13) (v := ?_) rfl (by kernel_rfl) (by kernel_rfl) (by kernel_rfl) (fun _ _ _ h => h) (Or.inl ⟨by rfl, ?_⟩) (by assumption) ?_
  rotate_left
  · intro w9 hS9
    try dsimp only at hS9
    go_split_ands
    go_simp
    try with_reducible rfl
  try simp only [Act.put, List.getElem_toArray, List.getElem_cons_succ, List.getElem_cons_zero, List.setIfInBounds_toArray, List.set_cons_zero, List.set_cons_succ]
  refine wpAnyH_take (i := 14) (v := ?_) rfl (by kernel_rfl) (by kernel_rfl) (by kernel_rfl) (fun _ _ _ h => h) (Or.inl ⟨by rfl, ?_⟩) (by assumption) ?_
  rotate_left
  · intro w9 hS9
    try dsimp only at hS9
    go_split_ands
    go_simp
    try with_reducible rfl
  try simp only [Act.put, List.getElem_toArray, List.getElem_cons_succ, List.getElem_cons_zero, List.setIfInBounds_toArray, List.set_cons_zero, List.set_cons_succ]
  refine wpAnyH_take (i := 15) (v := ?_) rfl (by kernel_rfl) (by kernel_rfl) (by kernel_rfl) (fun _ _ _ h => h) (Or.inl ⟨by rfl, ?_⟩) (by assumption) ?_
  rotate_left
  · intro w9 hS9
    try dsimp only at hS9
    go_split_ands
    go_simp
    try with_reducible rfl
  try simp only [Act.put, List.getElem_toArray, List.getElem_cons_succ, List.getElem_cons_zero, List.setIfInBounds_toArray, List.set_cons_zero, List.set_cons_succ]
  refine wpAnyH_done (by kernel_rfl) ?_ _
  go_wp2_with fail
  go_ret
  exact ⟨rfl, (HF0.out.trans HDD.out (by simp)).trans hf2 (by simp)⟩

set_option maxRecDepth 100000 in
set_option maxHeartbeats 2000000 in
theorem rrestore_ok (h : HeapRep w hb 76 cv vs most cs) (r : Nat) (nm : Int) (rf : List Int) (hr : cs[r]? = some ⟨2, nm, rf⟩) (n : Int) (v : Value) (xs : List Int) (hv : IntsAt w v xs) (hx : refersB cs.length xs = true) :
    Calls Try.prog 37 #[.pointer (some ⟨hb, 0, none⟩), .int .i64 r, .agg #[.int .i64 1, .int .i64 n, v]] w fun e w' => e = .returned (.int .i64 0) ∧
      ∃ v', HeapRep w' hb 76 cv (vs.set r v') most (cs.set r ⟨1, n, xs⟩) ∧ Frm (fpOf hb cv vs) w w' ∧ (∀ x ∈ fpOf hb cv (vs.set r v'), x ∈ fpOf hb cv vs ∨ w.heap.size ≤ x) := by
  have hxl : xs.length ≤ 4096 := (refersB_iff.1 hx).1
  have HX : Hid (refersB ((cs.length : Int) - 1 + 1) xs = true) := Lib.hid (by rw [show (cs.length : Int) - 1 + 1 = (cs.length : Int) by omega]; exact hx)
  clear hx
  obtain ⟨cb, cap, rfl, hc1, hc2, hcs⟩ := h.shape (by have := (List.getElem?_eq_some_iff.1 hr).1; omega)
  obtain ⟨a2, cap2, rfl, hl2⟩ := hv.shape
  have hrl := (List.getElem?_eq_some_iff.1 hr).1
  have h1 := h.hd.cell (i := 1) rfl
  have hsm := h.small
  have hhb : hb < w.heap.size := h.hd.lt
  have hcb : cb < w.heap.size := h.lt cb (by simp [fpOf, Value.ownBlock])
  obtain ⟨v0, hv0, c0, c1, c2, z0, z1, z2, hrf⟩ := hcs r _ hr
  simp only at c0 c1 c2 hrf
  obtain ⟨W0, hW0⟩ : ∃ y, y = w.alloc (.cells #[.int .i64 1, .int .i64 n, .slice a2 xs.length cap2] 32) := ⟨_, rfl⟩
  have f0 : Frm [] w W0 := by rw [hW0]; exact (Frm.refl _ _).alloc _
  have hbox : RowAt W0 w.heap.size 32 [.int .i64 1, .int .i64 n, .slice a2 xs.length cap2] := by rw [hW0]; exact RowAt.made w 32 _ _ rfl
  have s0 := hbox.cell (i := 0) rfl
  have s1 := hbox.cell (i := 1) rfl
  have s2 := hbox.cell (i := 2) rfl
  have HH0 := Lib.hid (h.frm f0 (by simp))
  have h1w := f0.cell h1 (by simp)
  have hc0w := f0.cell c0 (by simp)
  have hc1w := f0.cell c1 (by simp)
  have hc2w := f0.cell c2 (by simp)
  have hz0w := f0.frz c0 z0 (by simp)
  have hz1w := f0.frz c1 z1 (by simp)
  have hz2w := f0.frz c2 z2 (by simp)
  have HV0 := Lib.hid (hv.frm f0 (by simp))
  have HH := Lib.hid h
  have HF0 := Lib.hid f0
  have HW0 := Lib.hid hW0
  have hl2' : (xs.length : Int) ≤ 9223372036854775807 := hl2
  have i1 : (r : Int) < (cs.length : Int) := by omega
  have i2 : (cs.length : Int) ≤ 65536 := by omega
  have i3 : (0 : Int) ≤ (r : Int) := by omega
  have ney := rexists_y HH0.out r hrl
  have m0 : hb ≠ w.heap.size := by omega
  have m1 : cb ≠ w.heap.size := by omega
  have m2 : w.heap.size ≠ cb := by omega
  have m3 : w.heap.size ≠ hb := by omega
  have hw : IntKind.i64.wrap ((cs.length : Int) - 1) = (cs.length : Int) - 1 := IntWalk.i64_in _ (by omega)
  clear h hv f0 hW0 hbox hcs hrf hv0 c0 c1 c2 z0 z1 z2 h1 hr
  have HDD : Hid (Frm [] W0 W0.drew) := Lib.hid (Frm.refl [] W0).drew
  go_enter Try.func37, Try.ntmps37
  go_wp2_with fail
  rw [← HW0.out]
  refine ney.mono ?_
  rintro e1 w1 ⟨rfl, rfl⟩
  clear ney
  go_wp2_with fail
  refine wp_region_held_drew (S := fun w' => w'.cell? ⟨w.heap.size, 0, none⟩ = some (.int .i64 1) ∧ w'.cell? ⟨w.heap.size, 2, none⟩ = some (.slice a2 xs.length cap2) ∧ w'.cell? ⟨hb, 1, none⟩ = some (.slice (some ⟨cb, 0, none⟩) cs.length cap)) (by kernel_rfl) (⟨HDD.out.cell s0 (by simp), HDD.out.cell s2 (by simp), HDD.out.cell h1w (by simp)⟩) ?_
  intro hHeld
  refine wpAnyH_take (i := 0) (v := ?_) rfl (by kernel_rfl) (by kernel_rfl) (by kernel_rfl) (fun _ _ _ h => h) (Or.inl ⟨by rfl, ?_⟩) (by assumption) ?_
  rotate_left
  · intro w9 hS9
    try dsimp only at hS9
    go_split_ands
    go_simp
    try with_reducible rfl
  try simp only [Act.put, List.getElem_toArray, List.getElem_cons_zero, List.setIfInBounds_toArray, List.set_cons_zero, List.set_cons_succ]
  refine wpAnyH_take (i := 1) (v := ?_) rfl (by kernel_rfl) (by kernel_rfl) (by kernel_rfl) (fun _ _ _ h => h) (Or.inl ⟨by rfl, ?_⟩) (by assumption) ?_
  rotate_left
  · intro w9 hS9
    try dsimp only at hS9
    go_split_ands
    go_simp
    try with_reducible rfl
  try simp only [Act.put, List.getElem_toArray, List.getElem_cons_succ, List.getElem_cons_zero, List.setIfInBounds_toArray, List.set_cons_zero, List.set_cons_succ]
  refine wpAnyH_take (i := 2) (v := ?_) rfl (by kernel_rfl) (by kernel_rfl) (by kernel_rfl) (fun _ _ _ h => h) (Or.inl ⟨by rfl, ?_⟩) (by assumption) ?_
  rotate_left
  · intro w9 hS9
    try dsimp only at hS9
    go_split_ands
    go_simp
    try with_reducible rfl
  try simp only [Act.put, List.getElem_toArray, List.getElem_cons_succ, List.getElem_cons_zero, List.setIfInBounds_toArray, List.set_cons_zero, List.set_cons_succ]
  refine wpAnyH_take (i := 3) (v := ?_) rfl (by kernel_rfl) (by kernel_rfl) (by kernel_rfl) (fun _ _ _ h => h) (Or.inl ⟨by rfl, ?_⟩) (by assumption) ?_
  rotate_left
  · intro w9 hS9
    try dsimp only at hS9
    go_split_ands
    go_simp
    try with_reducible rfl
  try simp only [Act.put, List.getElem_toArray, List.getElem_cons_succ, List.getElem_cons_zero, List.setIfInBounds_toArray, List.set_cons_zero, List.set_cons_succ]
  refine wpAnyH_take (i := 4) (v := ?_) rfl (by kernel_rfl) (by kernel_rfl) (by kernel_rfl) (fun _ _ _ h => h) (Or.inl ⟨by rfl, ?_⟩) (by assumption) ?_
  rotate_left
  · intro w9 hS9
    try dsimp only at hS9
    go_split_ands
    go_simp
    try with_reducible rfl
  try simp only [Act.put, List.getElem_toArray, List.getElem_cons_succ, List.getElem_cons_zero, List.setIfInBounds_toArray, List.set_cons_zero, List.set_cons_succ]
  refine wpAnyH_take (i := 5) (v := ?_) rfl (by kernel_rfl) (by kernel_rfl) (by kernel_rfl) (fun _ _ _ h => h) (Or.inl ⟨by rfl, ?_⟩) (by assumption) ?_
  rotate_left
  · intro w9 hS9
    try dsimp only at hS9
    go_split_ands
    go_simp
    try with_reducible rfl
  try simp only [Act.put, List.getElem_toArray, List.getElem_cons_succ, List.getElem_cons_zero, List.setIfInBounds_toArray, List.set_cons_zero, List.set_cons_succ]
  refine wpAnyH_take (i := 6) (v := ?_) rfl (by kernel_rfl) (by kernel_rfl) (by kernel_rfl) (fun _ _ _ h => h) (Or.inl ⟨by rfl, ?_⟩) (by assumption) ?_
  rotate_left
  · intro w9 hS9
    try dsimp only at hS9
    go_split_ands
    go_simp
    try with_reducible rfl
  try simp only [Act.put, List.getElem_toArray, List.getElem_cons_succ, List.getElem_cons_zero, List.setIfInBounds_toArray, List.set_cons_zero, List.set_cons_succ]
  refine wpAnyH_take (i := 7) (v := ?_) rfl (by kernel_rfl) (by kernel_rfl) (by kernel_rfl) (fun _ _ _ h => h) (Or.inl ⟨by rfl, ?_⟩) (by assumption) ?_
  rotate_left
  · intro w9 hS9
    try dsimp only at hS9
    go_split_ands
    go_simp
    try with_reducible rfl
  try simp only [Act.put, List.getElem_toArray, List.getElem_cons_succ, List.getElem_cons_zero, List.setIfInBounds_toArray, List.set_cons_zero, List.set_cons_succ]
  refine wpAnyH_take (i := 8) (v := ?_) rfl (by kernel_rfl) (by kernel_rfl) (by kernel_rfl) (fun _ _ _ h => h) (Or.inl ⟨by rfl, ?_⟩) (by assumption) ?_
  rotate_left
  · intro w9 hS9
    try dsimp only at hS9
    go_split_ands
    go_simp
    try with_reducible rfl
  try simp only [Act.put, List.getElem_toArray, List.getElem_cons_succ, List.getElem_cons_zero, List.setIfInBounds_toArray, List.set_cons_zero, List.set_cons_succ]
  refine wpAnyH_take (i := 9) (v := ?_) rfl (by kernel_rfl) (by kernel_rfl) (by kernel_rfl) (fun _ _ _ h => h) (Or.inl ⟨by rfl, ?_⟩) (by assumption) ?_
  rotate_left
  · intro w9 hS9
    try dsimp only at hS9
    go_split_ands
    go_simp
    try with_reducible rfl
  try simp only [Act.put, List.getElem_toArray, List.getElem_cons_succ, List.getElem_cons_zero, List.setIfInBounds_toArray, List.set_cons_zero, List.set_cons_succ]
  refine wpAnyH_take (i := 10) (v := ?_) rfl (by kernel_rfl) (by kernel_rfl) (by kernel_rfl) (fun _ _ _ h => h) (Or.inl ⟨by rfl, ?_⟩) (by assumption) ?_
  rotate_left
  · intro w9 hS9
    try dsimp only at hS9
    go_split_ands
    go_simp
    try with_reducible rfl
  try simp only [Act.put, List.getElem_toArray, List.getElem_cons_succ, List.getElem_cons_zero, List.setIfInBounds_toArray, List.set_cons_zero, List.set_cons_succ]
  refine wpAnyH_take (i := 11) (v := ?_) rfl (by kernel_rfl) (by kernel_rfl) (by kernel_rfl) (fun _ _ _ h => h) (Or.inl ⟨by rfl, ?_⟩) (by assumption) ?_
  rotate_left
  · intro w9 hS9
    try dsimp only at hS9
    go_split_ands
    go_simp
    try with_reducible rfl
  try simp only [Act.put, List.getElem_toArray, List.getElem_cons_succ, List.getElem_cons_zero, List.setIfInBounds_toArray, List.set_cons_zero, List.set_cons_succ]
  refine wpAnyH_ready (rs := [12]) (by kernel_rfl) (by simp) ?_
  refine AllReadyH.cons rfl (fun K hK => ?_) AllReadyH.nil
  go_simp
  refine (rrefers_as _ xs _ _ true _ (HV0.out.frm HDD.out (by simp)) rfl HX.out).mono ?_
  rintro e2 w2 ⟨rfl, hf2⟩
  refine hK.out _ _ ?_ (fun hHeld => ?_)
  · exact ⟨hf2.cell (HDD.out.cell s0 (by simp)) (by simp), hf2.cell (HDD.out.cell s2 (by simp)) (by simp), hf2.cell (HDD.out.cell h1w (by simp)) (by simp)⟩
  clear hK K
  try simp only [Act.put, List.getElem_toArray, List.getElem_cons_succ, List.getElem_cons_zero, List.setIfInBounds_toArray, List.set_cons_zero, List.set_cons_succ]
  refine wpAnyH_take (i := 13) (v := ?_) rfl (by kernel_rfl) (by kernel_rfl) (by kernel_rfl) (fun _ _ _ h => h) (Or.inl ⟨by rfl, ?_⟩) (by assumption) ?_
  rotate_left
  · intro w9 hS9
    try dsimp only at hS9
    go_split_ands
    go_simp
    try with_reducible rfl
  try simp only [Act.put, List.getElem_toArray, List.getElem_cons_succ, List.getElem_cons_zero, List.setIfInBounds_toArray, List.set_cons_zero, List.set_cons_succ]
  refine wpAnyH_take (i := 14) (v := ?_) rfl (by kernel_rfl) (by kernel_rfl) (by kernel_rfl) (fun _ _ _ h => h) (Or.inl ⟨by rfl, ?_⟩) (by assumption) ?_
  rotate_left
  · intro w9 hS9
    try dsimp only at hS9
    go_split_ands
    go_simp
    try with_reducible rfl
  try simp only [Act.put, List.getElem_toArray, List.getElem_cons_succ, List.getElem_cons_zero, List.setIfInBounds_toArray, List.set_cons_zero, List.set_cons_succ]
  refine wpAnyH_take (i := 15) (v := ?_) rfl (by kernel_rfl) (by kernel_rfl) (by kernel_rfl) (fun _ _ _ h => h) (Or.inl ⟨by rfl, ?_⟩) (by assumption) ?_
  rotate_left
  · intro w9 hS9
    try dsimp only at hS9
    go_split_ands
    go_simp
    try with_reducible rfl
  try simp only [Act.put, List.getElem_toArray, List.getElem_cons_succ, List.getElem_cons_zero, List.setIfInBounds_toArray, List.set_cons_zero, List.set_cons_succ]
  refine wpAnyH_done (by kernel_rfl) ?_ _
  go_wp2_with fail
  have F2 := HDD.out.trans hf2 (by simp)
  have b0 := F2.cell s0 (by simp)
  have b1 := F2.cell s1 (by simp)
  have b2 := F2.cell s2 (by simp)
  have b3 := F2.cell h1w (by simp)
  have HV2 := Lib.hid (HV0.out.frm F2 (by simp))
  have HF2 := Lib.hid F2
  clear s0 s1 s2 hf2
  go_region_law (first | (go_simp; go_at_call 47; refine (own_any _ _ _ xs _ (HV2.out.frm ((Frm.refl [] _).drew) (by simp)) (by omega)).mono ?_; rintro e3 w3 ⟨a', c', rfl, hown3, hf30⟩; have hf3 := HF2.out.trans (((Frm.refl [] w2).drew).trans hf30 (by simp)) (by simp); have b3' := hf3.cell h1w (by simp); have q0 := hf3.cell hc0w (by simp); have q1 := hf3.cell hc1w (by simp); have q2 := hf3.cell hc2w (by simp); have y0 := hf3.frz hc0w hz0w (by simp); have y1 := hf3.frz hc1w hz1w (by simp); have y2 := hf3.frz hc2w hz2w (by simp)))
  all_goals
    go_wp2_with fail
    go_ret
    have H3 := HH0.out.frm hf3 (by simp)
    have hset := HeapRep.set H3 hrl rfl ⟨1, n, xs⟩ _ (ownsB_mono hown3 (C := 0) (by simp)) (fun k hk hm => by
      have := (hown3.lt k hk).1
      have h9 := HH.out.lt k hm
      have h8 := HF0.out.size
      have h7 := HF2.out.size
      simp at this
      omega)
    refine ⟨rfl, _, hset, ?_, fun x hx => ?_⟩
    · refine Frm.setCell (Frm.setCell (Frm.setCell (((HF0.out.trans hf3 (by simp)).mono (fq := fpOf hb (.slice (some ⟨cb, 0, none⟩) cs.length cap) vs) (by simp))) (.inl ?_) _) (.inl ?_) _) (.inl ?_) _ <;> simp [fpOf, Value.ownBlock]
    · rcases fpOf_set_sub hx with h9 | h9
      · exact .inl h9
      · have := (hown3.lt x h9).1
        have h8 := HF0.out.size
        have h7 := HF2.out.size
        simp at this
        exact .inr (by omega)

end
end Go.Proofs.Ytlpgonnionbkfaa
