/- Contracts of Update. -/
import Derived.Test.YtlpgonnionbkfaaW7
namespace Go.Proofs.Ytlpgonnionbkfaa
open Go.RowKit

section
variable {w : World} {hb : Nat} {cv : Value} {vs : List Value} {most : Int} {cs : List HC}

theorem update_no (h : HeapRep w hb 60 cv vs most cs) (r to : Int) (hr : r < 0 ∨ (cs.length : Int) ≤ r) :
    Calls Try.prog 12 #[.pointer (some ⟨hb, 0, none⟩), .int .i64 r, .int .i64 to] w fun e w' => e = .returned (.int .i64 21) ∧ w = w' := by
  go_enter Try.func12, Try.ntmps12
  go_wp2_with fail
  refine (exists_no h r hr).mono ?_
  rintro e w1 ⟨rfl, rfl⟩
  go_wp2
  go_ret
  exact ⟨rfl, rfl⟩

theorem update_no2 (h : HeapRep w hb 60 cv vs most cs) (r : Nat) (to : Int) (hr : r < cs.length) (ht : to < 0 ∨ (cs.length : Int) ≤ to) :
    Calls Try.prog 12 #[.pointer (some ⟨hb, 0, none⟩), .int .i64 r, .int .i64 to] w fun e w' => e = .returned (.int .i64 21) ∧ w = w' := by
  go_enter Try.func12, Try.ntmps12
  go_wp2_with fail
  refine (exists_yes h r hr).mono ?_
  rintro e w1 ⟨rfl, rfl⟩
  go_wp2_with fail
  refine (exists_no h to ht).mono ?_
  rintro e w1 ⟨rfl, rfl⟩
  go_wp2
  go_ret
  exact ⟨rfl, rfl⟩

set_option maxHeartbeats 400000 in
theorem update_state (h : HeapRep w hb 60 cv vs most cs) (r to : Nat) (c : HC) (hr : cs[r]? = some c) (ht : to < cs.length) (hk : c.kind ≠ 2) :
    Calls Try.prog 12 #[.pointer (some ⟨hb, 0, none⟩), .int .i64 r, .int .i64 to] w fun e w' => e = .returned (.int .i64 20) ∧ w = w' := by
  obtain ⟨cb, cap, rfl, hc1, hc2, hcs⟩ := h.shape (by omega)
  have h1 := h.hd.cell (i := 1) rfl
  have hsm := h.small
  obtain ⟨v, hv, c0, _, _, _, _, _, _⟩ := hcs r c hr
  have hrl := (List.getElem?_eq_some_iff.1 hr).1
  have e2 : (c.kind == 2) = false := by simpa using hk
  have e3 : (c.kind != 2) = true := by simpa using hk
  clear hcs hr hv hk
  go_enter Try.func12, Try.ntmps12
  go_wp2_with fail
  refine (exists_yes h r hrl).mono ?_
  rintro e w1 ⟨rfl, rfl⟩
  go_wp2_with fail
  refine (exists_yes h to ht).mono ?_
  rintro e w1 ⟨rfl, rfl⟩
  clear h
  go_wp2
  go_ret
  exact ⟨rfl, rfl⟩

set_option maxHeartbeats 400000 in
theorem update_loop (h : HeapRep w hb 60 cv vs most cs) (r to : Nat) (c : HC) (hr : cs[r]? = some c) (ht : to < cs.length) (hk : c.kind = 2) (hf : fol cs cs.length to = some r) :
    Calls Try.prog 12 #[.pointer (some ⟨hb, 0, none⟩), .int .i64 r, .int .i64 to] w fun e w' => e = .returned (.int .i64 14) ∧ w = w' := by
  obtain ⟨cb, cap, rfl, hc1, hc2, hcs⟩ := h.shape (by omega)
  have h1 := h.hd.cell (i := 1) rfl
  have hsm := h.small
  obtain ⟨v, hv, c0, _, _, _, _, _, _⟩ := hcs r c hr
  have hrl := (List.getElem?_eq_some_iff.1 hr).1
  rw [hk] at c0
  clear hcs hr hv hk
  go_enter Try.func12, Try.ntmps12
  go_wp2_with fail
  refine (exists_yes h r hrl).mono ?_
  rintro e w1 ⟨rfl, rfl⟩
  go_wp2_with fail
  refine (exists_yes h to ht).mono ?_
  rintro e w1 ⟨rfl, rfl⟩
  have hfo := follow_any h _ to r hf
  clear h hf
  go_wp2_with fail
  refine (hfo).mono ?_
  rintro e w1 ⟨rfl, rfl⟩
  clear hfo
  go_wp2
  go_ret
  exact ⟨rfl, rfl⟩

set_option maxHeartbeats 400000 in
theorem update_ok (h : HeapRep w hb 60 cv vs most cs) (r to t : Nat) (num : Int) (refs : List Int) (hr : cs[r]? = some ⟨2, num, refs⟩) (ht : to < cs.length) (hf : fol cs cs.length to = some t) (hne : t ≠ r) :
    Calls Try.prog 12 #[.pointer (some ⟨hb, 0, none⟩), .int .i64 r, .int .i64 to] w fun e w' => e = .returned (.int .i64 0) ∧
      HeapRep w' hb 60 cv (vs.set r (.slice (some ⟨w.heap.size, 0, none⟩) 1 1)) most (cs.set r ⟨3, num, [(to : Int)]⟩) ∧ Frm (fpOf hb cv vs) w w' := by
  obtain ⟨cb, cap, rfl, hc1, hc2, hcs⟩ := h.shape (by omega)
  have h1 := h.hd.cell (i := 1) rfl
  have hsm := h.small
  obtain ⟨v, hv, c0, c1, c2, z0, z1, z2, hrf⟩ := hcs r _ hr
  have hrl := (List.getElem?_eq_some_iff.1 hr).1
  simp only at c0 c1 c2 hrf
  clear hcs hr hv
  have hcb : cb < w.heap.size := h.lt cb (by simp [fpOf, Value.ownBlock])
  have n0 : cb ≠ w.heap.size := by omega
  have n2 : w.heap.size ≠ cb := by omega
  have hhb : hb < w.heap.size := h.hd.lt
  have m0 : hb ≠ w.heap.size := by omega
  have e1 : ((t : Int) == (r : Int)) = false := by rw [beq_eq_false_iff_ne]; omega
  go_enter Try.func12, Try.ntmps12
  go_wp2_with fail
  refine (exists_yes h r hrl).mono ?_
  rintro e w1 ⟨rfl, rfl⟩
  go_wp2_with fail
  refine (exists_yes h to ht).mono ?_
  rintro e w1 ⟨rfl, rfl⟩
  have hfo := follow_any h _ to t hf
  have HH := Lib.hid h
  clear h hf hne
  go_wp2_with fail
  refine (hfo).mono ?_
  rintro e w1 ⟨rfl, rfl⟩
  clear hfo
  go_wp2
  go_region
  go_wp2
  go_ret
  refine ⟨rfl, ?_, ?_⟩
  · have f0 : Frm [] w (w.alloc (.cells #[.int .i64 to] 3)) := (Frm.refl _ _).alloc _
    have hnew : (w.alloc (.cells #[.int .i64 to] 3)).ownsRow 0 3 1 (.slice (some ⟨w.heap.size, 0, none⟩) 1 1) 1 (ints [(to : Int)]) := owns_made_full w 3 1 (ints [(to : Int)]) 1 rfl (by decide)
    have hset := HeapRep.set (HH.out.frm f0 (by simp)) hrl rfl ⟨3, num, [(to : Int)]⟩ _ hnew (by
      intro k hk hm
      have := HH.out.lt k hm
      simp [Value.ownBlock] at hk
      omega)
    rw [World.setCell_alloc_past _ _ _ _ hcb, World.setCell_alloc_past _ _ _ _ (by simpa using hcb), World.setCell_alloc_past _ _ _ _ (by simpa using hcb)] at hset
    exact hset.frm (fp := []) (Frm.refl _ _).drew (by simp)
  · refine Frm.drew (Frm.alloc (Frm.setCell (Frm.setCell (Frm.setCell (Frm.refl _ _) (.inl ?_) _) (.inl ?_) _) (.inl ?_) _) _) <;> simp [fpOf, Value.ownBlock]

end
end Go.Proofs.Ytlpgonnionbkfaa
