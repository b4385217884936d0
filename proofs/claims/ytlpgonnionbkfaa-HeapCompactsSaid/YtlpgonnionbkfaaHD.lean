/- Contracts of the reference's heap: Update, Enter. -/
import Derived.Test.YtlpgonnionbkfaaHC
namespace Go.Proofs.Ytlpgonnionbkfaa
open Go.RowKit

section
variable {w : World} {hb : Nat} {cv : Value} {vs : List Value} {most : Int} {cs : List HC}

theorem rupdate_no (h : HeapRep w hb 76 cv vs most cs) (r to : Int) (hr : r < 0 ∨ (cs.length : Int) ≤ r) :
    Calls Try.prog 35 #[.pointer (some ⟨hb, 0, none⟩), .int .i64 r, .int .i64 to] w fun e w' => e = .returned (.int .i64 21) ∧ w = w' := by
  go_enter Try.func35, Try.ntmps35
  go_wp2_with fail
  refine (there_no h r hr).mono ?_
  rintro e w1 ⟨rfl, rfl⟩
  go_wp2
  go_ret
  exact ⟨rfl, rfl⟩

theorem rupdate_no2 (h : HeapRep w hb 76 cv vs most cs) (r : Nat) (to : Int) (hr : r < cs.length) (ht : to < 0 ∨ (cs.length : Int) ≤ to) :
    Calls Try.prog 35 #[.pointer (some ⟨hb, 0, none⟩), .int .i64 r, .int .i64 to] w fun e w' => e = .returned (.int .i64 21) ∧ w = w' := by
  go_enter Try.func35, Try.ntmps35
  go_wp2_with fail
  refine (there_yes h r hr).mono ?_
  rintro e w1 ⟨rfl, rfl⟩
  go_wp2_with fail
  refine (there_no h to ht).mono ?_
  rintro e w1 ⟨rfl, rfl⟩
  go_wp2
  go_ret
  exact ⟨rfl, rfl⟩

set_option maxHeartbeats 400000 in
theorem rupdate_state (h : HeapRep w hb 76 cv vs most cs) (r to : Nat) (c : HC) (hr : cs[r]? = some c) (ht : to < cs.length) (hk : c.kind ≠ 2) :
    Calls Try.prog 35 #[.pointer (some ⟨hb, 0, none⟩), .int .i64 r, .int .i64 to] w fun e w' => e = .returned (.int .i64 20) ∧ w = w' := by
  obtain ⟨cb, cap, rfl, hc1, hc2, hcs⟩ := h.shape (by omega)
  have h1 := h.hd.cell (i := 1) rfl
  have hsm := h.small
  obtain ⟨v, hv, c0, _, _, _, _, _, _⟩ := hcs r c hr
  have hrl := (List.getElem?_eq_some_iff.1 hr).1
  have e2 : (c.kind == 2) = false := by simpa using hk
  have e3 : (c.kind != 2) = true := by simpa using hk
  clear hcs hr hv hk
  go_enter Try.func35, Try.ntmps35
  go_wp2_with fail
  refine (there_yes h r hrl).mono ?_
  rintro e w1 ⟨rfl, rfl⟩
  go_wp2_with fail
  refine (there_yes h to ht).mono ?_
  rintro e w1 ⟨rfl, rfl⟩
  clear h
  go_wp2
  go_ret
  exact ⟨rfl, rfl⟩

set_option maxHeartbeats 400000 in
theorem rupdate_loop (h : HeapRep w hb 76 cv vs most cs) (r to : Nat) (c : HC) (hr : cs[r]? = some c) (ht : to < cs.length) (hk : c.kind = 2) (hf : fol cs cs.length to = some r) :
    Calls Try.prog 35 #[.pointer (some ⟨hb, 0, none⟩), .int .i64 r, .int .i64 to] w fun e w' => e = .returned (.int .i64 14) ∧ w = w' := by
  obtain ⟨cb, cap, rfl, hc1, hc2, hcs⟩ := h.shape (by omega)
  have h1 := h.hd.cell (i := 1) rfl
  have hsm := h.small
  obtain ⟨v, hv, c0, _, _, _, _, _, _⟩ := hcs r c hr
  have hrl := (List.getElem?_eq_some_iff.1 hr).1
  rw [hk] at c0
  clear hcs hr hv hk
  go_enter Try.func35, Try.ntmps35
  go_wp2_with fail
  refine (there_yes h r hrl).mono ?_
  rintro e w1 ⟨rfl, rfl⟩
  go_wp2_with fail
  refine (there_yes h to ht).mono ?_
  rintro e w1 ⟨rfl, rfl⟩
  have hfo := find_any h _ to r hf
  clear h hf
  go_wp2_with fail
  refine (hfo).mono ?_
  rintro e w1 ⟨rfl, rfl⟩
  clear hfo
  go_wp2
  go_ret
  exact ⟨rfl, rfl⟩

set_option maxHeartbeats 400000 in
theorem rupdate_ok (h : HeapRep w hb 76 cv vs most cs) (r to t : Nat) (num : Int) (refs : List Int) (hr : cs[r]? = some ⟨2, num, refs⟩) (ht : to < cs.length) (hf : fol cs cs.length to = some t) (hne : t ≠ r) :
    Calls Try.prog 35 #[.pointer (some ⟨hb, 0, none⟩), .int .i64 r, .int .i64 to] w fun e w' => e = .returned (.int .i64 0) ∧
      HeapRep w' hb 76 cv (vs.set r (.slice (some ⟨w.heap.size, 0, none⟩) 1 1)) most (cs.set r ⟨3, num, [(to : Int)]⟩) ∧ Frm (fpOf hb cv vs) w w' := by
  obtain ⟨cb, cap, rfl, hc1, hc2, hcs⟩ := h.shape (by omega)
  have h1 := h.hd.cell (i := 1) rfl
  have hsm := h.small
  obtain ⟨v, hv, c0, c1, c2, z0, z1, z2, hrf⟩ := hcs r _ hr
  have hrl := (List.getElem?_eq_some_iff.1 hr).1
  simp only at c0 c1 c2 hrf
  clear hcs hr hv
  have hcb : cb < w.heap.size := h.lt cb (by simp [fpOf, Value.ownBlock])
  have n0 : cb ≠ w.heap.size := by omega
  have n2 : w.heap.size ≠ cb := by omega
  have hhb : hb < w.heap.size := h.hd.lt
  have m0 : hb ≠ w.heap.size := by omega
  have e1 : ((t : Int) == (r : Int)) = false := by rw [beq_eq_false_iff_ne]; omega
  go_enter Try.func35, Try.ntmps35
  go_wp2_with fail
  refine (there_yes h r hrl).mono ?_
  rintro e w1 ⟨rfl, rfl⟩
  go_wp2_with fail
  refine (there_yes h to ht).mono ?_
  rintro e w1 ⟨rfl, rfl⟩
  have hfo := find_any h _ to t hf
  have HH := Lib.hid h
  clear h hf hne
  go_wp2_with fail
  refine (hfo).mono ?_
  rintro e w1 ⟨rfl, rfl⟩
  clear hfo
  go_wp2
  go_region
  go_wp2
  go_ret
  refine ⟨rfl, ?_, ?_⟩
  · have f0 : Frm [] w (w.alloc (.cells #[.int .i64 to] 3)) := (Frm.refl _ _).alloc _
    have hnew : (w.alloc (.cells #[.int .i64 to] 3)).ownsRow 0 3 1 (.slice (some ⟨w.heap.size, 0, none⟩) 1 1) 1 (ints [(to : Int)]) := owns_made_full w 3 1 (ints [(to : Int)]) 1 rfl (by decide)
    have hset := HeapRep.set (HH.out.frm f0 (by simp)) hrl rfl ⟨3, num, [(to : Int)]⟩ _ hnew (by
      intro k hk hm
      have := HH.out.lt k hm
      simp [Value.ownBlock] at hk
      omega)
    rw [World.setCell_alloc_past _ _ _ _ hcb, World.setCell_alloc_past _ _ _ _ (by simpa using hcb), World.setCell_alloc_past _ _ _ _ (by simpa using hcb)] at hset
    exact hset.frm (fp := []) (Frm.refl _ _).drew (by simp)
  · refine Frm.drew (Frm.alloc (Frm.setCell (Frm.setCell (Frm.setCell (Frm.refl _ _) (.inl ?_) _) (.inl ?_) _) (.inl ?_) _) _) <;> simp [fpOf, Value.ownBlock]


theorem renter_no (h : HeapRep w hb 76 cv vs most cs) (r : Int) (hr : r < 0 ∨ (cs.length : Int) ≤ r) :
    Calls Try.prog 33 #[.pointer (some ⟨hb, 0, none⟩), .int .i64 r] w fun e w' => e = .returned (.tuple #[.agg zcell, .int .i64 21]) ∧ Frm [] w w' := by
  have f0 : Frm [] w (w.alloc (.cells zcell 32)) := (Frm.refl _ _).alloc _
  have h' := h.frm f0 (by simp)
  have r1 := RowAt.made w 32 [.int .i64 0, .int .i64 0, .slice none 0 0] zcell rfl
  have HF0 := Lib.hid f0
  go_enter Try.func33, Try.ntmps33
  go_wp2_with fail
  refine (rread_no h' r hr).mono ?_
  rintro e w1 ⟨rfl, hf1⟩
  have s1 := r1.frm hf1 (by simp)
  have d0 := s1.cell (i := 0) rfl
  have d1 := s1.cell (i := 1) rfl
  have d2 := s1.cell (i := 2) rfl
  have s2 := s1.alloc (.cells #[.int .i64 0, .int .i64 0, .slice none 0 0] 32)
  have y0 := s2.frozen 0
  have q0 := s2.cell (i := 0) rfl
  have q1 := s2.cell (i := 1) rfl
  have q2 := s2.cell (i := 2) rfl
  have y1 := s2.frozen 1
  have y2 := s2.frozen 2
  have n1 : w.heap.size ≠ w1.heap.size := by have := s1.lt; omega
  have HF1 := Lib.hid (HF0.out.trans hf1 (by simp))
  clear h h' f0 hf1 s2
  go_wp2
  refine bodyPost_ret (v := .tuple #[.agg zcell, .int .i64 21]) (by simp [results, Try.results33, go_sem, q0, q1, q2]) rfl ⟨rfl, ?_⟩
  exact (((HF1.out.alloc _).setCell (.inr (by simp)) _).setCell (.inr (by simp)) _).setCell (.inr (by simp)) _

set_option maxHeartbeats 400000 in
theorem renter_other (h : HeapRep w hb 76 cv vs most cs) (r t : Nat) (c : HC) (hr : r < cs.length) (hf : fol cs cs.length r = some t) (hc : cs[t]? = some c) (hk : c.kind ≠ 1) (hlc : c.refs.length ≤ 4096) :
    Calls Try.prog 33 #[.pointer (some ⟨hb, 0, none⟩), .int .i64 r] w fun e w' => e = .returned (.tuple #[.agg zcell, .int .i64 (if c.kind = 2 then 14 else 20)]) ∧ Frm [] w w' := by
  have f0 : Frm [] w (w.alloc (.cells zcell 32)) := (Frm.refl _ _).alloc _
  have h' := h.frm f0 (by simp)
  have r1 := RowAt.made w 32 [.int .i64 0, .int .i64 0, .slice none 0 0] zcell rfl
  have HF0 := Lib.hid f0
  have hrd := rread_yes h' r t c hr hf hc hlc
  obtain ⟨kd, nm, rf⟩ := c
  simp only at hk hlc hrd ⊢
  have e1 : (kd == 1) = false := by simpa using hk
  by_cases hk2 : kd = 2
  · subst hk2
    clear hk h h' hf hc
    go_enter Try.func33, Try.ntmps33
    go_wp2_with fail
    refine hrd.mono ?_
    rintro e w1 ⟨a, cap, rfl, hown, hf1⟩
    have s1 := r1.frm hf1 (by simp)
    have d0 := s1.cell (i := 0) rfl
    have d1 := s1.cell (i := 1) rfl
    have d2 := s1.cell (i := 2) rfl
    have s2 := s1.alloc (.cells #[.int .i64 2, .int .i64 nm, .slice a rf.length cap] 32)
    have y0 := s2.frozen 0
    have q0 := s2.cell (i := 0) rfl
    have q1 := s2.cell (i := 1) rfl
    have q2 := s2.cell (i := 2) rfl
    have y1 := s2.frozen 1
    have y2 := s2.frozen 2
    have n1 : w.heap.size ≠ w1.heap.size := by have := s1.lt; omega
    have HF1 := Lib.hid (HF0.out.trans hf1 (by simp))
    clear hrd hown f0 hf1 r1 s1 s2
    go_wp2
    refine bodyPost_ret (v := .tuple #[.agg zcell, .int .i64 14]) (by simp [results, Try.results33, go_sem, q0, q1, q2]) rfl ⟨rfl, ?_⟩
    exact (((HF1.out.alloc _).setCell (.inr (by simp)) _).setCell (.inr (by simp)) _).setCell (.inr (by simp)) _
  · have e2 : (kd == 2) = false := by simpa using hk2
    rw [if_neg hk2]
    clear hk2 hk h h' hf hc
    go_enter Try.func33, Try.ntmps33
    go_wp2_with fail
    refine hrd.mono ?_
    rintro e w1 ⟨a, cap, rfl, hown, hf1⟩
    have s1 := r1.frm hf1 (by simp)
    have d0 := s1.cell (i := 0) rfl
    have d1 := s1.cell (i := 1) rfl
    have d2 := s1.cell (i := 2) rfl
    have s2 := s1.alloc (.cells #[.int .i64 kd, .int .i64 nm, .slice a rf.length cap] 32)
    have y0 := s2.frozen 0
    have q0 := s2.cell (i := 0) rfl
    have q1 := s2.cell (i := 1) rfl
    have q2 := s2.cell (i := 2) rfl
    have y1 := s2.frozen 1
    have y2 := s2.frozen 2
    have n1 : w.heap.size ≠ w1.heap.size := by have := s1.lt; omega
    have HF1 := Lib.hid (HF0.out.trans hf1 (by simp))
    clear hrd hown f0 hf1 r1 s1 s2
    go_wp2
    refine bodyPost_ret (v := .tuple #[.agg zcell, .int .i64 20]) (by simp [results, Try.results33, go_sem, q0, q1, q2]) rfl ⟨rfl, ?_⟩
    exact (((HF1.out.alloc _).setCell (.inr (by simp)) _).setCell (.inr (by simp)) _).setCell (.inr (by simp)) _

set_option maxHeartbeats 1000000 in
theorem renter_thunk (h : HeapRep w hb 76 cv vs most cs) (r t : Nat) (num : Int) (refs : List Int) (hr : r < cs.length) (hf : fol cs cs.length r = some t) (hc : cs[t]? = some ⟨1, num, refs⟩) (hlc : refs.length ≤ 4096) :
    Calls Try.prog 33 #[.pointer (some ⟨hb, 0, none⟩), .int .i64 r] w fun e w' => ∃ a cap, e = .returned (.tuple #[.agg #[.int .i64 1, .int .i64 num, .slice a refs.length cap], .int .i64 0]) ∧
      w'.ownsRow 0 3 1 (.slice a refs.length cap) refs.length (ints refs) ∧
      HeapRep w' hb 76 cv (vs.set t (.slice none 0 0)) most (cs.set t ⟨2, num, []⟩) ∧ Frm (fpOf hb cv vs) w w' ∧ ∀ k, (Value.slice a refs.length cap).ownBlock = some k → w.heap.size ≤ k := by
  have f0 : Frm [] w (w.alloc (.cells zcell 32)) := (Frm.refl _ _).alloc _
  have h' := h.frm f0 (by simp)
  have r1 := RowAt.made w 32 [.int .i64 0, .int .i64 0, .slice none 0 0] zcell rfl
  have ht := (fol_lt hf).1
  have hrd := rread_yes h' r t _ hr hf hc hlc
  have HF0 := Lib.hid f0
  have HH0 := Lib.hid h'
  have hlt := h.lt
  have HLT := Lib.hid hlt
  have HC := Lib.hid hc
  clear hf hc h' h f0
  go_enter Try.func33, Try.ntmps33
  go_wp2_with fail
  refine hrd.mono ?_
  rintro e w1 ⟨a0, cap0, rfl, hown, hf1⟩
  have s1 := r1.frm hf1 (by simp)
  have hsz1 := s1.lt
  obtain ⟨W2, hW2⟩ : ∃ y, y = w1.alloc (.cells #[.int .i64 1, .int .i64 num, .slice a0 refs.length cap0] 32) := ⟨_, rfl⟩
  have hf2 : Frm [] w1 W2 := by rw [hW2]; exact (Frm.refl [] w1).alloc _
  have s2 := s1.frm hf2 (by simp)
  have d0 := s2.cell (i := 0) rfl
  have d1 := s2.cell (i := 1) rfl
  have d2 := s2.cell (i := 2) rfl
  have y0 := s2.frozen 0
  have y1 := s2.frozen 1
  have y2 := s2.frozen 2
  have bx : RowAt W2 w1.heap.size 32 [.int .i64 1, .int .i64 num, .slice a0 refs.length cap0] := by rw [hW2]; exact RowAt.made w1 32 _ _ rfl
  have b0 := bx.cell (i := 0) rfl
  have b1 := bx.cell (i := 1) rfl
  have b2 := bx.cell (i := 2) rfl
  have HH1 := Lib.hid ((HH0.out.frm hf1 (by simp)).frm hf2 (by simp))
  obtain ⟨cb, cap, rfl, hc1, hc2, hcs⟩ := HH1.out.shape (by omega)
  have h1 := HH1.out.hd.cell (i := 1) rfl
  have hsm := HH1.out.small
  obtain ⟨v, hv, c0, c1, c2, z0, z1, z2, hrf⟩ := hcs t _ HC.out
  simp only at c0 c1 c2 hrf
  have hcb : cb < w.heap.size := hlt cb (by simp [fpOf, Value.ownBlock])
  have hhb : hb < w.heap.size := hlt hb (by simp [fpOf])
  have hgn : ∀ k, (Value.slice a0 refs.length cap0).ownBlock = some k → w.heap.size + 1 ≤ k := fun k hk => by
    have := (hown.lt k hk).1
    simpa using this
  have HGN := Lib.hid hgn
  have HO := Lib.hid (ownsB_mono (ownsB_frm hown hf2 (by simp)) (C := 0) (by omega))
  have HF1 := Lib.hid ((HF0.out.trans hf1 (by simp)).trans hf2 (by simp))
  have n1 : w.heap.size ≠ w1.heap.size := by omega
  have n2 : w1.heap.size ≠ w.heap.size := by omega
  have m0 : hb ≠ w.heap.size := by omega
  have m1 : hb ≠ w1.heap.size := by omega
  have k0 : cb ≠ w.heap.size := by omega
  have k1 : cb ≠ w1.heap.size := by omega
  have k2 : w.heap.size ≠ cb := by omega
  have k3 : w1.heap.size ≠ cb := by omega
  have HW2 := Lib.hid hW2
  clear hcs hv hrf hrd hown hf1 hf2 r1 s1 s2 bx hlt hW2 hgn
  go_wp2
  rw [← HW2.out]
  go_region
  go_wp2
  have hset := HeapRep.set HH1.out (by omega : t < cs.length) rfl ⟨2, num, []⟩ (.slice none 0 0) (World.ownsRow_nil _ _ _ _) (by simp [Value.ownBlock])
  have fall : Frm [cb, w.heap.size] W2 ((((((W2.setCell ⟨cb, t * 3, none⟩ (.int .i64 2)).setCell ⟨cb, t * 3 + 1, none⟩ (.int .i64 num)).setCell ⟨cb, t * 3 + 2, none⟩ (.slice none 0 0)).setCell ⟨w.heap.size, 0, none⟩ (.int .i64 1)).setCell ⟨w.heap.size, 1, none⟩ (.int .i64 num)).setCell ⟨w.heap.size, 2, none⟩ (.slice a0 refs.length cap0)).drew := by
    refine Frm.drew (Frm.setCell (Frm.setCell (Frm.setCell (Frm.setCell (Frm.setCell (Frm.setCell (Frm.refl _ _) (.inl ?_) _) (.inl ?_) _) (.inl ?_) _) (.inl ?_) _) (.inl ?_) _) (.inl ?_) _) <;> simp
  refine bodyPost_ret (v := .tuple #[.agg #[.int .i64 1, .int .i64 num, .slice a0 refs.length cap0], .int .i64 0]) (by simp [results, Try.results33, go_sem, d0, d1, d2]) rfl ⟨a0, cap0, rfl, ?_, ?_, ?_, fun k hk => by have := HGN.out k hk; omega⟩
  · exact ownsB_frm HO.out fall (fun k hk => by have := HGN.out k hk; simp; omega)
  · refine hset.frm (fp := [w.heap.size]) (Frm.drew (Frm.setCell (Frm.setCell (Frm.setCell (Frm.refl _ _) (.inl ?_) _) (.inl ?_) _) (.inl ?_) _)) (fun k hk => ?_)
    · simp
    · simp
    · simp
    · rcases fpOf_set_sub hk with h9 | h9
      · have := HLT.out k h9
        simp; omega
      · simp [Value.ownBlock] at h9
  · refine (HF1.out.mono (fq := fpOf hb (.slice (some ⟨cb, 0, none⟩) cs.length cap) vs) (by simp)).trans fall (fun x hx => ?_)
    simp only [List.mem_cons, List.not_mem_nil, or_false] at hx
    rcases hx with rfl | rfl
    · exact .inl (by simp [fpOf, Value.ownBlock])
    · exact .inr (Nat.le_refl _)

end
end Go.Proofs.Ytlpgonnionbkfaa
