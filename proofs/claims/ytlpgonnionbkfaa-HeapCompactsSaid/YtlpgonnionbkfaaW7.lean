/- Contracts of Enter. -/
import Derived.Test.YtlpgonnionbkfaaW6
namespace Go.Proofs.Ytlpgonnionbkfaa
open Go.RowKit

section
variable {w : World} {hb : Nat} {cv : Value} {vs : List Value} {most : Int} {cs : List HC}

theorem enter_no (h : HeapRep w hb 60 cv vs most cs) (r : Int) (hr : r < 0 ∨ (cs.length : Int) ≤ r) :
    Calls Try.prog 11 #[.pointer (some ⟨hb, 0, none⟩), .int .i64 r] w fun e w' => e = .returned (.tuple #[.agg zcell, .int .i64 21]) ∧ Frm [] w w' := by
  have f0 : Frm [] w (w.alloc (.cells zcell 32)) := (Frm.refl _ _).alloc _
  have h' := h.frm f0 (by simp)
  go_enter Try.func11, Try.ntmps11
  go_wp2_with fail
  refine (exists_no h' r hr).mono ?_
  rintro e w1 ⟨rfl, rfl⟩
  go_wp2
  refine bodyPost_ret (v := .tuple #[.agg zcell, .int .i64 21]) (by simp [results, Try.results11, go_sem]) rfl ⟨rfl, f0⟩

set_option maxHeartbeats 400000 in
theorem enter_other (h : HeapRep w hb 60 cv vs most cs) (r t : Nat) (c : HC) (hr : r < cs.length) (hf : fol cs cs.length r = some t) (hc : cs[t]? = some c) (hk : c.kind ≠ 1) :
    Calls Try.prog 11 #[.pointer (some ⟨hb, 0, none⟩), .int .i64 r] w fun e w' => e = .returned (.tuple #[.agg zcell, .int .i64 (if c.kind = 2 then 14 else 20)]) ∧ Frm [] w w' := by
  have f0 : Frm [] w (w.alloc (.cells zcell 32)) := (Frm.refl _ _).alloc _
  have h' := h.frm f0 (by simp)
  have ht := (fol_lt hf).1
  obtain ⟨cb, cap, rfl, hc1, hc2, hcs⟩ := h'.shape (by omega)
  have h1 := h'.hd.cell (i := 1) rfl
  have hsm := h.small
  obtain ⟨v, hv, c0, c1, c2, _, _, _, hrf⟩ := hcs t c hc
  obtain ⟨a0, cap0, rfl, _⟩ := owns_shape hrf
  have f1 := f0.alloc (.cells #[.int .i64 c.kind, .int .i64 c.num, .slice a0 c.refs.length cap0] 32)
  have e1 : (c.kind == 1) = false := by simpa using hk
  clear hcs hc hv hk
  by_cases hk2 : c.kind = 2
  · have e2 : (c.kind == 2) = true := by simpa using hk2
    have H2 := Lib.hid hk2
    clear hk2
    go_enter Try.func11, Try.ntmps11
    go_wp2_with fail
    refine (exists_yes h' r hr).mono ?_
    rintro e w1 ⟨rfl, rfl⟩
    go_wp2_with fail
    refine (follow_any h' _ r t hf).mono ?_
    rintro e w1 ⟨rfl, rfl⟩
    clear h h' f0 hf
    go_wp2
    refine bodyPost_ret (v := .tuple #[.agg zcell, .int .i64 14]) (by simp [results, Try.results11, go_sem]) rfl ⟨rfl, ((Frm.refl _ _).alloc _).alloc _⟩
  · have e2 : (c.kind == 2) = false := by simpa using hk2
    have H2 := Lib.hid hk2
    clear hk2
    go_enter Try.func11, Try.ntmps11
    go_wp2_with fail
    refine (exists_yes h' r hr).mono ?_
    rintro e w1 ⟨rfl, rfl⟩
    go_wp2_with fail
    refine (follow_any h' _ r t hf).mono ?_
    rintro e w1 ⟨rfl, rfl⟩
    clear h h' f0 hf
    go_wp2
    refine bodyPost_ret (v := .tuple #[.agg zcell, .int .i64 20]) (by simp [results, Try.results11, go_sem]) rfl ⟨rfl, ((Frm.refl _ _).alloc _).alloc _⟩

set_option maxHeartbeats 400000 in
theorem enter_thunk (h : HeapRep w hb 60 cv vs most cs) (r t : Nat) (num : Int) (refs : List Int) (hr : r < cs.length) (hf : fol cs cs.length r = some t) (hc : cs[t]? = some ⟨1, num, refs⟩) :
    Calls Try.prog 11 #[.pointer (some ⟨hb, 0, none⟩), .int .i64 r] w fun e w' => ∃ a cap, e = .returned (.tuple #[.agg #[.int .i64 1, .int .i64 num, .slice a refs.length cap], .int .i64 0]) ∧
      vs[t]? = some (.slice a refs.length cap) ∧ w'.ownsRow 0 3 1 (.slice a refs.length cap) refs.length (ints refs) ∧
      HeapRep w' hb 60 cv (vs.set t (.slice none 0 0)) most (cs.set t ⟨2, num, []⟩) ∧ Frm (fpOf hb cv vs) w w' := by
  have f0 : Frm [] w (w.alloc (.cells zcell 32)) := (Frm.refl _ _).alloc _
  have h' := h.frm f0 (by simp)
  have ht := (fol_lt hf).1
  obtain ⟨cb, cap, rfl, hc1, hc2, hcs⟩ := h.shape (by omega)
  have h1 := h.hd.cell (i := 1) rfl
  have hsm := h.small
  obtain ⟨v, hv, c0, c1, c2, z0, z1, z2, hrf⟩ := hcs t _ hc
  obtain ⟨a0, cap0, rfl, _⟩ := owns_shape hrf
  simp only at c0 c1 c2 hrf
  clear hcs hc
  have hcb : cb < w.heap.size := h.lt cb (by simp [fpOf, Value.ownBlock])
  have hhb : hb < w.heap.size := h.hd.lt
  have m0 : hb ≠ w.heap.size := by omega
  have m1 : hb ≠ w.heap.size + 1 := by omega
  have n0 : cb ≠ w.heap.size := by omega
  have n1 : cb ≠ w.heap.size + 1 := by omega
  have n2 : w.heap.size ≠ cb := by omega
  have n3 : w.heap.size + 1 ≠ cb := by omega
  go_enter Try.func11, Try.ntmps11
  go_wp2_with fail
  refine (exists_yes h' r hr).mono ?_
  rintro e w1 ⟨rfl, rfl⟩
  go_wp2_with fail
  refine (follow_any h' _ r t hf).mono ?_
  rintro e w1 ⟨rfl, rfl⟩
  have HH := Lib.hid h
  have Hv := Lib.hid hv
  clear h' f0 hf h hv
  go_wp2
  go_region
  go_wp2
  have hset := HeapRep.set HH.out ht rfl ⟨2, num, []⟩ (.slice none 0 0) (World.ownsRow_nil _ _ _ _) (by simp [Value.ownBlock])
  have hap := HH.out.apart
  have hin : ∀ k, (Value.slice a0 refs.length cap0).ownBlock = some k → k ≠ cb := by
    intro k hk e
    subst e
    simp only [fpOf, Value.ownBlock, Option.toList_some, List.cons_append, List.nil_append, List.nodup_cons] at hap
    exact hap.2.1 (mem_blocksOf.2 ⟨t, _, Hv.out, hk⟩)
  refine bodyPost_ret (v := .tuple #[.agg #[.int .i64 1, .int .i64 num, .slice a0 refs.length cap0], .int .i64 0]) (by simp [results, Try.results11, go_sem]) rfl ⟨a0, cap0, rfl, Hv.out, ?_, ?_, ?_⟩
  · refine owns_frm (fp := [cb]) hrf (Frm.drew (Frm.alloc (Frm.alloc (Frm.setCell (Frm.setCell (Frm.setCell (Frm.refl _ _) (.inl ?_) _) (.inl ?_) _) (.inl ?_) _) _) _)) (fun k hk => by simpa using hin k hk) <;> simp
  · exact hset.frm (fp := []) (((Frm.refl _ _).alloc _).alloc _).drew (by simp)
  · refine Frm.drew (Frm.alloc (Frm.alloc (Frm.setCell (Frm.setCell (Frm.setCell (Frm.refl _ _) (.inl ?_) _) (.inl ?_) _) (.inl ?_) _) _) _) <;> simp [fpOf, Value.ownBlock]

end
end Go.Proofs.Ytlpgonnionbkfaa
