/- slices.Clone of a row of arcs (the Great seat). -/
import Derived.Test.YtdknbgejhhoaiaaGreatQ23
import Derived.Test.YtdknbgejhhoaiaaGreatQ21
namespace Go.Proofs.YtdknbgejhhoaiaaGreat.Ind
open Go.Shelf Go.RowKit Go.Lib

theorem infoArc2 : (Tryz.prog.info? 55).map (fun i => (i.zero, i.size, i.bytes)) = some (some (.agg #[.int .i64 0, .int .i64 0]), 2, 16) := by kernel_rfl
set_option linter.unusedSimpArgs false in
set_option maxRecDepth 100000 in
set_option maxHeartbeats 4000000 in
theorem cloneRow_any {F : List Nat} (w : World) (v : Value) (l : List Ar) (h : RowV w F v l.length 2 (l.flatMap arE)) (hl : l.length ≤ 1000000) :
    Calls Tryz.prog 41 #[v] w fun e w' => (∃ a c, e = .returned (.slice a l.length c) ∧ w'.ownsRow w.heap.size 55 2 (.slice a l.length c) l.length (l.flatMap arE)) ∧ Frm [] w w' := by
  obtain ⟨a, c, rfl⟩ := RowV.shape h
  cases a with
  | none =>
    obtain ⟨hx, a', c', e', hc1, _, h0, _⟩ := h
    cases e'
    have hc := h0 rfl
    subst hc
    have hl0 : l = [] := List.eq_nil_of_length_eq_zero (by omega)
    subst hl0
    simp only [List.length_nil]
    have e1 := @Lib.run_eql_slice_nil Tryz.prog
    go_enter Tryz.func41, Tryz.ntmps41
    go_wp2_with fail
    go_ret
    exact ⟨⟨none, 0, rfl, rfl, .inl ⟨rfl, rfl⟩⟩, Frm.refl _ _⟩
  | some p =>
    have H := Lib.hid h
    clear h
    have e1 := @Lib.run_eql_slice_nil Tryz.prog
    go_enter Tryz.func41, Tryz.ntmps41
    go_wp2_with (first | (at_builtin; refine app_row rfl (.tmp 5) (.tmp 6) 51 55 _ 2 16 rfl Tryz.underlying51 infoArc2 rfl (by decide) (by decide) w.heap.size 0 (.slice (some ⟨w.heap.size, 0, none⟩) 0 0) [] rfl (owns_made0 w 55 2) _ l.length (l.flatMap arE) F rfl (RowV.nil H.out ((Frm.refl [] w).alloc _)) (arE_one l) l.length (Nat.zero_add _) (by omega) (by simp) ?_; intro a1 c1 w1 own1 hf1 hl1) | fail)
    go_ret
    exact ⟨⟨a1, c1, rfl, by simpa using own1⟩, frm_own ((Frm.refl [] w).alloc _) (owns_made0 w 55 2) (Nat.le_refl _) hf1⟩
end Go.Proofs.YtdknbgejhhoaiaaGreat.Ind
