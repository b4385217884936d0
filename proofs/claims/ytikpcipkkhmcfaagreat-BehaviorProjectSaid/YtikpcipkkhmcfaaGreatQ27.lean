/- slices.Clone of a row of numbers. -/
import Derived.Test.YtikpcipkkhmcfaaGreatQ02
import Derived.Test.YtikpcipkkhmcfaaGreatQ22
namespace Go.Proofs.YtikpcipkkhmcfaaGreat.Beh
open Go.RowKit Go.Lib Go.Proofs.YtikpcipkkhmcfaaGreat

set_option linter.unusedSimpArgs false in
set_option maxRecDepth 100000 in
set_option maxHeartbeats 4000000 in
theorem cloneI_any {F : List Nat} (w : World) (v : Value) (l : List Int) (h : RowV w F v l.length 1 (ints l)) (hl : l.length ≤ 17592186044416) :
  Calls Tryz.prog 61 #[v] w fun e w' => (∃ a c, e = .returned (.slice a l.length c) ∧ w'.ownsRow w.heap.size 3 1 (.slice a l.length c) l.length (ints l)) ∧ Frm [] w w' := by
 obtain ⟨a, c, rfl⟩ := RowV.shape h
 cases a with
 | none =>
  obtain ⟨hx, a', c', e', hc1, _, h0, _⟩ := h
  cases e'
  have hc := h0 rfl
  subst hc
  have hl0 : l = [] := List.eq_nil_of_length_eq_zero (by omega)
  subst hl0
  simp only [List.length_nil]
  have e1 := @Lib.run_eql_slice_nil Tryz.prog
  go_enter Tryz.func61, Tryz.ntmps61
  go_wp2_with fail
  go_ret
  exact ⟨⟨none, 0, rfl, rfl, .inl ⟨rfl, rfl⟩⟩, Frm.refl _ _⟩
 | some p =>
  have H := Lib.hid h
  clear h
  have e1 := @Lib.run_eql_slice_nil Tryz.prog
  go_enter Tryz.func61, Tryz.ntmps61
  go_wp2_with (first | (at_builtin; refine app_rowB rfl (.tmp 5) (.tmp 6) 22 3 _ 1 8 rfl Tryz.underlying22 infoInt rfl (by decide) w.heap.size 0 (.slice (some ⟨w.heap.size, 0, none⟩) 0 0) [] rfl (owns_made0 w 3 1) _ l.length (ints l) F rfl (RowV.nil H.out ((Frm.refl [] w).alloc _)) (by simp [ints, Value.oneCell']) l.length (Nat.zero_add _) (by omega) (by omega) (by simp) ?_; intro a1 c1 w1 own1 hf1 hl1) | fail)
  go_ret
  exact ⟨⟨a1, c1, rfl, by simpa using own1⟩, frm_own ((Frm.refl [] w).alloc _) (owns_made0 w 3 1) (Nat.le_refl _) hf1⟩
end Go.Proofs.YtikpcipkkhmcfaaGreat.Beh
