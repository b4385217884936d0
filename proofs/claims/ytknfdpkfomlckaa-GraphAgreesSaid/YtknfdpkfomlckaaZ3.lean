/- The sanity check of the laws of chapter 24 answers true. -/
import Derived.Test.YtknfdpkfomlckaaZ2
import Derived.Test.YtknfdpkfomlckaaGE
import Derived.Test.YtknfdpkfomlckaaGI
namespace Go.Proofs.Ytknfdpkfomlckaa
open Go.RowKit

theorem OwnI.frmO {B : Nat} {w w' : World} {a : Option Addr} {cap : Nat} {xs : List Int} (h : OwnI B w a cap xs) (hf : Frm [] w w') : OwnI B w' a cap xs := ownsB_frm h hf (by simp)

set_option linter.unusedSimpArgs false in
set_option maxRecDepth 100000 in
set_option maxHeartbeats 4000000 in
theorem sane_any (w : World) :
    Calls Try.prog 19 #[] w fun e w' => e = .returned (.bool true) ∧ Frm [] w w' := by
  go_enter Try.func19, Try.ntmps19
  go_wp2_with fail
  refine (example_any w).mono ?_
  rintro e1 w1 ⟨a, rfl, hla, hf1⟩
  have hbox := box1 w1 (.slice a 4 4) 25
  have HB := Lib.hid hbox
  have hf2 : Frm [] w1 (w1.alloc (.cells #[.slice a 4 4] 25)) := (Frm.refl [] w1).alloc _
  have HF2 := Lib.hid hf2
  have HL := Lib.hid hla
  have HF1 := Lib.hid hf1
  have hdv : Calls Try.prog 26 #[.agg #[.slice a 4 4]] (w1.alloc (.cells #[.slice a 4 4] 25)) _ := divergent_any w1.heap.size a 4 exL _ (hla.nil hf2 rfl)
  clear hbox hf2 hla hf1
  go_wp2_with fail
  refine hdv.mono ?_
  rintro e3 w3 ⟨h3, hf3⟩
  obtain ⟨g3, rfl, hown3⟩ := div_ex h3
  have hb3 := (HB.out.frm hf3 (by simp)).cell (i := 0) rfl
  have HF3 := Lib.hid (HF2.out.trans hf3 (by simp))
  have HFB3 := Lib.hid hf3
  have HOWN3 := Lib.hid hown3
  have hac : Calls Try.prog 30 #[.agg #[.slice a 4 4], .int .i64 2] w3 _ := gacc_any w1.heap.size a 4 exL 2 w3 (HL.out.nil HF3.out rfl)
  clear hdv h3 hf3 hown3
  go_wp2_with fail
  refine hac.mono ?_
  rintro e4 w4 ⟨a4, c4, rfl, h4, hf4⟩
  rw [ex_acc2] at h4 ⊢
  have hb4 := (HB.out.frm (HFB3.out.trans hf4 (by simp)) (by simp)).cell (i := 0) rfl
  have HFB4 := Lib.hid (HFB3.out.trans hf4 (by simp))
  have HF4 := Lib.hid (HF3.out.trans hf4 (by simp))
  have HF34 := Lib.hid hf4
  have H4 := Lib.hid h4
  have hac2 : Calls Try.prog 30 #[.agg #[.slice a 4 4], .int .i64 0] w4 _ := gacc_any w1.heap.size a 4 exL 0 w4 (HL.out.nil HF4.out rfl)
  clear hac hf4 h4 hb3
  simp only [List.length_cons, List.length_nil, Nat.zero_add]
  go_wp2_with fail
  refine hac2.mono ?_
  rintro e5 w5 ⟨a5, c5, rfl, -, hf5⟩
  rw [ex_acc0]
  have hb5 := (HB.out.frm (HFB4.out.trans hf5 (by simp)) (by simp)).cell (i := 0) rfl
  have HFB5 := Lib.hid (HFB4.out.trans hf5 (by simp))
  have HF5 := Lib.hid (HF4.out.trans hf5 (by simp))
  have HF45 := Lib.hid hf5
  have hls : Calls Try.prog 27 #[.agg #[.slice a 4 4], .int .i64 0] w5 _ := lasso_any w1.heap.size a 4 exL 0 w5 (HL.out.nil HF5.out rfl)
  clear hac2 hf5 hb4
  go_wp2_with fail
  refine hls.mono ?_
  rintro e6 w6 ⟨h6, hf6⟩
  obtain ⟨a6, c6, a7, c7, rfl, h7, h8⟩ := lasso_ex h6
  have HF6 := Lib.hid (HF5.out.trans hf6 (by simp))
  have HF36 := Lib.hid ((HF34.out.trans HF45.out (by simp)).trans hf6 (by simp))
  have HF46 := Lib.hid (HF45.out.trans hf6 (by simp))
  have H7 := Lib.hid h7
  have H8 := Lib.hid h8
  have hrow := own_rowg2 (own_frm_out HOWN3.out HF36.out (by simp))
  have k0 := hrow.cell (i := 0) rfl
  have k1 := hrow.cell (i := 1) rfl
  have k2 := hrow.cell (i := 2) rfl
  have k3 := hrow.cell (i := 3) rfl
  have hfz := HF6.out
  clear hls h6 hf6 h7 h8 hb5 hrow
  go_wp2_with fail
  have hf8 : Frm [] w6 (w6.alloc (.cells #[.int .i64 1] 3)) := (Frm.refl [] w6).alloc _
  have his8 : Calls Try.prog 15 #[.slice a4 1 c4, .slice (some ⟨w6.heap.size, 0, none⟩) 1 1] (w6.alloc (.cells #[.int .i64 1] 3)) _ := ints_same (w6.alloc (.cells #[.int .i64 1] 3)).heap.size a4 (some ⟨w6.heap.size, 0, none⟩) c4 1 [1] [1] _ (OwnI.rd (OwnI.frmO H4.out (HF46.out.trans hf8 (by simp))) (Nat.le_refl _)) (rd_of_owns (owns_made_full w6 3 1 (ints [1]) 1 rfl (by decide)) (Nat.le_refl _))
  refine his8.mono ?_
  rintro e8 w8 ⟨h8, hg8⟩
  rw [show decide (([1] : List Int) = [1]) = true by decide] at h8
  subst h8
  have F8 := hf8.trans hg8 (by simp)
  clear his8 hf8 hg8
  go_wp2_with fail
  have hf9 : Frm [] w8 (w8.alloc (.cells #[.int .i64 0] 3)) := (Frm.refl [] w8).alloc _
  have his9 : Calls Try.prog 15 #[.slice a6 1 c6, .slice (some ⟨w8.heap.size, 0, none⟩) 1 1] (w8.alloc (.cells #[.int .i64 0] 3)) _ := ints_same (w8.alloc (.cells #[.int .i64 0] 3)).heap.size a6 (some ⟨w8.heap.size, 0, none⟩) c6 1 [0] [0] _ (OwnI.rd (OwnI.frmO H7.out (F8.trans hf9 (by simp))) (Nat.le_refl _)) (rd_of_owns (owns_made_full w8 3 1 (ints [0]) 1 rfl (by decide)) (Nat.le_refl _))
  refine his9.mono ?_
  rintro e9 w9 ⟨h9, hg9⟩
  rw [show decide (([0] : List Int) = [0]) = true by decide] at h9
  subst h9
  have F9 := hf9.trans hg9 (by simp)
  clear his9 hf9 hg9
  go_wp2_with fail
  have hf10 : Frm [] w9 (w9.alloc (.cells #[.int .i64 0, .int .i64 1] 3)) := (Frm.refl [] w9).alloc _
  have his10 : Calls Try.prog 15 #[.slice a7 2 c7, .slice (some ⟨w9.heap.size, 0, none⟩) 2 2] (w9.alloc (.cells #[.int .i64 0, .int .i64 1] 3)) _ := ints_same (w9.alloc (.cells #[.int .i64 0, .int .i64 1] 3)).heap.size a7 (some ⟨w9.heap.size, 0, none⟩) c7 2 [0, 1] [0, 1] _ (OwnI.rd (OwnI.frmO H8.out ((F8.trans F9 (by simp)).trans hf10 (by simp))) (Nat.le_refl _)) (rd_of_owns (owns_made_full w9 3 1 (ints [0, 1]) 2 rfl (by decide)) (Nat.le_refl _))
  refine his10.mono ?_
  rintro e10 w10 ⟨h10, hg10⟩
  rw [show decide (([0, 1] : List Int) = [0, 1]) = true by decide] at h10
  subst h10
  have F10 := hf10.trans hg10 (by simp)
  clear his10 hf10 hg10
  go_wp2_with fail
  go_ret
  exact ⟨rfl, (((HF1.out.trans HF6.out (by simp)).trans F8 (by simp)).trans F9 (by simp)).trans F10 (by simp)⟩

end Go.Proofs.Ytknfdpkfomlckaa
