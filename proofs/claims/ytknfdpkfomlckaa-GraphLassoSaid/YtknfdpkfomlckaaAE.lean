/- Merged text: Z1, Z2, Z3 of the notes. -/
import Derived.Test.YtknfdpkfomlckaaY6
import Derived.Test.YtknfdpkfomlckaaA4
import Derived.Test.YtknfdpkfomlckaaA5
/- The example of the laws of chapter 24. -/
namespace Go.Proofs.Ytknfdpkfomlckaa
open Go.RowKit

def exL : Lts := [[(0, 1), (2, 2)], [(0, 0)], [(1, 3)], []]

set_option linter.unusedSimpArgs false in
set_option maxRecDepth 100000 in
set_option maxHeartbeats 2000000 in
theorem example_any (w : World) :
    Calls Try.prog 31 #[] w fun e w' => ∃ a, e = .returned (.agg #[.slice a 4 4]) ∧ LAt w'.heap.size w' a 4 exL ∧ Frm [] w w' := by
  go_enter Try.func31, Try.ntmps31
  go_wp2_with fail
  obtain ⟨A, hA⟩ : ∃ A, A = w.alloc (.cells #[.slice (some ⟨w.heap.size + 1 + 1 + 1 + 1, 0, none⟩) 4 4] 25) := ⟨_, rfl⟩
  rw [← hA]
  have s1 : A.heap.size = w.heap.size + 1 := by rw [hA]; simp only [World.alloc, Array.size_push]
  have f1 : Frm [] w A := by rw [hA]; exact (Frm.refl [] w).alloc _
  have r0 : RowAt A w.heap.size 25 [.slice (some ⟨w.heap.size + 1 + 1 + 1 + 1, 0, none⟩) 4 4] := by rw [hA]; exact box1 w _ _
  clear hA
  obtain ⟨B, hB⟩ : ∃ B, B = A.alloc (.cells #[.int .i64 0, .int .i64 1, .int .i64 2, .int .i64 2] 51) := ⟨_, rfl⟩
  rw [← hB]
  have s2 : B.heap.size = w.heap.size + 1 + 1 := by rw [hB]; simp only [World.alloc, Array.size_push, s1]
  have f2 : Frm [] A B := by rw [hB]; exact (Frm.refl [] A).alloc _
  have r1 : RowAt B (w.heap.size + 1) 51 [.int .i64 0, .int .i64 1, .int .i64 2, .int .i64 2] := by rw [hB, ← s1]; exact RowAt.made A _ _ _ rfl
  clear hB
  obtain ⟨C, hC⟩ : ∃ C, C = B.alloc (.cells #[.int .i64 0, .int .i64 0] 51) := ⟨_, rfl⟩
  rw [← hC]
  have s3 : C.heap.size = w.heap.size + 1 + 1 + 1 := by rw [hC]; simp only [World.alloc, Array.size_push, s2]
  have f3 : Frm [] B C := by rw [hC]; exact (Frm.refl [] B).alloc _
  have r2 : RowAt C (w.heap.size + 1 + 1) 51 [.int .i64 0, .int .i64 0] := by rw [hC, ← s2]; exact RowAt.made B _ _ _ rfl
  clear hC
  obtain ⟨D, hD⟩ : ∃ D, D = C.alloc (.cells #[.int .i64 1, .int .i64 3] 51) := ⟨_, rfl⟩
  rw [← hD]
  have s4 : D.heap.size = w.heap.size + 1 + 1 + 1 + 1 := by rw [hD]; simp only [World.alloc, Array.size_push, s3]
  have f4 : Frm [] C D := by rw [hD]; exact (Frm.refl [] C).alloc _
  have r3 : RowAt D (w.heap.size + 1 + 1 + 1) 51 [.int .i64 1, .int .i64 3] := by rw [hD, ← s3]; exact RowAt.made C _ _ _ rfl
  clear hD
  obtain ⟨E, hE⟩ : ∃ E, E = D.alloc (.cells #[.slice (some ⟨w.heap.size + 1, 0, none⟩) 2 2, .slice (some ⟨w.heap.size + 1 + 1, 0, none⟩) 1 1, .slice (some ⟨w.heap.size + 1 + 1 + 1, 0, none⟩) 1 1, .slice none 0 0] 49) := ⟨_, rfl⟩
  rw [← hE]
  have s5 : E.heap.size = w.heap.size + 1 + 1 + 1 + 1 + 1 := by rw [hE]; simp only [World.alloc, Array.size_push, s4]
  have f5 : Frm [] D E := by rw [hE]; exact (Frm.refl [] D).alloc _
  have r4 : RowAt E (w.heap.size + 1 + 1 + 1 + 1) 49 [.slice (some ⟨w.heap.size + 1, 0, none⟩) 2 2, .slice (some ⟨w.heap.size + 1 + 1, 0, none⟩) 1 1, .slice (some ⟨w.heap.size + 1 + 1 + 1, 0, none⟩) 1 1, .slice none 0 0] := by rw [hE, ← s4]; exact RowAt.made D _ _ _ rfl
  clear hE
  have g3 : RowAt E (w.heap.size + 1 + 1 + 1) 51 [.int .i64 1, .int .i64 3] := r3.frm f5 (by simp)
  have g2 : RowAt E (w.heap.size + 1 + 1) 51 [.int .i64 0, .int .i64 0] := (r2.frm f4 (by simp)).frm f5 (by simp)
  have g1 : RowAt E (w.heap.size + 1) 51 [.int .i64 0, .int .i64 1, .int .i64 2, .int .i64 2] := ((r1.frm f3 (by simp)).frm f4 (by simp)).frm f5 (by simp)
  have g0 : RowAt E w.heap.size 25 [.slice (some ⟨w.heap.size + 1 + 1 + 1 + 1, 0, none⟩) 4 4] := (((r0.frm f2 (by simp)).frm f3 (by simp)).frm f4 (by simp)).frm f5 (by simp)
  have hcs := g0.cell (i := 0) rfl
  refine bodyPost_ret (v := .agg #[.slice (some ⟨w.heap.size + 1 + 1 + 1 + 1, 0, none⟩) 4 4]) (by simp [results, Try.results31, go_sem]; rw [hcs]; rfl) rfl ?_
  refine ⟨_, rfl, ⟨Nat.le_refl _, by decide, by decide, fun i row hi => ?_⟩, (((f1.trans f2 (by simp)).trans f3 (by simp)).trans f4 (by simp)).trans f5 (by simp)⟩
  rcases i with _ | _ | _ | _ | i
  · obtain rfl : row = [(0, 1), (2, 2)] := by simpa [exL] using hi.symm
    refine ⟨_, 0, _, _, rfl, by omega, r4.cell (i := 0) rfl, by decide, by decide, by decide, fun j e t hj => ?_⟩
    rcases j with _ | _ | j
    · obtain ⟨rfl, rfl⟩ : e = 0 ∧ t = 1 := by simpa [eq_comm] using hj
      exact ⟨_, 0, rfl, by omega, g1.cell (i := 0) rfl, g1.cell (i := 1) rfl⟩
    · obtain ⟨rfl, rfl⟩ : e = 2 ∧ t = 2 := by simpa [eq_comm] using hj
      exact ⟨_, 0, rfl, by omega, g1.cell (i := 2) rfl, g1.cell (i := 3) rfl⟩
    · simp at hj
  · obtain rfl : row = [(0, 0)] := by simpa [exL] using hi.symm
    refine ⟨_, 0, _, _, rfl, by omega, r4.cell (i := 1) rfl, by decide, by decide, by decide, fun j e t hj => ?_⟩
    rcases j with _ | j
    · obtain ⟨rfl, rfl⟩ : e = 0 ∧ t = 0 := by simpa [eq_comm] using hj
      exact ⟨_, 0, rfl, by omega, g2.cell (i := 0) rfl, g2.cell (i := 1) rfl⟩
    · simp at hj
  · obtain rfl : row = [(1, 3)] := by simpa [exL] using hi.symm
    refine ⟨_, 0, _, _, rfl, by omega, r4.cell (i := 2) rfl, by decide, by decide, by decide, fun j e t hj => ?_⟩
    rcases j with _ | j
    · obtain ⟨rfl, rfl⟩ : e = 1 ∧ t = 3 := by simpa [eq_comm] using hj
      exact ⟨_, 0, rfl, by omega, g3.cell (i := 0) rfl, g3.cell (i := 1) rfl⟩
    · simp at hj
  · obtain rfl : row = [] := by simpa [exL] using hi.symm
    exact ⟨_, 0, _, _, rfl, by omega, r4.cell (i := 3) rfl, by decide, by decide, by decide, fun j e t hj => by simp at hj⟩
  · simp [exL] at hi

end Go.Proofs.Ytknfdpkfomlckaa

/- What the program's functions answer at the example. Plain. -/
namespace Go.Proofs.Ytknfdpkfomlckaa
open Go.RowKit

theorem ex_valid : validB exL = true := by decide
theorem ex0 : Esel exL true 0 = [1] := by rfl
theorem ex1 : Esel exL true 1 = [0] := by rfl
theorem ex2 : Esel exL true 2 = [] := by rfl
theorem ex3 : Esel exL true 3 = [] := by rfl
theorem ex_on0 : OnC (Esel exL true) 0 := ⟨1, by rw [ex0]; simp, .step (by rw [ex1]; simp) (.refl 0)⟩
theorem ex_on1 : OnC (Esel exL true) 1 := ⟨0, by rw [ex1]; simp, .step (by rw [ex0]; simp) (.refl 1)⟩
theorem ex_off2 : ¬ OnC (Esel exL true) 2 := fun ⟨t, ht, _⟩ => by rw [ex2] at ht; cases ht
theorem ex_off3 : ¬ OnC (Esel exL true) 3 := fun ⟨t, ht, _⟩ => by rw [ex3] at ht; cases ht
theorem ex_div0 : Div (Esel exL true) 0 := ⟨0, .refl 0, ex_on0⟩
theorem ex_div1 : Div (Esel exL true) 1 := ⟨1, .refl 1, ex_on1⟩
theorem ex_div2 : ¬ Div (Esel exL true) 2 := by
  rintro ⟨u, hp, ho⟩
  cases hp with
  | refl => exact ex_off2 ho
  | step e _ => rw [ex2] at e; cases e
theorem ex_div3 : ¬ Div (Esel exL true) 3 := by
  rintro ⟨u, hp, ho⟩
  cases hp with
  | refl => exact ex_off3 ho
  | step e _ => rw [ex3] at e; cases e
theorem ex_isDiv : IsDiv (Esel exL true) 4 [true, true, false, false] := ⟨rfl, fun v hv => by
  rcases v with _ | _ | _ | _ | v
  · simp [ex_div0]
  · simp [ex_div1]
  · simp [ex_div2]
  · simp [ex_div3]
  · omega⟩
theorem ex_dist : IsDist (Esel exL true) 4 (fun v => v < 4 ∧ OnC (Esel exL true) v) [0, 0, -1, -1] := by
  refine ⟨rfl, fun v hv h => ?_, fun v hv h => ?_, fun v d g hv h hg hp => ?_, fun v hv => ?_⟩
  · rcases v with _ | _ | _ | _ | v
    · exact absurd h (by decide)
    · exact absurd h (by decide)
    · exact ⟨rfl, fun d g hg hp => ex_div2 ⟨g, hp.path, hg.2⟩⟩
    · exact ⟨rfl, fun d g hg hp => ex_div3 ⟨g, hp.path, hg.2⟩⟩
    · omega
  · rcases v with _ | _ | _ | _ | v
    · exact ⟨0, 0, rfl, ⟨by omega, ex_on0⟩, .refl 0⟩
    · exact ⟨0, 1, rfl, ⟨by omega, ex_on1⟩, .refl 1⟩
    · exact absurd h (by decide)
    · exact absurd h (by decide)
    · omega
  · rcases v with _ | _ | _ | _ | v
    · exact Int.natCast_nonneg d
    · exact Int.natCast_nonneg d
    · exact absurd h (by decide)
    · exact absurd h (by decide)
    · omega
  · rcases v with _ | _ | _ | _ | v
    · decide
    · decide
    · decide
    · decide
    · omega
theorem ex_dist0 : IsDist (Esel exL true) 4 (fun v => v = 0) [0, 1, -1, -1] := by
  have h2 : ∀ d g, g = 0 → ¬ PathN (Esel exL true) d 2 g := by
    rintro d g rfl hp
    cases hp with
    | step e _ => rw [ex2] at e; cases e
  have h3 : ∀ d g, g = 0 → ¬ PathN (Esel exL true) d 3 g := by
    rintro d g rfl hp
    cases hp with
    | step e _ => rw [ex3] at e; cases e
  refine ⟨rfl, fun v hv h => ?_, fun v hv h => ?_, fun v d g hv h hg hp => ?_, fun v hv => ?_⟩
  · rcases v with _ | _ | _ | _ | v
    · exact absurd h (by decide)
    · exact absurd h (by decide)
    · exact ⟨rfl, h2⟩
    · exact ⟨rfl, h3⟩
    · omega
  · rcases v with _ | _ | _ | _ | v
    · exact ⟨0, 0, rfl, rfl, .refl 0⟩
    · exact ⟨1, 0, rfl, rfl, .step (by rw [ex1]; simp) (.refl 0)⟩
    · exact absurd h (by decide)
    · exact absurd h (by decide)
    · omega
  · rcases v with _ | _ | _ | _ | v
    · exact Int.natCast_nonneg d
    · subst hg
      cases hp with
      | step e _ => simp [Tj.ix]; omega
    · exact absurd h (by decide)
    · exact absurd h (by decide)
    · omega
  · rcases v with _ | _ | _ | _ | v
    · decide
    · decide
    · decide
    · decide
    · omega
theorem ex_las : IsLas (Esel exL true) 4 0 [0] [0, 1] := ⟨[0, 0, -1, -1], [0, 1, -1, -1], 0, 0, 1, 1, ex_dist, rfl, rfl, rfl, ex_dist0, by rw [ex0]; rfl, by rw [ex0]; rfl, by rw [ex0]; simp, rfl, rfl⟩

theorem div_ex {B : Nat} {w' : World} {e : Ending} (h : DivEnd B exL w' e) : ∃ g, e = .returned (.slice (some ⟨g, 0, none⟩) 4 4) ∧ w'.ownsRow B 4 1 (.slice (some ⟨g, 0, none⟩) 4 4) 4 [.bool true, .bool true, .bool false, .bool false] := by
  rw [DivEnd, if_pos ex_valid] at h
  obtain ⟨g, bs, he, hown, hd⟩ := h
  obtain rfl := hd.unique ex_isDiv
  exact ⟨g, he, hown⟩
theorem lasso_ex {B : Nat} {w' : World} {e : Ending} (h : LassoEnd B exL 0 w' e) : ∃ a1 c1 a2 c2, e = .returned (.tuple #[.slice a1 1 c1, .slice a2 2 c2, .bool true]) ∧ OwnI B w' a1 c1 [0] ∧ OwnI B w' a2 c2 [0, 1] := by
  obtain ⟨a1, c1, a2, c2, p, c, ok, he, h1, h2, h3⟩ := h
  cases ok with
  | false => exact absurd ⟨ex_valid, 0, rfl, by decide, ex_div0⟩ (h3.no rfl).2.2
  | true =>
    obtain ⟨_, k, hk, _, _, hl⟩ := h3.yes rfl
    obtain rfl : k = 0 := by omega
    obtain ⟨rfl, rfl⟩ := hl.unique ex_las
    exact ⟨a1, c1, a2, c2, he, h1, h2⟩
theorem ex_acc2 : accG exL 2 = ([1], true) := by decide
theorem ex_acc0 : accG exL 0 = ([], false) := by decide

end Go.Proofs.Ytknfdpkfomlckaa

/- The sanity check of the laws of chapter 24 answers true. -/
namespace Go.Proofs.Ytknfdpkfomlckaa
open Go.RowKit

theorem OwnI.frmO {B : Nat} {w w' : World} {a : Option Addr} {cap : Nat} {xs : List Int} (h : OwnI B w a cap xs) (hf : Frm [] w w') : OwnI B w' a cap xs := ownsB_frm h hf (by simp)

set_option linter.unusedSimpArgs false in
set_option maxRecDepth 100000 in
set_option maxHeartbeats 4000000 in
theorem sane_any (w : World) :
    Calls Try.prog 19 #[] w fun e w' => e = .returned (.bool true) ∧ Frm [] w w' := by
  go_enter Try.func19, Try.ntmps19
  go_wp2_with fail
  refine (example_any w).mono ?_
  rintro e1 w1 ⟨a, rfl, hla, hf1⟩
  have hbox := box1 w1 (.slice a 4 4) 25
  have HB := Lib.hid hbox
  have hf2 : Frm [] w1 (w1.alloc (.cells #[.slice a 4 4] 25)) := (Frm.refl [] w1).alloc _
  have HF2 := Lib.hid hf2
  have HL := Lib.hid hla
  have HF1 := Lib.hid hf1
  have hdv : Calls Try.prog 26 #[.agg #[.slice a 4 4]] (w1.alloc (.cells #[.slice a 4 4] 25)) _ := divergent_any w1.heap.size a 4 exL _ (hla.nil hf2 rfl)
  clear hbox hf2 hla hf1
  go_wp2_with fail
  refine hdv.mono ?_
  rintro e3 w3 ⟨h3, hf3⟩
  obtain ⟨g3, rfl, hown3⟩ := div_ex h3
  have hb3 := (HB.out.frm hf3 (by simp)).cell (i := 0) rfl
  have HF3 := Lib.hid (HF2.out.trans hf3 (by simp))
  have HFB3 := Lib.hid hf3
  have HOWN3 := Lib.hid hown3
  have hac : Calls Try.prog 30 #[.agg #[.slice a 4 4], .int .i64 2] w3 _ := gacc_any w1.heap.size a 4 exL 2 w3 (HL.out.nil HF3.out rfl)
  clear hdv h3 hf3 hown3
  go_wp2_with fail
  refine hac.mono ?_
  rintro e4 w4 ⟨a4, c4, rfl, h4, hf4⟩
  rw [ex_acc2] at h4 ⊢
  have hb4 := (HB.out.frm (HFB3.out.trans hf4 (by simp)) (by simp)).cell (i := 0) rfl
  have HFB4 := Lib.hid (HFB3.out.trans hf4 (by simp))
  have HF4 := Lib.hid (HF3.out.trans hf4 (by simp))
  have HF34 := Lib.hid hf4
  have H4 := Lib.hid h4
  have hac2 : Calls Try.prog 30 #[.agg #[.slice a 4 4], .int .i64 0] w4 _ := gacc_any w1.heap.size a 4 exL 0 w4 (HL.out.nil HF4.out rfl)
  clear hac hf4 h4 hb3
  simp only [List.length_cons, List.length_nil, Nat.zero_add]
  go_wp2_with fail
  refine hac2.mono ?_
  rintro e5 w5 ⟨a5, c5, rfl, -, hf5⟩
  rw [ex_acc0]
  have hb5 := (HB.out.frm (HFB4.out.trans hf5 (by simp)) (by simp)).cell (i := 0) rfl
  have HFB5 := Lib.hid (HFB4.out.trans hf5 (by simp))
  have HF5 := Lib.hid (HF4.out.trans hf5 (by simp))
  have HF45 := Lib.hid hf5
  have hls : Calls Try.prog 27 #[.agg #[.slice a 4 4], .int .i64 0] w5 _ := lasso_any w1.heap.size a 4 exL 0 w5 (HL.out.nil HF5.out rfl)
  clear hac2 hf5 hb4
  go_wp2_with fail
  refine hls.mono ?_
  rintro e6 w6 ⟨h6, hf6⟩
  obtain ⟨a6, c6, a7, c7, rfl, h7, h8⟩ := lasso_ex h6
  have HF6 := Lib.hid (HF5.out.trans hf6 (by simp))
  have HF36 := Lib.hid ((HF34.out.trans HF45.out (by simp)).trans hf6 (by simp))
  have HF46 := Lib.hid (HF45.out.trans hf6 (by simp))
  have H7 := Lib.hid h7
  have H8 := Lib.hid h8
  have hrow := own_rowg2 (own_frm_out HOWN3.out HF36.out (by simp))
  have k0 := hrow.cell (i := 0) rfl
  have k1 := hrow.cell (i := 1) rfl
  have k2 := hrow.cell (i := 2) rfl
  have k3 := hrow.cell (i := 3) rfl
  have hfz := HF6.out
  clear hls h6 hf6 h7 h8 hb5 hrow
  go_wp2_with fail
  have hf8 : Frm [] w6 (w6.alloc (.cells #[.int .i64 1] 3)) := (Frm.refl [] w6).alloc _
  have his8 : Calls Try.prog 15 #[.slice a4 1 c4, .slice (some ⟨w6.heap.size, 0, none⟩) 1 1] (w6.alloc (.cells #[.int .i64 1] 3)) _ := ints_same (w6.alloc (.cells #[.int .i64 1] 3)).heap.size a4 (some ⟨w6.heap.size, 0, none⟩) c4 1 [1] [1] _ (OwnI.rd (OwnI.frmO H4.out (HF46.out.trans hf8 (by simp))) (Nat.le_refl _)) (rd_of_owns (owns_made_full w6 3 1 (ints [1]) 1 rfl (by decide)) (Nat.le_refl _))
  refine his8.mono ?_
  rintro e8 w8 ⟨h8, hg8⟩
  rw [show decide (([1] : List Int) = [1]) = true by decide] at h8
  subst h8
  have F8 := hf8.trans hg8 (by simp)
  clear his8 hf8 hg8
  go_wp2_with fail
  have hf9 : Frm [] w8 (w8.alloc (.cells #[.int .i64 0] 3)) := (Frm.refl [] w8).alloc _
  have his9 : Calls Try.prog 15 #[.slice a6 1 c6, .slice (some ⟨w8.heap.size, 0, none⟩) 1 1] (w8.alloc (.cells #[.int .i64 0] 3)) _ := ints_same (w8.alloc (.cells #[.int .i64 0] 3)).heap.size a6 (some ⟨w8.heap.size, 0, none⟩) c6 1 [0] [0] _ (OwnI.rd (OwnI.frmO H7.out (F8.trans hf9 (by simp))) (Nat.le_refl _)) (rd_of_owns (owns_made_full w8 3 1 (ints [0]) 1 rfl (by decide)) (Nat.le_refl _))
  refine his9.mono ?_
  rintro e9 w9 ⟨h9, hg9⟩
  rw [show decide (([0] : List Int) = [0]) = true by decide] at h9
  subst h9
  have F9 := hf9.trans hg9 (by simp)
  clear his9 hf9 hg9
  go_wp2_with fail
  have hf10 : Frm [] w9 (w9.alloc (.cells #[.int .i64 0, .int .i64 1] 3)) := (Frm.refl [] w9).alloc _
  have his10 : Calls Try.prog 15 #[.slice a7 2 c7, .slice (some ⟨w9.heap.size, 0, none⟩) 2 2] (w9.alloc (.cells #[.int .i64 0, .int .i64 1] 3)) _ := ints_same (w9.alloc (.cells #[.int .i64 0, .int .i64 1] 3)).heap.size a7 (some ⟨w9.heap.size, 0, none⟩) c7 2 [0, 1] [0, 1] _ (OwnI.rd (OwnI.frmO H8.out ((F8.trans F9 (by simp)).trans hf10 (by simp))) (Nat.le_refl _)) (rd_of_owns (owns_made_full w9 3 1 (ints [0, 1]) 2 rfl (by decide)) (Nat.le_refl _))
  refine his10.mono ?_
  rintro e10 w10 ⟨h10, hg10⟩
  rw [show decide (([0, 1] : List Int) = [0, 1]) = true by decide] at h10
  subst h10
  have F10 := hf10.trans hg10 (by simp)
  clear his10 hf10 hg10
  go_wp2_with fail
  go_ret
  exact ⟨rfl, (((HF1.out.trans HF6.out (by simp)).trans F8 (by simp)).trans F9 (by simp)).trans F10 (by simp)⟩

end Go.Proofs.Ytknfdpkfomlckaa
