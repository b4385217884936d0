/- What the program's functions answer at the example. Plain. -/
import Derived.Test.YtknfdpkfomlckaaZ1
namespace Go.Proofs.Ytknfdpkfomlckaa
open Go.RowKit

theorem ex_valid : validB exL = true := by decide
theorem ex0 : Esel exL true 0 = [1] := by rfl
theorem ex1 : Esel exL true 1 = [0] := by rfl
theorem ex2 : Esel exL true 2 = [] := by rfl
theorem ex3 : Esel exL true 3 = [] := by rfl
theorem ex_on0 : OnC (Esel exL true) 0 := ⟨1, by rw [ex0]; simp, .step (by rw [ex1]; simp) (.refl 0)⟩
theorem ex_on1 : OnC (Esel exL true) 1 := ⟨0, by rw [ex1]; simp, .step (by rw [ex0]; simp) (.refl 1)⟩
theorem ex_off2 : ¬ OnC (Esel exL true) 2 := fun ⟨t, ht, _⟩ => by rw [ex2] at ht; cases ht
theorem ex_off3 : ¬ OnC (Esel exL true) 3 := fun ⟨t, ht, _⟩ => by rw [ex3] at ht; cases ht
theorem ex_div0 : Div (Esel exL true) 0 := ⟨0, .refl 0, ex_on0⟩
theorem ex_div1 : Div (Esel exL true) 1 := ⟨1, .refl 1, ex_on1⟩
theorem ex_div2 : ¬ Div (Esel exL true) 2 := by
  rintro ⟨u, hp, ho⟩
  cases hp with
  | refl => exact ex_off2 ho
  | step e _ => rw [ex2] at e; cases e
theorem ex_div3 : ¬ Div (Esel exL true) 3 := by
  rintro ⟨u, hp, ho⟩
  cases hp with
  | refl => exact ex_off3 ho
  | step e _ => rw [ex3] at e; cases e
theorem ex_isDiv : IsDiv (Esel exL true) 4 [true, true, false, false] := ⟨rfl, fun v hv => by
  rcases v with _ | _ | _ | _ | v
  · simp [ex_div0]
  · simp [ex_div1]
  · simp [ex_div2]
  · simp [ex_div3]
  · omega⟩
theorem ex_dist : IsDist (Esel exL true) 4 (fun v => v < 4 ∧ OnC (Esel exL true) v) [0, 0, -1, -1] := by
  refine ⟨rfl, fun v hv h => ?_, fun v hv h => ?_, fun v d g hv h hg hp => ?_, fun v hv => ?_⟩
  · rcases v with _ | _ | _ | _ | v
    · exact absurd h (by decide)
    · exact absurd h (by decide)
    · exact ⟨rfl, fun d g hg hp => ex_div2 ⟨g, hp.path, hg.2⟩⟩
    · exact ⟨rfl, fun d g hg hp => ex_div3 ⟨g, hp.path, hg.2⟩⟩
    · omega
  · rcases v with _ | _ | _ | _ | v
    · exact ⟨0, 0, rfl, ⟨by omega, ex_on0⟩, .refl 0⟩
    · exact ⟨0, 1, rfl, ⟨by omega, ex_on1⟩, .refl 1⟩
    · exact absurd h (by decide)
    · exact absurd h (by decide)
    · omega
  · rcases v with _ | _ | _ | _ | v
    · exact Int.natCast_nonneg d
    · exact Int.natCast_nonneg d
    · exact absurd h (by decide)
    · exact absurd h (by decide)
    · omega
  · rcases v with _ | _ | _ | _ | v
    · decide
    · decide
    · decide
    · decide
    · omega
theorem ex_dist0 : IsDist (Esel exL true) 4 (fun v => v = 0) [0, 1, -1, -1] := by
  have h2 : ∀ d g, g = 0 → ¬ PathN (Esel exL true) d 2 g := by
    rintro d g rfl hp
    cases hp with
    | step e _ => rw [ex2] at e; cases e
  have h3 : ∀ d g, g = 0 → ¬ PathN (Esel exL true) d 3 g := by
    rintro d g rfl hp
    cases hp with
    | step e _ => rw [ex3] at e; cases e
  refine ⟨rfl, fun v hv h => ?_, fun v hv h => ?_, fun v d g hv h hg hp => ?_, fun v hv => ?_⟩
  · rcases v with _ | _ | _ | _ | v
    · exact absurd h (by decide)
    · exact absurd h (by decide)
    · exact ⟨rfl, h2⟩
    · exact ⟨rfl, h3⟩
    · omega
  · rcases v with _ | _ | _ | _ | v
    · exact ⟨0, 0, rfl, rfl, .refl 0⟩
    · exact ⟨1, 0, rfl, rfl, .step (by rw [ex1]; simp) (.refl 0)⟩
    · exact absurd h (by decide)
    · exact absurd h (by decide)
    · omega
  · rcases v with _ | _ | _ | _ | v
    · exact Int.natCast_nonneg d
    · subst hg
      cases hp with
      | step e _ => simp [Tj.ix]; omega
    · exact absurd h (by decide)
    · exact absurd h (by decide)
    · omega
  · rcases v with _ | _ | _ | _ | v
    · decide
    · decide
    · decide
    · decide
    · omega
theorem ex_las : IsLas (Esel exL true) 4 0 [0] [0, 1] := ⟨[0, 0, -1, -1], [0, 1, -1, -1], 0, 0, 1, 1, ex_dist, rfl, rfl, rfl, ex_dist0, by rw [ex0]; rfl, by rw [ex0]; rfl, by rw [ex0]; simp, rfl, rfl⟩

theorem div_ex {B : Nat} {w' : World} {e : Ending} (h : DivEnd B exL w' e) : ∃ g, e = .returned (.slice (some ⟨g, 0, none⟩) 4 4) ∧ w'.ownsRow B 4 1 (.slice (some ⟨g, 0, none⟩) 4 4) 4 [.bool true, .bool true, .bool false, .bool false] := by
  rw [DivEnd, if_pos ex_valid] at h
  obtain ⟨g, bs, he, hown, hd⟩ := h
  obtain rfl := hd.unique ex_isDiv
  exact ⟨g, he, hown⟩
theorem lasso_ex {B : Nat} {w' : World} {e : Ending} (h : LassoEnd B exL 0 w' e) : ∃ a1 c1 a2 c2, e = .returned (.tuple #[.slice a1 1 c1, .slice a2 2 c2, .bool true]) ∧ OwnI B w' a1 c1 [0] ∧ OwnI B w' a2 c2 [0, 1] := by
  obtain ⟨a1, c1, a2, c2, p, c, ok, he, h1, h2, h3⟩ := h
  cases ok with
  | false => exact absurd ⟨ex_valid, 0, rfl, by decide, ex_div0⟩ (h3.no rfl).2.2
  | true =>
    obtain ⟨_, k, hk, _, _, hl⟩ := h3.yes rfl
    obtain rfl : k = 0 := by omega
    obtain ⟨rfl, rfl⟩ := hl.unique ex_las
    exact ⟨a1, c1, a2, c2, he, h1, h2⟩
theorem ex_acc2 : accG exL 2 = ([1], true) := by decide
theorem ex_acc0 : accG exL 0 = ([], false) := by decide

end Go.Proofs.Ytknfdpkfomlckaa
