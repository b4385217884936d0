/- Plain: machines in norm, as the program and as the reference ask it. No program. -/
import Derived.Test.YtfndgiinniibfaaI1
namespace Go.Proofs.Ytfndgiinniibfaa.Ind
open Go.RowKit

/-- Two arcs may stand side by side. -/
def PairP (a b : RA) : Prop := ¬(a.kind = b.kind ∧ a.ch = b.ch) ∧ (a.kind = 4 → b.kind = 5 → a.ch = b.ch → b.reg ∈ a.not) ∧ (a.kind = 5 → b.kind = 4 → a.ch = b.ch → a.reg ∈ b.not)
theorem PairP.symm {a b : RA} (h : PairP a b) : PairP b a :=
  ⟨fun ⟨h1, h2⟩ => h.1 ⟨h1.symm, h2.symm⟩, fun h1 h2 h3 => h.2.2 h2 h1 h3.symm, fun h1 h2 h3 => h.2.1 h2 h1 h3.symm⟩
/-- A state is in norm. -/
def NormP (row : List RA) : Prop := (∀ a ∈ row, a.kind ≠ 1 ∧ a.kind ≠ 6 ∧ a.kind ≠ 7) ∧ row.Pairwise PairP
/-- As the reference compares two arcs, the first of which is no output before an input. -/
def pair1 (a b : RA) : Bool := if a.kind = 4 ∧ b.kind = 5 ∧ a.ch = b.ch then decide (b.reg ∈ a.not) else !(a.kind == b.kind) || (!(a.kind == 2) && !(a.ch == b.ch))
def pair2 (a b : RA) : Bool := if a.kind = 5 ∧ b.kind = 4 then pair1 b a else pair1 a b
def TickOk (a : RA) : Prop := a.kind = 2 → a.ch = 0
theorem pair1_iff {a b : RA} (ha : TickOk a) (hb : TickOk b) (h : ¬(a.kind = 5 ∧ b.kind = 4)) : pair1 a b = true ↔ PairP a b := by
  unfold pair1 PairP TickOk at *
  by_cases hc : a.kind = 4 ∧ b.kind = 5 ∧ a.ch = b.ch
  · rw [if_pos hc, decide_eq_true_eq]
    obtain ⟨h1, h2, h3⟩ := hc
    constructor
    · intro hm
      exact ⟨fun hk => by omega, fun _ _ _ => hm, fun h5 => by omega⟩
    · intro hp
      exact hp.2.1 h1 h2 h3
  · rw [if_neg hc]
    simp only [Bool.or_eq_true, Bool.and_eq_true, Bool.not_eq_true', beq_eq_false_iff_ne, ne_eq]
    constructor
    · intro hk
      refine ⟨fun ⟨h1, h2⟩ => ?_, fun h1 h2 h3 => absurd ⟨h1, h2, h3⟩ hc, fun h1 h2 => absurd ⟨h1, h2⟩ h⟩
      rcases hk with hk | ⟨_, hk⟩
      · exact hk h1
      · exact hk h2
    · intro hp
      by_cases hk : a.kind = b.kind
      · right
        refine ⟨fun h2 => hp.1 ⟨hk, ?_⟩, fun h2 => hp.1 ⟨hk, h2⟩⟩
        rw [ha h2, hb (hk ▸ h2)]
      · exact .inl hk
theorem pair2_iff {a b : RA} (ha : TickOk a) (hb : TickOk b) : pair2 a b = true ↔ PairP a b := by
  unfold pair2
  split
  · rename_i h
    rw [pair1_iff hb ha (by omega)]
    exact ⟨PairP.symm, PairP.symm⟩
  · rename_i h
    exact pair1_iff ha hb h
theorem tick_of_arc {m : RM} {a : RA} (h : arcB m a = true) : TickOk a := fun hk => by
  simp only [arcB, Bool.and_eq_true, restB] at h
  rw [if_pos (Or.inr hk)] at h
  have h2 := h.2
  simp only [Bool.and_eq_true, Bool.false_or, beq_iff_eq] at h2
  exact h2.1.1.1
theorem norm_snoc {row : List RA} {a : RA} : NormP (row ++ [a]) ↔ NormP row ∧ (a.kind ≠ 1 ∧ a.kind ≠ 6 ∧ a.kind ≠ 7) ∧ ∀ b ∈ row, PairP b a := by
  simp only [NormP, List.mem_append, List.mem_singleton, List.pairwise_append]
  constructor
  · rintro ⟨h1, h2, _, h3⟩
    exact ⟨⟨fun x hx => h1 x (.inl hx), h2⟩, h1 a (.inr rfl), fun b hb => h3 b hb a rfl⟩
  · rintro ⟨⟨h1, h2⟩, h3, h4⟩
    refine ⟨fun x hx => ?_, h2, by simp, fun b hb x hx => ?_⟩
    · rcases hx with hx | rfl
      · exact h1 x hx
      · exact h3
    · rw [hx]; exact h4 b hb
/-- A machine is in norm. -/
def NormM (m : RM) : Prop := validM m = true ∧ ∀ row ∈ m.states, NormP row

end Go.Proofs.Ytfndgiinniibfaa.Ind
