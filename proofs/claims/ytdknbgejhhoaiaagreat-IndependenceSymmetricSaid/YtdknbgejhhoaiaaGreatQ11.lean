/- Plain: a state in norm, asked in two rounds. No program. -/
import Derived.Test.YtdknbgejhhoaiaaGreatQ04
namespace Go.Proofs.YtdknbgejhhoaiaaGreat.Ind
open Go.RowKit

instance (a b : RA) : Decidable (PairP a b) := by unfold PairP; infer_instance
instance (row : List RA) : Decidable (NormP row) := by unfold NormP; infer_instance
def KindOk (a : RA) : Prop := a.kind ≠ 1 ∧ a.kind ≠ 6 ∧ a.kind ≠ 7
def OutOk (row : List RA) (a : RA) : Prop := a.kind = 5 → ∀ b ∈ row, b.kind = 4 → b.ch = a.ch → a.reg ∈ b.not
def N1 (row : List RA) : Prop := (∀ a ∈ row, KindOk a) ∧ row.Pairwise fun a b => ¬(a.kind = b.kind ∧ a.ch = b.ch)
theorem n1_snoc {row : List RA} {a : RA} : N1 (row ++ [a]) ↔ N1 row ∧ KindOk a ∧ ∀ b ∈ row, ¬(b.kind = a.kind ∧ b.ch = a.ch) := by
  simp only [N1, List.mem_append, List.mem_singleton, List.pairwise_append]
  constructor
  · rintro ⟨h1, h2, _, h3⟩
    exact ⟨⟨fun x hx => h1 x (.inl hx), h2⟩, h1 a (.inr rfl), fun b hb => h3 b hb a rfl⟩
  · rintro ⟨⟨h1, h2⟩, h3, h4⟩
    refine ⟨fun x hx => ?_, h2, by simp, fun b hb x hx => ?_⟩
    · rcases hx with hx | rfl
      · exact h1 x hx
      · exact h3
    · rw [hx]; exact h4 b hb
theorem pair_all {row : List RA} (h : row.Pairwise PairP) : ∀ a ∈ row, ∀ b ∈ row, a.kind = 5 → b.kind = 4 → b.ch = a.ch → a.reg ∈ b.not := by
  induction row with
  | nil => intro a ha; cases ha
  | cons x r ih =>
    rw [List.pairwise_cons] at h
    intro a ha b hb h1 h2 h3
    rcases List.mem_cons.1 ha with e1 | ha
    · rcases List.mem_cons.1 hb with e2 | hb
      · exfalso; rw [e1] at h1; rw [e2] at h2; omega
      · rw [e1] at h1 h3 ⊢
        exact (h.1 b hb).2.2 h1 h2 h3.symm
    · rcases List.mem_cons.1 hb with e2 | hb
      · rw [e2] at h2 h3 ⊢
        exact (h.1 a ha).2.1 h2 h1 h3
      · exact ih h.2 a ha b hb h1 h2 h3
theorem norm_two {row : List RA} : NormP row ↔ N1 row ∧ ∀ a ∈ row, OutOk row a := by
  constructor
  · rintro ⟨h1, h2⟩
    exact ⟨⟨h1, h2.imp fun h => h.1⟩, fun a ha h5 b hb h4 hc => pair_all h2 a ha b hb h5 h4 hc⟩
  · rintro ⟨⟨h1, h2⟩, h3⟩
    refine ⟨h1, h2.imp_of_mem fun {a b} ha hb h => ⟨h, fun h4 h5 hc => h3 b hb h5 a ha h4 hc, fun h5 h4 hc => h3 a ha h5 b hb h4 hc.symm⟩⟩
theorem n1_pre {row : List RA} {k : Nat} (h : N1 row) : N1 (row.take k) :=
  ⟨fun a ha => h.1 a (List.mem_of_mem_take ha), h.2.sublist (List.take_sublist _ _)⟩
theorem n1_key {row : List RA} (h : N1 row) {a b : RA} (ha : a ∈ row) (hb : b ∈ row) (h1 : a.kind = b.kind) (h2 : a.ch = b.ch) : a = b := by
  have h3 := h.2
  clear h
  induction row with
  | nil => cases ha
  | cons x r ih =>
    rw [List.pairwise_cons] at h3
    rcases List.mem_cons.1 ha with e1 | ha
    · rcases List.mem_cons.1 hb with e2 | hb
      · rw [e1, e2]
      · exact absurd ⟨by rw [← e1]; exact h1, by rw [← e1]; exact h2⟩ (h3.1 b hb)
    · rcases List.mem_cons.1 hb with e2 | hb
      · exact absurd ⟨by rw [← e2]; exact h1.symm, by rw [← e2]; exact h2.symm⟩ (h3.1 a ha)
      · exact ih ha hb h3.2
/-- Entries: arcs under their kind and channel. -/
def keyA (a : RA) : Int × Int := (a.kind, a.ch)

end Go.Proofs.YtdknbgejhhoaiaaGreat.Ind
