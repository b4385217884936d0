/- Plain: what is asked of the list of registers, said in two ways; arcs that may stand side by side. No program. -/
import Derived.Test.YtfndgiinniibfaaI0
namespace Go.Proofs.Ytfndgiinniibfaa.Ind
open Go.RowKit

theorem ascB_cons {a : Int} : ∀ {l : List Int}, ascB (a :: l) = true → ∀ x ∈ l, a < x
  | [], _, x, hx => by cases hx
  | b :: r, h, x, hx => by
    rw [ascB, Bool.and_eq_true, decide_eq_true_eq] at h
    rcases List.mem_cons.1 hx with rfl | hx
    · exact h.1
    · have := ascB_cons h.2 x hx
      omega
theorem ascB_tail {a : Int} {l : List Int} (h : ascB (a :: l) = true) : ascB l = true := by
  cases l with
  | nil => rfl
  | cons b r => rw [ascB, Bool.and_eq_true] at h; exact h.2
theorem ascB_last : ∀ {l : List Int} {z : Int}, ascB l = true → l.getLast? = some z → ∀ x ∈ l, x ≤ z
  | [], z, _, h, x, hx => by cases hx
  | [a], z, _, h, x, hx => by
    simp at h hx
    omega
  | a :: b :: r, z, h, hz, x, hx => by
    rw [List.getLast?_cons_cons] at hz
    have ih := ascB_last (ascB_tail h) hz
    rcases List.mem_cons.1 hx with rfl | hx
    · have := ascB_cons h b List.mem_cons_self
      have := ih b List.mem_cons_self
      omega
    · exact ih x hx
/-- The reference asks the ends alone. -/
theorem notB_ends (regs : Int) (l : List Int) : notB regs l = (ascB l && (match l.head?, l.getLast? with | some a, some z => decide (0 ≤ a) && decide (z < regs) | _, _ => true)) := by
  rw [notB, Bool.and_comm]
  cases h : ascB l with
  | false => rfl
  | true =>
    simp only [Bool.true_and]
    cases l with
    | nil => rfl
    | cons a r =>
      obtain ⟨z, hz⟩ : ∃ z, (a :: r).getLast? = some z := ⟨_, List.getLast?_eq_some_getLast (by simp)⟩
      rw [hz]
      simp only [List.head?_cons]
      rw [Bool.eq_iff_iff]
      constructor
      · intro h1
        rw [List.all_eq_true] at h1
        have ha := h1 a List.mem_cons_self
        have hzz := h1 z (List.mem_of_getLast? hz)
        simp [belowB] at ha hzz ⊢
        exact ⟨ha.1, hzz.2⟩
      · intro h1
        simp at h1
        rw [List.all_eq_true]
        intro x hx
        have hl := ascB_last h hz x hx
        have hf : a ≤ x := by
          rcases List.mem_cons.1 hx with rfl | hx
          · exact Int.le_refl _
          · exact Int.le_of_lt (ascB_cons h x hx)
        simp [belowB]
        omega

end Go.Proofs.Ytfndgiinniibfaa.Ind
