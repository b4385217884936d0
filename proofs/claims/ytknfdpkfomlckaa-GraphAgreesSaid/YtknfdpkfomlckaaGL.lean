/- Plain laws: events, stability and acceptance of the program and of the reference agree. -/
import Derived.Test.YtknfdpkfomlckaaGK
namespace Go.Proofs.Ytknfdpkfomlckaa
open Go.RowKit

theorem addI_nil (x : Int) : addI [] x = [x] := by simp [addI, addAt]
theorem addI_cons (a : Int) (r : List Int) (x : Int) : addI (a :: r) x = if a < x then a :: addI r x else if a = x then a :: r else x :: a :: r := by
  unfold addI addAt
  by_cases h : a < x
  · simp only [List.takeWhile_cons, h, decide_true, if_true, List.length_cons, List.getElem?_cons_succ, List.take_succ_cons, List.drop_succ_cons, List.cons_append]
    split <;> rfl
  · simp [h]
theorem mem_addI (r : List Int) (x y : Int) : y ∈ addI r x ↔ y = x ∨ y ∈ r := by
  induction r with
  | nil => rw [addI_nil]; simp
  | cons a s ih =>
    rw [addI_cons]
    split
    · rw [List.mem_cons, ih, List.mem_cons]
      constructor
      · rintro (h | h | h)
        · exact .inr (.inl h)
        · exact .inl h
        · exact .inr (.inr h)
      · rintro (h | h | h)
        · exact .inr (.inl h)
        · exact .inl h
        · exact .inr (.inr h)
    · split
      · rename_i h
        subst h
        rw [List.mem_cons]
        constructor
        · exact .inr
        · rintro (h | h)
          · exact .inl h
          · exact h
      · rw [List.mem_cons]
theorem addI_last : ∀ (acc : List Int) (e : Int), acc.Pairwise (· < ·) → (∀ x ∈ acc, x ≤ e) → addI acc e = if acc.getLast? = some e then acc else acc ++ [e]
  | [], e, _, _ => by rw [addI_nil]; rfl
  | [a], e, _, h => by
    rw [addI_cons, addI_nil]
    have := h a (by simp)
    by_cases h1 : a < e
    · have h2 : ¬ a = e := by omega
      simp [h1, h2]
    · have h2 : a = e := by omega
      simp [h2]
  | a :: b :: s, e, hp, h => by
    have h1 : a < b := (List.pairwise_cons.1 hp).1 b (by simp)
    have h2 : b ≤ e := h b (by simp)
    rw [addI_cons, if_pos (by omega), addI_last (b :: s) e (List.pairwise_cons.1 hp).2 (fun x hx => h x (by simp [hx])), List.getLast?_cons_cons]
    split <;> simp

theorem ascB_le : ∀ (row : List Arc), ascB row = true → row.Pairwise (fun a b => a.1 ≤ b.1)
  | [], _ => List.Pairwise.nil
  | [a], _ => by simp
  | a :: b :: r, h => by
    simp only [ascB, Bool.and_eq_true] at h
    have ih := ascB_le (b :: r) h.2
    have hab : a.1 ≤ b.1 := by
      have := h.1
      simp only [ltA, Bool.or_eq_true, Bool.and_eq_true, decide_eq_true_eq] at this
      omega
    refine List.pairwise_cons.2 ⟨fun x hx => ?_, ih⟩
    rcases List.mem_cons.1 hx with rfl | hx
    · exact hab
    · exact Int.le_trans hab ((List.pairwise_cons.1 ih).1 x hx)

theorem initP_eq : ∀ (row : List Arc) (acc : List Int), acc.Pairwise (· < ·) → (∀ x ∈ acc, ∀ a ∈ row, x ≤ a.1) → row.Pairwise (fun a b => a.1 ≤ b.1) → initP acc row = row.foldl (fun acc a => addI acc a.1) acc
  | [], acc, _, _, _ => rfl
  | a :: r, acc, h1, h2, h3 => by
    have h4 := addI_last acc a.1 h1 (fun x hx => h2 x hx a (by simp))
    rw [initP, List.foldl_cons]
    have h5 := List.pairwise_cons.1 h3
    by_cases hl : acc.getLast? = some a.1
    · rw [if_pos hl] at h4 ⊢
      rw [h4]
      exact initP_eq r acc h1 (fun x hx b hb => h2 x hx b (by simp [hb])) h5.2
    · rw [if_neg hl] at h4 ⊢
      rw [h4]
      refine initP_eq r (acc ++ [a.1]) ?_ (fun x hx b hb => ?_) h5.2
      · rw [List.pairwise_append]
        refine ⟨h1, by simp, fun x hx y hy => ?_⟩
        rw [List.mem_singleton] at hy
        subst hy
        have h6 := h2 x hx a (by simp)
        have h7 : x ≠ a.1 := by
          rintro rfl
          apply hl
          obtain ⟨pre, suf, rfl⟩ := List.append_of_mem hx
          have h8 : suf = [] := by
            cases suf with
            | nil => rfl
            | cons z s =>
              have h9 : a.1 < z := by
                have := (List.pairwise_append.1 h1).2.1
                exact (List.pairwise_cons.1 this).1 z (by simp)
              have := h2 z (by simp) a (by simp)
              omega
          subst h8
          simp
        omega
      · rcases List.mem_append.1 hx with hx | hx
        · exact h2 x hx b (by simp [hb])
        · rw [List.mem_singleton] at hx
          subst hx
          exact h5.1 b hb

theorem evs_eq {row : List Arc} (h : ascB row = true) : evs row = refEvs row := initP_eq row [] List.Pairwise.nil (by simp) (ascB_le row h)

theorem mem_foldl_add : ∀ (row : List Arc) (acc : List Int) (x : Int), x ∈ row.foldl (fun acc a => addI acc a.1) acc ↔ x ∈ acc ∨ ∃ a ∈ row, a.1 = x
  | [], acc, x => by simp
  | a :: r, acc, x => by
    rw [List.foldl_cons, mem_foldl_add r, mem_addI]
    constructor
    · rintro ((h | h) | ⟨b, hb, h⟩)
      · exact .inr ⟨a, by simp, h.symm⟩
      · exact .inl h
      · exact .inr ⟨b, by simp [hb], h⟩
    · rintro (h | ⟨b, hb, h⟩)
      · exact .inl (.inr h)
      · rcases List.mem_cons.1 hb with rfl | hb
        · exact .inl (.inl h.symm)
        · exact .inr ⟨b, hb, h⟩
theorem hasB_iff (xs : List Int) (x : Int) : hasB xs x = true ↔ x ∈ xs := by
  simp [hasB]
theorem has_refEvs (row : List Arc) (x : Int) : hasB (refEvs row) x = true ↔ ∃ a ∈ row, a.1 = x := by
  rw [hasB_iff, refEvs, mem_foldl_add]
  simp
theorem stable_eq {n : Nat} {row : List Arc} (h : VRow n row) : hasB (refEvs row) 0 = !stableR row := by
  rw [Bool.eq_iff_iff, has_refEvs]
  cases row with
  | nil => simp [stableR]
  | cons a r =>
    simp only [stableR, Bool.not_eq_true', decide_eq_false_iff_not, Decidable.not_not]
    constructor
    · rintro ⟨b, hb, h0⟩
      rcases List.mem_cons.1 hb with rfl | hb
      · exact h0
      · have h1 := (List.pairwise_cons.1 (ascB_le _ h.asc)).1 b hb
        have h2 := (h.ok a.1 a.2 (by simp)).1
        omega
    · intro h0
      exact ⟨a, by simp, h0⟩
theorem tick_eq (row : List Arc) : hasB (refEvs row) 1 = anyA isTick row := by
  rw [Bool.eq_iff_iff, has_refEvs]
  simp only [anyA, List.any_eq_true, isTick, decide_eq_true_eq]

theorem initG_eq (l : Lts) (s : Int) : initG l s = rinitG l s := by
  unfold initG rinitG
  split
  · rename_i h
    obtain ⟨n, row, rfl, hrow, hget⟩ := inB_row h.2
    rw [hget]
    exact evs_eq ((vlts_of h.1).row row (List.mem_of_getElem? hrow)).asc
  · rfl
theorem stableG_eq (l : Lts) (s : Int) : stableG l s = rstableG l s := by
  unfold stableG rstableG
  cases hv : validB l with
  | false => rfl
  | true =>
    cases hb : inB l.length s with
    | false => rfl
    | true =>
      obtain ⟨n, row, rfl, hrow, hget⟩ := inB_row hb
      have hr := (vlts_of hv).row row (List.mem_of_getElem? hrow)
      rw [rinitG, if_pos ⟨hv, hb⟩, hget, stable_eq hr]
      first | done | simp
theorem accG_eq (l : Lts) (s : Int) : accG l s = raccG l s := by
  unfold accG raccG
  split
  · rename_i h
    obtain ⟨n, row, rfl, hrow, hget⟩ := inB_row h.2
    have hr := (vlts_of h.1).row row (List.mem_of_getElem? hrow)
    rw [← stableG_eq, stableG, h.1, h.2, rinitG, if_pos h, hget, accF, tick_eq, evs_eq hr.asc]
    rfl
  · rename_i h
    have h1 : rinitG l s = [] := by rw [rinitG, if_neg h]
    have h2 : rstableG l s = false := by
      rw [← stableG_eq, stableG]
      cases hv : validB l with
      | false => rfl
      | true =>
        cases hb : inB l.length s with
        | false => rfl
        | true => exact absurd ⟨hv, hb⟩ h
    rw [h1, h2]
    rfl

end Go.Proofs.Ytknfdpkfomlckaa
